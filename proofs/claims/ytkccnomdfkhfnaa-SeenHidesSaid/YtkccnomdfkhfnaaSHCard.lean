/- The law SeenHides holds, whatever the input: the answer is true, the arguments read as they did. No condition. -/
import Derived.Test.YtkccnomdfkhfnaaRows
import Derived.WalkKit
import Derived.ProofKit
import Derived.OpenShut
import Derived.Carry
import Derived.JoinedCond
import Derived.Deep.DeepHandedRow
import Derived.Lib.LaidTab
import Derived.Test.YtkccnomdfkhfnaaEvOpen
import Derived.Test.YtkccnomdfkhfnaaSHQ
set_option linter.unusedSimpArgs false
set_option linter.unusedVariables false
namespace Go.Proofs.Ytkccnomdfkhfnaa.seenHides
open Go.ChangeShapes Go.WideShapes Go.ChangeAt Go.RowKit Go.Proofs.Ytkccnomdfkhfnaa Go.Proofs.Ytkccnomdfkhfnaa.Ev
set_option maxRecDepth 100000

theorem own : ownKnob Try.prog.godebug = none := by kernel_rfl
theorem laidOut : laidOutB Try.prog = true := by kernel_rfl
theorem read33 : Try.prog.readableRec 33 = true := by kernel_rfl
theorem row33 : 33 < Try.prog.types.size := of_decide_eq_true (by kernel_rfl)
theorem read49 : Try.prog.readableRec 49 = true := by kernel_rfl
theorem row49 : 49 < Try.prog.types.size := of_decide_eq_true (by kernel_rfl)

/-! ## what the bound gives -/
theorem part_le {H : Type} {d : DataW H} {l : List (DataW H)} (h : d ∈ l) : Rows.uptoBulk d ≤ Rows.uptoBulkAll l := by
  induction l with
  | nil => cases h
  | cons x r ih =>
    simp only [Rows.uptoBulkAll]
    rcases List.mem_cons.1 h with e | e
    · subst e; omega
    · have := ih e; omega
theorem one_le {H : Type} (d : DataW H) : 1 ≤ Rows.uptoBulk d := by
  cases d with
  | lit l => cases l <;> simp [Rows.uptoBulk]
  | nil => simp [Rows.uptoBulk]
  | ptr d => simp [Rows.uptoBulk]
  | slice elems spare => simp [Rows.uptoBulk]
  | agg parts => simp [Rows.uptoBulk]
  | iface t d => simp [Rows.uptoBulk]
  | map entries => simp [Rows.uptoBulk]
  | held h => simp [Rows.uptoBulk]
theorem length_le {H : Type} (l : List (DataW H)) : l.length ≤ Rows.uptoBulkAll l := by
  induction l with
  | nil => simp [Rows.uptoBulkAll]
  | cons x r ih => have := one_le x; simp only [Rows.uptoBulkAll, List.length_cons]; omega
theorem bulkOk {H : Type} : BulkOk (H := H) Rows.uptoBulk where
  str b := by simp only [Rows.uptoBulk]; omega
  len el sp := by have := length_le el; have := length_le sp; simp only [Rows.uptoBulk]; omega
  elem el sp d h := by have := part_le h; simp only [Rows.uptoBulk]; omega
  part ps d h := by have := part_le h; simp only [Rows.uptoBulk]; omega
/-! ## the call -/
theorem inR_of {n : Int} (h : (Lit.int .i64 n).wf = true) : InR .i64 n := by
  simp only [Lit.wf, Bool.and_eq_true, decide_eq_true_eq] at h
  have e1 : IntKind.i64.min = -9223372036854775808 := by decide
  have e2 : IntKind.i64.max = 9223372036854775807 := by decide
  rw [e1, e2] at h
  exact wrp_id (by omega) (by omega)
abbrev RI : LT := .row (.one (.int .i64))
abbrev RB : LT := .row (.one .bool)
theorem ls33 : ∃ ls, shL 40 Try.prog 33 = some ls ∧ ofLs ls = some (.one RI) := ⟨[RI], by kernel_rfl, rfl⟩
theorem ls49 : ∃ ls, shL 40 Try.prog 49 = some ls ∧ ofLs ls = some (.one RB) := ⟨[RB], by kernel_rfl, rfl⟩
theorem one_of {fz : Fz} {l : LT} {x : ET.T (.one l)} {v : Value} (h : decE fz (.one l) x ⟨[v]⟩ 0) : decL fz l x v := by
  simp only [decE] at h
  obtain ⟨u, h1, h2⟩ := h
  have : v = u := by simpa using h1
  subst this; exact h2
theorem calls {W : World} {ways : List Int} {dirs : List Bool} {v0 v2 : Value} {at_ frm : Int} (h0 : decL (fzW W) RI ways v0) (h2 : decL (fzW W) RB dirs v2) (ha : InR .i64 at_) (hf : InR .i64 frm) :
    Calls Try.prog 4 ⟨[v0, .int .i64 at_, v2, .int .i64 frm]⟩ W fun e W' => e = .returned (.bool true) ∧ Below W.heap.size W W' := by
  obtain ⟨p, e⟩ := law4 ways at_ dirs frm
  refine (F4ok (fzW W) (fun b => W.heap[b]?) W _ (ways, at_, dirs, frm, ()) (fzW_in W) (fun b ob h => h) p ⟨_, _, _, rfl, ⟨h0, rfl⟩, _, _, _, rfl, ⟨by simp only [decV, decL]; exact ⟨trivial, ha⟩, rfl⟩, _, _, _, rfl, ⟨h2, rfl⟩, _, _, _, rfl, ⟨by simp only [decV, decL]; exact ⟨trivial, hf⟩, rfl⟩, rfl⟩).mono fun ev W' ⟨v, fz', h1, h2, h3, h4, h5, h6, h7⟩ => ?_
  obtain ⟨bs, h7, _⟩ := h7
  have h7 : v = .bool (F4.fn (ways, at_, dirs, frm, ())).1 := by simp only [decV, decL] at h7; exact h7
  rw [e] at h7
  subst h7
  refine ⟨h1, h2.os, h2.tape, h2.output, h2.size, fun i hi => ?_⟩
  have : W.heap[i]? = some W.heap[i] := by simp [hi]
  rw [this]; exact h6 i _ this
/-- what came in is handed back as it was, new blocks beside it -/
theorem post_of_below {H : Type} {enc : TypeId × Value → H} {P : Program} {f : Func} {s : ChangeSpec} {apart fresh handsOn again : Bool} {W W' : World} {args : Array Value} {v : Value} {ds gs : List (DataW H)} {before pa pv : List MemPlace}
    (hW : DataW.Whole enc P f.params.toList s.vars apart W args.toList ds gs before)
    (hres : ∀ (b : Nat) (sp : Nat → Bool) (hd : Bool), DataW.TrodAll enc P W' b sp hd f.resultTypes.toList (v.resultList f.resultTypes.size) (s.fn H (ds ++ gs)).results [])
    (hargs : ∀ sp : Nat → Bool, (∀ p ∈ before, sp p.block = true) → DataW.TrodAll enc P W' 0 sp true f.params.toList args.toList (s.fn H (ds ++ gs)).args pa)
    (hvars : ∀ sp : Nat → Bool, (∀ p ∈ before, sp p.block = true) → DataW.TrodVars enc P W' sp s.vars (s.fn H (ds ++ gs)).vars pv)
    (hps : before = pa ++ pv) (hb : Below W.heap.size W W')
    (hok : ∀ (j : Nat) (t : TypeId) (r : Value), f.resultTypes[j]? = some t → (v.resultList f.resultTypes.size)[j]? = some r → Value.okWide P W' .any 0 t r) :
    s.post enc P f apart fresh handsOn again W args v W' := by
  have hold : ∀ p ∈ before, (fun b => decide (b < W.heap.size)) p.block = true := fun p hp => by simpa using hW.lt p hp
  have hlt := hW.lt
  refine ⟨ds, gs, before, [], pa, pv, hW, hres _ _ _, hargs _ hold, hvars _ hold, World.keptBut_mono (fun p hp => ⟨hp, ?_⟩) (hb.frame (· ∈ before)), fun _ => ?_⟩
  · rw [hps, List.mem_append] at hp
    exact Or.inr hp
  · obtain ⟨_, _, _, _, _, hz, hn⟩ := hW
    refine ⟨hok, _, _, ([] ++ pa) ++ pv, ⟨[] ++ pa, pv, trodAll_append (hargs _ (fun _ _ => rfl)) (hres _ _ _), hvars _ (fun _ _ => rfl), rfl, ?_, ?_⟩, ?_⟩
    · intro b off hp
      have hm := show MemPlace.cell b off ∈ before by rw [hps]; simpa using hp
      rw [hb.frozen (show (⟨b, off, none⟩ : Addr).block < W.heap.size from hlt _ hm)]
      exact hz b off hm
    · intro ha
      have := hn ha
      rw [hps] at this
      simpa using this
    · intro p hp _
      rw [hps]
      simpa using hp
theorem contract (H : Type) (enc : TypeId × Value → H) (W : World) (base : Nat) (args : Array Value) (ds gs : List (DataW H)) (before : List MemPlace)
    (hval : ∀ (j : Nat) t v, Try.f4.params[j]? = some t → args[j]? = some v → Value.okWide Try.prog W .any base t v)
    (hW : DataW.Whole enc Try.prog Try.f4.params.toList Rows.seenHidesSpec.vars false W args.toList ds gs before)
    (hS : (DataW.weightsEach Try.prog (Try.f4.params.toList ++ Rows.seenHidesSpec.plain.varTypes Try.prog) (ds ++ gs)).all (· ≤ reachBytes) = true) :
    Calls Try.prog 4 args W fun e W' => ∃ v, e = .returned v ∧ Rows.seenHidesSpec.post enc Try.prog Try.f4 false true false false W args v W' := by
  have hW' := hW
  have hlt := hW.lt
  obtain ⟨p, q, hA0, hV, rfl, hfz, hnd⟩ := hW
  have hA : DataW.TrodAll enc Try.prog W 0 (fun _ => true) true Try.f4.params.toList args.toList ds p := hA0
  rw [Try.params4] at hA hval hS
  obtain ⟨v0, vs0, d0, ds0, p0, q0, ha0, rfl, rfl, h0, r0⟩ := trodAll_cons hA
  obtain ⟨v1, vs1, d1, ds1, p1, q1, ha1, rfl, rfl, h1, r1⟩ := trodAll_cons r0
  obtain ⟨v2, vs2, d2, ds2, p2, q2, ha2, rfl, rfl, h2, r2⟩ := trodAll_cons r1
  obtain ⟨v3, vs3, d3, ds3, p3, q3, ha3, rfl, rfl, h3, r3⟩ := trodAll_cons r2
  obtain ⟨rfl, rfl, rfl⟩ := trodAll_nil r3
  obtain rfl : args = #[v0, v1, v2, v3] := by cases args; simp_all
  obtain ⟨rfl, rfl⟩ := trodVars_none hV
  clear hA0
  obtain ⟨n1, rfl, rfl, rfl, wf1⟩ := Go.ChangeShapes.open_int Try.underlying3 (hval 1 3 v1 rfl rfl) h1
  obtain ⟨n3, rfl, rfl, rfl, wf3⟩ := Go.ChangeShapes.open_int Try.underlying3 (hval 3 3 v3 rfl rfl) h3
  have t0 := fun (sp : Nat → Bool) (W' : World) (hb : Below W.heap.size W W') (hsp : ∀ x ∈ p0 ++ ([] ++ (p2 ++ ([] ++ []))) ++ [], sp x.block = true) =>
    WideElems.Trod_stays (sp' := sp) laidOut read33 row33 h0 (fun x hx => hb.same (hlt x (by simp [hx]))) (fun x hx => hsp x (by simp [hx]))
  have t2 := fun (sp : Nat → Bool) (W' : World) (hb : Below W.heap.size W W') (hsp : ∀ x ∈ p0 ++ ([] ++ (p2 ++ ([] ++ []))) ++ [], sp x.block = true) =>
    WideElems.Trod_stays (sp' := sp) laidOut read49 row49 h2 (fun x hx => hb.same (hlt x (by simp [hx]))) (fun x hx => hsp x (by simp [hx]))
  have hf0 : FitsW Try.prog 33 d0 := fun n hn => by
    have := List.all_eq_true.1 hS n (DataW.weights_mem_each (j := 0) rfl rfl n hn)
    simpa using this
  have hf2 : FitsW Try.prog 49 d2 := fun n hn => by
    have := List.all_eq_true.1 hS n (DataW.weights_mem_each (j := 2) rfl rfl n hn)
    simpa using this
  obtain ⟨a0, m0, c0, rfl⟩ := okWide_slice Try.underlying33 (hval 0 33 v0 rfl rfl)
  obtain ⟨a2, m2, c2, rfl⟩ := okWide_slice Try.underlying49 (hval 2 49 v2 rfl rfl)
  obtain ⟨k0, hm0⟩ := h0
  obtain ⟨k2, hm2⟩ := h2
  obtain ⟨l0, x0, y0⟩ := ls33
  obtain ⟨l2, x2, y2⟩ := ls49
  obtain ⟨ways, ⟨cs0, e0, _, g0⟩, _⟩ := opened bulkOk x0 y0 hm0 hf0 (Nat.le_refl _)
  obtain ⟨dirs, ⟨cs2, e2, _, g2⟩, _⟩ := opened bulkOk x2 y2 hm2 hf2 (Nat.le_refl _)
  have e0 : [Value.slice a0 m0 c0] = cs0 := e0
  have e2 : [Value.slice a2 m2 c2] = cs2 := e2
  subst e0
  subst e2
  have i1 : InR .i64 n1 := inR_of wf1
  have i3 : InR .i64 n3 := inR_of wf3
  refine (calls (one_of g0) (one_of g2) i1 i3).mono fun e W' ⟨he, hb⟩ => ?_
  subst he
  exact ⟨_, rfl, post_of_below (pv := []) hW' (fun _ _ _ => trodAll_cons_mk (shut_bool Try.underlying4 _) trodAll_mk0)
    (fun sp hsp => trodAll_cons_mk (t0 sp W' hb hsp) (trodAll_cons_mk (shut_int Try.underlying3 wf1) (trodAll_cons_mk (t2 sp W' hb hsp) (trodAll_cons_mk (shut_int Try.underlying3 wf3) trodAll_mk0)))) (fun _ _ => rfl) rfl
    hb (ok_one (by kernel_rfl) rfl (okWide_bool_mk Try.underlying4 _))⟩

def nought : Array Value := #[.slice none 0 0, .int .i64 0, .slice none 0 0, .int .i64 0]
noncomputable def laidWorld (os : Os) : World :=
  World.holding Try.prog os ⟨#[], #[], []⟩
theorem laid_met (os : Os) : laidMet Try.prog Rows.seenHidesRow.laid ((laidWorld os).forCall (fun _ _ => 0) ⟨#[], nought, []⟩).memory :=
  laidMet_of_run' 8 (by kernel_rfl) (by kernel_rfl)
theorem reads (os : Os) {H : Type} (enc : TypeId × Value → H) : ∃ places, DataW.whole enc Try.prog ((laidWorld os).forCall (fun _ _ => 0) ⟨#[], nought, []⟩).memory Try.f4.params.toList Rows.seenHidesSpec.vars false nought.toList 8 = some ([.nil, .lit (.int .i64 0), .nil, .lit (.int .i64 0)], [], places) :=
  ⟨[], by kernel_rfl⟩
theorem lifted (os : Os) (started : os.Started) (H : Type) (enc : TypeId × Value → H) (F : Stop.Interp) :
    ReturnsInHanded {} Try.checked os 4 .any ((OpenSpec.ofChange Rows.seenHidesSpec).preRow enc Try.prog Try.f4 Rows.seenHidesRow.domain false Rows.seenHidesRow.laid) (((OpenSpec.ofChange Rows.seenHidesSpec).at F).post enc Try.prog Try.f4 false true false false) := by
  obtain ⟨places, hx⟩ := reads os enc
  refine returnsInHanded_of_row (C := Try.checked) (s := OpenSpec.ofChange Rows.seenHidesSpec) own started (by kernel_rfl) Try.func4
    (witness_row_at (enc := enc) (C := Try.checked) false (laidWorld os) nought rfl (by kernel_rfl) (by kernel_rfl) (by kernel_rfl)
      (OpenSpec.preRow_of_cond 8 hx (by kernel_rfl) (fun k hk => by cases hk) (by kernel_rfl) (laid_met os))) ?_
  intro W base args ds gs before hval hW _ _ hS _ _ _
  exact contract H enc W base args ds gs before hval hW hS
set_option maxHeartbeats 4000000 in
theorem closedFacts : joinedFacts Try.prog 4 Try.f4 (OpenSpec.ofChange Rows.seenHidesSpec).bare Rows.seenHidesRow = true := by
  unfold joinedFacts
  simp only [Bool.and_eq_true]
  and_intros
  all_goals (as_aux_lemma => kernel_rfl)
set_option maxHeartbeats 4000000 in
theorem said : Rows.SeenHidesSaid :=
  OpenClaim.holds_of_cond 4 Try.f4 rfl rfl rfl rfl rfl rfl rfl ⟨rfl, rfl, rfl, rfl, rfl⟩ rfl rfl rfl rfl rfl (by as_aux_lemma => kernel_rfl) Try.func4 closedFacts
    (of_decide_eq_true (by as_aux_lemma => kernel_rfl)) (by unfold Func.isWrapper; first | (rw [if_pos (by decide +kernel)]; as_aux_lemma => kernel_rfl) | (rw [if_neg (by decide +kernel)]; exact ⟨rfl, rfl⟩))
    (fun os started H enc _ F => by rw [OpenClaim.pre_eq_preRow]; exact lifted os started H enc F)
end Go.Proofs.Ytkccnomdfkhfnaa.seenHides
