/- The law SeenTells holds where what it reads is of bulk at most 1048576: the answer is true, the arguments read as they did. The condition is the given bound, and nothing else. -/
import Derived.Test.YtkccnomdfkhfnaaGreatRows
import Derived.WalkKit
import Derived.ProofKit
import Derived.OpenShut
import Derived.Carry
import Derived.JoinedCond
import Derived.Deep.CondSized
import Derived.Test.YtkccnomdfkhfnaaGreatEvOpen
import Derived.Test.YtkccnomdfkhfnaaGreatSEP10
set_option linter.unusedSimpArgs false
set_option linter.unusedVariables false
namespace Go.Proofs.YtkccnomdfkhfnaaGreat.seenTells
open Go.ChangeShapes Go.WideShapes Go.ChangeAt Go.RowKit Go.Proofs.YtkccnomdfkhfnaaGreat Go.Proofs.YtkccnomdfkhfnaaGreat.Ev
set_option maxRecDepth 100000

theorem own : ownKnob Tryz.prog.godebug = none := by kernel_rfl
theorem laidOut : laidOutB Tryz.prog = true := by kernel_rfl
theorem read30 : Tryz.prog.readableRec 30 = true := by kernel_rfl
theorem row30 : 30 < Tryz.prog.types.size := of_decide_eq_true (by kernel_rfl)

/-! ## what the bound gives -/
theorem part_le {H : Type} {d : DataW H} {l : List (DataW H)} (h : d ∈ l) : Rows.uptoBulk d ≤ Rows.uptoBulkAll l := by
  induction l with
  | nil => cases h
  | cons x r ih =>
    simp only [Rows.uptoBulkAll]
    rcases List.mem_cons.1 h with e | e
    · subst e; omega
    · have := ih e; omega
theorem one_le {H : Type} (d : DataW H) : 1 ≤ Rows.uptoBulk d := by
  cases d with
  | lit l => cases l <;> simp [Rows.uptoBulk]
  | nil => simp [Rows.uptoBulk]
  | ptr d => simp [Rows.uptoBulk]
  | slice elems spare => simp [Rows.uptoBulk]
  | agg parts => simp [Rows.uptoBulk]
  | iface t d => simp [Rows.uptoBulk]
  | map entries => simp [Rows.uptoBulk]
  | held h => simp [Rows.uptoBulk]
theorem length_le {H : Type} (l : List (DataW H)) : l.length ≤ Rows.uptoBulkAll l := by
  induction l with
  | nil => simp [Rows.uptoBulkAll]
  | cons x r ih => have := one_le x; simp only [Rows.uptoBulkAll, List.length_cons]; omega
theorem bulkOk {H : Type} : BulkOk (H := H) Rows.uptoBulk where
  str b := by simp only [Rows.uptoBulk]; omega
  len el sp := by have := length_le el; have := length_le sp; simp only [Rows.uptoBulk]; omega
  elem el sp d h := by have := part_le h; simp only [Rows.uptoBulk]; omega
  part ps d h := by have := part_le h; simp only [Rows.uptoBulk]; omega
theorem bdW_of {w : Wdt} (hb : BdE 1048576 Wd w) (hw : WfE Wd w) : BdW w := by
  simp only [BdE, BdL] at hb
  simp only [WfE] at hw
  obtain ⟨⟨b1, _⟩, _, ⟨b2, b3⟩, _⟩ := hb
  have b1 : w.1.length ≤ 1048576 := b1
  have b2 : w.2.2.1.length ≤ 1048576 := b2
  refine ⟨by show w.1.length < _; omega, by show w.2.2.1.length < _; omega, fun d hd => ?_⟩
  have hd' : d ∈ w.2.2.1 := hd
  have hwd : WfE Dk d := by
    obtain ⟨i, hi, rfl⟩ := List.getElem_of_mem hd'
    have := hw.2.2.1
    simp only [WfL] at this
    exact this.2 i _ (List.getElem?_eq_getElem hi)
  obtain ⟨_, _, _, c1, c2⟩ := b3 d hd'
  refine ⟨SmD.of hwd, c1, fun n hn => ?_, fun n hn x hx => ?_⟩
  · exact (c2 n hn).2.2.2.2.2.2.2.1
  · exact ((c2 n hn).2.2.2.2.2.2.2.2 x hx).1

/-! ## the call -/
theorem ls30 : ∃ ls, shL 40 Tryz.prog 30 = some ls ∧ ofLs ls = some Wd := ⟨[.row (.one (.int .i64)), .int .i64, .row Dk, .int .i64, .row Rw, .row Rw, .int .i64], by kernel_rfl, rfl⟩
theorem calls {W : World} {w : Wdt} {a b : List UInt8} {cs : List Value} (hcl : cs.length = ET.sz Wd) (hd : decE (fzW W) Wd w ⟨cs⟩ 0) (hb : BdW w) (ha : a.length ≤ Room) (hbn : b.length ≤ Room) :
    Calls Tryz.prog 3 ⟨[.agg ⟨cs⟩, .string ⟨⟨a⟩⟩, .string ⟨⟨b⟩⟩]⟩ W fun e W' => e = .returned (.bool true) ∧ Below W.heap.size W W' := by
  obtain ⟨p, e⟩ := law hb a b
  refine (F3ok (fzW W) (fun b => W.heap[b]?) W _ (w, a, b, ()) (fzW_in W) (fun b ob h => h) p ⟨_, _, _, rfl, ⟨⟨cs, rfl, hcl, hd⟩, rfl⟩, _, _, _, rfl, ⟨by simp only [decV, decL]; exact ⟨trivial, ha⟩, rfl⟩, _, _, _, rfl, ⟨by simp only [decV, decL]; exact ⟨trivial, hbn⟩, rfl⟩, rfl⟩).mono fun ev W' ⟨v, fz', h1, h2, h3, h4, h5, h6, h7⟩ => ?_
  obtain ⟨bs, h7, _⟩ := h7
  have h7 : v = .bool (F3.fn (w, a, b, ())).1 := by simp only [decV, decL] at h7; exact h7
  rw [e] at h7
  subst h7
  refine ⟨h1, h2.os, h2.tape, h2.output, h2.size, fun i hi => ?_⟩
  have : W.heap[i]? = some W.heap[i] := by simp [hi]
  rw [this]; exact h6 i _ this
/-- what came in is handed back as it was, new blocks beside it -/
theorem post_of_below {H : Type} {enc : TypeId × Value → H} {P : Program} {f : Func} {s : ChangeSpec} {apart fresh handsOn again : Bool} {W W' : World} {args : Array Value} {v : Value} {ds gs : List (DataW H)} {before pa pv : List MemPlace}
    (hW : DataW.Whole enc P f.params.toList s.vars apart W args.toList ds gs before)
    (hres : ∀ (b : Nat) (sp : Nat → Bool) (hd : Bool), DataW.TrodAll enc P W' b sp hd f.resultTypes.toList (v.resultList f.resultTypes.size) (s.fn H (ds ++ gs)).results [])
    (hargs : ∀ sp : Nat → Bool, (∀ p ∈ before, sp p.block = true) → DataW.TrodAll enc P W' 0 sp true f.params.toList args.toList (s.fn H (ds ++ gs)).args pa)
    (hvars : ∀ sp : Nat → Bool, (∀ p ∈ before, sp p.block = true) → DataW.TrodVars enc P W' sp s.vars (s.fn H (ds ++ gs)).vars pv)
    (hps : before = pa ++ pv) (hb : Below W.heap.size W W')
    (hok : ∀ (j : Nat) (t : TypeId) (r : Value), f.resultTypes[j]? = some t → (v.resultList f.resultTypes.size)[j]? = some r → Value.okWide P W' .any 0 t r) :
    s.post enc P f apart fresh handsOn again W args v W' := by
  have hold : ∀ p ∈ before, (fun b => decide (b < W.heap.size)) p.block = true := fun p hp => by simpa using hW.lt p hp
  have hlt := hW.lt
  refine ⟨ds, gs, before, [], pa, pv, hW, hres _ _ _, hargs _ hold, hvars _ hold, World.keptBut_mono (fun p hp => ⟨hp, ?_⟩) (hb.frame (· ∈ before)), fun _ => ?_⟩
  · rw [hps, List.mem_append] at hp
    exact Or.inr hp
  · obtain ⟨_, _, _, _, _, hz, hn⟩ := hW
    refine ⟨hok, _, _, ([] ++ pa) ++ pv, ⟨[] ++ pa, pv, trodAll_append (hargs _ (fun _ _ => rfl)) (hres _ _ _), hvars _ (fun _ _ => rfl), rfl, ?_, ?_⟩, ?_⟩
    · intro b off hp
      have hm := show MemPlace.cell b off ∈ before by rw [hps]; simpa using hp
      rw [hb.frozen (show (⟨b, off, none⟩ : Addr).block < W.heap.size from hlt _ hm)]
      exact hz b off hm
    · intro ha
      have := hn ha
      rw [hps] at this
      simpa using this
    · intro p hp _
      rw [hps]
      simpa using hp
theorem contract (H : Type) (enc : TypeId × Value → H) (W : World) (base : Nat) (args : Array Value) (ds gs : List (DataW H)) (before : List MemPlace)
    (hval : ∀ (j : Nat) t v, Tryz.f3.params[j]? = some t → args[j]? = some v → Value.okWide Tryz.prog W .any base t v)
    (hW : DataW.Whole enc Tryz.prog Tryz.f3.params.toList Rows.seenTellsSpec.vars false W args.toList ds gs before) (hk : Rows.uptoSmall H (ds ++ gs) = true)
    (hS : (DataW.weightsEach Tryz.prog (Tryz.f3.params.toList ++ Rows.seenTellsSpec.plain.varTypes Tryz.prog) (ds ++ gs)).all (· ≤ reachBytes) = true) :
    Calls Tryz.prog 3 args W fun e W' => ∃ v, e = .returned v ∧ Rows.seenTellsSpec.post enc Tryz.prog Tryz.f3 false true false false W args v W' := by
  have hW' := hW
  have hlt := hW.lt
  obtain ⟨p, q, hA0, hV, rfl, hfz, hnd⟩ := hW
  have hA : DataW.TrodAll enc Tryz.prog W 0 (fun _ => true) true Tryz.f3.params.toList args.toList ds p := hA0
  rw [Tryz.params3] at hA hval hS
  obtain ⟨v0, vs0, d0, ds0, p0, q0, ha0, rfl, rfl, h0, r0⟩ := trodAll_cons hA
  obtain ⟨v1, vs1, d1, ds1, p1, q1, ha1, rfl, rfl, h1, r1⟩ := trodAll_cons r0
  obtain ⟨v2, vs2, d2, ds2, p2, q2, ha2, rfl, rfl, h2, r2⟩ := trodAll_cons r1
  obtain ⟨rfl, rfl, rfl⟩ := trodAll_nil r2
  obtain rfl : args = #[v0, v1, v2] := by cases args; simp_all
  obtain ⟨rfl, rfl⟩ := trodVars_none hV
  clear hA0
  obtain ⟨s1, rfl, rfl, rfl, wf1⟩ := Go.ChangeMaps.open_string Tryz.underlying9 (hval 1 9 v1 rfl rfl) h1
  obtain ⟨s2, rfl, rfl, rfl, wf2⟩ := Go.ChangeMaps.open_string Tryz.underlying9 (hval 2 9 v2 rfl rfl) h2
  have t0 := fun (sp : Nat → Bool) (W' : World) (hb : Below W.heap.size W W') (hsp : ∀ x ∈ p0 ++ ([] ++ ([] ++ [])) ++ [], sp x.block = true) =>
    WideElems.Trod_stays (sp' := sp) laidOut read30 row30 h0 (fun x hx => hb.same (hlt x (by simp [hx]))) (fun x hx => hsp x (by simp [hx]))
  have hf : FitsW Tryz.prog 30 d0 := fun n hn => by
    have := List.all_eq_true.1 hS n (DataW.weights_mem_each (j := 0) rfl rfl n hn)
    simpa using this
  have hr1 : s1.data.toList.length ≤ Room := by
    have := List.all_eq_true.1 hS s1.data.toList.length (DataW.weights_mem_each (j := 1) rfl rfl _ (by simp [DataW.weights]))
    have h : s1.data.toList.length ≤ reachBytes := by simpa using this
    exact h
  have hr2 : s2.data.toList.length ≤ Room := by
    have := List.all_eq_true.1 hS s2.data.toList.length (DataW.weights_mem_each (j := 2) rfl rfl _ (by simp [DataW.weights]))
    have h : s2.data.toList.length ≤ reachBytes := by simpa using this
    exact h
  have hbulk : Rows.uptoBulk d0 ≤ 1048576 := by
    have h := of_decide_eq_true hk
    have := part_le (l := [d0, .lit (.string s1.data.toList), .lit (.string s2.data.toList)] ++ []) (d := d0) (by simp)
    exact Nat.le_trans this h
  obtain ⟨fs, hfs⟩ : ∃ fs, Tryz.prog.underlying 30 = some (.struct fs) := ⟨_, Tryz.underlying30⟩
  obtain ⟨cs, rfl, hcs⟩ := okWide_struct hfs (hval 0 30 v0 rfl rfl)
  obtain ⟨m, hm⟩ := h0
  obtain ⟨ls, hl1, hl2⟩ := ls30
  obtain ⟨w, ⟨cs', hc1, hc2, hc3⟩, hbd⟩ := opened bulkOk hl1 hl2 hm hf hbulk
  have hc1 : cs.toList = cs' := hc1
  subst hc1
  have hbw := bdW_of hbd (decE_wf _ _ _ _ hc3)
  obtain ⟨cs⟩ := cs
  obtain ⟨⟨a⟩⟩ := s1
  obtain ⟨⟨b⟩⟩ := s2
  refine (calls hc2 hc3 hbw hr1 hr2).mono fun e W' ⟨he, hb⟩ => ?_
  subst he
  exact ⟨_, rfl, post_of_below (pv := []) hW' (fun _ _ _ => trodAll_cons_mk (shut_bool Tryz.underlying4 _) trodAll_mk0)
    (fun sp hsp => trodAll_cons_mk (t0 sp W' hb hsp) (trodAll_cons_mk (Go.ChangeMaps.shut_string Tryz.underlying9 wf1) (trodAll_cons_mk (Go.ChangeMaps.shut_string Tryz.underlying9 wf2) trodAll_mk0))) (fun _ _ => rfl) rfl
    hb (ok_one (by kernel_rfl) rfl (okWide_bool_mk Tryz.underlying4 _))⟩

def nought : Array Value := #[.agg #[.slice none 0 0, .int .i64 0, .slice none 0 0, .int .i64 0, .slice none 0 0, .slice none 0 0, .int .i64 0], .string ⟨#[]⟩, .string ⟨#[]⟩]
theorem lifted (os : Os) (started : os.Started) (H : Type) (enc : TypeId × Value → H) (F : Stop.Interp) :
    ReturnsInHanded {} Tryz.checked os 3 .any ((Rows.OpenSpec.upto Rows.seenTellsSpec).pre6 enc Tryz.prog Tryz.f3 Rows.seenTellsUptoRow.domain false) (((Rows.OpenSpec.upto Rows.seenTellsSpec).at F).post enc Tryz.prog Tryz.f3 false true false false) := by
  refine returnsInHanded_of_cond_sized (C := Tryz.checked) (s := Rows.OpenSpec.upto Rows.seenTellsSpec) (k := Rows.uptoSmall) rfl own started (by kernel_rfl) Tryz.func3
    (OpenSpec.witness (enc := enc) (C := Tryz.checked) (s := Rows.OpenSpec.upto Rows.seenTellsSpec) (k := Rows.uptoSmall) rfl false ⟨#[], nought, []⟩ 8 (by kernel_rfl) (by kernel_rfl) (by kernel_rfl)
      (x := ([.agg [.agg [.nil, .lit (.int .i64 0)], .nil, .agg [.lit (.int .i64 0), .nil, .nil, .lit (.int .i64 0)]], .lit (.string []), .lit (.string [])], [], [])) (by kernel_rfl) rfl (by kernel_rfl)) ?_
  intro W base args ds gs before hval hW _ hk hS _
  exact contract H enc W base args ds gs before hval hW hk hS
set_option maxHeartbeats 4000000 in
theorem closedFacts : joinedFacts Tryz.prog 3 Tryz.f3 (Rows.OpenSpec.upto Rows.seenTellsSpec).bare Rows.seenTellsUptoRow = true := by
  unfold joinedFacts
  simp only [Bool.and_eq_true]
  and_intros
  all_goals (as_aux_lemma => kernel_rfl)
set_option maxHeartbeats 4000000 in
theorem upto : Rows.SeenTellsUptoSaid :=
  OpenClaim.holds_of_cond 3 Tryz.f3 rfl rfl rfl rfl rfl rfl rfl ⟨rfl, rfl, rfl, rfl, rfl⟩ rfl rfl rfl rfl rfl (by as_aux_lemma => kernel_rfl) Tryz.func3 closedFacts
    (of_decide_eq_true (by as_aux_lemma => kernel_rfl)) (by unfold Func.isWrapper; first | (rw [if_pos (by decide +kernel)]; as_aux_lemma => kernel_rfl) | (rw [if_neg (by decide +kernel)]; exact ⟨rfl, rfl⟩))
    (fun os started H enc _ F => lifted os started H enc F)
end Go.Proofs.YtkccnomdfkhfnaaGreat.seenTells
