/- The law DropHeld holds: a file that goes up by one of its names is held, when that is dropped; dropped by the other, too, it is held no more; whatever it is given, the answer is true and the arguments read as they did. The condition is the given one (its listed tables are laid as the program's text lays them), and nothing else. -/
import Derived.Test.YtjhpkmmmfhppfaaGreatDoorCards
import Derived.Test.YtjhpkmmmfhppfaaGreatDoorTie
import Derived.WalkKit
import Derived.ProofKit
import Derived.OpenShut
import Derived.Carry
import Derived.Deep.DeepHandedRow
import Derived.Lib.LaidTab
import Derived.Test.YtjhpkmmmfhppfaaGreatDoorDHW
import Derived.Test.YtjhpkmmmfhppfaaGreatDoorDHK
import Derived.Test.YtjhpkmmmfhppfaaGreatDoorDHR0
import Derived.Test.YtjhpkmmmfhppfaaGreatDoorDHR1
import Derived.Test.YtjhpkmmmfhppfaaGreatDoorDHR2
import Derived.Test.YtjhpkmmmfhppfaaGreatDoorDHR3
import Derived.Test.YtjhpkmmmfhppfaaGreatDoorDHR4
import Derived.Test.YtjhpkmmmfhppfaaGreatDoorDHR5
import Derived.Test.YtjhpkmmmfhppfaaGreatDoorDHR6
import Derived.Test.YtjhpkmmmfhppfaaGreatDoorDHR7
import Derived.Test.YtjhpkmmmfhppfaaGreatDoorDHR8
import Derived.Test.YtjhpkmmmfhppfaaGreatDoorDHR9
import Derived.Test.YtjhpkmmmfhppfaaGreatDoorDHR10
import Derived.Test.YtjhpkmmmfhppfaaGreatDoorDHR11
set_option linter.unusedVariables false
set_option linter.unusedSimpArgs false
namespace Go.Proofs.YtjhpkmmmfhppfaaGreatDoor.dropHeld
open Go.ChangeShapes Go.WideShapes Go.ChangeAt Go.RowKit Go.Proofs.YtjhpkmmmfhppfaaGreatDoor.Ev
set_option maxRecDepth 100000
theorem own : ownKnob Tryz.prog.godebug = none := by kernel_rfl
theorem runs2 : ∀ n : Nat, 1 ≤ n → n ≤ 60 → runB 2 n = true
  | 0, h, _ => absurd h (by omega)
  | 1, _, _ => q2_1
  | 2, _, _ => q2_2
  | 3, _, _ => q2_3
  | 4, _, _ => q2_4
  | 5, _, _ => q2_5
  | 6, _, _ => q2_6
  | 7, _, _ => q2_7
  | 8, _, _ => q2_8
  | 9, _, _ => q2_9
  | 10, _, _ => q2_10
  | 11, _, _ => q2_11
  | 12, _, _ => q2_12
  | 13, _, _ => q2_13
  | 14, _, _ => q2_14
  | 15, _, _ => q2_15
  | 16, _, _ => q2_16
  | 17, _, _ => q2_17
  | 18, _, _ => q2_18
  | 19, _, _ => q2_19
  | 20, _, _ => q2_20
  | 21, _, _ => q2_21
  | 22, _, _ => q2_22
  | 23, _, _ => q2_23
  | 24, _, _ => q2_24
  | 25, _, _ => q2_25
  | 26, _, _ => q2_26
  | 27, _, _ => q2_27
  | 28, _, _ => q2_28
  | 29, _, _ => q2_29
  | 30, _, _ => q2_30
  | 31, _, _ => q2_31
  | 32, _, _ => q2_32
  | 33, _, _ => q2_33
  | 34, _, _ => q2_34
  | 35, _, _ => q2_35
  | 36, _, _ => q2_36
  | 37, _, _ => q2_37
  | 38, _, _ => q2_38
  | 39, _, _ => q2_39
  | 40, _, _ => q2_40
  | 41, _, _ => q2_41
  | 42, _, _ => q2_42
  | 43, _, _ => q2_43
  | 44, _, _ => q2_44
  | 45, _, _ => q2_45
  | 46, _, _ => q2_46
  | 47, _, _ => q2_47
  | 48, _, _ => q2_48
  | 49, _, _ => q2_49
  | 50, _, _ => q2_50
  | 51, _, _ => q2_51
  | 52, _, _ => q2_52
  | 53, _, _ => q2_53
  | 54, _, _ => q2_54
  | 55, _, _ => q2_55
  | 56, _, _ => q2_56
  | 57, _, _ => q2_57
  | 58, _, _ => q2_58
  | 59, _, _ => q2_59
  | 60, _, _ => q2_60
  | n + 61, _, h => absurd h (by omega)
theorem runs3 : ∀ n : Nat, 1 ≤ n → n ≤ 60 → runB 3 n = true
  | 0, h, _ => absurd h (by omega)
  | 1, _, _ => q3_1
  | 2, _, _ => q3_2
  | 3, _, _ => q3_3
  | 4, _, _ => q3_4
  | 5, _, _ => q3_5
  | 6, _, _ => q3_6
  | 7, _, _ => q3_7
  | 8, _, _ => q3_8
  | 9, _, _ => q3_9
  | 10, _, _ => q3_10
  | 11, _, _ => q3_11
  | 12, _, _ => q3_12
  | 13, _, _ => q3_13
  | 14, _, _ => q3_14
  | 15, _, _ => q3_15
  | 16, _, _ => q3_16
  | 17, _, _ => q3_17
  | 18, _, _ => q3_18
  | 19, _, _ => q3_19
  | 20, _, _ => q3_20
  | 21, _, _ => q3_21
  | 22, _, _ => q3_22
  | 23, _, _ => q3_23
  | 24, _, _ => q3_24
  | 25, _, _ => q3_25
  | 26, _, _ => q3_26
  | 27, _, _ => q3_27
  | 28, _, _ => q3_28
  | 29, _, _ => q3_29
  | 30, _, _ => q3_30
  | 31, _, _ => q3_31
  | 32, _, _ => q3_32
  | 33, _, _ => q3_33
  | 34, _, _ => q3_34
  | 35, _, _ => q3_35
  | 36, _, _ => q3_36
  | 37, _, _ => q3_37
  | 38, _, _ => q3_38
  | 39, _, _ => q3_39
  | 40, _, _ => q3_40
  | 41, _, _ => q3_41
  | 42, _, _ => q3_42
  | 43, _, _ => q3_43
  | 44, _, _ => q3_44
  | 45, _, _ => q3_45
  | 46, _, _ => q3_46
  | 47, _, _ => q3_47
  | 48, _, _ => q3_48
  | 49, _, _ => q3_49
  | 50, _, _ => q3_50
  | 51, _, _ => q3_51
  | 52, _, _ => q3_52
  | 53, _, _ => q3_53
  | 54, _, _ => q3_54
  | 55, _, _ => q3_55
  | 56, _, _ => q3_56
  | 57, _, _ => q3_57
  | 58, _, _ => q3_58
  | 59, _, _ => q3_59
  | 60, _, _ => q3_60
  | n + 61, _, h => absurd h (by omega)
theorem laidOut : laidOutB Tryz.prog = true := by kernel_rfl
theorem read22 : Tryz.prog.readableRec 22 = true := by kernel_rfl
theorem row22 : 22 < Tryz.prog.types.size := of_decide_eq_true (by kernel_rfl)
theorem cells5 : Tryz.prog.cellsOf 5 = 1 := by kernel_rfl
/-- what came in is handed back as it was, new blocks beside it -/
theorem post_of_below {H : Type} {enc : TypeId × Value → H} {P : Program} {f : Func} {s : ChangeSpec} {apart fresh handsOn again : Bool} {W W' : World} {args : Array Value} {v : Value} {ds gs : List (DataW H)} {before pa pv : List MemPlace}
    (hW : DataW.Whole enc P f.params.toList s.vars apart W args.toList ds gs before)
    (hres : ∀ (b : Nat) (sp : Nat → Bool) (hd : Bool), DataW.TrodAll enc P W' b sp hd f.resultTypes.toList (v.resultList f.resultTypes.size) (s.fn H (ds ++ gs)).results [])
    (hargs : ∀ sp : Nat → Bool, (∀ p ∈ before, sp p.block = true) → DataW.TrodAll enc P W' 0 sp true f.params.toList args.toList (s.fn H (ds ++ gs)).args pa)
    (hvars : ∀ sp : Nat → Bool, (∀ p ∈ before, sp p.block = true) → DataW.TrodVars enc P W' sp s.vars (s.fn H (ds ++ gs)).vars pv)
    (hps : before = pa ++ pv) (hb : Below W.heap.size W W')
    (hok : ∀ (j : Nat) (t : TypeId) (r : Value), f.resultTypes[j]? = some t → (v.resultList f.resultTypes.size)[j]? = some r → Value.okWide P W' .any 0 t r) :
    s.post enc P f apart fresh handsOn again W args v W' := by
  have hold : ∀ p ∈ before, (fun b => decide (b < W.heap.size)) p.block = true := fun p hp => by simpa using hW.lt p hp
  have hlt := hW.lt
  refine ⟨ds, gs, before, [], pa, pv, hW, hres _ _ _, hargs _ hold, hvars _ hold, World.keptBut_mono (fun p hp => ⟨hp, ?_⟩) (hb.frame (· ∈ before)), fun _ => ?_⟩
  · rw [hps, List.mem_append] at hp
    exact Or.inr hp
  · obtain ⟨_, _, _, _, _, hz, hn⟩ := hW
    refine ⟨hok, _, _, ([] ++ pa) ++ pv, ⟨[] ++ pa, pv, trodAll_append (hargs _ (fun _ _ => rfl)) (hres _ _ _), hvars _ (fun _ _ => rfl), rfl, ?_, ?_⟩, ?_⟩
    · intro b off hp
      have hm := show MemPlace.cell b off ∈ before by rw [hps]; simpa using hp
      rw [hb.frozen (show (⟨b, off, none⟩ : Addr).block < W.heap.size from hlt _ hm)]
      exact hz b off hm
    · intro ha
      have := hn ha
      rw [hps] at this
      simpa using this
    · intro p hp _
      rw [hps]
      simpa using hp
/-- a row of numbers that is read is a block's -/
theorem row_of_cells {W : World} {b off n : Nat} {k : IntKind} {f : Nat → Int} (hn : 0 < n) (h : ∀ i, i < n → W.cell? ⟨b, off + i, none⟩ = some (.int k (f i))) :
    ∃ cs el fr, W.heap[b]? = some (.cells cs el fr) ∧ ∀ j, j < n → ∃ z, cs[off + j]? = some (.int k z) := by
  have h0 := h 0 hn
  unfold World.cell? at h0
  cases hb : W.heap[b]? with
  | none => simp [hb] at h0
  | some o =>
    cases o with
    | cells cs el fr =>
      refine ⟨cs, el, fr, rfl, fun j hj => ⟨f j, ?_⟩⟩
      have := h j hj
      unfold World.cell? at this
      simpa [hb] using this
    | _ => simp [hb] at h0
/-- the law, whatever way, whatever row of bytes -/
theorem walks {H : Type} {enc : TypeId × Value → H} {W : World} {base : Nat} (way : Int) {v1 : Value} {d1 : DataW H} {p1 : List MemPlace} (hval : Value.okWide Tryz.prog W .any base 22 v1) (h1 : DataW.Trod enc Tryz.prog W 0 (fun _ => true) true 22 v1 d1 p1) :
    Calls Tryz.prog 3 #[.int .i64 way, v1] W fun e w' => e = .returned (.bool true) ∧ Below W.heap.size W w' := by
  obtain ⟨a1, len, cap, rfl⟩ := okWide_slice Tryz.underlying22 hval
  by_cases hg : (way = 2 ∨ way = 3) ∧ 1 ≤ len ∧ len ≤ 60
  · obtain ⟨hway, g1, g2⟩ := hg
    have hr : runB way len = true := by
      rcases hway with rfl | rfl
      · exact runs2 len g1 g2
      · exact runs3 len g1 g2
    obtain ⟨fuel, hf⟩ := h1
    rcases open_ints Tryz.underlying22 Tryz.underlying5 cells5 hf with ⟨hcs, hx⟩ | ⟨a, len', cap', zs, hcs, _, hl, hm, hz, hx, hcell, hwz⟩
    · simp [Value.cells] at hcs
      omega
    · simp [Value.cells] at hcs
      obtain ⟨rfl, rfl, rfl⟩ := hcs
      rw [if_pos rfl] at hz
      obtain ⟨b, off, spot⟩ := a
      have h0 := hcell 0 (by omega)
      have hspot : spot = none := by simpa [Addr.add] using World.cell?_spot h0
      subst hspot
      obtain ⟨cs, el, fr, hw, hk⟩ : ∃ cs el fr, W.heap[b]? = some (.cells cs el fr) ∧ ∀ j, j < cap → ∃ z, cs[off + j]? = some (.int .u8 z) := by
        refine row_of_cells (f := fun i => zs.getD i 0) (by omega) fun i hi => ?_
        rw [← Go.WideShapes.add_plain]
        exact hcell i (by omega)
      refine walkB cfgOk hr hw hl ?_ (fun k hkn => ?_)
      · have hlast := hk (cap - 1) (by omega)
        obtain ⟨z, hlast⟩ := hlast
        have := (Array.getElem?_eq_some_iff.1 hlast).1
        omega
      · obtain ⟨z, h⟩ := hk k (by omega)
        exact ⟨_, z, h⟩
  · exact guard way a1 len cap W hg
theorem contract (H : Type) (enc : TypeId × Value → H) (W : World) (base : Nat) (args : Array Value) (ds gs : List (DataW H)) (before : List MemPlace)
    (hval : ∀ (j : Nat) t v, Tryz.f3.params[j]? = some t → args[j]? = some v → Value.okWide Tryz.prog W .any base t v)
    (hW : DataW.Whole enc Tryz.prog Tryz.f3.params.toList Rows.dropHeldSpec.vars false W args.toList ds gs before) :
    Calls Tryz.prog 3 args W fun e W' => ∃ v, e = .returned v ∧ Rows.dropHeldSpec.post enc Tryz.prog Tryz.f3 false true false false W args v W' := by
  have hW' := hW
  have hlt := hW.lt
  obtain ⟨p, q, hA0, hV, rfl, hfz, hnd⟩ := hW
  have hA : DataW.TrodAll enc Tryz.prog W 0 (fun _ => true) true Tryz.f3.params.toList args.toList ds p := hA0
  rw [Tryz.params3] at hA hval
  obtain ⟨v0, vs0, d0, ds0, p0, q0, ha0, rfl, rfl, h0, r0⟩ := trodAll_cons hA
  obtain ⟨v1, vs1, d1, ds1, p1, q1, ha1, rfl, rfl, h1, r1⟩ := trodAll_cons r0
  obtain ⟨rfl, rfl, rfl⟩ := trodAll_nil r1
  obtain rfl : args = #[v0, v1] := by cases args; simp_all
  obtain ⟨rfl, rfl⟩ := trodVars_none hV
  clear hA0
  obtain ⟨way, rfl, rfl, rfl, hwf⟩ := open_int Tryz.underlying3 (hval 0 3 v0 rfl rfl) h0
  have t1 := fun (sp : Nat → Bool) (W' : World) (hb : Below W.heap.size W W') (hsp : ∀ x ∈ ([] : List MemPlace) ++ (p1 ++ []) ++ [], sp x.block = true) =>
    WideElems.Trod_stays (sp' := sp) laidOut read22 row22 h1 (fun x hx => hb.same (hlt x (by simp [hx]))) (fun x hx => hsp x (by simp [hx]))
  refine (walks way (hval 1 22 v1 rfl rfl) h1).mono fun e W' ⟨he, hb⟩ => ?_
  subst he
  exact ⟨_, rfl, post_of_below (pv := []) hW' (fun _ _ _ => trodAll_cons_mk (shut_bool Tryz.underlying4 _) trodAll_mk0) (fun sp hsp => trodAll_cons_mk (shut_int Tryz.underlying3 hwf) (trodAll_cons_mk (t1 sp W' hb hsp) trodAll_mk0)) (fun _ _ => rfl) rfl
    hb (ok_one (by kernel_rfl) rfl (okWide_bool_mk Tryz.underlying4 _))⟩
/-- the cells of a datum -/
def lay : Nat → DataW Unit → List Value
  | n + 1, .agg l => l.flatMap (lay n)
  | _, .lit (.int k x) => [.int k x]
  | _, _ => []
def withCells (d : DataW Unit) : Obj → Obj
  | .cells _ t frozen => .cells ⟨lay 4 d⟩ t frozen
  | o => o
/-- A WORLD FOR THE WITNESS: the settled one, the listed tables holding what the text lays. -/
noncomputable def laidWorld (os : Os) : World :=
  { World.holding Tryz.prog os ⟨#[], #[], []⟩ with heap := ((((World.holding Tryz.prog os ⟨#[], #[], []⟩).heap.modify 0 (withCells Rows.laid_internal_strconv_uint64pow10)).modify 1 (withCells Rows.laid_math_bits_deBruijn32tab)).modify 2 (withCells Rows.laid_math_bits_deBruijn64tab)) }
theorem laid_met (os : Os) : laidMet Tryz.prog Rows.dropHeldRow.laid ((laidWorld os).forCall (fun _ _ => 0) ⟨#[], #[.int .i64 0, .slice none 0 0], []⟩).memory :=
  laidMet_of_run' 8 (by kernel_rfl) (by kernel_rfl)
theorem reads (os : Os) {H : Type} (enc : TypeId × Value → H) : ∃ places, DataW.whole enc Tryz.prog ((laidWorld os).forCall (fun _ _ => 0) ⟨#[], #[.int .i64 0, .slice none 0 0], []⟩).memory Tryz.f3.params.toList Rows.dropHeldSpec.vars false #[Value.int .i64 0, .slice none 0 0].toList 8 = some ([.lit (.int .i64 0), .nil], [], places) :=
  ⟨[], by kernel_rfl⟩
theorem lifted (os : Os) (started : os.Started) (H : Type) (enc : TypeId × Value → H) (F : Stop.Interp) :
    ReturnsInHanded {} Tryz.checked os 3 .any ((OpenSpec.ofChange Rows.dropHeldSpec).preRow enc Tryz.prog Tryz.f3 Rows.dropHeldRow.domain false Rows.dropHeldRow.laid) (((OpenSpec.ofChange Rows.dropHeldSpec).at F).post enc Tryz.prog Tryz.f3 false true false false) := by
  obtain ⟨places, hx⟩ := reads os enc
  refine returnsInHanded_of_row (C := Tryz.checked) (s := OpenSpec.ofChange Rows.dropHeldSpec) own started (by kernel_rfl) Tryz.func3
    (witness_row_at (enc := enc) (C := Tryz.checked) false (laidWorld os) #[.int .i64 0, .slice none 0 0] rfl (by kernel_rfl) (by kernel_rfl) (by kernel_rfl)
      (OpenSpec.preRow_of_cond 8 hx (by kernel_rfl) (fun k hk => by cases hk) (by kernel_rfl) (laid_met os))) ?_
  intro W base args ds gs before hval hW _ _ _ hL _ _
  exact contract H enc W base args ds gs before hval hW
set_option maxHeartbeats 4000000 in
theorem closedFacts : joinedFacts Tryz.prog 3 Tryz.f3 (OpenSpec.ofChange Rows.dropHeldSpec).bare Rows.dropHeldRow = true := by
  unfold joinedFacts
  simp only [Bool.and_eq_true]
  and_intros
  all_goals (as_aux_lemma => kernel_rfl)
set_option maxHeartbeats 4000000 in
theorem said : Rows.DropHeldSaid :=
  OpenClaim.holds_of_cond 3 Tryz.f3 rfl rfl rfl rfl rfl rfl rfl ⟨rfl, rfl, rfl, rfl, rfl⟩ rfl rfl rfl rfl rfl (by as_aux_lemma => kernel_rfl) Tryz.func3 closedFacts
    (of_decide_eq_true (by as_aux_lemma => kernel_rfl)) (by unfold Func.isWrapper; first | (rw [if_pos (by decide +kernel)]; as_aux_lemma => kernel_rfl) | (rw [if_neg (by decide +kernel)]; exact ⟨rfl, rfl⟩))
    (fun os started H enc _ F => by rw [OpenClaim.pre_eq_preRow]; exact lifted os started H enc F)
set_option maxHeartbeats 4000000 in
theorem plain (f : FuncId) (fn : Func) (hf : Tryz.pinned.checked.prog.funcNamed "veneer/veneerlaw20.DropHeld" = some f) (hfn : Tryz.pinned.checked.prog.funcs[f]? = some fn) :
    false = Tryz.pinned.checked.prog.looks [] ∧ ∀ (j : Nat) t, fn.params[j]? = some t → Tryz.pinned.checked.prog.wantsStandIn t = false := by
  obtain rfl : f = 3 := Option.some.inj ((show Tryz.prog.funcNamed "veneer/veneerlaw20.DropHeld" = some 3 by kernel_rfl).symm.trans hf) |>.symm
  obtain rfl : fn = Tryz.f3 := (Option.some.inj (Tryz.func3.symm.trans hfn)).symm
  refine ⟨by as_aux_lemma => kernel_rfl, fun j t ht => ?_⟩
  rw [Tryz.params3] at ht
  have hm : t ∈ [3, 22] := by simpa using Array.mem_of_getElem? ht
  have hw : ∀ t ∈ [3, 22], Tryz.prog.wantsStandIn t = false := by
    simp only [List.mem_cons, List.mem_nil_iff, or_false, forall_eq_or_imp, forall_eq]
    exact ⟨by as_aux_lemma => kernel_rfl, by as_aux_lemma => kernel_rfl⟩
  exact hw t hm
set_option maxHeartbeats 4000000 in
theorem card : Rows.DropHeldCardSaid :=
  Claim7.holds_tied_plain_at .later [] _ _ _ _ said (fun _ h => by cases h) (by as_aux_lemma => kernel_rfl) (fun _ h => by cases h) dropHeld_row_tie rfl ⟨rfl, rfl⟩ (by as_aux_lemma => kernel_rfl) rfl plain (by as_aux_lemma => kernel_rfl)
end Go.Proofs.YtjhpkmmmfhppfaaGreatDoor.dropHeld
