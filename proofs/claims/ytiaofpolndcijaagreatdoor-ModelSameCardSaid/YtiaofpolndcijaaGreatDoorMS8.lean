/- The law ModelSame holds: two replies are one just if all their fields are. The condition is the given one (its listed tables are laid as the program's text lays them), and nothing else. -/
import Derived.Test.YtiaofpolndcijaaGreatDoorMS7
import Derived.Test.YtiaofpolndcijaaGreatDoorMSK
import Derived.OpenShut
import Derived.Lib.LaidTab
set_option linter.unusedVariables false
set_option maxRecDepth 100000
namespace Go.Proofs.YtiaofpolndcijaaGreatDoor.modelSame
open Go.ChangeShapes Go.WideShapes Go.ChangeAt Go.RowKit Go.Proofs.YtiaofpolndcijaaGreatDoor
theorem own : ownKnob Tryz.prog.godebug = none := by kernel_rfl
theorem known : ∀ W, Calls Tryz.prog 6 #[] W fun e w' => e = .returned (.bool true) ∧ Below W.heap.size W w' := knc.told
/-- the cells of a datum -/
def lay : Nat → DataW Unit → List Value
  | n + 1, .agg l => l.flatMap (lay n)
  | _, .lit (.int k x) => [.int k x]
  | _, _ => []
def withCells (d : DataW Unit) : Obj → Obj
  | .cells _ t frozen => .cells ⟨lay 4 d⟩ t frozen
  | o => o
/-- A WORLD FOR THE WITNESS: the settled one, the listed tables holding what the text lays. -/
noncomputable def laidWorld (os : Os) : World :=
  { World.holding Tryz.prog os ⟨#[], #[], []⟩ with heap := ((World.holding Tryz.prog os ⟨#[], #[], []⟩).heap.modify 1 (withCells Rows.laid_unicode_utf8_first)).modify 2 (withCells (Rows.laid_unicode_utf8_acceptRanges)) }
def nought : Value := rep (.slice none 0 0) (.slice none 0 0) 0 0 0 0 0
def noughtD {H : Type} : DataW H := .agg [.nil, .nil, .agg [.lit (.int .i64 0), .lit (.int .i64 0), .lit (.int .i64 0), .lit (.int .i64 0), .lit (.int .i64 0)]]
theorem laid_met (os : Os) : laidMet Tryz.prog Rows.modelSameRow.laid ((laidWorld os).forCall (fun _ _ => 0) ⟨#[], #[nought, nought], []⟩).memory :=
  laidMet_of_run' 8 (by kernel_rfl) (by kernel_rfl)
theorem reads (os : Os) {H : Type} (enc : TypeId × Value → H) : ∃ places, DataW.whole enc Tryz.prog ((laidWorld os).forCall (fun _ _ => 0) ⟨#[], #[nought, nought], []⟩).memory Tryz.f3.params.toList Rows.modelSameSpec.vars false #[nought, nought].toList 8 = some ([noughtD, noughtD], [], places) :=
  ⟨[], by kernel_rfl⟩
theorem lifted (os : Os) (started : os.Started) (H : Type) (enc : TypeId × Value → H) (F : Stop.Interp) :
    ReturnsInHanded {} Tryz.checked os 3 .any ((OpenSpec.ofChange Rows.modelSameSpec).preRow enc Tryz.prog Tryz.f3 Rows.modelSameRow.domain false Rows.modelSameRow.laid) (((OpenSpec.ofChange Rows.modelSameSpec).at F).post enc Tryz.prog Tryz.f3 false true false false) := by
  obtain ⟨places, hx⟩ := reads os enc
  refine returnsInHanded_of_row (C := Tryz.checked) (s := OpenSpec.ofChange Rows.modelSameSpec) own started (by kernel_rfl) Tryz.func3
    (witness_row_at (enc := enc) (C := Tryz.checked) false (laidWorld os) #[nought, nought] rfl (by kernel_rfl) (by kernel_rfl) (by kernel_rfl)
      (OpenSpec.preRow_of_cond 8 hx (by kernel_rfl) (fun k hk => by cases hk) (by kernel_rfl) (laid_met os))) ?_
  intro W base args ds gs before hval hW _ _ _ hL _ _
  exact contract known H enc W base args ds gs before hval hW
set_option maxHeartbeats 4000000 in
theorem closedFacts : joinedFacts Tryz.prog 3 Tryz.f3 (OpenSpec.ofChange Rows.modelSameSpec).bare Rows.modelSameRow = true := by
  unfold joinedFacts
  simp only [Bool.and_eq_true]
  and_intros
  all_goals (as_aux_lemma => kernel_rfl)
set_option maxHeartbeats 4000000 in
theorem said : Rows.ModelSameSaid :=
  OpenClaim.holds_of_cond 3 Tryz.f3 rfl rfl rfl rfl rfl rfl rfl ⟨rfl, rfl, rfl, rfl, rfl⟩ rfl rfl rfl rfl rfl (by as_aux_lemma => kernel_rfl) Tryz.func3 closedFacts
    (of_decide_eq_true (by as_aux_lemma => kernel_rfl)) (by unfold Func.isWrapper; first | (rw [if_pos (by decide +kernel)]; as_aux_lemma => kernel_rfl) | (rw [if_neg (by decide +kernel)]; exact ⟨rfl, rfl⟩))
    (fun os started H enc _ F => by rw [OpenClaim.pre_eq_preRow]; exact lifted os started H enc F)
set_option maxHeartbeats 4000000 in
theorem plain (f : FuncId) (fn : Func) (hf : Tryz.pinned.checked.prog.funcNamed "veneer/veneerlaw22.ModelSame" = some f) (hfn : Tryz.pinned.checked.prog.funcs[f]? = some fn) :
    false = Tryz.pinned.checked.prog.looks [] ∧ ∀ (j : Nat) t, fn.params[j]? = some t → Tryz.pinned.checked.prog.wantsStandIn t = false := by
  obtain rfl : f = 3 := Option.some.inj ((show Tryz.prog.funcNamed "veneer/veneerlaw22.ModelSame" = some 3 by kernel_rfl).symm.trans hf) |>.symm
  obtain rfl : fn = Tryz.f3 := (Option.some.inj (Tryz.func3.symm.trans hfn)).symm
  refine ⟨by as_aux_lemma => kernel_rfl, fun j t ht => ?_⟩
  rw [Tryz.params3] at ht
  have hm : t ∈ [27, 27] := by simpa using Array.mem_of_getElem? ht
  have hw : Tryz.prog.wantsStandIn 27 = false := by as_aux_lemma => kernel_rfl
  obtain rfl : t = 27 := by simpa using hm
  exact hw
theorem card : Rows.ModelSameCardSaid :=
  Claim7.holds_tied_plain_at .later [] _ _ _ _ said (fun _ h => by cases h) (by as_aux_lemma => kernel_rfl) (fun _ h => by cases h) modelSame_row_tie rfl ⟨rfl, rfl⟩ (by as_aux_lemma => kernel_rfl) rfl plain (by as_aux_lemma => kernel_rfl)
end Go.Proofs.YtiaofpolndcijaaGreatDoor.modelSame
