/- Helpers: what a tree of ways tells, loops by what holds at their heads. -/
import Derived.Test.YtkccnomdfkhfnaaEvTree
set_option linter.unusedSimpArgs false
set_option linter.unusedVariables false
namespace Go.Proofs.Ytkccnomdfkhfnaa.Ev
open Go.RowKit
def DT.Ok {β : Type} (t : DT β) (Q : β → Prop) : Prop := t.pre ∧ Q t.fn
section
variable {β : Type} {cs : List Prop} {v : β} {Q : β → Prop} {c b : Bool} {t f : DT β}
@[simp] theorem ok_leaf : (DT.leaf cs v).Ok Q ↔ AllA cs ∧ Q v := Iff.rfl
@[simp] theorem ok_node : (DT.node cs c t f).Ok Q ↔ AllA cs ∧ (c = true → t.Ok Q) ∧ (c = false → f.Ok Q) := by
  unfold DT.Ok
  cases c <;> simp [DT.pre, DT.fn, and_assoc]
@[simp] theorem ok_req : (DT.req cs c b t).Ok Q ↔ AllA cs ∧ c = b ∧ t.Ok Q := by
  unfold DT.Ok
  simp [DT.pre, DT.fn, and_assoc]
end
@[simp] theorem allA_nil : AllA [] = True := rfl
@[simp] theorem allA_one (p : Prop) : AllA [p] = p := rfl
@[simp] theorem allA_cons (p q : Prop) (r : List Prop) : AllA (p :: q :: r) = (p ∧ AllA (q :: r)) := rfl
/-- a loop: what holds at its head, how far it is, what holds behind it -/
theorem loopP {A B : Type} {tr : A → DT (A ⊕ B)} (I : A → Prop) (m : A → Nat) (Q : B → Prop)
    (h : ∀ x, I x → (tr x).Ok fun r => match r with | .inl x' => I x' ∧ m x' < m x | .inr y => Q y) : ∀ x, I x → loopInv tr x ∧ ∃ y, loopOut tr x = some y ∧ Q y := by
  have key : ∀ n x, m x = n → I x → loopInv tr x ∧ ∃ y, loopOut tr x = some y ∧ Q y := by
    intro n
    induction n using Nat.strongRecOn with
    | ind n ih =>
      intro x hm hx
      obtain ⟨h1, h2⟩ := h x hx
      cases q : (tr x).fn with
      | inl x' =>
        rw [q] at h2
        obtain ⟨g1, y, g2, g3⟩ := ih (m x') (by omega) x' rfl h2.1
        exact ⟨.again h1 q g1, y, by rw [loopOut_again q]; exact g2, g3⟩
      | inr y =>
        rw [q] at h2
        exact ⟨.exit h1 q, y, loopOut_exit q, h2⟩
  exact fun x hx => key _ x rfl hx
theorem wrp_id {n : Int} (h : -9223372036854775808 ≤ n) (h2 : n < 9223372036854775808) : wrp .i64 n = n := by
  unfold wrp IntKind.wrap
  simp [IntKind.bits, IntKind.signed]
  omega
theorem wrp_succ {k : Nat} (h : k < 4611686018427387904) : wrp .i64 ((k : Int) + 1) = ((k + 1 : Nat) : Int) := by
  rw [wrp_id (by omega) (by omega)]; simp
theorem xsAt_lt {e : ET} {xs : List e.T} {i : Nat} (h : i < xs.length) : xsAt e xs i = xs[i] := by
  show xs.getD i e.z = xs[i]
  simp [List.getD_eq_getElem?_getD, h]
/-- the middle of two numbers -/
theorem mid_eq {i j : Nat} (h : i + j < 4611686018427387904) : wrp .i64 (shrI .u64 (wrp .u64 (wrp .i64 ((i : Int) + (j : Int)))) (1 : Int)) = (((i + j) / 2 : Nat) : Int) ∧
    wrp .u64 (shrI .u64 (wrp .u64 (wrp .i64 ((i : Int) + (j : Int)))) (1 : Int)) = shrI .u64 (wrp .u64 (wrp .i64 ((i : Int) + (j : Int)))) (1 : Int) := by
  have h1 : wrp .i64 ((i : Int) + (j : Int)) = ((i + j : Nat) : Int) := by rw [wrp_id (by omega) (by omega)]; simp
  have h2 : wrp .u64 ((i + j : Nat) : Int) = ((i + j : Nat) : Int) := by
    unfold wrp IntKind.wrap
    simp [IntKind.bits, IntKind.signed]
    omega
  have h3 : shrI .u64 ((i + j : Nat) : Int) 1 = (((i + j) / 2 : Nat) : Int) := by
    unfold shrI
    simp [IntKind.bits]
    rw [Int.fdiv_eq_ediv_of_nonneg _ (by omega)]
  rw [h1, h2, h3]
  refine ⟨wrp_id (by omega) (by omega), ?_⟩
  unfold wrp IntKind.wrap
  simp [IntKind.bits, IntKind.signed]
  omega
/-- a row's elements are few -/
theorem wf_small {e : ET} {xs : List e.T} (h : WfL (.row e) xs) : List.length xs < 4611686018427387904 := by
  simp only [WfL] at h
  have h1 : List.length xs * e.by ≤ Room := h.1
  have h2 := ET.by_pos e
  have : List.length xs ≤ List.length xs * e.by := Nat.le_mul_of_pos_right _ h2
  unfold Room at h1
  omega
end Go.Proofs.Ytkccnomdfkhfnaa.Ev
