/- The plain law of paths, in lists. -/
import Derived.Lib.SplitLaws
import Derived.Lib.Join
import Derived.Lib.Strings
import Derived.Lib.IndexMore
set_option linter.unusedVariables false
namespace Go.Proofs.YtanhagilpecnkaaDoor.PathBack
open Go.Lib
/-- texts with a stroke ahead of each but the first -/
def strokes (ps : List (List UInt8)) : List UInt8 := ps.flatMap fun q => 47 :: q
theorem index_no (p : List UInt8) (h : (47 : UInt8) ∉ p) : index p [47] = -1 := by
  induction p with
  | nil => rfl
  | cons b l ih =>
    have hb : (47 == b) = false := by rw [beq_eq_false_iff_ne]; rintro rfl; exact h List.mem_cons_self
    have hl := ih (fun e => h (List.mem_cons_of_mem _ e))
    simp [index, List.isPrefixOf, hb, hl]
theorem index_at (p r : List UInt8) (h : (47 : UInt8) ∉ p) : index (p ++ 47 :: r) [47] = p.length := by
  induction p with
  | nil => simp [index, List.isPrefixOf]
  | cons b l ih =>
    have hb : (47 == b) = false := by rw [beq_eq_false_iff_ne]; rintro rfl; exact h List.mem_cons_self
    have hl := ih (fun e => h (List.mem_cons_of_mem _ e))
    have : ¬ (l.length : Int) = -1 := by omega
    simp [index, List.isPrefixOf, hb, hl, this]
theorem count_no (p : List UInt8) (h : (47 : UInt8) ∉ p) : count p [47] = 0 := by rw [count_one]; exact List.count_eq_zero.2 h
theorem count_at (p r : List UInt8) (h : (47 : UInt8) ∉ p) : count (p ++ 47 :: r) [47] = count r [47] + 1 := by
  rw [count_one, count_one, List.count_append, List.count_eq_zero.2 h, List.count_cons_self]; omega
theorem split_strokes : ∀ (ps : List (List UInt8)) (p : List UInt8), (47 : UInt8) ∉ p → (∀ q ∈ ps, (47 : UInt8) ∉ q) → splitK [47] 0 (count (p ++ strokes ps) [47]) (p ++ strokes ps) = p :: ps
  | [], p, hp, _ => by
    simp only [strokes, List.flatMap_nil, List.append_nil]
    rw [count_no p hp]; rfl
  | q :: ps, p, hp, hq => by
    have e : p ++ strokes (q :: ps) = p ++ 47 :: (q ++ strokes ps) := by simp [strokes]
    rw [e, count_at _ _ hp, splitK]
    have hi := index_at p (q ++ strokes ps) hp
    have hne : ¬ ((p.length : Int) = -1) := by omega
    rw [hi]
    rw [if_neg (by simp)]
    have ih := split_strokes ps q (hq q List.mem_cons_self) (fun x hx => hq x (List.mem_cons_of_mem _ hx))
    have h1 : (p ++ 47 :: (q ++ strokes ps)).take ((p.length : Int).toNat + 0) = p := by simp
    have h2 : (p ++ 47 :: (q ++ strokes ps)).drop ((p.length : Int).toNat + ([47] : List UInt8).length) = q ++ strokes ps := by
      simp
    rw [h1, h2, ih]
theorem join_strokes (p : List UInt8) (ps : List (List UInt8)) : join (p :: ps) [47] = p ++ strokes ps := by
  rw [join_cons, joinTail, strokes, List.flatMap_def]
  simp
/-- what a part of a path does to the names so far -/
def step (cur : List ByteArray) (p : ByteArray) : Option (List ByteArray) :=
  if p = ⟨#[]⟩ ∨ p = ⟨#[46]⟩ then some cur else if p = ⟨#[46, 46]⟩ then some (cur.take (cur.length - 1)) else if 24 < p.size ∨ 16 ≤ cur.length then none else some (cur ++ [p])
def walk : List ByteArray → List ByteArray → Option (List ByteArray)
  | cur, [] => some cur
  | cur, p :: ps => match step cur p with
    | some c => walk c ps
    | none => none
/-- a name -/
def Named (s : ByteArray) : Prop := (∀ c ∈ s.data.toList, c ≠ 47 ∧ c ≠ 0) ∧ 1 ≤ s.size ∧ s.size ≤ 24 ∧ s ≠ ⟨#[46]⟩ ∧ s ≠ ⟨#[46, 46]⟩
theorem step_named {s : ByteArray} (h : Named s) {cur : List ByteArray} (hc : cur.length < 16) : step cur s = some (cur ++ [s]) := by
  have h0 : s ≠ ⟨#[]⟩ := by rintro rfl; have := h.2.1; simp [ByteArray.size] at this
  unfold step
  rw [if_neg (by rintro (e | e); exact h0 e; exact h.2.2.2.1 e), if_neg h.2.2.2.2, if_neg (by have := h.2.2.1; omega)]
/-- the parts that stand for names, with dots behind them or not -/
def parts (dots : Bool) (l : List ByteArray) : List ByteArray := l.flatMap fun x => if dots then [x, ⟨#[46]⟩] else [x]
theorem walk_parts (dots : Bool) : ∀ (l cur rest : List ByteArray), (∀ x ∈ l, Named x) → cur.length + l.length ≤ 16 → walk cur (parts dots l ++ rest) = walk (cur ++ l) rest
  | [], cur, rest, _, _ => by simp [parts]
  | x :: l, cur, rest, hl, hn => by
    simp only [List.length_cons] at hn
    have hx := step_named (hl x List.mem_cons_self) (cur := cur) (by omega)
    have ih := walk_parts dots l (cur ++ [x]) rest (fun y hy => hl y (List.mem_cons_of_mem _ hy)) (by simp; omega)
    have hd : ∀ c, step c ⟨#[46]⟩ = some c := fun c => by unfold step; rw [if_pos (.inr rfl)]
    cases dots
    · simp only [parts, List.flatMap_cons, Bool.false_eq_true, if_false, List.cons_append, List.nil_append] at ih ⊢
      rw [walk, hx]; dsimp only
      rw [ih]; simp
    · simp only [parts, List.flatMap_cons, if_true, List.cons_append, List.nil_append] at ih ⊢
      rw [walk, hx]; dsimp only
      rw [walk, hd]; dsimp only
      rw [ih]; simp
/-- names, one more, taken away -/
theorem walk_all (dots : Bool) (l : List ByteArray) (more : ByteArray) (hl : ∀ x ∈ l, Named x) (hm : Named more) (hn : l.length ≤ 8) :
    walk [] (⟨#[]⟩ :: (parts dots l ++ [⟨#[]⟩, more, ⟨#[46, 46]⟩, ⟨#[]⟩])) = some l := by
  have he : ∀ c, step c ⟨#[]⟩ = some c := fun c => by unfold step; rw [if_pos (.inl rfl)]
  rw [walk, he]; dsimp only
  rw [walk_parts dots l [] _ hl (by simp; omega), List.nil_append, walk, he]; dsimp only
  rw [walk, step_named hm (by omega)]; dsimp only
  have hd : step (l ++ [more]) ⟨#[46, 46]⟩ = some l := by
    unfold step
    rw [if_neg (by rintro (e | e) <;> exact absurd (congrArg ByteArray.size e) (by decide)), if_pos rfl]
    simp
  rw [walk, hd]; dsimp only
  rw [walk, he]; dsimp only
  rfl
theorem walk_plain (l : List ByteArray) (hl : ∀ x ∈ l, Named x) (hn : l.length ≤ 8) : walk [] (⟨#[]⟩ :: l) = some l := by
  have he : ∀ c, step c ⟨#[]⟩ = some c := fun c => by unfold step; rw [if_pos (.inl rfl)]
  rw [walk, he]; dsimp only
  have := walk_parts false l [] [] hl (by simp; omega)
  simp only [parts, Bool.false_eq_true, if_false, List.append_nil, List.nil_append] at this
  rw [show (l.flatMap fun x => [x]) = l by simp] at this
  rw [this]; rfl
end Go.Proofs.YtanhagilpecnkaaDoor.PathBack
