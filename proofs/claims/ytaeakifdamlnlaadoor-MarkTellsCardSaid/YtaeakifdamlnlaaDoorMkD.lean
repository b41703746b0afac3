/- That the printed plain functions come to an answer. Conditions: those each theorem states. -/
import Derived.Test.YtaeakifdamlnlaaDoorMkPa
import Derived.Test.YtaeakifdamlnlaaDoorMkPb
import Derived.Test.YtaeakifdamlnlaaDoorMkPc
import Derived.Test.YtaeakifdamlnlaaDoorMkPd
/- What the printed functions answer: all come to an end. -/
set_option linter.unusedVariables false
set_option linter.unusedSimpArgs false
namespace Go.Proofs.YtaeakifdamlnlaaDoor.PMarkTells
open Go.RowKit Go.Proofs.YtaeakifdamlnlaaDoorW.PrintWords Go.Proofs.YtaeakifdamlnlaaDoorW.PrintLast Go.Proofs.YtaeakifdamlnlaaDoorW.PrintMore
theorem w64 {x : Int} (h : -9223372036854775808 ≤ x) (h2 : x ≤ 9223372036854775807) : wrap64 x = x := by unfold wrap64; omega
theorem used_l (a b c : Int) (l : List S42) (hl : l.length ≤ 4398046511104) : ∀ (d : Nat) (acc i : Int) (k : Nat), 0 ≤ i → i ≤ l.length → (l.length : Int) - i = d → d < k → ∃ m, veneerref3_Used.l0 k acc i a b c l = some (m, (l.length : Int)) := by
  intro d
  induction d with
  | zero =>
    intro acc i k h0 h1 hd hk
    obtain ⟨k, rfl⟩ : ∃ m, k = m + 1 := ⟨k - 1, by omega⟩
    exact ⟨acc, by simp only [veneerref3_Used.l0]; rw [if_neg (by omega)]⟩
  | succ d ih =>
    intro acc i k h0 h1 hd hk
    obtain ⟨k, rfl⟩ : ∃ m, k = m + 1 := ⟨k - 1, by omega⟩
    obtain ⟨m, hm⟩ := ih (wrap64 (acc + (((rd_T42 l i).f4.f1).length : Int))) (i + 1) k (by omega) (by omega) (by omega) (by omega)
    refine ⟨m, ?_⟩
    simp only [veneerref3_Used.l0]
    rw [if_pos (by omega), if_pos h0, w64 (x := i + 1) (by omega) (by omega)]
    exact hm
theorem used_ends (a b c : Int) (l : List S42) (hl : l.length ≤ 4398046511104) : ∃ k m, veneerref3_Used.f k a b c l = some (m, (l.length : Int)) := by
  obtain ⟨m, h⟩ := used_l a b c l hl l.length 0 0 (l.length + 1) (by omega) (by omega) (by omega) (by omega)
  exact ⟨_, m, h⟩
theorem named_l (s : ByteArray) (hs : s.size ≤ 1152921504606846976) : ∀ (d : Nat) (i : Int) (k : Nat), 0 ≤ i → i ≤ s.size → (s.size : Int) - i = d → d < k → ∃ r, veneerref1_Named.l0 k s i = some r := by
  intro d
  induction d with
  | zero =>
    intro i k h0 h1 hd hk
    obtain ⟨k, rfl⟩ : ∃ m, k = m + 1 := ⟨k - 1, by omega⟩
    simp only [veneerref1_Named.l0]
    rw [if_neg (by omega)]
    repeat' split
    all_goals exact ⟨_, rfl⟩
  | succ d ih =>
    intro i k h0 h1 hd hk
    obtain ⟨k, rfl⟩ : ∃ m, k = m + 1 := ⟨k - 1, by omega⟩
    simp only [veneerref1_Named.l0]
    rw [if_pos (by omega), if_pos h0, w64 (by omega) (by omega)]
    split
    · exact ⟨_, rfl⟩
    · split
      · exact ⟨_, rfl⟩
      · exact ih (i + 1) k (by omega) (by omega) (by omega) (by omega)
theorem named_ends (s : ByteArray) (hs : s.size ≤ 1152921504606846976) : ∃ k r, veneerref1_Named.f k s = some r := by
  obtain ⟨r, h⟩ := named_l s hs s.size 0 (s.size + 1) (by omega) (by omega) (by omega) (by omega)
  exact ⟨_, r, h⟩
theorem is2_j2 {k : Nat} {i a b : Int} {l : List S69} {c : List Int} (q : Bool) (h : ∃ r, veneerref2_Is.l1 k i 0 a l b c = some r) : ∃ r, veneerref2_Is.j2 (k + 1) i q a l b c = some r := by
  simp only [veneerref2_Is.j2]
  split
  · exact ⟨_, rfl⟩
  · exact h
theorem is2_jt {k : Nat} {i a b : Int} {l : List S69} {c : List Int} (hk : 0 < k) : ∃ r, veneerref2_Is.j2 k i true a l b c = some r := by
  obtain ⟨k, rfl⟩ : ∃ m, k = m + 1 := ⟨k - 1, by omega⟩
  exact ⟨false, by simp [veneerref2_Is.j2]⟩
theorem is2_l1 (a b i : Int) (l : List S69) (c : List Int) (hc : c.length = 16) (h0 : 0 ≤ i) (hi : i < l.length) (hl : l.length ≤ 4398046511104) (F : Nat) (hn : ∀ k, F ≤ k → ∃ r, veneerref2_Is.l0 k (i + 1) a l = some r) :
    ∀ (e : Nat) (x : Int) (k : Nat), 0 ≤ x → x ≤ 16 → 16 - x = e → F + e + 1 ≤ k → ∃ r, veneerref2_Is.l1 k i x a l b c = some r := by
  intro e
  induction e with
  | zero =>
    intro x k hx0 hx1 he hk
    obtain ⟨k, rfl⟩ : ∃ m, k = m + 1 := ⟨k - 1, by omega⟩
    simp only [veneerref2_Is.l1]
    rw [if_neg (by omega), w64 (x := i + 1) (by omega) (by omega)]
    exact hn k (by omega)
  | succ e ih =>
    intro x k hx0 hx1 he hk
    obtain ⟨k, rfl⟩ : ∃ m, k = m + 1 := ⟨k - 1, by omega⟩
    have h2 := ih (x + 1) k (by omega) (by omega) (by omega) (by omega)
    simp only [veneerref2_Is.l1]
    rw [if_pos (by omega), w64 (x := x + 1) (by omega) (by omega)]
    split
    · first | rw [if_pos hx0, if_pos (by omega)] | rw [if_pos (by omega)]
      split
      · exact h2
      · exact ⟨_, rfl⟩
    · exact h2
theorem is2_l0 (a : Int) (l : List S69) (hl : l.length ≤ 4398046511104) : ∀ (d : Nat) (i : Int) (k : Nat), 0 ≤ i → i ≤ l.length → (l.length : Int) - i = d → 20 * d + 1 ≤ k → ∃ r, veneerref2_Is.l0 k i a l = some r := by
  intro d
  induction d with
  | zero =>
    intro i k h0 h1 hd hk
    obtain ⟨k, rfl⟩ : ∃ m, k = m + 1 := ⟨k - 1, by omega⟩
    simp only [veneerref2_Is.l0]
    rw [if_neg (by omega)]
    exact ⟨_, rfl⟩
  | succ d ih =>
    intro i k h0 h1 hd hk
    obtain ⟨k, rfl⟩ : ∃ m, k = m + 2 := ⟨k - 2, by omega⟩
    have hn : ∀ k, 20 * d + 1 ≤ k → ∃ r, veneerref2_Is.l0 k (i + 1) a l = some r := fun k hk => ih (i + 1) k (by omega) (by omega) (by omega) hk
    simp only [veneerref2_Is.l0]
    rw [if_pos (by omega), if_pos h0]
    split
    · exact is2_jt (by omega)
    · split
      · exact is2_jt (by omega)
      · split
        · exact is2_jt (by omega)
        · split
          · rename_i hc
            have hL := is2_l1 a (rd_T69 l i).f0 i l (rd_T69 l i).f1 (by omega) h0 (by omega) hl (20 * d + 1) hn 16 0 k (by omega) (by omega) (by omega) (by omega)
            split
            · rw [w64 (by omega) (by omega), if_pos (by omega), if_pos (by omega)]
              exact is2_j2 _ hL
            · exact is2_j2 _ hL
          · exact is2_jt (by omega)
theorem is2_ends (a : Int) (l : List S69) (hl : l.length ≤ 4398046511104) : ∃ k r, veneerref2_Is.f k a l = some r := by
  obtain ⟨r, h⟩ := is2_l0 a l hl l.length 0 (20 * l.length + 1) (by omega) (by omega) (by omega) (by omega)
  refine ⟨20 * l.length + 2, ?_⟩
  simp only [veneerref2_Is.f]
  split
  · exact ⟨false, by simp [veneerref2_Is.j0]⟩
  · simp only [veneerref2_Is.j0]
    split
    · exact ⟨_, rfl⟩
    · exact ⟨r, h⟩
/-! ### Get -/
theorem rdT69 {l : List S69} {i : Int} {n : Nat} {x : S69} (h : i = n) (hx : l[n]? = some x) : rd_T69 l i = x := by
  subst h
  unfold rd_T69
  rw [Int.toNat_natCast, List.getD_eq_getElem?_getD, hx]; rfl
theorem rdT42 {l : List S42} {i : Int} {n : Nat} {x : S42} (h : i = n) (hx : l[n]? = some x) : rd_T42 l i = x := by
  subst h
  unfold rd_T42
  rw [Int.toNat_natCast, List.getD_eq_getElem?_getD, hx]; rfl
theorem rdT62 {l : List S62} {i : Int} {n : Nat} {x : S62} (h : i = n) (hx : l[n]? = some x) : rd_T62 l i = x := by
  subst h
  unfold rd_T62
  rw [Int.toNat_natCast, List.getD_eq_getElem?_getD, hx]; rfl
def FileOk (l : List S69) : Prop := l.length ≤ 4398046510976 ∧ ∀ x ∈ l, x.f1.length < 140737488355328
theorem copy_l (a : Int) (l : List S69) (hl : FileOk l) : ∀ (d i : Nat) (out : List S69) (k : Nat), i ≤ l.length → l.length - i = d → out.length = i → d < k → veneerref2_Copy.l0 k i a l a out = some (a, out ++ l.drop i) := by
  intro d
  induction d with
  | zero =>
    intro i out k h1 hd ho hk
    obtain ⟨k, rfl⟩ : ∃ m, k = m + 1 := ⟨k - 1, by omega⟩
    simp only [veneerref2_Copy.l0]
    rw [if_neg (by omega), List.drop_eq_nil_of_le (by omega), List.append_nil]
  | succ d ih =>
    intro i out k h1 hd ho hk
    obtain ⟨k, rfl⟩ : ∃ m, k = m + 1 := ⟨k - 1, by omega⟩
    have hlt : i < l.length := by omega
    have hx : l[i]? = some l[i] := List.getElem?_eq_getElem hlt
    have hm := hl.2 _ (List.getElem_mem hlt)
    have hll := hl.1
    have h2 := ih (i + 1) (out ++ [l[i]]) k (by omega) (by omega) (by simp; omega) (by omega)
    simp only [veneerref2_Copy.l0, Option.bind_some, List.length_nil, Nat.zero_add, List.nil_append]
    rw [rdT69 rfl hx, if_pos (by omega), if_pos (by omega), if_pos hm, if_pos (by omega), w64 (by omega) (by omega), show ((i : Int) + 1) = ((i + 1 : Nat) : Int) by omega, show (⟨l[i].f0, l[i].f1⟩ : S69) = l[i] from rfl, h2, List.append_assoc, List.singleton_append, ← List.drop_eq_getElem_cons hlt]
theorem copy_is {a : Int} {l : List S69} (hl : FileOk l) {k : Nat} (hk : l.length < k) : veneerref2_Copy.f k a l = some (a, l) := by
  simp only [veneerref2_Copy.f]
  have := copy_l a l hl l.length 0 [] k (by omega) (by omega) rfl hk
  simpa using this
structure NodeOk (x : S42) : Prop where
  file : FileOk x.f4.f1
  names : x.f6.length < 5864062014805
theorem node_is {x : S42} (h : NodeOk x) {k : Nat} (hk : x.f4.f1.length < k) : veneerref3_node.f k x.f0 x.f1 x.f2 x.f3 x.f4.f0 x.f4.f1 x.f5 x.f6 = some (x.f0, x.f1, x.f2, x.f3, x.f4.f0, x.f4.f1, x.f5, x.f6) := by
  simp only [veneerref3_node.f]
  rw [copy_is h.file hk]
  simp only [Option.bind_some, List.length_nil, Nat.zero_add, List.nil_append]
  rw [if_pos h.names]
abbrev G9 := Int × Int × Int × Int × Int × (List S69) × ByteArray × (List S62) × Bool
def gotN : Option S42 → G9
  | some x => (x.f0, x.f1, x.f2, x.f3, x.f4.f0, x.f4.f1, x.f5, x.f6, true)
  | none => (0, 0, 0, 0, 0, [], ⟨#[]⟩, [], false)
def getN (l : List S42) (x : Int) : Option S42 := l.find? fun y => y.f0 == x
def blocks (l : List S42) : Nat := l.foldr (fun x n => n + x.f4.f1.length) 0
theorem blocks_mem {l : List S42} {x : S42} (h : x ∈ l) : x.f4.f1.length ≤ blocks l := by
  induction l with
  | nil => cases h
  | cons y l ih =>
    simp only [blocks, List.foldr_cons]
    rcases List.mem_cons.1 h with rfl | h
    · omega
    · have := ih h; unfold blocks at this; omega
theorem get_l (a b c x : Int) (l : List S42) (hl : l.length ≤ 4398046511104) (hn : ∀ y ∈ l, NodeOk y) : ∀ (d i : Nat) (k : Nat), i ≤ l.length → l.length - i = d → d + blocks l < k →
    veneerref3_Get.l0 k x i a b c l = some (gotN ((l.drop i).find? fun y => y.f0 == x)) := by
  intro d
  induction d with
  | zero =>
    intro i k h1 hd hk
    obtain ⟨k, rfl⟩ : ∃ m, k = m + 1 := ⟨k - 1, by omega⟩
    simp only [veneerref3_Get.l0]
    rw [if_neg (by omega), List.drop_eq_nil_of_le (by omega)]
    rfl
  | succ d ih =>
    intro i k h1 hd hk
    obtain ⟨k, rfl⟩ : ∃ m, k = m + 1 := ⟨k - 1, by omega⟩
    have hlt : i < l.length := by omega
    have hx : l[i]? = some l[i] := List.getElem?_eq_getElem hlt
    have hm := List.getElem_mem hlt
    have h2 := ih (i + 1) k (by omega) (by omega) (by omega)
    simp only [veneerref3_Get.l0]
    rw [rdT42 rfl hx, if_pos (by omega), if_pos (by omega), List.drop_eq_getElem_cons hlt, List.find?_cons]
    by_cases he : l[i].f0 = x
    · rw [if_pos he, node_is (hn _ hm) (by have := blocks_mem hm; omega), show (l[i].f0 == x) = true from beq_iff_eq.2 he]
      rfl
    · rw [if_neg he, w64 (by omega) (by omega), show ((i : Int) + 1) = ((i + 1 : Nat) : Int) by omega, h2, show (l[i].f0 == x) = false from beq_eq_false_iff_ne.2 he]
theorem get_is (a b c x : Int) (l : List S42) (hl : l.length ≤ 4398046511104) (hn : ∀ y ∈ l, NodeOk y) {k : Nat} (hk : l.length + blocks l < k) : veneerref3_Get.f k a b c l x = some (gotN (getN l x)) := by
  have := get_l a b c x l hl hn l.length 0 k (by omega) (by omega) hk
  simp only [veneerref3_Get.f, getN]
  simpa using this
end Go.Proofs.YtaeakifdamlnlaaDoor.PMarkTells
/- What the printed functions answer: all come to an end (second file). -/
set_option linter.unusedVariables false
set_option linter.unusedSimpArgs false
namespace Go.Proofs.YtaeakifdamlnlaaDoor.PMarkTells
open Go.RowKit Go.Proofs.YtaeakifdamlnlaaDoorW.PrintWords Go.Proofs.YtaeakifdamlnlaaDoorW.PrintLast Go.Proofs.YtaeakifdamlnlaaDoorW.PrintMore
/-! ### has -/
theorem has_l (l : List Int) (x : Int) (hl : l.length ≤ 4398046511104) : ∀ (d i k : Nat), i ≤ l.length → l.length - i = d → d < k → veneerref3_has.l0 k l x i = some ((l.drop i).contains x) := by
  intro d
  induction d with
  | zero =>
    intro i k h1 hd hk
    obtain ⟨k, rfl⟩ : ∃ m, k = m + 1 := ⟨k - 1, by omega⟩
    simp only [veneerref3_has.l0]
    rw [if_neg (by omega), List.drop_eq_nil_of_le (by omega)]
    rfl
  | succ d ih =>
    intro i k h1 hd hk
    obtain ⟨k, rfl⟩ : ∃ m, k = m + 1 := ⟨k - 1, by omega⟩
    have hlt : i < l.length := by omega
    have hx : rd l i = l[i] := by unfold rd; rw [Int.toNat_natCast, List.getD_eq_getElem?_getD, List.getElem?_eq_getElem hlt]; rfl
    have h2 := ih (i + 1) k (by omega) (by omega) (by omega)
    simp only [veneerref3_has.l0]
    rw [hx, if_pos (by omega), if_pos (by omega), List.drop_eq_getElem_cons hlt, List.contains_cons]
    by_cases he : l[i] = x
    · rw [if_pos he, show (x == l[i]) = true from beq_iff_eq.2 he.symm]
      rfl
    · rw [if_neg he, w64 (by omega) (by omega), show ((i : Int) + 1) = ((i + 1 : Nat) : Int) by omega, h2, show (x == l[i]) = false from beq_eq_false_iff_ne.2 (Ne.symm he)]
      rfl
theorem has_is {l : List Int} {x : Int} (hl : l.length ≤ 4398046511104) {k : Nat} (hk : l.length < k) : veneerref3_has.f k l x = some (l.contains x) := by
  have := has_l l x hl l.length 0 k (by omega) (by omega) hk
  simp only [veneerref3_has.f]
  simpa using this
/-! ### named -/
def namesOf (l : List S42) : List S62 := l.flatMap fun x => x.f6
theorem namesOf_mem {l : List S42} {x : S42} (h : x ∈ l) : x.f6.length ≤ (namesOf l).length := by
  induction l with
  | nil => cases h
  | cons y l ih =>
    simp only [namesOf, List.flatMap_cons, List.length_append]
    rcases List.mem_cons.1 h with rfl | h
    · omega
    · have := ih h; unfold namesOf at this; omega
theorem many_l1 (a b c x i : Int) (l : List S42) (h0 : 0 ≤ i) (hi : i < l.length) (hl : l.length ≤ 4398046511104) (y : S42) (hy : rd_T42 l i = y) (hny : y.f6.length < 5864062014805) (F : Nat) (hn : ∀ acc k, F ≤ k → ∃ r, veneerref3_named.l0 k x acc (i + 1) a b c l = some r) :
    ∀ (e : Nat) (t acc : Int) (k : Nat), 0 ≤ t → t ≤ y.f6.length → (y.f6.length : Int) - t = e → F + e + 1 ≤ k → ∃ r, veneerref3_named.l1 k x acc i t a b c l = some r := by
  intro e
  induction e with
  | zero =>
    intro t acc k ht0 ht1 he hk
    obtain ⟨k, rfl⟩ : ∃ m, k = m + 1 := ⟨k - 1, by omega⟩
    simp only [veneerref3_named.l1]
    rw [hy, if_pos h0, if_pos hi, if_neg (by omega), w64 (x := i + 1) (by omega) (by omega)]
    exact hn acc k (by omega)
  | succ e ih =>
    intro t acc k ht0 ht1 he hk
    obtain ⟨k, rfl⟩ : ∃ m, k = m + 1 := ⟨k - 1, by omega⟩
    have h2 := fun acc => ih (t + 1) acc k (by omega) (by omega) (by omega) (by omega)
    simp only [veneerref3_named.l1]
    rw [hy, if_pos h0, if_pos hi, if_pos (by omega), if_pos ht0, w64 (x := t + 1) (by omega) (by omega)]
    split
    · exact h2 _
    · exact h2 _
theorem many_l0 (a b c x : Int) (l : List S42) (hl : l.length ≤ 4398046511104) (hn : ∀ y ∈ l, NodeOk y) : ∀ (d i : Nat) (acc : Int) (k : Nat), i ≤ l.length → l.length - i = d → d * ((namesOf l).length + 2) + 1 ≤ k →
    ∃ r, veneerref3_named.l0 k x acc i a b c l = some r := by
  intro d
  induction d with
  | zero =>
    intro i acc k h1 hd hk
    obtain ⟨k, rfl⟩ : ∃ m, k = m + 1 := ⟨k - 1, by omega⟩
    simp only [veneerref3_named.l0]
    rw [if_neg (by omega)]
    exact ⟨_, rfl⟩
  | succ d ih =>
    intro i acc k h1 hd hk
    obtain ⟨k, rfl⟩ : ∃ m, k = m + 1 := ⟨k - 1, by omega⟩
    have hlt : i < l.length := by omega
    have hx : l[i]? = some l[i] := List.getElem?_eq_getElem hlt
    have hm := namesOf_mem (List.getElem_mem hlt)
    have hm2 := (hn _ (List.getElem_mem hlt)).names
    rw [Nat.add_mul, Nat.one_mul] at hk
    simp only [veneerref3_named.l0]
    rw [if_pos (by omega)]
    exact many_l1 a b c x i l (by omega) (by omega) hl _ (rdT42 rfl hx) (by omega) (d * ((namesOf l).length + 2) + 1) (fun acc k hk => by have := ih (i + 1) acc k (by omega) (by omega) hk; simpa using this) l[i].f6.length 0 acc k (by omega) (by omega) (by omega) (by omega)
theorem many_ends (a b c x : Int) (l : List S42) (hl : l.length ≤ 4398046511104) (hn : ∀ y ∈ l, NodeOk y) : ∃ k r, veneerref3_named.f k a b c l x = some r := by
  obtain ⟨r, h⟩ := many_l0 a b c x l hl hn l.length 0 0 _ (by omega) (by omega) (Nat.le_refl _)
  exact ⟨_, r, h⟩
/-! ### reached -/
theorem nodup_len {α : Type} : ∀ (l m : List α), l.Nodup → (∀ x ∈ l, x ∈ m) → l.length ≤ m.length
  | [], m, _, _ => Nat.zero_le _
  | x :: l, m, hd, hs => by
    obtain ⟨h1, h2⟩ := List.nodup_cons.1 hd
    obtain ⟨s, t, rfl⟩ := List.append_of_mem (hs x (List.mem_cons_self ..))
    have := nodup_len l (s ++ t) h2 fun y hy => by
      have := hs y (List.mem_cons_of_mem _ hy)
      simp only [List.mem_append, List.mem_cons] at this ⊢
      rcases this with h | h | h
      · exact .inl h
      · subst h; exact absurd hy h1
      · exact .inr h
    simp only [List.length_cons, List.length_append] at this ⊢
    omega
def inos (l : List S42) : List Int := l.map fun x => x.f0
structure Seen (l : List S42) (r : List Int) : Prop where
  nd : r.Nodup
  sub : ∀ x ∈ r, x ∈ inos l
theorem Seen.len {l : List S42} {r : List Int} (h : Seen l r) : r.length ≤ l.length := by
  have := nodup_len _ _ h.nd h.sub
  simpa [inos] using this
theorem Seen.and {l : List S42} {r : List Int} (h : Seen l r) {x : Int} (hx : x ∈ inos l) (hno : r.contains x = false) : Seen l (r ++ [x]) := by
  refine ⟨?_, ?_⟩
  · rw [List.nodup_append]
    refine ⟨h.nd, by simp, ?_⟩
    intro a ha b hb e
    simp only [List.mem_singleton] at hb
    subst hb; subst e
    have : r.contains a = true := List.contains_iff_mem.2 ha
    rw [this] at hno; cases hno
  · intro y hy
    rcases List.mem_append.1 hy with h1 | h1
    · exact h.sub y h1
    · simp only [List.mem_singleton] at h1
      subst h1; exact hx
structure Disk' (l : List S42) : Prop where
  len : l.length ≤ 4398046511104
  ok : ∀ y ∈ l, NodeOk y
  sub : ∀ y ∈ l, ∀ z ∈ y.f6, z.f1 ∈ inos l
theorem gotN_mem {l : List S42} {x : Int} {g : G9} (hg : gotN (getN l x) = g) : (∃ y ∈ l, y.f0 = x ∧ g.2.2.2.2.2.2.2.1 = y.f6) ∨ g.2.2.2.2.2.2.2.1 = [] := by
  subst hg
  cases h : getN l x with
  | none => exact .inr rfl
  | some y => exact .inl ⟨y, List.mem_of_find?_eq_some h, by have := List.find?_some h; simpa using this, rfl⟩
/-- what is reached with so many names left: an answer, whose numbers are seen -/
def Reach (a b c : Int) (l : List S42) (d F : Nat) : Prop := ∀ (x : Int) (r : List Int) (k : Nat), Seen l r → F ≤ k → ∃ r' q, veneerref3_reached.f k a b c l x d r = some (r', q) ∧ Seen l r'
theorem reached_l (a b c : Int) (l : List S42) (hd : Disk' l) (d F : Nat) (h0 : 0 < d) (hd2 : d ≤ 100) (hR : Reach a b c l (d - 1) F) (g1 g2 g3 g4 g5 : Int) (g6 : List S69) (g7 : ByteArray) (N : List S62) (hN : N = [] ∨ ∃ y ∈ l, N = y.f6) :
    ∀ (e i : Nat) (r : List Int) (k : Nat), i ≤ N.length → N.length - i = e → Seen l r → F + e + l.length + 3 ≤ k → ∃ r' q, veneerref3_reached.l0 k d r i a b c l g1 g2 g3 g4 g5 g6 g7 N = some (r', q) ∧ Seen l r' := by
  have hNl : N.length ≤ (namesOf l).length := by
    rcases hN with rfl | ⟨y, hy, rfl⟩
    · exact Nat.zero_le _
    · exact namesOf_mem hy
  intro e
  induction e with
  | zero =>
    intro i r k h1 he hs hk
    obtain ⟨k, rfl⟩ : ∃ m, k = m + 1 := ⟨k - 1, by omega⟩
    simp only [veneerref3_reached.l0]
    rw [if_neg (by omega)]
    exact ⟨r, true, rfl, hs⟩
  | succ e ih =>
    intro i r k h1 he hs hk
    obtain ⟨k, rfl⟩ : ∃ m, k = m + 1 := ⟨k - 1, by omega⟩
    have hlt : i < N.length := by omega
    have hx : N[i]? = some N[i] := List.getElem?_eq_getElem hlt
    have hino : N[i].f1 ∈ inos l := by
      rcases hN with rfl | ⟨y, hy, rfl⟩
      · exact absurd hlt (Nat.not_lt_zero _)
      · exact hd.sub y hy _ (List.getElem_mem hlt)
    have hlen := hs.len
    have hdl := hd.len
    have hN5 : N.length < 5864062014805 := by
      rcases hN with rfl | ⟨y, hy, rfl⟩
      · exact absurd hlt (Nat.not_lt_zero _)
      · exact (hd.ok y hy).names
    simp only [veneerref3_reached.l0]
    rw [rdT62 rfl hx, if_pos (by omega), if_pos (by omega), has_is (by omega) (by omega)]
    simp only [Option.bind_some, List.length_nil, Nat.zero_add, List.nil_append, List.length_singleton]
    cases hc : r.contains N[i].f1 with
    | true =>
      rw [if_pos rfl, w64 (by omega) (by omega)]
      exact ih (i + 1) r k (by omega) (by omega) hs (by omega)
    | false =>
      obtain ⟨r', q, h2, h3⟩ := hR N[i].f1 (r ++ [N[i].f1]) k (hs.and hino hc) (by omega)
      rw [if_neg (by simp), if_pos (by omega), if_pos (by omega), w64 (x := (d : Int) - 1) (by omega) (by omega), show ((d : Int) - 1) = ((d - 1 : Nat) : Int) by omega, h2]
      simp only [Option.bind_some]
      cases q with
      | true =>
        rw [if_pos rfl, w64 (by omega) (by omega)]
        exact ih (i + 1) r' k (by omega) (by omega) h3 (by omega)
      | false =>
        rw [if_neg (by simp)]
        exact ⟨r', false, rfl, h3⟩
theorem reached_is (a b c : Int) (l : List S42) (hd : Disk' l) : ∀ d, d ≤ 100 → ∃ F, Reach a b c l d F := by
  intro d
  induction d with
  | zero =>
    intro _
    refine ⟨l.length + blocks l + (namesOf l).length + 10, fun x r k hs hk => ?_⟩
    obtain ⟨k, rfl⟩ : ∃ m, k = m + 2 := ⟨k - 2, by omega⟩
    simp only [veneerref3_reached.f]
    rw [get_is a b c x l hd.len hd.ok (by omega)]
    simp only [Option.bind_some]
    rw [if_pos (by simp)]
    generalize hg : gotN (getN l x) = g
    simp only [veneerref3_reached.j0]
    split
    · exact ⟨r, false, rfl, hs⟩
    · rename_i hl
      obtain ⟨k, rfl⟩ : ∃ m, k = m + 1 := ⟨k - 1, by omega⟩
      simp only [veneerref3_reached.l0]
      rw [if_neg (by simpa using hl)]
      exact ⟨r, true, rfl, hs⟩
  | succ d ih =>
    intro hd2
    obtain ⟨F, hF⟩ := ih (by omega)
    refine ⟨F + 2 * (namesOf l).length + 2 * l.length + blocks l + 10, fun x r k hs hk => ?_⟩
    obtain ⟨k, rfl⟩ : ∃ m, k = m + 2 := ⟨k - 2, by omega⟩
    simp only [veneerref3_reached.f]
    rw [get_is a b c x l hd.len hd.ok (by omega)]
    simp only [Option.bind_some]
    rw [if_neg (by omega)]
    generalize hg : gotN (getN l x) = g
    simp only [veneerref3_reached.j0]
    rw [if_neg (by simp)]
    have hN : g.2.2.2.2.2.2.2.1 = [] ∨ ∃ y ∈ l, g.2.2.2.2.2.2.2.1 = y.f6 := by
      rcases gotN_mem hg with ⟨y, h1, _, h2⟩ | h
      · exact .inr ⟨y, h1, h2⟩
      · exact .inl h
    have hNl : g.2.2.2.2.2.2.2.1.length ≤ (namesOf l).length := by
      rcases hN with h | ⟨y, hy, h⟩
      · rw [h]; exact Nat.zero_le _
      · rw [h]; exact namesOf_mem hy
    exact reached_l a b c l hd (d + 1) F (by omega) hd2 hF _ _ _ _ _ _ _ _ hN _ 0 r k (by omega) rfl hs (by omega)
theorem reached_ends (a b c : Int) (l : List S42) (hd : Disk' l) (h1 : 1 ∈ inos l) : ∃ k r q, veneerref3_reached.f k a b c l 1 16 [1] = some (r, q) := by
  obtain ⟨F, hF⟩ := reached_is a b c l hd 16 (by omega)
  obtain ⟨r, q, h, _⟩ := hF 1 [1] F ⟨by simp, by simpa using h1⟩ (Nat.le_refl _)
  exact ⟨F, r, q, h⟩
/-! ### a name in a directory -/
theorem toList_inj {x y : ByteArray} : x.toList = y.toList ↔ x = y := by
  constructor
  · intro h
    rw [ByteArray.toList_eq, ByteArray.toList_eq] at h
    exact ByteArray.ext (Array.toList_inj.1 h)
  · rintro rfl; rfl
def hasNm (N : List S62) (s : ByteArray) : Bool := N.any fun z => decide (z.f0 = s)
theorem name_l (s : ByteArray) (g1 g2 g3 g4 g5 : Int) (g6 : List S69) (g7 : ByteArray) (N : List S62) (hl : N.length < 5864062014805) : ∀ (d i k : Nat), i ≤ N.length → N.length - i = d → d < k →
    ∃ u, veneerref5_Name.l0 k s i g1 g2 g3 g4 g5 g6 g7 N = some (u, hasNm (N.drop i) s) := by
  intro d
  induction d with
  | zero =>
    intro i k h1 hd hk
    obtain ⟨k, rfl⟩ : ∃ m, k = m + 1 := ⟨k - 1, by omega⟩
    simp only [veneerref5_Name.l0]
    rw [if_neg (by omega), List.drop_eq_nil_of_le (by omega)]
    exact ⟨0, rfl⟩
  | succ d ih =>
    intro i k h1 hd hk
    obtain ⟨k, rfl⟩ : ∃ m, k = m + 1 := ⟨k - 1, by omega⟩
    have hlt : i < N.length := by omega
    have hx : N[i]? = some N[i] := List.getElem?_eq_getElem hlt
    obtain ⟨u, h2⟩ := ih (i + 1) k (by omega) (by omega) (by omega)
    simp only [veneerref5_Name.l0]
    rw [rdT62 rfl hx, if_pos (by omega), if_pos (by omega), List.drop_eq_getElem_cons hlt]
    by_cases he : N[i].f0 = s
    · rw [if_pos (by rw [he])]
      exact ⟨N[i].f1, by rw [show hasNm (N[i] :: N.drop (i + 1)) s = true from by unfold hasNm; rw [List.any_cons, decide_eq_true he]; rfl]⟩
    · rw [if_neg (fun h => he (toList_inj.1 h)), w64 (by omega) (by omega), show ((i : Int) + 1) = ((i + 1 : Nat) : Int) by omega, h2]
      exact ⟨u, by rw [show hasNm (N[i] :: N.drop (i + 1)) s = hasNm (N.drop (i + 1)) s from by unfold hasNm; rw [List.any_cons, decide_eq_false he]; rfl]⟩
theorem name_is (s : ByteArray) (g1 g2 g3 g4 g5 : Int) (g6 : List S69) (g7 : ByteArray) (N : List S62) (hl : N.length < 5864062014805) {k : Nat} (hk : N.length < k) : ∃ u, veneerref5_Name.f k g1 g2 g3 g4 g5 g6 g7 N s = some (u, hasNm N s) := by
  have := name_l s g1 g2 g3 g4 g5 g6 g7 N hl N.length 0 k (by omega) (by omega) hk
  simp only [veneerref5_Name.f]
  simpa using this
/-- has a directory a name? -/
def hasD (l : List S42) (x : Int) (s : ByteArray) : Bool := match getN l x with
  | some y => hasNm y.f6 s && (y.f1 == 2)
  | none => false
theorem has10_ends (a b c x : Int) (l : List S42) (hd : Disk' l) (s : ByteArray) : ∃ k, veneerref10_has.f k a b c l x s = some (hasD l x s) := by
  refine ⟨l.length + blocks l + (namesOf l).length + 10, ?_⟩
  simp only [veneerref10_has.f]
  rw [get_is a b c x l hd.len hd.ok (by omega)]
  simp only [Option.bind_some]
  unfold hasD
  cases hg : getN l x with
  | none =>
    obtain ⟨u, h⟩ := name_is s 0 0 0 0 0 [] ⟨#[]⟩ [] (by simp) (k := l.length + blocks l + (namesOf l).length + 10) (by simp)
    simp only [gotN]
    rw [h]
    rfl
  | some y =>
    have hy : y ∈ l := List.mem_of_find?_eq_some hg
    have hyl := namesOf_mem hy
    have hyo := (hd.ok y hy).names
    obtain ⟨u, h⟩ := name_is s y.f0 y.f1 y.f2 y.f3 y.f4.f0 y.f4.f1 y.f5 y.f6 (by omega) (k := l.length + blocks l + (namesOf l).length + 10) (by omega)
    simp only [gotN]
    rw [h]
    simp only [Option.bind_some]
    cases hasNm y.f6 s with
    | true => rw [if_pos rfl]; rfl
    | false => rw [if_neg (by simp)]; rfl
def whP (s : ByteArray) : ByteArray := (⟨#[46, 119, 104, 46]⟩ : ByteArray) ++ s
theorem hides10_ends (a b c x : Int) (l : List S42) (hd : Disk' l) (s : ByteArray) (hs : s.size ≤ 40) : ∃ k, veneerref10_Hides.f k a b c l x s = some (hasD l x (whP s)) := by
  obtain ⟨k, h⟩ := has10_ends a b c x l hd (whP s)
  refine ⟨k, ?_⟩
  simp only [veneerref10_Hides.f, veneerref10_White.f]
  rw [if_pos (by omega)]
  simp only [Option.bind_some]
  unfold whP at h ⊢
  rw [h]
  rfl
theorem cuts10_ends (a b c x : Int) (l : List S42) (hd : Disk' l) : ∃ k, veneerref10_Cuts.f k a b c l x = some (hasD l x ⟨#[46, 119, 104, 46, 46, 119, 104, 46, 46, 111, 112, 113]⟩) := by
  obtain ⟨k, h⟩ := has10_ends a b c x l hd ⟨#[46, 119, 104, 46, 46, 119, 104, 46, 46, 111, 112, 113]⟩
  refine ⟨k, ?_⟩
  simp only [veneerref10_Cuts.f]
  rw [h]
  rfl
end Go.Proofs.YtaeakifdamlnlaaDoor.PMarkTells
