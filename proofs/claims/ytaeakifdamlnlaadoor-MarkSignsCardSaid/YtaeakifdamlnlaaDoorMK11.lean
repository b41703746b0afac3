import Derived.Test.YtaeakifdamlnlaaDoorMK10
set_option linter.unusedVariables false
set_option linter.unusedSimpArgs false
set_option maxRecDepth 100000
namespace Go.Proofs.YtaeakifdamlnlaaDoor.markSigns
open Go.RowKit Go.Proofs.YtaeakifdamlnlaaDoor.Ev
theorem pre_toList (s : ByteArray) : (pre ++ s).toList = 46 :: 119 :: 104 :: 46 :: s.toList := by
  rw [ByteArray.toList_eq, ByteArray.toList_eq, ByteArray.data_append, Array.toList_append]
  rfl
theorem toList_inj {x y : ByteArray} (h : x.toList = y.toList) : x = y := by
  rw [ByteArray.toList_eq, ByteArray.toList_eq] at h
  exact ByteArray.ext (Array.toList_inj.mp h)
theorem pre_inj {x y : ByteArray} : pre ++ x = pre ++ y ↔ x = y := by
  constructor
  · intro h
    have := congrArg ByteArray.toList h
    rw [pre_toList, pre_toList] at this
    simp only [List.cons.injEq, true_and] at this
    exact toList_inj this
  · rintro rfl; rfl
theorem beq_decide (x : ByteArray) (l : List UInt8) : (x.toList == l) = decide (x = ⟨⟨l⟩⟩) := by
  have : x.toList = l ↔ x = ⟨⟨l⟩⟩ := by
    constructor
    · intro h
      apply toList_inj
      rw [h, ByteArray.toList_eq]
    · rintro rfl
      rw [ByteArray.toList_eq]
  rw [Bool.eq_iff_iff, beq_iff_eq, decide_eq_true_eq]
  exact this
theorem left_of {z : ByteArray} {d : Value} {W : World} {b : Bool} {f : Nat} {vs : Array Value} (h : D1 z W d) (hc : Calls Tryd.prog f vs W fun e w' => e = .returned (.bool b) ∧ Below W.heap.size W w') : Calls Tryd.prog f vs W (Left z d W b) :=
  hc.mono fun e w' ⟨h1, h2⟩ => ⟨h1, h.on h2, h2⟩
theorem lawSigns (name other : ByteArray) (hn : name.size ≤ 9223372036854775807) (ho : other.size ≤ 9223372036854775807) (w : World) :
    Calls Tryd.prog 4 #[.string name, .string other] w fun e w' => e = .returned (.bool true) ∧ Below w.heap.size w w' := by
  by_cases s1 : name.size ≤ 20
  · by_cases s2 : other.size ≤ 20
    · refine main name other (pre ++ name) hn ho s1 s2 _ _ _ _ rfl rfl rfl rfl (fun W => white name (by omega) W) (fun W A k h => left_of h ?_) (fun W A k h => left_of h ?_) (fun W A k h => left_of h ?_) (fun W => kept name (by omega) W) (fun h3 W => ?_) ?_ knc.told w
      · refine (hides (pre ++ name) name (by omega) 5 5 3 A 2 k W fun V hV => getC _ V _ (h.on hV)).mono fun e w' ⟨h1, h2⟩ => ⟨?_, h2⟩
        rw [h1]; simp
      · refine (hides (pre ++ name) other (by omega) 5 5 3 A 2 k W fun V hV => getC _ V _ (h.on hV)).mono fun e w' ⟨h1, h2⟩ => ⟨?_, h2⟩
        rw [h1]
        have : decide (pre ++ name = pre ++ other) = (name.toList == other.toList) := by
          rw [Bool.eq_iff_iff, beq_iff_eq, decide_eq_true_eq, pre_inj]
          exact ⟨fun e => by rw [e], toList_inj⟩
        rw [this]
      · refine (cuts (pre ++ name) 5 5 3 A 2 k W (fun V hV => getC _ V _ (h.on hV)) _ rfl).mono fun e w' ⟨h1, h2⟩ => ⟨?_, h2⟩
        rw [h1, beq_decide]
      · have : ∃ y : ByteArray, y.size ≤ 40 ∧ name = pre ++ y := by
          simp only [Bool.or_eq_true, beq_iff_eq, pre_toList, List.cons.injEq, true_and] at h3
          rcases h3 with (h3 | h3) | h3
          · exact ⟨⟨#[46, 111, 112, 113]⟩, by decide, toList_inj (by rw [h3, pre_toList, ByteArray.toList_eq])⟩
          · exact ⟨⟨#[120, 105, 110, 111]⟩, by decide, toList_inj (by rw [h3, pre_toList, ByteArray.toList_eq])⟩
          · exact ⟨⟨#[104, 101, 108, 100]⟩, by decide, toList_inj (by rw [h3, pre_toList, ByteArray.toList_eq])⟩
        obtain ⟨y, hy, e⟩ := this
        rw [e]
        exact kept y hy W
      · simp only [pre_toList, beq_iff_eq, beq_eq_false_iff_ne, ne_eq, List.cons.injEq, true_and]
        generalize name.toList = l
        by_cases h1 : l = [46, 119, 104, 46, 46, 111, 112, 113]
        · subst h1; simp
        · by_cases h2 : l = [46, 119, 104, 46, 120, 105, 110, 111]
          · subst h2; simp
          · by_cases h4 : l = [46, 119, 104, 46, 104, 101, 108, 100]
            · subst h4; simp
            · simp [h1, h2, h4]
    · exact longer2 name other hn ho s1 (by omega) w
  · exact longer1 name other hn ho (by omega) w
end Go.Proofs.YtaeakifdamlnlaaDoor.markSigns
