/- The two paths that the law parses. -/
import Derived.Test.YtanhagilpecnkaaDoorPB4
import Derived.ChangeAgain
set_option linter.unusedVariables false
set_option linter.unusedSimpArgs false
set_option maxRecDepth 100000
namespace Go.Proofs.YtanhagilpecnkaaDoor
open Go.RowKit Go.Proofs.YtanhagilpecnkaaDoor.PathBack Go.Lib Go.Deep
theorem shaped_on {w w' : World} (h : w.ShapedOpen Tryd.prog) (hb : Below w.heap.size w w') : w'.ShapedOpen Tryd.prog := h.keptBut (hb.frame (fun _ => False)) (fun p hp => hp.elim)
theorem index_none (c : UInt8) (p : List UInt8) (h : c ∉ p) : index p [c] = -1 := by
  induction p with
  | nil => rfl
  | cons b l ih =>
    have hb : (c == b) = false := by rw [beq_eq_false_iff_ne]; rintro rfl; exact h List.mem_cons_self
    have hl := ih (fun e => h (List.mem_cons_of_mem _ e))
    simp [index, List.isPrefixOf, hb, hl]
theorem mem_strokes {c : UInt8} {ps : List (List UInt8)} (h : c ∈ strokes ps) : c = 47 ∨ ∃ q ∈ ps, c ∈ q := by
  unfold strokes at h
  rw [List.mem_flatMap] at h
  obtain ⟨q, hq, hc⟩ := h
  rcases List.mem_cons.1 hc with e | e
  · exact .inl e
  · exact .inr ⟨q, hq, e⟩
theorem map_data_inj : ∀ (a b : List ByteArray), a.map (·.data.toList) = b.map (·.data.toList) → a = b
  | [], [], _ => rfl
  | [], _ :: _, h => by simp at h
  | _ :: _, [], h => by simp at h
  | x :: a, y :: b, h => by
    simp only [List.map_cons, List.cons.injEq] at h
    rw [map_data_inj a b h.2, show x = y from ByteArray.ext (Array.toList_inj.mp h.1)]
theorem parseParts (T : ByteArray) (qs out : List ByteArray) (hT : T.data.toList = strokes (qs.map (·.data.toList))) (hne : qs ≠ []) (hq : ∀ q ∈ qs, (47 : UInt8) ∉ q.data.toList ∧ (0 : UInt8) ∉ q.data.toList) (hsz : T.size ≤ 120)
    (hw : PathBack.walk [] (⟨#[]⟩ :: qs) = some out) (w : World) (hS : w.ShapedOpen Tryd.prog) :
    Calls Tryd.prog 5 #[.string T] w fun e w' => ∃ v, e = .returned (.tuple #[v, .int .i64 0]) ∧ Row w' v out ∧ Below w.heap.size w w' := by
  refine parse T (⟨#[]⟩ :: qs) out w hS ?_ ?_ hsz ?_ hw
  · rw [hT]
    cases qs with
    | nil => exact absurd rfl hne
    | cons q r => simp [strokes, hasPrefix]
  · unfold contains
    rw [index_none 0]
    · rfl
    · rw [hT]
      intro h
      rcases mem_strokes h with e | ⟨q, hq', hc⟩
      · exact absurd e (by decide)
      · obtain ⟨y, hy, rfl⟩ := List.mem_map.1 hq'
        exact (hq y hy).2 hc
  · have h1 := splitB_data ⟨#[47]⟩ 0 (countB T ⟨#[47]⟩) T
    have h2 := split_strokes (qs.map (·.data.toList)) [] (by simp) (fun q hq' => by obtain ⟨y, hy, rfl⟩ := List.mem_map.1 hq'; exact (hq y hy).1)
    have h3 : (splitB ⟨#[47]⟩ 0 (countB T ⟨#[47]⟩) T).map (·.data.toList) = ((⟨#[]⟩ : ByteArray) :: qs).map (·.data.toList) := by
      rw [h1]
      show splitK [47] 0 (count T.data.toList [47]) T.data.toList = _
      rw [hT]
      simpa using h2
    exact map_data_inj _ _ h3
theorem no_ {s : ByteArray} (h : Named s) : (47 : UInt8) ∉ s.data.toList ∧ (0 : UInt8) ∉ s.data.toList := ⟨fun e => (h.1 _ e).1 rfl, fun e => (h.1 _ e).2 rfl⟩
theorem mem_parts {dots : Bool} {l : List ByteArray} {q : ByteArray} (h : q ∈ parts dots l) : q ∈ l ∨ q = ⟨#[46]⟩ := by
  unfold parts at h
  rw [List.mem_flatMap] at h
  obtain ⟨x, hx, hq⟩ := h
  cases dots
  · simp at hq; subst hq; exact .inl hx
  · simp at hq; rcases hq with rfl | rfl
    · exact .inl hx
    · exact .inr rfl
/-- the text that the law builds of names -/
def textOf (dots : Bool) (l : List ByteArray) : ByteArray := ⟨⟨strokes ((parts dots l).map (·.data.toList))⟩⟩
theorem strokes_append (a b : List (List UInt8)) : strokes (a ++ b) = strokes a ++ strokes b := by simp [strokes]
theorem textOf_snoc_f (l : List ByteArray) (x : ByteArray) : textOf false (l ++ [x]) = textOf false l ++ ⟨#[47]⟩ ++ x := by
  apply ByteArray.ext
  rw [ByteArray.data_append, ByteArray.data_append]
  apply Array.toList_inj.mp
  simp [textOf, parts, strokes_append, strokes]
theorem textOf_snoc_t (l : List ByteArray) (x : ByteArray) : textOf true (l ++ [x]) = textOf true l ++ ⟨#[47]⟩ ++ x ++ ⟨#[47, 46]⟩ := by
  apply ByteArray.ext
  rw [ByteArray.data_append, ByteArray.data_append, ByteArray.data_append]
  apply Array.toList_inj.mp
  simp [textOf, parts, strokes_append, strokes]
theorem parseFirst (dots : Bool) (l : List ByteArray) (more : ByteArray) (hl : ∀ x ∈ l, Named x) (hm : Named more) (hn : l.length ≤ 8) (hsz : (textOf dots l).size + more.size ≤ 110) (w : World) (hS : w.ShapedOpen Tryd.prog) :
    Calls Tryd.prog 5 #[.string (textOf dots l ++ ⟨#[47, 47]⟩ ++ more ++ ⟨#[47, 46, 46, 47]⟩)] w fun e w' => ∃ v, e = .returned (.tuple #[v, .int .i64 0]) ∧ Row w' v l ∧ Below w.heap.size w w' := by
  refine parseParts _ (parts dots l ++ [⟨#[]⟩, more, ⟨#[46, 46]⟩, ⟨#[]⟩]) l ?_ (by simp) ?_ ?_ (walk_all dots l more hl hm hn) w hS
  · rw [ByteArray.data_append, ByteArray.data_append, ByteArray.data_append]
    simp [textOf, strokes_append, strokes]
  · intro q hq
    rcases List.mem_append.1 hq with h | h
    · rcases mem_parts h with h | rfl
      · exact no_ (hl q h)
      · exact ⟨by decide, by decide⟩
    · simp only [List.mem_cons, List.mem_nil_iff, or_false] at h
      rcases h with rfl | rfl | rfl | rfl
      · exact ⟨by decide, by decide⟩
      · exact no_ hm
      · exact ⟨by decide, by decide⟩
      · exact ⟨by decide, by decide⟩
  · have e1 : (⟨#[47, 47]⟩ : ByteArray).size = 2 := rfl
    have e2 : (⟨#[47, 46, 46, 47]⟩ : ByteArray).size = 4 := rfl
    rw [ByteArray.size_append, ByteArray.size_append, ByteArray.size_append, e1, e2]
    omega
theorem parseSecond (l : List ByteArray) (hl : ∀ x ∈ l, Named x) (hn : l.length ≤ 8) (hsz : (join (l.map (·.data.toList)) [47]).length ≤ 100) (w : World) (hS : w.ShapedOpen Tryd.prog) :
    Calls Tryd.prog 5 #[.string ⟨⟨47 :: join (l.map (·.data.toList)) [47]⟩⟩] w fun e w' => ∃ v, e = .returned (.tuple #[v, .int .i64 0]) ∧ Row w' v l ∧ Below w.heap.size w w' := by
  have hsz' : (⟨⟨47 :: join (l.map (·.data.toList)) [47]⟩⟩ : ByteArray).size ≤ 120 := by
    show (47 :: join (l.map (·.data.toList)) [47]).length ≤ 120
    rw [List.length_cons]; omega
  cases l with
  | nil =>
    refine parseParts _ [⟨#[]⟩] [] rfl (by simp) ?_ hsz' (by decide) w hS
    intro q hq
    simp at hq; subst hq
    exact ⟨by decide, by decide⟩
  | cons x r =>
    refine parseParts _ (x :: r) (x :: r) ?_ (by simp) (fun q hq => no_ (hl q hq)) hsz' (walk_plain (x :: r) hl hn) w hS
    rw [List.map_cons, join_strokes]
    simp [strokes]
end Go.Proofs.YtanhagilpecnkaaDoor
