/- The walk of the law PathBack. -/
import Derived.Test.YtanhagilpecnkaaDoorPB5
set_option linter.unusedVariables false
set_option linter.unusedSimpArgs false
set_option maxRecDepth 100000
namespace Go.Proofs.YtanhagilpecnkaaDoor
open Go.RowKit Go.Proofs.YtanhagilpecnkaaDoor.PathBack Go.Lib Go.Deep
set_option maxHeartbeats 1000000 in
/-- too many names: nothing is said -/
theorem many (A : Option Addr) (n cap : Nat) (dots : Bool) (more : ByteArray) (w : World) (hn : 8 < n) :
    Calls Tryd.prog 3 #[.slice A n cap, .bool dots, .string more] w fun e w' => e = .returned (.bool true) ∧ Below w.heap.size w w' := by
  have h1 : 8 < (n : Int) := by omega
  have h2 : decide ((n : Int) > 8) = true := decide_eq_true h1
  clear hn
  go_enter Tryd.func3, Tryd.ntmps3
  go_wp2
  go_ret
  exact ⟨rfl, Below.refl _ _⟩
theorem size_textOf (dots : Bool) : ∀ l : List ByteArray, (∀ x ∈ l, x.size ≤ 6) → (textOf dots l).size ≤ 9 * l.length
  | [], _ => by cases dots <;> exact Nat.le_refl _
  | x :: l, h => by
    have ih := size_textOf dots l fun y hy => h y (List.mem_cons_of_mem _ hy)
    have hx := h x List.mem_cons_self
    have hs : x.data.toList.length = x.size := Array.length_toList
    have e : (textOf dots (x :: l)).size = (textOf dots l).size + (1 + x.size + if dots then 2 else 0) := by
      show (strokes ((parts dots (x :: l)).map (·.data.toList))).length = (strokes ((parts dots l).map (·.data.toList))).length + _
      cases dots
      · simp [parts, strokes, hs]; omega
      · simp [parts, strokes, hs]; omega
    rw [e, List.length_cons]
    cases dots <;> simp <;> omega
theorem size_join : ∀ l : List ByteArray, (∀ x ∈ l, x.size ≤ 6) → (join (l.map (·.data.toList)) [47]).length ≤ 7 * l.length
  | [], _ => by simp [join_nil]
  | x :: l, h => by
    have hs : x.data.toList.length = x.size := Array.length_toList
    have hx := h x List.mem_cons_self
    rw [List.map_cons, join_strokes, List.length_append]
    have : ∀ r : List ByteArray, (∀ y ∈ r, y.size ≤ 6) → (strokes (r.map (·.data.toList))).length ≤ 7 * r.length := by
      intro r
      induction r with
      | nil => intro _; simp [strokes]
      | cons y r ih =>
        intro hr
        have h1 := ih fun z hz => hr z (List.mem_cons_of_mem _ hz)
        have h2 := hr y List.mem_cons_self
        have h3 : y.data.toList.length = y.size := Array.length_toList
        simp only [List.map_cons, strokes, List.flatMap_cons, List.length_append, List.length_cons] at h1 ⊢
        omega
    have h1 := this l fun y hy => h y (List.mem_cons_of_mem _ hy)
    simp only [List.length_cons]
    omega
set_option maxHeartbeats 8000000 in
theorem law (A : Option Addr) (cap : Nat) (l : List ByteArray) (dots : Bool) (more : ByteArray) (w : World) (hS : w.ShapedOpen Tryd.prog) (hr : Row w (.slice A l.length cap) l) (h8 : l.length ≤ 8) (hx : ∀ x ∈ l, x.size ≤ 9223372036854775807)
    (hm : more.size ≤ 9223372036854775807) (hK : ∀ W, Calls Tryd.prog 10 #[] W fun e w' => e = .returned (.bool true) ∧ Below W.heap.size W w') :
    Calls Tryd.prog 3 #[.slice A l.length cap, .bool dots, .string more] w fun e w' => e = .returned (.bool true) ∧ Below w.heap.size w w' := by
  have hc4 := fun W => named more hm W
  have h1 : ¬ 8 < (l.length : Int) := by omega
  have h2 : decide ((l.length : Int) > 8) = false := decide_eq_false h1
  have R : Aside (Row w (.slice A l.length cap) l) := hr
  have X : Aside (∀ x ∈ l, x.size ≤ 9223372036854775807) := hx
  have SH : Aside (w.ShapedOpen Tryd.prog) := hS
  clear hr hx hS
  go_enter Tryd.func3, Tryd.ntmps3
  go_wp2_with (go_at_call_of 4 (Value.string more); go_must (refine (hc4 _).mono ?_; rintro e w' ⟨⟨q, rfl, hq⟩, hw⟩; rw [hw]; cases q))
  all_goals first | (go_ret; exact ⟨rfl, Below.refl _ _⟩) | skip
  have M : Aside (Named more ∧ more.size ≤ 8) := ⟨hq trivial, by omega⟩
  clear hq hc4 hm
  have h8' : Aside (l.length ≤ 8) := h8
  go_loopw [7, 8] (fun s i wr => ∃ k : Nat, k ≤ l.length ∧ i = .int .i64 k ∧ s = .string (textOf dots (l.take k)) ∧ Aside (∀ x ∈ l.take k, Named x ∧ x.size ≤ 6) ∧ wr = w) (fun _ i _ => l.length - (RowKit.intOf i).toNat)
  case atStart => exact ⟨0, Nat.zero_le _, rfl, by cases dots <;> rfl, (show ∀ x ∈ l.take 0, Named x ∧ x.size ≤ 6 from fun x hx => by simp at hx), rfl⟩
  case round =>
    obtain ⟨k, hk, rfl, rfl, hN, rfl⟩ := hrel
    by_cases hlt : k < l.length
    · obtain ⟨x, hxk⟩ : ∃ x, l[k]? = some x := ⟨_, List.getElem?_eq_getElem hlt⟩
      have htake : l.take (k + 1) = l.take k ++ [x] := by rw [List.take_add_one, hxk]; rfl
      have hsize : (textOf dots (l.take k)).size ≤ 72 := Nat.le_trans (size_textOf dots _ fun y hy => (hN.out y hy).2) (by rw [List.length_take]; omega)
      have hxs := X.out x (List.mem_of_getElem? hxk)
      have hc4 := fun W => named x hxs W
      have hcell : ∃ b o, A = some ⟨b, o, none⟩ ∧ wr.cell? ⟨b, o + k, none⟩ = some (.string x) := by
        obtain ⟨A', cap', hv, _, _, h3⟩ := R.out
        cases hv
        rcases h3 with h | ⟨b, o, rfl, _, hc⟩
        · rw [h] at hlt; simp at hlt
        · exact ⟨b, o, rfl, hc k x hxk⟩
      obtain ⟨b, o, hA, hcell⟩ := hcell
      have hsnoc : ∀ y, textOf dots (l.take k ++ [y]) = if dots then textOf dots (l.take k) ++ ⟨#[47]⟩ ++ y ++ ⟨#[47, 46]⟩ else textOf dots (l.take k) ++ ⟨#[47]⟩ ++ y := fun y => by
        cases dots
        · exact textOf_snoc_f _ y
        · exact textOf_snoc_t _ y
      have hst := hsnoc x
      rw [← htake] at hst
      clear hsnoc
      have HST : Aside (textOf dots (l.take (k + 1)) = if dots then textOf dots (l.take k) ++ ⟨#[47]⟩ ++ x ++ ⟨#[47, 46]⟩ else textOf dots (l.take k) ++ ⟨#[47]⟩ ++ x) := hst
      have HT : Aside (l.take (k + 1) = l.take k ++ [x]) := htake
      clear hst htake hxk hxs
      generalize hSg : textOf dots (l.take k) = S at hsize HST
      have z1 : (⟨#[47]⟩ : ByteArray).size = 1 := rfl
      have z2 : (⟨#[47, 46]⟩ : ByteArray).size = 2 := rfl
      subst hA
      go_wp2_with (go_at_call_of 4 (Value.string x); go_must (refine (hc4 _).mono ?_; rintro e w' ⟨⟨q, rfl, hq⟩, hw⟩; rw [hw]; cases q))
      all_goals first
        | (go_ret; exact ⟨rfl, Below.refl _ _⟩)
        | skip
      all_goals
        have hxn : Named x := hq trivial
        refine ⟨⟨k + 1, by omega, by go_num, ?_, ?_, trivial⟩, by simp [RowKit.intOf]; omega⟩
        · rw [HST.out]
          rename_i hd
          simp [hd]
        · show ∀ y ∈ l.take (k + 1), _
          rw [HT.out]
          intro y hy
          rcases List.mem_append.1 hy with h | h
          · exact hN.out y h
          · rw [List.mem_singleton.1 h]; exact ⟨hxn, by omega⟩
    · obtain rfl : k = l.length := by omega
      rw [List.take_length] at hN
      have hsize : (textOf dots l).size ≤ 72 := Nat.le_trans (size_textOf dots _ fun y hy => (hN.out y hy).2) (by omega)
      have hjoin : (join (l.map (·.data.toList)) [47]).length ≤ 56 := Nat.le_trans (size_join l fun y hy => (hN.out y hy).2) (by omega)
      have hnm : ∀ x ∈ l, Named x := fun y hy => (hN.out y hy).1
      have p1 := fun W (hb : Below wr.heap.size wr W) => parseFirst dots l more hnm M.out.1 h8'.out (by have := M.out.2; omega) W (shaped_on SH.out hb)
      have p2 := fun W (hb : Below wr.heap.size wr W) => parseSecond l hnm h8'.out (by omega) W (shaped_on SH.out hb)
      have p6 := fun W (hb : Below wr.heap.size wr W) => text (.slice A l.length cap) l W (R.out.on hb) (by omega)
      have p7 := fun W (hb : Below wr.heap.size wr W) u (hu : Row W u l) => same_self hu (R.out.on hb)
      have p9 := fun W (hb : Below wr.heap.size wr W) => and_ (.slice A l.length cap) l more W (R.out.on hb) (by have := h8'.out; omega)
      have p8y := fun W (hb : Below wr.heap.size wr W) u (hu : Row W u (l ++ [more])) => underYes u (.slice A l.length cap) l more W hu (R.out.on hb)
      have p8n := fun W (hb : Below wr.heap.size wr W) => underNo (.slice A l.length cap) (.slice A l.length cap) l W (R.out.on hb) (R.out.on hb)
      rw [List.take_length]
      have hms := M.out.2
      clear hN hnm hlt hk h1 h8
      generalize textOf dots l = S at hsize p1
      generalize hJ : (⟨⟨47 :: join (l.map (·.data.toList)) [47]⟩⟩ : ByteArray) = J at p2 p6
      clear hJ hjoin
      go_wp2_with (first
        | (go_at_call_of 5 (Value.string J); go_must (
            refine (p2 _ hB2).mono ?_
            rintro e w3 ⟨v2, rfl, hr2, hb3⟩
            have hB3 := hB2.trans (hb3.mono hB2.size)
            have hr3 := (hr1.on hb2).on hb3))
        | (go_at_call 5; go_must (
            refine (p1 _ (Below.refl _ _)).mono ?_
            rintro e w1 ⟨v1, rfl, hr1, hb1⟩))
        | (go_at_call 6; go_must (
            refine (p6 _ hb1).mono ?_
            rintro e w2 ⟨rfl, hb2⟩
            have hB2 := hb1.trans (hb2.mono hb1.size)))
        | (go_at_call_of 7 v1; go_must (
            refine (p7 _ hB3 v1 hr3).mono ?_
            rintro e w4 ⟨rfl, hb4⟩
            have hB4 := hB3.trans (hb4.mono hB3.size)
            have hr4 := hr2.on hb4))
        | (go_at_call 7; go_must (
            refine (p7 _ hB4 v2 hr4).mono ?_
            rintro e w5 ⟨rfl, hb5⟩
            have hB5 := hB4.trans (hb5.mono hB4.size)))
        | (go_at_call 9; go_must (
            refine (p9 _ hB5).mono ?_
            rintro e w6 ⟨u, rfl, hu, hb6⟩
            have hB6 := hB5.trans (hb6.mono hB5.size)))
        | (go_at_call_of 8 u; go_must (
            refine (p8y _ hB6 u hu).mono ?_
            rintro e w7 ⟨rfl, hb7⟩
            have hB7 := hB6.trans (hb7.mono hB6.size)))
        | (go_at_call 8; go_must (
            refine (p8n _ hB7).mono ?_
            rintro e w8 ⟨rfl, hb8⟩
            have hB8 := hB7.trans (hb8.mono hB7.size)))
        | (go_at_call 10; go_must (
            refine (hK _).mono ?_
            rintro e w9 ⟨rfl, hb9⟩
            have hB9 := hB8.trans (hb9.mono hB8.size))))
      all_goals first
        | (go_ret; exact ⟨rfl, hB9⟩)
        | (exfalso; omega)
        | trace_state
end Go.Proofs.YtanhagilpecnkaaDoor
