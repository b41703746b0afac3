/- slices.SortFunc by the kit's contract, at elements told by numbers: what the evaluator's special asks of it. -/
import Derived.Test.YtbefmbkojmlanaaGreatEvSort
import Derived.Shelf.SlSortCmp.WholeK
set_option linter.unusedVariables false
set_option linter.unusedSimpArgs false
namespace Go.Proofs.YtbefmbkojmlanaaGreat.Ev
open Go.RowKit Go.Shelf Go.Sort Go.Proofs

theorem oneC_eq (v : Value) : v.oneCell' = oneC v := by cases v <;> rfl
theorem ltInt (kv : Nat → Int) (x y : Nat) : ltOf (fun x y : Nat => Lib.compareInt (kv x) (kv y)) x y = decide (kv x < kv y) := by
  unfold ltOf Lib.compareInt
  by_cases h1 : kv x < kv y
  · simp [h1]
  · by_cases h2 : kv y < kv x <;> simp [h1, h2]
theorem swoInt (kv : Nat → Int) : SWO (ltOf fun x y : Nat => Lib.compareInt (kv x) (kv y)) where
  irrefl x := by rw [ltInt]; simp
  trans x y z h1 h2 := by rw [ltInt] at *; simp at *; omega
  ntrans x y z h1 h2 := by rw [ltInt] at *; simp at *; omega

theorem sortAt_of {P : Program} {ρ : Ren} (L : SlLaysF0.n6 P ρ) {c key k : Nat} (hkey : key < k) (aE : ∀ w, (isAgg (ρ.t 24)).run P w = .ok true w) (zE : ∀ w, (Go.sizeOf (ρ.t 24)).run P w = .ok k w)
    (ef : ∀ vs w, (callFunc (ρ.f 6) vs).run P w = .ok (.enter (ρ.f 6) vs) w) (eg : ∀ vs w, (callFunc c vs).run P w = .ok (.enter c vs) w)
    (hC : ∀ (a b : List Value) (m n : Int) (W : World), a.length = k → b.length = k → a[key]? = some (.int .i64 m) → b[key]? = some (.int .i64 n) →
      Calls P c #[.agg a.toArray, .agg b.toArray] W fun e w' => e = .returned (.int .i64 (Lib.compareInt m n)) ∧ ∃ q os', w' = grow (W.drewN q) os') : SortAt P (ρ.f 6) c key k where
  enter := ef
  told := by
    intro blk off cap n cs el fr w row kv d hb hfr hdl hn0 hn hlen hone hk hcell
    have hblk : blk < w.heap.size := (Array.getElem?_eq_some_iff.1 hb).1
    have hflat : ∀ (dd : List Nat) (t : Nat), t < dd.length * k → ∃ x, dd[t / k]? = some x ∧ (row x)[t % k]? = some ((flatK row k dd.toArray)[t]!) := by
      intro dd t ht
      have k0 : 0 < k := by omega
      have hi : t / k < dd.length := (Nat.div_lt_iff_lt_mul k0).2 ht
      have hj : t % k < k := Nat.mod_lt _ k0
      refine ⟨dd[t / k], List.getElem?_eq_getElem hi, ?_⟩
      rw [get_flatK _ _ _ _ (by simpa using ht)]
      have e1 : dd.toArray[t / k]! = dd[t / k] := by simp [hi]
      rw [e1, List.getElem?_eq_getElem (by rw [hlen]; exact hj)]
      rw [getElem!_pos _ _ (by rw [hlen]; exact hj)]
    have hdiv : ∀ t, t / k * k + t % k = t := fun t => by rw [Nat.mul_comm]; exact Nat.div_add_mod t k
    have hH : HoldsK row k w blk off d.toArray := by
      intro t ht
      rw [size_flatK] at ht
      have ht' : t < d.length * k := by simpa using ht
      obtain ⟨x, h1, h2⟩ := hflat d t ht'
      have hj : t % k < k := Nat.mod_lt _ (by omega)
      have hc := hcell _ _ _ h1 hj
      rw [hdiv, h2] at hc
      have hlt : off + t < cs.size := (Array.getElem?_eq_some_iff.1 hc).1
      have hnf := hfr (off + t) hlt
      refine ⟨by rw [cell_of hb]; exact hc, ?_⟩
      rw [frozen_of hb]
      simp only [decide_eq_false_iff_not, Bool.and_eq_false_iff, decide_eq_true_eq, not_and] at hnf ⊢
      omega
    have hsz : d.toArray.size = n := by simpa using hdl
    have T := AnyQ.slices_SortFunc L k aE zE row hlen (fun x v hv => by rw [oneC_eq]; exact hone x v hv) (fun x y => Lib.compareInt (kv x) (kv y)) (swoInt kv) c #[] blk off cap d.toArray w eg
      (fun m os dk _ x y => hC (row x) (row y) (kv x) (kv y) _ (hlen x) (hlen y) (hk x) (hk y)) hH hblk (by omega)
    rw [hsz] at T
    refine T.mono ?_
    rintro e w' ⟨rfl, d', n', os, ⟨p1, _, p2⟩, hs, rfl⟩
    refine ⟨rfl, d'.toList, putCells id off (flatK row k d') cs, ?_, ?_, ?_, ?_, ?_, ?_, ?_, ?_, rfl, rfl, rfl⟩
    · have e1 : d'.extract 0 n = d' := by rw [← hsz, ← p1]; simp
      have e2 : d.toArray.extract 0 n = d.toArray := by rw [← hsz]; simp
      rw [e1, e2] at p2
      simpa using p2
    · rw [List.pairwise_iff_getElem]
      intro i j hi hj hij
      have := hs i j (Nat.zero_le _) hij (by simp at hj; omega)
      rw [ltInt] at this
      simp at hi hj
      rw [getElem!_pos d' i hi, getElem!_pos d' j hj] at this
      simpa using this
    · show ((w.heap.modify blk _) ++ os)[blk]? = _
      rw [Array.getElem?_append_left (by simpa using hblk), Array.getElem?_modify, if_pos rfl, hb]
      rfl
    · simp [putCells]
    · intro i x j hi hj
      have hil : i < d'.size := by have := (List.getElem?_eq_some_iff.1 hi).1; simpa using this
      have hlt : i * k + j < d'.size * k := by
        have := Nat.mul_le_mul_right k (show i + 1 ≤ d'.size from hil)
        rw [Nat.add_mul, Nat.one_mul] at this; omega
      obtain ⟨y, h1, h2⟩ := hflat d'.toList (i * k + j) (by simpa using hlt)
      have e1 : (i * k + j) / k = i := Nat.div_eq_of_lt_le (by rw [Nat.mul_comm] <;> omega) (by rw [Nat.add_mul, Nat.one_mul]; omega)
      have e2 : (i * k + j) % k = j := by rw [Nat.mul_comm, Nat.mul_add_mod, Nat.mod_eq_of_lt hj]
      rw [e1, hi] at h1; cases h1
      rw [e2] at h2
      rw [h2]
      have hin : off + (i * k + j) < cs.size := by
        have hdi : i < d.length := by omega
        have hc := hcell i d[i] j (List.getElem?_eq_getElem hdi) hj
        rw [List.getElem?_eq_getElem (by rw [hlen]; exact hj)] at hc
        exact (Array.getElem?_eq_some_iff.1 hc).1
      simp only [putCells, Array.getElem?_mapIdx, Array.getElem?_eq_getElem hin, Option.map_some]
      rw [if_pos ⟨by omega, by rw [size_flatK]; omega⟩, Nat.add_sub_cancel_left]
      simp
    · intro t ht
      simp only [putCells, Array.getElem?_mapIdx]
      cases cs[t]? with
      | none => rfl
      | some v =>
        simp only [Option.map_some]
        rw [if_neg]
        rw [size_flatK, p1, hsz]
        omega
    · intro b hne hb'
      show ((w.heap.modify blk _) ++ os)[b]? = _
      rw [Array.getElem?_append_left (by simpa using hb'), Array.getElem?_modify, if_neg (Ne.symm hne)]
    · show w.heap.size ≤ ((w.heap.modify blk _) ++ os).size
      simp
end Go.Proofs.YtbefmbkojmlanaaGreat.Ev
