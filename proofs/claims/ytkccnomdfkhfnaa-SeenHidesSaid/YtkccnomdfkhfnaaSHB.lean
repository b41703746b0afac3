/- slices.Sort and slices.Compact at []string as contracts over data. -/
import Derived.Test.YtkccnomdfkhfnaaSHSh
import Derived.Test.YtkccnomdfkhfnaaEvTree
set_option linter.unusedSimpArgs false
set_option linter.unusedVariables false
namespace Go.Proofs.Ytkccnomdfkhfnaa
open Go.RowKit Go.Proofs.Ytkccnomdfkhfnaa.Ev Go.Sort

abbrev StrE : ET := .one .str
theorem putRow_same {w w' : World} {b off q : Nat} {cs : Array Value} {el : TypeId} {fr : Nat × Nat} {d : Array (List UInt8)} {os : Array Obj} (h : w.heap[b]? = some (.cells cs el fr)) (e : w' = Sort.grow (putRow encStr (Sort.ahead w q) b off d) os) :
    w'.heap[b]? = some (.cells (putCells encStr off d cs) el fr) ∧ (∀ b' ob, b' ≠ b → w.heap[b']? = some ob → w'.heap[b']? = some ob) ∧ Below 0 w w' := by
  subst e
  have hlt : b < w.heap.size := (Array.getElem?_eq_some_iff.1 h).1
  have hsz : (putRow encStr (Sort.ahead w q) b off d).heap.size = w.heap.size := by rw [size_putRow]; rfl
  have hm : ∀ k, (putRow encStr (Sort.ahead w q) b off d).heap[k]? = if b = k then (w.heap[k]?).map (onCells (putCells encStr off d)) else w.heap[k]? := fun k => by
    show (w.heap.modify b (onCells (putCells encStr off d)))[k]? = _
    rw [Array.getElem?_modify]
  refine ⟨?_, fun b' ob hne hb' => ?_, rfl, rfl, rfl, ?_, fun i hi => absurd hi (Nat.not_lt_zero _)⟩
  · rw [heap_grow_old _ _ (by rw [hsz]; exact hlt), hm, if_pos rfl, h]; rfl
  · have hb2 : b' < w.heap.size := (Array.getElem?_eq_some_iff.1 hb').1
    rw [heap_grow_old _ _ (by rw [hsz]; exact hb2), hm, if_neg (fun q => hne q.symm), hb']
  · rw [size_grow, hsz]; exact Nat.le_add_right _ _
theorem putCells_get {off : Nat} {d : Array (List UInt8)} {cs : Array Value} (k : Nat) (hk : off + k < cs.size) (h : k < d.size) : (putCells encStr off d cs)[off + k]? = some (encStr d[k]!) := by
  unfold putCells
  rw [Array.getElem?_mapIdx]
  have : cs[off + k]? = some cs[off + k] := by simp [hk]
  rw [this, Option.map_some, if_pos (by omega)]
  simp
theorem putCells_size {off : Nat} {d : Array (List UInt8)} {cs : Array Value} : (putCells encStr off d cs).size = cs.size := by simp [putCells]
theorem str_holds {fz : Fz} {r : RowAt} {xs : List (List UInt8)} {w : World} {b off : Nat} (h : RowRel fz r ⟨StrE, xs, 0, false⟩ w.heap) (hat : r.at_ = some (b, off)) : Holds encStr w b off xs.toArray ∧ b < w.heap.size ∧ (∀ x ∈ xs, List.length x ≤ Room) := by
  obtain ⟨_, h2, h3, h4, h5, h6⟩ := h
  have h2 : r.len = xs.length := h2
  obtain ⟨cs, el, fr, g1, g2, g3, g4, g5⟩ := h6 b off hat
  have key : ∀ (i : Nat) (x : List UInt8), xs[i]? = some x → cs[off + i]? = some (encStr x) ∧ List.length x ≤ Room := fun i x hx => by
    have := g3 i x hx
    simp only [decE, decL] at this
    obtain ⟨v, k1, rfl, k2⟩ := this
    rw [show off + i * ET.sz StrE = off + i from by show off + i * 1 = _; omega] at k1
    exact ⟨k1, k2⟩
  refine ⟨fun j hj => ?_, (Array.getElem?_eq_some_iff.1 g1).1, fun x hx => ?_⟩
  · have hj : j < xs.length := by simpa using hj
    have hx : xs[j]? = some xs[j] := List.getElem?_eq_getElem hj
    have hc := (key j _ hx).1
    have hlt : off + j < cs.size := (Array.getElem?_eq_some_iff.1 hc).1
    refine ⟨?_, ?_⟩
    · rw [cell_of g1, hc]
      have : (xs.toArray)[j]! = xs[j] := by simp [hj]
      rw [this]
    · rw [frozen_of g1]
      have := g4 rfl _ hlt
      simp only [Bool.and_eq_false_iff, decide_eq_false_iff_not]
      omega
  · obtain ⟨i, hi, rfl⟩ := List.getElem_of_mem hx
    exact (key i _ (List.getElem?_eq_getElem hi)).2
/-- the row anew -/
theorem str_row {fz : Fz} {r : RowAt} {xs ys zs : List (List UInt8)} {w w' : World} {b off q : Nat} {os : Array Obj} (h : RowRel fz r ⟨StrE, xs, 0, false⟩ w.heap) (hat : r.at_ = some (b, off)) (e : w' = Sort.grow (putRow encStr (Sort.ahead w q) b off zs.toArray) os)
    (hz : zs.length = xs.length) (hp : ys <+: zs) (hr : ∀ y ∈ ys, List.length y ≤ Room) : RowRel fz ⟨0, ys.length, r.cap, r.at_⟩ ⟨StrE, ys, 0, false⟩ w'.heap := by
  obtain ⟨_, h2, h3, h4, h5, h6⟩ := h
  have h2 : r.len = xs.length := h2
  have hle : ys.length ≤ zs.length := hp.length_le
  refine ⟨rfl, rfl, by show ys.length ≤ r.cap; omega, ?_, h5, fun b' off' hat' => ?_⟩
  · show ys.length * 16 ≤ Room
    have h4 : r.len * 16 ≤ Room := h4
    omega
  · rw [hat] at hat'; cases hat'
    obtain ⟨cs, el, fr, g1, g2, g3, g4, g5⟩ := h6 b off hat
    obtain ⟨k1, _, _⟩ := putRow_same g1 e
    have g2 : off + r.cap * 1 ≤ cs.size := g2
    refine ⟨_, el, fr, k1, by rw [putCells_size]; exact g2, fun i y hy => ?_, fun _ => by rw [putCells_size]; exact g4 rfl, fun e => nomatch e⟩
    have hy : ys[i]? = some y := hy
    have hi := (List.getElem?_eq_some_iff.1 hy).1
    simp only [decE, decL]
    refine ⟨encStr y, ?_, rfl, hr y (List.mem_of_getElem? hy)⟩
    rw [show off + i * ET.sz StrE = off + i from by show off + i * 1 = _; omega, putCells_get i (by omega) (by simp; omega)]
    have : zs[i]? = some y := by
      obtain ⟨t, rfl⟩ := hp
      rw [List.getElem?_append_left hi]; exact hy
    have : (zs.toArray)[i]! = y := by
      have hiz : i < zs.length := by omega
      rw [List.getElem?_eq_getElem hiz] at this
      cases this
      simp [hiz]
    rw [this]
noncomputable def F21.fn (xs : List (List UInt8)) : List (List UInt8) := xs.mergeSort fun x y => decide (x ≤ y)
def F21.pre (_ : List (List UInt8)) : Prop := True
theorem F21ok : IoOk Try.prog 21 StrE F21.pre F21.fn := by
  intro fz w r xs hf _ hR hb
  have hlen : r.len = xs.length := hR.2.1
  cases hat : r.at_ with
  | none =>
    have hc := hR.2.2.2.2.1 hat
    have h3 := hR.2.2.1
    have : xs = [] := List.eq_nil_of_length_eq_zero (by omega)
    subst this
    have hv : r.val (ET.sz StrE) 0 (List.length ([] : List (List UInt8))) = .slice none 0 r.cap := by unfold RowAt.val; rw [hat]; rfl
    rw [show (List.length ([] : List (ET.T StrE))) = List.length ([] : List (List UInt8)) from rfl, hv]
    refine (Try.slices_Sort_string_none none r.cap w).mono fun e w' ⟨h1, h2⟩ => ?_
    subst h2
    have e : F21.fn [] = [] := List.eq_nil_of_length_eq_zero (List.length_mergeSort _)
    exact ⟨h1, ⟨rfl, rfl, rfl, Nat.le_refl _, fun _ _ => rfl⟩, fun b ob _ h => h, (show RowRel fz r ⟨StrE, F21.fn ([] : List (List UInt8)), 0, false⟩ w'.heap by rw [e]; exact hR)⟩
  | some a =>
    obtain ⟨b, off⟩ := a
    obtain ⟨hH, hblk, hroom⟩ := str_holds hR hat
    have hv : r.val (ET.sz StrE) 0 (List.length xs) = .slice (some ⟨b, off, none⟩) xs.length r.cap := by unfold RowAt.val; rw [hat]; simp
    have hsz : xs.length < 4611686018427387904 := by
      have h4 : r.len * 16 ≤ Room := hR.2.2.2.1
      unfold Room at h4
      omega
    rw [hv]
    refine (Try.slices_Sort_string b off r.cap xs w hH hblk hsz).mono fun e w' ⟨h1, n, os, h2⟩ => ?_
    obtain ⟨cs, el, fr, g1, _⟩ := hR.2.2.2.2.2 b off hat
    obtain ⟨k1, k2, k3⟩ := putRow_same g1 h2
    refine ⟨h1, k3, fun b' ob hb' => k2 b' ob fun e => hb' (by unfold rBlk; rw [hat, e]; exact List.mem_singleton.2 rfl), ?_⟩
    have hl : (F21.fn xs).length = xs.length := List.length_mergeSort _
    have := str_row (ys := F21.fn xs) hR hat h2 hl ⟨[], List.append_nil _⟩ fun y hy => hroom y ((List.mem_mergeSort).1 hy)
    have hr : r = ⟨0, (F21.fn xs).length, r.cap, r.at_⟩ := by
      obtain ⟨v, l, c, a⟩ := r
      have h1 : v = 0 := hR.1
      have h2 : l = (F21.fn xs).length := by rw [hl]; exact hlen
      rw [h1, h2]
    rw [hr]; exact this
noncomputable def F21C : Con Try.prog := conIo 21 StrE F21.pre F21.fn F21ok (by kernel_rfl)

noncomputable def F22.fn (x : List (List UInt8) × Unit) : List (List UInt8) × Unit := (Lib.compact x.1, ())
def F22.pre (_ : List (List UInt8) × Unit) : Prop := True
theorem compact_len (xs : List (List UInt8)) : (Lib.compact xs).length ≤ xs.length := by
  unfold Lib.compact Lib.compactUpTo
  rw [List.length_map]
  refine Nat.le_trans (List.length_filter_le _ _) ?_
  simp
theorem compact_mem (xs : List (List UInt8)) : ∀ y ∈ Lib.compact xs, y ∈ xs := by
  intro y hy
  unfold Lib.compact Lib.compactUpTo at hy
  obtain ⟨i, hi, rfl⟩ := List.mem_map.1 hy
  have := (List.mem_filter.1 hi).1
  have hlt : i < xs.length := List.mem_range.1 this
  simp [hlt]
theorem F22ok : DataOk Try.prog 22 [.own StrE] [.own StrE] F22.pre F22.fn := by
  intro fz kp w vs x hf hk _ hd
  obtain ⟨v, q, bs', rfl, ⟨r, hver, rfl, hR, hB, _⟩, hq⟩ := hd
  have hq : q = [] := hq
  subst hq
  obtain ⟨xs, u⟩ := x
  revert xs
  intro (xs : List (List UInt8)) _ hR _
  have hlen : r.len = xs.length := hR.2.1
  cases hat : r.at_ with
  | none =>
    have hc := hR.2.2.2.2.1 hat
    have h3 := hR.2.2.1
    have : xs = [] := List.eq_nil_of_length_eq_zero (by omega)
    subst this
    have hv : r.val (ET.sz StrE) 0 (List.length ([] : List (List UInt8))) = .slice none 0 r.cap := by unfold RowAt.val; rw [hat]; rfl
    show Calls Try.prog 22 ⟨[r.val (ET.sz StrE) 0 (List.length ([] : List (List UInt8)))]⟩ w _
    rw [hv]
    refine (Try.slices_Compact_string_empty none r.cap w).mono fun e w' ⟨h1, h2⟩ => ?_
    subst h2
    refine ⟨_, fz, h1, ⟨rfl, rfl, rfl, Nat.le_refl _, fun _ _ => rfl⟩, FzExt.refl _, fun b cs h => .inl h, hf, hk, _, r, hver, ?_, hR, fun b off h => ?_, rfl⟩
    · exact hv.symm
    · rw [hat] at h; cases h
  | some a =>
    obtain ⟨b, off⟩ := a
    obtain ⟨hH, hblk, hroom⟩ := str_holds hR hat
    have hv : r.val (ET.sz StrE) 0 (List.length xs) = .slice (some ⟨b, off, none⟩) xs.length r.cap := by unfold RowAt.val; rw [hat]; simp
    have h4 : r.len * 16 ≤ Room := hR.2.2.2.1
    unfold Room at h4
    have h3 := hR.2.2.1
    show Calls Try.prog 22 ⟨[r.val (ET.sz StrE) 0 (List.length xs)]⟩ w _
    rw [hv]
    refine (Try.slices_Compact_string b off r.cap xs w hH (by omega) (by omega)).mono fun e w' ⟨h1, n, h2⟩ => ?_
    have h2 : w' = Sort.grow (putRow encStr (Sort.ahead w n) b off (Lib.compact xs ++ List.replicate (xs.length - (Lib.compact xs).length) []).toArray) #[] := by rw [h2, grow_empty]
    obtain ⟨cs, el, fr, g1, _⟩ := hR.2.2.2.2.2 b off hat
    obtain ⟨k1, k2, k3⟩ := putRow_same g1 h2
    obtain ⟨hb1, hb2, _⟩ := hB b off hat
    have hl := compact_len xs
    refine ⟨_, fz, h1, k3, FzExt.refl _, fun b cs h => .inl h, fun b' cs' h => ?_, fun b' ob h => k2 b' ob (fun e => by rw [e, hb2] at h; cases h) (hk b' ob h), _, ⟨0, (Lib.compact xs).length, r.cap, r.at_⟩, rfl, ?_, ?_, fun b' off' h => ?_, rfl⟩
    · obtain ⟨el', fr', g⟩ := hf b' cs' h
      exact ⟨el', fr', k2 b' _ (fun e => by rw [e, hb1] at h; cases h) g⟩
    · unfold RowAt.val
      rw [hat]
      show _ = Value.slice (some ⟨b, off + 0 * 1, none⟩) (Lib.compact xs).length (r.cap - 0)
      simp
    · exact str_row (ys := Lib.compact xs) hR hat h2 (by simp; omega) ⟨_, rfl⟩ fun y hy => hroom y (compact_mem xs y hy)
    · rw [hat] at h; cases h; exact ⟨hb1, hb2, by simp⟩
noncomputable def F22C : Con Try.prog := conD 22 [.own StrE] [.own StrE] F22.pre F22.fn F22ok (by kernel_rfl)
end Go.Proofs.Ytkccnomdfkhfnaa
