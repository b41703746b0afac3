/- What both sides of the law answer on a disk, as lists. Conditions: those each theorem states. -/
import Derived.Test.YtaeakifdamlnlaaDoorMkHold
import Derived.Test.YtaeakifdamlnlaaDoorMkE
import Derived.Test.YtaeakifdamlnlaaDoorMkPd
import Derived.Test.YtaeakifdamlnlaaDoorMkPe
import Derived.Deep.DeepMust
import Derived.Deep.RegionHeld3
set_option linter.unusedVariables false
set_option linter.unusedSimpArgs false
set_option maxRecDepth 100000
namespace Go.Proofs.YtaeakifdamlnlaaDoor
open Go.RowKit Go.Lib Go.Proofs.YtaeakifdamlnlaaDoorW.PrintWords Go.Proofs.YtaeakifdamlnlaaDoorW.PrintMore PMarkTells
abbrev Tab (w : World) : Prop := Lib.TabIs Tryd.prog w "internal/strconv.uint64pow10" .u64 Lib.pow10Tab
theorem tab_on {w w' : World} (h : Tab w) (hb : Below w.heap.size w w') : Tab w' := by
  unfold Tab Lib.TabIs World.var? at h ⊢
  cases hg : Tryd.prog.globalNamed "internal/strconv.uint64pow10" with
  | none => rw [hg] at h; cases h
  | some g =>
    rw [hg] at h
    simp only [Option.bind_some] at h ⊢
    have hlt : g < w.heap.size := by
      rcases Nat.lt_or_ge g w.heap.size with h1 | h1
      · exact h1
      · rw [Array.getElem?_eq_none h1] at h; cases h
    rw [hb.block g hlt]
    exact h
theorem drewN_heap (w : World) (k : Nat) : (w.drewN k).heap = w.heap := by
  induction k with
  | zero => rfl
  | succ k ih => exact ih
theorem nd_le : ∀ (k u : Nat), u < 10 ^ (k + 1) → Lib.nDigits u ≤ k + 1
  | 0, u, h => by rw [Lib.nDigits_small (by simpa using h)]; omega
  | k + 1, u, h => by
    by_cases h9 : u < 10
    · rw [Lib.nDigits_small h9]; omega
    · rw [Lib.nDigits_big h9]
      have := nd_le k (u / 10) (by rw [Nat.pow_succ] at h; omega)
      omega
theorem below_grown' (w : World) (k : Nat) (os : Array Obj) : Below w.heap.size w (Go.Sort.grow (w.drewN k) os) := by
  have h1 : Below w.heap.size w (w.drewN k) := below_drewN (Below.refl _ _) k
  have h2 : (w.drewN k).heap.size = w.heap.size := by rw [drewN_heap]
  refine ⟨h1.os, h1.tape, h1.output, ?_, fun j hj => ?_⟩
  · show w.heap.size ≤ ((w.drewN k).heap ++ os).size
    rw [Array.size_append]; omega
  · show ((w.drewN k).heap ++ os)[j]? = _
    rw [Array.getElem?_append_left (by omega)]
    exact h1.block j hj
/-- the name by which a number is held -/
def holdN (u : Int) : ByteArray := (⟨#[104]⟩ : ByteArray) ++ ⟨(Lib.decDigits u.toNat).toArray⟩
set_option maxHeartbeats 4000000 in
theorem hold13 (u : Int) (h0 : 0 ≤ u) (h1 : u ≤ 9223372036854775807) (w : World) (ht : Tab w) :
    Calls Tryd.prog 13 #[.int .i64 u] w fun e w' => e = .returned (.string (holdN u)) ∧ Below w.heap.size w w' := by
  have h26 : Calls Tryd.prog 26 #[.int .i64 u, .int .i64 10] w fun e w' => e = .returned (.string ⟨(Lib.decDigits u.toNat).toArray⟩) ∧ Below w.heap.size w w' := by
    refine (Tryd.strconv_FormatInt_10 u (by omega) h1 w ht).mono fun e w' ⟨g1, k, os, g2⟩ => ?_
    subst g2
    refine ⟨?_, below_grown' w k os⟩
    rw [g1]
    unfold Lib.itoa
    rw [if_neg (by omega)]
  unfold holdN
  have hs : (⟨(Lib.decDigits u.toNat).toArray⟩ : ByteArray).size ≤ 9223372036854775000 := by
    show (Lib.decDigits u.toNat).toArray.size ≤ _
    simp only [List.size_toArray]
    have := Lib.decDigits_length u.toNat
    have := nd_le 18 u.toNat (by omega)
    omega
  generalize (⟨(Lib.decDigits u.toNat).toArray⟩ : ByteArray) = y at h26 hs
  have hs2 : 1 + y.size ≤ 9223372036854775807 := by omega
  clear hs
  go_enter Tryd.func13, Tryd.ntmps13
  go_wp2_with (go_at_call 26; refine h26.mono ?_; rintro e w1 ⟨rfl, hb⟩)
  go_ret
  exact ⟨rfl, hb⟩
/-! ### the document's answer -/
theorem ba_ext {x y : ByteArray} (h : x.data.toList = y.data.toList) : x = y := ByteArray.ext (Array.toList_inj.1 h)
theorem ba_app (x y : ByteArray) : (x ++ y).data.toList = x.data.toList ++ y.data.toList := by rw [ByteArray.data_append, Array.toList_append]
theorem digit_is (n : Nat) (hn : n ≤ 9223372036854775807) : strOfNums [(wrap64 (48 + (Int.tmod (n : Int) 10))) % 256] = ⟨#[UInt8.ofNat (48 + n % 10)]⟩ := by
  have h1 : Int.tmod (n : Int) 10 = ((n % 10 : Nat) : Int) := rfl
  rw [h1, w64 (by omega) (by omega)]
  unfold strOfNums
  congr 2
  show [UInt8.ofNat ((48 + ((n % 10 : Nat) : Int)) % 256).toNat] = [UInt8.ofNat (48 + n % 10)]
  congr 2
  omega
theorem hold_l : ∀ (n k : Nat) (acc : ByteArray), n ≤ 9223372036854775807 → acc.size ≤ 1000 → n < k → veneerref10_Hold.l0 k n acc = some ((⟨#[104]⟩ : ByteArray) ++ ((⟨(Lib.decDigits n).toArray⟩ : ByteArray) ++ acc)) ∨ 100 < acc.size + Lib.nDigits n := by
  intro n
  induction n using Nat.strongRecOn with
  | _ n ih =>
    intro k acc hn ha hk
    obtain ⟨k, rfl⟩ : ∃ m, k = m + 1 := ⟨k - 1, by omega⟩
    have hsz : ((⟨#[UInt8.ofNat (48 + n % 10)]⟩ : ByteArray) ++ acc).size = 1 + acc.size := by rw [ByteArray.size_append]; rfl
    simp only [veneerref10_Hold.l0, Option.bind_some]
    have hq : Int.tdiv (n : Int) 10 = ((n / 10 : Nat) : Int) := rfl
    have h1s : (⟨#[UInt8.ofNat (48 + n % 10)]⟩ : ByteArray).size = 1 := rfl
    rw [digit_is n hn, hq, w64 (x := ((n / 10 : Nat) : Int)) (by omega) (by omega), h1s, hsz, if_pos (by omega)]
    by_cases h9 : n < 10
    · rw [if_pos (by omega), if_pos (by omega)]
      left
      congr 2
      apply ba_ext
      rw [ba_app, ba_app, Lib.decDigits_one h9, Nat.mod_eq_of_lt h9]
    · rw [if_neg (by omega)]
      by_cases hacc : acc.size ≤ 900
      · rcases ih (n / 10) (by omega) k (⟨#[UInt8.ofNat (48 + n % 10)]⟩ ++ acc) (by omega) (by rw [hsz]; omega) (by omega) with h | h
        · left
          rw [h]
          congr 2
          apply ba_ext
          rw [ba_app, ba_app, ba_app]
          show Lib.decDigits (n / 10) ++ ([UInt8.ofNat (48 + n % 10)] ++ _) = Lib.decDigits n ++ _
          rw [Lib.decDigits, Lib.decDigits.eq_1 n, dif_neg h9, ← Lib.decDigits.eq_1 (n / 10), List.append_assoc]
        · right
          rw [hsz] at h
          rw [Lib.nDigits_big h9]
          omega
      · right; omega
theorem hold_ends (u : Int) (h0 : 0 ≤ u) (h1 : u ≤ 9223372036854775807) : ∃ k, veneerref10_Hold.f k u = some (holdN u) := by
  obtain ⟨n, rfl⟩ := Int.eq_ofNat_of_zero_le h0
  rcases hold_l n (n + 1) ⟨#[]⟩ (by omega) (by decide) (by omega) with h | h
  · refine ⟨n + 1, ?_⟩
    simp only [veneerref10_Hold.f]
    rw [h]
    congr 1
    unfold holdN
    apply ba_ext
    rw [ba_app, ba_app, ba_app]
    simp
  · have := nd_le 18 n (by omega)
    have : (⟨#[]⟩ : ByteArray).size = 0 := rfl
    omega
end Go.Proofs.YtaeakifdamlnlaaDoor
set_option linter.unusedVariables false
set_option linter.unusedSimpArgs false
set_option maxRecDepth 100000
namespace Go.Proofs.YtaeakifdamlnlaaDoor
open Go.RowKit Go.Lib Go.Proofs.YtaeakifdamlnlaaDoorW.PrintWords Go.Proofs.YtaeakifdamlnlaaDoorW.PrintMore PMarkTells
theorem getD_at {α : Type} {l : List α} {z x : α} {t : Nat} (h : l[t]? = some x) : l.getD t z = x := by rw [List.getD_eq_getElem?_getD, h]; rfl
theorem isTo_mono {l : List S42} (h : IsTo l l.length) : ∀ (d s : Nat), s + d + 1 < l.length → (l.getD s z42).f0 < (l.getD (s + d + 1) z42).f0 := by
  have one : ∀ s, s + 1 < l.length → (l.getD s z42).f0 < (l.getD (s + 1) z42).f0 := fun s hs => by
    have h1 := List.getElem?_eq_getElem (l := l) (i := s) (by omega)
    have h2 := List.getElem?_eq_getElem hs
    rw [getD_at h1, getD_at h2]
    exact h.1 s hs _ _ h1 h2
  intro d
  induction d with
  | zero => intro s hs; exact one s hs
  | succ d ih =>
    intro s hs
    have h1 := ih s (by omega)
    have h2 := one (s + d + 1) (by omega)
    rw [show s + (d + 1) + 1 = s + d + 1 + 1 by omega]
    omega
theorem good_mono {l : List S42} {N : List S62} (h : Good l N N.length) : RisesN N.length (nmL N) := by
  have one : ∀ s, s + 1 < N.length → Op.bytesLess (nmL N s).toList (nmL N (s + 1)).toList = true := fun s hs => by
    have h1 := List.getElem?_eq_getElem (l := N) (i := s) (by omega)
    have h2 := List.getElem?_eq_getElem hs
    unfold nmL
    rw [getD_at h1, getD_at h2]
    exact h.1 s hs _ _ h1 h2
  have all : ∀ (d s : Nat), s + d + 1 < N.length → Op.bytesLess (nmL N s).toList (nmL N (s + d + 1)).toList = true := by
    intro d
    induction d with
    | zero => intro s hs; exact one s hs
    | succ d ih =>
      intro s hs
      exact less_trans _ _ _ (ih s (by omega)) (one (s + d + 1) (by omega))
  intro s t hst ht
  have := all (t - s - 1) s (by omega)
  rwa [show s + (t - s - 1) + 1 = t by omega] at this
/-- a disk whose rows memory can hold -/
structure Sizes (l : List S42) : Prop where
  len : l.length ≤ 4398046511104
  ok : ∀ y ∈ l, NodeOk y
  bl : ∀ y ∈ l, y.f4.f1.length ≤ 4398046511104
  ts : ∀ y ∈ l, y.f5.size ≤ 9223372036854775807
  ns : ∀ y ∈ l, ∀ z ∈ y.f6, z.f0.size ≤ 140737488355328
theorem has_iff {l : List S42} (h : IsTo l l.length) {dir : Int} {x : ByteArray} {nd : Nat → Nd} (hnd : ∀ j, j < l.length → (nd j).i = (l.getD j z42).f0 ∧ (nd j).k = (l.getD j z42).f1 ∧ (nd j).nn = (l.getD j z42).f6.length) :
    HasName l.length nd (fun j => nmL (l.getD j z42).f6) dir x ↔ hasD l dir x = true := by
  unfold hasD
  constructor
  · rintro ⟨j, hj, h1, h2, t, ht, h3⟩
    obtain ⟨e1, e2, e3⟩ := hnd j hj
    have hx := List.getElem?_eq_getElem hj
    rw [getD_at hx] at e1 e2 e3
    dsimp only at h3
    rw [getD_at hx] at h3
    cases hg : getN l dir with
    | none =>
      unfold getN at hg
      have := List.find?_eq_none.1 hg l[j] (List.getElem_mem hj)
      simp only [beq_iff_eq] at this
      exact absurd (e1.symm.trans h1) this
    | some y =>
      unfold getN at hg
      have hy0 := List.find?_some hg
      simp only [beq_iff_eq] at hy0
      obtain ⟨u, hu, huy⟩ := List.getElem_of_mem (List.mem_of_find?_eq_some hg)
      have hxu := List.getElem?_eq_getElem hu
      have huj : u = j := by
        rcases Nat.lt_trichotomy u j with hlt | he | hlt
        · have := isTo_mono h (j - u - 1) u (by omega)
          rw [show u + (j - u - 1) + 1 = j by omega, getD_at hxu, getD_at hx, huy] at this
          omega
        · exact he
        · have := isTo_mono h (u - j - 1) j (by omega)
          rw [show j + (u - j - 1) + 1 = u by omega, getD_at hxu, getD_at hx, huy] at this
          omega
      subst huj
      subst huy
      simp only [Bool.and_eq_true, beq_iff_eq]
      refine ⟨?_, e2.symm.trans h2⟩
      unfold hasNm
      rw [List.any_eq_true]
      have ht' : t < l[u].f6.length := by omega
      refine ⟨l[u].f6[t], List.getElem_mem ht', ?_⟩
      unfold nmL at h3
      rw [getD_at (List.getElem?_eq_getElem ht')] at h3
      exact decide_eq_true h3
  · cases hg : getN l dir with
    | none => intro h; cases h
    | some y =>
      intro h2
      simp only [Bool.and_eq_true, beq_iff_eq] at h2
      unfold getN at hg
      have hy0 := List.find?_some hg
      simp only [beq_iff_eq] at hy0
      obtain ⟨u, hu, huy⟩ := List.getElem_of_mem (List.mem_of_find?_eq_some hg)
      have hxu := List.getElem?_eq_getElem hu
      obtain ⟨e1, e2, e3⟩ := hnd u hu
      rw [getD_at hxu, huy] at e1 e2 e3
      have h3 := h2.1
      unfold hasNm at h3
      rw [List.any_eq_true] at h3
      obtain ⟨z, hz, hzx⟩ := h3
      obtain ⟨t, ht, htz⟩ := List.getElem_of_mem hz
      refine ⟨u, hu, e1.trans hy0, e2.trans h2.2, t, by omega, ?_⟩
      dsimp only
      rw [getD_at hxu, huy]
      unfold nmL
      rw [getD_at (List.getElem?_eq_getElem ht), htz]
      exact of_decide_eq_true hzx
theorem hasC (B I Nx : Int) (A : Option Addr) (c : Nat) (l : List S42) (w : World) (hr : Kd.C k42 w A l.length l) (hz : Sizes l) (hI : IsTo l l.length) (h1 : 1 ∈ inos l) (dir : Int) (x : ByteArray) :
    Calls Tryd.prog 24 #[diskV B I Nx A l.length c, .int .i64 dir, .string x] w fun e w' => Answers (hasD l dir x = true) e ∧ Below w.heap.size w w' := by
  obtain ⟨nd, ho, hnd⟩ := nodes_row hr hz.len fun y hy => ⟨hz.ok y hy, hz.bl y hy⟩
  have hpos : l.length ≠ 0 := by
    intro h0
    rw [List.length_eq_zero_iff.1 h0] at h1
    simp [inos] at h1
  have hR : Rises l.length nd := fun s t hst ht => by
    rw [(hnd s (by omega)).1, (hnd t ht).1]
    have := isTo_mono hI (t - s - 1) s (by omega)
    rwa [show s + (t - s - 1) + 1 = t by omega] at this
  have hRN : ∀ j, j < l.length → RisesN (nd j).nn (nmL (l.getD j z42).f6) := fun j hj => by
    have hx := List.getElem?_eq_getElem hj
    rw [(hnd j hj).2.2, getD_at hx]
    exact good_mono (hI.2 j hj _ hx)
  refine (hasG B I Nx A l.length c nd (fun j => nmL (l.getD j z42).f6) (fun j => inoL (l.getD j z42).f6) dir x w hR hRN fun W hW => ?_).mono fun e w' ⟨q, e1, e2, e3⟩ => ⟨⟨q, e1, e2.trans (has_iff hI hnd)⟩, e3⟩
  obtain ⟨nd', ho', hnd'⟩ := nodes_row (Kd.C_below hr hW) hz.len fun y hy => ⟨hz.ok y hy, hz.bl y hy⟩
  obtain ⟨b, o, rfl, hb, hat⟩ := ho.at_.resolve_left hpos
  have hoW : NodesOk W (some ⟨b, o, none⟩) l.length nd (fun j => nmL (l.getD j z42).f6) (fun j => inoL (l.getD j z42).f6) :=
    ⟨ho.max, .inr ⟨b, o, rfl, Nat.lt_of_lt_of_le hb hW.size, hat.on hW hb⟩, fun j hj => (ho.blocks j hj).on hW, fun j hj => (ho.names j hj).on hW, fun _ _ _ => trivial⟩
  exact getD B I Nx b o l.length c nd _ _ dir W (Nat.lt_of_lt_of_le hb hW.size) (hat.on hW hb) hoW hR
theorem ans_eq {b : Bool} {e : Ending} (h : Answers (b = true) e) : e = .returned (.bool b) := by
  obtain ⟨q, rfl, h⟩ := h
  cases q <;> cases b <;> simp_all
theorem hidesC (B I Nx : Int) (A : Option Addr) (c : Nat) (l : List S42) (w : World) (hr : Kd.C k42 w A l.length l) (hz : Sizes l) (hI : IsTo l l.length) (h1 : 1 ∈ inos l) (dir : Int) (y : ByteArray) (hy : y.size ≤ 40) :
    Calls Tryd.prog 9 #[diskV B I Nx A l.length c, .int .i64 dir, .string y] w fun e w' => e = .returned (.bool (hasD l dir (whP y))) ∧ Below w.heap.size w w' :=
  (hidesG y hy B I Nx A l.length c dir (hasD l dir (whP y) = true) w fun W hW => hasC B I Nx A c l W (Kd.C_below hr hW) hz hI h1 dir (pre ++ y)).mono fun e w' ⟨g1, g2⟩ => ⟨ans_eq g1, g2⟩
theorem cutsC (B I Nx : Int) (A : Option Addr) (c : Nat) (l : List S42) (w : World) (hr : Kd.C k42 w A l.length l) (hz : Sizes l) (hI : IsTo l l.length) (h1 : 1 ∈ inos l) (dir : Int) :
    Calls Tryd.prog 11 #[diskV B I Nx A l.length c, .int .i64 dir] w fun e w' => e = .returned (.bool (hasD l dir ⟨#[46, 119, 104, 46, 46, 119, 104, 46, 46, 111, 112, 113]⟩)) ∧ Below w.heap.size w w' :=
  (cutsG B I Nx A l.length c dir (hasD l dir ⟨#[46, 119, 104, 46, 46, 119, 104, 46, 46, 111, 112, 113]⟩ = true) w _ rfl fun W hW => hasC B I Nx A c l W (Kd.C_below hr hW) hz hI h1 dir _).mono fun e w' ⟨g1, g2⟩ => ⟨ans_eq g1, g2⟩
/-! ### the document's side -/
theorem disk' {l : List S42} (hz : Sizes l) (hI : IsTo l l.length) : Disk' l := by
  refine ⟨hz.len, hz.ok, fun y hy z hz' => ?_⟩
  obtain ⟨t, ht, hty⟩ := List.getElem_of_mem hy
  obtain ⟨s, hs, hsz⟩ := List.getElem_of_mem hz'
  have hG := (hI.2 t ht y (by rw [List.getElem?_eq_getElem ht, hty])).2 s hs z (by rw [List.getElem?_eq_getElem hs, hsz])
  obtain ⟨y', hy'⟩ := Option.isSome_iff_exists.1 hG
  unfold getN at hy'
  exact List.mem_map.2 ⟨y', List.mem_of_find?_eq_some hy', by have := List.find?_some hy'; simpa using this⟩
theorem hides10 (B I Nx : Int) (A : Option Addr) (c : Nat) (l : List S42) (w : World) (hr : Kd.C k42 w A l.length l) (hc : l.length ≤ c) (hz : Sizes l) (hI : IsTo l l.length) (dir : Int) (y : ByteArray) (hy : y.size ≤ 40) :
    Calls Tryd.prog 10 #[diskV B I Nx A l.length c, .int .i64 dir, .string y] w fun e w' => e = .returned (.bool (hasD l dir (whP y))) ∧ Below w.heap.size w w' := by
  obtain ⟨k, h⟩ := hides10_ends B I Nx dir l (disk' hz hI) y hy
  exact veneerref10_Hides.calls k B I Nx A c l dir y _ w hr hc h
theorem cuts10 (B I Nx : Int) (A : Option Addr) (c : Nat) (l : List S42) (w : World) (hr : Kd.C k42 w A l.length l) (hc : l.length ≤ c) (hz : Sizes l) (hI : IsTo l l.length) (dir : Int) :
    Calls Tryd.prog 12 #[diskV B I Nx A l.length c, .int .i64 dir] w fun e w' => e = .returned (.bool (hasD l dir ⟨#[46, 119, 104, 46, 46, 119, 104, 46, 46, 111, 112, 113]⟩)) ∧ Below w.heap.size w w' := by
  obtain ⟨k, h⟩ := cuts10_ends B I Nx dir l (disk' hz hI)
  exact veneerref10_Cuts.calls k B I Nx A c l dir _ w hr hc h
theorem white8 (y : ByteArray) (hy : y.size ≤ 40) (w : World) : Calls Tryd.prog 8 #[.string y] w fun e w' => e = .returned (.string (pre ++ y)) ∧ Below w.heap.size w w' := by
  refine (veneerref10_White.calls y (whP y) w ?_).mono fun e w' ⟨h1, h2⟩ => ⟨h1, Drawn0.below h2⟩
  simp only [veneerref10_White.f]
  rw [if_pos (by omega)]
  rfl
theorem white7 (y : ByteArray) (hy : y.size ≤ 40) (w : World) : Calls Tryd.prog 7 #[.string y] w fun e w' => e = .returned (.string (pre ++ y)) ∧ Below w.heap.size w w' :=
  (white y hy w).mono fun e w' ⟨h1, h2⟩ => ⟨h1, by rw [h2]; exact Below.refl _ _⟩
theorem hold14 (u : Int) (h0 : 0 ≤ u) (h1 : u ≤ 9223372036854775807) (w : World) : Calls Tryd.prog 14 #[.int .i64 u] w fun e w' => e = .returned (.string (holdN u)) ∧ Below w.heap.size w w' := by
  obtain ⟨k, h⟩ := hold_ends u h0 h1
  exact veneerref10_Hold.calls k u _ w h
/-- a new disk -/
def root1 : S42 := ⟨1, 2, 493, 1, ⟨0, []⟩, ⟨#[]⟩, []⟩
theorem new18 (w : World) : Calls Tryd.prog 18 #[.int .i64 5, .int .i64 5] w fun e w' => ∃ (A : Option Addr) (c : Nat), e = .returned (.agg #[.int .i64 5, .int .i64 5, .int .i64 2, .slice A 1 c]) ∧ (Kd.C k42 w' A 1 [root1] ∧ 1 ≤ c) ∧ Below w.heap.size w w' := by
  refine (veneerref3_New.calls 5 5 5 5 2 [root1] w rfl).mono fun e w' ⟨v3, h1, h2, h3⟩ => ?_
  obtain ⟨A, c, rfl, hl, hC⟩ := Kd.R_reads h2
  exact ⟨A, c, h1, ⟨hC, hl⟩, h3⟩
theorem root_to : IsTo [root1] 1 := by
  refine ⟨fun t ht => by omega, fun t ht x hx => ?_⟩
  obtain rfl : t = 0 := by omega
  cases hx
  exact ⟨fun t ht => absurd ht (by show ¬ t + 1 < 0; omega), fun t ht => absurd ht (by show ¬ t < 0; omega)⟩
theorem root_sizes : Sizes [root1] := by
  refine ⟨by decide, fun y hy => ?_, fun y hy => ?_, fun y hy => ?_, fun y hy z hz => ?_⟩
  all_goals (rw [List.mem_singleton] at hy; subst hy)
  · exact ⟨⟨by decide, fun x hx => by cases hx⟩, by decide⟩
  · decide
  · decide
  · cases hz
end Go.Proofs.YtaeakifdamlnlaaDoor
set_option linter.unusedVariables false
set_option linter.unusedSimpArgs false
set_option maxRecDepth 100000
namespace Go.Proofs.YtaeakifdamlnlaaDoor
open Go.RowKit Go.Lib Go.Proofs.YtaeakifdamlnlaaDoorW.PrintWords Go.Proofs.YtaeakifdamlnlaaDoorW.PrintMore PMarkTells
def noA : ByteArray := ⟨#[97]⟩
theorem root_no1 : hasD [root1] 1 (whP noA) = false := by unfold hasD getN; simp [root1, hasNm]
theorem root_no2 : hasD [root1] 1 ⟨#[46, 119, 104, 46, 46, 119, 104, 46, 46, 111, 112, 113]⟩ = false := by unfold hasD getN; simp [root1, hasNm]
theorem hold12 : holdN 12 = ⟨#[104, 49, 50]⟩ := by
  unfold holdN
  rw [show (12 : Int).toNat = 12 from rfl, Lib.decDigits_two (by omega) (by omega)]
  rfl
set_option maxHeartbeats 4000000 in
theorem known15 (w : World) (ht : Tab w) : Calls Tryd.prog 15 #[] w fun e w' => e = .returned (.bool true) ∧ Below w.heap.size w w' := by
  have h18 := new18
  have h7 : ∀ W : World, Calls Tryd.prog 7 #[.string ⟨#[97]⟩] W fun e w' => e = .returned (.string ⟨#[46, 119, 104, 46, 97]⟩) ∧ Below W.heap.size W w' := fun W => white7 noA (by decide) W
  have h9 : ∀ (A : Option Addr) (c : Nat) (W : World), Kd.C k42 W A 1 [root1] → Calls Tryd.prog 9 #[.agg #[.int .i64 5, .int .i64 5, .int .i64 2, .slice A 1 c], .int .i64 1, .string ⟨#[97]⟩] W fun e w' => e = .returned (.bool false) ∧ Below W.heap.size W w' :=
    fun A c W h => by have := hidesC 5 5 2 A c [root1] W h root_sizes root_to (by simp [inos, root1]) 1 noA (by decide); rw [root_no1] at this; exact this
  have h11 : ∀ (A : Option Addr) (c : Nat) (W : World), Kd.C k42 W A 1 [root1] → Calls Tryd.prog 11 #[.agg #[.int .i64 5, .int .i64 5, .int .i64 2, .slice A 1 c], .int .i64 1] W fun e w' => e = .returned (.bool false) ∧ Below W.heap.size W w' :=
    fun A c W h => by have := cutsC 5 5 2 A c [root1] W h root_sizes root_to (by simp [inos, root1]) 1; rw [root_no2] at this; exact this
  have h13 : ∀ W : World, Below w.heap.size w W → Calls Tryd.prog 13 #[.int .i64 12] W fun e w' => e = .returned (.string ⟨#[104, 49, 50]⟩) ∧ Below W.heap.size W w' := fun W hW => by
    have := hold13 12 (by omega) (by omega) W (tab_on ht hW); rw [hold12] at this; exact this
  have H9 : Aside _ := h9
  have H11 : Aside _ := h11
  clear h9 h11 ht
  go_enter Tryd.func15, Tryd.ntmps15
  go_wp2_with (first
    | (go_at_call 18; go_must (
        refine (h18 _).mono ?_
        rintro e w1 ⟨A, c, rfl, ⟨hC, hc⟩, hb1⟩
        have HC : Aside (Kd.C k42 w1 A 1 [root1]) := hC
        have HB : Aside (Below w.heap.size w w1) := hb1
        clear hC hb1))
    | (go_at_call 7; go_must (
        refine (h7 _).mono ?_
        rintro e w2 ⟨rfl, hb2⟩
        have HB2 : Aside (Below w1.heap.size w1 w2) := ((Below.refl _ _).alloc (Nat.le_refl _) _).trans (hb2.mono (by simp))
        have d0 : w2.cell? ⟨w1.heap.size, 0, none⟩ = some (.int .i64 5) := (hb2.cell (by simp)).trans (by rw [World.cell?_alloc_at _ _ _ _ rfl]; rfl)
        have d1 : w2.cell? ⟨w1.heap.size, 1, none⟩ = some (.int .i64 5) := (hb2.cell (by simp)).trans (by rw [World.cell?_alloc_at _ _ _ _ rfl]; rfl)
        have d2 : w2.cell? ⟨w1.heap.size, 2, none⟩ = some (.int .i64 2) := (hb2.cell (by simp)).trans (by rw [World.cell?_alloc_at _ _ _ _ rfl]; rfl)
        have d3 : w2.cell? ⟨w1.heap.size, 3, none⟩ = some (.slice A 1 c) := (hb2.cell (by simp)).trans (by rw [World.cell?_alloc_at _ _ _ _ rfl]; rfl)
        have hlt : w1.heap.size < w2.heap.size := Nat.lt_of_lt_of_le (by simp) hb2.size
        have h9 := H9.out A c w2 (Kd.C_below HC.out HB2.out)
        clear hb2))
    | (go_at_call 9; go_must (
        refine h9.mono ?_
        rintro e w3 ⟨rfl, hb3⟩
        have HB3 : Aside (Below w1.heap.size w1 w3) := HB2.out.trans (hb3.mono (Nat.le_of_lt hlt))
        have e0 := (hb3.cell hlt).trans d0
        have e1 := (hb3.cell hlt).trans d1
        have e2 := (hb3.cell hlt).trans d2
        have e3 := (hb3.cell hlt).trans d3
        have h11 := H11.out A c w3 (Kd.C_below HC.out HB3.out)
        have hlt3 : w1.heap.size < w3.heap.size := Nat.lt_of_lt_of_le hlt hb3.size
        clear hb3 d0 d1 d2 d3 hlt))
    | (go_at_call 11; go_must (
        refine h11.mono ?_
        rintro e w4 ⟨rfl, hb4⟩
        have HB4 : Aside (Below w.heap.size w w4) := HB.out.trans ((HB3.out.trans (hb4.mono (Nat.le_of_lt hlt3))).mono HB.out.size)
        clear hb4))
    | (go_at_call 13; go_must (
        refine (h13 _ HB4.out).mono ?_
        rintro e w5 ⟨rfl, hb5⟩
        have HB5 : Aside (Below w.heap.size w w5) := HB4.out.trans (hb5.mono HB4.out.size)
        clear hb5)))
  go_ret
  exact ⟨rfl, HB5.out⟩
end Go.Proofs.YtaeakifdamlnlaaDoor
