import Derived.Test.YtiaofpolndcijaaGreatDoorMS5
import Derived.OpenShut
import Derived.SliceStrings
import Derived.Deep.Strs
import Derived.Lib.SmallJoins
set_option linter.unusedVariables false
set_option linter.unusedSimpArgs false
set_option maxRecDepth 100000
namespace Go.Proofs.YtiaofpolndcijaaGreatDoor
open Go.ChangeShapes Go.WideShapes Go.ChangeAt Go.RowKit
theorem array7 {α : Type} {cs : Array α} (h : cs.size = 7) : ∃ c0 c1 c2 c3 c4 c5 c6, cs = #[c0, c1, c2, c3, c4, c5, c6] := by
  obtain ⟨l⟩ := cs
  match l, h with
  | [c0, c1, c2, c3, c4, c5, c6], _ => exact ⟨c0, c1, c2, c3, c4, c5, c6, rfl⟩
theorem c27 : Tryz.prog.cellsOf 27 = 7 := by kernel_rfl
theorem c25 : Tryz.prog.cellsOf 25 = 5 := by kernel_rfl
theorem c22 : Tryz.prog.cellsOf 22 = 1 := by kernel_rfl
theorem c23 : Tryz.prog.cellsOf 23 = 1 := by kernel_rfl
theorem c2 : Tryz.prog.cellsOf 2 = 1 := by kernel_rfl
theorem c3 : Tryz.prog.cellsOf 3 = 1 := by kernel_rfl
theorem c5' : Tryz.prog.cellsOf 5 = 1 := by kernel_rfl
theorem c9 : Tryz.prog.cellsOf 9 = 1 := by kernel_rfl
variable {H : Type} {enc : TypeId × Value → H} {W : World} {base : Nat}
/-- what a Data row reads as -/
theorem openData {n : Nat} {c : Value} {y : DataW H × List MemPlace} (h : DataW.trod enc Tryz.prog W 0 (fun _ => true) true n 22 [c] = some y) :
    ∃ A len cap x, c = .slice A len cap ∧ Byt W c x := by
  rcases open_ints Tryz.underlying22 Tryz.underlying5 c5' h with ⟨hc, _⟩ | ⟨a, len, cap, zs, hc, _, hle, _, hzs, hy, hcell, _⟩
  · obtain rfl : c = .slice none 0 0 := by simpa using hc
    exact ⟨none, 0, 0, _, rfl, fun W' _ => run_convert_bytes_nil W' 22 5 Tryz.underlying22 Tryz.underlying5 0 0 9 Tryz.underlying9⟩
  · obtain rfl : c = .slice (some a) len cap := by simpa using hc
    rw [if_pos rfl] at hzs
    by_cases h0 : len = 0
    · subst h0
      refine ⟨some a, 0, cap, ByteArray.empty, rfl, fun W' _ => ?_⟩
      rw [run_convert_bytes_string W' 22 9 5 _ 0 cap Tryz.underlying22 Tryz.underlying5 Tryz.underlying9, run_bytesToString W' a 0 cap [] (by simp [loadCells] <;> rfl)]
      rfl
    · obtain ⟨b, off, rfl, hk⟩ := ints_at hcell (by omega)
      refine ⟨some ⟨b, off, none⟩, len, cap, strOfNums (zs.take len), rfl, fun W' hB => ?_⟩
      refine run_convert_bytes_arg W' 22 5 Tryz.underlying22 Tryz.underlying5 b off len cap (zs.take len) (by simp; omega) (fun j hj => ?_) 9 Tryz.underlying9
      have h1 := hk j (by omega)
      rw [hB.cell (World.block_lt_of_cell? _ _ h1), h1]
      simp [List.getD, List.getElem?_take, hj]
/-- what a Names row reads as -/
theorem openNames {n : Nat} {c : Value} {y : DataW H × List MemPlace} (h : DataW.trod enc Tryz.prog W 0 (fun _ => true) true n 23 [c] = some y) :
    ∃ A len cap xs, c = .slice A len cap ∧ Nms W c len xs := by
  rcases open_strings Tryz.underlying23 Tryz.underlying9 c9 h with ⟨hc, _⟩ | ⟨a, len, cap, ss, hc, _, hle, hm, hss, hy, hcell, _⟩
  · obtain rfl : c = .slice none 0 0 := by simpa using hc
    exact ⟨none, 0, 0, fun _ => ByteArray.empty, rfl, by omega, none, 0, rfl, .inl rfl⟩
  · obtain rfl : c = .slice (some a) len cap := by simpa using hc
    rw [if_pos rfl] at hss
    have hmx : maxLen ≤ 9223372036854775807 := by decide
    refine ⟨some a, len, cap, fun j => ss.getD j ByteArray.empty, rfl, by omega, some a, cap, rfl, ?_⟩
    by_cases h0 : len = 0
    · exact .inl h0
    · right
      have h1 := hcell 0 (by omega)
      obtain ⟨b, off, spot⟩ := a
      have hspot : spot = none := by simpa [Addr.add] using World.cell?_spot h1
      subst hspot
      refine ⟨b, off, rfl, by simpa [Addr.add] using World.block_lt_of_cell? _ _ h1, fun j hj => ?_⟩
      rw [← Go.WideShapes.add_plain]
      exact hcell j (by omega)
theorem openI {t : TypeId} {n : Nat} {c : Value} {o : Option (DataW H × List MemPlace)} (ht : Tryz.prog.underlying t = some (.int .i64)) (h : DataW.trod enc Tryz.prog W 0 (fun _ => true) true n t [c] = o) (ho : o.isSome = true) : ∃ z, c = .int .i64 z ∧ True := by
  obtain ⟨y, rfl⟩ := Option.isSome_iff_exists.1 ho
  obtain ⟨z, hz, _⟩ := DataW.trod_int ht h
  exact ⟨z, by simpa using hz, trivial⟩
/-- what a reply reads as -/
theorem openReply {v : Value} {d : DataW H} {p : List MemPlace} (hval : Value.okWide Tryz.prog W .any base 27 v) (h : DataW.Trod enc Tryz.prog W 0 (fun _ => true) true 27 v d p) :
    ∃ A nd cd Na n cp i k m l s x xs, v = rep (.slice A nd cd) (.slice Na n cp) i k m l s ∧ Byt W (.slice A nd cd) x ∧ Nms W (.slice Na n cp) n xs := by
  obtain ⟨cs, rfl, hsz⟩ := okWide_struct Tryz.underlying27 hval
  obtain ⟨e0, e1, e2, e3, e4, e5, e6, rfl⟩ := array7 (hsz.trans c27)
  obtain ⟨fuel, hf⟩ := h
  obtain ⟨y0, y1, y2, n, _, _, h0, h1, h2⟩ := Go.Deep.trod_struct3 Tryz.underlying27 hf
  simp only [Value.cells, c22, c23, c25, List.drop, List.take] at h0 h1 h2
  obtain ⟨A, nd, cd, x, rfl, hx⟩ := openData h0
  obtain ⟨Na, nn, cp, xs, rfl, hxs⟩ := openNames h1
  obtain ⟨ys, m, _, _, _, hlen, hi⟩ := DataW.trod_struct Tryz.underlying25 h2
  have hs5 : ys.length = 5 := hlen
  have g0 := hi 0 { name := "Ino", type := 2, offset := 0, embedded := false, tag := "", pkgPath := "", byteOffset := 0 } rfl
  have g1 := hi 1 { name := "Kind", type := 3, offset := 1, embedded := false, tag := "", pkgPath := "", byteOffset := 8 } rfl
  have g2 := hi 2 { name := "Mode", type := 3, offset := 2, embedded := false, tag := "", pkgPath := "", byteOffset := 16 } rfl
  have g3 := hi 3 { name := "Links", type := 3, offset := 3, embedded := false, tag := "", pkgPath := "", byteOffset := 24 } rfl
  have g4 := hi 4 { name := "Size", type := 3, offset := 4, embedded := false, tag := "", pkgPath := "", byteOffset := 32 } rfl
  simp only [c2, c3, List.drop, List.take] at g0 g1 g2 g3 g4
  obtain ⟨z0, rfl, -⟩ := openI Tryz.underlying2 g0 (by rw [List.getElem?_eq_getElem (by omega)]; rfl)
  obtain ⟨z1, rfl, -⟩ := openI Tryz.underlying3 g1 (by rw [List.getElem?_eq_getElem (by omega)]; rfl)
  obtain ⟨z2, rfl, -⟩ := openI Tryz.underlying3 g2 (by rw [List.getElem?_eq_getElem (by omega)]; rfl)
  obtain ⟨z3, rfl, -⟩ := openI Tryz.underlying3 g3 (by rw [List.getElem?_eq_getElem (by omega)]; rfl)
  obtain ⟨z4, rfl, -⟩ := openI Tryz.underlying3 g4 (by rw [List.getElem?_eq_getElem (by omega)]; rfl)
  exact ⟨A, nd, cd, Na, nn, cp, z0, z1, z2, z3, z4, x, xs, rfl, hx, hxs⟩
end Go.Proofs.YtiaofpolndcijaaGreatDoor
