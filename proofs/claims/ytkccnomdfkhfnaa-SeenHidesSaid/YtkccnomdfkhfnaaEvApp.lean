/- What functions of the program compute, written down; read off their code. -/
import Derived.Test.YtkccnomdfkhfnaaEvAct2
import Derived.Laws.Append
set_option linter.unusedSimpArgs false
set_option linter.unusedVariables false
namespace Go.Proofs.Ytkccnomdfkhfnaa.Ev
section
variable {P : Program}
theorem app_fits {w w' : World} {t xt e ty : TypeId} {i : TypeInfo} {dx : TypeDesc} {x : Value} {a : Addr} {n sLen sCap : Nat} {ys : List Value} (ht : P.underlying t = some (.slice e)) (hi : P.info? e = some i) (hx : P.underlying xt = some dx)
    (hnz : dx = .string ∨ ∃ e', dx = .slice e') (hn : Builtin.lenOf x = pure n) (hroom : sLen + n ≤ sCap) (hf : (Builtin.firstCells i.size n x).run P w = .ok ⟨ys⟩ w)
    (hst : (storeCells (a.add (sLen * i.size)) ys).run P w = .ok () w') :
    (Builtin.append_ #[t, xt] ty #[.slice (some a) sLen sCap, x]).run P w = .ok (.slice (some a) (sLen + n) sCap) w' := by
  rcases hnz with rfl | ⟨e', rfl⟩ <;>
    simp [Builtin.append_, run_underlying ht, run_underlying hx, sizeOf, typeInfo, hi, hn, hroom, hf, hst]

theorem app_grows {w : World} {t xt e ty : TypeId} {i : TypeInfo} {z : Value} {dx : TypeDesc} {x : Value} {base : Option Addr} {n sLen sCap : Nat} {os ys : List Value} (ht : P.underlying t = some (.slice e)) (hi : P.info? e = some i) (hz : i.zero = some z) (hx : P.underlying xt = some dx)
    (hnz : dx = .string ∨ ∃ e', dx = .slice e') (hn : Builtin.lenOf x = pure n) (hg : ¬ sLen + n ≤ sCap) (h63 : ((sLen + n : Nat) : Int) ≤ 9223372036854775807) (hfit : Builtin.nextslicecap (sLen + n) sCap * i.bytes ≤ 281474976710656)
    (hfo : (Builtin.firstCells i.size sLen (.slice base sLen sCap)).run P w.drew = .ok os.toArray w.drew) (hf : (Builtin.firstCells i.size n x).run P w.drew = .ok ys.toArray w.drew) :
    (Builtin.append_ #[t, xt] ty #[.slice base sLen sCap, x]).run P w =
      .ok (.slice (some ⟨w.heap.size, 0, none⟩) (sLen + n) (grownCap w (sLen + n) sCap e)) (w.drew.alloc (.cells (os.toArray ++ ys.toArray ++ Builtin.zeroCells z.cells (grownCap w (sLen + n) sCap e - (sLen + n))) e)) := by
  have h63' : ¬ (9223372036854775807 < ((sLen : Int) + (n : Int))) := by omega
  have h48' : ¬ (281474976710656 < Builtin.nextslicecap (sLen + n) sCap * i.bytes) := by omega
  rcases hnz with rfl | ⟨e', rfl⟩ <;>
    (simp [Builtin.append_, run_underlying ht, run_underlying hx, sizeOf, typeInfo, zeroValue, hi, hz, hn, hg, h63', h48', Question.forced, hf, hfo, newRow, grownCap]) <;> (congr 2; apply Array.ext'; simp [List.append_assoc])
/-- append(s, make([]T, n)...): zeros -/
theorem app_fits0 {w w' : World} {t xt e ty : TypeId} {i : TypeInfo} {z : Value} {kd k : IntKind} {a : Addr} {n sLen sCap : Nat} (ht : P.underlying t = some (.slice e)) (hi : P.info? e = some i) (hz : i.zero = some z) (hx : P.underlying xt = some (.int kd))
    (hw : IntKind.i64.wrap (Int.ofNat n) = Int.ofNat n) (hb : n * i.bytes ≤ 281474976710656) (hroom : sLen + n ≤ sCap) (h0 : n * i.size ≠ 0)
    (hst : (storeCells (a.add (sLen * i.size)) (Builtin.zeroCells z.cells n).toList).run P w = .ok () w') :
    (Builtin.append_ #[t, xt] ty #[.slice (some a) sLen sCap, .int k (Int.ofNat n)]).run P w = .ok (.slice (some a) (sLen + n) sCap) w' := by
  have hb' : ¬ ((281474976710656 : Int) < (n : Int) * (i.bytes : Int)) := by
    have h2 : ((n * i.bytes : Nat) : Int) ≤ (281474976710656 : Nat) := Int.ofNat_le.2 hb
    rw [Int.natCast_mul] at h2
    omega
  have hw' : IntKind.i64.wrap (n : Int) = (n : Int) := hw
  have hn0 : ¬ ((n : Int) < 0) := by omega
  have h0' : ¬ (n = 0 ∨ i.size = 0) := by simpa [Nat.mul_eq_zero] using h0
  simp [Builtin.append_, run_underlying ht, run_underlying hx, sizeOf, typeInfo, zeroValue, hi, hz, asInt, asIntOf, hw', hb', hn0, hroom, h0, hst]
theorem app_grows0 {w : World} {t xt e ty : TypeId} {i : TypeInfo} {z : Value} {kd k : IntKind} {base : Option Addr} {n sLen sCap : Nat} {os : List Value} (ht : P.underlying t = some (.slice e)) (hi : P.info? e = some i) (hz : i.zero = some z) (hx : P.underlying xt = some (.int kd))
    (hw : IntKind.i64.wrap (Int.ofNat n) = Int.ofNat n) (hb : n * i.bytes ≤ 281474976710656) (h0 : n * i.size ≠ 0)
    (hg : ¬ sLen + n ≤ sCap) (h63 : ((sLen + n : Nat) : Int) ≤ 9223372036854775807) (hfit : Builtin.nextslicecap (sLen + n) sCap * i.bytes ≤ 281474976710656)
    (hfo : (Builtin.firstCells i.size sLen (.slice base sLen sCap)).run P w.drew = .ok os.toArray w.drew) :
    (Builtin.append_ #[t, xt] ty #[.slice base sLen sCap, .int k (Int.ofNat n)]).run P w =
      .ok (.slice (some ⟨w.heap.size, 0, none⟩) (sLen + n) (grownCap w (sLen + n) sCap e)) (w.drew.alloc (.cells (os.toArray ++ Builtin.zeroCells z.cells n ++ Builtin.zeroCells z.cells (grownCap w (sLen + n) sCap e - (sLen + n))) e)) := by
  have hb' : ¬ ((281474976710656 : Int) < (n : Int) * (i.bytes : Int)) := by
    have h2 : ((n * i.bytes : Nat) : Int) ≤ (281474976710656 : Nat) := Int.ofNat_le.2 hb
    rw [Int.natCast_mul] at h2
    omega
  have hw' : IntKind.i64.wrap (n : Int) = (n : Int) := hw
  have hn0 : ¬ ((n : Int) < 0) := by omega
  have h0' : ¬ (n = 0 ∨ i.size = 0) := by simpa [Nat.mul_eq_zero] using h0
  have hmax : ¬ (9223372036854775807 < ((sLen : Int) + (n : Int))) := by omega
  have h48' : ¬ (281474976710656 < Builtin.nextslicecap (sLen + n) sCap * i.bytes) := by omega
  simp [Builtin.append_, run_underlying ht, run_underlying hx, sizeOf, typeInfo, zeroValue, hi, hz, asInt, asIntOf, hw', hb', hn0, hg, hmax, h48', Question.forced, hfo, newRow, grownCap, h0]
  try (congr 2; apply Array.ext'; simp [List.append_assoc])
/-- nothing is appended -/
theorem app_none0 {w : World} {t xt e ty : TypeId} {i : TypeInfo} {kd k : IntKind} {sLen sCap : Nat} (ht : P.underlying t = some (.slice e)) (hi : P.info? e = some i) (hx : P.underlying xt = some (.int kd)) (hroom : sLen ≤ sCap) (base : Option Addr)
    (hst : ∀ a, base = some a → (storeCells (a.add (sLen * i.size)) []).run P w = .ok () w) :
    (Builtin.append_ #[t, xt] ty #[.slice base sLen sCap, .int k (Int.ofNat 0)]).run P w = .ok (.slice base sLen sCap) w := by
  have hw' : IntKind.i64.wrap 0 = 0 := by decide
  cases base with
  | none => simp [Builtin.append_, run_underlying ht, run_underlying hx, sizeOf, typeInfo, hi, asInt, asIntOf, hw', hroom]
  | some a => simp [Builtin.append_, run_underlying ht, run_underlying hx, sizeOf, typeInfo, hi, asInt, asIntOf, hw', hroom, storeCells]
theorem app_none {w : World} {t xt e ty : TypeId} {i : TypeInfo} {dx : TypeDesc} {x : Value} {sLen sCap : Nat} (ht : P.underlying t = some (.slice e)) (hi : P.info? e = some i) (hx : P.underlying xt = some dx)
    (hnz : dx = .string ∨ ∃ e', dx = .slice e') (hn : Builtin.lenOf x = pure 0) (hroom : sLen ≤ sCap) (hf : (Builtin.firstCells i.size 0 x).run P w = .ok ⟨[]⟩ w) (base : Option Addr) :
    (Builtin.append_ #[t, xt] ty #[.slice base sLen sCap, x]).run P w = .ok (.slice base sLen sCap) w := by
  rcases hnz with rfl | ⟨e', rfl⟩ <;> cases base <;>
    simp [Builtin.append_, run_underlying ht, run_underlying hx, sizeOf, typeInfo, hi, hn, hroom, hf, storeCells]
end
end Go.Proofs.Ytkccnomdfkhfnaa.Ev
