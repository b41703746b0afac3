/- slices.Sort and slices.Compact at []string at this program, by the kit's shelf (laid by its commands lay-shelf and lay-plain). -/
import Derived.Shelf.Sort.Plain
import Derived.Shelf.Slices.CompactS
import Derived.Shelf.Slices.Cells
import Derived.Shelf.Slices.In.SortNone
import Derived.Test.YtkccnomdfkhfnaaGreatProg
set_option linter.unusedSimpArgs false
set_option linter.unusedVariables false
namespace Go.Proofs.YtkccnomdfkhfnaaGreat
open Go.Shelf
def Tryz.lays190_ren : Go.Shelf.Ren := ⟨fun | 190 => 36 | 125 => 67 | 258 => 66 | 128 => 102 | 129 => 103 | 302 => 93 | 303 => 94 | 304 => 95 | 305 => 96 | 306 => 97 | 307 => 98 | 308 => 99 | 309 => 100 | 310 => 101 | 333 => 116 | 329 => 117 | 330 => 118 | 334 => 119 | 335 => 120 | 336 => 121 | 344 => 125 | n => n, fun | 31 => 62 | 9 => 9 | 3 => 3 | 46 => 117 | 0 => 0 | 51 => 153 | 53 => 155 | 4 => 4 | 183 => 146 | 182 => 145 | 131 => 111 | 5 => 5 | 218 => 166 | 222 => 170 | 228 => 174 | 229 => 80 | n => n, fun | n => n⟩
theorem Tryz.lays190 : Go.Proofs.Lays.n190 Tryz.prog Tryz.lays190_ren := {
  mixed := by kernel_rfl
  f125 := Tryz.func67.trans (congrArg some (by kernel_rfl))
  f128 := Tryz.func102.trans (congrArg some (by kernel_rfl))
  f129 := Tryz.func103.trans (congrArg some (by kernel_rfl))
  f190 := Tryz.func36.trans (congrArg some (by kernel_rfl))
  f258 := Tryz.func66.trans (congrArg some (by kernel_rfl))
  f302 := Tryz.func93.trans (congrArg some (by kernel_rfl))
  f303 := Tryz.func94.trans (congrArg some (by kernel_rfl))
  f304 := Tryz.func95.trans (congrArg some (by kernel_rfl))
  f305 := Tryz.func96.trans (congrArg some (by kernel_rfl))
  f306 := Tryz.func97.trans (congrArg some (by kernel_rfl))
  f307 := Tryz.func98.trans (congrArg some (by kernel_rfl))
  f308 := Tryz.func99.trans (congrArg some (by kernel_rfl))
  f309 := Tryz.func100.trans (congrArg some (by kernel_rfl))
  f310 := Tryz.func101.trans (congrArg some (by kernel_rfl))
  f329 := Tryz.func117.trans (congrArg some (by kernel_rfl))
  f330 := Tryz.func118.trans (congrArg some (by kernel_rfl))
  f333 := Tryz.func116.trans (congrArg some (by kernel_rfl))
  f334 := Tryz.func119.trans (congrArg some (by kernel_rfl))
  f335 := Tryz.func120.trans (congrArg some (by kernel_rfl))
  f336 := Tryz.func121.trans (congrArg some (by kernel_rfl))
  f344 := Tryz.func125.trans (congrArg some (by kernel_rfl))
  t0 := Tryz.underlying0
  a0 := Tryz.isAgg0
  z0 := Tryz.sizeOf0
  v0 := Tryz.zeroValue0
  t3 := Tryz.underlying3
  a3 := Tryz.isAgg3
  z3 := Tryz.sizeOf3
  v3 := Tryz.zeroValue3
  t4 := Tryz.underlying4
  a4 := Tryz.isAgg4
  z4 := Tryz.sizeOf4
  v4 := Tryz.zeroValue4
  t5 := Tryz.underlying5
  a5 := Tryz.isAgg5
  z5 := Tryz.sizeOf5
  v5 := Tryz.zeroValue5
  t9 := Tryz.underlying9
  a9 := Tryz.isAgg9
  z9 := Tryz.sizeOf9
  v9 := Tryz.zeroValue9
  t31 := Tryz.underlying62
  a31 := Tryz.isAgg62
  z31 := Tryz.sizeOf62
  v31 := Tryz.zeroValue62
  t46 := Tryz.underlying117
  a46 := Tryz.isAgg117
  z46 := Tryz.sizeOf117
  v46 := Tryz.zeroValue117
  t51 := Tryz.underlying153
  a51 := Tryz.isAgg153
  z51 := Tryz.sizeOf153
  v51 := Tryz.zeroValue153
  t53 := Tryz.underlying155
  a53 := Tryz.isAgg155
  z53 := Tryz.sizeOf155
  v53 := Tryz.zeroValue155
  t131 := Tryz.underlying111
  a131 := Tryz.isAgg111
  z131 := Tryz.sizeOf111
  v131 := Tryz.zeroValue111
  t182 := Tryz.underlying145
  a182 := Tryz.isAgg145
  z182 := Tryz.sizeOf145
  v182 := Tryz.zeroValue145
  t183 := Tryz.underlying146
  a183 := Tryz.isAgg146
  z183 := Tryz.sizeOf146
  v183 := Tryz.zeroValue146
  t218 := Tryz.underlying166
  a218 := Tryz.isAgg166
  z218 := Tryz.sizeOf166
  v218 := Tryz.zeroValue166
  t222 := Tryz.underlying170
  a222 := Tryz.isAgg170
  z222 := Tryz.sizeOf170
  v222 := Tryz.zeroValue170
  t228 := Tryz.underlying174
  a228 := Tryz.isAgg174
  z228 := Tryz.sizeOf174
  v228 := Tryz.zeroValue174
  t229 := Tryz.underlying80
  a229 := Tryz.isAgg80
  z229 := Tryz.sizeOf80
  v229 := Tryz.zeroValue80 }
open Go.Sort Go.RowKit in
theorem Tryz.slices_Sort_string (blk off cap : Nat) (ss : List (List UInt8)) (w : World) (hH : Holds encStr w blk off ss.toArray) (hblk : blk < w.heap.size) (hsz : ss.length < 4611686018427387904) :
    Calls Tryz.prog 36 #[.slice (some ⟨blk, off, none⟩) ss.length cap] w fun e w' =>
      e = .returned (.tuple #[]) ∧ ∃ n os, w' = grow (putRow encStr (Sort.ahead w n) blk off (ss.mergeSort fun x y => decide (x ≤ y)).toArray) os := Any.slices_Sort_string Tryz.lays190 blk off cap ss w hH hblk hsz
def Tryz.lays194_ren : Go.Shelf.Ren := ⟨fun | 194 => 37 | n => n, fun | 31 => 62 | 9 => 9 | 3 => 3 | 4 => 4 | 0 => 0 | n => n, fun | n => n⟩
theorem Tryz.lays194 : Go.Proofs.Lays.n194 Tryz.prog Tryz.lays194_ren := {
  mixed := by kernel_rfl
  f194 := Tryz.func37.trans (congrArg some (by kernel_rfl))
  t0 := Tryz.underlying0
  a0 := Tryz.isAgg0
  z0 := Tryz.sizeOf0
  v0 := Tryz.zeroValue0
  t3 := Tryz.underlying3
  a3 := Tryz.isAgg3
  z3 := Tryz.sizeOf3
  v3 := Tryz.zeroValue3
  t4 := Tryz.underlying4
  a4 := Tryz.isAgg4
  z4 := Tryz.sizeOf4
  v4 := Tryz.zeroValue4
  t9 := Tryz.underlying9
  a9 := Tryz.isAgg9
  z9 := Tryz.sizeOf9
  v9 := Tryz.zeroValue9
  t31 := Tryz.underlying62
  a31 := Tryz.isAgg62
  z31 := Tryz.sizeOf62
  v31 := Tryz.zeroValue62 }
open Go.RowKit Go.Lib Go.Sort in
/-- slices.Compact at []string: "Compact replaces consecutive runs of equal elements with a single copy. This is like the uniq command found on Unix. Compact modifies the contents of the slice s and returns the modified slice, which may have a smaller length. Compact zeroes the elements between the new length and the original length. The result preserves the nilness of s.": IT RETURNS THE SLICE CUT TO 'Lib.compact zs'; ITS CELLS HOLD 'Lib.compact zs', THEN ZERO VALUES up to the old length; all else is as it was, but for the count of draws. IN THE WORDS OF slices.Sort's CONTRACT ('Holds', 'putRow'): so the everyday 'slices.Sort(xs); xs = slices.Compact(xs)' goes from the one contract to the other. It asks 'zs.length ≤ cap' (every slice's: the reslicing 's[:k]' looks at it). Length 0, nil: '.._empty'. (LAID: no walk: one application.) -/
theorem Tryz.slices_Compact_string (blk off cap : Nat) (zs : List (List UInt8)) (w : World) (hH : Holds encStr w blk off zs.toArray) (hsz : zs.length ≤ 9223372036854775807) (hcap : zs.length ≤ cap) :
    Calls Tryz.prog 37 #[.slice (some ⟨blk, off, none⟩) zs.length cap] w fun e w' => e = .returned (.slice (some ⟨blk, off, none⟩) (Lib.compact zs).length cap) ∧ ∃ q, w' = putRow encStr (Sort.ahead w q) blk off (Lib.compact zs ++ List.replicate (zs.length - (Lib.compact zs).length) []).toArray := Any.slices_Compact_string Tryz.lays194 blk off cap zs w hH hsz hcap
open Go.RowKit Go.Lib Go.Sort in
/-- The same at a slice of length 0, a nil one too: it comes back as it is. (LAID: no walk: one application.) -/
theorem Tryz.slices_Compact_string_empty (a : Option Addr) (cap : Nat) (w : World) :
    Calls Tryz.prog 37 #[.slice a 0 cap] w fun e w' => e = .returned (.slice a 0 cap) ∧ w' = w := Any.slices_Compact_string_empty Tryz.lays194 a cap w
open Go.RowKit Go.Sort in
/-- .. and plain. (LAID: no walk: one application.) -/
theorem Tryz.slices_Sort_string_none (p : Option Addr) (cap : Nat) (w : World) :
    Calls Tryz.prog 36 #[.slice p 0 cap] w fun e w' => e = .returned (.tuple #[]) ∧ w' = w := Any.slices_Sort_string_none Tryz.lays190 p cap w
end Go.Proofs.YtkccnomdfkhfnaaGreat
