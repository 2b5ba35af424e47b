/-
  The contracts of the library's functions, at this seat's program: tables of numbers, facts of the program, one application each.
-/
import Derived.Shelf.SlSortCmp.WholeK
import Derived.Shelf.SlSortCmp.NoneTotal
import Derived.Ground.SlsfProg
import Derived.Test.YthikbfhdebaceaaM7
import Derived.Shelf.Sort.Plain
import Derived.Ground.Names2Prog
import Derived.Shelf.Slices.CompactI
import Derived.Shelf.Slices.In.SortNone
import Derived.Test.YthikbfhdebaceaaM4
import Derived.Test.YthikbfhdebaceaaProg
import Derived.KernelRfl
namespace Go.Proofs

open Go.Shelf
def Try.lays189_ren : Go.Shelf.Ren := ⟨fun | 189 => 47 | 125 => 73 | 257 => 72 | 128 => 97 | 129 => 98 | 294 => 89 | 295 => 90 | 296 => 91 | 297 => 92 | 298 => 93 | 299 => 94 | 216 => 59 | 300 => 95 | 301 => 96 | 328 => 108 | 329 => 109 | 330 => 110 | 331 => 111 | 332 => 112 | 215 => 84 | 343 => 116 | n => n, fun | 28 => 31 | 3 => 3 | 46 => 124 | 0 => 0 | 51 => 146 | 53 => 148 | 4 => 4 | 183 => 139 | 182 => 138 | 131 => 143 | 5 => 5 | 9 => 9 | 218 => 158 | 222 => 162 | 228 => 166 | 229 => 49 | n => n, fun | n => n⟩
theorem Try.lays189 : Go.Proofs.Lays.n189 Try.prog Try.lays189_ren := {
  mixed := by kernel_rfl
  f125 := Try.func73.trans (congrArg some (by kernel_rfl))
  f128 := Try.func97.trans (congrArg some (by kernel_rfl))
  f129 := Try.func98.trans (congrArg some (by kernel_rfl))
  f189 := Try.func47.trans (congrArg some (by kernel_rfl))
  f215 := Try.func84.trans (congrArg some (by kernel_rfl))
  f216 := Try.func59.trans (congrArg some (by kernel_rfl))
  f257 := Try.func72.trans (congrArg some (by kernel_rfl))
  f294 := Try.func89.trans (congrArg some (by kernel_rfl))
  f295 := Try.func90.trans (congrArg some (by kernel_rfl))
  f296 := Try.func91.trans (congrArg some (by kernel_rfl))
  f297 := Try.func92.trans (congrArg some (by kernel_rfl))
  f298 := Try.func93.trans (congrArg some (by kernel_rfl))
  f299 := Try.func94.trans (congrArg some (by kernel_rfl))
  f300 := Try.func95.trans (congrArg some (by kernel_rfl))
  f301 := Try.func96.trans (congrArg some (by kernel_rfl))
  f328 := Try.func108.trans (congrArg some (by kernel_rfl))
  f329 := Try.func109.trans (congrArg some (by kernel_rfl))
  f330 := Try.func110.trans (congrArg some (by kernel_rfl))
  f331 := Try.func111.trans (congrArg some (by kernel_rfl))
  f332 := Try.func112.trans (congrArg some (by kernel_rfl))
  f343 := Try.func116.trans (congrArg some (by kernel_rfl))
  t0 := Try.underlying0
  a0 := Try.isAgg0
  z0 := Try.sizeOf0
  v0 := Try.zeroValue0
  t3 := Try.underlying3
  a3 := Try.isAgg3
  z3 := Try.sizeOf3
  v3 := Try.zeroValue3
  t4 := Try.underlying4
  a4 := Try.isAgg4
  z4 := Try.sizeOf4
  v4 := Try.zeroValue4
  t5 := Try.underlying5
  a5 := Try.isAgg5
  z5 := Try.sizeOf5
  v5 := Try.zeroValue5
  t9 := Try.underlying9
  a9 := Try.isAgg9
  z9 := Try.sizeOf9
  v9 := Try.zeroValue9
  t28 := Try.underlying31
  a28 := Try.isAgg31
  z28 := Try.sizeOf31
  v28 := Try.zeroValue31
  t46 := Try.underlying124
  a46 := Try.isAgg124
  z46 := Try.sizeOf124
  v46 := Try.zeroValue124
  t51 := Try.underlying146
  a51 := Try.isAgg146
  z51 := Try.sizeOf146
  v51 := Try.zeroValue146
  t53 := Try.underlying148
  a53 := Try.isAgg148
  z53 := Try.sizeOf148
  v53 := Try.zeroValue148
  t131 := Try.underlying143
  a131 := Try.isAgg143
  z131 := Try.sizeOf143
  v131 := Try.zeroValue143
  t182 := Try.underlying138
  a182 := Try.isAgg138
  z182 := Try.sizeOf138
  v182 := Try.zeroValue138
  t183 := Try.underlying139
  a183 := Try.isAgg139
  z183 := Try.sizeOf139
  v183 := Try.zeroValue139
  t218 := Try.underlying158
  a218 := Try.isAgg158
  z218 := Try.sizeOf158
  v218 := Try.zeroValue158
  t222 := Try.underlying162
  a222 := Try.isAgg162
  z222 := Try.sizeOf162
  v222 := Try.zeroValue162
  t228 := Try.underlying166
  a228 := Try.isAgg166
  z228 := Try.sizeOf166
  v228 := Try.zeroValue166
  t229 := Try.underlying49
  a229 := Try.isAgg49
  z229 := Try.sizeOf49
  v229 := Try.zeroValue49 }
open Go.Sort Go.RowKit in
theorem Try.slices_Sort_int (blk off cap : Nat) (zs : List Int) (w : World) (hH : Holds (Value.int .i64) w blk off zs.toArray) (hblk : blk < w.heap.size) (hsz : zs.length < 4611686018427387904) :
    Calls Try.prog 47 #[.slice (some ⟨blk, off, none⟩) zs.length cap] w fun e w' =>
      e = .returned (.tuple #[]) ∧ ∃ n os, w' = grow (putRow (Value.int .i64) (Sort.ahead w n) blk off (zs.mergeSort fun x y => decide (x ≤ y)).toArray) os := Any.slices_Sort_int Try.lays189 blk off cap zs w hH hblk hsz
def Try.laysNm220_ren : Go.Shelf.Ren := ⟨fun | 20 => 48 | n => n, fun | 22 => 31 | 3 => 3 | 4 => 4 | 0 => 0 | n => n, fun | n => n⟩
theorem Try.laysNm220 : Go.Proofs.Lays2.n20 Try.prog Try.laysNm220_ren := {
  mixed := by kernel_rfl
  f20 := Try.func48.trans (congrArg some (by kernel_rfl))
  t0 := Try.underlying0
  a0 := Try.isAgg0
  z0 := Try.sizeOf0
  v0 := Try.zeroValue0
  t3 := Try.underlying3
  a3 := Try.isAgg3
  z3 := Try.sizeOf3
  v3 := Try.zeroValue3
  t4 := Try.underlying4
  a4 := Try.isAgg4
  z4 := Try.sizeOf4
  v4 := Try.zeroValue4
  t22 := Try.underlying31
  a22 := Try.isAgg31
  z22 := Try.sizeOf31
  v22 := Try.zeroValue31
  i3 := by kernel_rfl }
open Go.RowKit Go.Lib Go.Sort in
/-- slices.Compact at []int, over an array: the library's two loops are walked. (LAID: no walk: one application.) -/
theorem Try.slices_Compact_int_arr (blk off cap : Nat) (d : Array Int) (w : World) (hH : Holds encI w blk off d) (hsz : d.size ≤ 9223372036854775807) (hcap : d.size ≤ cap) :
    Calls Try.prog 48 #[.slice (some ⟨blk, off, none⟩) d.size cap] w fun e w' => e = .returned (.slice (some ⟨blk, off, none⟩) (compactUpTo d d.size).length cap) ∧ ∃ q, w' = putRow encI (Sort.ahead w q) blk off (compactUpTo d d.size ++ List.replicate (d.size - (compactUpTo d d.size).length) 0).toArray := Any.slices_Compact_int_arr Try.laysNm220 blk off cap d w hH hsz hcap
open Go.RowKit Go.Lib Go.Sort in
/-- slices.Compact at []int: "Compact replaces consecutive runs of equal elements with a single copy. This is like the uniq command found on Unix. Compact modifies the contents of the slice s and returns the modified slice, which may have a smaller length. Compact zeroes the elements between the new length and the original length. The result preserves the nilness of s.": IT RETURNS THE SLICE CUT TO 'Lib.compact zs'; ITS CELLS HOLD 'Lib.compact zs', THEN ZERO VALUES up to the old length; all else is as it was, but for the count of draws. IN THE WORDS OF slices.Sort's CONTRACT ('Holds', 'putRow'): so the everyday 'slices.Sort(xs); xs = slices.Compact(xs)' goes from the one contract to the other. It asks 'zs.length ≤ cap' (every slice's: the reslicing 's[:k]' looks at it). Length 0, nil: '.._empty'. (LAID: no walk: one application.) -/
theorem Try.slices_Compact_int (blk off cap : Nat) (zs : List Int) (w : World) (hH : Holds (Value.int .i64) w blk off zs.toArray) (hsz : zs.length ≤ 9223372036854775807) (hcap : zs.length ≤ cap) :
    Calls Try.prog 48 #[.slice (some ⟨blk, off, none⟩) zs.length cap] w fun e w' => e = .returned (.slice (some ⟨blk, off, none⟩) (Lib.compact zs).length cap) ∧ ∃ q, w' = putRow (Value.int .i64) (Sort.ahead w q) blk off (Lib.compact zs ++ List.replicate (zs.length - (Lib.compact zs).length) 0).toArray := Any.slices_Compact_int Try.laysNm220 blk off cap zs w hH hsz hcap
open Go.RowKit Go.Lib Go.Sort in
/-- The same at a slice of length 0, a nil one too: it comes back as it is. (LAID: no walk: one application.) -/
theorem Try.slices_Compact_int_empty (a : Option Addr) (cap : Nat) (w : World) :
    Calls Try.prog 48 #[.slice a 0 cap] w fun e w' => e = .returned (.slice a 0 cap) ∧ w' = w := Any.slices_Compact_int_empty Try.laysNm220 a cap w
open Go.RowKit Go.Sort in
/-- .. and plain. (LAID: no walk: one application.) -/
theorem Try.slices_Sort_int_none (p : Option Addr) (cap : Nat) (w : World) :
    Calls Try.prog 47 #[.slice p 0 cap] w fun e w' => e = .returned (.tuple #[]) ∧ w' = w := Any.slices_Sort_int_none Try.lays189 p cap w

def Try.sortFx_ren : Go.Shelf.Ren := ⟨fun | 6 => 70 | 15 => 73 | 14 => 88 | 28 => 97 | 29 => 98 | 20 => 100 | 21 => 101 | 22 => 102 | 23 => 103 | 24 => 104 | 25 => 105 | 26 => 106 | 27 => 107 | 46 => 113 | 47 => 109 | 48 => 110 | 49 => 114 | 50 => 115 | 57 => 117 | n => n, fun | 22 => 22 | 24 => 57 | 25 => 121 | 3 => 3 | 39 => 124 | 0 => 0 | 53 => 146 | 55 => 148 | 4 => 4 | 46 => 139 | 45 => 138 | 50 => 143 | 5 => 5 | 9 => 9 | 66 => 158 | 70 => 162 | 76 => 166 | 77 => 49 | n => n, fun | n => n⟩
theorem Try.sortFx : Go.Proofs.SlLaysF0.n6 Try.prog Try.sortFx_ren := {
  mixed := by kernel_rfl
  f6 := ⟨Try.f70.name, by decide, Try.func70.trans (congrArg some (by kernel_rfl))⟩
  f14 := ⟨Try.f88.name, by decide, Try.func88.trans (congrArg some (by kernel_rfl))⟩
  f15 := Try.func73.trans (congrArg some (by kernel_rfl))
  f20 := ⟨Try.f100.name, by decide, Try.func100.trans (congrArg some (by kernel_rfl))⟩
  f21 := ⟨Try.f101.name, by decide, Try.func101.trans (congrArg some (by kernel_rfl))⟩
  f22 := ⟨Try.f102.name, by decide, Try.func102.trans (congrArg some (by kernel_rfl))⟩
  f23 := ⟨Try.f103.name, by decide, Try.func103.trans (congrArg some (by kernel_rfl))⟩
  f24 := ⟨Try.f104.name, by decide, Try.func104.trans (congrArg some (by kernel_rfl))⟩
  f25 := ⟨Try.f105.name, by decide, Try.func105.trans (congrArg some (by kernel_rfl))⟩
  f26 := ⟨Try.f106.name, by decide, Try.func106.trans (congrArg some (by kernel_rfl))⟩
  f27 := ⟨Try.f107.name, by decide, Try.func107.trans (congrArg some (by kernel_rfl))⟩
  f28 := Try.func97.trans (congrArg some (by kernel_rfl))
  f29 := Try.func98.trans (congrArg some (by kernel_rfl))
  f46 := ⟨Try.f113.name, by decide, Try.func113.trans (congrArg some (by kernel_rfl))⟩
  f47 := Try.func109.trans (congrArg some (by kernel_rfl))
  f48 := Try.func110.trans (congrArg some (by kernel_rfl))
  f49 := ⟨Try.f114.name, by decide, Try.func114.trans (congrArg some (by kernel_rfl))⟩
  f50 := ⟨Try.f115.name, by decide, Try.func115.trans (congrArg some (by kernel_rfl))⟩
  f57 := ⟨Try.f117.name, by decide, Try.func117.trans (congrArg some (by kernel_rfl))⟩
  t0 := Try.underlying0
  a0 := Try.isAgg0
  z0 := Try.sizeOf0
  v0 := Try.zeroValue0
  t3 := Try.underlying3
  a3 := Try.isAgg3
  z3 := Try.sizeOf3
  v3 := Try.zeroValue3
  t4 := Try.underlying4
  a4 := Try.isAgg4
  z4 := Try.sizeOf4
  v4 := Try.zeroValue4
  t5 := Try.underlying5
  a5 := Try.isAgg5
  z5 := Try.sizeOf5
  v5 := Try.zeroValue5
  t9 := Try.underlying9
  a9 := Try.isAgg9
  z9 := Try.sizeOf9
  v9 := Try.zeroValue9
  t22 := Try.underlying22
  a22 := Try.isAgg22
  z22 := Try.sizeOf22
  v22 := Try.zeroValue22
  t25 := Try.underlying121
  a25 := Try.isAgg121
  z25 := Try.sizeOf121
  v25 := Try.zeroValue121
  t39 := Try.underlying124
  a39 := Try.isAgg124
  z39 := Try.sizeOf124
  v39 := Try.zeroValue124
  t45 := Try.underlying138
  a45 := Try.isAgg138
  z45 := Try.sizeOf138
  v45 := Try.zeroValue138
  t46 := Try.underlying139
  a46 := Try.isAgg139
  z46 := Try.sizeOf139
  v46 := Try.zeroValue139
  t50 := Try.underlying143
  a50 := Try.isAgg143
  z50 := Try.sizeOf143
  v50 := Try.zeroValue143
  t53 := Try.underlying146
  a53 := Try.isAgg146
  z53 := Try.sizeOf146
  v53 := Try.zeroValue146
  t55 := Try.underlying148
  a55 := Try.isAgg148
  z55 := Try.sizeOf148
  v55 := Try.zeroValue148
  t66 := Try.underlying158
  a66 := Try.isAgg158
  z66 := Try.sizeOf158
  v66 := Try.zeroValue158
  t70 := Try.underlying162
  a70 := Try.isAgg162
  z70 := Try.sizeOf162
  v70 := Try.zeroValue162
  t76 := Try.underlying166
  a76 := Try.isAgg166
  z76 := Try.sizeOf166
  v76 := Try.zeroValue166
  t77 := Try.underlying49
  a77 := Try.isAgg49
  z77 := Try.sizeOf49
  v77 := Try.zeroValue49 }

end Go.Proofs
namespace Go.Proofs.Ythikbfhdebaceaa
open Go Go.Ab
theorem sorts47 : SortsInts Try.prog 47 .i64 := ⟨⟨Try.f47, _, Try.func47, by kernel_rfl, rfl⟩, fun p cap w => Try.slices_Sort_int_none p cap w, fun b o c zs w h1 h2 h3 => Try.slices_Sort_int b o c zs w h1 h2 h3⟩
theorem compacts48 : CompactsInts Try.prog 48 .i64 := ⟨⟨Try.f48, _, Try.func48, by kernel_rfl, rfl⟩, fun p cap w => Try.slices_Compact_int_empty p cap w, fun b o c zs w h1 h2 h3 => Try.slices_Compact_int b o c zs w h1 h2 h3⟩
open Go.RowKit Go.Sort in
theorem sortsK70 : SortsK Try.prog 70 7 := ⟨⟨Try.f70, _, Try.func70, by kernel_rfl, rfl⟩, fun p cap fv w => AnyF.slices_SortFunc_none { Try.sortFx with } p cap fv w, fun en h1 h2 cf hO g blk cap d w eg hc hH hb hs => (AnyQ.slices_SortFunc_eq Try.sortFx 7 Try.isAgg57 Try.sizeOf57 en h1 h2 cf hO g #[] blk 0 cap d w eg hc hH hb hs)⟩
end Go.Proofs.Ythikbfhdebaceaa
