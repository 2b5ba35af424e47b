/-
  The contracts of slices.Sort and slices.Sorted at this seat's program, and what the abstract machine asks of slices.Sorted(slices.Values(..)).
-/
import Derived.Shelf.SortM.Plain
import Derived.Shelf.SortM.SortNone
import Derived.Ground.GgzProg
import Derived.Ground.SlgmProg
import Derived.Test.YtccipmhffapcmaaVals
import Derived.Test.YtccipmhffapcmaaM7
import Derived.KernelRfl
namespace Go.Proofs
open Go.Shelf
def Try.sortedA_ren : Go.Shelf.Ren := ⟨fun | 6 => 35 | 8 => 56 | 9 => 57 | 11 => 67 | 13 => 69 | 12 => 68 | 23 => 81 | 24 => 82 | 14 => 72 | 15 => 73 | 16 => 74 | 17 => 75 | 18 => 76 | 19 => 77 | 20 => 78 | 21 => 79 | 22 => 80 | 25 => 84 | 26 => 85 | 27 => 86 | 28 => 87 | 29 => 88 | 30 => 70 | 31 => 89 | n => n, fun | 26 => 3 | 28 => 62 | 24 => 22 | 0 => 0 | 3 => 3 | 37 => 92 | 48 => 102 | 50 => 104 | 4 => 4 | 40 => 95 | 39 => 94 | 45 => 73 | 5 => 5 | 9 => 9 | 51 => 106 | 55 => 110 | 57 => 112 | 58 => 113 | 33 => 81 | n => n, fun | n => n⟩
theorem Try.sortedA : Go.Proofs.SlLaysZI.n6 Try.prog Try.sortedA_ren := {
  mixed := by kernel_rfl
  f6 := ⟨Try.f35.name, by decide, Try.func35.trans (congrArg some (by kernel_rfl))⟩
  f8 := ⟨Try.f56.name, by decide, Try.func56.trans (congrArg some (by kernel_rfl))⟩
  f11 := ⟨Try.f67.name, by decide, Try.func67.trans (congrArg some (by kernel_rfl))⟩
  t0 := Try.underlying0
  a0 := Try.isAgg0
  z0 := Try.sizeOf0
  v0 := Try.zeroValue0
  t24 := Try.underlying22
  a24 := Try.isAgg22
  z24 := Try.sizeOf22
  v24 := Try.zeroValue22
  t26 := Try.underlying3
  a26 := Try.isAgg3
  z26 := Try.sizeOf3
  v26 := Try.zeroValue3
  t28 := Try.underlying62
  a28 := Try.isAgg62
  z28 := Try.sizeOf62
  v28 := Try.zeroValue62
  i26 := by kernel_rfl }
def Try.sortA_ren : Go.Shelf.Ren := ⟨fun | 5 => 57 | 8 => 69 | 7 => 68 | 19 => 81 | 20 => 82 | 10 => 72 | 11 => 73 | 12 => 74 | 13 => 75 | 14 => 76 | 15 => 77 | 16 => 78 | 17 => 79 | 18 => 80 | 30 => 84 | 31 => 85 | 32 => 86 | 33 => 87 | 34 => 88 | 35 => 70 | 40 => 89 | n => n, fun | 23 => 22 | 25 => 3 | 3 => 3 | 32 => 92 | 22 => 22 | 0 => 0 | 44 => 102 | 46 => 104 | 4 => 4 | 36 => 95 | 35 => 94 | 41 => 73 | 5 => 5 | 9 => 9 | 53 => 106 | 57 => 110 | 63 => 112 | 64 => 113 | n => n, fun | n => n⟩
theorem Try.sortA : Go.Proofs.SlLaysM.n5 Try.prog Try.sortA_ren := {
  mixed := by kernel_rfl
  f5 := ⟨Try.f57.name, by decide, Try.func57.trans (congrArg some (by kernel_rfl))⟩
  f7 := ⟨Try.f68.name, by decide, Try.func68.trans (congrArg some (by kernel_rfl))⟩
  f8 := Try.func69.trans (congrArg some (by kernel_rfl))
  f10 := ⟨Try.f72.name, by decide, Try.func72.trans (congrArg some (by kernel_rfl))⟩
  f11 := ⟨Try.f73.name, by decide, Try.func73.trans (congrArg some (by kernel_rfl))⟩
  f12 := ⟨Try.f74.name, by decide, Try.func74.trans (congrArg some (by kernel_rfl))⟩
  f13 := ⟨Try.f75.name, by decide, Try.func75.trans (congrArg some (by kernel_rfl))⟩
  f14 := ⟨Try.f76.name, by decide, Try.func76.trans (congrArg some (by kernel_rfl))⟩
  f15 := ⟨Try.f77.name, by decide, Try.func77.trans (congrArg some (by kernel_rfl))⟩
  f16 := ⟨Try.f78.name, by decide, Try.func78.trans (congrArg some (by kernel_rfl))⟩
  f17 := ⟨Try.f79.name, by decide, Try.func79.trans (congrArg some (by kernel_rfl))⟩
  f18 := ⟨Try.f80.name, by decide, Try.func80.trans (congrArg some (by kernel_rfl))⟩
  f19 := Try.func81.trans (congrArg some (by kernel_rfl))
  f20 := Try.func82.trans (congrArg some (by kernel_rfl))
  f30 := ⟨Try.f84.name, by decide, Try.func84.trans (congrArg some (by kernel_rfl))⟩
  f31 := Try.func85.trans (congrArg some (by kernel_rfl))
  f32 := Try.func86.trans (congrArg some (by kernel_rfl))
  f33 := ⟨Try.f87.name, by decide, Try.func87.trans (congrArg some (by kernel_rfl))⟩
  f34 := ⟨Try.f88.name, by decide, Try.func88.trans (congrArg some (by kernel_rfl))⟩
  f35 := ⟨Try.f70.name, by decide, Try.func70.trans (congrArg some (by kernel_rfl))⟩
  f40 := ⟨Try.f89.name, by decide, Try.func89.trans (congrArg some (by kernel_rfl))⟩
  t0 := Try.underlying0
  a0 := Try.isAgg0
  z0 := Try.sizeOf0
  v0 := Try.zeroValue0
  t3 := Try.underlying3
  a3 := Try.isAgg3
  z3 := Try.sizeOf3
  v3 := Try.zeroValue3
  t4 := Try.underlying4
  a4 := Try.isAgg4
  z4 := Try.sizeOf4
  v4 := Try.zeroValue4
  t5 := Try.underlying5
  a5 := Try.isAgg5
  z5 := Try.sizeOf5
  v5 := Try.zeroValue5
  t9 := Try.underlying9
  a9 := Try.isAgg9
  z9 := Try.sizeOf9
  v9 := Try.zeroValue9
  t22 := Try.underlying22
  a22 := Try.isAgg22
  z22 := Try.sizeOf22
  v22 := Try.zeroValue22
  t23 := Try.underlying22
  a23 := Try.isAgg22
  z23 := Try.sizeOf22
  v23 := Try.zeroValue22
  t25 := Try.underlying3
  a25 := Try.isAgg3
  z25 := Try.sizeOf3
  v25 := Try.zeroValue3
  t32 := Try.underlying92
  a32 := Try.isAgg92
  z32 := Try.sizeOf92
  v32 := Try.zeroValue92
  t35 := Try.underlying94
  a35 := Try.isAgg94
  z35 := Try.sizeOf94
  v35 := Try.zeroValue94
  t36 := Try.underlying95
  a36 := Try.isAgg95
  z36 := Try.sizeOf95
  v36 := Try.zeroValue95
  t41 := Try.underlying73
  a41 := Try.isAgg73
  z41 := Try.sizeOf73
  v41 := Try.zeroValue73
  t44 := Try.underlying102
  a44 := Try.isAgg102
  z44 := Try.sizeOf102
  v44 := Try.zeroValue102
  t46 := Try.underlying104
  a46 := Try.isAgg104
  z46 := Try.sizeOf104
  v46 := Try.zeroValue104
  t53 := Try.underlying106
  a53 := Try.isAgg106
  z53 := Try.sizeOf106
  v53 := Try.zeroValue106
  t57 := Try.underlying110
  a57 := Try.isAgg110
  z57 := Try.sizeOf110
  v57 := Try.zeroValue110
  t63 := Try.underlying112
  a63 := Try.isAgg112
  z63 := Try.sizeOf112
  v63 := Try.zeroValue112
  t64 := Try.underlying113
  a64 := Try.isAgg113
  z64 := Try.sizeOf113
  v64 := Try.zeroValue113 }

open Go.RowKit Go.Sort in
theorem Try.sortsA (m : Nat) : AnyZI.SortsIn Try.prog Try.sortedA_ren Fence.wide m :=
  ⟨fun blk off cap ss W hH hblk hsz => callsIn_wide.2 (AnyM.slices_Sort_int Try.sortA blk off cap ss W hH hblk hsz),
   fun p cap W => callsIn_wide.2 (AnyM.slices_Sort_int_none Try.sortA p cap W)⟩
end Go.Proofs
namespace Go.Proofs.Ytccipmhffapcmaa
open Go Go.Ab Go.Proofs
theorem sortsv35 : SortsVals Try.prog 35 58 := ⟨⟨Try.f35, _, Try.func35, by kernel_rfl, rfl⟩, fun Bs o sv zs w hz hBs hc hI => by
  have hseq := Try.values_gives Fence.wide 2 trivial rfl (by omega) Bs o sv zs hz w hBs hc hI
  have cS := SeqB.sorted_in Try.sortedA Fence.wide 5 trivial trivial trivial trivial rfl (by omega) (Try.sortsA _) (enters_of Try.func57 (by kernel_rfl) rfl) 58 #[.pointer (some ⟨Bs, o, none⟩)] trivial (enters_of Try.func58 (by kernel_rfl) rfl) (fun ys => ys = zs) zs.length (by unfold maxLen; omega) (by omega) w (fun ss h => by rw [h]; exact Nat.le_refl _) hseq
  change CallsIn _ _ Try.prog 35 _ _ _ at cS
  refine Calls.mono ((callsIn_wide (n := 5)).1 cS) ?_
  rintro e w' ⟨v, ss, rfl, rfl, hrow, hnil, hb⟩
  exact ⟨v, _, rfl, hrow, hb⟩⟩
end Go.Proofs.Ytccipmhffapcmaa
