/-
  The contracts of the library's functions, at this seat's program: tables of numbers, facts of the program, one application each.
-/
import Derived.Shelf.Strings.OnBuilder
import Derived.Shelf.Small.Strs
import Derived.Test.YtkbjimfganeooaaM7
import Derived.Test.YtkbjimfganeooaaM4
import Derived.Test.YtkbjimfganeooaaProg
import Derived.KernelRfl
namespace Go.Proofs

open Go.Shelf
def Try.lays156_ren : Go.Shelf.Ren := ⟨fun | 156 => 26 | 165 => 47 | 166 => 48 | 169 => 49 | 240 => 52 | 241 => 53 | 276 => 55 | 277 => 56 | n => n, fun | 31 => 39 | 9 => 9 | 3 => 3 | 4 => 4 | 0 => 0 | 20 => 20 | 72 => 85 | 76 => 89 | 70 => 83 | 37 => 33 | 75 => 88 | 127 => 96 | 164 => 97 | 5 => 5 | 80 => 91 | n => n, fun | n => n⟩
theorem Try.lays156 : Go.Proofs.Lays.n156 Try.prog Try.lays156_ren := {
  mixed := by kernel_rfl
  f156 := Try.func26.trans (congrArg some (by kernel_rfl))
  f165 := Try.func47.trans (congrArg some (by kernel_rfl))
  f166 := Try.func48.trans (congrArg some (by kernel_rfl))
  f169 := Try.func49.trans (congrArg some (by kernel_rfl))
  f240 := Try.func52.trans (congrArg some (by kernel_rfl))
  f241 := Try.func53.trans (congrArg some (by kernel_rfl))
  f276 := Try.func55.trans (congrArg some (by kernel_rfl))
  f277 := Try.func56.trans (congrArg some (by kernel_rfl))
  t0 := Try.underlying0
  a0 := Try.isAgg0
  z0 := Try.sizeOf0
  v0 := Try.zeroValue0
  t3 := Try.underlying3
  a3 := Try.isAgg3
  z3 := Try.sizeOf3
  v3 := Try.zeroValue3
  t4 := Try.underlying4
  a4 := Try.isAgg4
  z4 := Try.sizeOf4
  v4 := Try.zeroValue4
  t9 := Try.underlying9
  a9 := Try.isAgg9
  z9 := Try.sizeOf9
  v9 := Try.zeroValue9
  t20 := Try.underlying20
  a20 := Try.isAgg20
  z20 := Try.sizeOf20
  v20 := Try.zeroValue20
  t31 := Try.underlying39
  a31 := Try.isAgg39
  z31 := Try.sizeOf39
  v31 := Try.zeroValue39
  t37 := Try.underlying33
  a37 := Try.isAgg33
  z37 := Try.sizeOf33
  v37 := Try.zeroValue33
  t70 := Try.underlying83
  a70 := Try.isAgg83
  z70 := Try.sizeOf83
  v70 := Try.zeroValue83
  t72 := Try.underlying85
  a72 := Try.isAgg85
  z72 := Try.sizeOf85
  v72 := Try.zeroValue85
  t75 := Try.underlying88
  a75 := Try.isAgg88
  z75 := Try.sizeOf88
  v75 := Try.zeroValue88
  t76 := Try.underlying89
  a76 := Try.isAgg89
  z76 := Try.sizeOf89
  v76 := Try.zeroValue89
  t127 := Try.underlying96
  a127 := Try.isAgg96
  z127 := Try.sizeOf96
  v127 := Try.zeroValue96
  t164 := Try.underlying97
  a164 := Try.isAgg97
  z164 := Try.sizeOf97
  v164 := Try.zeroValue97 }
theorem Try.Builder_Extra_156 : Builder.Extra Try.prog Try.lays156_ren := {
  sizeBuilder := by kernel_rfl
  liesBuilder := by kernel_rfl
  t5 := Try.underlying5
  a5 := Try.isAgg5
  z5 := Try.sizeOf5
  v5 := Try.zeroValue5
  infoByte := by kernel_rfl
  cellsByte := by kernel_rfl
  sizeByte := by kernel_rfl
  neB5 := by decide }
open Go.RowKit in
/-- No element: the empty string; the world is as it was. (Whatever the slice's address and capacity: a nil slice too.) (LAID: no walk: one application.) -/
theorem Try.strings_Join_none (a : Option Addr) (c : Nat) (sep : ByteArray) (w : World) :
    Calls Try.prog 26 #[.slice a 0 c, .string sep] w fun e w' => e = .returned (.string ⟨#[]⟩) ∧ w' = w := Any.strings_Join_none Try.lays156 Try.Builder_Extra_156 a c sep w
open Go.RowKit in
/-- strings.Join: "Join concatenates the elements of its first argument to create a single string. The separator string sep is placed between elements in the resulting string.": HOWEVER MANY ELEMENTS. Below the heap's end the world is as it was. (LAID: no walk: one application.) -/
theorem Try.strings_Join (bk o c : Nat) (xs : List ByteArray) (sep : ByteArray) (w : World) (hcells : ∀ (j : Nat) x, xs[j]? = some x → w.cell? ⟨bk, o + j, none⟩ = some (.string x)) (hbk : bk < w.heap.size) (hN : xs.length ≤ 140737488355328) (hcap : xs.length ≤ c) (hlen : (Lib.join (xs.map (·.data.toList)) sep.data.toList).length ≤ 140737488355328) :
    Calls Try.prog 26 #[.slice (some ⟨bk, o, none⟩) xs.length c, .string sep] w fun e w' => e = .returned (.string ⟨(Lib.join (xs.map (·.data.toList)) sep.data.toList).toArray⟩) ∧ Below w.heap.size w w' := Any.strings_Join Try.lays156 Try.Builder_Extra_156 bk o c xs sep w hcells hbk hN hcap hlen
def Try.lays137_ren : Go.Shelf.Ren := ⟨fun | 137 => 51 | 217 => 54 | 266 => 57 | n => n, fun | 9 => 9 | 5 => 5 | 3 => 3 | n => n, fun | n => n⟩
theorem Try.lays137 : Go.Proofs.Lays.n137 Try.prog Try.lays137_ren := {
  mixed := by kernel_rfl
  f137 := Try.func51.trans (congrArg some (by kernel_rfl))
  f217 := Try.func54.trans (congrArg some (by kernel_rfl))
  f266 := Try.func57.trans (congrArg some (by kernel_rfl))
  t3 := Try.underlying3
  a3 := Try.isAgg3
  z3 := Try.sizeOf3
  v3 := Try.zeroValue3
  t5 := Try.underlying5
  a5 := Try.isAgg5
  z5 := Try.sizeOf5
  v5 := Try.zeroValue5
  t9 := Try.underlying9
  a9 := Try.isAgg9
  z9 := Try.sizeOf9
  v9 := Try.zeroValue9 }
open Go.RowKit in
/-- strings.IndexByte: "IndexByte returns the index of the first instance of c in s, or -1 if c is not present in s.": IT RETURNS 'Lib.indexByte s c'; the world is as it was. (LAID: no walk: one application.) -/
theorem Try.strings_IndexByte (s : ByteArray) (c : Int) (w : World) :
    Calls Try.prog 51 #[.string s, .int .u8 c] w fun e w' => e = .returned (.int .i64 (Lib.indexByte s.data.toList c.toNat.toUInt8)) ∧ w' = w := Any.strings_IndexByte Try.lays137 s c w

end Go.Proofs
namespace Go.Proofs.Ytkbjimfganeooaa
open Go Go.Ab
theorem joins26 : JoinsS Try.prog 26 := ⟨⟨Try.f26, _, Try.func26, by kernel_rfl, rfl⟩, fun a c sep w => Try.strings_Join_none a c sep w, fun bk o c xs sep w h1 h2 h3 h4 h5 => Try.strings_Join bk o c xs sep w h1 h2 h3 h4 h5⟩
theorem ixbs51 : IxbS Try.prog 51 := ⟨⟨Try.f51, _, Try.func51, by kernel_rfl, rfl⟩, fun s c w => Try.strings_IndexByte s c w⟩
end Go.Proofs.Ytkbjimfganeooaa
