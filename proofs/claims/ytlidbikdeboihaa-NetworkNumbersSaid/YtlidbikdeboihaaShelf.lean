/-
  The contracts of the library's functions, at this seat's program: tables of numbers, facts of the program, one application each.
-/
import Derived.Shelf.Strings.Repeat
import Derived.Test.YtlidbikdeboihaaAb45
import Derived.Test.YtlidbikdeboihaaProg
import Derived.KernelRfl
namespace Go.Proofs

open Go.Shelf
def Try.lays105_ren : Go.Shelf.Ren := ⟨fun | 105 => 50 | 212 => 70 | 99 => 71 | 165 => 72 | 166 => 73 | 170 => 74 | 169 => 75 | 263 => 93 | 264 => 94 | 206 => 95 | 240 => 96 | 241 => 97 | 276 => 100 | 277 => 101 | n => n, fun | 9 => 9 | 3 => 3 | 4 => 4 | 20 => 20 | 0 => 0 | 46 => 140 | 109 => 141 | 5 => 5 | 72 => 146 | 76 => 150 | 51 => 168 | 146 => 169 | 53 => 24 | 148 => 171 | 70 => 144 | 37 => 103 | 75 => 149 | 127 => 173 | 164 => 174 | 80 => 153 | n => n, fun | n => n⟩
theorem Try.lays105 : Go.Proofs.Lays.n105 Try.prog Try.lays105_ren := {
  mixed := by kernel_rfl
  f99 := Try.func71.trans (congrArg some (by kernel_rfl))
  f105 := Try.func50.trans (congrArg some (by kernel_rfl))
  f165 := Try.func72.trans (congrArg some (by kernel_rfl))
  f166 := Try.func73.trans (congrArg some (by kernel_rfl))
  f169 := Try.func75.trans (congrArg some (by kernel_rfl))
  f170 := Try.func74.trans (congrArg some (by kernel_rfl))
  f206 := Try.func95.trans (congrArg some (by kernel_rfl))
  f212 := Try.func70.trans (congrArg some (by kernel_rfl))
  f240 := Try.func96.trans (congrArg some (by kernel_rfl))
  f241 := Try.func97.trans (congrArg some (by kernel_rfl))
  f263 := Try.func93.trans (congrArg some (by kernel_rfl))
  f264 := Try.func94.trans (congrArg some (by kernel_rfl))
  f276 := Try.func100.trans (congrArg some (by kernel_rfl))
  f277 := Try.func101.trans (congrArg some (by kernel_rfl))
  t0 := Try.underlying0
  a0 := Try.isAgg0
  z0 := Try.sizeOf0
  v0 := Try.zeroValue0
  t3 := Try.underlying3
  a3 := Try.isAgg3
  z3 := Try.sizeOf3
  v3 := Try.zeroValue3
  t4 := Try.underlying4
  a4 := Try.isAgg4
  z4 := Try.sizeOf4
  v4 := Try.zeroValue4
  t5 := Try.underlying5
  a5 := Try.isAgg5
  z5 := Try.sizeOf5
  v5 := Try.zeroValue5
  t9 := Try.underlying9
  a9 := Try.isAgg9
  z9 := Try.sizeOf9
  v9 := Try.zeroValue9
  t20 := Try.underlying20
  a20 := Try.isAgg20
  z20 := Try.sizeOf20
  v20 := Try.zeroValue20
  t37 := Try.underlying103
  a37 := Try.isAgg103
  z37 := Try.sizeOf103
  v37 := Try.zeroValue103
  t46 := Try.underlying140
  a46 := Try.isAgg140
  z46 := Try.sizeOf140
  v46 := Try.zeroValue140
  t51 := Try.underlying168
  a51 := Try.isAgg168
  z51 := Try.sizeOf168
  v51 := Try.zeroValue168
  t53 := Try.underlying24
  a53 := Try.isAgg24
  z53 := Try.sizeOf24
  v53 := Try.zeroValue24
  t70 := Try.underlying144
  a70 := Try.isAgg144
  z70 := Try.sizeOf144
  v70 := Try.zeroValue144
  t72 := Try.underlying146
  a72 := Try.isAgg146
  z72 := Try.sizeOf146
  v72 := Try.zeroValue146
  t75 := Try.underlying149
  a75 := Try.isAgg149
  z75 := Try.sizeOf149
  v75 := Try.zeroValue149
  t76 := Try.underlying150
  a76 := Try.isAgg150
  z76 := Try.sizeOf150
  v76 := Try.zeroValue150
  t109 := Try.underlying141
  a109 := Try.isAgg141
  z109 := Try.sizeOf141
  v109 := Try.zeroValue141
  t127 := Try.underlying173
  a127 := Try.isAgg173
  z127 := Try.sizeOf173
  v127 := Try.zeroValue173
  t146 := Try.underlying169
  a146 := Try.isAgg169
  z146 := Try.sizeOf169
  v146 := Try.zeroValue169
  t148 := Try.underlying171
  a148 := Try.isAgg171
  z148 := Try.sizeOf171
  v148 := Try.zeroValue171
  t164 := Try.underlying174
  a164 := Try.isAgg174
  z164 := Try.sizeOf174
  v164 := Try.zeroValue174 }
theorem Try.Builder_Extra_105 : Builder.Extra Try.prog Try.lays105_ren := {
  sizeBuilder := by kernel_rfl
  liesBuilder := by kernel_rfl
  t5 := Try.underlying5
  a5 := Try.isAgg5
  z5 := Try.sizeOf5
  v5 := Try.zeroValue5
  infoByte := by kernel_rfl
  cellsByte := by kernel_rfl
  sizeByte := by kernel_rfl
  neB5 := by decide }
open Go.RowKit Go.Lib in
/-- THE MAIN CASE: at least two copies of a string that is not empty. (LAID: no walk: one application.) -/
theorem Try.strings_Repeat_main (s : ByteArray) (c : Nat) (w : World) (hc2 : 2 ≤ c) (hc : c ≤ 9223372036854775807) (hlen : s.size * c ≤ 140737488355328) (h0 : 0 < s.size) :
    Calls Try.prog 50 #[.string s, .int .i64 c] w fun e w' => e = .returned (.string ⟨(Lib.repeatL s.data.toList c).toArray⟩) ∧ Below w.heap.size w w' := Any.strings_Repeat_main Try.lays105 Try.Builder_Extra_105 s c w hc2 hc hlen h0
open Go.RowKit Go.Lib in
theorem Try.strings_Repeat_zero (s : ByteArray) (w : World) :
    Calls Try.prog 50 #[.string s, .int .i64 0] w fun e w' => e = .returned (.string ⟨#[]⟩) ∧ w' = w := Any.strings_Repeat_zero Try.lays105 s w
open Go.RowKit Go.Lib in
theorem Try.strings_Repeat_one (s : ByteArray) (w : World) :
    Calls Try.prog 50 #[.string s, .int .i64 1] w fun e w' => e = .returned (.string s) ∧ w' = w := Any.strings_Repeat_one Try.lays105 s w
open Go.RowKit Go.Lib in
/-- Copies of the empty string. (LAID: no walk: one application.) -/
theorem Try.strings_Repeat_empty (s : ByteArray) (c : Nat) (w : World) (hc2 : 2 ≤ c) (hc : c ≤ 9223372036854775807) (h0 : s.size = 0) :
    Calls Try.prog 50 #[.string s, .int .i64 c] w fun e w' => e = .returned (.string ⟨#[]⟩) ∧ w' = w := Any.strings_Repeat_empty Try.lays105 s c w hc2 hc h0
open Go.RowKit Go.Lib in
/-- count < 0: "It panics if count is negative". (LAID: no walk: one application.) -/
theorem Try.strings_Repeat_negative (s : ByteArray) (c : Int) (w : World) (hc : c < 0) :
    Calls Try.prog 50 #[.string s, .int .i64 c] w fun e w' => e = .panicked [{ v := repeatPanic Try.lays105_ren "strings: negative Repeat count", recovered := false }] ∧ w' = w := Any.strings_Repeat_negative Try.lays105 s c w hc
open Go.RowKit Go.Lib in
/-- len(s) * count is no int: ".. or if the result of (len(s) * count) overflows". (LAID: no walk: one application.) -/
theorem Try.strings_Repeat_overflow (s : ByteArray) (c : Nat) (w : World) (hc : c ≤ 9223372036854775807) (hs : s.size ≤ 9223372036854775807) (hbig : 9223372036854775807 < s.size * c) :
    Calls Try.prog 50 #[.string s, .int .i64 c] w fun e w' => e = .panicked [{ v := repeatPanic Try.lays105_ren "strings: Repeat output length overflow", recovered := false }] ∧ w' = w := Any.strings_Repeat_overflow Try.lays105 s c w hc hs hbig
open Go.RowKit Go.Lib in
/-- **strings.Repeat: count ≥ 0, the result within one allocation: count copies of s.** (LAID: no walk: one application.) -/
theorem Try.strings_Repeat (s : ByteArray) (c : Nat) (w : World) (hc : c ≤ 9223372036854775807) (hlen : s.size * c ≤ 140737488355328) :
    Calls Try.prog 50 #[.string s, .int .i64 c] w fun e w' => e = .returned (.string ⟨(Lib.repeatL s.data.toList c).toArray⟩) ∧ Below w.heap.size w w' := Any.strings_Repeat Try.lays105 Try.Builder_Extra_105 s c w hc hlen

end Go.Proofs
namespace Go.Proofs.Ytlidbikdeboihaa
open Go Go.Ab

end Go.Proofs.Ytlidbikdeboihaa
