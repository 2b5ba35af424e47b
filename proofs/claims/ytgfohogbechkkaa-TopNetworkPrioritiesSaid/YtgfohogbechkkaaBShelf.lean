/-
  The contracts of the library's functions,at this seat's program: tables of numbers,facts of the program,one application each.
-/
import Derived.Shelf.Strings.Repeat
import Derived.Test.YtgfohogbechkkaaBM4
import Derived.Test.YtgfohogbechkkaaProg
import Derived.KernelRfl
namespace Go.Proofs

open Go.Shelf
def Try.lays105_ren:Go.Shelf.Ren:=⟨fun | 105=>87 | 212=>127 | 99=>128 | 165=>129 | 166=>130 | 170=>131 | 169=>132 | 263=>154 | 264=>155 | 206=>156 | 240=>157 | 241=>158 | 276=>169 | 277=>170 | n=>n,fun | 9=>9 | 3=>3 | 4=>4 | 20=>20 | 0=>0 | 46=>152 | 109=>193 | 5=>5 | 72=>198 | 76=>202 | 51=>191 | 146=>234 | 53=>25 | 148=>236 | 70=>196 | 37=>137 | 75=>201 | 127=>238 | 164=>250 | 80=>205 | n=>n,fun | n=>n⟩
theorem Try.lays105:Go.Proofs.Lays.n105 Try.prog Try.lays105_ren:={
  mixed:=by kernel_rfl
  f99:=Try.func128.trans (congrArg some (by kernel_rfl))
  f105:=Try.func87.trans (congrArg some (by kernel_rfl))
  f165:=Try.func129.trans (congrArg some (by kernel_rfl))
  f166:=Try.func130.trans (congrArg some (by kernel_rfl))
  f169:=Try.func132.trans (congrArg some (by kernel_rfl))
  f170:=Try.func131.trans (congrArg some (by kernel_rfl))
  f206:=Try.func156.trans (congrArg some (by kernel_rfl))
  f212:=Try.func127.trans (congrArg some (by kernel_rfl))
  f240:=Try.func157.trans (congrArg some (by kernel_rfl))
  f241:=Try.func158.trans (congrArg some (by kernel_rfl))
  f263:=Try.func154.trans (congrArg some (by kernel_rfl))
  f264:=Try.func155.trans (congrArg some (by kernel_rfl))
  f276:=Try.func169.trans (congrArg some (by kernel_rfl))
  f277:=Try.func170.trans (congrArg some (by kernel_rfl))
  t0:=Try.underlying0
  a0:=Try.isAgg0
  z0:=Try.sizeOf0
  v0:=Try.zeroValue0
  t3:=Try.underlying3
  a3:=Try.isAgg3
  z3:=Try.sizeOf3
  v3:=Try.zeroValue3
  t4:=Try.underlying4
  a4:=Try.isAgg4
  z4:=Try.sizeOf4
  v4:=Try.zeroValue4
  t5:=Try.underlying5
  a5:=Try.isAgg5
  z5:=Try.sizeOf5
  v5:=Try.zeroValue5
  t9:=Try.underlying9
  a9:=Try.isAgg9
  z9:=Try.sizeOf9
  v9:=Try.zeroValue9
  t20:=Try.underlying20
  a20:=Try.isAgg20
  z20:=Try.sizeOf20
  v20:=Try.zeroValue20
  t37:=Try.underlying137
  a37:=Try.isAgg137
  z37:=Try.sizeOf137
  v37:=Try.zeroValue137
  t46:=Try.underlying152
  a46:=Try.isAgg152
  z46:=Try.sizeOf152
  v46:=Try.zeroValue152
  t51:=Try.underlying191
  a51:=Try.isAgg191
  z51:=Try.sizeOf191
  v51:=Try.zeroValue191
  t53:=Try.underlying25
  a53:=Try.isAgg25
  z53:=Try.sizeOf25
  v53:=Try.zeroValue25
  t70:=Try.underlying196
  a70:=Try.isAgg196
  z70:=Try.sizeOf196
  v70:=Try.zeroValue196
  t72:=Try.underlying198
  a72:=Try.isAgg198
  z72:=Try.sizeOf198
  v72:=Try.zeroValue198
  t75:=Try.underlying201
  a75:=Try.isAgg201
  z75:=Try.sizeOf201
  v75:=Try.zeroValue201
  t76:=Try.underlying202
  a76:=Try.isAgg202
  z76:=Try.sizeOf202
  v76:=Try.zeroValue202
  t109:=Try.underlying193
  a109:=Try.isAgg193
  z109:=Try.sizeOf193
  v109:=Try.zeroValue193
  t127:=Try.underlying238
  a127:=Try.isAgg238
  z127:=Try.sizeOf238
  v127:=Try.zeroValue238
  t146:=Try.underlying234
  a146:=Try.isAgg234
  z146:=Try.sizeOf234
  v146:=Try.zeroValue234
  t148:=Try.underlying236
  a148:=Try.isAgg236
  z148:=Try.sizeOf236
  v148:=Try.zeroValue236
  t164:=Try.underlying250
  a164:=Try.isAgg250
  z164:=Try.sizeOf250
  v164:=Try.zeroValue250 }
theorem Try.Builder_Extra_105:Builder.Extra Try.prog Try.lays105_ren:={
  sizeBuilder:=by kernel_rfl
  liesBuilder:=by kernel_rfl
  t5:=Try.underlying5
  a5:=Try.isAgg5
  z5:=Try.sizeOf5
  v5:=Try.zeroValue5
  infoByte:=by kernel_rfl
  cellsByte:=by kernel_rfl
  sizeByte:=by kernel_rfl
  neB5:=by decide }
open Go.RowKit Go.Lib in
/-- THE MAIN CASE: at least two copies of a string that is not empty. (LAID: no walk: one application.) -/
theorem Try.strings_Repeat_main(s:ByteArray)(c:Nat)(w:World)(hc2:2≤c)(hc:c≤9223372036854775807)(hlen:s.size * c≤140737488355328)(h0:0<s.size) :
    Calls Try.prog 87 #[.string s,.int .i64 c] w fun e w'=>e=.returned (.string ⟨(Lib.repeatL s.data.toList c).toArray⟩)∧Below w.heap.size w w':=Any.strings_Repeat_main Try.lays105 Try.Builder_Extra_105 s c w hc2 hc hlen h0
open Go.RowKit Go.Lib in
theorem Try.strings_Repeat_zero(s:ByteArray)(w:World) :
    Calls Try.prog 87 #[.string s,.int .i64 0] w fun e w'=>e=.returned (.string ⟨#[]⟩)∧w'=w:=Any.strings_Repeat_zero Try.lays105 s w
open Go.RowKit Go.Lib in
theorem Try.strings_Repeat_one(s:ByteArray)(w:World) :
    Calls Try.prog 87 #[.string s,.int .i64 1] w fun e w'=>e=.returned (.string s)∧w'=w:=Any.strings_Repeat_one Try.lays105 s w
open Go.RowKit Go.Lib in
/-- Copies of the empty string. (LAID: no walk: one application.) -/
theorem Try.strings_Repeat_empty(s:ByteArray)(c:Nat)(w:World)(hc2:2≤c)(hc:c≤9223372036854775807)(h0:s.size=0) :
    Calls Try.prog 87 #[.string s,.int .i64 c] w fun e w'=>e=.returned (.string ⟨#[]⟩)∧w'=w:=Any.strings_Repeat_empty Try.lays105 s c w hc2 hc h0
open Go.RowKit Go.Lib in
/-- count < 0: "It panics if count is negative". (LAID: no walk: one application.) -/
theorem Try.strings_Repeat_negative(s:ByteArray)(c:Int)(w:World)(hc:c<0) :
    Calls Try.prog 87 #[.string s, .int .i64 c] w fun e w' => e = .panicked [{ v := repeatPanic Try.lays105_ren "strings: negative Repeat count", recovered := false }] ∧ w' = w := Any.strings_Repeat_negative Try.lays105 s c w hc
open Go.RowKit Go.Lib in
/-- len(s) * count is no int: ".. or if the result of (len(s) * count) overflows". (LAID: no walk: one application.) -/
theorem Try.strings_Repeat_overflow(s:ByteArray)(c:Nat)(w:World)(hc:c≤9223372036854775807)(hs:s.size≤9223372036854775807)(hbig:9223372036854775807<s.size * c) :
    Calls Try.prog 87 #[.string s, .int .i64 c] w fun e w' => e = .panicked [{ v := repeatPanic Try.lays105_ren "strings: Repeat output length overflow", recovered := false }] ∧ w' = w := Any.strings_Repeat_overflow Try.lays105 s c w hc hs hbig
open Go.RowKit Go.Lib in
/-- **strings.Repeat: count ≥ 0,the result within one allocation: count copies of s.** (LAID: no walk: one application.) -/
theorem Try.strings_Repeat(s:ByteArray)(c:Nat)(w:World)(hc:c≤9223372036854775807)(hlen:s.size * c≤140737488355328) :
    Calls Try.prog 87 #[.string s,.int .i64 c] w fun e w'=>e=.returned (.string ⟨(Lib.repeatL s.data.toList c).toArray⟩)∧Below w.heap.size w w':=Any.strings_Repeat Try.lays105 Try.Builder_Extra_105 s c w hc hlen

end Go.Proofs
namespace Go.Proofs.Ytgfohogbechkkaa
open Go Go.Ab

end Go.Proofs.Ytgfohogbechkkaa
