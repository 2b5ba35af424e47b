/-
  The contracts of the library's functions,at this seat's program: tables of numbers,facts of the program,one application each.
-/
import Derived.Shelf.Sort.Plain
import Derived.Ground.Names2Prog
import Derived.Shelf.Slices.CompactI
import Derived.Shelf.Slices.In.SortNone
import Derived.Shelf.SlSortCmp.WholeK
import Derived.Shelf.SlSortCmp.NoneTotal
import Derived.Ground.SlsfProg
import Derived.Shelf.Strings.SlTrimAscii
import Derived.Test.YtnaemmpcffnbkaaGreatDoorKM4
import Derived.Test.YtnaemmpcffnbkaaGreatDoorKM8
import Derived.Test.YtnaemmpcffnbkaaGreatDoorKM9
import Derived.Test.YtnaemmpcffnbkaaGreatDoorProg
import Derived.KernelRfl
namespace Go.Proofs

open Go.Shelf
def Tryz.lays189_ren:Go.Shelf.Ren:=⟨fun | 189=>80 | 125=>103 | 257=>120 | 128=>155 | 129=>156 | 294=>173 | 295=>174 | 296=>175 | 297=>176 | 298=>177 | 299=>178 | 216=>179 | 300=>180 | 301=>181 | 328=>217 | 329=>209 | 330=>210 | 331=>218 | 332=>219 | 215=>157 | 343=>236 | n=>n,fun | 28=>26 | 3=>3 | 46=>158 | 0=>0 | 51=>208 | 53=>210 | 4=>4 | 183=>202 | 182=>201 | 131=>179 | 5=>5 | 9=>9 | 218=>243 | 222=>247 | 228=>265 | 229=>266 | n=>n,fun | n=>n⟩
theorem Tryz.lays189:Go.Proofs.Lays.n189 Tryz.prog Tryz.lays189_ren:={
  mixed:=by kernel_rfl
  f125:=Tryz.func103.trans (congrArg some (by kernel_rfl))
  f128:=Tryz.func155.trans (congrArg some (by kernel_rfl))
  f129:=Tryz.func156.trans (congrArg some (by kernel_rfl))
  f189:=Tryz.func80.trans (congrArg some (by kernel_rfl))
  f215:=Tryz.func157.trans (congrArg some (by kernel_rfl))
  f216:=Tryz.func179.trans (congrArg some (by kernel_rfl))
  f257:=Tryz.func120.trans (congrArg some (by kernel_rfl))
  f294:=Tryz.func173.trans (congrArg some (by kernel_rfl))
  f295:=Tryz.func174.trans (congrArg some (by kernel_rfl))
  f296:=Tryz.func175.trans (congrArg some (by kernel_rfl))
  f297:=Tryz.func176.trans (congrArg some (by kernel_rfl))
  f298:=Tryz.func177.trans (congrArg some (by kernel_rfl))
  f299:=Tryz.func178.trans (congrArg some (by kernel_rfl))
  f300:=Tryz.func180.trans (congrArg some (by kernel_rfl))
  f301:=Tryz.func181.trans (congrArg some (by kernel_rfl))
  f328:=Tryz.func217.trans (congrArg some (by kernel_rfl))
  f329:=Tryz.func209.trans (congrArg some (by kernel_rfl))
  f330:=Tryz.func210.trans (congrArg some (by kernel_rfl))
  f331:=Tryz.func218.trans (congrArg some (by kernel_rfl))
  f332:=Tryz.func219.trans (congrArg some (by kernel_rfl))
  f343:=Tryz.func236.trans (congrArg some (by kernel_rfl))
  t0:=Tryz.underlying0
  a0:=Tryz.isAgg0
  z0:=Tryz.sizeOf0
  v0:=Tryz.zeroValue0
  t3:=Tryz.underlying3
  a3:=Tryz.isAgg3
  z3:=Tryz.sizeOf3
  v3:=Tryz.zeroValue3
  t4:=Tryz.underlying4
  a4:=Tryz.isAgg4
  z4:=Tryz.sizeOf4
  v4:=Tryz.zeroValue4
  t5:=Tryz.underlying5
  a5:=Tryz.isAgg5
  z5:=Tryz.sizeOf5
  v5:=Tryz.zeroValue5
  t9:=Tryz.underlying9
  a9:=Tryz.isAgg9
  z9:=Tryz.sizeOf9
  v9:=Tryz.zeroValue9
  t28:=Tryz.underlying26
  a28:=Tryz.isAgg26
  z28:=Tryz.sizeOf26
  v28:=Tryz.zeroValue26
  t46:=Tryz.underlying158
  a46:=Tryz.isAgg158
  z46:=Tryz.sizeOf158
  v46:=Tryz.zeroValue158
  t51:=Tryz.underlying208
  a51:=Tryz.isAgg208
  z51:=Tryz.sizeOf208
  v51:=Tryz.zeroValue208
  t53:=Tryz.underlying210
  a53:=Tryz.isAgg210
  z53:=Tryz.sizeOf210
  v53:=Tryz.zeroValue210
  t131:=Tryz.underlying179
  a131:=Tryz.isAgg179
  z131:=Tryz.sizeOf179
  v131:=Tryz.zeroValue179
  t182:=Tryz.underlying201
  a182:=Tryz.isAgg201
  z182:=Tryz.sizeOf201
  v182:=Tryz.zeroValue201
  t183:=Tryz.underlying202
  a183:=Tryz.isAgg202
  z183:=Tryz.sizeOf202
  v183:=Tryz.zeroValue202
  t218:=Tryz.underlying243
  a218:=Tryz.isAgg243
  z218:=Tryz.sizeOf243
  v218:=Tryz.zeroValue243
  t222:=Tryz.underlying247
  a222:=Tryz.isAgg247
  z222:=Tryz.sizeOf247
  v222:=Tryz.zeroValue247
  t228:=Tryz.underlying265
  a228:=Tryz.isAgg265
  z228:=Tryz.sizeOf265
  v228:=Tryz.zeroValue265
  t229:=Tryz.underlying266
  a229:=Tryz.isAgg266
  z229:=Tryz.sizeOf266
  v229:=Tryz.zeroValue266 }
open Go.Sort Go.RowKit in
theorem Tryz.slices_Sort_int(blk off cap:Nat)(zs:List Int)(w:World)(hH:Holds (Value.int .i64) w blk off zs.toArray)(hblk:blk<w.heap.size)(hsz:zs.length<4611686018427387904) :
    Calls Tryz.prog 80 #[.slice (some ⟨blk,off,none⟩) zs.length cap] w fun e w' =>
      e=.returned (.tuple #[])∧∃ n os,w'=grow (putRow (Value.int .i64) (Sort.ahead w n) blk off (zs.mergeSort fun x y=>decide (x≤y)).toArray) os:=Any.slices_Sort_int Tryz.lays189 blk off cap zs w hH hblk hsz
def Tryz.laysNm220_ren:Go.Shelf.Ren:=⟨fun | 20=>143 | n=>n,fun | 22=>26 | 3=>3 | 4=>4 | 0=>0 | n=>n,fun | n=>n⟩
theorem Tryz.laysNm220:Go.Proofs.Lays2.n20 Tryz.prog Tryz.laysNm220_ren:={
  mixed:=by kernel_rfl
  f20:=Tryz.func143.trans (congrArg some (by kernel_rfl))
  t0:=Tryz.underlying0
  a0:=Tryz.isAgg0
  z0:=Tryz.sizeOf0
  v0:=Tryz.zeroValue0
  t3:=Tryz.underlying3
  a3:=Tryz.isAgg3
  z3:=Tryz.sizeOf3
  v3:=Tryz.zeroValue3
  t4:=Tryz.underlying4
  a4:=Tryz.isAgg4
  z4:=Tryz.sizeOf4
  v4:=Tryz.zeroValue4
  t22:=Tryz.underlying26
  a22:=Tryz.isAgg26
  z22:=Tryz.sizeOf26
  v22:=Tryz.zeroValue26
  i3:=by kernel_rfl }
open Go.RowKit Go.Lib Go.Sort in
/-- slices.Compact at []int,over an array: the library's two loops are walked. (LAID: no walk: one application.) -/
theorem Tryz.slices_Compact_int_arr(blk off cap:Nat)(d:Array Int)(w:World)(hH:Holds encI w blk off d)(hsz:d.size≤9223372036854775807)(hcap:d.size≤cap) :
    Calls Tryz.prog 143 #[.slice (some ⟨blk,off,none⟩) d.size cap] w fun e w'=>e=.returned (.slice (some ⟨blk,off,none⟩) (compactUpTo d d.size).length cap)∧∃ q,w'=putRow encI (Sort.ahead w q) blk off (compactUpTo d d.size++List.replicate (d.size - (compactUpTo d d.size).length) 0).toArray:=Any.slices_Compact_int_arr Tryz.laysNm220 blk off cap d w hH hsz hcap
open Go.RowKit Go.Lib Go.Sort in
/-- slices.Compact at []int: "Compact replaces consecutive runs of equal elements with a single copy. This is like the uniq command found on Unix. Compact modifies the contents of the slice s and returns the modified slice, which may have a smaller length. Compact zeroes the elements between the new length and the original length. The result preserves the nilness of s.": IT RETURNS THE SLICE CUT TO 'Lib.compact zs'; ITS CELLS HOLD 'Lib.compact zs', THEN ZERO VALUES up to the old length; all else is as it was, but for the count of draws. IN THE WORDS OF slices.Sort's CONTRACT ('Holds', 'putRow'): so the everyday 'slices.Sort(xs); xs = slices.Compact(xs)' goes from the one contract to the other. It asks 'zs.length ≤ cap' (every slice's: the reslicing 's[:k]' looks at it). Length 0, nil: '.._empty'. (LAID: no walk: one application.) -/
theorem Tryz.slices_Compact_int(blk off cap:Nat)(zs:List Int)(w:World)(hH:Holds (Value.int .i64) w blk off zs.toArray)(hsz:zs.length≤9223372036854775807)(hcap:zs.length≤cap) :
    Calls Tryz.prog 143 #[.slice (some ⟨blk,off,none⟩) zs.length cap] w fun e w'=>e=.returned (.slice (some ⟨blk,off,none⟩) (Lib.compact zs).length cap)∧∃ q,w'=putRow (Value.int .i64) (Sort.ahead w q) blk off (Lib.compact zs++List.replicate (zs.length - (Lib.compact zs).length) 0).toArray:=Any.slices_Compact_int Tryz.laysNm220 blk off cap zs w hH hsz hcap
open Go.RowKit Go.Lib Go.Sort in
/-- The same at a slice of length 0,a nil one too: it comes back as it is. (LAID: no walk: one application.) -/
theorem Tryz.slices_Compact_int_empty(a:Option Addr)(cap:Nat)(w:World) :
    Calls Tryz.prog 143 #[.slice a 0 cap] w fun e w'=>e=.returned (.slice a 0 cap)∧w'=w:=Any.slices_Compact_int_empty Tryz.laysNm220 a cap w
open Go.RowKit Go.Sort in
/-- .. and plain. (LAID: no walk: one application.) -/
theorem Tryz.slices_Sort_int_none(p:Option Addr)(cap:Nat)(w:World) :
    Calls Tryz.prog 80 #[.slice p 0 cap] w fun e w'=>e=.returned (.tuple #[])∧w'=w:=Any.slices_Sort_int_none Tryz.lays189 p cap w
def Tryz.lays160_ren:Go.Shelf.Ren:=⟨fun | 160=>184 | 232=>221 | 231=>220 | 227=>222 | 234=>224 | 233=>223 | 236=>226 | 235=>225 | 228=>237 | 271=>240 | 151=>239 | 197=>238 | 120=>255 | 152=>254 | 260=>253 | 137=>265 | 119=>266 | 224=>267 | 225=>268 | 217=>271 | 266=>272 | n=>n,fun | 9=>9 | 4=>4 | 3=>3 | 5=>5 | 117=>257 | 116=>256 | 0=>0 | 124=>260 | 21=>21 | 105=>272 | 46=>158 | 119=>288 | 139=>291 | 138=>290 | n=>n,fun | 3=>0 | 4=>1 | n=>n⟩
theorem Tryz.lays160:Go.Proofs.Lays.n160 Tryz.prog Tryz.lays160_ren:={
  mixed:=by kernel_rfl
  f119:=Tryz.func266.trans (congrArg some (by kernel_rfl))
  f120:=Tryz.func255.trans (congrArg some (by kernel_rfl))
  f137:=Tryz.func265.trans (congrArg some (by kernel_rfl))
  f151:=Tryz.func239.trans (congrArg some (by kernel_rfl))
  f152:=Tryz.func254.trans (congrArg some (by kernel_rfl))
  f160:=Tryz.func184.trans (congrArg some (by kernel_rfl))
  f197:=Tryz.func238.trans (congrArg some (by kernel_rfl))
  f217:=Tryz.func271.trans (congrArg some (by kernel_rfl))
  f224:=Tryz.func267.trans (congrArg some (by kernel_rfl))
  f225:=Tryz.func268.trans (congrArg some (by kernel_rfl))
  f227:=Tryz.func222.trans (congrArg some (by kernel_rfl))
  f228:=Tryz.func237.trans (congrArg some (by kernel_rfl))
  f231:=Tryz.func220.trans (congrArg some (by kernel_rfl))
  f232:=Tryz.func221.trans (congrArg some (by kernel_rfl))
  f233:=Tryz.func223.trans (congrArg some (by kernel_rfl))
  f234:=Tryz.func224.trans (congrArg some (by kernel_rfl))
  f235:=Tryz.func225.trans (congrArg some (by kernel_rfl))
  f236:=Tryz.func226.trans (congrArg some (by kernel_rfl))
  f260:=Tryz.func253.trans (congrArg some (by kernel_rfl))
  f266:=Tryz.func272.trans (congrArg some (by kernel_rfl))
  f271:=Tryz.func240.trans (congrArg some (by kernel_rfl))
  t0:=Tryz.underlying0
  a0:=Tryz.isAgg0
  z0:=Tryz.sizeOf0
  v0:=Tryz.zeroValue0
  t3:=Tryz.underlying3
  a3:=Tryz.isAgg3
  z3:=Tryz.sizeOf3
  v3:=Tryz.zeroValue3
  t4:=Tryz.underlying4
  a4:=Tryz.isAgg4
  z4:=Tryz.sizeOf4
  v4:=Tryz.zeroValue4
  t5:=Tryz.underlying5
  a5:=Tryz.isAgg5
  z5:=Tryz.sizeOf5
  v5:=Tryz.zeroValue5
  t9:=Tryz.underlying9
  a9:=Tryz.isAgg9
  z9:=Tryz.sizeOf9
  v9:=Tryz.zeroValue9
  t21:=Tryz.underlying21
  a21:=Tryz.isAgg21
  z21:=Tryz.sizeOf21
  v21:=Tryz.zeroValue21
  t46:=Tryz.underlying158
  a46:=Tryz.isAgg158
  z46:=Tryz.sizeOf158
  v46:=Tryz.zeroValue158
  t105:=Tryz.underlying272
  a105:=Tryz.isAgg272
  z105:=Tryz.sizeOf272
  v105:=Tryz.zeroValue272
  t116:=Tryz.underlying256
  a116:=Tryz.isAgg256
  z116:=Tryz.sizeOf256
  t117:=Tryz.underlying257
  a117:=Tryz.isAgg257
  z117:=Tryz.sizeOf257
  v117:=Tryz.zeroValue257
  t119:=Tryz.underlying288
  a119:=Tryz.isAgg288
  z119:=Tryz.sizeOf288
  t124:=Tryz.underlying260
  a124:=Tryz.isAgg260
  z124:=Tryz.sizeOf260
  v124:=Tryz.zeroValue260
  t138:=Tryz.underlying290
  a138:=Tryz.isAgg290
  z138:=Tryz.sizeOf290
  v138:=Tryz.zeroValue290
  t139:=Tryz.underlying291
  a139:=Tryz.isAgg291
  z139:=Tryz.sizeOf291
  v139:=Tryz.zeroValue291
  g3:=by kernel_rfl
  g4:=by kernel_rfl }
def Tryz.sortF61_ren:Go.Shelf.Ren:=⟨fun | 6=>61 | 15=>103 | 14=>102 | 28=>155 | 29=>156 | 20=>147 | 21=>148 | 22=>149 | 23=>150 | 24=>151 | 25=>152 | 26=>153 | 27=>154 | 46=>208 | 47=>209 | 48=>210 | 49=>211 | 50=>212 | 57=>232 | n=>n,fun | 22=>47 | 24=>69 | 25=>113 | 3=>3 | 39=>158 | 0=>0 | 53=>208 | 55=>210 | 4=>4 | 46=>202 | 45=>201 | 50=>179 | 5=>5 | 9=>9 | 66=>243 | 70=>247 | 76=>265 | 77=>266 | n=>n,fun | n=>n⟩
theorem Tryz.sortF61:Go.Proofs.SlLaysF0.n6 Tryz.prog Tryz.sortF61_ren:={
  mixed:=by kernel_rfl
  f6:=⟨Tryz.f61.name,by decide,Tryz.func61.trans (congrArg some (by kernel_rfl))⟩
  f14:=⟨Tryz.f102.name,by decide,Tryz.func102.trans (congrArg some (by kernel_rfl))⟩
  f15:=Tryz.func103.trans (congrArg some (by kernel_rfl))
  f20:=⟨Tryz.f147.name,by decide,Tryz.func147.trans (congrArg some (by kernel_rfl))⟩
  f21:=⟨Tryz.f148.name,by decide,Tryz.func148.trans (congrArg some (by kernel_rfl))⟩
  f22:=⟨Tryz.f149.name,by decide,Tryz.func149.trans (congrArg some (by kernel_rfl))⟩
  f23:=⟨Tryz.f150.name,by decide,Tryz.func150.trans (congrArg some (by kernel_rfl))⟩
  f24:=⟨Tryz.f151.name,by decide,Tryz.func151.trans (congrArg some (by kernel_rfl))⟩
  f25:=⟨Tryz.f152.name,by decide,Tryz.func152.trans (congrArg some (by kernel_rfl))⟩
  f26:=⟨Tryz.f153.name,by decide,Tryz.func153.trans (congrArg some (by kernel_rfl))⟩
  f27:=⟨Tryz.f154.name,by decide,Tryz.func154.trans (congrArg some (by kernel_rfl))⟩
  f28:=Tryz.func155.trans (congrArg some (by kernel_rfl))
  f29:=Tryz.func156.trans (congrArg some (by kernel_rfl))
  f46:=⟨Tryz.f208.name,by decide,Tryz.func208.trans (congrArg some (by kernel_rfl))⟩
  f47:=Tryz.func209.trans (congrArg some (by kernel_rfl))
  f48:=Tryz.func210.trans (congrArg some (by kernel_rfl))
  f49:=⟨Tryz.f211.name,by decide,Tryz.func211.trans (congrArg some (by kernel_rfl))⟩
  f50:=⟨Tryz.f212.name,by decide,Tryz.func212.trans (congrArg some (by kernel_rfl))⟩
  f57:=⟨Tryz.f232.name,by decide,Tryz.func232.trans (congrArg some (by kernel_rfl))⟩
  t0:=Tryz.underlying0
  a0:=Tryz.isAgg0
  z0:=Tryz.sizeOf0
  v0:=Tryz.zeroValue0
  t3:=Tryz.underlying3
  a3:=Tryz.isAgg3
  z3:=Tryz.sizeOf3
  v3:=Tryz.zeroValue3
  t4:=Tryz.underlying4
  a4:=Tryz.isAgg4
  z4:=Tryz.sizeOf4
  v4:=Tryz.zeroValue4
  t5:=Tryz.underlying5
  a5:=Tryz.isAgg5
  z5:=Tryz.sizeOf5
  v5:=Tryz.zeroValue5
  t9:=Tryz.underlying9
  a9:=Tryz.isAgg9
  z9:=Tryz.sizeOf9
  v9:=Tryz.zeroValue9
  t22:=Tryz.underlying47
  a22:=Tryz.isAgg47
  z22:=Tryz.sizeOf47
  v22:=Tryz.zeroValue47
  t25:=Tryz.underlying113
  a25:=Tryz.isAgg113
  z25:=Tryz.sizeOf113
  v25:=Tryz.zeroValue113
  t39:=Tryz.underlying158
  a39:=Tryz.isAgg158
  z39:=Tryz.sizeOf158
  v39:=Tryz.zeroValue158
  t45:=Tryz.underlying201
  a45:=Tryz.isAgg201
  z45:=Tryz.sizeOf201
  v45:=Tryz.zeroValue201
  t46:=Tryz.underlying202
  a46:=Tryz.isAgg202
  z46:=Tryz.sizeOf202
  v46:=Tryz.zeroValue202
  t50:=Tryz.underlying179
  a50:=Tryz.isAgg179
  z50:=Tryz.sizeOf179
  v50:=Tryz.zeroValue179
  t53:=Tryz.underlying208
  a53:=Tryz.isAgg208
  z53:=Tryz.sizeOf208
  v53:=Tryz.zeroValue208
  t55:=Tryz.underlying210
  a55:=Tryz.isAgg210
  z55:=Tryz.sizeOf210
  v55:=Tryz.zeroValue210
  t66:=Tryz.underlying243
  a66:=Tryz.isAgg243
  z66:=Tryz.sizeOf243
  v66:=Tryz.zeroValue243
  t70:=Tryz.underlying247
  a70:=Tryz.isAgg247
  z70:=Tryz.sizeOf247
  v70:=Tryz.zeroValue247
  t76:=Tryz.underlying265
  a76:=Tryz.isAgg265
  z76:=Tryz.sizeOf265
  v76:=Tryz.zeroValue265
  t77:=Tryz.underlying266
  a77:=Tryz.isAgg266
  z77:=Tryz.sizeOf266
  v77:=Tryz.zeroValue266 }
def Tryz.sortF65_ren:Go.Shelf.Ren:=⟨fun | 6=>65 | 15=>103 | 14=>108 | 28=>155 | 29=>156 | 20=>159 | 21=>160 | 22=>161 | 23=>162 | 24=>163 | 25=>164 | 26=>165 | 27=>166 | 46=>213 | 47=>209 | 48=>210 | 49=>214 | 50=>215 | 57=>233 | n=>n,fun | 22=>55 | 24=>94 | 25=>117 | 3=>3 | 39=>158 | 0=>0 | 53=>208 | 55=>210 | 4=>4 | 46=>202 | 45=>201 | 50=>179 | 5=>5 | 9=>9 | 66=>243 | 70=>247 | 76=>265 | 77=>266 | n=>n,fun | n=>n⟩
theorem Tryz.sortF65:Go.Proofs.SlLaysF0.n6 Tryz.prog Tryz.sortF65_ren:={
  mixed:=by kernel_rfl
  f6:=⟨Tryz.f65.name,by decide,Tryz.func65.trans (congrArg some (by kernel_rfl))⟩
  f14:=⟨Tryz.f108.name,by decide,Tryz.func108.trans (congrArg some (by kernel_rfl))⟩
  f15:=Tryz.func103.trans (congrArg some (by kernel_rfl))
  f20:=⟨Tryz.f159.name,by decide,Tryz.func159.trans (congrArg some (by kernel_rfl))⟩
  f21:=⟨Tryz.f160.name,by decide,Tryz.func160.trans (congrArg some (by kernel_rfl))⟩
  f22:=⟨Tryz.f161.name,by decide,Tryz.func161.trans (congrArg some (by kernel_rfl))⟩
  f23:=⟨Tryz.f162.name,by decide,Tryz.func162.trans (congrArg some (by kernel_rfl))⟩
  f24:=⟨Tryz.f163.name,by decide,Tryz.func163.trans (congrArg some (by kernel_rfl))⟩
  f25:=⟨Tryz.f164.name,by decide,Tryz.func164.trans (congrArg some (by kernel_rfl))⟩
  f26:=⟨Tryz.f165.name,by decide,Tryz.func165.trans (congrArg some (by kernel_rfl))⟩
  f27:=⟨Tryz.f166.name,by decide,Tryz.func166.trans (congrArg some (by kernel_rfl))⟩
  f28:=Tryz.func155.trans (congrArg some (by kernel_rfl))
  f29:=Tryz.func156.trans (congrArg some (by kernel_rfl))
  f46:=⟨Tryz.f213.name,by decide,Tryz.func213.trans (congrArg some (by kernel_rfl))⟩
  f47:=Tryz.func209.trans (congrArg some (by kernel_rfl))
  f48:=Tryz.func210.trans (congrArg some (by kernel_rfl))
  f49:=⟨Tryz.f214.name,by decide,Tryz.func214.trans (congrArg some (by kernel_rfl))⟩
  f50:=⟨Tryz.f215.name,by decide,Tryz.func215.trans (congrArg some (by kernel_rfl))⟩
  f57:=⟨Tryz.f233.name,by decide,Tryz.func233.trans (congrArg some (by kernel_rfl))⟩
  t0:=Tryz.underlying0
  a0:=Tryz.isAgg0
  z0:=Tryz.sizeOf0
  v0:=Tryz.zeroValue0
  t3:=Tryz.underlying3
  a3:=Tryz.isAgg3
  z3:=Tryz.sizeOf3
  v3:=Tryz.zeroValue3
  t4:=Tryz.underlying4
  a4:=Tryz.isAgg4
  z4:=Tryz.sizeOf4
  v4:=Tryz.zeroValue4
  t5:=Tryz.underlying5
  a5:=Tryz.isAgg5
  z5:=Tryz.sizeOf5
  v5:=Tryz.zeroValue5
  t9:=Tryz.underlying9
  a9:=Tryz.isAgg9
  z9:=Tryz.sizeOf9
  v9:=Tryz.zeroValue9
  t22:=Tryz.underlying55
  a22:=Tryz.isAgg55
  z22:=Tryz.sizeOf55
  v22:=Tryz.zeroValue55
  t25:=Tryz.underlying117
  a25:=Tryz.isAgg117
  z25:=Tryz.sizeOf117
  v25:=Tryz.zeroValue117
  t39:=Tryz.underlying158
  a39:=Tryz.isAgg158
  z39:=Tryz.sizeOf158
  v39:=Tryz.zeroValue158
  t45:=Tryz.underlying201
  a45:=Tryz.isAgg201
  z45:=Tryz.sizeOf201
  v45:=Tryz.zeroValue201
  t46:=Tryz.underlying202
  a46:=Tryz.isAgg202
  z46:=Tryz.sizeOf202
  v46:=Tryz.zeroValue202
  t50:=Tryz.underlying179
  a50:=Tryz.isAgg179
  z50:=Tryz.sizeOf179
  v50:=Tryz.zeroValue179
  t53:=Tryz.underlying208
  a53:=Tryz.isAgg208
  z53:=Tryz.sizeOf208
  v53:=Tryz.zeroValue208
  t55:=Tryz.underlying210
  a55:=Tryz.isAgg210
  z55:=Tryz.sizeOf210
  v55:=Tryz.zeroValue210
  t66:=Tryz.underlying243
  a66:=Tryz.isAgg243
  z66:=Tryz.sizeOf243
  v66:=Tryz.zeroValue243
  t70:=Tryz.underlying247
  a70:=Tryz.isAgg247
  z70:=Tryz.sizeOf247
  v70:=Tryz.zeroValue247
  t76:=Tryz.underlying265
  a76:=Tryz.isAgg265
  z76:=Tryz.sizeOf265
  v76:=Tryz.zeroValue265
  t77:=Tryz.underlying266
  a77:=Tryz.isAgg266
  z77:=Tryz.sizeOf266
  v77:=Tryz.zeroValue266 }
def Tryz.sortF206_ren:Go.Shelf.Ren:=⟨fun | 6=>206 | 15=>103 | 14=>231 | 28=>155 | 29=>156 | 20=>245 | 21=>246 | 22=>247 | 23=>248 | 24=>249 | 25=>250 | 26=>251 | 27=>252 | 46=>262 | 47=>209 | 48=>210 | 49=>263 | 50=>264 | 57=>270 | n=>n,fun | 22=>37 | 24=>141 | 25=>242 | 3=>3 | 39=>158 | 0=>0 | 53=>208 | 55=>210 | 4=>4 | 46=>202 | 45=>201 | 50=>179 | 5=>5 | 9=>9 | 66=>243 | 70=>247 | 76=>265 | 77=>266 | n=>n,fun | n=>n⟩
theorem Tryz.sortF206:Go.Proofs.SlLaysF0.n6 Tryz.prog Tryz.sortF206_ren:={
  mixed:=by kernel_rfl
  f6:=⟨Tryz.f206.name,by decide,Tryz.func206.trans (congrArg some (by kernel_rfl))⟩
  f14:=⟨Tryz.f231.name,by decide,Tryz.func231.trans (congrArg some (by kernel_rfl))⟩
  f15:=Tryz.func103.trans (congrArg some (by kernel_rfl))
  f20:=⟨Tryz.f245.name,by decide,Tryz.func245.trans (congrArg some (by kernel_rfl))⟩
  f21:=⟨Tryz.f246.name,by decide,Tryz.func246.trans (congrArg some (by kernel_rfl))⟩
  f22:=⟨Tryz.f247.name,by decide,Tryz.func247.trans (congrArg some (by kernel_rfl))⟩
  f23:=⟨Tryz.f248.name,by decide,Tryz.func248.trans (congrArg some (by kernel_rfl))⟩
  f24:=⟨Tryz.f249.name,by decide,Tryz.func249.trans (congrArg some (by kernel_rfl))⟩
  f25:=⟨Tryz.f250.name,by decide,Tryz.func250.trans (congrArg some (by kernel_rfl))⟩
  f26:=⟨Tryz.f251.name,by decide,Tryz.func251.trans (congrArg some (by kernel_rfl))⟩
  f27:=⟨Tryz.f252.name,by decide,Tryz.func252.trans (congrArg some (by kernel_rfl))⟩
  f28:=Tryz.func155.trans (congrArg some (by kernel_rfl))
  f29:=Tryz.func156.trans (congrArg some (by kernel_rfl))
  f46:=⟨Tryz.f262.name,by decide,Tryz.func262.trans (congrArg some (by kernel_rfl))⟩
  f47:=Tryz.func209.trans (congrArg some (by kernel_rfl))
  f48:=Tryz.func210.trans (congrArg some (by kernel_rfl))
  f49:=⟨Tryz.f263.name,by decide,Tryz.func263.trans (congrArg some (by kernel_rfl))⟩
  f50:=⟨Tryz.f264.name,by decide,Tryz.func264.trans (congrArg some (by kernel_rfl))⟩
  f57:=⟨Tryz.f270.name,by decide,Tryz.func270.trans (congrArg some (by kernel_rfl))⟩
  t0:=Tryz.underlying0
  a0:=Tryz.isAgg0
  z0:=Tryz.sizeOf0
  v0:=Tryz.zeroValue0
  t3:=Tryz.underlying3
  a3:=Tryz.isAgg3
  z3:=Tryz.sizeOf3
  v3:=Tryz.zeroValue3
  t4:=Tryz.underlying4
  a4:=Tryz.isAgg4
  z4:=Tryz.sizeOf4
  v4:=Tryz.zeroValue4
  t5:=Tryz.underlying5
  a5:=Tryz.isAgg5
  z5:=Tryz.sizeOf5
  v5:=Tryz.zeroValue5
  t9:=Tryz.underlying9
  a9:=Tryz.isAgg9
  z9:=Tryz.sizeOf9
  v9:=Tryz.zeroValue9
  t22:=Tryz.underlying37
  a22:=Tryz.isAgg37
  z22:=Tryz.sizeOf37
  v22:=Tryz.zeroValue37
  t25:=Tryz.underlying242
  a25:=Tryz.isAgg242
  z25:=Tryz.sizeOf242
  v25:=Tryz.zeroValue242
  t39:=Tryz.underlying158
  a39:=Tryz.isAgg158
  z39:=Tryz.sizeOf158
  v39:=Tryz.zeroValue158
  t45:=Tryz.underlying201
  a45:=Tryz.isAgg201
  z45:=Tryz.sizeOf201
  v45:=Tryz.zeroValue201
  t46:=Tryz.underlying202
  a46:=Tryz.isAgg202
  z46:=Tryz.sizeOf202
  v46:=Tryz.zeroValue202
  t50:=Tryz.underlying179
  a50:=Tryz.isAgg179
  z50:=Tryz.sizeOf179
  v50:=Tryz.zeroValue179
  t53:=Tryz.underlying208
  a53:=Tryz.isAgg208
  z53:=Tryz.sizeOf208
  v53:=Tryz.zeroValue208
  t55:=Tryz.underlying210
  a55:=Tryz.isAgg210
  z55:=Tryz.sizeOf210
  v55:=Tryz.zeroValue210
  t66:=Tryz.underlying243
  a66:=Tryz.isAgg243
  z66:=Tryz.sizeOf243
  v66:=Tryz.zeroValue243
  t70:=Tryz.underlying247
  a70:=Tryz.isAgg247
  z70:=Tryz.sizeOf247
  v70:=Tryz.zeroValue247
  t76:=Tryz.underlying265
  a76:=Tryz.isAgg265
  z76:=Tryz.sizeOf265
  v76:=Tryz.zeroValue265
  t77:=Tryz.underlying266
  a77:=Tryz.isAgg266
  z77:=Tryz.sizeOf266
  v77:=Tryz.zeroValue266 }

end Go.Proofs
namespace Go.Proofs.YtnaemmpcffnbkaaGreatDoor
open Go Go.Ab
theorem sorts80:SortsInts Tryz.prog 80 .i64:=⟨⟨Tryz.f80,_,Tryz.func80,by kernel_rfl,rfl⟩,fun p cap w=>Tryz.slices_Sort_int_none p cap w,fun b o c zs w h1 h2 h3=>Tryz.slices_Sort_int b o c zs w h1 h2 h3⟩
theorem compacts143:CompactsInts Tryz.prog 143 .i64:=⟨⟨Tryz.f143,_,Tryz.func143,by kernel_rfl,rfl⟩,fun p cap w=>Tryz.slices_Compact_int_empty p cap w,fun b o c zs w h1 h2 h3=>Tryz.slices_Compact_int b o c zs w h1 h2 h3⟩
theorem trims184:TrimsS Tryz.prog 184:=trims_of Tryz.lays160 (by kernel_rfl) ⟨Tryz.f184,_,Tryz.func184,by kernel_rfl,rfl⟩
theorem sortsK61:SortsK Tryz.prog 61 2:=⟨⟨Tryz.f61,_,Tryz.func61,by kernel_rfl,rfl⟩,fun p cap fv w=>AnyF.slices_SortFunc_none { Tryz.sortF61 with } p cap fv w,fun en h1 h2 cf hO g blk cap d w eg hc hH hb hs=>(AnyQ.slices_SortFunc_eq Tryz.sortF61 2 Tryz.isAgg69 Tryz.sizeOf69 en h1 h2 cf hO g #[] blk 0 cap d w eg hc hH hb hs)⟩
theorem sortsK65:SortsK Tryz.prog 65 4:=⟨⟨Tryz.f65,_,Tryz.func65,by kernel_rfl,rfl⟩,fun p cap fv w=>AnyF.slices_SortFunc_none { Tryz.sortF65 with } p cap fv w,fun en h1 h2 cf hO g blk cap d w eg hc hH hb hs=>(AnyQ.slices_SortFunc_eq Tryz.sortF65 4 Tryz.isAgg94 Tryz.sizeOf94 en h1 h2 cf hO g #[] blk 0 cap d w eg hc hH hb hs)⟩
theorem sortsK206:SortsK Tryz.prog 206 7:=⟨⟨Tryz.f206,_,Tryz.func206,by kernel_rfl,rfl⟩,fun p cap fv w=>AnyF.slices_SortFunc_none { Tryz.sortF206 with } p cap fv w,fun en h1 h2 cf hO g blk cap d w eg hc hH hb hs=>(AnyQ.slices_SortFunc_eq Tryz.sortF206 7 Tryz.isAgg141 Tryz.sizeOf141 en h1 h2 cf hO g #[] blk 0 cap d w eg hc hH hb hs)⟩
end Go.Proofs.YtnaemmpcffnbkaaGreatDoor
