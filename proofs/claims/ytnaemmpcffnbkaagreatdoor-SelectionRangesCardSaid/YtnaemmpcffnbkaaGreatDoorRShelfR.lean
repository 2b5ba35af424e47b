/-
  The contracts of the library's functions,at this seat's program: tables of numbers,facts of the program,one application each.
-/
import Derived.Shelf.Sort.Plain
import Derived.Ground.Names2Prog
import Derived.Shelf.Slices.CompactI
import Derived.Shelf.Slices.In.SortNone
import Derived.Shelf.SortM.Plain
import Derived.Shelf.SortM.SortNone
import Derived.Ground.GgzProg
import Derived.Ground.SlgmProg
import Derived.Shelf.Strings.SlTrimAscii
import Derived.Test.YtnaemmpcffnbkaaGreatDoorRVals
import Derived.Test.YtnaemmpcffnbkaaGreatDoorRM4
import Derived.Test.YtnaemmpcffnbkaaGreatDoorRM8
import Derived.Test.YtnaemmpcffnbkaaGreatDoorRM9
import Derived.Test.YtnaemmpcffnbkaaGreatDoorProg
import Derived.KernelRfl
namespace Go.Proofs
open Go.Shelf
def Tryz.lays189_ren:Go.Shelf.Ren:=⟨fun | 189=>80 | 125=>103 | 257=>120 | 128=>155 | 129=>156 | 294=>173 | 295=>174 | 296=>175 | 297=>176 | 298=>177 | 299=>178 | 216=>179 | 300=>180 | 301=>181 | 328=>217 | 329=>209 | 330=>210 | 331=>218 | 332=>219 | 215=>157 | 343=>236 | n=>n,fun | 28=>26 | 3=>3 | 46=>158 | 0=>0 | 51=>208 | 53=>210 | 4=>4 | 183=>202 | 182=>201 | 131=>179 | 5=>5 | 9=>9 | 218=>243 | 222=>247 | 228=>265 | 229=>266 | n=>n,fun | n=>n⟩
theorem Tryz.lays189:Go.Proofs.Lays.n189 Tryz.prog Tryz.lays189_ren:={
  mixed:=by kernel_rfl
  f125:=Tryz.func103.trans (congrArg some (by kernel_rfl))
  f128:=Tryz.func155.trans (congrArg some (by kernel_rfl))
  f129:=Tryz.func156.trans (congrArg some (by kernel_rfl))
  f189:=Tryz.func80.trans (congrArg some (by kernel_rfl))
  f215:=Tryz.func157.trans (congrArg some (by kernel_rfl))
  f216:=Tryz.func179.trans (congrArg some (by kernel_rfl))
  f257:=Tryz.func120.trans (congrArg some (by kernel_rfl))
  f294:=Tryz.func173.trans (congrArg some (by kernel_rfl))
  f295:=Tryz.func174.trans (congrArg some (by kernel_rfl))
  f296:=Tryz.func175.trans (congrArg some (by kernel_rfl))
  f297:=Tryz.func176.trans (congrArg some (by kernel_rfl))
  f298:=Tryz.func177.trans (congrArg some (by kernel_rfl))
  f299:=Tryz.func178.trans (congrArg some (by kernel_rfl))
  f300:=Tryz.func180.trans (congrArg some (by kernel_rfl))
  f301:=Tryz.func181.trans (congrArg some (by kernel_rfl))
  f328:=Tryz.func217.trans (congrArg some (by kernel_rfl))
  f329:=Tryz.func209.trans (congrArg some (by kernel_rfl))
  f330:=Tryz.func210.trans (congrArg some (by kernel_rfl))
  f331:=Tryz.func218.trans (congrArg some (by kernel_rfl))
  f332:=Tryz.func219.trans (congrArg some (by kernel_rfl))
  f343:=Tryz.func236.trans (congrArg some (by kernel_rfl))
  t0:=Tryz.underlying0
  a0:=Tryz.isAgg0
  z0:=Tryz.sizeOf0
  v0:=Tryz.zeroValue0
  t3:=Tryz.underlying3
  a3:=Tryz.isAgg3
  z3:=Tryz.sizeOf3
  v3:=Tryz.zeroValue3
  t4:=Tryz.underlying4
  a4:=Tryz.isAgg4
  z4:=Tryz.sizeOf4
  v4:=Tryz.zeroValue4
  t5:=Tryz.underlying5
  a5:=Tryz.isAgg5
  z5:=Tryz.sizeOf5
  v5:=Tryz.zeroValue5
  t9:=Tryz.underlying9
  a9:=Tryz.isAgg9
  z9:=Tryz.sizeOf9
  v9:=Tryz.zeroValue9
  t28:=Tryz.underlying26
  a28:=Tryz.isAgg26
  z28:=Tryz.sizeOf26
  v28:=Tryz.zeroValue26
  t46:=Tryz.underlying158
  a46:=Tryz.isAgg158
  z46:=Tryz.sizeOf158
  v46:=Tryz.zeroValue158
  t51:=Tryz.underlying208
  a51:=Tryz.isAgg208
  z51:=Tryz.sizeOf208
  v51:=Tryz.zeroValue208
  t53:=Tryz.underlying210
  a53:=Tryz.isAgg210
  z53:=Tryz.sizeOf210
  v53:=Tryz.zeroValue210
  t131:=Tryz.underlying179
  a131:=Tryz.isAgg179
  z131:=Tryz.sizeOf179
  v131:=Tryz.zeroValue179
  t182:=Tryz.underlying201
  a182:=Tryz.isAgg201
  z182:=Tryz.sizeOf201
  v182:=Tryz.zeroValue201
  t183:=Tryz.underlying202
  a183:=Tryz.isAgg202
  z183:=Tryz.sizeOf202
  v183:=Tryz.zeroValue202
  t218:=Tryz.underlying243
  a218:=Tryz.isAgg243
  z218:=Tryz.sizeOf243
  v218:=Tryz.zeroValue243
  t222:=Tryz.underlying247
  a222:=Tryz.isAgg247
  z222:=Tryz.sizeOf247
  v222:=Tryz.zeroValue247
  t228:=Tryz.underlying265
  a228:=Tryz.isAgg265
  z228:=Tryz.sizeOf265
  v228:=Tryz.zeroValue265
  t229:=Tryz.underlying266
  a229:=Tryz.isAgg266
  z229:=Tryz.sizeOf266
  v229:=Tryz.zeroValue266 }
open Go.Sort Go.RowKit in
theorem Tryz.slices_Sort_int(blk off cap:Nat)(zs:List Int)(w:World)(hH:Holds (Value.int .i64) w blk off zs.toArray)(hblk:blk<w.heap.size)(hsz:zs.length<4611686018427387904) :
    Calls Tryz.prog 80 #[.slice (some ⟨blk,off,none⟩) zs.length cap] w fun e w' =>
      e=.returned (.tuple #[])∧∃ n os,w'=grow (putRow (Value.int .i64) (Sort.ahead w n) blk off (zs.mergeSort fun x y=>decide (x≤y)).toArray) os:=Any.slices_Sort_int Tryz.lays189 blk off cap zs w hH hblk hsz
def Tryz.laysNm220_ren:Go.Shelf.Ren:=⟨fun | 20=>143 | n=>n,fun | 22=>26 | 3=>3 | 4=>4 | 0=>0 | n=>n,fun | n=>n⟩
theorem Tryz.laysNm220:Go.Proofs.Lays2.n20 Tryz.prog Tryz.laysNm220_ren:={
  mixed:=by kernel_rfl
  f20:=Tryz.func143.trans (congrArg some (by kernel_rfl))
  t0:=Tryz.underlying0
  a0:=Tryz.isAgg0
  z0:=Tryz.sizeOf0
  v0:=Tryz.zeroValue0
  t3:=Tryz.underlying3
  a3:=Tryz.isAgg3
  z3:=Tryz.sizeOf3
  v3:=Tryz.zeroValue3
  t4:=Tryz.underlying4
  a4:=Tryz.isAgg4
  z4:=Tryz.sizeOf4
  v4:=Tryz.zeroValue4
  t22:=Tryz.underlying26
  a22:=Tryz.isAgg26
  z22:=Tryz.sizeOf26
  v22:=Tryz.zeroValue26
  i3:=by kernel_rfl }
open Go.RowKit Go.Lib Go.Sort in
/-- slices.Compact at []int,over an array: the library's two loops are walked. (LAID: no walk: one application.) -/
theorem Tryz.slices_Compact_int_arr(blk off cap:Nat)(d:Array Int)(w:World)(hH:Holds encI w blk off d)(hsz:d.size≤9223372036854775807)(hcap:d.size≤cap) :
    Calls Tryz.prog 143 #[.slice (some ⟨blk,off,none⟩) d.size cap] w fun e w'=>e=.returned (.slice (some ⟨blk,off,none⟩) (compactUpTo d d.size).length cap)∧∃ q,w'=putRow encI (Sort.ahead w q) blk off (compactUpTo d d.size++List.replicate (d.size - (compactUpTo d d.size).length) 0).toArray:=Any.slices_Compact_int_arr Tryz.laysNm220 blk off cap d w hH hsz hcap
open Go.RowKit Go.Lib Go.Sort in
/-- slices.Compact at []int: "Compact replaces consecutive runs of equal elements with a single copy. This is like the uniq command found on Unix. Compact modifies the contents of the slice s and returns the modified slice, which may have a smaller length. Compact zeroes the elements between the new length and the original length. The result preserves the nilness of s.": IT RETURNS THE SLICE CUT TO 'Lib.compact zs'; ITS CELLS HOLD 'Lib.compact zs', THEN ZERO VALUES up to the old length; all else is as it was, but for the count of draws. IN THE WORDS OF slices.Sort's CONTRACT ('Holds', 'putRow'): so the everyday 'slices.Sort(xs); xs = slices.Compact(xs)' goes from the one contract to the other. It asks 'zs.length ≤ cap' (every slice's: the reslicing 's[:k]' looks at it). Length 0, nil: '.._empty'. (LAID: no walk: one application.) -/
theorem Tryz.slices_Compact_int(blk off cap:Nat)(zs:List Int)(w:World)(hH:Holds (Value.int .i64) w blk off zs.toArray)(hsz:zs.length≤9223372036854775807)(hcap:zs.length≤cap) :
    Calls Tryz.prog 143 #[.slice (some ⟨blk,off,none⟩) zs.length cap] w fun e w'=>e=.returned (.slice (some ⟨blk,off,none⟩) (Lib.compact zs).length cap)∧∃ q,w'=putRow (Value.int .i64) (Sort.ahead w q) blk off (Lib.compact zs++List.replicate (zs.length - (Lib.compact zs).length) 0).toArray:=Any.slices_Compact_int Tryz.laysNm220 blk off cap zs w hH hsz hcap
open Go.RowKit Go.Lib Go.Sort in
/-- The same at a slice of length 0,a nil one too: it comes back as it is. (LAID: no walk: one application.) -/
theorem Tryz.slices_Compact_int_empty(a:Option Addr)(cap:Nat)(w:World) :
    Calls Tryz.prog 143 #[.slice a 0 cap] w fun e w'=>e=.returned (.slice a 0 cap)∧w'=w:=Any.slices_Compact_int_empty Tryz.laysNm220 a cap w
open Go.RowKit Go.Sort in
/-- .. and plain. (LAID: no walk: one application.) -/
theorem Tryz.slices_Sort_int_none(p:Option Addr)(cap:Nat)(w:World) :
    Calls Tryz.prog 80 #[.slice p 0 cap] w fun e w'=>e=.returned (.tuple #[])∧w'=w:=Any.slices_Sort_int_none Tryz.lays189 p cap w
def Tryz.lays160_ren:Go.Shelf.Ren:=⟨fun | 160=>184 | 232=>221 | 231=>220 | 227=>222 | 234=>224 | 233=>223 | 236=>226 | 235=>225 | 228=>237 | 271=>240 | 151=>239 | 197=>238 | 120=>255 | 152=>254 | 260=>253 | 137=>265 | 119=>266 | 224=>267 | 225=>268 | 217=>271 | 266=>272 | n=>n,fun | 9=>9 | 4=>4 | 3=>3 | 5=>5 | 117=>257 | 116=>256 | 0=>0 | 124=>260 | 21=>21 | 105=>272 | 46=>158 | 119=>288 | 139=>291 | 138=>290 | n=>n,fun | 3=>0 | 4=>1 | n=>n⟩
theorem Tryz.lays160:Go.Proofs.Lays.n160 Tryz.prog Tryz.lays160_ren:={
  mixed:=by kernel_rfl
  f119:=Tryz.func266.trans (congrArg some (by kernel_rfl))
  f120:=Tryz.func255.trans (congrArg some (by kernel_rfl))
  f137:=Tryz.func265.trans (congrArg some (by kernel_rfl))
  f151:=Tryz.func239.trans (congrArg some (by kernel_rfl))
  f152:=Tryz.func254.trans (congrArg some (by kernel_rfl))
  f160:=Tryz.func184.trans (congrArg some (by kernel_rfl))
  f197:=Tryz.func238.trans (congrArg some (by kernel_rfl))
  f217:=Tryz.func271.trans (congrArg some (by kernel_rfl))
  f224:=Tryz.func267.trans (congrArg some (by kernel_rfl))
  f225:=Tryz.func268.trans (congrArg some (by kernel_rfl))
  f227:=Tryz.func222.trans (congrArg some (by kernel_rfl))
  f228:=Tryz.func237.trans (congrArg some (by kernel_rfl))
  f231:=Tryz.func220.trans (congrArg some (by kernel_rfl))
  f232:=Tryz.func221.trans (congrArg some (by kernel_rfl))
  f233:=Tryz.func223.trans (congrArg some (by kernel_rfl))
  f234:=Tryz.func224.trans (congrArg some (by kernel_rfl))
  f235:=Tryz.func225.trans (congrArg some (by kernel_rfl))
  f236:=Tryz.func226.trans (congrArg some (by kernel_rfl))
  f260:=Tryz.func253.trans (congrArg some (by kernel_rfl))
  f266:=Tryz.func272.trans (congrArg some (by kernel_rfl))
  f271:=Tryz.func240.trans (congrArg some (by kernel_rfl))
  t0:=Tryz.underlying0
  a0:=Tryz.isAgg0
  z0:=Tryz.sizeOf0
  v0:=Tryz.zeroValue0
  t3:=Tryz.underlying3
  a3:=Tryz.isAgg3
  z3:=Tryz.sizeOf3
  v3:=Tryz.zeroValue3
  t4:=Tryz.underlying4
  a4:=Tryz.isAgg4
  z4:=Tryz.sizeOf4
  v4:=Tryz.zeroValue4
  t5:=Tryz.underlying5
  a5:=Tryz.isAgg5
  z5:=Tryz.sizeOf5
  v5:=Tryz.zeroValue5
  t9:=Tryz.underlying9
  a9:=Tryz.isAgg9
  z9:=Tryz.sizeOf9
  v9:=Tryz.zeroValue9
  t21:=Tryz.underlying21
  a21:=Tryz.isAgg21
  z21:=Tryz.sizeOf21
  v21:=Tryz.zeroValue21
  t46:=Tryz.underlying158
  a46:=Tryz.isAgg158
  z46:=Tryz.sizeOf158
  v46:=Tryz.zeroValue158
  t105:=Tryz.underlying272
  a105:=Tryz.isAgg272
  z105:=Tryz.sizeOf272
  v105:=Tryz.zeroValue272
  t116:=Tryz.underlying256
  a116:=Tryz.isAgg256
  z116:=Tryz.sizeOf256
  t117:=Tryz.underlying257
  a117:=Tryz.isAgg257
  z117:=Tryz.sizeOf257
  v117:=Tryz.zeroValue257
  t119:=Tryz.underlying288
  a119:=Tryz.isAgg288
  z119:=Tryz.sizeOf288
  t124:=Tryz.underlying260
  a124:=Tryz.isAgg260
  z124:=Tryz.sizeOf260
  v124:=Tryz.zeroValue260
  t138:=Tryz.underlying290
  a138:=Tryz.isAgg290
  z138:=Tryz.sizeOf290
  v138:=Tryz.zeroValue290
  t139:=Tryz.underlying291
  a139:=Tryz.isAgg291
  z139:=Tryz.sizeOf291
  v139:=Tryz.zeroValue291
  g3:=by kernel_rfl
  g4:=by kernel_rfl }
def Tryz.sortedA_ren:Go.Shelf.Ren:=⟨fun | 6=>36 | 8=>79 | 9=>80 | 11=>119 | 13=>103 | 12=>120 | 23=>155 | 24=>156 | 14=>173 | 15=>174 | 16=>175 | 17=>176 | 18=>177 | 19=>178 | 20=>179 | 21=>180 | 22=>181 | 25=>217 | 26=>209 | 27=>210 | 28=>218 | 29=>219 | 30=>157 | 31=>236 | n=>n,fun | 26=>3 | 28=>80 | 24=>26 | 0=>0 | 3=>3 | 37=>158 | 48=>208 | 50=>210 | 4=>4 | 40=>202 | 39=>201 | 45=>179 | 5=>5 | 9=>9 | 51=>243 | 55=>247 | 57=>265 | 58=>266 | 33=>98 | n=>n,fun | n=>n⟩
theorem Tryz.sortedA:Go.Proofs.SlLaysZI.n6 Tryz.prog Tryz.sortedA_ren:={
  mixed:=by kernel_rfl
  f6:=⟨Tryz.f36.name,by decide,Tryz.func36.trans (congrArg some (by kernel_rfl))⟩
  f8:=⟨Tryz.f79.name,by decide,Tryz.func79.trans (congrArg some (by kernel_rfl))⟩
  f11:=⟨Tryz.f119.name,by decide,Tryz.func119.trans (congrArg some (by kernel_rfl))⟩
  t0:=Tryz.underlying0
  a0:=Tryz.isAgg0
  z0:=Tryz.sizeOf0
  v0:=Tryz.zeroValue0
  t24:=Tryz.underlying26
  a24:=Tryz.isAgg26
  z24:=Tryz.sizeOf26
  v24:=Tryz.zeroValue26
  t26:=Tryz.underlying3
  a26:=Tryz.isAgg3
  z26:=Tryz.sizeOf3
  v26:=Tryz.zeroValue3
  t28:=Tryz.underlying80
  a28:=Tryz.isAgg80
  z28:=Tryz.sizeOf80
  v28:=Tryz.zeroValue80
  i26:=by kernel_rfl }
def Tryz.sortA_ren:Go.Shelf.Ren:=⟨fun | 5=>80 | 8=>103 | 7=>120 | 19=>155 | 20=>156 | 10=>173 | 11=>174 | 12=>175 | 13=>176 | 14=>177 | 15=>178 | 16=>179 | 17=>180 | 18=>181 | 30=>217 | 31=>209 | 32=>210 | 33=>218 | 34=>219 | 35=>157 | 40=>236 | n=>n,fun | 23=>26 | 25=>3 | 3=>3 | 32=>158 | 22=>26 | 0=>0 | 44=>208 | 46=>210 | 4=>4 | 36=>202 | 35=>201 | 41=>179 | 5=>5 | 9=>9 | 53=>243 | 57=>247 | 63=>265 | 64=>266 | n=>n,fun | n=>n⟩
theorem Tryz.sortA:Go.Proofs.SlLaysM.n5 Tryz.prog Tryz.sortA_ren:={
  mixed:=by kernel_rfl
  f5:=⟨Tryz.f80.name,by decide,Tryz.func80.trans (congrArg some (by kernel_rfl))⟩
  f7:=⟨Tryz.f120.name,by decide,Tryz.func120.trans (congrArg some (by kernel_rfl))⟩
  f8:=Tryz.func103.trans (congrArg some (by kernel_rfl))
  f10:=⟨Tryz.f173.name,by decide,Tryz.func173.trans (congrArg some (by kernel_rfl))⟩
  f11:=⟨Tryz.f174.name,by decide,Tryz.func174.trans (congrArg some (by kernel_rfl))⟩
  f12:=⟨Tryz.f175.name,by decide,Tryz.func175.trans (congrArg some (by kernel_rfl))⟩
  f13:=⟨Tryz.f176.name,by decide,Tryz.func176.trans (congrArg some (by kernel_rfl))⟩
  f14:=⟨Tryz.f177.name,by decide,Tryz.func177.trans (congrArg some (by kernel_rfl))⟩
  f15:=⟨Tryz.f178.name,by decide,Tryz.func178.trans (congrArg some (by kernel_rfl))⟩
  f16:=⟨Tryz.f179.name,by decide,Tryz.func179.trans (congrArg some (by kernel_rfl))⟩
  f17:=⟨Tryz.f180.name,by decide,Tryz.func180.trans (congrArg some (by kernel_rfl))⟩
  f18:=⟨Tryz.f181.name,by decide,Tryz.func181.trans (congrArg some (by kernel_rfl))⟩
  f19:=Tryz.func155.trans (congrArg some (by kernel_rfl))
  f20:=Tryz.func156.trans (congrArg some (by kernel_rfl))
  f30:=⟨Tryz.f217.name,by decide,Tryz.func217.trans (congrArg some (by kernel_rfl))⟩
  f31:=Tryz.func209.trans (congrArg some (by kernel_rfl))
  f32:=Tryz.func210.trans (congrArg some (by kernel_rfl))
  f33:=⟨Tryz.f218.name,by decide,Tryz.func218.trans (congrArg some (by kernel_rfl))⟩
  f34:=⟨Tryz.f219.name,by decide,Tryz.func219.trans (congrArg some (by kernel_rfl))⟩
  f35:=⟨Tryz.f157.name,by decide,Tryz.func157.trans (congrArg some (by kernel_rfl))⟩
  f40:=⟨Tryz.f236.name,by decide,Tryz.func236.trans (congrArg some (by kernel_rfl))⟩
  t0:=Tryz.underlying0
  a0:=Tryz.isAgg0
  z0:=Tryz.sizeOf0
  v0:=Tryz.zeroValue0
  t3:=Tryz.underlying3
  a3:=Tryz.isAgg3
  z3:=Tryz.sizeOf3
  v3:=Tryz.zeroValue3
  t4:=Tryz.underlying4
  a4:=Tryz.isAgg4
  z4:=Tryz.sizeOf4
  v4:=Tryz.zeroValue4
  t5:=Tryz.underlying5
  a5:=Tryz.isAgg5
  z5:=Tryz.sizeOf5
  v5:=Tryz.zeroValue5
  t9:=Tryz.underlying9
  a9:=Tryz.isAgg9
  z9:=Tryz.sizeOf9
  v9:=Tryz.zeroValue9
  t22:=Tryz.underlying26
  a22:=Tryz.isAgg26
  z22:=Tryz.sizeOf26
  v22:=Tryz.zeroValue26
  t23:=Tryz.underlying26
  a23:=Tryz.isAgg26
  z23:=Tryz.sizeOf26
  v23:=Tryz.zeroValue26
  t25:=Tryz.underlying3
  a25:=Tryz.isAgg3
  z25:=Tryz.sizeOf3
  v25:=Tryz.zeroValue3
  t32:=Tryz.underlying158
  a32:=Tryz.isAgg158
  z32:=Tryz.sizeOf158
  v32:=Tryz.zeroValue158
  t35:=Tryz.underlying201
  a35:=Tryz.isAgg201
  z35:=Tryz.sizeOf201
  v35:=Tryz.zeroValue201
  t36:=Tryz.underlying202
  a36:=Tryz.isAgg202
  z36:=Tryz.sizeOf202
  v36:=Tryz.zeroValue202
  t41:=Tryz.underlying179
  a41:=Tryz.isAgg179
  z41:=Tryz.sizeOf179
  v41:=Tryz.zeroValue179
  t44:=Tryz.underlying208
  a44:=Tryz.isAgg208
  z44:=Tryz.sizeOf208
  v44:=Tryz.zeroValue208
  t46:=Tryz.underlying210
  a46:=Tryz.isAgg210
  z46:=Tryz.sizeOf210
  v46:=Tryz.zeroValue210
  t53:=Tryz.underlying243
  a53:=Tryz.isAgg243
  z53:=Tryz.sizeOf243
  v53:=Tryz.zeroValue243
  t57:=Tryz.underlying247
  a57:=Tryz.isAgg247
  z57:=Tryz.sizeOf247
  v57:=Tryz.zeroValue247
  t63:=Tryz.underlying265
  a63:=Tryz.isAgg265
  z63:=Tryz.sizeOf265
  v63:=Tryz.zeroValue265
  t64:=Tryz.underlying266
  a64:=Tryz.isAgg266
  z64:=Tryz.sizeOf266
  v64:=Tryz.zeroValue266 }
open Go.RowKit Go.Sort in
theorem Tryz.sortsA(m:Nat):AnyZI.SortsIn Tryz.prog Tryz.sortedA_ren Fence.wide m :=
  ⟨fun blk off cap ss W hH hblk hsz=>callsIn_wide.2 (AnyM.slices_Sort_int Tryz.sortA blk off cap ss W hH hblk hsz),
   fun p cap W=>callsIn_wide.2 (AnyM.slices_Sort_int_none Tryz.sortA p cap W)⟩
end Go.Proofs
namespace Go.Proofs.YtnaemmpcffnbkaaGreatDoor
open Go Go.Ab Go.Proofs
theorem sorts80:SortsInts Tryz.prog 80 .i64:=⟨⟨Tryz.f80,_,Tryz.func80,by kernel_rfl,rfl⟩,fun p cap w=>Tryz.slices_Sort_int_none p cap w,fun b o c zs w h1 h2 h3=>Tryz.slices_Sort_int b o c zs w h1 h2 h3⟩
theorem compacts143:CompactsInts Tryz.prog 143 .i64:=⟨⟨Tryz.f143,_,Tryz.func143,by kernel_rfl,rfl⟩,fun p cap w=>Tryz.slices_Compact_int_empty p cap w,fun b o c zs w h1 h2 h3=>Tryz.slices_Compact_int b o c zs w h1 h2 h3⟩
theorem trims184:TrimsS Tryz.prog 184:=trims_of Tryz.lays160 (by kernel_rfl) ⟨Tryz.f184,_,Tryz.func184,by kernel_rfl,rfl⟩
theorem sortsv36:SortsVals Tryz.prog 36 81:=⟨⟨Tryz.f36,_,Tryz.func36,by kernel_rfl,rfl⟩,fun Bs o sv zs w hz hBs hc hI=>by
  have hseq:=Tryz.values_gives Fence.wide 2 trivial rfl (by omega) Bs o sv zs hz w hBs hc hI
  have cS:=SeqB.sorted_in Tryz.sortedA Fence.wide 5 trivial trivial trivial trivial rfl (by omega) (Tryz.sortsA _) (enters_of Tryz.func80 (by kernel_rfl) rfl) 81 #[.pointer (some ⟨Bs,o,none⟩)] trivial (enters_of Tryz.func81 (by kernel_rfl) rfl) (fun ys=>ys=zs) zs.length (by unfold maxLen;omega) (by omega) w (fun ss h=>by rw[h];exact Nat.le_refl _) hseq
  change CallsIn _ _ Tryz.prog 36 _ _ _ at cS
  refine Calls.mono ((callsIn_wide (n:=5)).1 cS) ?_
  rintro e w' ⟨v,ss,rfl,rfl,hrow,hnil,hb⟩
  exact ⟨v,_,rfl,hrow,hb⟩⟩
end Go.Proofs.YtnaemmpcffnbkaaGreatDoor
