import Derived.Test.YtgjfhplkochbpaaGreatAX2
import Derived.Test.YtgjfhplkochbpaaGreatAM6
import Derived.Test.YtgjfhplkochbpaaGreatAMB
import Derived.Test.YtgjfhplkochbpaaGreatProg
import Derived.KernelRfl
namespace Go.Proofs.YtgjfhplkochbpaaGreat
open Go Go.Ab
set_option maxHeartbeats 1000000
set_option maxRecDepth 4000
set_option linter.unusedSimpArgs false
set_option linter.unusedVariables false
def c31_0:C:=.cond (.t 19) (.reg [iI 20 (.mv (.t 0)),iI 21 (.mv (.t 5)),iI 22 (.nilchk (.t 20)),iI 23 (.faddr 0 (.t 22)),iN (.store 0 (.t 23) (.t 21))]) (.skip)
def c31_1:C:=.seq (.reg [iI 42 (.mv (.t 6)),iI 4 (.mv (.t 42))]) .ret
def c31_2:C:=.seq (.reg [iI 33 (.mv (.t 0)),iI 34 (.nilchk (.t 33)),iI 35 (.faddr 4 (.t 34)),iI 36 (.faddr 1 (.t 35)),iI 37 (.load 0 (.t 36)),iI 38 (.bin .add (.t 37) (.c (.int .i64 1))),iI 39 (.nilchk (.t 33)),iI 40 (.faddr 4 (.t 39)),iI 41 (.faddr 1 (.t 40)),iN (.store 0 (.t 41) (.t 38))]) c31_1
def c31_3:C:=.seq (.reg [iI 24 (.mv (.t 0)),iI 25 (.mv (.t 0)),iI 26 (.nilchk (.t 25)),iI 27 (.faddr 2 (.t 26)),iI 28 (.load 0 (.t 27)),iI 29 (.bin .add (.t 28) (.c (.int .i64 1))),iI 30 (.bin .rem (.t 29) (.c (.int .i64 256))),iI 31 (.nilchk (.t 24)),iI 32 (.faddr 2 (.t 31)),iN (.store 0 (.t 32) (.t 30))]) c31_2
def c31_4:C:=.seq (.seq (.reg [iI 18 (.mv (.t 7)),iI 19 (.bin .eql (.t 18) (.c (.int .i64 0)))]) c31_0) c31_3
def c31_5:C:=.seq (.reg [iI 9 (.mv (.t 0)),iI 10 (.nilchk (.t 9)),iI 11 (.faddr 0 (.t 10)),iI 12 (.load 0 (.t 11)),iI 13 (.load 6 (.t 3)),iI 14 (.call (.c (.fn 27 [])) [(.t 12),(.t 13)]),iI 8 (.mv (.t 14)),iI 15 (.ext (.t 8) 0),iI 16 (.ext (.t 8) 1),iI 17 (.ext (.t 8) 2),iI 5 (.mv (.t 15)),iI 6 (.mv (.t 16)),iI 7 (.mv (.t 17))]) c31_4
def ir31:C:=.seq (.reg [iI 3 (.box (.t 1)),iI 4 (.mv (.c (.sl 6 true [])))]) c31_5
theorem fd31:fd? Tryz.prog 31=some (43,[.slot 4],ir31):=by kernel_rfl
def ir36:C:=.reg [iI 4 (.mv (.t 0)),iI 5 (.mv (.t 0)),iI 6 (.nilchk (.t 5)),iI 7 (.faddr 4 (.t 6)),iI 8 (.faddr 0 (.t 7)),iI 9 (.load 0 (.t 8)),iI 10 (.mv (.t 1)),iI 11 (.mkslp 0 1 (.int .u64 0) [(0,(.t 10))]),iI 12 (.append 0 8 (.t 9) (.t 11)),iI 13 (.nilchk (.t 4)),iI 14 (.faddr 4 (.t 13)),iI 15 (.faddr 0 (.t 14)),iN (.store 0 (.t 15) (.t 12))]
theorem fd36:fd? Tryz.prog 36=some (16,[],ir36):=by kernel_rfl
def c54_0:C:=.cond (.t 9) (.reg [iI 10 (.mv (.t 0)),iI 11 (.nilchk (.t 10)),iI 12 (.faddr 3 (.t 11)),iI 13 (.load 0 (.t 12)),iI 14 (.mv (.t 1)),iN (.mapset 0 (.t 13) (.t 14) (.c (.bool true)))]) (.skip)
def c54_1:C:=.seq (.reg [iI 15 (.mv (.t 5)),iI 4 (.mv (.t 15))]) .ret
def c54_2:C:=.seq (.seq (.reg [iI 9 (.mv (.t 5))]) c54_0) c54_1
def c54_3:C:=.seq (.reg [iI 6 (.mv (.t 0)),iI 7 (.mv (.t 1)),iI 8 (.call (.c (.fn 17 [])) [(.t 6),(.c (.int .i64 2)),(.t 7)]),iI 5 (.mv (.t 8))]) c54_2
def ir54:C:=.seq (.reg [iI 4 (.mv (.c (.bool false)))]) c54_3
theorem fd54:fd? Tryz.prog 54=some (16,[.slot 4],ir54):=by kernel_rfl
def c17_0:C:=.seq (.reg [iI 19 (.mv (.t 0)),iI 20 (.load 6 (.t 7)),iI 21 (.call (.c (.fn 31 [])) [(.t 19),(.t 20)]),iI 22 (.mkfn 32 [(.t 7)]),iI 23 (.call (.c (.fn 30 [])) [(.t 21),(.t 22)]),iI 6 (.mv (.t 23))]) .ret
def c17_1:C:=.seq (.reg [iI 8 (.mv (.t 2)),iI 9 (.mv (.t 0)),iI 10 (.nilchk (.t 9)),iI 11 (.faddr 1 (.t 10)),iI 12 (.load 0 (.t 11)),iI 13 (.mv (.t 0)),iI 14 (.nilchk (.t 13)),iI 15 (.faddr 2 (.t 14)),iI 16 (.load 0 (.t 15)),iI 17 (.mv (.t 1)),iI 18 (.build [(1,(.int .u64 0)),(1,(.int .u64 0)),(1,(.int .i64 0)),(1,(.int .i64 0)),(1,(.int .i64 0)),(1,(.str []))] [(0,0,(.t 8)),(1,0,(.t 12)),(2,0,(.t 16)),(3,0,(.t 17))]),iI 7 (.alloc [(1,(.int .u64 0)),(1,(.int .u64 0)),(1,(.int .i64 0)),(1,(.int .i64 0)),(1,(.int .i64 0)),(1,(.str []))]),iN (.store 6 (.t 7) (.t 18))]) c17_0
def ir17:C:=.seq (.reg [iI 6 (.mv (.c (.bool false)))]) c17_1
theorem fd17:fd? Tryz.prog 17=some (24,[.slot 6],ir17):=by kernel_rfl
def c35_0:C:=.cond (.t 39) (.seq (.reg [iI 8 (.mv (.c (.bool false))),iI 9 (.mv (.c (.bool false)))]) .ret) (.skip)
def c35_1:C:=.cond (.t 36) (.seq (.reg [iI 8 (.mv (.c (.bool true))),iI 9 (.mv (.c (.bool false)))]) .ret) (.seq (.reg [iI 40 (.mv (.t 12)),iI 41 (.bin .eql (.t 40) (.c (.int .i64 2))),iI 42 (.mv (.t 41)),iG (some 43) 42 false (.mv (.t 0)),iG (some 44) 42 false (.nilchk (.t 43)),iG (some 45) 42 false (.faddr 3 (.t 44)),iG (some 46) 42 false (.load 0 (.t 45)),iG (some 47) 42 false (.mv (.t 13)),iG (some 48) 42 false (.lookup 0 (.bool false) false (.t 46) (.t 47)),iI 49 (.pick (.t 42) (.c (.bool true)) (.t 48)),iI 50 (.mv (.t 49)),iG (some 51) 50 false (.mv (.t 0)),iG (some 52) 50 false (.mv (.t 13)),iG (some 53) 50 false (.call (.c (.fn 54 [])) [(.t 51),(.t 52)]),iG (some 54) 50 false (.un .not (.t 53)),iI 55 (.pick (.t 50) (.c (.bool true)) (.t 54)),iI 39 (.mv (.t 55))]) c35_0)
def c35_2:C:=.seq (.reg [iI 8 (.mv (.c (.bool false))),iI 9 (.mv (.c (.bool true)))]) .ret
def c35_3:C:=.seq (.reg [iI 56 (.mv (.t 3)),iI 57 (.mv (.t 13)),iI 58 (.call (.t 56) [(.t 57)])]) c35_2
def c35_4:C:=.seq (.block 0 (.seq (.reg [iI 37 (.mv (.t 12)),iI 38 (.bin .eql (.t 37) (.c (.int .i64 0))),iI 36 (.mv (.t 38))]) c35_1)) c35_3
def c35_5:C:=.seq (.regq [iI 29 (.load 6 (.t 10)),iI 30 (.mv (.t 0)),iI 31 (.load 6 (.t 10)),iI 32 (.call (.c (.fn 31 [])) [(.t 30),(.t 31)]),iI 33 (.call (.c (.fn 53 [])) [(.t 29),(.t 32)]),iI 28 (.mv (.t 33)),iI 34 (.ext (.t 28) 0),iI 35 (.ext (.t 28) 1),iI 12 (.mv (.t 34)),iI 13 (.mv (.t 35))]) c35_4
def c35_6:C:=.seq (.regt (.fork [iI 15 (.mv (.t 0)),iI 16 (.nilchk (.t 15)),iI 17 (.faddr 1 (.t 16)),iI 18 (.load 0 (.t 17)),iI 19 (.mv (.t 0)),iI 20 (.nilchk (.t 19)),iI 21 (.faddr 2 (.t 20)),iI 22 (.load 0 (.t 21)),iI 23 (.mv (.t 1)),iI 24 (.mv (.t 2))] (.run [iI 25 (.call (.c (.fn 52 [])) [(.t 18),(.t 22),(.t 23),(.t 24)]),iI 14 (.mv (.t 25)),iI 26 (.ext (.t 14) 0),iI 27 (.ext (.t 14) 1),iI 10 (.alloc [(1,(.int .u64 0)),(1,(.int .u64 0)),(1,(.int .i64 0)),(1,(.int .i64 0)),(1,(.int .i64 0)),(1,(.str []))]),iN (.store 6 (.t 10) (.t 26)),iI 11 (.mv (.t 27))]) (.run [iI 10 (.alloc [(1,(.int .u64 0)),(1,(.int .u64 0)),(1,(.int .i64 0)),(1,(.int .i64 0)),(1,(.int .i64 0)),(1,(.str []))]),iI 25 (.call (.c (.fn 52 [])) [(.t 18),(.t 22),(.t 23),(.t 24)]),iI 14 (.mv (.t 25)),iI 26 (.ext (.t 14) 0),iI 27 (.ext (.t 14) 1),iN (.store 6 (.t 10) (.t 26)),iI 11 (.mv (.t 27))]))) c35_5
def ir35:C:=.seq (.reg [iI 8 (.mv (.c (.bool false))),iI 9 (.mv (.c (.bool false)))]) c35_6
theorem fd35:fd? Tryz.prog 35=some (59,[.slot 8,.slot 9],ir35):=by kernel_rfl
def c34_0:C:=.cond (.t 18) (.skip) (.exit 0)
def c34_1:C:=.block 1 (.reg [iI 20 (.load 0 (.t 2)),iI 21 (.mv (.t 0)),iI 22 (.mv (.t 1)),iI 23 (.load 0 (.t 2)),iI 24 (.mkbnd 36 [(.t 23)]),iI 25 (.call (.c (.fn 35 [])) [(.t 20),(.t 21),(.t 22),(.t 24)]),iI 19 (.mv (.t 25)),iI 26 (.ext (.t 19) 0),iI 27 (.ext (.t 19) 1),iI 6 (.mv (.t 26)),iI 7 (.mv (.t 27))])
def c34_2:C:=.cond (.t 33) (.ret) (.skip)
def c34_3:C:=.reg [iI 44 (.load 0 (.t 3)),iI 45 (.mv (.t 8)),iI 46 (.bin .add (.t 45) (.c (.int .u64 1))),iI 47 (.mv (.t 1)),iI 48 (.call (.t 44) [(.t 46),(.t 47)])]
def c34_4:C:=.seq (.reg [iI 40 (.load 0 (.t 3)),iI 41 (.mv (.t 0)),iI 42 (.mv (.t 8)),iI 43 (.call (.t 40) [(.t 41),(.t 42)])]) c34_3
def c34_5:C:=.seq (.reg [iI 34 (.mv (.t 0)),iI 35 (.mv (.t 1)),iI 36 (.mv (.t 0)),iI 37 (.bin .sub (.t 35) (.t 36)),iI 38 (.bin .quo (.t 37) (.c (.int .u64 2))),iI 39 (.bin .add (.t 34) (.t 38)),iI 8 (.mv (.t 39))]) c34_4
def c34_6:C:=.seq (.seq (.reg [iI 28 (.mv (.t 6)),iI 29 (.mv (.t 28)),iG (some 30) 29 false (.mv (.t 0)),iG (some 31) 29 false (.mv (.t 1)),iG (some 32) 29 false (.bin .eql (.t 30) (.t 31)),iI 33 (.pick (.t 29) (.c (.bool true)) (.t 32))]) c34_2) c34_5
def c34_7:C:=.seq (.block 0 (.loop (.seq (.seq (.reg [iI 18 (.mv (.t 7))]) c34_0) c34_1))) c34_6
def ir34:C:=.seq (.reg [iI 10 (.load 0 (.t 2)),iI 11 (.mv (.t 0)),iI 12 (.mv (.t 1)),iI 13 (.load 0 (.t 2)),iI 14 (.mkbnd 36 [(.t 13)]),iI 15 (.call (.c (.fn 35 [])) [(.t 10),(.t 11),(.t 12),(.t 14)]),iI 9 (.mv (.t 15)),iI 16 (.ext (.t 9) 0),iI 17 (.ext (.t 9) 1),iI 6 (.mv (.t 16)),iI 7 (.mv (.t 17))]) c34_7
theorem fd34:fd? Tryz.prog 34=some (49,[],ir34):=by kernel_rfl
def c18_0:C:=.reg [iI 8 (.load 0 (.t 6)),iI 9 (.mv (.t 1)),iI 10 (.mv (.t 2)),iI 11 (.call (.t 8) [(.t 9),(.t 10)])]
def c18_1:C:=.seq (.reg [iI 7 (.mkfn 34 [(.t 3),(.t 6)]),iN (.store 0 (.t 6) (.t 7))]) c18_0
def c18_2:C:=.seq (.reg [iI 6 (.alloc [(1,.nilfn)])]) c18_1
def ir18:C:=.seq (.reg [iI 3 (.box (.t 0))]) c18_2
theorem fd18:fd? Tryz.prog 18=some (12,[],ir18):=by kernel_rfl
def c16_0:C:=.cond (.t 19) (.seq (.reg [iI 20 (.mv (.t 10)),iI 6 (.mv (.c .nilp)),iI 7 (.mv (.t 20))]) .ret) (.skip)
def c16_1:C:=.seq (.reg [iI 18 (.mv (.t 10)),iI 19 (.bin .neq (.t 18) (.c (.int .i64 0)))]) c16_0
def c16_2:C:=.cond (.t 31) (.seq (.reg [iI 6 (.mv (.c .nilp)),iI 7 (.mv (.c (.int .i64 2)))]) .ret) (.skip)
def c16_3:C:=.seq (.reg [iI 32 (.mv (.t 0)),iI 33 (.call (.c (.fn 29 [])) [(.t 32)]),iI 34 (.mv (.t 1)),iI 35 (.mv (.t 2)),iI 36 .mkmap,iI 37 (.build [(1,(.sl 7 true [])),(1,(.int .u64 0)),(1,(.int .i64 0)),(1,.nilmp),(1,(.sl 0 true [])),(1,(.int .i64 0))] [(0,0,(.t 33)),(1,0,(.t 34)),(2,0,(.t 35)),(3,0,(.t 36))]),iI 38 (.box (.t 37)),iI 6 (.mv (.t 38)),iI 7 (.mv (.c (.int .i64 0)))]) .ret
def c16_4:C:=.seq (.seq (.reg [iI 21 (.mv (.t 1)),iI 22 (.call (.c (.fn 28 [])) [(.t 21)]),iI 23 (.un .not (.t 22)),iI 24 (.mv (.t 23)),iG (some 25) 24 false (.mv (.t 2)),iG (some 26) 24 false (.bin .lss (.t 25) (.c (.int .i64 0))),iI 27 (.pick (.t 24) (.c (.bool true)) (.t 26)),iI 28 (.mv (.t 27)),iG (some 29) 28 false (.mv (.t 2)),iG (some 30) 28 false (.bin .gtr (.t 29) (.c (.int .i64 255))),iI 31 (.pick (.t 28) (.c (.bool true)) (.t 30))]) c16_2) c16_3
def c16_5:C:=.seq (.seq (.reg [iI 12 (.mv (.t 0)),iI 13 (.build [(1,(.int .u64 0)),(1,(.int .u64 0)),(1,(.int .i64 0)),(1,(.int .i64 0)),(1,(.int .i64 0)),(1,(.str []))] [(0,0,(.c (.int .u64 281474976710655))),(1,0,(.c (.int .u64 1))),(3,0,(.c (.int .i64 4)))]),iI 14 (.call (.c (.fn 27 [])) [(.t 12),(.t 13)]),iI 11 (.mv (.t 14)),iI 15 (.ext (.t 11) 0),iI 16 (.ext (.t 11) 1),iI 17 (.ext (.t 11) 2),iI 8 (.mv (.t 15)),iI 9 (.mv (.t 16)),iI 10 (.mv (.t 17))]) c16_1) c16_4
def ir16:C:=.seq (.reg [iI 6 (.mv (.c .nilp)),iI 7 (.mv (.c (.int .i64 0)))]) c16_5
theorem fd16:fd? Tryz.prog 16=some (39,[.slot 6,.slot 7],ir16):=by kernel_rfl
def c7_0:C:=.cond (.t 16) (.seq (.reg [iI 17 (.build [(1,(.sl 0 true [])),(1,(.int .i64 0))] []),iI 18 (.mv (.t 8)),iI 4 (.mv (.c (.sl 7 true []))),iN (.store 2 (.t 5) (.t 17)),iI 6 (.mv (.t 18))]) .ret) (.skip)
def c7_1:C:=.seq (.reg [iI 23 (.mv (.t 7)),iI 24 (.nilchk (.t 23)),iI 25 (.faddr 0 (.t 24)),iI 26 (.load 0 (.t 25)),iI 27 (.mv (.t 7)),iI 28 (.nilchk (.t 27)),iI 29 (.faddr 4 (.t 28)),iI 30 (.load 2 (.t 29)),iI 4 (.mv (.t 26)),iN (.store 2 (.t 5) (.t 30)),iI 6 (.mv (.c (.int .i64 0)))]) .ret
def c7_2:C:=.seq (.reg [iI 21 (.mv (.t 7)),iI 22 (.call (.c (.fn 18 [])) [(.t 21),(.c (.int .u64 1)),(.c (.int .u64 281474976710654))])]) c7_1
def c7_3:C:=.seq (.reg [iI 19 (.mv (.t 7)),iI 20 (.call (.c (.fn 17 [])) [(.t 19),(.c (.int .i64 3)),(.c (.int .u64 281474976710655))])]) c7_2
def c7_4:C:=.seq (.seq (.reg [iI 15 (.mv (.t 8)),iI 16 (.bin .neq (.t 15) (.c (.int .i64 0)))]) c7_0) c7_3
def c7_5:C:=.seq (.reg [iI 10 (.mv (.t 0)),iI 11 (.mv (.t 1)),iI 12 (.call (.c (.fn 16 [])) [(.t 10),(.t 11),(.c (.int .i64 0))]),iI 9 (.mv (.t 12)),iI 13 (.ext (.t 9) 0),iI 14 (.ext (.t 9) 1),iI 7 (.mv (.t 13)),iI 8 (.mv (.t 14))]) c7_4
def ir7:C:=.seq (.reg [iI 4 (.mv (.c (.sl 7 true []))),iI 5 (.alloc [(1,(.sl 0 true [])),(1,(.int .i64 0))]),iI 6 (.mv (.c (.int .i64 0)))]) c7_5
theorem fd7:fd? Tryz.prog 7=some (31,[.slot 4,.cell 5 2,.slot 6],ir7):=by kernel_rfl
structure Srch where
 devs:List ResponderDevice
 frm:Int
 seq:Int
 known:List (Int×Bool)
 found:List Int
 msgs:Int
abbrev selfC(m:Nat)(F:AV)(σ : Srch):List AV:=[.sl 7 false (σ.devs.map eResponderDevice),.int .u64 σ.frm,.int .i64 σ.seq,.mref m,F,.int .i64 σ.msgs]
def Fnd(h:Hp)(F:AV)(xs:List Int):Prop:=(xs=[]∧F=.sl 0 true [])∨∃ f,F=.row 0 f 0 xs.length∧h[f]? = some (.els 0 (xs.map (AV.int .u64)))
structure Sta (h:Hp) (c m:Nat) (F:AV) (σ : Srch):Prop where
 c:h[c]? = some (.cel (selfC m F σ))
 m:h[m]? = some (.map (Ab.mk (AV.int .u64) σ.known) (Ab.mv AV.bool σ.known))
 f:Fnd h F σ.found
structure Stp (h:Hp) (c m:Nat) (F:AV) (h':Hp) (F':AV):Prop where
 len:h.length≤h'.length
 oth:∀ b,b<h.length→b≠c→b≠m→(∀ n,F≠.row 0 b 0 n)→h'[b]? = h[b]?
 fnd:∀ b n,F'=.row 0 b 0 n→(∃ n',F=.row 0 b 0 n')∨h.length≤b
theorem get_lt{h:Hp}{b:Nat}{x:HB}(e:h[b]? = some x):b<h.length:=(List.getElem?_eq_some_iff.1 e).1
theorem Stp.refl(h:Hp)(c m:Nat)(F:AV):Stp h c m F h F:=⟨Nat.le_refl _,fun _ _ _ _ _=>rfl,fun _ n e=>.inl ⟨n,e⟩⟩
theorem Stp.trans{h h' h'':Hp}{c m:Nat}{F F' F'':AV}(a:Stp h c m F h' F')(b:Stp h' c m F' h'' F''):Stp h c m F h'' F'' :=
 ⟨Nat.le_trans a.len b.len,fun x hx h1 h2 h3=>by
  rw[b.oth x (Nat.lt_of_lt_of_le hx a.len) h1 h2 (fun n e=>by
   rcases a.fnd x n e with ⟨n',e'⟩ | e'
   ·exact h3 n' e'
   ·omega),a.oth x hx h1 h2 h3],fun x n e=>by
  rcases b.fnd x n e with ⟨n',e'⟩ | e'
  ·exact a.fnd x n' e'
  ·exact .inr (Nat.le_trans a.len e')⟩
theorem Sta.ne{h:Hp}{c m:Nat}{F:AV}{σ : Srch}(hS:Sta h c m F σ):c≠m:=fun e=>by
 have h1:=hS.c;rw[e,hS.m] at h1;simp at h1
theorem Sta.nf{h:Hp}{c m:Nat}{F:AV}{σ : Srch}(hS:Sta h c m F σ)(f n:Nat)(e:F=.row 0 f 0 n):f≠c∧f≠m∧f<h.length:=by
 rcases hS.f with ⟨_,e'⟩ | ⟨f',e',hf⟩
 ·rw[e] at e';cases e'
 ·rw[e] at e';injection e' with _ e1 _ _;subst e1
  refine ⟨fun e=>?_,fun e=>?_,get_lt hf⟩
  ·rw[e,hS.c] at hf;simp at hf
  ·rw[e,hS.m] at hf;simp at hf
theorem get_app{h:Hp}{b:Nat}{x:HB}(e:h[b]? = some x)(bs:List HB):(h++bs)[b]? = some x:=by
 rw[List.getElem?_append_left (get_lt e)];exact e
theorem get_set{h:Hp}{b:Nat}{x:HB}(hb:b<h.length):(h.set b x)[b]? = some x:=by simp[hb]
theorem get_ne{h:Hp}{a b:Nat}{x:HB}(hn:a≠b):(h.set a x)[b]? = h[b]? := List.getElem?_set_ne hn
theorem Fnd.app{h:Hp}{F:AV}{xs:List Int}(hf:Fnd h F xs)(bs:List HB):Fnd (h++bs) F xs:=by
 rcases hf with hf | ⟨f,e,hf⟩
 ·exact .inl hf
 ·exact .inr ⟨f,e,get_app hf bs⟩
theorem Sta.app{h:Hp}{c m:Nat}{F:AV}{σ : Srch}(hS:Sta h c m F σ)(bs:List HB):Sta (h++bs) c m F σ := ⟨get_app hS.c bs,get_app hS.m bs,hS.f.app bs⟩
theorem Stp.app(h:Hp)(c m:Nat)(F:AV)(bs:List HB):Stp h c m F (h++bs) F :=
 ⟨by simp,fun b hb _ _ _=>List.getElem?_append_left hb,fun b n e=>.inl ⟨n,e⟩⟩
theorem Sta.setc{h:Hp}{c m:Nat}{F:AV}{σ σ':Srch}(hS:Sta h c m F σ)(hk : σ'.known = σ.known)(hf : σ'.found = σ.found):Sta (h.set c (.cel (selfC m F σ'))) c m F σ'∧Stp h c m F (h.set c (.cel (selfC m F σ'))) F:=by
 refine ⟨⟨get_set (get_lt hS.c),by rw[get_ne hS.ne,hk];exact hS.m,?_⟩,by simp,fun b hb h1 _ _=>get_ne (Ne.symm h1),fun b n e=>.inl ⟨n,e⟩⟩
 rw[hf]
 rcases hS.f with hx | ⟨f,e,hx⟩
 ·exact .inl hx
 ·exact .inr ⟨f,e,by rw[get_ne (hS.nf f _ e).1.symm];exact hx⟩
theorem Sta.setm{h:Hp}{c m:Nat}{F:AV}{σ : Srch}(hS:Sta h c m F σ)(kn:List (Int×Bool)) :
  Sta (h.set m (.map (Ab.mk (AV.int .u64) kn) (Ab.mv AV.bool kn))) c m F { σ with known:=kn }∧Stp h c m F (h.set m (.map (Ab.mk (AV.int .u64) kn) (Ab.mv AV.bool kn))) F:=by
 refine ⟨⟨by rw[get_ne hS.ne.symm];exact hS.c,get_set (get_lt hS.m),?_⟩,by simp,fun b hb _ h2 _=>get_ne (Ne.symm h2),fun b n e=>.inl ⟨n,e⟩⟩
 rcases hS.f with hx | ⟨f,e,hx⟩
 ·exact .inl hx
 ·exact .inr ⟨f,e,by rw[get_ne (hS.nf f _ e).2.1.symm];exact hx⟩
theorem Sta.newf{h:Hp}{c m:Nat}{F:AV}{σ : Srch}(hS:Sta h c m F σ)(xs:List Int)(g:Hp)(hg:g=h++[.els 0 (xs.map (AV.int .u64))]∨∃ f n,F=.row 0 f 0 n∧g=h.set f .dead++[.els 0 (xs.map (AV.int .u64))]) :
  Sta (g.set c (.cel (selfC m (.row 0 h.length 0 xs.length) { σ with found:=xs }))) c m (.row 0 h.length 0 xs.length) { σ with found:=xs }∧Stp h c m F (g.set c (.cel (selfC m (.row 0 h.length 0 xs.length) { σ with found:=xs }))) (.row 0 h.length 0 xs.length):=by
 have hc:=get_lt hS.c
 have hm:=get_lt hS.m
 have gl:g.length=h.length + 1:=by rcases hg with rfl | ⟨f,n,_,rfl⟩<;>simp
 have go:∀ b,b<h.length→(∀ n,F≠.row 0 b 0 n)→g[b]? = h[b]? := fun b hb hf=>by
  rcases hg with rfl | ⟨f,n,e,rfl⟩
  ·exact List.getElem?_append_left hb
  ·rw[List.getElem?_append_left (by simpa using hb),get_ne (fun e':f=b=>hf n (by rw[← e'];exact e))]
 have gn:g[h.length]? = some (.els 0 (xs.map (AV.int .u64))):=by rcases hg with rfl | ⟨f,n,_,rfl⟩<;>simp
 refine ⟨⟨get_set (by omega),?_,.inr ⟨h.length,rfl,?_⟩⟩,by simp[gl],fun b hb h1 _ h3=>?_,fun b n e=>.inr (by injection e with _ e;omega)⟩
 ·rw[get_ne hS.ne,go m hm fun n e=>(hS.nf m n e).2.1 rfl];exact hS.m
 ·rw[get_ne (by omega),gn]
 ·rw[get_ne (Ne.symm h1),go b hb h3]
theorem Sta.any{h:Hp}{c m:Nat}{F:AV}{σ : Srch}(hS:Sta h c m F σ)(σ':Srch):∃ h' F',Sta h' c m F' σ'∧Stp h c m F h' F':=by
 obtain ⟨a1,b1⟩:=hS.newf σ'.found _ (.inl rfl)
 obtain ⟨a2,b2⟩:=a1.setm σ'.known
 obtain ⟨a3,b3⟩:=a2.setc (σ' := σ') rfl rfl
 exact ⟨_,_,a3,(b1.trans b2).trans b3⟩
section
variable {is:List Ins}{K:St→Prop}{s:Nat→AV}{h:Hp}{d:Option Nat}
theorem evTs_val{k:Nat}{args as':List AV}{v:AV}(hp:Pure Tryz.prog k as' (· = v)){f:Od}{os:List Od}{caps:List AV}(hf:f.ev s=.fn k caps)(ha:os.map (Od.ev s)++caps=args)(hpl:plain deep (.tup args)=true)(hu:args.map (unf 12)=as')(hr:adopt h v=some (v,h))
  (hk:evTs (Ab.Fn Tryz.prog) is K ⟨put? s d v,h⟩):evTs (Ab.Fn Tryz.prog) (Ins.mk d none (.call f os)::is) K ⟨s,h⟩:=by
 subst hu
 exact evTs_call hf (by rw[ha];exact Ab.Fn.val2 hp hpl hr hk)
theorem evTs_fn{k:Nat}{args caps:List AV}{f:Od}{os:List Od}(hf:f.ev s=.fn k caps)(ha:os.map (Od.ev s)++caps=args)(hF:Ab.Fn Tryz.prog k args h fun v h'=>evTs (Ab.Fn Tryz.prog) is K ⟨put? s d v,h'⟩):evTs (Ab.Fn Tryz.prog) (Ins.mk d none (.call f os)::is) K ⟨s,h⟩:=evTs_call hf (by rw[ha];exact hF)
end
def Srch.sent(σ : Srch)(ds:List ResponderDevice)(e:Int):Srch:={ σ with devs:=if e=0 then ds else σ.devs,seq:=(IntKind.i64.wrap (σ.seq + 1)).tmod 256,msgs:=IntKind.i64.wrap (σ.msgs + 1) }
theorem send_fn{h:Hp}{c m:Nat}{F:AV}{σ : Srch}{msg:ApiMessage}{r:List ResponderDevice×List ApiMessage×Int}(hS:Sta h c m F σ)(hb:f27 σ.devs msg=some r){K:AV→Hp→Prop}
  (hK:∀ h' F',Sta h' c m F' (σ.sent r.1 r.2.2)→Stp h c m F h' F'→K (.sl 6 false (r.2.1.map eApiMessage)) h'):Ab.Fn Tryz.prog 31 [.ptr c 0,eApiMessage msg] h K:=by
 refine Ab.Fn.of_code fd31 (Nat.le_of_ble_eq_true rfl) (let ⟨h',F',a,b⟩:=hS.any (σ.sent r.1 r.2.2);⟨_,h',hK h' F' a b⟩) ?_
 have p27:=f27_ok hb
 refine AW.rseq ?_
 simp only[eApiMessage,wm,wmd,↓wk,↓wl,nq,evV,↓reduceIte,sevalprocAttr]
 have hS1:=hS.app [.cel [.int .u64 msg.fTo,.int .u64 msg.fFrom,.int .i64 msg.fSeq,.int .i64 msg.fKind,.int .i64 msg.fParam,.str msg.fData]]
 have hT1:=Stp.app h c m F [.cel [.int .u64 msg.fTo,.int .u64 msg.fFrom,.int .i64 msg.fSeq,.int .i64 msg.fKind,.int .i64 msg.fParam,.str msg.fData]]
 have hx1:(h++[HB.cel [.int .u64 msg.fTo,.int .u64 msg.fFrom,.int .i64 msg.fSeq,.int .i64 msg.fKind,.int .i64 msg.fParam,.str msg.fData]])[h.length]? = some (.cel [.int .u64 msg.fTo,.int .u64 msg.fFrom,.int .i64 msg.fSeq,.int .i64 msg.fKind,.int .i64 msg.fParam,.str msg.fData]):=by simp
 generalize h++[HB.cel [.int .u64 msg.fTo,.int .u64 msg.fFrom,.int .i64 msg.fSeq,.int .i64 msg.fKind,.int .i64 msg.fParam,.str msg.fData]]=h1 at hS1 hT1 hx1 ⊢
 have hc1:=hS1.c
 have tail:∀ (s2:Nat→AV) (h2:Hp) (σ2:Srch),s2 0=.ptr c 0→s2 6=.sl 6 false (r.2.1.map eApiMessage)→Sta h2 c m F σ2→Stp h c m F h2 F →
   { σ2 with seq:=(IntKind.i64.wrap (σ2.seq + 1)).tmod 256,msgs:=IntKind.i64.wrap (σ2.msgs + 1) } = σ.sent r.1 r.2.2 →
   AW Tryz.prog 43 h.length c31_3 (fun ex st=>(ex=Ex.normal∨ex=Ex.ret)∧∃ v,resVs st [Rv.slot 4]=some v∧K v st.h) ⟨s2,h2⟩:=by
  intro s2 h2 σ2 e0 e6 hS2 hT2 hσ
  have hc2:=hS2.c
  refine AW.rseq ?_
  simp only[wm,wmd,↓wk,↓wl,nq,evV,↓reduceIte,sevalprocAttr,hc2,e0,e6]
  obtain ⟨hS3,hT3⟩:=hS2.setc (σ':={ σ2 with seq:=(IntKind.i64.wrap (σ2.seq + 1)).tmod 256 }) rfl rfl
  change AW _ _ _ _ _ ⟨_,h2.set c (.cel (selfC m F { σ2 with seq:=(IntKind.i64.wrap (σ2.seq + 1)).tmod 256 }))⟩
  generalize h2.set c (.cel (selfC m F { σ2 with seq:=(IntKind.i64.wrap (σ2.seq + 1)).tmod 256 }))=h3 at hS3 hT3 ⊢
  have hc3:=hS3.c
  refine AW.rseq ?_
  simp only[wm,wmd,↓wk,↓wl,nq,evV,↓reduceIte,sevalprocAttr,hc3,e0,e6]
  obtain ⟨hS4,hT4⟩:=hS3.setc (σ':={ σ2 with seq:=(IntKind.i64.wrap (σ2.seq + 1)).tmod 256,msgs:=IntKind.i64.wrap (σ2.msgs + 1) }) rfl rfl
  change AW _ _ _ _ _ ⟨_,h3.set c (.cel (selfC m F { σ2 with seq:=(IntKind.i64.wrap (σ2.seq + 1)).tmod 256,msgs:=IntKind.i64.wrap (σ2.msgs + 1) }))⟩
  rw[hσ] at hS4 hT4 ⊢
  refine AW.rseq ?_
  simp only[wm,wmd,↓wk,↓wl,nq,evV,↓reduceIte,sevalprocAttr,e0,e6]
  refine AW.ret ⟨.inr rfl,_,?_,hK _ _ hS4 ((hT2.trans hT3).trans hT4)⟩
  simp only[resVs,omap,resV,↓wk,↓reduceIte,sevalprocAttr]
 refine AW.rseq ?_
 simp only[wm,wmd,↓wk,↓wl,nq,evV,↓reduceIte,sevalprocAttr,hc1,hx1]
 refine evTs_val p27 (by rfl) (by rfl) (by rfl) (by rfl) (by rfl) ?_
 simp only[wm,wmd,↓wk,↓wl,nq,evV,↓reduceIte,sevalprocAttr]
 refine AW.sseq ?_
 refine AW.rseq ?_
 simp only[wm,wmd,↓wk,↓wl,nq,evV,↓reduceIte,sevalprocAttr]
 refine AW.cond' (b:=decide (r.2.2=0)) (by rfl) (fun he=>?_) fun he=>?_
 ·refine AW.rend ?_
  have he:=of_decide_eq_true he
  simp only[wm,wmd,↓wk,↓wl,nq,evV,↓reduceIte,sevalprocAttr,hc1]
  obtain ⟨hS2,hT2⟩:=hS1.setc (σ':={ σ with devs:=r.1 }) rfl rfl
  refine seqQ.norm (tail _ _ { σ with devs:=r.1 } ?_ ?_ hS2 (hT1.trans hT2) ?_)
  ·rfl
  ·rfl
  ·simp[Srch.sent,he]
 ·have he:=of_decide_eq_false he
  refine AW.skip ?_
  refine seqQ.norm (tail _ _ σ ?_ ?_ hS1 hT1 ?_)
  ·rfl
  ·rfl
  ·simp[Srch.sent,he]
theorem note_fn{h:Hp}{c m:Nat}{F:AV}{σ : Srch}{id:Int}{ys:List Int}(hS:Sta h c m F σ)(ha:app? 8 σ.found [id]=some ys){K:AV→Hp→Prop}
  (hK:∀ h' F',Sta h' c m F' { σ with found:=ys }→Stp h c m F h' F'→K (.tup []) h'):Ab.Fn Tryz.prog 36 [.ptr c 0,.int .u64 id] h K:=by
 refine Ab.Fn.of_code fd36 (Nat.le_of_ble_eq_true rfl) (let ⟨h',F',a,b⟩:=hS.any { σ with found:=ys };⟨_,h',hK h' F' a b⟩) ?_
 have hc:=hS.c
 have hlt:¬ (c=h.length):=Nat.ne_of_lt (get_lt hc)
 have H:(app? 8 σ.found [id]).bind some=some ys:=by rw[ha];rfl
 refine AW.rend ?_
 rcases hS.f with ⟨e1,e2⟩ | ⟨f,e2,hf⟩
 ·have hcF:h[c]? = some (.cel (selfC m (.sl 0 true []) σ)):=by rw[← e2];exact hc
  rw[e1] at H
  simp only[wm,wmd,↓wk,↓wl,nq,evV,↓reduceIte,sevalprocAttr,hcF]
  refine evTs_app0 (enc:=AV.int .u64) H (by rfl) (by rfl) ?_<;>clear H<;>intro z H
  injection H with H
  subst H
  obtain ⟨hS2,hT2⟩:=hS.newf z _ (.inl rfl)
  have hc2:(h++[HB.els 0 (z.map (AV.int .u64))])[c]? = some (.cel (selfC m (.sl 0 true []) σ)):=get_app hcF _
  simp only[wm,wmd,↓wk,↓wl,nq,evV,↓reduceIte,sevalprocAttr,hc2]
  exact ⟨.inl trivial,_,rfl,hK _ _ hS2 hT2⟩
 ·have hcF:h[c]? = some (.cel (selfC m (.row 0 f 0 σ.found.length) σ)):=by rw[← e2];exact hc
  simp only[wm,wmd,↓wk,↓wl,nq,evV,↓reduceIte,sevalprocAttr,hcF]
  refine evTs_app (enc:=AV.int .u64) H (by rfl) (by rfl) hf (by rfl) ?_<;>clear H<;>intro z H
  injection H with H
  subst H
  obtain ⟨hS2,hT2⟩:=hS.newf z _ (.inr ⟨f,_,e2,rfl⟩)
  have hc2:(h.set f .dead++[HB.els 0 (z.map (AV.int .u64))])[c]? = some (.cel (selfC m (.row 0 f 0 σ.found.length) σ)):=get_app (by rw[get_ne (hS.nf f _ e2).1];exact hcF) _
  simp only[wm,wmd,↓wk,↓wl,nq,evV,↓reduceIte,sevalprocAttr,hc2]
  exact ⟨.inl trivial,_,rfl,hK _ _ hS2 hT2⟩
theorem get_last(h:Hp)(x:HB):(h++[x])[h.length]? = some x:=by simp
theorem set_last(h:Hp)(x y:HB):(h++[x]).set h.length y=h++[y]:=by simp
theorem fnvalf{f:Nat}{args:List AV}(as':List AV){h:Hp}{v:AV}(hp:Pure Tryz.prog f (as'.map (unf 12)) (· = v))(ha:imm h deep (.tup args)=some (.tup as'))(hf:flat deep v=true)(hr:adopt h v=some (v,h)){K:AV→Hp→Prop}(hK:K v h):Ab.Fn Tryz.prog f args h K:=Ab.Fn.valf hp ha hf hr hK
abbrev msgC(m:ApiMessage):List AV:=[.int .u64 m.fTo,.int .u64 m.fFrom,.int .i64 m.fSeq,.int .i64 m.fKind,.int .i64 m.fParam,.str m.fData]
noncomputable def Srch.order(σ : Srch)(kind to:Int):Option (Srch×Bool) :=
 (f27 σ.devs ⟨to,σ.frm,σ.seq,kind,0,[]⟩).bind fun r=>(f30_32 r.2.1 to σ.frm σ.seq kind 0 []).bind fun ok=>some (σ.sent r.1 r.2.2,ok)
theorem order_fn{h:Hp}{c m:Nat}{F:AV}{σ : Srch}{kind to:Int}{p:Srch×Bool}(hS:Sta h c m F σ)(ho : σ.order kind to=some p){K:AV→Hp→Prop}
  (hK:∀ h' F',Sta h' c m F' p.1→Stp h c m F h' F'→K (.bool p.2) h'):Ab.Fn Tryz.prog 17 [.ptr c 0,.int .i64 kind,.int .u64 to] h K:=by
 obtain ⟨r,hr,ho⟩:=Option.bind_eq_some_iff.1 ho
 obtain ⟨ok,hok,ho⟩:=Option.bind_eq_some_iff.1 ho
 injection ho with ho
 subst ho
 refine Ab.Fn.of_code fd17 (Nat.le_of_ble_eq_true rfl) (let ⟨h',F',a,b⟩:=hS.any (σ.sent r.1 r.2.2);⟨_,h',hK h' F' a b⟩) ?_
 have hc:=hS.c
 refine AW.rseq ?_
 simp only[wm,wmd,↓wk,↓wl,nq,evV,↓reduceIte,sevalprocAttr]
 refine AW.rseq ?_
 simp only[wm,wmd,↓wk,↓wl,nq,evV,↓reduceIte,sevalprocAttr,hc,get_last,set_last]
 have hS1:=hS.app [.cel (msgC ⟨to,σ.frm,σ.seq,kind,0,[]⟩)]
 have hT1:=Stp.app h c m F [.cel (msgC ⟨to,σ.frm,σ.seq,kind,0,[]⟩)]
 have hx1:(h++[HB.cel (msgC ⟨to,σ.frm,σ.seq,kind,0,[]⟩)])[h.length]? = some (.cel (msgC ⟨to,σ.frm,σ.seq,kind,0,[]⟩)):=get_last _ _
 change AW _ _ _ _ _ ⟨_,h++[HB.cel (msgC ⟨to,σ.frm,σ.seq,kind,0,[]⟩)]⟩
 generalize h++[HB.cel (msgC ⟨to,σ.frm,σ.seq,kind,0,[]⟩)]=h1 at hS1 hT1 hx1 ⊢
 have hlt:h.length<h1.length:=get_lt hx1
 refine AW.rseq ?_
 simp only[wm,wmd,↓wk,↓wl,nq,evV,↓reduceIte,sevalprocAttr,hx1]
 refine evTs_fn (by rfl) (by rfl) (send_fn hS1 hr fun h' F' hS' hT'=>?_)
 have hx2:h'[h.length]? = some (.cel (msgC ⟨to,σ.frm,σ.seq,kind,0,[]⟩)):=by
  rw[hT'.oth _ hlt (Nat.ne_of_gt (get_lt hS.c)) (Nat.ne_of_gt (get_lt hS.m)) fun n e=>by have:=(hS.nf _ _ e).2.2;omega];exact hx1
 simp only[wm,wmd,↓wk,↓wl,nq,evV,↓reduceIte,sevalprocAttr]
 refine evTs_fn (args:=[.sl 6 false (r.2.1.map eApiMessage),.fn 32 [.ptr h.length 0]]) (by rfl) (by rfl) (fnvalf [.sl 6 false (r.2.1.map eApiMessage),.fn 32 [.pro (msgC ⟨to,σ.frm,σ.seq,kind,0,[]⟩)]] (f30_32_ok hok) ?_ (by rfl) (by rfl) ?_)
 ·simp only[deep_eq,imm_simps,imm_ptrE,omap_simps,hx2,List.drop_zero,Option.map_some]
 simp only[wm,wmd,↓wk,↓wl,nq,evV,↓reduceIte,sevalprocAttr]
 refine AW.ret ⟨.inr rfl,_,?_,hK _ _ hS' (hT1.trans hT')⟩
 simp only[resVs,omap,resV,↓wk,↓reduceIte,sevalprocAttr]
noncomputable def Srch.mute(σ : Srch)(id:Int):Option (Srch×Bool) :=
 (σ.order 2 id).bind fun p=>some (if p.2=true then { p.1 with known:=mset p.1.known id true } else p.1,p.2)
theorem mute_fn{h:Hp}{c m:Nat}{F:AV}{σ : Srch}{id:Int}{p:Srch×Bool}(hS:Sta h c m F σ)(ho : σ.mute id=some p){K:AV→Hp→Prop}
  (hK:∀ h' F',Sta h' c m F' p.1→Stp h c m F h' F'→K (.bool p.2) h'):Ab.Fn Tryz.prog 54 [.ptr c 0,.int .u64 id] h K:=by
 obtain ⟨q,hq,ho⟩:=Option.bind_eq_some_iff.1 ho
 injection ho with ho
 subst ho
 refine Ab.Fn.of_code fd54 (Nat.le_of_ble_eq_true rfl) (let ⟨h',F',a,b⟩:=hS.any _;⟨_,h',hK h' F' a b⟩) ?_
 refine AW.rseq ?_
 simp only[wm,wmd,↓wk,↓wl,nq,evV,↓reduceIte,sevalprocAttr]
 refine AW.rseq ?_
 simp only[wm,wmd,↓wk,↓wl,nq,evV,↓reduceIte,sevalprocAttr]
 refine evTs_fn (by rfl) (by rfl) (order_fn hS hq fun h' F' hS' hT'=>?_)
 simp only[wm,wmd,↓wk,↓wl,nq,evV,↓reduceIte,sevalprocAttr]
 have hc':=hS'.c
 refine AW.sseq ?_
 refine AW.rseq ?_
 simp only[wm,wmd,↓wk,↓wl,nq,evV,↓reduceIte,sevalprocAttr]
 refine AW.cond' (b:=q.2) (by rfl) (fun he=>?_) fun he=>?_
 ·refine AW.rend ?_
  simp only[wm,wmd,↓wk,↓wl,nq,evV,↓reduceIte,sevalprocAttr,hc']
  refine evTs_mset (m:=q.1.known) (ek:=AV.int .u64) (ev:=AV.bool) id true (by rfl) hS'.m (by rfl) (by rfl) ?_
  obtain ⟨hS2,hT2⟩:=hS'.setm (mset q.1.known id true)
  simp only[wm,wmd,↓wk,↓wl,nq,evV,↓reduceIte,sevalprocAttr]
  refine seqQ.norm (AW.rseq ?_)
  simp only[wm,wmd,↓wk,↓wl,nq,evV,↓reduceIte,sevalprocAttr]
  refine AW.ret ⟨.inr rfl,_,?_,hK _ _ ?_ (hT'.trans hT2)⟩
  ·simp only[resVs,omap,resV,↓wk,↓reduceIte,sevalprocAttr]
  ·rw[if_pos he];exact hS2
 ·refine AW.skip ?_
  refine seqQ.norm (AW.rseq ?_)
  simp only[wm,wmd,↓wk,↓wl,nq,evV,↓reduceIte,sevalprocAttr]
  refine AW.ret ⟨.inr rfl,_,?_,hK _ _ ?_ hT'⟩
  ·simp only[resVs,omap,resV,↓wk,↓reduceIte,sevalprocAttr]
  ·rw[if_neg (by rw[he];decide)];exact hS'
theorem freeze_ptr{h:Hp}{b:Nat}{cs:List AV}(hb:h[b]? = some (.cel cs))(hp4:cs.all (plain 4)=true)(hp:cs.all (plain deep)=true):Ab.freeze h (.ptr b 0)=some (.pro cs,h.set b .dead):=by
 have hv:visit h (11 + 1) (.ptr b 0)=[b]:=by
  simp only[visit,hb]
  rw[if_pos hp]
 have hi':imm h deep (.ptr b 0)=some (.pro cs):=by
  show imm h (11 + 1) _=_
  rw[imm_ptrE,hb]
  dsimp only
  rw[List.drop_zero]
  have:omap (imm h 11) cs=some cs:=by
   have h2:∀ c ∈ cs,plain 4 c=true:=List.all_eq_true.1 hp4
   clear hv hb hp hp4
   induction cs with
   | nil=>rfl
   | cons c cs ih =>
    have hc:=h2 c List.mem_cons_self
    have:imm h 11 c=some c:=imm_plain h 11 4 c hc (by omega)
    simp only[omap,this,ih fun x hx=>h2 x (List.mem_cons_of_mem _ hx)]
  rw[this];rfl
 unfold Ab.freeze
 rw[if_neg (by simp[plain,deep]),hi']
 show some (_,kill h (visit h (11 + 1) _))=_
 rw[hv]
 simp[kill]
section
variable {is:List Ins}{K:St→Prop}{s:Nat→AV}{h:Hp}{d:Option Nat}
theorem evTs_valq{k:Nat}{args as':List AV}{v:AV}(hp:Pure Tryz.prog k as' (· = v)){f:Od}{os:List Od}{caps:List AV}(hf:f.ev s=.fn k caps)(ha:os.map (Od.ev s)++caps=args)(hpl:plain deep (.tup args)=true)(hu:args.map (unf 12)=as')(hr:adopt h v=some (v,h))
  (hk:evTs (Fnq Tryz.prog) is K ⟨put? s d v,h⟩):evTs (Fnq Tryz.prog) (Ins.mk d none (.call f os)::is) K ⟨s,h⟩:=by
 subst hu
 exact evTs_call hf (by rw[ha];exact Fnq.val hp.args hpl hr hk)
theorem evTs_callb{k:Nat}{fs args:List AV}{f:Od}{os:List Od}(hf:f.ev s=.bnd k fs)(ha:fs++os.map (Od.ev s)=args)(hF:Ab.Fn Tryz.prog k args h fun v h'=>evTs (Ab.Fn Tryz.prog) is K ⟨put? s d v,h'⟩):evTs (Ab.Fn Tryz.prog) (Ins.mk d none (.call f os)::is) K ⟨s,h⟩:=by
 simp only[evTs,evT,act,evO,hf]
 rw[ha];exact hF
theorem lookup_ev{kn:List (Int×Bool)}{k:Int}{b:Nat}{x i:Od}(hx:x.ev s=.mref b)(hb:h[b]? = some (.map (Ab.mk (AV.int .u64) kn) (Ab.mv AV.bool kn)))(hi:i.ev s=.int .u64 k) :
  evV s h (.lookup 0 (.bool false) false x i)=some (.bool ((mget kn k).getD false),h):=by
 have hz:lowZ 4 (.bool false)=.bool false:=rfl
 have hk:isKey 0 (AV.int .u64 k)=true:=rfl
 have hl:=lookKey_eq (kd:=0) (ek:=AV.int .u64) AV.bool k kn
 simp only[evV,hz,hx,hb,hi,hk,if_true,hl]
 cases mget kn k<;>rfl
end
noncomputable def Srch.seek(F53:ApiMessage→List ApiMessage→Option (Int×Int))(σ : Srch)(low high:Int):Option (Srch×Bool×Bool) :=
 (f52 σ.frm σ.seq low high).bind fun d=>(f27 σ.devs d.1).bind fun r=>(F53 d.1 r.2.1).bind fun u =>
  if u.1=0 then some (σ.sent r.1 r.2.2,true,false)
  else if u.1=2 then some (σ.sent r.1 r.2.2,false,false)
  else if (mget σ.known u.2).getD false=true then some (σ.sent r.1 r.2.2,false,false)
  else ((σ.sent r.1 r.2.2).mute u.2).bind fun p=>if p.2=false then some (p.1,false,false) else (app? 8 p.1.found [u.2]).bind fun ys=>some ({ p.1 with found:=ys },false,true)
section
variable {F53:ApiMessage→List ApiMessage→Option (Int×Int)}
theorem seek_fn(p53:∀ {m:ApiMessage}{l:List ApiMessage}{r:Int×Int},F53 m l=some r→Pure Tryz.prog 53 [.agg (msgC m),.sl 6 false (l.map eApiMessage)] (· = .tup [.int .i64 r.1,.int .u64 r.2])){h:Hp}{c m:Nat}{F:AV}{σ : Srch}{low high:Int}{p:Srch×Bool×Bool}(hS:Sta h c m F σ)(ho : σ.seek F53 low high=some p){K:AV→Hp→Prop}
  (hK:∀ h' F',Sta h' c m F' p.1→Stp h c m F h' F'→K (.tup [.bool p.2.1,.bool p.2.2]) h'):Ab.Fn Tryz.prog 35 [.ptr c 0,.int .u64 low,.int .u64 high,.bnd 36 [.ptr c 0]] h K:=by
 obtain ⟨d,hd,ho⟩:=Option.bind_eq_some_iff.1 ho
 obtain ⟨r,hr,ho⟩:=Option.bind_eq_some_iff.1 ho
 obtain ⟨u,hu,ho⟩:=Option.bind_eq_some_iff.1 ho
 refine Ab.Fn.of_code fd35 (Nat.le_of_ble_eq_true rfl) (let ⟨h',F',a,b⟩:=hS.any p.1;⟨_,h',hK h' F' a b⟩) ?_
 have hc:=hS.c
 have q53:=p53 hu
 have cont:∀ s2:Nat→AV,s2 0=.ptr c 0→s2 3=.bnd 36 [.ptr c 0]→s2 10=.ptr h.length 0 →
   AW Tryz.prog 59 h.length c35_5 (fun ex st=>(ex=Ex.normal∨ex=Ex.ret)∧∃ v,resVs st [Rv.slot 8,Rv.slot 9]=some v∧K v st.h) ⟨s2,h++[.cel (msgC d.1)]⟩:=by
  intro s2 e0 e3 e10
  refine AW.weaken (Le.freeze (i:=10) (x:=.pro (msgC d.1)) (h':=h++[.dead]) (by
   show Ab.freeze _ (s2 10)=_
   rw[e10,freeze_ptr (get_last _ _) (by rfl) (by rfl),set_last])) ?_
  have hS1:=hS.app [.dead]
  have hT1:=Stp.app h c m F [.dead]
  generalize h++[HB.dead]=h1 at hS1 hT1 ⊢
  refine AW.rpseq [10] [0,1,2,3,4,5,6,7,8,9] (fun j hj=>?_) (by rfl) rfl (by rfl) (by rfl) ?_
  ·rw[List.mem_singleton.1 hj];exact ⟨_,rfl⟩
  simp only[List.map_cons,List.map_nil,List.getD_cons_zero,List.getD_cons_succ]
  simp only[wm,wmd,↓wk,↓wl,nq,evV,↓reduceIte,sevalprocAttr,e0]
  refine evTs_fn (by rfl) (by rfl) (send_fn hS1 hr fun h2 F2 hS2 hT2=>?_)
  simp only[wm,wmd,↓wk,↓wl,nq,evV,↓reduceIte,sevalprocAttr]
  refine evTs_val q53 (by rfl) (by rfl) (by rfl) (by rfl) (by rfl) ?_
  simp only[wm,wmd,↓wk,↓wl,nq,evV,↓reduceIte,sevalprocAttr]
  have hc2:=hS2.c
  have hT:=hT1.trans hT2
  refine AW.bseq ?_
  refine AW.rseq ?_
  simp only[wm,wmd,↓wk,↓wl,nq,evV,↓reduceIte,sevalprocAttr]
  by_cases h0:u.1=0
  ·rw[if_pos h0] at ho
   injection ho with ho
   subst ho
   refine AW.ift (by simp only[wk,decide_eq_true h0,↓reduceIte,sevalprocAttr]) ?_
   refine AW.rseq ?_
   simp only[wm,wmd,↓wk,↓wl,nq,evV,↓reduceIte,sevalprocAttr]
   refine AW.ret (blkQ.ret ⟨.inr rfl,_,?_,hK _ _ hS2 hT⟩)
   simp only[resVs,omap,resV,↓wk,↓reduceIte,sevalprocAttr]
  rw[if_neg h0] at ho
  refine AW.iff (by simp only[wk,decide_eq_false h0,↓reduceIte,sevalprocAttr]) ?_
  refine AW.rseq ?_
  by_cases h2':u.1=2
  ·rw[if_pos h2'] at ho
   injection ho with ho
   subst ho
   have hdec:decide (u.1=2)=true:=decide_eq_true h2'
   simp only[wm,wmd,↓wk,↓wl,nq,evV,↓reduceIte,sevalprocAttr,hdec]
   refine AW.ift (by rfl) ?_
   refine AW.rseq ?_
   simp only[wm,wmd,↓wk,↓wl,nq,evV,↓reduceIte,sevalprocAttr]
   refine AW.ret (blkQ.ret ⟨.inr rfl,_,?_,hK _ _ hS2 hT⟩)
   simp only[resVs,omap,resV,↓wk,↓reduceIte,sevalprocAttr]
  rw[if_neg h2'] at ho
  have hdec:decide (u.1=2)=false:=decide_eq_false h2'
  simp only[wm,wmd,↓wk,↓wl,nq,evV,↓reduceIte,sevalprocAttr,hdec,e0,hc2]
  refine Ab.step rfl (lookup_ev (kn:=σ.known) (k:=u.2) (b:=m) (by rfl) hS2.m (by rfl)) ?_
  by_cases hkn:(mget σ.known u.2).getD false=true
  ·rw[if_pos hkn] at ho
   injection ho with ho
   subst ho
   simp only[wm,wmd,↓wk,↓wl,nq,evV,↓reduceIte,sevalprocAttr,hkn]
   refine AW.ift (by rfl) ?_
   refine AW.rseq ?_
   simp only[wm,wmd,↓wk,↓wl,nq,evV,↓reduceIte,sevalprocAttr]
   refine AW.ret (blkQ.ret ⟨.inr rfl,_,?_,hK _ _ hS2 hT⟩)
   simp only[resVs,omap,resV,↓wk,↓reduceIte,sevalprocAttr]
  rw[if_neg hkn] at ho
  have hkn':(mget σ.known u.2).getD false=false:=by simpa using hkn
  obtain ⟨q,hq,ho⟩:=Option.bind_eq_some_iff.1 ho
  simp only[wm,wmd,↓wk,↓wl,nq,evV,↓reduceIte,sevalprocAttr,hkn',e0]
  refine evTs_fn (by rfl) (by rfl) (mute_fn hS2 hq fun h3 F3 hS3 hT3=>?_)
  by_cases hq2:q.2=false
  ·rw[if_pos hq2] at ho
   injection ho with ho
   subst ho
   simp only[wm,wmd,↓wk,↓wl,nq,evV,↓reduceIte,sevalprocAttr,hq2]
   refine AW.ift (by rfl) ?_
   refine AW.rseq ?_
   simp only[wm,wmd,↓wk,↓wl,nq,evV,↓reduceIte,sevalprocAttr]
   refine AW.ret (blkQ.ret ⟨.inr rfl,_,?_,hK _ _ hS3 (hT.trans hT3)⟩)
   simp only[resVs,omap,resV,↓wk,↓reduceIte,sevalprocAttr]
  rw[if_neg hq2] at ho
  have hq2':q.2=true:=by simpa using hq2
  obtain ⟨ys,hy,ho⟩:=Option.bind_eq_some_iff.1 ho
  injection ho with ho
  subst ho
  simp only[wm,wmd,↓wk,↓wl,nq,evV,↓reduceIte,sevalprocAttr,hq2']
  refine AW.iff (by rfl) (AW.skip (blkQ.norm ?_))
  refine AW.rseq ?_
  simp only[wm,wmd,↓wk,↓wl,nq,evV,↓reduceIte,sevalprocAttr,e3]
  refine evTs_callb (by rfl) (by rfl) (note_fn hS3 hy fun h4 F4 hS4 hT4=>?_)
  simp only[wm,wmd,↓wk,↓wl,nq,evV,↓reduceIte,sevalprocAttr]
  refine AW.rseq ?_
  simp only[wm,wmd,↓wk,↓wl,nq,evV,↓reduceIte,sevalprocAttr]
  refine AW.ret ⟨.inr rfl,_,?_,hK _ _ hS4 ((hT.trans hT3).trans hT4)⟩
  simp only[resVs,omap,resV,↓wk,↓reduceIte,sevalprocAttr]
 refine AW.rseq ?_
 simp only[wm,wmd,↓wk,↓wl,nq,evV,↓reduceIte,sevalprocAttr]
 refine AW.sseq (AW.regt (evR.fork ?_))
 simp only[wm,wmd,↓wk,↓wl,nq,evV,↓reduceIte,sevalprocAttr,hc]
 have p52:=f52_ok hd
 refine evR.both ?_ ?_
 ·refine evR.run ?_
  refine evTs_valq p52 (by rfl) (by rfl) (by rfl) (by rfl) (by rfl) ?_
  simp only[wm,wmd,↓wk,↓wl,nq,evV,↓reduceIte,sevalprocAttr,get_last,set_last]
  exact seqQ.norm (cont _ rfl rfl rfl)
 ·refine evR.run ?_
  simp only[wm,wmd,↓wk,↓wl,nq,evV,↓reduceIte,sevalprocAttr,get_last,set_last]
  refine evTs_valq p52 (by rfl) (by rfl) (by rfl) (by rfl) (by rfl) ?_
  simp only[wm,wmd,↓wk,↓wl,nq,evV,↓reduceIte,sevalprocAttr,get_last,set_last]
  exact seqQ.norm (cont _ rfl rfl rfl)
end
theorem ncb:∀ f fs,(Op1.mkbnd f fs).isCall=false:=fun _ _=>rfl
noncomputable def Srch.seeks(F53:ApiMessage→List ApiMessage→Option (Int×Int)):Nat→Srch→Int→Int→Option (Srch×Bool)
 | 0,_,_,_=>none
 | n + 1,σ,lo,hi=>(σ.seek F53 lo hi).bind fun p=>if p.2.2=true then Srch.seeks F53 n p.1 lo hi else some (p.1,p.2.1)
def midI(lo hi:Int):Int:=IntKind.u64.wrap (lo + IntKind.u64.wrap ((IntKind.u64.wrap (hi - lo)).tdiv 2))
noncomputable def Srch.inn(F53:ApiMessage→List ApiMessage→Option (Int×Int)):Nat→Srch→Int→Int→Option Srch
 | 0,_,_,_=>none
 | n + 1,σ,lo,hi=>(σ.seeks F53 1000 lo hi).bind fun p=>if p.2=true then some p.1 else if lo=hi then some p.1 else
   (Srch.inn F53 n p.1 lo (midI lo hi)).bind fun σ2=>Srch.inn F53 n σ2 (IntKind.u64.wrap (midI lo hi + 1)) hi
theorem Sta.keep{h h':Hp}{c m b:Nat}{F F' x:AV}{σ : Srch}(hS:Sta h c m F σ)(hT:Stp h c m F h' F')(hb:h[b]? = some (.cel [x])):h'[b]? = some (.cel [x]):=by
 rw[hT.oth b (get_lt hb) (fun e=>?_) (fun e=>?_) fun n e=>?_]
 ·exact hb
 ·rw[e,hS.c] at hb;injection hb with hb;injection hb with hb;cases hb
 ·rw[e,hS.m] at hb;injection hb with hb;cases hb
 ·rcases hS.f with ⟨_,e'⟩ | ⟨f',e',hf⟩
  ·rw[e] at e';cases e'
  ·rw[e] at e';injection e' with _ e1 _ _;rw[← e1,hb] at hf;injection hf with hf;cases hf
section
variable {F53:ApiMessage→List ApiMessage→Option (Int×Int)}
theorem inn_fn(p53:∀ {m:ApiMessage}{l:List ApiMessage}{r:Int×Int},F53 m l=some r→Pure Tryz.prog 53 [.agg (msgC m),.sl 6 false (l.map eApiMessage)] (· = .tup [.int .i64 r.1,.int .u64 r.2])):∀ (n:Nat) {h:Hp}{c m sb ib:Nat}{F:AV}{σ σ':Srch}{lo hi:Int},Sta h c m F σ → h[sb]? = some (.cel [.ptr c 0])→h[ib]? = some (.cel [.fn 34 [.ptr sb 0,.ptr ib 0]]) → σ.inn F53 n lo hi=some σ'→∀ {K:AV→Hp→Prop},
  (∀ h' F',Sta h' c m F' σ'→Stp h c m F h' F'→K (.tup []) h')→Ab.Fn Tryz.prog 34 [.int .u64 lo,.int .u64 hi,.ptr sb 0,.ptr ib 0] h K
 | 0,h,c,m,sb,ib,F,σ,σ',lo,hi,hS,hsb,hib,ho,K,hK=>by cases ho
 | n + 1,h,c,m,sb,ib,F,σ,σ',lo,hi,hS,hsb,hib,ho,K,hK=>by
  obtain ⟨p,hp,ho⟩:=Option.bind_eq_some_iff.1 ho
  refine Ab.Fn.of_code fd34 (Nat.le_of_ble_eq_true rfl) (let ⟨h',F',a,b⟩:=hS.any σ';⟨_,h',hK h' F' a b⟩) ?_
  have tail:∀ (s2:Nat→AV) (h2:Hp) (F2:AV),s2 0=.int .u64 lo→s2 1=.int .u64 hi→s2 3=.ptr ib 0→s2 6=.bool p.2→Sta h2 c m F2 p.1→Stp h c m F h2 F2 →
    AW Tryz.prog 49 h.length c34_6 (fun ex st=>(ex=Ex.normal∨ex=Ex.ret)∧∃ v,resVs st []=some v∧K v st.h) ⟨s2,h2⟩:=by
   intro s2 h2 F2 e0 e1 e3 e6 hS2 hT2
   refine AW.sseq ?_
   refine AW.rseq ?_
   by_cases hp2:p.2=true
   ·rw[if_pos hp2] at ho
    injection ho with ho
    subst ho
    simp only[wm,wmd,↓wk,↓wl,nq,ncb,evV,↓reduceIte,sevalprocAttr,e6,hp2]
    refine AW.ift (by rfl) (AW.ret (seqQ.ret ⟨.inr rfl,_,rfl,hK _ _ hS2 hT2⟩))
   rw[if_neg hp2] at ho
   have hp2':p.2=false:=by simpa using hp2
   by_cases hlh:lo=hi
   ·rw[if_pos hlh] at ho
    injection ho with ho
    subst ho
    have hd:decide (lo=hi)=true:=decide_eq_true hlh
    simp only[wm,wmd,↓wk,↓wl,nq,ncb,evV,↓reduceIte,sevalprocAttr,e0,e1,e6,hp2',hd]
    refine AW.ift (by rfl) (AW.ret (seqQ.ret ⟨.inr rfl,_,rfl,hK _ _ hS2 hT2⟩))
   rw[if_neg hlh] at ho
   have hd:decide (lo=hi)=false:=decide_eq_false hlh
   obtain ⟨σ3,ho3,ho⟩:=Option.bind_eq_some_iff.1 ho
   simp only[wm,wmd,↓wk,↓wl,nq,ncb,evV,↓reduceIte,sevalprocAttr,e0,e1,e6,hp2',hd]
   refine AW.iff (by rfl) (AW.skip (seqQ.norm ?_))
   refine AW.rseq ?_
   simp only[wm,wmd,↓wk,↓wl,nq,ncb,evV,↓reduceIte,sevalprocAttr,e0,e1]
   have hsb2:=hS.keep hT2 hsb
   have hib2:=hS.keep hT2 hib
   refine AW.rseq ?_
   simp only[wm,wmd,↓wk,↓wl,nq,ncb,evV,↓reduceIte,sevalprocAttr,e0,e1,e3,hib2]
   refine evTs_fn (by rfl) (by rfl) (inn_fn p53 n hS2 hsb2 hib2 ho3 fun h3 F3 hS3 hT3=>?_)
   have hsb3:=hS2.keep hT3 hsb2
   have hib3:=hS2.keep hT3 hib2
   simp only[wm,wmd,↓wk,↓wl,nq,ncb,evV,↓reduceIte,sevalprocAttr]
   refine AW.rend ?_
   simp only[wm,wmd,↓wk,↓wl,nq,ncb,evV,↓reduceIte,sevalprocAttr,e0,e1,e3,hib3]
   refine evTs_fn (by rfl) (by rfl) (inn_fn p53 n hS3 hsb3 hib3 ho fun h4 F4 hS4 hT4=>?_)
   simp only[wm,wmd,↓wk,↓wl,nq,ncb,evV,↓reduceIte,sevalprocAttr]
   exact ⟨.inl trivial,_,rfl,hK _ _ hS4 ((hT2.trans hT3).trans hT4)⟩
  have loop:∀ (k:Nat) (s2:Nat→AV) (h2:Hp) (F2:AV) (q:Srch×Bool×Bool),s2 0=.int .u64 lo→s2 1=.int .u64 hi→s2 2=.ptr sb 0→s2 3=.ptr ib 0→s2 6=.bool q.2.1→s2 7=.bool q.2.2→Sta h2 c m F2 q.1→Stp h c m F h2 F2 →
    (if q.2.2=true then Srch.seeks F53 k q.1 lo hi else some (q.1,q.2.1))=some p →
    AW Tryz.prog 49 h.length c34_7 (fun ex st=>(ex=Ex.normal∨ex=Ex.ret)∧∃ v,resVs st []=some v∧K v st.h) ⟨s2,h2⟩:=by
   intro k s2 h2 F2 q e0 e1 e2 e3 e6 e7 hS2 hT2 hq
   refine AW.bseq ?_
   refine AW.loop (fun k st=>∃ (F2:AV) (q:Srch×Bool×Bool),st.s 0=.int .u64 lo∧st.s 1=.int .u64 hi∧st.s 2=.ptr sb 0∧st.s 3=.ptr ib 0∧st.s 6=.bool q.2.1∧st.s 7=.bool q.2.2∧Sta st.h c m F2 q.1∧Stp h c m F st.h F2 ∧
    (if q.2.2=true then Srch.seeks F53 k q.1 lo hi else some (q.1,q.2.1))=some p) (m:=k) ⟨F2,q,e0,e1,e2,e3,e6,e7,hS2,hT2,hq⟩ ?_
   clear e0 e1 e2 e3 e6 e7 hS2 hT2 hq q F2 h2 s2 k
   rintro k ⟨s2,h2⟩ ⟨F2,q,e0,e1,e2,e3,e6,e7,hS2,hT2,hq⟩
   dsimp only at e0 e1 e2 e3 e6 e7 hS2 hT2
   refine AW.seq ?_
   refine AW.rseq ?_
   by_cases hq2:q.2.2=true
   ·rw[if_pos hq2] at hq
    simp only[wm,wmd,↓wk,↓wl,nq,ncb,evV,↓reduceIte,sevalprocAttr,e7,hq2]
    refine AW.ift (by rfl) (AW.skip ?_)
    show AW _ _ _ c34_1 _ _
    cases k with
    | zero=>cases hq
    | succ k =>
     obtain ⟨q',hq',hq⟩:=Option.bind_eq_some_iff.1 hq
     have hsb2:=hS.keep hT2 hsb
     refine AW.bend ?_
     refine AW.rend ?_
     simp only[wm,wmd,↓wk,↓wl,nq,ncb,evV,↓reduceIte,sevalprocAttr,e0,e1,e2,hsb2]
     refine evTs_fn (by rfl) (by rfl) (seek_fn p53 hS2 hq' fun h3 F3 hS3 hT3=>?_)
     simp only[wm,wmd,↓wk,↓wl,nq,ncb,evV,↓reduceIte,sevalprocAttr]
     refine blk0.norm ?_
     exact ⟨k,_,Nat.lt_succ_self k,Le.refl _ _,F3,q',e0,e1,e2,e3,rfl,rfl,hS3,hT2.trans hT3,hq⟩
   ·have hq2':q.2.2=false:=by simpa using hq2
    rw[if_neg hq2] at hq
    injection hq with hq
    subst hq
    simp only[wm,wmd,↓wk,↓wl,nq,ncb,evV,↓reduceIte,sevalprocAttr,e7,hq2']
    refine AW.iff (by rfl) (AW.exit ?_)
    exact blkQ.here (P:=Tryz.prog) (n:=49) (lo:=h.length) (id:=0) (tail _ _ _ e0 e1 e3 e6 hS2 hT2)
  obtain ⟨q,hq,hp⟩:=Option.bind_eq_some_iff.1 hp
  refine AW.rseq ?_
  simp only[wm,wmd,↓wk,↓wl,nq,ncb,evV,↓reduceIte,sevalprocAttr,hsb]
  refine evTs_fn (by rfl) (by rfl) (seek_fn p53 hS hq fun h3 F3 hS3 hT3=>?_)
  simp only[wm,wmd,↓wk,↓wl,nq,ncb,evV,↓reduceIte,sevalprocAttr]
  exact loop 999 _ _ _ q rfl rfl rfl rfl rfl rfl hS3 hT3 hp
end
section
variable {F53:ApiMessage→List ApiMessage→Option (Int×Int)}
theorem all_fn(p53:∀ {m:ApiMessage}{l:List ApiMessage}{r:Int×Int},F53 m l=some r→Pure Tryz.prog 53 [.agg (msgC m),.sl 6 false (l.map eApiMessage)] (· = .tup [.int .i64 r.1,.int .u64 r.2])){n:Nat}{h:Hp}{c m:Nat}{F:AV}{σ σ':Srch}{lo hi:Int}(hS:Sta h c m F σ)(ho : σ.inn F53 n lo hi=some σ'){K:AV→Hp→Prop}
  (hK:∀ h' F',Sta h' c m F' σ'→Stp h c m F h' F'→K (.tup []) h'):Ab.Fn Tryz.prog 18 [.ptr c 0,.int .u64 lo,.int .u64 hi] h K:=by
 refine Ab.Fn.of_code fd18 (Nat.le_of_ble_eq_true rfl) (let ⟨h',F',a,b⟩:=hS.any σ';⟨_,h',hK h' F' a b⟩) ?_
 refine AW.rseq ?_
 simp only[wm,wmd,↓wk,↓wl,nq,evV,↓reduceIte,sevalprocAttr]
 have hS1:=hS.app [.cel [.ptr c 0]]
 have hT1:=Stp.app h c m F [.cel [.ptr c 0]]
 have hsb:=get_last h (.cel [.ptr c 0])
 generalize hh1:h++[HB.cel [.ptr c 0]]=h1 at hS1 hT1 hsb ⊢
 refine AW.rseq ?_
 simp only[wm,wmd,↓wk,↓wl,nq,evV,↓reduceIte,sevalprocAttr]
 refine AW.rseq ?_
 simp only[wm,wmd,↓wk,↓wl,nq,evV,↓reduceIte,sevalprocAttr,get_last,set_last]
 have hS2:=hS1.app [.cel [.fn 34 [.ptr h.length 0,.ptr h1.length 0]]]
 have hT2:=Stp.app h1 c m F [.cel [.fn 34 [.ptr h.length 0,.ptr h1.length 0]]]
 have hsb2:=get_app hsb [.cel [.fn 34 [.ptr h.length 0,.ptr h1.length 0]]]
 have hib2:=get_last h1 (.cel [.fn 34 [.ptr h.length 0,.ptr h1.length 0]])
 generalize h1++[HB.cel [.fn 34 [.ptr h.length 0,.ptr h1.length 0]]]=h2 at hS2 hT2 hsb2 hib2 ⊢
 refine AW.rend ?_
 simp only[wm,wmd,↓wk,↓wl,nq,evV,↓reduceIte,sevalprocAttr,hib2]
 refine evTs_fn (by rfl) (by rfl) (inn_fn p53 n hS2 hsb2 hib2 ho fun h3 F3 hS3 hT3=>?_)
 simp only[wm,wmd,↓wk,↓wl,nq,evV,↓reduceIte,sevalprocAttr]
 exact ⟨.inl trivial,_,rfl,hK _ _ hS3 ((hT1.trans hT2).trans hT3)⟩
end
theorem begun_fn{h:Hp}{l l':List ResponderDevice}{frm:Int}{r:List ResponderDevice×List ApiMessage×Int}(hr:f27 l ⟨281474976710655,1,0,4,0,[]⟩=some r)(he:r.2.2=0)(hf:f28 frm=some true)(hl:f29 l=some l'){K:AV→Hp→Prop}
  (hK:K (.tup [.ptr (h.length + 1) 0,.int .i64 0]) (h++[.map [] [],.cel (selfC h.length (.sl 0 true []) ⟨l',frm,0,[],[],0⟩)])):Ab.Fn Tryz.prog 16 [.sl 7 false (l.map eResponderDevice),.int .u64 frm,.int .i64 0] h K:=by
 refine Ab.Fn.of_code fd16 (Nat.le_of_ble_eq_true rfl) ⟨_,_,hK⟩ ?_
 have p27:=f27_ok hr
 have p28:=f28_ok hf
 have p29:=f29_im hl
 refine AW.rseq ?_
 simp only[wm,wmd,↓wk,↓wl,nq,evV,↓reduceIte,sevalprocAttr]
 refine AW.sseq ?_
 refine AW.rseq ?_
 simp only[wm,wmd,↓wk,↓wl,nq,evV,↓reduceIte,sevalprocAttr]
 refine evTs_val p27 (by rfl) (by rfl) (by rfl) (by rfl) (by rfl) ?_
 simp only[wm,wmd,↓wk,↓wl,nq,evV,↓reduceIte,sevalprocAttr]
 refine AW.rseq ?_
 have hd:decide (r.2.2≠0)=false:=decide_eq_false (by simp[he])
 simp only[wm,wmd,↓wk,↓wl,nq,evV,↓reduceIte,sevalprocAttr,hd]
 refine AW.iff (by rfl) (AW.skip (seqQ.norm ?_))
 refine AW.sseq ?_
 refine AW.rseq ?_
 simp only[wm,wmd,↓wk,↓wl,nq,evV,↓reduceIte,sevalprocAttr]
 refine evTs_val p28 (by rfl) (by rfl) (by rfl) (by rfl) (by rfl) ?_
 simp only[wm,wmd,↓wk,↓wl,nq,evV,↓reduceIte,sevalprocAttr]
 refine AW.iff (by rfl) (AW.skip (seqQ.norm ?_))
 refine AW.rseq ?_
 simp only[wm,wmd,↓wk,↓wl,nq,evV,↓reduceIte,sevalprocAttr]
 refine evTs_val p29 (by rfl) (by rfl) (by rfl) (by rfl) (by rfl) ?_
 simp only[wm,wmd,↓wk,↓wl,nq,evV,↓reduceIte,sevalprocAttr]
 refine AW.ret ⟨.inr rfl,.tup [.ptr (h.length + 1) 0,.int .i64 0],?_,?_⟩
 ·simp only[resVs,omap,resV,↓wk,↓reduceIte,sevalprocAttr,List.length_append,List.length_cons,List.length_nil]
 ·simpa using hK
noncomputable def find7(F53:ApiMessage→List ApiMessage→Option (Int×Int))(l:List ResponderDevice)(frm:Int):Option Srch :=
 (f27 l ⟨281474976710655,1,0,4,0,[]⟩).bind fun r=>if r.2.2=0 then (f28 frm).bind fun b=>if b=true then (f29 l).bind fun l' =>
  (Srch.order ⟨l',frm,0,[],[],0⟩ 3 281474976710655).bind fun p=>Srch.inn F53 100 p.1 1 281474976710654 else none else none
section
variable {F53:ApiMessage→List ApiMessage→Option (Int×Int)}
theorem find7_ok(p53:∀ {m:ApiMessage}{l:List ApiMessage}{r:Int×Int},F53 m l=some r→Pure Tryz.prog 53 [.agg (msgC m),.sl 6 false (l.map eApiMessage)] (· = .tup [.int .i64 r.1,.int .u64 r.2])){l:List ResponderDevice}{frm:Int}{σ : Srch}(H:find7 F53 l frm=some σ) :
  Pure Tryz.prog 7 [.sl 7 false (l.map eResponderDevice),.int .u64 frm] (· = .tup [.sl 7 false (σ.devs.map eResponderDevice),.agg [.sl 0 false (σ.found.map (AV.int .u64)),.int .i64 σ.msgs],.int .i64 0]):=by
 obtain ⟨r,hr,H⟩:=Option.bind_eq_some_iff.1 H
 by_cases he:r.2.2=0
 case neg=>rw[if_neg he] at H;cases H
 rw[if_pos he] at H
 obtain ⟨b,hb,H⟩:=Option.bind_eq_some_iff.1 H
 by_cases hbt:b=true
 case neg=>rw[if_neg hbt] at H;cases H
 rw[if_pos hbt] at H
 subst hbt
 obtain ⟨l',hl,H⟩:=Option.bind_eq_some_iff.1 H
 obtain ⟨p,hp,H⟩:=Option.bind_eq_some_iff.1 H
 refine (Pure.of_code fd7 none (Nat.le_of_ble_eq_true rfl) ⟨.tup [.sl 7 false (σ.devs.map eResponderDevice),.agg [.sl 0 false (σ.found.map (AV.int .u64)),.int .i64 σ.msgs],.int .i64 0],by rfl⟩ ?_:Pure Tryz.prog 7 _ (fun r=>Ab.unr r=.tup [.sl 7 false (σ.devs.map eResponderDevice),.agg [.sl 0 false (σ.found.map (AV.int .u64)),.int .i64 σ.msgs],.int .i64 0])).unr fun r hr=>hr
 refine AW.rseq ?_
 simp only[wm,wmd,↓wk,↓wl,nq,evV,↓reduceIte,sevalprocAttr]
 refine AW.rseq ?_
 simp only[wm,wmd,↓wk,↓wl,nq,evV,↓reduceIte,sevalprocAttr]
 refine evTs_fn (by rfl) (by rfl) (begun_fn hr he hb hl ?_)
 have hS:Sta ([HB.cel [.sl 0 true [],.int .i64 0]]++[.map [] [],.cel (selfC 1 (.sl 0 true []) ⟨l',frm,0,[],[],0⟩)]) 2 1 (.sl 0 true []) ⟨l',frm,0,[],[],0⟩:=⟨rfl,rfl,.inl ⟨rfl,rfl⟩⟩
 have h0:([HB.cel [.sl 0 true [],.int .i64 0]]++[.map [] [],.cel (selfC 1 (.sl 0 true []) ⟨l',frm,0,[],[],0⟩)])[0]? = some (.cel [.sl 0 true [],.int .i64 0]):=rfl
 change evTs _ _ _ ⟨_,[HB.cel [.sl 0 true [],.int .i64 0]]++[.map [] [],.cel (selfC 1 (.sl 0 true []) ⟨l',frm,0,[],[],0⟩)]⟩
 generalize [HB.cel [.sl 0 true [],.int .i64 0]]++[.map [] [],.cel (selfC 1 (.sl 0 true []) ⟨l',frm,0,[],[],0⟩)]=h1 at hS h0 ⊢
 simp only[wm,wmd,↓wk,↓wl,nq,evV,↓reduceIte,sevalprocAttr]
 refine AW.sseq ?_
 refine AW.rseq ?_
 simp only[wm,wmd,↓wk,↓wl,nq,evV,↓reduceIte,sevalprocAttr]
 refine AW.iff (by rfl) (AW.skip (seqQ.norm ?_))
 refine AW.rseq ?_
 simp only[wm,wmd,↓wk,↓wl,nq,evV,↓reduceIte,sevalprocAttr]
 refine evTs_fn (by rfl) (by rfl) (order_fn hS hp fun h2 F2 hS2 hT2=>?_)
 simp only[wm,wmd,↓wk,↓wl,nq,evV,↓reduceIte,sevalprocAttr]
 refine AW.rseq ?_
 simp only[wm,wmd,↓wk,↓wl,nq,evV,↓reduceIte,sevalprocAttr]
 refine evTs_fn (by rfl) (by rfl) (all_fn p53 hS2 H fun h3 F3 hS3 hT3=>?_)
 have hT:=hT2.trans hT3
 have h03:h3[0]? = some (.cel [.sl 0 true [],.int .i64 0]):=by
  rw[hT.oth 0 (get_lt h0) (by decide) (by decide) (fun n e=>by cases e)];exact h0
 simp only[wm,wmd,↓wk,↓wl,nq,evV,↓reduceIte,sevalprocAttr]
 refine AW.rseq ?_
 have hc3:=hS3.c
 have g0:∀ x,(h3.set 0 x)[0]? = some x:=fun x=>get_set (get_lt h03)
 rcases hS3.f with ⟨e1,rfl⟩ | ⟨f,rfl,hf⟩
 ·simp only[wm,wmd,↓wk,↓wl,nq,evV,↓reduceIte,sevalprocAttr,hc3,h03]
  refine AW.ret ⟨.inr rfl,.tup [.sl 7 false (σ.devs.map eResponderDevice),.agg [.sl 0 true [],.int .i64 σ.msgs],.int .i64 0],.tup [.sl 7 false (σ.devs.map eResponderDevice),.agg [.sl 0 true [],.int .i64 σ.msgs],.int .i64 0],?_,?_,?_⟩
  ·simp only[resVs,omap,resV,evV,wm,wmd,↓wk,↓wl,↓reduceIte,sevalprocAttr,g0,Option.map_some]
  ·simp only[handOver,deep_eq,imm_simps,omap_simps,Option.map_some]
  ·rw[e1];rfl
 ·simp only[wm,wmd,↓wk,↓wl,nq,evV,↓reduceIte,sevalprocAttr,hc3,h03]
  have hf2:∀ x,(h3.set 0 x)[f]? = some (.els 0 (σ.found.map (AV.int .u64))):=fun x=>by
   rw[get_ne (fun e=>by rw[← e,h03] at hf;cases hf)];exact hf
  refine AW.ret ⟨.inr rfl,.tup [.sl 7 false (σ.devs.map eResponderDevice),.agg [.row 0 f 0 σ.found.length,.int .i64 σ.msgs],.int .i64 0],.tup [.sl 7 false (σ.devs.map eResponderDevice),.agg [.sl 0 false (σ.found.map (AV.int .u64)),.int .i64 σ.msgs],.int .i64 0],?_,?_,by rfl⟩
  ·simp only[resVs,omap,resV,evV,wm,wmd,↓wk,↓wl,↓reduceIte,sevalprocAttr,g0,Option.map_some]
  ·simp only[handOver,deep_eq,imm_simps,imm_rowE,omap_simps,hf2,Nat.zero_add,List.length_map,le_refl_true,and_true,true_and,if_true,List.drop_zero,take_map_len,imm_enc,Option.map_some]
end
end Go.Proofs.YtgjfhplkochbpaaGreat
