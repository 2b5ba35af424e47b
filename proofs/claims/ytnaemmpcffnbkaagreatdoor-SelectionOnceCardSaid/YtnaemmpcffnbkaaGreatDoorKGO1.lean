import Derived.Test.YtnaemmpcffnbkaaGreatDoorKG3
import Derived.Test.YtnaemmpcffnbkaaGreatDoorKM6
import Derived.Test.YtnaemmpcffnbkaaGreatDoorProg
import Derived.KernelRfl
import Derived.Test.YtnaemmpcffnbkaaGreatDoorKMQ
import Derived.Test.YtnaemmpcffnbkaaGreatDoorKMC
namespace Go.Proofs.YtnaemmpcffnbkaaGreatDoor
open Go Go.Ab
set_option maxHeartbeats 1000000
set_option maxRecDepth 4000
set_option linter.unusedSimpArgs false
set_option linter.unusedVariables false
noncomputable section
def f41_L1(x0:(List ApiGroup)):Lp (Int) ((Unit)⊕(Unit)) where
  body:=fun x1=>(if (decide (x1<((x0.length:Nat):Int)))=true then (if (decide (x1<60))=true then (at? x0 x1).bind fun x2=>(if (decide (40<((x2.fChannels.length:Nat):Int)))=true then (at? x0 x1).bind fun x3=>(if (decide (((x3.fChannels.length:Nat):Int)≤256))=true then (some (.brk (Sum.inr ()))) else (some (.next (IntKind.i64.wrap (x1 + 1))))) else (some (.next (IntKind.i64.wrap (x1 + 1))))) else (some (.brk (Sum.inl ())))) else (some (.brk (Sum.inl ()))))
  cst:=fun x1=>⟨put (put (fun _=>.junk) 3 (.int .i64 x1)) 0 (.sl 2 false (x0.map eApiGroup)),[]⟩
theorem f41_L1c(x0:(List ApiGroup))(x1:Int):(f41_L1 x0).cst x1=⟨put (put (fun _=>.junk) 3 (.int .i64 x1)) 0 (.sl 2 false (x0.map eApiGroup)),[]⟩:=rfl
def c41_3:C:=.seq (.block 1 (.seq (.reg [iI 14 (.mv (.t 0)),iI 15 (.mv (.t 3)),iI 16 (.iaddr 2 (.t 14) (.t 15)),iI 17 (.faddr 1 (.t 16)),iI 18 (.load 0 (.t 17)),iI 19 (.len 0 (.t 18)),iI 20 (.bin .gtr (.t 19) (.c (.int .i64 40))),iI 21 (.mv (.t 20)),iG (some 22) 21 true (.mv (.t 0)),iG (some 23) 21 true (.mv (.t 3)),iG (some 24) 21 true (.iaddr 2 (.t 22) (.t 23)),iG (some 25) 21 true (.faddr 1 (.t 24)),iG (some 26) 21 true (.load 0 (.t 25)),iG (some 27) 21 true (.len 0 (.t 26)),iG (some 28) 21 true (.bin .leq (.t 27) (.c (.int .i64 256))),iI 29 (.pick (.t 21) (.t 28) (.c (.bool false)))]) (.cond (.t 29) (.seq (.reg [iI 2 (.mv (.c (.bool false)))]) .ret) (.skip)))) (.reg [iI 12 (.mv (.t 3)),iI 13 (.bin .add (.t 12) (.c (.int .i64 1))),iI 3 (.mv (.t 13))])
def c41_4:C:=.block 0 (.loop (.seq (.seq (.reg [iI 4 (.mv (.t 3)),iI 5 (.mv (.t 0)),iI 6 (.len 0 (.t 5)),iI 7 (.bin .lss (.t 4) (.t 6)),iI 8 (.mv (.t 7)),iG (some 9) 8 true (.mv (.t 3)),iG (some 10) 8 true (.bin .lss (.t 9) (.c (.int .i64 60))),iI 11 (.pick (.t 8) (.t 10) (.c (.bool false)))]) (.cond (.t 11) (.skip) (.exit 0))) c41_3))
def c41_6:C:=.seq (.seq (.reg [iI 3 (.mv (.c (.int .i64 0)))]) c41_4) (.seq (.reg [iI 30 (.mv (.t 0)),iI 31 (.len 0 (.t 30)),iI 32 (.bin .leq (.t 31) (.c (.int .i64 60))),iI 2 (.mv (.t 32))]) .ret)
def ir41:C:=.seq (.reg [iI 2 (.mv (.c (.bool false)))]) c41_6
theorem fd41:fd? Tryz.prog 41=some (33,[.slot 2],ir41):=by kernel_rfl
def f41(x0:(List ApiGroup)):Option (Bool) :=
  ((Lp.run (f41_L1 x0) 0).bind fun r_=>match r_ with | (Sum.inl _)=>(some (decide (((x0.length:Nat):Int)≤60))) | (Sum.inr _)=>(some false))
theorem f41_ok{x0:(List ApiGroup)}{r_:Bool}(H:f41 x0=some r_):Pure Tryz.prog 41 [.sl 2 false (x0.map eApiGroup)] (· = .bool r_):=by
 refine w3 fd41 fun Q hQ=>?_
 simp only[f41] at H
 refine zr ?_
 refine zq (zr ?_)
 refine zd ?_
 refine zU H [] [0,3] (f41_L1c ..) ?_<;>clear H
 rintro x1 x_ st0_ H hst_
 rw[f41_L1c] at hst_
 simp only[f41_L1] at H
 subst hst_
 refine zq (zr ?_)
 refine ig H ?_ ?_<;>clear H<;>intro H
 ·refine zs ?_
  refine ic H ?_ ?_<;>clear H<;>intro H
  ·refine zk (zm (zb (zr ?_)))
   refine ia eApiGroup H ?_<;>clear H<;>intro x2 H
   refine zE2 ?_
   refine ig H ?_ ?_<;>clear H<;>intro H
   ·refine zs ?_
    refine ia eApiGroup H ?_<;>clear H<;>intro x3 H
    refine zE2 ?_
    refine ic H ?_ ?_<;>clear H<;>intro H
    ·refine zr ?_
     refine zt (zp (loopQ.ret H ?_))<;>clear H<;>intro H
     try dsimp only at H
     cases H
     exact zh (zv (zf hQ))
    ·refine zk (zo (ze ?_))
     exact zu H [] [0,3] (f41_L1c ..)
   ·refine zs ?_
    refine zc (zk (zo (ze ?_)))
    exact zu H [] [0,3] (f41_L1c ..)
  ·refine zx (zy (loopQ.exit H ?_))<;>clear H<;>intro H
   try dsimp only at H
   refine zi (zm (zr ?_))
   cases H
   exact zt (zf hQ)
 ·refine zs ?_
  refine zc (zx (zy (loopQ.exit H ?_)))<;>clear H<;>intro H
  try dsimp only at H
  refine zi (zm (zr ?_))
  cases H
  exact zt (zf hQ)
def c11_0:C:=.seq (.reg [iI 5 (.mv (.t 0)),iI 6 (.len 0 (.t 5)),iI 7 (.bin .leq (.t 6) (.c (.int .i64 30))),iI 8 (.mv (.t 7)),iG (some 9) 8 false (.mv (.t 0)),iG (some 10) 8 false (.len 0 (.t 9)),iG (some 11) 8 false (.bin .gtr (.t 10) (.c (.int .i64 256))),iG (some 12) 8 false (.mv (.t 11)),iG (some 13) 12 true (.mv (.t 0)),iG (some 14) 12 true (.len 0 (.t 13)),iG (some 15) 12 true (.bin .lss (.t 14) (.c (.int .i64 400))),iG (some 16) 8 false (.pick (.t 12) (.t 15) (.c (.bool false))),iI 17 (.pick (.t 8) (.c (.bool true)) (.t 16)),iI 18 (.mv (.t 17)),iG (some 19) 18 true (.mv (.t 1)),iG (some 20) 18 true (.call (.c (.fn 41 [])) [(.t 19)]),iI 21 (.pick (.t 18) (.t 20) (.c (.bool false))),iI 4 (.mv (.t 21))]) .ret
def ir11:C:=.seq (.reg [iI 4 (.mv (.c (.bool false)))]) c11_0
theorem fd11:fd? Tryz.prog 11=some (22,[.slot 4],ir11):=by kernel_rfl
def f11(x0:(List ApiSelect))(x1:(List ApiGroup)):Option (Bool) :=
  (if (decide (((x0.length:Nat):Int)≤30))=true then (f41 x1).bind fun x2=>(some x2) else (if (decide (256<((x0.length:Nat):Int)))=true then (if (decide (((x0.length:Nat):Int)<400))=true then (f41 x1).bind fun x3=>(some x3) else (some false)) else (some false)))
theorem f11_ok{x0:(List ApiSelect)}{x1:(List ApiGroup)}{r_:Bool}(H:f11 x0 x1=some r_):Pure Tryz.prog 11 [.sl 4 false (x0.map eApiSelect),.sl 2 false (x1.map eApiGroup)] (· = .bool r_):=by
 refine w3 fd11 fun Q hQ=>?_
 simp only[f11] at H
 refine zr ?_
 refine zr ?_
 refine ig H ?_ ?_<;>clear H<;>intro H
 ·refine zs ?_
  refine pu H f41_ok ?_<;>clear H<;>intro x2 H
  refine zE0 ?_
  cases H
  exact zt (zf hQ)
 ·refine zs ?_
  refine ig H ?_ ?_<;>clear H<;>intro H
  ·refine zs ?_
   refine ig H ?_ ?_<;>clear H<;>intro H
   ·refine zs ?_
    refine pu H f41_ok ?_<;>clear H<;>intro x3 H
    refine zE0 ?_
    cases H
    exact zt (zf hQ)
   ·refine zs ?_
    cases H
    exact zt (zf hQ)
  ·refine zs ?_
   cases H
   exact zt (zf hQ)
def c27_1:C:=.seq (.reg [iI 5 (.mkslp 4 0 (.agg [(.int .i64 0),(.int .i64 0),(.int .i64 0),(.int .i64 0)]) []),iI 6 (.mv (.t 0)),iI 7 (.append 4 32 (.t 5) (.t 6)),iI 2 (.mv (.t 7))]) .ret
def ir27:C:=.seq (.reg [iI 2 (.mv (.c (.sl 4 true [])))]) (.seq (.seq (.reg [iI 3 (.mv (.t 0)),iI 4 (.isnil false (.t 3))]) (.cond (.t 4) (.seq (.reg [iI 2 (.mv (.c (.sl 4 true [])))]) .ret) (.skip))) c27_1)
theorem fd27:fd? Tryz.prog 27=some (8,[.slot 2],ir27):=by kernel_rfl
def f27(x0:(List ApiSelect)):Option ((List ApiSelect)) :=
  (nil? (x0:List ApiSelect) false fun x1=>(if x1=true then (some []) else (app? 32 [] x0).bind fun x2=>(some x2)))
theorem f27_ok{x0:(List ApiSelect)}{r_:(List ApiSelect)}(H:f27 x0=some r_):Pure Tryz.prog 27 [.sl 4 false (x0.map eApiSelect)] (· = .fr 4 (r_.map eApiSelect)):=by
 refine w3s fd27 0 fun Q hQ=>?_
 simp only[f27] at H
 refine zr ?_
 refine zq (zr ?_)
 refine evTs_isnil (enc:=eApiSelect) H (by rfl) ?_<;>clear H<;>intro x1 H
 refine zs ?_
 refine ic H ?_ ?_<;>clear H<;>intro H
 ·refine zr ?_
  refine zt (zv ?_)
  cases H
  exact hQ _ _ _ _ (.inr rfl) (by simp only[resVs,omap,resV,wm,↓wk,↓wl,nq,evV,↓reduceIte,sevalprocAttr];rfl) hand_10 (by first | exact Or.inl rfl | exact Or.inr rfl)
 ·refine zk (zm (zr ?_))
  refine evTs_app0 (enc:=eApiSelect) H (by rfl) (by rfl) ?_<;>clear H<;>intro x2 H
  refine zs ?_
  cases H
  exact zt (zf2 hQ)
def f7_L2(x0:(List Int)×Int)(x1:(List Int)×Int)(x2:ApiSelect):Lp (Int) ((Unit)⊕(Unit)) where
  body:=fun x3=>(if (decide (x3<((x0.1.length:Nat):Int)))=true then (at? x0.1 x3).bind fun x4=>(f28 x1.1 x4).bind fun x5=>(if (!(x5 == (decide (x2.fOp=0))))=true then (some (.brk (Sum.inr ()))) else (some (.next (IntKind.i64.wrap (x3 + 1))))) else (some (.brk (Sum.inl ()))))
  cst:=fun x3=>⟨put (put (put (put (put (fun _=>.junk) 96 (.int .i64 x3)) 95 (.int .i64 ((x0.1.length:Nat):Int))) 94 (.sl 0 false (x0.1.map (AV.int .i64)))) 8 (.sl 0 false (x1.1.map (AV.int .i64)))) 5 (.ptr 0 0),[.cel [.int .i64 x2.fOp,.int .i64 x2.fGroup,.int .i64 x2.fFrom,.int .i64 x2.fTo]]⟩
theorem f7_L2c(x0:(List Int)×Int)(x1:(List Int)×Int)(x2:ApiSelect)(x3:Int):(f7_L2 x0 x1 x2).cst x3=⟨put (put (put (put (put (fun _=>.junk) 96 (.int .i64 x3)) 95 (.int .i64 ((x0.1.length:Nat):Int))) 94 (.sl 0 false (x0.1.map (AV.int .i64)))) 8 (.sl 0 false (x1.1.map (AV.int .i64)))) 5 (.ptr 0 0),[.cel [.int .i64 x2.fOp,.int .i64 x2.fGroup,.int .i64 x2.fFrom,.int .i64 x2.fTo]]⟩:=rfl
def f7_L1(x0:(List Int)×Int)(x1:(List Int)×Int)(x2:(List Int)×Int)(x3:ApiSelect):Lp (Int) ((Unit)⊕(Unit)) where
  body:=fun x4=>(if (decide (x4<((x0.1.length:Nat):Int)))=true then (at? x0.1 x4).bind fun x5=>(slc? x0.1 0 x4).bind fun x6=>(f28 x6 x5).bind fun x7=>(if x7=true then (some (.brk (Sum.inr ()))) else (f28 x1.1 x5).bind fun x8=>(if (!x8)=true then (f28 x2.1 x5).bind fun x9=>(if (!x9)=true then (some (.brk (Sum.inr ()))) else (some (.next (IntKind.i64.wrap (x4 + 1))))) else (some (.next (IntKind.i64.wrap (x4 + 1)))))) else (some (.brk (Sum.inl ()))))
  cst:=fun x4=>⟨put (put (put (put (put (put (put (fun _=>.junk) 71 (.int .i64 x4)) 70 (.int .i64 ((x0.1.length:Nat):Int))) 69 (.sl 0 false (x0.1.map (AV.int .i64)))) 12 (.sl 0 false (x2.1.map (AV.int .i64)))) 10 (.sl 0 false (x1.1.map (AV.int .i64)))) 8 (.sl 0 false (x0.1.map (AV.int .i64)))) 5 (.ptr 0 0),[.cel [.int .i64 x3.fOp,.int .i64 x3.fGroup,.int .i64 x3.fFrom,.int .i64 x3.fTo]]⟩
theorem f7_L1c(x0:(List Int)×Int)(x1:(List Int)×Int)(x2:(List Int)×Int)(x3:ApiSelect)(x4:Int):(f7_L1 x0 x1 x2 x3).cst x4=⟨put (put (put (put (put (put (put (fun _=>.junk) 71 (.int .i64 x4)) 70 (.int .i64 ((x0.1.length:Nat):Int))) 69 (.sl 0 false (x0.1.map (AV.int .i64)))) 12 (.sl 0 false (x2.1.map (AV.int .i64)))) 10 (.sl 0 false (x1.1.map (AV.int .i64)))) 8 (.sl 0 false (x0.1.map (AV.int .i64)))) 5 (.ptr 0 0),[.cel [.int .i64 x3.fOp,.int .i64 x3.fGroup,.int .i64 x3.fFrom,.int .i64 x3.fTo]]⟩:=rfl
def c7_1:C:=.cond (.t 44) (.seq (.reg [iI 45 (.mv (.t 11)),iI 46 (.bin .eql (.t 45) (.c (.int .i64 0))),iI 47 (.mv (.t 46)),iG (some 48) 47 false (.mv (.t 9)),iG (some 49) 47 false (.bin .neq (.t 48) (.c (.int .i64 0))),iI 50 (.pick (.t 47) (.c (.bool true)) (.t 49)),iI 51 (.mv (.t 50)),iG (some 52) 51 true (.call (.c (.fn 12 [])) []),iI 53 (.pick (.t 51) (.t 52) (.c (.bool false))),iI 6 (.mv (.t 53))]) .ret) (.skip)
def c7_4:C:=.seq (.reg [iI 76 (.mv (.t 8)),iI 77 (.mv (.t 13)),iI 78 (.slice 0 (.t 76) none (some (.t 77))),iI 79 (.mv (.t 14)),iI 80 (.call (.c (.fn 28 [])) [(.t 78),(.t 79)]),iI 81 (.mv (.t 80)),iG (some 82) 81 false (.mv (.t 10)),iG (some 83) 81 false (.mv (.t 14)),iG (some 84) 81 false (.call (.c (.fn 28 [])) [(.t 82),(.t 83)]),iG (some 85) 81 false (.un .not (.t 84)),iG (some 86) 81 false (.mv (.t 85)),iG (some 87) 86 true (.mv (.t 12)),iG (some 88) 86 true (.mv (.t 14)),iG (some 89) 86 true (.call (.c (.fn 28 [])) [(.t 87),(.t 88)]),iG (some 90) 86 true (.un .not (.t 89)),iG (some 91) 81 false (.pick (.t 86) (.t 90) (.c (.bool false))),iI 92 (.pick (.t 81) (.c (.bool true)) (.t 91))]) (.cond (.t 92) (.seq (.reg [iI 6 (.mv (.c (.bool false)))]) .ret) (.skip))
def c7_6:C:=.seq (.block 1 (.seq (.reg [iI 73 (.mv (.t 71)),iI 74 (.iaddr 0 (.t 69) (.t 71)),iI 75 (.load 0 (.t 74)),iI 13 (.mv (.t 73)),iI 14 (.mv (.t 75))]) c7_4)) (.reg [iI 93 (.bin .add (.t 71) (.c (.int .i64 1))),iI 71 (.mv (.t 93))])
def c7_10:C:=.seq (.regq [iI 100 (.mv (.t 8)),iI 101 (.mv (.t 16)),iI 102 (.call (.c (.fn 28 [])) [(.t 100),(.t 101)]),iI 103 (.faddr 0 (.t 5)),iI 104 (.load 0 (.t 103)),iI 105 (.bin .eql (.t 104) (.c (.int .i64 0))),iI 106 (.binb .neq (.t 102) (.t 105))]) (.cond (.t 106) (.seq (.reg [iI 6 (.mv (.c (.bool false)))]) .ret) (.skip))
def c7_12:C:=.seq (.block 3 (.seq (.reg [iI 98 (.iaddr 0 (.t 94) (.t 96)),iI 99 (.load 0 (.t 98)),iI 16 (.mv (.t 99))]) c7_10)) (.reg [iI 107 (.bin .add (.t 96) (.c (.int .i64 1))),iI 96 (.mv (.t 107))])
def c7_16:C:=.seq (.seq (.reg [iI 94 (.mv (.t 12)),iI 95 (.len 0 (.t 94)),iI 96 (.mv (.c (.int .i64 0)))]) (.block 2 (.loop (.seq (.reg [iI 97 (.bin .lss (.t 96) (.t 95))]) (.seq (.cond (.t 97) (.skip) (.exit 2)) c7_12))))) (.seq (.reg [iI 108 (.call (.c (.fn 12 [])) []),iI 6 (.mv (.t 108))]) .ret)
def c7_17:C:=.seq (.seq (.reg [iI 69 (.mv (.t 8)),iI 70 (.len 0 (.t 69)),iI 71 (.mv (.c (.int .i64 0)))]) (.block 0 (.loop (.seq (.reg [iI 72 (.bin .lss (.t 71) (.t 70))]) (.seq (.cond (.t 72) (.skip) (.exit 0)) c7_6))))) c7_16
def c7_18:C:=.seq (.seq (.reg [iI 67 (.mv (.t 9)),iI 68 (.bin .neq (.t 67) (.c (.int .i64 0)))]) (.cond (.t 68) (.seq (.reg [iI 6 (.mv (.c (.bool false)))]) .ret) (.skip))) c7_17
def c7_19:C:=.seq (.reg [iI 55 (.faddr 2 (.t 5)),iI 56 (.load 0 (.t 55)),iI 57 (.faddr 3 (.t 5)),iI 58 (.load 0 (.t 57)),iI 59 (.faddr 1 (.t 5)),iI 60 (.load 0 (.t 59)),iI 61 (.build [(1,(.int .i64 0)),(1,(.int .i64 0)),(1,(.int .i64 0)),(1,(.int .i64 0))] [(2,0,(.t 56)),(3,0,(.t 58)),(1,0,(.t 60))]),iI 62 (.mkslp 4 1 (.agg [(.int .i64 0),(.int .i64 0),(.int .i64 0),(.int .i64 0)]) [(0,(.t 61))]),iI 63 (.mv (.t 1)),iI 64 (.call (.c (.fn 13 [])) [(.t 62),(.t 63)]),iI 54 (.mv (.t 64)),iI 65 (.ext (.t 54) 0),iI 66 (.ext (.t 54) 1),iI 12 (.mv (.t 65)),iI 9 (.mv (.t 66))]) c7_18
def c7_20:C:=.seq (.seq (.reg [iI 39 (.mv (.t 9)),iI 40 (.bin .neq (.t 39) (.c (.int .i64 0))),iI 41 (.mv (.t 40)),iG (some 42) 41 false (.mv (.t 11)),iG (some 43) 41 false (.bin .neq (.t 42) (.c (.int .i64 0))),iI 44 (.pick (.t 41) (.c (.bool true)) (.t 43))]) c7_1) c7_19
def c7_21:C:=.seq (.reg [iI 34 (.mv (.t 0)),iI 35 (.mv (.t 1)),iI 36 (.call (.c (.fn 13 [])) [(.t 34),(.t 35)]),iI 33 (.mv (.t 36)),iI 37 (.ext (.t 33) 0),iI 38 (.ext (.t 33) 1),iI 10 (.mv (.t 37)),iI 11 (.mv (.t 38))]) c7_20
def c7_22:C:=.seq (.reg [iI 28 (.mv (.t 7)),iI 29 (.mv (.t 1)),iI 30 (.call (.c (.fn 13 [])) [(.t 28),(.t 29)]),iI 27 (.mv (.t 30)),iI 31 (.ext (.t 27) 0),iI 32 (.ext (.t 27) 1),iI 8 (.mv (.t 31)),iI 9 (.mv (.t 32))]) c7_21
def c7_23:C:=.seq (.regq [iI 22 (.mv (.t 0)),iI 23 (.call (.c (.fn 27 [])) [(.t 22)]),iI 24 (.load 4 (.t 5)),iI 25 (.mkslp 4 1 (.agg [(.int .i64 0),(.int .i64 0),(.int .i64 0),(.int .i64 0)]) [(0,(.t 24))]),iI 26 (.append 4 32 (.t 23) (.t 25)),iI 7 (.mv (.t 26))]) c7_22
def c7_24:C:=.seq (.seq (.reg [iI 17 (.mv (.t 0)),iI 18 (.mv (.t 1)),iI 19 (.call (.c (.fn 11 [])) [(.t 17),(.t 18)]),iI 20 (.un .not (.t 19))]) (.cond (.t 20) (.seq (.reg [iI 21 (.call (.c (.fn 12 [])) []),iI 6 (.mv (.t 21))]) .ret) (.skip))) c7_23
def ir7:C:=.seq (.reg [iI 5 (.box (.t 2)),iI 6 (.mv (.c (.bool false)))]) c7_24
theorem fd7:fd? Tryz.prog 7=some (109,[.slot 6],ir7):=by kernel_rfl
def f7(x0:(List ApiSelect))(x1:(List ApiGroup))(x2:ApiSelect):Option (Bool) :=
  (f11 x0 x1).bind fun x3=>(if (!x3)=true then (f12).bind fun x4=>(some x4) else (f27 x0).bind fun x5=>(app? 32 x5 ([x2])).bind fun x6=>(f13 x6 x1).bind fun x7=>(f13 x0 x1).bind fun x8=>(if (decide (x7.2≠0))=true then (if (decide (x8.2=0))=true then (f12).bind fun x9=>(some x9) else (if (decide (x7.2≠0))=true then (f12).bind fun xa=>(some xa) else (some false))) else (if (decide (x8.2≠0))=true then (if (decide (x8.2=0))=true then (f12).bind fun xb=>(some xb) else (if (decide (x7.2≠0))=true then (f12).bind fun xc=>(some xc) else (some false))) else (f13 ([(ApiSelect.mk 0 x2.fGroup x2.fFrom x2.fTo)]) x1).bind fun xd=>(if (decide (xd.2≠0))=true then (some false) else ((Lp.run (f7_L1 x7 x8 xd x2) 0).bind fun r_=>match r_ with | (Sum.inl _)=>((Lp.run (f7_L2 xd x7 x2) 0).bind fun r_=>match r_ with | (Sum.inl _)=>(f12).bind fun xe=>(some xe) | (Sum.inr _)=>(some false)) | (Sum.inr _)=>(some false))))))
theorem f7_ok{x0:(List ApiSelect)}{x1:(List ApiGroup)}{x2:ApiSelect}{r_:Bool}(H:f7 x0 x1 x2=some r_):Pure Tryz.prog 7 [.sl 4 false (x0.map eApiSelect),.sl 2 false (x1.map eApiGroup),.agg [.int .i64 x2.fOp,.int .i64 x2.fGroup,.int .i64 x2.fFrom,.int .i64 x2.fTo]] (· = .bool r_):=by
 refine w3 fd7 fun Q hQ=>?_
 simp only[f7] at H
 refine zr ?_
 refine zq (zr ?_)
 refine pu H f11_ok ?_<;>clear H<;>intro x3 H
 refine zE0 ?_
 refine ic H ?_ ?_<;>clear H<;>intro H
 ·refine zr ?_
  refine pu H f12_ok ?_<;>clear H<;>intro x4 H
  refine zE0 ?_
  cases H
  exact zt (zv (zf hQ))
 ·refine zk (zm ?_)
  refine AW.rcseq [0,2,3,1,4,5] (js:=[iI 22 (.mv (.t 0)),iI 24 (.load 4 (.t 5)),iI 25 (.mkslp 4 1 (.agg [(.int .i64 0),(.int .i64 0),(.int .i64 0),(.int .i64 0)]) [(0,(.t 24))]),iI 23 (.call (.c (.fn 27 [])) [(.t 22)]),iI 26 (.append 4 32 (.t 23) (.t 25)),iI 7 (.mv (.t 26))]) (by rfl) (by rfl) (by rfl) ?_
  refine zs ?_
  refine evTs_frc H (fun _ h=>f27_ok h) (by rfl) (by rfl) (by rfl) (by rfl) (fun _=>rfl) ?_<;>clear H<;>intro x5 H
  refine zE0 ?_
  refine ap eApiSelect H ?_<;>clear H<;>intro x6 H
  refine zs ?_
  refine AW.weaken (Le.frz 7 (enc:=eApiSelect) (by rfl) (by rfl) (by rfl)) ?_
  refine zs ?_
  refine zr ?_
  refine pu H f13_im ?_<;>clear H<;>intro x7 H
  refine zE0 ?_
  refine zr ?_
  refine pu H f13_im ?_<;>clear H<;>intro x8 H
  refine zE0 ?_
  refine zq (zr ?_)
  refine ig H ?_ ?_<;>clear H<;>intro H
  ·refine zs ?_
   refine za (zr ?_)
   refine ig H ?_ ?_<;>clear H<;>intro H
   ·refine zs ?_
    refine pu H f12_ok ?_<;>clear H<;>intro x9 H
    refine zE0 ?_
    cases H
    exact zt (zv (zf hQ))
   ·refine zs ?_
    refine ig H ?_ ?_<;>clear H<;>intro H
    ·refine zs ?_
     refine pu H f12_ok ?_<;>clear H<;>intro xa H
     refine zE0 ?_
     cases H
     exact zt (zv (zf hQ))
    ·refine zs ?_
     cases H
     exact zt (zv (zf hQ))
  ·refine zs ?_
   refine ic H ?_ ?_<;>clear H<;>intro H
   ·refine zr ?_
    refine ig H ?_ ?_<;>clear H<;>intro H
    ·refine zs ?_
     refine pu H f12_ok ?_<;>clear H<;>intro xb H
     refine zE0 ?_
     cases H
     exact zt (zv (zf hQ))
    ·refine zs ?_
     refine ig H ?_ ?_<;>clear H<;>intro H
     ·refine zs ?_
      refine pu H f12_ok ?_<;>clear H<;>intro xc H
      refine zE0 ?_
      cases H
      exact zt (zv (zf hQ))
     ·refine zs ?_
      cases H
      exact zt (zv (zf hQ))
   ·refine zk (zm (zr ?_))
    refine pu H f13_im ?_<;>clear H<;>intro xd H
    refine zE0 ?_
    refine zq (zr ?_)
    refine ic H ?_ ?_<;>clear H<;>intro H
    ·refine zr ?_
     cases H
     exact zt (zv (zf hQ))
    ·refine zk (zm (zq (zr ?_)))
     refine zd ?_
     refine zU H [0] [5,8,10,12,69,70,71] (f7_L1c ..) ?_<;>clear H
     rintro xe x_ st0_ H hst_
     rw[f7_L1c] at hst_
     simp only[f7_L1] at H
     subst hst_
     refine zr ?_
     refine zq (ic H ?_ ?_)<;>clear H<;>intro H
     ·refine zk (zm (zb (zr ?_)))
      refine ia (AV.int .i64) H ?_<;>clear H<;>intro xf H
      refine zs ?_
      refine zr ?_
      refine sc (AV.int .i64) H ?_<;>clear H<;>intro xg H
      refine zs ?_
      refine pu H f28_ok ?_<;>clear H<;>intro xh H
      refine zE0 ?_
      refine ig H ?_ ?_<;>clear H<;>intro H
      ·refine zs ?_
       refine za (zr ?_)
       refine zt (zp (loopQ.ret H ?_))<;>clear H<;>intro H
       try dsimp only at H
       cases H
       exact zh (zv (zf hQ))
      ·refine zs ?_
       refine pu H f28_ok ?_<;>clear H<;>intro xi H
       refine zE0 ?_
       refine ig H ?_ ?_<;>clear H<;>intro H
       ·refine zs ?_
        refine pu H f28_ok ?_<;>clear H<;>intro xj H
        refine zE0 ?_
        refine ic H ?_ ?_<;>clear H<;>intro H
        ·refine zr ?_
         refine zt (zp (loopQ.ret H ?_))<;>clear H<;>intro H
         try dsimp only at H
         cases H
         exact zh (zv (zf hQ))
        ·refine zk (zo (ze ?_))
         exact zu H [0] [5,8,10,12,69,70,71] (f7_L1c ..)
       ·refine zs ?_
        refine zc (zk (zo (ze ?_)))
        exact zu H [0] [5,8,10,12,69,70,71] (f7_L1c ..)
     ·refine zx (zy (loopQ.exit H ?_))<;>clear H<;>intro H
      try dsimp only at H
      refine zi (zm (zq (zr ?_)))
      refine zd ?_
      refine zU H [0] [5,8,94,95,96] (f7_L2c ..) ?_<;>clear H
      rintro xk x_ st0_ H hst_
      rw[f7_L2c] at hst_
      simp only[f7_L2] at H
      subst hst_
      refine zr ?_
      refine zq (ic H ?_ ?_)<;>clear H<;>intro H
      ·refine zk (zm (zb (zr ?_)))
       refine ia (AV.int .i64) H ?_<;>clear H<;>intro xl H
       refine zs ?_
       refine AW.rqseq ?_
       refine zs ?_
       refine evTs_pure hFnq H (fun _ h=>f28_ok h) (by rfl) (by rfl) (by rfl) (by rfl) (fun _=>rfl) ?_<;>clear H<;>intro xm H
       refine zE0 ?_
       refine ic H ?_ ?_<;>clear H<;>intro H
       ·refine zr ?_
        refine zt (zp (loopQ.ret H ?_))<;>clear H<;>intro H
        try dsimp only at H
        cases H
        exact zh (zv (zf hQ))
       ·refine zk (zo (ze ?_))
        exact zu H [0] [5,8,94,95,96] (f7_L2c ..)
      ·refine zx (zy (loopQ.exit H ?_))<;>clear H<;>intro H
       try dsimp only at H
       refine zi (zm (zr ?_))
       refine pu H f12_ok ?_<;>clear H<;>intro xn H
       refine zE0 ?_
       cases H
       exact zt (zf hQ)
end
end Go.Proofs.YtnaemmpcffnbkaaGreatDoor
