import Derived.Test.YtnaemmpcffnbkaaGreatDoorFGA2
import Derived.Test.YtnaemmpcffnbkaaGreatDoorFM6
import Derived.Test.YtnaemmpcffnbkaaGreatDoorProg
import Derived.KernelRfl
import Derived.Test.YtnaemmpcffnbkaaGreatDoorFMQ
namespace Go.Proofs.YtnaemmpcffnbkaaGreatDoor
open Go Go.Ab

set_option maxHeartbeats 1000000
set_option maxRecDepth 4000
set_option linter.unusedSimpArgs false
set_option linter.unusedVariables false
noncomputable section
structure Law41Choice where
  fSelect:(List ApiSelect)
  fGroups:(List ApiGroup)
  fKind:Int
def eLaw41Choice(x:Law41Choice):AV:=.agg [.sl 4 false (x.fSelect.map eApiSelect),.sl 2 false (x.fGroups.map eApiGroup),.int .i64 x.fKind]
instance:IsEnc 3 eLaw41Choice:=⟨fun _=>rfl,fun _=>rfl,fun _=>rfl⟩
def f41_L1(x0:(List ApiGroup)):Lp (Int) ((Unit)⊕(Unit)) where
  body:=fun x1=>(if (decide (x1<((x0.length:Nat):Int)))=true then (if (decide (x1<60))=true then (at? x0 x1).bind fun x2=>(if (decide (40<((x2.fChannels.length:Nat):Int)))=true then (at? x0 x1).bind fun x3=>(if (decide (((x3.fChannels.length:Nat):Int)≤256))=true then (some (.brk (Sum.inr ()))) else (some (.next (IntKind.i64.wrap (x1 + 1))))) else (some (.next (IntKind.i64.wrap (x1 + 1))))) else (some (.brk (Sum.inl ())))) else (some (.brk (Sum.inl ()))))
  cst:=fun x1=>⟨put (put (fun _=>.junk) 3 (.int .i64 x1)) 0 (.sl 2 false (x0.map eApiGroup)),[]⟩
theorem f41_L1c(x0:(List ApiGroup))(x1:Int):(f41_L1 x0).cst x1=⟨put (put (fun _=>.junk) 3 (.int .i64 x1)) 0 (.sl 2 false (x0.map eApiGroup)),[]⟩:=rfl
def c41_0:C:=.cond (.t 11) (.skip) (.exit 0)
def c41_1:C:=.cond (.t 29) (.seq (.reg [iI 2 (.mv (.c (.bool false)))]) .ret) (.skip)
def c41_2:C:=.reg [iI 12 (.mv (.t 3)),iI 13 (.bin .add (.t 12) (.c (.int .i64 1))),iI 3 (.mv (.t 13))]
def c41_3:C:=.seq (.block 1 (.seq (.reg [iI 14 (.mv (.t 0)),iI 15 (.mv (.t 3)),iI 16 (.iaddr 2 (.t 14) (.t 15)),iI 17 (.faddr 1 (.t 16)),iI 18 (.load 0 (.t 17)),iI 19 (.len 0 (.t 18)),iI 20 (.bin .gtr (.t 19) (.c (.int .i64 40))),iI 21 (.mv (.t 20)),iG (some 22) 21 true (.mv (.t 0)),iG (some 23) 21 true (.mv (.t 3)),iG (some 24) 21 true (.iaddr 2 (.t 22) (.t 23)),iG (some 25) 21 true (.faddr 1 (.t 24)),iG (some 26) 21 true (.load 0 (.t 25)),iG (some 27) 21 true (.len 0 (.t 26)),iG (some 28) 21 true (.bin .leq (.t 27) (.c (.int .i64 256))),iI 29 (.pick (.t 21) (.t 28) (.c (.bool false)))]) c41_1)) c41_2
def c41_4:C:=.block 0 (.loop (.seq (.seq (.reg [iI 4 (.mv (.t 3)),iI 5 (.mv (.t 0)),iI 6 (.len 0 (.t 5)),iI 7 (.bin .lss (.t 4) (.t 6)),iI 8 (.mv (.t 7)),iG (some 9) 8 true (.mv (.t 3)),iG (some 10) 8 true (.bin .lss (.t 9) (.c (.int .i64 60))),iI 11 (.pick (.t 8) (.t 10) (.c (.bool false)))]) c41_0) c41_3))
def c41_5:C:=.seq (.reg [iI 30 (.mv (.t 0)),iI 31 (.len 0 (.t 30)),iI 32 (.bin .leq (.t 31) (.c (.int .i64 60))),iI 2 (.mv (.t 32))]) .ret
def c41_6:C:=.seq (.seq (.reg [iI 3 (.mv (.c (.int .i64 0)))]) c41_4) c41_5
def ir41:C:=.seq (.reg [iI 2 (.mv (.c (.bool false)))]) c41_6
theorem fd41:fd? Tryz.prog 41=some (33,[.slot 2],ir41):=by kernel_rfl
def f41(x0:(List ApiGroup)):Option (Bool) :=
  ((Lp.run (f41_L1 x0) 0).bind fun r_=>match r_ with | (Sum.inl _)=>(some (decide (((x0.length:Nat):Int)≤60))) | (Sum.inr _)=>(some false))
theorem f41_ok{x0:(List ApiGroup)}{r_:Bool}(H:f41 x0=some r_):Pure Tryz.prog 41 [.sl 2 false (x0.map eApiGroup)] (· = .bool r_):=by
 refine w3 fd41 fun Q hQ=>?_
 simp only[f41] at H
 refine zr ?_
 refine zq (zr ?_)
 refine zd ?_
 refine zU H [] [0,3] (f41_L1c ..) ?_<;>clear H
 rintro x1 x_ st0_ H hst_
 rw[f41_L1c] at hst_
 simp only[f41_L1] at H
 subst hst_
 refine zq (zr ?_)
 refine ig H ?_ ?_<;>clear H<;>intro H
 ·refine zs ?_
  refine ic H ?_ ?_<;>clear H<;>intro H
  ·refine zk (zm (zb (zr ?_)))
   refine ia eApiGroup H ?_<;>clear H<;>intro x2 H
   refine zE2 ?_
   refine ig H ?_ ?_<;>clear H<;>intro H
   ·refine zs ?_
    refine ia eApiGroup H ?_<;>clear H<;>intro x3 H
    refine zE2 ?_
    refine ic H ?_ ?_<;>clear H<;>intro H
    ·refine zr ?_
     refine zt (zp (loopQ.ret H ?_))<;>clear H<;>intro H
     try dsimp only at H
     cases H
     exact zh (zv (zf hQ))
    ·refine zk (zo (ze ?_))
     exact zu H [] [0,3] (f41_L1c ..)
   ·refine zs ?_
    refine zc (zk (zo (ze ?_)))
    exact zu H [] [0,3] (f41_L1c ..)
  ·refine zx (zy (loopQ.exit H ?_))<;>clear H<;>intro H
   try dsimp only at H
   refine zi (zm (zr ?_))
   cases H
   exact zt (zf hQ)
 ·refine zs ?_
  refine zc (zx (zy (loopQ.exit H ?_)))<;>clear H<;>intro H
  try dsimp only at H
  refine zi (zm (zr ?_))
  cases H
  exact zt (zf hQ)
def c11_0:C:=.seq (.reg [iI 5 (.mv (.t 0)),iI 6 (.len 0 (.t 5)),iI 7 (.bin .leq (.t 6) (.c (.int .i64 30))),iI 8 (.mv (.t 7)),iG (some 9) 8 false (.mv (.t 0)),iG (some 10) 8 false (.len 0 (.t 9)),iG (some 11) 8 false (.bin .gtr (.t 10) (.c (.int .i64 256))),iG (some 12) 8 false (.mv (.t 11)),iG (some 13) 12 true (.mv (.t 0)),iG (some 14) 12 true (.len 0 (.t 13)),iG (some 15) 12 true (.bin .lss (.t 14) (.c (.int .i64 400))),iG (some 16) 8 false (.pick (.t 12) (.t 15) (.c (.bool false))),iI 17 (.pick (.t 8) (.c (.bool true)) (.t 16)),iI 18 (.mv (.t 17)),iG (some 19) 18 true (.mv (.t 1)),iG (some 20) 18 true (.call (.c (.fn 41 [])) [(.t 19)]),iI 21 (.pick (.t 18) (.t 20) (.c (.bool false))),iI 4 (.mv (.t 21))]) .ret
def ir11:C:=.seq (.reg [iI 4 (.mv (.c (.bool false)))]) c11_0
theorem fd11:fd? Tryz.prog 11=some (22,[.slot 4],ir11):=by kernel_rfl
def f11(x0:(List ApiSelect))(x1:(List ApiGroup)):Option (Bool) :=
  (if (decide (((x0.length:Nat):Int)≤30))=true then (f41 x1).bind fun x2=>(some x2) else (if (decide (256<((x0.length:Nat):Int)))=true then (if (decide (((x0.length:Nat):Int)<400))=true then (f41 x1).bind fun x3=>(some x3) else (some false)) else (some false)))
theorem f11_ok{x0:(List ApiSelect)}{x1:(List ApiGroup)}{r_:Bool}(H:f11 x0 x1=some r_):Pure Tryz.prog 11 [.sl 4 false (x0.map eApiSelect),.sl 2 false (x1.map eApiGroup)] (· = .bool r_):=by
 refine w3 fd11 fun Q hQ=>?_
 simp only[f11] at H
 refine zr ?_
 refine zr ?_
 refine ig H ?_ ?_<;>clear H<;>intro H
 ·refine zs ?_
  refine pu H f41_ok ?_<;>clear H<;>intro x2 H
  refine zE0 ?_
  cases H
  exact zt (zf hQ)
 ·refine zs ?_
  refine ig H ?_ ?_<;>clear H<;>intro H
  ·refine zs ?_
   refine ig H ?_ ?_<;>clear H<;>intro H
   ·refine zs ?_
    refine pu H f41_ok ?_<;>clear H<;>intro x3 H
    refine zE0 ?_
    cases H
    exact zt (zf hQ)
   ·refine zs ?_
    cases H
    exact zt (zf hQ)
  ·refine zs ?_
   cases H
   exact zt (zf hQ)
def f74_L1(x0:(List ApiParam))(x1:ApiParam):Lp (Int) ((Unit)⊕(Int)) where
  body:=fun x2=>(if (decide (x2<((x0.length:Nat):Int)))=true then (at? x0 x2).bind fun x3=>(if ((x1.fChannel == x3.fChannel) && ((x1.fAttr == x3.fAttr) && true))=true then (some (.brk (Sum.inr x2))) else (some (.next (IntKind.i64.wrap (x2 + 1))))) else (some (.brk (Sum.inl ()))))
  cst:=fun x2=>⟨put (put (put (put (fun _=>.junk) 8 (.int .i64 x2)) 7 (.int .i64 ((x0.length:Nat):Int))) 3 (.ptr 0 0)) 0 (.sl 2 false (x0.map eApiParam)),[.cel [.int .i64 x1.fChannel,.int .i64 x1.fAttr]]⟩
theorem f74_L1c(x0:(List ApiParam))(x1:ApiParam)(x2:Int):(f74_L1 x0 x1).cst x2=⟨put (put (put (put (fun _=>.junk) 8 (.int .i64 x2)) 7 (.int .i64 ((x0.length:Nat):Int))) 3 (.ptr 0 0)) 0 (.sl 2 false (x0.map eApiParam)),[.cel [.int .i64 x1.fChannel,.int .i64 x1.fAttr]]⟩:=rfl
def c74_0:C:=.cond (.t 16) (.seq (.reg [iI 17 (.mv (.t 5)),iI 4 (.mv (.t 17))]) .ret) (.skip)
def c74_1:C:=.seq (.reg [iI 11 (.load 2 (.t 3)),iI 12 (.mv (.t 0)),iI 13 (.mv (.t 5)),iI 14 (.iaddr 2 (.t 12) (.t 13)),iI 15 (.load 2 (.t 14)),iI 16 (.eqs false [0,0] (.t 11) (.t 15))]) c74_0
def c74_2:C:=.reg [iI 18 (.bin .add (.t 8) (.c (.int .i64 1))),iI 8 (.mv (.t 18))]
def c74_3:C:=.seq (.block 1 (.seq (.reg [iI 10 (.mv (.t 8)),iI 5 (.mv (.t 10))]) c74_1)) c74_2
def c74_4:C:=.seq (.cond (.t 9) (.skip) (.exit 0)) c74_3
def c74_5:C:=.block 0 (.loop (.seq (.reg [iI 9 (.bin .lss (.t 8) (.t 7))]) c74_4))
def c74_6:C:=.seq (.reg [iI 4 (.mv (.c (.int .i64 (-1))))]) .ret
def c74_7:C:=.seq (.seq (.reg [iI 6 (.mv (.t 0)),iI 7 (.len 0 (.t 6)),iI 8 (.mv (.c (.int .i64 0)))]) c74_5) c74_6
def ir74:C:=.seq (.reg [iI 3 (.box (.t 1)),iI 4 (.mv (.c (.int .i64 0)))]) c74_7
theorem fd74:fd? Tryz.prog 74=some (19,[.slot 4],ir74):=by kernel_rfl
def f74(x0:(List ApiParam))(x1:ApiParam):Option (Int) :=
  ((Lp.run (f74_L1 x0 x1) 0).bind fun r_=>match r_ with | (Sum.inl _)=>(some (-1)) | (Sum.inr x2)=>(some x2))
theorem f74_ok{x0:(List ApiParam)}{x1:ApiParam}{r_:Int}(H:f74 x0 x1=some r_):Pure Tryz.prog 74 [.sl 2 false (x0.map eApiParam),.agg [.int .i64 x1.fChannel,.int .i64 x1.fAttr]] (· = .int .i64 r_):=by
 refine w3 fd74 fun Q hQ=>?_
 simp only[f74] at H
 refine zr ?_
 refine zq (zr ?_)
 refine zd ?_
 refine zU H [0] [0,3,7,8] (f74_L1c ..) ?_<;>clear H
 rintro x2 x_ st0_ H hst_
 rw[f74_L1c] at hst_
 simp only[f74_L1] at H
 subst hst_
 refine zr ?_
 refine zq (ic H ?_ ?_)<;>clear H<;>intro H
 ·refine zk (zm (zb (zr ?_)))
  refine zr ?_
  refine ia eApiParam H ?_<;>clear H<;>intro x3 H
  refine zE10 ?_
  refine rest_eqs (by rfl) ?_
  refine zs ?_
  refine ic H ?_ ?_<;>clear H<;>intro H
  ·refine zr ?_
   refine zt (zp (loopQ.ret H ?_))<;>clear H<;>intro H
   try dsimp only at H
   cases H
   exact zh (zv (zf hQ))
  ·refine zk (zo (ze ?_))
   exact zu H [0] [0,3,7,8] (f74_L1c ..)
 ·refine zx (zy (loopQ.exit H ?_))<;>clear H<;>intro H
  try dsimp only at H
  refine zi (zm (zr ?_))
  cases H
  exact zt (zf hQ)
def c30_0:C:=.seq (.reg [iI 5 (.mv (.t 0)),iI 6 (.load 2 (.t 3)),iI 7 (.call (.c (.fn 74 [])) [(.t 5),(.t 6)]),iI 8 (.bin .geq (.t 7) (.c (.int .i64 0))),iI 4 (.mv (.t 8))]) .ret
def ir30:C:=.seq (.reg [iI 3 (.box (.t 1)),iI 4 (.mv (.c (.bool false)))]) c30_0
theorem fd30:fd? Tryz.prog 30=some (9,[.slot 4],ir30):=by kernel_rfl
def f30(x0:(List ApiParam))(x1:ApiParam):Option (Bool) :=
  (f74 x0 x1).bind fun x2=>(some (decide (0≤x2)))
theorem f30_ok{x0:(List ApiParam)}{x1:ApiParam}{r_:Bool}(H:f30 x0 x1=some r_):Pure Tryz.prog 30 [.sl 2 false (x0.map eApiParam),.agg [.int .i64 x1.fChannel,.int .i64 x1.fAttr]] (· = .bool r_):=by
 refine w3 fd30 fun Q hQ=>?_
 simp only[f30] at H
 refine zr ?_
 refine zr ?_
 refine pu H f74_ok ?_<;>clear H<;>intro x2 H
 refine zE0 ?_
 cases H
 exact zt (zf hQ)
def c32_0:C:=.seq (.reg [iI 5 (.faddr 1 (.t 3)),iI 6 (.load 0 (.t 5)),iI 7 (.load 0 (.t 1)),iI 8 (.bin .neq (.t 6) (.t 7)),iI 9 (.mv (.t 8)),iG (some 10) 9 false (.load 0 (.t 2)),iG (some 11) 9 false (.load 2 (.t 3)),iG (some 12) 9 false (.call (.c (.fn 30 [])) [(.t 10),(.t 11)]),iG (some 13) 9 false (.un .not (.t 12)),iI 14 (.pick (.t 9) (.c (.bool true)) (.t 13)),iI 4 (.mv (.t 14))]) .ret
def ir32:C:=.seq (.reg [iI 3 (.box (.t 0)),iI 4 (.mv (.c (.bool false)))]) c32_0
theorem fd32:fd? Tryz.prog 32=some (15,[.slot 4],ir32):=by kernel_rfl
def f32p(x0:ApiParam)(x1:Int)(x2:(List ApiParam)):Option (Bool) :=
  (if (decide (x0.fAttr≠x1))=true then (some true) else (f30 x2 x0).bind fun x3=>(some (!x3)))
theorem f32p_ok{x0:ApiParam}{x1:Int}{x2:(List ApiParam)}{r_:Bool}(H:f32p x0 x1 x2=some r_):Pure Tryz.prog 32 [.agg [.int .i64 x0.fChannel,.int .i64 x0.fAttr],.pro [.int .i64 x1],.pro [.sl 2 false (x2.map eApiParam)]] (· = .bool r_):=by
 refine w3 fd32 fun Q hQ=>?_
 simp only[f32p] at H
 refine zr ?_
 refine zr ?_
 refine ig H ?_ ?_<;>clear H<;>intro H
 ·refine zs ?_
  cases H
  exact zt (zf hQ)
 ·refine zs ?_
  refine pu H f30_ok ?_<;>clear H<;>intro x3 H
  refine zE0 ?_
  cases H
  exact zt (zf hQ)
def f75_32_L1(x0:(List ApiParam))(x1:Int)(x2:(List ApiParam)):Lp (Int) ((Unit)⊕(Int)) where
  body:=fun x3=>(if (decide (x3<((x0.length:Nat):Int)))=true then (at? x0 x3).bind fun x4=>(f32p x4 x1 x2).bind fun x5=>(if x5=true then (some (.brk (Sum.inr x3))) else (some (.next (IntKind.i64.wrap (x3 + 1))))) else (some (.brk (Sum.inl ()))))
  cst:=fun x3=>⟨put (put (put (put (fun _=>.junk) 8 (.int .i64 x3)) 7 (.int .i64 ((x0.length:Nat):Int))) 1 (.fn 32 [.pro [.int .i64 x1],.pro [.sl 2 false (x2.map eApiParam)]])) 0 (.sl 2 false (x0.map eApiParam)),[]⟩
theorem f75_32_L1c(x0:(List ApiParam))(x1:Int)(x2:(List ApiParam))(x3:Int):(f75_32_L1 x0 x1 x2).cst x3=⟨put (put (put (put (fun _=>.junk) 8 (.int .i64 x3)) 7 (.int .i64 ((x0.length:Nat):Int))) 1 (.fn 32 [.pro [.int .i64 x1],.pro [.sl 2 false (x2.map eApiParam)]])) 0 (.sl 2 false (x0.map eApiParam)),[]⟩:=rfl
def c75_0:C:=.cond (.t 16) (.seq (.reg [iI 17 (.mv (.t 5)),iI 4 (.mv (.t 17))]) .ret) (.skip)
def c75_1:C:=.seq (.reg [iI 11 (.mv (.t 1)),iI 12 (.mv (.t 0)),iI 13 (.mv (.t 5)),iI 14 (.iaddr 2 (.t 12) (.t 13)),iI 15 (.load 2 (.t 14)),iI 16 (.call (.t 11) [(.t 15)])]) c75_0
def c75_2:C:=.reg [iI 18 (.bin .add (.t 8) (.c (.int .i64 1))),iI 8 (.mv (.t 18))]
def c75_3:C:=.seq (.block 1 (.seq (.reg [iI 10 (.mv (.t 8)),iI 5 (.mv (.t 10))]) c75_1)) c75_2
def c75_4:C:=.seq (.cond (.t 9) (.skip) (.exit 0)) c75_3
def c75_5:C:=.block 0 (.loop (.seq (.reg [iI 9 (.bin .lss (.t 8) (.t 7))]) c75_4))
def c75_6:C:=.seq (.reg [iI 4 (.mv (.c (.int .i64 (-1))))]) .ret
def c75_7:C:=.seq (.seq (.reg [iI 6 (.mv (.t 0)),iI 7 (.len 0 (.t 6)),iI 8 (.mv (.c (.int .i64 0)))]) c75_5) c75_6
def ir75:C:=.seq (.reg [iI 4 (.mv (.c (.int .i64 0)))]) c75_7
theorem fd75:fd? Tryz.prog 75=some (19,[.slot 4],ir75):=by kernel_rfl
def f75_32(x0:(List ApiParam))(x1:Int)(x2:(List ApiParam)):Option (Int) :=
  ((Lp.run (f75_32_L1 x0 x1 x2) 0).bind fun r_=>match r_ with | (Sum.inl _)=>(some (-1)) | (Sum.inr x3)=>(some x3))
theorem f75_32_ok{x0:(List ApiParam)}{x1:Int}{x2:(List ApiParam)}{r_:Int}(H:f75_32 x0 x1 x2=some r_):Pure Tryz.prog 75 [.sl 2 false (x0.map eApiParam),.fn 32 [.pro [.int .i64 x1],.pro [.sl 2 false (x2.map eApiParam)]]] (· = .int .i64 r_):=by
 refine w3 fd75 fun Q hQ=>?_
 simp only[f75_32] at H
 refine zr ?_
 refine zq (zr ?_)
 refine zd ?_
 refine zU H [] [0,1,7,8] (f75_32_L1c ..) ?_<;>clear H
 rintro x3 x_ st0_ H hst_
 rw[f75_32_L1c] at hst_
 simp only[f75_32_L1] at H
 subst hst_
 refine zr ?_
 refine zq (ic H ?_ ?_)<;>clear H<;>intro H
 ·refine zk (zm (zb (zr ?_)))
  refine zr ?_
  refine ia eApiParam H ?_<;>clear H<;>intro x4 H
  refine zE10 ?_
  refine pu H f32p_ok ?_<;>clear H<;>intro x5 H
  refine zE0 ?_
  refine ic H ?_ ?_<;>clear H<;>intro H
  ·refine zr ?_
   refine zt (zp (loopQ.ret H ?_))<;>clear H<;>intro H
   try dsimp only at H
   cases H
   exact zh (zv (zf hQ))
  ·refine zk (zo (ze ?_))
   exact zu H [] [0,1,7,8] (f75_32_L1c ..)
 ·refine zx (zy (loopQ.exit H ?_))<;>clear H<;>intro H
  try dsimp only at H
  refine zi (zm (zr ?_))
  cases H
  exact zt (zf hQ)
def c31_0:C:=.seq (.reg [iI 5 (.mv (.t 0)),iI 6 (.mv (.t 1)),iI 7 (.call (.c (.fn 75 [])) [(.t 5),(.t 6)]),iI 8 (.bin .geq (.t 7) (.c (.int .i64 0))),iI 4 (.mv (.t 8))]) .ret
def ir31:C:=.seq (.reg [iI 4 (.mv (.c (.bool false)))]) c31_0
theorem fd31:fd? Tryz.prog 31=some (9,[.slot 4],ir31):=by kernel_rfl
def f31_32(x0:(List ApiParam))(x1:Int)(x2:(List ApiParam)):Option (Bool) :=
  (f75_32 x0 x1 x2).bind fun x3=>(some (decide (0≤x3)))
theorem f31_32_ok{x0:(List ApiParam)}{x1:Int}{x2:(List ApiParam)}{r_:Bool}(H:f31_32 x0 x1 x2=some r_):Pure Tryz.prog 31 [.sl 2 false (x0.map eApiParam),.fn 32 [.pro [.int .i64 x1],.pro [.sl 2 false (x2.map eApiParam)]]] (· = .bool r_):=by
 refine w3 fd31 fun Q hQ=>?_
 simp only[f31_32] at H
 refine zr ?_
 refine zr ?_
 refine pu H f75_32_ok ?_<;>clear H<;>intro x3 H
 refine zE0 ?_
 cases H
 exact zt (zf hQ)
def f116_L1(x0:(List Int))(x1:Int):Lp (Int) ((Unit)⊕(Unit)) where
  body:=fun x2=>(if (decide (x2<((x0.length:Nat):Int)))=true then (at? x0 x2).bind fun x3=>(if (decide (x3=x1))=true then (some (.brk (Sum.inr ()))) else (some (.next (IntKind.i64.wrap (x2 + 1))))) else (some (.brk (Sum.inl ()))))
  cst:=fun x2=>⟨put (put (put (fun _=>.junk) 5 (.int .i64 x2)) 1 (.int .i64 x1)) 0 (.sl 0 false (x0.map (AV.int .i64))),[]⟩
theorem f116_L1c(x0:(List Int))(x1:Int)(x2:Int):(f116_L1 x0 x1).cst x2=⟨put (put (put (fun _=>.junk) 5 (.int .i64 x2)) 1 (.int .i64 x1)) 0 (.sl 0 false (x0.map (AV.int .i64))),[]⟩:=rfl
def c116_0:C:=.cond (.t 9) (.skip) (.exit 0)
def c116_1:C:=.cond (.t 17) (.seq (.reg [iI 4 (.mv (.c (.bool true)))]) .ret) (.skip)
def c116_2:C:=.reg [iI 10 (.mv (.t 5)),iI 11 (.bin .add (.t 10) (.c (.int .i64 1))),iI 5 (.mv (.t 11))]
def c116_3:C:=.seq (.block 1 (.seq (.reg [iI 12 (.mv (.t 0)),iI 13 (.mv (.t 5)),iI 14 (.iaddr 0 (.t 12) (.t 13)),iI 15 (.load 0 (.t 14)),iI 16 (.mv (.t 1)),iI 17 (.bin .eql (.t 15) (.t 16))]) c116_1)) c116_2
def c116_4:C:=.block 0 (.loop (.seq (.seq (.reg [iI 6 (.mv (.t 5)),iI 7 (.mv (.t 0)),iI 8 (.len 0 (.t 7)),iI 9 (.bin .lss (.t 6) (.t 8))]) c116_0) c116_3))
def c116_5:C:=.seq (.reg [iI 4 (.mv (.c (.bool false)))]) .ret
def c116_6:C:=.seq (.seq (.reg [iI 5 (.mv (.c (.int .i64 0)))]) c116_4) c116_5
def ir116:C:=.seq (.reg [iI 4 (.mv (.c (.bool false)))]) c116_6
theorem fd116:fd? Tryz.prog 116=some (18,[.slot 4],ir116):=by kernel_rfl
def f116(x0:(List Int))(x1:Int):Option (Bool) :=
  ((Lp.run (f116_L1 x0 x1) 0).bind fun r_=>match r_ with | (Sum.inl _)=>(some false) | (Sum.inr _)=>(some true))
theorem f116_ok{x0:(List Int)}{x1:Int}{r_:Bool}(H:f116 x0 x1=some r_):Pure Tryz.prog 116 [.sl 0 false (x0.map (AV.int .i64)),.int .i64 x1] (· = .bool r_):=by
 refine w3 fd116 fun Q hQ=>?_
 simp only[f116] at H
 refine zr ?_
 refine zq (zr ?_)
 refine zd ?_
 refine zU H [] [0,1,5] (f116_L1c ..) ?_<;>clear H
 rintro x2 x_ st0_ H hst_
 rw[f116_L1c] at hst_
 simp only[f116_L1] at H
 subst hst_
 refine zq (zr ?_)
 refine ic H ?_ ?_<;>clear H<;>intro H
 ·refine zk (zm (zb (zr ?_)))
  refine ia (AV.int .i64) H ?_<;>clear H<;>intro x3 H
  refine zs ?_
  refine ic H ?_ ?_<;>clear H<;>intro H
  ·refine zr ?_
   refine zt (zp (loopQ.ret H ?_))<;>clear H<;>intro H
   try dsimp only at H
   cases H
   exact zh (zv (zf hQ))
  ·refine zk (zo (ze ?_))
   exact zu H [] [0,1,5] (f116_L1c ..)
 ·refine zx (zy (loopQ.exit H ?_))<;>clear H<;>intro H
  try dsimp only at H
  refine zi (zm (zr ?_))
  cases H
  exact zt (zf hQ)
def f76_L1(x0:ApiGroup):Lp (Int) ((Unit)⊕(Int)) where
  body:=fun x1=>(if (decide (x1<((x0.fChannels.length:Nat):Int)))=true then (at? x0.fChannels x1).bind fun x2=>(if (decide (x2<1))=true then (some (.brk (Sum.inr 2))) else (at? x0.fChannels x1).bind fun x3=>(if (decide (999<x3))=true then (some (.brk (Sum.inr 2))) else (slc? x0.fChannels 0 x1).bind fun x4=>(at? x0.fChannels x1).bind fun x5=>(f116 x4 x5).bind fun x6=>(if x6=true then (some (.brk (Sum.inr 7))) else (some (.next (IntKind.i64.wrap (x1 + 1))))))) else (some (.brk (Sum.inl ()))))
  cst:=fun x1=>⟨put (put (fun _=>.junk) 3 (.int .i64 x1)) 1 (.ptr 0 0),[.cel [.int .i64 x0.fNumber,.sl 0 false (x0.fChannels.map (AV.int .i64))]]⟩
theorem f76_L1c(x0:ApiGroup)(x1:Int):(f76_L1 x0).cst x1=⟨put (put (fun _=>.junk) 3 (.int .i64 x1)) 1 (.ptr 0 0),[.cel [.int .i64 x0.fNumber,.sl 0 false (x0.fChannels.map (AV.int .i64))]]⟩:=rfl
def c76_0:C:=.cond (.t 11) (.seq (.reg [iI 2 (.mv (.c (.int .i64 2)))]) .ret) (.skip)
def c76_1:C:=.cond (.t 15) (.seq (.reg [iI 2 (.mv (.c (.int .i64 5)))]) .ret) (.skip)
def c76_2:C:=.cond (.t 20) (.skip) (.exit 0)
def c76_3:C:=.cond (.t 36) (.seq (.reg [iI 2 (.mv (.c (.int .i64 2)))]) .ret) (.skip)
def c76_4:C:=.cond (.t 46) (.seq (.reg [iI 2 (.mv (.c (.int .i64 7)))]) .ret) (.skip)
def c76_5:C:=.seq (.reg [iI 37 (.faddr 1 (.t 1)),iI 38 (.load 0 (.t 37)),iI 39 (.mv (.t 3)),iI 40 (.slice 0 (.t 38) none (some (.t 39))),iI 41 (.faddr 1 (.t 1)),iI 42 (.load 0 (.t 41)),iI 43 (.mv (.t 3)),iI 44 (.iaddr 0 (.t 42) (.t 43)),iI 45 (.load 0 (.t 44)),iI 46 (.call (.c (.fn 116 [])) [(.t 40),(.t 45)])]) c76_4
def c76_6:C:=.reg [iI 21 (.mv (.t 3)),iI 22 (.bin .add (.t 21) (.c (.int .i64 1))),iI 3 (.mv (.t 22))]
def c76_7:C:=.seq (.block 1 (.seq (.seq (.reg [iI 23 (.faddr 1 (.t 1)),iI 24 (.load 0 (.t 23)),iI 25 (.mv (.t 3)),iI 26 (.iaddr 0 (.t 24) (.t 25)),iI 27 (.load 0 (.t 26)),iI 28 (.bin .lss (.t 27) (.c (.int .i64 1))),iI 29 (.mv (.t 28)),iG (some 30) 29 false (.faddr 1 (.t 1)),iG (some 31) 29 false (.load 0 (.t 30)),iG (some 32) 29 false (.mv (.t 3)),iG (some 33) 29 false (.iaddr 0 (.t 31) (.t 32)),iG (some 34) 29 false (.load 0 (.t 33)),iG (some 35) 29 false (.bin .gtr (.t 34) (.c (.int .i64 999))),iI 36 (.pick (.t 29) (.c (.bool true)) (.t 35))]) c76_3) c76_5)) c76_6
def c76_8:C:=.block 0 (.loop (.seq (.seq (.reg [iI 16 (.mv (.t 3)),iI 17 (.faddr 1 (.t 1)),iI 18 (.load 0 (.t 17)),iI 19 (.len 0 (.t 18)),iI 20 (.bin .lss (.t 16) (.t 19))]) c76_2) c76_7))
def c76_9:C:=.seq (.reg [iI 2 (.mv (.c (.int .i64 0)))]) .ret
def c76_10:C:=.seq (.seq (.reg [iI 3 (.mv (.c (.int .i64 0)))]) c76_8) c76_9
def c76_11:C:=.seq (.seq (.reg [iI 12 (.faddr 1 (.t 1)),iI 13 (.load 0 (.t 12)),iI 14 (.len 0 (.t 13)),iI 15 (.bin .gtr (.t 14) (.c (.int .i64 256)))]) c76_1) c76_10
def c76_12:C:=.seq (.seq (.reg [iI 4 (.faddr 0 (.t 1)),iI 5 (.load 0 (.t 4)),iI 6 (.bin .lss (.t 5) (.c (.int .i64 1))),iI 7 (.mv (.t 6)),iG (some 8) 7 false (.faddr 0 (.t 1)),iG (some 9) 7 false (.load 0 (.t 8)),iG (some 10) 7 false (.bin .gtr (.t 9) (.c (.int .i64 1048576))),iI 11 (.pick (.t 7) (.c (.bool true)) (.t 10))]) c76_0) c76_11
def ir76:C:=.seq (.reg [iI 1 (.box (.t 0)),iI 2 (.mv (.c (.int .i64 0)))]) c76_12
theorem fd76:fd? Tryz.prog 76=some (47,[.slot 2],ir76):=by kernel_rfl
def f76(x0:ApiGroup):Option (Int) :=
  (if (decide (x0.fNumber<1))=true then (some 2) else (if (decide (1048576<x0.fNumber))=true then (some 2) else (if (decide (256<((x0.fChannels.length:Nat):Int)))=true then (some 5) else ((Lp.run (f76_L1 x0) 0).bind fun r_=>match r_ with | (Sum.inl _)=>(some 0) | (Sum.inr x1)=>(some x1)))))
theorem f76_ok{x0:ApiGroup}{r_:Int}(H:f76 x0=some r_):Pure Tryz.prog 76 [.agg [.int .i64 x0.fNumber,.sl 0 false (x0.fChannels.map (AV.int .i64))]] (· = .int .i64 r_):=by
 refine w3 fd76 fun Q hQ=>?_
 simp only[f76] at H
 refine zr ?_
 refine zq (zr ?_)
 refine ig H ?_ ?_<;>clear H<;>intro H
 ·refine zs ?_
  refine za (zr ?_)
  cases H
  exact zt (zv (zf hQ))
 ·refine zs ?_
  refine ic H ?_ ?_<;>clear H<;>intro H
  ·refine zr ?_
   cases H
   exact zt (zv (zf hQ))
  ·refine zk (zm (zq (zr ?_)))
   refine ic H ?_ ?_<;>clear H<;>intro H
   ·refine zr ?_
    cases H
    exact zt (zv (zf hQ))
   ·refine zk (zm (zq (zr ?_)))
    refine zd ?_
    refine zU H [0] [1,3] (f76_L1c ..) ?_<;>clear H
    rintro x1 x_ st0_ H hst_
    rw[f76_L1c] at hst_
    simp only[f76_L1] at H
    subst hst_
    refine zq (zr ?_)
    refine ic H ?_ ?_<;>clear H<;>intro H
    ·refine zk (zm (zb (zq (zr ?_))))
     refine ia (AV.int .i64) H ?_<;>clear H<;>intro x2 H
     refine zs ?_
     refine ig H ?_ ?_<;>clear H<;>intro H
     ·refine zs ?_
      refine za (zr ?_)
      refine zt (zv (zp (loopQ.ret H ?_)))<;>clear H<;>intro H
      try dsimp only at H
      cases H
      exact zh (zv (zf hQ))
     ·refine zs ?_
      refine ia (AV.int .i64) H ?_<;>clear H<;>intro x3 H
      refine zs ?_
      refine ic H ?_ ?_<;>clear H<;>intro H
      ·refine zr ?_
       refine zt (zv (zp (loopQ.ret H ?_)))<;>clear H<;>intro H
       try dsimp only at H
       cases H
       exact zh (zv (zf hQ))
      ·refine zk (zm (zr ?_))
       refine sc (AV.int .i64) H ?_<;>clear H<;>intro x4 H
       refine zs ?_
       refine ia (AV.int .i64) H ?_<;>clear H<;>intro x5 H
       refine zs ?_
       refine pu H f116_ok ?_<;>clear H<;>intro x6 H
       refine zE0 ?_
       refine ic H ?_ ?_<;>clear H<;>intro H
       ·refine zr ?_
        refine zt (zp (loopQ.ret H ?_))<;>clear H<;>intro H
        try dsimp only at H
        cases H
        exact zh (zv (zf hQ))
       ·refine zk (zo (ze ?_))
        exact zu H [0] [1,3] (f76_L1c ..)
    ·refine zx (zy (loopQ.exit H ?_))<;>clear H<;>intro H
     try dsimp only at H
     refine zi (zm (zr ?_))
     cases H
     exact zt (zf hQ)
def f33_L1(x0:(List ApiGroup)):Lp (Int) ((Unit)⊕(Int)) where
  body:=fun x1=>(if (decide (x1<((x0.length:Nat):Int)))=true then (at? x0 x1).bind fun x2=>(f76 x2).bind fun x3=>(if (decide (x3≠0))=true then (some (.brk (Sum.inr x3))) else (if (decide (0<x1))=true then (at? x0 x1).bind fun x4=>(at? x0 (IntKind.i64.wrap (x1 - 1))).bind fun x5=>(if (decide (x4.fNumber≤x5.fNumber))=true then (some (.brk (Sum.inr 9))) else (some (.next (IntKind.i64.wrap (x1 + 1))))) else (some (.next (IntKind.i64.wrap (x1 + 1)))))) else (some (.brk (Sum.inl ()))))
  cst:=fun x1=>⟨put (put (fun _=>.junk) 3 (.int .i64 x1)) 0 (.sl 2 false (x0.map eApiGroup)),[]⟩
theorem f33_L1c(x0:(List ApiGroup))(x1:Int):(f33_L1 x0).cst x1=⟨put (put (fun _=>.junk) 3 (.int .i64 x1)) 0 (.sl 2 false (x0.map eApiGroup)),[]⟩:=rfl
def c33_0:C:=.cond (.t 7) (.seq (.reg [iI 2 (.mv (.c (.int .i64 5)))]) .ret) (.skip)
def c33_1:C:=.cond (.t 11) (.skip) (.exit 0)
def c33_2:C:=.cond (.t 20) (.seq (.reg [iI 21 (.mv (.t 4)),iI 2 (.mv (.t 21))]) .ret) (.skip)
def c33_3:C:=.seq (.reg [iI 19 (.mv (.t 4)),iI 20 (.bin .neq (.t 19) (.c (.int .i64 0)))]) c33_2
def c33_4:C:=.cond (.t 37) (.seq (.reg [iI 2 (.mv (.c (.int .i64 9)))]) .ret) (.skip)
def c33_5:C:=.seq (.reg [iI 22 (.mv (.t 3)),iI 23 (.bin .gtr (.t 22) (.c (.int .i64 0))),iI 24 (.mv (.t 23)),iG (some 25) 24 true (.mv (.t 0)),iG (some 26) 24 true (.mv (.t 3)),iG (some 27) 24 true (.iaddr 2 (.t 25) (.t 26)),iG (some 28) 24 true (.faddr 0 (.t 27)),iG (some 29) 24 true (.load 0 (.t 28)),iG (some 30) 24 true (.mv (.t 0)),iG (some 31) 24 true (.mv (.t 3)),iG (some 32) 24 true (.bin .sub (.t 31) (.c (.int .i64 1))),iG (some 33) 24 true (.iaddr 2 (.t 30) (.t 32)),iG (some 34) 24 true (.faddr 0 (.t 33)),iG (some 35) 24 true (.load 0 (.t 34)),iG (some 36) 24 true (.bin .leq (.t 29) (.t 35)),iI 37 (.pick (.t 24) (.t 36) (.c (.bool false)))]) c33_4
def c33_6:C:=.reg [iI 12 (.mv (.t 3)),iI 13 (.bin .add (.t 12) (.c (.int .i64 1))),iI 3 (.mv (.t 13))]
def c33_7:C:=.seq (.block 1 (.seq (.seq (.reg [iI 14 (.mv (.t 0)),iI 15 (.mv (.t 3)),iI 16 (.iaddr 2 (.t 14) (.t 15)),iI 17 (.load 2 (.t 16)),iI 18 (.call (.c (.fn 76 [])) [(.t 17)]),iI 4 (.mv (.t 18))]) c33_3) c33_5)) c33_6
def c33_8:C:=.block 0 (.loop (.seq (.seq (.reg [iI 8 (.mv (.t 3)),iI 9 (.mv (.t 0)),iI 10 (.len 0 (.t 9)),iI 11 (.bin .lss (.t 8) (.t 10))]) c33_1) c33_7))
def c33_9:C:=.seq (.reg [iI 2 (.mv (.c (.int .i64 0)))]) .ret
def c33_10:C:=.seq (.seq (.reg [iI 3 (.mv (.c (.int .i64 0)))]) c33_8) c33_9
def c33_11:C:=.seq (.seq (.reg [iI 5 (.mv (.t 0)),iI 6 (.len 0 (.t 5)),iI 7 (.bin .gtr (.t 6) (.c (.int .i64 32)))]) c33_0) c33_10
def ir33:C:=.seq (.reg [iI 2 (.mv (.c (.int .i64 0)))]) c33_11
theorem fd33:fd? Tryz.prog 33=some (38,[.slot 2],ir33):=by kernel_rfl
def f33(x0:(List ApiGroup)):Option (Int) :=
  (if (decide (32<((x0.length:Nat):Int)))=true then (some 5) else ((Lp.run (f33_L1 x0) 0).bind fun r_=>match r_ with | (Sum.inl _)=>(some 0) | (Sum.inr x1)=>(some x1)))
theorem f33_ok{x0:(List ApiGroup)}{r_:Int}(H:f33 x0=some r_):Pure Tryz.prog 33 [.sl 2 false (x0.map eApiGroup)] (· = .int .i64 r_):=by
 refine w3 fd33 fun Q hQ=>?_
 simp only[f33] at H
 refine zr ?_
 refine zq (zr ?_)
 refine ic H ?_ ?_<;>clear H<;>intro H
 ·refine zr ?_
  cases H
  exact zt (zv (zf hQ))
 ·refine zk (zm (zq (zr ?_)))
  refine zd ?_
  refine zU H [] [0,3] (f33_L1c ..) ?_<;>clear H
  rintro x1 x_ st0_ H hst_
  rw[f33_L1c] at hst_
  simp only[f33_L1] at H
  subst hst_
  refine zq (zr ?_)
  refine ic H ?_ ?_<;>clear H<;>intro H
  ·refine zk (zm (zb (zq (zr ?_))))
   refine ia eApiGroup H ?_<;>clear H<;>intro x2 H
   refine zE2 ?_
   refine pu H f76_ok ?_<;>clear H<;>intro x3 H
   refine zE0 ?_
   refine zr ?_
   refine ic H ?_ ?_<;>clear H<;>intro H
   ·refine zr ?_
    refine zt (zv (zp (loopQ.ret H ?_)))<;>clear H<;>intro H
    try dsimp only at H
    cases H
    exact zh (zv (zf hQ))
   ·refine zk (zm (zr ?_))
    refine ig H ?_ ?_<;>clear H<;>intro H
    ·refine zs ?_
     refine ia eApiGroup H ?_<;>clear H<;>intro x4 H
     refine zE2 ?_
     refine ia eApiGroup H ?_<;>clear H<;>intro x5 H
     refine zE2 ?_
     refine ic H ?_ ?_<;>clear H<;>intro H
     ·refine zr ?_
      refine zt (zp (loopQ.ret H ?_))<;>clear H<;>intro H
      try dsimp only at H
      cases H
      exact zh (zv (zf hQ))
     ·refine zk (zo (ze ?_))
      exact zu H [] [0,3] (f33_L1c ..)
    ·refine zs ?_
     refine zc (zk (zo (ze ?_)))
     exact zu H [] [0,3] (f33_L1c ..)
  ·refine zx (zy (loopQ.exit H ?_))<;>clear H<;>intro H
   try dsimp only at H
   refine zi (zm (zr ?_))
   cases H
   exact zt (zf hQ)
def f8_L2(x0:Law41Choice)(x1:UniverseRig)(x2:(List ApiParam)×Int)(x3:Int):Lp (Int) ((Unit)⊕(Unit)) where
  body:=fun x4=>(if (decide (x4<15))=true then (f21 x0.fSelect x0.fGroups x1 x4).bind fun x5=>(if (decide (x5.2≠0))=true then (some (.brk (Sum.inr ()))) else (f31_32 x5.1 x4 x2.1).bind fun x6=>(if x6=true then (some (.brk (Sum.inr ()))) else (some (.next (IntKind.i64.wrap (x4 + 1)))))) else (some (.brk (Sum.inl ()))))
  cst:=fun x4=>⟨put (put (put (put (put (fun _=>.junk) 77 (.int .i64 x4)) 7 (.int .i64 x3)) 5 (.ptr 2 0)) 3 (.ptr 1 0)) 2 (.ptr 0 0),[.cel [.sl 0 false (x1.fCurves.map (eL 2 eApiPoint)),.sl 4 false (x1.fProfiles.map eApiProfile),.sl 7 false (x1.fFixtures.map eApiFixture)],.cel [.sl 4 false (x0.fSelect.map eApiSelect),.sl 2 false (x0.fGroups.map eApiGroup),.int .i64 x0.fKind],.cel [.sl 2 false (x2.1.map eApiParam)]]⟩
theorem f8_L2c(x0:Law41Choice)(x1:UniverseRig)(x2:(List ApiParam)×Int)(x3:Int)(x4:Int):(f8_L2 x0 x1 x2 x3).cst x4=⟨put (put (put (put (put (fun _=>.junk) 77 (.int .i64 x4)) 7 (.int .i64 x3)) 5 (.ptr 2 0)) 3 (.ptr 1 0)) 2 (.ptr 0 0),[.cel [.sl 0 false (x1.fCurves.map (eL 2 eApiPoint)),.sl 4 false (x1.fProfiles.map eApiProfile),.sl 7 false (x1.fFixtures.map eApiFixture)],.cel [.sl 4 false (x0.fSelect.map eApiSelect),.sl 2 false (x0.fGroups.map eApiGroup),.int .i64 x0.fKind],.cel [.sl 2 false (x2.1.map eApiParam)]]⟩:=rfl
def f8_L3(x0:(List ApiParam)×Int)(x1:(List ApiParam)×Int)(x2:Int)(x3:Int)(x4:UniverseRig)(x5:Law41Choice):Lp (Int) ((Unit)⊕(Unit)) where
  body:=fun x6=>(if (decide (x6<((x0.1.length:Nat):Int)))=true then (at? x0.1 x6).bind fun x7=>(f30 x1.1 x7).bind fun x8=>(if (!x8)=true then (some (.brk (Sum.inr ()))) else (some (.next (IntKind.i64.wrap (x6 + 1))))) else (some (.brk (Sum.inl ()))))
  cst:=fun x6=>⟨put (put (put (put (put (put (put (put (fun _=>.junk) 68 (.int .i64 x6)) 67 (.int .i64 ((x0.1.length:Nat):Int))) 66 (.sl 2 false (x0.1.map eApiParam))) 8 (.int .i64 x2)) 7 (.int .i64 (IntKind.i64.wrap (x3 + ((x0.1.length:Nat):Int))))) 5 (.ptr 2 0)) 3 (.ptr 1 0)) 2 (.ptr 0 0),[.cel [.sl 0 false (x4.fCurves.map (eL 2 eApiPoint)),.sl 4 false (x4.fProfiles.map eApiProfile),.sl 7 false (x4.fFixtures.map eApiFixture)],.cel [.sl 4 false (x5.fSelect.map eApiSelect),.sl 2 false (x5.fGroups.map eApiGroup),.int .i64 x5.fKind],.cel [.sl 2 false (x1.1.map eApiParam)]]⟩
theorem f8_L3c(x0:(List ApiParam)×Int)(x1:(List ApiParam)×Int)(x2:Int)(x3:Int)(x4:UniverseRig)(x5:Law41Choice)(x6:Int):(f8_L3 x0 x1 x2 x3 x4 x5).cst x6=⟨put (put (put (put (put (put (put (put (fun _=>.junk) 68 (.int .i64 x6)) 67 (.int .i64 ((x0.1.length:Nat):Int))) 66 (.sl 2 false (x0.1.map eApiParam))) 8 (.int .i64 x2)) 7 (.int .i64 (IntKind.i64.wrap (x3 + ((x0.1.length:Nat):Int))))) 5 (.ptr 2 0)) 3 (.ptr 1 0)) 2 (.ptr 0 0),[.cel [.sl 0 false (x4.fCurves.map (eL 2 eApiPoint)),.sl 4 false (x4.fProfiles.map eApiProfile),.sl 7 false (x4.fFixtures.map eApiFixture)],.cel [.sl 4 false (x5.fSelect.map eApiSelect),.sl 2 false (x5.fGroups.map eApiGroup),.int .i64 x5.fKind],.cel [.sl 2 false (x1.1.map eApiParam)]]⟩:=rfl
def f8_L1(x0:Law41Choice)(x1:UniverseRig)(x2:(List ApiParam)×Int):Lp (Int×Int) ((Int)⊕(Unit)) where
  body:=fun (x3,x4)=>(if (decide (x4≤3))=true then (f21 x0.fSelect x0.fGroups x1 (IntKind.i64.wrap (15 + x4))).bind fun x5=>(if (decide (x5.2≠0))=true then (some (.brk (Sum.inr ()))) else ((Lp.run (f8_L3 x5 x2 x4 x3 x1 x0) 0).bind fun r_=>match r_ with | (Sum.inl _)=>(some (.next ((IntKind.i64.wrap (x3 + ((x5.1.length:Nat):Int))),(IntKind.i64.wrap (x4 + 1))))) | (Sum.inr _)=>(some (.brk (Sum.inr ()))))) else (some (.brk (Sum.inl x3))))
  cst:=fun (x3,x4)=>⟨put (put (put (put (put (fun _=>.junk) 8 (.int .i64 x4)) 7 (.int .i64 x3)) 5 (.ptr 2 0)) 3 (.ptr 1 0)) 2 (.ptr 0 0),[.cel [.sl 0 false (x1.fCurves.map (eL 2 eApiPoint)),.sl 4 false (x1.fProfiles.map eApiProfile),.sl 7 false (x1.fFixtures.map eApiFixture)],.cel [.sl 4 false (x0.fSelect.map eApiSelect),.sl 2 false (x0.fGroups.map eApiGroup),.int .i64 x0.fKind],.cel [.sl 2 false (x2.1.map eApiParam)]]⟩
theorem f8_L1c(x0:Law41Choice)(x1:UniverseRig)(x2:(List ApiParam)×Int)(x3:Int)(x4:Int):(f8_L1 x0 x1 x2).cst (x3,x4)=⟨put (put (put (put (put (fun _=>.junk) 8 (.int .i64 x4)) 7 (.int .i64 x3)) 5 (.ptr 2 0)) 3 (.ptr 1 0)) 2 (.ptr 0 0),[.cel [.sl 0 false (x1.fCurves.map (eL 2 eApiPoint)),.sl 4 false (x1.fProfiles.map eApiProfile),.sl 7 false (x1.fFixtures.map eApiFixture)],.cel [.sl 4 false (x0.fSelect.map eApiSelect),.sl 2 false (x0.fGroups.map eApiGroup),.int .i64 x0.fKind],.cel [.sl 2 false (x2.1.map eApiParam)]]⟩:=rfl
def c8_0:C:=.cond (.t 31) (.seq (.reg [iI 32 (.call (.c (.fn 12 [])) []),iI 4 (.mv (.t 32))]) .ret) (.skip)
def c8_1:C:=.cond (.t 43) (.seq (.reg [iI 44 (.call (.c (.fn 12 [])) []),iI 4 (.mv (.t 44))]) .ret) (.skip)
def c8_2:C:=.cond (.t 46) (.skip) (.exit 0)
def c8_3:C:=.cond (.t 61) (.seq (.reg [iI 4 (.mv (.c (.bool false)))]) .ret) (.skip)
def c8_4:C:=.cond (.t 75) (.seq (.reg [iI 4 (.mv (.c (.bool false)))]) .ret) (.skip)
def c8_5:C:=.seq (.reg [iI 72 (.load 0 (.t 5)),iI 73 (.load 2 (.t 12)),iI 74 (.call (.c (.fn 30 [])) [(.t 72),(.t 73)]),iI 75 (.un .not (.t 74))]) c8_4
def c8_6:C:=.reg [iI 76 (.bin .add (.t 68) (.c (.int .i64 1))),iI 68 (.mv (.t 76))]
def c8_7:C:=.seq (.block 3 (.seq (.reg [iI 70 (.iaddr 2 (.t 66) (.t 68)),iI 71 (.load 2 (.t 70)),iI 12 (.alloc [(1,(.int .i64 0)),(1,(.int .i64 0))]),iN (.store 2 (.t 12) (.t 71))]) c8_5)) c8_6
def c8_8:C:=.seq (.cond (.t 69) (.skip) (.exit 2)) c8_7
def c8_9:C:=.block 2 (.loop (.seq (.reg [iI 69 (.bin .lss (.t 68) (.t 67))]) c8_8))
def c8_10:C:=.seq (.reg [iI 66 (.mv (.t 9)),iI 67 (.len 0 (.t 66)),iI 68 (.mv (.c (.int .i64 0)))]) c8_9
def c8_11:C:=.seq (.reg [iI 62 (.mv (.t 7)),iI 63 (.mv (.t 9)),iI 64 (.len 0 (.t 63)),iI 65 (.bin .add (.t 62) (.t 64)),iI 7 (.mv (.t 65))]) c8_10
def c8_12:C:=.seq (.seq (.reg [iI 60 (.mv (.t 10)),iI 61 (.bin .neq (.t 60) (.c (.int .i64 0)))]) c8_3) c8_11
def c8_13:C:=.reg [iI 47 (.mv (.t 8)),iI 48 (.bin .add (.t 47) (.c (.int .i64 1))),iI 8 (.mv (.t 48))]
def c8_14:C:=.seq (.block 1 (.seq (.reg [iI 50 (.faddr 0 (.t 3)),iI 51 (.load 0 (.t 50)),iI 52 (.faddr 1 (.t 3)),iI 53 (.load 0 (.t 52)),iI 54 (.load 3 (.t 2)),iI 55 (.mv (.t 8)),iI 56 (.bin .add (.c (.int .i64 15)) (.t 55)),iI 57 (.call (.c (.fn 21 [])) [(.t 51),(.t 53),(.t 54),(.t 56)]),iI 49 (.mv (.t 57)),iI 58 (.ext (.t 49) 0),iI 59 (.ext (.t 49) 1),iI 9 (.mv (.t 58)),iI 10 (.mv (.t 59))]) c8_12)) c8_13
def c8_15:C:=.block 0 (.loop (.seq (.seq (.reg [iI 45 (.mv (.t 8)),iI 46 (.bin .leq (.t 45) (.c (.int .i64 3)))]) c8_2) c8_14))
def c8_16:C:=.cond (.t 96) (.seq (.reg [iI 4 (.mv (.c (.bool false)))]) .ret) (.skip)
def c8_17:C:=.seq (.reg [iI 90 (.mv (.t 15)),iI 91 (.bin .neq (.t 90) (.c (.int .i64 0))),iI 92 (.mv (.t 91)),iG (some 93) 92 false (.mv (.t 14)),iG (some 94) 92 false (.mkfn 32 [(.t 13),(.t 5)]),iG (some 95) 92 false (.call (.c (.fn 31 [])) [(.t 93),(.t 94)]),iI 96 (.pick (.t 92) (.c (.bool true)) (.t 95))]) c8_16
def c8_18:C:=.seq (.reg [iI 81 (.faddr 0 (.t 3)),iI 82 (.load 0 (.t 81)),iI 83 (.faddr 1 (.t 3)),iI 84 (.load 0 (.t 83)),iI 85 (.load 3 (.t 2)),iI 86 (.load 0 (.t 13)),iI 87 (.call (.c (.fn 21 [])) [(.t 82),(.t 84),(.t 85),(.t 86)]),iI 80 (.mv (.t 87)),iI 88 (.ext (.t 80) 0),iI 89 (.ext (.t 80) 1),iI 14 (.mv (.t 88)),iI 15 (.mv (.t 89))]) c8_17
def c8_19:C:=.reg [iI 97 (.bin .add (.t 77) (.c (.int .i64 1))),iI 77 (.mv (.t 97))]
def c8_20:C:=.seq (.block 5 (.seq (.reg [iI 79 (.mv (.t 77)),iI 13 (.alloc [(1,(.int .i64 0))]),iN (.store 0 (.t 13) (.t 79))]) c8_18)) c8_19
def c8_21:C:=.seq (.cond (.t 78) (.skip) (.exit 4)) c8_20
def c8_22:C:=.block 4 (.loop (.seq (.reg [iI 78 (.bin .lss (.t 77) (.c (.int .i64 15)))]) c8_21))
def c8_23:C:=.seq (.reg [iI 98 (.mv (.t 7)),iI 99 (.load 0 (.t 5)),iI 100 (.len 0 (.t 99)),iI 101 (.bin .eql (.t 98) (.t 100)),iI 102 (.mv (.t 101)),iG (some 103) 102 true (.faddr 1 (.t 3)),iG (some 104) 102 true (.load 0 (.t 103)),iG (some 105) 102 true (.call (.c (.fn 33 [])) [(.t 104)]),iG (some 106) 102 true (.bin .eql (.t 105) (.c (.int .i64 0))),iI 107 (.pick (.t 102) (.t 106) (.c (.bool false))),iI 108 (.mv (.t 107)),iG (some 109) 108 true (.call (.c (.fn 12 [])) []),iI 110 (.pick (.t 108) (.t 109) (.c (.bool false))),iI 4 (.mv (.t 110))]) .ret
def c8_24:C:=.seq (.seq (.reg [iI 77 (.mv (.c (.int .i64 0)))]) c8_22) c8_23
def c8_25:C:=.seq (.seq (.reg [iI 8 (.mv (.c (.int .i64 0)))]) c8_15) c8_24
def c8_26:C:=.seq (.reg [iI 7 (.mv (.c (.int .i64 0)))]) c8_25
def c8_27:C:=.seq (.seq (.reg [iI 42 (.mv (.t 6)),iI 43 (.bin .neq (.t 42) (.c (.int .i64 0)))]) c8_1) c8_26
def c8_28:C:=.seq (.reg [iI 34 (.faddr 0 (.t 3)),iI 35 (.load 0 (.t 34)),iI 36 (.faddr 1 (.t 3)),iI 37 (.load 0 (.t 36)),iI 38 (.load 3 (.t 2)),iI 39 (.call (.c (.fn 21 [])) [(.t 35),(.t 37),(.t 38),(.c (.int .i64 (-1)))]),iI 33 (.mv (.t 39)),iI 40 (.ext (.t 33) 0),iI 41 (.ext (.t 33) 1),iI 5 (.alloc [(1,(.sl 2 true []))]),iN (.store 0 (.t 5) (.t 40)),iI 6 (.mv (.t 41))]) c8_27
def c8_29:C:=.seq (.seq (.reg [iI 16 (.load 3 (.t 2)),iI 17 (.call (.c (.fn 18 [])) [(.t 16)]),iI 18 (.un .not (.t 17)),iI 19 (.mv (.t 18)),iG (some 20) 19 false (.faddr 0 (.t 3)),iG (some 21) 19 false (.load 0 (.t 20)),iG (some 22) 19 false (.faddr 1 (.t 3)),iG (some 23) 19 false (.load 0 (.t 22)),iG (some 24) 19 false (.call (.c (.fn 11 [])) [(.t 21),(.t 23)]),iG (some 25) 19 false (.un .not (.t 24)),iI 26 (.pick (.t 19) (.c (.bool true)) (.t 25)),iI 27 (.mv (.t 26)),iG (some 28) 27 false (.load 3 (.t 2)),iG (some 29) 27 false (.call (.c (.fn 29 [])) [(.t 28)]),iG (some 30) 27 false (.bin .neq (.t 29) (.c (.int .i64 0))),iI 31 (.pick (.t 27) (.c (.bool true)) (.t 30))]) c8_0) c8_28
def ir8:C:=.seq (.reg [iI 2 (.box (.t 0)),iI 3 (.box (.t 1)),iI 4 (.mv (.c (.bool false)))]) c8_29
theorem fd8:fd? Tryz.prog 8=some (111,[.slot 4],ir8):=by kernel_rfl
def f8(x0:UniverseRig)(x1:Law41Choice):Option (Bool) :=
  (f18 (Ref13Rig.mk x0.fCurves x0.fProfiles x0.fFixtures)).bind fun x2=>(if (!x2)=true then (f12).bind fun x3=>(some x3) else (f11 x1.fSelect x1.fGroups).bind fun x4=>(if (!x4)=true then (f12).bind fun x5=>(some x5) else (f29 (Ref13Rig.mk x0.fCurves x0.fProfiles x0.fFixtures)).bind fun x6=>(if (decide (x6≠0))=true then (f12).bind fun x7=>(some x7) else (f21 x1.fSelect x1.fGroups x0 (-1)).bind fun x8=>(if (decide (x8.2≠0))=true then (f12).bind fun x9=>(some x9) else ((Lp.run (f8_L1 x1 x0 x8) (0,0)).bind fun r_=>match r_ with | (Sum.inl xa)=>((Lp.run (f8_L2 x1 x0 x8 xa) 0).bind fun r_=>match r_ with | (Sum.inl _)=>(if (decide (xa=((x8.1.length:Nat):Int)))=true then (f33 x1.fGroups).bind fun xb=>(if (decide (xb=0))=true then (f12).bind fun xc=>(some xc) else (some false)) else (some false)) | (Sum.inr _)=>(some false)) | (Sum.inr _)=>(some false))))))
theorem f8_ok{x0:UniverseRig}{x1:Law41Choice}{r_:Bool}(H:f8 x0 x1=some r_):Pure Tryz.prog 8 [.agg [.sl 0 false (x0.fCurves.map (eL 2 eApiPoint)),.sl 4 false (x0.fProfiles.map eApiProfile),.sl 7 false (x0.fFixtures.map eApiFixture)],.agg [.sl 4 false (x1.fSelect.map eApiSelect),.sl 2 false (x1.fGroups.map eApiGroup),.int .i64 x1.fKind]] (· = .bool r_):=by
 refine w3 fd8 fun Q hQ=>?_
 simp only[f8] at H
 refine zr ?_
 refine zq (zr ?_)
 refine pu H f18_ok ?_<;>clear H<;>intro x2 H
 refine zE0 ?_
 refine ig H ?_ ?_<;>clear H<;>intro H
 ·refine zs ?_
  refine za (zr ?_)
  refine pu H f12_ok ?_<;>clear H<;>intro x3 H
  refine zE0 ?_
  cases H
  exact zt (zv (zf hQ))
 ·refine zs ?_
  refine pu H f11_ok ?_<;>clear H<;>intro x4 H
  refine zE0 ?_
  refine ig H ?_ ?_<;>clear H<;>intro H
  ·refine zs ?_
   refine za (zr ?_)
   refine pu H f12_ok ?_<;>clear H<;>intro x5 H
   refine zE0 ?_
   cases H
   exact zt (zv (zf hQ))
  ·refine zs ?_
   refine pu H f29_ok ?_<;>clear H<;>intro x6 H
   refine zE0 ?_
   refine ic H ?_ ?_<;>clear H<;>intro H
   ·refine zr ?_
    refine pu H f12_ok ?_<;>clear H<;>intro x7 H
    refine zE0 ?_
    cases H
    exact zt (zv (zf hQ))
   ·refine zk (zm (zr ?_))
    refine pu H f21_im ?_<;>clear H<;>intro x8 H
    refine zE0 ?_
    refine zq (zr ?_)
    refine ic H ?_ ?_<;>clear H<;>intro H
    ·refine zr ?_
     refine pu H f12_ok ?_<;>clear H<;>intro x9 H
     refine zE0 ?_
     cases H
     exact zt (zv (zf hQ))
    ·refine zk (zm (zr ?_))
     refine zq (zr ?_)
     refine zd ?_
     refine zU H [0,1,2] [2,3,5,7,8] (f8_L1c ..) ?_<;>clear H
     rintro ⟨xa,xb⟩ x_ st0_ H hst_
     rw[f8_L1c] at hst_
     simp only[f8_L1] at H
     subst hst_
     refine zq (zr ?_)
     refine ic H ?_ ?_<;>clear H<;>intro H
     ·refine zk (zm (zb (zr ?_)))
      refine pu H f21_im ?_<;>clear H<;>intro xc H
      refine zE0 ?_
      refine zq (zr ?_)
      refine ic H ?_ ?_<;>clear H<;>intro H
      ·refine zr ?_
       refine zt (zv (zp (loopQ.ret H ?_)))<;>clear H<;>intro H
       try dsimp only at H
       cases H
       exact zh (zv (zf hQ))
      ·refine zk (zm (zr ?_))
       refine zr ?_
       refine zd ?_
       refine zU H [0,1,2] [2,3,5,7,8,66,67,68] (f8_L3c ..) ?_<;>clear H
       rintro xd x_ st0_ H hst_
       rw[f8_L3c] at hst_
       simp only[f8_L3] at H
       subst hst_
       refine zr ?_
       refine zq (ic H ?_ ?_)<;>clear H<;>intro H
       ·refine zk (zm (zb (zr ?_)))
        refine ia eApiParam H ?_<;>clear H<;>intro xe H
        refine zE10 ?_
        refine zr ?_
        refine pu H f30_ok ?_<;>clear H<;>intro xf H
        refine zE0 ?_
        refine ic H ?_ ?_<;>clear H<;>intro H
        ·refine zr ?_
         refine zt (zp (loopQ.ret H ?_))<;>clear H<;>intro H
         try dsimp only at H
         refine zh (zp (loopQ.ret H ?_))<;>clear H<;>intro H
         try dsimp only at H
         cases H
         exact zh (zv (zf hQ))
        ·refine zk (zo (ze ?_))
         exact zu H [0,1,2] [2,3,5,7,8,66,67,68] (f8_L3c ..)
       ·refine zx (zy (loopQ.exit H ?_))<;>clear H<;>intro H
        try dsimp only at H
        refine zi (zo (ze ?_))
        exact zu H [0,1,2] [2,3,5,7,8] (f8_L1c ..)
     ·refine zx (zy (loopQ.exit H ?_))<;>clear H<;>intro H
      try dsimp only at H
      refine zi (zm (zq (zr ?_)))
      refine zd ?_
      refine zU H [0,1,2] [2,3,5,7,77] (f8_L2c ..) ?_<;>clear H
      rintro xg x_ st0_ H hst_
      rw[f8_L2c] at hst_
      simp only[f8_L2] at H
      subst hst_
      refine zr ?_
      refine zq (ic H ?_ ?_)<;>clear H<;>intro H
      ·refine zk (zm (zb (zr ?_)))
       refine zr ?_
       refine pu H f21_im ?_<;>clear H<;>intro xh H
       refine zE0 ?_
       refine zr ?_
       refine ig H ?_ ?_<;>clear H<;>intro H
       ·refine zs ?_
        refine za (zr ?_)
        refine zt (zp (loopQ.ret H ?_))<;>clear H<;>intro H
        try dsimp only at H
        cases H
        exact zh (zv (zf hQ))
       ·refine zs ?_
        refine evTs_flat hFn H (fun _ h=>f31_32_ok h) (by rfl) (by rfl) (by simp only[deep_eq,imm_simps,imm_rowE,imm_ptrE,imm_enc,imm_mrefE,imm_mpE,imm_arowE,omap_simps,take_map_len,take_map_set,take_map_set2,List.length_set,le_refl_true,Nat.zero_add,and_true,true_and,List.drop_zero,Option.map_some,wm,↓wk,↓wl,nq,evV,↓reduceIte,sevalprocAttr];rfl) (by rfl) (fun _=>rfl) (fun _=>rfl) ?_<;>clear H<;>intro xi H
        refine zE0 ?_
        refine ic H ?_ ?_<;>clear H<;>intro H
        ·refine zr ?_
         refine zt (zp (loopQ.ret H ?_))<;>clear H<;>intro H
         try dsimp only at H
         cases H
         exact zh (zv (zf hQ))
        ·refine zk (zo (ze ?_))
         exact zu H [0,1,2] [2,3,5,7,77] (f8_L2c ..)
      ·refine zx (zy (loopQ.exit H ?_))<;>clear H<;>intro H
       try dsimp only at H
       refine zi (zm (zr ?_))
       refine ig H ?_ ?_<;>clear H<;>intro H
       ·refine zs ?_
        refine pu H f33_ok ?_<;>clear H<;>intro xj H
        refine zE0 ?_
        refine ig H ?_ ?_<;>clear H<;>intro H
        ·refine zs ?_
         refine pu H f12_ok ?_<;>clear H<;>intro xk H
         refine zE0 ?_
         cases H
         exact zt (zf hQ)
        ·refine zs ?_
         cases H
         exact zt (zf hQ)
       ·refine zs ?_
        cases H
        exact zt (zf hQ)
end
end Go.Proofs.YtnaemmpcffnbkaaGreatDoor
