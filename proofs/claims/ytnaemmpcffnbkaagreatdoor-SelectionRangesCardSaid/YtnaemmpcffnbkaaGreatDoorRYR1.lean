import Derived.Test.YtnaemmpcffnbkaaGreatDoorRX3
import Derived.Test.YtnaemmpcffnbkaaGreatDoorRM9
import Derived.Test.YtnaemmpcffnbkaaGreatDoorRM6
import Derived.Test.YtnaemmpcffnbkaaGreatDoorProg
import Derived.KernelRfl
import Derived.Test.YtnaemmpcffnbkaaGreatDoorRMQ
import Derived.Test.YtnaemmpcffnbkaaGreatDoorRMK
namespace Go.Proofs.YtnaemmpcffnbkaaGreatDoor
open Go Go.Ab
set_option maxHeartbeats 1000000
set_option maxRecDepth 100000
set_option linter.unusedSimpArgs false
set_option linter.unusedVariables false
noncomputable section
structure Ref06Range where
  fFrom:Int
  fTo:Int
def eRef06Range(x:Ref06Range):AV:=.agg [.int .i64 x.fFrom,.int .i64 x.fTo]
instance:IsFlat eRef06Range:=⟨fun _=>rfl⟩
instance:IsEnc 2 eRef06Range:=⟨fun _=>rfl,fun _=>rfl,fun _=>rfl⟩
def f41_L1(x0:(List ApiGroup)):Lp (Int) ((Unit)⊕(Unit)) where
  body:=fun x1=>(if (decide (x1<((x0.length:Nat):Int)))=true then (if (decide (x1<60))=true then (at? x0 x1).bind fun x2=>(if (decide (40<((x2.fChannels.length:Nat):Int)))=true then (at? x0 x1).bind fun x3=>(if (decide (((x3.fChannels.length:Nat):Int)≤256))=true then (some (.brk (Sum.inr ()))) else (some (.next (IntKind.i64.wrap (x1 + 1))))) else (some (.next (IntKind.i64.wrap (x1 + 1))))) else (some (.brk (Sum.inl ())))) else (some (.brk (Sum.inl ()))))
  cst:=fun x1=>⟨put (put (fun _=>.junk) 3 (.int .i64 x1)) 0 (.sl 2 false (x0.map eApiGroup)),[]⟩
theorem f41_L1c(x0:(List ApiGroup))(x1:Int):(f41_L1 x0).cst x1=⟨put (put (fun _=>.junk) 3 (.int .i64 x1)) 0 (.sl 2 false (x0.map eApiGroup)),[]⟩:=rfl
def c41_3:C:=.seq (.block 1 (.seq (.reg [iI 14 (.mv (.t 0)),iI 15 (.mv (.t 3)),iI 16 (.iaddr 2 (.t 14) (.t 15)),iI 17 (.faddr 1 (.t 16)),iI 18 (.load 0 (.t 17)),iI 19 (.len 0 (.t 18)),iI 20 (.bin .gtr (.t 19) (.c (.int .i64 40))),iI 21 (.mv (.t 20)),iG (some 22) 21 true (.mv (.t 0)),iG (some 23) 21 true (.mv (.t 3)),iG (some 24) 21 true (.iaddr 2 (.t 22) (.t 23)),iG (some 25) 21 true (.faddr 1 (.t 24)),iG (some 26) 21 true (.load 0 (.t 25)),iG (some 27) 21 true (.len 0 (.t 26)),iG (some 28) 21 true (.bin .leq (.t 27) (.c (.int .i64 256))),iI 29 (.pick (.t 21) (.t 28) (.c (.bool false)))]) (.cond (.t 29) (.seq (.reg [iI 2 (.mv (.c (.bool false)))]) .ret) (.skip)))) (.reg [iI 12 (.mv (.t 3)),iI 13 (.bin .add (.t 12) (.c (.int .i64 1))),iI 3 (.mv (.t 13))])
def c41_4:C:=.block 0 (.loop (.seq (.seq (.reg [iI 4 (.mv (.t 3)),iI 5 (.mv (.t 0)),iI 6 (.len 0 (.t 5)),iI 7 (.bin .lss (.t 4) (.t 6)),iI 8 (.mv (.t 7)),iG (some 9) 8 true (.mv (.t 3)),iG (some 10) 8 true (.bin .lss (.t 9) (.c (.int .i64 60))),iI 11 (.pick (.t 8) (.t 10) (.c (.bool false)))]) (.cond (.t 11) (.skip) (.exit 0))) c41_3))
def c41_6:C:=.seq (.seq (.reg [iI 3 (.mv (.c (.int .i64 0)))]) c41_4) (.seq (.reg [iI 30 (.mv (.t 0)),iI 31 (.len 0 (.t 30)),iI 32 (.bin .leq (.t 31) (.c (.int .i64 60))),iI 2 (.mv (.t 32))]) .ret)
def ir41:C:=.seq (.reg [iI 2 (.mv (.c (.bool false)))]) c41_6
theorem fd41:fd? Tryz.prog 41=some (33,[.slot 2],ir41):=by kernel_rfl
def f41(x0:(List ApiGroup)):Option (Bool) :=
  ((Lp.run (f41_L1 x0) 0).bind fun r_=>match r_ with | (Sum.inl _)=>(some (decide (((x0.length:Nat):Int)≤60))) | (Sum.inr _)=>(some false))
theorem f41_ok{x0:(List ApiGroup)}{r_:Bool}(H:f41 x0=some r_):Pure Tryz.prog 41 [.sl 2 false (x0.map eApiGroup)] (· = .bool r_):=by
 refine w3 fd41 fun Q hQ=>?_
 simp only[f41] at H
 refine zr ?_
 refine zq (zr ?_)
 refine zd ?_
 refine zU H [] [0,3] (f41_L1c ..) ?_<;>clear H
 rintro x1 x_ st0_ H hst_
 rw[f41_L1c] at hst_
 simp only[f41_L1] at H
 subst hst_
 refine zq (zr ?_)
 refine ig H ?_ ?_<;>clear H<;>intro H
 ·refine zs ?_
  refine ic H ?_ ?_<;>clear H<;>intro H
  ·refine zk (zm (zb (zr ?_)))
   refine ia eApiGroup H ?_<;>clear H<;>intro x2 H
   refine zE2 ?_
   refine ig H ?_ ?_<;>clear H<;>intro H
   ·refine zs ?_
    refine ia eApiGroup H ?_<;>clear H<;>intro x3 H
    refine zE2 ?_
    refine ic H ?_ ?_<;>clear H<;>intro H
    ·refine zr ?_
     refine zt (zp (loopQ.ret H ?_))<;>clear H<;>intro H
     try dsimp only at H
     cases H
     exact zh (zv (zf hQ))
    ·refine zk (zo (ze ?_))
     exact zu H [] [0,3] (f41_L1c ..)
   ·refine zs ?_
    refine zc (zk (zo (ze ?_)))
    exact zu H [] [0,3] (f41_L1c ..)
  ·refine zx (zy (loopQ.exit H ?_))<;>clear H<;>intro H
   try dsimp only at H
   refine zi (zm (zr ?_))
   cases H
   exact zt (zf hQ)
 ·refine zs ?_
  refine zc (zx (zy (loopQ.exit H ?_)))<;>clear H<;>intro H
  try dsimp only at H
  refine zi (zm (zr ?_))
  cases H
  exact zt (zf hQ)
def c11_0:C:=.seq (.reg [iI 5 (.mv (.t 0)),iI 6 (.len 0 (.t 5)),iI 7 (.bin .leq (.t 6) (.c (.int .i64 30))),iI 8 (.mv (.t 7)),iG (some 9) 8 false (.mv (.t 0)),iG (some 10) 8 false (.len 0 (.t 9)),iG (some 11) 8 false (.bin .gtr (.t 10) (.c (.int .i64 256))),iG (some 12) 8 false (.mv (.t 11)),iG (some 13) 12 true (.mv (.t 0)),iG (some 14) 12 true (.len 0 (.t 13)),iG (some 15) 12 true (.bin .lss (.t 14) (.c (.int .i64 400))),iG (some 16) 8 false (.pick (.t 12) (.t 15) (.c (.bool false))),iI 17 (.pick (.t 8) (.c (.bool true)) (.t 16)),iI 18 (.mv (.t 17)),iG (some 19) 18 true (.mv (.t 1)),iG (some 20) 18 true (.call (.c (.fn 41 [])) [(.t 19)]),iI 21 (.pick (.t 18) (.t 20) (.c (.bool false))),iI 4 (.mv (.t 21))]) .ret
def ir11:C:=.seq (.reg [iI 4 (.mv (.c (.bool false)))]) c11_0
theorem fd11:fd? Tryz.prog 11=some (22,[.slot 4],ir11):=by kernel_rfl
def f11(x0:(List ApiSelect))(x1:(List ApiGroup)):Option (Bool) :=
  (if (decide (((x0.length:Nat):Int)≤30))=true then (f41 x1).bind fun x2=>(some x2) else (if (decide (256<((x0.length:Nat):Int)))=true then (if (decide (((x0.length:Nat):Int)<400))=true then (f41 x1).bind fun x3=>(some x3) else (some false)) else (some false)))
theorem f11_ok{x0:(List ApiSelect)}{x1:(List ApiGroup)}{r_:Bool}(H:f11 x0 x1=some r_):Pure Tryz.prog 11 [.sl 4 false (x0.map eApiSelect),.sl 2 false (x1.map eApiGroup)] (· = .bool r_):=by
 refine w3 fd11 fun Q hQ=>?_
 simp only[f11] at H
 refine zr ?_
 refine zr ?_
 refine ig H ?_ ?_<;>clear H<;>intro H
 ·refine zs ?_
  refine pu H f41_ok ?_<;>clear H<;>intro x2 H
  refine zE0 ?_
  cases H
  exact zt (zf hQ)
 ·refine zs ?_
  refine ig H ?_ ?_<;>clear H<;>intro H
  ·refine zs ?_
   refine ig H ?_ ?_<;>clear H<;>intro H
   ·refine zs ?_
    refine pu H f41_ok ?_<;>clear H<;>intro x3 H
    refine zE0 ?_
    cases H
    exact zt (zf hQ)
   ·refine zs ?_
    cases H
    exact zt (zf hQ)
  ·refine zs ?_
   cases H
   exact zt (zf hQ)
def f52_J1(x0:ApiSelect):Jn (Unit) (Int) where
  run:=fun _=>(if (decide (x0.fGroup≠0))=true then (if (decide (x0.fFrom≠0))=true then (some 3) else (if (decide (x0.fTo≠0))=true then (some 3) else (if (decide (x0.fGroup<1))=true then (some 2) else (if (decide (1048576<x0.fGroup))=true then (some 2) else (some 0))))) else (if (decide (x0.fFrom<1))=true then (some 2) else (if (decide (999<x0.fFrom))=true then (some 2) else (if (decide (x0.fTo<1))=true then (some 2) else (if (decide (999<x0.fTo))=true then (some 2) else (if (decide (x0.fTo<x0.fFrom))=true then (some 9) else (some 0)))))))
  cst:=fun _=>⟨put (fun _=>.junk) 1 (.ptr 0 0),[.cel [.int .i64 x0.fOp,.int .i64 x0.fGroup,.int .i64 x0.fFrom,.int .i64 x0.fTo]]⟩
theorem f52_J1c(x0:ApiSelect)(x_:Unit):(f52_J1 x0).cst x_=⟨put (fun _=>.junk) 1 (.ptr 0 0),[.cel [.int .i64 x0.fOp,.int .i64 x0.fGroup,.int .i64 x0.fFrom,.int .i64 x0.fTo]]⟩:=rfl
def c52_4:C:=.seq (.seq (.reg [iI 22 (.faddr 1 (.t 1)),iI 23 (.load 0 (.t 22)),iI 24 (.bin .lss (.t 23) (.c (.int .i64 1))),iI 25 (.mv (.t 24)),iG (some 26) 25 false (.faddr 1 (.t 1)),iG (some 27) 25 false (.load 0 (.t 26)),iG (some 28) 25 false (.bin .gtr (.t 27) (.c (.int .i64 1048576))),iI 29 (.pick (.t 25) (.c (.bool true)) (.t 28))]) (.cond (.t 29) (.seq (.reg [iI 2 (.mv (.c (.int .i64 2)))]) .ret) (.skip))) (.seq (.reg [iI 2 (.mv (.c (.int .i64 0)))]) .ret)
def c52_5:C:=.cond (.t 13) (.seq (.seq (.reg [iI 14 (.faddr 2 (.t 1)),iI 15 (.load 0 (.t 14)),iI 16 (.bin .neq (.t 15) (.c (.int .i64 0))),iI 17 (.mv (.t 16)),iG (some 18) 17 false (.faddr 3 (.t 1)),iG (some 19) 17 false (.load 0 (.t 18)),iG (some 20) 17 false (.bin .neq (.t 19) (.c (.int .i64 0))),iI 21 (.pick (.t 17) (.c (.bool true)) (.t 20))]) (.cond (.t 21) (.seq (.reg [iI 2 (.mv (.c (.int .i64 3)))]) .ret) (.skip))) c52_4) (.skip)
def c52_9:C:=.seq (.seq (.reg [iI 48 (.faddr 3 (.t 1)),iI 49 (.load 0 (.t 48)),iI 50 (.faddr 2 (.t 1)),iI 51 (.load 0 (.t 50)),iI 52 (.bin .lss (.t 49) (.t 51))]) (.cond (.t 52) (.seq (.reg [iI 2 (.mv (.c (.int .i64 9)))]) .ret) (.skip))) (.seq (.reg [iI 2 (.mv (.c (.int .i64 0)))]) .ret)
def c52_10:C:=.seq (.seq (.reg [iI 30 (.faddr 2 (.t 1)),iI 31 (.load 0 (.t 30)),iI 32 (.bin .lss (.t 31) (.c (.int .i64 1))),iI 33 (.mv (.t 32)),iG (some 34) 33 false (.faddr 2 (.t 1)),iG (some 35) 33 false (.load 0 (.t 34)),iG (some 36) 33 false (.bin .gtr (.t 35) (.c (.int .i64 999))),iI 37 (.pick (.t 33) (.c (.bool true)) (.t 36)),iI 38 (.mv (.t 37)),iG (some 39) 38 false (.faddr 3 (.t 1)),iG (some 40) 38 false (.load 0 (.t 39)),iG (some 41) 38 false (.bin .lss (.t 40) (.c (.int .i64 1))),iI 42 (.pick (.t 38) (.c (.bool true)) (.t 41)),iI 43 (.mv (.t 42)),iG (some 44) 43 false (.faddr 3 (.t 1)),iG (some 45) 43 false (.load 0 (.t 44)),iG (some 46) 43 false (.bin .gtr (.t 45) (.c (.int .i64 999))),iI 47 (.pick (.t 43) (.c (.bool true)) (.t 46))]) (.cond (.t 47) (.seq (.reg [iI 2 (.mv (.c (.int .i64 2)))]) .ret) (.skip))) c52_9
def c52_12:C:=.seq (.seq (.reg [iI 3 (.faddr 0 (.t 1)),iI 4 (.load 0 (.t 3)),iI 5 (.bin .neq (.t 4) (.c (.int .i64 0))),iI 6 (.mv (.t 5)),iG (some 7) 6 true (.faddr 0 (.t 1)),iG (some 8) 6 true (.load 0 (.t 7)),iG (some 9) 6 true (.bin .neq (.t 8) (.c (.int .i64 1))),iI 10 (.pick (.t 6) (.t 9) (.c (.bool false)))]) (.cond (.t 10) (.seq (.reg [iI 2 (.mv (.c (.int .i64 1)))]) .ret) (.skip))) (.seq (.seq (.reg [iI 11 (.faddr 1 (.t 1)),iI 12 (.load 0 (.t 11)),iI 13 (.bin .neq (.t 12) (.c (.int .i64 0)))]) c52_5) c52_10)
def ir52:C:=.seq (.reg [iI 1 (.box (.t 0)),iI 2 (.mv (.c (.int .i64 0)))]) c52_12
theorem fd52:fd? Tryz.prog 52=some (53,[.slot 2],ir52):=by kernel_rfl
def f52(x0:ApiSelect):Option (Int) :=
  (if (decide (x0.fOp≠0))=true then (if (decide (x0.fOp≠1))=true then (some 1) else ((f52_J1 x0).run ())) else ((f52_J1 x0).run ()))
theorem f52_ok{x0:ApiSelect}{r_:Int}(H:f52 x0=some r_):Pure Tryz.prog 52 [.agg [.int .i64 x0.fOp,.int .i64 x0.fGroup,.int .i64 x0.fFrom,.int .i64 x0.fTo]] (· = .int .i64 r_):=by
 refine w3 fd52 fun Q hQ=>?_
 simp only[f52] at H
 refine zr ?_
 refine AW.join (f52_J1 x0) H ?_ fun hf52_J1=>?_
 ·clear H
  rintro _ st0_ H hst_
  rw[f52_J1c] at hst_
  simp only[f52_J1] at H
  subst hst_
  refine zq (zr ?_)
  refine ic H ?_ ?_<;>clear H<;>intro H
  ·refine zq (zr ?_)
   refine ig H ?_ ?_<;>clear H<;>intro H
   ·refine zs ?_
    refine za (zr ?_)
    cases H
    exact zt (zv (zv (zf hQ)))
   ·refine zs ?_
    refine ic H ?_ ?_<;>clear H<;>intro H
    ·refine zr ?_
     cases H
     exact zt (zv (zv (zf hQ)))
    ·refine zk (zm (zq (zr ?_)))
     refine ig H ?_ ?_<;>clear H<;>intro H
     ·refine zs ?_
      refine za (zr ?_)
      cases H
      exact zt (zv (zv (zf hQ)))
     ·refine zs ?_
      refine ic H ?_ ?_<;>clear H<;>intro H
      ·refine zr ?_
       cases H
       exact zt (zv (zv (zf hQ)))
      ·refine zk (zm (zr ?_))
       cases H
       exact zt (zv (zf hQ))
  ·refine zk (zm (zq (zr ?_)))
   refine ig H ?_ ?_<;>clear H<;>intro H
   ·refine zs ?_
    refine za (zr ?_)
    cases H
    exact zt (zv (zf hQ))
   ·refine zs ?_
    refine ig H ?_ ?_<;>clear H<;>intro H
    ·refine zs ?_
     refine za (zr ?_)
     cases H
     exact zt (zv (zf hQ))
    ·refine zs ?_
     refine ig H ?_ ?_<;>clear H<;>intro H
     ·refine zs ?_
      refine za (zr ?_)
      cases H
      exact zt (zv (zf hQ))
     ·refine zs ?_
      refine ic H ?_ ?_<;>clear H<;>intro H
      ·refine zr ?_
       cases H
       exact zt (zv (zf hQ))
      ·refine zk (zm (zq (zr ?_)))
       refine ic H ?_ ?_<;>clear H<;>intro H
       ·refine zr ?_
        cases H
        exact zt (zv (zf hQ))
       ·refine zk (zm (zr ?_))
        cases H
        exact zt (zf hQ)
 ·refine zr ?_
  refine ig H ?_ ?_<;>clear H<;>intro H
  ·refine zs ?_
   refine ic H ?_ ?_<;>clear H<;>intro H
   ·refine zr ?_
    cases H
    exact zt (zv (zf hQ))
   ·refine zk (zm ?_)
    exact hf52_J1 _ _ H ((Le.tz [0] [1] (by simp only[f52_J1c,wm,wmr,rrm,↓wk,↓wl,evV,↓reduceIte,sevalprocAttr]<;>rfl)))
  ·refine zs ?_
   refine zc (zk (zm ?_))
   exact hf52_J1 _ _ H ((Le.tz [0] [1] (by simp only[f52_J1c,wm,wmr,rrm,↓wk,↓wl,evV,↓reduceIte,sevalprocAttr]<;>rfl)))
def f16_L1(x0:(List ApiSelect)):Lp (Int) ((Unit)⊕(Int)) where
  body:=fun x1=>(if (decide (x1<((x0.length:Nat):Int)))=true then (at? x0 x1).bind fun x2=>(f52 x2).bind fun x3=>(if (decide (x3≠0))=true then (some (.brk (Sum.inr x3))) else (some (.next (IntKind.i64.wrap (x1 + 1))))) else (some (.brk (Sum.inl ()))))
  cst:=fun x1=>⟨put (put (fun _=>.junk) 3 (.int .i64 x1)) 0 (.sl 4 false (x0.map eApiSelect)),[]⟩
theorem f16_L1c(x0:(List ApiSelect))(x1:Int):(f16_L1 x0).cst x1=⟨put (put (fun _=>.junk) 3 (.int .i64 x1)) 0 (.sl 4 false (x0.map eApiSelect)),[]⟩:=rfl
def c16_3:C:=.seq (.reg [iI 19 (.mv (.t 4)),iI 20 (.bin .neq (.t 19) (.c (.int .i64 0)))]) (.cond (.t 20) (.seq (.reg [iI 21 (.mv (.t 4)),iI 2 (.mv (.t 21))]) .ret) (.skip))
def c16_5:C:=.seq (.block 1 (.seq (.reg [iI 14 (.mv (.t 0)),iI 15 (.mv (.t 3)),iI 16 (.iaddr 4 (.t 14) (.t 15)),iI 17 (.load 4 (.t 16)),iI 18 (.call (.c (.fn 52 [])) [(.t 17)]),iI 4 (.mv (.t 18))]) c16_3)) (.reg [iI 12 (.mv (.t 3)),iI 13 (.bin .add (.t 12) (.c (.int .i64 1))),iI 3 (.mv (.t 13))])
def c16_6:C:=.block 0 (.loop (.seq (.seq (.reg [iI 8 (.mv (.t 3)),iI 9 (.mv (.t 0)),iI 10 (.len 0 (.t 9)),iI 11 (.bin .lss (.t 8) (.t 10))]) (.cond (.t 11) (.skip) (.exit 0))) c16_5))
def c16_9:C:=.seq (.seq (.reg [iI 5 (.mv (.t 0)),iI 6 (.len 0 (.t 5)),iI 7 (.bin .gtr (.t 6) (.c (.int .i64 256)))]) (.cond (.t 7) (.seq (.reg [iI 2 (.mv (.c (.int .i64 5)))]) .ret) (.skip))) (.seq (.seq (.reg [iI 3 (.mv (.c (.int .i64 0)))]) c16_6) (.seq (.reg [iI 2 (.mv (.c (.int .i64 0)))]) .ret))
def ir16:C:=.seq (.reg [iI 2 (.mv (.c (.int .i64 0)))]) c16_9
theorem fd16:fd? Tryz.prog 16=some (22,[.slot 2],ir16):=by kernel_rfl
def f16(x0:(List ApiSelect)):Option (Int) :=
  (if (decide (256<((x0.length:Nat):Int)))=true then (some 5) else ((Lp.run (f16_L1 x0) 0).bind fun r_=>match r_ with | (Sum.inl _)=>(some 0) | (Sum.inr x1)=>(some x1)))
theorem f16_ok{x0:(List ApiSelect)}{r_:Int}(H:f16 x0=some r_):Pure Tryz.prog 16 [.sl 4 false (x0.map eApiSelect)] (· = .int .i64 r_):=by
 refine w3 fd16 fun Q hQ=>?_
 simp only[f16] at H
 refine zr ?_
 refine zq (zr ?_)
 refine ic H ?_ ?_<;>clear H<;>intro H
 ·refine zr ?_
  cases H
  exact zt (zv (zf hQ))
 ·refine zk (zm (zq (zr ?_)))
  refine zd ?_
  refine zU H [] [0,3] (f16_L1c ..) ?_<;>clear H
  rintro x1 x_ st0_ H hst_
  rw[f16_L1c] at hst_
  simp only[f16_L1] at H
  subst hst_
  refine zq (zr ?_)
  refine ic H ?_ ?_<;>clear H<;>intro H
  ·refine zk (zm (zb (zr ?_)))
   refine ia eApiSelect H ?_<;>clear H<;>intro x2 H
   refine zE1 ?_
   refine pu H f52_ok ?_<;>clear H<;>intro x3 H
   refine zE0 ?_
   refine zr ?_
   refine ic H ?_ ?_<;>clear H<;>intro H
   ·refine zr ?_
    refine zt (zp (loopQ.ret H ?_))<;>clear H<;>intro H
    try dsimp only at H
    cases H
    exact zh (zv (zf hQ))
   ·refine zk (zo (ze ?_))
    exact zu H [] [0,3] (f16_L1c ..)
  ·refine zx (zy (loopQ.exit H ?_))<;>clear H<;>intro H
   try dsimp only at H
   refine zi (zm (zr ?_))
   cases H
   exact zt (zf hQ)
def f38_L2(x0:(List Ref06Range))(x1:Int):Lp (Int×(List Int)) ((List Int)) where
  body:=fun (x2,x3)=>(at? x0 x1).bind fun x4=>(if (decide (x2≤x4.fTo))=true then (app? 8 x3 ([x2])).bind fun x5=>(some (.next ((IntKind.i64.wrap (x2 + 1)),x5))) else (some (.brk x3)))
  cst:=fun (x2,x3)=>⟨put (put (put (put (fun _=>.junk) 5 (.int .i64 x2)) 4 (.int .i64 x1)) 3 (.row 0 0 0 x3.length)) 0 (.sl 2 false (x0.map eRef06Range)),[.els 0 (x3.map (AV.int .i64))]⟩
theorem f38_L2c(x0:(List Ref06Range))(x1:Int)(x2:Int)(x3:(List Int)):(f38_L2 x0 x1).cst (x2,x3)=⟨put (put (put (put (fun _=>.junk) 5 (.int .i64 x2)) 4 (.int .i64 x1)) 3 (.row 0 0 0 x3.length)) 0 (.sl 2 false (x0.map eRef06Range)),[.els 0 (x3.map (AV.int .i64))]⟩:=rfl
def f38_L1(x0:(List Ref06Range)):Lp (Int×(List Int)) ((List Int)) where
  body:=fun (x1,x2)=>(if (decide (x1<((x0.length:Nat):Int)))=true then (at? x0 x1).bind fun x3=>(Lp.run (f38_L2 x0 x1) (x3.fFrom,x2)).bind fun x4=>(some (.next ((IntKind.i64.wrap (x1 + 1)),x4))) else (some (.brk x2)))
  cst:=fun (x1,x2)=>⟨put (put (put (fun _=>.junk) 4 (.int .i64 x1)) 3 (.row 0 0 0 x2.length)) 0 (.sl 2 false (x0.map eRef06Range)),[.els 0 (x2.map (AV.int .i64))]⟩
theorem f38_L1c(x0:(List Ref06Range))(x1:Int)(x2:(List Int)):(f38_L1 x0).cst (x1,x2)=⟨put (put (put (fun _=>.junk) 4 (.int .i64 x1)) 3 (.row 0 0 0 x2.length)) 0 (.sl 2 false (x0.map eRef06Range)),[.els 0 (x2.map (AV.int .i64))]⟩:=rfl
def c38_3:C:=.seq (.block 3 (.reg [iI 26 (.mv (.t 3)),iI 27 (.mv (.t 5)),iI 28 (.mkslp 0 1 (.int .i64 0) [(0,(.t 27))]),iI 29 (.append 0 8 (.t 26) (.t 28)),iI 3 (.mv (.t 29))])) (.reg [iI 24 (.mv (.t 5)),iI 25 (.bin .add (.t 24) (.c (.int .i64 1))),iI 5 (.mv (.t 25))])
def c38_4:C:=.block 2 (.loop (.seq (.seq (.reg [iI 17 (.mv (.t 5)),iI 18 (.mv (.t 0)),iI 19 (.mv (.t 4)),iI 20 (.iaddr 2 (.t 18) (.t 19)),iI 21 (.faddr 1 (.t 20)),iI 22 (.load 0 (.t 21)),iI 23 (.bin .leq (.t 17) (.t 22))]) (.cond (.t 23) (.skip) (.exit 2))) c38_3))
def c38_6:C:=.seq (.block 1 (.seq (.reg [iI 12 (.mv (.t 0)),iI 13 (.mv (.t 4)),iI 14 (.iaddr 2 (.t 12) (.t 13)),iI 15 (.faddr 0 (.t 14)),iI 16 (.load 0 (.t 15)),iI 5 (.mv (.t 16))]) c38_4)) (.reg [iI 10 (.mv (.t 4)),iI 11 (.bin .add (.t 10) (.c (.int .i64 1))),iI 4 (.mv (.t 11))])
def c38_7:C:=.block 0 (.loop (.seq (.seq (.reg [iI 6 (.mv (.t 4)),iI 7 (.mv (.t 0)),iI 8 (.len 0 (.t 7)),iI 9 (.bin .lss (.t 6) (.t 8))]) (.cond (.t 9) (.skip) (.exit 0))) c38_6))
def c38_10:C:=.seq (.reg [iI 3 (.mv (.c (.sl 0 true [])))]) (.seq (.seq (.reg [iI 4 (.mv (.c (.int .i64 0)))]) c38_7) (.seq (.reg [iI 30 (.mv (.t 3)),iI 2 (.mv (.t 30))]) .ret))
def ir38:C:=.seq (.reg [iI 2 (.mv (.c (.sl 0 true [])))]) c38_10
theorem fd38:fd? Tryz.prog 38=some (31,[.slot 2],ir38):=by kernel_rfl
def f38(x0:(List Ref06Range)):Option ((List Int)) :=
  (Lp.run (f38_L1 x0) (0,[])).bind fun x1=>(some x1)
theorem f38_ok{x0:(List Ref06Range)}{r_:(List Int)}(H:f38 x0=some r_):Pure Tryz.prog 38 [.sl 2 false (x0.map eRef06Range)] (· = .fr 0 (r_.map (AV.int .i64))):=by
 refine w3s fd38 0 fun Q hQ=>?_
 simp only[f38] at H
 refine zr ?_
 refine zr ?_
 refine zq (zr ?_)
 refine zd ?_
 refine AW.iter H ((Le.trans (Le.nilRow (i:=3) (e:=0) (by simp only[↓wk,↓wl,nq,evV,↓reduceIte,sevalprocAttr])) (Le.tz [0] [0,3,4] (by simp only[f38_L1c,wm,wmr,rrm,↓wk,↓wl,evV,↓reduceIte,sevalprocAttr]<;>rfl)))) ?_<;>clear H
 rintro ⟨x1,x2⟩ x_ st0_ H hst_
 rw[f38_L1c] at hst_
 simp only[f38_L1] at H
 subst hst_
 refine zq (zr ?_)
 refine ic H ?_ ?_<;>clear H<;>intro H
 ·refine zk (zm (zb (zr ?_)))
  refine ia eRef06Range H ?_<;>clear H<;>intro x3 H
  refine zE11 ?_
  refine zd ?_
  refine zU H [0] [0,3,4,5] (f38_L2c ..) ?_<;>clear H
  rintro ⟨x4,x5⟩ x_ st0_ H hst_
  rw[f38_L2c] at hst_
  simp only[f38_L2] at H
  subst hst_
  refine zq (zr ?_)
  refine ia eRef06Range H ?_<;>clear H<;>intro x6 H
  refine zE11 ?_
  refine ic H ?_ ?_<;>clear H<;>intro H
  ·refine zk (zm (zb (ze ?_)))
   refine ap (AV.int .i64) H ?_<;>clear H<;>intro x7 H
   refine zs ?_
   refine zo (ze ?_)
   exact zu H [1] [0,3,4,5] (f38_L2c ..)
  ·refine zx (zy (loopQ.exit H ?_))<;>clear H<;>intro H
   try dsimp only at H
   refine zi (zo (ze ?_))
   exact zu H [0] [0,3,4] (f38_L1c ..)
 ·refine zx (zy (loopQ.exit H ?_))<;>clear H<;>intro H
  try dsimp only at H
  refine zi (zm (zr ?_))
  cases H
  exact zt (zf2 hQ)
theorem f38_im{x0:(List Ref06Range)}{r_:(List Int)}(H:f38 x0=some r_):Pure Tryz.prog 38 [.sl 2 false (x0.map eRef06Range)] (· = .sl 0 false (r_.map (AV.int .i64))):=(f38_ok H).unfr (by first | exact enc_fits _ | simp only[frFits,List.all_cons,List.all_nil,enc_fits,Bool.and_self])
def f117_J2(x0:(List Bool))(x1:Int):Jn ((List Ref06Range)) (Ctl (Int×(List Ref06Range)) ((List Ref06Range))) where
  run:=fun x2=>(at? x0 x1).bind fun x3=>(if x3=true then (at? x2 (IntKind.i64.wrap (((x2.length:Nat):Int) - 1))).bind fun x4=>(some (.next ((IntKind.i64.wrap (x1 + 1)),(x2.set (IntKind.i64.wrap (((x2.length:Nat):Int) - 1)).toNat (Ref06Range.mk x4.fFrom x1))))) else (some (.next ((IntKind.i64.wrap (x1 + 1)),x2))))
  cst:=fun x2=>⟨put (put (put (fun _=>.junk) 4 (.int .i64 x1)) 3 (.row 2 0 0 x2.length)) 0 (.sl 0 false (x0.map AV.bool)),[.els 2 (x2.map eRef06Range)]⟩
theorem f117_J2c(x0:(List Bool))(x1:Int)(x2:(List Ref06Range)):(f117_J2 x0 x1).cst x2=⟨put (put (put (fun _=>.junk) 4 (.int .i64 x1)) 3 (.row 2 0 0 x2.length)) 0 (.sl 0 false (x0.map AV.bool)),[.els 2 (x2.map eRef06Range)]⟩:=rfl
def f117_L1(x0:(List Bool)):Lp (Int×(List Ref06Range)) ((List Ref06Range)) where
  body:=fun (x1,x2)=>(if (decide (x1≤999))=true then (at? x0 x1).bind fun x3=>(if x3=true then (at? x0 (IntKind.i64.wrap (x1 - 1))).bind fun x4=>(if (!x4)=true then (app? 16 x2 ([(Ref06Range.mk x1 x1)])).bind fun x5=>((f117_J2 x0 x1).run x5) else ((f117_J2 x0 x1).run x2)) else ((f117_J2 x0 x1).run x2)) else (some (.brk x2)))
  cst:=fun (x1,x2)=>⟨put (put (put (fun _=>.junk) 4 (.int .i64 x1)) 3 (.row 2 0 0 x2.length)) 0 (.sl 0 false (x0.map AV.bool)),[.els 2 (x2.map eRef06Range)]⟩
theorem f117_L1c(x0:(List Bool))(x1:Int)(x2:(List Ref06Range)):(f117_L1 x0).cst (x1,x2)=⟨put (put (put (fun _=>.junk) 4 (.int .i64 x1)) 3 (.row 2 0 0 x2.length)) 0 (.sl 0 false (x0.map AV.bool)),[.els 2 (x2.map eRef06Range)]⟩:=rfl
def c117_1:C:=.cond (.t 20) (.reg [iI 21 (.mv (.t 3)),iI 22 (.mv (.t 4)),iI 23 (.mv (.t 4)),iI 24 (.build [(1,(.int .i64 0)),(1,(.int .i64 0))] [(0,0,(.t 22)),(1,0,(.t 23))]),iI 25 (.mkslp 2 1 (.agg [(.int .i64 0),(.int .i64 0)]) [(0,(.t 24))]),iI 26 (.append 2 16 (.t 21) (.t 25)),iI 3 (.mv (.t 26))]) (.skip)
def c117_2:C:=.cond (.t 30) (.reg [iI 31 (.mv (.t 3)),iI 32 (.mv (.t 3)),iI 33 (.len 0 (.t 32)),iI 34 (.bin .sub (.t 33) (.c (.int .i64 1))),iI 35 (.mv (.t 4)),iI 36 (.iaddr 2 (.t 31) (.t 34)),iI 37 (.faddr 1 (.t 36)),iN (.store 0 (.t 37) (.t 35))]) (.skip)
def c117_5:C:=.seq (.block 1 (.seq (.seq (.reg [iI 9 (.mv (.t 0)),iI 10 (.mv (.t 4)),iI 11 (.iaddr 0 (.t 9) (.t 10)),iI 12 (.load 0 (.t 11)),iI 13 (.mv (.t 12)),iG (some 14) 13 true (.mv (.t 0)),iG (some 15) 13 true (.mv (.t 4)),iG (some 16) 13 true (.bin .sub (.t 15) (.c (.int .i64 1))),iG (some 17) 13 true (.iaddr 0 (.t 14) (.t 16)),iG (some 18) 13 true (.load 0 (.t 17)),iG (some 19) 13 true (.un .not (.t 18)),iI 20 (.pick (.t 13) (.t 19) (.c (.bool false)))]) c117_1) (.seq (.reg [iI 27 (.mv (.t 0)),iI 28 (.mv (.t 4)),iI 29 (.iaddr 0 (.t 27) (.t 28)),iI 30 (.load 0 (.t 29))]) c117_2))) (.reg [iI 7 (.mv (.t 4)),iI 8 (.bin .add (.t 7) (.c (.int .i64 1))),iI 4 (.mv (.t 8))])
def c117_8:C:=.seq (.seq (.reg [iI 4 (.mv (.c (.int .i64 1)))]) (.block 0 (.loop (.seq (.seq (.reg [iI 5 (.mv (.t 4)),iI 6 (.bin .leq (.t 5) (.c (.int .i64 999)))]) (.cond (.t 6) (.skip) (.exit 0))) c117_5)))) (.seq (.reg [iI 38 (.mv (.t 3)),iI 2 (.mv (.t 38))]) .ret)
def ir117:C:=.seq (.reg [iI 2 (.mv (.c (.sl 2 true [])))]) (.seq (.reg [iI 3 (.mv (.c (.sl 2 true [])))]) c117_8)
theorem fd117:fd? Tryz.prog 117=some (39,[.slot 2],ir117):=by kernel_rfl
def f117(x0:(List Bool)):Option ((List Ref06Range)) :=
  (Lp.run (f117_L1 x0) (1,[])).bind fun x1=>(some x1)
theorem f117_ok{x0:(List Bool)}{r_:(List Ref06Range)}(H:f117 x0=some r_):Pure Tryz.prog 117 [.sl 0 false (x0.map AV.bool)] (· = .fr 2 (r_.map eRef06Range)):=by
 refine w3s fd117 0 fun Q hQ=>?_
 simp only[f117] at H
 refine AW.rseq ?_
 try simp only[wm,↓wk,↓wl,nqs,evV,↓reduceIte,sevalprocAttr]
 refine AW.rseq ?_
 try simp only[wm,↓wk,↓wl,nqs,evV,↓reduceIte,sevalprocAttr]
 refine zq (AW.rseq ?_)
 try simp only[wm,↓wk,↓wl,nqs,evV,↓reduceIte,sevalprocAttr]
 refine zd ?_
 refine AW.iter H ((Le.trans (Le.nilRow (i:=3) (e:=2) (by simp only[↓wk,↓wl,nq,evV,↓reduceIte,sevalprocAttr])) (Le.tz [0] [0,3,4] (by simp only[f117_L1c,wm,wmr,rrm,↓wk,↓wl,evV,↓reduceIte,sevalprocAttr]<;>rfl)))) ?_<;>clear H
 rintro ⟨x1,x2⟩ x_ st0_ H hst_
 rw[f117_L1c] at hst_
 simp only[f117_L1] at H
 subst hst_
 refine zq (AW.rseq ?_)
 try simp only[wm,↓wk,↓wl,nqs,evV,↓reduceIte,sevalprocAttr]
 refine ic H ?_ ?_<;>clear H<;>intro H
 ·refine zk (zm (zb ?_))
  refine AW.join (f117_J2 x0 x1) H ?_ fun hf117_J2=>?_
  ·clear H
   rintro x3 st0_ H hst_
   rw[f117_J2c] at hst_
   simp only[f117_J2] at H
   subst hst_
   refine AW.rseq ?_
   try simp only[wm,↓wk,↓wl,nqs,evV,↓reduceIte,sevalprocAttr]
   refine ia AV.bool H ?_<;>clear H<;>intro x4 H
   try simp only[wm,↓wk,↓wl,nqs,evV,↓reduceIte,sevalprocAttr]
   refine ic H ?_ ?_<;>clear H<;>intro H
   ·refine AW.rend ?_
    try simp only[wm,↓wk,↓wl,nqs,evV,↓reduceIte,sevalprocAttr]
    refine evTs_atr (enc:=eRef06Range) H (by rfl) (by first | rfl | simp only[List.length_set]) (by rfl) ?_<;>clear H<;>intro x5 x6 H
    try simp only[eRef06Range,eL,eM,wm,↓wk,↓wl,nqs,evV,↓reduceIte,sevalprocAttr,x6,eRef06Range,eL,eM]
    refine evTs_stE (enc:=eRef06Range) x5 (Ref06Range.mk x5.fFrom x1) (by rfl) (by rfl) x6 (by rfl) ?_
    have x7:=set_get x6 (Ref06Range.mk x5.fFrom x1)
    try simp only[eRef06Range,eL,eM,wm,↓wk,↓wl,nqs,evV,↓reduceIte,sevalprocAttr,x6,eRef06Range,eL,eM,x7]
    refine zo (AW.rend ?_)
    try simp only[wm,↓wk,↓wl,nqs,evV,↓reduceIte,sevalprocAttr,x6,eRef06Range,eL,eM,x7]
    exact loopQ.next H ((Le.tz [0] [0,3,4] (by simp only[f117_L1c,wm,wmr,rrm,↓wk,↓wl,evV,↓reduceIte,sevalprocAttr,x6,eRef06Range,eL,eM,x7]<;>rfl)))
   ·refine zk (zo (AW.rend ?_))
    try simp only[wm,↓wk,↓wl,nqs,evV,↓reduceIte,sevalprocAttr]
    exact zu H [0] [0,3,4] (f117_L1c ..)
  ·refine AW.rseq ?_
   try simp only[wm,↓wk,↓wl,nqs,evV,↓reduceIte,sevalprocAttr]
   refine ia AV.bool H ?_<;>clear H<;>intro x8 H
   try simp only[wm,↓wk,↓wl,nqs,evV,↓reduceIte,sevalprocAttr]
   refine ig H ?_ ?_<;>clear H<;>intro H
   ·try simp only[wm,↓wk,↓wl,nqs,evV,↓reduceIte,sevalprocAttr]
    refine ia AV.bool H ?_<;>clear H<;>intro x9 H
    try simp only[wm,↓wk,↓wl,nqs,evV,↓reduceIte,sevalprocAttr]
    refine ic H ?_ ?_<;>clear H<;>intro H
    ·refine AW.rend ?_
     try simp only[wm,↓wk,↓wl,nqs,evV,↓reduceIte,sevalprocAttr]
     refine ap eRef06Range H ?_<;>clear H<;>intro xa H
     try simp only[wm,↓wk,↓wl,nqs,evV,↓reduceIte,sevalprocAttr]
     refine zm ?_
     exact hf117_J2 _ _ H ((Le.tz [1] [0,3,4] (by simp only[f117_J2c,wm,wmr,rrm,↓wk,↓wl,evV,↓reduceIte,sevalprocAttr]<;>rfl)))
    ·refine zk (zm ?_)
     exact hf117_J2 _ _ H ((Le.tz [0] [0,3,4] (by simp only[f117_J2c,wm,wmr,rrm,↓wk,↓wl,evV,↓reduceIte,sevalprocAttr]<;>rfl)))
   ·try simp only[wm,↓wk,↓wl,nqs,evV,↓reduceIte,sevalprocAttr]
    refine zc (zk (zm ?_))
    exact hf117_J2 _ _ H ((Le.tz [0] [0,3,4] (by simp only[f117_J2c,wm,wmr,rrm,↓wk,↓wl,evV,↓reduceIte,sevalprocAttr]<;>rfl)))
 ·refine zx (zy (loopQ.exit H ?_))<;>clear H<;>intro H
  try dsimp only at H
  refine zi (zm (AW.rseq ?_))
  try simp only[wm,↓wk,↓wl,nqs,evV,↓reduceIte,sevalprocAttr]
  refine zt ?_
  cases H
  exact hQ _ _ _ _ (.inr rfl) (by simp only[resVs,omap,resV,wm,↓wk,↓wl,nqs,evV,↓reduceIte,sevalprocAttr];rfl) (hand_1 (by rfl) (by simp) (enc_all _)) (by first | exact Or.inl rfl | exact Or.inr rfl)
def f77_L1(x0:(List Int)):Lp (Int×(List Bool)) ((List Bool)) where
  body:=fun (x1,x2)=>(if (decide (x1<((x0.length:Nat):Int)))=true then (at? x0 x1).bind fun x3=>(at? x2 x3).bind fun x4=>(some (.next ((IntKind.i64.wrap (x1 + 1)),(x2.set x3.toNat true)))) else (some (.brk x2)))
  cst:=fun (x1,x2)=>⟨put (put (put (fun _=>.junk) 4 (.int .i64 x1)) 3 (.row 0 0 0 x2.length)) 0 (.sl 0 false (x0.map (AV.int .i64))),[.els 0 (x2.map AV.bool)]⟩
theorem f77_L1c(x0:(List Int))(x1:Int)(x2:(List Bool)):(f77_L1 x0).cst (x1,x2)=⟨put (put (put (fun _=>.junk) 4 (.int .i64 x1)) 3 (.row 0 0 0 x2.length)) 0 (.sl 0 false (x0.map (AV.int .i64))),[.els 0 (x2.map AV.bool)]⟩:=rfl
def c77_2:C:=.seq (.block 1 (.reg [iI 12 (.mv (.t 3)),iI 13 (.mv (.t 0)),iI 14 (.mv (.t 4)),iI 15 (.iaddr 0 (.t 13) (.t 14)),iI 16 (.load 0 (.t 15)),iI 17 (.iaddr 0 (.t 12) (.t 16)),iN (.store 0 (.t 17) (.c (.bool true)))])) (.reg [iI 10 (.mv (.t 4)),iI 11 (.bin .add (.t 10) (.c (.int .i64 1))),iI 4 (.mv (.t 11))])
def c77_3:C:=.block 0 (.loop (.seq (.seq (.reg [iI 6 (.mv (.t 4)),iI 7 (.mv (.t 0)),iI 8 (.len 0 (.t 7)),iI 9 (.bin .lss (.t 6) (.t 8))]) (.cond (.t 9) (.skip) (.exit 0))) c77_2))
def c77_6:C:=.seq (.reg [iI 5 (.appz 0 1 (.bool false) (.c (.sl 0 true [])) (.c (.int .i64 1001))),iI 3 (.mv (.t 5))]) (.seq (.seq (.reg [iI 4 (.mv (.c (.int .i64 0)))]) c77_3) (.seq (.reg [iI 18 (.mv (.t 3)),iI 19 (.call (.c (.fn 117 [])) [(.t 18)]),iI 2 (.mv (.t 19))]) .ret))
def ir77:C:=.seq (.reg [iI 2 (.mv (.c (.sl 2 true [])))]) c77_6
theorem fd77:fd? Tryz.prog 77=some (20,[.slot 2],ir77):=by kernel_rfl
def f77(x0:(List Int)):Option ((List Ref06Range)) :=
  (mk? 1001 false).bind fun x1=>(Lp.run (f77_L1 x0) (0,x1)).bind fun x2=>(f117 x2).bind fun x3=>(some x3)
theorem f77_ok{x0:(List Int)}{r_:(List Ref06Range)}(H:f77 x0=some r_):Pure Tryz.prog 77 [.sl 0 false (x0.map (AV.int .i64))] (· = .fr 2 (r_.map eRef06Range)):=by
 refine w3s fd77 0 fun Q hQ=>?_
 simp only[f77] at H
 refine AW.rseq ?_
 try simp only[wm,↓wk,↓wl,nqs,evV,↓reduceIte,sevalprocAttr]
 refine AW.rseq ?_
 try simp only[wm,↓wk,↓wl,nqs,evV,↓reduceIte,sevalprocAttr]
 refine evTs_mks (enc:=AV.bool) H (by rfl) (by rfl) (by decide) ?_<;>clear H<;>intro x1 H
 try simp only[wm,↓wk,↓wl,nqs,evV,↓reduceIte,sevalprocAttr]
 refine zq (AW.rseq ?_)
 try simp only[wm,↓wk,↓wl,nqs,evV,↓reduceIte,sevalprocAttr]
 refine zd ?_
 refine zU H [0] [0,3,4] (f77_L1c ..) ?_<;>clear H
 rintro ⟨x2,x3⟩ x_ st0_ H hst_
 rw[f77_L1c] at hst_
 simp only[f77_L1] at H
 subst hst_
 refine zq (AW.rseq ?_)
 try simp only[wm,↓wk,↓wl,nqs,evV,↓reduceIte,sevalprocAttr]
 refine ic H ?_ ?_<;>clear H<;>intro H
 ·refine zk (zm (zb (AW.rend ?_)))
  try simp only[wm,↓wk,↓wl,nqs,evV,↓reduceIte,sevalprocAttr]
  refine ia (AV.int .i64) H ?_<;>clear H<;>intro x4 H
  try simp only[wm,↓wk,↓wl,nqs,evV,↓reduceIte,sevalprocAttr]
  refine evTs_atr (enc:=AV.bool) H (by rfl) (by first | rfl | simp only[List.length_set]) (by rfl) ?_<;>clear H<;>intro x5 x6 H
  try simp only[wm,↓wk,↓wl,nqs,evV,↓reduceIte,sevalprocAttr,x6]
  refine evTs_stW (enc:=AV.bool) true (by rfl) (by rfl) (by first | exact lt_map x6 | (simp only[List.length_set];exact lt_map x6)) (fun _=>by rfl) ?_
  have x7:=set_get x6 true
  try simp only[wm,↓wk,↓wl,nqs,evV,↓reduceIte,sevalprocAttr,x6,x7]
  refine zo (AW.rend ?_)
  try simp only[wm,↓wk,↓wl,nqs,evV,↓reduceIte,sevalprocAttr,x6,x7]
  exact loopQ.next H ((Le.tz [0] [0,3,4] (by simp only[f77_L1c,wm,wmr,rrm,↓wk,↓wl,evV,↓reduceIte,sevalprocAttr,x6,x7]<;>rfl)))
 ·refine zx (zy (loopQ.exit H ?_))<;>clear H<;>intro H
  try dsimp only at H
  refine zi (zm (AW.rseq ?_))
  try simp only[wm,↓wk,↓wl,nqs,evV,↓reduceIte,sevalprocAttr]
  refine evTs_frR H (fun _ h=>f117_ok h) (by rfl) (by rfl) (by simp only[deep_eq,imm_simps,imm_rowE,imm_ptrE,imm_enc,imm_mrefE,imm_mpE,imm_arowE,omap_simps,take_map_len,take_map_set,take_map_set2,List.length_set,le_refl_true,Nat.zero_add,and_true,true_and,List.drop_zero,Option.map_some,wm,↓wk,↓wl,nqs,evV,↓reduceIte,sevalprocAttr];rfl) (by rfl) (fun _=>by simp only[flatR,List.all_cons,List.all_nil,flat_all,Bool.and_true];try rfl) (fun _=>rfl) ?_<;>clear H<;>intro x8 H
  try simp only[eL,wm,↓wk,↓wl,nqs,evV,↓reduceIte,sevalprocAttr]
  refine zt ?_
  cases H
  exact hQ _ _ _ _ (.inr rfl) (by simp only[resVs,omap,resV,wm,↓wk,↓wl,nqs,evV,↓reduceIte,sevalprocAttr];rfl) (hand_1 (by rfl) (by simp) (enc_all _)) (by first | exact Or.inl rfl | exact Or.inr rfl)
def c34_0:C:=.seq (.reg [iI 5 (.mv (.t 0)),iI 6 (.call (.c (.fn 38 [])) [(.t 5)]),iI 7 (.mv (.t 1)),iI 8 (.call (.c (.fn 38 [])) [(.t 7)]),iI 9 (.append 0 8 (.t 6) (.t 8)),iI 10 (.call (.c (.fn 77 [])) [(.t 9)]),iI 4 (.mv (.t 10))]) .ret
def ir34:C:=.seq (.reg [iI 4 (.mv (.c (.sl 2 true [])))]) c34_0
theorem fd34:fd? Tryz.prog 34=some (11,[.slot 4],ir34):=by kernel_rfl
def f34(x0:(List Ref06Range))(x1:(List Ref06Range)):Option ((List Ref06Range)) :=
  (f38 x0).bind fun x2=>(f38 x1).bind fun x3=>(app? 8 x2 x3).bind fun x4=>(f77 x4).bind fun x5=>(some x5)
theorem f34_ok{x0:(List Ref06Range)}{x1:(List Ref06Range)}{r_:(List Ref06Range)}(H:f34 x0 x1=some r_):Pure Tryz.prog 34 [.sl 2 false (x0.map eRef06Range),.sl 2 false (x1.map eRef06Range)] (· = .fr 2 (r_.map eRef06Range)):=by
 refine w3s fd34 0 fun Q hQ=>?_
 simp only[f34] at H
 refine zr ?_
 refine zr ?_
 refine evTs_fr H (fun _ h=>f38_ok h) (by rfl) (by rfl) (by rfl) (by rfl) (fun _=>rfl) ?_<;>clear H<;>intro x2 H
 refine zE0 ?_
 refine pu H f38_im ?_<;>clear H<;>intro x3 H
 refine zE0 ?_
 refine ap (AV.int .i64) H ?_<;>clear H<;>intro x4 H
 refine zs ?_
 refine evTs_frR H (fun _ h=>f77_ok h) (by rfl) (by rfl) (by simp only[deep_eq,imm_simps,imm_rowE,imm_ptrE,imm_enc,imm_mrefE,imm_mpE,imm_arowE,omap_simps,take_map_len,take_map_set,take_map_set2,List.length_set,le_refl_true,Nat.zero_add,and_true,true_and,List.drop_zero,Option.map_some,wm,↓wk,↓wl,nq,evV,↓reduceIte,sevalprocAttr];rfl) (by rfl) (fun _=>by simp only[flatR,List.all_cons,List.all_nil,flat_all,Bool.and_true];try rfl) (fun _=>rfl) ?_<;>clear H<;>intro x5 H
 refine zE0 ?_
 cases H
 exact zt (zf2 hQ)
theorem f34_im{x0:(List Ref06Range)}{x1:(List Ref06Range)}{r_:(List Ref06Range)}(H:f34 x0 x1=some r_):Pure Tryz.prog 34 [.sl 2 false (x0.map eRef06Range),.sl 2 false (x1.map eRef06Range)] (· = .sl 2 false (r_.map eRef06Range)):=(f34_ok H).unfr (by first | exact enc_fits _ | simp only[frFits,List.all_cons,List.all_nil,enc_fits,Bool.and_self])
def f118_L1(x0:(List Ref06Range))(x1:Int):Lp (Int) ((Unit)⊕(Unit)) where
  body:=fun x2=>(if (decide (x2<((x0.length:Nat):Int)))=true then (at? x0 x2).bind fun x3=>(if (decide (x3.fFrom≤x1))=true then (at? x0 x2).bind fun x4=>(if (decide (x1≤x4.fTo))=true then (some (.brk (Sum.inr ()))) else (some (.next (IntKind.i64.wrap (x2 + 1))))) else (some (.next (IntKind.i64.wrap (x2 + 1))))) else (some (.brk (Sum.inl ()))))
  cst:=fun x2=>⟨put (put (put (fun _=>.junk) 5 (.int .i64 x2)) 1 (.int .i64 x1)) 0 (.sl 2 false (x0.map eRef06Range)),[]⟩
theorem f118_L1c(x0:(List Ref06Range))(x1:Int)(x2:Int):(f118_L1 x0 x1).cst x2=⟨put (put (put (fun _=>.junk) 5 (.int .i64 x2)) 1 (.int .i64 x1)) 0 (.sl 2 false (x0.map eRef06Range)),[]⟩:=rfl
def c118_3:C:=.seq (.block 1 (.seq (.reg [iI 12 (.mv (.t 0)),iI 13 (.mv (.t 5)),iI 14 (.iaddr 2 (.t 12) (.t 13)),iI 15 (.faddr 0 (.t 14)),iI 16 (.load 0 (.t 15)),iI 17 (.mv (.t 1)),iI 18 (.bin .leq (.t 16) (.t 17)),iI 19 (.mv (.t 18)),iG (some 20) 19 true (.mv (.t 1)),iG (some 21) 19 true (.mv (.t 0)),iG (some 22) 19 true (.mv (.t 5)),iG (some 23) 19 true (.iaddr 2 (.t 21) (.t 22)),iG (some 24) 19 true (.faddr 1 (.t 23)),iG (some 25) 19 true (.load 0 (.t 24)),iG (some 26) 19 true (.bin .leq (.t 20) (.t 25)),iI 27 (.pick (.t 19) (.t 26) (.c (.bool false)))]) (.cond (.t 27) (.seq (.reg [iI 4 (.mv (.c (.bool true)))]) .ret) (.skip)))) (.reg [iI 10 (.mv (.t 5)),iI 11 (.bin .add (.t 10) (.c (.int .i64 1))),iI 5 (.mv (.t 11))])
def c118_4:C:=.block 0 (.loop (.seq (.seq (.reg [iI 6 (.mv (.t 5)),iI 7 (.mv (.t 0)),iI 8 (.len 0 (.t 7)),iI 9 (.bin .lss (.t 6) (.t 8))]) (.cond (.t 9) (.skip) (.exit 0))) c118_3))
def ir118:C:=.seq (.reg [iI 4 (.mv (.c (.bool false)))]) (.seq (.seq (.reg [iI 5 (.mv (.c (.int .i64 0)))]) c118_4) (.seq (.reg [iI 4 (.mv (.c (.bool false)))]) .ret))
theorem fd118:fd? Tryz.prog 118=some (28,[.slot 4],ir118):=by kernel_rfl
def f118(x0:(List Ref06Range))(x1:Int):Option (Bool) :=
  ((Lp.run (f118_L1 x0 x1) 0).bind fun r_=>match r_ with | (Sum.inl _)=>(some false) | (Sum.inr _)=>(some true))
theorem f118_ok{x0:(List Ref06Range)}{x1:Int}{r_:Bool}(H:f118 x0 x1=some r_):Pure Tryz.prog 118 [.sl 2 false (x0.map eRef06Range),.int .i64 x1] (· = .bool r_):=by
 refine w3 fd118 fun Q hQ=>?_
 simp only[f118] at H
 refine zr ?_
 refine zq (zr ?_)
 refine zd ?_
 refine zU H [] [0,1,5] (f118_L1c ..) ?_<;>clear H
 rintro x2 x_ st0_ H hst_
 rw[f118_L1c] at hst_
 simp only[f118_L1] at H
 subst hst_
 refine zq (zr ?_)
 refine ic H ?_ ?_<;>clear H<;>intro H
 ·refine zk (zm (zb (zr ?_)))
  refine ia eRef06Range H ?_<;>clear H<;>intro x3 H
  refine zE11 ?_
  refine ig H ?_ ?_<;>clear H<;>intro H
  ·refine zs ?_
   refine ia eRef06Range H ?_<;>clear H<;>intro x4 H
   refine zE11 ?_
   refine ic H ?_ ?_<;>clear H<;>intro H
   ·refine zr ?_
    refine zt (zp (loopQ.ret H ?_))<;>clear H<;>intro H
    try dsimp only at H
    cases H
    exact zh (zv (zf hQ))
   ·refine zk (zo (ze ?_))
    exact zu H [] [0,1,5] (f118_L1c ..)
  ·refine zs ?_
   refine zc (zk (zo (ze ?_)))
   exact zu H [] [0,1,5] (f118_L1c ..)
 ·refine zx (zy (loopQ.exit H ?_))<;>clear H<;>intro H
  try dsimp only at H
  refine zi (zm (zr ?_))
  cases H
  exact zt (zf hQ)
def f78_L1(x0:(List Int))(x1:(List Ref06Range))(x2:Bool):Lp (Int×(List Int)) ((List Int)) where
  body:=fun (x3,x4)=>(if (decide (x3<((x0.length:Nat):Int)))=true then (at? x0 x3).bind fun x5=>(f118 x1 x5).bind fun x6=>(if (x6 == x2)=true then (at? x0 x3).bind fun x7=>(app? 8 x4 ([x7])).bind fun x8=>(some (.next ((IntKind.i64.wrap (x3 + 1)),x8))) else (some (.next ((IntKind.i64.wrap (x3 + 1)),x4)))) else (some (.brk x4)))
  cst:=fun (x3,x4)=>⟨put (put (put (put (put (fun _=>.junk) 9 (.int .i64 x3)) 8 (.sl 0 false (x0.map (AV.int .i64)))) 7 (.row 0 0 0 x4.length)) 2 (.bool x2)) 1 (.sl 2 false (x1.map eRef06Range)),[.els 0 (x4.map (AV.int .i64))]⟩
theorem f78_L1c(x0:(List Int))(x1:(List Ref06Range))(x2:Bool)(x3:Int)(x4:(List Int)):(f78_L1 x0 x1 x2).cst (x3,x4)=⟨put (put (put (put (put (fun _=>.junk) 9 (.int .i64 x3)) 8 (.sl 0 false (x0.map (AV.int .i64)))) 7 (.row 0 0 0 x4.length)) 2 (.bool x2)) 1 (.sl 2 false (x1.map eRef06Range)),[.els 0 (x4.map (AV.int .i64))]⟩:=rfl
def c78_1:C:=.cond (.t 25) (.reg [iI 26 (.mv (.t 7)),iI 27 (.mv (.t 8)),iI 28 (.mv (.t 9)),iI 29 (.iaddr 0 (.t 27) (.t 28)),iI 30 (.load 0 (.t 29)),iI 31 (.mkslp 0 1 (.int .i64 0) [(0,(.t 30))]),iI 32 (.append 0 8 (.t 26) (.t 31)),iI 7 (.mv (.t 32))]) (.skip)
def c78_3:C:=.seq (.block 1 (.seq (.reg [iI 18 (.mv (.t 1)),iI 19 (.mv (.t 8)),iI 20 (.mv (.t 9)),iI 21 (.iaddr 0 (.t 19) (.t 20)),iI 22 (.load 0 (.t 21)),iI 23 (.call (.c (.fn 118 [])) [(.t 18),(.t 22)]),iI 24 (.mv (.t 2)),iI 25 (.binb .eql (.t 23) (.t 24))]) c78_1)) (.reg [iI 16 (.mv (.t 9)),iI 17 (.bin .add (.t 16) (.c (.int .i64 1))),iI 9 (.mv (.t 17))])
def c78_4:C:=.block 0 (.loop (.seq (.seq (.reg [iI 12 (.mv (.t 9)),iI 13 (.mv (.t 8)),iI 14 (.len 0 (.t 13)),iI 15 (.bin .lss (.t 12) (.t 14))]) (.cond (.t 15) (.skip) (.exit 0))) c78_3))
def c78_7:C:=.seq (.reg [iI 10 (.mv (.t 0)),iI 11 (.call (.c (.fn 38 [])) [(.t 10)]),iI 8 (.mv (.t 11))]) (.seq (.seq (.reg [iI 9 (.mv (.c (.int .i64 0)))]) c78_4) (.seq (.reg [iI 33 (.mv (.t 7)),iI 34 (.call (.c (.fn 77 [])) [(.t 33)]),iI 6 (.mv (.t 34))]) .ret))
def ir78:C:=.seq (.reg [iI 6 (.mv (.c (.sl 2 true [])))]) (.seq (.reg [iI 7 (.mv (.c (.sl 0 true [])))]) c78_7)
theorem fd78:fd? Tryz.prog 78=some (35,[.slot 6],ir78):=by kernel_rfl
def f78(x0:(List Ref06Range))(x1:(List Ref06Range))(x2:Bool):Option ((List Ref06Range)) :=
  (f38 x0).bind fun x3=>(Lp.run (f78_L1 x3 x1 x2) (0,[])).bind fun x4=>(f77 x4).bind fun x5=>(some x5)
theorem f78_ok{x0:(List Ref06Range)}{x1:(List Ref06Range)}{x2:Bool}{r_:(List Ref06Range)}(H:f78 x0 x1 x2=some r_):Pure Tryz.prog 78 [.sl 2 false (x0.map eRef06Range),.sl 2 false (x1.map eRef06Range),.bool x2] (· = .fr 2 (r_.map eRef06Range)):=by
 refine w3s fd78 0 fun Q hQ=>?_
 simp only[f78] at H
 refine zr ?_
 refine zr ?_
 refine zr ?_
 refine pu H f38_im ?_<;>clear H<;>intro x3 H
 refine zE0 ?_
 refine zq (zr ?_)
 refine zd ?_
 refine AW.iter H ((Le.trans (Le.nilRow (i:=7) (e:=0) (by simp only[↓wk,↓wl,nq,evV,↓reduceIte,sevalprocAttr])) (Le.tz [0] [1,2,7,8,9] (by simp only[f78_L1c,wm,wmr,rrm,↓wk,↓wl,evV,↓reduceIte,sevalprocAttr]<;>rfl)))) ?_<;>clear H
 rintro ⟨x4,x5⟩ x_ st0_ H hst_
 rw[f78_L1c] at hst_
 simp only[f78_L1] at H
 subst hst_
 refine zq (zr ?_)
 refine ic H ?_ ?_<;>clear H<;>intro H
 ·refine zk (zm (zb (zr ?_)))
  refine ia (AV.int .i64) H ?_<;>clear H<;>intro x6 H
  refine zs ?_
  refine pu H f118_ok ?_<;>clear H<;>intro x7 H
  refine zE0 ?_
  refine ic H ?_ ?_<;>clear H<;>intro H
  ·refine ze ?_
   refine ia (AV.int .i64) H ?_<;>clear H<;>intro x8 H
   refine zs ?_
   refine ap (AV.int .i64) H ?_<;>clear H<;>intro x9 H
   refine zs ?_
   refine zo (ze ?_)
   exact zu H [1] [1,2,7,8,9] (f78_L1c ..)
  ·refine zk (zo (ze ?_))
   exact zu H [0] [1,2,7,8,9] (f78_L1c ..)
 ·refine zx (zy (loopQ.exit H ?_))<;>clear H<;>intro H
  try dsimp only at H
  refine zi (zm (zr ?_))
  refine evTs_frR H (fun _ h=>f77_ok h) (by rfl) (by rfl) (by simp only[deep_eq,imm_simps,imm_rowE,imm_ptrE,imm_enc,imm_mrefE,imm_mpE,imm_arowE,omap_simps,take_map_len,take_map_set,take_map_set2,List.length_set,le_refl_true,Nat.zero_add,and_true,true_and,List.drop_zero,Option.map_some,wm,↓wk,↓wl,nq,evV,↓reduceIte,sevalprocAttr];rfl) (by rfl) (fun _=>by simp only[flatR,List.all_cons,List.all_nil,flat_all,Bool.and_true];try rfl) (fun _=>rfl) ?_<;>clear H<;>intro xa H
  refine zE0 ?_
  cases H
  exact zt (zf2 hQ)
def ir35:C:=.seq (.reg [iI 4 (.mv (.c (.sl 2 true [])))]) (.seq (.reg [iI 5 (.mv (.t 0)),iI 6 (.mv (.t 1)),iI 7 (.call (.c (.fn 78 [])) [(.t 5),(.t 6),(.c (.bool false))]),iI 4 (.mv (.t 7))]) .ret)
theorem fd35:fd? Tryz.prog 35=some (8,[.slot 4],ir35):=by kernel_rfl
def f35(x0:(List Ref06Range))(x1:(List Ref06Range)):Option ((List Ref06Range)) :=
  (f78 x0 x1 false).bind fun x2=>(some x2)
theorem f35_ok{x0:(List Ref06Range)}{x1:(List Ref06Range)}{r_:(List Ref06Range)}(H:f35 x0 x1=some r_):Pure Tryz.prog 35 [.sl 2 false (x0.map eRef06Range),.sl 2 false (x1.map eRef06Range)] (· = .fr 2 (r_.map eRef06Range)):=by
 refine w3s fd35 0 fun Q hQ=>?_
 simp only[f35] at H
 refine zr ?_
 refine zr ?_
 refine evTs_fr H (fun _ h=>f78_ok h) (by rfl) (by rfl) (by rfl) (by rfl) (fun _=>rfl) ?_<;>clear H<;>intro x2 H
 refine zE0 ?_
 cases H
 exact zt (zf2 hQ)
theorem f35_im{x0:(List Ref06Range)}{x1:(List Ref06Range)}{r_:(List Ref06Range)}(H:f35 x0 x1=some r_):Pure Tryz.prog 35 [.sl 2 false (x0.map eRef06Range),.sl 2 false (x1.map eRef06Range)] (· = .sl 2 false (r_.map eRef06Range)):=(f35_ok H).unfr (by first | exact enc_fits _ | simp only[frFits,List.all_cons,List.all_nil,enc_fits,Bool.and_self])
def ir37:C:=.seq (.reg [iI 1 (.box (.t 0)),iI 2 (.mv (.c .nilfn))]) (.seq (.reg [iI 3 (.mkfn 81 [(.t 1)]),iI 2 (.mv (.t 3))]) .ret)
theorem fd37:fd? Tryz.prog 37=some (4,[.slot 2],ir37):=by kernel_rfl
def f9_C2(x0:(List Int)×Int):Il (Unit) where
  run:=(some ())
  res:=fun _=>.fn 81 [.ptr 1 0]
  hp:=fun _=>[.els 0 (x0.1.map (AV.int .i64)),.cel [.row 0 0 0 x0.1.length]]
def f36_81(zs:List Int):Option (List Int):=sortv? zs
theorem f36_81_ok{zs r_:List Int}(H:f36_81 zs=some r_):Pure Tryz.prog 36 [.fn 81 [.pro [.sl 0 false (zs.map (AV.int .i64))]]] (· = .fr 0 (r_.map (AV.int .i64))):=sortv_pure (fun _ _=>trivial) sortsv36 H
def f9_L1(x0:(List ApiSelect)):Lp ((List Ref06Range)×Int) (((List Ref06Range))⊕(Bool)) where
  body:=fun (x1,x2)=>(if (decide (x2<((x0.length:Nat):Int)))=true then (at? x0 x2).bind fun x3=>(if (decide (x3.fGroup≠0))=true then (f12).bind fun x4=>(some (.brk (Sum.inr x4))) else (if (decide (x3.fOp=0))=true then (f34 x1 ([(Ref06Range.mk x3.fFrom x3.fTo)])).bind fun x5=>(some (.next (x5,(IntKind.i64.wrap (x2 + 1))))) else (f35 x1 ([(Ref06Range.mk x3.fFrom x3.fTo)])).bind fun x6=>(some (.next (x6,(IntKind.i64.wrap (x2 + 1))))))) else (some (.brk (Sum.inl x1))))
  cst:=fun (x1,x2)=>⟨put (put (put (put (put (fun _=>.junk) 20 (.int .i64 x2)) 19 (.int .i64 ((x0.length:Nat):Int))) 18 (.sl 4 false (x0.map eApiSelect))) 3 (.sl 2 false (x1.map eRef06Range))) 0 (.sl 4 false (x0.map eApiSelect)),[]⟩
theorem f9_L1c(x0:(List ApiSelect))(x1:(List Ref06Range))(x2:Int):(f9_L1 x0).cst (x1,x2)=⟨put (put (put (put (put (fun _=>.junk) 20 (.int .i64 x2)) 19 (.int .i64 ((x0.length:Nat):Int))) 18 (.sl 4 false (x0.map eApiSelect))) 3 (.sl 2 false (x1.map eRef06Range))) 0 (.sl 4 false (x0.map eApiSelect)),[]⟩:=rfl
def c9_2:C:=.cond (.t 36) (.reg [iI 37 (.mv (.t 3)),iI 38 (.mv (.t 6)),iI 39 (.call (.c (.fn 34 [])) [(.t 37),(.t 38)]),iI 3 (.mv (.t 39))]) (.reg [iI 40 (.mv (.t 3)),iI 41 (.mv (.t 6)),iI 42 (.call (.c (.fn 35 [])) [(.t 40),(.t 41)]),iI 3 (.mv (.t 42))])
def c9_4:C:=.seq (.reg [iI 28 (.faddr 2 (.t 5)),iI 29 (.load 0 (.t 28)),iI 30 (.faddr 3 (.t 5)),iI 31 (.load 0 (.t 30)),iI 32 (.build [(1,(.int .i64 0)),(1,(.int .i64 0))] [(0,0,(.t 29)),(1,0,(.t 31))]),iI 33 (.mkslp 2 1 (.agg [(.int .i64 0),(.int .i64 0)]) [(0,(.t 32))]),iI 6 (.mv (.t 33))]) (.seq (.reg [iI 34 (.faddr 0 (.t 5)),iI 35 (.load 0 (.t 34)),iI 36 (.bin .eql (.t 35) (.c (.int .i64 0)))]) c9_2)
def c9_5:C:=.seq (.seq (.reg [iI 24 (.faddr 1 (.t 5)),iI 25 (.load 0 (.t 24)),iI 26 (.bin .neq (.t 25) (.c (.int .i64 0)))]) (.cond (.t 26) (.seq (.reg [iI 27 (.call (.c (.fn 12 [])) []),iI 2 (.mv (.t 27))]) .ret) (.skip))) c9_4
def c9_7:C:=.seq (.block 1 (.seq (.reg [iI 22 (.iaddr 4 (.t 18) (.t 20)),iI 23 (.load 4 (.t 22)),iI 5 (.alloc [(1,(.int .i64 0)),(1,(.int .i64 0)),(1,(.int .i64 0)),(1,(.int .i64 0))]),iN (.store 4 (.t 5) (.t 23))]) c9_5)) (.reg [iI 43 (.bin .add (.t 20) (.c (.int .i64 1))),iI 20 (.mv (.t 43))])
def c9_10:C:=.seq (.reg [iI 49 (.mv (.t 8)),iI 50 (.bin .eql (.t 49) (.c (.int .i64 0))),iI 51 (.mv (.t 50)),iG (some 52) 51 true (.mv (.t 7)),iG (some 53) 51 true (.call (.c (.fn 37 [])) [(.t 52)]),iG (some 54) 51 true (.call (.c (.fn 36 [])) [(.t 53)]),iG (some 55) 51 true (.mv (.t 3)),iG (some 56) 51 true (.call (.c (.fn 38 [])) [(.t 55)]),iG (some 57) 51 true (.call (.c (.fn 17 [])) [(.t 54),(.t 56)]),iI 58 (.pick (.t 51) (.t 57) (.c (.bool false))),iI 59 (.mv (.t 58)),iG (some 60) 59 true (.call (.c (.fn 12 [])) []),iI 61 (.pick (.t 59) (.t 60) (.c (.bool false))),iI 2 (.mv (.t 61))]) .ret
def c9_11:C:=.seq (.reg [iI 45 (.mv (.t 0)),iI 46 (.call (.c (.fn 13 [])) [(.t 45),(.c (.sl 2 true []))]),iI 44 (.mv (.t 46)),iI 47 (.ext (.t 44) 0),iI 48 (.ext (.t 44) 1),iI 7 (.mv (.t 47)),iI 8 (.mv (.t 48))]) c9_10
def c9_12:C:=.seq (.seq (.reg [iI 18 (.mv (.t 0)),iI 19 (.len 0 (.t 18)),iI 20 (.mv (.c (.int .i64 0)))]) (.block 0 (.loop (.seq (.reg [iI 21 (.bin .lss (.t 20) (.t 19))]) (.seq (.cond (.t 21) (.skip) (.exit 0)) c9_7))))) c9_11
def c9_14:C:=.seq (.seq (.reg [iI 9 (.mv (.t 0)),iI 10 (.call (.c (.fn 11 [])) [(.t 9),(.c (.sl 2 true []))]),iI 11 (.un .not (.t 10)),iI 12 (.mv (.t 11)),iG (some 13) 12 false (.mv (.t 0)),iG (some 14) 12 false (.call (.c (.fn 16 [])) [(.t 13)]),iG (some 15) 12 false (.bin .neq (.t 14) (.c (.int .i64 0))),iI 16 (.pick (.t 12) (.c (.bool true)) (.t 15))]) (.cond (.t 16) (.seq (.reg [iI 17 (.call (.c (.fn 12 [])) []),iI 2 (.mv (.t 17))]) .ret) (.skip))) (.seq (.reg [iI 3 (.mv (.c (.sl 2 true [])))]) c9_12)
def ir9:C:=.seq (.reg [iI 2 (.mv (.c (.bool false)))]) c9_14
theorem fd9:fd? Tryz.prog 9=some (62,[.slot 2],ir9):=by kernel_rfl
def f9(x0:(List ApiSelect)):Option (Bool) :=
  (f11 x0 ([])).bind fun x1=>(if (!x1)=true then (f12).bind fun x2=>(some x2) else (f16 x0).bind fun x3=>(if (decide (x3≠0))=true then (f12).bind fun x4=>(some x4) else ((Lp.run (f9_L1 x0) ([],0)).bind fun r_=>match r_ with | (Sum.inl x5)=>(f13 x0 ([])).bind fun x6=>(if (decide (x6.2=0))=true then ((f9_C2 x6).run.bind fun _=>(f36_81 x6.1).bind fun x7=>(f38 x5).bind fun x8=>(f17 x7 x8).bind fun x9=>(if x9=true then (f12).bind fun xa=>(some xa) else (some false))) else (some false)) | (Sum.inr xb)=>(some xb))))
theorem f9_ok{x0:(List ApiSelect)}{r_:Bool}(H:f9 x0=some r_):Pure Tryz.prog 9 [.sl 4 false (x0.map eApiSelect)] (· = .bool r_):=by
 refine w3 fd9 fun Q hQ=>?_
 simp only[f9] at H
 refine zr ?_
 refine zq (zr ?_)
 refine pu H f11_ok ?_<;>clear H<;>intro x1 H
 refine zE0 ?_
 refine ig H ?_ ?_<;>clear H<;>intro H
 ·refine zs ?_
  refine za (zr ?_)
  refine pu H f12_ok ?_<;>clear H<;>intro x2 H
  refine zE0 ?_
  cases H
  exact zt (zv (zf hQ))
 ·refine zs ?_
  refine pu H f16_ok ?_<;>clear H<;>intro x3 H
  refine zE0 ?_
  refine ic H ?_ ?_<;>clear H<;>intro H
  ·refine zr ?_
   refine pu H f12_ok ?_<;>clear H<;>intro x4 H
   refine zE0 ?_
   cases H
   exact zt (zv (zf hQ))
  ·refine zk (zm (zr ?_))
   refine zq (zr ?_)
   refine zd ?_
   refine AW.iter H ((Le.trans (Le.unfull (i:=3) (by rfl)) (Le.tz [] [0,3,18,19,20] (by simp only[f9_L1c,wm,wmr,rrm,↓wk,↓wl,evV,↓reduceIte,sevalprocAttr]<;>rfl)))) ?_<;>clear H
   rintro ⟨x5,x6⟩ x_ st0_ H hst_
   rw[f9_L1c] at hst_
   simp only[f9_L1] at H
   subst hst_
   refine zr ?_
   refine zq (ic H ?_ ?_)<;>clear H<;>intro H
   ·refine zk (zm (zb (zr ?_)))
    refine ia eApiSelect H ?_<;>clear H<;>intro x7 H
    refine zE1 ?_
    refine zq (zr ?_)
    refine ic H ?_ ?_<;>clear H<;>intro H
    ·refine zr ?_
     refine pu H f12_ok ?_<;>clear H<;>intro x8 H
     refine zE0 ?_
     refine zt (zv (zp (loopQ.ret H ?_)))<;>clear H<;>intro H
     try dsimp only at H
     cases H
     exact zh (zv (zf hQ))
    ·refine zk (zm (zr ?_))
     refine zr ?_
     refine ic H ?_ ?_<;>clear H<;>intro H
     ·refine ze ?_
      refine pu H f34_im ?_<;>clear H<;>intro x9 H
      refine zE0 ?_
      refine zo (ze ?_)
      exact zu H [] [0,3,18,19,20] (f9_L1c ..)
     ·refine ze ?_
      refine pu H f35_im ?_<;>clear H<;>intro xa H
      refine zE0 ?_
      refine zo (ze ?_)
      exact zu H [] [0,3,18,19,20] (f9_L1c ..)
   ·refine zx (zy (loopQ.exit H ?_))<;>clear H<;>intro H
    try dsimp only at H
    refine zi (zm (zr ?_))
    refine evTs_fr H (fun _ h=>f13_ok h) (by rfl) (by rfl) (by rfl) (by rfl) (fun _=>rfl) ?_<;>clear H<;>intro xb H
    refine zE0 ?_
    refine zr ?_
    refine ig H ?_ ?_<;>clear H<;>intro H
    ·refine zs ?_
     refine evTs_inl (I:=f9_C2 xb) (args:=[.row 0 0 0 xb.1.length]) H (by rfl) fd37 (by rfl) (Nat.le_of_ble_eq_true rfl) ?_ ?_<;>clear H
     ·rintro v_ Q_ H hqf9_C2
      simp only[f9_C2] at H
      dsimp only[List.length_cons,List.length_nil]
      refine zr ?_
      refine zr ?_
      refine zt ?_
      cases H
      exact hqf9_C2 _ _ _ (.inr rfl) (Le.tq 1 [0,1] [2] rfl) (by simp only[resVs,omap,resV,f9_C2,wm,wmr,rrm,↓wk,↓wl,evV,↓reduceIte,sevalprocAttr]) (by simp only[f9_C2,wm,wmr,rrm,↓wk,↓wl,evV,↓reduceIte,sevalprocAttr])
     ·rintro _ s_ h_ H hs_ hh_
      simp only[f9_C2] at H hs_ hh_
      subst hs_
      subst hh_
      refine zs ?_
      refine evTs_frR H (fun _ h=>f36_81_ok h) (by rfl) (by rfl) (by simp only[deep_eq,imm_simps,imm_rowE,imm_ptrE,imm_enc,imm_mrefE,imm_mpE,imm_arowE,omap_simps,take_map_len,take_map_set,take_map_set2,List.length_set,le_refl_true,Nat.zero_add,and_true,true_and,List.drop_zero,Option.map_some,wm,↓wk,↓wl,nq,evV,↓reduceIte,sevalprocAttr];rfl) (by rfl) (fun _=>by simp only[flatR,List.all_cons,List.all_nil,flat_all,Bool.and_true];try rfl) (fun _=>rfl) ?_<;>clear H<;>intro xc H
      refine zE0 ?_
      refine pu H f38_im ?_<;>clear H<;>intro xd H
      refine zE0 ?_
      refine evTs_flat hFn H (fun _ h=>f17_ok h) (by rfl) (by rfl) (by simp only[deep_eq,imm_simps,imm_rowE,imm_ptrE,imm_enc,imm_mrefE,imm_mpE,imm_arowE,omap_simps,take_map_len,take_map_set,take_map_set2,List.length_set,le_refl_true,Nat.zero_add,and_true,true_and,List.drop_zero,Option.map_some,wm,↓wk,↓wl,nq,evV,↓reduceIte,sevalprocAttr];rfl) (by rfl) (fun _=>rfl) (fun _=>rfl) ?_<;>clear H<;>intro xe H
      refine zE0 ?_
      refine ig H ?_ ?_<;>clear H<;>intro H
      ·refine zs ?_
       refine pu H f12_ok ?_<;>clear H<;>intro xf H
       refine zE0 ?_
       cases H
       exact zt (zf hQ)
      ·refine zs ?_
       cases H
       exact zt (zf hQ)
    ·refine zs ?_
     cases H
     exact zt (zf hQ)
end
end Go.Proofs.YtnaemmpcffnbkaaGreatDoor
