import Derived.Test.YtnaemmpcffnbkaaGreatDoorHGA2
import Derived.Test.YtnaemmpcffnbkaaGreatDoorHM6
import Derived.Test.YtnaemmpcffnbkaaGreatDoorProg
import Derived.KernelRfl
import Derived.Test.YtnaemmpcffnbkaaGreatDoorHMQ
namespace Go.Proofs.YtnaemmpcffnbkaaGreatDoor
open Go Go.Ab
set_option maxHeartbeats 1000000
set_option maxRecDepth 4000
set_option linter.unusedSimpArgs false
set_option linter.unusedVariables false
noncomputable section
structure Law41Choice where
  fSelect:(List ApiSelect)
  fGroups:(List ApiGroup)
  fKind:Int
def eLaw41Choice(x:Law41Choice):AV:=.agg [.sl 4 false (x.fSelect.map eApiSelect),.sl 2 false (x.fGroups.map eApiGroup),.int .i64 x.fKind]
instance:IsEnc 3 eLaw41Choice:=⟨fun _=>rfl,fun _=>rfl,fun _=>rfl⟩
structure Ref06Range where
  fFrom:Int
  fTo:Int
def eRef06Range(x:Ref06Range):AV:=.agg [.int .i64 x.fFrom,.int .i64 x.fTo]
instance:IsFlat eRef06Range:=⟨fun _=>rfl⟩
instance:IsEnc 2 eRef06Range:=⟨fun _=>rfl,fun _=>rfl,fun _=>rfl⟩
def f41_L1(x0:(List ApiGroup)):Lp (Int) ((Unit)⊕(Unit)) where
  body:=fun x1=>(if (decide (x1<((x0.length:Nat):Int)))=true then (if (decide (x1<60))=true then (at? x0 x1).bind fun x2=>(if (decide (40<((x2.fChannels.length:Nat):Int)))=true then (at? x0 x1).bind fun x3=>(if (decide (((x3.fChannels.length:Nat):Int)≤256))=true then (some (.brk (Sum.inr ()))) else (some (.next (IntKind.i64.wrap (x1 + 1))))) else (some (.next (IntKind.i64.wrap (x1 + 1))))) else (some (.brk (Sum.inl ())))) else (some (.brk (Sum.inl ()))))
  cst:=fun x1=>⟨put (put (fun _=>.junk) 3 (.int .i64 x1)) 0 (.sl 2 false (x0.map eApiGroup)),[]⟩
theorem f41_L1c(x0:(List ApiGroup))(x1:Int):(f41_L1 x0).cst x1=⟨put (put (fun _=>.junk) 3 (.int .i64 x1)) 0 (.sl 2 false (x0.map eApiGroup)),[]⟩:=rfl
def c41_3:C:=.seq (.block 1 (.seq (.reg [iI 14 (.mv (.t 0)),iI 15 (.mv (.t 3)),iI 16 (.iaddr 2 (.t 14) (.t 15)),iI 17 (.faddr 1 (.t 16)),iI 18 (.load 0 (.t 17)),iI 19 (.len 0 (.t 18)),iI 20 (.bin .gtr (.t 19) (.c (.int .i64 40))),iI 21 (.mv (.t 20)),iG (some 22) 21 true (.mv (.t 0)),iG (some 23) 21 true (.mv (.t 3)),iG (some 24) 21 true (.iaddr 2 (.t 22) (.t 23)),iG (some 25) 21 true (.faddr 1 (.t 24)),iG (some 26) 21 true (.load 0 (.t 25)),iG (some 27) 21 true (.len 0 (.t 26)),iG (some 28) 21 true (.bin .leq (.t 27) (.c (.int .i64 256))),iI 29 (.pick (.t 21) (.t 28) (.c (.bool false)))]) (.cond (.t 29) (.seq (.reg [iI 2 (.mv (.c (.bool false)))]) .ret) (.skip)))) (.reg [iI 12 (.mv (.t 3)),iI 13 (.bin .add (.t 12) (.c (.int .i64 1))),iI 3 (.mv (.t 13))])
def c41_4:C:=.block 0 (.loop (.seq (.seq (.reg [iI 4 (.mv (.t 3)),iI 5 (.mv (.t 0)),iI 6 (.len 0 (.t 5)),iI 7 (.bin .lss (.t 4) (.t 6)),iI 8 (.mv (.t 7)),iG (some 9) 8 true (.mv (.t 3)),iG (some 10) 8 true (.bin .lss (.t 9) (.c (.int .i64 60))),iI 11 (.pick (.t 8) (.t 10) (.c (.bool false)))]) (.cond (.t 11) (.skip) (.exit 0))) c41_3))
def c41_6:C:=.seq (.seq (.reg [iI 3 (.mv (.c (.int .i64 0)))]) c41_4) (.seq (.reg [iI 30 (.mv (.t 0)),iI 31 (.len 0 (.t 30)),iI 32 (.bin .leq (.t 31) (.c (.int .i64 60))),iI 2 (.mv (.t 32))]) .ret)
def ir41:C:=.seq (.reg [iI 2 (.mv (.c (.bool false)))]) c41_6
theorem fd41:fd? Tryz.prog 41=some (33,[.slot 2],ir41):=by kernel_rfl
def f41(x0:(List ApiGroup)):Option (Bool) :=
  ((Lp.run (f41_L1 x0) 0).bind fun r_=>match r_ with | (Sum.inl _)=>(some (decide (((x0.length:Nat):Int)≤60))) | (Sum.inr _)=>(some false))
theorem f41_ok{x0:(List ApiGroup)}{r_:Bool}(H:f41 x0=some r_):Pure Tryz.prog 41 [.sl 2 false (x0.map eApiGroup)] (· = .bool r_):=by
 refine w3 fd41 fun Q hQ=>?_
 simp only[f41] at H
 refine zr ?_
 refine zq (zr ?_)
 refine zd ?_
 refine zU H [] [0,3] (f41_L1c ..) ?_<;>clear H
 rintro x1 x_ st0_ H hst_
 rw[f41_L1c] at hst_
 simp only[f41_L1] at H
 subst hst_
 refine zq (zr ?_)
 refine ig H ?_ ?_<;>clear H<;>intro H
 ·refine zs ?_
  refine ic H ?_ ?_<;>clear H<;>intro H
  ·refine zk (zm (zb (zr ?_)))
   refine ia eApiGroup H ?_<;>clear H<;>intro x2 H
   refine zE2 ?_
   refine ig H ?_ ?_<;>clear H<;>intro H
   ·refine zs ?_
    refine ia eApiGroup H ?_<;>clear H<;>intro x3 H
    refine zE2 ?_
    refine ic H ?_ ?_<;>clear H<;>intro H
    ·refine zr ?_
     refine zt (zp (loopQ.ret H ?_))<;>clear H<;>intro H
     try dsimp only at H
     cases H
     exact zh (zv (zf hQ))
    ·refine zk (zo (ze ?_))
     exact zu H [] [0,3] (f41_L1c ..)
   ·refine zs ?_
    refine zc (zk (zo (ze ?_)))
    exact zu H [] [0,3] (f41_L1c ..)
  ·refine zx (zy (loopQ.exit H ?_))<;>clear H<;>intro H
   try dsimp only at H
   refine zi (zm (zr ?_))
   cases H
   exact zt (zf hQ)
 ·refine zs ?_
  refine zc (zx (zy (loopQ.exit H ?_)))<;>clear H<;>intro H
  try dsimp only at H
  refine zi (zm (zr ?_))
  cases H
  exact zt (zf hQ)
def c11_0:C:=.seq (.reg [iI 5 (.mv (.t 0)),iI 6 (.len 0 (.t 5)),iI 7 (.bin .leq (.t 6) (.c (.int .i64 30))),iI 8 (.mv (.t 7)),iG (some 9) 8 false (.mv (.t 0)),iG (some 10) 8 false (.len 0 (.t 9)),iG (some 11) 8 false (.bin .gtr (.t 10) (.c (.int .i64 256))),iG (some 12) 8 false (.mv (.t 11)),iG (some 13) 12 true (.mv (.t 0)),iG (some 14) 12 true (.len 0 (.t 13)),iG (some 15) 12 true (.bin .lss (.t 14) (.c (.int .i64 400))),iG (some 16) 8 false (.pick (.t 12) (.t 15) (.c (.bool false))),iI 17 (.pick (.t 8) (.c (.bool true)) (.t 16)),iI 18 (.mv (.t 17)),iG (some 19) 18 true (.mv (.t 1)),iG (some 20) 18 true (.call (.c (.fn 41 [])) [(.t 19)]),iI 21 (.pick (.t 18) (.t 20) (.c (.bool false))),iI 4 (.mv (.t 21))]) .ret
def ir11:C:=.seq (.reg [iI 4 (.mv (.c (.bool false)))]) c11_0
theorem fd11:fd? Tryz.prog 11=some (22,[.slot 4],ir11):=by kernel_rfl
def f11(x0:(List ApiSelect))(x1:(List ApiGroup)):Option (Bool) :=
  (if (decide (((x0.length:Nat):Int)≤30))=true then (f41 x1).bind fun x2=>(some x2) else (if (decide (256<((x0.length:Nat):Int)))=true then (if (decide (((x0.length:Nat):Int)<400))=true then (f41 x1).bind fun x3=>(some x3) else (some false)) else (some false)))
theorem f11_ok{x0:(List ApiSelect)}{x1:(List ApiGroup)}{r_:Bool}(H:f11 x0 x1=some r_):Pure Tryz.prog 11 [.sl 4 false (x0.map eApiSelect),.sl 2 false (x1.map eApiGroup)] (· = .bool r_):=by
 refine w3 fd11 fun Q hQ=>?_
 simp only[f11] at H
 refine zr ?_
 refine zr ?_
 refine ig H ?_ ?_<;>clear H<;>intro H
 ·refine zs ?_
  refine pu H f41_ok ?_<;>clear H<;>intro x2 H
  refine zE0 ?_
  cases H
  exact zt (zf hQ)
 ·refine zs ?_
  refine ig H ?_ ?_<;>clear H<;>intro H
  ·refine zs ?_
   refine ig H ?_ ?_<;>clear H<;>intro H
   ·refine zs ?_
    refine pu H f41_ok ?_<;>clear H<;>intro x3 H
    refine zE0 ?_
    cases H
    exact zt (zf hQ)
   ·refine zs ?_
    cases H
    exact zt (zf hQ)
  ·refine zs ?_
   cases H
   exact zt (zf hQ)
def f52_J1(x0:ApiSelect):Jn (Unit) (Int) where
  run:=fun _=>(if (decide (x0.fGroup≠0))=true then (if (decide (x0.fFrom≠0))=true then (some 3) else (if (decide (x0.fTo≠0))=true then (some 3) else (if (decide (x0.fGroup<1))=true then (some 2) else (if (decide (1048576<x0.fGroup))=true then (some 2) else (some 0))))) else (if (decide (x0.fFrom<1))=true then (some 2) else (if (decide (999<x0.fFrom))=true then (some 2) else (if (decide (x0.fTo<1))=true then (some 2) else (if (decide (999<x0.fTo))=true then (some 2) else (if (decide (x0.fTo<x0.fFrom))=true then (some 9) else (some 0)))))))
  cst:=fun _=>⟨put (fun _=>.junk) 1 (.ptr 0 0),[.cel [.int .i64 x0.fOp,.int .i64 x0.fGroup,.int .i64 x0.fFrom,.int .i64 x0.fTo]]⟩
theorem f52_J1c(x0:ApiSelect)(x_:Unit):(f52_J1 x0).cst x_=⟨put (fun _=>.junk) 1 (.ptr 0 0),[.cel [.int .i64 x0.fOp,.int .i64 x0.fGroup,.int .i64 x0.fFrom,.int .i64 x0.fTo]]⟩:=rfl
def c52_4:C:=.seq (.seq (.reg [iI 22 (.faddr 1 (.t 1)),iI 23 (.load 0 (.t 22)),iI 24 (.bin .lss (.t 23) (.c (.int .i64 1))),iI 25 (.mv (.t 24)),iG (some 26) 25 false (.faddr 1 (.t 1)),iG (some 27) 25 false (.load 0 (.t 26)),iG (some 28) 25 false (.bin .gtr (.t 27) (.c (.int .i64 1048576))),iI 29 (.pick (.t 25) (.c (.bool true)) (.t 28))]) (.cond (.t 29) (.seq (.reg [iI 2 (.mv (.c (.int .i64 2)))]) .ret) (.skip))) (.seq (.reg [iI 2 (.mv (.c (.int .i64 0)))]) .ret)
def c52_5:C:=.cond (.t 13) (.seq (.seq (.reg [iI 14 (.faddr 2 (.t 1)),iI 15 (.load 0 (.t 14)),iI 16 (.bin .neq (.t 15) (.c (.int .i64 0))),iI 17 (.mv (.t 16)),iG (some 18) 17 false (.faddr 3 (.t 1)),iG (some 19) 17 false (.load 0 (.t 18)),iG (some 20) 17 false (.bin .neq (.t 19) (.c (.int .i64 0))),iI 21 (.pick (.t 17) (.c (.bool true)) (.t 20))]) (.cond (.t 21) (.seq (.reg [iI 2 (.mv (.c (.int .i64 3)))]) .ret) (.skip))) c52_4) (.skip)
def c52_9:C:=.seq (.seq (.reg [iI 48 (.faddr 3 (.t 1)),iI 49 (.load 0 (.t 48)),iI 50 (.faddr 2 (.t 1)),iI 51 (.load 0 (.t 50)),iI 52 (.bin .lss (.t 49) (.t 51))]) (.cond (.t 52) (.seq (.reg [iI 2 (.mv (.c (.int .i64 9)))]) .ret) (.skip))) (.seq (.reg [iI 2 (.mv (.c (.int .i64 0)))]) .ret)
def c52_10:C:=.seq (.seq (.reg [iI 30 (.faddr 2 (.t 1)),iI 31 (.load 0 (.t 30)),iI 32 (.bin .lss (.t 31) (.c (.int .i64 1))),iI 33 (.mv (.t 32)),iG (some 34) 33 false (.faddr 2 (.t 1)),iG (some 35) 33 false (.load 0 (.t 34)),iG (some 36) 33 false (.bin .gtr (.t 35) (.c (.int .i64 999))),iI 37 (.pick (.t 33) (.c (.bool true)) (.t 36)),iI 38 (.mv (.t 37)),iG (some 39) 38 false (.faddr 3 (.t 1)),iG (some 40) 38 false (.load 0 (.t 39)),iG (some 41) 38 false (.bin .lss (.t 40) (.c (.int .i64 1))),iI 42 (.pick (.t 38) (.c (.bool true)) (.t 41)),iI 43 (.mv (.t 42)),iG (some 44) 43 false (.faddr 3 (.t 1)),iG (some 45) 43 false (.load 0 (.t 44)),iG (some 46) 43 false (.bin .gtr (.t 45) (.c (.int .i64 999))),iI 47 (.pick (.t 43) (.c (.bool true)) (.t 46))]) (.cond (.t 47) (.seq (.reg [iI 2 (.mv (.c (.int .i64 2)))]) .ret) (.skip))) c52_9
def c52_12:C:=.seq (.seq (.reg [iI 3 (.faddr 0 (.t 1)),iI 4 (.load 0 (.t 3)),iI 5 (.bin .neq (.t 4) (.c (.int .i64 0))),iI 6 (.mv (.t 5)),iG (some 7) 6 true (.faddr 0 (.t 1)),iG (some 8) 6 true (.load 0 (.t 7)),iG (some 9) 6 true (.bin .neq (.t 8) (.c (.int .i64 1))),iI 10 (.pick (.t 6) (.t 9) (.c (.bool false)))]) (.cond (.t 10) (.seq (.reg [iI 2 (.mv (.c (.int .i64 1)))]) .ret) (.skip))) (.seq (.seq (.reg [iI 11 (.faddr 1 (.t 1)),iI 12 (.load 0 (.t 11)),iI 13 (.bin .neq (.t 12) (.c (.int .i64 0)))]) c52_5) c52_10)
def ir52:C:=.seq (.reg [iI 1 (.box (.t 0)),iI 2 (.mv (.c (.int .i64 0)))]) c52_12
theorem fd52:fd? Tryz.prog 52=some (53,[.slot 2],ir52):=by kernel_rfl
def f52(x0:ApiSelect):Option (Int) :=
  (if (decide (x0.fOp≠0))=true then (if (decide (x0.fOp≠1))=true then (some 1) else ((f52_J1 x0).run ())) else ((f52_J1 x0).run ()))
theorem f52_ok{x0:ApiSelect}{r_:Int}(H:f52 x0=some r_):Pure Tryz.prog 52 [.agg [.int .i64 x0.fOp,.int .i64 x0.fGroup,.int .i64 x0.fFrom,.int .i64 x0.fTo]] (· = .int .i64 r_):=by
 refine w3 fd52 fun Q hQ=>?_
 simp only[f52] at H
 refine zr ?_
 refine AW.join (f52_J1 x0) H ?_ fun hf52_J1=>?_
 ·clear H
  rintro _ st0_ H hst_
  rw[f52_J1c] at hst_
  simp only[f52_J1] at H
  subst hst_
  refine zq (zr ?_)
  refine ic H ?_ ?_<;>clear H<;>intro H
  ·refine zq (zr ?_)
   refine ig H ?_ ?_<;>clear H<;>intro H
   ·refine zs ?_
    refine za (zr ?_)
    cases H
    exact zt (zv (zv (zf hQ)))
   ·refine zs ?_
    refine ic H ?_ ?_<;>clear H<;>intro H
    ·refine zr ?_
     cases H
     exact zt (zv (zv (zf hQ)))
    ·refine zk (zm (zq (zr ?_)))
     refine ig H ?_ ?_<;>clear H<;>intro H
     ·refine zs ?_
      refine za (zr ?_)
      cases H
      exact zt (zv (zv (zf hQ)))
     ·refine zs ?_
      refine ic H ?_ ?_<;>clear H<;>intro H
      ·refine zr ?_
       cases H
       exact zt (zv (zv (zf hQ)))
      ·refine zk (zm (zr ?_))
       cases H
       exact zt (zv (zf hQ))
  ·refine zk (zm (zq (zr ?_)))
   refine ig H ?_ ?_<;>clear H<;>intro H
   ·refine zs ?_
    refine za (zr ?_)
    cases H
    exact zt (zv (zf hQ))
   ·refine zs ?_
    refine ig H ?_ ?_<;>clear H<;>intro H
    ·refine zs ?_
     refine za (zr ?_)
     cases H
     exact zt (zv (zf hQ))
    ·refine zs ?_
     refine ig H ?_ ?_<;>clear H<;>intro H
     ·refine zs ?_
      refine za (zr ?_)
      cases H
      exact zt (zv (zf hQ))
     ·refine zs ?_
      refine ic H ?_ ?_<;>clear H<;>intro H
      ·refine zr ?_
       cases H
       exact zt (zv (zf hQ))
      ·refine zk (zm (zq (zr ?_)))
       refine ic H ?_ ?_<;>clear H<;>intro H
       ·refine zr ?_
        cases H
        exact zt (zv (zf hQ))
       ·refine zk (zm (zr ?_))
        cases H
        exact zt (zf hQ)
 ·refine zr ?_
  refine ig H ?_ ?_<;>clear H<;>intro H
  ·refine zs ?_
   refine ic H ?_ ?_<;>clear H<;>intro H
   ·refine zr ?_
    cases H
    exact zt (zv (zf hQ))
   ·refine zk (zm ?_)
    exact hf52_J1 _ _ H ((Le.tz [0] [1] (by simp only[f52_J1c,wm,wmr,rrm,↓wk,↓wl,evV,↓reduceIte,sevalprocAttr]<;>rfl)))
  ·refine zs ?_
   refine zc (zk (zm ?_))
   exact hf52_J1 _ _ H ((Le.tz [0] [1] (by simp only[f52_J1c,wm,wmr,rrm,↓wk,↓wl,evV,↓reduceIte,sevalprocAttr]<;>rfl)))
def f16_L1(x0:(List ApiSelect)):Lp (Int) ((Unit)⊕(Int)) where
  body:=fun x1=>(if (decide (x1<((x0.length:Nat):Int)))=true then (at? x0 x1).bind fun x2=>(f52 x2).bind fun x3=>(if (decide (x3≠0))=true then (some (.brk (Sum.inr x3))) else (some (.next (IntKind.i64.wrap (x1 + 1))))) else (some (.brk (Sum.inl ()))))
  cst:=fun x1=>⟨put (put (fun _=>.junk) 3 (.int .i64 x1)) 0 (.sl 4 false (x0.map eApiSelect)),[]⟩
theorem f16_L1c(x0:(List ApiSelect))(x1:Int):(f16_L1 x0).cst x1=⟨put (put (fun _=>.junk) 3 (.int .i64 x1)) 0 (.sl 4 false (x0.map eApiSelect)),[]⟩:=rfl
def c16_3:C:=.seq (.reg [iI 19 (.mv (.t 4)),iI 20 (.bin .neq (.t 19) (.c (.int .i64 0)))]) (.cond (.t 20) (.seq (.reg [iI 21 (.mv (.t 4)),iI 2 (.mv (.t 21))]) .ret) (.skip))
def c16_5:C:=.seq (.block 1 (.seq (.reg [iI 14 (.mv (.t 0)),iI 15 (.mv (.t 3)),iI 16 (.iaddr 4 (.t 14) (.t 15)),iI 17 (.load 4 (.t 16)),iI 18 (.call (.c (.fn 52 [])) [(.t 17)]),iI 4 (.mv (.t 18))]) c16_3)) (.reg [iI 12 (.mv (.t 3)),iI 13 (.bin .add (.t 12) (.c (.int .i64 1))),iI 3 (.mv (.t 13))])
def c16_6:C:=.block 0 (.loop (.seq (.seq (.reg [iI 8 (.mv (.t 3)),iI 9 (.mv (.t 0)),iI 10 (.len 0 (.t 9)),iI 11 (.bin .lss (.t 8) (.t 10))]) (.cond (.t 11) (.skip) (.exit 0))) c16_5))
def c16_9:C:=.seq (.seq (.reg [iI 5 (.mv (.t 0)),iI 6 (.len 0 (.t 5)),iI 7 (.bin .gtr (.t 6) (.c (.int .i64 256)))]) (.cond (.t 7) (.seq (.reg [iI 2 (.mv (.c (.int .i64 5)))]) .ret) (.skip))) (.seq (.seq (.reg [iI 3 (.mv (.c (.int .i64 0)))]) c16_6) (.seq (.reg [iI 2 (.mv (.c (.int .i64 0)))]) .ret))
def ir16:C:=.seq (.reg [iI 2 (.mv (.c (.int .i64 0)))]) c16_9
theorem fd16:fd? Tryz.prog 16=some (22,[.slot 2],ir16):=by kernel_rfl
def f16(x0:(List ApiSelect)):Option (Int) :=
  (if (decide (256<((x0.length:Nat):Int)))=true then (some 5) else ((Lp.run (f16_L1 x0) 0).bind fun r_=>match r_ with | (Sum.inl _)=>(some 0) | (Sum.inr x1)=>(some x1)))
theorem f16_ok{x0:(List ApiSelect)}{r_:Int}(H:f16 x0=some r_):Pure Tryz.prog 16 [.sl 4 false (x0.map eApiSelect)] (· = .int .i64 r_):=by
 refine w3 fd16 fun Q hQ=>?_
 simp only[f16] at H
 refine zr ?_
 refine zq (zr ?_)
 refine ic H ?_ ?_<;>clear H<;>intro H
 ·refine zr ?_
  cases H
  exact zt (zv (zf hQ))
 ·refine zk (zm (zq (zr ?_)))
  refine zd ?_
  refine zU H [] [0,3] (f16_L1c ..) ?_<;>clear H
  rintro x1 x_ st0_ H hst_
  rw[f16_L1c] at hst_
  simp only[f16_L1] at H
  subst hst_
  refine zq (zr ?_)
  refine ic H ?_ ?_<;>clear H<;>intro H
  ·refine zk (zm (zb (zr ?_)))
   refine ia eApiSelect H ?_<;>clear H<;>intro x2 H
   refine zE1 ?_
   refine pu H f52_ok ?_<;>clear H<;>intro x3 H
   refine zE0 ?_
   refine zr ?_
   refine ic H ?_ ?_<;>clear H<;>intro H
   ·refine zr ?_
    refine zt (zp (loopQ.ret H ?_))<;>clear H<;>intro H
    try dsimp only at H
    cases H
    exact zh (zv (zf hQ))
   ·refine zk (zo (ze ?_))
    exact zu H [] [0,3] (f16_L1c ..)
  ·refine zx (zy (loopQ.exit H ?_))<;>clear H<;>intro H
   try dsimp only at H
   refine zi (zm (zr ?_))
   cases H
   exact zt (zf hQ)
def f116_L1(x0:(List Int))(x1:Int):Lp (Int) ((Unit)⊕(Unit)) where
  body:=fun x2=>(if (decide (x2<((x0.length:Nat):Int)))=true then (at? x0 x2).bind fun x3=>(if (decide (x3=x1))=true then (some (.brk (Sum.inr ()))) else (some (.next (IntKind.i64.wrap (x2 + 1))))) else (some (.brk (Sum.inl ()))))
  cst:=fun x2=>⟨put (put (put (fun _=>.junk) 5 (.int .i64 x2)) 1 (.int .i64 x1)) 0 (.sl 0 false (x0.map (AV.int .i64))),[]⟩
theorem f116_L1c(x0:(List Int))(x1:Int)(x2:Int):(f116_L1 x0 x1).cst x2=⟨put (put (put (fun _=>.junk) 5 (.int .i64 x2)) 1 (.int .i64 x1)) 0 (.sl 0 false (x0.map (AV.int .i64))),[]⟩:=rfl
def c116_3:C:=.seq (.block 1 (.seq (.reg [iI 12 (.mv (.t 0)),iI 13 (.mv (.t 5)),iI 14 (.iaddr 0 (.t 12) (.t 13)),iI 15 (.load 0 (.t 14)),iI 16 (.mv (.t 1)),iI 17 (.bin .eql (.t 15) (.t 16))]) (.cond (.t 17) (.seq (.reg [iI 4 (.mv (.c (.bool true)))]) .ret) (.skip)))) (.reg [iI 10 (.mv (.t 5)),iI 11 (.bin .add (.t 10) (.c (.int .i64 1))),iI 5 (.mv (.t 11))])
def c116_4:C:=.block 0 (.loop (.seq (.seq (.reg [iI 6 (.mv (.t 5)),iI 7 (.mv (.t 0)),iI 8 (.len 0 (.t 7)),iI 9 (.bin .lss (.t 6) (.t 8))]) (.cond (.t 9) (.skip) (.exit 0))) c116_3))
def ir116:C:=.seq (.reg [iI 4 (.mv (.c (.bool false)))]) (.seq (.seq (.reg [iI 5 (.mv (.c (.int .i64 0)))]) c116_4) (.seq (.reg [iI 4 (.mv (.c (.bool false)))]) .ret))
theorem fd116:fd? Tryz.prog 116=some (18,[.slot 4],ir116):=by kernel_rfl
def f116(x0:(List Int))(x1:Int):Option (Bool) :=
  ((Lp.run (f116_L1 x0 x1) 0).bind fun r_=>match r_ with | (Sum.inl _)=>(some false) | (Sum.inr _)=>(some true))
theorem f116_ok{x0:(List Int)}{x1:Int}{r_:Bool}(H:f116 x0 x1=some r_):Pure Tryz.prog 116 [.sl 0 false (x0.map (AV.int .i64)),.int .i64 x1] (· = .bool r_):=by
 refine w3 fd116 fun Q hQ=>?_
 simp only[f116] at H
 refine zr ?_
 refine zq (zr ?_)
 refine zd ?_
 refine zU H [] [0,1,5] (f116_L1c ..) ?_<;>clear H
 rintro x2 x_ st0_ H hst_
 rw[f116_L1c] at hst_
 simp only[f116_L1] at H
 subst hst_
 refine zq (zr ?_)
 refine ic H ?_ ?_<;>clear H<;>intro H
 ·refine zk (zm (zb (zr ?_)))
  refine ia (AV.int .i64) H ?_<;>clear H<;>intro x3 H
  refine zs ?_
  refine ic H ?_ ?_<;>clear H<;>intro H
  ·refine zr ?_
   refine zt (zp (loopQ.ret H ?_))<;>clear H<;>intro H
   try dsimp only at H
   cases H
   exact zh (zv (zf hQ))
  ·refine zk (zo (ze ?_))
   exact zu H [] [0,1,5] (f116_L1c ..)
 ·refine zx (zy (loopQ.exit H ?_))<;>clear H<;>intro H
  try dsimp only at H
  refine zi (zm (zr ?_))
  cases H
  exact zt (zf hQ)
def f76_L1(x0:ApiGroup):Lp (Int) ((Unit)⊕(Int)) where
  body:=fun x1=>(if (decide (x1<((x0.fChannels.length:Nat):Int)))=true then (at? x0.fChannels x1).bind fun x2=>(if (decide (x2<1))=true then (some (.brk (Sum.inr 2))) else (at? x0.fChannels x1).bind fun x3=>(if (decide (999<x3))=true then (some (.brk (Sum.inr 2))) else (slc? x0.fChannels 0 x1).bind fun x4=>(at? x0.fChannels x1).bind fun x5=>(f116 x4 x5).bind fun x6=>(if x6=true then (some (.brk (Sum.inr 7))) else (some (.next (IntKind.i64.wrap (x1 + 1))))))) else (some (.brk (Sum.inl ()))))
  cst:=fun x1=>⟨put (put (fun _=>.junk) 3 (.int .i64 x1)) 1 (.ptr 0 0),[.cel [.int .i64 x0.fNumber,.sl 0 false (x0.fChannels.map (AV.int .i64))]]⟩
theorem f76_L1c(x0:ApiGroup)(x1:Int):(f76_L1 x0).cst x1=⟨put (put (fun _=>.junk) 3 (.int .i64 x1)) 1 (.ptr 0 0),[.cel [.int .i64 x0.fNumber,.sl 0 false (x0.fChannels.map (AV.int .i64))]]⟩:=rfl
def c76_5:C:=.seq (.reg [iI 37 (.faddr 1 (.t 1)),iI 38 (.load 0 (.t 37)),iI 39 (.mv (.t 3)),iI 40 (.slice 0 (.t 38) none (some (.t 39))),iI 41 (.faddr 1 (.t 1)),iI 42 (.load 0 (.t 41)),iI 43 (.mv (.t 3)),iI 44 (.iaddr 0 (.t 42) (.t 43)),iI 45 (.load 0 (.t 44)),iI 46 (.call (.c (.fn 116 [])) [(.t 40),(.t 45)])]) (.cond (.t 46) (.seq (.reg [iI 2 (.mv (.c (.int .i64 7)))]) .ret) (.skip))
def c76_7:C:=.seq (.block 1 (.seq (.seq (.reg [iI 23 (.faddr 1 (.t 1)),iI 24 (.load 0 (.t 23)),iI 25 (.mv (.t 3)),iI 26 (.iaddr 0 (.t 24) (.t 25)),iI 27 (.load 0 (.t 26)),iI 28 (.bin .lss (.t 27) (.c (.int .i64 1))),iI 29 (.mv (.t 28)),iG (some 30) 29 false (.faddr 1 (.t 1)),iG (some 31) 29 false (.load 0 (.t 30)),iG (some 32) 29 false (.mv (.t 3)),iG (some 33) 29 false (.iaddr 0 (.t 31) (.t 32)),iG (some 34) 29 false (.load 0 (.t 33)),iG (some 35) 29 false (.bin .gtr (.t 34) (.c (.int .i64 999))),iI 36 (.pick (.t 29) (.c (.bool true)) (.t 35))]) (.cond (.t 36) (.seq (.reg [iI 2 (.mv (.c (.int .i64 2)))]) .ret) (.skip))) c76_5)) (.reg [iI 21 (.mv (.t 3)),iI 22 (.bin .add (.t 21) (.c (.int .i64 1))),iI 3 (.mv (.t 22))])
def c76_8:C:=.block 0 (.loop (.seq (.seq (.reg [iI 16 (.mv (.t 3)),iI 17 (.faddr 1 (.t 1)),iI 18 (.load 0 (.t 17)),iI 19 (.len 0 (.t 18)),iI 20 (.bin .lss (.t 16) (.t 19))]) (.cond (.t 20) (.skip) (.exit 0))) c76_7))
def c76_11:C:=.seq (.seq (.reg [iI 12 (.faddr 1 (.t 1)),iI 13 (.load 0 (.t 12)),iI 14 (.len 0 (.t 13)),iI 15 (.bin .gtr (.t 14) (.c (.int .i64 256)))]) (.cond (.t 15) (.seq (.reg [iI 2 (.mv (.c (.int .i64 5)))]) .ret) (.skip))) (.seq (.seq (.reg [iI 3 (.mv (.c (.int .i64 0)))]) c76_8) (.seq (.reg [iI 2 (.mv (.c (.int .i64 0)))]) .ret))
def c76_12:C:=.seq (.seq (.reg [iI 4 (.faddr 0 (.t 1)),iI 5 (.load 0 (.t 4)),iI 6 (.bin .lss (.t 5) (.c (.int .i64 1))),iI 7 (.mv (.t 6)),iG (some 8) 7 false (.faddr 0 (.t 1)),iG (some 9) 7 false (.load 0 (.t 8)),iG (some 10) 7 false (.bin .gtr (.t 9) (.c (.int .i64 1048576))),iI 11 (.pick (.t 7) (.c (.bool true)) (.t 10))]) (.cond (.t 11) (.seq (.reg [iI 2 (.mv (.c (.int .i64 2)))]) .ret) (.skip))) c76_11
def ir76:C:=.seq (.reg [iI 1 (.box (.t 0)),iI 2 (.mv (.c (.int .i64 0)))]) c76_12
theorem fd76:fd? Tryz.prog 76=some (47,[.slot 2],ir76):=by kernel_rfl
def f76(x0:ApiGroup):Option (Int) :=
  (if (decide (x0.fNumber<1))=true then (some 2) else (if (decide (1048576<x0.fNumber))=true then (some 2) else (if (decide (256<((x0.fChannels.length:Nat):Int)))=true then (some 5) else ((Lp.run (f76_L1 x0) 0).bind fun r_=>match r_ with | (Sum.inl _)=>(some 0) | (Sum.inr x1)=>(some x1)))))
theorem f76_ok{x0:ApiGroup}{r_:Int}(H:f76 x0=some r_):Pure Tryz.prog 76 [.agg [.int .i64 x0.fNumber,.sl 0 false (x0.fChannels.map (AV.int .i64))]] (· = .int .i64 r_):=by
 refine w3 fd76 fun Q hQ=>?_
 simp only[f76] at H
 refine zr ?_
 refine zq (zr ?_)
 refine ig H ?_ ?_<;>clear H<;>intro H
 ·refine zs ?_
  refine za (zr ?_)
  cases H
  exact zt (zv (zf hQ))
 ·refine zs ?_
  refine ic H ?_ ?_<;>clear H<;>intro H
  ·refine zr ?_
   cases H
   exact zt (zv (zf hQ))
  ·refine zk (zm (zq (zr ?_)))
   refine ic H ?_ ?_<;>clear H<;>intro H
   ·refine zr ?_
    cases H
    exact zt (zv (zf hQ))
   ·refine zk (zm (zq (zr ?_)))
    refine zd ?_
    refine zU H [0] [1,3] (f76_L1c ..) ?_<;>clear H
    rintro x1 x_ st0_ H hst_
    rw[f76_L1c] at hst_
    simp only[f76_L1] at H
    subst hst_
    refine zq (zr ?_)
    refine ic H ?_ ?_<;>clear H<;>intro H
    ·refine zk (zm (zb (zq (zr ?_))))
     refine ia (AV.int .i64) H ?_<;>clear H<;>intro x2 H
     refine zs ?_
     refine ig H ?_ ?_<;>clear H<;>intro H
     ·refine zs ?_
      refine za (zr ?_)
      refine zt (zv (zp (loopQ.ret H ?_)))<;>clear H<;>intro H
      try dsimp only at H
      cases H
      exact zh (zv (zf hQ))
     ·refine zs ?_
      refine ia (AV.int .i64) H ?_<;>clear H<;>intro x3 H
      refine zs ?_
      refine ic H ?_ ?_<;>clear H<;>intro H
      ·refine zr ?_
       refine zt (zv (zp (loopQ.ret H ?_)))<;>clear H<;>intro H
       try dsimp only at H
       cases H
       exact zh (zv (zf hQ))
      ·refine zk (zm (zr ?_))
       refine sc (AV.int .i64) H ?_<;>clear H<;>intro x4 H
       refine zs ?_
       refine ia (AV.int .i64) H ?_<;>clear H<;>intro x5 H
       refine zs ?_
       refine pu H f116_ok ?_<;>clear H<;>intro x6 H
       refine zE0 ?_
       refine ic H ?_ ?_<;>clear H<;>intro H
       ·refine zr ?_
        refine zt (zp (loopQ.ret H ?_))<;>clear H<;>intro H
        try dsimp only at H
        cases H
        exact zh (zv (zf hQ))
       ·refine zk (zo (ze ?_))
        exact zu H [0] [1,3] (f76_L1c ..)
    ·refine zx (zy (loopQ.exit H ?_))<;>clear H<;>intro H
     try dsimp only at H
     refine zi (zm (zr ?_))
     cases H
     exact zt (zf hQ)
def f33_L1(x0:(List ApiGroup)):Lp (Int) ((Unit)⊕(Int)) where
  body:=fun x1=>(if (decide (x1<((x0.length:Nat):Int)))=true then (at? x0 x1).bind fun x2=>(f76 x2).bind fun x3=>(if (decide (x3≠0))=true then (some (.brk (Sum.inr x3))) else (if (decide (0<x1))=true then (at? x0 x1).bind fun x4=>(at? x0 (IntKind.i64.wrap (x1 - 1))).bind fun x5=>(if (decide (x4.fNumber≤x5.fNumber))=true then (some (.brk (Sum.inr 9))) else (some (.next (IntKind.i64.wrap (x1 + 1))))) else (some (.next (IntKind.i64.wrap (x1 + 1)))))) else (some (.brk (Sum.inl ()))))
  cst:=fun x1=>⟨put (put (fun _=>.junk) 3 (.int .i64 x1)) 0 (.sl 2 false (x0.map eApiGroup)),[]⟩
theorem f33_L1c(x0:(List ApiGroup))(x1:Int):(f33_L1 x0).cst x1=⟨put (put (fun _=>.junk) 3 (.int .i64 x1)) 0 (.sl 2 false (x0.map eApiGroup)),[]⟩:=rfl
def c33_3:C:=.seq (.reg [iI 19 (.mv (.t 4)),iI 20 (.bin .neq (.t 19) (.c (.int .i64 0)))]) (.cond (.t 20) (.seq (.reg [iI 21 (.mv (.t 4)),iI 2 (.mv (.t 21))]) .ret) (.skip))
def c33_5:C:=.seq (.reg [iI 22 (.mv (.t 3)),iI 23 (.bin .gtr (.t 22) (.c (.int .i64 0))),iI 24 (.mv (.t 23)),iG (some 25) 24 true (.mv (.t 0)),iG (some 26) 24 true (.mv (.t 3)),iG (some 27) 24 true (.iaddr 2 (.t 25) (.t 26)),iG (some 28) 24 true (.faddr 0 (.t 27)),iG (some 29) 24 true (.load 0 (.t 28)),iG (some 30) 24 true (.mv (.t 0)),iG (some 31) 24 true (.mv (.t 3)),iG (some 32) 24 true (.bin .sub (.t 31) (.c (.int .i64 1))),iG (some 33) 24 true (.iaddr 2 (.t 30) (.t 32)),iG (some 34) 24 true (.faddr 0 (.t 33)),iG (some 35) 24 true (.load 0 (.t 34)),iG (some 36) 24 true (.bin .leq (.t 29) (.t 35)),iI 37 (.pick (.t 24) (.t 36) (.c (.bool false)))]) (.cond (.t 37) (.seq (.reg [iI 2 (.mv (.c (.int .i64 9)))]) .ret) (.skip))
def c33_7:C:=.seq (.block 1 (.seq (.seq (.reg [iI 14 (.mv (.t 0)),iI 15 (.mv (.t 3)),iI 16 (.iaddr 2 (.t 14) (.t 15)),iI 17 (.load 2 (.t 16)),iI 18 (.call (.c (.fn 76 [])) [(.t 17)]),iI 4 (.mv (.t 18))]) c33_3) c33_5)) (.reg [iI 12 (.mv (.t 3)),iI 13 (.bin .add (.t 12) (.c (.int .i64 1))),iI 3 (.mv (.t 13))])
def c33_8:C:=.block 0 (.loop (.seq (.seq (.reg [iI 8 (.mv (.t 3)),iI 9 (.mv (.t 0)),iI 10 (.len 0 (.t 9)),iI 11 (.bin .lss (.t 8) (.t 10))]) (.cond (.t 11) (.skip) (.exit 0))) c33_7))
def c33_11:C:=.seq (.seq (.reg [iI 5 (.mv (.t 0)),iI 6 (.len 0 (.t 5)),iI 7 (.bin .gtr (.t 6) (.c (.int .i64 32)))]) (.cond (.t 7) (.seq (.reg [iI 2 (.mv (.c (.int .i64 5)))]) .ret) (.skip))) (.seq (.seq (.reg [iI 3 (.mv (.c (.int .i64 0)))]) c33_8) (.seq (.reg [iI 2 (.mv (.c (.int .i64 0)))]) .ret))
def ir33:C:=.seq (.reg [iI 2 (.mv (.c (.int .i64 0)))]) c33_11
theorem fd33:fd? Tryz.prog 33=some (38,[.slot 2],ir33):=by kernel_rfl
def f33(x0:(List ApiGroup)):Option (Int) :=
  (if (decide (32<((x0.length:Nat):Int)))=true then (some 5) else ((Lp.run (f33_L1 x0) 0).bind fun r_=>match r_ with | (Sum.inl _)=>(some 0) | (Sum.inr x1)=>(some x1)))
theorem f33_ok{x0:(List ApiGroup)}{r_:Int}(H:f33 x0=some r_):Pure Tryz.prog 33 [.sl 2 false (x0.map eApiGroup)] (· = .int .i64 r_):=by
 refine w3 fd33 fun Q hQ=>?_
 simp only[f33] at H
 refine zr ?_
 refine zq (zr ?_)
 refine ic H ?_ ?_<;>clear H<;>intro H
 ·refine zr ?_
  cases H
  exact zt (zv (zf hQ))
 ·refine zk (zm (zq (zr ?_)))
  refine zd ?_
  refine zU H [] [0,3] (f33_L1c ..) ?_<;>clear H
  rintro x1 x_ st0_ H hst_
  rw[f33_L1c] at hst_
  simp only[f33_L1] at H
  subst hst_
  refine zq (zr ?_)
  refine ic H ?_ ?_<;>clear H<;>intro H
  ·refine zk (zm (zb (zq (zr ?_))))
   refine ia eApiGroup H ?_<;>clear H<;>intro x2 H
   refine zE2 ?_
   refine pu H f76_ok ?_<;>clear H<;>intro x3 H
   refine zE0 ?_
   refine zr ?_
   refine ic H ?_ ?_<;>clear H<;>intro H
   ·refine zr ?_
    refine zt (zv (zp (loopQ.ret H ?_)))<;>clear H<;>intro H
    try dsimp only at H
    cases H
    exact zh (zv (zf hQ))
   ·refine zk (zm (zr ?_))
    refine ig H ?_ ?_<;>clear H<;>intro H
    ·refine zs ?_
     refine ia eApiGroup H ?_<;>clear H<;>intro x4 H
     refine zE2 ?_
     refine ia eApiGroup H ?_<;>clear H<;>intro x5 H
     refine zE2 ?_
     refine ic H ?_ ?_<;>clear H<;>intro H
     ·refine zr ?_
      refine zt (zp (loopQ.ret H ?_))<;>clear H<;>intro H
      try dsimp only at H
      cases H
      exact zh (zv (zf hQ))
     ·refine zk (zo (ze ?_))
      exact zu H [] [0,3] (f33_L1c ..)
    ·refine zs ?_
     refine zc (zk (zo (ze ?_)))
     exact zu H [] [0,3] (f33_L1c ..)
  ·refine zx (zy (loopQ.exit H ?_))<;>clear H<;>intro H
   try dsimp only at H
   refine zi (zm (zr ?_))
   cases H
   exact zt (zf hQ)
def f49_L1(x0:(List ApiGroup))(x1:Int):Lp (Int) ((Unit)⊕(Int)) where
  body:=fun x2=>(if (decide (x2<((x0.length:Nat):Int)))=true then (at? x0 x2).bind fun x3=>(if (decide (x3.fNumber=x1))=true then (some (.brk (Sum.inr x2))) else (some (.next (IntKind.i64.wrap (x2 + 1))))) else (some (.brk (Sum.inl ()))))
  cst:=fun x2=>⟨put (put (put (fun _=>.junk) 5 (.int .i64 x2)) 1 (.int .i64 x1)) 0 (.sl 2 false (x0.map eApiGroup)),[]⟩
theorem f49_L1c(x0:(List ApiGroup))(x1:Int)(x2:Int):(f49_L1 x0 x1).cst x2=⟨put (put (put (fun _=>.junk) 5 (.int .i64 x2)) 1 (.int .i64 x1)) 0 (.sl 2 false (x0.map eApiGroup)),[]⟩:=rfl
def c49_3:C:=.seq (.block 1 (.seq (.reg [iI 12 (.mv (.t 0)),iI 13 (.mv (.t 5)),iI 14 (.iaddr 2 (.t 12) (.t 13)),iI 15 (.faddr 0 (.t 14)),iI 16 (.load 0 (.t 15)),iI 17 (.mv (.t 1)),iI 18 (.bin .eql (.t 16) (.t 17))]) (.cond (.t 18) (.seq (.reg [iI 19 (.mv (.t 5)),iI 4 (.mv (.t 19))]) .ret) (.skip)))) (.reg [iI 10 (.mv (.t 5)),iI 11 (.bin .add (.t 10) (.c (.int .i64 1))),iI 5 (.mv (.t 11))])
def c49_4:C:=.block 0 (.loop (.seq (.seq (.reg [iI 6 (.mv (.t 5)),iI 7 (.mv (.t 0)),iI 8 (.len 0 (.t 7)),iI 9 (.bin .lss (.t 6) (.t 8))]) (.cond (.t 9) (.skip) (.exit 0))) c49_3))
def ir49:C:=.seq (.reg [iI 4 (.mv (.c (.int .i64 0)))]) (.seq (.seq (.reg [iI 5 (.mv (.c (.int .i64 0)))]) c49_4) (.seq (.reg [iI 4 (.mv (.c (.int .i64 (-1))))]) .ret))
theorem fd49:fd? Tryz.prog 49=some (20,[.slot 4],ir49):=by kernel_rfl
def f49(x0:(List ApiGroup))(x1:Int):Option (Int) :=
  ((Lp.run (f49_L1 x0 x1) 0).bind fun r_=>match r_ with | (Sum.inl _)=>(some (-1)) | (Sum.inr x2)=>(some x2))
theorem f49_ok{x0:(List ApiGroup)}{x1:Int}{r_:Int}(H:f49 x0 x1=some r_):Pure Tryz.prog 49 [.sl 2 false (x0.map eApiGroup),.int .i64 x1] (· = .int .i64 r_):=by
 refine w3 fd49 fun Q hQ=>?_
 simp only[f49] at H
 refine zr ?_
 refine zq (zr ?_)
 refine zd ?_
 refine zU H [] [0,1,5] (f49_L1c ..) ?_<;>clear H
 rintro x2 x_ st0_ H hst_
 rw[f49_L1c] at hst_
 simp only[f49_L1] at H
 subst hst_
 refine zq (zr ?_)
 refine ic H ?_ ?_<;>clear H<;>intro H
 ·refine zk (zm (zb (zr ?_)))
  refine ia eApiGroup H ?_<;>clear H<;>intro x3 H
  refine zE2 ?_
  refine ic H ?_ ?_<;>clear H<;>intro H
  ·refine zr ?_
   refine zt (zp (loopQ.ret H ?_))<;>clear H<;>intro H
   try dsimp only at H
   cases H
   exact zh (zv (zf hQ))
  ·refine zk (zo (ze ?_))
   exact zu H [] [0,1,5] (f49_L1c ..)
 ·refine zx (zy (loopQ.exit H ?_))<;>clear H<;>intro H
  try dsimp only at H
  refine zi (zm (zr ?_))
  cases H
  exact zt (zf hQ)
def f38_L2(x0:(List Ref06Range))(x1:Int):Lp (Int×(List Int)) ((List Int)) where
  body:=fun (x2,x3)=>(at? x0 x1).bind fun x4=>(if (decide (x2≤x4.fTo))=true then (app? 8 x3 ([x2])).bind fun x5=>(some (.next ((IntKind.i64.wrap (x2 + 1)),x5))) else (some (.brk x3)))
  cst:=fun (x2,x3)=>⟨put (put (put (put (fun _=>.junk) 5 (.int .i64 x2)) 4 (.int .i64 x1)) 3 (.row 0 0 0 x3.length)) 0 (.sl 2 false (x0.map eRef06Range)),[.els 0 (x3.map (AV.int .i64))]⟩
theorem f38_L2c(x0:(List Ref06Range))(x1:Int)(x2:Int)(x3:(List Int)):(f38_L2 x0 x1).cst (x2,x3)=⟨put (put (put (put (fun _=>.junk) 5 (.int .i64 x2)) 4 (.int .i64 x1)) 3 (.row 0 0 0 x3.length)) 0 (.sl 2 false (x0.map eRef06Range)),[.els 0 (x3.map (AV.int .i64))]⟩:=rfl
def f38_L1(x0:(List Ref06Range)):Lp (Int×(List Int)) ((List Int)) where
  body:=fun (x1,x2)=>(if (decide (x1<((x0.length:Nat):Int)))=true then (at? x0 x1).bind fun x3=>(Lp.run (f38_L2 x0 x1) (x3.fFrom,x2)).bind fun x4=>(some (.next ((IntKind.i64.wrap (x1 + 1)),x4))) else (some (.brk x2)))
  cst:=fun (x1,x2)=>⟨put (put (put (fun _=>.junk) 4 (.int .i64 x1)) 3 (.row 0 0 0 x2.length)) 0 (.sl 2 false (x0.map eRef06Range)),[.els 0 (x2.map (AV.int .i64))]⟩
theorem f38_L1c(x0:(List Ref06Range))(x1:Int)(x2:(List Int)):(f38_L1 x0).cst (x1,x2)=⟨put (put (put (fun _=>.junk) 4 (.int .i64 x1)) 3 (.row 0 0 0 x2.length)) 0 (.sl 2 false (x0.map eRef06Range)),[.els 0 (x2.map (AV.int .i64))]⟩:=rfl
def c38_3:C:=.seq (.block 3 (.reg [iI 26 (.mv (.t 3)),iI 27 (.mv (.t 5)),iI 28 (.mkslp 0 1 (.int .i64 0) [(0,(.t 27))]),iI 29 (.append 0 8 (.t 26) (.t 28)),iI 3 (.mv (.t 29))])) (.reg [iI 24 (.mv (.t 5)),iI 25 (.bin .add (.t 24) (.c (.int .i64 1))),iI 5 (.mv (.t 25))])
def c38_4:C:=.block 2 (.loop (.seq (.seq (.reg [iI 17 (.mv (.t 5)),iI 18 (.mv (.t 0)),iI 19 (.mv (.t 4)),iI 20 (.iaddr 2 (.t 18) (.t 19)),iI 21 (.faddr 1 (.t 20)),iI 22 (.load 0 (.t 21)),iI 23 (.bin .leq (.t 17) (.t 22))]) (.cond (.t 23) (.skip) (.exit 2))) c38_3))
def c38_6:C:=.seq (.block 1 (.seq (.reg [iI 12 (.mv (.t 0)),iI 13 (.mv (.t 4)),iI 14 (.iaddr 2 (.t 12) (.t 13)),iI 15 (.faddr 0 (.t 14)),iI 16 (.load 0 (.t 15)),iI 5 (.mv (.t 16))]) c38_4)) (.reg [iI 10 (.mv (.t 4)),iI 11 (.bin .add (.t 10) (.c (.int .i64 1))),iI 4 (.mv (.t 11))])
def c38_7:C:=.block 0 (.loop (.seq (.seq (.reg [iI 6 (.mv (.t 4)),iI 7 (.mv (.t 0)),iI 8 (.len 0 (.t 7)),iI 9 (.bin .lss (.t 6) (.t 8))]) (.cond (.t 9) (.skip) (.exit 0))) c38_6))
def c38_10:C:=.seq (.reg [iI 3 (.mv (.c (.sl 0 true [])))]) (.seq (.seq (.reg [iI 4 (.mv (.c (.int .i64 0)))]) c38_7) (.seq (.reg [iI 30 (.mv (.t 3)),iI 2 (.mv (.t 30))]) .ret))
def ir38:C:=.seq (.reg [iI 2 (.mv (.c (.sl 0 true [])))]) c38_10
theorem fd38:fd? Tryz.prog 38=some (31,[.slot 2],ir38):=by kernel_rfl
def f38(x0:(List Ref06Range)):Option ((List Int)) :=
  (Lp.run (f38_L1 x0) (0,[])).bind fun x1=>(some x1)
theorem f38_ok{x0:(List Ref06Range)}{r_:(List Int)}(H:f38 x0=some r_):Pure Tryz.prog 38 [.sl 2 false (x0.map eRef06Range)] (· = .fr 0 (r_.map (AV.int .i64))):=by
 refine w3s fd38 0 fun Q hQ=>?_
 simp only[f38] at H
 refine zr ?_
 refine zr ?_
 refine zq (zr ?_)
 refine zd ?_
 refine AW.iter H ((Le.trans (Le.nilRow (i:=3) (e:=0) (by simp only[↓wk,↓wl,nq,evV,↓reduceIte,sevalprocAttr])) (Le.tz [0] [0,3,4] (by simp only[f38_L1c,wm,wmr,rrm,↓wk,↓wl,evV,↓reduceIte,sevalprocAttr]<;>rfl)))) ?_<;>clear H
 rintro ⟨x1,x2⟩ x_ st0_ H hst_
 rw[f38_L1c] at hst_
 simp only[f38_L1] at H
 subst hst_
 refine zq (zr ?_)
 refine ic H ?_ ?_<;>clear H<;>intro H
 ·refine zk (zm (zb (zr ?_)))
  refine ia eRef06Range H ?_<;>clear H<;>intro x3 H
  refine zE11 ?_
  refine zd ?_
  refine zU H [0] [0,3,4,5] (f38_L2c ..) ?_<;>clear H
  rintro ⟨x4,x5⟩ x_ st0_ H hst_
  rw[f38_L2c] at hst_
  simp only[f38_L2] at H
  subst hst_
  refine zq (zr ?_)
  refine ia eRef06Range H ?_<;>clear H<;>intro x6 H
  refine zE11 ?_
  refine ic H ?_ ?_<;>clear H<;>intro H
  ·refine zk (zm (zb (ze ?_)))
   refine ap (AV.int .i64) H ?_<;>clear H<;>intro x7 H
   refine zs ?_
   refine zo (ze ?_)
   exact zu H [1] [0,3,4,5] (f38_L2c ..)
  ·refine zx (zy (loopQ.exit H ?_))<;>clear H<;>intro H
   try dsimp only at H
   refine zi (zo (ze ?_))
   exact zu H [0] [0,3,4] (f38_L1c ..)
 ·refine zx (zy (loopQ.exit H ?_))<;>clear H<;>intro H
  try dsimp only at H
  refine zi (zm (zr ?_))
  cases H
  exact zt (zf2 hQ)
theorem f38_im{x0:(List Ref06Range)}{r_:(List Int)}(H:f38 x0=some r_):Pure Tryz.prog 38 [.sl 2 false (x0.map eRef06Range)] (· = .sl 0 false (r_.map (AV.int .i64))):=(f38_ok H).unfr (by first | exact enc_fits _ | simp only[frFits,List.all_cons,List.all_nil,enc_fits,Bool.and_self])
def c92_0:C:=.cond (.t 7) (.seq (.reg [iI 8 (.mv (.t 1)),iI 9 (.mv (.t 1)),iI 10 (.faddr 1 (.t 2)),iI 11 (.load 0 (.t 10)),iI 12 (.call (.c (.fn 49 [])) [(.t 9),(.t 11)]),iI 13 (.iaddr 2 (.t 8) (.t 12)),iI 14 (.faddr 1 (.t 13)),iI 15 (.load 0 (.t 14)),iI 4 (.mv (.t 15))]) .ret) (.skip)
def c92_1:C:=.seq (.reg [iI 16 (.faddr 2 (.t 2)),iI 17 (.load 0 (.t 16)),iI 18 (.faddr 3 (.t 2)),iI 19 (.load 0 (.t 18)),iI 20 (.build [(1,(.int .i64 0)),(1,(.int .i64 0))] [(0,0,(.t 17)),(1,0,(.t 19))]),iI 21 (.mkslp 2 1 (.agg [(.int .i64 0),(.int .i64 0)]) [(0,(.t 20))]),iI 22 (.call (.c (.fn 38 [])) [(.t 21)]),iI 4 (.mv (.t 22))]) .ret
def ir92:C:=.seq (.reg [iI 2 (.box (.t 0)),iI 4 (.mv (.c (.sl 0 true [])))]) (.seq (.seq (.reg [iI 5 (.faddr 1 (.t 2)),iI 6 (.load 0 (.t 5)),iI 7 (.bin .neq (.t 6) (.c (.int .i64 0)))]) c92_0) c92_1)
theorem fd92:fd? Tryz.prog 92=some (23,[.slot 4],ir92):=by kernel_rfl
def f92(x0:ApiSelect)(x1:(List ApiGroup)):Option ((List Int)) :=
  (if (decide (x0.fGroup≠0))=true then (f49 x1 x0.fGroup).bind fun x2=>(at? x1 x2).bind fun x3=>(some x3.fChannels) else (f38 ([(Ref06Range.mk x0.fFrom x0.fTo)])).bind fun x4=>(some x4))
theorem f92_ok{x0:ApiSelect}{x1:(List ApiGroup)}{r_:(List Int)}(H:f92 x0 x1=some r_):Pure Tryz.prog 92 [.agg [.int .i64 x0.fOp,.int .i64 x0.fGroup,.int .i64 x0.fFrom,.int .i64 x0.fTo],.sl 2 false (x1.map eApiGroup)] (· = .sl 0 false (r_.map (AV.int .i64))):=by
 refine w3 fd92 fun Q hQ=>?_
 simp only[f92] at H
 refine zr ?_
 refine zq (zr ?_)
 refine ic H ?_ ?_<;>clear H<;>intro H
 ·refine zr ?_
  refine pu H f49_ok ?_<;>clear H<;>intro x2 H
  refine zE0 ?_
  refine ia eApiGroup H ?_<;>clear H<;>intro x3 H
  refine zE2 ?_
  cases H
  exact zt (zv (zf hQ))
 ·refine zk (zm (zr ?_))
  refine pu H f38_im ?_<;>clear H<;>intro x4 H
  refine zE0 ?_
  cases H
  exact zt (zf hQ)
def f67_L1(x0:(List Int))(x1:Int):Lp (Int) ((Unit)⊕(Unit)) where
  body:=fun x2=>(if (decide (x2<((x0.length:Nat):Int)))=true then (at? x0 x2).bind fun x3=>(if (decide (x3=x1))=true then (some (.brk (Sum.inr ()))) else (some (.next (IntKind.i64.wrap (x2 + 1))))) else (some (.brk (Sum.inl ()))))
  cst:=fun x2=>⟨put (put (put (fun _=>.junk) 5 (.int .i64 x2)) 1 (.int .i64 x1)) 0 (.sl 0 false (x0.map (AV.int .i64))),[]⟩
theorem f67_L1c(x0:(List Int))(x1:Int)(x2:Int):(f67_L1 x0 x1).cst x2=⟨put (put (put (fun _=>.junk) 5 (.int .i64 x2)) 1 (.int .i64 x1)) 0 (.sl 0 false (x0.map (AV.int .i64))),[]⟩:=rfl
def c67_3:C:=.seq (.block 1 (.seq (.reg [iI 12 (.mv (.t 0)),iI 13 (.mv (.t 5)),iI 14 (.iaddr 0 (.t 12) (.t 13)),iI 15 (.load 0 (.t 14)),iI 16 (.mv (.t 1)),iI 17 (.bin .eql (.t 15) (.t 16))]) (.cond (.t 17) (.seq (.reg [iI 4 (.mv (.c (.bool true)))]) .ret) (.skip)))) (.reg [iI 10 (.mv (.t 5)),iI 11 (.bin .add (.t 10) (.c (.int .i64 1))),iI 5 (.mv (.t 11))])
def c67_4:C:=.block 0 (.loop (.seq (.seq (.reg [iI 6 (.mv (.t 5)),iI 7 (.mv (.t 0)),iI 8 (.len 0 (.t 7)),iI 9 (.bin .lss (.t 6) (.t 8))]) (.cond (.t 9) (.skip) (.exit 0))) c67_3))
def ir67:C:=.seq (.reg [iI 4 (.mv (.c (.bool false)))]) (.seq (.seq (.reg [iI 5 (.mv (.c (.int .i64 0)))]) c67_4) (.seq (.reg [iI 4 (.mv (.c (.bool false)))]) .ret))
theorem fd67:fd? Tryz.prog 67=some (18,[.slot 4],ir67):=by kernel_rfl
def f67(x0:(List Int))(x1:Int):Option (Bool) :=
  ((Lp.run (f67_L1 x0 x1) 0).bind fun r_=>match r_ with | (Sum.inl _)=>(some false) | (Sum.inr _)=>(some true))
theorem f67_ok{x0:(List Int)}{x1:Int}{r_:Bool}(H:f67 x0 x1=some r_):Pure Tryz.prog 67 [.sl 0 false (x0.map (AV.int .i64)),.int .i64 x1] (· = .bool r_):=by
 refine w3 fd67 fun Q hQ=>?_
 simp only[f67] at H
 refine zr ?_
 refine zq (zr ?_)
 refine zd ?_
 refine zU H [] [0,1,5] (f67_L1c ..) ?_<;>clear H
 rintro x2 x_ st0_ H hst_
 rw[f67_L1c] at hst_
 simp only[f67_L1] at H
 subst hst_
 refine zq (zr ?_)
 refine ic H ?_ ?_<;>clear H<;>intro H
 ·refine zk (zm (zb (zr ?_)))
  refine ia (AV.int .i64) H ?_<;>clear H<;>intro x3 H
  refine zs ?_
  refine ic H ?_ ?_<;>clear H<;>intro H
  ·refine zr ?_
   refine zt (zp (loopQ.ret H ?_))<;>clear H<;>intro H
   try dsimp only at H
   cases H
   exact zh (zv (zf hQ))
  ·refine zk (zo (ze ?_))
   exact zu H [] [0,1,5] (f67_L1c ..)
 ·refine zx (zy (loopQ.exit H ?_))<;>clear H<;>intro H
  try dsimp only at H
  refine zi (zm (zr ?_))
  cases H
  exact zt (zf hQ)
def f50_L2(x0:(List Int))(x1:Int)(x2:(List ApiGroup))(x3:(List ApiSelect)):Lp (Int×(List Int)) ((List Int)) where
  body:=fun (x4,x5)=>(if (decide (x4<((x0.length:Nat):Int)))=true then (at? x0 x4).bind fun x6=>(f67 x5 x6).bind fun x7=>(if (!x7)=true then (at? x0 x4).bind fun x8=>(app? 8 x5 ([x8])).bind fun x9=>(some (.next ((IntKind.i64.wrap (x4 + 1)),x9))) else (some (.next ((IntKind.i64.wrap (x4 + 1)),x5)))) else (some (.brk x5)))
  cst:=fun (x4,x5)=>⟨put (put (put (put (put (put (fun _=>.junk) 8 (.int .i64 x4)) 7 (.sl 0 false (x0.map (AV.int .i64)))) 6 (.int .i64 x1)) 5 (.row 0 0 0 x5.length)) 1 (.sl 2 false (x2.map eApiGroup))) 0 (.sl 4 false (x3.map eApiSelect)),[.els 0 (x5.map (AV.int .i64))]⟩
theorem f50_L2c(x0:(List Int))(x1:Int)(x2:(List ApiGroup))(x3:(List ApiSelect))(x4:Int)(x5:(List Int)):(f50_L2 x0 x1 x2 x3).cst (x4,x5)=⟨put (put (put (put (put (put (fun _=>.junk) 8 (.int .i64 x4)) 7 (.sl 0 false (x0.map (AV.int .i64)))) 6 (.int .i64 x1)) 5 (.row 0 0 0 x5.length)) 1 (.sl 2 false (x2.map eApiGroup))) 0 (.sl 4 false (x3.map eApiSelect)),[.els 0 (x5.map (AV.int .i64))]⟩:=rfl
def f50_L3(x0:(List Int))(x1:(List Int))(x2:Int)(x3:(List ApiGroup))(x4:(List ApiSelect)):Lp (Int×(List Int)) ((List Int)) where
  body:=fun (x5,x6)=>(if (decide (x5<((x0.length:Nat):Int)))=true then (at? x0 x5).bind fun x7=>(f67 x1 x7).bind fun x8=>(if (!x8)=true then (at? x0 x5).bind fun x9=>(app? 8 x6 ([x9])).bind fun xa=>(some (.next ((IntKind.i64.wrap (x5 + 1)),xa))) else (some (.next ((IntKind.i64.wrap (x5 + 1)),x6)))) else (some (.brk x6)))
  cst:=fun (x5,x6)=>⟨put (put (put (put (put (put (put (fun _=>.junk) 10 (.int .i64 x5)) 9 (.row 0 1 0 x6.length)) 7 (.sl 0 false (x1.map (AV.int .i64)))) 6 (.int .i64 x2)) 5 (.row 0 0 0 x0.length)) 1 (.sl 2 false (x3.map eApiGroup))) 0 (.sl 4 false (x4.map eApiSelect)),[.els 0 (x0.map (AV.int .i64)),.els 0 (x6.map (AV.int .i64))]⟩
theorem f50_L3c(x0:(List Int))(x1:(List Int))(x2:Int)(x3:(List ApiGroup))(x4:(List ApiSelect))(x5:Int)(x6:(List Int)):(f50_L3 x0 x1 x2 x3 x4).cst (x5,x6)=⟨put (put (put (put (put (put (put (fun _=>.junk) 10 (.int .i64 x5)) 9 (.row 0 1 0 x6.length)) 7 (.sl 0 false (x1.map (AV.int .i64)))) 6 (.int .i64 x2)) 5 (.row 0 0 0 x0.length)) 1 (.sl 2 false (x3.map eApiGroup))) 0 (.sl 4 false (x4.map eApiSelect)),[.els 0 (x0.map (AV.int .i64)),.els 0 (x6.map (AV.int .i64))]⟩:=rfl
def f50_L1(x0:(List ApiSelect))(x1:(List ApiGroup)):Lp (Int×(List Int)) ((List Int)) where
  body:=fun (x2,x3)=>(if (decide (x2<((x0.length:Nat):Int)))=true then (at? x0 x2).bind fun x4=>(f92 x4 x1).bind fun x5=>(at? x0 x2).bind fun x6=>(if (decide (x6.fOp=0))=true then (Lp.run (f50_L2 x5 x2 x1 x0) (0,x3)).bind fun x7=>(some (.next ((IntKind.i64.wrap (x2 + 1)),x7))) else (Lp.run (f50_L3 x3 x5 x2 x1 x0) (0,[])).bind fun x8=>(some (.next ((IntKind.i64.wrap (x2 + 1)),x8)))) else (some (.brk x3)))
  cst:=fun (x2,x3)=>⟨put (put (put (put (fun _=>.junk) 6 (.int .i64 x2)) 5 (.row 0 0 0 x3.length)) 1 (.sl 2 false (x1.map eApiGroup))) 0 (.sl 4 false (x0.map eApiSelect)),[.els 0 (x3.map (AV.int .i64))]⟩
theorem f50_L1c(x0:(List ApiSelect))(x1:(List ApiGroup))(x2:Int)(x3:(List Int)):(f50_L1 x0 x1).cst (x2,x3)=⟨put (put (put (put (fun _=>.junk) 6 (.int .i64 x2)) 5 (.row 0 0 0 x3.length)) 1 (.sl 2 false (x1.map eApiGroup))) 0 (.sl 4 false (x0.map eApiSelect)),[.els 0 (x3.map (AV.int .i64))]⟩:=rfl
def c50_2:C:=.cond (.t 41) (.reg [iI 42 (.mv (.t 5)),iI 43 (.mv (.t 7)),iI 44 (.mv (.t 8)),iI 45 (.iaddr 0 (.t 43) (.t 44)),iI 46 (.load 0 (.t 45)),iI 47 (.mkslp 0 1 (.int .i64 0) [(0,(.t 46))]),iI 48 (.append 0 8 (.t 42) (.t 47)),iI 5 (.mv (.t 48))]) (.skip)
def c50_4:C:=.seq (.block 3 (.seq (.reg [iI 35 (.mv (.t 5)),iI 36 (.mv (.t 7)),iI 37 (.mv (.t 8)),iI 38 (.iaddr 0 (.t 36) (.t 37)),iI 39 (.load 0 (.t 38)),iI 40 (.call (.c (.fn 67 [])) [(.t 35),(.t 39)]),iI 41 (.un .not (.t 40))]) c50_2)) (.reg [iI 33 (.mv (.t 8)),iI 34 (.bin .add (.t 33) (.c (.int .i64 1))),iI 8 (.mv (.t 34))])
def c50_5:C:=.block 2 (.loop (.seq (.seq (.reg [iI 29 (.mv (.t 8)),iI 30 (.mv (.t 7)),iI 31 (.len 0 (.t 30)),iI 32 (.bin .lss (.t 29) (.t 31))]) (.cond (.t 32) (.skip) (.exit 2))) c50_4))
def c50_8:C:=.cond (.t 61) (.reg [iI 62 (.mv (.t 9)),iI 63 (.mv (.t 5)),iI 64 (.mv (.t 10)),iI 65 (.iaddr 0 (.t 63) (.t 64)),iI 66 (.load 0 (.t 65)),iI 67 (.mkslp 0 1 (.int .i64 0) [(0,(.t 66))]),iI 68 (.append 0 8 (.t 62) (.t 67)),iI 9 (.mv (.t 68))]) (.skip)
def c50_10:C:=.seq (.block 5 (.seq (.reg [iI 55 (.mv (.t 7)),iI 56 (.mv (.t 5)),iI 57 (.mv (.t 10)),iI 58 (.iaddr 0 (.t 56) (.t 57)),iI 59 (.load 0 (.t 58)),iI 60 (.call (.c (.fn 67 [])) [(.t 55),(.t 59)]),iI 61 (.un .not (.t 60))]) c50_8)) (.reg [iI 53 (.mv (.t 10)),iI 54 (.bin .add (.t 53) (.c (.int .i64 1))),iI 10 (.mv (.t 54))])
def c50_11:C:=.block 4 (.loop (.seq (.seq (.reg [iI 49 (.mv (.t 10)),iI 50 (.mv (.t 5)),iI 51 (.len 0 (.t 50)),iI 52 (.bin .lss (.t 49) (.t 51))]) (.cond (.t 52) (.skip) (.exit 4))) c50_10))
def c50_15:C:=.seq (.seq (.reg [iI 23 (.mv (.t 0)),iI 24 (.mv (.t 6)),iI 25 (.iaddr 4 (.t 23) (.t 24)),iI 26 (.faddr 0 (.t 25)),iI 27 (.load 0 (.t 26)),iI 28 (.bin .eql (.t 27) (.c (.int .i64 0)))]) (.cond (.t 28) (.seq (.seq (.reg [iI 8 (.mv (.c (.int .i64 0)))]) c50_5) (.exit 1)) (.skip))) (.seq (.reg [iI 9 (.mv (.c (.sl 0 true [])))]) (.seq (.seq (.reg [iI 10 (.mv (.c (.int .i64 0)))]) c50_11) (.reg [iI 69 (.mv (.t 9)),iI 5 (.mv (.t 69))])))
def c50_17:C:=.seq (.block 1 (.seq (.reg [iI 17 (.mv (.t 0)),iI 18 (.mv (.t 6)),iI 19 (.iaddr 4 (.t 17) (.t 18)),iI 20 (.load 4 (.t 19)),iI 21 (.mv (.t 1)),iI 22 (.call (.c (.fn 92 [])) [(.t 20),(.t 21)]),iI 7 (.mv (.t 22))]) c50_15)) (.reg [iI 15 (.mv (.t 6)),iI 16 (.bin .add (.t 15) (.c (.int .i64 1))),iI 6 (.mv (.t 16))])
def c50_18:C:=.block 0 (.loop (.seq (.seq (.reg [iI 11 (.mv (.t 6)),iI 12 (.mv (.t 0)),iI 13 (.len 0 (.t 12)),iI 14 (.bin .lss (.t 11) (.t 13))]) (.cond (.t 14) (.skip) (.exit 0))) c50_17))
def c50_21:C:=.seq (.reg [iI 5 (.mv (.c (.sl 0 true [])))]) (.seq (.seq (.reg [iI 6 (.mv (.c (.int .i64 0)))]) c50_18) (.seq (.reg [iI 70 (.mv (.t 5)),iI 4 (.mv (.t 70))]) .ret))
def ir50:C:=.seq (.reg [iI 4 (.mv (.c (.sl 0 true [])))]) c50_21
theorem fd50:fd? Tryz.prog 50=some (71,[.slot 4],ir50):=by kernel_rfl
def f50(x0:(List ApiSelect))(x1:(List ApiGroup)):Option ((List Int)) :=
  (Lp.run (f50_L1 x0 x1) (0,[])).bind fun x2=>(some x2)
theorem f50_ok{x0:(List ApiSelect)}{x1:(List ApiGroup)}{r_:(List Int)}(H:f50 x0 x1=some r_):Pure Tryz.prog 50 [.sl 4 false (x0.map eApiSelect),.sl 2 false (x1.map eApiGroup)] (· = .fr 0 (r_.map (AV.int .i64))):=by
 refine w3s fd50 0 fun Q hQ=>?_
 simp only[f50] at H
 refine zr ?_
 refine zr ?_
 refine zq (zr ?_)
 refine zd ?_
 refine AW.iter H ((Le.trans (Le.nilRow (i:=5) (e:=0) (by simp only[↓wk,↓wl,nq,evV,↓reduceIte,sevalprocAttr])) (Le.tz [0] [0,1,5,6] (by simp only[f50_L1c,wm,wmr,rrm,↓wk,↓wl,evV,↓reduceIte,sevalprocAttr]<;>rfl)))) ?_<;>clear H
 rintro ⟨x2,x3⟩ x_ st0_ H hst_
 rw[f50_L1c] at hst_
 simp only[f50_L1] at H
 subst hst_
 refine zq (zr ?_)
 refine ic H ?_ ?_<;>clear H<;>intro H
 ·refine zk (zm (zb (zr ?_)))
  refine ia eApiSelect H ?_<;>clear H<;>intro x4 H
  refine zE1 ?_
  refine pu H f92_ok ?_<;>clear H<;>intro x5 H
  refine zE0 ?_
  refine zq (zr ?_)
  refine ia eApiSelect H ?_<;>clear H<;>intro x6 H
  refine zE1 ?_
  refine ic H ?_ ?_<;>clear H<;>intro H
  ·refine zq (zr ?_)
   refine zd ?_
   refine zU H [0] [0,1,5,6,7,8] (f50_L2c ..) ?_<;>clear H
   rintro ⟨x7,x8⟩ x_ st0_ H hst_
   rw[f50_L2c] at hst_
   simp only[f50_L2] at H
   subst hst_
   refine zq (zr ?_)
   refine ic H ?_ ?_<;>clear H<;>intro H
   ·refine zk (zm (zb (zr ?_)))
    refine ia (AV.int .i64) H ?_<;>clear H<;>intro x9 H
    refine zs ?_
    refine evTs_flat hFn H (fun _ h=>f67_ok h) (by rfl) (by rfl) (by simp only[deep_eq,imm_simps,imm_rowE,imm_ptrE,imm_enc,imm_mrefE,imm_mpE,imm_arowE,omap_simps,take_map_len,take_map_set,take_map_set2,List.length_set,le_refl_true,Nat.zero_add,and_true,true_and,List.drop_zero,Option.map_some,wm,↓wk,↓wl,nq,evV,↓reduceIte,sevalprocAttr];rfl) (by rfl) (fun _=>rfl) (fun _=>rfl) ?_<;>clear H<;>intro xa H
    refine zE0 ?_
    refine ic H ?_ ?_<;>clear H<;>intro H
    ·refine ze ?_
     refine ia (AV.int .i64) H ?_<;>clear H<;>intro xb H
     refine zs ?_
     refine ap (AV.int .i64) H ?_<;>clear H<;>intro xc H
     refine zs ?_
     refine zo (ze ?_)
     exact zu H [1] [0,1,5,6,7,8] (f50_L2c ..)
    ·refine zk (zo (ze ?_))
     exact zu H [0] [0,1,5,6,7,8] (f50_L2c ..)
   ·refine zx (zy (loopQ.exit H ?_))<;>clear H<;>intro H
    try dsimp only at H
    refine zi (zm (zx (zy (zj (ze ?_)))))
    exact zu H [0] [0,1,5,6] (f50_L1c ..)
  ·refine zk (zm (zr ?_))
   refine zq (zr ?_)
   refine zd ?_
   refine AW.iter H ((Le.trans (Le.nilRow (i:=9) (e:=0) (by simp only[↓wk,↓wl,nq,evV,↓reduceIte,sevalprocAttr])) (Le.tz [0,1] [0,1,5,6,7,9,10] (by simp only[f50_L3c,wm,wmr,rrm,↓wk,↓wl,evV,↓reduceIte,sevalprocAttr]<;>rfl)))) ?_<;>clear H
   rintro ⟨xd,xe⟩ x_ st0_ H hst_
   rw[f50_L3c] at hst_
   simp only[f50_L3] at H
   subst hst_
   refine zq (zr ?_)
   refine ic H ?_ ?_<;>clear H<;>intro H
   ·refine zk (zm (zb (zr ?_)))
    refine evTs_atr (enc:=(AV.int .i64)) H (by rfl) (by first | rfl | simp only[List.length_set]) (by rfl) ?_<;>clear H<;>intro xf xg H
    try simp only[wm,↓wk,↓wl,nq,evV,↓reduceIte,sevalprocAttr,xg]
    refine pu H f67_ok ?_<;>clear H<;>intro xh H
    try simp only[eL,wm,↓wk,↓wl,nq,evV,↓reduceIte,sevalprocAttr,xg]
    refine ic H ?_ ?_<;>clear H<;>intro H
    ·refine AW.rend ?_
     try simp only[wm,↓wk,↓wl,nq,evV,↓reduceIte,sevalprocAttr,xg]
     refine evTs_atr (enc:=(AV.int .i64)) H (by rfl) (by first | rfl | simp only[List.length_set,xg]) (by rfl) ?_<;>clear H<;>intro xi xj H
     try simp only[wm,↓wk,↓wl,nq,evV,↓reduceIte,sevalprocAttr,xj]
     refine evTs_app (enc:=(AV.int .i64)) H (by rfl) (by first | rfl | simp only[List.length_set,xj]) (by rfl) (by rfl) ?_<;>clear H<;>intro xk H
     try simp only[wm,↓wk,↓wl,nq,evV,↓reduceIte,sevalprocAttr,xj]
     refine zo (AW.rend ?_)
     try simp only[wm,↓wk,↓wl,nq,evV,↓reduceIte,sevalprocAttr,xj]
     exact loopQ.next H ((Le.tz [0,2] [0,1,5,6,7,9,10] (by simp only[f50_L3c,wm,wmr,rrm,↓wk,↓wl,evV,↓reduceIte,sevalprocAttr,xj]<;>rfl)))
    ·refine zk (zo (AW.rend ?_))
     try simp only[wm,↓wk,↓wl,nq,evV,↓reduceIte,sevalprocAttr,xg]
     exact loopQ.next H ((Le.tz [0,1] [0,1,5,6,7,9,10] (by simp only[f50_L3c,wm,wmr,rrm,↓wk,↓wl,evV,↓reduceIte,sevalprocAttr,xg]<;>rfl)))
   ·refine zx (zy (loopQ.exit H ?_))<;>clear H<;>intro H
    try dsimp only at H
    refine zi (zm (ze ?_))
    refine zo (ze ?_)
    exact zu H [1] [0,1,5,6] (f50_L1c ..)
 ·refine zx (zy (loopQ.exit H ?_))<;>clear H<;>intro H
  try dsimp only at H
  refine zi (zm (zr ?_))
  cases H
  exact zt (zf2 hQ)
def f14_L1(x0:(List ApiSelect))(x1:(List ApiGroup)):Lp (Int) ((Unit)⊕(Unit)) where
  body:=fun x2=>(if (decide (x2<((x0.length:Nat):Int)))=true then (at? x0 x2).bind fun x3=>(if (decide (x3.fGroup≠0))=true then (at? x0 x2).bind fun x4=>(f49 x1 x4.fGroup).bind fun x5=>(if (decide (x5<0))=true then (some (.brk (Sum.inr ()))) else (some (.next (IntKind.i64.wrap (x2 + 1))))) else (some (.next (IntKind.i64.wrap (x2 + 1))))) else (some (.brk (Sum.inl ()))))
  cst:=fun x2=>⟨put (put (put (fun _=>.junk) 8 (.int .i64 x2)) 1 (.sl 2 false (x1.map eApiGroup))) 0 (.sl 4 false (x0.map eApiSelect)),[]⟩
theorem f14_L1c(x0:(List ApiSelect))(x1:(List ApiGroup))(x2:Int):(f14_L1 x0 x1).cst x2=⟨put (put (put (fun _=>.junk) 8 (.int .i64 x2)) 1 (.sl 2 false (x1.map eApiGroup))) 0 (.sl 4 false (x0.map eApiSelect)),[]⟩:=rfl
def c14_1:C:=.seq (.reg [iI 11 (.mv (.t 6)),iI 12 (.bin .neq (.t 11) (.c (.int .i64 0)))]) (.cond (.t 12) (.seq (.reg [iI 13 (.mv (.t 6)),iI 4 (.mv (.c (.sl 0 true []))),iI 5 (.mv (.t 13))]) .ret) (.skip))
def c14_3:C:=.seq (.reg [iI 16 (.mv (.t 7)),iI 17 (.bin .neq (.t 16) (.c (.int .i64 0)))]) (.cond (.t 17) (.seq (.reg [iI 18 (.mv (.t 7)),iI 4 (.mv (.c (.sl 0 true []))),iI 5 (.mv (.t 18))]) .ret) (.skip))
def c14_7:C:=.seq (.block 1 (.seq (.reg [iI 25 (.mv (.t 0)),iI 26 (.mv (.t 8)),iI 27 (.iaddr 4 (.t 25) (.t 26)),iI 28 (.faddr 1 (.t 27)),iI 29 (.load 0 (.t 28)),iI 30 (.bin .neq (.t 29) (.c (.int .i64 0))),iI 31 (.mv (.t 30)),iG (some 32) 31 true (.mv (.t 1)),iG (some 33) 31 true (.mv (.t 0)),iG (some 34) 31 true (.mv (.t 8)),iG (some 35) 31 true (.iaddr 4 (.t 33) (.t 34)),iG (some 36) 31 true (.faddr 1 (.t 35)),iG (some 37) 31 true (.load 0 (.t 36)),iG (some 38) 31 true (.call (.c (.fn 49 [])) [(.t 32),(.t 37)]),iG (some 39) 31 true (.bin .lss (.t 38) (.c (.int .i64 0))),iI 40 (.pick (.t 31) (.t 39) (.c (.bool false)))]) (.cond (.t 40) (.seq (.reg [iI 4 (.mv (.c (.sl 0 true []))),iI 5 (.mv (.c (.int .i64 6)))]) .ret) (.skip)))) (.reg [iI 23 (.mv (.t 8)),iI 24 (.bin .add (.t 23) (.c (.int .i64 1))),iI 8 (.mv (.t 24))])
def c14_8:C:=.block 0 (.loop (.seq (.seq (.reg [iI 19 (.mv (.t 8)),iI 20 (.mv (.t 0)),iI 21 (.len 0 (.t 20)),iI 22 (.bin .lss (.t 19) (.t 21))]) (.cond (.t 22) (.skip) (.exit 0))) c14_7))
def c14_10:C:=.seq (.seq (.reg [iI 8 (.mv (.c (.int .i64 0)))]) c14_8) (.seq (.reg [iI 41 (.mv (.t 0)),iI 42 (.mv (.t 1)),iI 43 (.call (.c (.fn 50 [])) [(.t 41),(.t 42)]),iI 4 (.mv (.t 43)),iI 5 (.mv (.c (.int .i64 0)))]) .ret)
def c14_12:C:=.seq (.seq (.reg [iI 9 (.mv (.t 0)),iI 10 (.call (.c (.fn 16 [])) [(.t 9)]),iI 6 (.mv (.t 10))]) c14_1) (.seq (.seq (.reg [iI 14 (.mv (.t 1)),iI 15 (.call (.c (.fn 33 [])) [(.t 14)]),iI 7 (.mv (.t 15))]) c14_3) c14_10)
def ir14:C:=.seq (.reg [iI 4 (.mv (.c (.sl 0 true []))),iI 5 (.mv (.c (.int .i64 0)))]) c14_12
theorem fd14:fd? Tryz.prog 14=some (44,[.slot 4,.slot 5],ir14):=by kernel_rfl
def f14(x0:(List ApiSelect))(x1:(List ApiGroup)):Option ((List Int)×Int) :=
  (f16 x0).bind fun x2=>(if (decide (x2≠0))=true then (some ([],x2)) else (f33 x1).bind fun x3=>(if (decide (x3≠0))=true then (some ([],x3)) else ((Lp.run (f14_L1 x0 x1) 0).bind fun r_=>match r_ with | (Sum.inl _)=>(f50 x0 x1).bind fun x4=>(some (x4,0)) | (Sum.inr _)=>(some ([],6)))))
theorem f14_ok{x0:(List ApiSelect)}{x1:(List ApiGroup)}{r_:(List Int)×Int}(H:f14 x0 x1=some r_):Pure Tryz.prog 14 [.sl 4 false (x0.map eApiSelect),.sl 2 false (x1.map eApiGroup)] (· = .tup [.fr 0 (r_.1.map (AV.int .i64)),.int .i64 r_.2]):=by
 refine w3s fd14 0 fun Q hQ=>?_
 simp only[f14] at H
 refine zr ?_
 refine zq (zr ?_)
 refine pu H f16_ok ?_<;>clear H<;>intro x2 H
 refine zE0 ?_
 refine zr ?_
 refine ic H ?_ ?_<;>clear H<;>intro H
 ·refine zr ?_
  cases H
  exact zt (zv (zf0 hQ))
 ·refine zk (zm (zq (zr ?_)))
  refine pu H f33_ok ?_<;>clear H<;>intro x3 H
  refine zE0 ?_
  refine zr ?_
  refine ic H ?_ ?_<;>clear H<;>intro H
  ·refine zr ?_
   cases H
   exact zt (zv (zf0 hQ))
  ·refine zk (zm (zq (zr ?_)))
   refine zd ?_
   refine zU H [] [0,1,8] (f14_L1c ..) ?_<;>clear H
   rintro x4 x_ st0_ H hst_
   rw[f14_L1c] at hst_
   simp only[f14_L1] at H
   subst hst_
   refine zq (zr ?_)
   refine ic H ?_ ?_<;>clear H<;>intro H
   ·refine zk (zm (zb (zr ?_)))
    refine ia eApiSelect H ?_<;>clear H<;>intro x5 H
    refine zE1 ?_
    refine ig H ?_ ?_<;>clear H<;>intro H
    ·refine zs ?_
     refine ia eApiSelect H ?_<;>clear H<;>intro x6 H
     refine zE1 ?_
     refine pu H f49_ok ?_<;>clear H<;>intro x7 H
     refine zE0 ?_
     refine ic H ?_ ?_<;>clear H<;>intro H
     ·refine zr ?_
      refine zt (zp (loopQ.ret H ?_))<;>clear H<;>intro H
      try dsimp only at H
      cases H
      exact zh (zv (zf0 hQ))
     ·refine zk (zo (ze ?_))
      exact zu H [] [0,1,8] (f14_L1c ..)
    ·refine zs ?_
     refine zc (zk (zo (ze ?_)))
     exact zu H [] [0,1,8] (f14_L1c ..)
   ·refine zx (zy (loopQ.exit H ?_))<;>clear H<;>intro H
    try dsimp only at H
    refine zi (zm (zr ?_))
    refine evTs_fr H (fun _ h=>f50_ok h) (by rfl) (by rfl) (by rfl) (by rfl) (fun _=>rfl) ?_<;>clear H<;>intro x8 H
    refine zE0 ?_
    cases H
    exact zt (zf1 hQ)
theorem f14_im{x0:(List ApiSelect)}{x1:(List ApiGroup)}{r_:(List Int)×Int}(H:f14 x0 x1=some r_):Pure Tryz.prog 14 [.sl 4 false (x0.map eApiSelect),.sl 2 false (x1.map eApiGroup)] (· = .tup [.sl 0 false (r_.1.map (AV.int .i64)),.int .i64 r_.2]):=(f14_ok H).unfr (by first | exact enc_fits _ | simp only[frFits,List.all_cons,List.all_nil,enc_fits,Bool.and_self])
def f63_L2(x0:(List Int))(x1:Int)(x2:Int)(x3:(List Int))(x4:Ref13Rig):Lp (Int×(List ApiParam)) ((List ApiParam)) where
  body:=fun (x5,x6)=>(if (decide (x5<((x0.length:Nat):Int)))=true then (at? x0 x5).bind fun x7=>(app? 16 x6 ([(ApiParam.mk x1 x7)])).bind fun x8=>(some (.next ((IntKind.i64.wrap (x5 + 1)),x8))) else (some (.brk x6)))
  cst:=fun (x5,x6)=>⟨put (put (put (put (put (put (put (fun _=>.junk) 10 (.int .i64 x5)) 9 (.sl 0 false (x0.map (AV.int .i64)))) 8 (.int .i64 x1)) 7 (.row 2 1 0 x6.length)) 4 (.ptr 0 0)) 2 (.int .i64 x2)) 0 (.sl 0 false (x3.map (AV.int .i64))),[.cel [.sl 0 false (x4.fCurves.map (eL 2 eApiPoint)),.sl 4 false (x4.fProfiles.map eApiProfile),.sl 7 false (x4.fFixtures.map eApiFixture)],.els 2 (x6.map eApiParam)]⟩
theorem f63_L2c(x0:(List Int))(x1:Int)(x2:Int)(x3:(List Int))(x4:Ref13Rig)(x5:Int)(x6:(List ApiParam)):(f63_L2 x0 x1 x2 x3 x4).cst (x5,x6)=⟨put (put (put (put (put (put (put (fun _=>.junk) 10 (.int .i64 x5)) 9 (.sl 0 false (x0.map (AV.int .i64)))) 8 (.int .i64 x1)) 7 (.row 2 1 0 x6.length)) 4 (.ptr 0 0)) 2 (.int .i64 x2)) 0 (.sl 0 false (x3.map (AV.int .i64))),[.cel [.sl 0 false (x4.fCurves.map (eL 2 eApiPoint)),.sl 4 false (x4.fProfiles.map eApiProfile),.sl 7 false (x4.fFixtures.map eApiFixture)],.els 2 (x6.map eApiParam)]⟩:=rfl
def f63_L1(x0:(List Int))(x1:Ref13Rig)(x2:Int):Lp (Int×(List ApiParam)) ((List ApiParam)) where
  body:=fun (x3,x4)=>(if (decide (x3≤999))=true then (f67 x0 x3).bind fun x5=>(if (!x5)=true then (some (.next ((IntKind.i64.wrap (x3 + 1)),x4))) else (f60 x1 x3 x2).bind fun x6=>(Lp.run (f63_L2 x6 x3 x2 x0 x1) (0,x4)).bind fun x7=>(some (.next ((IntKind.i64.wrap (x3 + 1)),x7)))) else (some (.brk x4)))
  cst:=fun (x3,x4)=>⟨put (put (put (put (put (fun _=>.junk) 8 (.int .i64 x3)) 7 (.row 2 1 0 x4.length)) 4 (.ptr 0 0)) 2 (.int .i64 x2)) 0 (.sl 0 false (x0.map (AV.int .i64))),[.cel [.sl 0 false (x1.fCurves.map (eL 2 eApiPoint)),.sl 4 false (x1.fProfiles.map eApiProfile),.sl 7 false (x1.fFixtures.map eApiFixture)],.els 2 (x4.map eApiParam)]⟩
theorem f63_L1c(x0:(List Int))(x1:Ref13Rig)(x2:Int)(x3:Int)(x4:(List ApiParam)):(f63_L1 x0 x1 x2).cst (x3,x4)=⟨put (put (put (put (put (fun _=>.junk) 8 (.int .i64 x3)) 7 (.row 2 1 0 x4.length)) 4 (.ptr 0 0)) 2 (.int .i64 x2)) 0 (.sl 0 false (x0.map (AV.int .i64))),[.cel [.sl 0 false (x1.fCurves.map (eL 2 eApiPoint)),.sl 4 false (x1.fProfiles.map eApiProfile),.sl 7 false (x1.fFixtures.map eApiFixture)],.els 2 (x4.map eApiParam)]⟩:=rfl
def c63_4:C:=.seq (.block 3 (.reg [iI 29 (.mv (.t 7)),iI 30 (.mv (.t 8)),iI 31 (.mv (.t 9)),iI 32 (.mv (.t 10)),iI 33 (.iaddr 0 (.t 31) (.t 32)),iI 34 (.load 0 (.t 33)),iI 35 (.build [(1,(.int .i64 0)),(1,(.int .i64 0))] [(0,0,(.t 30)),(1,0,(.t 34))]),iI 36 (.mkslp 2 1 (.agg [(.int .i64 0),(.int .i64 0)]) [(0,(.t 35))]),iI 37 (.append 2 16 (.t 29) (.t 36)),iI 7 (.mv (.t 37))])) (.reg [iI 27 (.mv (.t 10)),iI 28 (.bin .add (.t 27) (.c (.int .i64 1))),iI 10 (.mv (.t 28))])
def c63_5:C:=.block 2 (.loop (.seq (.seq (.reg [iI 23 (.mv (.t 10)),iI 24 (.mv (.t 9)),iI 25 (.len 0 (.t 24)),iI 26 (.bin .lss (.t 23) (.t 25))]) (.cond (.t 26) (.skip) (.exit 2))) c63_4))
def c63_7:C:=.seq (.reg [iI 19 (.load 3 (.t 4)),iI 20 (.mv (.t 8)),iI 21 (.mv (.t 2)),iI 22 (.call (.c (.fn 60 [])) [(.t 19),(.t 20),(.t 21)]),iI 9 (.mv (.t 22))]) (.seq (.reg [iI 10 (.mv (.c (.int .i64 0)))]) c63_5)
def c63_9:C:=.seq (.block 1 (.seq (.seq (.reg [iI 15 (.mv (.t 0)),iI 16 (.mv (.t 8)),iI 17 (.call (.c (.fn 67 [])) [(.t 15),(.t 16)]),iI 18 (.un .not (.t 17))]) (.cond (.t 18) (.exit 1) (.skip))) c63_7)) (.reg [iI 13 (.mv (.t 8)),iI 14 (.bin .add (.t 13) (.c (.int .i64 1))),iI 8 (.mv (.t 14))])
def c63_12:C:=.seq (.seq (.reg [iI 8 (.mv (.c (.int .i64 1)))]) (.block 0 (.loop (.seq (.seq (.reg [iI 11 (.mv (.t 8)),iI 12 (.bin .leq (.t 11) (.c (.int .i64 999)))]) (.cond (.t 12) (.skip) (.exit 0))) c63_9)))) (.seq (.reg [iI 38 (.mv (.t 7)),iI 6 (.mv (.t 38))]) .ret)
def ir63:C:=.seq (.reg [iI 4 (.box (.t 1)),iI 6 (.mv (.c (.sl 2 true [])))]) (.seq (.reg [iI 7 (.mv (.c (.sl 2 true [])))]) c63_12)
theorem fd63:fd? Tryz.prog 63=some (39,[.slot 6],ir63):=by kernel_rfl
def f63(x0:(List Int))(x1:Ref13Rig)(x2:Int):Option ((List ApiParam)) :=
  (Lp.run (f63_L1 x0 x1 x2) (1,[])).bind fun x3=>(some x3)
theorem f63_ok{x0:(List Int)}{x1:Ref13Rig}{x2:Int}{r_:(List ApiParam)}(H:f63 x0 x1 x2=some r_):Pure Tryz.prog 63 [.sl 0 false (x0.map (AV.int .i64)),.agg [.sl 0 false (x1.fCurves.map (eL 2 eApiPoint)),.sl 4 false (x1.fProfiles.map eApiProfile),.sl 7 false (x1.fFixtures.map eApiFixture)],.int .i64 x2] (· = .fr 2 (r_.map eApiParam)):=by
 refine w3s fd63 0 fun Q hQ=>?_
 simp only[f63] at H
 refine zr ?_
 refine zr ?_
 refine zq (zr ?_)
 refine zd ?_
 refine AW.iter H ((Le.trans (Le.nilRow (i:=7) (e:=2) (by simp only[↓wk,↓wl,nq,evV,↓reduceIte,sevalprocAttr])) (Le.tz [0,1] [0,2,4,7,8] (by simp only[f63_L1c,wm,wmr,rrm,↓wk,↓wl,evV,↓reduceIte,sevalprocAttr]<;>rfl)))) ?_<;>clear H
 rintro ⟨x3,x4⟩ x_ st0_ H hst_
 rw[f63_L1c] at hst_
 simp only[f63_L1] at H
 subst hst_
 refine zq (zr ?_)
 refine ic H ?_ ?_<;>clear H<;>intro H
 ·refine zk (zm (zb (zq (zr ?_))))
  refine pu H f67_ok ?_<;>clear H<;>intro x5 H
  refine zE0 ?_
  refine ic H ?_ ?_<;>clear H<;>intro H
  ·refine zx (zy (zj (ze ?_)))
   exact zu H [0,1] [0,2,4,7,8] (f63_L1c ..)
  ·refine zk (zm (zr ?_))
   refine pu H f60_im ?_<;>clear H<;>intro x6 H
   refine zE0 ?_
   refine zr ?_
   refine zd ?_
   refine zU H [0,1] [0,2,4,7,8,9,10] (f63_L2c ..) ?_<;>clear H
   rintro ⟨x7,x8⟩ x_ st0_ H hst_
   rw[f63_L2c] at hst_
   simp only[f63_L2] at H
   subst hst_
   refine zq (zr ?_)
   refine ic H ?_ ?_<;>clear H<;>intro H
   ·refine zk (zm (zb (ze ?_)))
    refine ia (AV.int .i64) H ?_<;>clear H<;>intro x9 H
    refine zs ?_
    refine ap eApiParam H ?_<;>clear H<;>intro xa H
    refine zs ?_
    refine zo (ze ?_)
    exact zu H [0,2] [0,2,4,7,8,9,10] (f63_L2c ..)
   ·refine zx (zy (loopQ.exit H ?_))<;>clear H<;>intro H
    try dsimp only at H
    refine zi (zo (ze ?_))
    exact zu H [0,1] [0,2,4,7,8] (f63_L1c ..)
 ·refine zx (zy (loopQ.exit H ?_))<;>clear H<;>intro H
  try dsimp only at H
  refine zi (zm (zr ?_))
  cases H
  exact zt (zf2 hQ)
def c22_2:C:=.seq (.reg [iI 24 (.mv (.t 12)),iI 25 (.bin .neq (.t 24) (.c (.int .i64 0)))]) (.cond (.t 25) (.seq (.reg [iI 26 (.mv (.t 12)),iI 8 (.mv (.c (.sl 2 true []))),iI 9 (.mv (.t 26))]) .ret) (.skip))
def c22_4:C:=.seq (.reg [iI 30 (.mv (.t 10)),iI 31 (.load 3 (.t 6)),iI 32 (.mv (.t 3)),iI 33 (.call (.c (.fn 63 [])) [(.t 30),(.t 31),(.t 32)]),iI 8 (.mv (.t 33)),iI 9 (.mv (.c (.int .i64 0)))]) .ret
def c22_5:C:=.seq (.seq (.reg [iI 27 (.mv (.t 3)),iI 28 (.call (.c (.fn 59 [])) [(.t 27)]),iI 29 (.un .not (.t 28))]) (.cond (.t 29) (.seq (.reg [iI 8 (.mv (.c (.sl 2 true []))),iI 9 (.mv (.c (.int .i64 1)))]) .ret) (.skip))) c22_4
def c22_7:C:=.seq (.seq (.reg [iI 19 (.mv (.t 11)),iI 20 (.bin .neq (.t 19) (.c (.int .i64 0)))]) (.cond (.t 20) (.seq (.reg [iI 21 (.mv (.t 11)),iI 8 (.mv (.c (.sl 2 true []))),iI 9 (.mv (.t 21))]) .ret) (.skip))) (.seq (.seq (.reg [iI 22 (.load 3 (.t 6)),iI 23 (.call (.c (.fn 29 [])) [(.t 22)]),iI 12 (.mv (.t 23))]) c22_2) c22_5)
def c22_8:C:=.seq (.reg [iI 14 (.mv (.t 0)),iI 15 (.mv (.t 1)),iI 16 (.call (.c (.fn 14 [])) [(.t 14),(.t 15)]),iI 13 (.mv (.t 16)),iI 17 (.ext (.t 13) 0),iI 18 (.ext (.t 13) 1),iI 10 (.mv (.t 17)),iI 11 (.mv (.t 18))]) c22_7
def ir22:C:=.seq (.reg [iI 6 (.box (.t 2)),iI 8 (.mv (.c (.sl 2 true []))),iI 9 (.mv (.c (.int .i64 0)))]) c22_8
theorem fd22:fd? Tryz.prog 22=some (34,[.slot 8,.slot 9],ir22):=by kernel_rfl
def f22(x0:(List ApiSelect))(x1:(List ApiGroup))(x2:Ref13Rig)(x3:Int):Option ((List ApiParam)×Int) :=
  (f14 x0 x1).bind fun x4=>(if (decide (x4.2≠0))=true then (some ([],x4.2)) else (f29 x2).bind fun x5=>(if (decide (x5≠0))=true then (some ([],x5)) else (f59 x3).bind fun x6=>(if (!x6)=true then (some ([],1)) else (f63 x4.1 x2 x3).bind fun x7=>(some (x7,0)))))
theorem f22_ok{x0:(List ApiSelect)}{x1:(List ApiGroup)}{x2:Ref13Rig}{x3:Int}{r_:(List ApiParam)×Int}(H:f22 x0 x1 x2 x3=some r_):Pure Tryz.prog 22 [.sl 4 false (x0.map eApiSelect),.sl 2 false (x1.map eApiGroup),.agg [.sl 0 false (x2.fCurves.map (eL 2 eApiPoint)),.sl 4 false (x2.fProfiles.map eApiProfile),.sl 7 false (x2.fFixtures.map eApiFixture)],.int .i64 x3] (· = .tup [.fr 2 (r_.1.map eApiParam),.int .i64 r_.2]):=by
 refine w3s fd22 0 fun Q hQ=>?_
 simp only[f22] at H
 refine zr ?_
 refine zr ?_
 refine pu H f14_im ?_<;>clear H<;>intro x4 H
 refine zE0 ?_
 refine zq (zr ?_)
 refine ic H ?_ ?_<;>clear H<;>intro H
 ·refine zr ?_
  cases H
  exact zt (zv (zf0 hQ))
 ·refine zk (zm (zq (zr ?_)))
  refine pu H f29_ok ?_<;>clear H<;>intro x5 H
  refine zE0 ?_
  refine zr ?_
  refine ic H ?_ ?_<;>clear H<;>intro H
  ·refine zr ?_
   cases H
   exact zt (zv (zf0 hQ))
  ·refine zk (zm (zq (zr ?_)))
   refine pu H f59_ok ?_<;>clear H<;>intro x6 H
   refine zE0 ?_
   refine ic H ?_ ?_<;>clear H<;>intro H
   ·refine zr ?_
    cases H
    exact zt (zv (zf0 hQ))
   ·refine zk (zm (zr ?_))
    refine evTs_fr H (fun _ h=>f63_ok h) (by rfl) (by rfl) (by rfl) (by rfl) (fun _=>rfl) ?_<;>clear H<;>intro x7 H
    refine zE0 ?_
    cases H
    exact zt (zf1 hQ)
theorem f22_im{x0:(List ApiSelect)}{x1:(List ApiGroup)}{x2:Ref13Rig}{x3:Int}{r_:(List ApiParam)×Int}(H:f22 x0 x1 x2 x3=some r_):Pure Tryz.prog 22 [.sl 4 false (x0.map eApiSelect),.sl 2 false (x1.map eApiGroup),.agg [.sl 0 false (x2.fCurves.map (eL 2 eApiPoint)),.sl 4 false (x2.fProfiles.map eApiProfile),.sl 7 false (x2.fFixtures.map eApiFixture)],.int .i64 x3] (· = .tup [.sl 2 false (r_.1.map eApiParam),.int .i64 r_.2]):=(f22_ok H).unfr (by first | exact enc_fits _ | simp only[frFits,List.all_cons,List.all_nil,enc_fits,Bool.and_self])
def f23_L1(x0:(List ApiParam))(x1:(List ApiParam)):Lp (Int) ((Unit)⊕(Unit)) where
  body:=fun x2=>(if (decide (x2<((x0.length:Nat):Int)))=true then (at? x0 x2).bind fun x3=>(at? x1 x2).bind fun x4=>(if (!((x3.fChannel == x4.fChannel) && ((x3.fAttr == x4.fAttr) && true)))=true then (some (.brk (Sum.inr ()))) else (some (.next (IntKind.i64.wrap (x2 + 1))))) else (some (.brk (Sum.inl ()))))
  cst:=fun x2=>⟨put (put (put (fun _=>.junk) 5 (.int .i64 x2)) 1 (.sl 2 false (x1.map eApiParam))) 0 (.sl 2 false (x0.map eApiParam)),[]⟩
theorem f23_L1c(x0:(List ApiParam))(x1:(List ApiParam))(x2:Int):(f23_L1 x0 x1).cst x2=⟨put (put (put (fun _=>.junk) 5 (.int .i64 x2)) 1 (.sl 2 false (x1.map eApiParam))) 0 (.sl 2 false (x0.map eApiParam)),[]⟩:=rfl
def c23_4:C:=.seq (.block 1 (.seq (.reg [iI 17 (.mv (.t 0)),iI 18 (.mv (.t 5)),iI 19 (.iaddr 2 (.t 17) (.t 18)),iI 20 (.load 2 (.t 19)),iI 21 (.mv (.t 1)),iI 22 (.mv (.t 5)),iI 23 (.iaddr 2 (.t 21) (.t 22)),iI 24 (.load 2 (.t 23)),iI 25 (.eqs true [0,0] (.t 20) (.t 24))]) (.cond (.t 25) (.seq (.reg [iI 4 (.mv (.c (.bool false)))]) .ret) (.skip)))) (.reg [iI 15 (.mv (.t 5)),iI 16 (.bin .add (.t 15) (.c (.int .i64 1))),iI 5 (.mv (.t 16))])
def c23_5:C:=.block 0 (.loop (.seq (.seq (.reg [iI 11 (.mv (.t 5)),iI 12 (.mv (.t 0)),iI 13 (.len 0 (.t 12)),iI 14 (.bin .lss (.t 11) (.t 13))]) (.cond (.t 14) (.skip) (.exit 0))) c23_4))
def c23_8:C:=.seq (.seq (.reg [iI 6 (.mv (.t 0)),iI 7 (.len 0 (.t 6)),iI 8 (.mv (.t 1)),iI 9 (.len 0 (.t 8)),iI 10 (.bin .neq (.t 7) (.t 9))]) (.cond (.t 10) (.seq (.reg [iI 4 (.mv (.c (.bool false)))]) .ret) (.skip))) (.seq (.seq (.reg [iI 5 (.mv (.c (.int .i64 0)))]) c23_5) (.seq (.reg [iI 4 (.mv (.c (.bool true)))]) .ret))
def ir23:C:=.seq (.reg [iI 4 (.mv (.c (.bool false)))]) c23_8
theorem fd23:fd? Tryz.prog 23=some (26,[.slot 4],ir23):=by kernel_rfl
def f23(x0:(List ApiParam))(x1:(List ApiParam)):Option (Bool) :=
  (if (decide (((x0.length:Nat):Int)≠((x1.length:Nat):Int)))=true then (some false) else ((Lp.run (f23_L1 x0 x1) 0).bind fun r_=>match r_ with | (Sum.inl _)=>(some true) | (Sum.inr _)=>(some false)))
theorem f23_ok{x0:(List ApiParam)}{x1:(List ApiParam)}{r_:Bool}(H:f23 x0 x1=some r_):Pure Tryz.prog 23 [.sl 2 false (x0.map eApiParam),.sl 2 false (x1.map eApiParam)] (· = .bool r_):=by
 refine w3 fd23 fun Q hQ=>?_
 simp only[f23] at H
 refine zr ?_
 refine zq (zr ?_)
 refine ic H ?_ ?_<;>clear H<;>intro H
 ·refine zr ?_
  cases H
  exact zt (zv (zf hQ))
 ·refine zk (zm (zq (zr ?_)))
  refine zd ?_
  refine zU H [] [0,1,5] (f23_L1c ..) ?_<;>clear H
  rintro x2 x_ st0_ H hst_
  rw[f23_L1c] at hst_
  simp only[f23_L1] at H
  subst hst_
  refine zq (zr ?_)
  refine ic H ?_ ?_<;>clear H<;>intro H
  ·refine zk (zm (zb (zr ?_)))
   refine ia eApiParam H ?_<;>clear H<;>intro x3 H
   refine zE10 ?_
   refine ia eApiParam H ?_<;>clear H<;>intro x4 H
   refine zE10 ?_
   refine rest_neqs (by rfl) ?_
   refine zs ?_
   refine ic H ?_ ?_<;>clear H<;>intro H
   ·refine zr ?_
    refine zt (zp (loopQ.ret H ?_))<;>clear H<;>intro H
    try dsimp only at H
    cases H
    exact zh (zv (zf hQ))
   ·refine zk (zo (ze ?_))
    exact zu H [] [0,1,5] (f23_L1c ..)
  ·refine zx (zy (loopQ.exit H ?_))<;>clear H<;>intro H
   try dsimp only at H
   refine zi (zm (zr ?_))
   cases H
   exact zt (zf hQ)
def c5_1:C:=.seq (.reg [iI 43 (.call (.c (.fn 12 [])) []),iI 44 (.mv (.t 43)),iG (some 45) 44 true (.mv (.t 5)),iG (some 46) 44 true (.mv (.t 7)),iG (some 47) 44 true (.call (.c (.fn 23 [])) [(.t 45),(.t 46)]),iI 48 (.pick (.t 44) (.t 47) (.c (.bool false))),iI 49 (.mv (.t 48)),iG (some 50) 49 true (.mv (.t 6)),iG (some 51) 49 true (.mv (.t 8)),iG (some 52) 49 true (.bin .eql (.t 50) (.t 51)),iI 53 (.pick (.t 49) (.t 52) (.c (.bool false))),iI 4 (.mv (.t 53))]) .ret
def c5_2:C:=.seq (.reg [iI 33 (.faddr 0 (.t 3)),iI 34 (.load 0 (.t 33)),iI 35 (.faddr 1 (.t 3)),iI 36 (.load 0 (.t 35)),iI 37 (.load 3 (.t 2)),iI 38 (.faddr 2 (.t 3)),iI 39 (.load 0 (.t 38)),iI 40 (.call (.c (.fn 22 [])) [(.t 34),(.t 36),(.t 37),(.t 39)]),iI 32 (.mv (.t 40)),iI 41 (.ext (.t 32) 0),iI 42 (.ext (.t 32) 1),iI 7 (.mv (.t 41)),iI 8 (.mv (.t 42))]) c5_1
def c5_3:C:=.seq (.reg [iI 22 (.faddr 0 (.t 3)),iI 23 (.load 0 (.t 22)),iI 24 (.faddr 1 (.t 3)),iI 25 (.load 0 (.t 24)),iI 26 (.load 3 (.t 2)),iI 27 (.faddr 2 (.t 3)),iI 28 (.load 0 (.t 27)),iI 29 (.call (.c (.fn 21 [])) [(.t 23),(.t 25),(.t 26),(.t 28)]),iI 21 (.mv (.t 29)),iI 30 (.ext (.t 21) 0),iI 31 (.ext (.t 21) 1),iI 5 (.mv (.t 30)),iI 6 (.mv (.t 31))]) c5_2
def c5_4:C:=.seq (.seq (.reg [iI 9 (.load 3 (.t 2)),iI 10 (.call (.c (.fn 18 [])) [(.t 9)]),iI 11 (.un .not (.t 10)),iI 12 (.mv (.t 11)),iG (some 13) 12 false (.faddr 0 (.t 3)),iG (some 14) 12 false (.load 0 (.t 13)),iG (some 15) 12 false (.faddr 1 (.t 3)),iG (some 16) 12 false (.load 0 (.t 15)),iG (some 17) 12 false (.call (.c (.fn 11 [])) [(.t 14),(.t 16)]),iG (some 18) 12 false (.un .not (.t 17)),iI 19 (.pick (.t 12) (.c (.bool true)) (.t 18))]) (.cond (.t 19) (.seq (.reg [iI 20 (.call (.c (.fn 12 [])) []),iI 4 (.mv (.t 20))]) .ret) (.skip))) c5_3
def ir5:C:=.seq (.reg [iI 2 (.box (.t 0)),iI 3 (.box (.t 1)),iI 4 (.mv (.c (.bool false)))]) c5_4
theorem fd5:fd? Tryz.prog 5=some (54,[.slot 4],ir5):=by kernel_rfl
def f5(x0:UniverseRig)(x1:Law41Choice):Option (Bool) :=
  (f18 (Ref13Rig.mk x0.fCurves x0.fProfiles x0.fFixtures)).bind fun x2=>(if (!x2)=true then (f12).bind fun x3=>(some x3) else (f11 x1.fSelect x1.fGroups).bind fun x4=>(if (!x4)=true then (f12).bind fun x5=>(some x5) else (f21 x1.fSelect x1.fGroups x0 x1.fKind).bind fun x6=>(f22 x1.fSelect x1.fGroups (Ref13Rig.mk x0.fCurves x0.fProfiles x0.fFixtures) x1.fKind).bind fun x7=>(f12).bind fun x8=>(if x8=true then (f23 x6.1 x7.1).bind fun x9=>(if x9=true then (some (decide (x6.2=x7.2))) else (some false)) else (some false))))
theorem f5_ok{x0:UniverseRig}{x1:Law41Choice}{r_:Bool}(H:f5 x0 x1=some r_):Pure Tryz.prog 5 [.agg [.sl 0 false (x0.fCurves.map (eL 2 eApiPoint)),.sl 4 false (x0.fProfiles.map eApiProfile),.sl 7 false (x0.fFixtures.map eApiFixture)],.agg [.sl 4 false (x1.fSelect.map eApiSelect),.sl 2 false (x1.fGroups.map eApiGroup),.int .i64 x1.fKind]] (· = .bool r_):=by
 refine w3 fd5 fun Q hQ=>?_
 simp only[f5] at H
 refine zr ?_
 refine zq (zr ?_)
 refine pu H f18_ok ?_<;>clear H<;>intro x2 H
 refine zE0 ?_
 refine ig H ?_ ?_<;>clear H<;>intro H
 ·refine zs ?_
  refine za (zr ?_)
  refine pu H f12_ok ?_<;>clear H<;>intro x3 H
  refine zE0 ?_
  cases H
  exact zt (zv (zf hQ))
 ·refine zs ?_
  refine pu H f11_ok ?_<;>clear H<;>intro x4 H
  refine zE0 ?_
  refine ic H ?_ ?_<;>clear H<;>intro H
  ·refine zr ?_
   refine pu H f12_ok ?_<;>clear H<;>intro x5 H
   refine zE0 ?_
   cases H
   exact zt (zv (zf hQ))
  ·refine zk (zm (zr ?_))
   refine pu H f21_im ?_<;>clear H<;>intro x6 H
   refine zE0 ?_
   refine zr ?_
   refine pu H f22_im ?_<;>clear H<;>intro x7 H
   refine zE0 ?_
   refine zr ?_
   refine pu H f12_ok ?_<;>clear H<;>intro x8 H
   refine zE0 ?_
   refine ig H ?_ ?_<;>clear H<;>intro H
   ·refine zs ?_
    refine pu H f23_ok ?_<;>clear H<;>intro x9 H
    refine zE0 ?_
    refine ig H ?_ ?_<;>clear H<;>intro H
    ·refine zs ?_
     cases H
     exact zt (zf hQ)
    ·refine zs ?_
     cases H
     exact zt (zf hQ)
   ·refine zs ?_
    cases H
    exact zt (zf hQ)
end
end Go.Proofs.YtnaemmpcffnbkaaGreatDoor
