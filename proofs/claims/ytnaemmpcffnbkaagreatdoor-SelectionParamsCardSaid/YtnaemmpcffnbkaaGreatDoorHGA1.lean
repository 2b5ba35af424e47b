import Derived.Test.YtnaemmpcffnbkaaGreatDoorHG3
import Derived.Test.YtnaemmpcffnbkaaGreatDoorHM6
import Derived.Test.YtnaemmpcffnbkaaGreatDoorProg
import Derived.KernelRfl
import Derived.Test.YtnaemmpcffnbkaaGreatDoorHMQ
namespace Go.Proofs.YtnaemmpcffnbkaaGreatDoor
open Go Go.Ab
set_option maxHeartbeats 1000000
set_option maxRecDepth 4000
set_option linter.unusedSimpArgs false
set_option linter.unusedVariables false
noncomputable section
structure Ref13Rig where
  fCurves:(List (List ApiPoint))
  fProfiles:(List ApiProfile)
  fFixtures:(List ApiFixture)
def eRef13Rig(x:Ref13Rig):AV:=.agg [.sl 0 false (x.fCurves.map (eL 2 eApiPoint)),.sl 4 false (x.fProfiles.map eApiProfile),.sl 7 false (x.fFixtures.map eApiFixture)]
instance:IsEnc 3 eRef13Rig:=⟨fun _=>rfl,fun _=>rfl,fun _=>rfl⟩
def f53_L1(x0:ApiProfile):Lp (Int) ((Unit)⊕(Unit)) where
  body:=fun x1=>(if (decide (x1<((x0.fFeatures.length:Nat):Int)))=true then (if (decide (x1<40))=true then (at? x0.fFeatures x1).bind fun x2=>(if (decide (40<((x2.fWheel.length:Nat):Int)))=true then (some (.brk (Sum.inr ()))) else (some (.next (IntKind.i64.wrap (x1 + 1))))) else (some (.brk (Sum.inl ())))) else (some (.brk (Sum.inl ()))))
  cst:=fun x1=>⟨put (put (fun _=>.junk) 3 (.int .i64 x1)) 1 (.ptr 0 0),[.cel [.str x0.fName,.int .i64 x0.fFootprint,.int .i64 x0.fWatts,.sl 10 false (x0.fFeatures.map eApiFeature)]]⟩
theorem f53_L1c(x0:ApiProfile)(x1:Int):(f53_L1 x0).cst x1=⟨put (put (fun _=>.junk) 3 (.int .i64 x1)) 1 (.ptr 0 0),[.cel [.str x0.fName,.int .i64 x0.fFootprint,.int .i64 x0.fWatts,.sl 10 false (x0.fFeatures.map eApiFeature)]]⟩:=rfl
def c53_3:C:=.seq (.block 1 (.seq (.reg [iI 15 (.faddr 3 (.t 1)),iI 16 (.load 0 (.t 15)),iI 17 (.mv (.t 3)),iI 18 (.iaddr 10 (.t 16) (.t 17)),iI 19 (.faddr 9 (.t 18)),iI 20 (.load 0 (.t 19)),iI 21 (.len 0 (.t 20)),iI 22 (.bin .gtr (.t 21) (.c (.int .i64 40)))]) (.cond (.t 22) (.seq (.reg [iI 2 (.mv (.c (.bool false)))]) .ret) (.skip)))) (.reg [iI 13 (.mv (.t 3)),iI 14 (.bin .add (.t 13) (.c (.int .i64 1))),iI 3 (.mv (.t 14))])
def c53_4:C:=.block 0 (.loop (.seq (.seq (.reg [iI 4 (.mv (.t 3)),iI 5 (.faddr 3 (.t 1)),iI 6 (.load 0 (.t 5)),iI 7 (.len 0 (.t 6)),iI 8 (.bin .lss (.t 4) (.t 7)),iI 9 (.mv (.t 8)),iG (some 10) 9 true (.mv (.t 3)),iG (some 11) 9 true (.bin .lss (.t 10) (.c (.int .i64 40))),iI 12 (.pick (.t 9) (.t 11) (.c (.bool false)))]) (.cond (.t 12) (.skip) (.exit 0))) c53_3))
def c53_5:C:=.seq (.reg [iI 23 (.faddr 3 (.t 1)),iI 24 (.load 0 (.t 23)),iI 25 (.len 0 (.t 24)),iI 26 (.bin .leq (.t 25) (.c (.int .i64 40))),iI 27 (.mv (.t 26)),iG (some 28) 27 true (.faddr 0 (.t 1)),iG (some 29) 27 true (.load 0 (.t 28)),iG (some 30) 27 true (.len 1 (.t 29)),iG (some 31) 27 true (.bin .leq (.t 30) (.c (.int .i64 100))),iI 32 (.pick (.t 27) (.t 31) (.c (.bool false))),iI 2 (.mv (.t 32))]) .ret
def ir53:C:=.seq (.reg [iI 1 (.box (.t 0)),iI 2 (.mv (.c (.bool false)))]) (.seq (.seq (.reg [iI 3 (.mv (.c (.int .i64 0)))]) c53_4) c53_5)
theorem fd53:fd? Tryz.prog 53=some (33,[.slot 2],ir53):=by kernel_rfl
def f53(x0:ApiProfile):Option (Bool) :=
  ((Lp.run (f53_L1 x0) 0).bind fun r_=>match r_ with | (Sum.inl _)=>(if (decide (((x0.fFeatures.length:Nat):Int)≤40))=true then (some (decide (((x0.fName.length:Nat):Int)≤100))) else (some false)) | (Sum.inr _)=>(some false))
theorem f53_ok{x0:ApiProfile}{r_:Bool}(H:f53 x0=some r_):Pure Tryz.prog 53 [.agg [.str x0.fName,.int .i64 x0.fFootprint,.int .i64 x0.fWatts,.sl 10 false (x0.fFeatures.map eApiFeature)]] (· = .bool r_):=by
 refine w3 fd53 fun Q hQ=>?_
 simp only[f53] at H
 refine zr ?_
 refine zq (zr ?_)
 refine zd ?_
 refine zU H [0] [1,3] (f53_L1c ..) ?_<;>clear H
 rintro x1 x_ st0_ H hst_
 rw[f53_L1c] at hst_
 simp only[f53_L1] at H
 subst hst_
 refine zq (zr ?_)
 refine ig H ?_ ?_<;>clear H<;>intro H
 ·refine zs ?_
  refine ic H ?_ ?_<;>clear H<;>intro H
  ·refine zk (zm (zb (zr ?_)))
   refine ia eApiFeature H ?_<;>clear H<;>intro x2 H
   refine zE5 ?_
   refine ic H ?_ ?_<;>clear H<;>intro H
   ·refine zr ?_
    refine zt (zp (loopQ.ret H ?_))<;>clear H<;>intro H
    try dsimp only at H
    cases H
    exact zh (zv (zf hQ))
   ·refine zk (zo (ze ?_))
    exact zu H [0] [1,3] (f53_L1c ..)
  ·refine zx (zy (loopQ.exit H ?_))<;>clear H<;>intro H
   try dsimp only at H
   refine zi (zm (zr ?_))
   refine ig H ?_ ?_<;>clear H<;>intro H
   ·refine zs ?_
    cases H
    exact zt (zf hQ)
   ·refine zs ?_
    cases H
    exact zt (zf hQ)
 ·refine zs ?_
  refine zc (zx (zy (loopQ.exit H ?_)))<;>clear H<;>intro H
  try dsimp only at H
  refine zi (zm (zr ?_))
  refine ig H ?_ ?_<;>clear H<;>intro H
  ·refine zs ?_
   cases H
   exact zt (zf hQ)
  ·refine zs ?_
   cases H
   exact zt (zf hQ)
def ir93:C:=.seq (.reg [iI 2 (.mv (.c (.bool false)))]) (.seq (.reg [iI 3 (.mv (.t 0)),iI 4 (.len 0 (.t 3)),iI 5 (.bin .leq (.t 4) (.c (.int .i64 40))),iI 2 (.mv (.t 5))]) .ret)
theorem fd93:fd? Tryz.prog 93=some (6,[.slot 2],ir93):=by kernel_rfl
def f93(x0:(List ApiPoint)):Option (Bool) :=
  (some (decide (((x0.length:Nat):Int)≤40)))
theorem f93_ok{x0:(List ApiPoint)}{r_:Bool}(H:f93 x0=some r_):Pure Tryz.prog 93 [.sl 2 false (x0.map eApiPoint)] (· = .bool r_):=by
 refine w3 fd93 fun Q hQ=>?_
 simp only[f93] at H
 refine zr ?_
 refine zr ?_
 cases H
 exact zt (zf hQ)
def f54_L1(x0:(List (List ApiPoint))):Lp (Int) ((Unit)⊕(Unit)) where
  body:=fun x1=>(if (decide (x1<((x0.length:Nat):Int)))=true then (if (decide (x1<40))=true then (at? x0 x1).bind fun x2=>(f93 x2).bind fun x3=>(if (!x3)=true then (some (.brk (Sum.inr ()))) else (some (.next (IntKind.i64.wrap (x1 + 1))))) else (some (.brk (Sum.inl ())))) else (some (.brk (Sum.inl ()))))
  cst:=fun x1=>⟨put (put (fun _=>.junk) 3 (.int .i64 x1)) 0 (.sl 0 false (x0.map (eL 2 eApiPoint))),[]⟩
theorem f54_L1c(x0:(List (List ApiPoint)))(x1:Int):(f54_L1 x0).cst x1=⟨put (put (fun _=>.junk) 3 (.int .i64 x1)) 0 (.sl 0 false (x0.map (eL 2 eApiPoint))),[]⟩:=rfl
def c54_3:C:=.seq (.block 1 (.seq (.reg [iI 14 (.mv (.t 0)),iI 15 (.mv (.t 3)),iI 16 (.iaddr 0 (.t 14) (.t 15)),iI 17 (.load 0 (.t 16)),iI 18 (.call (.c (.fn 93 [])) [(.t 17)]),iI 19 (.un .not (.t 18))]) (.cond (.t 19) (.seq (.reg [iI 2 (.mv (.c (.bool false)))]) .ret) (.skip)))) (.reg [iI 12 (.mv (.t 3)),iI 13 (.bin .add (.t 12) (.c (.int .i64 1))),iI 3 (.mv (.t 13))])
def c54_4:C:=.block 0 (.loop (.seq (.seq (.reg [iI 4 (.mv (.t 3)),iI 5 (.mv (.t 0)),iI 6 (.len 0 (.t 5)),iI 7 (.bin .lss (.t 4) (.t 6)),iI 8 (.mv (.t 7)),iG (some 9) 8 true (.mv (.t 3)),iG (some 10) 8 true (.bin .lss (.t 9) (.c (.int .i64 40))),iI 11 (.pick (.t 8) (.t 10) (.c (.bool false)))]) (.cond (.t 11) (.skip) (.exit 0))) c54_3))
def c54_6:C:=.seq (.seq (.reg [iI 3 (.mv (.c (.int .i64 0)))]) c54_4) (.seq (.reg [iI 20 (.mv (.t 0)),iI 21 (.len 0 (.t 20)),iI 22 (.bin .leq (.t 21) (.c (.int .i64 40))),iI 2 (.mv (.t 22))]) .ret)
def ir54:C:=.seq (.reg [iI 2 (.mv (.c (.bool false)))]) c54_6
theorem fd54:fd? Tryz.prog 54=some (23,[.slot 2],ir54):=by kernel_rfl
def f54(x0:(List (List ApiPoint))):Option (Bool) :=
  ((Lp.run (f54_L1 x0) 0).bind fun r_=>match r_ with | (Sum.inl _)=>(some (decide (((x0.length:Nat):Int)≤40))) | (Sum.inr _)=>(some false))
theorem f54_ok{x0:(List (List ApiPoint))}{r_:Bool}(H:f54 x0=some r_):Pure Tryz.prog 54 [.sl 0 false (x0.map (eL 2 eApiPoint))] (· = .bool r_):=by
 refine w3 fd54 fun Q hQ=>?_
 simp only[f54] at H
 refine zr ?_
 refine zq (zr ?_)
 refine zd ?_
 refine zU H [] [0,3] (f54_L1c ..) ?_<;>clear H
 rintro x1 x_ st0_ H hst_
 rw[f54_L1c] at hst_
 simp only[f54_L1] at H
 subst hst_
 refine zq (zr ?_)
 refine ig H ?_ ?_<;>clear H<;>intro H
 ·refine zs ?_
  refine ic H ?_ ?_<;>clear H<;>intro H
  ·refine zk (zm (zb (zr ?_)))
   refine ia (eL 2 eApiPoint) H ?_<;>clear H<;>intro x2 H
   refine zE0 ?_
   refine pu H f93_ok ?_<;>clear H<;>intro x3 H
   refine zE0 ?_
   refine ic H ?_ ?_<;>clear H<;>intro H
   ·refine zr ?_
    refine zt (zp (loopQ.ret H ?_))<;>clear H<;>intro H
    try dsimp only at H
    cases H
    exact zh (zv (zf hQ))
   ·refine zk (zo (ze ?_))
    exact zu H [] [0,3] (f54_L1c ..)
  ·refine zx (zy (loopQ.exit H ?_))<;>clear H<;>intro H
   try dsimp only at H
   refine zi (zm (zr ?_))
   cases H
   exact zt (zf hQ)
 ·refine zs ?_
  refine zc (zx (zy (loopQ.exit H ?_)))<;>clear H<;>intro H
  try dsimp only at H
  refine zi (zm (zr ?_))
  cases H
  exact zt (zf hQ)
def f18_L1(x0:Ref13Rig):Lp (Int) ((Unit)⊕(Unit)) where
  body:=fun x1=>(if (decide (x1<((x0.fProfiles.length:Nat):Int)))=true then (if (decide (x1<40))=true then (at? x0.fProfiles x1).bind fun x2=>(f53 x2).bind fun x3=>(if (!x3)=true then (some (.brk (Sum.inr ()))) else (some (.next (IntKind.i64.wrap (x1 + 1))))) else (some (.brk (Sum.inl ())))) else (some (.brk (Sum.inl ()))))
  cst:=fun x1=>⟨put (put (fun _=>.junk) 3 (.int .i64 x1)) 1 (.ptr 0 0),[.cel [.sl 0 false (x0.fCurves.map (eL 2 eApiPoint)),.sl 4 false (x0.fProfiles.map eApiProfile),.sl 7 false (x0.fFixtures.map eApiFixture)]]⟩
theorem f18_L1c(x0:Ref13Rig)(x1:Int):(f18_L1 x0).cst x1=⟨put (put (fun _=>.junk) 3 (.int .i64 x1)) 1 (.ptr 0 0),[.cel [.sl 0 false (x0.fCurves.map (eL 2 eApiPoint)),.sl 4 false (x0.fProfiles.map eApiProfile),.sl 7 false (x0.fFixtures.map eApiFixture)]]⟩:=rfl
def c18_3:C:=.seq (.block 1 (.seq (.reg [iI 15 (.faddr 1 (.t 1)),iI 16 (.load 0 (.t 15)),iI 17 (.mv (.t 3)),iI 18 (.iaddr 4 (.t 16) (.t 17)),iI 19 (.load 4 (.t 18)),iI 20 (.call (.c (.fn 53 [])) [(.t 19)]),iI 21 (.un .not (.t 20))]) (.cond (.t 21) (.seq (.reg [iI 2 (.mv (.c (.bool false)))]) .ret) (.skip)))) (.reg [iI 13 (.mv (.t 3)),iI 14 (.bin .add (.t 13) (.c (.int .i64 1))),iI 3 (.mv (.t 14))])
def c18_4:C:=.block 0 (.loop (.seq (.seq (.reg [iI 4 (.mv (.t 3)),iI 5 (.faddr 1 (.t 1)),iI 6 (.load 0 (.t 5)),iI 7 (.len 0 (.t 6)),iI 8 (.bin .lss (.t 4) (.t 7)),iI 9 (.mv (.t 8)),iG (some 10) 9 true (.mv (.t 3)),iG (some 11) 9 true (.bin .lss (.t 10) (.c (.int .i64 40))),iI 12 (.pick (.t 9) (.t 11) (.c (.bool false)))]) (.cond (.t 12) (.skip) (.exit 0))) c18_3))
def c18_5:C:=.seq (.reg [iI 22 (.faddr 0 (.t 1)),iI 23 (.load 0 (.t 22)),iI 24 (.call (.c (.fn 54 [])) [(.t 23)]),iI 25 (.mv (.t 24)),iG (some 26) 25 true (.faddr 1 (.t 1)),iG (some 27) 25 true (.load 0 (.t 26)),iG (some 28) 25 true (.len 0 (.t 27)),iG (some 29) 25 true (.bin .leq (.t 28) (.c (.int .i64 40))),iI 30 (.pick (.t 25) (.t 29) (.c (.bool false))),iI 31 (.mv (.t 30)),iG (some 32) 31 true (.faddr 2 (.t 1)),iG (some 33) 31 true (.load 0 (.t 32)),iG (some 34) 31 true (.len 0 (.t 33)),iG (some 35) 31 true (.bin .leq (.t 34) (.c (.int .i64 70))),iI 36 (.pick (.t 31) (.t 35) (.c (.bool false))),iI 2 (.mv (.t 36))]) .ret
def ir18:C:=.seq (.reg [iI 1 (.box (.t 0)),iI 2 (.mv (.c (.bool false)))]) (.seq (.seq (.reg [iI 3 (.mv (.c (.int .i64 0)))]) c18_4) c18_5)
theorem fd18:fd? Tryz.prog 18=some (37,[.slot 2],ir18):=by kernel_rfl
def f18(x0:Ref13Rig):Option (Bool) :=
  ((Lp.run (f18_L1 x0) 0).bind fun r_=>match r_ with | (Sum.inl _)=>(f54 x0.fCurves).bind fun x1=>(if x1=true then (if (decide (((x0.fProfiles.length:Nat):Int)≤40))=true then (some (decide (((x0.fFixtures.length:Nat):Int)≤70))) else (some false)) else (some false)) | (Sum.inr _)=>(some false))
theorem f18_ok{x0:Ref13Rig}{r_:Bool}(H:f18 x0=some r_):Pure Tryz.prog 18 [.agg [.sl 0 false (x0.fCurves.map (eL 2 eApiPoint)),.sl 4 false (x0.fProfiles.map eApiProfile),.sl 7 false (x0.fFixtures.map eApiFixture)]] (· = .bool r_):=by
 refine w3 fd18 fun Q hQ=>?_
 simp only[f18] at H
 refine zr ?_
 refine zq (zr ?_)
 refine zd ?_
 refine zU H [0] [1,3] (f18_L1c ..) ?_<;>clear H
 rintro x1 x_ st0_ H hst_
 rw[f18_L1c] at hst_
 simp only[f18_L1] at H
 subst hst_
 refine zq (zr ?_)
 refine ig H ?_ ?_<;>clear H<;>intro H
 ·refine zs ?_
  refine ic H ?_ ?_<;>clear H<;>intro H
  ·refine zk (zm (zb (zr ?_)))
   refine ia eApiProfile H ?_<;>clear H<;>intro x2 H
   refine zE6 ?_
   refine pu H f53_ok ?_<;>clear H<;>intro x3 H
   refine zE0 ?_
   refine ic H ?_ ?_<;>clear H<;>intro H
   ·refine zr ?_
    refine zt (zp (loopQ.ret H ?_))<;>clear H<;>intro H
    try dsimp only at H
    cases H
    exact zh (zv (zf hQ))
   ·refine zk (zo (ze ?_))
    exact zu H [0] [1,3] (f18_L1c ..)
  ·refine zx (zy (loopQ.exit H ?_))<;>clear H<;>intro H
   try dsimp only at H
   refine zi (zm (zr ?_))
   refine pu H f54_ok ?_<;>clear H<;>intro x4 H
   refine zE0 ?_
   refine ig H ?_ ?_<;>clear H<;>intro H
   ·refine zs ?_
    refine ig H ?_ ?_<;>clear H<;>intro H
    ·refine zs ?_
     cases H
     exact zt (zf hQ)
    ·refine zs ?_
     cases H
     exact zt (zf hQ)
   ·refine zs ?_
    cases H
    exact zt (zf hQ)
 ·refine zs ?_
  refine zc (zx (zy (loopQ.exit H ?_)))<;>clear H<;>intro H
  try dsimp only at H
  refine zi (zm (zr ?_))
  refine pu H f54_ok ?_<;>clear H<;>intro x5 H
  refine zE0 ?_
  refine ig H ?_ ?_<;>clear H<;>intro H
  ·refine zs ?_
   refine ig H ?_ ?_<;>clear H<;>intro H
   ·refine zs ?_
    cases H
    exact zt (zf hQ)
   ·refine zs ?_
    cases H
    exact zt (zf hQ)
  ·refine zs ?_
   cases H
   exact zt (zf hQ)
def c167_0:C:=.seq (.reg [iI 3 (.mv (.t 0)),iI 4 (.bin .geq (.t 3) (.c (.int .i64 0))),iI 5 (.mv (.t 4)),iG (some 6) 5 true (.mv (.t 0)),iG (some 7) 5 true (.bin .leq (.t 6) (.c (.int .i64 65535))),iI 8 (.pick (.t 5) (.t 7) (.c (.bool false))),iI 2 (.mv (.t 8))]) .ret
def ir167:C:=.seq (.reg [iI 2 (.mv (.c (.bool false)))]) c167_0
theorem fd167:fd? Tryz.prog 167=some (9,[.slot 2],ir167):=by kernel_rfl
def f167(x0:Int):Option (Bool) :=
  (if (decide (0≤x0))=true then (some (decide (x0≤65535))) else (some false))
theorem f167_ok{x0:Int}{r_:Bool}(H:f167 x0=some r_):Pure Tryz.prog 167 [.int .i64 x0] (· = .bool r_):=by
 refine w3 fd167 fun Q hQ=>?_
 simp only[f167] at H
 refine zr ?_
 refine zr ?_
 refine ig H ?_ ?_<;>clear H<;>intro H
 ·refine zs ?_
  cases H
  exact zt (zf hQ)
 ·refine zs ?_
  cases H
  exact zt (zf hQ)
def f111_L1(x0:(List ApiPoint)):Lp (Int) ((Unit)⊕(Int)) where
  body:=fun x1=>(if (decide (x1<((x0.length:Nat):Int)))=true then (at? x0 x1).bind fun x2=>(f167 x2.fX).bind fun x3=>(if (!x3)=true then (some (.brk (Sum.inr 2))) else (at? x0 x1).bind fun x4=>(f167 x4.fY).bind fun x5=>(if (!x5)=true then (some (.brk (Sum.inr 2))) else (if (decide (0<x1))=true then (at? x0 x1).bind fun x6=>(at? x0 (IntKind.i64.wrap (x1 - 1))).bind fun x7=>(if (decide (x6.fX≤x7.fX))=true then (some (.brk (Sum.inr 9))) else (some (.next (IntKind.i64.wrap (x1 + 1))))) else (some (.next (IntKind.i64.wrap (x1 + 1))))))) else (some (.brk (Sum.inl ()))))
  cst:=fun x1=>⟨put (put (fun _=>.junk) 3 (.int .i64 x1)) 0 (.sl 2 false (x0.map eApiPoint)),[]⟩
theorem f111_L1c(x0:(List ApiPoint))(x1:Int):(f111_L1 x0).cst x1=⟨put (put (fun _=>.junk) 3 (.int .i64 x1)) 0 (.sl 2 false (x0.map eApiPoint)),[]⟩:=rfl
def c111_5:C:=.seq (.reg [iI 32 (.mv (.t 3)),iI 33 (.bin .gtr (.t 32) (.c (.int .i64 0))),iI 34 (.mv (.t 33)),iG (some 35) 34 true (.mv (.t 0)),iG (some 36) 34 true (.mv (.t 3)),iG (some 37) 34 true (.iaddr 2 (.t 35) (.t 36)),iG (some 38) 34 true (.faddr 0 (.t 37)),iG (some 39) 34 true (.load 0 (.t 38)),iG (some 40) 34 true (.mv (.t 0)),iG (some 41) 34 true (.mv (.t 3)),iG (some 42) 34 true (.bin .sub (.t 41) (.c (.int .i64 1))),iG (some 43) 34 true (.iaddr 2 (.t 40) (.t 42)),iG (some 44) 34 true (.faddr 0 (.t 43)),iG (some 45) 34 true (.load 0 (.t 44)),iG (some 46) 34 true (.bin .leq (.t 39) (.t 45)),iI 47 (.pick (.t 34) (.t 46) (.c (.bool false)))]) (.cond (.t 47) (.seq (.reg [iI 2 (.mv (.c (.int .i64 9)))]) .ret) (.skip))
def c111_7:C:=.seq (.block 1 (.seq (.seq (.reg [iI 16 (.mv (.t 0)),iI 17 (.mv (.t 3)),iI 18 (.iaddr 2 (.t 16) (.t 17)),iI 19 (.faddr 0 (.t 18)),iI 20 (.load 0 (.t 19)),iI 21 (.call (.c (.fn 167 [])) [(.t 20)]),iI 22 (.un .not (.t 21)),iI 23 (.mv (.t 22)),iG (some 24) 23 false (.mv (.t 0)),iG (some 25) 23 false (.mv (.t 3)),iG (some 26) 23 false (.iaddr 2 (.t 24) (.t 25)),iG (some 27) 23 false (.faddr 1 (.t 26)),iG (some 28) 23 false (.load 0 (.t 27)),iG (some 29) 23 false (.call (.c (.fn 167 [])) [(.t 28)]),iG (some 30) 23 false (.un .not (.t 29)),iI 31 (.pick (.t 23) (.c (.bool true)) (.t 30))]) (.cond (.t 31) (.seq (.reg [iI 2 (.mv (.c (.int .i64 2)))]) .ret) (.skip))) c111_5)) (.reg [iI 14 (.mv (.t 3)),iI 15 (.bin .add (.t 14) (.c (.int .i64 1))),iI 3 (.mv (.t 15))])
def c111_8:C:=.block 0 (.loop (.seq (.seq (.reg [iI 10 (.mv (.t 3)),iI 11 (.mv (.t 0)),iI 12 (.len 0 (.t 11)),iI 13 (.bin .lss (.t 10) (.t 12))]) (.cond (.t 13) (.skip) (.exit 0))) c111_7))
def c111_11:C:=.seq (.seq (.reg [iI 48 (.mv (.t 0)),iI 49 (.iaddr 2 (.t 48) (.c (.int .i64 0))),iI 50 (.faddr 0 (.t 49)),iI 51 (.load 0 (.t 50)),iI 52 (.bin .neq (.t 51) (.c (.int .i64 0))),iI 53 (.mv (.t 52)),iG (some 54) 53 false (.mv (.t 0)),iG (some 55) 53 false (.mv (.t 0)),iG (some 56) 53 false (.len 0 (.t 55)),iG (some 57) 53 false (.bin .sub (.t 56) (.c (.int .i64 1))),iG (some 58) 53 false (.iaddr 2 (.t 54) (.t 57)),iG (some 59) 53 false (.faddr 0 (.t 58)),iG (some 60) 53 false (.load 0 (.t 59)),iG (some 61) 53 false (.bin .neq (.t 60) (.c (.int .i64 65535))),iI 62 (.pick (.t 53) (.c (.bool true)) (.t 61))]) (.cond (.t 62) (.seq (.reg [iI 2 (.mv (.c (.int .i64 14)))]) .ret) (.skip))) (.seq (.reg [iI 2 (.mv (.c (.int .i64 0)))]) .ret)
def c111_13:C:=.seq (.seq (.reg [iI 7 (.mv (.t 0)),iI 8 (.len 0 (.t 7)),iI 9 (.bin .gtr (.t 8) (.c (.int .i64 16)))]) (.cond (.t 9) (.seq (.reg [iI 2 (.mv (.c (.int .i64 5)))]) .ret) (.skip))) (.seq (.seq (.reg [iI 3 (.mv (.c (.int .i64 0)))]) c111_8) c111_11)
def c111_14:C:=.seq (.seq (.reg [iI 4 (.mv (.t 0)),iI 5 (.len 0 (.t 4)),iI 6 (.bin .lss (.t 5) (.c (.int .i64 2)))]) (.cond (.t 6) (.seq (.reg [iI 2 (.mv (.c (.int .i64 14)))]) .ret) (.skip))) c111_13
def ir111:C:=.seq (.reg [iI 2 (.mv (.c (.int .i64 0)))]) c111_14
theorem fd111:fd? Tryz.prog 111=some (63,[.slot 2],ir111):=by kernel_rfl
def f111(x0:(List ApiPoint)):Option (Int) :=
  (if (decide (((x0.length:Nat):Int)<2))=true then (some 14) else (if (decide (16<((x0.length:Nat):Int)))=true then (some 5) else ((Lp.run (f111_L1 x0) 0).bind fun r_=>match r_ with | (Sum.inl _)=>(at? x0 0).bind fun x1=>(if (decide (x1.fX≠0))=true then (some 14) else (at? x0 (IntKind.i64.wrap (((x0.length:Nat):Int) - 1))).bind fun x2=>(if (decide (x2.fX≠65535))=true then (some 14) else (some 0))) | (Sum.inr x3)=>(some x3))))
theorem f111_ok{x0:(List ApiPoint)}{r_:Int}(H:f111 x0=some r_):Pure Tryz.prog 111 [.sl 2 false (x0.map eApiPoint)] (· = .int .i64 r_):=by
 refine w3 fd111 fun Q hQ=>?_
 simp only[f111] at H
 refine zr ?_
 refine zq (zr ?_)
 refine ic H ?_ ?_<;>clear H<;>intro H
 ·refine zr ?_
  cases H
  exact zt (zv (zf hQ))
 ·refine zk (zm (zq (zr ?_)))
  refine ic H ?_ ?_<;>clear H<;>intro H
  ·refine zr ?_
   cases H
   exact zt (zv (zf hQ))
  ·refine zk (zm (zq (zr ?_)))
   refine zd ?_
   refine zU H [] [0,3] (f111_L1c ..) ?_<;>clear H
   rintro x1 x_ st0_ H hst_
   rw[f111_L1c] at hst_
   simp only[f111_L1] at H
   subst hst_
   refine zq (zr ?_)
   refine ic H ?_ ?_<;>clear H<;>intro H
   ·refine zk (zm (zb (zq (zr ?_))))
    refine ia eApiPoint H ?_<;>clear H<;>intro x2 H
    refine zE3 ?_
    refine pu H f167_ok ?_<;>clear H<;>intro x3 H
    refine zE0 ?_
    refine ig H ?_ ?_<;>clear H<;>intro H
    ·refine zs ?_
     refine za (zr ?_)
     refine zt (zv (zp (loopQ.ret H ?_)))<;>clear H<;>intro H
     try dsimp only at H
     cases H
     exact zh (zv (zf hQ))
    ·refine zs ?_
     refine ia eApiPoint H ?_<;>clear H<;>intro x4 H
     refine zE3 ?_
     refine pu H f167_ok ?_<;>clear H<;>intro x5 H
     refine zE0 ?_
     refine ic H ?_ ?_<;>clear H<;>intro H
     ·refine zr ?_
      refine zt (zv (zp (loopQ.ret H ?_)))<;>clear H<;>intro H
      try dsimp only at H
      cases H
      exact zh (zv (zf hQ))
     ·refine zk (zm (zr ?_))
      refine ig H ?_ ?_<;>clear H<;>intro H
      ·refine zs ?_
       refine ia eApiPoint H ?_<;>clear H<;>intro x6 H
       refine zE3 ?_
       refine ia eApiPoint H ?_<;>clear H<;>intro x7 H
       refine zE3 ?_
       refine ic H ?_ ?_<;>clear H<;>intro H
       ·refine zr ?_
        refine zt (zp (loopQ.ret H ?_))<;>clear H<;>intro H
        try dsimp only at H
        cases H
        exact zh (zv (zf hQ))
       ·refine zk (zo (ze ?_))
        exact zu H [] [0,3] (f111_L1c ..)
      ·refine zs ?_
       refine zc (zk (zo (ze ?_)))
       exact zu H [] [0,3] (f111_L1c ..)
   ·refine zx (zy (loopQ.exit H ?_))<;>clear H<;>intro H
    try dsimp only at H
    refine zi (zm (zq (zr ?_)))
    refine ia eApiPoint H ?_<;>clear H<;>intro x8 H
    refine zE3 ?_
    refine ig H ?_ ?_<;>clear H<;>intro H
    ·refine zs ?_
     refine za (zr ?_)
     cases H
     exact zt (zv (zf hQ))
    ·refine zs ?_
     refine ia eApiPoint H ?_<;>clear H<;>intro x9 H
     refine zE3 ?_
     refine ic H ?_ ?_<;>clear H<;>intro H
     ·refine zr ?_
      cases H
      exact zt (zv (zf hQ))
     ·refine zk (zm (zr ?_))
      cases H
      exact zt (zf hQ)
def f70_L1(x0:(List (List ApiPoint))):Lp (Int) ((Unit)⊕(Int)) where
  body:=fun x1=>(if (decide (x1<((x0.length:Nat):Int)))=true then (at? x0 x1).bind fun x2=>(f111 x2).bind fun x3=>(if (decide (x3≠0))=true then (some (.brk (Sum.inr x3))) else (some (.next (IntKind.i64.wrap (x1 + 1))))) else (some (.brk (Sum.inl ()))))
  cst:=fun x1=>⟨put (put (fun _=>.junk) 3 (.int .i64 x1)) 0 (.sl 0 false (x0.map (eL 2 eApiPoint))),[]⟩
theorem f70_L1c(x0:(List (List ApiPoint)))(x1:Int):(f70_L1 x0).cst x1=⟨put (put (fun _=>.junk) 3 (.int .i64 x1)) 0 (.sl 0 false (x0.map (eL 2 eApiPoint))),[]⟩:=rfl
def c70_3:C:=.seq (.reg [iI 19 (.mv (.t 4)),iI 20 (.bin .neq (.t 19) (.c (.int .i64 0)))]) (.cond (.t 20) (.seq (.reg [iI 21 (.mv (.t 4)),iI 2 (.mv (.t 21))]) .ret) (.skip))
def c70_5:C:=.seq (.block 1 (.seq (.reg [iI 14 (.mv (.t 0)),iI 15 (.mv (.t 3)),iI 16 (.iaddr 0 (.t 14) (.t 15)),iI 17 (.load 0 (.t 16)),iI 18 (.call (.c (.fn 111 [])) [(.t 17)]),iI 4 (.mv (.t 18))]) c70_3)) (.reg [iI 12 (.mv (.t 3)),iI 13 (.bin .add (.t 12) (.c (.int .i64 1))),iI 3 (.mv (.t 13))])
def c70_6:C:=.block 0 (.loop (.seq (.seq (.reg [iI 8 (.mv (.t 3)),iI 9 (.mv (.t 0)),iI 10 (.len 0 (.t 9)),iI 11 (.bin .lss (.t 8) (.t 10))]) (.cond (.t 11) (.skip) (.exit 0))) c70_5))
def c70_9:C:=.seq (.seq (.reg [iI 5 (.mv (.t 0)),iI 6 (.len 0 (.t 5)),iI 7 (.bin .gtr (.t 6) (.c (.int .i64 16)))]) (.cond (.t 7) (.seq (.reg [iI 2 (.mv (.c (.int .i64 5)))]) .ret) (.skip))) (.seq (.seq (.reg [iI 3 (.mv (.c (.int .i64 0)))]) c70_6) (.seq (.reg [iI 2 (.mv (.c (.int .i64 0)))]) .ret))
def ir70:C:=.seq (.reg [iI 2 (.mv (.c (.int .i64 0)))]) c70_9
theorem fd70:fd? Tryz.prog 70=some (22,[.slot 2],ir70):=by kernel_rfl
def f70(x0:(List (List ApiPoint))):Option (Int) :=
  (if (decide (16<((x0.length:Nat):Int)))=true then (some 5) else ((Lp.run (f70_L1 x0) 0).bind fun r_=>match r_ with | (Sum.inl _)=>(some 0) | (Sum.inr x1)=>(some x1)))
theorem f70_ok{x0:(List (List ApiPoint))}{r_:Int}(H:f70 x0=some r_):Pure Tryz.prog 70 [.sl 0 false (x0.map (eL 2 eApiPoint))] (· = .int .i64 r_):=by
 refine w3 fd70 fun Q hQ=>?_
 simp only[f70] at H
 refine zr ?_
 refine zq (zr ?_)
 refine ic H ?_ ?_<;>clear H<;>intro H
 ·refine zr ?_
  cases H
  exact zt (zv (zf hQ))
 ·refine zk (zm (zq (zr ?_)))
  refine zd ?_
  refine zU H [] [0,3] (f70_L1c ..) ?_<;>clear H
  rintro x1 x_ st0_ H hst_
  rw[f70_L1c] at hst_
  simp only[f70_L1] at H
  subst hst_
  refine zq (zr ?_)
  refine ic H ?_ ?_<;>clear H<;>intro H
  ·refine zk (zm (zb (zr ?_)))
   refine ia (eL 2 eApiPoint) H ?_<;>clear H<;>intro x2 H
   refine zE0 ?_
   refine pu H f111_ok ?_<;>clear H<;>intro x3 H
   refine zE0 ?_
   refine zr ?_
   refine ic H ?_ ?_<;>clear H<;>intro H
   ·refine zr ?_
    refine zt (zp (loopQ.ret H ?_))<;>clear H<;>intro H
    try dsimp only at H
    cases H
    exact zh (zv (zf hQ))
   ·refine zk (zo (ze ?_))
    exact zu H [] [0,3] (f70_L1c ..)
  ·refine zx (zy (loopQ.exit H ?_))<;>clear H<;>intro H
   try dsimp only at H
   refine zi (zm (zr ?_))
   cases H
   exact zt (zf hQ)
def f112_L1(x0:(List UInt8)):Lp (Int) ((Unit)⊕(Unit)) where
  body:=fun x1=>(if (decide (x1<((x0.length:Nat):Int)))=true then (at? x0 x1).bind fun x2=>(if (decide (97≤(x2.toNat:Int)))=true then (at? x0 x1).bind fun x3=>(if (!(decide ((x3.toNat:Int)≤122)))=true then (if (decide (x1=0))=true then (some (.brk (Sum.inr ()))) else (at? x0 x1).bind fun x4=>(if (decide ((x4.toNat:Int)≠95))=true then (at? x0 x1).bind fun x5=>(if (decide ((x5.toNat:Int)<48))=true then (some (.brk (Sum.inr ()))) else (at? x0 x1).bind fun x6=>(if (decide (57<(x6.toNat:Int)))=true then (some (.brk (Sum.inr ()))) else (some (.next (IntKind.i64.wrap (x1 + 1)))))) else (some (.next (IntKind.i64.wrap (x1 + 1)))))) else (some (.next (IntKind.i64.wrap (x1 + 1))))) else (if (decide (x1=0))=true then (some (.brk (Sum.inr ()))) else (at? x0 x1).bind fun x7=>(if (decide ((x7.toNat:Int)≠95))=true then (at? x0 x1).bind fun x8=>(if (decide ((x8.toNat:Int)<48))=true then (some (.brk (Sum.inr ()))) else (at? x0 x1).bind fun x9=>(if (decide (57<(x9.toNat:Int)))=true then (some (.brk (Sum.inr ()))) else (some (.next (IntKind.i64.wrap (x1 + 1)))))) else (some (.next (IntKind.i64.wrap (x1 + 1))))))) else (some (.brk (Sum.inl ()))))
  cst:=fun x1=>⟨put (put (fun _=>.junk) 3 (.int .i64 x1)) 0 (.str x0),[]⟩
theorem f112_L1c(x0:(List UInt8))(x1:Int):(f112_L1 x0).cst x1=⟨put (put (fun _=>.junk) 3 (.int .i64 x1)) 0 (.str x0),[]⟩:=rfl
def c112_2:C:=.seq (.reg [iI 21 (.mv (.t 4)),iI 22 (.un .not (.t 21)),iI 23 (.mv (.t 22)),iG (some 24) 23 true (.mv (.t 3)),iG (some 25) 23 true (.bin .eql (.t 24) (.c (.int .i64 0))),iG (some 26) 23 true (.mv (.t 25)),iG (some 27) 26 false (.mv (.t 0)),iG (some 28) 26 false (.mv (.t 3)),iG (some 29) 26 false (.sidx (.t 27) (.t 28)),iG (some 30) 26 false (.bin .neq (.t 29) (.c (.int .u8 95))),iG (some 31) 26 false (.mv (.t 30)),iG (some 32) 31 true (.mv (.t 0)),iG (some 33) 31 true (.mv (.t 3)),iG (some 34) 31 true (.sidx (.t 32) (.t 33)),iG (some 35) 31 true (.bin .lss (.t 34) (.c (.int .u8 48))),iG (some 36) 31 true (.mv (.t 35)),iG (some 37) 36 false (.mv (.t 0)),iG (some 38) 36 false (.mv (.t 3)),iG (some 39) 36 false (.sidx (.t 37) (.t 38)),iG (some 40) 36 false (.bin .gtr (.t 39) (.c (.int .u8 57))),iG (some 41) 31 true (.pick (.t 36) (.c (.bool true)) (.t 40)),iG (some 42) 26 false (.pick (.t 31) (.t 41) (.c (.bool false))),iG (some 43) 23 true (.pick (.t 26) (.c (.bool true)) (.t 42)),iI 44 (.pick (.t 23) (.t 43) (.c (.bool false)))]) (.cond (.t 44) (.seq (.reg [iI 2 (.mv (.c (.bool false)))]) .ret) (.skip))
def c112_4:C:=.seq (.block 1 (.seq (.reg [iI 11 (.mv (.t 0)),iI 12 (.mv (.t 3)),iI 13 (.sidx (.t 11) (.t 12)),iI 14 (.bin .geq (.t 13) (.c (.int .u8 97))),iI 15 (.mv (.t 14)),iG (some 16) 15 true (.mv (.t 0)),iG (some 17) 15 true (.mv (.t 3)),iG (some 18) 15 true (.sidx (.t 16) (.t 17)),iG (some 19) 15 true (.bin .leq (.t 18) (.c (.int .u8 122))),iI 20 (.pick (.t 15) (.t 19) (.c (.bool false))),iI 4 (.mv (.t 20))]) c112_2)) (.reg [iI 9 (.mv (.t 3)),iI 10 (.bin .add (.t 9) (.c (.int .i64 1))),iI 3 (.mv (.t 10))])
def c112_5:C:=.block 0 (.loop (.seq (.seq (.reg [iI 5 (.mv (.t 3)),iI 6 (.mv (.t 0)),iI 7 (.len 1 (.t 6)),iI 8 (.bin .lss (.t 5) (.t 7))]) (.cond (.t 8) (.skip) (.exit 0))) c112_4))
def c112_6:C:=.seq (.reg [iI 45 (.mv (.t 0)),iI 46 (.len 1 (.t 45)),iI 47 (.bin .geq (.t 46) (.c (.int .i64 1))),iI 48 (.mv (.t 47)),iG (some 49) 48 true (.mv (.t 0)),iG (some 50) 48 true (.len 1 (.t 49)),iG (some 51) 48 true (.bin .leq (.t 50) (.c (.int .i64 24))),iI 52 (.pick (.t 48) (.t 51) (.c (.bool false))),iI 2 (.mv (.t 52))]) .ret
def ir112:C:=.seq (.reg [iI 2 (.mv (.c (.bool false)))]) (.seq (.seq (.reg [iI 3 (.mv (.c (.int .i64 0)))]) c112_5) c112_6)
theorem fd112:fd? Tryz.prog 112=some (53,[.slot 2],ir112):=by kernel_rfl
def f112(x0:(List UInt8)):Option (Bool) :=
  ((Lp.run (f112_L1 x0) 0).bind fun r_=>match r_ with | (Sum.inl _)=>(if (decide (1≤((x0.length:Nat):Int)))=true then (some (decide (((x0.length:Nat):Int)≤24))) else (some false)) | (Sum.inr _)=>(some false))
theorem f112_ok{x0:(List UInt8)}{r_:Bool}(H:f112 x0=some r_):Pure Tryz.prog 112 [.str x0] (· = .bool r_):=by
 refine w3 fd112 fun Q hQ=>?_
 simp only[f112] at H
 refine zr ?_
 refine zq (zr ?_)
 refine zd ?_
 refine zU H [] [0,3] (f112_L1c ..) ?_<;>clear H
 rintro x1 x_ st0_ H hst_
 rw[f112_L1c] at hst_
 simp only[f112_L1] at H
 subst hst_
 refine zq (zr ?_)
 refine ic H ?_ ?_<;>clear H<;>intro H
 ·refine zk (zm (zb (zr ?_)))
  refine ib H ?_<;>clear H<;>intro x2 H
  refine zs ?_
  refine ig H ?_ ?_<;>clear H<;>intro H
  ·refine zs ?_
   refine ib H ?_<;>clear H<;>intro x3 H
   refine zs ?_
   refine zr ?_
   refine ig H ?_ ?_<;>clear H<;>intro H
   ·refine zs ?_
    refine ig H ?_ ?_<;>clear H<;>intro H
    ·refine zs ?_
     refine za (zr ?_)
     refine zt (zp (loopQ.ret H ?_))<;>clear H<;>intro H
     try dsimp only at H
     cases H
     exact zh (zv (zf hQ))
    ·refine zs ?_
     refine ib H ?_<;>clear H<;>intro x4 H
     refine zs ?_
     refine ig H ?_ ?_<;>clear H<;>intro H
     ·refine zs ?_
      refine ib H ?_<;>clear H<;>intro x5 H
      refine zs ?_
      refine ig H ?_ ?_<;>clear H<;>intro H
      ·refine zs ?_
       refine za (zr ?_)
       refine zt (zp (loopQ.ret H ?_))<;>clear H<;>intro H
       try dsimp only at H
       cases H
       exact zh (zv (zf hQ))
      ·refine zs ?_
       refine ib H ?_<;>clear H<;>intro x6 H
       refine zs ?_
       refine ic H ?_ ?_<;>clear H<;>intro H
       ·refine zr ?_
        refine zt (zp (loopQ.ret H ?_))<;>clear H<;>intro H
        try dsimp only at H
        cases H
        exact zh (zv (zf hQ))
       ·refine zk (zo (ze ?_))
        exact zu H [] [0,3] (f112_L1c ..)
     ·refine zs ?_
      refine zc (zk (zo (ze ?_)))
      exact zu H [] [0,3] (f112_L1c ..)
   ·refine zs ?_
    refine zc (zk (zo (ze ?_)))
    exact zu H [] [0,3] (f112_L1c ..)
  ·refine zs ?_
   refine zr ?_
   refine ig H ?_ ?_<;>clear H<;>intro H
   ·refine zs ?_
    refine za (zr ?_)
    refine zt (zp (loopQ.ret H ?_))<;>clear H<;>intro H
    try dsimp only at H
    cases H
    exact zh (zv (zf hQ))
   ·refine zs ?_
    refine ib H ?_<;>clear H<;>intro x7 H
    refine zs ?_
    refine ig H ?_ ?_<;>clear H<;>intro H
    ·refine zs ?_
     refine ib H ?_<;>clear H<;>intro x8 H
     refine zs ?_
     refine ig H ?_ ?_<;>clear H<;>intro H
     ·refine zs ?_
      refine za (zr ?_)
      refine zt (zp (loopQ.ret H ?_))<;>clear H<;>intro H
      try dsimp only at H
      cases H
      exact zh (zv (zf hQ))
     ·refine zs ?_
      refine ib H ?_<;>clear H<;>intro x9 H
      refine zs ?_
      refine ic H ?_ ?_<;>clear H<;>intro H
      ·refine zr ?_
       refine zt (zp (loopQ.ret H ?_))<;>clear H<;>intro H
       try dsimp only at H
       cases H
       exact zh (zv (zf hQ))
      ·refine zk (zo (ze ?_))
       exact zu H [] [0,3] (f112_L1c ..)
    ·refine zs ?_
     refine zc (zk (zo (ze ?_)))
     exact zu H [] [0,3] (f112_L1c ..)
 ·refine zx (zy (loopQ.exit H ?_))<;>clear H<;>intro H
  try dsimp only at H
  refine zi (zm (zr ?_))
  refine ig H ?_ ?_<;>clear H<;>intro H
  ·refine zs ?_
   cases H
   exact zt (zf hQ)
  ·refine zs ?_
   cases H
   exact zt (zf hQ)
def f168_L1(x0:(List ApiFeature))(x1:Int):Lp (Int) ((Unit)⊕(Int)) where
  body:=fun x2=>(if (decide (x2<((x0.length:Nat):Int)))=true then (at? x0 x2).bind fun x3=>(if (decide (x3.fAttr=x1))=true then (some (.brk (Sum.inr x2))) else (some (.next (IntKind.i64.wrap (x2 + 1))))) else (some (.brk (Sum.inl ()))))
  cst:=fun x2=>⟨put (put (put (fun _=>.junk) 5 (.int .i64 x2)) 1 (.int .i64 x1)) 0 (.sl 10 false (x0.map eApiFeature)),[]⟩
theorem f168_L1c(x0:(List ApiFeature))(x1:Int)(x2:Int):(f168_L1 x0 x1).cst x2=⟨put (put (put (fun _=>.junk) 5 (.int .i64 x2)) 1 (.int .i64 x1)) 0 (.sl 10 false (x0.map eApiFeature)),[]⟩:=rfl
def c168_3:C:=.seq (.block 1 (.seq (.reg [iI 12 (.mv (.t 0)),iI 13 (.mv (.t 5)),iI 14 (.iaddr 10 (.t 12) (.t 13)),iI 15 (.faddr 0 (.t 14)),iI 16 (.load 0 (.t 15)),iI 17 (.mv (.t 1)),iI 18 (.bin .eql (.t 16) (.t 17))]) (.cond (.t 18) (.seq (.reg [iI 19 (.mv (.t 5)),iI 4 (.mv (.t 19))]) .ret) (.skip)))) (.reg [iI 10 (.mv (.t 5)),iI 11 (.bin .add (.t 10) (.c (.int .i64 1))),iI 5 (.mv (.t 11))])
def c168_4:C:=.block 0 (.loop (.seq (.seq (.reg [iI 6 (.mv (.t 5)),iI 7 (.mv (.t 0)),iI 8 (.len 0 (.t 7)),iI 9 (.bin .lss (.t 6) (.t 8))]) (.cond (.t 9) (.skip) (.exit 0))) c168_3))
def ir168:C:=.seq (.reg [iI 4 (.mv (.c (.int .i64 0)))]) (.seq (.seq (.reg [iI 5 (.mv (.c (.int .i64 0)))]) c168_4) (.seq (.reg [iI 4 (.mv (.c (.int .i64 (-1))))]) .ret))
theorem fd168:fd? Tryz.prog 168=some (20,[.slot 4],ir168):=by kernel_rfl
def f168(x0:(List ApiFeature))(x1:Int):Option (Int) :=
  ((Lp.run (f168_L1 x0 x1) 0).bind fun r_=>match r_ with | (Sum.inl _)=>(some (-1)) | (Sum.inr x2)=>(some x2))
theorem f168_ok{x0:(List ApiFeature)}{x1:Int}{r_:Int}(H:f168 x0 x1=some r_):Pure Tryz.prog 168 [.sl 10 false (x0.map eApiFeature),.int .i64 x1] (· = .int .i64 r_):=by
 refine w3 fd168 fun Q hQ=>?_
 simp only[f168] at H
 refine zr ?_
 refine zq (zr ?_)
 refine zd ?_
 refine zU H [] [0,1,5] (f168_L1c ..) ?_<;>clear H
 rintro x2 x_ st0_ H hst_
 rw[f168_L1c] at hst_
 simp only[f168_L1] at H
 subst hst_
 refine zq (zr ?_)
 refine ic H ?_ ?_<;>clear H<;>intro H
 ·refine zk (zm (zb (zr ?_)))
  refine ia eApiFeature H ?_<;>clear H<;>intro x3 H
  refine zE5 ?_
  refine ic H ?_ ?_<;>clear H<;>intro H
  ·refine zr ?_
   refine zt (zp (loopQ.ret H ?_))<;>clear H<;>intro H
   try dsimp only at H
   cases H
   exact zh (zv (zf hQ))
  ·refine zk (zo (ze ?_))
   exact zu H [] [0,1,5] (f168_L1c ..)
 ·refine zx (zy (loopQ.exit H ?_))<;>clear H<;>intro H
  try dsimp only at H
  refine zi (zm (zr ?_))
  cases H
  exact zt (zf hQ)
def f169_L1(x0:(List ApiFeature))(x1:Int):Lp (Int) ((Unit)⊕(Unit)) where
  body:=fun x2=>(if (decide (x2<((x0.length:Nat):Int)))=true then (at? x0 x2).bind fun x3=>(if (decide (x3.fCoarse=x1))=true then (some (.brk (Sum.inr ()))) else (at? x0 x2).bind fun x4=>(if (decide (x4.fBits=16))=true then (at? x0 x2).bind fun x5=>(if (decide (x5.fFine=x1))=true then (some (.brk (Sum.inr ()))) else (some (.next (IntKind.i64.wrap (x2 + 1))))) else (some (.next (IntKind.i64.wrap (x2 + 1)))))) else (some (.brk (Sum.inl ()))))
  cst:=fun x2=>⟨put (put (put (fun _=>.junk) 5 (.int .i64 x2)) 1 (.int .i64 x1)) 0 (.sl 10 false (x0.map eApiFeature)),[]⟩
theorem f169_L1c(x0:(List ApiFeature))(x1:Int)(x2:Int):(f169_L1 x0 x1).cst x2=⟨put (put (put (fun _=>.junk) 5 (.int .i64 x2)) 1 (.int .i64 x1)) 0 (.sl 10 false (x0.map eApiFeature)),[]⟩:=rfl
def c169_3:C:=.seq (.block 1 (.seq (.reg [iI 12 (.mv (.t 0)),iI 13 (.mv (.t 5)),iI 14 (.iaddr 10 (.t 12) (.t 13)),iI 15 (.faddr 2 (.t 14)),iI 16 (.load 0 (.t 15)),iI 17 (.mv (.t 1)),iI 18 (.bin .eql (.t 16) (.t 17)),iI 19 (.mv (.t 18)),iG (some 20) 19 false (.mv (.t 0)),iG (some 21) 19 false (.mv (.t 5)),iG (some 22) 19 false (.iaddr 10 (.t 20) (.t 21)),iG (some 23) 19 false (.faddr 1 (.t 22)),iG (some 24) 19 false (.load 0 (.t 23)),iG (some 25) 19 false (.bin .eql (.t 24) (.c (.int .i64 16))),iG (some 26) 19 false (.mv (.t 25)),iG (some 27) 26 true (.mv (.t 0)),iG (some 28) 26 true (.mv (.t 5)),iG (some 29) 26 true (.iaddr 10 (.t 27) (.t 28)),iG (some 30) 26 true (.faddr 3 (.t 29)),iG (some 31) 26 true (.load 0 (.t 30)),iG (some 32) 26 true (.mv (.t 1)),iG (some 33) 26 true (.bin .eql (.t 31) (.t 32)),iG (some 34) 19 false (.pick (.t 26) (.t 33) (.c (.bool false))),iI 35 (.pick (.t 19) (.c (.bool true)) (.t 34))]) (.cond (.t 35) (.seq (.reg [iI 4 (.mv (.c (.bool true)))]) .ret) (.skip)))) (.reg [iI 10 (.mv (.t 5)),iI 11 (.bin .add (.t 10) (.c (.int .i64 1))),iI 5 (.mv (.t 11))])
def c169_4:C:=.block 0 (.loop (.seq (.seq (.reg [iI 6 (.mv (.t 5)),iI 7 (.mv (.t 0)),iI 8 (.len 0 (.t 7)),iI 9 (.bin .lss (.t 6) (.t 8))]) (.cond (.t 9) (.skip) (.exit 0))) c169_3))
def ir169:C:=.seq (.reg [iI 4 (.mv (.c (.bool false)))]) (.seq (.seq (.reg [iI 5 (.mv (.c (.int .i64 0)))]) c169_4) (.seq (.reg [iI 4 (.mv (.c (.bool false)))]) .ret))
theorem fd169:fd? Tryz.prog 169=some (36,[.slot 4],ir169):=by kernel_rfl
def f169(x0:(List ApiFeature))(x1:Int):Option (Bool) :=
  ((Lp.run (f169_L1 x0 x1) 0).bind fun r_=>match r_ with | (Sum.inl _)=>(some false) | (Sum.inr _)=>(some true))
theorem f169_ok{x0:(List ApiFeature)}{x1:Int}{r_:Bool}(H:f169 x0 x1=some r_):Pure Tryz.prog 169 [.sl 10 false (x0.map eApiFeature),.int .i64 x1] (· = .bool r_):=by
 refine w3 fd169 fun Q hQ=>?_
 simp only[f169] at H
 refine zr ?_
 refine zq (zr ?_)
 refine zd ?_
 refine zU H [] [0,1,5] (f169_L1c ..) ?_<;>clear H
 rintro x2 x_ st0_ H hst_
 rw[f169_L1c] at hst_
 simp only[f169_L1] at H
 subst hst_
 refine zq (zr ?_)
 refine ic H ?_ ?_<;>clear H<;>intro H
 ·refine zk (zm (zb (zr ?_)))
  refine ia eApiFeature H ?_<;>clear H<;>intro x3 H
  refine zE5 ?_
  refine ig H ?_ ?_<;>clear H<;>intro H
  ·refine zs ?_
   refine za (zr ?_)
   refine zt (zp (loopQ.ret H ?_))<;>clear H<;>intro H
   try dsimp only at H
   cases H
   exact zh (zv (zf hQ))
  ·refine zs ?_
   refine ia eApiFeature H ?_<;>clear H<;>intro x4 H
   refine zE5 ?_
   refine ig H ?_ ?_<;>clear H<;>intro H
   ·refine zs ?_
    refine ia eApiFeature H ?_<;>clear H<;>intro x5 H
    refine zE5 ?_
    refine ic H ?_ ?_<;>clear H<;>intro H
    ·refine zr ?_
     refine zt (zp (loopQ.ret H ?_))<;>clear H<;>intro H
     try dsimp only at H
     cases H
     exact zh (zv (zf hQ))
    ·refine zk (zo (ze ?_))
     exact zu H [] [0,1,5] (f169_L1c ..)
   ·refine zs ?_
    refine zc (zk (zo (ze ?_)))
    exact zu H [] [0,1,5] (f169_L1c ..)
 ·refine zx (zy (loopQ.exit H ?_))<;>clear H<;>intro H
  try dsimp only at H
  refine zi (zm (zr ?_))
  cases H
  exact zt (zf hQ)
def c234_2:C:=.seq (.seq (.reg [iI 3 (.mv (.t 0)),iI 4 (.bin .eql (.t 3) (.c (.int .i64 8)))]) (.cond (.t 4) (.seq (.reg [iI 2 (.mv (.c (.int .i64 255)))]) .ret) (.skip))) (.seq (.reg [iI 2 (.mv (.c (.int .i64 65535)))]) .ret)
def ir234:C:=.seq (.reg [iI 2 (.mv (.c (.int .i64 0)))]) c234_2
theorem fd234:fd? Tryz.prog 234=some (5,[.slot 2],ir234):=by kernel_rfl
def f234(x0:Int):Option (Int) :=
  (if (decide (x0=8))=true then (some 255) else (some 65535))
theorem f234_ok{x0:Int}{r_:Int}(H:f234 x0=some r_):Pure Tryz.prog 234 [.int .i64 x0] (· = .int .i64 r_):=by
 refine w3 fd234 fun Q hQ=>?_
 simp only[f234] at H
 refine zr ?_
 refine zq (zr ?_)
 refine ic H ?_ ?_<;>clear H<;>intro H
 ·refine zr ?_
  cases H
  exact zt (zv (zf hQ))
 ·refine zk (zm (zr ?_))
  cases H
  exact zt (zf hQ)
def f235_L2(x0:Int)(x1:(List ApiSlot)):Lp (Int) ((Unit)⊕(Unit)) where
  body:=fun x2=>(if (decide (x2<x0))=true then (at? x1 x2).bind fun x3=>(at? x1 x0).bind fun x4=>(if (x3.fName == x4.fName)=true then (some (.brk (Sum.inr ()))) else (some (.next (IntKind.i64.wrap (x2 + 1))))) else (some (.brk (Sum.inl ()))))
  cst:=fun x2=>⟨put (put (put (fun _=>.junk) 4 (.int .i64 x2)) 3 (.int .i64 x0)) 0 (.sl 3 false (x1.map eApiSlot)),[]⟩
theorem f235_L2c(x0:Int)(x1:(List ApiSlot))(x2:Int):(f235_L2 x0 x1).cst x2=⟨put (put (put (fun _=>.junk) 4 (.int .i64 x2)) 3 (.int .i64 x0)) 0 (.sl 3 false (x1.map eApiSlot)),[]⟩:=rfl
def f235_L1(x0:(List ApiSlot)):Lp (Int) ((Unit)⊕(Int)) where
  body:=fun x1=>(if (decide (x1<((x0.length:Nat):Int)))=true then (at? x0 x1).bind fun x2=>(f112 x2.fName).bind fun x3=>(if (!x3)=true then (some (.brk (Sum.inr 8))) else ((Lp.run (f235_L2 x1 x0) 0).bind fun r_=>match r_ with | (Sum.inl _)=>(at? x0 x1).bind fun x4=>(f167 x4.fFrom).bind fun x5=>(if (!x5)=true then (some (.brk (Sum.inr 2))) else (at? x0 x1).bind fun x6=>(f167 x6.fTo).bind fun x7=>(if (!x7)=true then (some (.brk (Sum.inr 2))) else (at? x0 x1).bind fun x8=>(at? x0 x1).bind fun x9=>(if (decide (x9.fTo<x8.fFrom))=true then (some (.brk (Sum.inr 2))) else (if (decide (0<x1))=true then (at? x0 x1).bind fun xa=>(at? x0 (IntKind.i64.wrap (x1 - 1))).bind fun xb=>(if (decide (xa.fFrom≤xb.fTo))=true then (some (.brk (Sum.inr 9))) else (some (.next (IntKind.i64.wrap (x1 + 1))))) else (some (.next (IntKind.i64.wrap (x1 + 1)))))))) | (Sum.inr _)=>(some (.brk (Sum.inr 7))))) else (some (.brk (Sum.inl ()))))
  cst:=fun x1=>⟨put (put (fun _=>.junk) 3 (.int .i64 x1)) 0 (.sl 3 false (x0.map eApiSlot)),[]⟩
theorem f235_L1c(x0:(List ApiSlot))(x1:Int):(f235_L1 x0).cst x1=⟨put (put (fun _=>.junk) 3 (.int .i64 x1)) 0 (.sl 3 false (x0.map eApiSlot)),[]⟩:=rfl
def c235_6:C:=.seq (.block 3 (.seq (.reg [iI 26 (.mv (.t 0)),iI 27 (.mv (.t 4)),iI 28 (.iaddr 3 (.t 26) (.t 27)),iI 29 (.faddr 0 (.t 28)),iI 30 (.load 0 (.t 29)),iI 31 (.mv (.t 0)),iI 32 (.mv (.t 3)),iI 33 (.iaddr 3 (.t 31) (.t 32)),iI 34 (.faddr 0 (.t 33)),iI 35 (.load 0 (.t 34)),iI 36 (.bin .eql (.t 30) (.t 35))]) (.cond (.t 36) (.seq (.reg [iI 2 (.mv (.c (.int .i64 7)))]) .ret) (.skip)))) (.reg [iI 24 (.mv (.t 4)),iI 25 (.bin .add (.t 24) (.c (.int .i64 1))),iI 4 (.mv (.t 25))])
def c235_10:C:=.seq (.reg [iI 66 (.mv (.t 3)),iI 67 (.bin .gtr (.t 66) (.c (.int .i64 0))),iI 68 (.mv (.t 67)),iG (some 69) 68 true (.mv (.t 0)),iG (some 70) 68 true (.mv (.t 3)),iG (some 71) 68 true (.iaddr 3 (.t 69) (.t 70)),iG (some 72) 68 true (.faddr 1 (.t 71)),iG (some 73) 68 true (.load 0 (.t 72)),iG (some 74) 68 true (.mv (.t 0)),iG (some 75) 68 true (.mv (.t 3)),iG (some 76) 68 true (.bin .sub (.t 75) (.c (.int .i64 1))),iG (some 77) 68 true (.iaddr 3 (.t 74) (.t 76)),iG (some 78) 68 true (.faddr 2 (.t 77)),iG (some 79) 68 true (.load 0 (.t 78)),iG (some 80) 68 true (.bin .leq (.t 73) (.t 79)),iI 81 (.pick (.t 68) (.t 80) (.c (.bool false)))]) (.cond (.t 81) (.seq (.reg [iI 2 (.mv (.c (.int .i64 9)))]) .ret) (.skip))
def c235_11:C:=.seq (.seq (.reg [iI 37 (.mv (.t 0)),iI 38 (.mv (.t 3)),iI 39 (.iaddr 3 (.t 37) (.t 38)),iI 40 (.faddr 1 (.t 39)),iI 41 (.load 0 (.t 40)),iI 42 (.call (.c (.fn 167 [])) [(.t 41)]),iI 43 (.un .not (.t 42)),iI 44 (.mv (.t 43)),iG (some 45) 44 false (.mv (.t 0)),iG (some 46) 44 false (.mv (.t 3)),iG (some 47) 44 false (.iaddr 3 (.t 45) (.t 46)),iG (some 48) 44 false (.faddr 2 (.t 47)),iG (some 49) 44 false (.load 0 (.t 48)),iG (some 50) 44 false (.call (.c (.fn 167 [])) [(.t 49)]),iG (some 51) 44 false (.un .not (.t 50)),iI 52 (.pick (.t 44) (.c (.bool true)) (.t 51)),iI 53 (.mv (.t 52)),iG (some 54) 53 false (.mv (.t 0)),iG (some 55) 53 false (.mv (.t 3)),iG (some 56) 53 false (.iaddr 3 (.t 54) (.t 55)),iG (some 57) 53 false (.faddr 1 (.t 56)),iG (some 58) 53 false (.load 0 (.t 57)),iG (some 59) 53 false (.mv (.t 0)),iG (some 60) 53 false (.mv (.t 3)),iG (some 61) 53 false (.iaddr 3 (.t 59) (.t 60)),iG (some 62) 53 false (.faddr 2 (.t 61)),iG (some 63) 53 false (.load 0 (.t 62)),iG (some 64) 53 false (.bin .gtr (.t 58) (.t 63)),iI 65 (.pick (.t 53) (.c (.bool true)) (.t 64))]) (.cond (.t 65) (.seq (.reg [iI 2 (.mv (.c (.int .i64 2)))]) .ret) (.skip))) c235_10
def c235_12:C:=.seq (.seq (.reg [iI 4 (.mv (.c (.int .i64 0)))]) (.block 2 (.loop (.seq (.seq (.reg [iI 21 (.mv (.t 4)),iI 22 (.mv (.t 3)),iI 23 (.bin .lss (.t 21) (.t 22))]) (.cond (.t 23) (.skip) (.exit 2))) c235_6)))) c235_11
def c235_14:C:=.seq (.block 1 (.seq (.seq (.reg [iI 14 (.mv (.t 0)),iI 15 (.mv (.t 3)),iI 16 (.iaddr 3 (.t 14) (.t 15)),iI 17 (.faddr 0 (.t 16)),iI 18 (.load 0 (.t 17)),iI 19 (.call (.c (.fn 112 [])) [(.t 18)]),iI 20 (.un .not (.t 19))]) (.cond (.t 20) (.seq (.reg [iI 2 (.mv (.c (.int .i64 8)))]) .ret) (.skip))) c235_12)) (.reg [iI 12 (.mv (.t 3)),iI 13 (.bin .add (.t 12) (.c (.int .i64 1))),iI 3 (.mv (.t 13))])
def c235_15:C:=.block 0 (.loop (.seq (.seq (.reg [iI 8 (.mv (.t 3)),iI 9 (.mv (.t 0)),iI 10 (.len 0 (.t 9)),iI 11 (.bin .lss (.t 8) (.t 10))]) (.cond (.t 11) (.skip) (.exit 0))) c235_14))
def c235_18:C:=.seq (.seq (.reg [iI 5 (.mv (.t 0)),iI 6 (.len 0 (.t 5)),iI 7 (.bin .gtr (.t 6) (.c (.int .i64 16)))]) (.cond (.t 7) (.seq (.reg [iI 2 (.mv (.c (.int .i64 5)))]) .ret) (.skip))) (.seq (.seq (.reg [iI 3 (.mv (.c (.int .i64 0)))]) c235_15) (.seq (.reg [iI 2 (.mv (.c (.int .i64 0)))]) .ret))
def ir235:C:=.seq (.reg [iI 2 (.mv (.c (.int .i64 0)))]) c235_18
theorem fd235:fd? Tryz.prog 235=some (82,[.slot 2],ir235):=by kernel_rfl
def f235(x0:(List ApiSlot)):Option (Int) :=
  (if (decide (16<((x0.length:Nat):Int)))=true then (some 5) else ((Lp.run (f235_L1 x0) 0).bind fun r_=>match r_ with | (Sum.inl _)=>(some 0) | (Sum.inr x1)=>(some x1)))
theorem f235_ok{x0:(List ApiSlot)}{r_:Int}(H:f235 x0=some r_):Pure Tryz.prog 235 [.sl 3 false (x0.map eApiSlot)] (· = .int .i64 r_):=by
 refine w3 fd235 fun Q hQ=>?_
 simp only[f235] at H
 refine zr ?_
 refine zq (zr ?_)
 refine ic H ?_ ?_<;>clear H<;>intro H
 ·refine zr ?_
  cases H
  exact zt (zv (zf hQ))
 ·refine zk (zm (zq (zr ?_)))
  refine zd ?_
  refine zU H [] [0,3] (f235_L1c ..) ?_<;>clear H
  rintro x1 x_ st0_ H hst_
  rw[f235_L1c] at hst_
  simp only[f235_L1] at H
  subst hst_
  refine zq (zr ?_)
  refine ic H ?_ ?_<;>clear H<;>intro H
  ·refine zk (zm (zb (zq (zr ?_))))
   refine ia eApiSlot H ?_<;>clear H<;>intro x2 H
   refine zE4 ?_
   refine pu H f112_ok ?_<;>clear H<;>intro x3 H
   refine zE0 ?_
   refine ic H ?_ ?_<;>clear H<;>intro H
   ·refine zr ?_
    refine zt (zv (zp (loopQ.ret H ?_)))<;>clear H<;>intro H
    try dsimp only at H
    cases H
    exact zh (zv (zf hQ))
   ·refine zk (zm (zq (zr ?_)))
    refine zd ?_
    refine zU H [] [0,3,4] (f235_L2c ..) ?_<;>clear H
    rintro x4 x_ st0_ H hst_
    rw[f235_L2c] at hst_
    simp only[f235_L2] at H
    subst hst_
    refine zq (zr ?_)
    refine ic H ?_ ?_<;>clear H<;>intro H
    ·refine zk (zm (zb (zr ?_)))
     refine ia eApiSlot H ?_<;>clear H<;>intro x5 H
     refine zE4 ?_
     refine ia eApiSlot H ?_<;>clear H<;>intro x6 H
     refine zE4 ?_
     refine ic H ?_ ?_<;>clear H<;>intro H
     ·refine zr ?_
      refine zt (zp (loopQ.ret H ?_))<;>clear H<;>intro H
      try dsimp only at H
      refine zh (zv (zp (loopQ.ret H ?_)))<;>clear H<;>intro H
      try dsimp only at H
      cases H
      exact zh (zv (zf hQ))
     ·refine zk (zo (ze ?_))
      exact zu H [] [0,3,4] (f235_L2c ..)
    ·refine zx (zy (loopQ.exit H ?_))<;>clear H<;>intro H
     try dsimp only at H
     refine zi (zm (zq (zr ?_)))
     refine ia eApiSlot H ?_<;>clear H<;>intro x7 H
     refine zE4 ?_
     refine pu H f167_ok ?_<;>clear H<;>intro x8 H
     refine zE0 ?_
     refine ig H ?_ ?_<;>clear H<;>intro H
     ·refine zs ?_
      refine za (zr ?_)
      refine zt (zv (zp (loopQ.ret H ?_)))<;>clear H<;>intro H
      try dsimp only at H
      cases H
      exact zh (zv (zf hQ))
     ·refine zs ?_
      refine ia eApiSlot H ?_<;>clear H<;>intro x9 H
      refine zE4 ?_
      refine pu H f167_ok ?_<;>clear H<;>intro xa H
      refine zE0 ?_
      refine ig H ?_ ?_<;>clear H<;>intro H
      ·refine zs ?_
       refine za (zr ?_)
       refine zt (zv (zp (loopQ.ret H ?_)))<;>clear H<;>intro H
       try dsimp only at H
       cases H
       exact zh (zv (zf hQ))
      ·refine zs ?_
       refine ia eApiSlot H ?_<;>clear H<;>intro xb H
       refine zE4 ?_
       refine ia eApiSlot H ?_<;>clear H<;>intro xc H
       refine zE4 ?_
       refine ic H ?_ ?_<;>clear H<;>intro H
       ·refine zr ?_
        refine zt (zv (zp (loopQ.ret H ?_)))<;>clear H<;>intro H
        try dsimp only at H
        cases H
        exact zh (zv (zf hQ))
       ·refine zk (zm (zr ?_))
        refine ig H ?_ ?_<;>clear H<;>intro H
        ·refine zs ?_
         refine ia eApiSlot H ?_<;>clear H<;>intro xd H
         refine zE4 ?_
         refine ia eApiSlot H ?_<;>clear H<;>intro xe H
         refine zE4 ?_
         refine ic H ?_ ?_<;>clear H<;>intro H
         ·refine zr ?_
          refine zt (zp (loopQ.ret H ?_))<;>clear H<;>intro H
          try dsimp only at H
          cases H
          exact zh (zv (zf hQ))
         ·refine zk (zo (ze ?_))
          exact zu H [] [0,3] (f235_L1c ..)
        ·refine zs ?_
         refine zc (zk (zo (ze ?_)))
         exact zu H [] [0,3] (f235_L1c ..)
  ·refine zx (zy (loopQ.exit H ?_))<;>clear H<;>intro H
   try dsimp only at H
   refine zi (zm (zr ?_))
   cases H
   exact zt (zf hQ)
def c216_2:C:=.seq (.seq (.regq [iI 3 (.faddr 5 (.t 1)),iI 4 (.load 0 (.t 3)),iI 5 (.call (.c (.fn 167 [])) [(.t 4)]),iI 6 (.un .not (.t 5)),iI 7 (.mv (.t 6)),iG (some 8) 7 false (.faddr 6 (.t 1)),iG (some 9) 7 false (.load 0 (.t 8)),iG (some 10) 7 false (.bin .lss (.t 9) (.c (.int .i64 0))),iI 11 (.pick (.t 7) (.c (.bool true)) (.t 10)),iI 12 (.mv (.t 11)),iG (some 13) 12 false (.faddr 6 (.t 1)),iG (some 14) 12 false (.load 0 (.t 13)),iG (some 15) 12 false (.faddr 7 (.t 1)),iG (some 16) 12 false (.load 0 (.t 15)),iG (some 17) 12 false (.bin .gtr (.t 14) (.t 16)),iI 18 (.pick (.t 12) (.c (.bool true)) (.t 17)),iI 19 (.mv (.t 18)),iG (some 20) 19 false (.faddr 7 (.t 1)),iG (some 21) 19 false (.load 0 (.t 20)),iG (some 22) 19 false (.faddr 1 (.t 1)),iG (some 23) 19 false (.load 0 (.t 22)),iG (some 24) 19 false (.call (.c (.fn 234 [])) [(.t 23)]),iG (some 25) 19 false (.bin .gtr (.t 21) (.t 24)),iI 26 (.pick (.t 19) (.c (.bool true)) (.t 25))]) (.cond (.t 26) (.seq (.reg [iI 2 (.mv (.c (.int .i64 2)))]) .ret) (.skip))) (.seq (.reg [iI 27 (.faddr 9 (.t 1)),iI 28 (.load 0 (.t 27)),iI 29 (.call (.c (.fn 235 [])) [(.t 28)]),iI 2 (.mv (.t 29))]) .ret)
def ir216:C:=.seq (.reg [iI 1 (.box (.t 0)),iI 2 (.mv (.c (.int .i64 0)))]) c216_2
theorem fd216:fd? Tryz.prog 216=some (30,[.slot 2],ir216):=by kernel_rfl
def f216(x0:ApiFeature):Option (Int) :=
  (f167 x0.fHome).bind fun x1=>(if (!x1)=true then (some 2) else (if (decide (x0.fLow<0))=true then (some 2) else (if (decide (x0.fHigh<x0.fLow))=true then (some 2) else (f234 x0.fBits).bind fun x2=>(if (decide (x2<x0.fHigh))=true then (some 2) else (f235 x0.fWheel).bind fun x3=>(some x3)))))
theorem f216_ok{x0:ApiFeature}{r_:Int}(H:f216 x0=some r_):Pure Tryz.prog 216 [.agg [.int .i64 x0.fAttr,.int .i64 x0.fBits,.int .i64 x0.fCoarse,.int .i64 x0.fFine,.int .i64 x0.fCurve,.int .i64 x0.fHome,.int .i64 x0.fLow,.int .i64 x0.fHigh,.bool x0.fSnap,.sl 3 false (x0.fWheel.map eApiSlot)]] (· = .int .i64 r_):=by
 refine w3 fd216 fun Q hQ=>?_
 simp only[f216] at H
 refine zr ?_
 refine zq ?_
 refine AW.rqseq ?_
 refine zs ?_
 refine evTs_pure hFnq H (fun _ h=>f167_ok h) (by rfl) (by rfl) (by rfl) (by rfl) (fun _=>rfl) ?_<;>clear H<;>intro x1 H
 refine zE0 ?_
 refine ig H ?_ ?_<;>clear H<;>intro H
 ·refine zs ?_
  refine za (zr ?_)
  cases H
  exact zt (zv (zf hQ))
 ·refine zs ?_
  refine ig H ?_ ?_<;>clear H<;>intro H
  ·refine zs ?_
   refine za (zr ?_)
   cases H
   exact zt (zv (zf hQ))
  ·refine zs ?_
   refine ig H ?_ ?_<;>clear H<;>intro H
   ·refine zs ?_
    refine za (zr ?_)
    cases H
    exact zt (zv (zf hQ))
   ·refine zs ?_
    refine evTs_pure hFnq H (fun _ h=>f234_ok h) (by rfl) (by rfl) (by rfl) (by rfl) (fun _=>rfl) ?_<;>clear H<;>intro x2 H
    refine zE0 ?_
    refine ic H ?_ ?_<;>clear H<;>intro H
    ·refine zr ?_
     cases H
     exact zt (zv (zf hQ))
    ·refine zk (zm (zr ?_))
     refine pu H f235_ok ?_<;>clear H<;>intro x3 H
     refine zE0 ?_
     cases H
     exact zt (zf hQ)
def c170_2:C:=.seq (.seq (.reg [iI 5 (.faddr 4 (.t 2)),iI 6 (.load 0 (.t 5)),iI 7 (.bin .lss (.t 6) (.c (.int .i64 0))),iI 8 (.mv (.t 7)),iG (some 9) 8 false (.faddr 4 (.t 2)),iG (some 10) 8 false (.load 0 (.t 9)),iG (some 11) 8 false (.mv (.t 1)),iG (some 12) 8 false (.bin .gtr (.t 10) (.t 11)),iI 13 (.pick (.t 8) (.c (.bool true)) (.t 12))]) (.cond (.t 13) (.seq (.reg [iI 4 (.mv (.c (.int .i64 6)))]) .ret) (.skip))) (.seq (.reg [iI 14 (.load 10 (.t 2)),iI 15 (.call (.c (.fn 216 [])) [(.t 14)]),iI 4 (.mv (.t 15))]) .ret)
def ir170:C:=.seq (.reg [iI 2 (.box (.t 0)),iI 4 (.mv (.c (.int .i64 0)))]) c170_2
theorem fd170:fd? Tryz.prog 170=some (16,[.slot 4],ir170):=by kernel_rfl
def f170(x0:ApiFeature)(x1:Int):Option (Int) :=
  (if (decide (x0.fCurve<0))=true then (some 6) else (if (decide (x1<x0.fCurve))=true then (some 6) else (f216 x0).bind fun x2=>(some x2)))
theorem f170_ok{x0:ApiFeature}{x1:Int}{r_:Int}(H:f170 x0 x1=some r_):Pure Tryz.prog 170 [.agg [.int .i64 x0.fAttr,.int .i64 x0.fBits,.int .i64 x0.fCoarse,.int .i64 x0.fFine,.int .i64 x0.fCurve,.int .i64 x0.fHome,.int .i64 x0.fLow,.int .i64 x0.fHigh,.bool x0.fSnap,.sl 3 false (x0.fWheel.map eApiSlot)],.int .i64 x1] (· = .int .i64 r_):=by
 refine w3 fd170 fun Q hQ=>?_
 simp only[f170] at H
 refine zr ?_
 refine zq (zr ?_)
 refine ig H ?_ ?_<;>clear H<;>intro H
 ·refine zs ?_
  refine za (zr ?_)
  cases H
  exact zt (zv (zf hQ))
 ·refine zs ?_
  refine ic H ?_ ?_<;>clear H<;>intro H
  ·refine zr ?_
   cases H
   exact zt (zv (zf hQ))
  ·refine zk (zm (zr ?_))
   refine pu H f216_ok ?_<;>clear H<;>intro x2 H
   refine zE0 ?_
   cases H
   exact zt (zf hQ)
def f113_J4(x0:(List ApiFeature))(x1:Int)(x2:Int)(x3:Int)(x4:Int)(x5:Int)(x6:Int)(x7:Int)(x8:Int)(x9:Bool)(xa:(List ApiSlot))(xb:Int):Jn (Unit) (Int) where
  run:=fun _=>(f169 x0 x1).bind fun xc=>(if xc=true then (some 11) else (if (decide (x2=16))=true then (f169 x0 x3).bind fun xd=>(if xd=true then (some 11) else (if (decide (x3=x1))=true then (some 11) else (f170 (ApiFeature.mk x4 x2 x1 x3 x5 x6 x7 x8 x9 xa) xb).bind fun xe=>(some xe))) else (f170 (ApiFeature.mk x4 x2 x1 x3 x5 x6 x7 x8 x9 xa) xb).bind fun xf=>(some xf)))
  cst:=fun _=>⟨put (put (put (fun _=>.junk) 8 (.sl 10 false (x0.map eApiFeature))) 7 (.ptr 0 0)) 2 (.int .i64 xb),[.cel [.int .i64 x4,.int .i64 x2,.int .i64 x1,.int .i64 x3,.int .i64 x5,.int .i64 x6,.int .i64 x7,.int .i64 x8,.bool x9,.sl 3 false (xa.map eApiSlot)]]⟩
theorem f113_J4c(x0:(List ApiFeature))(x1:Int)(x2:Int)(x3:Int)(x4:Int)(x5:Int)(x6:Int)(x7:Int)(x8:Int)(x9:Bool)(xa:(List ApiSlot))(xb:Int)(x_:Unit):(f113_J4 x0 x1 x2 x3 x4 x5 x6 x7 x8 x9 xa xb).cst x_=⟨put (put (put (fun _=>.junk) 8 (.sl 10 false (x0.map eApiFeature))) 7 (.ptr 0 0)) 2 (.int .i64 xb),[.cel [.int .i64 x4,.int .i64 x2,.int .i64 x1,.int .i64 x3,.int .i64 x5,.int .i64 x6,.int .i64 x7,.int .i64 x8,.bool x9,.sl 3 false (xa.map eApiSlot)]]⟩:=rfl
def f113_J3(x0:Int)(x1:Int)(x2:(List ApiFeature))(x3:Int)(x4:Int)(x5:Int)(x6:Int)(x7:Int)(x8:Int)(x9:Bool)(xa:(List ApiSlot))(xb:Int):Jn (Unit) (Int) where
  run:=fun _=>(if (decide (x0=8))=true then (if (decide (x1≠0))=true then (some 3) else ((f113_J4 x2 x3 x0 x1 x4 x5 x6 x7 x8 x9 xa xb).run ())) else ((f113_J4 x2 x3 x0 x1 x4 x5 x6 x7 x8 x9 xa xb).run ()))
  cst:=fun _=>⟨put (put (put (fun _=>.junk) 8 (.sl 10 false (x2.map eApiFeature))) 7 (.ptr 0 0)) 2 (.int .i64 xb),[.cel [.int .i64 x4,.int .i64 x0,.int .i64 x3,.int .i64 x1,.int .i64 x5,.int .i64 x6,.int .i64 x7,.int .i64 x8,.bool x9,.sl 3 false (xa.map eApiSlot)]]⟩
theorem f113_J3c(x0:Int)(x1:Int)(x2:(List ApiFeature))(x3:Int)(x4:Int)(x5:Int)(x6:Int)(x7:Int)(x8:Int)(x9:Bool)(xa:(List ApiSlot))(xb:Int)(x_:Unit):(f113_J3 x0 x1 x2 x3 x4 x5 x6 x7 x8 x9 xa xb).cst x_=⟨put (put (put (fun _=>.junk) 8 (.sl 10 false (x2.map eApiFeature))) 7 (.ptr 0 0)) 2 (.int .i64 xb),[.cel [.int .i64 x4,.int .i64 x0,.int .i64 x3,.int .i64 x1,.int .i64 x5,.int .i64 x6,.int .i64 x7,.int .i64 x8,.bool x9,.sl 3 false (xa.map eApiSlot)]]⟩:=rfl
def f113_J2(x0:Int)(x1:ApiProfile)(x2:Int)(x3:Int)(x4:(List ApiFeature))(x5:Int)(x6:Int)(x7:Int)(x8:Int)(x9:Int)(xa:Bool)(xb:(List ApiSlot))(xc:Int):Jn (Unit) (Int) where
  run:=fun _=>(if (decide (x0<0))=true then (some 2) else (if (decide (x1.fFootprint≤x0))=true then (some 2) else (if (decide (x2=16))=true then (if (decide (x3<0))=true then (some 2) else (if (decide (x1.fFootprint≤x3))=true then (some 2) else ((f113_J3 x2 x3 x4 x0 x5 x6 x7 x8 x9 xa xb xc).run ()))) else ((f113_J3 x2 x3 x4 x0 x5 x6 x7 x8 x9 xa xb xc).run ()))))
  cst:=fun _=>⟨put (put (put (put (fun _=>.junk) 8 (.sl 10 false (x4.map eApiFeature))) 7 (.ptr 1 0)) 3 (.ptr 0 0)) 2 (.int .i64 xc),[.cel [.str x1.fName,.int .i64 x1.fFootprint,.int .i64 x1.fWatts,.sl 10 false (x1.fFeatures.map eApiFeature)],.cel [.int .i64 x5,.int .i64 x2,.int .i64 x0,.int .i64 x3,.int .i64 x6,.int .i64 x7,.int .i64 x8,.int .i64 x9,.bool xa,.sl 3 false (xb.map eApiSlot)]]⟩
theorem f113_J2c(x0:Int)(x1:ApiProfile)(x2:Int)(x3:Int)(x4:(List ApiFeature))(x5:Int)(x6:Int)(x7:Int)(x8:Int)(x9:Int)(xa:Bool)(xb:(List ApiSlot))(xc:Int)(x_:Unit):(f113_J2 x0 x1 x2 x3 x4 x5 x6 x7 x8 x9 xa xb xc).cst x_=⟨put (put (put (put (fun _=>.junk) 8 (.sl 10 false (x4.map eApiFeature))) 7 (.ptr 1 0)) 3 (.ptr 0 0)) 2 (.int .i64 xc),[.cel [.str x1.fName,.int .i64 x1.fFootprint,.int .i64 x1.fWatts,.sl 10 false (x1.fFeatures.map eApiFeature)],.cel [.int .i64 x5,.int .i64 x2,.int .i64 x0,.int .i64 x3,.int .i64 x6,.int .i64 x7,.int .i64 x8,.int .i64 x9,.bool xa,.sl 3 false (xb.map eApiSlot)]]⟩:=rfl
def f113_J1(x0:ApiProfile)(x1:Int):Jn ((List ApiFeature)×Int×Int×Int×Int×Int×Int×Int×Int×Bool×(List ApiSlot)) (Int) where
  run:=fun (x2,x3,x4,x5,x6,x7,x8,x9,xa,xb,xc)=>(if (decide (x3<0))=true then (some 1) else (if (decide (15≤x3))=true then (some 1) else (f168 x2 x3).bind fun xd=>(if (decide (0≤xd))=true then (some 7) else (if (decide (x4≠8))=true then (if (decide (x4≠16))=true then (some 1) else ((f113_J2 x5 x0 x4 x6 x2 x3 x7 x8 x9 xa xb xc x1).run ())) else ((f113_J2 x5 x0 x4 x6 x2 x3 x7 x8 x9 xa xb xc x1).run ())))))
  cst:=fun (x2,x3,x4,x5,x6,x7,x8,x9,xa,xb,xc)=>⟨put (put (put (put (fun _=>.junk) 8 (.sl 10 false (x2.map eApiFeature))) 7 (.ptr 1 0)) 3 (.ptr 0 0)) 2 (.int .i64 x1),[.cel [.str x0.fName,.int .i64 x0.fFootprint,.int .i64 x0.fWatts,.sl 10 false (x0.fFeatures.map eApiFeature)],.cel [.int .i64 x3,.int .i64 x4,.int .i64 x5,.int .i64 x6,.int .i64 x7,.int .i64 x8,.int .i64 x9,.int .i64 xa,.bool xb,.sl 3 false (xc.map eApiSlot)]]⟩
theorem f113_J1c(x0:ApiProfile)(x1:Int)(x2:(List ApiFeature))(x3:Int)(x4:Int)(x5:Int)(x6:Int)(x7:Int)(x8:Int)(x9:Int)(xa:Int)(xb:Bool)(xc:(List ApiSlot)):(f113_J1 x0 x1).cst (x2,x3,x4,x5,x6,x7,x8,x9,xa,xb,xc)=⟨put (put (put (put (fun _=>.junk) 8 (.sl 10 false (x2.map eApiFeature))) 7 (.ptr 1 0)) 3 (.ptr 0 0)) 2 (.int .i64 x1),[.cel [.str x0.fName,.int .i64 x0.fFootprint,.int .i64 x0.fWatts,.sl 10 false (x0.fFeatures.map eApiFeature)],.cel [.int .i64 x3,.int .i64 x4,.int .i64 x5,.int .i64 x6,.int .i64 x7,.int .i64 x8,.int .i64 x9,.int .i64 xa,.bool xb,.sl 3 false (xc.map eApiSlot)]]⟩:=rfl
def c113_7:C:=.seq (.seq (.reg [iI 74 (.mv (.t 8)),iI 75 (.faddr 2 (.t 7)),iI 76 (.load 0 (.t 75)),iI 77 (.call (.c (.fn 169 [])) [(.t 74),(.t 76)]),iI 78 (.mv (.t 77)),iG (some 79) 78 false (.faddr 1 (.t 7)),iG (some 80) 78 false (.load 0 (.t 79)),iG (some 81) 78 false (.bin .eql (.t 80) (.c (.int .i64 16))),iG (some 82) 78 false (.mv (.t 81)),iG (some 83) 82 true (.mv (.t 8)),iG (some 84) 82 true (.faddr 3 (.t 7)),iG (some 85) 82 true (.load 0 (.t 84)),iG (some 86) 82 true (.call (.c (.fn 169 [])) [(.t 83),(.t 85)]),iG (some 87) 82 true (.mv (.t 86)),iG (some 88) 87 false (.faddr 3 (.t 7)),iG (some 89) 87 false (.load 0 (.t 88)),iG (some 90) 87 false (.faddr 2 (.t 7)),iG (some 91) 87 false (.load 0 (.t 90)),iG (some 92) 87 false (.bin .eql (.t 89) (.t 91)),iG (some 93) 82 true (.pick (.t 87) (.c (.bool true)) (.t 92)),iG (some 94) 78 false (.pick (.t 82) (.t 93) (.c (.bool false))),iI 95 (.pick (.t 78) (.c (.bool true)) (.t 94))]) (.cond (.t 95) (.seq (.reg [iI 6 (.mv (.c (.int .i64 11)))]) .ret) (.skip))) (.seq (.reg [iI 96 (.load 10 (.t 7)),iI 97 (.mv (.t 2)),iI 98 (.call (.c (.fn 170 [])) [(.t 96),(.t 97)]),iI 6 (.mv (.t 98))]) .ret)
def c113_8:C:=.seq (.seq (.reg [iI 66 (.faddr 1 (.t 7)),iI 67 (.load 0 (.t 66)),iI 68 (.bin .eql (.t 67) (.c (.int .i64 8))),iI 69 (.mv (.t 68)),iG (some 70) 69 true (.faddr 3 (.t 7)),iG (some 71) 69 true (.load 0 (.t 70)),iG (some 72) 69 true (.bin .neq (.t 71) (.c (.int .i64 0))),iI 73 (.pick (.t 69) (.t 72) (.c (.bool false)))]) (.cond (.t 73) (.seq (.reg [iI 6 (.mv (.c (.int .i64 3)))]) .ret) (.skip))) c113_7
def c113_9:C:=.seq (.seq (.reg [iI 39 (.faddr 2 (.t 7)),iI 40 (.load 0 (.t 39)),iI 41 (.bin .lss (.t 40) (.c (.int .i64 0))),iI 42 (.mv (.t 41)),iG (some 43) 42 false (.faddr 2 (.t 7)),iG (some 44) 42 false (.load 0 (.t 43)),iG (some 45) 42 false (.faddr 1 (.t 3)),iG (some 46) 42 false (.load 0 (.t 45)),iG (some 47) 42 false (.bin .geq (.t 44) (.t 46)),iI 48 (.pick (.t 42) (.c (.bool true)) (.t 47)),iI 49 (.mv (.t 48)),iG (some 50) 49 false (.faddr 1 (.t 7)),iG (some 51) 49 false (.load 0 (.t 50)),iG (some 52) 49 false (.bin .eql (.t 51) (.c (.int .i64 16))),iG (some 53) 49 false (.mv (.t 52)),iG (some 54) 53 true (.faddr 3 (.t 7)),iG (some 55) 53 true (.load 0 (.t 54)),iG (some 56) 53 true (.bin .lss (.t 55) (.c (.int .i64 0))),iG (some 57) 53 true (.mv (.t 56)),iG (some 58) 57 false (.faddr 3 (.t 7)),iG (some 59) 57 false (.load 0 (.t 58)),iG (some 60) 57 false (.faddr 1 (.t 3)),iG (some 61) 57 false (.load 0 (.t 60)),iG (some 62) 57 false (.bin .geq (.t 59) (.t 61)),iG (some 63) 53 true (.pick (.t 57) (.c (.bool true)) (.t 62)),iG (some 64) 49 false (.pick (.t 53) (.t 63) (.c (.bool false))),iI 65 (.pick (.t 49) (.c (.bool true)) (.t 64))]) (.cond (.t 65) (.seq (.reg [iI 6 (.mv (.c (.int .i64 2)))]) .ret) (.skip))) c113_8
def c113_10:C:=.seq (.seq (.reg [iI 31 (.faddr 1 (.t 7)),iI 32 (.load 0 (.t 31)),iI 33 (.bin .neq (.t 32) (.c (.int .i64 8))),iI 34 (.mv (.t 33)),iG (some 35) 34 true (.faddr 1 (.t 7)),iG (some 36) 34 true (.load 0 (.t 35)),iG (some 37) 34 true (.bin .neq (.t 36) (.c (.int .i64 16))),iI 38 (.pick (.t 34) (.t 37) (.c (.bool false)))]) (.cond (.t 38) (.seq (.reg [iI 6 (.mv (.c (.int .i64 1)))]) .ret) (.skip))) c113_9
def c113_11:C:=.seq (.seq (.reg [iI 26 (.mv (.t 8)),iI 27 (.faddr 0 (.t 7)),iI 28 (.load 0 (.t 27)),iI 29 (.call (.c (.fn 168 [])) [(.t 26),(.t 28)]),iI 30 (.bin .geq (.t 29) (.c (.int .i64 0)))]) (.cond (.t 30) (.seq (.reg [iI 6 (.mv (.c (.int .i64 7)))]) .ret) (.skip))) c113_10
def c113_12:C:=.seq (.seq (.reg [iI 18 (.faddr 0 (.t 7)),iI 19 (.load 0 (.t 18)),iI 20 (.bin .lss (.t 19) (.c (.int .i64 0))),iI 21 (.mv (.t 20)),iG (some 22) 21 false (.faddr 0 (.t 7)),iG (some 23) 21 false (.load 0 (.t 22)),iG (some 24) 21 false (.bin .geq (.t 23) (.c (.int .i64 15))),iI 25 (.pick (.t 21) (.c (.bool true)) (.t 24))]) (.cond (.t 25) (.seq (.reg [iI 6 (.mv (.c (.int .i64 1)))]) .ret) (.skip))) c113_11
def c113_13:C:=.seq (.regt (.fork [iI 9 (.faddr 3 (.t 3)),iI 10 (.load 0 (.t 9)),iI 11 (.mv (.t 1)),iI 12 (.iaddr 10 (.t 10) (.t 11)),iI 13 (.load 10 (.t 12)),iI 14 (.faddr 3 (.t 3)),iI 16 (.mv (.t 1))] (.run [iI 15 (.load 0 (.t 14)),iI 17 (.slice 10 (.t 15) none (some (.t 16))),iI 7 (.alloc [(1,(.int .i64 0)),(1,(.int .i64 0)),(1,(.int .i64 0)),(1,(.int .i64 0)),(1,(.int .i64 0)),(1,(.int .i64 0)),(1,(.int .i64 0)),(1,(.int .i64 0)),(1,(.bool false)),(1,(.sl 3 true []))]),iN (.store 10 (.t 7) (.t 13)),iI 8 (.mv (.t 17))]) (.fork [iI 7 (.alloc [(1,(.int .i64 0)),(1,(.int .i64 0)),(1,(.int .i64 0)),(1,(.int .i64 0)),(1,(.int .i64 0)),(1,(.int .i64 0)),(1,(.int .i64 0)),(1,(.int .i64 0)),(1,(.bool false)),(1,(.sl 3 true []))])] (.run [iI 15 (.load 0 (.t 14)),iI 17 (.slice 10 (.t 15) none (some (.t 16))),iN (.store 10 (.t 7) (.t 13)),iI 8 (.mv (.t 17))]) (.run [iN (.store 10 (.t 7) (.t 13)),iI 15 (.load 0 (.t 14)),iI 17 (.slice 10 (.t 15) none (some (.t 16))),iI 8 (.mv (.t 17))])))) c113_12
def ir113:C:=.seq (.reg [iI 3 (.box (.t 0)),iI 6 (.mv (.c (.int .i64 0)))]) c113_13
theorem fd113:fd? Tryz.prog 113=some (99,[.slot 6],ir113):=by kernel_rfl
def f113(x0:ApiProfile)(x1:Int)(x2:Int):Option (Int) :=
  (at? x0.fFeatures x1).bind fun x3=>(slc? x0.fFeatures 0 x1).bind fun x4=>((f113_J1 x0 x2).run (x4,x3.fAttr,x3.fBits,x3.fCoarse,x3.fFine,x3.fCurve,x3.fHome,x3.fLow,x3.fHigh,x3.fSnap,x3.fWheel))
theorem f113_ok{x0:ApiProfile}{x1:Int}{x2:Int}{r_:Int}(H:f113 x0 x1 x2=some r_):Pure Tryz.prog 113 [.agg [.str x0.fName,.int .i64 x0.fFootprint,.int .i64 x0.fWatts,.sl 10 false (x0.fFeatures.map eApiFeature)],.int .i64 x1,.int .i64 x2] (· = .int .i64 r_):=by
 refine w3 fd113 fun Q hQ=>?_
 simp only[f113] at H
 refine zr ?_
 refine AW.join (f113_J1 x0 x2) H ?_ fun hf113_J1=>?_
 ·clear H
  rintro ⟨x3,x4,x5,x6,x7,x8,x9,xa,xb,xc,xd⟩ st0_ H hst_
  rw[f113_J1c] at hst_
  simp only[f113_J1] at H
  subst hst_
  refine zq (zr ?_)
  refine ig H ?_ ?_<;>clear H<;>intro H
  ·refine zs ?_
   refine za (zr ?_)
   cases H
   exact zt (zv (zf hQ))
  ·refine zs ?_
   refine ic H ?_ ?_<;>clear H<;>intro H
   ·refine zr ?_
    cases H
    exact zt (zv (zf hQ))
   ·refine zk (zm (zq (zr ?_)))
    refine pu H f168_ok ?_<;>clear H<;>intro xe H
    refine zE0 ?_
    refine ic H ?_ ?_<;>clear H<;>intro H
    ·refine zr ?_
     cases H
     exact zt (zv (zf hQ))
    ·refine zk (zm ?_)
     refine AW.join (f113_J2 x6 x0 x5 x7 x3 x4 x8 x9 xa xb xc xd x2) H ?_ fun hf113_J2=>?_
     ·clear H
      rintro _ st0_ H hst_
      rw[f113_J2c] at hst_
      simp only[f113_J2] at H
      subst hst_
      refine AW.join (f113_J3 x5 x7 x3 x6 x4 x8 x9 xa xb xc xd x2) H ?_ fun hf113_J3=>?_
      ·clear H
       rintro _ st0_ H hst_
       rw[f113_J3c] at hst_
       simp only[f113_J3] at H
       subst hst_
       refine AW.join (f113_J4 x3 x6 x5 x7 x4 x8 x9 xa xb xc xd x2) H ?_ fun hf113_J4=>?_
       ·clear H
        rintro _ st0_ H hst_
        rw[f113_J4c] at hst_
        simp only[f113_J4] at H
        subst hst_
        refine zq (zr ?_)
        refine pu H f169_ok ?_<;>clear H<;>intro xf H
        refine zE0 ?_
        refine ig H ?_ ?_<;>clear H<;>intro H
        ·refine zs ?_
         refine za (zr ?_)
         cases H
         exact zt (zv (zf hQ))
        ·refine zs ?_
         refine ig H ?_ ?_<;>clear H<;>intro H
         ·refine zs ?_
          refine pu H f169_ok ?_<;>clear H<;>intro xg H
          refine zE0 ?_
          refine ig H ?_ ?_<;>clear H<;>intro H
          ·refine zs ?_
           refine za (zr ?_)
           cases H
           exact zt (zv (zf hQ))
          ·refine zs ?_
           refine ic H ?_ ?_<;>clear H<;>intro H
           ·refine zr ?_
            cases H
            exact zt (zv (zf hQ))
           ·refine zk (zm (zr ?_))
            refine pu H f170_ok ?_<;>clear H<;>intro xh H
            refine zE0 ?_
            cases H
            exact zt (zf hQ)
         ·refine zs ?_
          refine zc (zk (zm (zr ?_)))
          refine pu H f170_ok ?_<;>clear H<;>intro xi H
          refine zE0 ?_
          cases H
          exact zt (zf hQ)
       ·refine zr ?_
        refine ig H ?_ ?_<;>clear H<;>intro H
        ·refine zs ?_
         refine ic H ?_ ?_<;>clear H<;>intro H
         ·refine zr ?_
          cases H
          exact zt (zv (zf hQ))
         ·refine zk (zm ?_)
          exact hf113_J4 _ _ H ((Le.tz [0] [2,7,8] (by simp only[f113_J4c,wm,wmr,rrm,↓wk,↓wl,evV,↓reduceIte,sevalprocAttr]<;>rfl)))
        ·refine zs ?_
         refine zc (zk (zm ?_))
         exact hf113_J4 _ _ H ((Le.tz [0] [2,7,8] (by simp only[f113_J4c,wm,wmr,rrm,↓wk,↓wl,evV,↓reduceIte,sevalprocAttr]<;>rfl)))
      ·refine zr ?_
       refine ig H ?_ ?_<;>clear H<;>intro H
       ·refine zs ?_
        refine za (zr ?_)
        cases H
        exact zt (zv (zf hQ))
       ·refine zs ?_
        refine ig H ?_ ?_<;>clear H<;>intro H
        ·refine zs ?_
         refine za (zr ?_)
         cases H
         exact zt (zv (zf hQ))
        ·refine zs ?_
         refine ig H ?_ ?_<;>clear H<;>intro H
         ·refine zs ?_
          refine ig H ?_ ?_<;>clear H<;>intro H
          ·refine zs ?_
           refine za (zr ?_)
           cases H
           exact zt (zv (zf hQ))
          ·refine zs ?_
           refine ic H ?_ ?_<;>clear H<;>intro H
           ·refine zr ?_
            cases H
            exact zt (zv (zf hQ))
           ·refine zk (zm ?_)
            exact hf113_J3 _ _ H ((Le.tz [1] [2,7,8] (by simp only[f113_J3c,wm,wmr,rrm,↓wk,↓wl,evV,↓reduceIte,sevalprocAttr]<;>rfl)))
         ·refine zs ?_
          refine zc (zk (zm ?_))
          exact hf113_J3 _ _ H ((Le.tz [1] [2,7,8] (by simp only[f113_J3c,wm,wmr,rrm,↓wk,↓wl,evV,↓reduceIte,sevalprocAttr]<;>rfl)))
     ·refine zr ?_
      refine ig H ?_ ?_<;>clear H<;>intro H
      ·refine zs ?_
       refine ic H ?_ ?_<;>clear H<;>intro H
       ·refine zr ?_
        cases H
        exact zt (zv (zf hQ))
       ·refine zk (zm ?_)
        exact hf113_J2 _ _ H ((Le.tz [0,1] [2,3,7,8] (by simp only[f113_J2c,wm,wmr,rrm,↓wk,↓wl,evV,↓reduceIte,sevalprocAttr]<;>rfl)))
      ·refine zs ?_
       refine zc (zk (zm ?_))
       exact hf113_J2 _ _ H ((Le.tz [0,1] [2,3,7,8] (by simp only[f113_J2c,wm,wmr,rrm,↓wk,↓wl,evV,↓reduceIte,sevalprocAttr]<;>rfl)))
 ·refine AW.regt ?_
  refine evR.fork ?_
  refine zs ?_
  refine ia eApiFeature H ?_<;>clear H<;>intro xj H
  refine zE5 ?_
  refine evR.both ?_ ?_
  ·refine evR.run ?_
   refine zs ?_
   refine sc eApiFeature H ?_<;>clear H<;>intro xk H
   refine zs ?_
   refine zm ?_
   exact hf113_J1 _ _ H ((Le.tz [0,1] [2,3,7,8] (by simp only[f113_J1c,wm,wmr,rrm,↓wk,↓wl,evV,↓reduceIte,sevalprocAttr]<;>rfl)))
  ·refine evR.fork ?_
   refine zs ?_
   refine evR.both ?_ ?_
   ·refine evR.run ?_
    refine zs ?_
    refine sc eApiFeature H ?_<;>clear H<;>intro xk H
    refine zs ?_
    refine zm ?_
    exact hf113_J1 _ _ H ((Le.tz [0,1] [2,3,7,8] (by simp only[f113_J1c,wm,wmr,rrm,↓wk,↓wl,evV,↓reduceIte,sevalprocAttr]<;>rfl)))
   ·refine evR.run ?_
    refine zs ?_
    refine sc eApiFeature H ?_<;>clear H<;>intro xk H
    refine zs ?_
    refine zm ?_
    exact hf113_J1 _ _ H ((Le.tz [0,1] [2,3,7,8] (by simp only[f113_J1c,wm,wmr,rrm,↓wk,↓wl,evV,↓reduceIte,sevalprocAttr]<;>rfl)))
def f71_L1(x0:ApiProfile)(x1:(List (List ApiPoint))):Lp (Int) ((Unit)⊕(Int)) where
  body:=fun x2=>(if (decide (x2<((x0.fFeatures.length:Nat):Int)))=true then (f113 x0 x2 ((x1.length:Nat):Int)).bind fun x3=>(if (decide (x3≠0))=true then (some (.brk (Sum.inr x3))) else (some (.next (IntKind.i64.wrap (x2 + 1))))) else (some (.brk (Sum.inl ()))))
  cst:=fun x2=>⟨put (put (put (fun _=>.junk) 6 (.int .i64 x2)) 2 (.ptr 0 0)) 1 (.sl 0 false (x1.map (eL 2 eApiPoint))),[.cel [.str x0.fName,.int .i64 x0.fFootprint,.int .i64 x0.fWatts,.sl 10 false (x0.fFeatures.map eApiFeature)]]⟩
theorem f71_L1c(x0:ApiProfile)(x1:(List (List ApiPoint)))(x2:Int):(f71_L1 x0 x1).cst x2=⟨put (put (put (fun _=>.junk) 6 (.int .i64 x2)) 2 (.ptr 0 0)) 1 (.sl 0 false (x1.map (eL 2 eApiPoint))),[.cel [.str x0.fName,.int .i64 x0.fFootprint,.int .i64 x0.fWatts,.sl 10 false (x0.fFeatures.map eApiFeature)]]⟩:=rfl
def c71_1:C:=.seq (.reg [iI 10 (.mv (.t 5)),iI 11 (.bin .neq (.t 10) (.c (.int .i64 0)))]) (.cond (.t 11) (.seq (.reg [iI 12 (.mv (.t 5)),iI 4 (.mv (.t 12))]) .ret) (.skip))
def c71_7:C:=.seq (.reg [iI 51 (.mv (.t 7)),iI 52 (.bin .neq (.t 51) (.c (.int .i64 0)))]) (.cond (.t 52) (.seq (.reg [iI 53 (.mv (.t 7)),iI 4 (.mv (.t 53))]) .ret) (.skip))
def c71_9:C:=.seq (.block 1 (.seq (.reg [iI 46 (.load 4 (.t 2)),iI 47 (.mv (.t 6)),iI 48 (.mv (.t 1)),iI 49 (.len 0 (.t 48)),iI 50 (.call (.c (.fn 113 [])) [(.t 46),(.t 47),(.t 49)]),iI 7 (.mv (.t 50))]) c71_7)) (.reg [iI 44 (.mv (.t 6)),iI 45 (.bin .add (.t 44) (.c (.int .i64 1))),iI 6 (.mv (.t 45))])
def c71_10:C:=.block 0 (.loop (.seq (.seq (.reg [iI 39 (.mv (.t 6)),iI 40 (.faddr 3 (.t 2)),iI 41 (.load 0 (.t 40)),iI 42 (.len 0 (.t 41)),iI 43 (.bin .lss (.t 39) (.t 42))]) (.cond (.t 43) (.skip) (.exit 0))) c71_9))
def c71_13:C:=.seq (.seq (.reg [iI 35 (.faddr 3 (.t 2)),iI 36 (.load 0 (.t 35)),iI 37 (.len 0 (.t 36)),iI 38 (.bin .gtr (.t 37) (.c (.int .i64 16)))]) (.cond (.t 38) (.seq (.reg [iI 4 (.mv (.c (.int .i64 5)))]) .ret) (.skip))) (.seq (.seq (.reg [iI 6 (.mv (.c (.int .i64 0)))]) c71_10) (.seq (.reg [iI 4 (.mv (.c (.int .i64 0)))]) .ret))
def c71_14:C:=.seq (.seq (.reg [iI 17 (.faddr 1 (.t 2)),iI 18 (.load 0 (.t 17)),iI 19 (.bin .lss (.t 18) (.c (.int .i64 1))),iI 20 (.mv (.t 19)),iG (some 21) 20 false (.faddr 1 (.t 2)),iG (some 22) 20 false (.load 0 (.t 21)),iG (some 23) 20 false (.bin .gtr (.t 22) (.c (.int .i64 512))),iI 24 (.pick (.t 20) (.c (.bool true)) (.t 23)),iI 25 (.mv (.t 24)),iG (some 26) 25 false (.faddr 2 (.t 2)),iG (some 27) 25 false (.load 0 (.t 26)),iG (some 28) 25 false (.bin .lss (.t 27) (.c (.int .i64 0))),iI 29 (.pick (.t 25) (.c (.bool true)) (.t 28)),iI 30 (.mv (.t 29)),iG (some 31) 30 false (.faddr 2 (.t 2)),iG (some 32) 30 false (.load 0 (.t 31)),iG (some 33) 30 false (.bin .gtr (.t 32) (.c (.int .i64 1048576))),iI 34 (.pick (.t 30) (.c (.bool true)) (.t 33))]) (.cond (.t 34) (.seq (.reg [iI 4 (.mv (.c (.int .i64 2)))]) .ret) (.skip))) c71_13
def c71_15:C:=.seq (.seq (.reg [iI 13 (.faddr 0 (.t 2)),iI 14 (.load 0 (.t 13)),iI 15 (.call (.c (.fn 112 [])) [(.t 14)]),iI 16 (.un .not (.t 15))]) (.cond (.t 16) (.seq (.reg [iI 4 (.mv (.c (.int .i64 8)))]) .ret) (.skip))) c71_14
def ir71:C:=.seq (.reg [iI 2 (.box (.t 0)),iI 4 (.mv (.c (.int .i64 0)))]) (.seq (.seq (.reg [iI 8 (.mv (.t 1)),iI 9 (.call (.c (.fn 70 [])) [(.t 8)]),iI 5 (.mv (.t 9))]) c71_1) c71_15)
theorem fd71:fd? Tryz.prog 71=some (54,[.slot 4],ir71):=by kernel_rfl
def f71(x0:ApiProfile)(x1:(List (List ApiPoint))):Option (Int) :=
  (f70 x1).bind fun x2=>(if (decide (x2≠0))=true then (some x2) else (f112 x0.fName).bind fun x3=>(if (!x3)=true then (some 8) else (if (decide (x0.fFootprint<1))=true then (some 2) else (if (decide (512<x0.fFootprint))=true then (some 2) else (if (decide (x0.fWatts<0))=true then (some 2) else (if (decide (1048576<x0.fWatts))=true then (some 2) else (if (decide (16<((x0.fFeatures.length:Nat):Int)))=true then (some 5) else ((Lp.run (f71_L1 x0 x1) 0).bind fun r_=>match r_ with | (Sum.inl _)=>(some 0) | (Sum.inr x4)=>(some x4)))))))))
theorem f71_ok{x0:ApiProfile}{x1:(List (List ApiPoint))}{r_:Int}(H:f71 x0 x1=some r_):Pure Tryz.prog 71 [.agg [.str x0.fName,.int .i64 x0.fFootprint,.int .i64 x0.fWatts,.sl 10 false (x0.fFeatures.map eApiFeature)],.sl 0 false (x1.map (eL 2 eApiPoint))] (· = .int .i64 r_):=by
 refine w3 fd71 fun Q hQ=>?_
 simp only[f71] at H
 refine zr ?_
 refine zq (zr ?_)
 refine pu H f70_ok ?_<;>clear H<;>intro x2 H
 refine zE0 ?_
 refine zr ?_
 refine ic H ?_ ?_<;>clear H<;>intro H
 ·refine zr ?_
  cases H
  exact zt (zv (zf hQ))
 ·refine zk (zm (zq (zr ?_)))
  refine pu H f112_ok ?_<;>clear H<;>intro x3 H
  refine zE0 ?_
  refine ic H ?_ ?_<;>clear H<;>intro H
  ·refine zr ?_
   cases H
   exact zt (zv (zf hQ))
  ·refine zk (zm (zq (zr ?_)))
   refine ig H ?_ ?_<;>clear H<;>intro H
   ·refine zs ?_
    refine za (zr ?_)
    cases H
    exact zt (zv (zf hQ))
   ·refine zs ?_
    refine ig H ?_ ?_<;>clear H<;>intro H
    ·refine zs ?_
     refine za (zr ?_)
     cases H
     exact zt (zv (zf hQ))
    ·refine zs ?_
     refine ig H ?_ ?_<;>clear H<;>intro H
     ·refine zs ?_
      refine za (zr ?_)
      cases H
      exact zt (zv (zf hQ))
     ·refine zs ?_
      refine ic H ?_ ?_<;>clear H<;>intro H
      ·refine zr ?_
       cases H
       exact zt (zv (zf hQ))
      ·refine zk (zm (zq (zr ?_)))
       refine ic H ?_ ?_<;>clear H<;>intro H
       ·refine zr ?_
        cases H
        exact zt (zv (zf hQ))
       ·refine zk (zm (zq (zr ?_)))
        refine zd ?_
        refine zU H [0] [1,2,6] (f71_L1c ..) ?_<;>clear H
        rintro x4 x_ st0_ H hst_
        rw[f71_L1c] at hst_
        simp only[f71_L1] at H
        subst hst_
        refine zq (zr ?_)
        refine ic H ?_ ?_<;>clear H<;>intro H
        ·refine zk (zm (zb (zr ?_)))
         refine pu H f113_ok ?_<;>clear H<;>intro x5 H
         refine zE0 ?_
         refine zr ?_
         refine ic H ?_ ?_<;>clear H<;>intro H
         ·refine zr ?_
          refine zt (zp (loopQ.ret H ?_))<;>clear H<;>intro H
          try dsimp only at H
          cases H
          exact zh (zv (zf hQ))
         ·refine zk (zo (ze ?_))
          exact zu H [0] [1,2,6] (f71_L1c ..)
        ·refine zx (zy (loopQ.exit H ?_))<;>clear H<;>intro H
         try dsimp only at H
         refine zi (zm (zr ?_))
         cases H
         exact zt (zf hQ)
def f72_L1(x0:(List ApiProfile))(x1:(List UInt8)):Lp (Int) ((Unit)⊕(Int)) where
  body:=fun x2=>(if (decide (x2<((x0.length:Nat):Int)))=true then (at? x0 x2).bind fun x3=>(if (x3.fName == x1)=true then (some (.brk (Sum.inr x2))) else (some (.next (IntKind.i64.wrap (x2 + 1))))) else (some (.brk (Sum.inl ()))))
  cst:=fun x2=>⟨put (put (put (fun _=>.junk) 5 (.int .i64 x2)) 1 (.str x1)) 0 (.sl 4 false (x0.map eApiProfile)),[]⟩
theorem f72_L1c(x0:(List ApiProfile))(x1:(List UInt8))(x2:Int):(f72_L1 x0 x1).cst x2=⟨put (put (put (fun _=>.junk) 5 (.int .i64 x2)) 1 (.str x1)) 0 (.sl 4 false (x0.map eApiProfile)),[]⟩:=rfl
def c72_3:C:=.seq (.block 1 (.seq (.reg [iI 12 (.mv (.t 0)),iI 13 (.mv (.t 5)),iI 14 (.iaddr 4 (.t 12) (.t 13)),iI 15 (.faddr 0 (.t 14)),iI 16 (.load 0 (.t 15)),iI 17 (.mv (.t 1)),iI 18 (.bin .eql (.t 16) (.t 17))]) (.cond (.t 18) (.seq (.reg [iI 19 (.mv (.t 5)),iI 4 (.mv (.t 19))]) .ret) (.skip)))) (.reg [iI 10 (.mv (.t 5)),iI 11 (.bin .add (.t 10) (.c (.int .i64 1))),iI 5 (.mv (.t 11))])
def c72_4:C:=.block 0 (.loop (.seq (.seq (.reg [iI 6 (.mv (.t 5)),iI 7 (.mv (.t 0)),iI 8 (.len 0 (.t 7)),iI 9 (.bin .lss (.t 6) (.t 8))]) (.cond (.t 9) (.skip) (.exit 0))) c72_3))
def ir72:C:=.seq (.reg [iI 4 (.mv (.c (.int .i64 0)))]) (.seq (.seq (.reg [iI 5 (.mv (.c (.int .i64 0)))]) c72_4) (.seq (.reg [iI 4 (.mv (.c (.int .i64 (-1))))]) .ret))
theorem fd72:fd? Tryz.prog 72=some (20,[.slot 4],ir72):=by kernel_rfl
def f72(x0:(List ApiProfile))(x1:(List UInt8)):Option (Int) :=
  ((Lp.run (f72_L1 x0 x1) 0).bind fun r_=>match r_ with | (Sum.inl _)=>(some (-1)) | (Sum.inr x2)=>(some x2))
theorem f72_ok{x0:(List ApiProfile)}{x1:(List UInt8)}{r_:Int}(H:f72 x0 x1=some r_):Pure Tryz.prog 72 [.sl 4 false (x0.map eApiProfile),.str x1] (· = .int .i64 r_):=by
 refine w3 fd72 fun Q hQ=>?_
 simp only[f72] at H
 refine zr ?_
 refine zq (zr ?_)
 refine zd ?_
 refine zU H [] [0,1,5] (f72_L1c ..) ?_<;>clear H
 rintro x2 x_ st0_ H hst_
 rw[f72_L1c] at hst_
 simp only[f72_L1] at H
 subst hst_
 refine zq (zr ?_)
 refine ic H ?_ ?_<;>clear H<;>intro H
 ·refine zk (zm (zb (zr ?_)))
  refine ia eApiProfile H ?_<;>clear H<;>intro x3 H
  refine zE6 ?_
  refine ic H ?_ ?_<;>clear H<;>intro H
  ·refine zr ?_
   refine zt (zp (loopQ.ret H ?_))<;>clear H<;>intro H
   try dsimp only at H
   cases H
   exact zh (zv (zf hQ))
  ·refine zk (zo (ze ?_))
   exact zu H [] [0,1,5] (f72_L1c ..)
 ·refine zx (zy (loopQ.exit H ?_))<;>clear H<;>intro H
  try dsimp only at H
  refine zi (zm (zr ?_))
  cases H
  exact zt (zf hQ)
def c171_3:C:=.seq (.seq (.reg [iI 21 (.faddr 3 (.t 1)),iI 22 (.load 0 (.t 21)),iI 23 (.bin .lss (.t 22) (.c (.int .i64 1))),iI 24 (.mv (.t 23)),iG (some 25) 24 false (.faddr 3 (.t 1)),iG (some 26) 24 false (.load 0 (.t 25)),iG (some 27) 24 false (.bin .gtr (.t 26) (.c (.int .i64 8))),iI 28 (.pick (.t 24) (.c (.bool true)) (.t 27)),iI 29 (.mv (.t 28)),iG (some 30) 29 false (.faddr 4 (.t 1)),iG (some 31) 29 false (.load 0 (.t 30)),iG (some 32) 29 false (.bin .lss (.t 31) (.c (.int .i64 1))),iI 33 (.pick (.t 29) (.c (.bool true)) (.t 32)),iI 34 (.mv (.t 33)),iG (some 35) 34 false (.faddr 4 (.t 1)),iG (some 36) 34 false (.load 0 (.t 35)),iG (some 37) 34 false (.bin .gtr (.t 36) (.c (.int .i64 512))),iI 38 (.pick (.t 34) (.c (.bool true)) (.t 37)),iI 39 (.mv (.t 38)),iG (some 40) 39 false (.faddr 5 (.t 1)),iG (some 41) 39 false (.load 0 (.t 40)),iG (some 42) 39 false (.bin .lss (.t 41) (.c (.int .i64 1))),iI 43 (.pick (.t 39) (.c (.bool true)) (.t 42)),iI 44 (.mv (.t 43)),iG (some 45) 44 false (.faddr 5 (.t 1)),iG (some 46) 44 false (.load 0 (.t 45)),iG (some 47) 44 false (.bin .gtr (.t 46) (.c (.int .i64 3))),iI 48 (.pick (.t 44) (.c (.bool true)) (.t 47))]) (.cond (.t 48) (.seq (.reg [iI 2 (.mv (.c (.int .i64 2)))]) .ret) (.skip))) (.seq (.reg [iI 2 (.mv (.c (.int .i64 0)))]) .ret)
def c171_4:C:=.seq (.seq (.reg [iI 3 (.faddr 0 (.t 1)),iI 4 (.load 0 (.t 3)),iI 5 (.bin .lss (.t 4) (.c (.int .i64 1))),iI 6 (.mv (.t 5)),iG (some 7) 6 false (.faddr 0 (.t 1)),iG (some 8) 6 false (.load 0 (.t 7)),iG (some 9) 6 false (.bin .gtr (.t 8) (.c (.int .i64 999))),iI 10 (.pick (.t 6) (.c (.bool true)) (.t 9)),iI 11 (.mv (.t 10)),iG (some 12) 11 false (.faddr 1 (.t 1)),iG (some 13) 11 false (.load 0 (.t 12)),iG (some 14) 11 false (.bin .lss (.t 13) (.c (.int .i64 1))),iI 15 (.pick (.t 11) (.c (.bool true)) (.t 14)),iI 16 (.mv (.t 15)),iG (some 17) 16 false (.faddr 1 (.t 1)),iG (some 18) 16 false (.load 0 (.t 17)),iG (some 19) 16 false (.bin .gtr (.t 18) (.c (.int .i64 64))),iI 20 (.pick (.t 16) (.c (.bool true)) (.t 19))]) (.cond (.t 20) (.seq (.reg [iI 2 (.mv (.c (.int .i64 2)))]) .ret) (.skip))) c171_3
def ir171:C:=.seq (.reg [iI 1 (.box (.t 0)),iI 2 (.mv (.c (.int .i64 0)))]) c171_4
theorem fd171:fd? Tryz.prog 171=some (49,[.slot 2],ir171):=by kernel_rfl
def f171(x0:ApiFixture):Option (Int) :=
  (if (decide (x0.fChannel<1))=true then (some 2) else (if (decide (999<x0.fChannel))=true then (some 2) else (if (decide (x0.fPart<1))=true then (some 2) else (if (decide (64<x0.fPart))=true then (some 2) else (if (decide (x0.fUniverse<1))=true then (some 2) else (if (decide (8<x0.fUniverse))=true then (some 2) else (if (decide (x0.fAddress<1))=true then (some 2) else (if (decide (512<x0.fAddress))=true then (some 2) else (if (decide (x0.fPhase<1))=true then (some 2) else (if (decide (3<x0.fPhase))=true then (some 2) else (some 0)))))))))))
theorem f171_ok{x0:ApiFixture}{r_:Int}(H:f171 x0=some r_):Pure Tryz.prog 171 [.agg [.int .i64 x0.fChannel,.int .i64 x0.fPart,.str x0.fProfile,.int .i64 x0.fUniverse,.int .i64 x0.fAddress,.int .i64 x0.fPhase,.str x0.fCable]] (· = .int .i64 r_):=by
 refine w3 fd171 fun Q hQ=>?_
 simp only[f171] at H
 refine zr ?_
 refine zq (zr ?_)
 refine ig H ?_ ?_<;>clear H<;>intro H
 ·refine zs ?_
  refine za (zr ?_)
  cases H
  exact zt (zv (zf hQ))
 ·refine zs ?_
  refine ig H ?_ ?_<;>clear H<;>intro H
  ·refine zs ?_
   refine za (zr ?_)
   cases H
   exact zt (zv (zf hQ))
  ·refine zs ?_
   refine ig H ?_ ?_<;>clear H<;>intro H
   ·refine zs ?_
    refine za (zr ?_)
    cases H
    exact zt (zv (zf hQ))
   ·refine zs ?_
    refine ic H ?_ ?_<;>clear H<;>intro H
    ·refine zr ?_
     cases H
     exact zt (zv (zf hQ))
    ·refine zk (zm (zq (zr ?_)))
     refine ig H ?_ ?_<;>clear H<;>intro H
     ·refine zs ?_
      refine za (zr ?_)
      cases H
      exact zt (zv (zf hQ))
     ·refine zs ?_
      refine ig H ?_ ?_<;>clear H<;>intro H
      ·refine zs ?_
       refine za (zr ?_)
       cases H
       exact zt (zv (zf hQ))
      ·refine zs ?_
       refine ig H ?_ ?_<;>clear H<;>intro H
       ·refine zs ?_
        refine za (zr ?_)
        cases H
        exact zt (zv (zf hQ))
       ·refine zs ?_
        refine ig H ?_ ?_<;>clear H<;>intro H
        ·refine zs ?_
         refine za (zr ?_)
         cases H
         exact zt (zv (zf hQ))
        ·refine zs ?_
         refine ig H ?_ ?_<;>clear H<;>intro H
         ·refine zs ?_
          refine za (zr ?_)
          cases H
          exact zt (zv (zf hQ))
         ·refine zs ?_
          refine ic H ?_ ?_<;>clear H<;>intro H
          ·refine zr ?_
           cases H
           exact zt (zv (zf hQ))
          ·refine zk (zm (zr ?_))
           cases H
           exact zt (zf hQ)
def f114_J1(x0:(List ApiProfile))(x1:ApiFixture):Jn (Unit) (Int) where
  run:=fun _=>(f72 x0 x1.fProfile).bind fun x2=>(if (decide (x2<0))=true then (some 6) else (at? x0 x2).bind fun x3=>(if (decide (x3.fFootprint<1))=true then (some 2) else (if (decide ((IntKind.i64.wrap ((IntKind.i64.wrap (512 - x1.fAddress)) + 1))<x3.fFootprint))=true then (some 2) else (some 0))))
  cst:=fun _=>⟨put (put (fun _=>.junk) 3 (.ptr 0 0)) 0 (.sl 4 false (x0.map eApiProfile)),[.cel [.int .i64 x1.fChannel,.int .i64 x1.fPart,.str x1.fProfile,.int .i64 x1.fUniverse,.int .i64 x1.fAddress,.int .i64 x1.fPhase,.str x1.fCable]]⟩
theorem f114_J1c(x0:(List ApiProfile))(x1:ApiFixture)(x_:Unit):(f114_J1 x0 x1).cst x_=⟨put (put (fun _=>.junk) 3 (.ptr 0 0)) 0 (.sl 4 false (x0.map eApiProfile)),[.cel [.int .i64 x1.fChannel,.int .i64 x1.fPart,.str x1.fProfile,.int .i64 x1.fUniverse,.int .i64 x1.fAddress,.int .i64 x1.fPhase,.str x1.fCable]]⟩:=rfl
def c114_1:C:=.seq (.reg [iI 10 (.mv (.t 5)),iI 11 (.bin .neq (.t 10) (.c (.int .i64 0)))]) (.cond (.t 11) (.seq (.reg [iI 12 (.mv (.t 5)),iI 4 (.mv (.t 12))]) .ret) (.skip))
def c114_5:C:=.seq (.reg [iI 33 (.mv (.t 7)),iI 34 (.bin .lss (.t 33) (.c (.int .i64 1))),iI 35 (.mv (.t 34)),iG (some 36) 35 false (.mv (.t 7)),iG (some 37) 35 false (.faddr 4 (.t 3)),iG (some 38) 35 false (.load 0 (.t 37)),iG (some 39) 35 false (.bin .sub (.c (.int .i64 512)) (.t 38)),iG (some 40) 35 false (.bin .add (.t 39) (.c (.int .i64 1))),iG (some 41) 35 false (.bin .gtr (.t 36) (.t 40)),iI 42 (.pick (.t 35) (.c (.bool true)) (.t 41))]) (.cond (.t 42) (.seq (.reg [iI 4 (.mv (.c (.int .i64 2)))]) .ret) (.skip))
def c114_7:C:=.seq (.seq (.reg [iI 28 (.mv (.t 0)),iI 29 (.mv (.t 6)),iI 30 (.iaddr 4 (.t 28) (.t 29)),iI 31 (.faddr 1 (.t 30)),iI 32 (.load 0 (.t 31)),iI 7 (.mv (.t 32))]) c114_5) (.seq (.reg [iI 4 (.mv (.c (.int .i64 0)))]) .ret)
def c114_8:C:=.seq (.seq (.reg [iI 26 (.mv (.t 6)),iI 27 (.bin .lss (.t 26) (.c (.int .i64 0)))]) (.cond (.t 27) (.seq (.reg [iI 4 (.mv (.c (.int .i64 6)))]) .ret) (.skip))) c114_7
def c114_10:C:=.seq (.seq (.reg [iI 13 (.faddr 6 (.t 3)),iI 14 (.load 0 (.t 13)),iI 15 (.bin .neq (.t 14) (.c (.str []))),iI 16 (.mv (.t 15)),iG (some 17) 16 true (.faddr 6 (.t 3)),iG (some 18) 16 true (.load 0 (.t 17)),iG (some 19) 16 true (.call (.c (.fn 112 [])) [(.t 18)]),iG (some 20) 16 true (.un .not (.t 19)),iI 21 (.pick (.t 16) (.t 20) (.c (.bool false)))]) (.cond (.t 21) (.seq (.reg [iI 4 (.mv (.c (.int .i64 8)))]) .ret) (.skip))) (.seq (.reg [iI 22 (.mv (.t 0)),iI 23 (.faddr 2 (.t 3)),iI 24 (.load 0 (.t 23)),iI 25 (.call (.c (.fn 72 [])) [(.t 22),(.t 24)]),iI 6 (.mv (.t 25))]) c114_8)
def ir114:C:=.seq (.reg [iI 3 (.box (.t 1)),iI 4 (.mv (.c (.int .i64 0)))]) (.seq (.seq (.reg [iI 8 (.load 7 (.t 3)),iI 9 (.call (.c (.fn 171 [])) [(.t 8)]),iI 5 (.mv (.t 9))]) c114_1) c114_10)
theorem fd114:fd? Tryz.prog 114=some (43,[.slot 4],ir114):=by kernel_rfl
def f114(x0:(List ApiProfile))(x1:ApiFixture):Option (Int) :=
  (f171 x1).bind fun x2=>(if (decide (x2≠0))=true then (some x2) else (if (!(x1.fCable == ([])))=true then (f112 x1.fCable).bind fun x3=>(if (!x3)=true then (some 8) else ((f114_J1 x0 x1).run ())) else ((f114_J1 x0 x1).run ())))
theorem f114_ok{x0:(List ApiProfile)}{x1:ApiFixture}{r_:Int}(H:f114 x0 x1=some r_):Pure Tryz.prog 114 [.sl 4 false (x0.map eApiProfile),.agg [.int .i64 x1.fChannel,.int .i64 x1.fPart,.str x1.fProfile,.int .i64 x1.fUniverse,.int .i64 x1.fAddress,.int .i64 x1.fPhase,.str x1.fCable]] (· = .int .i64 r_):=by
 refine w3 fd114 fun Q hQ=>?_
 simp only[f114] at H
 refine zr ?_
 refine zq (zr ?_)
 refine pu H f171_ok ?_<;>clear H<;>intro x2 H
 refine zE0 ?_
 refine zr ?_
 refine ic H ?_ ?_<;>clear H<;>intro H
 ·refine zr ?_
  cases H
  exact zt (zv (zf hQ))
 ·refine zk (zm ?_)
  refine AW.join (f114_J1 x0 x1) H ?_ fun hf114_J1=>?_
  ·clear H
   rintro _ st0_ H hst_
   rw[f114_J1c] at hst_
   simp only[f114_J1] at H
   subst hst_
   refine zr ?_
   refine pu H f72_ok ?_<;>clear H<;>intro x3 H
   refine zE0 ?_
   refine zq (zr ?_)
   refine ic H ?_ ?_<;>clear H<;>intro H
   ·refine zr ?_
    cases H
    exact zt (zv (zf hQ))
   ·refine zk (zm (zq (zr ?_)))
    refine ia eApiProfile H ?_<;>clear H<;>intro x4 H
    refine zE6 ?_
    refine zr ?_
    refine ig H ?_ ?_<;>clear H<;>intro H
    ·refine zs ?_
     refine za (zr ?_)
     cases H
     exact zt (zv (zf hQ))
    ·refine zs ?_
     refine ic H ?_ ?_<;>clear H<;>intro H
     ·refine zr ?_
      cases H
      exact zt (zv (zf hQ))
     ·refine zk (zm (zr ?_))
      cases H
      exact zt (zf hQ)
  ·refine zr ?_
   refine ig H ?_ ?_<;>clear H<;>intro H
   ·refine zs ?_
    refine pu H f112_ok ?_<;>clear H<;>intro x5 H
    refine zE0 ?_
    refine ic H ?_ ?_<;>clear H<;>intro H
    ·refine zr ?_
     cases H
     exact zt (zv (zf hQ))
    ·refine zk (zm ?_)
     exact hf114_J1 _ _ H ((Le.tz [0] [0,3] (by simp only[f114_J1c,wm,wmr,rrm,↓wk,↓wl,evV,↓reduceIte,sevalprocAttr]<;>rfl)))
   ·refine zs ?_
    refine zc (zk (zm ?_))
    exact hf114_J1 _ _ H ((Le.tz [0] [0,3] (by simp only[f114_J1c,wm,wmr,rrm,↓wk,↓wl,evV,↓reduceIte,sevalprocAttr]<;>rfl)))
def c172_0:C:=.seq (.reg [iI 5 (.mv (.t 0)),iI 6 (.mv (.t 0)),iI 7 (.faddr 2 (.t 3)),iI 8 (.load 0 (.t 7)),iI 9 (.call (.c (.fn 72 [])) [(.t 6),(.t 8)]),iI 10 (.iaddr 4 (.t 5) (.t 9)),iI 11 (.faddr 1 (.t 10)),iI 12 (.load 0 (.t 11)),iI 4 (.mv (.t 12))]) .ret
def ir172:C:=.seq (.reg [iI 3 (.box (.t 1)),iI 4 (.mv (.c (.int .i64 0)))]) c172_0
theorem fd172:fd? Tryz.prog 172=some (13,[.slot 4],ir172):=by kernel_rfl
def f172(x0:(List ApiProfile))(x1:ApiFixture):Option (Int) :=
  (f72 x0 x1.fProfile).bind fun x2=>(at? x0 x2).bind fun x3=>(some x3.fFootprint)
theorem f172_ok{x0:(List ApiProfile)}{x1:ApiFixture}{r_:Int}(H:f172 x0 x1=some r_):Pure Tryz.prog 172 [.sl 4 false (x0.map eApiProfile),.agg [.int .i64 x1.fChannel,.int .i64 x1.fPart,.str x1.fProfile,.int .i64 x1.fUniverse,.int .i64 x1.fAddress,.int .i64 x1.fPhase,.str x1.fCable]] (· = .int .i64 r_):=by
 refine w3 fd172 fun Q hQ=>?_
 simp only[f172] at H
 refine zr ?_
 refine zr ?_
 refine pu H f72_ok ?_<;>clear H<;>intro x2 H
 refine zE0 ?_
 refine ia eApiProfile H ?_<;>clear H<;>intro x3 H
 refine zE6 ?_
 cases H
 exact zt (zf hQ)
def c115_0:C:=.seq (.regq [iI 7 (.faddr 3 (.t 4)),iI 8 (.load 0 (.t 7)),iI 9 (.faddr 3 (.t 5)),iI 10 (.load 0 (.t 9)),iI 11 (.bin .eql (.t 8) (.t 10)),iI 12 (.mv (.t 11)),iG (some 13) 12 true (.faddr 4 (.t 4)),iG (some 14) 12 true (.load 0 (.t 13)),iG (some 15) 12 true (.faddr 4 (.t 5)),iG (some 16) 12 true (.load 0 (.t 15)),iG (some 17) 12 true (.mv (.t 0)),iG (some 18) 12 true (.load 7 (.t 5)),iG (some 19) 12 true (.call (.c (.fn 172 [])) [(.t 17),(.t 18)]),iG (some 20) 12 true (.bin .add (.t 16) (.t 19)),iG (some 21) 12 true (.bin .lss (.t 14) (.t 20)),iI 22 (.pick (.t 12) (.t 21) (.c (.bool false))),iI 23 (.mv (.t 22)),iG (some 24) 23 true (.faddr 4 (.t 5)),iG (some 25) 23 true (.load 0 (.t 24)),iG (some 26) 23 true (.faddr 4 (.t 4)),iG (some 27) 23 true (.load 0 (.t 26)),iG (some 28) 23 true (.mv (.t 0)),iG (some 29) 23 true (.load 7 (.t 4)),iG (some 30) 23 true (.call (.c (.fn 172 [])) [(.t 28),(.t 29)]),iG (some 31) 23 true (.bin .add (.t 27) (.t 30)),iG (some 32) 23 true (.bin .lss (.t 25) (.t 31)),iI 33 (.pick (.t 23) (.t 32) (.c (.bool false))),iI 6 (.mv (.t 33))]) .ret
def ir115:C:=.seq (.reg [iI 4 (.box (.t 1)),iI 5 (.box (.t 2)),iI 6 (.mv (.c (.bool false)))]) c115_0
theorem fd115:fd? Tryz.prog 115=some (34,[.slot 6],ir115):=by kernel_rfl
def f115(x0:(List ApiProfile))(x1:ApiFixture)(x2:ApiFixture):Option (Bool) :=
  (if (decide (x1.fUniverse=x2.fUniverse))=true then (f172 x0 x2).bind fun x3=>(if (decide (x1.fAddress<(IntKind.i64.wrap (x2.fAddress + x3))))=true then (f172 x0 x1).bind fun x4=>(some (decide (x2.fAddress<(IntKind.i64.wrap (x1.fAddress + x4))))) else (some false)) else (some false))
theorem f115_ok{x0:(List ApiProfile)}{x1:ApiFixture}{x2:ApiFixture}{r_:Bool}(H:f115 x0 x1 x2=some r_):Pure Tryz.prog 115 [.sl 4 false (x0.map eApiProfile),.agg [.int .i64 x1.fChannel,.int .i64 x1.fPart,.str x1.fProfile,.int .i64 x1.fUniverse,.int .i64 x1.fAddress,.int .i64 x1.fPhase,.str x1.fCable],.agg [.int .i64 x2.fChannel,.int .i64 x2.fPart,.str x2.fProfile,.int .i64 x2.fUniverse,.int .i64 x2.fAddress,.int .i64 x2.fPhase,.str x2.fCable]] (· = .bool r_):=by
 refine w3 fd115 fun Q hQ=>?_
 simp only[f115] at H
 refine zr ?_
 refine AW.rqseq ?_
 refine zs ?_
 refine ig H ?_ ?_<;>clear H<;>intro H
 ·refine zs ?_
  refine evTs_pure hFnq H (fun _ h=>f172_ok h) (by rfl) (by rfl) (by rfl) (by rfl) (fun _=>rfl) ?_<;>clear H<;>intro x3 H
  refine zE0 ?_
  refine ig H ?_ ?_<;>clear H<;>intro H
  ·refine zs ?_
   refine evTs_pure hFnq H (fun _ h=>f172_ok h) (by rfl) (by rfl) (by rfl) (by rfl) (fun _=>rfl) ?_<;>clear H<;>intro x4 H
   refine zE0 ?_
   cases H
   exact zt (zf hQ)
  ·refine zs ?_
   cases H
   exact zt (zf hQ)
 ·refine zs ?_
  cases H
  exact zt (zf hQ)
def f73_L3(x0:Int)(x1:(List ApiFixture))(x2:(List ApiProfile)):Lp (Int) ((Unit)⊕(Unit)) where
  body:=fun x3=>(if (decide (x3<x0))=true then (at? x1 x3).bind fun x4=>(at? x1 x0).bind fun x5=>(f115 x2 x4 x5).bind fun x6=>(if x6=true then (some (.brk (Sum.inr ()))) else (some (.next (IntKind.i64.wrap (x3 + 1))))) else (some (.brk (Sum.inl ()))))
  cst:=fun x3=>⟨put (put (put (put (fun _=>.junk) 8 (.int .i64 x3)) 5 (.int .i64 x0)) 1 (.sl 4 false (x2.map eApiProfile))) 0 (.sl 7 false (x1.map eApiFixture)),[]⟩
theorem f73_L3c(x0:Int)(x1:(List ApiFixture))(x2:(List ApiProfile))(x3:Int):(f73_L3 x0 x1 x2).cst x3=⟨put (put (put (put (fun _=>.junk) 8 (.int .i64 x3)) 5 (.int .i64 x0)) 1 (.sl 4 false (x2.map eApiProfile))) 0 (.sl 7 false (x1.map eApiFixture)),[]⟩:=rfl
def f73_L2(x0:Int)(x1:(List ApiFixture))(x2:(List ApiProfile)):Lp (Int) ((Unit)⊕(Unit)) where
  body:=fun x3=>(if (decide (x3<x0))=true then (at? x1 x3).bind fun x4=>(at? x1 x0).bind fun x5=>(if (decide (x4.fChannel=x5.fChannel))=true then (at? x1 x3).bind fun x6=>(at? x1 x0).bind fun x7=>(if (decide (x6.fPart=x7.fPart))=true then (some (.brk (Sum.inr ()))) else (some (.next (IntKind.i64.wrap (x3 + 1))))) else (some (.next (IntKind.i64.wrap (x3 + 1))))) else (some (.brk (Sum.inl ()))))
  cst:=fun x3=>⟨put (put (put (put (fun _=>.junk) 7 (.int .i64 x3)) 5 (.int .i64 x0)) 1 (.sl 4 false (x2.map eApiProfile))) 0 (.sl 7 false (x1.map eApiFixture)),[]⟩
theorem f73_L2c(x0:Int)(x1:(List ApiFixture))(x2:(List ApiProfile))(x3:Int):(f73_L2 x0 x1 x2).cst x3=⟨put (put (put (put (fun _=>.junk) 7 (.int .i64 x3)) 5 (.int .i64 x0)) 1 (.sl 4 false (x2.map eApiProfile))) 0 (.sl 7 false (x1.map eApiFixture)),[]⟩:=rfl
def f73_L1(x0:(List ApiFixture))(x1:(List ApiProfile)):Lp (Int) ((Unit)⊕(Int)) where
  body:=fun x2=>(if (decide (x2<((x0.length:Nat):Int)))=true then (at? x0 x2).bind fun x3=>(f114 x1 x3).bind fun x4=>(if (decide (x4≠0))=true then (some (.brk (Sum.inr x4))) else ((Lp.run (f73_L2 x2 x0 x1) 0).bind fun r_=>match r_ with | (Sum.inl _)=>((Lp.run (f73_L3 x2 x0 x1) 0).bind fun r_=>match r_ with | (Sum.inl _)=>(some (.next (IntKind.i64.wrap (x2 + 1)))) | (Sum.inr _)=>(some (.brk (Sum.inr 10)))) | (Sum.inr _)=>(some (.brk (Sum.inr 7))))) else (some (.brk (Sum.inl ()))))
  cst:=fun x2=>⟨put (put (put (fun _=>.junk) 5 (.int .i64 x2)) 1 (.sl 4 false (x1.map eApiProfile))) 0 (.sl 7 false (x0.map eApiFixture)),[]⟩
theorem f73_L1c(x0:(List ApiFixture))(x1:(List ApiProfile))(x2:Int):(f73_L1 x0 x1).cst x2=⟨put (put (put (fun _=>.junk) 5 (.int .i64 x2)) 1 (.sl 4 false (x1.map eApiProfile))) 0 (.sl 7 false (x0.map eApiFixture)),[]⟩:=rfl
def c73_3:C:=.seq (.reg [iI 29 (.mv (.t 6)),iI 30 (.bin .neq (.t 29) (.c (.int .i64 0)))]) (.cond (.t 30) (.seq (.reg [iI 31 (.mv (.t 6)),iI 4 (.mv (.t 31))]) .ret) (.skip))
def c73_7:C:=.seq (.block 3 (.seq (.reg [iI 37 (.mv (.t 0)),iI 38 (.mv (.t 7)),iI 39 (.iaddr 7 (.t 37) (.t 38)),iI 40 (.faddr 0 (.t 39)),iI 41 (.load 0 (.t 40)),iI 42 (.mv (.t 0)),iI 43 (.mv (.t 5)),iI 44 (.iaddr 7 (.t 42) (.t 43)),iI 45 (.faddr 0 (.t 44)),iI 46 (.load 0 (.t 45)),iI 47 (.bin .eql (.t 41) (.t 46)),iI 48 (.mv (.t 47)),iG (some 49) 48 true (.mv (.t 0)),iG (some 50) 48 true (.mv (.t 7)),iG (some 51) 48 true (.iaddr 7 (.t 49) (.t 50)),iG (some 52) 48 true (.faddr 1 (.t 51)),iG (some 53) 48 true (.load 0 (.t 52)),iG (some 54) 48 true (.mv (.t 0)),iG (some 55) 48 true (.mv (.t 5)),iG (some 56) 48 true (.iaddr 7 (.t 54) (.t 55)),iG (some 57) 48 true (.faddr 1 (.t 56)),iG (some 58) 48 true (.load 0 (.t 57)),iG (some 59) 48 true (.bin .eql (.t 53) (.t 58)),iI 60 (.pick (.t 48) (.t 59) (.c (.bool false)))]) (.cond (.t 60) (.seq (.reg [iI 4 (.mv (.c (.int .i64 7)))]) .ret) (.skip)))) (.reg [iI 35 (.mv (.t 7)),iI 36 (.bin .add (.t 35) (.c (.int .i64 1))),iI 7 (.mv (.t 36))])
def c73_12:C:=.seq (.block 5 (.seq (.reg [iI 66 (.mv (.t 1)),iI 67 (.mv (.t 0)),iI 68 (.mv (.t 8)),iI 69 (.iaddr 7 (.t 67) (.t 68)),iI 70 (.load 7 (.t 69)),iI 71 (.mv (.t 0)),iI 72 (.mv (.t 5)),iI 73 (.iaddr 7 (.t 71) (.t 72)),iI 74 (.load 7 (.t 73)),iI 75 (.call (.c (.fn 115 [])) [(.t 66),(.t 70),(.t 74)])]) (.cond (.t 75) (.seq (.reg [iI 4 (.mv (.c (.int .i64 10)))]) .ret) (.skip)))) (.reg [iI 64 (.mv (.t 8)),iI 65 (.bin .add (.t 64) (.c (.int .i64 1))),iI 8 (.mv (.t 65))])
def c73_14:C:=.seq (.reg [iI 8 (.mv (.c (.int .i64 0)))]) (.block 4 (.loop (.seq (.seq (.reg [iI 61 (.mv (.t 8)),iI 62 (.mv (.t 5)),iI 63 (.bin .lss (.t 61) (.t 62))]) (.cond (.t 63) (.skip) (.exit 4))) c73_12)))
def c73_15:C:=.seq (.seq (.reg [iI 7 (.mv (.c (.int .i64 0)))]) (.block 2 (.loop (.seq (.seq (.reg [iI 32 (.mv (.t 7)),iI 33 (.mv (.t 5)),iI 34 (.bin .lss (.t 32) (.t 33))]) (.cond (.t 34) (.skip) (.exit 2))) c73_7)))) c73_14
def c73_17:C:=.seq (.block 1 (.seq (.seq (.reg [iI 23 (.mv (.t 1)),iI 24 (.mv (.t 0)),iI 25 (.mv (.t 5)),iI 26 (.iaddr 7 (.t 24) (.t 25)),iI 27 (.load 7 (.t 26)),iI 28 (.call (.c (.fn 114 [])) [(.t 23),(.t 27)]),iI 6 (.mv (.t 28))]) c73_3) c73_15)) (.reg [iI 21 (.mv (.t 5)),iI 22 (.bin .add (.t 21) (.c (.int .i64 1))),iI 5 (.mv (.t 22))])
def c73_18:C:=.block 0 (.loop (.seq (.seq (.reg [iI 17 (.mv (.t 5)),iI 18 (.mv (.t 0)),iI 19 (.len 0 (.t 18)),iI 20 (.bin .lss (.t 17) (.t 19))]) (.cond (.t 20) (.skip) (.exit 0))) c73_17))
def c73_21:C:=.seq (.seq (.reg [iI 9 (.mv (.t 1)),iI 10 (.len 0 (.t 9)),iI 11 (.bin .gtr (.t 10) (.c (.int .i64 32))),iI 12 (.mv (.t 11)),iG (some 13) 12 false (.mv (.t 0)),iG (some 14) 12 false (.len 0 (.t 13)),iG (some 15) 12 false (.bin .gtr (.t 14) (.c (.int .i64 64))),iI 16 (.pick (.t 12) (.c (.bool true)) (.t 15))]) (.cond (.t 16) (.seq (.reg [iI 4 (.mv (.c (.int .i64 5)))]) .ret) (.skip))) (.seq (.seq (.reg [iI 5 (.mv (.c (.int .i64 0)))]) c73_18) (.seq (.reg [iI 4 (.mv (.c (.int .i64 0)))]) .ret))
def ir73:C:=.seq (.reg [iI 4 (.mv (.c (.int .i64 0)))]) c73_21
theorem fd73:fd? Tryz.prog 73=some (76,[.slot 4],ir73):=by kernel_rfl
def f73(x0:(List ApiFixture))(x1:(List ApiProfile)):Option (Int) :=
  (if (decide (32<((x1.length:Nat):Int)))=true then (some 5) else (if (decide (64<((x0.length:Nat):Int)))=true then (some 5) else ((Lp.run (f73_L1 x0 x1) 0).bind fun r_=>match r_ with | (Sum.inl _)=>(some 0) | (Sum.inr x2)=>(some x2))))
theorem f73_ok{x0:(List ApiFixture)}{x1:(List ApiProfile)}{r_:Int}(H:f73 x0 x1=some r_):Pure Tryz.prog 73 [.sl 7 false (x0.map eApiFixture),.sl 4 false (x1.map eApiProfile)] (· = .int .i64 r_):=by
 refine w3 fd73 fun Q hQ=>?_
 simp only[f73] at H
 refine zr ?_
 refine zq (zr ?_)
 refine ig H ?_ ?_<;>clear H<;>intro H
 ·refine zs ?_
  refine za (zr ?_)
  cases H
  exact zt (zv (zf hQ))
 ·refine zs ?_
  refine ic H ?_ ?_<;>clear H<;>intro H
  ·refine zr ?_
   cases H
   exact zt (zv (zf hQ))
  ·refine zk (zm (zq (zr ?_)))
   refine zd ?_
   refine zU H [] [0,1,5] (f73_L1c ..) ?_<;>clear H
   rintro x2 x_ st0_ H hst_
   rw[f73_L1c] at hst_
   simp only[f73_L1] at H
   subst hst_
   refine zq (zr ?_)
   refine ic H ?_ ?_<;>clear H<;>intro H
   ·refine zk (zm (zb (zq (zr ?_))))
    refine ia eApiFixture H ?_<;>clear H<;>intro x3 H
    refine zE8 ?_
    refine pu H f114_ok ?_<;>clear H<;>intro x4 H
    refine zE0 ?_
    refine zr ?_
    refine ic H ?_ ?_<;>clear H<;>intro H
    ·refine zr ?_
     refine zt (zv (zp (loopQ.ret H ?_)))<;>clear H<;>intro H
     try dsimp only at H
     cases H
     exact zh (zv (zf hQ))
    ·refine zk (zm (zq (zr ?_)))
     refine zd ?_
     refine zU H [] [0,1,5,7] (f73_L2c ..) ?_<;>clear H
     rintro x5 x_ st0_ H hst_
     rw[f73_L2c] at hst_
     simp only[f73_L2] at H
     subst hst_
     refine zq (zr ?_)
     refine ic H ?_ ?_<;>clear H<;>intro H
     ·refine zk (zm (zb (zr ?_)))
      refine ia eApiFixture H ?_<;>clear H<;>intro x6 H
      refine zE8 ?_
      refine ia eApiFixture H ?_<;>clear H<;>intro x7 H
      refine zE8 ?_
      refine ig H ?_ ?_<;>clear H<;>intro H
      ·refine zs ?_
       refine ia eApiFixture H ?_<;>clear H<;>intro x8 H
       refine zE8 ?_
       refine ia eApiFixture H ?_<;>clear H<;>intro x9 H
       refine zE8 ?_
       refine ic H ?_ ?_<;>clear H<;>intro H
       ·refine zr ?_
        refine zt (zp (loopQ.ret H ?_))<;>clear H<;>intro H
        try dsimp only at H
        refine zh (zv (zp (loopQ.ret H ?_)))<;>clear H<;>intro H
        try dsimp only at H
        cases H
        exact zh (zv (zf hQ))
       ·refine zk (zo (ze ?_))
        exact zu H [] [0,1,5,7] (f73_L2c ..)
      ·refine zs ?_
       refine zc (zk (zo (ze ?_)))
       exact zu H [] [0,1,5,7] (f73_L2c ..)
     ·refine zx (zy (loopQ.exit H ?_))<;>clear H<;>intro H
      try dsimp only at H
      refine zi (zm (zr ?_))
      refine zd ?_
      refine zU H [] [0,1,5,8] (f73_L3c ..) ?_<;>clear H
      rintro xa x_ st0_ H hst_
      rw[f73_L3c] at hst_
      simp only[f73_L3] at H
      subst hst_
      refine zq (zr ?_)
      refine ic H ?_ ?_<;>clear H<;>intro H
      ·refine zk (zm (zb (zr ?_)))
       refine ia eApiFixture H ?_<;>clear H<;>intro xb H
       refine zE8 ?_
       refine ia eApiFixture H ?_<;>clear H<;>intro xc H
       refine zE8 ?_
       refine pu H f115_ok ?_<;>clear H<;>intro xd H
       refine zE0 ?_
       refine ic H ?_ ?_<;>clear H<;>intro H
       ·refine zr ?_
        refine zt (zp (loopQ.ret H ?_))<;>clear H<;>intro H
        try dsimp only at H
        refine zh (zp (loopQ.ret H ?_))<;>clear H<;>intro H
        try dsimp only at H
        cases H
        exact zh (zv (zf hQ))
       ·refine zk (zo (ze ?_))
        exact zu H [] [0,1,5,8] (f73_L3c ..)
      ·refine zx (zy (loopQ.exit H ?_))<;>clear H<;>intro H
       try dsimp only at H
       refine zi (zo (ze ?_))
       exact zu H [] [0,1,5] (f73_L1c ..)
   ·refine zx (zy (loopQ.exit H ?_))<;>clear H<;>intro H
    try dsimp only at H
    refine zi (zm (zr ?_))
    cases H
    exact zt (zf hQ)
def f29_L1(x0:Ref13Rig):Lp (Int) ((Unit)⊕(Int)) where
  body:=fun x1=>(if (decide (x1<((x0.fProfiles.length:Nat):Int)))=true then (at? x0.fProfiles x1).bind fun x2=>(f71 x2 x0.fCurves).bind fun x3=>(if (decide (x3≠0))=true then (some (.brk (Sum.inr x3))) else (slc? x0.fProfiles 0 x1).bind fun x4=>(at? x0.fProfiles x1).bind fun x5=>(f72 x4 x5.fName).bind fun x6=>(if (decide (0≤x6))=true then (some (.brk (Sum.inr 7))) else (some (.next (IntKind.i64.wrap (x1 + 1)))))) else (some (.brk (Sum.inl ()))))
  cst:=fun x1=>⟨put (put (fun _=>.junk) 4 (.int .i64 x1)) 1 (.ptr 0 0),[.cel [.sl 0 false (x0.fCurves.map (eL 2 eApiPoint)),.sl 4 false (x0.fProfiles.map eApiProfile),.sl 7 false (x0.fFixtures.map eApiFixture)]]⟩
theorem f29_L1c(x0:Ref13Rig)(x1:Int):(f29_L1 x0).cst x1=⟨put (put (fun _=>.junk) 4 (.int .i64 x1)) 1 (.ptr 0 0),[.cel [.sl 0 false (x0.fCurves.map (eL 2 eApiPoint)),.sl 4 false (x0.fProfiles.map eApiProfile),.sl 7 false (x0.fFixtures.map eApiFixture)]]⟩:=rfl
def c29_5:C:=.seq (.reg [iI 31 (.mv (.t 5)),iI 32 (.bin .neq (.t 31) (.c (.int .i64 0)))]) (.cond (.t 32) (.seq (.reg [iI 33 (.mv (.t 5)),iI 2 (.mv (.t 33))]) .ret) (.skip))
def c29_7:C:=.seq (.reg [iI 34 (.faddr 1 (.t 1)),iI 35 (.load 0 (.t 34)),iI 36 (.mv (.t 4)),iI 37 (.slice 4 (.t 35) none (some (.t 36))),iI 38 (.faddr 1 (.t 1)),iI 39 (.load 0 (.t 38)),iI 40 (.mv (.t 4)),iI 41 (.iaddr 4 (.t 39) (.t 40)),iI 42 (.faddr 0 (.t 41)),iI 43 (.load 0 (.t 42)),iI 44 (.call (.c (.fn 72 [])) [(.t 37),(.t 43)]),iI 45 (.bin .geq (.t 44) (.c (.int .i64 0)))]) (.cond (.t 45) (.seq (.reg [iI 2 (.mv (.c (.int .i64 7)))]) .ret) (.skip))
def c29_9:C:=.seq (.block 1 (.seq (.seq (.reg [iI 23 (.faddr 1 (.t 1)),iI 24 (.load 0 (.t 23)),iI 25 (.mv (.t 4)),iI 26 (.iaddr 4 (.t 24) (.t 25)),iI 27 (.load 4 (.t 26)),iI 28 (.faddr 0 (.t 1)),iI 29 (.load 0 (.t 28)),iI 30 (.call (.c (.fn 71 [])) [(.t 27),(.t 29)]),iI 5 (.mv (.t 30))]) c29_5) c29_7)) (.reg [iI 21 (.mv (.t 4)),iI 22 (.bin .add (.t 21) (.c (.int .i64 1))),iI 4 (.mv (.t 22))])
def c29_10:C:=.block 0 (.loop (.seq (.seq (.reg [iI 16 (.mv (.t 4)),iI 17 (.faddr 1 (.t 1)),iI 18 (.load 0 (.t 17)),iI 19 (.len 0 (.t 18)),iI 20 (.bin .lss (.t 16) (.t 19))]) (.cond (.t 20) (.skip) (.exit 0))) c29_9))
def c29_11:C:=.seq (.reg [iI 46 (.faddr 2 (.t 1)),iI 47 (.load 0 (.t 46)),iI 48 (.faddr 1 (.t 1)),iI 49 (.load 0 (.t 48)),iI 50 (.call (.c (.fn 73 [])) [(.t 47),(.t 49)]),iI 2 (.mv (.t 50))]) .ret
def c29_13:C:=.seq (.seq (.reg [iI 12 (.faddr 1 (.t 1)),iI 13 (.load 0 (.t 12)),iI 14 (.len 0 (.t 13)),iI 15 (.bin .gtr (.t 14) (.c (.int .i64 32)))]) (.cond (.t 15) (.seq (.reg [iI 2 (.mv (.c (.int .i64 5)))]) .ret) (.skip))) (.seq (.seq (.reg [iI 4 (.mv (.c (.int .i64 0)))]) c29_10) c29_11)
def c29_14:C:=.seq (.seq (.reg [iI 6 (.faddr 0 (.t 1)),iI 7 (.load 0 (.t 6)),iI 8 (.call (.c (.fn 70 [])) [(.t 7)]),iI 3 (.mv (.t 8))]) (.seq (.reg [iI 9 (.mv (.t 3)),iI 10 (.bin .neq (.t 9) (.c (.int .i64 0)))]) (.cond (.t 10) (.seq (.reg [iI 11 (.mv (.t 3)),iI 2 (.mv (.t 11))]) .ret) (.skip)))) c29_13
def ir29:C:=.seq (.reg [iI 1 (.box (.t 0)),iI 2 (.mv (.c (.int .i64 0)))]) c29_14
theorem fd29:fd? Tryz.prog 29=some (51,[.slot 2],ir29):=by kernel_rfl
def f29(x0:Ref13Rig):Option (Int) :=
  (f70 x0.fCurves).bind fun x1=>(if (decide (x1≠0))=true then (some x1) else (if (decide (32<((x0.fProfiles.length:Nat):Int)))=true then (some 5) else ((Lp.run (f29_L1 x0) 0).bind fun r_=>match r_ with | (Sum.inl _)=>(f73 x0.fFixtures x0.fProfiles).bind fun x2=>(some x2) | (Sum.inr x3)=>(some x3))))
theorem f29_ok{x0:Ref13Rig}{r_:Int}(H:f29 x0=some r_):Pure Tryz.prog 29 [.agg [.sl 0 false (x0.fCurves.map (eL 2 eApiPoint)),.sl 4 false (x0.fProfiles.map eApiProfile),.sl 7 false (x0.fFixtures.map eApiFixture)]] (· = .int .i64 r_):=by
 refine w3 fd29 fun Q hQ=>?_
 simp only[f29] at H
 refine zr ?_
 refine zq (zr ?_)
 refine pu H f70_ok ?_<;>clear H<;>intro x1 H
 refine zE0 ?_
 refine zr ?_
 refine ic H ?_ ?_<;>clear H<;>intro H
 ·refine zr ?_
  cases H
  exact zt (zv (zf hQ))
 ·refine zk (zm (zq (zr ?_)))
  refine ic H ?_ ?_<;>clear H<;>intro H
  ·refine zr ?_
   cases H
   exact zt (zv (zf hQ))
  ·refine zk (zm (zq (zr ?_)))
   refine zd ?_
   refine zU H [0] [1,4] (f29_L1c ..) ?_<;>clear H
   rintro x2 x_ st0_ H hst_
   rw[f29_L1c] at hst_
   simp only[f29_L1] at H
   subst hst_
   refine zq (zr ?_)
   refine ic H ?_ ?_<;>clear H<;>intro H
   ·refine zk (zm (zb (zq (zr ?_))))
    refine ia eApiProfile H ?_<;>clear H<;>intro x3 H
    refine zE6 ?_
    refine pu H f71_ok ?_<;>clear H<;>intro x4 H
    refine zE0 ?_
    refine zr ?_
    refine ic H ?_ ?_<;>clear H<;>intro H
    ·refine zr ?_
     refine zt (zv (zp (loopQ.ret H ?_)))<;>clear H<;>intro H
     try dsimp only at H
     cases H
     exact zh (zv (zf hQ))
    ·refine zk (zm (zr ?_))
     refine sc eApiProfile H ?_<;>clear H<;>intro x5 H
     refine zs ?_
     refine ia eApiProfile H ?_<;>clear H<;>intro x6 H
     refine zE6 ?_
     refine pu H f72_ok ?_<;>clear H<;>intro x7 H
     refine zE0 ?_
     refine ic H ?_ ?_<;>clear H<;>intro H
     ·refine zr ?_
      refine zt (zp (loopQ.ret H ?_))<;>clear H<;>intro H
      try dsimp only at H
      cases H
      exact zh (zv (zf hQ))
     ·refine zk (zo (ze ?_))
      exact zu H [0] [1,4] (f29_L1c ..)
   ·refine zx (zy (loopQ.exit H ?_))<;>clear H<;>intro H
    try dsimp only at H
    refine zi (zm (zr ?_))
    refine pu H f73_ok ?_<;>clear H<;>intro x8 H
    refine zE0 ?_
    cases H
    exact zt (zf hQ)
def c59_0:C:=.seq (.reg [iI 3 (.mv (.t 0)),iI 4 (.bin .geq (.t 3) (.c (.int .i64 (-1)))),iI 5 (.mv (.t 4)),iG (some 6) 5 true (.mv (.t 0)),iG (some 7) 5 true (.bin .leq (.t 6) (.c (.int .i64 18))),iI 8 (.pick (.t 5) (.t 7) (.c (.bool false))),iI 2 (.mv (.t 8))]) .ret
def ir59:C:=.seq (.reg [iI 2 (.mv (.c (.bool false)))]) c59_0
theorem fd59:fd? Tryz.prog 59=some (9,[.slot 2],ir59):=by kernel_rfl
def f59(x0:Int):Option (Bool) :=
  (if (decide ((-1)≤x0))=true then (some (decide (x0≤18))) else (some false))
theorem f59_ok{x0:Int}{r_:Bool}(H:f59 x0=some r_):Pure Tryz.prog 59 [.int .i64 x0] (· = .bool r_):=by
 refine w3 fd59 fun Q hQ=>?_
 simp only[f59] at H
 refine zr ?_
 refine zr ?_
 refine ig H ?_ ?_<;>clear H<;>intro H
 ·refine zs ?_
  cases H
  exact zt (zf hQ)
 ·refine zs ?_
  cases H
  exact zt (zf hQ)
def f145_L1(x0:(List Int))(x1:Int):Lp (Int×(List Int)) (Int×(List Int)) where
  body:=fun (x2,x3)=>(if (decide (x2<((x0.length:Nat):Int)))=true then (at? x0 x2).bind fun x4=>(if (decide (x4<x1))=true then (at? x0 x2).bind fun x5=>(app? 8 x3 ([x5])).bind fun x6=>(some (.next ((IntKind.i64.wrap (x2 + 1)),x6))) else (some (.brk (x2,x3)))) else (some (.brk (x2,x3))))
  cst:=fun (x2,x3)=>⟨put (put (put (put (fun _=>.junk) 6 (.int .i64 x2)) 5 (.row 0 0 0 x3.length)) 1 (.int .i64 x1)) 0 (.sl 0 false (x0.map (AV.int .i64))),[.els 0 (x3.map (AV.int .i64))]⟩
theorem f145_L1c(x0:(List Int))(x1:Int)(x2:Int)(x3:(List Int)):(f145_L1 x0 x1).cst (x2,x3)=⟨put (put (put (put (fun _=>.junk) 6 (.int .i64 x2)) 5 (.row 0 0 0 x3.length)) 1 (.int .i64 x1)) 0 (.sl 0 false (x0.map (AV.int .i64))),[.els 0 (x3.map (AV.int .i64))]⟩:=rfl
def c145_2:C:=.block 1 (.seq (.reg [iI 19 (.mv (.t 5)),iI 20 (.mv (.t 0)),iI 21 (.mv (.t 6)),iI 22 (.iaddr 0 (.t 20) (.t 21)),iI 23 (.load 0 (.t 22)),iI 24 (.mkslp 0 1 (.int .i64 0) [(0,(.t 23))]),iI 25 (.append 0 8 (.t 19) (.t 24)),iI 5 (.mv (.t 25))]) (.reg [iI 26 (.mv (.t 6)),iI 27 (.bin .add (.t 26) (.c (.int .i64 1))),iI 6 (.mv (.t 27))]))
def c145_3:C:=.cond (.t 39) (.reg [iI 40 (.mv (.t 5)),iI 41 (.mv (.t 1)),iI 42 (.mkslp 0 1 (.int .i64 0) [(0,(.t 41))]),iI 43 (.append 0 8 (.t 40) (.t 42)),iI 5 (.mv (.t 43))]) (.skip)
def c145_4:C:=.seq (.reg [iI 44 (.mv (.t 5)),iI 45 (.mv (.t 0)),iI 46 (.mv (.t 6)),iI 47 (.slice 0 (.t 45) (some (.t 46)) none),iI 48 (.append 0 8 (.t 44) (.t 47)),iI 4 (.mv (.t 48))]) .ret
def c145_5:C:=.seq (.seq (.reg [iI 28 (.mv (.t 6)),iI 29 (.mv (.t 0)),iI 30 (.len 0 (.t 29)),iI 31 (.bin .eql (.t 28) (.t 30)),iI 32 (.mv (.t 31)),iG (some 33) 32 false (.mv (.t 0)),iG (some 34) 32 false (.mv (.t 6)),iG (some 35) 32 false (.iaddr 0 (.t 33) (.t 34)),iG (some 36) 32 false (.load 0 (.t 35)),iG (some 37) 32 false (.mv (.t 1)),iG (some 38) 32 false (.bin .neq (.t 36) (.t 37)),iI 39 (.pick (.t 32) (.c (.bool true)) (.t 38))]) c145_3) c145_4
def c145_6:C:=.seq (.block 0 (.loop (.seq (.seq (.reg [iI 7 (.mv (.t 6)),iI 8 (.mv (.t 0)),iI 9 (.len 0 (.t 8)),iI 10 (.bin .lss (.t 7) (.t 9)),iI 11 (.mv (.t 10)),iG (some 12) 11 true (.mv (.t 0)),iG (some 13) 11 true (.mv (.t 6)),iG (some 14) 11 true (.iaddr 0 (.t 12) (.t 13)),iG (some 15) 11 true (.load 0 (.t 14)),iG (some 16) 11 true (.mv (.t 1)),iG (some 17) 11 true (.bin .lss (.t 15) (.t 16)),iI 18 (.pick (.t 11) (.t 17) (.c (.bool false)))]) (.cond (.t 18) (.skip) (.exit 0))) c145_2))) c145_5
def ir145:C:=.seq (.reg [iI 4 (.mv (.c (.sl 0 true [])))]) (.seq (.reg [iI 5 (.mv (.c (.sl 0 true [])))]) (.seq (.reg [iI 6 (.mv (.c (.int .i64 0)))]) c145_6))
theorem fd145:fd? Tryz.prog 145=some (49,[.slot 4],ir145):=by kernel_rfl
def f145(x0:(List Int))(x1:Int):Option ((List Int)) :=
  (Lp.run (f145_L1 x0 x1) (0,[])).bind fun (x2,x3)=>(if (decide (x2=((x0.length:Nat):Int)))=true then (app? 8 x3 ([x1])).bind fun x4=>(slc? x0 x2 ((x0.length:Nat):Int)).bind fun x5=>(app? 8 x4 x5).bind fun x6=>(some x6) else (at? x0 x2).bind fun x7=>(if (decide (x7≠x1))=true then (app? 8 x3 ([x1])).bind fun x8=>(slc? x0 x2 ((x0.length:Nat):Int)).bind fun x9=>(app? 8 x8 x9).bind fun xa=>(some xa) else (slc? x0 x2 ((x0.length:Nat):Int)).bind fun xb=>(app? 8 x3 xb).bind fun xc=>(some xc)))
theorem f145_ok{x0:(List Int)}{x1:Int}{r_:(List Int)}(H:f145 x0 x1=some r_):Pure Tryz.prog 145 [.sl 0 false (x0.map (AV.int .i64)),.int .i64 x1] (· = .fr 0 (r_.map (AV.int .i64))):=by
 refine w3s fd145 0 fun Q hQ=>?_
 simp only[f145] at H
 refine zr ?_
 refine zr ?_
 refine zr ?_
 refine zb ?_
 refine AW.iter H ((Le.trans (Le.nilRow (i:=5) (e:=0) (by simp only[↓wk,↓wl,nq,evV,↓reduceIte,sevalprocAttr])) (Le.tz [0] [0,1,5,6] (by simp only[f145_L1c,wm,wmr,rrm,↓wk,↓wl,evV,↓reduceIte,sevalprocAttr]<;>rfl)))) ?_<;>clear H
 rintro ⟨x2,x3⟩ x_ st0_ H hst_
 rw[f145_L1c] at hst_
 simp only[f145_L1] at H
 subst hst_
 refine zq (zr ?_)
 refine ig H ?_ ?_<;>clear H<;>intro H
 ·refine zs ?_
  refine ia (AV.int .i64) H ?_<;>clear H<;>intro x4 H
  refine zs ?_
  refine ic H ?_ ?_<;>clear H<;>intro H
  ·refine zk (zm (zd (zr ?_)))
   refine ia (AV.int .i64) H ?_<;>clear H<;>intro x5 H
   refine zs ?_
   refine ap (AV.int .i64) H ?_<;>clear H<;>intro x6 H
   refine zs ?_
   refine ze ?_
   refine zl ?_
   exact zu H [1] [0,1,5,6] (f145_L1c ..)
  ·refine zx (zy (loopQ.exit H ?_))<;>clear H<;>intro H
   try dsimp only at H
   refine zj (zq (zr ?_))
   refine ig H ?_ ?_<;>clear H<;>intro H
   ·refine zs ?_
    refine za (ze ?_)
    refine ap (AV.int .i64) H ?_<;>clear H<;>intro x7 H
    refine zs ?_
    refine zm (zr ?_)
    refine sc (AV.int .i64) H ?_<;>clear H<;>intro x8 H
    refine zs ?_
    refine ap (AV.int .i64) H ?_<;>clear H<;>intro x9 H
    refine zs ?_
    cases H
    exact zt (zf2 hQ)
   ·refine zs ?_
    refine ia (AV.int .i64) H ?_<;>clear H<;>intro xa H
    refine zs ?_
    refine ic H ?_ ?_<;>clear H<;>intro H
    ·refine ze ?_
     refine ap (AV.int .i64) H ?_<;>clear H<;>intro xb H
     refine zs ?_
     refine zm (zr ?_)
     refine sc (AV.int .i64) H ?_<;>clear H<;>intro xc H
     refine zs ?_
     refine ap (AV.int .i64) H ?_<;>clear H<;>intro xd H
     refine zs ?_
     cases H
     exact zt (zf2 hQ)
    ·refine zk (zm (zr ?_))
     refine sc (AV.int .i64) H ?_<;>clear H<;>intro xe H
     refine zs ?_
     refine ap (AV.int .i64) H ?_<;>clear H<;>intro xf H
     refine zs ?_
     cases H
     exact zt (zf2 hQ)
 ·refine zs ?_
  refine zc (zx (zy (loopQ.exit H ?_)))<;>clear H<;>intro H
  try dsimp only at H
  refine zj (zq (zr ?_))
  refine ig H ?_ ?_<;>clear H<;>intro H
  ·refine zs ?_
   refine za (ze ?_)
   refine ap (AV.int .i64) H ?_<;>clear H<;>intro xg H
   refine zs ?_
   refine zm (zr ?_)
   refine sc (AV.int .i64) H ?_<;>clear H<;>intro xh H
   refine zs ?_
   refine ap (AV.int .i64) H ?_<;>clear H<;>intro xi H
   refine zs ?_
   cases H
   exact zt (zf2 hQ)
  ·refine zs ?_
   refine ia (AV.int .i64) H ?_<;>clear H<;>intro xj H
   refine zs ?_
   refine ic H ?_ ?_<;>clear H<;>intro H
   ·refine ze ?_
    refine ap (AV.int .i64) H ?_<;>clear H<;>intro xk H
    refine zs ?_
    refine zm (zr ?_)
    refine sc (AV.int .i64) H ?_<;>clear H<;>intro xl H
    refine zs ?_
    refine ap (AV.int .i64) H ?_<;>clear H<;>intro xm H
    refine zs ?_
    cases H
    exact zt (zf2 hQ)
   ·refine zk (zm (zr ?_))
    refine sc (AV.int .i64) H ?_<;>clear H<;>intro xn H
    refine zs ?_
    refine ap (AV.int .i64) H ?_<;>clear H<;>intro xo H
    refine zs ?_
    cases H
    exact zt (zf2 hQ)
theorem f145_im{x0:(List Int)}{x1:Int}{r_:(List Int)}(H:f145 x0 x1=some r_):Pure Tryz.prog 145 [.sl 0 false (x0.map (AV.int .i64)),.int .i64 x1] (· = .sl 0 false (r_.map (AV.int .i64))):=(f145_ok H).unfr (by first | exact enc_fits _ | simp only[frFits,List.all_cons,List.all_nil,enc_fits,Bool.and_self])
def f100_L2(x0:ApiProfile)(x1:Int)(x2:Int)(x3:(List ApiProfile))(x4:(List ApiFixture)):Lp ((List Int)×Int) ((List Int)) where
  body:=fun (x5,x6)=>(if (decide (x6<((x0.fFeatures.length:Nat):Int)))=true then (at? x0.fFeatures x6).bind fun x7=>(f145 x5 x7.fAttr).bind fun x8=>(some (.next (x8,(IntKind.i64.wrap (x6 + 1))))) else (some (.brk x5)))
  cst:=fun (x5,x6)=>⟨put (put (put (put (put (put (put (fun _=>.junk) 10 (.int .i64 x6)) 9 (.sl 10 false (x0.fFeatures.map eApiFeature))) 8 (.int .i64 x1)) 7 (.sl 0 false (x5.map (AV.int .i64)))) 2 (.int .i64 x2)) 1 (.sl 4 false (x3.map eApiProfile))) 0 (.sl 7 false (x4.map eApiFixture)),[]⟩
theorem f100_L2c(x0:ApiProfile)(x1:Int)(x2:Int)(x3:(List ApiProfile))(x4:(List ApiFixture))(x5:(List Int))(x6:Int):(f100_L2 x0 x1 x2 x3 x4).cst (x5,x6)=⟨put (put (put (put (put (put (put (fun _=>.junk) 10 (.int .i64 x6)) 9 (.sl 10 false (x0.fFeatures.map eApiFeature))) 8 (.int .i64 x1)) 7 (.sl 0 false (x5.map (AV.int .i64)))) 2 (.int .i64 x2)) 1 (.sl 4 false (x3.map eApiProfile))) 0 (.sl 7 false (x4.map eApiFixture)),[]⟩:=rfl
def f100_L1(x0:(List ApiFixture))(x1:Int)(x2:(List ApiProfile)):Lp ((List Int)×Int) ((List Int)) where
  body:=fun (x3,x4)=>(if (decide (x4<((x0.length:Nat):Int)))=true then (at? x0 x4).bind fun x5=>(if (decide (x5.fChannel≠x1))=true then (some (.next (x3,(IntKind.i64.wrap (x4 + 1))))) else (at? x0 x4).bind fun x6=>(f72 x2 x6.fProfile).bind fun x7=>(at? x2 x7).bind fun x8=>(Lp.run (f100_L2 x8 x4 x1 x2 x0) (x3,0)).bind fun x9=>(some (.next (x9,(IntKind.i64.wrap (x4 + 1)))))) else (some (.brk x3)))
  cst:=fun (x3,x4)=>⟨put (put (put (put (put (fun _=>.junk) 8 (.int .i64 x4)) 7 (.sl 0 false (x3.map (AV.int .i64)))) 2 (.int .i64 x1)) 1 (.sl 4 false (x2.map eApiProfile))) 0 (.sl 7 false (x0.map eApiFixture)),[]⟩
theorem f100_L1c(x0:(List ApiFixture))(x1:Int)(x2:(List ApiProfile))(x3:(List Int))(x4:Int):(f100_L1 x0 x1 x2).cst (x3,x4)=⟨put (put (put (put (put (fun _=>.junk) 8 (.int .i64 x4)) 7 (.sl 0 false (x3.map (AV.int .i64)))) 2 (.int .i64 x1)) 1 (.sl 4 false (x2.map eApiProfile))) 0 (.sl 7 false (x0.map eApiFixture)),[]⟩:=rfl
def c100_4:C:=.seq (.block 3 (.reg [iI 41 (.mv (.t 7)),iI 42 (.mv (.t 9)),iI 43 (.mv (.t 10)),iI 44 (.iaddr 10 (.t 42) (.t 43)),iI 45 (.faddr 0 (.t 44)),iI 46 (.load 0 (.t 45)),iI 47 (.call (.c (.fn 145 [])) [(.t 41),(.t 46)]),iI 7 (.mv (.t 47))])) (.reg [iI 39 (.mv (.t 10)),iI 40 (.bin .add (.t 39) (.c (.int .i64 1))),iI 10 (.mv (.t 40))])
def c100_5:C:=.block 2 (.loop (.seq (.seq (.reg [iI 35 (.mv (.t 10)),iI 36 (.mv (.t 9)),iI 37 (.len 0 (.t 36)),iI 38 (.bin .lss (.t 35) (.t 37))]) (.cond (.t 38) (.skip) (.exit 2))) c100_4))
def c100_7:C:=.seq (.reg [iI 24 (.mv (.t 1)),iI 25 (.mv (.t 1)),iI 26 (.mv (.t 0)),iI 27 (.mv (.t 8)),iI 28 (.iaddr 7 (.t 26) (.t 27)),iI 29 (.faddr 2 (.t 28)),iI 30 (.load 0 (.t 29)),iI 31 (.call (.c (.fn 72 [])) [(.t 25),(.t 30)]),iI 32 (.iaddr 4 (.t 24) (.t 31)),iI 33 (.faddr 3 (.t 32)),iI 34 (.load 0 (.t 33)),iI 9 (.mv (.t 34))]) (.seq (.reg [iI 10 (.mv (.c (.int .i64 0)))]) c100_5)
def c100_9:C:=.seq (.block 1 (.seq (.seq (.reg [iI 17 (.mv (.t 0)),iI 18 (.mv (.t 8)),iI 19 (.iaddr 7 (.t 17) (.t 18)),iI 20 (.faddr 0 (.t 19)),iI 21 (.load 0 (.t 20)),iI 22 (.mv (.t 2)),iI 23 (.bin .neq (.t 21) (.t 22))]) (.cond (.t 23) (.exit 1) (.skip))) c100_7)) (.reg [iI 15 (.mv (.t 8)),iI 16 (.bin .add (.t 15) (.c (.int .i64 1))),iI 8 (.mv (.t 16))])
def c100_10:C:=.block 0 (.loop (.seq (.seq (.reg [iI 11 (.mv (.t 8)),iI 12 (.mv (.t 0)),iI 13 (.len 0 (.t 12)),iI 14 (.bin .lss (.t 11) (.t 13))]) (.cond (.t 14) (.skip) (.exit 0))) c100_9))
def c100_13:C:=.seq (.reg [iI 7 (.mv (.c (.sl 0 true [])))]) (.seq (.seq (.reg [iI 8 (.mv (.c (.int .i64 0)))]) c100_10) (.seq (.reg [iI 48 (.mv (.t 7)),iI 6 (.mv (.t 48))]) .ret))
def ir100:C:=.seq (.reg [iI 6 (.mv (.c (.sl 0 true [])))]) c100_13
theorem fd100:fd? Tryz.prog 100=some (49,[.slot 6],ir100):=by kernel_rfl
def f100(x0:(List ApiFixture))(x1:(List ApiProfile))(x2:Int):Option ((List Int)) :=
  (Lp.run (f100_L1 x0 x2 x1) ([],0)).bind fun x3=>(some x3)
theorem f100_ok{x0:(List ApiFixture)}{x1:(List ApiProfile)}{x2:Int}{r_:(List Int)}(H:f100 x0 x1 x2=some r_):Pure Tryz.prog 100 [.sl 7 false (x0.map eApiFixture),.sl 4 false (x1.map eApiProfile),.int .i64 x2] (· = .sl 0 false (r_.map (AV.int .i64))):=by
 refine w3 fd100 fun Q hQ=>?_
 simp only[f100] at H
 refine zr ?_
 refine zr ?_
 refine zq (zr ?_)
 refine zd ?_
 refine AW.iter H ((Le.trans (Le.unfull (i:=7) (by rfl)) (Le.tz [] [0,1,2,7,8] (by simp only[f100_L1c,wm,wmr,rrm,↓wk,↓wl,evV,↓reduceIte,sevalprocAttr]<;>rfl)))) ?_<;>clear H
 rintro ⟨x3,x4⟩ x_ st0_ H hst_
 rw[f100_L1c] at hst_
 simp only[f100_L1] at H
 subst hst_
 refine zq (zr ?_)
 refine ic H ?_ ?_<;>clear H<;>intro H
 ·refine zk (zm (zb (zq (zr ?_))))
  refine ia eApiFixture H ?_<;>clear H<;>intro x5 H
  refine zE8 ?_
  refine ic H ?_ ?_<;>clear H<;>intro H
  ·refine zx (zy (zj (ze ?_)))
   exact zu H [] [0,1,2,7,8] (f100_L1c ..)
  ·refine zk (zm (zr ?_))
   refine ia eApiFixture H ?_<;>clear H<;>intro x6 H
   refine zE8 ?_
   refine pu H f72_ok ?_<;>clear H<;>intro x7 H
   refine zE0 ?_
   refine ia eApiProfile H ?_<;>clear H<;>intro x8 H
   refine zE6 ?_
   refine zr ?_
   refine zd ?_
   refine zU H [] [0,1,2,7,8,9,10] (f100_L2c ..) ?_<;>clear H
   rintro ⟨x9,xa⟩ x_ st0_ H hst_
   rw[f100_L2c] at hst_
   simp only[f100_L2] at H
   subst hst_
   refine zq (zr ?_)
   refine ic H ?_ ?_<;>clear H<;>intro H
   ·refine zk (zm (zb (ze ?_)))
    refine ia eApiFeature H ?_<;>clear H<;>intro xb H
    refine zE5 ?_
    refine pu H f145_im ?_<;>clear H<;>intro xc H
    refine zE0 ?_
    refine zo (ze ?_)
    exact zu H [] [0,1,2,7,8,9,10] (f100_L2c ..)
   ·refine zx (zy (loopQ.exit H ?_))<;>clear H<;>intro H
    try dsimp only at H
    refine zi (zo (ze ?_))
    exact zu H [] [0,1,2,7,8] (f100_L1c ..)
 ·refine zx (zy (loopQ.exit H ?_))<;>clear H<;>intro H
  try dsimp only at H
  refine zi (zm (zr ?_))
  cases H
  exact zt (zf hQ)
def c146_4:C:=.seq (.seq (.reg [iI 11 (.mv (.t 0)),iI 12 (.bin .geq (.t 11) (.c (.int .i64 3))),iI 13 (.mv (.t 12)),iG (some 14) 13 true (.mv (.t 0)),iG (some 15) 13 true (.bin .leq (.t 14) (.c (.int .i64 10))),iI 16 (.pick (.t 13) (.t 15) (.c (.bool false)))]) (.cond (.t 16) (.seq (.reg [iI 2 (.mv (.c (.int .i64 2)))]) .ret) (.skip))) (.seq (.reg [iI 2 (.mv (.c (.int .i64 3)))]) .ret)
def c146_5:C:=.seq (.seq (.reg [iI 5 (.mv (.t 0)),iI 6 (.bin .eql (.t 5) (.c (.int .i64 1))),iI 7 (.mv (.t 6)),iG (some 8) 7 false (.mv (.t 0)),iG (some 9) 7 false (.bin .eql (.t 8) (.c (.int .i64 2))),iI 10 (.pick (.t 7) (.c (.bool true)) (.t 9))]) (.cond (.t 10) (.seq (.reg [iI 2 (.mv (.c (.int .i64 1)))]) .ret) (.skip))) c146_4
def c146_6:C:=.seq (.seq (.reg [iI 3 (.mv (.t 0)),iI 4 (.bin .eql (.t 3) (.c (.int .i64 0)))]) (.cond (.t 4) (.seq (.reg [iI 2 (.mv (.c (.int .i64 0)))]) .ret) (.skip))) c146_5
def ir146:C:=.seq (.reg [iI 2 (.mv (.c (.int .i64 0)))]) c146_6
theorem fd146:fd? Tryz.prog 146=some (17,[.slot 2],ir146):=by kernel_rfl
def f146(x0:Int):Option (Int) :=
  (if (decide (x0=0))=true then (some 0) else (if (decide (x0=1))=true then (some 1) else (if (decide (x0=2))=true then (some 1) else (if (decide (3≤x0))=true then (if (decide (x0≤10))=true then (some 2) else (some 3)) else (some 3)))))
theorem f146_ok{x0:Int}{r_:Int}(H:f146 x0=some r_):Pure Tryz.prog 146 [.int .i64 x0] (· = .int .i64 r_):=by
 refine w3 fd146 fun Q hQ=>?_
 simp only[f146] at H
 refine zr ?_
 refine zq (zr ?_)
 refine ic H ?_ ?_<;>clear H<;>intro H
 ·refine zr ?_
  cases H
  exact zt (zv (zf hQ))
 ·refine zk (zm (zq (zr ?_)))
  refine ig H ?_ ?_<;>clear H<;>intro H
  ·refine zs ?_
   refine za (zr ?_)
   cases H
   exact zt (zv (zf hQ))
  ·refine zs ?_
   refine ic H ?_ ?_<;>clear H<;>intro H
   ·refine zr ?_
    cases H
    exact zt (zv (zf hQ))
   ·refine zk (zm (zq (zr ?_)))
    refine ig H ?_ ?_<;>clear H<;>intro H
    ·refine zs ?_
     refine ic H ?_ ?_<;>clear H<;>intro H
     ·refine zr ?_
      cases H
      exact zt (zv (zf hQ))
     ·refine zk (zm (zr ?_))
      cases H
      exact zt (zf hQ)
    ·refine zs ?_
     refine zc (zk (zm (zr ?_)))
     cases H
     exact zt (zf hQ)
def c101_0:C:=.seq (.reg [iI 5 (.mv (.t 1)),iI 6 (.bin .eql (.t 5) (.c (.int .i64 (-1)))),iI 7 (.mv (.t 6)),iG (some 8) 7 false (.mv (.t 1)),iG (some 9) 7 false (.mv (.t 0)),iG (some 10) 7 false (.bin .eql (.t 8) (.t 9)),iI 11 (.pick (.t 7) (.c (.bool true)) (.t 10)),iI 12 (.mv (.t 11)),iG (some 13) 12 false (.mv (.t 1)),iG (some 14) 12 false (.mv (.t 0)),iG (some 15) 12 false (.call (.c (.fn 146 [])) [(.t 14)]),iG (some 16) 12 false (.bin .add (.c (.int .i64 15)) (.t 15)),iG (some 17) 12 false (.bin .eql (.t 13) (.t 16)),iI 18 (.pick (.t 12) (.c (.bool true)) (.t 17)),iI 4 (.mv (.t 18))]) .ret
def ir101:C:=.seq (.reg [iI 4 (.mv (.c (.bool false)))]) c101_0
theorem fd101:fd? Tryz.prog 101=some (19,[.slot 4],ir101):=by kernel_rfl
def f101(x0:Int)(x1:Int):Option (Bool) :=
  (if (decide (x1=(-1)))=true then (some true) else (if (decide (x1=x0))=true then (some true) else (f146 x0).bind fun x2=>(some (decide (x1=(IntKind.i64.wrap (15 + x2)))))))
theorem f101_ok{x0:Int}{x1:Int}{r_:Bool}(H:f101 x0 x1=some r_):Pure Tryz.prog 101 [.int .i64 x0,.int .i64 x1] (· = .bool r_):=by
 refine w3 fd101 fun Q hQ=>?_
 simp only[f101] at H
 refine zr ?_
 refine zr ?_
 refine ig H ?_ ?_<;>clear H<;>intro H
 ·refine zs ?_
  cases H
  exact zt (zf hQ)
 ·refine zs ?_
  refine ig H ?_ ?_<;>clear H<;>intro H
  ·refine zs ?_
   cases H
   exact zt (zf hQ)
  ·refine zs ?_
   refine pu H f146_ok ?_<;>clear H<;>intro x2 H
   refine zE0 ?_
   cases H
   exact zt (zf hQ)
def f60_L1(x0:(List Int))(x1:Int):Lp (Int×(List Int)) ((List Int)) where
  body:=fun (x2,x3)=>(if (decide (x2<((x0.length:Nat):Int)))=true then (at? x0 x2).bind fun x4=>(f101 x4 x1).bind fun x5=>(if x5=true then (at? x0 x2).bind fun x6=>(app? 8 x3 ([x6])).bind fun x7=>(some (.next ((IntKind.i64.wrap (x2 + 1)),x7))) else (some (.next ((IntKind.i64.wrap (x2 + 1)),x3)))) else (some (.brk x3)))
  cst:=fun (x2,x3)=>⟨put (put (put (put (fun _=>.junk) 9 (.int .i64 x2)) 8 (.sl 0 false (x0.map (AV.int .i64)))) 7 (.row 0 0 0 x3.length)) 2 (.int .i64 x1),[.els 0 (x3.map (AV.int .i64))]⟩
theorem f60_L1c(x0:(List Int))(x1:Int)(x2:Int)(x3:(List Int)):(f60_L1 x0 x1).cst (x2,x3)=⟨put (put (put (put (fun _=>.junk) 9 (.int .i64 x2)) 8 (.sl 0 false (x0.map (AV.int .i64)))) 7 (.row 0 0 0 x3.length)) 2 (.int .i64 x1),[.els 0 (x3.map (AV.int .i64))]⟩:=rfl
def c60_1:C:=.cond (.t 27) (.reg [iI 28 (.mv (.t 7)),iI 29 (.mv (.t 8)),iI 30 (.mv (.t 9)),iI 31 (.iaddr 0 (.t 29) (.t 30)),iI 32 (.load 0 (.t 31)),iI 33 (.mkslp 0 1 (.int .i64 0) [(0,(.t 32))]),iI 34 (.append 0 8 (.t 28) (.t 33)),iI 7 (.mv (.t 34))]) (.skip)
def c60_3:C:=.seq (.block 1 (.seq (.reg [iI 22 (.mv (.t 8)),iI 23 (.mv (.t 9)),iI 24 (.iaddr 0 (.t 22) (.t 23)),iI 25 (.load 0 (.t 24)),iI 26 (.mv (.t 2)),iI 27 (.call (.c (.fn 101 [])) [(.t 25),(.t 26)])]) c60_1)) (.reg [iI 20 (.mv (.t 9)),iI 21 (.bin .add (.t 20) (.c (.int .i64 1))),iI 9 (.mv (.t 21))])
def c60_4:C:=.block 0 (.loop (.seq (.seq (.reg [iI 16 (.mv (.t 9)),iI 17 (.mv (.t 8)),iI 18 (.len 0 (.t 17)),iI 19 (.bin .lss (.t 16) (.t 18))]) (.cond (.t 19) (.skip) (.exit 0))) c60_3))
def c60_7:C:=.seq (.reg [iI 10 (.faddr 2 (.t 3)),iI 11 (.load 0 (.t 10)),iI 12 (.faddr 1 (.t 3)),iI 13 (.load 0 (.t 12)),iI 14 (.mv (.t 1)),iI 15 (.call (.c (.fn 100 [])) [(.t 11),(.t 13),(.t 14)]),iI 8 (.mv (.t 15))]) (.seq (.seq (.reg [iI 9 (.mv (.c (.int .i64 0)))]) c60_4) (.seq (.reg [iI 35 (.mv (.t 7)),iI 6 (.mv (.t 35))]) .ret))
def ir60:C:=.seq (.reg [iI 3 (.box (.t 0)),iI 6 (.mv (.c (.sl 0 true [])))]) (.seq (.reg [iI 7 (.mv (.c (.sl 0 true [])))]) c60_7)
theorem fd60:fd? Tryz.prog 60=some (36,[.slot 6],ir60):=by kernel_rfl
def f60(x0:Ref13Rig)(x1:Int)(x2:Int):Option ((List Int)) :=
  (f100 x0.fFixtures x0.fProfiles x1).bind fun x3=>(Lp.run (f60_L1 x3 x2) (0,[])).bind fun x4=>(some x4)
end
end Go.Proofs.YtnaemmpcffnbkaaGreatDoor
