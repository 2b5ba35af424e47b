import Derived.Test.YtnaemmpcffnbkaaGreatDoorFGA1
import Derived.Test.YtnaemmpcffnbkaaGreatDoorFM6
import Derived.Test.YtnaemmpcffnbkaaGreatDoorProg
import Derived.KernelRfl
import Derived.Test.YtnaemmpcffnbkaaGreatDoorFMQ
namespace Go.Proofs.YtnaemmpcffnbkaaGreatDoor
open Go Go.Ab

set_option maxHeartbeats 1000000
set_option maxRecDepth 4000
set_option linter.unusedSimpArgs false
set_option linter.unusedVariables false
noncomputable section
theorem f60_ok{x0:Ref13Rig}{x1:Int}{x2:Int}{r_:(List Int)}(H:f60 x0 x1 x2=some r_):Pure Tryz.prog 60 [.agg [.sl 0 false (x0.fCurves.map (eL 2 eApiPoint)),.sl 4 false (x0.fProfiles.map eApiProfile),.sl 7 false (x0.fFixtures.map eApiFixture)],.int .i64 x1,.int .i64 x2] (· = .fr 0 (r_.map (AV.int .i64))):=by
 refine w3s fd60 0 fun Q hQ=>?_
 simp only[f60] at H
 refine zr ?_
 refine zr ?_
 refine zr ?_
 refine pu H f100_ok ?_<;>clear H<;>intro x3 H
 refine zE0 ?_
 refine zq (zr ?_)
 refine zd ?_
 refine AW.iter H ((Le.trans (Le.nilRow (i:=7) (e:=0) (by simp only[↓wk,↓wl,nq,evV,↓reduceIte,sevalprocAttr])) (Le.tz [1] [2,7,8,9] (by simp only[f60_L1c,wm,wmr,rrm,↓wk,↓wl,evV,↓reduceIte,sevalprocAttr]<;>rfl)))) ?_<;>clear H
 rintro ⟨x4,x5⟩ x_ st0_ H hst_
 rw[f60_L1c] at hst_
 simp only[f60_L1] at H
 subst hst_
 refine zq (zr ?_)
 refine ic H ?_ ?_<;>clear H<;>intro H
 ·refine zk (zm (zb (zr ?_)))
  refine ia (AV.int .i64) H ?_<;>clear H<;>intro x6 H
  refine zs ?_
  refine pu H f101_ok ?_<;>clear H<;>intro x7 H
  refine zE0 ?_
  refine ic H ?_ ?_<;>clear H<;>intro H
  ·refine ze ?_
   refine ia (AV.int .i64) H ?_<;>clear H<;>intro x8 H
   refine zs ?_
   refine ap (AV.int .i64) H ?_<;>clear H<;>intro x9 H
   refine zs ?_
   refine zo (ze ?_)
   exact zu H [1] [2,7,8,9] (f60_L1c ..)
  ·refine zk (zo (ze ?_))
   exact zu H [0] [2,7,8,9] (f60_L1c ..)
 ·refine zx (zy (loopQ.exit H ?_))<;>clear H<;>intro H
  try dsimp only at H
  refine zi (zm (zr ?_))
  cases H
  exact zt (zf2 hQ)
theorem f60_im{x0:Ref13Rig}{x1:Int}{x2:Int}{r_:(List Int)}(H:f60 x0 x1 x2=some r_):Pure Tryz.prog 60 [.agg [.sl 0 false (x0.fCurves.map (eL 2 eApiPoint)),.sl 4 false (x0.fProfiles.map eApiProfile),.sl 7 false (x0.fFixtures.map eApiFixture)],.int .i64 x1,.int .i64 x2] (· = .sl 0 false (r_.map (AV.int .i64))):=(f60_ok H).unfr (by first | exact enc_fits _ | simp only[frFits,List.all_cons,List.all_nil,enc_fits,Bool.and_self])
def c20_0:C:=.cond (.t 12) (.seq (.reg [iI 13 (.mv (.t 8)),iI 6 (.mv (.c (.sl 0 true []))),iI 7 (.mv (.t 13))]) .ret) (.skip)
def c20_1:C:=.seq (.reg [iI 11 (.mv (.t 8)),iI 12 (.bin .neq (.t 11) (.c (.int .i64 0)))]) c20_0
def c20_2:C:=.cond (.t 19) (.seq (.reg [iI 6 (.mv (.c (.sl 0 true []))),iI 7 (.mv (.c (.int .i64 2)))]) .ret) (.skip)
def c20_3:C:=.cond (.t 22) (.seq (.reg [iI 6 (.mv (.c (.sl 0 true []))),iI 7 (.mv (.c (.int .i64 1)))]) .ret) (.skip)
def c20_4:C:=.seq (.reg [iI 23 (.load 3 (.t 3)),iI 24 (.mv (.t 1)),iI 25 (.mv (.t 2)),iI 26 (.call (.c (.fn 60 [])) [(.t 23),(.t 24),(.t 25)]),iI 6 (.mv (.t 26)),iI 7 (.mv (.c (.int .i64 0)))]) .ret
def c20_5:C:=.seq (.seq (.reg [iI 20 (.mv (.t 2)),iI 21 (.call (.c (.fn 59 [])) [(.t 20)]),iI 22 (.un .not (.t 21))]) c20_3) c20_4
def c20_6:C:=.seq (.seq (.reg [iI 14 (.mv (.t 1)),iI 15 (.bin .lss (.t 14) (.c (.int .i64 1))),iI 16 (.mv (.t 15)),iG (some 17) 16 false (.mv (.t 1)),iG (some 18) 16 false (.bin .gtr (.t 17) (.c (.int .i64 999))),iI 19 (.pick (.t 16) (.c (.bool true)) (.t 18))]) c20_2) c20_5
def c20_7:C:=.seq (.seq (.reg [iI 9 (.load 3 (.t 3)),iI 10 (.call (.c (.fn 29 [])) [(.t 9)]),iI 8 (.mv (.t 10))]) c20_1) c20_6
def ir20:C:=.seq (.reg [iI 3 (.box (.t 0)),iI 6 (.mv (.c (.sl 0 true []))),iI 7 (.mv (.c (.int .i64 0)))]) c20_7
theorem fd20:fd? Tryz.prog 20=some (27,[.slot 6,.slot 7],ir20):=by kernel_rfl
def f20(x0:Ref13Rig)(x1:Int)(x2:Int):Option ((List Int)×Int) :=
  (f29 x0).bind fun x3=>(if (decide (x3≠0))=true then (some ([],x3)) else (if (decide (x1<1))=true then (some ([],2)) else (if (decide (999<x1))=true then (some ([],2)) else (f59 x2).bind fun x4=>(if (!x4)=true then (some ([],1)) else (f60 x0 x1 x2).bind fun x5=>(some (x5,0))))))
theorem f20_ok{x0:Ref13Rig}{x1:Int}{x2:Int}{r_:(List Int)×Int}(H:f20 x0 x1 x2=some r_):Pure Tryz.prog 20 [.agg [.sl 0 false (x0.fCurves.map (eL 2 eApiPoint)),.sl 4 false (x0.fProfiles.map eApiProfile),.sl 7 false (x0.fFixtures.map eApiFixture)],.int .i64 x1,.int .i64 x2] (· = .tup [.fr 0 (r_.1.map (AV.int .i64)),.int .i64 r_.2]):=by
 refine w3s fd20 0 fun Q hQ=>?_
 simp only[f20] at H
 refine zr ?_
 refine zq (zr ?_)
 refine pu H f29_ok ?_<;>clear H<;>intro x3 H
 refine zE0 ?_
 refine zr ?_
 refine ic H ?_ ?_<;>clear H<;>intro H
 ·refine zr ?_
  cases H
  exact zt (zv (zf0 hQ))
 ·refine zk (zm (zq (zr ?_)))
  refine ig H ?_ ?_<;>clear H<;>intro H
  ·refine zs ?_
   refine za (zr ?_)
   cases H
   exact zt (zv (zf0 hQ))
  ·refine zs ?_
   refine ic H ?_ ?_<;>clear H<;>intro H
   ·refine zr ?_
    cases H
    exact zt (zv (zf0 hQ))
   ·refine zk (zm (zq (zr ?_)))
    refine pu H f59_ok ?_<;>clear H<;>intro x4 H
    refine zE0 ?_
    refine ic H ?_ ?_<;>clear H<;>intro H
    ·refine zr ?_
     cases H
     exact zt (zv (zf0 hQ))
    ·refine zk (zm (zr ?_))
     refine evTs_fr H (fun _ h=>f60_ok h) (by rfl) (by rfl) (by rfl) (by rfl) (fun _=>rfl) ?_<;>clear H<;>intro x5 H
     refine zE0 ?_
     cases H
     exact zt (zf1 hQ)
theorem f20_im{x0:Ref13Rig}{x1:Int}{x2:Int}{r_:(List Int)×Int}(H:f20 x0 x1 x2=some r_):Pure Tryz.prog 20 [.agg [.sl 0 false (x0.fCurves.map (eL 2 eApiPoint)),.sl 4 false (x0.fProfiles.map eApiProfile),.sl 7 false (x0.fFixtures.map eApiFixture)],.int .i64 x1,.int .i64 x2] (· = .tup [.sl 0 false (r_.1.map (AV.int .i64)),.int .i64 r_.2]):=(f20_ok H).unfr (by first | exact enc_fits _ | simp only[frFits,List.all_cons,List.all_nil,enc_fits,Bool.and_self])
def c4_0:C:=.cond (.t 13) (.seq (.reg [iI 14 (.call (.c (.fn 12 [])) []),iI 6 (.mv (.t 14))]) .ret) (.skip)
def c4_1:C:=.seq (.reg [iI 29 (.call (.c (.fn 12 [])) []),iI 30 (.mv (.t 29)),iG (some 31) 30 true (.mv (.t 7)),iG (some 32) 30 true (.mv (.t 9)),iG (some 33) 30 true (.call (.c (.fn 17 [])) [(.t 31),(.t 32)]),iI 34 (.pick (.t 30) (.t 33) (.c (.bool false))),iI 35 (.mv (.t 34)),iG (some 36) 35 true (.mv (.t 8)),iG (some 37) 35 true (.mv (.t 10)),iG (some 38) 35 true (.bin .eql (.t 36) (.t 37)),iI 39 (.pick (.t 35) (.t 38) (.c (.bool false))),iI 6 (.mv (.t 39))]) .ret
def c4_2:C:=.seq (.reg [iI 23 (.load 3 (.t 3)),iI 24 (.mv (.t 1)),iI 25 (.mv (.t 2)),iI 26 (.call (.c (.fn 20 [])) [(.t 23),(.t 24),(.t 25)]),iI 22 (.mv (.t 26)),iI 27 (.ext (.t 22) 0),iI 28 (.ext (.t 22) 1),iI 9 (.mv (.t 27)),iI 10 (.mv (.t 28))]) c4_1
def c4_3:C:=.seq (.reg [iI 16 (.load 3 (.t 3)),iI 17 (.mv (.t 1)),iI 18 (.mv (.t 2)),iI 19 (.call (.c (.fn 19 [])) [(.t 16),(.t 17),(.t 18)]),iI 15 (.mv (.t 19)),iI 20 (.ext (.t 15) 0),iI 21 (.ext (.t 15) 1),iI 7 (.mv (.t 20)),iI 8 (.mv (.t 21))]) c4_2
def c4_4:C:=.seq (.seq (.reg [iI 11 (.load 3 (.t 3)),iI 12 (.call (.c (.fn 18 [])) [(.t 11)]),iI 13 (.un .not (.t 12))]) c4_0) c4_3
def ir4:C:=.seq (.reg [iI 3 (.box (.t 0)),iI 6 (.mv (.c (.bool false)))]) c4_4
theorem fd4:fd? Tryz.prog 4=some (40,[.slot 6],ir4):=by kernel_rfl
def f4(x0:UniverseRig)(x1:Int)(x2:Int):Option (Bool) :=
  (f18 (Ref13Rig.mk x0.fCurves x0.fProfiles x0.fFixtures)).bind fun x3=>(if (!x3)=true then (f12).bind fun x4=>(some x4) else (f19 x0 x1 x2).bind fun x5=>(f20 (Ref13Rig.mk x0.fCurves x0.fProfiles x0.fFixtures) x1 x2).bind fun x6=>(f12).bind fun x7=>(if x7=true then (f17 x5.1 x6.1).bind fun x8=>(if x8=true then (some (decide (x5.2=x6.2))) else (some false)) else (some false)))
theorem f4_ok{x0:UniverseRig}{x1:Int}{x2:Int}{r_:Bool}(H:f4 x0 x1 x2=some r_):Pure Tryz.prog 4 [.agg [.sl 0 false (x0.fCurves.map (eL 2 eApiPoint)),.sl 4 false (x0.fProfiles.map eApiProfile),.sl 7 false (x0.fFixtures.map eApiFixture)],.int .i64 x1,.int .i64 x2] (· = .bool r_):=by
 refine w3 fd4 fun Q hQ=>?_
 simp only[f4] at H
 refine zr ?_
 refine zq (zr ?_)
 refine pu H f18_ok ?_<;>clear H<;>intro x3 H
 refine zE0 ?_
 refine ic H ?_ ?_<;>clear H<;>intro H
 ·refine zr ?_
  refine pu H f12_ok ?_<;>clear H<;>intro x4 H
  refine zE0 ?_
  cases H
  exact zt (zv (zf hQ))
 ·refine zk (zm (zr ?_))
  refine pu H f19_im ?_<;>clear H<;>intro x5 H
  refine zE0 ?_
  refine zr ?_
  refine pu H f20_im ?_<;>clear H<;>intro x6 H
  refine zE0 ?_
  refine zr ?_
  refine pu H f12_ok ?_<;>clear H<;>intro x7 H
  refine zE0 ?_
  refine ig H ?_ ?_<;>clear H<;>intro H
  ·refine zs ?_
   refine pu H f17_ok ?_<;>clear H<;>intro x8 H
   refine zE0 ?_
   refine ig H ?_ ?_<;>clear H<;>intro H
   ·refine zs ?_
    cases H
    exact zt (zf hQ)
   ·refine zs ?_
    cases H
    exact zt (zf hQ)
  ·refine zs ?_
   cases H
   exact zt (zf hQ)
end
end Go.Proofs.YtnaemmpcffnbkaaGreatDoor
