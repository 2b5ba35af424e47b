import Derived.Test.YtnaemmpcffnbkaaGreatDoorHGA1
import Derived.Test.YtnaemmpcffnbkaaGreatDoorHM6
import Derived.Test.YtnaemmpcffnbkaaGreatDoorProg
import Derived.KernelRfl
import Derived.Test.YtnaemmpcffnbkaaGreatDoorHMQ
namespace Go.Proofs.YtnaemmpcffnbkaaGreatDoor
open Go Go.Ab
set_option maxHeartbeats 1000000
set_option maxRecDepth 4000
set_option linter.unusedSimpArgs false
set_option linter.unusedVariables false
noncomputable section
theorem f60_ok{x0:Ref13Rig}{x1:Int}{x2:Int}{r_:(List Int)}(H:f60 x0 x1 x2=some r_):Pure Tryz.prog 60 [.agg [.sl 0 false (x0.fCurves.map (eL 2 eApiPoint)),.sl 4 false (x0.fProfiles.map eApiProfile),.sl 7 false (x0.fFixtures.map eApiFixture)],.int .i64 x1,.int .i64 x2] (· = .fr 0 (r_.map (AV.int .i64))):=by
 refine w3s fd60 0 fun Q hQ=>?_
 simp only[f60] at H
 refine zr ?_
 refine zr ?_
 refine zr ?_
 refine pu H f100_ok ?_<;>clear H<;>intro x3 H
 refine zE0 ?_
 refine zq (zr ?_)
 refine zd ?_
 refine AW.iter H ((Le.trans (Le.nilRow (i:=7) (e:=0) (by simp only[↓wk,↓wl,nq,evV,↓reduceIte,sevalprocAttr])) (Le.tz [1] [2,7,8,9] (by simp only[f60_L1c,wm,wmr,rrm,↓wk,↓wl,evV,↓reduceIte,sevalprocAttr]<;>rfl)))) ?_<;>clear H
 rintro ⟨x4,x5⟩ x_ st0_ H hst_
 rw[f60_L1c] at hst_
 simp only[f60_L1] at H
 subst hst_
 refine zq (zr ?_)
 refine ic H ?_ ?_<;>clear H<;>intro H
 ·refine zk (zm (zb (zr ?_)))
  refine ia (AV.int .i64) H ?_<;>clear H<;>intro x6 H
  refine zs ?_
  refine pu H f101_ok ?_<;>clear H<;>intro x7 H
  refine zE0 ?_
  refine ic H ?_ ?_<;>clear H<;>intro H
  ·refine ze ?_
   refine ia (AV.int .i64) H ?_<;>clear H<;>intro x8 H
   refine zs ?_
   refine ap (AV.int .i64) H ?_<;>clear H<;>intro x9 H
   refine zs ?_
   refine zo (ze ?_)
   exact zu H [1] [2,7,8,9] (f60_L1c ..)
  ·refine zk (zo (ze ?_))
   exact zu H [0] [2,7,8,9] (f60_L1c ..)
 ·refine zx (zy (loopQ.exit H ?_))<;>clear H<;>intro H
  try dsimp only at H
  refine zi (zm (zr ?_))
  cases H
  exact zt (zf2 hQ)
theorem f60_im{x0:Ref13Rig}{x1:Int}{x2:Int}{r_:(List Int)}(H:f60 x0 x1 x2=some r_):Pure Tryz.prog 60 [.agg [.sl 0 false (x0.fCurves.map (eL 2 eApiPoint)),.sl 4 false (x0.fProfiles.map eApiProfile),.sl 7 false (x0.fFixtures.map eApiFixture)],.int .i64 x1,.int .i64 x2] (· = .sl 0 false (r_.map (AV.int .i64))):=(f60_ok H).unfr (by first | exact enc_fits _ | simp only[frFits,List.all_cons,List.all_nil,enc_fits,Bool.and_self])
def f20(x0:Ref13Rig)(x1:Int)(x2:Int):Option ((List Int)×Int) :=
  (f29 x0).bind fun x3=>(if (decide (x3≠0))=true then (some ([],x3)) else (if (decide (x1<1))=true then (some ([],2)) else (if (decide (999<x1))=true then (some ([],2)) else (f59 x2).bind fun x4=>(if (!x4)=true then (some ([],1)) else (f60 x0 x1 x2).bind fun x5=>(some (x5,0))))))
def f4(x0:UniverseRig)(x1:Int)(x2:Int):Option (Bool) :=
  (f18 (Ref13Rig.mk x0.fCurves x0.fProfiles x0.fFixtures)).bind fun x3=>(if (!x3)=true then (f12).bind fun x4=>(some x4) else (f19 x0 x1 x2).bind fun x5=>(f20 (Ref13Rig.mk x0.fCurves x0.fProfiles x0.fFixtures) x1 x2).bind fun x6=>(f12).bind fun x7=>(if x7=true then (f17 x5.1 x6.1).bind fun x8=>(if x8=true then (some (decide (x5.2=x6.2))) else (some false)) else (some false)))
end
end Go.Proofs.YtnaemmpcffnbkaaGreatDoor
