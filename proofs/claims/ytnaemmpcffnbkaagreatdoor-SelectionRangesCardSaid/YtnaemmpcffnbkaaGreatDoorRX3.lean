import Derived.Test.YtnaemmpcffnbkaaGreatDoorRX2
import Derived.Test.YtnaemmpcffnbkaaGreatDoorRM7
import Derived.Test.YtnaemmpcffnbkaaGreatDoorRM6
import Derived.Test.YtnaemmpcffnbkaaGreatDoorProg
import Derived.KernelRfl
import Derived.Test.YtnaemmpcffnbkaaGreatDoorRMQ
namespace Go.Proofs.YtnaemmpcffnbkaaGreatDoor
open Go Go.Ab
set_option maxHeartbeats 1000000
set_option maxRecDepth 4000
set_option linter.unusedSimpArgs false
set_option linter.unusedVariables false
noncomputable section
theorem f99_ok{x0:Int}{x1:Int}{r_:Bool}(H:f99 x0 x1=some r_):Pure Tryz.prog 99 [.int .i64 x0,.int .i64 x1] (· = .bool r_):=by
 refine w3 fd99 fun Q hQ=>?_
 simp only[f99] at H
 refine zr ?_
 refine zq (zr ?_)
 refine ic H ?_ ?_<;>clear H<;>intro H
 ·refine zr ?_
  refine ig H ?_ ?_<;>clear H<;>intro H
  ·refine zs ?_
   cases H
   exact zt (zv (zf hQ))
  ·refine zs ?_
   cases H
   exact zt (zv (zf hQ))
 ·refine zk (zm (zr ?_))
  refine pu H f144_ok ?_<;>clear H<;>intro x2 H
  refine zE0 ?_
  refine zr ?_
  refine ig H ?_ ?_<;>clear H<;>intro H
  ·refine zs ?_
   cases H
   exact zt (zf hQ)
  ·refine zs ?_
   cases H
   exact zt (zf hQ)
def ir98:C:=.seq (.reg [iI 3 (.mv (.c (.bool false)))]) (.seq (.reg [iI 4 (.mv (.t 0)),iI 5 (.load 0 (.t 1)),iI 6 (.call (.c (.fn 99 [])) [(.t 4),(.t 5)]),iI 7 (.un .not (.t 6)),iI 3 (.mv (.t 7))]) .ret)
theorem fd98:fd? Tryz.prog 98=some (8,[.slot 3],ir98):=by kernel_rfl
def f98p(x0:Int)(x1:Int):Option (Bool) :=
  (f99 x0 x1).bind fun x2=>(some (!x2))
theorem f98p_ok{x0:Int}{x1:Int}{r_:Bool}(H:f98p x0 x1=some r_):Pure Tryz.prog 98 [.int .i64 x0,.pro [.int .i64 x1]] (· = .bool r_):=by
 refine w3 fd98 fun Q hQ=>?_
 simp only[f98p] at H
 refine zr ?_
 refine zr ?_
 refine pu H f99_ok ?_<;>clear H<;>intro x2 H
 refine zE0 ?_
 cases H
 exact zt (zf hQ)
def c58_0:C:=.seq (.reg [iI 19 (.mv (.t 8)),iI 20 (.mkfn 98 [(.t 5)]),iI 21 (.call (.c (.fn 46 [])) [(.t 19),(.t 20)]),iI 22 (.mv (.t 9)),iI 6 (.mv (.t 21)),iI 7 (.mv (.t 22))]) .ret
def c58_1:C:=.seq (.reg [iI 11 (.faddr 2 (.t 3)),iI 12 (.load 0 (.t 11)),iI 13 (.faddr 1 (.t 3)),iI 14 (.load 0 (.t 13)),iI 15 (.mv (.t 1)),iI 16 (.call (.c (.fn 97 [])) [(.t 12),(.t 14),(.t 15)]),iI 10 (.mv (.t 16)),iI 17 (.ext (.t 10) 0),iI 18 (.ext (.t 10) 1),iI 8 (.mv (.t 17)),iI 9 (.mv (.t 18))]) c58_0
def ir58:C:=.seq (.reg [iI 3 (.box (.t 0)),iI 5 (.box (.t 2)),iI 6 (.mv (.c (.sl 0 true []))),iI 7 (.mv (.c (.int .i64 0)))]) c58_1
theorem fd58:fd? Tryz.prog 58=some (23,[.slot 6,.slot 7],ir58):=by kernel_rfl
def f58(x0:UniverseRig)(x1:Int)(x2:Int):Option ((List Int)×Int) :=
  (f97 x0.fFixtures x0.fProfiles x1).bind fun x3=>(delf? (fun x4=>f98p x4 x2) x3.1).bind fun x5=>(some (x5,x3.2))
theorem f58_ok{x0:UniverseRig}{x1:Int}{x2:Int}{r_:(List Int)×Int}(H:f58 x0 x1 x2=some r_):Pure Tryz.prog 58 [.agg [.sl 0 false (x0.fCurves.map (eL 2 eApiPoint)),.sl 4 false (x0.fProfiles.map eApiProfile),.sl 7 false (x0.fFixtures.map eApiFixture)],.int .i64 x1,.int .i64 x2] (· = .tup [.fr 0 (r_.1.map (AV.int .i64)),.int .i64 r_.2]):=by
 refine w3s fd58 0 fun Q hQ=>?_
 simp only[f58] at H
 refine zr ?_
 refine zr ?_
 refine evTs_fr H (fun _ h=>f97_ok h) (by rfl) (by rfl) (by rfl) (by rfl) (fun _=>rfl) ?_<;>clear H<;>intro x3 H
 refine zE0 ?_
 refine zr ?_
 refine evTs_dlh (enc:=(AV.int .i64)) H [.pro [.int .i64 x2]] (fun _ _ h=>f98p_ok h) dlf46 idx90 (by rfl) (by rfl) (fun h_ hh_ x_=>by have e0_:=hh_ 1 (by decide);simp only[deep_eq,imm_simps,imm_ptrE,imm_mrefE,imm_mpE,imm_arowE,imm_encx (enc:=(AV.int .i64)),omap_simps,List.drop_zero,Option.map_some,e0_,wm,↓wk,↓wl,nq,evV,↓reduceIte,sevalprocAttr]<;>rfl) (by first | rfl | simp only[List.length_set]) (by rfl) ?_<;>clear H<;>intro x4 H
 refine zs ?_
 cases H
 exact zt (zf1 hQ)
theorem f58_im{x0:UniverseRig}{x1:Int}{x2:Int}{r_:(List Int)×Int}(H:f58 x0 x1 x2=some r_):Pure Tryz.prog 58 [.agg [.sl 0 false (x0.fCurves.map (eL 2 eApiPoint)),.sl 4 false (x0.fProfiles.map eApiProfile),.sl 7 false (x0.fFixtures.map eApiFixture)],.int .i64 x1,.int .i64 x2] (· = .tup [.sl 0 false (r_.1.map (AV.int .i64)),.int .i64 r_.2]):=(f58_ok H).unfr (by first | exact enc_fits _ | simp only[frFits,List.all_cons,List.all_nil,enc_fits,Bool.and_self])
def c19_1:C:=.seq (.reg [iI 11 (.mv (.t 8)),iI 12 (.bin .neq (.t 11) (.c (.int .i64 0)))]) (.cond (.t 12) (.seq (.reg [iI 13 (.mv (.t 8)),iI 6 (.mv (.c (.sl 0 true []))),iI 7 (.mv (.t 13))]) .ret) (.skip))
def c19_3:C:=.cond (.t 14) (.seq (.reg [iI 6 (.mv (.c (.sl 0 true []))),iI 7 (.mv (.c (.int .i64 2)))]) .ret) (.seq (.reg [iI 19 (.mv (.t 2)),iI 20 (.call (.c (.fn 57 [])) [(.t 19)]),iI 21 (.un .not (.t 20)),iI 18 (.mv (.t 21))]) (.cond (.t 18) (.seq (.reg [iI 6 (.mv (.c (.sl 0 true []))),iI 7 (.mv (.c (.int .i64 1)))]) .ret) (.skip)))
def c19_4:C:=.seq (.reg [iI 22 (.load 3 (.t 3)),iI 23 (.mv (.t 1)),iI 24 (.mv (.t 2)),iI 25 (.call (.c (.fn 58 [])) [(.t 22),(.t 23),(.t 24)]),iI 26 (.ext (.t 25) 0),iI 27 (.ext (.t 25) 1),iI 6 (.mv (.t 26)),iI 7 (.mv (.t 27))]) .ret
def c19_6:C:=.seq (.seq (.reg [iI 9 (.load 3 (.t 3)),iI 10 (.call (.c (.fn 55 [])) [(.t 9)]),iI 8 (.mv (.t 10))]) c19_1) (.seq (.block 0 (.seq (.reg [iI 15 (.mv (.t 1)),iI 16 (.call (.c (.fn 56 [])) [(.t 15)]),iI 17 (.un .not (.t 16)),iI 14 (.mv (.t 17))]) c19_3)) c19_4)
def ir19:C:=.seq (.reg [iI 3 (.box (.t 0)),iI 6 (.mv (.c (.sl 0 true []))),iI 7 (.mv (.c (.int .i64 0)))]) c19_6
theorem fd19:fd? Tryz.prog 19=some (28,[.slot 6,.slot 7],ir19):=by kernel_rfl
def f19(x0:UniverseRig)(x1:Int)(x2:Int):Option ((List Int)×Int) :=
  (f55 x0).bind fun x3=>(if (decide (x3≠0))=true then (some ([],x3)) else (f56 x1).bind fun x4=>(if (!x4)=true then (some ([],2)) else (f57 x2).bind fun x5=>(if (!x5)=true then (some ([],1)) else (f58 x0 x1 x2).bind fun x6=>(some (x6.1,x6.2)))))
theorem f19_ok{x0:UniverseRig}{x1:Int}{x2:Int}{r_:(List Int)×Int}(H:f19 x0 x1 x2=some r_):Pure Tryz.prog 19 [.agg [.sl 0 false (x0.fCurves.map (eL 2 eApiPoint)),.sl 4 false (x0.fProfiles.map eApiProfile),.sl 7 false (x0.fFixtures.map eApiFixture)],.int .i64 x1,.int .i64 x2] (· = .tup [.fr 0 (r_.1.map (AV.int .i64)),.int .i64 r_.2]):=by
 refine w3s fd19 0 fun Q hQ=>?_
 simp only[f19] at H
 refine zr ?_
 refine zq (zr ?_)
 refine pu H f55_ok ?_<;>clear H<;>intro x3 H
 refine zE0 ?_
 refine zr ?_
 refine ic H ?_ ?_<;>clear H<;>intro H
 ·refine zr ?_
  cases H
  exact zt (zv (zf0 hQ))
 ·refine zk (zm (zb (zr ?_)))
  refine pu H f56_ok ?_<;>clear H<;>intro x4 H
  refine zE0 ?_
  refine ic H ?_ ?_<;>clear H<;>intro H
  ·refine zr ?_
   cases H
   exact zt (zp (zf0 hQ))
  ·refine zr ?_
   refine pu H f57_ok ?_<;>clear H<;>intro x5 H
   refine zE0 ?_
   refine ic H ?_ ?_<;>clear H<;>intro H
   ·refine zr ?_
    cases H
    exact zt (zp (zf0 hQ))
   ·refine zk (zo (zr ?_))
    refine evTs_fr H (fun _ h=>f58_ok h) (by rfl) (by rfl) (by rfl) (by rfl) (fun _=>rfl) ?_<;>clear H<;>intro x6 H
    refine zE0 ?_
    cases H
    exact zt (zf1 hQ)
theorem f19_im{x0:UniverseRig}{x1:Int}{x2:Int}{r_:(List Int)×Int}(H:f19 x0 x1 x2=some r_):Pure Tryz.prog 19 [.agg [.sl 0 false (x0.fCurves.map (eL 2 eApiPoint)),.sl 4 false (x0.fProfiles.map eApiProfile),.sl 7 false (x0.fFixtures.map eApiFixture)],.int .i64 x1,.int .i64 x2] (· = .tup [.sl 0 false (r_.1.map (AV.int .i64)),.int .i64 r_.2]):=(f19_ok H).unfr (by first | exact enc_fits _ | simp only[frFits,List.all_cons,List.all_nil,enc_fits,Bool.and_self])
def c158_0:C:=.seq (.reg [iI 3 (.mv (.t 0)),iI 4 (.bin .geq (.t 3) (.c (.int .i64 0))),iI 5 (.mv (.t 4)),iG (some 6) 5 true (.mv (.t 0)),iG (some 7) 5 true (.bin .leq (.t 6) (.c (.int .i64 65535))),iI 8 (.pick (.t 5) (.t 7) (.c (.bool false))),iI 2 (.mv (.t 8))]) .ret
def ir158:C:=.seq (.reg [iI 2 (.mv (.c (.bool false)))]) c158_0
theorem fd158:fd? Tryz.prog 158=some (9,[.slot 2],ir158):=by kernel_rfl
def f158(x0:Int):Option (Bool) :=
  (if (decide (0≤x0))=true then (some (decide (x0≤65535))) else (some false))
theorem f158_ok{x0:Int}{r_:Bool}(H:f158 x0=some r_):Pure Tryz.prog 158 [.int .i64 x0] (· = .bool r_):=by
 refine w3 fd158 fun Q hQ=>?_
 simp only[f158] at H
 refine zr ?_
 refine zr ?_
 refine ig H ?_ ?_<;>clear H<;>intro H
 ·refine zs ?_
  cases H
  exact zt (zf hQ)
 ·refine zs ?_
  cases H
  exact zt (zf hQ)
def ir107:C:=.seq (.reg [iI 2 (.mv (.c (.int .i64 0)))]) (.seq (.reg [iI 3 (.mv (.t 0)),iI 2 (.mv (.t 3))]) .ret)
theorem fd107:fd? Tryz.prog 107=some (4,[.slot 2],ir107):=by kernel_rfl
def f107(x0:Int):Option (Int) :=
  (some x0)
theorem f107_ok{x0:Int}{r_:Int}(H:f107 x0=some r_):Pure Tryz.prog 107 [.int .i64 x0] (· = .int .i64 r_):=by
 refine w3 fd107 fun Q hQ=>?_
 simp only[f107] at H
 refine zr ?_
 refine zr ?_
 cases H
 exact zt (zf hQ)
def f106_107_L1(x0:Int)(x1:Int)(x2:Int)(x3:Int):Lp (Int×(List Int)) ((List Int)) where
  body:=fun (x4,x5)=>(if (decide (x4<x0))=true then (if (decide (0<x1))=true then (f107 x4).bind fun x6=>(nz? (IntKind.i64.wrap (2 * x1))).bind fun _=>(nz? (IntKind.i64.wrap (2 * x1))).bind fun _=>(if (decide (((IntKind.i64.wrap ((IntKind.i64.wrap ((IntKind.i64.wrap (2 * (IntKind.i64.wrap (x2 - x3)))) * x6)) + x1)).tmod (IntKind.i64.wrap (2 * x1)))<0))=true then (app? 8 x5 ([(IntKind.i64.wrap ((IntKind.i64.wrap (x3 + (IntKind.i64.wrap ((IntKind.i64.wrap ((IntKind.i64.wrap ((IntKind.i64.wrap (2 * (IntKind.i64.wrap (x2 - x3)))) * x6)) + x1)).tdiv (IntKind.i64.wrap (2 * x1)))))) - 1))])).bind fun x7=>(some (.next ((IntKind.i64.wrap (x4 + 1)),x7))) else (app? 8 x5 ([(IntKind.i64.wrap (x3 + (IntKind.i64.wrap ((IntKind.i64.wrap ((IntKind.i64.wrap ((IntKind.i64.wrap (2 * (IntKind.i64.wrap (x2 - x3)))) * x6)) + x1)).tdiv (IntKind.i64.wrap (2 * x1))))))])).bind fun x8=>(some (.next ((IntKind.i64.wrap (x4 + 1)),x8)))) else (app? 8 x5 ([x3])).bind fun x9=>(some (.next ((IntKind.i64.wrap (x4 + 1)),x9)))) else (some (.brk x5)))
  cst:=fun (x4,x5)=>⟨put (put (put (put (put (put (put (fun _=>.junk) 36 (.int .i64 x4)) 35 (.int .i64 x0)) 13 (.row 0 0 0 x5.length)) 4 (.fn 107 [])) 3 (.int .i64 x1)) 1 (.int .i64 x2)) 0 (.int .i64 x3),[.els 0 (x5.map (AV.int .i64))]⟩
theorem f106_107_L1c(x0:Int)(x1:Int)(x2:Int)(x3:Int)(x4:Int)(x5:(List Int)):(f106_107_L1 x0 x1 x2 x3).cst (x4,x5)=⟨put (put (put (put (put (put (put (fun _=>.junk) 36 (.int .i64 x4)) 35 (.int .i64 x0)) 13 (.row 0 0 0 x5.length)) 4 (.fn 107 [])) 3 (.int .i64 x1)) 1 (.int .i64 x2)) 0 (.int .i64 x3),[.els 0 (x5.map (AV.int .i64))]⟩:=rfl
def c106_2:C:=.seq (.reg [iI 58 (.mv (.t 16)),iI 59 (.mv (.t 3)),iI 60 (.bin .mul (.c (.int .i64 2)) (.t 59)),iI 61 (.bin .rem (.t 58) (.t 60)),iI 62 (.bin .lss (.t 61) (.c (.int .i64 0)))]) (.cond (.t 62) (.reg [iI 63 (.mv (.t 15)),iI 64 (.bin .sub (.t 63) (.c (.int .i64 1))),iI 15 (.mv (.t 64))]) (.skip))
def c106_3:C:=.seq (.reg [iI 52 (.mv (.t 15)),iI 53 (.mv (.t 16)),iI 54 (.mv (.t 3)),iI 55 (.bin .mul (.c (.int .i64 2)) (.t 54)),iI 56 (.bin .quo (.t 53) (.t 55)),iI 57 (.bin .add (.t 52) (.t 56)),iI 15 (.mv (.t 57))]) c106_2
def c106_4:C:=.cond (.t 41) (.seq (.reg [iI 42 (.mv (.t 1)),iI 43 (.mv (.t 0)),iI 44 (.bin .sub (.t 42) (.t 43)),iI 45 (.bin .mul (.c (.int .i64 2)) (.t 44)),iI 46 (.mv (.t 4)),iI 47 (.mv (.t 14)),iI 48 (.call (.t 46) [(.t 47)]),iI 49 (.bin .mul (.t 45) (.t 48)),iI 50 (.mv (.t 3)),iI 51 (.bin .add (.t 49) (.t 50)),iI 16 (.mv (.t 51))]) c106_3) (.skip)
def c106_6:C:=.seq (.seq (.reg [iI 40 (.mv (.t 3)),iI 41 (.bin .gtr (.t 40) (.c (.int .i64 0)))]) c106_4) (.reg [iI 65 (.mv (.t 13)),iI 66 (.mv (.t 15)),iI 67 (.mkslp 0 1 (.int .i64 0) [(0,(.t 66))]),iI 68 (.append 0 8 (.t 65) (.t 67)),iI 13 (.mv (.t 68))])
def c106_9:C:=.seq (.block 1 (.seq (.reg [iI 38 (.mv (.t 36)),iI 14 (.mv (.t 38))]) (.seq (.reg [iI 39 (.mv (.t 0)),iI 15 (.mv (.t 39))]) c106_6))) (.reg [iI 69 (.bin .add (.t 36) (.c (.int .i64 1))),iI 36 (.mv (.t 69))])
def c106_13:C:=.seq (.seq (.reg [iI 35 (.mv (.t 2)),iI 36 (.mv (.c (.int .i64 0)))]) (.block 0 (.loop (.seq (.reg [iI 37 (.bin .lss (.t 36) (.t 35))]) (.seq (.cond (.t 37) (.skip) (.exit 0)) c106_9))))) (.seq (.reg [iI 70 (.mv (.t 13)),iI 10 (.mv (.t 70)),iI 11 (.mv (.c (.int .i64 0)))]) .ret)
def c106_15:C:=.seq (.seq (.reg [iI 17 (.mv (.t 12)),iI 18 (.mv (.t 0)),iI 19 (.call (.t 17) [(.t 18)]),iI 20 (.un .not (.t 19)),iI 21 (.mv (.t 20)),iG (some 22) 21 false (.mv (.t 12)),iG (some 23) 21 false (.mv (.t 1)),iG (some 24) 21 false (.call (.t 22) [(.t 23)]),iG (some 25) 21 false (.un .not (.t 24)),iI 26 (.pick (.t 21) (.c (.bool true)) (.t 25)),iI 27 (.mv (.t 26)),iG (some 28) 27 false (.mv (.t 2)),iG (some 29) 27 false (.bin .lss (.t 28) (.c (.int .i64 0))),iI 30 (.pick (.t 27) (.c (.bool true)) (.t 29)),iI 31 (.mv (.t 30)),iG (some 32) 31 false (.mv (.t 2)),iG (some 33) 31 false (.bin .gtr (.t 32) (.c (.int .i64 256))),iI 34 (.pick (.t 31) (.c (.bool true)) (.t 33))]) (.cond (.t 34) (.seq (.reg [iI 10 (.mv (.c (.sl 0 true []))),iI 11 (.mv (.c (.int .i64 2)))]) .ret) (.skip))) (.seq (.reg [iI 13 (.mv (.c (.sl 0 true [])))]) c106_13)
def ir106:C:=.seq (.reg [iI 10 (.mv (.c (.sl 0 true []))),iI 11 (.mv (.c (.int .i64 0)))]) (.seq (.reg [iI 12 (.mv (.c (.fn 158 [])))]) c106_15)
theorem fd106:fd? Tryz.prog 106=some (71,[.slot 10,.slot 11],ir106):=by kernel_rfl
def f106_107(x0:Int)(x1:Int)(x2:Int)(x3:Int):Option ((List Int)×Int) :=
  (f158 x0).bind fun x4=>(if (!x4)=true then (some ([],2)) else (f158 x1).bind fun x5=>(if (!x5)=true then (some ([],2)) else (if (decide (x2<0))=true then (some ([],2)) else (if (decide (256<x2))=true then (some ([],2)) else (Lp.run (f106_107_L1 x2 x3 x1 x0) (0,[])).bind fun x6=>(some (x6,0))))))
theorem f106_107_ok{x0:Int}{x1:Int}{x2:Int}{x3:Int}{r_:(List Int)×Int}(H:f106_107 x0 x1 x2 x3=some r_):Pure Tryz.prog 106 [.int .i64 x0,.int .i64 x1,.int .i64 x2,.int .i64 x3,.fn 107 []] (· = .tup [.fr 0 (r_.1.map (AV.int .i64)),.int .i64 r_.2]):=by
 refine w3s fd106 0 fun Q hQ=>?_
 simp only[f106_107] at H
 refine zr ?_
 refine zr ?_
 refine zq (zr ?_)
 refine pu H f158_ok ?_<;>clear H<;>intro x4 H
 refine zE0 ?_
 refine ig H ?_ ?_<;>clear H<;>intro H
 ·refine zs ?_
  refine za (zr ?_)
  cases H
  exact zt (zv (zf0 hQ))
 ·refine zs ?_
  refine pu H f158_ok ?_<;>clear H<;>intro x5 H
  refine zE0 ?_
  refine ig H ?_ ?_<;>clear H<;>intro H
  ·refine zs ?_
   refine za (zr ?_)
   cases H
   exact zt (zv (zf0 hQ))
  ·refine zs ?_
   refine ig H ?_ ?_<;>clear H<;>intro H
   ·refine zs ?_
    refine za (zr ?_)
    cases H
    exact zt (zv (zf0 hQ))
   ·refine zs ?_
    refine ic H ?_ ?_<;>clear H<;>intro H
    ·refine zr ?_
     cases H
     exact zt (zv (zf0 hQ))
    ·refine zk (zm (zr ?_))
     refine zq (zr ?_)
     refine zd ?_
     refine AW.iter H ((Le.trans (Le.nilRow (i:=13) (e:=0) (by simp only[↓wk,↓wl,nq,evV,↓reduceIte,sevalprocAttr])) (Le.tz [0] [0,1,3,4,13,35,36] (by simp only[f106_107_L1c,wm,wmr,rrm,↓wk,↓wl,evV,↓reduceIte,sevalprocAttr]<;>rfl)))) ?_<;>clear H
     rintro ⟨x6,x7⟩ x_ st0_ H hst_
     rw[f106_107_L1c] at hst_
     simp only[f106_107_L1] at H
     subst hst_
     refine zr ?_
     refine zq (ic H ?_ ?_)<;>clear H<;>intro H
     ·refine zk (zm (zb (zr ?_)))
      refine zr ?_
      refine zq (zr ?_)
      refine ic H ?_ ?_<;>clear H<;>intro H
      ·refine zr ?_
       refine pu H f107_ok ?_<;>clear H<;>intro x8 H
       refine zE0 ?_
       refine zr ?_
       refine rest_quo H ?_<;>clear H<;>intro H
       refine zs ?_
       refine zr ?_
       refine rest_rem H ?_<;>clear H<;>intro H
       refine zs ?_
       refine ic H ?_ ?_<;>clear H<;>intro H
       ·refine ze ?_
        refine zm (ze ?_)
        refine ap (AV.int .i64) H ?_<;>clear H<;>intro x9 H
        refine zs ?_
        refine zo (ze ?_)
        exact zu H [1] [0,1,3,4,13,35,36] (f106_107_L1c ..)
       ·refine zk (zm (ze ?_))
        refine ap (AV.int .i64) H ?_<;>clear H<;>intro xa H
        refine zs ?_
        refine zo (ze ?_)
        exact zu H [1] [0,1,3,4,13,35,36] (f106_107_L1c ..)
      ·refine zk (zm (ze ?_))
       refine ap (AV.int .i64) H ?_<;>clear H<;>intro xb H
       refine zs ?_
       refine zo (ze ?_)
       exact zu H [1] [0,1,3,4,13,35,36] (f106_107_L1c ..)
     ·refine zx (zy (loopQ.exit H ?_))<;>clear H<;>intro H
      try dsimp only at H
      refine zi (zm (zr ?_))
      cases H
      exact zt (zf1 hQ)
def c64_0:C:=.seq (.reg [iI 8 (.mv (.t 0)),iI 9 (.mv (.t 1)),iI 10 (.mv (.t 2)),iI 11 (.mv (.t 2)),iI 12 (.bin .sub (.t 11) (.c (.int .i64 1))),iI 13 (.call (.c (.fn 106 [])) [(.t 8),(.t 9),(.t 10),(.t 12),(.c (.fn 107 []))]),iI 14 (.ext (.t 13) 0),iI 15 (.ext (.t 13) 1),iI 6 (.mv (.t 14)),iI 7 (.mv (.t 15))]) .ret
def ir64:C:=.seq (.reg [iI 6 (.mv (.c (.sl 0 true []))),iI 7 (.mv (.c (.int .i64 0)))]) c64_0
theorem fd64:fd? Tryz.prog 64=some (16,[.slot 6,.slot 7],ir64):=by kernel_rfl
def f64(x0:Int)(x1:Int)(x2:Int):Option ((List Int)×Int) :=
  (f106_107 x0 x1 x2 (IntKind.i64.wrap (x2 - 1))).bind fun x3=>(some (x3.1,x3.2))
theorem f64_ok{x0:Int}{x1:Int}{x2:Int}{r_:(List Int)×Int}(H:f64 x0 x1 x2=some r_):Pure Tryz.prog 64 [.int .i64 x0,.int .i64 x1,.int .i64 x2] (· = .tup [.fr 0 (r_.1.map (AV.int .i64)),.int .i64 r_.2]):=by
 refine w3s fd64 0 fun Q hQ=>?_
 simp only[f64] at H
 refine zr ?_
 refine zr ?_
 refine evTs_fr H (fun _ h=>f106_107_ok h) (by rfl) (by rfl) (by rfl) (by rfl) (fun _=>rfl) ?_<;>clear H<;>intro x3 H
 refine zE0 ?_
 cases H
 exact zt (zf1 hQ)
theorem f64_im{x0:Int}{x1:Int}{x2:Int}{r_:(List Int)×Int}(H:f64 x0 x1 x2=some r_):Pure Tryz.prog 64 [.int .i64 x0,.int .i64 x1,.int .i64 x2] (· = .tup [.sl 0 false (r_.1.map (AV.int .i64)),.int .i64 r_.2]):=(f64_ok H).unfr (by first | exact enc_fits _ | simp only[frFits,List.all_cons,List.all_nil,enc_fits,Bool.and_self])
theorem srf65:Sorts Tryz.prog 4 65 108 159 103:=⟨by kernel_rfl,by kernel_rfl,by kernel_rfl,len103⟩
def f104_L1(x0:(List Int)):Lp (Int) ((Unit)⊕(Int)) where
  body:=fun x1=>(if (decide (x1<((x0.length:Nat):Int)))=true then (at? x0 x1).bind fun x2=>(if (decide (x2≠0))=true then (some (.brk (Sum.inr x2))) else (some (.next (IntKind.i64.wrap (x1 + 1))))) else (some (.brk (Sum.inl ()))))
  cst:=fun x1=>⟨put (put (put (put (fun _=>.junk) 8 (.int .i64 x1)) 7 (.int .i64 ((x0.length:Nat):Int))) 6 (.sl 0 false (x0.map (AV.int .i64)))) 3 (.int .i64 0),[]⟩
theorem f104_L1c(x0:(List Int))(x1:Int):(f104_L1 x0).cst x1=⟨put (put (put (put (fun _=>.junk) 8 (.int .i64 x1)) 7 (.int .i64 ((x0.length:Nat):Int))) 6 (.sl 0 false (x0.map (AV.int .i64)))) 3 (.int .i64 0),[]⟩:=rfl
def c104_1:C:=.seq (.reg [iI 12 (.mv (.t 5)),iI 13 (.mv (.t 3)),iI 14 (.bin .neq (.t 12) (.t 13))]) (.cond (.t 14) (.seq (.reg [iI 15 (.mv (.t 5)),iI 2 (.mv (.t 15))]) .ret) (.skip))
def c104_3:C:=.seq (.block 1 (.seq (.reg [iI 10 (.iaddr 0 (.t 6) (.t 8)),iI 11 (.load 0 (.t 10)),iI 5 (.mv (.t 11))]) c104_1)) (.reg [iI 16 (.bin .add (.t 8) (.c (.int .i64 1))),iI 8 (.mv (.t 16))])
def c104_7:C:=.seq (.seq (.reg [iI 6 (.mv (.t 0)),iI 7 (.len 0 (.t 6)),iI 8 (.mv (.c (.int .i64 0)))]) (.block 0 (.loop (.seq (.reg [iI 9 (.bin .lss (.t 8) (.t 7))]) (.seq (.cond (.t 9) (.skip) (.exit 0)) c104_3))))) (.seq (.reg [iI 17 (.mv (.t 3)),iI 2 (.mv (.t 17))]) .ret)
def ir104:C:=.seq (.reg [iI 2 (.mv (.c (.int .i64 0)))]) (.seq (.reg [iI 3 (.mv (.c (.int .i64 0)))]) c104_7)
theorem fd104:fd? Tryz.prog 104=some (18,[.slot 2],ir104):=by kernel_rfl
def f104(x0:(List Int)):Option (Int) :=
  ((Lp.run (f104_L1 x0) 0).bind fun r_=>match r_ with | (Sum.inl _)=>(some 0) | (Sum.inr x1)=>(some x1))
theorem f104_ok{x0:(List Int)}{r_:Int}(H:f104 x0=some r_):Pure Tryz.prog 104 [.sl 0 false (x0.map (AV.int .i64))] (· = .int .i64 r_):=by
 refine w3 fd104 fun Q hQ=>?_
 simp only[f104] at H
 refine zr ?_
 refine zr ?_
 refine zq (zr ?_)
 refine zd ?_
 refine zU H [] [3,6,7,8] (f104_L1c ..) ?_<;>clear H
 rintro x1 x_ st0_ H hst_
 rw[f104_L1c] at hst_
 simp only[f104_L1] at H
 subst hst_
 refine zr ?_
 refine zq (ic H ?_ ?_)<;>clear H<;>intro H
 ·refine zk (zm (zb (zr ?_)))
  refine ia (AV.int .i64) H ?_<;>clear H<;>intro x2 H
  refine zs ?_
  refine zr ?_
  refine ic H ?_ ?_<;>clear H<;>intro H
  ·refine zr ?_
   refine zt (zp (loopQ.ret H ?_))<;>clear H<;>intro H
   try dsimp only at H
   cases H
   exact zh (zv (zf hQ))
  ·refine zk (zo (ze ?_))
   exact zu H [] [3,6,7,8] (f104_L1c ..)
 ·refine zx (zy (loopQ.exit H ?_))<;>clear H<;>intro H
  try dsimp only at H
  refine zi (zm (zr ?_))
  cases H
  exact zt (zf hQ)
def c62_0:C:=.seq (.regq [iI 5 (.faddr 0 (.t 2)),iI 6 (.load 0 (.t 5)),iI 7 (.faddr 0 (.t 3)),iI 8 (.load 0 (.t 7)),iI 9 (.call (.c (.fn 105 [])) [(.t 6),(.t 8)]),iI 10 (.faddr 1 (.t 2)),iI 11 (.load 0 (.t 10)),iI 12 (.faddr 1 (.t 3)),iI 13 (.load 0 (.t 12)),iI 14 (.call (.c (.fn 105 [])) [(.t 11),(.t 13)]),iI 15 (.mkslp 0 2 (.int .i64 0) [(0,(.t 9)),(1,(.t 14))]),iI 16 (.call (.c (.fn 104 [])) [(.t 15)]),iI 4 (.mv (.t 16))]) .ret
def ir62:C:=.seq (.reg [iI 2 (.box (.t 0)),iI 3 (.box (.t 1)),iI 4 (.mv (.c (.int .i64 0)))]) c62_0
theorem fd62:fd? Tryz.prog 62=some (17,[.slot 4],ir62):=by kernel_rfl
def f62(x0:ApiParam)(x1:ApiParam):Option (Int) :=
  (f105 x0.fChannel x1.fChannel).bind fun x2=>(f105 x0.fAttr x1.fAttr).bind fun x3=>(f104 ([x2,x3])).bind fun x4=>(some x4)
theorem f62_ok{x0:ApiParam}{x1:ApiParam}{r_:Int}(H:f62 x0 x1=some r_):Pure Tryz.prog 62 [.agg [.int .i64 x0.fChannel,.int .i64 x0.fAttr],.agg [.int .i64 x1.fChannel,.int .i64 x1.fAttr]] (· = .int .i64 r_):=by
 refine w3 fd62 fun Q hQ=>?_
 simp only[f62] at H
 refine zr ?_
 refine AW.rqseq ?_
 refine zs ?_
 refine evTs_pure hFnq H (fun _ h=>f105_ok h) (by rfl) (by rfl) (by rfl) (by rfl) (fun _=>rfl) ?_<;>clear H<;>intro x2 H
 refine zE0 ?_
 refine evTs_pure hFnq H (fun _ h=>f105_ok h) (by rfl) (by rfl) (by rfl) (by rfl) (fun _=>rfl) ?_<;>clear H<;>intro x3 H
 refine zE0 ?_
 refine evTs_pure hFnq H (fun _ h=>f104_ok h) (by rfl) (by rfl) (by rfl) (by rfl) (fun _=>rfl) ?_<;>clear H<;>intro x4 H
 refine zE0 ?_
 cases H
 exact zt (zf hQ)
def c66_0:C:=.seq (.reg [iI 5 (.faddr 0 (.t 2)),iI 6 (.load 2 (.t 5)),iI 7 (.faddr 0 (.t 3)),iI 8 (.load 2 (.t 7)),iI 9 (.call (.c (.fn 62 [])) [(.t 6),(.t 8)]),iI 4 (.mv (.t 9))]) .ret
def ir66:C:=.seq (.reg [iI 2 (.box (.t 0)),iI 3 (.box (.t 1)),iI 4 (.mv (.c (.int .i64 0)))]) c66_0
theorem fd66:fd? Tryz.prog 66=some (10,[.slot 4],ir66):=by kernel_rfl
def f66(x0:ApiEntry)(x1:ApiEntry):Option (Int) :=
  (f62 x0.fParam x1.fParam).bind fun x2=>(some x2)
theorem f66_ok{x0:ApiEntry}{x1:ApiEntry}{r_:Int}(H:f66 x0 x1=some r_):Pure Tryz.prog 66 [.agg [.int .i64 x0.fParam.fChannel,.int .i64 x0.fParam.fAttr,.int .i64 x0.fValue.fPalette,.int .i64 x0.fValue.fLevel],.agg [.int .i64 x1.fParam.fChannel,.int .i64 x1.fParam.fAttr,.int .i64 x1.fValue.fPalette,.int .i64 x1.fValue.fLevel]] (· = .int .i64 r_):=by
 refine w3 fd66 fun Q hQ=>?_
 simp only[f66] at H
 refine zr ?_
 refine zr ?_
 refine pu H f62_ok ?_<;>clear H<;>intro x2 H
 refine zE0 ?_
 cases H
 exact zt (zf hQ)
def f24_L2(x0:(List Int))(x1:(List Int)×Int)(x2:Int):Lp (Int×(List ApiEntry)) ((List ApiEntry)) where
  body:=fun (x3,x4)=>(if (decide (x3<((x0.length:Nat):Int)))=true then (at? x0 x3).bind fun x5=>(at? x1.1 x3).bind fun x6=>(app? 32 x4 ([(ApiEntry.mk (ApiParam.mk x5 x2) (ApiValue.mk 0 x6))])).bind fun x7=>(some (.next ((IntKind.i64.wrap (x3 + 1)),x7))) else (some (.brk x4)))
  cst:=fun (x3,x4)=>⟨put (put (put (put (put (put (fun _=>.junk) 55 (.int .i64 x3)) 54 (.int .i64 ((x0.length:Nat):Int))) 53 (.sl 0 false (x0.map (AV.int .i64)))) 14 (.row 4 0 0 x4.length)) 12 (.sl 0 false (x1.1.map (AV.int .i64)))) 1 (.int .i64 x2),[.els 4 (x4.map eApiEntry)]⟩
theorem f24_L2c(x0:(List Int))(x1:(List Int)×Int)(x2:Int)(x3:Int)(x4:(List ApiEntry)):(f24_L2 x0 x1 x2).cst (x3,x4)=⟨put (put (put (put (put (put (fun _=>.junk) 55 (.int .i64 x3)) 54 (.int .i64 ((x0.length:Nat):Int))) 53 (.sl 0 false (x0.map (AV.int .i64)))) 14 (.row 4 0 0 x4.length)) 12 (.sl 0 false (x1.1.map (AV.int .i64)))) 1 (.int .i64 x2),[.els 4 (x4.map eApiEntry)]⟩:=rfl
def f24_L1(x0:(List Int))(x1:Int)(x2:Int)(x3:Int):Lp (Int) ((Unit)⊕(Int)) where
  body:=fun x4=>(if (decide (x4<((x0.length:Nat):Int)))=true then (at? x0 x4).bind fun x5=>(f56 x5).bind fun x6=>(if (!x6)=true then (some (.brk (Sum.inr 2))) else (slc? x0 0 x4).bind fun x7=>(f28 x7 x5).bind fun x8=>(if x8=true then (some (.brk (Sum.inr 7))) else (some (.next (IntKind.i64.wrap (x4 + 1)))))) else (some (.brk (Sum.inl ()))))
  cst:=fun x4=>⟨put (put (put (put (put (put (put (fun _=>.junk) 22 (.int .i64 x4)) 21 (.int .i64 ((x0.length:Nat):Int))) 20 (.sl 0 false (x0.map (AV.int .i64)))) 3 (.int .i64 x1)) 2 (.int .i64 x2)) 1 (.int .i64 x3)) 0 (.sl 0 false (x0.map (AV.int .i64))),[]⟩
theorem f24_L1c(x0:(List Int))(x1:Int)(x2:Int)(x3:Int)(x4:Int):(f24_L1 x0 x1 x2 x3).cst x4=⟨put (put (put (put (put (put (put (fun _=>.junk) 22 (.int .i64 x4)) 21 (.int .i64 ((x0.length:Nat):Int))) 20 (.sl 0 false (x0.map (AV.int .i64)))) 3 (.int .i64 x1)) 2 (.int .i64 x2)) 1 (.int .i64 x3)) 0 (.sl 0 false (x0.map (AV.int .i64))),[]⟩:=rfl
def c24_3:C:=.seq (.reg [iI 30 (.mv (.t 0)),iI 31 (.mv (.t 10)),iI 32 (.slice 0 (.t 30) none (some (.t 31))),iI 33 (.mv (.t 11)),iI 34 (.call (.c (.fn 28 [])) [(.t 32),(.t 33)])]) (.cond (.t 34) (.seq (.reg [iI 8 (.mv (.c (.sl 4 true []))),iI 9 (.mv (.c (.int .i64 7)))]) .ret) (.skip))
def c24_4:C:=.seq (.seq (.reg [iI 27 (.mv (.t 11)),iI 28 (.call (.c (.fn 56 [])) [(.t 27)]),iI 29 (.un .not (.t 28))]) (.cond (.t 29) (.seq (.reg [iI 8 (.mv (.c (.sl 4 true []))),iI 9 (.mv (.c (.int .i64 2)))]) .ret) (.skip))) c24_3
def c24_6:C:=.seq (.block 1 (.seq (.reg [iI 24 (.mv (.t 22)),iI 25 (.iaddr 0 (.t 20) (.t 22)),iI 26 (.load 0 (.t 25)),iI 10 (.mv (.t 24)),iI 11 (.mv (.t 26))]) c24_4)) (.reg [iI 35 (.bin .add (.t 22) (.c (.int .i64 1))),iI 22 (.mv (.t 35))])
def c24_11:C:=.reg [iI 60 (.mv (.t 14)),iI 61 (.mv (.t 16)),iI 62 (.mv (.t 1)),iI 63 (.build [(1,(.int .i64 0)),(1,(.int .i64 0))] [(0,0,(.t 61)),(1,0,(.t 62))]),iI 64 (.mv (.t 12)),iI 65 (.mv (.t 15)),iI 66 (.iaddr 0 (.t 64) (.t 65)),iI 67 (.load 0 (.t 66)),iI 68 (.build [(1,(.int .i64 0)),(1,(.int .i64 0))] [(1,0,(.t 67))]),iI 69 (.build [(1,(.int .i64 0)),(1,(.int .i64 0)),(1,(.int .i64 0)),(1,(.int .i64 0))] [(0,2,(.t 63)),(2,2,(.t 68))]),iI 70 (.mkslp 4 1 (.agg [(.int .i64 0),(.int .i64 0),(.int .i64 0),(.int .i64 0)]) [(0,(.t 69))]),iI 71 (.append 4 32 (.t 60) (.t 70)),iI 14 (.mv (.t 71))]
def c24_13:C:=.seq (.block 3 (.seq (.reg [iI 57 (.mv (.t 55)),iI 58 (.iaddr 0 (.t 53) (.t 55)),iI 59 (.load 0 (.t 58)),iI 15 (.mv (.t 57)),iI 16 (.mv (.t 59))]) c24_11)) (.reg [iI 72 (.bin .add (.t 55) (.c (.int .i64 1))),iI 55 (.mv (.t 72))])
def c24_17:C:=.seq (.reg [iI 73 (.mv (.t 14)),iI 74 (.call (.c (.fn 65 [])) [(.t 73),(.c (.fn 66 []))])]) (.seq (.reg [iI 75 (.mv (.t 14)),iI 8 (.mv (.t 75)),iI 9 (.mv (.c (.int .i64 0)))]) .ret)
def c24_18:C:=.seq (.seq (.reg [iI 53 (.mv (.t 0)),iI 54 (.len 0 (.t 53)),iI 55 (.mv (.c (.int .i64 0)))]) (.block 2 (.loop (.seq (.reg [iI 56 (.bin .lss (.t 55) (.t 54))]) (.seq (.cond (.t 56) (.skip) (.exit 2)) c24_13))))) c24_17
def c24_20:C:=.seq (.seq (.reg [iI 50 (.mv (.t 13)),iI 51 (.bin .neq (.t 50) (.c (.int .i64 0)))]) (.cond (.t 51) (.seq (.reg [iI 52 (.mv (.t 13)),iI 8 (.mv (.c (.sl 4 true []))),iI 9 (.mv (.t 52))]) .ret) (.skip))) (.seq (.reg [iI 14 (.mv (.c (.sl 4 true [])))]) c24_18)
def c24_21:C:=.seq (.reg [iI 43 (.mv (.t 2)),iI 44 (.mv (.t 3)),iI 45 (.mv (.t 0)),iI 46 (.len 0 (.t 45)),iI 47 (.call (.c (.fn 64 [])) [(.t 43),(.t 44),(.t 46)]),iI 42 (.mv (.t 47)),iI 48 (.ext (.t 42) 0),iI 49 (.ext (.t 42) 1),iI 12 (.mv (.t 48)),iI 13 (.mv (.t 49))]) c24_20
def c24_22:C:=.seq (.seq (.reg [iI 36 (.mv (.t 1)),iI 37 (.bin .lss (.t 36) (.c (.int .i64 0))),iI 38 (.mv (.t 37)),iG (some 39) 38 false (.mv (.t 1)),iG (some 40) 38 false (.bin .geq (.t 39) (.c (.int .i64 15))),iI 41 (.pick (.t 38) (.c (.bool true)) (.t 40))]) (.cond (.t 41) (.seq (.reg [iI 8 (.mv (.c (.sl 4 true []))),iI 9 (.mv (.c (.int .i64 1)))]) .ret) (.skip))) c24_21
def c24_23:C:=.seq (.seq (.reg [iI 20 (.mv (.t 0)),iI 21 (.len 0 (.t 20)),iI 22 (.mv (.c (.int .i64 0)))]) (.block 0 (.loop (.seq (.reg [iI 23 (.bin .lss (.t 22) (.t 21))]) (.seq (.cond (.t 23) (.skip) (.exit 0)) c24_6))))) c24_22
def c24_24:C:=.seq (.seq (.reg [iI 17 (.mv (.t 0)),iI 18 (.len 0 (.t 17)),iI 19 (.bin .gtr (.t 18) (.c (.int .i64 256)))]) (.cond (.t 19) (.seq (.reg [iI 8 (.mv (.c (.sl 4 true []))),iI 9 (.mv (.c (.int .i64 5)))]) .ret) (.skip))) c24_23
def ir24:C:=.seq (.reg [iI 8 (.mv (.c (.sl 4 true []))),iI 9 (.mv (.c (.int .i64 0)))]) c24_24
theorem fd24:fd? Tryz.prog 24=some (76,[.slot 8,.slot 9],ir24):=by kernel_rfl
def f24(x0:(List Int))(x1:Int)(x2:Int)(x3:Int):Option ((List ApiEntry)×Int) :=
  (if (decide (256<((x0.length:Nat):Int)))=true then (some ([],5)) else ((Lp.run (f24_L1 x0 x3 x2 x1) 0).bind fun r_=>match r_ with | (Sum.inl _)=>(if (decide (x1<0))=true then (some ([],1)) else (if (decide (15≤x1))=true then (some ([],1)) else (f64 x2 x3 ((x0.length:Nat):Int)).bind fun x4=>(if (decide (x4.2≠0))=true then (some ([],x4.2)) else (Lp.run (f24_L2 x0 x4 x1) (0,[])).bind fun x5=>(sortf? (fun x6 x7=>f66 x6 x7) x5).bind fun x8=>(some (x8,0))))) | (Sum.inr x9)=>(some ([],x9))))
theorem f24_ok{x0:(List Int)}{x1:Int}{x2:Int}{x3:Int}{r_:(List ApiEntry)×Int}(H:f24 x0 x1 x2 x3=some r_):Pure Tryz.prog 24 [.sl 0 false (x0.map (AV.int .i64)),.int .i64 x1,.int .i64 x2,.int .i64 x3] (· = .tup [.fr 4 (r_.1.map eApiEntry),.int .i64 r_.2]):=by
 refine w3s fd24 0 fun Q hQ=>?_
 simp only[f24] at H
 refine zr ?_
 refine zq (zr ?_)
 refine ic H ?_ ?_<;>clear H<;>intro H
 ·refine zr ?_
  cases H
  exact zt (zv (zf0 hQ))
 ·refine zk (zm (zq (zr ?_)))
  refine zd ?_
  refine zU H [] [0,1,2,3,20,21,22] (f24_L1c ..) ?_<;>clear H
  rintro x4 x_ st0_ H hst_
  rw[f24_L1c] at hst_
  simp only[f24_L1] at H
  subst hst_
  refine zr ?_
  refine zq (ic H ?_ ?_)<;>clear H<;>intro H
  ·refine zk (zm (zb (zr ?_)))
   refine ia (AV.int .i64) H ?_<;>clear H<;>intro x5 H
   refine zs ?_
   refine zq (zr ?_)
   refine pu H f56_ok ?_<;>clear H<;>intro x6 H
   refine zE0 ?_
   refine ic H ?_ ?_<;>clear H<;>intro H
   ·refine zr ?_
    refine zt (zv (zp (loopQ.ret H ?_)))<;>clear H<;>intro H
    try dsimp only at H
    cases H
    exact zh (zv (zf0 hQ))
   ·refine zk (zm (zr ?_))
    refine sc (AV.int .i64) H ?_<;>clear H<;>intro x7 H
    refine zs ?_
    refine pu H f28_ok ?_<;>clear H<;>intro x8 H
    refine zE0 ?_
    refine ic H ?_ ?_<;>clear H<;>intro H
    ·refine zr ?_
     refine zt (zp (loopQ.ret H ?_))<;>clear H<;>intro H
     try dsimp only at H
     cases H
     exact zh (zv (zf0 hQ))
    ·refine zk (zo (ze ?_))
     exact zu H [] [0,1,2,3,20,21,22] (f24_L1c ..)
  ·refine zx (zy (loopQ.exit H ?_))<;>clear H<;>intro H
   try dsimp only at H
   refine zi (zm (zq (zr ?_)))
   refine ig H ?_ ?_<;>clear H<;>intro H
   ·refine zs ?_
    refine za (zr ?_)
    cases H
    exact zt (zv (zf0 hQ))
   ·refine zs ?_
    refine ic H ?_ ?_<;>clear H<;>intro H
    ·refine zr ?_
     cases H
     exact zt (zv (zf0 hQ))
    ·refine zk (zm (zr ?_))
     refine pu H f64_im ?_<;>clear H<;>intro x9 H
     refine zE0 ?_
     refine zq (zr ?_)
     refine ic H ?_ ?_<;>clear H<;>intro H
     ·refine zr ?_
      cases H
      exact zt (zv (zf0 hQ))
     ·refine zk (zm (zr ?_))
      refine zq (zr ?_)
      refine zd ?_
      refine AW.iter H ((Le.trans (Le.nilRow (i:=14) (e:=4) (by simp only[↓wk,↓wl,nq,evV,↓reduceIte,sevalprocAttr])) (Le.tz [0] [1,12,14,53,54,55] (by simp only[f24_L2c,wm,wmr,rrm,↓wk,↓wl,evV,↓reduceIte,sevalprocAttr]<;>rfl)))) ?_<;>clear H
      rintro ⟨xa,xb⟩ x_ st0_ H hst_
      rw[f24_L2c] at hst_
      simp only[f24_L2] at H
      subst hst_
      refine zr ?_
      refine zq (ic H ?_ ?_)<;>clear H<;>intro H
      ·refine zk (zm (zb (zr ?_)))
       refine ia (AV.int .i64) H ?_<;>clear H<;>intro xc H
       refine zs ?_
       refine ze ?_
       refine ia (AV.int .i64) H ?_<;>clear H<;>intro xd H
       refine zs ?_
       refine ap eApiEntry H ?_<;>clear H<;>intro xe H
       refine zs ?_
       refine zo (ze ?_)
       exact zu H [1] [1,12,14,53,54,55] (f24_L2c ..)
      ·refine zx (zy (loopQ.exit H ?_))<;>clear H<;>intro H
       try dsimp only at H
       refine zi (zm (zr ?_))
       refine evTs_srf (enc:=eApiEntry) H [] (fun _ _ _ h=>f66_ok h) srf65 (by rfl) (by rfl) (fun h_ hh_ x_ y_=>by  simp only[deep_eq,imm_simps,imm_ptrE,imm_mrefE,imm_mpE,imm_arowE,imm_encx (enc:=eApiEntry),omap_simps,List.drop_zero,Option.map_some,wm,↓wk,↓wl,nq,evV,↓reduceIte,sevalprocAttr]<;>rfl) (by first | rfl | simp only[List.length_set]) (by rfl) ?_<;>clear H<;>intro xf xg H
       have xh:=fun f=>take_map_eq xg f
       try simp only[wm,↓wk,↓wl,nq,evV,↓reduceIte,sevalprocAttr,xg,xh]
       refine AW.rseq ?_
       try simp only[wm,↓wk,↓wl,nq,evV,↓reduceIte,sevalprocAttr,xg,xh]
       refine zt ?_
       cases H
       exact hQ _ _ _ _ (.inr rfl) (by simp only[resVs,omap,resV,wm,↓wk,↓wl,nq,evV,↓reduceIte,sevalprocAttr,xg,xh];rfl) (hand_k (by rfl) (by rfl) (by first | rfl | (simp only[List.length_map,List.length_set,xg];done) | simp[xg]) (enc_all _) (by rfl)) (by first | exact Or.inl rfl | exact Or.inr rfl)
theorem f24_im{x0:(List Int)}{x1:Int}{x2:Int}{x3:Int}{r_:(List ApiEntry)×Int}(H:f24 x0 x1 x2 x3=some r_):Pure Tryz.prog 24 [.sl 0 false (x0.map (AV.int .i64)),.int .i64 x1,.int .i64 x2,.int .i64 x3] (· = .tup [.sl 4 false (r_.1.map eApiEntry),.int .i64 r_.2]):=(f24_ok H).unfr (by first | exact enc_fits _ | simp only[frFits,List.all_cons,List.all_nil,enc_fits,Bool.and_self])
theorem srf61:Sorts Tryz.prog 2 61 102 147 103:=⟨by kernel_rfl,by kernel_rfl,by kernel_rfl,len103⟩
def f21_L2(x0:(List Int)×Int)(x1:Int)(x2:Int)(x3:(List Int)×Int)(x4:Int)(x5:UniverseRig):Lp (Int×(List ApiParam)) ((List ApiParam)) where
  body:=fun (x6,x7)=>(if (decide (x6<((x0.1.length:Nat):Int)))=true then (at? x0.1 x6).bind fun x8=>(app? 16 x7 ([(ApiParam.mk x1 x8)])).bind fun x9=>(some (.next ((IntKind.i64.wrap (x6 + 1)),x9))) else (some (.brk x7)))
  cst:=fun (x6,x7)=>⟨put (put (put (put (put (put (put (put (put (put (fun _=>.junk) 55 (.int .i64 x6)) 54 (.int .i64 ((x0.1.length:Nat):Int))) 53 (.sl 0 false (x0.1.map (AV.int .i64)))) 39 (.int .i64 x2)) 38 (.int .i64 ((x3.1.length:Nat):Int))) 37 (.sl 0 false (x3.1.map (AV.int .i64)))) 15 (.int .i64 x1)) 13 (.row 2 1 0 x7.length)) 6 (.ptr 0 0)) 3 (.int .i64 x4),[.cel [.sl 0 false (x5.fCurves.map (eL 2 eApiPoint)),.sl 4 false (x5.fProfiles.map eApiProfile),.sl 7 false (x5.fFixtures.map eApiFixture)],.els 2 (x7.map eApiParam)]⟩
theorem f21_L2c(x0:(List Int)×Int)(x1:Int)(x2:Int)(x3:(List Int)×Int)(x4:Int)(x5:UniverseRig)(x6:Int)(x7:(List ApiParam)):(f21_L2 x0 x1 x2 x3 x4 x5).cst (x6,x7)=⟨put (put (put (put (put (put (put (put (put (put (fun _=>.junk) 55 (.int .i64 x6)) 54 (.int .i64 ((x0.1.length:Nat):Int))) 53 (.sl 0 false (x0.1.map (AV.int .i64)))) 39 (.int .i64 x2)) 38 (.int .i64 ((x3.1.length:Nat):Int))) 37 (.sl 0 false (x3.1.map (AV.int .i64)))) 15 (.int .i64 x1)) 13 (.row 2 1 0 x7.length)) 6 (.ptr 0 0)) 3 (.int .i64 x4),[.cel [.sl 0 false (x5.fCurves.map (eL 2 eApiPoint)),.sl 4 false (x5.fProfiles.map eApiProfile),.sl 7 false (x5.fFixtures.map eApiFixture)],.els 2 (x7.map eApiParam)]⟩:=rfl
def f21_L1(x0:(List Int)×Int)(x1:UniverseRig)(x2:Int):Lp (Int×(List ApiParam)) (((List ApiParam))⊕(Int)) where
  body:=fun (x3,x4)=>(if (decide (x3<((x0.1.length:Nat):Int)))=true then (at? x0.1 x3).bind fun x5=>(f58 x1 x5 x2).bind fun x6=>(if (decide (x6.2≠0))=true then (some (.brk (Sum.inr x6.2))) else (Lp.run (f21_L2 x6 x5 x3 x0 x2 x1) (0,x4)).bind fun x7=>(some (.next ((IntKind.i64.wrap (x3 + 1)),x7)))) else (some (.brk (Sum.inl x4))))
  cst:=fun (x3,x4)=>⟨put (put (put (put (put (put (fun _=>.junk) 39 (.int .i64 x3)) 38 (.int .i64 ((x0.1.length:Nat):Int))) 37 (.sl 0 false (x0.1.map (AV.int .i64)))) 13 (.row 2 1 0 x4.length)) 6 (.ptr 0 0)) 3 (.int .i64 x2),[.cel [.sl 0 false (x1.fCurves.map (eL 2 eApiPoint)),.sl 4 false (x1.fProfiles.map eApiProfile),.sl 7 false (x1.fFixtures.map eApiFixture)],.els 2 (x4.map eApiParam)]⟩
theorem f21_L1c(x0:(List Int)×Int)(x1:UniverseRig)(x2:Int)(x3:Int)(x4:(List ApiParam)):(f21_L1 x0 x1 x2).cst (x3,x4)=⟨put (put (put (put (put (put (fun _=>.junk) 39 (.int .i64 x3)) 38 (.int .i64 ((x0.1.length:Nat):Int))) 37 (.sl 0 false (x0.1.map (AV.int .i64)))) 13 (.row 2 1 0 x4.length)) 6 (.ptr 0 0)) 3 (.int .i64 x2),[.cel [.sl 0 false (x1.fCurves.map (eL 2 eApiPoint)),.sl 4 false (x1.fProfiles.map eApiProfile),.sl 7 false (x1.fFixtures.map eApiFixture)],.els 2 (x4.map eApiParam)]⟩:=rfl
def c21_2:C:=.seq (.reg [iI 31 (.mv (.t 12)),iI 32 (.bin .neq (.t 31) (.c (.int .i64 0)))]) (.cond (.t 32) (.seq (.reg [iI 33 (.mv (.t 12)),iI 8 (.mv (.c (.sl 2 true []))),iI 9 (.mv (.t 33))]) .ret) (.skip))
def c21_5:C:=.reg [iI 59 (.mv (.t 13)),iI 60 (.mv (.t 15)),iI 61 (.mv (.t 19)),iI 62 (.build [(1,(.int .i64 0)),(1,(.int .i64 0))] [(0,0,(.t 60)),(1,0,(.t 61))]),iI 63 (.mkslp 2 1 (.agg [(.int .i64 0),(.int .i64 0)]) [(0,(.t 62))]),iI 64 (.append 2 16 (.t 59) (.t 63)),iI 13 (.mv (.t 64))]
def c21_7:C:=.seq (.block 3 (.seq (.reg [iI 57 (.iaddr 0 (.t 53) (.t 55)),iI 58 (.load 0 (.t 57)),iI 19 (.mv (.t 58))]) c21_5)) (.reg [iI 65 (.bin .add (.t 55) (.c (.int .i64 1))),iI 55 (.mv (.t 65))])
def c21_10:C:=.seq (.reg [iI 53 (.mv (.t 16)),iI 54 (.len 0 (.t 53)),iI 55 (.mv (.c (.int .i64 0)))]) (.block 2 (.loop (.seq (.reg [iI 56 (.bin .lss (.t 55) (.t 54))]) (.seq (.cond (.t 56) (.skip) (.exit 2)) c21_7))))
def c21_11:C:=.seq (.seq (.reg [iI 50 (.mv (.t 17)),iI 51 (.bin .neq (.t 50) (.c (.int .i64 0)))]) (.cond (.t 51) (.seq (.reg [iI 52 (.mv (.t 17)),iI 8 (.mv (.c (.sl 2 true []))),iI 9 (.mv (.t 52))]) .ret) (.skip))) c21_10
def c21_12:C:=.seq (.reg [iI 44 (.load 3 (.t 6)),iI 45 (.mv (.t 15)),iI 46 (.mv (.t 3)),iI 47 (.call (.c (.fn 58 [])) [(.t 44),(.t 45),(.t 46)]),iI 43 (.mv (.t 47)),iI 48 (.ext (.t 43) 0),iI 49 (.ext (.t 43) 1),iI 16 (.mv (.t 48)),iI 17 (.mv (.t 49))]) c21_11
def c21_14:C:=.seq (.block 1 (.seq (.reg [iI 41 (.iaddr 0 (.t 37) (.t 39)),iI 42 (.load 0 (.t 41)),iI 15 (.mv (.t 42))]) c21_12)) (.reg [iI 66 (.bin .add (.t 39) (.c (.int .i64 1))),iI 39 (.mv (.t 66))])
def c21_18:C:=.seq (.reg [iI 67 (.mv (.t 13)),iI 68 (.call (.c (.fn 61 [])) [(.t 67),(.c (.fn 62 []))])]) (.seq (.reg [iI 69 (.mv (.t 13)),iI 8 (.mv (.t 69)),iI 9 (.mv (.c (.int .i64 0)))]) .ret)
def c21_19:C:=.seq (.seq (.reg [iI 37 (.mv (.t 10)),iI 38 (.len 0 (.t 37)),iI 39 (.mv (.c (.int .i64 0)))]) (.block 0 (.loop (.seq (.reg [iI 40 (.bin .lss (.t 39) (.t 38))]) (.seq (.cond (.t 40) (.skip) (.exit 0)) c21_14))))) c21_18
def c21_21:C:=.seq (.seq (.reg [iI 34 (.mv (.t 3)),iI 35 (.call (.c (.fn 57 [])) [(.t 34)]),iI 36 (.un .not (.t 35))]) (.cond (.t 36) (.seq (.reg [iI 8 (.mv (.c (.sl 2 true []))),iI 9 (.mv (.c (.int .i64 1)))]) .ret) (.skip))) (.seq (.reg [iI 13 (.mv (.c (.sl 2 true [])))]) c21_19)
def c21_23:C:=.seq (.seq (.reg [iI 26 (.mv (.t 11)),iI 27 (.bin .neq (.t 26) (.c (.int .i64 0)))]) (.cond (.t 27) (.seq (.reg [iI 28 (.mv (.t 11)),iI 8 (.mv (.c (.sl 2 true []))),iI 9 (.mv (.t 28))]) .ret) (.skip))) (.seq (.seq (.reg [iI 29 (.load 3 (.t 6)),iI 30 (.call (.c (.fn 55 [])) [(.t 29)]),iI 12 (.mv (.t 30))]) c21_2) c21_21)
def c21_24:C:=.seq (.reg [iI 21 (.mv (.t 0)),iI 22 (.mv (.t 1)),iI 23 (.call (.c (.fn 13 [])) [(.t 21),(.t 22)]),iI 20 (.mv (.t 23)),iI 24 (.ext (.t 20) 0),iI 25 (.ext (.t 20) 1),iI 10 (.mv (.t 24)),iI 11 (.mv (.t 25))]) c21_23
def ir21:C:=.seq (.reg [iI 6 (.box (.t 2)),iI 8 (.mv (.c (.sl 2 true []))),iI 9 (.mv (.c (.int .i64 0)))]) c21_24
theorem fd21:fd? Tryz.prog 21=some (70,[.slot 8,.slot 9],ir21):=by kernel_rfl
def f21(x0:(List ApiSelect))(x1:(List ApiGroup))(x2:UniverseRig)(x3:Int):Option ((List ApiParam)×Int) :=
  (f13 x0 x1).bind fun x4=>(if (decide (x4.2≠0))=true then (some ([],x4.2)) else (f55 x2).bind fun x5=>(if (decide (x5≠0))=true then (some ([],x5)) else (f57 x3).bind fun x6=>(if (!x6)=true then (some ([],1)) else ((Lp.run (f21_L1 x4 x2 x3) (0,[])).bind fun r_=>match r_ with | (Sum.inl x7)=>(sortf? (fun x8 x9=>f62 x8 x9) x7).bind fun xa=>(some (xa,0)) | (Sum.inr xb)=>(some ([],xb))))))
theorem f21_ok{x0:(List ApiSelect)}{x1:(List ApiGroup)}{x2:UniverseRig}{x3:Int}{r_:(List ApiParam)×Int}(H:f21 x0 x1 x2 x3=some r_):Pure Tryz.prog 21 [.sl 4 false (x0.map eApiSelect),.sl 2 false (x1.map eApiGroup),.agg [.sl 0 false (x2.fCurves.map (eL 2 eApiPoint)),.sl 4 false (x2.fProfiles.map eApiProfile),.sl 7 false (x2.fFixtures.map eApiFixture)],.int .i64 x3] (· = .tup [.fr 2 (r_.1.map eApiParam),.int .i64 r_.2]):=by
 refine w3s fd21 0 fun Q hQ=>?_
 simp only[f21] at H
 refine zr ?_
 refine zr ?_
 refine pu H f13_im ?_<;>clear H<;>intro x4 H
 refine zE0 ?_
 refine zq (zr ?_)
 refine ic H ?_ ?_<;>clear H<;>intro H
 ·refine zr ?_
  cases H
  exact zt (zv (zf0 hQ))
 ·refine zk (zm (zq (zr ?_)))
  refine pu H f55_ok ?_<;>clear H<;>intro x5 H
  refine zE0 ?_
  refine zr ?_
  refine ic H ?_ ?_<;>clear H<;>intro H
  ·refine zr ?_
   cases H
   exact zt (zv (zf0 hQ))
  ·refine zk (zm (zq (zr ?_)))
   refine pu H f57_ok ?_<;>clear H<;>intro x6 H
   refine zE0 ?_
   refine ic H ?_ ?_<;>clear H<;>intro H
   ·refine zr ?_
    cases H
    exact zt (zv (zf0 hQ))
   ·refine zk (zm (zr ?_))
    refine zq (zr ?_)
    refine zd ?_
    refine AW.iter H ((Le.trans (Le.nilRow (i:=13) (e:=2) (by simp only[↓wk,↓wl,nq,evV,↓reduceIte,sevalprocAttr])) (Le.tz [0,1] [3,6,13,37,38,39] (by simp only[f21_L1c,wm,wmr,rrm,↓wk,↓wl,evV,↓reduceIte,sevalprocAttr]<;>rfl)))) ?_<;>clear H
    rintro ⟨x7,x8⟩ x_ st0_ H hst_
    rw[f21_L1c] at hst_
    simp only[f21_L1] at H
    subst hst_
    refine zr ?_
    refine zq (ic H ?_ ?_)<;>clear H<;>intro H
    ·refine zk (zm (zb (zr ?_)))
     refine ia (AV.int .i64) H ?_<;>clear H<;>intro x9 H
     refine zs ?_
     refine zr ?_
     refine pu H f58_im ?_<;>clear H<;>intro xa H
     refine zE0 ?_
     refine zq (zr ?_)
     refine ic H ?_ ?_<;>clear H<;>intro H
     ·refine zr ?_
      refine zt (zv (zp (loopQ.ret H ?_)))<;>clear H<;>intro H
      try dsimp only at H
      cases H
      exact zh (zv (zf0 hQ))
     ·refine zk (zm (zr ?_))
      refine zd ?_
      refine zU H [0,1] [3,6,13,15,37,38,39,53,54,55] (f21_L2c ..) ?_<;>clear H
      rintro ⟨xb,xc⟩ x_ st0_ H hst_
      rw[f21_L2c] at hst_
      simp only[f21_L2] at H
      subst hst_
      refine zr ?_
      refine zq (ic H ?_ ?_)<;>clear H<;>intro H
      ·refine zk (zm (zb (zr ?_)))
       refine ia (AV.int .i64) H ?_<;>clear H<;>intro xd H
       refine zs ?_
       refine ze ?_
       refine ap eApiParam H ?_<;>clear H<;>intro xe H
       refine zs ?_
       refine zo (ze ?_)
       exact zu H [0,2] [3,6,13,15,37,38,39,53,54,55] (f21_L2c ..)
      ·refine zx (zy (loopQ.exit H ?_))<;>clear H<;>intro H
       try dsimp only at H
       refine zi (zo (ze ?_))
       exact zu H [0,1] [3,6,13,37,38,39] (f21_L1c ..)
    ·refine zx (zy (loopQ.exit H ?_))<;>clear H<;>intro H
     try dsimp only at H
     refine zi (zm (zr ?_))
     refine evTs_srf (enc:=eApiParam) H [] (fun _ _ _ h=>f62_ok h) srf61 (by rfl) (by rfl) (fun h_ hh_ x_ y_=>by  simp only[deep_eq,imm_simps,imm_ptrE,imm_mrefE,imm_mpE,imm_arowE,imm_encx (enc:=eApiParam),omap_simps,List.drop_zero,Option.map_some,wm,↓wk,↓wl,nq,evV,↓reduceIte,sevalprocAttr]<;>rfl) (by first | rfl | simp only[List.length_set]) (by rfl) ?_<;>clear H<;>intro xf xg H
     have xh:=fun f=>take_map_eq xg f
     try simp only[wm,↓wk,↓wl,nq,evV,↓reduceIte,sevalprocAttr,xg,xh]
     refine AW.rseq ?_
     try simp only[wm,↓wk,↓wl,nq,evV,↓reduceIte,sevalprocAttr,xg,xh]
     refine zt ?_
     cases H
     exact hQ _ _ _ _ (.inr rfl) (by simp only[resVs,omap,resV,wm,↓wk,↓wl,nq,evV,↓reduceIte,sevalprocAttr,xg,xh];rfl) (hand_k (by rfl) (by rfl) (by first | rfl | (simp only[List.length_map,List.length_set,xg];done) | simp[xg]) (enc_all _) (by rfl)) (by first | exact Or.inl rfl | exact Or.inr rfl)
theorem f21_im{x0:(List ApiSelect)}{x1:(List ApiGroup)}{x2:UniverseRig}{x3:Int}{r_:(List ApiParam)×Int}(H:f21 x0 x1 x2 x3=some r_):Pure Tryz.prog 21 [.sl 4 false (x0.map eApiSelect),.sl 2 false (x1.map eApiGroup),.agg [.sl 0 false (x2.fCurves.map (eL 2 eApiPoint)),.sl 4 false (x2.fProfiles.map eApiProfile),.sl 7 false (x2.fFixtures.map eApiFixture)],.int .i64 x3] (· = .tup [.sl 2 false (r_.1.map eApiParam),.int .i64 r_.2]):=(f21_ok H).unfr (by first | exact enc_fits _ | simp only[frFits,List.all_cons,List.all_nil,enc_fits,Bool.and_self])
def f17_L1(x0:(List Int))(x1:(List Int)):Lp (Int) ((Unit)⊕(Unit)) where
  body:=fun x2=>(if (decide (x2<((x0.length:Nat):Int)))=true then (at? x0 x2).bind fun x3=>(at? x1 x2).bind fun x4=>(if (decide (x3≠x4))=true then (some (.brk (Sum.inr ()))) else (some (.next (IntKind.i64.wrap (x2 + 1))))) else (some (.brk (Sum.inl ()))))
  cst:=fun x2=>⟨put (put (put (put (fun _=>.junk) 13 (.int .i64 x2)) 12 (.int .i64 ((x0.length:Nat):Int))) 1 (.sl 0 false (x1.map (AV.int .i64)))) 0 (.sl 0 false (x0.map (AV.int .i64))),[]⟩
theorem f17_L1c(x0:(List Int))(x1:(List Int))(x2:Int):(f17_L1 x0 x1).cst x2=⟨put (put (put (put (fun _=>.junk) 13 (.int .i64 x2)) 12 (.int .i64 ((x0.length:Nat):Int))) 1 (.sl 0 false (x1.map (AV.int .i64)))) 0 (.sl 0 false (x0.map (AV.int .i64))),[]⟩:=rfl
def c17_2:C:=.seq (.reg [iI 16 (.mv (.t 0)),iI 17 (.mv (.t 5)),iI 18 (.iaddr 0 (.t 16) (.t 17)),iI 19 (.load 0 (.t 18)),iI 20 (.mv (.t 1)),iI 21 (.mv (.t 5)),iI 22 (.iaddr 0 (.t 20) (.t 21)),iI 23 (.load 0 (.t 22)),iI 24 (.bin .neq (.t 19) (.t 23))]) (.cond (.t 24) (.seq (.reg [iI 4 (.mv (.c (.bool false)))]) .ret) (.skip))
def c17_5:C:=.seq (.cond (.t 14) (.skip) (.exit 0)) (.seq (.block 1 (.seq (.reg [iI 15 (.mv (.t 13)),iI 5 (.mv (.t 15))]) c17_2)) (.reg [iI 25 (.bin .add (.t 13) (.c (.int .i64 1))),iI 13 (.mv (.t 25))]))
def c17_8:C:=.seq (.seq (.reg [iI 11 (.mv (.t 0)),iI 12 (.len 0 (.t 11)),iI 13 (.mv (.c (.int .i64 0)))]) (.block 0 (.loop (.seq (.reg [iI 14 (.bin .lss (.t 13) (.t 12))]) c17_5)))) (.seq (.reg [iI 4 (.mv (.c (.bool true)))]) .ret)
def c17_9:C:=.seq (.seq (.reg [iI 6 (.mv (.t 0)),iI 7 (.len 0 (.t 6)),iI 8 (.mv (.t 1)),iI 9 (.len 0 (.t 8)),iI 10 (.bin .neq (.t 7) (.t 9))]) (.cond (.t 10) (.seq (.reg [iI 4 (.mv (.c (.bool false)))]) .ret) (.skip))) c17_8
def ir17:C:=.seq (.reg [iI 4 (.mv (.c (.bool false)))]) c17_9
theorem fd17:fd? Tryz.prog 17=some (26,[.slot 4],ir17):=by kernel_rfl
def f17(x0:(List Int))(x1:(List Int)):Option (Bool) :=
  (if (decide (((x0.length:Nat):Int)≠((x1.length:Nat):Int)))=true then (some false) else ((Lp.run (f17_L1 x0 x1) 0).bind fun r_=>match r_ with | (Sum.inl _)=>(some true) | (Sum.inr _)=>(some false)))
theorem f17_ok{x0:(List Int)}{x1:(List Int)}{r_:Bool}(H:f17 x0 x1=some r_):Pure Tryz.prog 17 [.sl 0 false (x0.map (AV.int .i64)),.sl 0 false (x1.map (AV.int .i64))] (· = .bool r_):=by
 refine w3 fd17 fun Q hQ=>?_
 simp only[f17] at H
 refine zr ?_
 refine zq (zr ?_)
 refine ic H ?_ ?_<;>clear H<;>intro H
 ·refine zr ?_
  cases H
  exact zt (zv (zf hQ))
 ·refine zk (zm (zq (zr ?_)))
  refine zd ?_
  refine zU H [] [0,1,12,13] (f17_L1c ..) ?_<;>clear H
  rintro x2 x_ st0_ H hst_
  rw[f17_L1c] at hst_
  simp only[f17_L1] at H
  subst hst_
  refine zr ?_
  refine zq (ic H ?_ ?_)<;>clear H<;>intro H
  ·refine zk (zm (zb (zr ?_)))
   refine zr ?_
   refine ia (AV.int .i64) H ?_<;>clear H<;>intro x3 H
   refine zs ?_
   refine ia (AV.int .i64) H ?_<;>clear H<;>intro x4 H
   refine zs ?_
   refine ic H ?_ ?_<;>clear H<;>intro H
   ·refine zr ?_
    refine zt (zp (loopQ.ret H ?_))<;>clear H<;>intro H
    try dsimp only at H
    cases H
    exact zh (zv (zf hQ))
   ·refine zk (zo (ze ?_))
    exact zu H [] [0,1,12,13] (f17_L1c ..)
  ·refine zx (zy (loopQ.exit H ?_))<;>clear H<;>intro H
   try dsimp only at H
   refine zi (zm (zr ?_))
   cases H
   exact zt (zf hQ)
def c12_1:C:=.seq (.reg [iI 71 (.mv (.t 7)),iI 72 (.iaddr 4 (.t 71) (.c (.int .i64 0))),iI 73 (.faddr 0 (.t 72)),iI 74 (.faddr 0 (.t 73)),iI 75 (.load 0 (.t 74)),iI 76 (.bin .eql (.t 75) (.c (.int .i64 2))),iI 77 (.mv (.t 76)),iG (some 78) 77 true (.mv (.t 7)),iG (some 79) 77 true (.iaddr 4 (.t 78) (.c (.int .i64 0))),iG (some 80) 77 true (.faddr 2 (.t 79)),iG (some 81) 77 true (.faddr 1 (.t 80)),iG (some 82) 77 true (.load 0 (.t 81)),iG (some 83) 77 true (.bin .eql (.t 82) (.c (.int .i64 50))),iI 84 (.pick (.t 77) (.t 83) (.c (.bool false))),iI 85 (.mv (.t 84)),iG (some 86) 85 true (.mv (.t 7)),iG (some 87) 85 true (.iaddr 4 (.t 86) (.c (.int .i64 1))),iG (some 88) 85 true (.faddr 2 (.t 87)),iG (some 89) 85 true (.faddr 1 (.t 88)),iG (some 90) 85 true (.load 0 (.t 89)),iG (some 91) 85 true (.bin .eql (.t 90) (.c (.int .i64 0))),iI 92 (.pick (.t 85) (.t 91) (.c (.bool false))),iI 93 (.mv (.t 92)),iG (some 94) 93 true (.mv (.t 7)),iG (some 95) 93 true (.iaddr 4 (.t 94) (.c (.int .i64 2))),iG (some 96) 93 true (.faddr 2 (.t 95)),iG (some 97) 93 true (.faddr 1 (.t 96)),iG (some 98) 93 true (.load 0 (.t 97)),iG (some 99) 93 true (.bin .eql (.t 98) (.c (.int .i64 100))),iI 100 (.pick (.t 93) (.t 99) (.c (.bool false))),iI 101 (.mv (.t 100)),iG (some 102) 101 true (.mv (.t 9)),iG (some 103) 101 true (.iaddr 2 (.t 102) (.c (.int .i64 0))),iG (some 104) 101 true (.load 2 (.t 103)),iG (some 105) 101 true (.build [(1,(.int .i64 0)),(1,(.int .i64 0))] [(0,0,(.c (.int .i64 5)))]),iG (some 106) 101 true (.eqs false [0,0] (.t 104) (.t 105)),iI 107 (.pick (.t 101) (.t 106) (.c (.bool false))),iI 0 (.mv (.t 107))]) .ret
def c12_2:C:=.seq (.seq (.reg [iI 41 (.mv (.t 4)),iI 42 (.mv (.t 6)),iI 43 (.bin .add (.t 41) (.t 42)),iI 44 (.mv (.t 8)),iI 45 (.bin .add (.t 43) (.t 44)),iI 46 (.mv (.t 10)),iI 47 (.bin .add (.t 45) (.t 46)),iI 48 (.bin .neq (.t 47) (.c (.int .i64 0))),iI 49 (.mv (.t 48)),iG (some 50) 49 false (.mv (.t 3)),iG (some 51) 49 false (.mkslp 0 5 (.int .i64 0) [(0,(.c (.int .i64 5))),(1,(.c (.int .i64 7))),(2,(.c (.int .i64 8))),(3,(.c (.int .i64 9))),(4,(.c (.int .i64 3)))]),iG (some 52) 49 false (.call (.c (.fn 17 [])) [(.t 50),(.t 51)]),iG (some 53) 49 false (.un .not (.t 52)),iI 54 (.pick (.t 49) (.c (.bool true)) (.t 53)),iI 55 (.mv (.t 54)),iG (some 56) 55 false (.mv (.t 5)),iG (some 57) 55 false (.mkslp 0 2 (.int .i64 0) [(0,(.c (.int .i64 1))),(1,(.c (.int .i64 2)))]),iG (some 58) 55 false (.call (.c (.fn 17 [])) [(.t 56),(.t 57)]),iG (some 59) 55 false (.un .not (.t 58)),iI 60 (.pick (.t 55) (.c (.bool true)) (.t 59)),iI 61 (.mv (.t 60)),iG (some 62) 61 false (.mv (.t 7)),iG (some 63) 61 false (.len 0 (.t 62)),iG (some 64) 61 false (.bin .neq (.t 63) (.c (.int .i64 3))),iI 65 (.pick (.t 61) (.c (.bool true)) (.t 64)),iI 66 (.mv (.t 65)),iG (some 67) 66 false (.mv (.t 9)),iG (some 68) 66 false (.len 0 (.t 67)),iG (some 69) 66 false (.bin .neq (.t 68) (.c (.int .i64 3))),iI 70 (.pick (.t 66) (.c (.bool true)) (.t 69))]) (.cond (.t 70) (.seq (.reg [iI 0 (.mv (.c (.bool false)))]) .ret) (.skip))) c12_1
def c12_3:C:=.seq (.reg [iI 35 (.mv (.t 1)),iI 36 (.mv (.t 2)),iI 37 (.call (.c (.fn 42 [])) []),iI 38 (.call (.c (.fn 21 [])) [(.t 35),(.t 36),(.t 37),(.c (.int .i64 (-1)))]),iI 34 (.mv (.t 38)),iI 39 (.ext (.t 34) 0),iI 40 (.ext (.t 34) 1),iI 9 (.mv (.t 39)),iI 10 (.mv (.t 40))]) c12_2
def c12_4:C:=.seq (.reg [iI 30 (.mkslp 0 3 (.int .i64 0) [(0,(.c (.int .i64 5))),(1,(.c (.int .i64 2))),(2,(.c (.int .i64 9)))]),iI 31 (.call (.c (.fn 24 [])) [(.t 30),(.c (.int .i64 0)),(.c (.int .i64 0)),(.c (.int .i64 100))]),iI 29 (.mv (.t 31)),iI 32 (.ext (.t 29) 0),iI 33 (.ext (.t 29) 1),iI 7 (.mv (.t 32)),iI 8 (.mv (.t 33))]) c12_3
def c12_5:C:=.seq (.reg [iI 25 (.call (.c (.fn 42 [])) []),iI 26 (.call (.c (.fn 19 [])) [(.t 25),(.c (.int .i64 5)),(.c (.int .i64 16))]),iI 24 (.mv (.t 26)),iI 27 (.ext (.t 24) 0),iI 28 (.ext (.t 24) 1),iI 5 (.mv (.t 27)),iI 6 (.mv (.t 28))]) c12_4
def c12_6:C:=.seq (.reg [iI 19 (.mv (.t 1)),iI 20 (.mv (.t 2)),iI 21 (.call (.c (.fn 13 [])) [(.t 19),(.t 20)]),iI 18 (.mv (.t 21)),iI 22 (.ext (.t 18) 0),iI 23 (.ext (.t 18) 1),iI 3 (.mv (.t 22)),iI 4 (.mv (.t 23))]) c12_5
def c12_7:C:=.seq (.reg [iI 15 (.mkslp 0 3 (.int .i64 0) [(0,(.c (.int .i64 9))),(1,(.c (.int .i64 3))),(2,(.c (.int .i64 7)))]),iI 16 (.build [(1,(.int .i64 0)),(1,(.sl 0 true []))] [(0,0,(.c (.int .i64 2))),(1,0,(.t 15))]),iI 17 (.mksl 2 1 (.agg [(.int .i64 0),(.sl 0 true [])]) [(0,(.t 16))]),iI 2 (.mv (.t 17))]) c12_6
def c12_8:C:=.seq (.reg [iI 11 (.build [(1,(.int .i64 0)),(1,(.int .i64 0)),(1,(.int .i64 0)),(1,(.int .i64 0))] [(2,0,(.c (.int .i64 5))),(3,0,(.c (.int .i64 8)))]),iI 12 (.build [(1,(.int .i64 0)),(1,(.int .i64 0)),(1,(.int .i64 0)),(1,(.int .i64 0))] [(1,0,(.c (.int .i64 2)))]),iI 13 (.build [(1,(.int .i64 0)),(1,(.int .i64 0)),(1,(.int .i64 0)),(1,(.int .i64 0))] [(0,0,(.c (.int .i64 1))),(2,0,(.c (.int .i64 6))),(3,0,(.c (.int .i64 6)))]),iI 14 (.mkslp 4 3 (.agg [(.int .i64 0),(.int .i64 0),(.int .i64 0),(.int .i64 0)]) [(0,(.t 11)),(1,(.t 12)),(2,(.t 13))]),iI 1 (.mv (.t 14))]) c12_7
def ir12:C:=.seq (.reg [iI 0 (.mv (.c (.bool false)))]) c12_8
theorem fd12:fd? Tryz.prog 12=some (108,[.slot 0],ir12):=by kernel_rfl
def f12:Option (Bool) :=
  (f13 ([(ApiSelect.mk 0 0 5 8),(ApiSelect.mk 0 2 0 0),(ApiSelect.mk 1 0 6 6)]) ([(ApiGroup.mk 2 ([9,3,7]))])).bind fun x0=>(f42).bind fun x1=>(f19 x1 5 16).bind fun x2=>(f24 ([5,2,9]) 0 0 100).bind fun x3=>(f42).bind fun x4=>(f21 ([(ApiSelect.mk 0 0 5 8),(ApiSelect.mk 0 2 0 0),(ApiSelect.mk 1 0 6 6)]) ([(ApiGroup.mk 2 ([9,3,7]))]) x4 (-1)).bind fun x5=>(if (decide ((IntKind.i64.wrap ((IntKind.i64.wrap ((IntKind.i64.wrap (x0.2 + x2.2)) + x3.2)) + x5.2))≠0))=true then (some false) else (f17 x0.1 ([5,7,8,9,3])).bind fun x6=>(if (!x6)=true then (some false) else (f17 x2.1 ([1,2])).bind fun x7=>(if (!x7)=true then (some false) else (if (decide (((x3.1.length:Nat):Int)≠3))=true then (some false) else (if (decide (((x5.1.length:Nat):Int)≠3))=true then (some false) else (at? x3.1 0).bind fun x8=>(if (decide (x8.fParam.fChannel=2))=true then (at? x3.1 0).bind fun x9=>(if (decide (x9.fValue.fLevel=50))=true then (at? x3.1 1).bind fun xa=>(if (decide (xa.fValue.fLevel=0))=true then (at? x3.1 2).bind fun xb=>(if (decide (xb.fValue.fLevel=100))=true then (at? x5.1 0).bind fun xc=>(some ((xc.fChannel == 5) && ((xc.fAttr == 0) && true))) else (some false)) else (some false)) else (some false)) else (some false)))))))
theorem f12_ok{r_:Bool}(H:f12=some r_):Pure Tryz.prog 12 [] (· = .bool r_):=by
 refine w3 fd12 fun Q hQ=>?_
 simp only[f12] at H
 refine zr ?_
 refine zr ?_
 refine zr ?_
 refine zr ?_
 refine evTs_pureD hFn H (fun _ h=>f13_im h) (by rfl) (by rfl) (by rfl) [false,true] (by rfl) (by rfl) (fun _=>rfl) ?_<;>clear H<;>intro x0 H
 refine zE0 ?_
 refine zr ?_
 refine pu H f42_ok ?_<;>clear H<;>intro x1 H
 try simp only[eL,eUniverseRig,eM,wm,↓wk,↓wl,nq,evV,↓reduceIte,sevalprocAttr]
 refine pu H f19_im ?_<;>clear H<;>intro x2 H
 refine zE0 ?_
 refine zr ?_
 refine pu H f24_im ?_<;>clear H<;>intro x3 H
 refine zE0 ?_
 refine zr ?_
 refine pu H f42_ok ?_<;>clear H<;>intro x4 H
 try simp only[eL,eUniverseRig,eM,wm,↓wk,↓wl,nq,evV,↓reduceIte,sevalprocAttr]
 refine evTs_pureD hFn H (fun _ h=>f21_im h) (by rfl) (by rfl) (by rfl) [false,true,false,false] (by rfl) (by rfl) (fun _=>rfl) ?_<;>clear H<;>intro x5 H
 refine zE0 ?_
 refine zq (zr ?_)
 refine ig H ?_ ?_<;>clear H<;>intro H
 ·refine zs ?_
  refine za (zr ?_)
  cases H
  exact zt (zv (zf hQ))
 ·refine zs ?_
  refine pu H f17_ok ?_<;>clear H<;>intro x6 H
  refine zE0 ?_
  refine ig H ?_ ?_<;>clear H<;>intro H
  ·refine zs ?_
   refine za (zr ?_)
   cases H
   exact zt (zv (zf hQ))
  ·refine zs ?_
   refine pu H f17_ok ?_<;>clear H<;>intro x7 H
   refine zE0 ?_
   refine ig H ?_ ?_<;>clear H<;>intro H
   ·refine zs ?_
    refine za (zr ?_)
    cases H
    exact zt (zv (zf hQ))
   ·refine zs ?_
    refine ig H ?_ ?_<;>clear H<;>intro H
    ·refine zs ?_
     refine za (zr ?_)
     cases H
     exact zt (zv (zf hQ))
    ·refine zs ?_
     refine ic H ?_ ?_<;>clear H<;>intro H
     ·refine zr ?_
      cases H
      exact zt (zv (zf hQ))
     ·refine zk (zm (zr ?_))
      refine ia eApiEntry H ?_<;>clear H<;>intro x8 H
      refine zE9 ?_
      refine ig H ?_ ?_<;>clear H<;>intro H
      ·refine zs ?_
       refine ia eApiEntry H ?_<;>clear H<;>intro x9 H
       refine zE9 ?_
       refine ig H ?_ ?_<;>clear H<;>intro H
       ·refine zs ?_
        refine ia eApiEntry H ?_<;>clear H<;>intro xa H
        refine zE9 ?_
        refine ig H ?_ ?_<;>clear H<;>intro H
        ·refine zs ?_
         refine ia eApiEntry H ?_<;>clear H<;>intro xb H
         refine zE9 ?_
         refine ig H ?_ ?_<;>clear H<;>intro H
         ·refine zs ?_
          refine ia eApiParam H ?_<;>clear H<;>intro xc H
          refine zE10 ?_
          refine rest_eqs (by rfl) ?_
          refine zs ?_
          cases H
          exact zt (zf hQ)
         ·refine zs ?_
          cases H
          exact zt (zf hQ)
        ·refine zs ?_
         cases H
         exact zt (zf hQ)
       ·refine zs ?_
        cases H
        exact zt (zf hQ)
      ·refine zs ?_
       cases H
       exact zt (zf hQ)
end
end Go.Proofs.YtnaemmpcffnbkaaGreatDoor
