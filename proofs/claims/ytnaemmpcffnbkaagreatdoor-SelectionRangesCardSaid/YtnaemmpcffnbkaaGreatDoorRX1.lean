import Derived.Test.YtnaemmpcffnbkaaGreatDoorRShelfR
import Derived.Test.YtnaemmpcffnbkaaGreatDoorRM7
import Derived.Test.YtnaemmpcffnbkaaGreatDoorRM8
import Derived.Test.YtnaemmpcffnbkaaGreatDoorRM6
import Derived.Test.YtnaemmpcffnbkaaGreatDoorProg
import Derived.KernelRfl
import Derived.Test.YtnaemmpcffnbkaaGreatDoorRMQ
namespace Go.Proofs.YtnaemmpcffnbkaaGreatDoor
open Go Go.Ab
set_option maxHeartbeats 1000000
set_option maxRecDepth 4000
set_option linter.unusedSimpArgs false
set_option linter.unusedVariables false
noncomputable section
structure ApiSelect where
  fOp:Int
  fGroup:Int
  fFrom:Int
  fTo:Int
def eApiSelect(x:ApiSelect):AV:=.agg [.int .i64 x.fOp,.int .i64 x.fGroup,.int .i64 x.fFrom,.int .i64 x.fTo]
instance:IsFlat eApiSelect:=⟨fun _=>rfl⟩
instance:IsEnc 4 eApiSelect:=⟨fun _=>rfl,fun _=>rfl,fun _=>rfl⟩
structure ApiGroup where
  fNumber:Int
  fChannels:(List Int)
def eApiGroup(x:ApiGroup):AV:=.agg [.int .i64 x.fNumber,.sl 0 false (x.fChannels.map (AV.int .i64))]
instance:IsEnc 2 eApiGroup:=⟨fun _=>rfl,fun _=>rfl,fun _=>rfl⟩
structure ApiPoint where
  fX:Int
  fY:Int
def eApiPoint(x:ApiPoint):AV:=.agg [.int .i64 x.fX,.int .i64 x.fY]
instance:IsFlat eApiPoint:=⟨fun _=>rfl⟩
instance:IsEnc 2 eApiPoint:=⟨fun _=>rfl,fun _=>rfl,fun _=>rfl⟩
structure ApiSlot where
  fName:(List UInt8)
  fFrom:Int
  fTo:Int
def eApiSlot(x:ApiSlot):AV:=.agg [.str x.fName,.int .i64 x.fFrom,.int .i64 x.fTo]
instance:IsFlat eApiSlot:=⟨fun _=>rfl⟩
instance:IsEnc 3 eApiSlot:=⟨fun _=>rfl,fun _=>rfl,fun _=>rfl⟩
structure ApiFeature where
  fAttr:Int
  fBits:Int
  fCoarse:Int
  fFine:Int
  fCurve:Int
  fHome:Int
  fLow:Int
  fHigh:Int
  fSnap:Bool
  fWheel:(List ApiSlot)
def eApiFeature(x:ApiFeature):AV:=.agg [.int .i64 x.fAttr,.int .i64 x.fBits,.int .i64 x.fCoarse,.int .i64 x.fFine,.int .i64 x.fCurve,.int .i64 x.fHome,.int .i64 x.fLow,.int .i64 x.fHigh,.bool x.fSnap,.sl 3 false (x.fWheel.map eApiSlot)]
instance:IsEnc 10 eApiFeature:=⟨fun _=>rfl,fun _=>rfl,fun _=>rfl⟩
structure ApiProfile where
  fName:(List UInt8)
  fFootprint:Int
  fWatts:Int
  fFeatures:(List ApiFeature)
def eApiProfile(x:ApiProfile):AV:=.agg [.str x.fName,.int .i64 x.fFootprint,.int .i64 x.fWatts,.sl 10 false (x.fFeatures.map eApiFeature)]
instance:IsEnc 4 eApiProfile:=⟨fun _=>rfl,fun _=>rfl,fun _=>rfl⟩
structure ApiFixture where
  fChannel:Int
  fPart:Int
  fProfile:(List UInt8)
  fUniverse:Int
  fAddress:Int
  fPhase:Int
  fCable:(List UInt8)
def eApiFixture(x:ApiFixture):AV:=.agg [.int .i64 x.fChannel,.int .i64 x.fPart,.str x.fProfile,.int .i64 x.fUniverse,.int .i64 x.fAddress,.int .i64 x.fPhase,.str x.fCable]
instance:IsFlat eApiFixture:=⟨fun _=>rfl⟩
instance:IsEnc 7 eApiFixture:=⟨fun _=>rfl,fun _=>rfl,fun _=>rfl⟩
structure UniverseRig where
  fCurves:(List (List ApiPoint))
  fProfiles:(List ApiProfile)
  fFixtures:(List ApiFixture)
def eUniverseRig(x:UniverseRig):AV:=.agg [.sl 0 false (x.fCurves.map (eL 2 eApiPoint)),.sl 4 false (x.fProfiles.map eApiProfile),.sl 7 false (x.fFixtures.map eApiFixture)]
instance:IsEnc 3 eUniverseRig:=⟨fun _=>rfl,fun _=>rfl,fun _=>rfl⟩
structure PatchRig where
  fFixtures:(List ApiFixture)
  fProfiles:(List ((List UInt8)×ApiProfile))
def ePatchRig(x:PatchRig):AV:=.agg [.sl 7 false (x.fFixtures.map eApiFixture),.mp (mk AV.str x.fProfiles) (mv eApiProfile x.fProfiles)]
instance:IsEnc 2 ePatchRig:=⟨fun _=>rfl,fun _=>rfl,fun _=>rfl⟩
structure Arr2_54 where
  fE0:Int
  fE1:Int
def eArr2_54(x:Arr2_54):AV:=.agg [.int .i64 x.fE0,.int .i64 x.fE1]
instance:IsFlat eArr2_54:=⟨fun _=>rfl⟩
instance:IsEnc 2 eArr2_54:=⟨fun _=>rfl,fun _=>rfl,fun _=>rfl⟩
structure ApiParam where
  fChannel:Int
  fAttr:Int
def eApiParam(x:ApiParam):AV:=.agg [.int .i64 x.fChannel,.int .i64 x.fAttr]
instance:IsFlat eApiParam:=⟨fun _=>rfl⟩
instance:IsEnc 2 eApiParam:=⟨fun _=>rfl,fun _=>rfl,fun _=>rfl⟩
structure ApiValue where
  fPalette:Int
  fLevel:Int
def eApiValue(x:ApiValue):AV:=.agg [.int .i64 x.fPalette,.int .i64 x.fLevel]
instance:IsFlat eApiValue:=⟨fun _=>rfl⟩
instance:IsEnc 2 eApiValue:=⟨fun _=>rfl,fun _=>rfl,fun _=>rfl⟩
structure ApiEntry where
  fParam:ApiParam
  fValue:ApiValue
def eApiEntry(x:ApiEntry):AV:=.agg [.int .i64 x.fParam.fChannel,.int .i64 x.fParam.fAttr,.int .i64 x.fValue.fPalette,.int .i64 x.fValue.fLevel]
instance:IsFlat eApiEntry:=⟨fun _=>rfl⟩
instance:IsEnc 4 eApiEntry:=⟨fun _=>rfl,fun _=>rfl,fun _=>rfl⟩
def c56_0:C:=.seq (.reg [iI 3 (.mv (.t 0)),iI 4 (.bin .geq (.t 3) (.c (.int .i64 1))),iI 5 (.mv (.t 4)),iG (some 6) 5 true (.mv (.t 0)),iG (some 7) 5 true (.bin .leq (.t 6) (.c (.int .i64 999))),iI 8 (.pick (.t 5) (.t 7) (.c (.bool false))),iI 2 (.mv (.t 8))]) .ret
def ir56:C:=.seq (.reg [iI 2 (.mv (.c (.bool false)))]) c56_0
theorem fd56:fd? Tryz.prog 56=some (9,[.slot 2],ir56):=by kernel_rfl
def f56(x0:Int):Option (Bool) :=
  (if (decide (1≤x0))=true then (some (decide (x0≤999))) else (some false))
theorem f56_ok{x0:Int}{r_:Bool}(H:f56 x0=some r_):Pure Tryz.prog 56 [.int .i64 x0] (· = .bool r_):=by
 refine w3 fd56 fun Q hQ=>?_
 simp only[f56] at H
 refine zr ?_
 refine zr ?_
 refine ig H ?_ ?_<;>clear H<;>intro H
 ·refine zs ?_
  cases H
  exact zt (zf hQ)
 ·refine zs ?_
  cases H
  exact zt (zf hQ)
def c51_1:C:=.cond (.t 39) (.seq (.reg [iI 2 (.mv (.c (.int .i64 2)))]) .ret) (.seq (.reg [iI 51 (.faddr 3 (.t 1)),iI 52 (.load 0 (.t 51)),iI 53 (.faddr 2 (.t 1)),iI 54 (.load 0 (.t 53)),iI 55 (.bin .lss (.t 52) (.t 54)),iI 50 (.mv (.t 55))]) (.cond (.t 50) (.seq (.reg [iI 2 (.mv (.c (.int .i64 9)))]) .ret) (.skip)))
def c51_2:C:=.cond (.t 35) (.seq (.reg [iI 2 (.mv (.c (.int .i64 0)))]) .ret) (.seq (.reg [iI 40 (.faddr 2 (.t 1)),iI 41 (.load 0 (.t 40)),iI 42 (.call (.c (.fn 56 [])) [(.t 41)]),iI 43 (.un .not (.t 42)),iI 44 (.mv (.t 43)),iG (some 45) 44 false (.faddr 3 (.t 1)),iG (some 46) 44 false (.load 0 (.t 45)),iG (some 47) 44 false (.call (.c (.fn 56 [])) [(.t 46)]),iG (some 48) 44 false (.un .not (.t 47)),iI 49 (.pick (.t 44) (.c (.bool true)) (.t 48)),iI 39 (.mv (.t 49))]) c51_1)
def c51_3:C:=.cond (.t 26) (.seq (.reg [iI 2 (.mv (.c (.int .i64 2)))]) .ret) (.seq (.reg [iI 36 (.faddr 1 (.t 1)),iI 37 (.load 0 (.t 36)),iI 38 (.bin .neq (.t 37) (.c (.int .i64 0))),iI 35 (.mv (.t 38))]) c51_2)
def c51_4:C:=.cond (.t 12) (.seq (.reg [iI 2 (.mv (.c (.int .i64 3)))]) .ret) (.seq (.reg [iI 27 (.faddr 1 (.t 1)),iI 28 (.load 0 (.t 27)),iI 29 (.bin .lss (.t 28) (.c (.int .i64 0))),iI 30 (.mv (.t 29)),iG (some 31) 30 false (.faddr 1 (.t 1)),iG (some 32) 30 false (.load 0 (.t 31)),iG (some 33) 30 false (.bin .gtr (.t 32) (.c (.int .i64 1048576))),iI 34 (.pick (.t 30) (.c (.bool true)) (.t 33)),iI 26 (.mv (.t 34))]) c51_3)
def c51_5:C:=.cond (.t 3) (.seq (.reg [iI 2 (.mv (.c (.int .i64 1)))]) .ret) (.seq (.reg [iI 13 (.faddr 1 (.t 1)),iI 14 (.load 0 (.t 13)),iI 15 (.bin .neq (.t 14) (.c (.int .i64 0))),iI 16 (.mv (.t 15)),iG (some 17) 16 true (.faddr 2 (.t 1)),iG (some 18) 16 true (.load 0 (.t 17)),iG (some 19) 16 true (.bin .neq (.t 18) (.c (.int .i64 0))),iG (some 20) 16 true (.mv (.t 19)),iG (some 21) 20 false (.faddr 3 (.t 1)),iG (some 22) 20 false (.load 0 (.t 21)),iG (some 23) 20 false (.bin .neq (.t 22) (.c (.int .i64 0))),iG (some 24) 16 true (.pick (.t 20) (.c (.bool true)) (.t 23)),iI 25 (.pick (.t 16) (.t 24) (.c (.bool false))),iI 12 (.mv (.t 25))]) c51_4)
def c51_7:C:=.seq (.block 0 (.seq (.reg [iI 4 (.faddr 0 (.t 1)),iI 5 (.load 0 (.t 4)),iI 6 (.bin .neq (.t 5) (.c (.int .i64 0))),iI 7 (.mv (.t 6)),iG (some 8) 7 true (.faddr 0 (.t 1)),iG (some 9) 7 true (.load 0 (.t 8)),iG (some 10) 7 true (.bin .neq (.t 9) (.c (.int .i64 1))),iI 11 (.pick (.t 7) (.t 10) (.c (.bool false))),iI 3 (.mv (.t 11))]) c51_5)) (.seq (.reg [iI 2 (.mv (.c (.int .i64 0)))]) .ret)
def ir51:C:=.seq (.reg [iI 1 (.box (.t 0)),iI 2 (.mv (.c (.int .i64 0)))]) c51_7
theorem fd51:fd? Tryz.prog 51=some (56,[.slot 2],ir51):=by kernel_rfl
def f51(x0:ApiSelect):Option (Int) :=
  (if (decide (x0.fOp≠0))=true then (if (decide (x0.fOp≠1))=true then (some 1) else (if (decide (x0.fGroup≠0))=true then (if (decide (x0.fFrom≠0))=true then (some 3) else (if (decide (x0.fTo≠0))=true then (some 3) else (if (decide (x0.fGroup<0))=true then (some 2) else (if (decide (1048576<x0.fGroup))=true then (some 2) else (if (decide (x0.fGroup≠0))=true then (some 0) else (f56 x0.fFrom).bind fun x1=>(if (!x1)=true then (some 2) else (f56 x0.fTo).bind fun x2=>(if (!x2)=true then (some 2) else (if (decide (x0.fTo<x0.fFrom))=true then (some 9) else (some 0))))))))) else (if (decide (x0.fGroup<0))=true then (some 2) else (if (decide (1048576<x0.fGroup))=true then (some 2) else (if (decide (x0.fGroup≠0))=true then (some 0) else (f56 x0.fFrom).bind fun x3=>(if (!x3)=true then (some 2) else (f56 x0.fTo).bind fun x4=>(if (!x4)=true then (some 2) else (if (decide (x0.fTo<x0.fFrom))=true then (some 9) else (some 0))))))))) else (if (decide (x0.fGroup≠0))=true then (if (decide (x0.fFrom≠0))=true then (some 3) else (if (decide (x0.fTo≠0))=true then (some 3) else (if (decide (x0.fGroup<0))=true then (some 2) else (if (decide (1048576<x0.fGroup))=true then (some 2) else (if (decide (x0.fGroup≠0))=true then (some 0) else (f56 x0.fFrom).bind fun x5=>(if (!x5)=true then (some 2) else (f56 x0.fTo).bind fun x6=>(if (!x6)=true then (some 2) else (if (decide (x0.fTo<x0.fFrom))=true then (some 9) else (some 0))))))))) else (if (decide (x0.fGroup<0))=true then (some 2) else (if (decide (1048576<x0.fGroup))=true then (some 2) else (if (decide (x0.fGroup≠0))=true then (some 0) else (f56 x0.fFrom).bind fun x7=>(if (!x7)=true then (some 2) else (f56 x0.fTo).bind fun x8=>(if (!x8)=true then (some 2) else (if (decide (x0.fTo<x0.fFrom))=true then (some 9) else (some 0)))))))))
theorem f51_ok{x0:ApiSelect}{r_:Int}(H:f51 x0=some r_):Pure Tryz.prog 51 [.agg [.int .i64 x0.fOp,.int .i64 x0.fGroup,.int .i64 x0.fFrom,.int .i64 x0.fTo]] (· = .int .i64 r_):=by
 refine w3 fd51 fun Q hQ=>?_
 simp only[f51] at H
 refine zr ?_
 refine zb (zr ?_)
 refine ig H ?_ ?_<;>clear H<;>intro H
 ·refine zs ?_
  refine ic H ?_ ?_<;>clear H<;>intro H
  ·refine zr ?_
   cases H
   exact zt (zp (zf hQ))
  ·refine zr ?_
   refine ig H ?_ ?_<;>clear H<;>intro H
   ·refine zs ?_
    refine ig H ?_ ?_<;>clear H<;>intro H
    ·refine zs ?_
     refine za (zr ?_)
     cases H
     exact zt (zp (zf hQ))
    ·refine zs ?_
     refine ic H ?_ ?_<;>clear H<;>intro H
     ·refine zr ?_
      cases H
      exact zt (zp (zf hQ))
     ·refine zr ?_
      refine ig H ?_ ?_<;>clear H<;>intro H
      ·refine zs ?_
       refine za (zr ?_)
       cases H
       exact zt (zp (zf hQ))
      ·refine zs ?_
       refine ic H ?_ ?_<;>clear H<;>intro H
       ·refine zr ?_
        cases H
        exact zt (zp (zf hQ))
       ·refine zr ?_
        refine ic H ?_ ?_<;>clear H<;>intro H
        ·refine zr ?_
         cases H
         exact zt (zp (zf hQ))
        ·refine zr ?_
         refine pu H f56_ok ?_<;>clear H<;>intro x1 H
         refine zE0 ?_
         refine ig H ?_ ?_<;>clear H<;>intro H
         ·refine zs ?_
          refine za (zr ?_)
          cases H
          exact zt (zp (zf hQ))
         ·refine zs ?_
          refine pu H f56_ok ?_<;>clear H<;>intro x2 H
          refine zE0 ?_
          refine ic H ?_ ?_<;>clear H<;>intro H
          ·refine zr ?_
           cases H
           exact zt (zp (zf hQ))
          ·refine zr ?_
           refine ic H ?_ ?_<;>clear H<;>intro H
           ·refine zr ?_
            cases H
            exact zt (zp (zf hQ))
           ·refine zk (zo (zr ?_))
            cases H
            exact zt (zf hQ)
   ·refine zs ?_
    refine zc (zr ?_)
    refine ig H ?_ ?_<;>clear H<;>intro H
    ·refine zs ?_
     refine za (zr ?_)
     cases H
     exact zt (zp (zf hQ))
    ·refine zs ?_
     refine ic H ?_ ?_<;>clear H<;>intro H
     ·refine zr ?_
      cases H
      exact zt (zp (zf hQ))
     ·refine zr ?_
      refine ic H ?_ ?_<;>clear H<;>intro H
      ·refine zr ?_
       cases H
       exact zt (zp (zf hQ))
      ·refine zr ?_
       refine pu H f56_ok ?_<;>clear H<;>intro x3 H
       refine zE0 ?_
       refine ig H ?_ ?_<;>clear H<;>intro H
       ·refine zs ?_
        refine za (zr ?_)
        cases H
        exact zt (zp (zf hQ))
       ·refine zs ?_
        refine pu H f56_ok ?_<;>clear H<;>intro x4 H
        refine zE0 ?_
        refine ic H ?_ ?_<;>clear H<;>intro H
        ·refine zr ?_
         cases H
         exact zt (zp (zf hQ))
        ·refine zr ?_
         refine ic H ?_ ?_<;>clear H<;>intro H
         ·refine zr ?_
          cases H
          exact zt (zp (zf hQ))
         ·refine zk (zo (zr ?_))
          cases H
          exact zt (zf hQ)
 ·refine zs ?_
  refine zc (zr ?_)
  refine ig H ?_ ?_<;>clear H<;>intro H
  ·refine zs ?_
   refine ig H ?_ ?_<;>clear H<;>intro H
   ·refine zs ?_
    refine za (zr ?_)
    cases H
    exact zt (zp (zf hQ))
   ·refine zs ?_
    refine ic H ?_ ?_<;>clear H<;>intro H
    ·refine zr ?_
     cases H
     exact zt (zp (zf hQ))
    ·refine zr ?_
     refine ig H ?_ ?_<;>clear H<;>intro H
     ·refine zs ?_
      refine za (zr ?_)
      cases H
      exact zt (zp (zf hQ))
     ·refine zs ?_
      refine ic H ?_ ?_<;>clear H<;>intro H
      ·refine zr ?_
       cases H
       exact zt (zp (zf hQ))
      ·refine zr ?_
       refine ic H ?_ ?_<;>clear H<;>intro H
       ·refine zr ?_
        cases H
        exact zt (zp (zf hQ))
       ·refine zr ?_
        refine pu H f56_ok ?_<;>clear H<;>intro x5 H
        refine zE0 ?_
        refine ig H ?_ ?_<;>clear H<;>intro H
        ·refine zs ?_
         refine za (zr ?_)
         cases H
         exact zt (zp (zf hQ))
        ·refine zs ?_
         refine pu H f56_ok ?_<;>clear H<;>intro x6 H
         refine zE0 ?_
         refine ic H ?_ ?_<;>clear H<;>intro H
         ·refine zr ?_
          cases H
          exact zt (zp (zf hQ))
         ·refine zr ?_
          refine ic H ?_ ?_<;>clear H<;>intro H
          ·refine zr ?_
           cases H
           exact zt (zp (zf hQ))
          ·refine zk (zo (zr ?_))
           cases H
           exact zt (zf hQ)
  ·refine zs ?_
   refine zc (zr ?_)
   refine ig H ?_ ?_<;>clear H<;>intro H
   ·refine zs ?_
    refine za (zr ?_)
    cases H
    exact zt (zp (zf hQ))
   ·refine zs ?_
    refine ic H ?_ ?_<;>clear H<;>intro H
    ·refine zr ?_
     cases H
     exact zt (zp (zf hQ))
    ·refine zr ?_
     refine ic H ?_ ?_<;>clear H<;>intro H
     ·refine zr ?_
      cases H
      exact zt (zp (zf hQ))
     ·refine zr ?_
      refine pu H f56_ok ?_<;>clear H<;>intro x7 H
      refine zE0 ?_
      refine ig H ?_ ?_<;>clear H<;>intro H
      ·refine zs ?_
       refine za (zr ?_)
       cases H
       exact zt (zp (zf hQ))
      ·refine zs ?_
       refine pu H f56_ok ?_<;>clear H<;>intro x8 H
       refine zE0 ?_
       refine ic H ?_ ?_<;>clear H<;>intro H
       ·refine zr ?_
        cases H
        exact zt (zp (zf hQ))
       ·refine zr ?_
        refine ic H ?_ ?_<;>clear H<;>intro H
        ·refine zr ?_
         cases H
         exact zt (zp (zf hQ))
        ·refine zk (zo (zr ?_))
         cases H
         exact zt (zf hQ)
def f15_L1(x0:(List ApiSelect)):Lp (Int) ((Unit)⊕(Int)) where
  body:=fun x1=>(if (decide (x1<((x0.length:Nat):Int)))=true then (at? x0 x1).bind fun x2=>(f51 x2).bind fun x3=>(if (decide (x3≠0))=true then (some (.brk (Sum.inr x3))) else (some (.next (IntKind.i64.wrap (x1 + 1))))) else (some (.brk (Sum.inl ()))))
  cst:=fun x1=>⟨put (put (put (fun _=>.junk) 11 (.int .i64 x1)) 10 (.int .i64 ((x0.length:Nat):Int))) 9 (.sl 4 false (x0.map eApiSelect)),[]⟩
theorem f15_L1c(x0:(List ApiSelect))(x1:Int):(f15_L1 x0).cst x1=⟨put (put (put (fun _=>.junk) 11 (.int .i64 x1)) 10 (.int .i64 ((x0.length:Nat):Int))) 9 (.sl 4 false (x0.map eApiSelect)),[]⟩:=rfl
def c15_2:C:=.seq (.reg [iI 17 (.mv (.t 5)),iI 18 (.bin .neq (.t 17) (.c (.int .i64 0)))]) (.cond (.t 18) (.seq (.reg [iI 19 (.mv (.t 5)),iI 2 (.mv (.t 19))]) .ret) (.skip))
def c15_5:C:=.seq (.block 1 (.seq (.reg [iI 13 (.iaddr 4 (.t 9) (.t 11)),iI 14 (.load 4 (.t 13)),iI 4 (.alloc [(1,(.int .i64 0)),(1,(.int .i64 0)),(1,(.int .i64 0)),(1,(.int .i64 0))]),iN (.store 4 (.t 4) (.t 14))]) (.seq (.reg [iI 15 (.load 4 (.t 4)),iI 16 (.call (.c (.fn 51 [])) [(.t 15)]),iI 5 (.mv (.t 16))]) c15_2))) (.reg [iI 20 (.bin .add (.t 11) (.c (.int .i64 1))),iI 11 (.mv (.t 20))])
def c15_9:C:=.seq (.seq (.reg [iI 9 (.mv (.t 0)),iI 10 (.len 0 (.t 9)),iI 11 (.mv (.c (.int .i64 0)))]) (.block 0 (.loop (.seq (.reg [iI 12 (.bin .lss (.t 11) (.t 10))]) (.seq (.cond (.t 12) (.skip) (.exit 0)) c15_5))))) (.seq (.reg [iI 2 (.mv (.c (.int .i64 0)))]) .ret)
def c15_10:C:=.seq (.seq (.reg [iI 6 (.mv (.t 0)),iI 7 (.len 0 (.t 6)),iI 8 (.bin .gtr (.t 7) (.c (.int .i64 256)))]) (.cond (.t 8) (.seq (.reg [iI 2 (.mv (.c (.int .i64 5)))]) .ret) (.skip))) c15_9
def ir15:C:=.seq (.reg [iI 2 (.mv (.c (.int .i64 0)))]) c15_10
theorem fd15:fd? Tryz.prog 15=some (21,[.slot 2],ir15):=by kernel_rfl
def f15(x0:(List ApiSelect)):Option (Int) :=
  (if (decide (256<((x0.length:Nat):Int)))=true then (some 5) else ((Lp.run (f15_L1 x0) 0).bind fun r_=>match r_ with | (Sum.inl _)=>(some 0) | (Sum.inr x1)=>(some x1)))
theorem f15_ok{x0:(List ApiSelect)}{r_:Int}(H:f15 x0=some r_):Pure Tryz.prog 15 [.sl 4 false (x0.map eApiSelect)] (· = .int .i64 r_):=by
 refine w3 fd15 fun Q hQ=>?_
 simp only[f15] at H
 refine zr ?_
 refine zq (zr ?_)
 refine ic H ?_ ?_<;>clear H<;>intro H
 ·refine zr ?_
  cases H
  exact zt (zv (zf hQ))
 ·refine zk (zm (zq (zr ?_)))
  refine zd ?_
  refine zU H [] [9,10,11] (f15_L1c ..) ?_<;>clear H
  rintro x1 x_ st0_ H hst_
  rw[f15_L1c] at hst_
  simp only[f15_L1] at H
  subst hst_
  refine zr ?_
  refine zq (ic H ?_ ?_)<;>clear H<;>intro H
  ·refine zk (zm (zb (zr ?_)))
   refine ia eApiSelect H ?_<;>clear H<;>intro x2 H
   refine zE1 ?_
   refine zr ?_
   refine pu H f51_ok ?_<;>clear H<;>intro x3 H
   refine zE0 ?_
   refine zr ?_
   refine ic H ?_ ?_<;>clear H<;>intro H
   ·refine zr ?_
    refine zt (zp (loopQ.ret H ?_))<;>clear H<;>intro H
    try dsimp only at H
    cases H
    exact zh (zv (zf hQ))
   ·refine zk (zo (ze ?_))
    exact zu H [] [9,10,11] (f15_L1c ..)
  ·refine zx (zy (loopQ.exit H ?_))<;>clear H<;>intro H
   try dsimp only at H
   refine zi (zm (zr ?_))
   cases H
   exact zt (zf hQ)
def f69_L1(x0:(List Int))(x1:Int):Lp (Int) ((Unit)⊕(Int)) where
  body:=fun x2=>(if (decide (x2<((x0.length:Nat):Int)))=true then (at? x0 x2).bind fun x3=>(if (decide (x1=x3))=true then (some (.brk (Sum.inr x2))) else (some (.next (IntKind.i64.wrap (x2 + 1))))) else (some (.brk (Sum.inl ()))))
  cst:=fun x2=>⟨put (put (put (put (fun _=>.junk) 8 (.int .i64 x2)) 7 (.int .i64 ((x0.length:Nat):Int))) 1 (.int .i64 x1)) 0 (.sl 0 false (x0.map (AV.int .i64))),[]⟩
theorem f69_L1c(x0:(List Int))(x1:Int)(x2:Int):(f69_L1 x0 x1).cst x2=⟨put (put (put (put (fun _=>.junk) 8 (.int .i64 x2)) 7 (.int .i64 ((x0.length:Nat):Int))) 1 (.int .i64 x1)) 0 (.sl 0 false (x0.map (AV.int .i64))),[]⟩:=rfl
def c69_1:C:=.seq (.reg [iI 11 (.mv (.t 1)),iI 12 (.mv (.t 0)),iI 13 (.mv (.t 5)),iI 14 (.iaddr 0 (.t 12) (.t 13)),iI 15 (.load 0 (.t 14)),iI 16 (.bin .eql (.t 11) (.t 15))]) (.cond (.t 16) (.seq (.reg [iI 17 (.mv (.t 5)),iI 4 (.mv (.t 17))]) .ret) (.skip))
def c69_4:C:=.seq (.cond (.t 9) (.skip) (.exit 0)) (.seq (.block 1 (.seq (.reg [iI 10 (.mv (.t 8)),iI 5 (.mv (.t 10))]) c69_1)) (.reg [iI 18 (.bin .add (.t 8) (.c (.int .i64 1))),iI 8 (.mv (.t 18))]))
def c69_7:C:=.seq (.seq (.reg [iI 6 (.mv (.t 0)),iI 7 (.len 0 (.t 6)),iI 8 (.mv (.c (.int .i64 0)))]) (.block 0 (.loop (.seq (.reg [iI 9 (.bin .lss (.t 8) (.t 7))]) c69_4)))) (.seq (.reg [iI 4 (.mv (.c (.int .i64 (-1))))]) .ret)
def ir69:C:=.seq (.reg [iI 4 (.mv (.c (.int .i64 0)))]) c69_7
theorem fd69:fd? Tryz.prog 69=some (19,[.slot 4],ir69):=by kernel_rfl
def f69(x0:(List Int))(x1:Int):Option (Int) :=
  ((Lp.run (f69_L1 x0 x1) 0).bind fun r_=>match r_ with | (Sum.inl _)=>(some (-1)) | (Sum.inr x2)=>(some x2))
theorem f69_ok{x0:(List Int)}{x1:Int}{r_:Int}(H:f69 x0 x1=some r_):Pure Tryz.prog 69 [.sl 0 false (x0.map (AV.int .i64)),.int .i64 x1] (· = .int .i64 r_):=by
 refine w3 fd69 fun Q hQ=>?_
 simp only[f69] at H
 refine zr ?_
 refine zq (zr ?_)
 refine zd ?_
 refine zU H [] [0,1,7,8] (f69_L1c ..) ?_<;>clear H
 rintro x2 x_ st0_ H hst_
 rw[f69_L1c] at hst_
 simp only[f69_L1] at H
 subst hst_
 refine zr ?_
 refine zq (ic H ?_ ?_)<;>clear H<;>intro H
 ·refine zk (zm (zb (zr ?_)))
  refine zr ?_
  refine ia (AV.int .i64) H ?_<;>clear H<;>intro x3 H
  refine zs ?_
  refine ic H ?_ ?_<;>clear H<;>intro H
  ·refine zr ?_
   refine zt (zp (loopQ.ret H ?_))<;>clear H<;>intro H
   try dsimp only at H
   cases H
   exact zh (zv (zf hQ))
  ·refine zk (zo (ze ?_))
   exact zu H [] [0,1,7,8] (f69_L1c ..)
 ·refine zx (zy (loopQ.exit H ?_))<;>clear H<;>intro H
  try dsimp only at H
  refine zi (zm (zr ?_))
  cases H
  exact zt (zf hQ)
def c28_0:C:=.seq (.reg [iI 5 (.mv (.t 0)),iI 6 (.mv (.t 1)),iI 7 (.call (.c (.fn 69 [])) [(.t 5),(.t 6)]),iI 8 (.bin .geq (.t 7) (.c (.int .i64 0))),iI 4 (.mv (.t 8))]) .ret
def ir28:C:=.seq (.reg [iI 4 (.mv (.c (.bool false)))]) c28_0
theorem fd28:fd? Tryz.prog 28=some (9,[.slot 4],ir28):=by kernel_rfl
def f28(x0:(List Int))(x1:Int):Option (Bool) :=
  (f69 x0 x1).bind fun x2=>(some (decide (0≤x2)))
theorem f28_ok{x0:(List Int)}{x1:Int}{r_:Bool}(H:f28 x0 x1=some r_):Pure Tryz.prog 28 [.sl 0 false (x0.map (AV.int .i64)),.int .i64 x1] (· = .bool r_):=by
 refine w3 fd28 fun Q hQ=>?_
 simp only[f28] at H
 refine zr ?_
 refine zr ?_
 refine pu H f69_ok ?_<;>clear H<;>intro x2 H
 refine zE0 ?_
 cases H
 exact zt (zf hQ)
def f89_L1(x0:ApiGroup):Lp (Int) ((Unit)⊕(Int)) where
  body:=fun x1=>(if (decide (x1<((x0.fChannels.length:Nat):Int)))=true then (at? x0.fChannels x1).bind fun x2=>(if (decide (x2<1))=true then (some (.brk (Sum.inr 2))) else (if (decide (999<x2))=true then (some (.brk (Sum.inr 2))) else (slc? x0.fChannels 0 x1).bind fun x3=>(f28 x3 x2).bind fun x4=>(if x4=true then (some (.brk (Sum.inr 7))) else (some (.next (IntKind.i64.wrap (x1 + 1))))))) else (some (.brk (Sum.inl ()))))
  cst:=fun x1=>⟨put (put (put (put (fun _=>.junk) 20 (.int .i64 x1)) 19 (.int .i64 ((x0.fChannels.length:Nat):Int))) 18 (.sl 0 false (x0.fChannels.map (AV.int .i64)))) 1 (.ptr 0 0),[.cel [.int .i64 x0.fNumber,.sl 0 false (x0.fChannels.map (AV.int .i64))]]⟩
theorem f89_L1c(x0:ApiGroup)(x1:Int):(f89_L1 x0).cst x1=⟨put (put (put (put (fun _=>.junk) 20 (.int .i64 x1)) 19 (.int .i64 ((x0.fChannels.length:Nat):Int))) 18 (.sl 0 false (x0.fChannels.map (AV.int .i64)))) 1 (.ptr 0 0),[.cel [.int .i64 x0.fNumber,.sl 0 false (x0.fChannels.map (AV.int .i64))]]⟩:=rfl
def c89_4:C:=.seq (.reg [iI 31 (.faddr 1 (.t 1)),iI 32 (.load 0 (.t 31)),iI 33 (.mv (.t 3)),iI 34 (.slice 0 (.t 32) none (some (.t 33))),iI 35 (.mv (.t 4)),iI 36 (.call (.c (.fn 28 [])) [(.t 34),(.t 35)])]) (.cond (.t 36) (.seq (.reg [iI 2 (.mv (.c (.int .i64 7)))]) .ret) (.skip))
def c89_5:C:=.seq (.seq (.reg [iI 25 (.mv (.t 4)),iI 26 (.bin .lss (.t 25) (.c (.int .i64 1))),iI 27 (.mv (.t 26)),iG (some 28) 27 false (.mv (.t 4)),iG (some 29) 27 false (.bin .gtr (.t 28) (.c (.int .i64 999))),iI 30 (.pick (.t 27) (.c (.bool true)) (.t 29))]) (.cond (.t 30) (.seq (.reg [iI 2 (.mv (.c (.int .i64 2)))]) .ret) (.skip))) c89_4
def c89_7:C:=.seq (.block 1 (.seq (.reg [iI 22 (.mv (.t 20)),iI 23 (.iaddr 0 (.t 18) (.t 20)),iI 24 (.load 0 (.t 23)),iI 3 (.mv (.t 22)),iI 4 (.mv (.t 24))]) c89_5)) (.reg [iI 37 (.bin .add (.t 20) (.c (.int .i64 1))),iI 20 (.mv (.t 37))])
def c89_11:C:=.seq (.seq (.reg [iI 17 (.faddr 1 (.t 1)),iI 18 (.load 0 (.t 17)),iI 19 (.len 0 (.t 18)),iI 20 (.mv (.c (.int .i64 0)))]) (.block 0 (.loop (.seq (.reg [iI 21 (.bin .lss (.t 20) (.t 19))]) (.seq (.cond (.t 21) (.skip) (.exit 0)) c89_7))))) (.seq (.reg [iI 2 (.mv (.c (.int .i64 0)))]) .ret)
def c89_12:C:=.seq (.seq (.reg [iI 13 (.faddr 1 (.t 1)),iI 14 (.load 0 (.t 13)),iI 15 (.len 0 (.t 14)),iI 16 (.bin .gtr (.t 15) (.c (.int .i64 256)))]) (.cond (.t 16) (.seq (.reg [iI 2 (.mv (.c (.int .i64 5)))]) .ret) (.skip))) c89_11
def c89_13:C:=.seq (.seq (.reg [iI 5 (.faddr 0 (.t 1)),iI 6 (.load 0 (.t 5)),iI 7 (.bin .lss (.t 6) (.c (.int .i64 1))),iI 8 (.mv (.t 7)),iG (some 9) 8 false (.faddr 0 (.t 1)),iG (some 10) 8 false (.load 0 (.t 9)),iG (some 11) 8 false (.bin .gtr (.t 10) (.c (.int .i64 1048576))),iI 12 (.pick (.t 8) (.c (.bool true)) (.t 11))]) (.cond (.t 12) (.seq (.reg [iI 2 (.mv (.c (.int .i64 2)))]) .ret) (.skip))) c89_12
def ir89:C:=.seq (.reg [iI 1 (.box (.t 0)),iI 2 (.mv (.c (.int .i64 0)))]) c89_13
theorem fd89:fd? Tryz.prog 89=some (38,[.slot 2],ir89):=by kernel_rfl
def f89(x0:ApiGroup):Option (Int) :=
  (if (decide (x0.fNumber<1))=true then (some 2) else (if (decide (1048576<x0.fNumber))=true then (some 2) else (if (decide (256<((x0.fChannels.length:Nat):Int)))=true then (some 5) else ((Lp.run (f89_L1 x0) 0).bind fun r_=>match r_ with | (Sum.inl _)=>(some 0) | (Sum.inr x1)=>(some x1)))))
theorem f89_ok{x0:ApiGroup}{r_:Int}(H:f89 x0=some r_):Pure Tryz.prog 89 [.agg [.int .i64 x0.fNumber,.sl 0 false (x0.fChannels.map (AV.int .i64))]] (· = .int .i64 r_):=by
 refine w3 fd89 fun Q hQ=>?_
 simp only[f89] at H
 refine zr ?_
 refine zq (zr ?_)
 refine ig H ?_ ?_<;>clear H<;>intro H
 ·refine zs ?_
  refine za (zr ?_)
  cases H
  exact zt (zv (zf hQ))
 ·refine zs ?_
  refine ic H ?_ ?_<;>clear H<;>intro H
  ·refine zr ?_
   cases H
   exact zt (zv (zf hQ))
  ·refine zk (zm (zq (zr ?_)))
   refine ic H ?_ ?_<;>clear H<;>intro H
   ·refine zr ?_
    cases H
    exact zt (zv (zf hQ))
   ·refine zk (zm (zq (zr ?_)))
    refine zd ?_
    refine zU H [0] [1,18,19,20] (f89_L1c ..) ?_<;>clear H
    rintro x1 x_ st0_ H hst_
    rw[f89_L1c] at hst_
    simp only[f89_L1] at H
    subst hst_
    refine zr ?_
    refine zq (ic H ?_ ?_)<;>clear H<;>intro H
    ·refine zk (zm (zb (zr ?_)))
     refine ia (AV.int .i64) H ?_<;>clear H<;>intro x2 H
     refine zs ?_
     refine zq (zr ?_)
     refine ig H ?_ ?_<;>clear H<;>intro H
     ·refine zs ?_
      refine za (zr ?_)
      refine zt (zv (zp (loopQ.ret H ?_)))<;>clear H<;>intro H
      try dsimp only at H
      cases H
      exact zh (zv (zf hQ))
     ·refine zs ?_
      refine ic H ?_ ?_<;>clear H<;>intro H
      ·refine zr ?_
       refine zt (zv (zp (loopQ.ret H ?_)))<;>clear H<;>intro H
       try dsimp only at H
       cases H
       exact zh (zv (zf hQ))
      ·refine zk (zm (zr ?_))
       refine sc (AV.int .i64) H ?_<;>clear H<;>intro x3 H
       refine zs ?_
       refine pu H f28_ok ?_<;>clear H<;>intro x4 H
       refine zE0 ?_
       refine ic H ?_ ?_<;>clear H<;>intro H
       ·refine zr ?_
        refine zt (zp (loopQ.ret H ?_))<;>clear H<;>intro H
        try dsimp only at H
        cases H
        exact zh (zv (zf hQ))
       ·refine zk (zo (ze ?_))
        exact zu H [0] [1,18,19,20] (f89_L1c ..)
    ·refine zx (zy (loopQ.exit H ?_))<;>clear H<;>intro H
     try dsimp only at H
     refine zi (zm (zr ?_))
     cases H
     exact zt (zf hQ)
def f43_L1(x0:(List ApiGroup)):Lp (Int) ((Unit)⊕(Int)) where
  body:=fun x1=>(if (decide (x1<((x0.length:Nat):Int)))=true then (at? x0 x1).bind fun x2=>(f89 x2).bind fun x3=>(if (decide (x3≠0))=true then (some (.brk (Sum.inr x3))) else (if (decide (0<x1))=true then (at? x0 (IntKind.i64.wrap (x1 - 1))).bind fun x4=>(if (decide (x2.fNumber≤x4.fNumber))=true then (some (.brk (Sum.inr 9))) else (some (.next (IntKind.i64.wrap (x1 + 1))))) else (some (.next (IntKind.i64.wrap (x1 + 1)))))) else (some (.brk (Sum.inl ()))))
  cst:=fun x1=>⟨put (put (put (put (fun _=>.junk) 11 (.int .i64 x1)) 10 (.int .i64 ((x0.length:Nat):Int))) 9 (.sl 2 false (x0.map eApiGroup))) 0 (.sl 2 false (x0.map eApiGroup)),[]⟩
theorem f43_L1c(x0:(List ApiGroup))(x1:Int):(f43_L1 x0).cst x1=⟨put (put (put (put (fun _=>.junk) 11 (.int .i64 x1)) 10 (.int .i64 ((x0.length:Nat):Int))) 9 (.sl 2 false (x0.map eApiGroup))) 0 (.sl 2 false (x0.map eApiGroup)),[]⟩:=rfl
def c43_2:C:=.seq (.reg [iI 18 (.mv (.t 5)),iI 19 (.bin .neq (.t 18) (.c (.int .i64 0)))]) (.cond (.t 19) (.seq (.reg [iI 20 (.mv (.t 5)),iI 2 (.mv (.t 20))]) .ret) (.skip))
def c43_4:C:=.seq (.reg [iI 21 (.mv (.t 3)),iI 22 (.bin .gtr (.t 21) (.c (.int .i64 0))),iI 23 (.mv (.t 22)),iG (some 24) 23 true (.faddr 0 (.t 4)),iG (some 25) 23 true (.load 0 (.t 24)),iG (some 26) 23 true (.mv (.t 0)),iG (some 27) 23 true (.mv (.t 3)),iG (some 28) 23 true (.bin .sub (.t 27) (.c (.int .i64 1))),iG (some 29) 23 true (.iaddr 2 (.t 26) (.t 28)),iG (some 30) 23 true (.faddr 0 (.t 29)),iG (some 31) 23 true (.load 0 (.t 30)),iG (some 32) 23 true (.bin .leq (.t 25) (.t 31)),iI 33 (.pick (.t 23) (.t 32) (.c (.bool false)))]) (.cond (.t 33) (.seq (.reg [iI 2 (.mv (.c (.int .i64 9)))]) .ret) (.skip))
def c43_7:C:=.seq (.block 1 (.seq (.reg [iI 13 (.mv (.t 11)),iI 14 (.iaddr 2 (.t 9) (.t 11)),iI 15 (.load 2 (.t 14)),iI 4 (.alloc [(1,(.int .i64 0)),(1,(.sl 0 true []))]),iI 3 (.mv (.t 13)),iN (.store 2 (.t 4) (.t 15))]) (.seq (.seq (.reg [iI 16 (.load 2 (.t 4)),iI 17 (.call (.c (.fn 89 [])) [(.t 16)]),iI 5 (.mv (.t 17))]) c43_2) c43_4))) (.reg [iI 34 (.bin .add (.t 11) (.c (.int .i64 1))),iI 11 (.mv (.t 34))])
def c43_11:C:=.seq (.seq (.reg [iI 9 (.mv (.t 0)),iI 10 (.len 0 (.t 9)),iI 11 (.mv (.c (.int .i64 0)))]) (.block 0 (.loop (.seq (.reg [iI 12 (.bin .lss (.t 11) (.t 10))]) (.seq (.cond (.t 12) (.skip) (.exit 0)) c43_7))))) (.seq (.reg [iI 2 (.mv (.c (.int .i64 0)))]) .ret)
def c43_12:C:=.seq (.seq (.reg [iI 6 (.mv (.t 0)),iI 7 (.len 0 (.t 6)),iI 8 (.bin .gtr (.t 7) (.c (.int .i64 32)))]) (.cond (.t 8) (.seq (.reg [iI 2 (.mv (.c (.int .i64 5)))]) .ret) (.skip))) c43_11
def ir43:C:=.seq (.reg [iI 2 (.mv (.c (.int .i64 0)))]) c43_12
theorem fd43:fd? Tryz.prog 43=some (35,[.slot 2],ir43):=by kernel_rfl
def f43(x0:(List ApiGroup)):Option (Int) :=
  (if (decide (32<((x0.length:Nat):Int)))=true then (some 5) else ((Lp.run (f43_L1 x0) 0).bind fun r_=>match r_ with | (Sum.inl _)=>(some 0) | (Sum.inr x1)=>(some x1)))
theorem f43_ok{x0:(List ApiGroup)}{r_:Int}(H:f43 x0=some r_):Pure Tryz.prog 43 [.sl 2 false (x0.map eApiGroup)] (· = .int .i64 r_):=by
 refine w3 fd43 fun Q hQ=>?_
 simp only[f43] at H
 refine zr ?_
 refine zq (zr ?_)
 refine ic H ?_ ?_<;>clear H<;>intro H
 ·refine zr ?_
  cases H
  exact zt (zv (zf hQ))
 ·refine zk (zm (zq (zr ?_)))
  refine zd ?_
  refine zU H [] [0,9,10,11] (f43_L1c ..) ?_<;>clear H
  rintro x1 x_ st0_ H hst_
  rw[f43_L1c] at hst_
  simp only[f43_L1] at H
  subst hst_
  refine zr ?_
  refine zq (ic H ?_ ?_)<;>clear H<;>intro H
  ·refine zk (zm (zb (zr ?_)))
   refine ia eApiGroup H ?_<;>clear H<;>intro x2 H
   refine zE2 ?_
   refine zq (zr ?_)
   refine pu H f89_ok ?_<;>clear H<;>intro x3 H
   refine zE0 ?_
   refine zr ?_
   refine ic H ?_ ?_<;>clear H<;>intro H
   ·refine zr ?_
    refine zt (zv (zp (loopQ.ret H ?_)))<;>clear H<;>intro H
    try dsimp only at H
    cases H
    exact zh (zv (zf hQ))
   ·refine zk (zm (zr ?_))
    refine ig H ?_ ?_<;>clear H<;>intro H
    ·refine zs ?_
     refine ia eApiGroup H ?_<;>clear H<;>intro x4 H
     refine zE2 ?_
     refine ic H ?_ ?_<;>clear H<;>intro H
     ·refine zr ?_
      refine zt (zp (loopQ.ret H ?_))<;>clear H<;>intro H
      try dsimp only at H
      cases H
      exact zh (zv (zf hQ))
     ·refine zk (zo (ze ?_))
      exact zu H [] [0,9,10,11] (f43_L1c ..)
    ·refine zs ?_
     refine zc (zk (zo (ze ?_)))
     exact zu H [] [0,9,10,11] (f43_L1c ..)
  ·refine zx (zy (loopQ.exit H ?_))<;>clear H<;>intro H
   try dsimp only at H
   refine zi (zm (zr ?_))
   cases H
   exact zt (zf hQ)
def ir129:C:=.seq (.reg [iI 1 (.box (.t 0)),iI 2 (.mv (.c (.int .i64 0)))]) (.seq (.reg [iI 3 (.faddr 0 (.t 1)),iI 4 (.load 0 (.t 3)),iI 2 (.mv (.t 4))]) .ret)
theorem fd129:fd? Tryz.prog 129=some (5,[.slot 2],ir129):=by kernel_rfl
def f129(x0:ApiGroup):Option (Int) :=
  (some x0.fNumber)
theorem f129_ok{x0:ApiGroup}{r_:Int}(H:f129 x0=some r_):Pure Tryz.prog 129 [.agg [.int .i64 x0.fNumber,.sl 0 false (x0.fChannels.map (AV.int .i64))]] (· = .int .i64 r_):=by
 refine w3 fd129 fun Q hQ=>?_
 simp only[f129] at H
 refine zr ?_
 refine zr ?_
 cases H
 exact zt (zf hQ)
def ir157:C:=.seq (.reg [iI 2 (.mv (.c (.bool false)))]) (.seq (.reg [iI 3 (.mv (.t 0)),iI 4 (.mv (.t 0)),iI 5 (.bin .neq (.t 3) (.t 4)),iI 2 (.mv (.t 5))]) .ret)
theorem fd157:fd? Tryz.prog 157=some (6,[.slot 2],ir157):=by kernel_rfl
def f157(x0:Int):Option (Bool) :=
  (some (decide (x0≠x0)))
theorem f157_ok{x0:Int}{r_:Bool}(H:f157 x0=some r_):Pure Tryz.prog 157 [.int .i64 x0] (· = .bool r_):=by
 refine w3 fd157 fun Q hQ=>?_
 simp only[f157] at H
 refine zr ?_
 refine zr ?_
 cases H
 exact zt (zf hQ)
def c105_2:C:=.cond (.t 11) (.seq (.seq (.reg [iI 12 (.mv (.t 6))]) (.cond (.t 12) (.seq (.reg [iI 4 (.mv (.c (.int .i64 0)))]) .ret) (.skip))) (.seq (.reg [iI 4 (.mv (.c (.int .i64 (-1))))]) .ret)) (.skip)
def c105_7:C:=.seq (.seq (.reg [iI 17 (.mv (.t 0)),iI 18 (.mv (.t 1)),iI 19 (.bin .gtr (.t 17) (.t 18))]) (.cond (.t 19) (.seq (.reg [iI 4 (.mv (.c (.int .i64 1)))]) .ret) (.skip))) (.seq (.reg [iI 4 (.mv (.c (.int .i64 0)))]) .ret)
def c105_8:C:=.seq (.seq (.reg [iI 14 (.mv (.t 0)),iI 15 (.mv (.t 1)),iI 16 (.bin .lss (.t 14) (.t 15))]) (.cond (.t 16) (.seq (.reg [iI 4 (.mv (.c (.int .i64 (-1))))]) .ret) (.skip))) c105_7
def c105_10:C:=.seq (.seq (.reg [iI 11 (.mv (.t 5))]) c105_2) (.seq (.seq (.reg [iI 13 (.mv (.t 6))]) (.cond (.t 13) (.seq (.reg [iI 4 (.mv (.c (.int .i64 1)))]) .ret) (.skip))) c105_8)
def c105_12:C:=.seq (.reg [iI 7 (.mv (.t 0)),iI 8 (.call (.c (.fn 157 [])) [(.t 7)]),iI 5 (.mv (.t 8))]) (.seq (.reg [iI 9 (.mv (.t 1)),iI 10 (.call (.c (.fn 157 [])) [(.t 9)]),iI 6 (.mv (.t 10))]) c105_10)
def ir105:C:=.seq (.reg [iI 4 (.mv (.c (.int .i64 0)))]) c105_12
theorem fd105:fd? Tryz.prog 105=some (20,[.slot 4],ir105):=by kernel_rfl
def f105(x0:Int)(x1:Int):Option (Int) :=
  (f157 x0).bind fun x2=>(f157 x1).bind fun x3=>(if x2=true then (if x3=true then (some 0) else (some (-1))) else (if x3=true then (some 1) else (if (decide (x0<x1))=true then (some (-1)) else (if (decide (x1<x0))=true then (some 1) else (some 0)))))
theorem f105_ok{x0:Int}{x1:Int}{r_:Int}(H:f105 x0 x1=some r_):Pure Tryz.prog 105 [.int .i64 x0,.int .i64 x1] (· = .int .i64 r_):=by
 refine w3 fd105 fun Q hQ=>?_
 simp only[f105] at H
 refine zr ?_
 refine zr ?_
 refine pu H f157_ok ?_<;>clear H<;>intro x2 H
 refine zE0 ?_
 refine zr ?_
 refine pu H f157_ok ?_<;>clear H<;>intro x3 H
 refine zE0 ?_
 refine zq (zr ?_)
 refine ic H ?_ ?_<;>clear H<;>intro H
 ·refine zq (zr ?_)
  refine ic H ?_ ?_<;>clear H<;>intro H
  ·refine zr ?_
   cases H
   exact zt (zv (zv (zf hQ)))
  ·refine zk (zm (zr ?_))
   cases H
   exact zt (zv (zf hQ))
 ·refine zk (zm (zq (zr ?_)))
  refine ic H ?_ ?_<;>clear H<;>intro H
  ·refine zr ?_
   cases H
   exact zt (zv (zf hQ))
  ·refine zk (zm (zq (zr ?_)))
   refine ic H ?_ ?_<;>clear H<;>intro H
   ·refine zr ?_
    cases H
    exact zt (zv (zf hQ))
   ·refine zk (zm (zq (zr ?_)))
    refine ic H ?_ ?_<;>clear H<;>intro H
    ·refine zr ?_
     cases H
     exact zt (zv (zf hQ))
    ·refine zk (zm (zr ?_))
     cases H
     exact zt (zf hQ)
def c183_0:C:=.seq (.reg [iI 6 (.load 0 (.t 2)),iI 7 (.load 2 (.t 3)),iI 8 (.call (.t 6) [(.t 7)]),iI 9 (.mv (.t 1)),iI 10 (.call (.c (.fn 105 [])) [(.t 8),(.t 9)]),iI 5 (.mv (.t 10))]) .ret
def ir183:C:=.seq (.reg [iI 3 (.box (.t 0)),iI 5 (.mv (.c (.int .i64 0)))]) c183_0
theorem fd183:fd? Tryz.prog 183=some (11,[.slot 5],ir183):=by kernel_rfl
def f183p(x0:ApiGroup)(x1:Int):Option (Int) :=
  (f129 x0).bind fun x2=>(f105 x2 x1).bind fun x3=>(some x3)
theorem f183p_ok{x0:ApiGroup}{x1:Int}{r_:Int}(H:f183p x0 x1=some r_):Pure Tryz.prog 183 [.agg [.int .i64 x0.fNumber,.sl 0 false (x0.fChannels.map (AV.int .i64))],.int .i64 x1,.pro [.fn 129 []]] (· = .int .i64 r_):=by
 refine w3 fd183 fun Q hQ=>?_
 simp only[f183p] at H
 refine zr ?_
 refine zr ?_
 refine pu H f129_ok ?_<;>clear H<;>intro x2 H
 refine zE0 ?_
 refine pu H f105_ok ?_<;>clear H<;>intro x3 H
 refine zE0 ?_
 cases H
 exact zt (zf hQ)
def f182_183_L1(x0:(List ApiGroup))(x1:Int):Lp (Int×Int) (Int) where
  body:=fun (x2,x3)=>(if (decide (x2<x3))=true then (at? x0 (IntKind.i64.wrap (Int.fdiv (IntKind.u64.wrap (IntKind.i64.wrap (x2 + x3))) (2 ^ (min (Int.toNat 1) (IntKind.bits .u64)))))).bind fun x4=>(f183p x4 x1).bind fun x5=>(if (decide (x5<0))=true then (some (.next ((IntKind.i64.wrap ((IntKind.i64.wrap (Int.fdiv (IntKind.u64.wrap (IntKind.i64.wrap (x2 + x3))) (2 ^ (min (Int.toNat 1) (IntKind.bits .u64))))) + 1)),x3))) else (some (.next (x2,(IntKind.i64.wrap (Int.fdiv (IntKind.u64.wrap (IntKind.i64.wrap (x2 + x3))) (2 ^ (min (Int.toNat 1) (IntKind.bits .u64))))))))) else (some (.brk x2)))
  cst:=fun (x2,x3)=>⟨put (put (put (put (put (put (fun _=>.junk) 10 (.int .i64 x3)) 9 (.int .i64 x2)) 8 (.int .i64 ((x0.length:Nat):Int))) 2 (.fn 183 [.pro [.fn 129 []]])) 1 (.int .i64 x1)) 0 (.sl 2 false (x0.map eApiGroup)),[]⟩
theorem f182_183_L1c(x0:(List ApiGroup))(x1:Int)(x2:Int)(x3:Int):(f182_183_L1 x0 x1).cst (x2,x3)=⟨put (put (put (put (put (put (fun _=>.junk) 10 (.int .i64 x3)) 9 (.int .i64 x2)) 8 (.int .i64 ((x0.length:Nat):Int))) 2 (.fn 183 [.pro [.fn 129 []]])) 1 (.int .i64 x1)) 0 (.sl 2 false (x0.map eApiGroup)),[]⟩:=rfl
def c182_2:C:=.seq (.reg [iI 24 (.mv (.t 2)),iI 25 (.mv (.t 0)),iI 26 (.mv (.t 11)),iI 27 (.iaddr 2 (.t 25) (.t 26)),iI 28 (.load 2 (.t 27)),iI 29 (.mv (.t 1)),iI 30 (.call (.t 24) [(.t 28),(.t 29)]),iI 31 (.bin .lss (.t 30) (.c (.int .i64 0)))]) (.cond (.t 31) (.reg [iI 32 (.mv (.t 11)),iI 33 (.bin .add (.t 32) (.c (.int .i64 1))),iI 9 (.mv (.t 33))]) (.reg [iI 34 (.mv (.t 11)),iI 10 (.mv (.t 34))]))
def c182_3:C:=.block 1 (.seq (.reg [iI 18 (.mv (.t 9)),iI 19 (.mv (.t 10)),iI 20 (.bin .add (.t 18) (.t 19)),iI 21 (.cint .u64 (.t 20)),iI 22 (.bin .shr (.t 21) (.c (.int .u64 1))),iI 23 (.cint .i64 (.t 22)),iI 11 (.mv (.t 23))]) c182_2)
def c182_4:C:=.seq (.reg [iI 35 (.mv (.t 9)),iI 36 (.mv (.t 9)),iI 37 (.mv (.t 8)),iI 38 (.bin .lss (.t 36) (.t 37)),iI 39 (.mv (.t 38)),iG (some 40) 39 true (.mv (.t 2)),iG (some 41) 39 true (.mv (.t 0)),iG (some 42) 39 true (.mv (.t 9)),iG (some 43) 39 true (.iaddr 2 (.t 41) (.t 42)),iG (some 44) 39 true (.load 2 (.t 43)),iG (some 45) 39 true (.mv (.t 1)),iG (some 46) 39 true (.call (.t 40) [(.t 44),(.t 45)]),iG (some 47) 39 true (.bin .eql (.t 46) (.c (.int .i64 0))),iI 48 (.pick (.t 39) (.t 47) (.c (.bool false))),iI 6 (.mv (.t 35)),iI 7 (.mv (.t 48))]) .ret
def c182_5:C:=.seq (.block 0 (.loop (.seq (.seq (.reg [iI 15 (.mv (.t 9)),iI 16 (.mv (.t 10)),iI 17 (.bin .lss (.t 15) (.t 16))]) (.cond (.t 17) (.skip) (.exit 0))) c182_3))) c182_4
def c182_7:C:=.seq (.reg [iI 12 (.mv (.t 0)),iI 13 (.len 0 (.t 12)),iI 8 (.mv (.t 13))]) (.seq (.reg [iI 14 (.mv (.t 8)),iI 9 (.mv (.c (.int .i64 0))),iI 10 (.mv (.t 14))]) c182_5)
def ir182:C:=.seq (.reg [iI 6 (.mv (.c (.int .i64 0))),iI 7 (.mv (.c (.bool false)))]) c182_7
theorem fd182:fd? Tryz.prog 182=some (49,[.slot 6,.slot 7],ir182):=by kernel_rfl
def f182_183(x0:(List ApiGroup))(x1:Int):Option (Int×Bool) :=
  (Lp.run (f182_183_L1 x0 x1) (0,((x0.length:Nat):Int))).bind fun x2=>(if (decide (x2<((x0.length:Nat):Int)))=true then (at? x0 x2).bind fun x3=>(f183p x3 x1).bind fun x4=>(some (x2,(decide (x4=0)))) else (some (x2,false)))
theorem f182_183_ok{x0:(List ApiGroup)}{x1:Int}{r_:Int×Bool}(H:f182_183 x0 x1=some r_):Pure Tryz.prog 182 [.sl 2 false (x0.map eApiGroup),.int .i64 x1,.fn 183 [.pro [.fn 129 []]]] (· = .tup [.int .i64 r_.1,.bool r_.2]):=by
 refine w3 fd182 fun Q hQ=>?_
 simp only[f182_183] at H
 refine zr ?_
 refine zr ?_
 refine zr ?_
 refine zb ?_
 refine zU H [] [0,1,2,8,9,10] (f182_183_L1c ..) ?_<;>clear H
 rintro ⟨x2,x3⟩ x_ st0_ H hst_
 rw[f182_183_L1c] at hst_
 simp only[f182_183_L1] at H
 subst hst_
 refine zq (zr ?_)
 refine ic H ?_ ?_<;>clear H<;>intro H
 ·refine zk (zm (zd (zr ?_)))
  refine rest_shr (by decide) ?_
  refine zs ?_
  refine zr ?_
  refine ia eApiGroup H ?_<;>clear H<;>intro x4 H
  refine zE2 ?_
  refine pu H f183p_ok ?_<;>clear H<;>intro x5 H
  refine zE0 ?_
  refine ic H ?_ ?_<;>clear H<;>intro H
  ·refine ze ?_
   refine zl ?_
   exact zu H [] [0,1,2,8,9,10] (f182_183_L1c ..)
  ·refine ze ?_
   refine zl ?_
   exact zu H [] [0,1,2,8,9,10] (f182_183_L1c ..)
 ·refine zx (zy (loopQ.exit H ?_))<;>clear H<;>intro H
  try dsimp only at H
  refine zj (zr ?_)
  refine ig H ?_ ?_<;>clear H<;>intro H
  ·refine zs ?_
   refine ia eApiGroup H ?_<;>clear H<;>intro x6 H
   refine zE2 ?_
   refine pu H f183p_ok ?_<;>clear H<;>intro x7 H
   refine zE0 ?_
   cases H
   exact zt (zf hQ)
  ·refine zs ?_
   cases H
   exact zt (zf hQ)
def c128_0:C:=.seq (.reg [iI 8 (.mv (.t 0)),iI 9 (.mv (.t 2)),iI 10 (.mkfn 183 [(.t 4)]),iI 11 (.call (.c (.fn 182 [])) [(.t 8),(.t 9),(.t 10)]),iI 12 (.ext (.t 11) 0),iI 13 (.ext (.t 11) 1),iI 6 (.mv (.t 12)),iI 7 (.mv (.t 13))]) .ret
def ir128:C:=.seq (.reg [iI 4 (.box (.t 1)),iI 6 (.mv (.c (.int .i64 0))),iI 7 (.mv (.c (.bool false)))]) c128_0
theorem fd128:fd? Tryz.prog 128=some (14,[.slot 6,.slot 7],ir128):=by kernel_rfl
def f128_129(x0:(List ApiGroup))(x1:Int):Option (Int×Bool) :=
  (f182_183 x0 x1).bind fun x2=>(some (x2.1,x2.2))
theorem f128_129_ok{x0:(List ApiGroup)}{x1:Int}{r_:Int×Bool}(H:f128_129 x0 x1=some r_):Pure Tryz.prog 128 [.sl 2 false (x0.map eApiGroup),.fn 129 [],.int .i64 x1] (· = .tup [.int .i64 r_.1,.bool r_.2]):=by
 refine w3 fd128 fun Q hQ=>?_
 simp only[f128_129] at H
 refine zr ?_
 refine zr ?_
 refine evTs_flat hFn H (fun _ h=>f182_183_ok h) (by rfl) (by rfl) (by simp only[deep_eq,imm_simps,imm_rowE,imm_ptrE,imm_enc,imm_mrefE,imm_mpE,imm_arowE,omap_simps,take_map_len,take_map_set,take_map_set2,List.length_set,le_refl_true,Nat.zero_add,and_true,true_and,List.drop_zero,Option.map_some,wm,↓wk,↓wl,nq,evV,↓reduceIte,sevalprocAttr];rfl) (by rfl) (fun _=>rfl) (fun _=>rfl) ?_<;>clear H<;>intro x2 H
 refine zE0 ?_
 cases H
 exact zt (zf hQ)
def c91_0:C:=.cond (.t 12) (.seq (.reg [iI 13 (.build [(1,(.int .i64 0)),(1,(.sl 0 true []))] []),iI 14 (.mv (.t 6)),iN (.store 2 (.t 4) (.t 13)),iI 5 (.mv (.t 14))]) .ret) (.skip)
def c91_2:C:=.cond (.t 22) (.seq (.reg [iI 23 (.build [(1,(.int .i64 0)),(1,(.sl 0 true []))] []),iN (.store 2 (.t 4) (.t 23)),iI 5 (.mv (.c (.int .i64 6)))]) .ret) (.skip)
def c91_3:C:=.seq (.reg [iI 24 (.mv (.t 0)),iI 25 (.mv (.t 7)),iI 26 (.iaddr 2 (.t 24) (.t 25)),iI 27 (.load 2 (.t 26)),iN (.store 2 (.t 4) (.t 27)),iI 5 (.mv (.c (.int .i64 0)))]) .ret
def c91_5:C:=.seq (.reg [iI 16 (.mv (.t 0)),iI 17 (.mv (.t 1)),iI 18 (.call (.c (.fn 128 [])) [(.t 16),(.c (.fn 129 [])),(.t 17)]),iI 15 (.mv (.t 18)),iI 19 (.ext (.t 15) 0),iI 20 (.ext (.t 15) 1),iI 7 (.mv (.t 19)),iI 8 (.mv (.t 20))]) (.seq (.seq (.reg [iI 21 (.mv (.t 8)),iI 22 (.un .not (.t 21))]) c91_2) c91_3)
def c91_6:C:=.seq (.seq (.reg [iI 9 (.mv (.t 0)),iI 10 (.call (.c (.fn 43 [])) [(.t 9)]),iI 6 (.mv (.t 10))]) (.seq (.reg [iI 11 (.mv (.t 6)),iI 12 (.bin .neq (.t 11) (.c (.int .i64 0)))]) c91_0)) c91_5
def ir91:C:=.seq (.reg [iI 4 (.alloc [(1,(.int .i64 0)),(1,(.sl 0 true []))]),iI 5 (.mv (.c (.int .i64 0)))]) c91_6
theorem fd91:fd? Tryz.prog 91=some (28,[.cell 4 2,.slot 5],ir91):=by kernel_rfl
def f91(x0:(List ApiGroup))(x1:Int):Option (ApiGroup×Int) :=
  (f43 x0).bind fun x2=>(if (decide (x2≠0))=true then (some ((ApiGroup.mk 0 ([])),x2)) else (f128_129 x0 x1).bind fun x3=>(if (!x3.2)=true then (some ((ApiGroup.mk 0 ([])),6)) else (at? x0 x3.1).bind fun x4=>(some (x4,0))))
theorem f91_ok{x0:(List ApiGroup)}{x1:Int}{r_:ApiGroup×Int}(H:f91 x0 x1=some r_):Pure Tryz.prog 91 [.sl 2 false (x0.map eApiGroup),.int .i64 x1] (· = .tup [.agg [.int .i64 r_.1.fNumber,.sl 0 false (r_.1.fChannels.map (AV.int .i64))],.int .i64 r_.2]):=by
 refine w3 fd91 fun Q hQ=>?_
 simp only[f91] at H
 refine zr ?_
 refine zq (zr ?_)
 refine pu H f43_ok ?_<;>clear H<;>intro x2 H
 refine zE0 ?_
 refine zr ?_
 refine ic H ?_ ?_<;>clear H<;>intro H
 ·refine zr ?_
  cases H
  exact zt (zv (zf hQ))
 ·refine zk (zm (zr ?_))
  refine pu H f128_129_ok ?_<;>clear H<;>intro x3 H
  refine zE0 ?_
  refine zq (zr ?_)
  refine ic H ?_ ?_<;>clear H<;>intro H
  ·refine zr ?_
   cases H
   exact zt (zv (zf hQ))
  ·refine zk (zm (zr ?_))
   refine ia eApiGroup H ?_<;>clear H<;>intro x4 H
   refine zE2 ?_
   cases H
   exact zt (zf hQ)
def f48_L1(x0:ApiSelect):Lp (Int×(List Int)) ((List Int)) where
  body:=fun (x1,x2)=>(if (decide (x1≤x0.fTo))=true then (app? 8 x2 ([x1])).bind fun x3=>(some (.next ((IntKind.i64.wrap (x1 + 1)),x3))) else (some (.brk x2)))
  cst:=fun (x1,x2)=>⟨put (put (put (fun _=>.junk) 9 (.int .i64 x1)) 8 (.row 0 1 0 x2.length)) 2 (.ptr 0 0),[.cel [.int .i64 x0.fOp,.int .i64 x0.fGroup,.int .i64 x0.fFrom,.int .i64 x0.fTo],.els 0 (x2.map (AV.int .i64))]⟩
theorem f48_L1c(x0:ApiSelect)(x1:Int)(x2:(List Int)):(f48_L1 x0).cst (x1,x2)=⟨put (put (put (fun _=>.junk) 9 (.int .i64 x1)) 8 (.row 0 1 0 x2.length)) 2 (.ptr 0 0),[.cel [.int .i64 x0.fOp,.int .i64 x0.fGroup,.int .i64 x0.fFrom,.int .i64 x0.fTo],.els 0 (x2.map (AV.int .i64))]⟩:=rfl
def c48_1:C:=.cond (.t 12) (.seq (.reg [iI 14 (.mv (.t 1)),iI 15 (.faddr 1 (.t 2)),iI 16 (.load 0 (.t 15)),iI 17 (.call (.c (.fn 91 [])) [(.t 14),(.t 16)]),iI 13 (.mv (.t 17)),iI 18 (.ext (.t 13) 0),iI 19 (.ext (.t 13) 1),iI 6 (.alloc [(1,(.int .i64 0)),(1,(.sl 0 true []))]),iN (.store 2 (.t 6) (.t 18)),iI 7 (.mv (.t 19))]) (.seq (.reg [iI 20 (.faddr 1 (.t 6)),iI 21 (.load 0 (.t 20)),iI 22 (.mv (.t 7)),iI 4 (.mv (.t 21)),iI 5 (.mv (.t 22))]) .ret)) (.skip)
def c48_4:C:=.seq (.block 1 (.reg [iI 31 (.mv (.t 8)),iI 32 (.mv (.t 9)),iI 33 (.mkslp 0 1 (.int .i64 0) [(0,(.t 32))]),iI 34 (.append 0 8 (.t 31) (.t 33)),iI 8 (.mv (.t 34))])) (.reg [iI 29 (.mv (.t 9)),iI 30 (.bin .add (.t 29) (.c (.int .i64 1))),iI 9 (.mv (.t 30))])
def c48_5:C:=.block 0 (.loop (.seq (.seq (.reg [iI 25 (.mv (.t 9)),iI 26 (.faddr 3 (.t 2)),iI 27 (.load 0 (.t 26)),iI 28 (.bin .leq (.t 25) (.t 27))]) (.cond (.t 28) (.skip) (.exit 0))) c48_4))
def c48_7:C:=.seq (.seq (.reg [iI 23 (.faddr 2 (.t 2)),iI 24 (.load 0 (.t 23)),iI 9 (.mv (.t 24))]) c48_5) (.seq (.reg [iI 35 (.mv (.t 8)),iI 4 (.mv (.t 35)),iI 5 (.mv (.c (.int .i64 0)))]) .ret)
def c48_9:C:=.seq (.seq (.reg [iI 10 (.faddr 1 (.t 2)),iI 11 (.load 0 (.t 10)),iI 12 (.bin .neq (.t 11) (.c (.int .i64 0)))]) c48_1) (.seq (.reg [iI 8 (.mv (.c (.sl 0 true [])))]) c48_7)
def ir48:C:=.seq (.reg [iI 2 (.box (.t 0)),iI 4 (.mv (.c (.sl 0 true []))),iI 5 (.mv (.c (.int .i64 0)))]) c48_9
theorem fd48:fd? Tryz.prog 48=some (36,[.slot 4,.slot 5],ir48):=by kernel_rfl
def f48(x0:ApiSelect)(x1:(List ApiGroup)):Option ((List Int)×Int) :=
  (if (decide (x0.fGroup≠0))=true then (f91 x1 x0.fGroup).bind fun x2=>(some (x2.1.fChannels,x2.2)) else (Lp.run (f48_L1 x0) (x0.fFrom,[])).bind fun x3=>(some (x3,0)))
theorem f48_ok{x0:ApiSelect}{x1:(List ApiGroup)}{r_:(List Int)×Int}(H:f48 x0 x1=some r_):Pure Tryz.prog 48 [.agg [.int .i64 x0.fOp,.int .i64 x0.fGroup,.int .i64 x0.fFrom,.int .i64 x0.fTo],.sl 2 false (x1.map eApiGroup)] (· = .tup [.sl 0 false (r_.1.map (AV.int .i64)),.int .i64 r_.2]):=by
 refine w3 fd48 fun Q hQ=>?_
 simp only[f48] at H
 refine zr ?_
 refine zq (zr ?_)
 refine ic H ?_ ?_<;>clear H<;>intro H
 ·refine zr ?_
  refine pu H f91_ok ?_<;>clear H<;>intro x2 H
  try simp only[eL,eApiGroup,eM,wm,↓wk,↓wl,nq,evV,↓reduceIte,sevalprocAttr]
  refine zr ?_
  cases H
  exact zt (zv (zf hQ))
 ·refine zk (zm (zr ?_))
  refine zq (zr ?_)
  refine zd ?_
  refine AW.iter H ((Le.trans (Le.nilRow (i:=8) (e:=0) (by simp only[↓wk,↓wl,nq,evV,↓reduceIte,sevalprocAttr])) (Le.tz [0,1] [2,8,9] (by simp only[f48_L1c,wm,wmr,rrm,↓wk,↓wl,evV,↓reduceIte,sevalprocAttr]<;>rfl)))) ?_<;>clear H
  rintro ⟨x3,x4⟩ x_ st0_ H hst_
  rw[f48_L1c] at hst_
  simp only[f48_L1] at H
  subst hst_
  refine zq (zr ?_)
  refine ic H ?_ ?_<;>clear H<;>intro H
  ·refine zk (zm (zb (ze ?_)))
   refine ap (AV.int .i64) H ?_<;>clear H<;>intro x5 H
   refine zs ?_
   refine zo (ze ?_)
   exact zu H [0,2] [2,8,9] (f48_L1c ..)
  ·refine zx (zy (loopQ.exit H ?_))<;>clear H<;>intro H
   try dsimp only at H
   refine zi (zm (zr ?_))
   refine zt ?_
   cases H
   exact hQ _ _ _ _ (.inr rfl) (by simp only[resVs,omap,resV,wm,↓wk,↓wl,nq,evV,↓reduceIte,sevalprocAttr];rfl) (by simp only[handOver,deep_eq,imm_simps,imm_rowE,imm_ptrE,imm_enc,imm_mrefE,imm_mpE,imm_arowE,omap_simps,take_map_len,take_map_set,take_map_set2,List.length_set,le_refl_true,Nat.zero_add,and_true,true_and,List.drop_zero,Option.map_some,wm,↓wk,↓wl,nq,evV,↓reduceIte,sevalprocAttr];rfl) (by first | exact Or.inl rfl | exact Or.inr rfl)
theorem dlf46:fd? Tryz.prog 46=some (42,[.slot 4],dlhC 0 (.int .i64 0) 90):=by kernel_rfl
theorem idx90:fd? Tryz.prog 90=some (19,[.slot 4],idxC 0):=by kernel_rfl
def ir47:C:=.seq (.reg [iI 3 (.mv (.c (.bool false)))]) (.seq (.reg [iI 4 (.mv (.t 0)),iI 5 (.load 0 (.t 1)),iI 6 (.bin .eql (.t 4) (.t 5)),iI 3 (.mv (.t 6))]) .ret)
theorem fd47:fd? Tryz.prog 47=some (7,[.slot 3],ir47):=by kernel_rfl
def f47p(x0:Int)(x1:Int):Option (Bool) :=
  (some (decide (x0=x1)))
theorem f47p_ok{x0:Int}{x1:Int}{r_:Bool}(H:f47p x0 x1=some r_):Pure Tryz.prog 47 [.int .i64 x0,.pro [.int .i64 x1]] (· = .bool r_):=by
 refine w3 fd47 fun Q hQ=>?_
 simp only[f47p] at H
 refine zr ?_
 refine zr ?_
 cases H
 exact zt (zf hQ)
def ir45:C:=.seq (.reg [iI 2 (.box (.t 0))]) (.reg [iI 3 (.load 0 (.t 1)),iI 4 (.mkfn 47 [(.t 2)]),iI 5 (.call (.c (.fn 46 [])) [(.t 3),(.t 4)]),iN (.store 0 (.t 1) (.t 5))])
theorem fd45:fd? Tryz.prog 45=some (6,[],ir45):=by kernel_rfl
def f13_C3(x0:Int)(x1:(List Int))(x2:ApiSelect):Il ((List Int)) where
  run:=(delf? (fun x3=>f47p x3 x0) x1).bind fun x4=>(some x4)
  res:=fun x5=>.tup []
  hp:=fun x5=>[.cel [.row 0 4 0 x5.length],.cel [.fn 44 [.ptr 0 0],.fn 45 [.ptr 0 0]],.cel [.int .i64 x2.fOp,.int .i64 x2.fGroup,.int .i64 x2.fFrom,.int .i64 x2.fTo],.dead,.els 0 (x5.map (AV.int .i64))]
def c44_0:C:=.cond (.t 6) (.reg [iI 7 (.load 0 (.t 1)),iI 8 (.mv (.t 0)),iI 9 (.mkslp 0 1 (.int .i64 0) [(0,(.t 8))]),iI 10 (.append 0 8 (.t 7) (.t 9)),iN (.store 0 (.t 1) (.t 10))]) (.skip)
def ir44:C:=.seq (.reg [iI 3 (.load 0 (.t 1)),iI 4 (.mv (.t 0)),iI 5 (.call (.c (.fn 28 [])) [(.t 3),(.t 4)]),iI 6 (.un .not (.t 5))]) c44_0
theorem fd44:fd? Tryz.prog 44=some (11,[],ir44):=by kernel_rfl
def f13_C4(x0:(List Int))(x1:Int)(x2:ApiSelect):Il ((List Int)) where
  run:=(f28 x0 x1).bind fun x3=>(if (!x3)=true then (app? 8 x0 ([x1])).bind fun x4=>(some x4) else (some x0))
  res:=fun x5=>.tup []
  hp:=fun x5=>[.cel [.row 0 4 0 x5.length],.cel [.fn 44 [.ptr 0 0],.fn 45 [.ptr 0 0]],.cel [.int .i64 x2.fOp,.int .i64 x2.fGroup,.int .i64 x2.fFrom,.int .i64 x2.fTo],.dead,.els 0 (x5.map (AV.int .i64))]
def f13_L2(x0:(List Int)×Int)(x1:ApiSelect)(x2:Int)(x3:(List ApiSelect))(x4:(List ApiGroup)):Lp (Int×(List Int)) ((List Int)) where
  body:=fun (x5,x6)=>(if (decide (x5<((x0.1.length:Nat):Int)))=true then (at? x0.1 x5).bind fun x7=>(if (decide (x1.fOp=0))=true then ((f13_C4 x6 x7 x1).run.bind fun x8=>(some (.next ((IntKind.i64.wrap (x5 + 1)),x8)))) else (if (decide (x1.fOp=1))=true then ((f13_C3 x7 x6 x1).run.bind fun x9=>(some (.next ((IntKind.i64.wrap (x5 + 1)),x9)))) else none)) else (some (.brk x6)))
  cst:=fun (x5,x6)=>⟨put (put (put (put (put (put (put (put (put (put (fun _=>.junk) 46 (.int .i64 x5)) 45 (.int .i64 ((x0.1.length:Nat):Int))) 44 (.sl 0 false (x0.1.map (AV.int .i64)))) 31 (.int .i64 x2)) 30 (.int .i64 ((x3.length:Nat):Int))) 29 (.sl 4 false (x3.map eApiSelect))) 11 (.ptr 2 0)) 9 (.ptr 1 0)) 8 (.ptr 0 0)) 1 (.sl 2 false (x4.map eApiGroup)),[.cel [.row 0 3 0 x6.length],.cel [.fn 44 [.ptr 0 0],.fn 45 [.ptr 0 0]],.cel [.int .i64 x1.fOp,.int .i64 x1.fGroup,.int .i64 x1.fFrom,.int .i64 x1.fTo],.els 0 (x6.map (AV.int .i64))]⟩
theorem f13_L2c(x0:(List Int)×Int)(x1:ApiSelect)(x2:Int)(x3:(List ApiSelect))(x4:(List ApiGroup))(x5:Int)(x6:(List Int)):(f13_L2 x0 x1 x2 x3 x4).cst (x5,x6)=⟨put (put (put (put (put (put (put (put (put (put (fun _=>.junk) 46 (.int .i64 x5)) 45 (.int .i64 ((x0.1.length:Nat):Int))) 44 (.sl 0 false (x0.1.map (AV.int .i64)))) 31 (.int .i64 x2)) 30 (.int .i64 ((x3.length:Nat):Int))) 29 (.sl 4 false (x3.map eApiSelect))) 11 (.ptr 2 0)) 9 (.ptr 1 0)) 8 (.ptr 0 0)) 1 (.sl 2 false (x4.map eApiGroup)),[.cel [.row 0 3 0 x6.length],.cel [.fn 44 [.ptr 0 0],.fn 45 [.ptr 0 0]],.cel [.int .i64 x1.fOp,.int .i64 x1.fGroup,.int .i64 x1.fFrom,.int .i64 x1.fTo],.els 0 (x6.map (AV.int .i64))]⟩:=rfl
def f13_L1(x0:(List ApiSelect))(x1:(List ApiGroup)):Lp (Int×(List Int)) (((List Int))⊕(Int)) where
  body:=fun (x2,x3)=>(if (decide (x2<((x0.length:Nat):Int)))=true then (at? x0 x2).bind fun x4=>(f48 x4 x1).bind fun x5=>(if (decide (x5.2≠0))=true then (some (.brk (Sum.inr x5.2))) else (Lp.run (f13_L2 x5 x4 x2 x0 x1) (0,x3)).bind fun x6=>(some (.next ((IntKind.i64.wrap (x2 + 1)),x6)))) else (some (.brk (Sum.inl x3))))
  cst:=fun (x2,x3)=>⟨put (put (put (put (put (put (fun _=>.junk) 31 (.int .i64 x2)) 30 (.int .i64 ((x0.length:Nat):Int))) 29 (.sl 4 false (x0.map eApiSelect))) 9 (.ptr 1 0)) 8 (.ptr 0 0)) 1 (.sl 2 false (x1.map eApiGroup)),[.cel [.row 0 2 0 x3.length],.cel [.fn 44 [.ptr 0 0],.fn 45 [.ptr 0 0]],.els 0 (x3.map (AV.int .i64))]⟩
theorem f13_L1c(x0:(List ApiSelect))(x1:(List ApiGroup))(x2:Int)(x3:(List Int)):(f13_L1 x0 x1).cst (x2,x3)=⟨put (put (put (put (put (put (fun _=>.junk) 31 (.int .i64 x2)) 30 (.int .i64 ((x0.length:Nat):Int))) 29 (.sl 4 false (x0.map eApiSelect))) 9 (.ptr 1 0)) 8 (.ptr 0 0)) 1 (.sl 2 false (x1.map eApiGroup)),[.cel [.row 0 2 0 x3.length],.cel [.fn 44 [.ptr 0 0],.fn 45 [.ptr 0 0]],.els 0 (x3.map (AV.int .i64))]⟩:=rfl
def c13_1:C:=.seq (.reg [iI 18 (.mv (.t 6)),iI 19 (.bin .neq (.t 18) (.c (.int .i64 0)))]) (.cond (.t 19) (.seq (.reg [iI 20 (.mv (.t 6)),iI 4 (.mv (.c (.sl 0 true []))),iI 5 (.mv (.t 20))]) .ret) (.skip))
def c13_3:C:=.seq (.reg [iI 23 (.mv (.t 7)),iI 24 (.bin .neq (.t 23) (.c (.int .i64 0)))]) (.cond (.t 24) (.seq (.reg [iI 25 (.mv (.t 7)),iI 4 (.mv (.c (.sl 0 true []))),iI 5 (.mv (.t 25))]) .ret) (.skip))
def c13_5:C:=.reg [iI 50 (.faddr 0 (.t 11)),iI 51 (.load 0 (.t 50)),iI 52 (.aiaddr 0 2 (.t 9) (.t 51)),iI 53 (.load 0 (.t 52)),iI 54 (.mv (.t 15)),iI 55 (.call (.t 53) [(.t 54)])]
def c13_7:C:=.seq (.block 3 (.seq (.reg [iI 48 (.iaddr 0 (.t 44) (.t 46)),iI 49 (.load 0 (.t 48)),iI 15 (.mv (.t 49))]) c13_5)) (.reg [iI 56 (.bin .add (.t 46) (.c (.int .i64 1))),iI 46 (.mv (.t 56))])
def c13_10:C:=.seq (.reg [iI 44 (.mv (.t 12)),iI 45 (.len 0 (.t 44)),iI 46 (.mv (.c (.int .i64 0)))]) (.block 2 (.loop (.seq (.reg [iI 47 (.bin .lss (.t 46) (.t 45))]) (.seq (.cond (.t 47) (.skip) (.exit 2)) c13_7))))
def c13_11:C:=.seq (.seq (.reg [iI 41 (.mv (.t 13)),iI 42 (.bin .neq (.t 41) (.c (.int .i64 0)))]) (.cond (.t 42) (.seq (.reg [iI 43 (.mv (.t 13)),iI 4 (.mv (.c (.sl 0 true []))),iI 5 (.mv (.t 43))]) .ret) (.skip))) c13_10
def c13_12:C:=.seq (.reg [iI 36 (.load 4 (.t 11)),iI 37 (.mv (.t 1)),iI 38 (.call (.c (.fn 48 [])) [(.t 36),(.t 37)]),iI 35 (.mv (.t 38)),iI 39 (.ext (.t 35) 0),iI 40 (.ext (.t 35) 1),iI 12 (.mv (.t 39)),iI 13 (.mv (.t 40))]) c13_11
def c13_14:C:=.seq (.block 1 (.seq (.reg [iI 33 (.iaddr 4 (.t 29) (.t 31)),iI 34 (.load 4 (.t 33)),iI 11 (.alloc [(1,(.int .i64 0)),(1,(.int .i64 0)),(1,(.int .i64 0)),(1,(.int .i64 0))]),iN (.store 4 (.t 11) (.t 34))]) c13_12)) (.reg [iI 57 (.bin .add (.t 31) (.c (.int .i64 1))),iI 31 (.mv (.t 57))])
def c13_18:C:=.seq (.seq (.reg [iI 29 (.mv (.t 0)),iI 30 (.len 0 (.t 29)),iI 31 (.mv (.c (.int .i64 0)))]) (.block 0 (.loop (.seq (.reg [iI 32 (.bin .lss (.t 31) (.t 30))]) (.seq (.cond (.t 32) (.skip) (.exit 0)) c13_14))))) (.seq (.reg [iI 58 (.load 0 (.t 8)),iI 4 (.mv (.t 58)),iI 5 (.mv (.c (.int .i64 0)))]) .ret)
def c13_19:C:=.seq (.reg [iI 26 (.mkfn 44 [(.t 8)]),iI 27 (.mkfn 45 [(.t 8)]),iI 28 (.build [(2,.nilfn)] [(0,0,(.t 26)),(1,0,(.t 27))]),iI 9 (.alloc [(2,.nilfn)]),iN (.store 2 (.t 9) (.t 28))]) c13_18
def c13_21:C:=.seq (.seq (.reg [iI 21 (.mv (.t 1)),iI 22 (.call (.c (.fn 43 [])) [(.t 21)]),iI 7 (.mv (.t 22))]) c13_3) (.seq (.reg [iI 8 (.alloc [(1,(.sl 0 true []))])]) c13_19)
def ir13:C:=.seq (.reg [iI 4 (.mv (.c (.sl 0 true []))),iI 5 (.mv (.c (.int .i64 0)))]) (.seq (.seq (.reg [iI 16 (.mv (.t 0)),iI 17 (.call (.c (.fn 15 [])) [(.t 16)]),iI 6 (.mv (.t 17))]) c13_1) c13_21)
theorem fd13:fd? Tryz.prog 13=some (59,[.slot 4,.slot 5],ir13):=by kernel_rfl
def f13(x0:(List ApiSelect))(x1:(List ApiGroup)):Option ((List Int)×Int) :=
  (f15 x0).bind fun x2=>(if (decide (x2≠0))=true then (some ([],x2)) else (f43 x1).bind fun x3=>(if (decide (x3≠0))=true then (some ([],x3)) else ((Lp.run (f13_L1 x0 x1) (0,[])).bind fun r_=>match r_ with | (Sum.inl x4)=>(some (x4,0)) | (Sum.inr x5)=>(some ([],x5)))))
theorem f13_ok{x0:(List ApiSelect)}{x1:(List ApiGroup)}{r_:(List Int)×Int}(H:f13 x0 x1=some r_):Pure Tryz.prog 13 [.sl 4 false (x0.map eApiSelect),.sl 2 false (x1.map eApiGroup)] (· = .tup [.fr 0 (r_.1.map (AV.int .i64)),.int .i64 r_.2]):=by
 refine w3s fd13 0 fun Q hQ=>?_
 simp only[f13] at H
 refine zr ?_
 refine zq (zr ?_)
 refine pu H f15_ok ?_<;>clear H<;>intro x2 H
 refine zE0 ?_
 refine zr ?_
 refine ic H ?_ ?_<;>clear H<;>intro H
 ·refine zr ?_
  cases H
  exact zt (zv (zf0 hQ))
 ·refine zk (zm (zq (zr ?_)))
  refine pu H f43_ok ?_<;>clear H<;>intro x3 H
  refine zE0 ?_
  refine zr ?_
  refine ic H ?_ ?_<;>clear H<;>intro H
  ·refine zr ?_
   cases H
   exact zt (zv (zf0 hQ))
  ·refine zk (zm (zr ?_))
   refine zr ?_
   refine zq (zr ?_)
   refine zd ?_
   refine AW.iter H ((Le.trans (Le.nilCell (b:=0) (o:=0) (e:=0) (by rfl) (by rfl)) (Le.tz [0,1,2] [1,8,9,29,30,31] (by simp only[f13_L1c,wm,wmr,rrm,↓wk,↓wl,evV,↓reduceIte,sevalprocAttr]<;>rfl)))) ?_<;>clear H
   rintro ⟨x4,x5⟩ x_ st0_ H hst_
   rw[f13_L1c] at hst_
   simp only[f13_L1] at H
   subst hst_
   refine zr ?_
   refine zq (ic H ?_ ?_)<;>clear H<;>intro H
   ·refine zk (zm (zb (zr ?_)))
    refine ia eApiSelect H ?_<;>clear H<;>intro x6 H
    refine zE1 ?_
    refine zr ?_
    refine pu H f48_ok ?_<;>clear H<;>intro x7 H
    refine zE0 ?_
    refine zq (zr ?_)
    refine ic H ?_ ?_<;>clear H<;>intro H
    ·refine zr ?_
     refine zt (zv (zp (loopQ.ret H ?_)))<;>clear H<;>intro H
     try dsimp only at H
     cases H
     exact zh (zv (zf0 hQ))
    ·refine zk (zm (zr ?_))
     refine zd ?_
     refine zU H [0,1,3,2] [1,8,9,11,29,30,31,44,45,46] (f13_L2c ..) ?_<;>clear H
     rintro ⟨x8,x9⟩ x_ st0_ H hst_
     rw[f13_L2c] at hst_
     simp only[f13_L2] at H
     subst hst_
     refine zr ?_
     refine zq (ic H ?_ ?_)<;>clear H<;>intro H
     ·refine zk (zm (zb (zr ?_)))
      refine ia (AV.int .i64) H ?_<;>clear H<;>intro xa H
      refine zs ?_
      refine ze ?_
      refine evTs_aix (m:=0) H (by rfl) (by rfl) (by rfl) (by decide) ?_ ?_<;>clear H<;>intro H
      ·refine zs ?_
       refine evTs_inl (I:=f13_C4 x9 xa x6) (args:=[.int .i64 xa,.ptr 0 0]) H (by rfl) fd44 (by rfl) (Nat.le_of_ble_eq_true rfl) ?_ ?_<;>clear H
       ·rintro v_ Q_ H hqf13_C4
        simp only[f13_C4] at H
        dsimp only[List.length_cons,List.length_nil]
        refine zr ?_
        refine evTs_flat hFn H (fun _ h=>f28_ok h) (by rfl) (by rfl) (by simp only[deep_eq,imm_simps,imm_rowE,imm_ptrE,imm_enc,imm_mrefE,imm_mpE,imm_arowE,omap_simps,take_map_len,take_map_set,take_map_set2,List.length_set,le_refl_true,Nat.zero_add,and_true,true_and,List.drop_zero,Option.map_some,wm,↓wk,↓wl,nq,evV,↓reduceIte,sevalprocAttr];rfl) (by rfl) (fun _=>rfl) (fun _=>rfl) ?_<;>clear H<;>intro xb H
        refine zE0 ?_
        refine ic H ?_ ?_<;>clear H<;>intro H
        ·refine ze ?_
         refine ap (AV.int .i64) H ?_<;>clear H<;>intro xc H
         refine zs ?_
         cases H
         exact hqf13_C4 _ _ _ (.inl rfl) (Le.tq 4 [0,1,2,3,4] [] rfl) (by simp only[resVs,omap,resV,f13_C4,wm,wmr,rrm,↓wk,↓wl,evV,↓reduceIte,sevalprocAttr]) (by simp only[f13_C4,wm,wmr,rrm,↓wk,↓wl,evV,↓reduceIte,sevalprocAttr])
        ·refine zk ?_
         cases H
         exact hqf13_C4 _ _ _ (.inl rfl) (Le.trans (Le.moveCell 0 0 (by rfl) (by rfl) (by rfl)) (Le.tq 4 [0,1,2,3,4] [] rfl)) (by simp only[resVs,omap,resV,f13_C4,wm,wmr,rrm,↓wk,↓wl,evV,↓reduceIte,sevalprocAttr]) (by simp only[f13_C4,wm,wmr,rrm,↓wk,↓wl,evV,↓reduceIte,sevalprocAttr])
       ·rintro xd s_ h_ H hs_ hh_
        simp only[f13_C4] at H hs_ hh_
        subst hs_
        subst hh_
        refine zs ?_
        refine zo (ze ?_)
        exact zu H [0,1,2,4] [1,8,9,11,29,30,31,44,45,46] (f13_L2c ..)
      ·refine evTs_aix (m:=1) H (by rfl) (by rfl) (by rfl) (by decide) ?_ ?_<;>clear H<;>intro H
       ·refine zs ?_
        refine evTs_inl (I:=f13_C3 xa x9 x6) (args:=[.int .i64 xa,.ptr 0 0]) H (by rfl) fd45 (by rfl) (Nat.le_of_ble_eq_true rfl) ?_ ?_<;>clear H
        ·rintro v_ Q_ H hqf13_C3
         simp only[f13_C3] at H
         dsimp only[List.length_cons,List.length_nil]
         refine zr ?_
         refine ze ?_
         refine evTs_dlh (enc:=(AV.int .i64)) H [.pro [.int .i64 xa]] (fun _ _ h=>f47p_ok h) dlf46 idx90 (by rfl) (by rfl) (fun h_ hh_ x_=>by have e0_:=hh_ 4 (by decide);simp only[deep_eq,imm_simps,imm_ptrE,imm_mrefE,imm_mpE,imm_arowE,imm_encx (enc:=(AV.int .i64)),omap_simps,List.drop_zero,Option.map_some,e0_,wm,↓wk,↓wl,nq,evV,↓reduceIte,sevalprocAttr]<;>rfl) (by first | rfl | simp only[List.length_set]) (by rfl) ?_<;>clear H<;>intro xe H
         refine zs ?_
         cases H
         exact hqf13_C3 _ _ _ (.inl rfl) (Le.tq 4 [0,1,2,3,5] [] rfl) (by simp only[resVs,omap,resV,f13_C3,wm,wmr,rrm,↓wk,↓wl,evV,↓reduceIte,sevalprocAttr]) (by simp only[f13_C3,wm,wmr,rrm,↓wk,↓wl,evV,↓reduceIte,sevalprocAttr])
        ·rintro xf s_ h_ H hs_ hh_
         simp only[f13_C3] at H hs_ hh_
         subst hs_
         subst hh_
         refine zs ?_
         refine zo (ze ?_)
         exact zu H [0,1,2,4] [1,8,9,11,29,30,31,44,45,46] (f13_L2c ..)
       ·cases H
     ·refine zx (zy (loopQ.exit H ?_))<;>clear H<;>intro H
      try dsimp only at H
      refine zi (zo (ze ?_))
      exact zu H [0,1,3] [1,8,9,29,30,31] (f13_L1c ..)
   ·refine zx (zy (loopQ.exit H ?_))<;>clear H<;>intro H
    try dsimp only at H
    refine zi (zm (zr ?_))
    cases H
    exact zt (zf1 hQ)
theorem f13_im{x0:(List ApiSelect)}{x1:(List ApiGroup)}{r_:(List Int)×Int}(H:f13 x0 x1=some r_):Pure Tryz.prog 13 [.sl 4 false (x0.map eApiSelect),.sl 2 false (x1.map eApiGroup)] (· = .tup [.sl 0 false (r_.1.map (AV.int .i64)),.int .i64 r_.2]):=(f13_ok H).unfr (by first | exact enc_fits _ | simp only[frFits,List.all_cons,List.all_nil,enc_fits,Bool.and_self])
def c88_0:C:=.seq (.reg [iI 5 (.mv (.t 0)),iI 6 (.mv (.t 1)),iI 7 (.build [(1,(.int .i64 0)),(1,(.int .i64 0)),(1,(.int .i64 0)),(1,(.int .i64 0)),(1,(.int .i64 0)),(1,(.int .i64 0)),(1,(.int .i64 0)),(1,(.int .i64 0)),(1,(.bool false)),(1,(.sl 3 true []))] [(0,0,(.t 5)),(1,0,(.c (.int .i64 8))),(2,0,(.t 6)),(7,0,(.c (.int .i64 255)))]),iN (.store 10 (.t 4) (.t 7))]) .ret
def ir88:C:=.seq (.reg [iI 4 (.alloc [(1,(.int .i64 0)),(1,(.int .i64 0)),(1,(.int .i64 0)),(1,(.int .i64 0)),(1,(.int .i64 0)),(1,(.int .i64 0)),(1,(.int .i64 0)),(1,(.int .i64 0)),(1,(.bool false)),(1,(.sl 3 true []))])]) c88_0
theorem fd88:fd? Tryz.prog 88=some (8,[.cell 4 10],ir88):=by kernel_rfl
def f88(x0:Int)(x1:Int):Option (ApiFeature) :=
  (some (ApiFeature.mk x0 8 x1 0 0 0 0 255 false ([])))
theorem f88_ok{x0:Int}{x1:Int}{r_:ApiFeature}(H:f88 x0 x1=some r_):Pure Tryz.prog 88 [.int .i64 x0,.int .i64 x1] (· = .agg [.int .i64 r_.fAttr,.int .i64 r_.fBits,.int .i64 r_.fCoarse,.int .i64 r_.fFine,.int .i64 r_.fCurve,.int .i64 r_.fHome,.int .i64 r_.fLow,.int .i64 r_.fHigh,.bool r_.fSnap,.sl 3 false (r_.fWheel.map eApiSlot)]):=by
 refine w3 fd88 fun Q hQ=>?_
 simp only[f88] at H
 refine zr ?_
 refine zr ?_
 cases H
 exact zt (zf hQ)
def c42_0:C:=.seq (.reg [iI 11 (.load 4 (.t 2)),iI 12 (.mksl 4 1 (.agg [(.str []),(.int .i64 0),(.int .i64 0),(.sl 10 true [])]) [(0,(.t 11))]),iI 13 (.build [(1,(.int .i64 0)),(1,(.int .i64 0)),(1,(.str [])),(1,(.int .i64 0)),(1,(.int .i64 0)),(1,(.int .i64 0)),(1,(.str []))] [(0,0,(.c (.int .i64 5))),(1,0,(.c (.int .i64 1))),(2,0,(.c (.str [115,112,111,116]))),(3,0,(.c (.int .i64 1))),(4,0,(.c (.int .i64 1))),(5,0,(.c (.int .i64 1)))]),iI 14 (.mkslp 7 1 (.agg [(.int .i64 0),(.int .i64 0),(.str []),(.int .i64 0),(.int .i64 0),(.int .i64 0),(.str [])]) [(0,(.t 13))]),iI 15 (.build [(1,(.sl 0 true [])),(1,(.sl 4 true [])),(1,(.sl 7 true []))] [(1,0,(.t 12)),(2,0,(.t 14))]),iN (.store 3 (.t 0) (.t 15))]) .ret
def c42_1:C:=.seq (.reg [iI 3 (.mv (.t 1)),iI 4 (.call (.t 3) [(.c (.int .i64 2)),(.c (.int .i64 0))]),iI 5 (.mv (.t 1)),iI 6 (.call (.t 5) [(.c (.int .i64 1)),(.c (.int .i64 1))]),iI 7 (.mv (.t 1)),iI 8 (.call (.t 7) [(.c (.int .i64 0)),(.c (.int .i64 2))]),iI 9 (.mksl 10 3 (.agg [(.int .i64 0),(.int .i64 0),(.int .i64 0),(.int .i64 0),(.int .i64 0),(.int .i64 0),(.int .i64 0),(.int .i64 0),(.bool false),(.sl 3 true [])]) [(0,(.t 4)),(1,(.t 6)),(2,(.t 8))]),iI 10 (.build [(1,(.str [])),(1,(.int .i64 0)),(1,(.int .i64 0)),(1,(.sl 10 true []))] [(0,0,(.c (.str [115,112,111,116]))),(1,0,(.c (.int .i64 3))),(3,0,(.t 9))]),iI 2 (.alloc [(1,(.str [])),(1,(.int .i64 0)),(1,(.int .i64 0)),(1,(.sl 10 true []))]),iN (.store 4 (.t 2) (.t 10))]) c42_0
def ir42:C:=.seq (.reg [iI 0 (.alloc [(1,(.sl 0 true [])),(1,(.sl 4 true [])),(1,(.sl 7 true []))])]) (.seq (.reg [iI 1 (.mv (.c (.fn 88 [])))]) c42_1)
theorem fd42:fd? Tryz.prog 42=some (16,[.cell 0 3],ir42):=by kernel_rfl
def f42:Option (UniverseRig) :=
  (f88 2 0).bind fun x0=>(f88 1 1).bind fun x1=>(f88 0 2).bind fun x2=>(some (UniverseRig.mk ([]) ([(ApiProfile.mk ([115,112,111,116]) 3 0 ([x0,x1,x2]))]) ([(ApiFixture.mk 5 1 ([115,112,111,116]) 1 1 1 ([]))])))
theorem f42_ok{r_:UniverseRig}(H:f42=some r_):Pure Tryz.prog 42 [] (· = .agg [.sl 0 false (r_.fCurves.map (eL 2 eApiPoint)),.sl 4 false (r_.fProfiles.map eApiProfile),.sl 7 false (r_.fFixtures.map eApiFixture)]):=by
 refine w3 fd42 fun Q hQ=>?_
 simp only[f42] at H
 refine zr ?_
 refine zr ?_
 refine zr ?_
 refine pu H f88_ok ?_<;>clear H<;>intro x0 H
 try simp only[eL,eApiFeature,eM,wm,↓wk,↓wl,nq,evV,↓reduceIte,sevalprocAttr]
 refine pu H f88_ok ?_<;>clear H<;>intro x1 H
 try simp only[eL,eApiFeature,eM,wm,↓wk,↓wl,nq,evV,↓reduceIte,sevalprocAttr]
 refine pu H f88_ok ?_<;>clear H<;>intro x2 H
 try simp only[eL,eApiFeature,eM,wm,↓wk,↓wl,nq,evV,↓reduceIte,sevalprocAttr]
 refine zr ?_
 refine zt ?_
 cases H
 exact hQ _ _ _ _ (.inr rfl) (by simp only[resVs,omap,resV,wm,↓wk,↓wl,nq,evV,↓reduceIte,sevalprocAttr];rfl) (hand_plain (by rfl)) (by first | exact Or.inl rfl | exact Or.inr rfl | exact Or.inr (by simp only[ufx,List.map_cons,List.map_nil,map_unfD eApiPoint (fun _=>rfl),map_unfD eApiSlot (fun _=>rfl)];rfl))
def c130_0:C:=.seq (.reg [iI 3 (.mv (.t 0)),iI 4 (.bin .geq (.t 3) (.c (.int .i64 0))),iI 5 (.mv (.t 4)),iG (some 6) 5 true (.mv (.t 0)),iG (some 7) 5 true (.bin .leq (.t 6) (.c (.int .i64 65535))),iI 8 (.pick (.t 5) (.t 7) (.c (.bool false))),iI 2 (.mv (.t 8))]) .ret
def ir130:C:=.seq (.reg [iI 2 (.mv (.c (.bool false)))]) c130_0
theorem fd130:fd? Tryz.prog 130=some (9,[.slot 2],ir130):=by kernel_rfl
def f130(x0:Int):Option (Bool) :=
  (if (decide (0≤x0))=true then (some (decide (x0≤65535))) else (some false))
theorem f130_ok{x0:Int}{r_:Bool}(H:f130 x0=some r_):Pure Tryz.prog 130 [.int .i64 x0] (· = .bool r_):=by
 refine w3 fd130 fun Q hQ=>?_
 simp only[f130] at H
 refine zr ?_
 refine zr ?_
 refine ig H ?_ ?_<;>clear H<;>intro H
 ·refine zs ?_
  cases H
  exact zt (zf hQ)
 ·refine zs ?_
  cases H
  exact zt (zf hQ)
def f94_L1(x0:(List ApiPoint)):Lp (Int) ((Unit)⊕(Int)) where
  body:=fun x1=>(if (decide (x1<((x0.length:Nat):Int)))=true then (at? x0 x1).bind fun x2=>(f130 x2.fX).bind fun x3=>(if (!x3)=true then (some (.brk (Sum.inr 2))) else (f130 x2.fY).bind fun x4=>(if (!x4)=true then (some (.brk (Sum.inr 2))) else (if (decide (0<x1))=true then (at? x0 (IntKind.i64.wrap (x1 - 1))).bind fun x5=>(if (decide (x2.fX≤x5.fX))=true then (some (.brk (Sum.inr 9))) else (some (.next (IntKind.i64.wrap (x1 + 1))))) else (some (.next (IntKind.i64.wrap (x1 + 1))))))) else (some (.brk (Sum.inl ()))))
  cst:=fun x1=>⟨put (put (put (put (fun _=>.junk) 15 (.int .i64 x1)) 14 (.int .i64 ((x0.length:Nat):Int))) 13 (.sl 2 false (x0.map eApiPoint))) 0 (.sl 2 false (x0.map eApiPoint)),[]⟩
theorem f94_L1c(x0:(List ApiPoint))(x1:Int):(f94_L1 x0).cst x1=⟨put (put (put (put (fun _=>.junk) 15 (.int .i64 x1)) 14 (.int .i64 ((x0.length:Nat):Int))) 13 (.sl 2 false (x0.map eApiPoint))) 0 (.sl 2 false (x0.map eApiPoint)),[]⟩:=rfl
def c94_1:C:=.cond (.t 5) (.seq (.reg [iI 2 (.mv (.c (.int .i64 14)))]) .ret) (.seq (.reg [iI 10 (.mv (.t 0)),iI 11 (.len 0 (.t 10)),iI 12 (.bin .gtr (.t 11) (.c (.int .i64 16))),iI 9 (.mv (.t 12))]) (.cond (.t 9) (.seq (.reg [iI 2 (.mv (.c (.int .i64 5)))]) .ret) (.skip)))
def c94_4:C:=.seq (.reg [iI 30 (.mv (.t 3)),iI 31 (.bin .gtr (.t 30) (.c (.int .i64 0))),iI 32 (.mv (.t 31)),iG (some 33) 32 true (.faddr 0 (.t 4)),iG (some 34) 32 true (.load 0 (.t 33)),iG (some 35) 32 true (.mv (.t 0)),iG (some 36) 32 true (.mv (.t 3)),iG (some 37) 32 true (.bin .sub (.t 36) (.c (.int .i64 1))),iG (some 38) 32 true (.iaddr 2 (.t 35) (.t 37)),iG (some 39) 32 true (.faddr 0 (.t 38)),iG (some 40) 32 true (.load 0 (.t 39)),iG (some 41) 32 true (.bin .leq (.t 34) (.t 40)),iI 42 (.pick (.t 32) (.t 41) (.c (.bool false)))]) (.cond (.t 42) (.seq (.reg [iI 2 (.mv (.c (.int .i64 9)))]) .ret) (.skip))
def c94_5:C:=.seq (.seq (.reg [iI 20 (.faddr 0 (.t 4)),iI 21 (.load 0 (.t 20)),iI 22 (.call (.c (.fn 130 [])) [(.t 21)]),iI 23 (.un .not (.t 22)),iI 24 (.mv (.t 23)),iG (some 25) 24 false (.faddr 1 (.t 4)),iG (some 26) 24 false (.load 0 (.t 25)),iG (some 27) 24 false (.call (.c (.fn 130 [])) [(.t 26)]),iG (some 28) 24 false (.un .not (.t 27)),iI 29 (.pick (.t 24) (.c (.bool true)) (.t 28))]) (.cond (.t 29) (.seq (.reg [iI 2 (.mv (.c (.int .i64 2)))]) .ret) (.skip))) c94_4
def c94_7:C:=.seq (.block 2 (.seq (.reg [iI 17 (.mv (.t 15)),iI 18 (.iaddr 2 (.t 13) (.t 15)),iI 19 (.load 2 (.t 18)),iI 4 (.alloc [(1,(.int .i64 0)),(1,(.int .i64 0))]),iI 3 (.mv (.t 17)),iN (.store 2 (.t 4) (.t 19))]) c94_5)) (.reg [iI 43 (.bin .add (.t 15) (.c (.int .i64 1))),iI 15 (.mv (.t 43))])
def c94_12:C:=.seq (.seq (.reg [iI 44 (.mv (.t 0)),iI 45 (.iaddr 2 (.t 44) (.c (.int .i64 0))),iI 46 (.faddr 0 (.t 45)),iI 47 (.load 0 (.t 46)),iI 48 (.bin .neq (.t 47) (.c (.int .i64 0))),iI 49 (.mv (.t 48)),iG (some 50) 49 false (.mv (.t 0)),iG (some 51) 49 false (.mv (.t 0)),iG (some 52) 49 false (.len 0 (.t 51)),iG (some 53) 49 false (.bin .sub (.t 52) (.c (.int .i64 1))),iG (some 54) 49 false (.iaddr 2 (.t 50) (.t 53)),iG (some 55) 49 false (.faddr 0 (.t 54)),iG (some 56) 49 false (.load 0 (.t 55)),iG (some 57) 49 false (.bin .neq (.t 56) (.c (.int .i64 65535))),iI 58 (.pick (.t 49) (.c (.bool true)) (.t 57))]) (.cond (.t 58) (.seq (.reg [iI 2 (.mv (.c (.int .i64 14)))]) .ret) (.skip))) (.seq (.reg [iI 2 (.mv (.c (.int .i64 0)))]) .ret)
def c94_13:C:=.seq (.seq (.reg [iI 13 (.mv (.t 0)),iI 14 (.len 0 (.t 13)),iI 15 (.mv (.c (.int .i64 0)))]) (.block 1 (.loop (.seq (.reg [iI 16 (.bin .lss (.t 15) (.t 14))]) (.seq (.cond (.t 16) (.skip) (.exit 1)) c94_7))))) c94_12
def ir94:C:=.seq (.reg [iI 2 (.mv (.c (.int .i64 0)))]) (.seq (.block 0 (.seq (.reg [iI 6 (.mv (.t 0)),iI 7 (.len 0 (.t 6)),iI 8 (.bin .lss (.t 7) (.c (.int .i64 2))),iI 5 (.mv (.t 8))]) c94_1)) c94_13)
theorem fd94:fd? Tryz.prog 94=some (59,[.slot 2],ir94):=by kernel_rfl
def f94(x0:(List ApiPoint)):Option (Int) :=
  (if (decide (((x0.length:Nat):Int)<2))=true then (some 14) else (if (decide (16<((x0.length:Nat):Int)))=true then (some 5) else ((Lp.run (f94_L1 x0) 0).bind fun r_=>match r_ with | (Sum.inl _)=>(at? x0 0).bind fun x1=>(if (decide (x1.fX≠0))=true then (some 14) else (at? x0 (IntKind.i64.wrap (((x0.length:Nat):Int) - 1))).bind fun x2=>(if (decide (x2.fX≠65535))=true then (some 14) else (some 0))) | (Sum.inr x3)=>(some x3))))
theorem f94_ok{x0:(List ApiPoint)}{r_:Int}(H:f94 x0=some r_):Pure Tryz.prog 94 [.sl 2 false (x0.map eApiPoint)] (· = .int .i64 r_):=by
 refine w3 fd94 fun Q hQ=>?_
 simp only[f94] at H
 refine zr ?_
 refine zb (zr ?_)
 refine ic H ?_ ?_<;>clear H<;>intro H
 ·refine zr ?_
  cases H
  exact zt (zp (zf hQ))
 ·refine zr ?_
  refine ic H ?_ ?_<;>clear H<;>intro H
  ·refine zr ?_
   cases H
   exact zt (zp (zf hQ))
  ·refine zk (zo (zq (zr ?_)))
   refine zd ?_
   refine zU H [] [0,13,14,15] (f94_L1c ..) ?_<;>clear H
   rintro x1 x_ st0_ H hst_
   rw[f94_L1c] at hst_
   simp only[f94_L1] at H
   subst hst_
   refine zr ?_
   refine zq (ic H ?_ ?_)<;>clear H<;>intro H
   ·refine zk (zm (zb (zr ?_)))
    refine ia eApiPoint H ?_<;>clear H<;>intro x2 H
    refine zE3 ?_
    refine zq (zr ?_)
    refine pu H f130_ok ?_<;>clear H<;>intro x3 H
    refine zE0 ?_
    refine ig H ?_ ?_<;>clear H<;>intro H
    ·refine zs ?_
     refine za (zr ?_)
     refine zt (zv (zp (loopQ.ret H ?_)))<;>clear H<;>intro H
     try dsimp only at H
     cases H
     exact zh (zv (zf hQ))
    ·refine zs ?_
     refine pu H f130_ok ?_<;>clear H<;>intro x4 H
     refine zE0 ?_
     refine ic H ?_ ?_<;>clear H<;>intro H
     ·refine zr ?_
      refine zt (zv (zp (loopQ.ret H ?_)))<;>clear H<;>intro H
      try dsimp only at H
      cases H
      exact zh (zv (zf hQ))
     ·refine zk (zm (zr ?_))
      refine ig H ?_ ?_<;>clear H<;>intro H
      ·refine zs ?_
       refine ia eApiPoint H ?_<;>clear H<;>intro x5 H
       refine zE3 ?_
       refine ic H ?_ ?_<;>clear H<;>intro H
       ·refine zr ?_
        refine zt (zp (loopQ.ret H ?_))<;>clear H<;>intro H
        try dsimp only at H
        cases H
        exact zh (zv (zf hQ))
       ·refine zk (zo (ze ?_))
        exact zu H [] [0,13,14,15] (f94_L1c ..)
      ·refine zs ?_
       refine zc (zk (zo (ze ?_)))
       exact zu H [] [0,13,14,15] (f94_L1c ..)
   ·refine zx (zy (loopQ.exit H ?_))<;>clear H<;>intro H
    try dsimp only at H
    refine zi (zm (zq (zr ?_)))
    refine ia eApiPoint H ?_<;>clear H<;>intro x6 H
    refine zE3 ?_
    refine ig H ?_ ?_<;>clear H<;>intro H
    ·refine zs ?_
     refine za (zr ?_)
     cases H
     exact zt (zv (zf hQ))
    ·refine zs ?_
     refine ia eApiPoint H ?_<;>clear H<;>intro x7 H
     refine zE3 ?_
     refine ic H ?_ ?_<;>clear H<;>intro H
     ·refine zr ?_
      cases H
      exact zt (zv (zf hQ))
     ·refine zk (zm (zr ?_))
      cases H
      exact zt (zf hQ)
def f131_L1(x0:(List (List ApiPoint))):Lp (Int) ((Unit)⊕(Int)) where
  body:=fun x1=>(if (decide (x1<((x0.length:Nat):Int)))=true then (at? x0 x1).bind fun x2=>(f94 x2).bind fun x3=>(if (decide (x3≠0))=true then (some (.brk (Sum.inr x3))) else (some (.next (IntKind.i64.wrap (x1 + 1))))) else (some (.brk (Sum.inl ()))))
  cst:=fun x1=>⟨put (put (put (fun _=>.junk) 11 (.int .i64 x1)) 10 (.int .i64 ((x0.length:Nat):Int))) 9 (.sl 0 false (x0.map (eL 2 eApiPoint))),[]⟩
theorem f131_L1c(x0:(List (List ApiPoint)))(x1:Int):(f131_L1 x0).cst x1=⟨put (put (put (fun _=>.junk) 11 (.int .i64 x1)) 10 (.int .i64 ((x0.length:Nat):Int))) 9 (.sl 0 false (x0.map (eL 2 eApiPoint))),[]⟩:=rfl
def c131_2:C:=.seq (.reg [iI 17 (.mv (.t 5)),iI 18 (.bin .neq (.t 17) (.c (.int .i64 0)))]) (.cond (.t 18) (.seq (.reg [iI 19 (.mv (.t 5)),iI 2 (.mv (.t 19))]) .ret) (.skip))
def c131_5:C:=.seq (.block 1 (.seq (.reg [iI 13 (.iaddr 0 (.t 9) (.t 11)),iI 14 (.load 0 (.t 13)),iI 4 (.mv (.t 14))]) (.seq (.reg [iI 15 (.mv (.t 4)),iI 16 (.call (.c (.fn 94 [])) [(.t 15)]),iI 5 (.mv (.t 16))]) c131_2))) (.reg [iI 20 (.bin .add (.t 11) (.c (.int .i64 1))),iI 11 (.mv (.t 20))])
def c131_9:C:=.seq (.seq (.reg [iI 9 (.mv (.t 0)),iI 10 (.len 0 (.t 9)),iI 11 (.mv (.c (.int .i64 0)))]) (.block 0 (.loop (.seq (.reg [iI 12 (.bin .lss (.t 11) (.t 10))]) (.seq (.cond (.t 12) (.skip) (.exit 0)) c131_5))))) (.seq (.reg [iI 2 (.mv (.c (.int .i64 0)))]) .ret)
def c131_10:C:=.seq (.seq (.reg [iI 6 (.mv (.t 0)),iI 7 (.len 0 (.t 6)),iI 8 (.bin .gtr (.t 7) (.c (.int .i64 16)))]) (.cond (.t 8) (.seq (.reg [iI 2 (.mv (.c (.int .i64 5)))]) .ret) (.skip))) c131_9
def ir131:C:=.seq (.reg [iI 2 (.mv (.c (.int .i64 0)))]) c131_10
theorem fd131:fd? Tryz.prog 131=some (21,[.slot 2],ir131):=by kernel_rfl
def f131(x0:(List (List ApiPoint))):Option (Int) :=
  (if (decide (16<((x0.length:Nat):Int)))=true then (some 5) else ((Lp.run (f131_L1 x0) 0).bind fun r_=>match r_ with | (Sum.inl _)=>(some 0) | (Sum.inr x1)=>(some x1)))
theorem f131_ok{x0:(List (List ApiPoint))}{r_:Int}(H:f131 x0=some r_):Pure Tryz.prog 131 [.sl 0 false (x0.map (eL 2 eApiPoint))] (· = .int .i64 r_):=by
 refine w3 fd131 fun Q hQ=>?_
 simp only[f131] at H
 refine zr ?_
 refine zq (zr ?_)
 refine ic H ?_ ?_<;>clear H<;>intro H
 ·refine zr ?_
  cases H
  exact zt (zv (zf hQ))
 ·refine zk (zm (zq (zr ?_)))
  refine zd ?_
  refine zU H [] [9,10,11] (f131_L1c ..) ?_<;>clear H
  rintro x1 x_ st0_ H hst_
  rw[f131_L1c] at hst_
  simp only[f131_L1] at H
  subst hst_
  refine zr ?_
  refine zq (ic H ?_ ?_)<;>clear H<;>intro H
  ·refine zk (zm (zb (zr ?_)))
   refine ia (eL 2 eApiPoint) H ?_<;>clear H<;>intro x2 H
   refine zE0 ?_
   refine zr ?_
   refine pu H f94_ok ?_<;>clear H<;>intro x3 H
   refine zE0 ?_
   refine zr ?_
   refine ic H ?_ ?_<;>clear H<;>intro H
   ·refine zr ?_
    refine zt (zp (loopQ.ret H ?_))<;>clear H<;>intro H
    try dsimp only at H
    cases H
    exact zh (zv (zf hQ))
   ·refine zk (zo (ze ?_))
    exact zu H [] [9,10,11] (f131_L1c ..)
  ·refine zx (zy (loopQ.exit H ?_))<;>clear H<;>intro H
   try dsimp only at H
   refine zi (zm (zr ?_))
   cases H
   exact zt (zf hQ)
def f184(s cs:List UInt8):Option (List UInt8):=trim? s cs
theorem f184_ok{s cs r_:List UInt8}(H:f184 s cs=some r_):Pure Tryz.prog 184 [.str s,.str cs] (· = .str r_):=trim_pure trims184 H
def c134_1:C:=.seq (.reg [iI 20 (.mv (.t 0)),iI 21 (.call (.c (.fn 184 [])) [(.t 20),(.c (.str [97,98,99,100,101,102,103,104,105,106,107,108,109,110,111,112,113,114,115,116,117,118,119,120,121,122,48,49,50,51,52,53,54,55,56,57,95]))]),iI 22 (.bin .eql (.t 21) (.c (.str []))),iI 2 (.mv (.t 22))]) .ret
def c134_2:C:=.seq (.seq (.reg [iI 3 (.mv (.t 0)),iI 4 (.bin .eql (.t 3) (.c (.str []))),iI 5 (.mv (.t 4)),iG (some 6) 5 false (.mv (.t 0)),iG (some 7) 5 false (.len 1 (.t 6)),iG (some 8) 5 false (.bin .gtr (.t 7) (.c (.int .i64 24))),iI 9 (.pick (.t 5) (.c (.bool true)) (.t 8)),iI 10 (.mv (.t 9)),iG (some 11) 10 false (.mv (.t 0)),iG (some 12) 10 false (.sidx (.t 11) (.c (.int .i64 0))),iG (some 13) 10 false (.bin .lss (.t 12) (.c (.int .u8 97))),iI 14 (.pick (.t 10) (.c (.bool true)) (.t 13)),iI 15 (.mv (.t 14)),iG (some 16) 15 false (.mv (.t 0)),iG (some 17) 15 false (.sidx (.t 16) (.c (.int .i64 0))),iG (some 18) 15 false (.bin .gtr (.t 17) (.c (.int .u8 122))),iI 19 (.pick (.t 15) (.c (.bool true)) (.t 18))]) (.cond (.t 19) (.seq (.reg [iI 2 (.mv (.c (.bool false)))]) .ret) (.skip))) c134_1
def ir134:C:=.seq (.reg [iI 2 (.mv (.c (.bool false)))]) c134_2
theorem fd134:fd? Tryz.prog 134=some (23,[.slot 2],ir134):=by kernel_rfl
def f134(x0:(List UInt8)):Option (Bool) :=
  (if (x0 == ([]))=true then (some false) else (if (decide (24<((x0.length:Nat):Int)))=true then (some false) else (at? x0 0).bind fun x1=>(if (decide ((x1.toNat:Int)<97))=true then (some false) else (at? x0 0).bind fun x2=>(if (decide (122<(x2.toNat:Int)))=true then (some false) else (f184 x0 ([97,98,99,100,101,102,103,104,105,106,107,108,109,110,111,112,113,114,115,116,117,118,119,120,121,122,48,49,50,51,52,53,54,55,56,57,95])).bind fun x3=>(some (x3 == ([])))))))
theorem f134_ok{x0:(List UInt8)}{r_:Bool}(H:f134 x0=some r_):Pure Tryz.prog 134 [.str x0] (· = .bool r_):=by
 refine w3 fd134 fun Q hQ=>?_
 simp only[f134] at H
 refine zr ?_
 refine zq (zr ?_)
 refine ig H ?_ ?_<;>clear H<;>intro H
 ·refine zs ?_
  refine za (zr ?_)
  cases H
  exact zt (zv (zf hQ))
 ·refine zs ?_
  refine ig H ?_ ?_<;>clear H<;>intro H
  ·refine zs ?_
   refine za (zr ?_)
   cases H
   exact zt (zv (zf hQ))
  ·refine zs ?_
   refine ib H ?_<;>clear H<;>intro x1 H
   refine zs ?_
   refine ig H ?_ ?_<;>clear H<;>intro H
   ·refine zs ?_
    refine za (zr ?_)
    cases H
    exact zt (zv (zf hQ))
   ·refine zs ?_
    refine ib H ?_<;>clear H<;>intro x2 H
    refine zs ?_
    refine ic H ?_ ?_<;>clear H<;>intro H
    ·refine zr ?_
     cases H
     exact zt (zv (zf hQ))
    ·refine zk (zm (zr ?_))
     refine pu H f184_ok ?_<;>clear H<;>intro x3 H
     refine zE0 ?_
     cases H
     exact zt (zf hQ)
def ir133:C:=.seq (.reg [iI 1 (.mv (.c (.bool false)))]) (.seq (.reg [iI 2 (.faddr 0 (.t 0)),iI 3 (.load 0 (.t 2)),iI 4 (.call (.c (.fn 134 [])) [(.t 3)]),iI 5 (.un .not (.t 4)),iI 1 (.mv (.t 5))]) .ret)
theorem fd133:fd? Tryz.prog 133=some (6,[.slot 1],ir133):=by kernel_rfl
def f133p(x0:(List UInt8))(x1:Int)(x2:Int)(x3:(List ApiFeature)):Option (Bool) :=
  (f134 x0).bind fun x4=>(some (!x4))
theorem f133p_ok{x0:(List UInt8)}{x1:Int}{x2:Int}{x3:(List ApiFeature)}{r_:Bool}(H:f133p x0 x1 x2 x3=some r_):Pure Tryz.prog 133 [.pro [.str x0,.int .i64 x1,.int .i64 x2,.sl 10 false (x3.map eApiFeature)]] (· = .bool r_):=by
 refine w3 fd133 fun Q hQ=>?_
 simp only[f133p] at H
 refine zr ?_
 refine zr ?_
 refine pu H f134_ok ?_<;>clear H<;>intro x4 H
 refine zE0 ?_
 cases H
 exact zt (zf hQ)
def c135_0:C:=.seq (.reg [iI 2 (.faddr 1 (.t 0)),iI 3 (.load 0 (.t 2)),iI 4 (.bin .lss (.t 3) (.c (.int .i64 1))),iI 5 (.mv (.t 4)),iG (some 6) 5 false (.faddr 1 (.t 0)),iG (some 7) 5 false (.load 0 (.t 6)),iG (some 8) 5 false (.bin .gtr (.t 7) (.c (.int .i64 512))),iI 9 (.pick (.t 5) (.c (.bool true)) (.t 8)),iI 1 (.mv (.t 9))]) .ret
def ir135:C:=.seq (.reg [iI 1 (.mv (.c (.bool false)))]) c135_0
theorem fd135:fd? Tryz.prog 135=some (10,[.slot 1],ir135):=by kernel_rfl
def f135p(x0:(List UInt8))(x1:Int)(x2:Int)(x3:(List ApiFeature)):Option (Bool) :=
  (if (decide (x1<1))=true then (some true) else (some (decide (512<x1))))
theorem f135p_ok{x0:(List UInt8)}{x1:Int}{x2:Int}{x3:(List ApiFeature)}{r_:Bool}(H:f135p x0 x1 x2 x3=some r_):Pure Tryz.prog 135 [.pro [.str x0,.int .i64 x1,.int .i64 x2,.sl 10 false (x3.map eApiFeature)]] (· = .bool r_):=by
 refine w3 fd135 fun Q hQ=>?_
 simp only[f135p] at H
 refine zr ?_
 refine zr ?_
 refine ig H ?_ ?_<;>clear H<;>intro H
 ·refine zs ?_
  cases H
  exact zt (zf hQ)
 ·refine zs ?_
  cases H
  exact zt (zf hQ)
def c136_0:C:=.seq (.reg [iI 2 (.faddr 2 (.t 0)),iI 3 (.load 0 (.t 2)),iI 4 (.bin .lss (.t 3) (.c (.int .i64 0))),iI 5 (.mv (.t 4)),iG (some 6) 5 false (.faddr 2 (.t 0)),iG (some 7) 5 false (.load 0 (.t 6)),iG (some 8) 5 false (.bin .gtr (.t 7) (.c (.int .i64 1048576))),iI 9 (.pick (.t 5) (.c (.bool true)) (.t 8)),iI 1 (.mv (.t 9))]) .ret
def ir136:C:=.seq (.reg [iI 1 (.mv (.c (.bool false)))]) c136_0
theorem fd136:fd? Tryz.prog 136=some (10,[.slot 1],ir136):=by kernel_rfl
def f136p(x0:(List UInt8))(x1:Int)(x2:Int)(x3:(List ApiFeature)):Option (Bool) :=
  (if (decide (x2<0))=true then (some true) else (some (decide (1048576<x2))))
theorem f136p_ok{x0:(List UInt8)}{x1:Int}{x2:Int}{x3:(List ApiFeature)}{r_:Bool}(H:f136p x0 x1 x2 x3=some r_):Pure Tryz.prog 136 [.pro [.str x0,.int .i64 x1,.int .i64 x2,.sl 10 false (x3.map eApiFeature)]] (· = .bool r_):=by
 refine w3 fd136 fun Q hQ=>?_
 simp only[f136p] at H
 refine zr ?_
 refine zr ?_
 refine ig H ?_ ?_<;>clear H<;>intro H
 ·refine zs ?_
  cases H
  exact zt (zf hQ)
 ·refine zs ?_
  cases H
  exact zt (zf hQ)
def ir137:C:=.seq (.reg [iI 1 (.mv (.c (.bool false)))]) (.seq (.reg [iI 2 (.faddr 3 (.t 0)),iI 3 (.load 0 (.t 2)),iI 4 (.len 0 (.t 3)),iI 5 (.bin .gtr (.t 4) (.c (.int .i64 16))),iI 1 (.mv (.t 5))]) .ret)
theorem fd137:fd? Tryz.prog 137=some (6,[.slot 1],ir137):=by kernel_rfl
def f137p(x0:(List UInt8))(x1:Int)(x2:Int)(x3:(List ApiFeature)):Option (Bool) :=
  (some (decide (16<((x3.length:Nat):Int))))
theorem f137p_ok{x0:(List UInt8)}{x1:Int}{x2:Int}{x3:(List ApiFeature)}{r_:Bool}(H:f137p x0 x1 x2 x3=some r_):Pure Tryz.prog 137 [.pro [.str x0,.int .i64 x1,.int .i64 x2,.sl 10 false (x3.map eApiFeature)]] (· = .bool r_):=by
 refine w3 fd137 fun Q hQ=>?_
 simp only[f137p] at H
 refine zr ?_
 refine zr ?_
 cases H
 exact zt (zf hQ)
def c132_1:C:=.seq (.reg [iI 11 (.faddr 0 (.t 4)),iI 12 (.load 0 (.t 11)),iI 13 (.call (.t 12) [])]) (.cond (.t 13) (.seq (.reg [iI 14 (.faddr 1 (.t 4)),iI 15 (.load 0 (.t 14)),iI 2 (.mv (.t 15))]) .ret) (.skip))
def c132_3:C:=.seq (.block 1 (.seq (.reg [iI 9 (.iaddr 2 (.t 5) (.t 7)),iI 10 (.load 2 (.t 9)),iI 4 (.alloc [(1,.nilfn),(1,(.int .i64 0))]),iN (.store 2 (.t 4) (.t 10))]) c132_1)) (.reg [iI 16 (.bin .add (.t 7) (.c (.int .i64 1))),iI 7 (.mv (.t 16))])
def c132_7:C:=.seq (.seq (.reg [iI 5 (.mv (.t 0)),iI 6 (.len 0 (.t 5)),iI 7 (.mv (.c (.int .i64 0)))]) (.block 0 (.loop (.seq (.reg [iI 8 (.bin .lss (.t 7) (.t 6))]) (.seq (.cond (.t 8) (.skip) (.exit 0)) c132_3))))) (.seq (.reg [iI 2 (.mv (.c (.int .i64 0)))]) .ret)
def ir132:C:=.seq (.reg [iI 2 (.mv (.c (.int .i64 0)))]) c132_7
theorem fd132:fd? Tryz.prog 132=some (17,[.slot 2],ir132):=by kernel_rfl
def f95_C1(x0:ApiProfile):Il (Int) where
  run:=(f133p x0.fName x0.fFootprint x0.fWatts x0.fFeatures).bind fun x1=>(if x1=true then (some 8) else (f135p x0.fName x0.fFootprint x0.fWatts x0.fFeatures).bind fun x2=>(if x2=true then (some 2) else (f136p x0.fName x0.fFootprint x0.fWatts x0.fFeatures).bind fun x3=>(if x3=true then (some 2) else (f137p x0.fName x0.fFootprint x0.fWatts x0.fFeatures).bind fun x4=>(if x4=true then (some 5) else (some 0)))))
  res:=fun x5=>.int .i64 x5
  hp:=fun x5=>[.cel [.str x0.fName,.int .i64 x0.fFootprint,.int .i64 x0.fWatts,.sl 10 false (x0.fFeatures.map eApiFeature)],.els 2 [.agg [.fn 133 [.ptr 0 0],.int .i64 8],.agg [.fn 135 [.ptr 0 0],.int .i64 2],.agg [.fn 136 [.ptr 0 0],.int .i64 2],.agg [.fn 137 [.ptr 0 0],.int .i64 5]]]
def c185_0:C:=.seq (.reg [iI 2 (.faddr 0 (.t 0)),iI 3 (.load 0 (.t 2)),iI 4 (.bin .lss (.t 3) (.c (.int .i64 0))),iI 5 (.mv (.t 4)),iG (some 6) 5 false (.faddr 0 (.t 0)),iG (some 7) 5 false (.load 0 (.t 6)),iG (some 8) 5 false (.bin .geq (.t 7) (.c (.int .i64 15))),iI 9 (.pick (.t 5) (.c (.bool true)) (.t 8)),iI 1 (.mv (.t 9))]) .ret
def ir185:C:=.seq (.reg [iI 1 (.mv (.c (.bool false)))]) c185_0
theorem fd185:fd? Tryz.prog 185=some (10,[.slot 1],ir185):=by kernel_rfl
def f185p(x0:Int)(x1:Int)(x2:Int)(x3:Int)(x4:Int)(x5:Int)(x6:Int)(x7:Int)(x8:Bool)(x9:(List ApiSlot)):Option (Bool) :=
  (if (decide (x0<0))=true then (some true) else (some (decide (15≤x0))))
theorem f185p_ok{x0:Int}{x1:Int}{x2:Int}{x3:Int}{x4:Int}{x5:Int}{x6:Int}{x7:Int}{x8:Bool}{x9:(List ApiSlot)}{r_:Bool}(H:f185p x0 x1 x2 x3 x4 x5 x6 x7 x8 x9=some r_):Pure Tryz.prog 185 [.pro [.int .i64 x0,.int .i64 x1,.int .i64 x2,.int .i64 x3,.int .i64 x4,.int .i64 x5,.int .i64 x6,.int .i64 x7,.bool x8,.sl 3 false (x9.map eApiSlot)]] (· = .bool r_):=by
 refine w3 fd185 fun Q hQ=>?_
 simp only[f185p] at H
 refine zr ?_
 refine zr ?_
 refine ig H ?_ ?_<;>clear H<;>intro H
 ·refine zs ?_
  cases H
  exact zt (zf hQ)
 ·refine zs ?_
  cases H
  exact zt (zf hQ)
def ir186:C:=.seq (.reg [iI 2 (.mv (.c (.bool false)))]) (.seq (.reg [iI 3 (.load 0 (.t 0)),iI 4 (.faddr 0 (.t 1)),iI 5 (.load 0 (.t 4)),iI 6 (.lookup 0 (.bool false) false (.t 3) (.t 5)),iI 2 (.mv (.t 6))]) .ret)
theorem fd186:fd? Tryz.prog 186=some (7,[.slot 2],ir186):=by kernel_rfl
def f186p(x0:(List (Int×Bool)))(x1:Int)(x2:Int)(x3:Int)(x4:Int)(x5:Int)(x6:Int)(x7:Int)(x8:Int)(x9:Bool)(xa:(List ApiSlot)):Option (Bool) :=
  (look? (x0:(List (Int×Bool))) x1 (false:Bool) fun xb xc=>(some xb))
theorem f186p_ok{x0:(List (Int×Bool))}{x1:Int}{x2:Int}{x3:Int}{x4:Int}{x5:Int}{x6:Int}{x7:Int}{x8:Int}{x9:Bool}{xa:(List ApiSlot)}{r_:Bool}(H:f186p x0 x1 x2 x3 x4 x5 x6 x7 x8 x9 xa=some r_):Pure Tryz.prog 186 [.pro [.mp (mk (AV.int .i64) x0) (mv AV.bool x0)],.pro [.int .i64 x1,.int .i64 x2,.int .i64 x3,.int .i64 x4,.int .i64 x5,.int .i64 x6,.int .i64 x7,.int .i64 x8,.bool x9,.sl 3 false (xa.map eApiSlot)]] (· = .bool r_):=by
 refine w3 fd186 fun Q hQ=>?_
 simp only[f186p] at H
 refine zr ?_
 refine zr ?_
 refine evTs_lookP (ek:=(AV.int .i64)) (ev:=AV.bool) H false (by rfl) (by rfl) (by rfl) ?_<;>clear H<;>intro xb xc H
 refine zs ?_
 cases H
 exact zt (zf hQ)
def c188_2:C:=.seq (.seq (.reg [iI 3 (.faddr 1 (.t 1)),iI 4 (.load 0 (.t 3)),iI 5 (.bin .neq (.t 4) (.c (.int .i64 8))),iI 6 (.mv (.t 5)),iG (some 7) 6 true (.faddr 1 (.t 1)),iG (some 8) 6 true (.load 0 (.t 7)),iG (some 9) 6 true (.bin .neq (.t 8) (.c (.int .i64 16))),iI 10 (.pick (.t 6) (.t 9) (.c (.bool false)))]) (.cond (.t 10) (.seq (.reg [iI 2 (.mv (.c (.int .i64 1)))]) .ret) (.skip))) (.seq (.reg [iI 2 (.mv (.c (.int .i64 0)))]) .ret)
def ir188:C:=.seq (.reg [iI 1 (.box (.t 0)),iI 2 (.mv (.c (.int .i64 0)))]) c188_2
theorem fd188:fd? Tryz.prog 188=some (11,[.slot 2],ir188):=by kernel_rfl
def f188(x0:ApiFeature):Option (Int) :=
  (if (decide (x0.fBits≠8))=true then (if (decide (x0.fBits≠16))=true then (some 1) else (some 0)) else (some 0))
theorem f188_ok{x0:ApiFeature}{r_:Int}(H:f188 x0=some r_):Pure Tryz.prog 188 [.agg [.int .i64 x0.fAttr,.int .i64 x0.fBits,.int .i64 x0.fCoarse,.int .i64 x0.fFine,.int .i64 x0.fCurve,.int .i64 x0.fHome,.int .i64 x0.fLow,.int .i64 x0.fHigh,.bool x0.fSnap,.sl 3 false (x0.fWheel.map eApiSlot)]] (· = .int .i64 r_):=by
 refine w3 fd188 fun Q hQ=>?_
 simp only[f188] at H
 refine zr ?_
 refine zq (zr ?_)
 refine ig H ?_ ?_<;>clear H<;>intro H
 ·refine zs ?_
  refine ic H ?_ ?_<;>clear H<;>intro H
  ·refine zr ?_
   cases H
   exact zt (zv (zf hQ))
  ·refine zk (zm (zr ?_))
   cases H
   exact zt (zf hQ)
 ·refine zs ?_
  refine zc (zk (zm (zr ?_)))
  cases H
  exact zt (zf hQ)
def ir187:C:=.seq (.reg [iI 1 (.mv (.c (.bool false)))]) (.seq (.reg [iI 2 (.load 10 (.t 0)),iI 3 (.call (.c (.fn 188 [])) [(.t 2)]),iI 4 (.bin .neq (.t 3) (.c (.int .i64 0))),iI 1 (.mv (.t 4))]) .ret)
theorem fd187:fd? Tryz.prog 187=some (5,[.slot 1],ir187):=by kernel_rfl
def f187p(x0:Int)(x1:Int)(x2:Int)(x3:Int)(x4:Int)(x5:Int)(x6:Int)(x7:Int)(x8:Bool)(x9:(List ApiSlot)):Option (Bool) :=
  (f188 (ApiFeature.mk x0 x1 x2 x3 x4 x5 x6 x7 x8 x9)).bind fun xa=>(some (decide (xa≠0)))
theorem f187p_ok{x0:Int}{x1:Int}{x2:Int}{x3:Int}{x4:Int}{x5:Int}{x6:Int}{x7:Int}{x8:Bool}{x9:(List ApiSlot)}{r_:Bool}(H:f187p x0 x1 x2 x3 x4 x5 x6 x7 x8 x9=some r_):Pure Tryz.prog 187 [.pro [.int .i64 x0,.int .i64 x1,.int .i64 x2,.int .i64 x3,.int .i64 x4,.int .i64 x5,.int .i64 x6,.int .i64 x7,.bool x8,.sl 3 false (x9.map eApiSlot)]] (· = .bool r_):=by
 refine w3 fd187 fun Q hQ=>?_
 simp only[f187p] at H
 refine zr ?_
 refine zr ?_
 refine pu H f188_ok ?_<;>clear H<;>intro xa H
 refine zE0 ?_
 cases H
 exact zt (zf hQ)
def c191_0:C:=.cond (.t 5) (.seq (.reg [iI 6 (.faddr 2 (.t 1)),iI 7 (.load 0 (.t 6)),iI 8 (.faddr 3 (.t 1)),iI 9 (.load 0 (.t 8)),iI 10 (.mkslp 0 2 (.int .i64 0) [(0,(.t 7)),(1,(.t 9))]),iI 2 (.mv (.t 10))]) .ret) (.skip)
def c191_2:C:=.seq (.seq (.reg [iI 3 (.faddr 1 (.t 1)),iI 4 (.load 0 (.t 3)),iI 5 (.bin .eql (.t 4) (.c (.int .i64 16)))]) c191_0) (.seq (.reg [iI 11 (.faddr 2 (.t 1)),iI 12 (.load 0 (.t 11)),iI 13 (.mkslp 0 1 (.int .i64 0) [(0,(.t 12))]),iI 2 (.mv (.t 13))]) .ret)
def ir191:C:=.seq (.reg [iI 1 (.box (.t 0)),iI 2 (.mv (.c (.sl 0 true [])))]) c191_2
theorem fd191:fd? Tryz.prog 191=some (14,[.slot 2],ir191):=by kernel_rfl
def f191(x0:ApiFeature):Option ((List Int)) :=
  (if (decide (x0.fBits=16))=true then (some [x0.fCoarse,x0.fFine]) else (some [x0.fCoarse]))
theorem f191_ok{x0:ApiFeature}{r_:(List Int)}(H:f191 x0=some r_):Pure Tryz.prog 191 [.agg [.int .i64 x0.fAttr,.int .i64 x0.fBits,.int .i64 x0.fCoarse,.int .i64 x0.fFine,.int .i64 x0.fCurve,.int .i64 x0.fHome,.int .i64 x0.fLow,.int .i64 x0.fHigh,.bool x0.fSnap,.sl 3 false (x0.fWheel.map eApiSlot)]] (· = .sl 0 false (r_.map (AV.int .i64))):=by
 refine w3 fd191 fun Q hQ=>?_
 simp only[f191] at H
 refine zr ?_
 refine zq (zr ?_)
 refine ic H ?_ ?_<;>clear H<;>intro H
 ·refine zr ?_
  cases H
  exact zt (zv (zf hQ))
 ·refine zk (zm (zr ?_))
  cases H
  exact zt (zf hQ)
def c192_0:C:=.seq (.reg [iI 4 (.mv (.t 0)),iI 5 (.bin .lss (.t 4) (.c (.int .i64 0))),iI 6 (.mv (.t 5)),iG (some 7) 6 false (.mv (.t 0)),iG (some 8) 6 false (.faddr 1 (.t 1)),iG (some 9) 6 false (.load 0 (.t 8)),iG (some 10) 6 false (.bin .geq (.t 7) (.t 9)),iI 11 (.pick (.t 6) (.c (.bool true)) (.t 10)),iI 3 (.mv (.t 11))]) .ret
def ir192:C:=.seq (.reg [iI 3 (.mv (.c (.bool false)))]) c192_0
theorem fd192:fd? Tryz.prog 192=some (12,[.slot 3],ir192):=by kernel_rfl
def f192p(x0:Int)(x1:(List UInt8))(x2:Int)(x3:Int)(x4:(List ApiFeature)):Option (Bool) :=
  (if (decide (x0<0))=true then (some true) else (some (decide (x2≤x0))))
theorem f192p_ok{x0:Int}{x1:(List UInt8)}{x2:Int}{x3:Int}{x4:(List ApiFeature)}{r_:Bool}(H:f192p x0 x1 x2 x3 x4=some r_):Pure Tryz.prog 192 [.int .i64 x0,.pro [.str x1,.int .i64 x2,.int .i64 x3,.sl 10 false (x4.map eApiFeature)]] (· = .bool r_):=by
 refine w3 fd192 fun Q hQ=>?_
 simp only[f192p] at H
 refine zr ?_
 refine zr ?_
 refine ig H ?_ ?_<;>clear H<;>intro H
 ·refine zs ?_
  cases H
  exact zt (zf hQ)
 ·refine zs ?_
  cases H
  exact zt (zf hQ)
def f90_192_L1(x0:(List Int))(x1:(List UInt8))(x2:Int)(x3:Int)(x4:(List ApiFeature)):Lp (Int) ((Unit)⊕(Int)) where
  body:=fun x5=>(if (decide (x5<((x0.length:Nat):Int)))=true then (at? x0 x5).bind fun x6=>(f192p x6 x1 x2 x3 x4).bind fun x7=>(if x7=true then (some (.brk (Sum.inr x5))) else (some (.next (IntKind.i64.wrap (x5 + 1))))) else (some (.brk (Sum.inl ()))))
  cst:=fun x5=>⟨put (put (put (put (fun _=>.junk) 8 (.int .i64 x5)) 7 (.int .i64 ((x0.length:Nat):Int))) 1 (.fn 192 [.pro [.str x1,.int .i64 x2,.int .i64 x3,.sl 10 false (x4.map eApiFeature)]])) 0 (.sl 0 false (x0.map (AV.int .i64))),[]⟩
theorem f90_192_L1c(x0:(List Int))(x1:(List UInt8))(x2:Int)(x3:Int)(x4:(List ApiFeature))(x5:Int):(f90_192_L1 x0 x1 x2 x3 x4).cst x5=⟨put (put (put (put (fun _=>.junk) 8 (.int .i64 x5)) 7 (.int .i64 ((x0.length:Nat):Int))) 1 (.fn 192 [.pro [.str x1,.int .i64 x2,.int .i64 x3,.sl 10 false (x4.map eApiFeature)]])) 0 (.sl 0 false (x0.map (AV.int .i64))),[]⟩:=rfl
def c90_1:C:=.seq (.reg [iI 11 (.mv (.t 1)),iI 12 (.mv (.t 0)),iI 13 (.mv (.t 5)),iI 14 (.iaddr 0 (.t 12) (.t 13)),iI 15 (.load 0 (.t 14)),iI 16 (.call (.t 11) [(.t 15)])]) (.cond (.t 16) (.seq (.reg [iI 17 (.mv (.t 5)),iI 4 (.mv (.t 17))]) .ret) (.skip))
def c90_4:C:=.seq (.cond (.t 9) (.skip) (.exit 0)) (.seq (.block 1 (.seq (.reg [iI 10 (.mv (.t 8)),iI 5 (.mv (.t 10))]) c90_1)) (.reg [iI 18 (.bin .add (.t 8) (.c (.int .i64 1))),iI 8 (.mv (.t 18))]))
def c90_7:C:=.seq (.seq (.reg [iI 6 (.mv (.t 0)),iI 7 (.len 0 (.t 6)),iI 8 (.mv (.c (.int .i64 0)))]) (.block 0 (.loop (.seq (.reg [iI 9 (.bin .lss (.t 8) (.t 7))]) c90_4)))) (.seq (.reg [iI 4 (.mv (.c (.int .i64 (-1))))]) .ret)
def ir90:C:=.seq (.reg [iI 4 (.mv (.c (.int .i64 0)))]) c90_7
theorem fd90:fd? Tryz.prog 90=some (19,[.slot 4],ir90):=by kernel_rfl
def f90_192(x0:(List Int))(x1:(List UInt8))(x2:Int)(x3:Int)(x4:(List ApiFeature)):Option (Int) :=
  ((Lp.run (f90_192_L1 x0 x1 x2 x3 x4) 0).bind fun r_=>match r_ with | (Sum.inl _)=>(some (-1)) | (Sum.inr x5)=>(some x5))
theorem f90_192_ok{x0:(List Int)}{x1:(List UInt8)}{x2:Int}{x3:Int}{x4:(List ApiFeature)}{r_:Int}(H:f90_192 x0 x1 x2 x3 x4=some r_):Pure Tryz.prog 90 [.sl 0 false (x0.map (AV.int .i64)),.fn 192 [.pro [.str x1,.int .i64 x2,.int .i64 x3,.sl 10 false (x4.map eApiFeature)]]] (· = .int .i64 r_):=by
 refine w3 fd90 fun Q hQ=>?_
 simp only[f90_192] at H
 refine zr ?_
 refine zq (zr ?_)
 refine zd ?_
 refine zU H [] [0,1,7,8] (f90_192_L1c ..) ?_<;>clear H
 rintro x5 x_ st0_ H hst_
 rw[f90_192_L1c] at hst_
 simp only[f90_192_L1] at H
 subst hst_
 refine zr ?_
 refine zq (ic H ?_ ?_)<;>clear H<;>intro H
 ·refine zk (zm (zb (zr ?_)))
  refine zr ?_
  refine ia (AV.int .i64) H ?_<;>clear H<;>intro x6 H
  refine zs ?_
  refine pu H f192p_ok ?_<;>clear H<;>intro x7 H
  refine zE0 ?_
  refine ic H ?_ ?_<;>clear H<;>intro H
  ·refine zr ?_
   refine zt (zp (loopQ.ret H ?_))<;>clear H<;>intro H
   try dsimp only at H
   cases H
   exact zh (zv (zf hQ))
  ·refine zk (zo (ze ?_))
   exact zu H [] [0,1,7,8] (f90_192_L1c ..)
 ·refine zx (zy (loopQ.exit H ?_))<;>clear H<;>intro H
  try dsimp only at H
  refine zi (zm (zr ?_))
  cases H
  exact zt (zf hQ)
def c190_0:C:=.seq (.reg [iI 5 (.mv (.t 0)),iI 6 (.mv (.t 1)),iI 7 (.call (.c (.fn 90 [])) [(.t 5),(.t 6)]),iI 8 (.bin .geq (.t 7) (.c (.int .i64 0))),iI 4 (.mv (.t 8))]) .ret
def ir190:C:=.seq (.reg [iI 4 (.mv (.c (.bool false)))]) c190_0
theorem fd190:fd? Tryz.prog 190=some (9,[.slot 4],ir190):=by kernel_rfl
def f190_192(x0:(List Int))(x1:(List UInt8))(x2:Int)(x3:Int)(x4:(List ApiFeature)):Option (Bool) :=
  (f90_192 x0 x1 x2 x3 x4).bind fun x5=>(some (decide (0≤x5)))
theorem f190_192_ok{x0:(List Int)}{x1:(List UInt8)}{x2:Int}{x3:Int}{x4:(List ApiFeature)}{r_:Bool}(H:f190_192 x0 x1 x2 x3 x4=some r_):Pure Tryz.prog 190 [.sl 0 false (x0.map (AV.int .i64)),.fn 192 [.pro [.str x1,.int .i64 x2,.int .i64 x3,.sl 10 false (x4.map eApiFeature)]]] (· = .bool r_):=by
 refine w3 fd190 fun Q hQ=>?_
 simp only[f190_192] at H
 refine zr ?_
 refine zr ?_
 refine pu H f90_192_ok ?_<;>clear H<;>intro x5 H
 refine zE0 ?_
 cases H
 exact zt (zf hQ)
def c189_0:C:=.seq (.reg [iI 3 (.load 10 (.t 0)),iI 4 (.call (.c (.fn 191 [])) [(.t 3)]),iI 5 (.mkfn 192 [(.t 1)]),iI 6 (.call (.c (.fn 190 [])) [(.t 4),(.t 5)]),iI 2 (.mv (.t 6))]) .ret
def ir189:C:=.seq (.reg [iI 2 (.mv (.c (.bool false)))]) c189_0
theorem fd189:fd? Tryz.prog 189=some (7,[.slot 2],ir189):=by kernel_rfl
def f189p(x0:Int)(x1:Int)(x2:Int)(x3:Int)(x4:Int)(x5:Int)(x6:Int)(x7:Int)(x8:Bool)(x9:(List ApiSlot))(xa:(List UInt8))(xb:Int)(xc:Int)(xd:(List ApiFeature)):Option (Bool) :=
  (f191 (ApiFeature.mk x0 x1 x2 x3 x4 x5 x6 x7 x8 x9)).bind fun xe=>(f190_192 xe xa xb xc xd).bind fun xf=>(some xf)
theorem f189p_ok{x0:Int}{x1:Int}{x2:Int}{x3:Int}{x4:Int}{x5:Int}{x6:Int}{x7:Int}{x8:Bool}{x9:(List ApiSlot)}{xa:(List UInt8)}{xb:Int}{xc:Int}{xd:(List ApiFeature)}{r_:Bool}(H:f189p x0 x1 x2 x3 x4 x5 x6 x7 x8 x9 xa xb xc xd=some r_):Pure Tryz.prog 189 [.pro [.int .i64 x0,.int .i64 x1,.int .i64 x2,.int .i64 x3,.int .i64 x4,.int .i64 x5,.int .i64 x6,.int .i64 x7,.bool x8,.sl 3 false (x9.map eApiSlot)],.pro [.str xa,.int .i64 xb,.int .i64 xc,.sl 10 false (xd.map eApiFeature)]] (· = .bool r_):=by
 refine w3 fd189 fun Q hQ=>?_
 simp only[f189p] at H
 refine zr ?_
 refine zr ?_
 refine pu H f191_ok ?_<;>clear H<;>intro xe H
 refine zE0 ?_
 refine pu H f190_192_ok ?_<;>clear H<;>intro xf H
 refine zE0 ?_
 cases H
 exact zt (zf hQ)
def c193_0:C:=.seq (.reg [iI 2 (.faddr 1 (.t 0)),iI 3 (.load 0 (.t 2)),iI 4 (.bin .eql (.t 3) (.c (.int .i64 8))),iI 5 (.mv (.t 4)),iG (some 6) 5 true (.faddr 3 (.t 0)),iG (some 7) 5 true (.load 0 (.t 6)),iG (some 8) 5 true (.bin .neq (.t 7) (.c (.int .i64 0))),iI 9 (.pick (.t 5) (.t 8) (.c (.bool false))),iI 1 (.mv (.t 9))]) .ret
def ir193:C:=.seq (.reg [iI 1 (.mv (.c (.bool false)))]) c193_0
theorem fd193:fd? Tryz.prog 193=some (10,[.slot 1],ir193):=by kernel_rfl
def f193p(x0:Int)(x1:Int)(x2:Int)(x3:Int)(x4:Int)(x5:Int)(x6:Int)(x7:Int)(x8:Bool)(x9:(List ApiSlot)):Option (Bool) :=
  (if (decide (x1=8))=true then (some (decide (x3≠0))) else (some false))
theorem f193p_ok{x0:Int}{x1:Int}{x2:Int}{x3:Int}{x4:Int}{x5:Int}{x6:Int}{x7:Int}{x8:Bool}{x9:(List ApiSlot)}{r_:Bool}(H:f193p x0 x1 x2 x3 x4 x5 x6 x7 x8 x9=some r_):Pure Tryz.prog 193 [.pro [.int .i64 x0,.int .i64 x1,.int .i64 x2,.int .i64 x3,.int .i64 x4,.int .i64 x5,.int .i64 x6,.int .i64 x7,.bool x8,.sl 3 false (x9.map eApiSlot)]] (· = .bool r_):=by
 refine w3 fd193 fun Q hQ=>?_
 simp only[f193p] at H
 refine zr ?_
 refine zr ?_
 refine ig H ?_ ?_<;>clear H<;>intro H
 ·refine zs ?_
  cases H
  exact zt (zf hQ)
 ·refine zs ?_
  cases H
  exact zt (zf hQ)
def ir195:C:=.seq (.reg [iI 3 (.mv (.c (.bool false)))]) (.seq (.reg [iI 4 (.load 0 (.t 1)),iI 5 (.mv (.t 0)),iI 6 (.lookup 0 (.bool false) false (.t 4) (.t 5)),iI 3 (.mv (.t 6))]) .ret)
theorem fd195:fd? Tryz.prog 195=some (7,[.slot 3],ir195):=by kernel_rfl
def f195p(x0:Int)(x1:(List (Int×Bool))):Option (Bool) :=
  (look? (x1:(List (Int×Bool))) x0 (false:Bool) fun x2 x3=>(some x2))
theorem f195p_ok{x0:Int}{x1:(List (Int×Bool))}{r_:Bool}(H:f195p x0 x1=some r_):Pure Tryz.prog 195 [.int .i64 x0,.pro [.mp (mk (AV.int .i64) x1) (mv AV.bool x1)]] (· = .bool r_):=by
 refine w3 fd195 fun Q hQ=>?_
 simp only[f195p] at H
 refine zr ?_
 refine zr ?_
 refine evTs_lookP (ek:=(AV.int .i64)) (ev:=AV.bool) H false (by rfl) (by rfl) (by rfl) ?_<;>clear H<;>intro x2 x3 H
 refine zs ?_
 cases H
 exact zt (zf hQ)
def f90_195_L1(x0:(List Int))(x1:(List (Int×Bool))):Lp (Int) ((Unit)⊕(Int)) where
  body:=fun x2=>(if (decide (x2<((x0.length:Nat):Int)))=true then (at? x0 x2).bind fun x3=>(f195p x3 x1).bind fun x4=>(if x4=true then (some (.brk (Sum.inr x2))) else (some (.next (IntKind.i64.wrap (x2 + 1))))) else (some (.brk (Sum.inl ()))))
  cst:=fun x2=>⟨put (put (put (put (fun _=>.junk) 8 (.int .i64 x2)) 7 (.int .i64 ((x0.length:Nat):Int))) 1 (.fn 195 [.pro [.mp (mk (AV.int .i64) x1) (mv AV.bool x1)]])) 0 (.sl 0 false (x0.map (AV.int .i64))),[]⟩
theorem f90_195_L1c(x0:(List Int))(x1:(List (Int×Bool)))(x2:Int):(f90_195_L1 x0 x1).cst x2=⟨put (put (put (put (fun _=>.junk) 8 (.int .i64 x2)) 7 (.int .i64 ((x0.length:Nat):Int))) 1 (.fn 195 [.pro [.mp (mk (AV.int .i64) x1) (mv AV.bool x1)]])) 0 (.sl 0 false (x0.map (AV.int .i64))),[]⟩:=rfl
def f90_195(x0:(List Int))(x1:(List (Int×Bool))):Option (Int) :=
  ((Lp.run (f90_195_L1 x0 x1) 0).bind fun r_=>match r_ with | (Sum.inl _)=>(some (-1)) | (Sum.inr x2)=>(some x2))
theorem f90_195_ok{x0:(List Int)}{x1:(List (Int×Bool))}{r_:Int}(H:f90_195 x0 x1=some r_):Pure Tryz.prog 90 [.sl 0 false (x0.map (AV.int .i64)),.fn 195 [.pro [.mp (mk (AV.int .i64) x1) (mv AV.bool x1)]]] (· = .int .i64 r_):=by
 refine w3 fd90 fun Q hQ=>?_
 simp only[f90_195] at H
 refine zr ?_
 refine zq (zr ?_)
 refine zd ?_
 refine zU H [] [0,1,7,8] (f90_195_L1c ..) ?_<;>clear H
 rintro x2 x_ st0_ H hst_
 rw[f90_195_L1c] at hst_
 simp only[f90_195_L1] at H
 subst hst_
 refine zr ?_
 refine zq (ic H ?_ ?_)<;>clear H<;>intro H
 ·refine zk (zm (zb (zr ?_)))
  refine zr ?_
  refine ia (AV.int .i64) H ?_<;>clear H<;>intro x3 H
  refine zs ?_
  refine pu H f195p_ok ?_<;>clear H<;>intro x4 H
  refine zE0 ?_
  refine ic H ?_ ?_<;>clear H<;>intro H
  ·refine zr ?_
   refine zt (zp (loopQ.ret H ?_))<;>clear H<;>intro H
   try dsimp only at H
   cases H
   exact zh (zv (zf hQ))
  ·refine zk (zo (ze ?_))
   exact zu H [] [0,1,7,8] (f90_195_L1c ..)
 ·refine zx (zy (loopQ.exit H ?_))<;>clear H<;>intro H
  try dsimp only at H
  refine zi (zm (zr ?_))
  cases H
  exact zt (zf hQ)
def f190_195(x0:(List Int))(x1:(List (Int×Bool))):Option (Bool) :=
  (f90_195 x0 x1).bind fun x2=>(some (decide (0≤x2)))
theorem f190_195_ok{x0:(List Int)}{x1:(List (Int×Bool))}{r_:Bool}(H:f190_195 x0 x1=some r_):Pure Tryz.prog 190 [.sl 0 false (x0.map (AV.int .i64)),.fn 195 [.pro [.mp (mk (AV.int .i64) x1) (mv AV.bool x1)]]] (· = .bool r_):=by
 refine w3 fd190 fun Q hQ=>?_
 simp only[f190_195] at H
 refine zr ?_
 refine zr ?_
 refine pu H f90_195_ok ?_<;>clear H<;>intro x2 H
 refine zE0 ?_
 cases H
 exact zt (zf hQ)
def c194_0:C:=.seq (.reg [iI 3 (.load 10 (.t 0)),iI 4 (.call (.c (.fn 191 [])) [(.t 3)]),iI 5 (.mkfn 195 [(.t 1)]),iI 6 (.call (.c (.fn 190 [])) [(.t 4),(.t 5)]),iI 2 (.mv (.t 6))]) .ret
def ir194:C:=.seq (.reg [iI 2 (.mv (.c (.bool false)))]) c194_0
theorem fd194:fd? Tryz.prog 194=some (7,[.slot 2],ir194):=by kernel_rfl
def f194p(x0:Int)(x1:Int)(x2:Int)(x3:Int)(x4:Int)(x5:Int)(x6:Int)(x7:Int)(x8:Bool)(x9:(List ApiSlot))(xa:(List (Int×Bool))):Option (Bool) :=
  (f191 (ApiFeature.mk x0 x1 x2 x3 x4 x5 x6 x7 x8 x9)).bind fun xb=>(f190_195 xb xa).bind fun xc=>(some xc)
theorem f194p_ok{x0:Int}{x1:Int}{x2:Int}{x3:Int}{x4:Int}{x5:Int}{x6:Int}{x7:Int}{x8:Bool}{x9:(List ApiSlot)}{xa:(List (Int×Bool))}{r_:Bool}(H:f194p x0 x1 x2 x3 x4 x5 x6 x7 x8 x9 xa=some r_):Pure Tryz.prog 194 [.pro [.int .i64 x0,.int .i64 x1,.int .i64 x2,.int .i64 x3,.int .i64 x4,.int .i64 x5,.int .i64 x6,.int .i64 x7,.bool x8,.sl 3 false (x9.map eApiSlot)],.pro [.mp (mk (AV.int .i64) xa) (mv AV.bool xa)]] (· = .bool r_):=by
 refine w3 fd194 fun Q hQ=>?_
 simp only[f194p] at H
 refine zr ?_
 refine zr ?_
 refine pu H f191_ok ?_<;>clear H<;>intro xb H
 refine zE0 ?_
 refine pu H f190_195_ok ?_<;>clear H<;>intro xc H
 refine zE0 ?_
 cases H
 exact zt (zf hQ)
def c196_0:C:=.seq (.reg [iI 2 (.faddr 1 (.t 0)),iI 3 (.load 0 (.t 2)),iI 4 (.bin .eql (.t 3) (.c (.int .i64 16))),iI 5 (.mv (.t 4)),iG (some 6) 5 true (.faddr 3 (.t 0)),iG (some 7) 5 true (.load 0 (.t 6)),iG (some 8) 5 true (.faddr 2 (.t 0)),iG (some 9) 5 true (.load 0 (.t 8)),iG (some 10) 5 true (.bin .eql (.t 7) (.t 9)),iI 11 (.pick (.t 5) (.t 10) (.c (.bool false))),iI 1 (.mv (.t 11))]) .ret
def ir196:C:=.seq (.reg [iI 1 (.mv (.c (.bool false)))]) c196_0
theorem fd196:fd? Tryz.prog 196=some (12,[.slot 1],ir196):=by kernel_rfl
def f196p(x0:Int)(x1:Int)(x2:Int)(x3:Int)(x4:Int)(x5:Int)(x6:Int)(x7:Int)(x8:Bool)(x9:(List ApiSlot)):Option (Bool) :=
  (if (decide (x1=16))=true then (some (decide (x3=x2))) else (some false))
theorem f196p_ok{x0:Int}{x1:Int}{x2:Int}{x3:Int}{x4:Int}{x5:Int}{x6:Int}{x7:Int}{x8:Bool}{x9:(List ApiSlot)}{r_:Bool}(H:f196p x0 x1 x2 x3 x4 x5 x6 x7 x8 x9=some r_):Pure Tryz.prog 196 [.pro [.int .i64 x0,.int .i64 x1,.int .i64 x2,.int .i64 x3,.int .i64 x4,.int .i64 x5,.int .i64 x6,.int .i64 x7,.bool x8,.sl 3 false (x9.map eApiSlot)]] (· = .bool r_):=by
 refine w3 fd196 fun Q hQ=>?_
 simp only[f196p] at H
 refine zr ?_
 refine zr ?_
 refine ig H ?_ ?_<;>clear H<;>intro H
 ·refine zs ?_
  cases H
  exact zt (zf hQ)
 ·refine zs ?_
  cases H
  exact zt (zf hQ)
def c242_0:C:=.seq (.reg [iI 3 (.mv (.t 0)),iI 4 (.bin .geq (.t 3) (.c (.int .i64 0))),iI 5 (.mv (.t 4)),iG (some 6) 5 true (.mv (.t 0)),iG (some 7) 5 true (.bin .leq (.t 6) (.c (.int .i64 65535))),iI 8 (.pick (.t 5) (.t 7) (.c (.bool false))),iI 2 (.mv (.t 8))]) .ret
def ir242:C:=.seq (.reg [iI 2 (.mv (.c (.bool false)))]) c242_0
theorem fd242:fd? Tryz.prog 242=some (9,[.slot 2],ir242):=by kernel_rfl
def f242(x0:Int):Option (Bool) :=
  (if (decide (0≤x0))=true then (some (decide (x0≤65535))) else (some false))
theorem f242_ok{x0:Int}{r_:Bool}(H:f242 x0=some r_):Pure Tryz.prog 242 [.int .i64 x0] (· = .bool r_):=by
 refine w3 fd242 fun Q hQ=>?_
 simp only[f242] at H
 refine zr ?_
 refine zr ?_
 refine ig H ?_ ?_<;>clear H<;>intro H
 ·refine zs ?_
  cases H
  exact zt (zf hQ)
 ·refine zs ?_
  cases H
  exact zt (zf hQ)
def ir241:C:=.seq (.reg [iI 1 (.mv (.c (.bool false)))]) (.seq (.reg [iI 2 (.faddr 5 (.t 0)),iI 3 (.load 0 (.t 2)),iI 4 (.call (.c (.fn 242 [])) [(.t 3)]),iI 5 (.un .not (.t 4)),iI 1 (.mv (.t 5))]) .ret)
theorem fd241:fd? Tryz.prog 241=some (6,[.slot 1],ir241):=by kernel_rfl
def f241p(x0:Int)(x1:Int)(x2:Int)(x3:Int)(x4:Int)(x5:Int)(x6:Int)(x7:Int)(x8:Bool)(x9:(List ApiSlot)):Option (Bool) :=
  (f242 x5).bind fun xa=>(some (!xa))
theorem f241p_ok{x0:Int}{x1:Int}{x2:Int}{x3:Int}{x4:Int}{x5:Int}{x6:Int}{x7:Int}{x8:Bool}{x9:(List ApiSlot)}{r_:Bool}(H:f241p x0 x1 x2 x3 x4 x5 x6 x7 x8 x9=some r_):Pure Tryz.prog 241 [.pro [.int .i64 x0,.int .i64 x1,.int .i64 x2,.int .i64 x3,.int .i64 x4,.int .i64 x5,.int .i64 x6,.int .i64 x7,.bool x8,.sl 3 false (x9.map eApiSlot)]] (· = .bool r_):=by
 refine w3 fd241 fun Q hQ=>?_
 simp only[f241p] at H
 refine zr ?_
 refine zr ?_
 refine pu H f242_ok ?_<;>clear H<;>intro xa H
 refine zE0 ?_
 cases H
 exact zt (zf hQ)
def c243_0:C:=.seq (.reg [iI 2 (.faddr 6 (.t 0)),iI 3 (.load 0 (.t 2)),iI 4 (.bin .lss (.t 3) (.c (.int .i64 0))),iI 5 (.mv (.t 4)),iG (some 6) 5 false (.faddr 6 (.t 0)),iG (some 7) 5 false (.load 0 (.t 6)),iG (some 8) 5 false (.faddr 7 (.t 0)),iG (some 9) 5 false (.load 0 (.t 8)),iG (some 10) 5 false (.bin .gtr (.t 7) (.t 9)),iI 11 (.pick (.t 5) (.c (.bool true)) (.t 10)),iI 12 (.mv (.t 11)),iG (some 13) 12 false (.faddr 7 (.t 0)),iG (some 14) 12 false (.load 0 (.t 13)),iG (some 15) 12 false (.faddr 1 (.t 0)),iG (some 16) 12 false (.load 0 (.t 15)),iG (some 17) 12 false (.bin .shl (.c (.int .i64 1)) (.t 16)),iG (some 18) 12 false (.bin .sub (.t 17) (.c (.int .i64 1))),iG (some 19) 12 false (.bin .gtr (.t 14) (.t 18)),iI 20 (.pick (.t 12) (.c (.bool true)) (.t 19)),iI 1 (.mv (.t 20))]) .ret
def ir243:C:=.seq (.reg [iI 1 (.mv (.c (.bool false)))]) c243_0
theorem fd243:fd? Tryz.prog 243=some (21,[.slot 1],ir243):=by kernel_rfl
def f243p(x0:Int)(x1:Int)(x2:Int)(x3:Int)(x4:Int)(x5:Int)(x6:Int)(x7:Int)(x8:Bool)(x9:(List ApiSlot)):Option (Bool) :=
  (if (decide (x6<0))=true then (some true) else (if (decide (x7<x6))=true then (some true) else (must? (0≤x1)).bind fun _=>(some (decide ((IntKind.i64.wrap ((IntKind.i64.wrap (1 * 2 ^ (min (Int.toNat x1) (IntKind.bits .i64)))) - 1))<x7)))))
theorem f243p_ok{x0:Int}{x1:Int}{x2:Int}{x3:Int}{x4:Int}{x5:Int}{x6:Int}{x7:Int}{x8:Bool}{x9:(List ApiSlot)}{r_:Bool}(H:f243p x0 x1 x2 x3 x4 x5 x6 x7 x8 x9=some r_):Pure Tryz.prog 243 [.pro [.int .i64 x0,.int .i64 x1,.int .i64 x2,.int .i64 x3,.int .i64 x4,.int .i64 x5,.int .i64 x6,.int .i64 x7,.bool x8,.sl 3 false (x9.map eApiSlot)]] (· = .bool r_):=by
 refine w3 fd243 fun Q hQ=>?_
 simp only[f243p] at H
 refine zr ?_
 refine zr ?_
 refine ig H ?_ ?_<;>clear H<;>intro H
 ·refine zs ?_
  cases H
  exact zt (zf hQ)
 ·refine zs ?_
  refine ig H ?_ ?_<;>clear H<;>intro H
  ·refine zs ?_
   cases H
   exact zt (zf hQ)
  ·refine zs ?_
   refine rest_shlv H ?_<;>clear H<;>intro H
   refine zs ?_
   cases H
   exact zt (zf hQ)
def f227_C1(x0:ApiFeature):Il (Int) where
  run:=(f241p x0.fAttr x0.fBits x0.fCoarse x0.fFine x0.fCurve x0.fHome x0.fLow x0.fHigh x0.fSnap x0.fWheel).bind fun x1=>(if x1=true then (some 2) else (f243p x0.fAttr x0.fBits x0.fCoarse x0.fFine x0.fCurve x0.fHome x0.fLow x0.fHigh x0.fSnap x0.fWheel).bind fun x2=>(if x2=true then (some 2) else (some 0)))
  res:=fun x3=>.int .i64 x3
  hp:=fun x3=>[.cel [.int .i64 x0.fAttr,.int .i64 x0.fBits,.int .i64 x0.fCoarse,.int .i64 x0.fFine,.int .i64 x0.fCurve,.int .i64 x0.fHome,.int .i64 x0.fLow,.int .i64 x0.fHigh,.bool x0.fSnap,.sl 3 false (x0.fWheel.map eApiSlot)],.els 2 [.agg [.fn 241 [.ptr 0 0],.int .i64 2],.agg [.fn 243 [.ptr 0 0],.int .i64 2]]]
def ir256:C:=.seq (.reg [iI 1 (.mv (.c (.bool false)))]) (.seq (.reg [iI 2 (.faddr 0 (.t 0)),iI 3 (.load 0 (.t 2)),iI 4 (.call (.c (.fn 134 [])) [(.t 3)]),iI 5 (.un .not (.t 4)),iI 1 (.mv (.t 5))]) .ret)
theorem fd256:fd? Tryz.prog 256=some (6,[.slot 1],ir256):=by kernel_rfl
def f256p(x0:(List UInt8))(x1:Int)(x2:Int):Option (Bool) :=
  (f134 x0).bind fun x3=>(some (!x3))
theorem f256p_ok{x0:(List UInt8)}{x1:Int}{x2:Int}{r_:Bool}(H:f256p x0 x1 x2=some r_):Pure Tryz.prog 256 [.pro [.str x0,.int .i64 x1,.int .i64 x2]] (· = .bool r_):=by
 refine w3 fd256 fun Q hQ=>?_
 simp only[f256p] at H
 refine zr ?_
 refine zr ?_
 refine pu H f134_ok ?_<;>clear H<;>intro x3 H
 refine zE0 ?_
 cases H
 exact zt (zf hQ)
def c259_0:C:=.seq (.reg [iI 4 (.faddr 0 (.t 2)),iI 5 (.load 0 (.t 4)),iI 6 (.faddr 0 (.t 1)),iI 7 (.load 0 (.t 6)),iI 8 (.bin .eql (.t 5) (.t 7)),iI 3 (.mv (.t 8))]) .ret
def ir259:C:=.seq (.reg [iI 2 (.box (.t 0)),iI 3 (.mv (.c (.bool false)))]) c259_0
theorem fd259:fd? Tryz.prog 259=some (9,[.slot 3],ir259):=by kernel_rfl
def f259p(x0:ApiSlot)(x1:(List UInt8))(x2:Int)(x3:Int):Option (Bool) :=
  (some (x0.fName == x1))
theorem f259p_ok{x0:ApiSlot}{x1:(List UInt8)}{x2:Int}{x3:Int}{r_:Bool}(H:f259p x0 x1 x2 x3=some r_):Pure Tryz.prog 259 [.agg [.str x0.fName,.int .i64 x0.fFrom,.int .i64 x0.fTo],.pro [.str x1,.int .i64 x2,.int .i64 x3]] (· = .bool r_):=by
 refine w3 fd259 fun Q hQ=>?_
 simp only[f259p] at H
 refine zr ?_
 refine zr ?_
 cases H
 exact zt (zf hQ)
def f269_259_L1(x0:(List ApiSlot))(x1:(List UInt8))(x2:Int)(x3:Int):Lp (Int) ((Unit)⊕(Int)) where
  body:=fun x4=>(if (decide (x4<((x0.length:Nat):Int)))=true then (at? x0 x4).bind fun x5=>(f259p x5 x1 x2 x3).bind fun x6=>(if x6=true then (some (.brk (Sum.inr x4))) else (some (.next (IntKind.i64.wrap (x4 + 1))))) else (some (.brk (Sum.inl ()))))
  cst:=fun x4=>⟨put (put (put (put (fun _=>.junk) 8 (.int .i64 x4)) 7 (.int .i64 ((x0.length:Nat):Int))) 1 (.fn 259 [.pro [.str x1,.int .i64 x2,.int .i64 x3]])) 0 (.sl 3 false (x0.map eApiSlot)),[]⟩
theorem f269_259_L1c(x0:(List ApiSlot))(x1:(List UInt8))(x2:Int)(x3:Int)(x4:Int):(f269_259_L1 x0 x1 x2 x3).cst x4=⟨put (put (put (put (fun _=>.junk) 8 (.int .i64 x4)) 7 (.int .i64 ((x0.length:Nat):Int))) 1 (.fn 259 [.pro [.str x1,.int .i64 x2,.int .i64 x3]])) 0 (.sl 3 false (x0.map eApiSlot)),[]⟩:=rfl
def c269_1:C:=.seq (.reg [iI 11 (.mv (.t 1)),iI 12 (.mv (.t 0)),iI 13 (.mv (.t 5)),iI 14 (.iaddr 3 (.t 12) (.t 13)),iI 15 (.load 3 (.t 14)),iI 16 (.call (.t 11) [(.t 15)])]) (.cond (.t 16) (.seq (.reg [iI 17 (.mv (.t 5)),iI 4 (.mv (.t 17))]) .ret) (.skip))
def c269_4:C:=.seq (.cond (.t 9) (.skip) (.exit 0)) (.seq (.block 1 (.seq (.reg [iI 10 (.mv (.t 8)),iI 5 (.mv (.t 10))]) c269_1)) (.reg [iI 18 (.bin .add (.t 8) (.c (.int .i64 1))),iI 8 (.mv (.t 18))]))
def c269_7:C:=.seq (.seq (.reg [iI 6 (.mv (.t 0)),iI 7 (.len 0 (.t 6)),iI 8 (.mv (.c (.int .i64 0)))]) (.block 0 (.loop (.seq (.reg [iI 9 (.bin .lss (.t 8) (.t 7))]) c269_4)))) (.seq (.reg [iI 4 (.mv (.c (.int .i64 (-1))))]) .ret)
def ir269:C:=.seq (.reg [iI 4 (.mv (.c (.int .i64 0)))]) c269_7
theorem fd269:fd? Tryz.prog 269=some (19,[.slot 4],ir269):=by kernel_rfl
def f269_259(x0:(List ApiSlot))(x1:(List UInt8))(x2:Int)(x3:Int):Option (Int) :=
  ((Lp.run (f269_259_L1 x0 x1 x2 x3) 0).bind fun r_=>match r_ with | (Sum.inl _)=>(some (-1)) | (Sum.inr x4)=>(some x4))
theorem f269_259_ok{x0:(List ApiSlot)}{x1:(List UInt8)}{x2:Int}{x3:Int}{r_:Int}(H:f269_259 x0 x1 x2 x3=some r_):Pure Tryz.prog 269 [.sl 3 false (x0.map eApiSlot),.fn 259 [.pro [.str x1,.int .i64 x2,.int .i64 x3]]] (· = .int .i64 r_):=by
 refine w3 fd269 fun Q hQ=>?_
 simp only[f269_259] at H
 refine zr ?_
 refine zq (zr ?_)
 refine zd ?_
 refine zU H [] [0,1,7,8] (f269_259_L1c ..) ?_<;>clear H
 rintro x4 x_ st0_ H hst_
 rw[f269_259_L1c] at hst_
 simp only[f269_259_L1] at H
 subst hst_
 refine zr ?_
 refine zq (ic H ?_ ?_)<;>clear H<;>intro H
 ·refine zk (zm (zb (zr ?_)))
  refine zr ?_
  refine ia eApiSlot H ?_<;>clear H<;>intro x5 H
  refine zE4 ?_
  refine pu H f259p_ok ?_<;>clear H<;>intro x6 H
  refine zE0 ?_
  refine ic H ?_ ?_<;>clear H<;>intro H
  ·refine zr ?_
   refine zt (zp (loopQ.ret H ?_))<;>clear H<;>intro H
   try dsimp only at H
   cases H
   exact zh (zv (zf hQ))
  ·refine zk (zo (ze ?_))
   exact zu H [] [0,1,7,8] (f269_259_L1c ..)
 ·refine zx (zy (loopQ.exit H ?_))<;>clear H<;>intro H
  try dsimp only at H
  refine zi (zm (zr ?_))
  cases H
  exact zt (zf hQ)
def c258_0:C:=.seq (.reg [iI 5 (.mv (.t 0)),iI 6 (.mv (.t 1)),iI 7 (.call (.c (.fn 269 [])) [(.t 5),(.t 6)]),iI 8 (.bin .geq (.t 7) (.c (.int .i64 0))),iI 4 (.mv (.t 8))]) .ret
def ir258:C:=.seq (.reg [iI 4 (.mv (.c (.bool false)))]) c258_0
theorem fd258:fd? Tryz.prog 258=some (9,[.slot 4],ir258):=by kernel_rfl
def f258_259(x0:(List ApiSlot))(x1:(List UInt8))(x2:Int)(x3:Int):Option (Bool) :=
  (f269_259 x0 x1 x2 x3).bind fun x4=>(some (decide (0≤x4)))
theorem f258_259_ok{x0:(List ApiSlot)}{x1:(List UInt8)}{x2:Int}{x3:Int}{r_:Bool}(H:f258_259 x0 x1 x2 x3=some r_):Pure Tryz.prog 258 [.sl 3 false (x0.map eApiSlot),.fn 259 [.pro [.str x1,.int .i64 x2,.int .i64 x3]]] (· = .bool r_):=by
 refine w3 fd258 fun Q hQ=>?_
 simp only[f258_259] at H
 refine zr ?_
 refine zr ?_
 refine pu H f269_259_ok ?_<;>clear H<;>intro x4 H
 refine zE0 ?_
 cases H
 exact zt (zf hQ)
def c257_0:C:=.seq (.reg [iI 4 (.load 0 (.t 0)),iI 5 (.load 0 (.t 1)),iI 6 (.slice 3 (.t 4) none (some (.t 5))),iI 7 (.mkfn 259 [(.t 2)]),iI 8 (.call (.c (.fn 258 [])) [(.t 6),(.t 7)]),iI 3 (.mv (.t 8))]) .ret
def ir257:C:=.seq (.reg [iI 3 (.mv (.c (.bool false)))]) c257_0
theorem fd257:fd? Tryz.prog 257=some (9,[.slot 3],ir257):=by kernel_rfl
def f257p(x0:(List ApiSlot))(x1:Int)(x2:(List UInt8))(x3:Int)(x4:Int):Option (Bool) :=
  (slc? x0 0 x1).bind fun x5=>(f258_259 x5 x2 x3 x4).bind fun x6=>(some x6)
theorem f257p_ok{x0:(List ApiSlot)}{x1:Int}{x2:(List UInt8)}{x3:Int}{x4:Int}{r_:Bool}(H:f257p x0 x1 x2 x3 x4=some r_):Pure Tryz.prog 257 [.pro [.sl 3 false (x0.map eApiSlot)],.pro [.int .i64 x1],.pro [.str x2,.int .i64 x3,.int .i64 x4]] (· = .bool r_):=by
 refine w3 fd257 fun Q hQ=>?_
 simp only[f257p] at H
 refine zr ?_
 refine zr ?_
 refine sc eApiSlot H ?_<;>clear H<;>intro x5 H
 refine zs ?_
 refine pu H f258_259_ok ?_<;>clear H<;>intro x6 H
 refine zE0 ?_
 cases H
 exact zt (zf hQ)
def c260_0:C:=.seq (.reg [iI 2 (.faddr 1 (.t 0)),iI 3 (.load 0 (.t 2)),iI 4 (.call (.c (.fn 242 [])) [(.t 3)]),iI 5 (.un .not (.t 4)),iI 6 (.mv (.t 5)),iG (some 7) 6 false (.faddr 2 (.t 0)),iG (some 8) 6 false (.load 0 (.t 7)),iG (some 9) 6 false (.call (.c (.fn 242 [])) [(.t 8)]),iG (some 10) 6 false (.un .not (.t 9)),iI 11 (.pick (.t 6) (.c (.bool true)) (.t 10)),iI 12 (.mv (.t 11)),iG (some 13) 12 false (.faddr 1 (.t 0)),iG (some 14) 12 false (.load 0 (.t 13)),iG (some 15) 12 false (.faddr 2 (.t 0)),iG (some 16) 12 false (.load 0 (.t 15)),iG (some 17) 12 false (.bin .gtr (.t 14) (.t 16)),iI 18 (.pick (.t 12) (.c (.bool true)) (.t 17)),iI 1 (.mv (.t 18))]) .ret
def ir260:C:=.seq (.reg [iI 1 (.mv (.c (.bool false)))]) c260_0
theorem fd260:fd? Tryz.prog 260=some (19,[.slot 1],ir260):=by kernel_rfl
def f260p(x0:(List UInt8))(x1:Int)(x2:Int):Option (Bool) :=
  (f242 x1).bind fun x3=>(if (!x3)=true then (some true) else (f242 x2).bind fun x4=>(if (!x4)=true then (some true) else (some (decide (x2<x1)))))
theorem f260p_ok{x0:(List UInt8)}{x1:Int}{x2:Int}{r_:Bool}(H:f260p x0 x1 x2=some r_):Pure Tryz.prog 260 [.pro [.str x0,.int .i64 x1,.int .i64 x2]] (· = .bool r_):=by
 refine w3 fd260 fun Q hQ=>?_
 simp only[f260p] at H
 refine zr ?_
 refine zr ?_
 refine pu H f242_ok ?_<;>clear H<;>intro x3 H
 refine zE0 ?_
 refine ig H ?_ ?_<;>clear H<;>intro H
 ·refine zs ?_
  cases H
  exact zt (zf hQ)
 ·refine zs ?_
  refine pu H f242_ok ?_<;>clear H<;>intro x4 H
  refine zE0 ?_
  refine ig H ?_ ?_<;>clear H<;>intro H
  ·refine zs ?_
   cases H
   exact zt (zf hQ)
  ·refine zs ?_
   cases H
   exact zt (zf hQ)
def c261_0:C:=.seq (.reg [iI 4 (.load 0 (.t 0)),iI 5 (.bin .gtr (.t 4) (.c (.int .i64 0))),iI 6 (.mv (.t 5)),iG (some 7) 6 true (.faddr 1 (.t 1)),iG (some 8) 6 true (.load 0 (.t 7)),iG (some 9) 6 true (.load 0 (.t 2)),iG (some 10) 6 true (.load 0 (.t 0)),iG (some 11) 6 true (.bin .sub (.t 10) (.c (.int .i64 1))),iG (some 12) 6 true (.iaddr 3 (.t 9) (.t 11)),iG (some 13) 6 true (.faddr 2 (.t 12)),iG (some 14) 6 true (.load 0 (.t 13)),iG (some 15) 6 true (.bin .leq (.t 8) (.t 14)),iI 16 (.pick (.t 6) (.t 15) (.c (.bool false))),iI 3 (.mv (.t 16))]) .ret
def ir261:C:=.seq (.reg [iI 3 (.mv (.c (.bool false)))]) c261_0
theorem fd261:fd? Tryz.prog 261=some (17,[.slot 3],ir261):=by kernel_rfl
def f261p(x0:Int)(x1:(List UInt8))(x2:Int)(x3:Int)(x4:(List ApiSlot)):Option (Bool) :=
  (if (decide (0<x0))=true then (at? x4 (IntKind.i64.wrap (x0 - 1))).bind fun x5=>(some (decide (x2≤x5.fTo))) else (some false))
theorem f261p_ok{x0:Int}{x1:(List UInt8)}{x2:Int}{x3:Int}{x4:(List ApiSlot)}{r_:Bool}(H:f261p x0 x1 x2 x3 x4=some r_):Pure Tryz.prog 261 [.pro [.int .i64 x0],.pro [.str x1,.int .i64 x2,.int .i64 x3],.pro [.sl 3 false (x4.map eApiSlot)]] (· = .bool r_):=by
 refine w3 fd261 fun Q hQ=>?_
 simp only[f261p] at H
 refine zr ?_
 refine zr ?_
 refine ig H ?_ ?_<;>clear H<;>intro H
 ·refine zs ?_
  refine ia eApiSlot H ?_<;>clear H<;>intro x5 H
  refine zE4 ?_
  cases H
  exact zt (zf hQ)
 ·refine zs ?_
  cases H
  exact zt (zf hQ)
def f244_C2(x0:ApiSlot)(x1:(List ApiSlot))(x2:Int):Il (Int) where
  run:=(f256p x0.fName x0.fFrom x0.fTo).bind fun x3=>(if x3=true then (some 8) else (f257p x1 x2 x0.fName x0.fFrom x0.fTo).bind fun x4=>(if x4=true then (some 7) else (f260p x0.fName x0.fFrom x0.fTo).bind fun x5=>(if x5=true then (some 2) else (f261p x2 x0.fName x0.fFrom x0.fTo x1).bind fun x6=>(if x6=true then (some 9) else (some 0)))))
  res:=fun x7=>.int .i64 x7
  hp:=fun x7=>[.cel [.sl 3 false (x1.map eApiSlot)],.cel [.int .i64 x2],.cel [.str x0.fName,.int .i64 x0.fFrom,.int .i64 x0.fTo],.els 2 [.agg [.fn 256 [.ptr 2 0],.int .i64 8],.agg [.fn 257 [.ptr 0 0,.ptr 1 0,.ptr 2 0],.int .i64 7],.agg [.fn 260 [.ptr 2 0],.int .i64 2],.agg [.fn 261 [.ptr 1 0,.ptr 2 0,.ptr 0 0],.int .i64 9]]]
def f244_L1(x0:(List ApiSlot)):Lp (Int) ((Unit)⊕(Int)) where
  body:=fun x1=>(if (decide (x1<((x0.length:Nat):Int)))=true then (at? x0 x1).bind fun x2=>((f244_C2 x2 x0 x1).run.bind fun x3=>(if (decide (x3≠0))=true then (some (.brk (Sum.inr x3))) else (some (.next (IntKind.i64.wrap (x1 + 1)))))) else (some (.brk (Sum.inl ()))))
  cst:=fun x1=>⟨put (put (put (put (fun _=>.junk) 11 (.int .i64 x1)) 10 (.int .i64 ((x0.length:Nat):Int))) 9 (.sl 3 false (x0.map eApiSlot))) 1 (.ptr 0 0),[.cel [.sl 3 false (x0.map eApiSlot)]]⟩
theorem f244_L1c(x0:(List ApiSlot))(x1:Int):(f244_L1 x0).cst x1=⟨put (put (put (put (fun _=>.junk) 11 (.int .i64 x1)) 10 (.int .i64 ((x0.length:Nat):Int))) 9 (.sl 3 false (x0.map eApiSlot))) 1 (.ptr 0 0),[.cel [.sl 3 false (x0.map eApiSlot)]]⟩:=rfl
def c244_2:C:=.seq (.reg [iI 26 (.mv (.t 5)),iI 27 (.bin .neq (.t 26) (.c (.int .i64 0)))]) (.cond (.t 27) (.seq (.reg [iI 28 (.mv (.t 5)),iI 2 (.mv (.t 28))]) .ret) (.skip))
def c244_3:C:=.seq (.reg [iI 16 (.mkfn 256 [(.t 4)]),iI 17 (.build [(1,.nilfn),(1,(.int .i64 0))] [(0,0,(.t 16)),(1,0,(.c (.int .i64 8)))]),iI 18 (.mkfn 257 [(.t 1),(.t 3),(.t 4)]),iI 19 (.build [(1,.nilfn),(1,(.int .i64 0))] [(0,0,(.t 18)),(1,0,(.c (.int .i64 7)))]),iI 20 (.mkfn 260 [(.t 4)]),iI 21 (.build [(1,.nilfn),(1,(.int .i64 0))] [(0,0,(.t 20)),(1,0,(.c (.int .i64 2)))]),iI 22 (.mkfn 261 [(.t 3),(.t 4),(.t 1)]),iI 23 (.build [(1,.nilfn),(1,(.int .i64 0))] [(0,0,(.t 22)),(1,0,(.c (.int .i64 9)))]),iI 24 (.mksl 2 4 (.agg [.nilfn,(.int .i64 0)]) [(0,(.t 17)),(1,(.t 19)),(2,(.t 21)),(3,(.t 23))]),iI 25 (.call (.c (.fn 132 [])) [(.t 24)]),iI 5 (.mv (.t 25))]) c244_2
def c244_5:C:=.seq (.block 1 (.seq (.reg [iI 13 (.mv (.t 11)),iI 14 (.iaddr 3 (.t 9) (.t 11)),iI 15 (.load 3 (.t 14)),iI 3 (.alloc [(1,(.int .i64 0))]),iI 4 (.alloc [(1,(.str [])),(1,(.int .i64 0)),(1,(.int .i64 0))]),iN (.store 0 (.t 3) (.t 13)),iN (.store 3 (.t 4) (.t 15))]) c244_3)) (.reg [iI 29 (.bin .add (.t 11) (.c (.int .i64 1))),iI 11 (.mv (.t 29))])
def c244_9:C:=.seq (.seq (.reg [iI 9 (.load 0 (.t 1)),iI 10 (.len 0 (.t 9)),iI 11 (.mv (.c (.int .i64 0)))]) (.block 0 (.loop (.seq (.reg [iI 12 (.bin .lss (.t 11) (.t 10))]) (.seq (.cond (.t 12) (.skip) (.exit 0)) c244_5))))) (.seq (.reg [iI 2 (.mv (.c (.int .i64 0)))]) .ret)
def c244_10:C:=.seq (.seq (.reg [iI 6 (.load 0 (.t 1)),iI 7 (.len 0 (.t 6)),iI 8 (.bin .gtr (.t 7) (.c (.int .i64 16)))]) (.cond (.t 8) (.seq (.reg [iI 2 (.mv (.c (.int .i64 5)))]) .ret) (.skip))) c244_9
def ir244:C:=.seq (.reg [iI 1 (.box (.t 0)),iI 2 (.mv (.c (.int .i64 0)))]) c244_10
theorem fd244:fd? Tryz.prog 244=some (30,[.slot 2],ir244):=by kernel_rfl
def f244(x0:(List ApiSlot)):Option (Int) :=
  (if (decide (16<((x0.length:Nat):Int)))=true then (some 5) else ((Lp.run (f244_L1 x0) 0).bind fun r_=>match r_ with | (Sum.inl _)=>(some 0) | (Sum.inr x1)=>(some x1)))
theorem f244_ok{x0:(List ApiSlot)}{r_:Int}(H:f244 x0=some r_):Pure Tryz.prog 244 [.sl 3 false (x0.map eApiSlot)] (· = .int .i64 r_):=by
 refine w3 fd244 fun Q hQ=>?_
 simp only[f244] at H
 refine zr ?_
 refine zq (zr ?_)
 refine ic H ?_ ?_<;>clear H<;>intro H
 ·refine zr ?_
  cases H
  exact zt (zv (zf hQ))
 ·refine zk (zm (zq (zr ?_)))
  refine zd ?_
  refine zU H [0] [1,9,10,11] (f244_L1c ..) ?_<;>clear H
  rintro x1 x_ st0_ H hst_
  rw[f244_L1c] at hst_
  simp only[f244_L1] at H
  subst hst_
  refine zr ?_
  refine zq (ic H ?_ ?_)<;>clear H<;>intro H
  ·refine zk (zm (zb (zr ?_)))
   refine ia eApiSlot H ?_<;>clear H<;>intro x2 H
   refine zE4 ?_
   refine zr ?_
   first | refine rest_lits (v:=.row 2 3 0 4) (h':=[.cel [.sl 3 false (x0.map eApiSlot)],.cel [.int .i64 x1],.cel [.str x2.fName,.int .i64 x2.fFrom,.int .i64 x2.fTo],.els 2 [.agg [.fn 256 [.ptr 2 0],.int .i64 8],.agg [.fn 257 [.ptr 0 0,.ptr 1 0,.ptr 2 0],.int .i64 7],.agg [.fn 260 [.ptr 2 0],.int .i64 2],.agg [.fn 261 [.ptr 1 0,.ptr 2 0,.ptr 0 0],.int .i64 9]]]) (by rfl) (by rfl) ?_ | refine evTs_any (v:=.row 2 3 0 4) (h':=[.cel [.sl 3 false (x0.map eApiSlot)],.cel [.int .i64 x1],.cel [.str x2.fName,.int .i64 x2.fFrom,.int .i64 x2.fTo],.els 2 [.agg [.fn 256 [.ptr 2 0],.int .i64 8],.agg [.fn 257 [.ptr 0 0,.ptr 1 0,.ptr 2 0],.int .i64 7],.agg [.fn 260 [.ptr 2 0],.int .i64 2],.agg [.fn 261 [.ptr 1 0,.ptr 2 0,.ptr 0 0],.int .i64 9]]]) rfl (by rfl) ?_
   refine zs ?_
   refine evTs_inl (I:=f244_C2 x2 x0 x1) (args:=[.row 2 3 0 4]) H (by rfl) fd132 (by rfl) (Nat.le_of_ble_eq_true rfl) ?_ ?_<;>clear H
   ·rintro v_ Q_ H hqf244_C2
    simp only[f244_C2] at H
    dsimp only[List.length_cons,List.length_nil]
    refine zr ?_
    refine zq (zr ?_)
    refine zd ?_
    refine AW.rounds 40 ?_
    refine Rounds.go ?_
    refine zr ?_
    refine zq (za (zk (zm (zb (zr ?_)))))
    refine evTs_any (v:=.eptr 3 0 0) rfl (by rfl) ?_
    refine zs ?_
    try refine evTs_any (v:=.agg [.fn 256 [.ptr 2 0],.int .i64 8]) rfl (by rfl) ?_
    refine zs ?_
    refine zr ?_
    refine evTs_flat hFn H (fun _ h=>f256p_ok h) (by rfl) (by rfl) (by simp only[deep_eq,imm_simps,imm_rowE,imm_ptrE,imm_enc,imm_mrefE,imm_mpE,imm_arowE,omap_simps,take_map_len,take_map_set,take_map_set2,List.length_set,le_refl_true,Nat.zero_add,and_true,true_and,List.drop_zero,Option.map_some,wm,↓wk,↓wl,nq,evV,↓reduceIte,sevalprocAttr];rfl) (by rfl) (fun _=>rfl) (fun _=>rfl) ?_<;>clear H<;>intro x3 H
    refine zE0 ?_
    refine ic H ?_ ?_<;>clear H<;>intro H
    ·refine zr ?_
     refine zt (zp ?_)
     refine roundQ.ret ?_
     refine zh (zv ?_)
     cases H
     exact hqf244_C2 _ _ _ (.inr rfl) (Le.tq 4 [0,1,2,3] [2] rfl) (by simp only[resVs,omap,resV,f244_C2,wm,wmr,rrm,↓wk,↓wl,evV,↓reduceIte,sevalprocAttr]) (by simp only[f244_C2,wm,wmr,rrm,↓wk,↓wl,evV,↓reduceIte,sevalprocAttr])
    ·refine zk (zo (ze ?_))
     refine roundQ.next (st2:=⟨put (put (put (fun _=>.junk) 7 (.int .i64 1)) 6 (.int .i64 4)) 5 (.row 2 3 0 4),[.cel [.sl 3 false (x0.map eApiSlot)],.cel [.int .i64 x1],.cel [.str x2.fName,.int .i64 x2.fFrom,.int .i64 x2.fTo],.els 2 [.agg [.fn 256 [.ptr 2 0],.int .i64 8],.agg [.fn 257 [.ptr 0 0,.ptr 1 0,.ptr 2 0],.int .i64 7],.agg [.fn 260 [.ptr 2 0],.int .i64 2],.agg [.fn 261 [.ptr 1 0,.ptr 2 0,.ptr 0 0],.int .i64 9]]]⟩) (Le.tq 4 [0,1,2,3] [5,6,7] (by simp only[wm,wmr,rrm,↓wk,↓wl,evV,↓reduceIte,sevalprocAttr]<;>rfl)) ?_
     refine Rounds.go ?_
     refine zr ?_
     refine zq (za (zk (zm (zb (zr ?_)))))
     refine evTs_any (v:=.eptr 3 1 0) rfl (by rfl) ?_
     refine zs ?_
     try refine evTs_any (v:=.agg [.fn 257 [.ptr 0 0,.ptr 1 0,.ptr 2 0],.int .i64 7]) rfl (by rfl) ?_
     refine zs ?_
     refine zr ?_
     refine evTs_flat hFn H (fun _ h=>f257p_ok h) (by rfl) (by rfl) (by simp only[deep_eq,imm_simps,imm_rowE,imm_ptrE,imm_enc,imm_mrefE,imm_mpE,imm_arowE,omap_simps,take_map_len,take_map_set,take_map_set2,List.length_set,le_refl_true,Nat.zero_add,and_true,true_and,List.drop_zero,Option.map_some,wm,↓wk,↓wl,nq,evV,↓reduceIte,sevalprocAttr];rfl) (by rfl) (fun _=>rfl) (fun _=>rfl) ?_<;>clear H<;>intro x4 H
     refine zE0 ?_
     refine ic H ?_ ?_<;>clear H<;>intro H
     ·refine zr ?_
      refine zt (zp ?_)
      refine roundQ.ret ?_
      refine zh (zv ?_)
      cases H
      exact hqf244_C2 _ _ _ (.inr rfl) (Le.tq 4 [0,1,2,3] [2] rfl) (by simp only[resVs,omap,resV,f244_C2,wm,wmr,rrm,↓wk,↓wl,evV,↓reduceIte,sevalprocAttr]) (by simp only[f244_C2,wm,wmr,rrm,↓wk,↓wl,evV,↓reduceIte,sevalprocAttr])
     ·refine zk (zo (ze ?_))
      refine roundQ.next (st2:=⟨put (put (put (fun _=>.junk) 7 (.int .i64 2)) 6 (.int .i64 4)) 5 (.row 2 3 0 4),[.cel [.sl 3 false (x0.map eApiSlot)],.cel [.int .i64 x1],.cel [.str x2.fName,.int .i64 x2.fFrom,.int .i64 x2.fTo],.els 2 [.agg [.fn 256 [.ptr 2 0],.int .i64 8],.agg [.fn 257 [.ptr 0 0,.ptr 1 0,.ptr 2 0],.int .i64 7],.agg [.fn 260 [.ptr 2 0],.int .i64 2],.agg [.fn 261 [.ptr 1 0,.ptr 2 0,.ptr 0 0],.int .i64 9]]]⟩) (Le.tq 4 [0,1,2,3] [5,6,7] (by simp only[wm,wmr,rrm,↓wk,↓wl,evV,↓reduceIte,sevalprocAttr]<;>rfl)) ?_
      refine Rounds.go ?_
      refine zr ?_
      refine zq (za (zk (zm (zb (zr ?_)))))
      refine evTs_any (v:=.eptr 3 2 0) rfl (by rfl) ?_
      refine zs ?_
      try refine evTs_any (v:=.agg [.fn 260 [.ptr 2 0],.int .i64 2]) rfl (by rfl) ?_
      refine zs ?_
      refine zr ?_
      refine evTs_flat hFn H (fun _ h=>f260p_ok h) (by rfl) (by rfl) (by simp only[deep_eq,imm_simps,imm_rowE,imm_ptrE,imm_enc,imm_mrefE,imm_mpE,imm_arowE,omap_simps,take_map_len,take_map_set,take_map_set2,List.length_set,le_refl_true,Nat.zero_add,and_true,true_and,List.drop_zero,Option.map_some,wm,↓wk,↓wl,nq,evV,↓reduceIte,sevalprocAttr];rfl) (by rfl) (fun _=>rfl) (fun _=>rfl) ?_<;>clear H<;>intro x5 H
      refine zE0 ?_
      refine ic H ?_ ?_<;>clear H<;>intro H
      ·refine zr ?_
       refine zt (zp ?_)
       refine roundQ.ret ?_
       refine zh (zv ?_)
       cases H
       exact hqf244_C2 _ _ _ (.inr rfl) (Le.tq 4 [0,1,2,3] [2] rfl) (by simp only[resVs,omap,resV,f244_C2,wm,wmr,rrm,↓wk,↓wl,evV,↓reduceIte,sevalprocAttr]) (by simp only[f244_C2,wm,wmr,rrm,↓wk,↓wl,evV,↓reduceIte,sevalprocAttr])
      ·refine zk (zo (ze ?_))
       refine roundQ.next (st2:=⟨put (put (put (fun _=>.junk) 7 (.int .i64 3)) 6 (.int .i64 4)) 5 (.row 2 3 0 4),[.cel [.sl 3 false (x0.map eApiSlot)],.cel [.int .i64 x1],.cel [.str x2.fName,.int .i64 x2.fFrom,.int .i64 x2.fTo],.els 2 [.agg [.fn 256 [.ptr 2 0],.int .i64 8],.agg [.fn 257 [.ptr 0 0,.ptr 1 0,.ptr 2 0],.int .i64 7],.agg [.fn 260 [.ptr 2 0],.int .i64 2],.agg [.fn 261 [.ptr 1 0,.ptr 2 0,.ptr 0 0],.int .i64 9]]]⟩) (Le.tq 4 [0,1,2,3] [5,6,7] (by simp only[wm,wmr,rrm,↓wk,↓wl,evV,↓reduceIte,sevalprocAttr]<;>rfl)) ?_
       refine Rounds.go ?_
       refine zr ?_
       refine zq (za (zk (zm (zb (zr ?_)))))
       refine evTs_any (v:=.eptr 3 3 0) rfl (by rfl) ?_
       refine zs ?_
       try refine evTs_any (v:=.agg [.fn 261 [.ptr 1 0,.ptr 2 0,.ptr 0 0],.int .i64 9]) rfl (by rfl) ?_
       refine zs ?_
       refine zr ?_
       refine evTs_flat hFn H (fun _ h=>f261p_ok h) (by rfl) (by rfl) (by simp only[deep_eq,imm_simps,imm_rowE,imm_ptrE,imm_enc,imm_mrefE,imm_mpE,imm_arowE,omap_simps,take_map_len,take_map_set,take_map_set2,List.length_set,le_refl_true,Nat.zero_add,and_true,true_and,List.drop_zero,Option.map_some,wm,↓wk,↓wl,nq,evV,↓reduceIte,sevalprocAttr];rfl) (by rfl) (fun _=>rfl) (fun _=>rfl) ?_<;>clear H<;>intro x6 H
       refine zE0 ?_
       refine ic H ?_ ?_<;>clear H<;>intro H
       ·refine zr ?_
        refine zt (zp ?_)
        refine roundQ.ret ?_
        refine zh (zv ?_)
        cases H
        exact hqf244_C2 _ _ _ (.inr rfl) (Le.tq 4 [0,1,2,3] [2] rfl) (by simp only[resVs,omap,resV,f244_C2,wm,wmr,rrm,↓wk,↓wl,evV,↓reduceIte,sevalprocAttr]) (by simp only[f244_C2,wm,wmr,rrm,↓wk,↓wl,evV,↓reduceIte,sevalprocAttr])
       ·refine zk (zo (ze ?_))
        refine roundQ.next (st2:=⟨put (put (put (fun _=>.junk) 7 (.int .i64 4)) 6 (.int .i64 4)) 5 (.row 2 3 0 4),[.cel [.sl 3 false (x0.map eApiSlot)],.cel [.int .i64 x1],.cel [.str x2.fName,.int .i64 x2.fFrom,.int .i64 x2.fTo],.els 2 [.agg [.fn 256 [.ptr 2 0],.int .i64 8],.agg [.fn 257 [.ptr 0 0,.ptr 1 0,.ptr 2 0],.int .i64 7],.agg [.fn 260 [.ptr 2 0],.int .i64 2],.agg [.fn 261 [.ptr 1 0,.ptr 2 0,.ptr 0 0],.int .i64 9]]]⟩) (Le.tq 4 [0,1,2,3] [5,6,7] (by simp only[wm,wmr,rrm,↓wk,↓wl,evV,↓reduceIte,sevalprocAttr]<;>rfl)) ?_
        refine Rounds.go ?_
        refine zr ?_
        refine zq (zc (zx (zy ?_)))
        refine roundQ.exit ?_
        refine zi (zm (zr ?_))
        refine zt ?_
        cases H
        exact hqf244_C2 _ _ _ (.inr rfl) (Le.tq 4 [0,1,2,3] [2] rfl) (by simp only[resVs,omap,resV,f244_C2,wm,wmr,rrm,↓wk,↓wl,evV,↓reduceIte,sevalprocAttr]) (by simp only[f244_C2,wm,wmr,rrm,↓wk,↓wl,evV,↓reduceIte,sevalprocAttr])
   ·rintro x7 s_ h_ H hs_ hh_
    simp only[f244_C2] at H hs_ hh_
    subst hs_
    subst hh_
    refine zs ?_
    refine zr ?_
    refine ic H ?_ ?_<;>clear H<;>intro H
    ·refine zr ?_
     refine zt (zp (loopQ.ret H ?_))<;>clear H<;>intro H
     try dsimp only at H
     cases H
     exact zh (zv (zf hQ))
    ·refine zk (zo (ze ?_))
     exact zu H [0] [1,9,10,11] (f244_L1c ..)
  ·refine zx (zy (loopQ.exit H ?_))<;>clear H<;>intro H
   try dsimp only at H
   refine zi (zm (zr ?_))
   cases H
   exact zt (zf hQ)
def c227_2:C:=.seq (.seq (.reg [iI 10 (.mv (.t 3)),iI 11 (.bin .neq (.t 10) (.c (.int .i64 0)))]) (.cond (.t 11) (.seq (.reg [iI 12 (.mv (.t 3)),iI 2 (.mv (.t 12))]) .ret) (.skip))) (.seq (.reg [iI 13 (.faddr 9 (.t 1)),iI 14 (.load 0 (.t 13)),iI 15 (.call (.c (.fn 244 [])) [(.t 14)]),iI 2 (.mv (.t 15))]) .ret)
def c227_3:C:=.seq (.reg [iI 4 (.mkfn 241 [(.t 1)]),iI 5 (.build [(1,.nilfn),(1,(.int .i64 0))] [(0,0,(.t 4)),(1,0,(.c (.int .i64 2)))]),iI 6 (.mkfn 243 [(.t 1)]),iI 7 (.build [(1,.nilfn),(1,(.int .i64 0))] [(0,0,(.t 6)),(1,0,(.c (.int .i64 2)))]),iI 8 (.mksl 2 2 (.agg [.nilfn,(.int .i64 0)]) [(0,(.t 5)),(1,(.t 7))]),iI 9 (.call (.c (.fn 132 [])) [(.t 8)]),iI 3 (.mv (.t 9))]) c227_2
def ir227:C:=.seq (.reg [iI 1 (.box (.t 0)),iI 2 (.mv (.c (.int .i64 0)))]) c227_3
theorem fd227:fd? Tryz.prog 227=some (16,[.slot 2],ir227):=by kernel_rfl
def f227(x0:ApiFeature):Option (Int) :=
  ((f227_C1 x0).run.bind fun x1=>(if (decide (x1≠0))=true then (some x1) else (f244 x0.fWheel).bind fun x2=>(some x2)))
end
end Go.Proofs.YtnaemmpcffnbkaaGreatDoor
