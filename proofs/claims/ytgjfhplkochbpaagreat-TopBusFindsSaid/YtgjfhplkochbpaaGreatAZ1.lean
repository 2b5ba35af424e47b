import Derived.Test.YtgjfhplkochbpaaGreatAU1
import Derived.Test.YtgjfhplkochbpaaGreatAM6
import Derived.Test.YtgjfhplkochbpaaGreatAMB
import Derived.Test.YtgjfhplkochbpaaGreatProg
import Derived.KernelRfl
namespace Go.Proofs.YtgjfhplkochbpaaGreat
open Go Go.Ab
set_option maxHeartbeats 1000000
set_option maxRecDepth 4000
set_option linter.unusedSimpArgs false
set_option linter.unusedVariables false
structure ManagerResult where
  fKind:Int
  fData:(List UInt8)
  fReason:Int
  fTries:Int
def eManagerResult(x:ManagerResult):AV:=.agg [.int .i64 x.fKind,.str x.fData,.int .i64 x.fReason,.int .i64 x.fTries]
instance:IsFlat eManagerResult:=⟨fun _=>rfl⟩
instance:IsEnc 4 eManagerResult:=⟨fun _=>rfl,fun _=>rfl,fun _=>rfl⟩
structure ManagerManager where
  fIdentity:Int
  fSeq:Int
  fTries:Int
def eManagerManager(x:ManagerManager):AV:=.agg [.int .u64 x.fIdentity,.int .i64 x.fSeq,.int .i64 x.fTries]
instance:IsFlat eManagerManager:=⟨fun _=>rfl⟩
instance:IsEnc 3 eManagerManager:=⟨fun _=>rfl,fun _=>rfl,fun _=>rfl⟩
structure ManagerWire where
  fDevices:(List ResponderDevice)
  fFaults:(List Int)
  fLate:(List (List UInt8))
def eManagerWire(x:ManagerWire):AV:=.agg [.sl 7 false (x.fDevices.map eResponderDevice),.sl 0 false (x.fFaults.map (AV.int .i64)),.sl 0 false (x.fLate.map AV.str)]
instance:IsEnc 3 eManagerWire:=⟨fun _=>rfl,fun _=>rfl,fun _=>rfl⟩
structure ManagerRequest where
  fTo:Int
  fKind:Int
  fParam:Int
  fData:(List UInt8)
def eManagerRequest(x:ManagerRequest):AV:=.agg [.int .u64 x.fTo,.int .i64 x.fKind,.int .i64 x.fParam,.str x.fData]
instance:IsFlat eManagerRequest:=⟨fun _=>rfl⟩
instance:IsEnc 4 eManagerRequest:=⟨fun _=>rfl,fun _=>rfl,fun _=>rfl⟩
def c13_0:C:=.seq (.reg [iI 3 (.mv (.t 0)),iI 4 (.build [(1,(.int .u64 0)),(1,(.int .i64 0)),(1,(.int .i64 0)),(1,(.str [])),(1,(.int .i64 0)),(1,(.bool false)),(1,(.bool false))] [(0,0,(.t 3)),(1,0,(.c (.int .i64 1))),(2,0,(.c (.int .i64 1)))]),iN (.store 7 (.t 2) (.t 4))]) .ret
def ir13:C:=.seq (.reg [iI 2 (.alloc [(1,(.int .u64 0)),(1,(.int .i64 0)),(1,(.int .i64 0)),(1,(.str [])),(1,(.int .i64 0)),(1,(.bool false)),(1,(.bool false))])]) c13_0
theorem fd13:fd? Tryz.prog 13=some (5,[.cell 2 7],ir13):=by kernel_rfl
noncomputable def f13(x0:Int):Option (ResponderDevice) :=
  (some (ResponderDevice.mk x0 1 1 ([]) 0 false false))
theorem f13_ok{x0:Int}{r_:ResponderDevice}(H:f13 x0=some r_):Pure Tryz.prog 13 [.int .u64 x0] (· = .agg [.int .u64 r_.fIdentity,.int .i64 r_.fFootprint,.int .i64 r_.fAddress,.str r_.fLabel,.int .i64 r_.fHours,.bool r_.fMuted,.bool r_.fIdentify]):=by
 refine Pure.walk3 fd13 none (Nat.le_of_ble_eq_true rfl) (by rfl) fun Q hQ=>?_
 simp only[f13] at H
 refine AW.rseq ?_
 try simp only[wm,wmd,↓wk,↓wl,nq,evV,↓reduceIte,sevalprocAttr]
 refine AW.rseq ?_
 try simp only[wm,wmd,↓wk,↓wl,nq,evV,↓reduceIte,sevalprocAttr]
 refine AW.ret ?_
 cases H
 exact hQ _ _ _ _ (.inr rfl) (by simp only[resVs,omap,resV,wm,wmd,↓wk,↓wl,nq,evV,↓reduceIte,sevalprocAttr];rfl) (hand_plain (by rfl)) (by first | exact Or.inl rfl | exact Or.inr rfl)
def c23_0:C:=.cond (.t 30) (.seq (.reg [iI 2 (.mv (.c (.int .i64 2)))]) .ret) (.skip)
def c23_1:C:=.seq (.reg [iI 2 (.mv (.c (.int .i64 0)))]) .ret
def c23_2:C:=.seq (.seq (.reg [iI 3 (.faddr 0 (.t 1)),iI 4 (.load 0 (.t 3)),iI 5 (.bin .lss (.t 4) (.c (.int .u64 1))),iI 6 (.mv (.t 5)),iG (some 7) 6 false (.faddr 0 (.t 1)),iG (some 8) 6 false (.load 0 (.t 7)),iG (some 9) 6 false (.bin .geq (.t 8) (.c (.int .u64 281474976710655))),iI 10 (.pick (.t 6) (.c (.bool true)) (.t 9)),iI 11 (.mv (.t 10)),iG (some 12) 11 false (.faddr 1 (.t 1)),iG (some 13) 11 false (.load 0 (.t 12)),iG (some 14) 11 false (.bin .lss (.t 13) (.c (.int .i64 0))),iI 15 (.pick (.t 11) (.c (.bool true)) (.t 14)),iI 16 (.mv (.t 15)),iG (some 17) 16 false (.faddr 1 (.t 1)),iG (some 18) 16 false (.load 0 (.t 17)),iG (some 19) 16 false (.bin .gtr (.t 18) (.c (.int .i64 255))),iI 20 (.pick (.t 16) (.c (.bool true)) (.t 19)),iI 21 (.mv (.t 20)),iG (some 22) 21 false (.faddr 2 (.t 1)),iG (some 23) 21 false (.load 0 (.t 22)),iG (some 24) 21 false (.bin .lss (.t 23) (.c (.int .i64 1))),iI 25 (.pick (.t 21) (.c (.bool true)) (.t 24)),iI 26 (.mv (.t 25)),iG (some 27) 26 false (.faddr 2 (.t 1)),iG (some 28) 26 false (.load 0 (.t 27)),iG (some 29) 26 false (.bin .gtr (.t 28) (.c (.int .i64 16))),iI 30 (.pick (.t 26) (.c (.bool true)) (.t 29))]) c23_0) c23_1
def ir23:C:=.seq (.reg [iI 1 (.box (.t 0)),iI 2 (.mv (.c (.int .i64 0)))]) c23_2
theorem fd23:fd? Tryz.prog 23=some (31,[.slot 2],ir23):=by kernel_rfl
noncomputable def f23(x0:ManagerManager):Option (Int) :=
  (if (decide (x0.fIdentity<1))=true then (some 2) else (if (decide (281474976710655≤x0.fIdentity))=true then (some 2) else (if (decide (x0.fSeq<0))=true then (some 2) else (if (decide (255<x0.fSeq))=true then (some 2) else (if (decide (x0.fTries<1))=true then (some 2) else (if (decide (16<x0.fTries))=true then (some 2) else (some 0)))))))
theorem f23_ok{x0:ManagerManager}{r_:Int}(H:f23 x0=some r_):Pure Tryz.prog 23 [.agg [.int .u64 x0.fIdentity,.int .i64 x0.fSeq,.int .i64 x0.fTries]] (· = .int .i64 r_):=by
 refine Pure.walk3 fd23 none (Nat.le_of_ble_eq_true rfl) (by rfl) fun Q hQ=>?_
 simp only[f23] at H
 refine AW.rseq ?_
 try simp only[wm,wmd,↓wk,↓wl,nq,evV,↓reduceIte,sevalprocAttr]
 refine AW.sseq ?_
 refine AW.rseq ?_
 try simp only[wm,wmd,↓wk,↓wl,nq,evV,↓reduceIte,sevalprocAttr]
 refine evTs_ifg H (by rfl) ?_ ?_<;>clear H<;>intro H
 ·try simp only[wm,wmd,↓wk,↓wl,nq,evV,↓reduceIte,sevalprocAttr]
  refine AW.ift (by rfl) ?_
  refine AW.rseq ?_
  try simp only[wm,wmd,↓wk,↓wl,nq,evV,↓reduceIte,sevalprocAttr]
  refine AW.ret ?_
  refine seqQ.ret ?_
  cases H
  exact hQ _ _ _ _ (.inr rfl) (by simp only[resVs,omap,resV,wm,wmd,↓wk,↓wl,nq,evV,↓reduceIte,sevalprocAttr];rfl) (hand_plain (by rfl)) (by first | exact Or.inl rfl | exact Or.inr rfl)
 ·try simp only[wm,wmd,↓wk,↓wl,nq,evV,↓reduceIte,sevalprocAttr]
  refine evTs_ifg H (by rfl) ?_ ?_<;>clear H<;>intro H
  ·try simp only[wm,wmd,↓wk,↓wl,nq,evV,↓reduceIte,sevalprocAttr]
   refine AW.ift (by rfl) ?_
   refine AW.rseq ?_
   try simp only[wm,wmd,↓wk,↓wl,nq,evV,↓reduceIte,sevalprocAttr]
   refine AW.ret ?_
   refine seqQ.ret ?_
   cases H
   exact hQ _ _ _ _ (.inr rfl) (by simp only[resVs,omap,resV,wm,wmd,↓wk,↓wl,nq,evV,↓reduceIte,sevalprocAttr];rfl) (hand_plain (by rfl)) (by first | exact Or.inl rfl | exact Or.inr rfl)
  ·try simp only[wm,wmd,↓wk,↓wl,nq,evV,↓reduceIte,sevalprocAttr]
   refine evTs_ifg H (by rfl) ?_ ?_<;>clear H<;>intro H
   ·try simp only[wm,wmd,↓wk,↓wl,nq,evV,↓reduceIte,sevalprocAttr]
    refine AW.ift (by rfl) ?_
    refine AW.rseq ?_
    try simp only[wm,wmd,↓wk,↓wl,nq,evV,↓reduceIte,sevalprocAttr]
    refine AW.ret ?_
    refine seqQ.ret ?_
    cases H
    exact hQ _ _ _ _ (.inr rfl) (by simp only[resVs,omap,resV,wm,wmd,↓wk,↓wl,nq,evV,↓reduceIte,sevalprocAttr];rfl) (hand_plain (by rfl)) (by first | exact Or.inl rfl | exact Or.inr rfl)
   ·try simp only[wm,wmd,↓wk,↓wl,nq,evV,↓reduceIte,sevalprocAttr]
    refine evTs_ifg H (by rfl) ?_ ?_<;>clear H<;>intro H
    ·try simp only[wm,wmd,↓wk,↓wl,nq,evV,↓reduceIte,sevalprocAttr]
     refine AW.ift (by rfl) ?_
     refine AW.rseq ?_
     try simp only[wm,wmd,↓wk,↓wl,nq,evV,↓reduceIte,sevalprocAttr]
     refine AW.ret ?_
     refine seqQ.ret ?_
     cases H
     exact hQ _ _ _ _ (.inr rfl) (by simp only[resVs,omap,resV,wm,wmd,↓wk,↓wl,nq,evV,↓reduceIte,sevalprocAttr];rfl) (hand_plain (by rfl)) (by first | exact Or.inl rfl | exact Or.inr rfl)
    ·try simp only[wm,wmd,↓wk,↓wl,nq,evV,↓reduceIte,sevalprocAttr]
     refine evTs_ifg H (by rfl) ?_ ?_<;>clear H<;>intro H
     ·try simp only[wm,wmd,↓wk,↓wl,nq,evV,↓reduceIte,sevalprocAttr]
      refine AW.ift (by rfl) ?_
      refine AW.rseq ?_
      try simp only[wm,wmd,↓wk,↓wl,nq,evV,↓reduceIte,sevalprocAttr]
      refine AW.ret ?_
      refine seqQ.ret ?_
      cases H
      exact hQ _ _ _ _ (.inr rfl) (by simp only[resVs,omap,resV,wm,wmd,↓wk,↓wl,nq,evV,↓reduceIte,sevalprocAttr];rfl) (hand_plain (by rfl)) (by first | exact Or.inl rfl | exact Or.inr rfl)
     ·try simp only[wm,wmd,↓wk,↓wl,nq,evV,↓reduceIte,sevalprocAttr]
      refine AW.ifc H (by rfl) ?_ ?_<;>clear H<;>intro H
      ·refine AW.rseq ?_
       try simp only[wm,wmd,↓wk,↓wl,nq,evV,↓reduceIte,sevalprocAttr]
       refine AW.ret ?_
       refine seqQ.ret ?_
       cases H
       exact hQ _ _ _ _ (.inr rfl) (by simp only[resVs,omap,resV,wm,wmd,↓wk,↓wl,nq,evV,↓reduceIte,sevalprocAttr];rfl) (hand_plain (by rfl)) (by first | exact Or.inl rfl | exact Or.inr rfl)
      ·refine AW.skip ?_
       refine seqQ.norm ?_
       refine AW.rseq ?_
       try simp only[wm,wmd,↓wk,↓wl,nq,evV,↓reduceIte,sevalprocAttr]
       refine AW.ret ?_
       cases H
       exact hQ _ _ _ _ (.inr rfl) (by simp only[resVs,omap,resV,wm,wmd,↓wk,↓wl,nq,evV,↓reduceIte,sevalprocAttr];rfl) (hand_plain (by rfl)) (by first | exact Or.inl rfl | exact Or.inr rfl)
def c14_0:C:=.cond (.t 14) (.seq (.reg [iI 15 (.build [(1,(.int .u64 0)),(1,(.int .i64 0)),(1,(.int .i64 0))] []),iI 16 (.mv (.t 7)),iN (.store 3 (.t 4) (.t 15)),iI 5 (.mv (.t 16))]) .ret) (.skip)
def c14_1:C:=.seq (.reg [iI 13 (.mv (.t 7)),iI 14 (.bin .neq (.t 13) (.c (.int .i64 0)))]) c14_0
def c14_2:C:=.seq (.reg [iI 17 (.load 3 (.t 6)),iN (.store 3 (.t 4) (.t 17)),iI 5 (.mv (.c (.int .i64 0)))]) .ret
def c14_3:C:=.seq (.seq (.reg [iI 11 (.load 3 (.t 6)),iI 12 (.call (.c (.fn 23 [])) [(.t 11)]),iI 7 (.mv (.t 12))]) c14_1) c14_2
def c14_4:C:=.seq (.reg [iI 8 (.mv (.t 0)),iI 9 (.mv (.t 1)),iI 10 (.build [(1,(.int .u64 0)),(1,(.int .i64 0)),(1,(.int .i64 0))] [(0,0,(.t 8)),(2,0,(.t 9))]),iI 6 (.alloc [(1,(.int .u64 0)),(1,(.int .i64 0)),(1,(.int .i64 0))]),iN (.store 3 (.t 6) (.t 10))]) c14_3
def ir14:C:=.seq (.reg [iI 4 (.alloc [(1,(.int .u64 0)),(1,(.int .i64 0)),(1,(.int .i64 0))]),iI 5 (.mv (.c (.int .i64 0)))]) c14_4
theorem fd14:fd? Tryz.prog 14=some (18,[.cell 4 3,.slot 5],ir14):=by kernel_rfl
noncomputable def f14(x0:Int)(x1:Int):Option (ManagerManager×Int) :=
  (f23 (ManagerManager.mk x0 0 x1)).bind fun x2=>(if (decide (x2≠0))=true then (some ((ManagerManager.mk 0 0 0),x2)) else (some ((ManagerManager.mk x0 0 x1),0)))
theorem f14_ok{x0:Int}{x1:Int}{r_:ManagerManager×Int}(H:f14 x0 x1=some r_):Pure Tryz.prog 14 [.int .u64 x0,.int .i64 x1] (· = .tup [.agg [.int .u64 r_.1.fIdentity,.int .i64 r_.1.fSeq,.int .i64 r_.1.fTries],.int .i64 r_.2]):=by
 refine Pure.walk3 fd14 none (Nat.le_of_ble_eq_true rfl) (by rfl) fun Q hQ=>?_
 simp only[f14] at H
 refine AW.rseq ?_
 try simp only[wm,wmd,↓wk,↓wl,nq,evV,↓reduceIte,sevalprocAttr]
 refine AW.rseq ?_
 try simp only[wm,wmd,↓wk,↓wl,nq,evV,↓reduceIte,sevalprocAttr]
 refine AW.sseq ?_
 refine AW.rseq ?_
 try simp only[wm,wmd,↓wk,↓wl,nq,evV,↓reduceIte,sevalprocAttr]
 refine evTs_pure hFn H (fun _ h=>f23_ok h) (by rfl) (by rfl) (by rfl) (by rfl) (fun _=>rfl) ?_<;>clear H<;>intro x2 H
 try simp only[eL,wm,wmd,↓wk,↓wl,nq,evV,↓reduceIte,sevalprocAttr]
 refine AW.rseq ?_
 try simp only[wm,wmd,↓wk,↓wl,nq,evV,↓reduceIte,sevalprocAttr]
 refine AW.ifc H (by rfl) ?_ ?_<;>clear H<;>intro H
 ·refine AW.rseq ?_
  try simp only[wm,wmd,↓wk,↓wl,nq,evV,↓reduceIte,sevalprocAttr]
  refine AW.ret ?_
  refine seqQ.ret ?_
  cases H
  exact hQ _ _ _ _ (.inr rfl) (by simp only[resVs,omap,resV,wm,wmd,↓wk,↓wl,nq,evV,↓reduceIte,sevalprocAttr];rfl) (hand_plain (by rfl)) (by first | exact Or.inl rfl | exact Or.inr rfl)
 ·refine AW.skip ?_
  refine seqQ.norm ?_
  refine AW.rseq ?_
  try simp only[wm,wmd,↓wk,↓wl,nq,evV,↓reduceIte,sevalprocAttr]
  refine AW.ret ?_
  cases H
  exact hQ _ _ _ _ (.inr rfl) (by simp only[resVs,omap,resV,wm,wmd,↓wk,↓wl,nq,evV,↓reduceIte,sevalprocAttr];rfl) (hand_plain (by rfl)) (by first | exact Or.inl rfl | exact Or.inr rfl)
def c124_0:C:=.seq (.reg [iI 4 (.faddr 0 (.t 2)),iI 5 (.load 0 (.t 4)),iI 6 (.faddr 0 (.t 1)),iI 7 (.load 0 (.t 6)),iI 8 (.bin .eql (.t 5) (.t 7)),iI 3 (.mv (.t 8))]) .ret
def ir124:C:=.seq (.reg [iI 2 (.box (.t 0)),iI 3 (.mv (.c (.bool false)))]) c124_0
theorem fd124:fd? Tryz.prog 124=some (9,[.slot 3],ir124):=by kernel_rfl
noncomputable def f124p(x0:ResponderDevice)(x1:Int)(x2:Int)(x3:Int)(x4:(List UInt8))(x5:Int)(x6:Bool)(x7:Bool):Option (Bool) :=
  (some (decide (x0.fIdentity=x1)))
theorem f124p_ok{x0:ResponderDevice}{x1:Int}{x2:Int}{x3:Int}{x4:(List UInt8)}{x5:Int}{x6:Bool}{x7:Bool}{r_:Bool}(H:f124p x0 x1 x2 x3 x4 x5 x6 x7=some r_):Pure Tryz.prog 124 [.agg [.int .u64 x0.fIdentity,.int .i64 x0.fFootprint,.int .i64 x0.fAddress,.str x0.fLabel,.int .i64 x0.fHours,.bool x0.fMuted,.bool x0.fIdentify],.pro [.int .u64 x1,.int .i64 x2,.int .i64 x3,.str x4,.int .i64 x5,.bool x6,.bool x7]] (· = .bool r_):=by
 refine Pure.walk3 fd124 none (Nat.le_of_ble_eq_true rfl) (by rfl) fun Q hQ=>?_
 simp only[f124p] at H
 refine AW.rseq ?_
 try simp only[wm,wmd,↓wk,↓wl,nq,evV,↓reduceIte,sevalprocAttr]
 refine AW.rseq ?_
 try simp only[wm,wmd,↓wk,↓wl,nq,evV,↓reduceIte,sevalprocAttr]
 refine AW.ret ?_
 cases H
 exact hQ _ _ _ _ (.inr rfl) (by simp only[resVs,omap,resV,wm,wmd,↓wk,↓wl,nq,evV,↓reduceIte,sevalprocAttr];rfl) (hand_plain (by rfl)) (by first | exact Or.inl rfl | exact Or.inr rfl)
noncomputable def f130_124_L1(x0:(List ResponderDevice))(x1:Int)(x2:Int)(x3:Int)(x4:(List UInt8))(x5:Int)(x6:Bool)(x7:Bool):Lp (Int) ((Unit)⊕(Int)) where
  body:=fun x8=>(if (decide (x8<((x0.length:Nat):Int)))=true then (at? x0 x8).bind fun x9=>(f124p x9 x1 x2 x3 x4 x5 x6 x7).bind fun xa=>(if xa=true then (some (.brk (Sum.inr x8))) else (some (.next (IntKind.i64.wrap (x8 + 1))))) else (some (.brk (Sum.inl ()))))
  cst:=fun x8=>⟨put (put (put (put (fun _=>.junk) 8 (.int .i64 x8)) 7 (.int .i64 ((x0.length:Nat):Int))) 1 (.fn 124 [.pro [.int .u64 x1,.int .i64 x2,.int .i64 x3,.str x4,.int .i64 x5,.bool x6,.bool x7]])) 0 (.sl 7 false (x0.map eResponderDevice)),[]⟩
theorem f130_124_L1c(x0:(List ResponderDevice))(x1:Int)(x2:Int)(x3:Int)(x4:(List UInt8))(x5:Int)(x6:Bool)(x7:Bool)(x8:Int):(f130_124_L1 x0 x1 x2 x3 x4 x5 x6 x7).cst x8=⟨put (put (put (put (fun _=>.junk) 8 (.int .i64 x8)) 7 (.int .i64 ((x0.length:Nat):Int))) 1 (.fn 124 [.pro [.int .u64 x1,.int .i64 x2,.int .i64 x3,.str x4,.int .i64 x5,.bool x6,.bool x7]])) 0 (.sl 7 false (x0.map eResponderDevice)),[]⟩:=rfl
def c130_0:C:=.cond (.t 16) (.seq (.reg [iI 17 (.mv (.t 5)),iI 4 (.mv (.t 17))]) .ret) (.skip)
def c130_1:C:=.seq (.reg [iI 11 (.mv (.t 1)),iI 12 (.mv (.t 0)),iI 13 (.mv (.t 5)),iI 14 (.iaddr 7 (.t 12) (.t 13)),iI 15 (.load 7 (.t 14)),iI 16 (.call (.t 11) [(.t 15)])]) c130_0
def c130_2:C:=.reg [iI 18 (.bin .add (.t 8) (.c (.int .i64 1))),iI 8 (.mv (.t 18))]
def c130_3:C:=.seq (.block 1 (.seq (.reg [iI 10 (.mv (.t 8)),iI 5 (.mv (.t 10))]) c130_1)) c130_2
def c130_4:C:=.seq (.cond (.t 9) (.skip) (.exit 0)) c130_3
def c130_5:C:=.block 0 (.loop (.seq (.reg [iI 9 (.bin .lss (.t 8) (.t 7))]) c130_4))
def c130_6:C:=.seq (.reg [iI 4 (.mv (.c (.int .i64 (-1))))]) .ret
def c130_7:C:=.seq (.seq (.reg [iI 6 (.mv (.t 0)),iI 7 (.len 0 (.t 6)),iI 8 (.mv (.c (.int .i64 0)))]) c130_5) c130_6
def ir130:C:=.seq (.reg [iI 4 (.mv (.c (.int .i64 0)))]) c130_7
theorem fd130:fd? Tryz.prog 130=some (19,[.slot 4],ir130):=by kernel_rfl
noncomputable def f130_124(x0:(List ResponderDevice))(x1:Int)(x2:Int)(x3:Int)(x4:(List UInt8))(x5:Int)(x6:Bool)(x7:Bool):Option (Int) :=
  ((Lp.run (f130_124_L1 x0 x1 x2 x3 x4 x5 x6 x7) 0).bind fun r_=>match r_ with | (Sum.inl _)=>(some (-1)) | (Sum.inr x8)=>(some x8))
theorem f130_124_ok{x0:(List ResponderDevice)}{x1:Int}{x2:Int}{x3:Int}{x4:(List UInt8)}{x5:Int}{x6:Bool}{x7:Bool}{r_:Int}(H:f130_124 x0 x1 x2 x3 x4 x5 x6 x7=some r_):Pure Tryz.prog 130 [.sl 7 false (x0.map eResponderDevice),.fn 124 [.pro [.int .u64 x1,.int .i64 x2,.int .i64 x3,.str x4,.int .i64 x5,.bool x6,.bool x7]]] (· = .int .i64 r_):=by
 refine Pure.walk3 fd130 none (Nat.le_of_ble_eq_true rfl) (by rfl) fun Q hQ=>?_
 simp only[f130_124] at H
 refine AW.rseq ?_
 try simp only[wm,wmd,↓wk,↓wl,nq,evV,↓reduceIte,sevalprocAttr]
 refine AW.sseq ?_
 refine AW.rseq ?_
 try simp only[wm,wmd,↓wk,↓wl,nq,evV,↓reduceIte,sevalprocAttr]
 refine AW.bend ?_
 refine AW.iter H ((Le.tz [] [0,1,7,8] (by simp only[f130_124_L1c,wm,wmr,rrm,↓wk,↓wl,evV,↓reduceIte,sevalprocAttr]<;>rfl))) ?_<;>clear H
 rintro x8 x_ st0_ H hst_
 rw[f130_124_L1c] at hst_
 simp only[f130_124_L1] at H
 subst hst_
 refine AW.rseq ?_
 try simp only[wm,wmd,↓wk,↓wl,nq,evV,↓reduceIte,sevalprocAttr]
 refine AW.sseq ?_
 refine AW.ifc H (by rfl) ?_ ?_<;>clear H<;>intro H
 ·refine AW.skip ?_
  refine seqQ.norm ?_
  refine AW.bseq ?_
  refine AW.rseq ?_
  try simp only[wm,wmd,↓wk,↓wl,nq,evV,↓reduceIte,sevalprocAttr]
  refine AW.rseq ?_
  try simp only[wm,wmd,↓wk,↓wl,nq,evV,↓reduceIte,sevalprocAttr]
  refine evTs_at (enc:=eResponderDevice) H (by rfl) (by rfl) ?_<;>clear H<;>intro x9 H
  try simp only[eResponderDevice,eL,eM,wm,wmd,↓wk,↓wl,nq,evV,↓reduceIte,sevalprocAttr]
  refine evTs_pure hFn H (fun _ h=>f124p_ok h) (by rfl) (by rfl) (by rfl) (by rfl) (fun _=>rfl) ?_<;>clear H<;>intro xa H
  try simp only[eL,wm,wmd,↓wk,↓wl,nq,evV,↓reduceIte,sevalprocAttr]
  refine AW.ifc H (by rfl) ?_ ?_<;>clear H<;>intro H
  ·refine AW.rseq ?_
   try simp only[wm,wmd,↓wk,↓wl,nq,evV,↓reduceIte,sevalprocAttr]
   refine AW.ret ?_
   refine blkQ.ret ?_
   refine loopQ.ret H ?_<;>clear H<;>intro H
   try dsimp only at H
   refine blk0.ret ?_
   refine seqQ.ret ?_
   cases H
   exact hQ _ _ _ _ (.inr rfl) (by simp only[resVs,omap,resV,wm,wmd,↓wk,↓wl,nq,evV,↓reduceIte,sevalprocAttr];rfl) (hand_plain (by rfl)) (by first | exact Or.inl rfl | exact Or.inr rfl)
  ·refine AW.skip ?_
   refine blkQ.norm ?_
   refine AW.rend ?_
   try simp only[wm,wmd,↓wk,↓wl,nq,evV,↓reduceIte,sevalprocAttr]
   exact loopQ.next H ((Le.tz [] [0,1,7,8] (by simp only[f130_124_L1c,wm,wmr,rrm,↓wk,↓wl,evV,↓reduceIte,sevalprocAttr]<;>rfl)))
 ·refine AW.exit ?_
  refine seqQ.exit ?_
  refine loopQ.exit H ?_<;>clear H<;>intro H
  try dsimp only at H
  refine blk0.here ?_
  refine seqQ.norm ?_
  refine AW.rseq ?_
  try simp only[wm,wmd,↓wk,↓wl,nq,evV,↓reduceIte,sevalprocAttr]
  refine AW.ret ?_
  cases H
  exact hQ _ _ _ _ (.inr rfl) (by simp only[resVs,omap,resV,wm,wmd,↓wk,↓wl,nq,evV,↓reduceIte,sevalprocAttr];rfl) (hand_plain (by rfl)) (by first | exact Or.inl rfl | exact Or.inr rfl)
def c123_0:C:=.seq (.reg [iI 5 (.mv (.t 0)),iI 6 (.mv (.t 1)),iI 7 (.call (.c (.fn 130 [])) [(.t 5),(.t 6)]),iI 8 (.bin .geq (.t 7) (.c (.int .i64 0))),iI 4 (.mv (.t 8))]) .ret
def ir123:C:=.seq (.reg [iI 4 (.mv (.c (.bool false)))]) c123_0
theorem fd123:fd? Tryz.prog 123=some (9,[.slot 4],ir123):=by kernel_rfl
noncomputable def f123_124(x0:(List ResponderDevice))(x1:Int)(x2:Int)(x3:Int)(x4:(List UInt8))(x5:Int)(x6:Bool)(x7:Bool):Option (Bool) :=
  (f130_124 x0 x1 x2 x3 x4 x5 x6 x7).bind fun x8=>(some (decide (0≤x8)))
theorem f123_124_ok{x0:(List ResponderDevice)}{x1:Int}{x2:Int}{x3:Int}{x4:(List UInt8)}{x5:Int}{x6:Bool}{x7:Bool}{r_:Bool}(H:f123_124 x0 x1 x2 x3 x4 x5 x6 x7=some r_):Pure Tryz.prog 123 [.sl 7 false (x0.map eResponderDevice),.fn 124 [.pro [.int .u64 x1,.int .i64 x2,.int .i64 x3,.str x4,.int .i64 x5,.bool x6,.bool x7]]] (· = .bool r_):=by
 refine Pure.walk3 fd123 none (Nat.le_of_ble_eq_true rfl) (by rfl) fun Q hQ=>?_
 simp only[f123_124] at H
 refine AW.rseq ?_
 try simp only[wm,wmd,↓wk,↓wl,nq,evV,↓reduceIte,sevalprocAttr]
 refine AW.rseq ?_
 try simp only[wm,wmd,↓wk,↓wl,nq,evV,↓reduceIte,sevalprocAttr]
 refine evTs_pure hFn H (fun _ h=>f130_124_ok h) (by rfl) (by rfl) (by rfl) (by rfl) (fun _=>rfl) ?_<;>clear H<;>intro x8 H
 try simp only[eL,wm,wmd,↓wk,↓wl,nq,evV,↓reduceIte,sevalprocAttr]
 refine AW.ret ?_
 cases H
 exact hQ _ _ _ _ (.inr rfl) (by simp only[resVs,omap,resV,wm,wmd,↓wk,↓wl,nq,evV,↓reduceIte,sevalprocAttr];rfl) (hand_plain (by rfl)) (by first | exact Or.inl rfl | exact Or.inr rfl)
noncomputable def f93_L1(x0:(List ResponderDevice)):Lp (Int) ((Unit)⊕(Int)) where
  body:=fun x1=>(if (decide (x1<((x0.length:Nat):Int)))=true then (at? x0 x1).bind fun x2=>(f47 x2).bind fun x3=>(if (decide (x3≠0))=true then (some (.brk (Sum.inr x3))) else (slc? x0 0 x1).bind fun x4=>(f123_124 x4 x2.fIdentity x2.fFootprint x2.fAddress x2.fLabel x2.fHours x2.fMuted x2.fIdentify).bind fun x5=>(if x5=true then (some (.brk (Sum.inr 7))) else (some (.next (IntKind.i64.wrap (x1 + 1)))))) else (some (.brk (Sum.inl ()))))
  cst:=fun x1=>⟨put (put (put (put (fun _=>.junk) 11 (.int .i64 x1)) 10 (.int .i64 ((x0.length:Nat):Int))) 9 (.sl 7 false (x0.map eResponderDevice))) 0 (.sl 7 false (x0.map eResponderDevice)),[]⟩
theorem f93_L1c(x0:(List ResponderDevice))(x1:Int):(f93_L1 x0).cst x1=⟨put (put (put (put (fun _=>.junk) 11 (.int .i64 x1)) 10 (.int .i64 ((x0.length:Nat):Int))) 9 (.sl 7 false (x0.map eResponderDevice))) 0 (.sl 7 false (x0.map eResponderDevice)),[]⟩:=rfl
def c93_0:C:=.cond (.t 8) (.seq (.reg [iI 2 (.mv (.c (.int .i64 5)))]) .ret) (.skip)
def c93_1:C:=.cond (.t 19) (.seq (.reg [iI 20 (.mv (.t 5)),iI 2 (.mv (.t 20))]) .ret) (.skip)
def c93_2:C:=.seq (.reg [iI 18 (.mv (.t 5)),iI 19 (.bin .neq (.t 18) (.c (.int .i64 0)))]) c93_1
def c93_3:C:=.cond (.t 25) (.seq (.reg [iI 2 (.mv (.c (.int .i64 7)))]) .ret) (.skip)
def c93_4:C:=.seq (.reg [iI 21 (.mv (.t 0)),iI 22 (.mv (.t 3)),iI 23 (.slice 7 (.t 21) none (some (.t 22))),iI 24 (.mkfn 124 [(.t 4)]),iI 25 (.call (.c (.fn 123 [])) [(.t 23),(.t 24)])]) c93_3
def c93_5:C:=.seq (.seq (.reg [iI 16 (.load 7 (.t 4)),iI 17 (.call (.c (.fn 47 [])) [(.t 16)]),iI 5 (.mv (.t 17))]) c93_2) c93_4
def c93_6:C:=.reg [iI 26 (.bin .add (.t 11) (.c (.int .i64 1))),iI 11 (.mv (.t 26))]
def c93_7:C:=.seq (.block 1 (.seq (.reg [iI 13 (.mv (.t 11)),iI 14 (.iaddr 7 (.t 9) (.t 11)),iI 15 (.load 7 (.t 14)),iI 4 (.alloc [(1,(.int .u64 0)),(1,(.int .i64 0)),(1,(.int .i64 0)),(1,(.str [])),(1,(.int .i64 0)),(1,(.bool false)),(1,(.bool false))]),iI 3 (.mv (.t 13)),iN (.store 7 (.t 4) (.t 15))]) c93_5)) c93_6
def c93_8:C:=.seq (.cond (.t 12) (.skip) (.exit 0)) c93_7
def c93_9:C:=.block 0 (.loop (.seq (.reg [iI 12 (.bin .lss (.t 11) (.t 10))]) c93_8))
def c93_10:C:=.seq (.reg [iI 2 (.mv (.c (.int .i64 0)))]) .ret
def c93_11:C:=.seq (.seq (.reg [iI 9 (.mv (.t 0)),iI 10 (.len 0 (.t 9)),iI 11 (.mv (.c (.int .i64 0)))]) c93_9) c93_10
def c93_12:C:=.seq (.seq (.reg [iI 6 (.mv (.t 0)),iI 7 (.len 0 (.t 6)),iI 8 (.bin .gtr (.t 7) (.c (.int .i64 64)))]) c93_0) c93_11
def ir93:C:=.seq (.reg [iI 2 (.mv (.c (.int .i64 0)))]) c93_12
theorem fd93:fd? Tryz.prog 93=some (27,[.slot 2],ir93):=by kernel_rfl
noncomputable def f93(x0:(List ResponderDevice)):Option (Int) :=
  (if (decide (64<((x0.length:Nat):Int)))=true then (some 5) else ((Lp.run (f93_L1 x0) 0).bind fun r_=>match r_ with | (Sum.inl _)=>(some 0) | (Sum.inr x1)=>(some x1)))
theorem f93_ok{x0:(List ResponderDevice)}{r_:Int}(H:f93 x0=some r_):Pure Tryz.prog 93 [.sl 7 false (x0.map eResponderDevice)] (· = .int .i64 r_):=by
 refine Pure.walk3 fd93 none (Nat.le_of_ble_eq_true rfl) (by rfl) fun Q hQ=>?_
 simp only[f93] at H
 refine AW.rseq ?_
 try simp only[wm,wmd,↓wk,↓wl,nq,evV,↓reduceIte,sevalprocAttr]
 refine AW.sseq ?_
 refine AW.rseq ?_
 try simp only[wm,wmd,↓wk,↓wl,nq,evV,↓reduceIte,sevalprocAttr]
 refine AW.ifc H (by rfl) ?_ ?_<;>clear H<;>intro H
 ·refine AW.rseq ?_
  try simp only[wm,wmd,↓wk,↓wl,nq,evV,↓reduceIte,sevalprocAttr]
  refine AW.ret ?_
  refine seqQ.ret ?_
  cases H
  exact hQ _ _ _ _ (.inr rfl) (by simp only[resVs,omap,resV,wm,wmd,↓wk,↓wl,nq,evV,↓reduceIte,sevalprocAttr];rfl) (hand_plain (by rfl)) (by first | exact Or.inl rfl | exact Or.inr rfl)
 ·refine AW.skip ?_
  refine seqQ.norm ?_
  refine AW.sseq ?_
  refine AW.rseq ?_
  try simp only[wm,wmd,↓wk,↓wl,nq,evV,↓reduceIte,sevalprocAttr]
  refine AW.bend ?_
  refine AW.iter H ((Le.tz [] [0,9,10,11] (by simp only[f93_L1c,wm,wmr,rrm,↓wk,↓wl,evV,↓reduceIte,sevalprocAttr]<;>rfl))) ?_<;>clear H
  rintro x1 x_ st0_ H hst_
  rw[f93_L1c] at hst_
  simp only[f93_L1] at H
  subst hst_
  refine AW.rseq ?_
  try simp only[wm,wmd,↓wk,↓wl,nq,evV,↓reduceIte,sevalprocAttr]
  refine AW.sseq ?_
  refine AW.ifc H (by rfl) ?_ ?_<;>clear H<;>intro H
  ·refine AW.skip ?_
   refine seqQ.norm ?_
   refine AW.bseq ?_
   refine AW.rseq ?_
   try simp only[wm,wmd,↓wk,↓wl,nq,evV,↓reduceIte,sevalprocAttr]
   refine evTs_at (enc:=eResponderDevice) H (by rfl) (by rfl) ?_<;>clear H<;>intro x2 H
   try simp only[eResponderDevice,eL,eM,wm,wmd,↓wk,↓wl,nq,evV,↓reduceIte,sevalprocAttr]
   refine AW.sseq ?_
   refine AW.rseq ?_
   try simp only[wm,wmd,↓wk,↓wl,nq,evV,↓reduceIte,sevalprocAttr]
   refine evTs_pure hFn H (fun _ h=>f47_ok h) (by rfl) (by rfl) (by rfl) (by rfl) (fun _=>rfl) ?_<;>clear H<;>intro x3 H
   try simp only[eL,wm,wmd,↓wk,↓wl,nq,evV,↓reduceIte,sevalprocAttr]
   refine AW.rseq ?_
   try simp only[wm,wmd,↓wk,↓wl,nq,evV,↓reduceIte,sevalprocAttr]
   refine AW.ifc H (by rfl) ?_ ?_<;>clear H<;>intro H
   ·refine AW.rseq ?_
    try simp only[wm,wmd,↓wk,↓wl,nq,evV,↓reduceIte,sevalprocAttr]
    refine AW.ret ?_
    refine seqQ.ret ?_
    refine blkQ.ret ?_
    refine loopQ.ret H ?_<;>clear H<;>intro H
    try dsimp only at H
    refine blk0.ret ?_
    refine seqQ.ret ?_
    cases H
    exact hQ _ _ _ _ (.inr rfl) (by simp only[resVs,omap,resV,wm,wmd,↓wk,↓wl,nq,evV,↓reduceIte,sevalprocAttr];rfl) (hand_plain (by rfl)) (by first | exact Or.inl rfl | exact Or.inr rfl)
   ·refine AW.skip ?_
    refine seqQ.norm ?_
    refine AW.rseq ?_
    try simp only[wm,wmd,↓wk,↓wl,nq,evV,↓reduceIte,sevalprocAttr]
    refine evTs_slc (enc:=eResponderDevice) H (by rfl) (by rfl) (by simp only[loI,hiI,wm,wmd,↓wk,↓wl,nq,evV,↓reduceIte,sevalprocAttr];rfl) (by simp only[loI,hiI,wm,wmd,↓wk,↓wl,nq,evV,↓reduceIte,sevalprocAttr];rfl) ?_<;>clear H<;>intro x4 H
    try simp only[wm,wmd,↓wk,↓wl,nq,evV,↓reduceIte,sevalprocAttr]
    refine evTs_flat hFn H (fun _ h=>f123_124_ok h) (by rfl) (by rfl) (by simp only[deep_eq,imm_simps,imm_rowE,imm_ptrE,imm_enc,imm_mrefE,imm_mpE,imm_arowE,omap_simps,take_map_len,take_map_set,take_map_set2,List.length_set,le_refl_true,Nat.zero_add,and_true,true_and,List.drop_zero,Option.map_some,wm,wmd,↓wk,↓wl,nq,evV,↓reduceIte,sevalprocAttr];rfl) (by rfl) (fun _=>rfl) (fun _=>rfl) ?_<;>clear H<;>intro x5 H
    try simp only[eL,wm,wmd,↓wk,↓wl,nq,evV,↓reduceIte,sevalprocAttr]
    refine AW.ifc H (by rfl) ?_ ?_<;>clear H<;>intro H
    ·refine AW.rseq ?_
     try simp only[wm,wmd,↓wk,↓wl,nq,evV,↓reduceIte,sevalprocAttr]
     refine AW.ret ?_
     refine blkQ.ret ?_
     refine loopQ.ret H ?_<;>clear H<;>intro H
     try dsimp only at H
     refine blk0.ret ?_
     refine seqQ.ret ?_
     cases H
     exact hQ _ _ _ _ (.inr rfl) (by simp only[resVs,omap,resV,wm,wmd,↓wk,↓wl,nq,evV,↓reduceIte,sevalprocAttr];rfl) (hand_plain (by rfl)) (by first | exact Or.inl rfl | exact Or.inr rfl)
    ·refine AW.skip ?_
     refine blkQ.norm ?_
     refine AW.rend ?_
     try simp only[wm,wmd,↓wk,↓wl,nq,evV,↓reduceIte,sevalprocAttr]
     exact loopQ.next H ((Le.tz [] [0,9,10,11] (by simp only[f93_L1c,wm,wmr,rrm,↓wk,↓wl,evV,↓reduceIte,sevalprocAttr]<;>rfl)))
  ·refine AW.exit ?_
   refine seqQ.exit ?_
   refine loopQ.exit H ?_<;>clear H<;>intro H
   try dsimp only at H
   refine blk0.here ?_
   refine seqQ.norm ?_
   refine AW.rseq ?_
   try simp only[wm,wmd,↓wk,↓wl,nq,evV,↓reduceIte,sevalprocAttr]
   refine AW.ret ?_
   cases H
   exact hQ _ _ _ _ (.inr rfl) (by simp only[resVs,omap,resV,wm,wmd,↓wk,↓wl,nq,evV,↓reduceIte,sevalprocAttr];rfl) (hand_plain (by rfl)) (by first | exact Or.inl rfl | exact Or.inr rfl)
def c95_0:C:=.seq (.reg [iI 3 (.mv (.t 0)),iI 4 (.bin .lss (.t 3) (.c (.int .i64 0))),iI 5 (.mv (.t 4)),iG (some 6) 5 false (.mv (.t 0)),iG (some 7) 5 false (.bin .gtr (.t 6) (.c (.int .i64 4))),iI 8 (.pick (.t 5) (.c (.bool true)) (.t 7)),iI 2 (.mv (.t 8))]) .ret
def ir95:C:=.seq (.reg [iI 2 (.mv (.c (.bool false)))]) c95_0
theorem fd95:fd? Tryz.prog 95=some (9,[.slot 2],ir95):=by kernel_rfl
noncomputable def f95(x0:Int):Option (Bool) :=
  (if (decide (x0<0))=true then (some true) else (some (decide (4<x0))))
theorem f95_ok{x0:Int}{r_:Bool}(H:f95 x0=some r_):Pure Tryz.prog 95 [.int .i64 x0] (· = .bool r_):=by
 refine Pure.walk3 fd95 none (Nat.le_of_ble_eq_true rfl) (by rfl) fun Q hQ=>?_
 simp only[f95] at H
 refine AW.rseq ?_
 try simp only[wm,wmd,↓wk,↓wl,nq,evV,↓reduceIte,sevalprocAttr]
 refine AW.rseq ?_
 try simp only[wm,wmd,↓wk,↓wl,nq,evV,↓reduceIte,sevalprocAttr]
 refine evTs_ifg H (by rfl) ?_ ?_<;>clear H<;>intro H
 ·try simp only[wm,wmd,↓wk,↓wl,nq,evV,↓reduceIte,sevalprocAttr]
  refine AW.ret ?_
  cases H
  exact hQ _ _ _ _ (.inr rfl) (by simp only[resVs,omap,resV,wm,wmd,↓wk,↓wl,nq,evV,↓reduceIte,sevalprocAttr];rfl) (hand_plain (by rfl)) (by first | exact Or.inl rfl | exact Or.inr rfl)
 ·try simp only[wm,wmd,↓wk,↓wl,nq,evV,↓reduceIte,sevalprocAttr]
  refine AW.ret ?_
  cases H
  exact hQ _ _ _ _ (.inr rfl) (by simp only[resVs,omap,resV,wm,wmd,↓wk,↓wl,nq,evV,↓reduceIte,sevalprocAttr];rfl) (hand_plain (by rfl)) (by first | exact Or.inl rfl | exact Or.inr rfl)
noncomputable def f125_95_L1(x0:(List Int)):Lp (Int) ((Unit)⊕(Int)) where
  body:=fun x1=>(if (decide (x1<((x0.length:Nat):Int)))=true then (at? x0 x1).bind fun x2=>(f95 x2).bind fun x3=>(if x3=true then (some (.brk (Sum.inr x1))) else (some (.next (IntKind.i64.wrap (x1 + 1))))) else (some (.brk (Sum.inl ()))))
  cst:=fun x1=>⟨put (put (put (put (fun _=>.junk) 8 (.int .i64 x1)) 7 (.int .i64 ((x0.length:Nat):Int))) 1 (.fn 95 [])) 0 (.sl 0 false (x0.map (AV.int .i64))),[]⟩
theorem f125_95_L1c(x0:(List Int))(x1:Int):(f125_95_L1 x0).cst x1=⟨put (put (put (put (fun _=>.junk) 8 (.int .i64 x1)) 7 (.int .i64 ((x0.length:Nat):Int))) 1 (.fn 95 [])) 0 (.sl 0 false (x0.map (AV.int .i64))),[]⟩:=rfl
def c125_0:C:=.cond (.t 16) (.seq (.reg [iI 17 (.mv (.t 5)),iI 4 (.mv (.t 17))]) .ret) (.skip)
def c125_1:C:=.seq (.reg [iI 11 (.mv (.t 1)),iI 12 (.mv (.t 0)),iI 13 (.mv (.t 5)),iI 14 (.iaddr 0 (.t 12) (.t 13)),iI 15 (.load 0 (.t 14)),iI 16 (.call (.t 11) [(.t 15)])]) c125_0
def c125_2:C:=.reg [iI 18 (.bin .add (.t 8) (.c (.int .i64 1))),iI 8 (.mv (.t 18))]
def c125_3:C:=.seq (.block 1 (.seq (.reg [iI 10 (.mv (.t 8)),iI 5 (.mv (.t 10))]) c125_1)) c125_2
def c125_4:C:=.seq (.cond (.t 9) (.skip) (.exit 0)) c125_3
def c125_5:C:=.block 0 (.loop (.seq (.reg [iI 9 (.bin .lss (.t 8) (.t 7))]) c125_4))
def c125_6:C:=.seq (.reg [iI 4 (.mv (.c (.int .i64 (-1))))]) .ret
def c125_7:C:=.seq (.seq (.reg [iI 6 (.mv (.t 0)),iI 7 (.len 0 (.t 6)),iI 8 (.mv (.c (.int .i64 0)))]) c125_5) c125_6
def ir125:C:=.seq (.reg [iI 4 (.mv (.c (.int .i64 0)))]) c125_7
theorem fd125:fd? Tryz.prog 125=some (19,[.slot 4],ir125):=by kernel_rfl
noncomputable def f125_95(x0:(List Int)):Option (Int) :=
  ((Lp.run (f125_95_L1 x0) 0).bind fun r_=>match r_ with | (Sum.inl _)=>(some (-1)) | (Sum.inr x1)=>(some x1))
theorem f125_95_ok{x0:(List Int)}{r_:Int}(H:f125_95 x0=some r_):Pure Tryz.prog 125 [.sl 0 false (x0.map (AV.int .i64)),.fn 95 []] (· = .int .i64 r_):=by
 refine Pure.walk3 fd125 none (Nat.le_of_ble_eq_true rfl) (by rfl) fun Q hQ=>?_
 simp only[f125_95] at H
 refine AW.rseq ?_
 try simp only[wm,wmd,↓wk,↓wl,nq,evV,↓reduceIte,sevalprocAttr]
 refine AW.sseq ?_
 refine AW.rseq ?_
 try simp only[wm,wmd,↓wk,↓wl,nq,evV,↓reduceIte,sevalprocAttr]
 refine AW.bend ?_
 refine AW.iter H ((Le.tz [] [0,1,7,8] (by simp only[f125_95_L1c,wm,wmr,rrm,↓wk,↓wl,evV,↓reduceIte,sevalprocAttr]<;>rfl))) ?_<;>clear H
 rintro x1 x_ st0_ H hst_
 rw[f125_95_L1c] at hst_
 simp only[f125_95_L1] at H
 subst hst_
 refine AW.rseq ?_
 try simp only[wm,wmd,↓wk,↓wl,nq,evV,↓reduceIte,sevalprocAttr]
 refine AW.sseq ?_
 refine AW.ifc H (by rfl) ?_ ?_<;>clear H<;>intro H
 ·refine AW.skip ?_
  refine seqQ.norm ?_
  refine AW.bseq ?_
  refine AW.rseq ?_
  try simp only[wm,wmd,↓wk,↓wl,nq,evV,↓reduceIte,sevalprocAttr]
  refine AW.rseq ?_
  try simp only[wm,wmd,↓wk,↓wl,nq,evV,↓reduceIte,sevalprocAttr]
  refine evTs_at (enc:=(AV.int .i64)) H (by rfl) (by rfl) ?_<;>clear H<;>intro x2 H
  try simp only[wm,wmd,↓wk,↓wl,nq,evV,↓reduceIte,sevalprocAttr]
  refine evTs_pure hFn H (fun _ h=>f95_ok h) (by rfl) (by rfl) (by rfl) (by rfl) (fun _=>rfl) ?_<;>clear H<;>intro x3 H
  try simp only[eL,wm,wmd,↓wk,↓wl,nq,evV,↓reduceIte,sevalprocAttr]
  refine AW.ifc H (by rfl) ?_ ?_<;>clear H<;>intro H
  ·refine AW.rseq ?_
   try simp only[wm,wmd,↓wk,↓wl,nq,evV,↓reduceIte,sevalprocAttr]
   refine AW.ret ?_
   refine blkQ.ret ?_
   refine loopQ.ret H ?_<;>clear H<;>intro H
   try dsimp only at H
   refine blk0.ret ?_
   refine seqQ.ret ?_
   cases H
   exact hQ _ _ _ _ (.inr rfl) (by simp only[resVs,omap,resV,wm,wmd,↓wk,↓wl,nq,evV,↓reduceIte,sevalprocAttr];rfl) (hand_plain (by rfl)) (by first | exact Or.inl rfl | exact Or.inr rfl)
  ·refine AW.skip ?_
   refine blkQ.norm ?_
   refine AW.rend ?_
   try simp only[wm,wmd,↓wk,↓wl,nq,evV,↓reduceIte,sevalprocAttr]
   exact loopQ.next H ((Le.tz [] [0,1,7,8] (by simp only[f125_95_L1c,wm,wmr,rrm,↓wk,↓wl,evV,↓reduceIte,sevalprocAttr]<;>rfl)))
 ·refine AW.exit ?_
  refine seqQ.exit ?_
  refine loopQ.exit H ?_<;>clear H<;>intro H
  try dsimp only at H
  refine blk0.here ?_
  refine seqQ.norm ?_
  refine AW.rseq ?_
  try simp only[wm,wmd,↓wk,↓wl,nq,evV,↓reduceIte,sevalprocAttr]
  refine AW.ret ?_
  cases H
  exact hQ _ _ _ _ (.inr rfl) (by simp only[resVs,omap,resV,wm,wmd,↓wk,↓wl,nq,evV,↓reduceIte,sevalprocAttr];rfl) (hand_plain (by rfl)) (by first | exact Or.inl rfl | exact Or.inr rfl)
def c94_0:C:=.seq (.reg [iI 5 (.mv (.t 0)),iI 6 (.mv (.t 1)),iI 7 (.call (.c (.fn 125 [])) [(.t 5),(.t 6)]),iI 8 (.bin .geq (.t 7) (.c (.int .i64 0))),iI 4 (.mv (.t 8))]) .ret
def ir94:C:=.seq (.reg [iI 4 (.mv (.c (.bool false)))]) c94_0
theorem fd94:fd? Tryz.prog 94=some (9,[.slot 4],ir94):=by kernel_rfl
noncomputable def f94_95(x0:(List Int)):Option (Bool) :=
  (f125_95 x0).bind fun x1=>(some (decide (0≤x1)))
theorem f94_95_ok{x0:(List Int)}{r_:Bool}(H:f94_95 x0=some r_):Pure Tryz.prog 94 [.sl 0 false (x0.map (AV.int .i64)),.fn 95 []] (· = .bool r_):=by
 refine Pure.walk3 fd94 none (Nat.le_of_ble_eq_true rfl) (by rfl) fun Q hQ=>?_
 simp only[f94_95] at H
 refine AW.rseq ?_
 try simp only[wm,wmd,↓wk,↓wl,nq,evV,↓reduceIte,sevalprocAttr]
 refine AW.rseq ?_
 try simp only[wm,wmd,↓wk,↓wl,nq,evV,↓reduceIte,sevalprocAttr]
 refine evTs_pure hFn H (fun _ h=>f125_95_ok h) (by rfl) (by rfl) (by rfl) (by rfl) (fun _=>rfl) ?_<;>clear H<;>intro x1 H
 try simp only[eL,wm,wmd,↓wk,↓wl,nq,evV,↓reduceIte,sevalprocAttr]
 refine AW.ret ?_
 cases H
 exact hQ _ _ _ _ (.inr rfl) (by simp only[resVs,omap,resV,wm,wmd,↓wk,↓wl,nq,evV,↓reduceIte,sevalprocAttr];rfl) (hand_plain (by rfl)) (by first | exact Or.inl rfl | exact Or.inr rfl)
def c97_0:C:=.seq (.reg [iI 3 (.mv (.t 0)),iI 4 (.len 1 (.t 3)),iI 5 (.bin .gtr (.t 4) (.c (.int .i64 4096))),iI 2 (.mv (.t 5))]) .ret
def ir97:C:=.seq (.reg [iI 2 (.mv (.c (.bool false)))]) c97_0
theorem fd97:fd? Tryz.prog 97=some (6,[.slot 2],ir97):=by kernel_rfl
noncomputable def f97(x0:(List UInt8)):Option (Bool) :=
  (some (decide (4096<((x0.length:Nat):Int))))
theorem f97_ok{x0:(List UInt8)}{r_:Bool}(H:f97 x0=some r_):Pure Tryz.prog 97 [.str x0] (· = .bool r_):=by
 refine Pure.walk3 fd97 none (Nat.le_of_ble_eq_true rfl) (by rfl) fun Q hQ=>?_
 simp only[f97] at H
 refine AW.rseq ?_
 try simp only[wm,wmd,↓wk,↓wl,nq,evV,↓reduceIte,sevalprocAttr]
 refine AW.rseq ?_
 try simp only[wm,wmd,↓wk,↓wl,nq,evV,↓reduceIte,sevalprocAttr]
 refine AW.ret ?_
 cases H
 exact hQ _ _ _ _ (.inr rfl) (by simp only[resVs,omap,resV,wm,wmd,↓wk,↓wl,nq,evV,↓reduceIte,sevalprocAttr];rfl) (hand_plain (by rfl)) (by first | exact Or.inl rfl | exact Or.inr rfl)
noncomputable def f126_97_L1(x0:(List (List UInt8))):Lp (Int) ((Unit)⊕(Int)) where
  body:=fun x1=>(if (decide (x1<((x0.length:Nat):Int)))=true then (at? x0 x1).bind fun x2=>(f97 x2).bind fun x3=>(if x3=true then (some (.brk (Sum.inr x1))) else (some (.next (IntKind.i64.wrap (x1 + 1))))) else (some (.brk (Sum.inl ()))))
  cst:=fun x1=>⟨put (put (put (put (fun _=>.junk) 8 (.int .i64 x1)) 7 (.int .i64 ((x0.length:Nat):Int))) 1 (.fn 97 [])) 0 (.sl 0 false (x0.map AV.str)),[]⟩
theorem f126_97_L1c(x0:(List (List UInt8)))(x1:Int):(f126_97_L1 x0).cst x1=⟨put (put (put (put (fun _=>.junk) 8 (.int .i64 x1)) 7 (.int .i64 ((x0.length:Nat):Int))) 1 (.fn 97 [])) 0 (.sl 0 false (x0.map AV.str)),[]⟩:=rfl
def c126_0:C:=.cond (.t 16) (.seq (.reg [iI 17 (.mv (.t 5)),iI 4 (.mv (.t 17))]) .ret) (.skip)
def c126_1:C:=.seq (.reg [iI 11 (.mv (.t 1)),iI 12 (.mv (.t 0)),iI 13 (.mv (.t 5)),iI 14 (.iaddr 0 (.t 12) (.t 13)),iI 15 (.load 0 (.t 14)),iI 16 (.call (.t 11) [(.t 15)])]) c126_0
def c126_2:C:=.reg [iI 18 (.bin .add (.t 8) (.c (.int .i64 1))),iI 8 (.mv (.t 18))]
def c126_3:C:=.seq (.block 1 (.seq (.reg [iI 10 (.mv (.t 8)),iI 5 (.mv (.t 10))]) c126_1)) c126_2
def c126_4:C:=.seq (.cond (.t 9) (.skip) (.exit 0)) c126_3
def c126_5:C:=.block 0 (.loop (.seq (.reg [iI 9 (.bin .lss (.t 8) (.t 7))]) c126_4))
def c126_6:C:=.seq (.reg [iI 4 (.mv (.c (.int .i64 (-1))))]) .ret
def c126_7:C:=.seq (.seq (.reg [iI 6 (.mv (.t 0)),iI 7 (.len 0 (.t 6)),iI 8 (.mv (.c (.int .i64 0)))]) c126_5) c126_6
def ir126:C:=.seq (.reg [iI 4 (.mv (.c (.int .i64 0)))]) c126_7
theorem fd126:fd? Tryz.prog 126=some (19,[.slot 4],ir126):=by kernel_rfl
noncomputable def f126_97(x0:(List (List UInt8))):Option (Int) :=
  ((Lp.run (f126_97_L1 x0) 0).bind fun r_=>match r_ with | (Sum.inl _)=>(some (-1)) | (Sum.inr x1)=>(some x1))
theorem f126_97_ok{x0:(List (List UInt8))}{r_:Int}(H:f126_97 x0=some r_):Pure Tryz.prog 126 [.sl 0 false (x0.map AV.str),.fn 97 []] (· = .int .i64 r_):=by
 refine Pure.walk3 fd126 none (Nat.le_of_ble_eq_true rfl) (by rfl) fun Q hQ=>?_
 simp only[f126_97] at H
 refine AW.rseq ?_
 try simp only[wm,wmd,↓wk,↓wl,nq,evV,↓reduceIte,sevalprocAttr]
 refine AW.sseq ?_
 refine AW.rseq ?_
 try simp only[wm,wmd,↓wk,↓wl,nq,evV,↓reduceIte,sevalprocAttr]
 refine AW.bend ?_
 refine AW.iter H ((Le.tz [] [0,1,7,8] (by simp only[f126_97_L1c,wm,wmr,rrm,↓wk,↓wl,evV,↓reduceIte,sevalprocAttr]<;>rfl))) ?_<;>clear H
 rintro x1 x_ st0_ H hst_
 rw[f126_97_L1c] at hst_
 simp only[f126_97_L1] at H
 subst hst_
 refine AW.rseq ?_
 try simp only[wm,wmd,↓wk,↓wl,nq,evV,↓reduceIte,sevalprocAttr]
 refine AW.sseq ?_
 refine AW.ifc H (by rfl) ?_ ?_<;>clear H<;>intro H
 ·refine AW.skip ?_
  refine seqQ.norm ?_
  refine AW.bseq ?_
  refine AW.rseq ?_
  try simp only[wm,wmd,↓wk,↓wl,nq,evV,↓reduceIte,sevalprocAttr]
  refine AW.rseq ?_
  try simp only[wm,wmd,↓wk,↓wl,nq,evV,↓reduceIte,sevalprocAttr]
  refine evTs_at (enc:=AV.str) H (by rfl) (by rfl) ?_<;>clear H<;>intro x2 H
  try simp only[wm,wmd,↓wk,↓wl,nq,evV,↓reduceIte,sevalprocAttr]
  refine evTs_pure hFn H (fun _ h=>f97_ok h) (by rfl) (by rfl) (by rfl) (by rfl) (fun _=>rfl) ?_<;>clear H<;>intro x3 H
  try simp only[eL,wm,wmd,↓wk,↓wl,nq,evV,↓reduceIte,sevalprocAttr]
  refine AW.ifc H (by rfl) ?_ ?_<;>clear H<;>intro H
  ·refine AW.rseq ?_
   try simp only[wm,wmd,↓wk,↓wl,nq,evV,↓reduceIte,sevalprocAttr]
   refine AW.ret ?_
   refine blkQ.ret ?_
   refine loopQ.ret H ?_<;>clear H<;>intro H
   try dsimp only at H
   refine blk0.ret ?_
   refine seqQ.ret ?_
   cases H
   exact hQ _ _ _ _ (.inr rfl) (by simp only[resVs,omap,resV,wm,wmd,↓wk,↓wl,nq,evV,↓reduceIte,sevalprocAttr];rfl) (hand_plain (by rfl)) (by first | exact Or.inl rfl | exact Or.inr rfl)
  ·refine AW.skip ?_
   refine blkQ.norm ?_
   refine AW.rend ?_
   try simp only[wm,wmd,↓wk,↓wl,nq,evV,↓reduceIte,sevalprocAttr]
   exact loopQ.next H ((Le.tz [] [0,1,7,8] (by simp only[f126_97_L1c,wm,wmr,rrm,↓wk,↓wl,evV,↓reduceIte,sevalprocAttr]<;>rfl)))
 ·refine AW.exit ?_
  refine seqQ.exit ?_
  refine loopQ.exit H ?_<;>clear H<;>intro H
  try dsimp only at H
  refine blk0.here ?_
  refine seqQ.norm ?_
  refine AW.rseq ?_
  try simp only[wm,wmd,↓wk,↓wl,nq,evV,↓reduceIte,sevalprocAttr]
  refine AW.ret ?_
  cases H
  exact hQ _ _ _ _ (.inr rfl) (by simp only[resVs,omap,resV,wm,wmd,↓wk,↓wl,nq,evV,↓reduceIte,sevalprocAttr];rfl) (hand_plain (by rfl)) (by first | exact Or.inl rfl | exact Or.inr rfl)
def c96_0:C:=.seq (.reg [iI 5 (.mv (.t 0)),iI 6 (.mv (.t 1)),iI 7 (.call (.c (.fn 126 [])) [(.t 5),(.t 6)]),iI 8 (.bin .geq (.t 7) (.c (.int .i64 0))),iI 4 (.mv (.t 8))]) .ret
def ir96:C:=.seq (.reg [iI 4 (.mv (.c (.bool false)))]) c96_0
theorem fd96:fd? Tryz.prog 96=some (9,[.slot 4],ir96):=by kernel_rfl
noncomputable def f96_97(x0:(List (List UInt8))):Option (Bool) :=
  (f126_97 x0).bind fun x1=>(some (decide (0≤x1)))
theorem f96_97_ok{x0:(List (List UInt8))}{r_:Bool}(H:f96_97 x0=some r_):Pure Tryz.prog 96 [.sl 0 false (x0.map AV.str),.fn 97 []] (· = .bool r_):=by
 refine Pure.walk3 fd96 none (Nat.le_of_ble_eq_true rfl) (by rfl) fun Q hQ=>?_
 simp only[f96_97] at H
 refine AW.rseq ?_
 try simp only[wm,wmd,↓wk,↓wl,nq,evV,↓reduceIte,sevalprocAttr]
 refine AW.rseq ?_
 try simp only[wm,wmd,↓wk,↓wl,nq,evV,↓reduceIte,sevalprocAttr]
 refine evTs_pure hFn H (fun _ h=>f126_97_ok h) (by rfl) (by rfl) (by rfl) (by rfl) (fun _=>rfl) ?_<;>clear H<;>intro x1 H
 try simp only[eL,wm,wmd,↓wk,↓wl,nq,evV,↓reduceIte,sevalprocAttr]
 refine AW.ret ?_
 cases H
 exact hQ _ _ _ _ (.inr rfl) (by simp only[resVs,omap,resV,wm,wmd,↓wk,↓wl,nq,evV,↓reduceIte,sevalprocAttr];rfl) (hand_plain (by rfl)) (by first | exact Or.inl rfl | exact Or.inr rfl)
def c66_0:C:=.cond (.t 8) (.seq (.reg [iI 9 (.mv (.t 3)),iI 2 (.mv (.t 9))]) .ret) (.skip)
def c66_1:C:=.seq (.reg [iI 7 (.mv (.t 3)),iI 8 (.bin .neq (.t 7) (.c (.int .i64 0)))]) c66_0
def c66_2:C:=.cond (.t 24) (.seq (.reg [iI 2 (.mv (.c (.int .i64 13)))]) .ret) (.skip)
def c66_3:C:=.cond (.t 19) (.seq (.reg [iI 2 (.mv (.c (.int .i64 5)))]) .ret) (.seq (.reg [iI 25 (.faddr 2 (.t 1)),iI 26 (.load 0 (.t 25)),iI 27 (.call (.c (.fn 96 [])) [(.t 26),(.c (.fn 97 []))]),iI 24 (.mv (.t 27))]) c66_2)
def c66_4:C:=.cond (.t 15) (.seq (.reg [iI 2 (.mv (.c (.int .i64 1)))]) .ret) (.seq (.reg [iI 20 (.faddr 2 (.t 1)),iI 21 (.load 0 (.t 20)),iI 22 (.len 0 (.t 21)),iI 23 (.bin .gtr (.t 22) (.c (.int .i64 64))),iI 19 (.mv (.t 23))]) c66_3)
def c66_5:C:=.cond (.t 10) (.seq (.reg [iI 2 (.mv (.c (.int .i64 5)))]) .ret) (.seq (.reg [iI 16 (.faddr 1 (.t 1)),iI 17 (.load 0 (.t 16)),iI 18 (.call (.c (.fn 94 [])) [(.t 17),(.c (.fn 95 []))]),iI 15 (.mv (.t 18))]) c66_4)
def c66_6:C:=.seq (.reg [iI 2 (.mv (.c (.int .i64 0)))]) .ret
def c66_7:C:=.seq (.block 0 (.seq (.reg [iI 11 (.faddr 1 (.t 1)),iI 12 (.load 0 (.t 11)),iI 13 (.len 0 (.t 12)),iI 14 (.bin .gtr (.t 13) (.c (.int .i64 4096))),iI 10 (.mv (.t 14))]) c66_5)) c66_6
def c66_8:C:=.seq (.seq (.reg [iI 4 (.faddr 0 (.t 1)),iI 5 (.load 0 (.t 4)),iI 6 (.call (.c (.fn 93 [])) [(.t 5)]),iI 3 (.mv (.t 6))]) c66_1) c66_7
def ir66:C:=.seq (.reg [iI 1 (.box (.t 0)),iI 2 (.mv (.c (.int .i64 0)))]) c66_8
theorem fd66:fd? Tryz.prog 66=some (28,[.slot 2],ir66):=by kernel_rfl
noncomputable def f66(x0:ManagerWire):Option (Int) :=
  (f93 x0.fDevices).bind fun x1=>(if (decide (x1≠0))=true then (some x1) else (if (decide (4096<((x0.fFaults.length:Nat):Int)))=true then (some 5) else (f94_95 x0.fFaults).bind fun x2=>(if x2=true then (some 1) else (if (decide (64<((x0.fLate.length:Nat):Int)))=true then (some 5) else (f96_97 x0.fLate).bind fun x3=>(if x3=true then (some 13) else (some 0))))))
theorem f66_ok{x0:ManagerWire}{r_:Int}(H:f66 x0=some r_):Pure Tryz.prog 66 [.agg [.sl 7 false (x0.fDevices.map eResponderDevice),.sl 0 false (x0.fFaults.map (AV.int .i64)),.sl 0 false (x0.fLate.map AV.str)]] (· = .int .i64 r_):=by
 refine Pure.walk3 fd66 none (Nat.le_of_ble_eq_true rfl) (by rfl) fun Q hQ=>?_
 simp only[f66] at H
 refine AW.rseq ?_
 try simp only[wm,wmd,↓wk,↓wl,nq,evV,↓reduceIte,sevalprocAttr]
 refine AW.sseq ?_
 refine AW.rseq ?_
 try simp only[wm,wmd,↓wk,↓wl,nq,evV,↓reduceIte,sevalprocAttr]
 refine evTs_pure hFn H (fun _ h=>f93_ok h) (by rfl) (by rfl) (by rfl) (by rfl) (fun _=>rfl) ?_<;>clear H<;>intro x1 H
 try simp only[eL,wm,wmd,↓wk,↓wl,nq,evV,↓reduceIte,sevalprocAttr]
 refine AW.rseq ?_
 try simp only[wm,wmd,↓wk,↓wl,nq,evV,↓reduceIte,sevalprocAttr]
 refine AW.ifc H (by rfl) ?_ ?_<;>clear H<;>intro H
 ·refine AW.rseq ?_
  try simp only[wm,wmd,↓wk,↓wl,nq,evV,↓reduceIte,sevalprocAttr]
  refine AW.ret ?_
  refine seqQ.ret ?_
  cases H
  exact hQ _ _ _ _ (.inr rfl) (by simp only[resVs,omap,resV,wm,wmd,↓wk,↓wl,nq,evV,↓reduceIte,sevalprocAttr];rfl) (hand_plain (by rfl)) (by first | exact Or.inl rfl | exact Or.inr rfl)
 ·refine AW.skip ?_
  refine seqQ.norm ?_
  refine AW.bseq ?_
  refine AW.rseq ?_
  try simp only[wm,wmd,↓wk,↓wl,nq,evV,↓reduceIte,sevalprocAttr]
  refine AW.ifc H (by rfl) ?_ ?_<;>clear H<;>intro H
  ·refine AW.rseq ?_
   try simp only[wm,wmd,↓wk,↓wl,nq,evV,↓reduceIte,sevalprocAttr]
   refine AW.ret ?_
   refine blkQ.ret ?_
   cases H
   exact hQ _ _ _ _ (.inr rfl) (by simp only[resVs,omap,resV,wm,wmd,↓wk,↓wl,nq,evV,↓reduceIte,sevalprocAttr];rfl) (hand_plain (by rfl)) (by first | exact Or.inl rfl | exact Or.inr rfl)
  ·refine AW.rseq ?_
   try simp only[wm,wmd,↓wk,↓wl,nq,evV,↓reduceIte,sevalprocAttr]
   refine evTs_pure hFn H (fun _ h=>f94_95_ok h) (by rfl) (by rfl) (by rfl) (by rfl) (fun _=>rfl) ?_<;>clear H<;>intro x2 H
   try simp only[eL,wm,wmd,↓wk,↓wl,nq,evV,↓reduceIte,sevalprocAttr]
   refine AW.ifc H (by rfl) ?_ ?_<;>clear H<;>intro H
   ·refine AW.rseq ?_
    try simp only[wm,wmd,↓wk,↓wl,nq,evV,↓reduceIte,sevalprocAttr]
    refine AW.ret ?_
    refine blkQ.ret ?_
    cases H
    exact hQ _ _ _ _ (.inr rfl) (by simp only[resVs,omap,resV,wm,wmd,↓wk,↓wl,nq,evV,↓reduceIte,sevalprocAttr];rfl) (hand_plain (by rfl)) (by first | exact Or.inl rfl | exact Or.inr rfl)
   ·refine AW.rseq ?_
    try simp only[wm,wmd,↓wk,↓wl,nq,evV,↓reduceIte,sevalprocAttr]
    refine AW.ifc H (by rfl) ?_ ?_<;>clear H<;>intro H
    ·refine AW.rseq ?_
     try simp only[wm,wmd,↓wk,↓wl,nq,evV,↓reduceIte,sevalprocAttr]
     refine AW.ret ?_
     refine blkQ.ret ?_
     cases H
     exact hQ _ _ _ _ (.inr rfl) (by simp only[resVs,omap,resV,wm,wmd,↓wk,↓wl,nq,evV,↓reduceIte,sevalprocAttr];rfl) (hand_plain (by rfl)) (by first | exact Or.inl rfl | exact Or.inr rfl)
    ·refine AW.rseq ?_
     try simp only[wm,wmd,↓wk,↓wl,nq,evV,↓reduceIte,sevalprocAttr]
     refine evTs_pure hFn H (fun _ h=>f96_97_ok h) (by rfl) (by rfl) (by rfl) (by rfl) (fun _=>rfl) ?_<;>clear H<;>intro x3 H
     try simp only[eL,wm,wmd,↓wk,↓wl,nq,evV,↓reduceIte,sevalprocAttr]
     refine AW.ifc H (by rfl) ?_ ?_<;>clear H<;>intro H
     ·refine AW.rseq ?_
      try simp only[wm,wmd,↓wk,↓wl,nq,evV,↓reduceIte,sevalprocAttr]
      refine AW.ret ?_
      refine blkQ.ret ?_
      cases H
      exact hQ _ _ _ _ (.inr rfl) (by simp only[resVs,omap,resV,wm,wmd,↓wk,↓wl,nq,evV,↓reduceIte,sevalprocAttr];rfl) (hand_plain (by rfl)) (by first | exact Or.inl rfl | exact Or.inr rfl)
     ·refine AW.skip ?_
      refine blkQ.norm ?_
      refine AW.rseq ?_
      try simp only[wm,wmd,↓wk,↓wl,nq,evV,↓reduceIte,sevalprocAttr]
      refine AW.ret ?_
      cases H
      exact hQ _ _ _ _ (.inr rfl) (by simp only[resVs,omap,resV,wm,wmd,↓wk,↓wl,nq,evV,↓reduceIte,sevalprocAttr];rfl) (hand_plain (by rfl)) (by first | exact Or.inl rfl | exact Or.inr rfl)
def c45_0:C:=.seq (.reg [iI 5 (.faddr 0 (.t 3)),iI 6 (.load 0 (.t 5)),iI 7 (.faddr 0 (.t 2)),iI 8 (.load 0 (.t 7)),iI 9 (.faddr 1 (.t 2)),iI 10 (.load 0 (.t 9)),iI 11 (.faddr 1 (.t 3)),iI 12 (.load 0 (.t 11)),iI 13 (.faddr 2 (.t 3)),iI 14 (.load 0 (.t 13)),iI 15 (.faddr 3 (.t 3)),iI 16 (.load 0 (.t 15)),iI 17 (.build [(1,(.int .u64 0)),(1,(.int .u64 0)),(1,(.int .i64 0)),(1,(.int .i64 0)),(1,(.int .i64 0)),(1,(.str []))] [(0,0,(.t 6)),(1,0,(.t 8)),(2,0,(.t 10)),(3,0,(.t 12)),(4,0,(.t 14)),(5,0,(.t 16))]),iN (.store 6 (.t 4) (.t 17))]) .ret
def ir45:C:=.seq (.reg [iI 2 (.box (.t 0)),iI 3 (.box (.t 1)),iI 4 (.alloc [(1,(.int .u64 0)),(1,(.int .u64 0)),(1,(.int .i64 0)),(1,(.int .i64 0)),(1,(.int .i64 0)),(1,(.str []))])]) c45_0
theorem fd45:fd? Tryz.prog 45=some (18,[.cell 4 6],ir45):=by kernel_rfl
noncomputable def f45(x0:ManagerManager)(x1:ManagerRequest):Option (ApiMessage) :=
  (some (ApiMessage.mk x1.fTo x0.fIdentity x0.fSeq x1.fKind x1.fParam x1.fData))
theorem f45_ok{x0:ManagerManager}{x1:ManagerRequest}{r_:ApiMessage}(H:f45 x0 x1=some r_):Pure Tryz.prog 45 [.agg [.int .u64 x0.fIdentity,.int .i64 x0.fSeq,.int .i64 x0.fTries],.agg [.int .u64 x1.fTo,.int .i64 x1.fKind,.int .i64 x1.fParam,.str x1.fData]] (· = .agg [.int .u64 r_.fTo,.int .u64 r_.fFrom,.int .i64 r_.fSeq,.int .i64 r_.fKind,.int .i64 r_.fParam,.str r_.fData]):=by
 refine Pure.walk3 fd45 none (Nat.le_of_ble_eq_true rfl) (by rfl) fun Q hQ=>?_
 simp only[f45] at H
 refine AW.rseq ?_
 try simp only[wm,wmd,↓wk,↓wl,nq,evV,↓reduceIte,sevalprocAttr]
 refine AW.rseq ?_
 try simp only[wm,wmd,↓wk,↓wl,nq,evV,↓reduceIte,sevalprocAttr]
 refine AW.ret ?_
 cases H
 exact hQ _ _ _ _ (.inr rfl) (by simp only[resVs,omap,resV,wm,wmd,↓wk,↓wl,nq,evV,↓reduceIte,sevalprocAttr];rfl) (hand_plain (by rfl)) (by first | exact Or.inl rfl | exact Or.inr rfl)
def c42_0:C:=.cond (.t 13) (.seq (.reg [iI 14 (.mv (.t 7)),iI 6 (.mv (.t 14))]) .ret) (.skip)
def c42_1:C:=.seq (.reg [iI 12 (.mv (.t 7)),iI 13 (.bin .neq (.t 12) (.c (.int .i64 0)))]) c42_0
def c42_2:C:=.cond (.t 18) (.seq (.reg [iI 19 (.mv (.t 8)),iI 6 (.mv (.t 19))]) .ret) (.skip)
def c42_3:C:=.seq (.reg [iI 17 (.mv (.t 8)),iI 18 (.bin .neq (.t 17) (.c (.int .i64 0)))]) c42_2
def c42_4:C:=.cond (.t 25) (.seq (.reg [iI 26 (.mv (.t 9)),iI 6 (.mv (.t 26))]) .ret) (.skip)
def c42_5:C:=.seq (.reg [iI 24 (.mv (.t 9)),iI 25 (.bin .neq (.t 24) (.c (.int .i64 0)))]) c42_4
def c42_6:C:=.cond (.t 34) (.seq (.reg [iI 6 (.mv (.c (.int .i64 16)))]) .ret) (.skip)
def c42_7:C:=.seq (.reg [iI 6 (.mv (.c (.int .i64 0)))]) .ret
def c42_8:C:=.seq (.seq (.reg [iI 27 (.faddr 1 (.t 5)),iI 28 (.load 0 (.t 27)),iI 29 (.bin .eql (.t 28) (.c (.int .i64 6))),iI 30 (.mv (.t 29)),iG (some 31) 30 false (.faddr 1 (.t 5)),iG (some 32) 30 false (.load 0 (.t 31)),iG (some 33) 30 false (.bin .eql (.t 32) (.c (.int .i64 7))),iI 34 (.pick (.t 30) (.c (.bool true)) (.t 33))]) c42_6) c42_7
def c42_9:C:=.seq (.seq (.reg [iI 20 (.load 3 (.t 3)),iI 21 (.load 4 (.t 5)),iI 22 (.call (.c (.fn 45 [])) [(.t 20),(.t 21)]),iI 23 (.call (.c (.fn 48 [])) [(.t 22)]),iI 9 (.mv (.t 23))]) c42_5) c42_8
def c42_10:C:=.seq (.seq (.reg [iI 15 (.load 3 (.t 4)),iI 16 (.call (.c (.fn 66 [])) [(.t 15)]),iI 8 (.mv (.t 16))]) c42_3) c42_9
def c42_11:C:=.seq (.seq (.reg [iI 10 (.load 3 (.t 3)),iI 11 (.call (.c (.fn 23 [])) [(.t 10)]),iI 7 (.mv (.t 11))]) c42_1) c42_10
def ir42:C:=.seq (.reg [iI 3 (.box (.t 0)),iI 4 (.box (.t 1)),iI 5 (.box (.t 2)),iI 6 (.mv (.c (.int .i64 0)))]) c42_11
theorem fd42:fd? Tryz.prog 42=some (35,[.slot 6],ir42):=by kernel_rfl
noncomputable def f42(x0:ManagerManager)(x1:ManagerWire)(x2:ManagerRequest):Option (Int) :=
  (f23 x0).bind fun x3=>(if (decide (x3≠0))=true then (some x3) else (f66 x1).bind fun x4=>(if (decide (x4≠0))=true then (some x4) else (f45 x0 x2).bind fun x5=>(f48 x5).bind fun x6=>(if (decide (x6≠0))=true then (some x6) else (if (decide (x2.fKind=6))=true then (some 16) else (if (decide (x2.fKind=7))=true then (some 16) else (some 0))))))
theorem f42_ok{x0:ManagerManager}{x1:ManagerWire}{x2:ManagerRequest}{r_:Int}(H:f42 x0 x1 x2=some r_):Pure Tryz.prog 42 [.agg [.int .u64 x0.fIdentity,.int .i64 x0.fSeq,.int .i64 x0.fTries],.agg [.sl 7 false (x1.fDevices.map eResponderDevice),.sl 0 false (x1.fFaults.map (AV.int .i64)),.sl 0 false (x1.fLate.map AV.str)],.agg [.int .u64 x2.fTo,.int .i64 x2.fKind,.int .i64 x2.fParam,.str x2.fData]] (· = .int .i64 r_):=by
 refine Pure.walk3 fd42 none (Nat.le_of_ble_eq_true rfl) (by rfl) fun Q hQ=>?_
 simp only[f42] at H
 refine AW.rseq ?_
 try simp only[wm,wmd,↓wk,↓wl,nq,evV,↓reduceIte,sevalprocAttr]
 refine AW.sseq ?_
 refine AW.rseq ?_
 try simp only[wm,wmd,↓wk,↓wl,nq,evV,↓reduceIte,sevalprocAttr]
 refine evTs_pure hFn H (fun _ h=>f23_ok h) (by rfl) (by rfl) (by rfl) (by rfl) (fun _=>rfl) ?_<;>clear H<;>intro x3 H
 try simp only[eL,wm,wmd,↓wk,↓wl,nq,evV,↓reduceIte,sevalprocAttr]
 refine AW.rseq ?_
 try simp only[wm,wmd,↓wk,↓wl,nq,evV,↓reduceIte,sevalprocAttr]
 refine AW.ifc H (by rfl) ?_ ?_<;>clear H<;>intro H
 ·refine AW.rseq ?_
  try simp only[wm,wmd,↓wk,↓wl,nq,evV,↓reduceIte,sevalprocAttr]
  refine AW.ret ?_
  refine seqQ.ret ?_
  cases H
  exact hQ _ _ _ _ (.inr rfl) (by simp only[resVs,omap,resV,wm,wmd,↓wk,↓wl,nq,evV,↓reduceIte,sevalprocAttr];rfl) (hand_plain (by rfl)) (by first | exact Or.inl rfl | exact Or.inr rfl)
 ·refine AW.skip ?_
  refine seqQ.norm ?_
  refine AW.sseq ?_
  refine AW.rseq ?_
  try simp only[wm,wmd,↓wk,↓wl,nq,evV,↓reduceIte,sevalprocAttr]
  refine evTs_pure hFn H (fun _ h=>f66_ok h) (by rfl) (by rfl) (by rfl) (by rfl) (fun _=>rfl) ?_<;>clear H<;>intro x4 H
  try simp only[eL,wm,wmd,↓wk,↓wl,nq,evV,↓reduceIte,sevalprocAttr]
  refine AW.rseq ?_
  try simp only[wm,wmd,↓wk,↓wl,nq,evV,↓reduceIte,sevalprocAttr]
  refine AW.ifc H (by rfl) ?_ ?_<;>clear H<;>intro H
  ·refine AW.rseq ?_
   try simp only[wm,wmd,↓wk,↓wl,nq,evV,↓reduceIte,sevalprocAttr]
   refine AW.ret ?_
   refine seqQ.ret ?_
   cases H
   exact hQ _ _ _ _ (.inr rfl) (by simp only[resVs,omap,resV,wm,wmd,↓wk,↓wl,nq,evV,↓reduceIte,sevalprocAttr];rfl) (hand_plain (by rfl)) (by first | exact Or.inl rfl | exact Or.inr rfl)
  ·refine AW.skip ?_
   refine seqQ.norm ?_
   refine AW.sseq ?_
   refine AW.rseq ?_
   try simp only[wm,wmd,↓wk,↓wl,nq,evV,↓reduceIte,sevalprocAttr]
   refine evTs_pure hFn H (fun _ h=>f45_ok h) (by rfl) (by rfl) (by rfl) (by rfl) (fun _=>rfl) ?_<;>clear H<;>intro x5 H
   try simp only[eL,eApiMessage,eM,wm,wmd,↓wk,↓wl,nq,evV,↓reduceIte,sevalprocAttr]
   refine evTs_pure hFn H (fun _ h=>f48_ok h) (by rfl) (by rfl) (by rfl) (by rfl) (fun _=>rfl) ?_<;>clear H<;>intro x6 H
   try simp only[eL,wm,wmd,↓wk,↓wl,nq,evV,↓reduceIte,sevalprocAttr]
   refine AW.rseq ?_
   try simp only[wm,wmd,↓wk,↓wl,nq,evV,↓reduceIte,sevalprocAttr]
   refine AW.ifc H (by rfl) ?_ ?_<;>clear H<;>intro H
   ·refine AW.rseq ?_
    try simp only[wm,wmd,↓wk,↓wl,nq,evV,↓reduceIte,sevalprocAttr]
    refine AW.ret ?_
    refine seqQ.ret ?_
    cases H
    exact hQ _ _ _ _ (.inr rfl) (by simp only[resVs,omap,resV,wm,wmd,↓wk,↓wl,nq,evV,↓reduceIte,sevalprocAttr];rfl) (hand_plain (by rfl)) (by first | exact Or.inl rfl | exact Or.inr rfl)
   ·refine AW.skip ?_
    refine seqQ.norm ?_
    refine AW.sseq ?_
    refine AW.rseq ?_
    try simp only[wm,wmd,↓wk,↓wl,nq,evV,↓reduceIte,sevalprocAttr]
    refine evTs_ifg H (by rfl) ?_ ?_<;>clear H<;>intro H
    ·try simp only[wm,wmd,↓wk,↓wl,nq,evV,↓reduceIte,sevalprocAttr]
     refine AW.ift (by rfl) ?_
     refine AW.rseq ?_
     try simp only[wm,wmd,↓wk,↓wl,nq,evV,↓reduceIte,sevalprocAttr]
     refine AW.ret ?_
     refine seqQ.ret ?_
     cases H
     exact hQ _ _ _ _ (.inr rfl) (by simp only[resVs,omap,resV,wm,wmd,↓wk,↓wl,nq,evV,↓reduceIte,sevalprocAttr];rfl) (hand_plain (by rfl)) (by first | exact Or.inl rfl | exact Or.inr rfl)
    ·try simp only[wm,wmd,↓wk,↓wl,nq,evV,↓reduceIte,sevalprocAttr]
     refine AW.ifc H (by rfl) ?_ ?_<;>clear H<;>intro H
     ·refine AW.rseq ?_
      try simp only[wm,wmd,↓wk,↓wl,nq,evV,↓reduceIte,sevalprocAttr]
      refine AW.ret ?_
      refine seqQ.ret ?_
      cases H
      exact hQ _ _ _ _ (.inr rfl) (by simp only[resVs,omap,resV,wm,wmd,↓wk,↓wl,nq,evV,↓reduceIte,sevalprocAttr];rfl) (hand_plain (by rfl)) (by first | exact Or.inl rfl | exact Or.inr rfl)
     ·refine AW.skip ?_
      refine seqQ.norm ?_
      refine AW.rseq ?_
      try simp only[wm,wmd,↓wk,↓wl,nq,evV,↓reduceIte,sevalprocAttr]
      refine AW.ret ?_
      cases H
      exact hQ _ _ _ _ (.inr rfl) (by simp only[resVs,omap,resV,wm,wmd,↓wk,↓wl,nq,evV,↓reduceIte,sevalprocAttr];rfl) (hand_plain (by rfl)) (by first | exact Or.inl rfl | exact Or.inr rfl)
def c24_0:C:=.cond (.t 13) (.seq (.reg [iI 14 (.mv (.t 7)),iI 6 (.mv (.t 14))]) .ret) (.skip)
def c24_1:C:=.seq (.reg [iI 12 (.mv (.t 7)),iI 13 (.bin .neq (.t 12) (.c (.int .i64 0)))]) c24_0
def c24_2:C:=.cond (.t 17) (.seq (.reg [iI 6 (.mv (.c (.int .i64 11)))]) .ret) (.skip)
def c24_3:C:=.seq (.reg [iI 6 (.mv (.c (.int .i64 0)))]) .ret
def c24_4:C:=.seq (.seq (.reg [iI 15 (.faddr 0 (.t 5)),iI 16 (.load 0 (.t 15)),iI 17 (.bin .eql (.t 16) (.c (.int .u64 281474976710655)))]) c24_2) c24_3
def c24_5:C:=.seq (.seq (.reg [iI 8 (.load 3 (.t 3)),iI 9 (.load 3 (.t 4)),iI 10 (.load 4 (.t 5)),iI 11 (.call (.c (.fn 42 [])) [(.t 8),(.t 9),(.t 10)]),iI 7 (.mv (.t 11))]) c24_1) c24_4
def ir24:C:=.seq (.reg [iI 3 (.box (.t 0)),iI 4 (.box (.t 1)),iI 5 (.box (.t 2)),iI 6 (.mv (.c (.int .i64 0)))]) c24_5
theorem fd24:fd? Tryz.prog 24=some (18,[.slot 6],ir24):=by kernel_rfl
noncomputable def f24(x0:ManagerManager)(x1:ManagerWire)(x2:ManagerRequest):Option (Int) :=
  (f42 x0 x1 x2).bind fun x3=>(if (decide (x3≠0))=true then (some x3) else (if (decide (x2.fTo=281474976710655))=true then (some 11) else (some 0)))
theorem f24_ok{x0:ManagerManager}{x1:ManagerWire}{x2:ManagerRequest}{r_:Int}(H:f24 x0 x1 x2=some r_):Pure Tryz.prog 24 [.agg [.int .u64 x0.fIdentity,.int .i64 x0.fSeq,.int .i64 x0.fTries],.agg [.sl 7 false (x1.fDevices.map eResponderDevice),.sl 0 false (x1.fFaults.map (AV.int .i64)),.sl 0 false (x1.fLate.map AV.str)],.agg [.int .u64 x2.fTo,.int .i64 x2.fKind,.int .i64 x2.fParam,.str x2.fData]] (· = .int .i64 r_):=by
 refine Pure.walk3 fd24 none (Nat.le_of_ble_eq_true rfl) (by rfl) fun Q hQ=>?_
 simp only[f24] at H
 refine AW.rseq ?_
 try simp only[wm,wmd,↓wk,↓wl,nq,evV,↓reduceIte,sevalprocAttr]
 refine AW.sseq ?_
 refine AW.rseq ?_
 try simp only[wm,wmd,↓wk,↓wl,nq,evV,↓reduceIte,sevalprocAttr]
 refine evTs_pure hFn H (fun _ h=>f42_ok h) (by rfl) (by rfl) (by rfl) (by rfl) (fun _=>rfl) ?_<;>clear H<;>intro x3 H
 try simp only[eL,wm,wmd,↓wk,↓wl,nq,evV,↓reduceIte,sevalprocAttr]
 refine AW.rseq ?_
 try simp only[wm,wmd,↓wk,↓wl,nq,evV,↓reduceIte,sevalprocAttr]
 refine AW.ifc H (by rfl) ?_ ?_<;>clear H<;>intro H
 ·refine AW.rseq ?_
  try simp only[wm,wmd,↓wk,↓wl,nq,evV,↓reduceIte,sevalprocAttr]
  refine AW.ret ?_
  refine seqQ.ret ?_
  cases H
  exact hQ _ _ _ _ (.inr rfl) (by simp only[resVs,omap,resV,wm,wmd,↓wk,↓wl,nq,evV,↓reduceIte,sevalprocAttr];rfl) (hand_plain (by rfl)) (by first | exact Or.inl rfl | exact Or.inr rfl)
 ·refine AW.skip ?_
  refine seqQ.norm ?_
  refine AW.sseq ?_
  refine AW.rseq ?_
  try simp only[wm,wmd,↓wk,↓wl,nq,evV,↓reduceIte,sevalprocAttr]
  refine AW.ifc H (by rfl) ?_ ?_<;>clear H<;>intro H
  ·refine AW.rseq ?_
   try simp only[wm,wmd,↓wk,↓wl,nq,evV,↓reduceIte,sevalprocAttr]
   refine AW.ret ?_
   refine seqQ.ret ?_
   cases H
   exact hQ _ _ _ _ (.inr rfl) (by simp only[resVs,omap,resV,wm,wmd,↓wk,↓wl,nq,evV,↓reduceIte,sevalprocAttr];rfl) (hand_plain (by rfl)) (by first | exact Or.inl rfl | exact Or.inr rfl)
  ·refine AW.skip ?_
   refine seqQ.norm ?_
   refine AW.rseq ?_
   try simp only[wm,wmd,↓wk,↓wl,nq,evV,↓reduceIte,sevalprocAttr]
   refine AW.ret ?_
   cases H
   exact hQ _ _ _ _ (.inr rfl) (by simp only[resVs,omap,resV,wm,wmd,↓wk,↓wl,nq,evV,↓reduceIte,sevalprocAttr];rfl) (hand_plain (by rfl)) (by first | exact Or.inl rfl | exact Or.inr rfl)
def c43_0:C:=.cond (.t 4) (.seq (.reg [iI 2 (.mv (.c (.sl 0 true [])))]) .ret) (.skip)
def c43_1:C:=.seq (.reg [iI 5 (.mkslp 0 0 (.int .i64 0) []),iI 6 (.mv (.t 0)),iI 7 (.append 0 8 (.t 5) (.t 6)),iI 2 (.mv (.t 7))]) .ret
def c43_2:C:=.seq (.seq (.reg [iI 3 (.mv (.t 0)),iI 4 (.isnil false (.t 3))]) c43_0) c43_1
def ir43:C:=.seq (.reg [iI 2 (.mv (.c (.sl 0 true [])))]) c43_2
theorem fd43:fd? Tryz.prog 43=some (8,[.slot 2],ir43):=by kernel_rfl
noncomputable def f43(x0:(List Int)):Option ((List Int)) :=
  (nil? (x0:List Int) false fun x1=>(if x1=true then (some []) else (app? 8 [] x0).bind fun x2=>(some x2)))
theorem f43_ok{x0:(List Int)}{r_:(List Int)}(H:f43 x0=some r_):Pure Tryz.prog 43 [.sl 0 false (x0.map (AV.int .i64))] (· = .fr 0 (r_.map (AV.int .i64))):=by
 refine Pure.walk3 fd43 (some 0) (Nat.le_of_ble_eq_true rfl) (by rfl) fun Q hQ=>?_
 simp only[f43] at H
 refine AW.rseq ?_
 try simp only[wm,wmd,↓wk,↓wl,nq,evV,↓reduceIte,sevalprocAttr]
 refine AW.sseq ?_
 refine AW.rseq ?_
 try simp only[wm,wmd,↓wk,↓wl,nq,evV,↓reduceIte,sevalprocAttr]
 refine evTs_isnil (enc:=(AV.int .i64)) H (by rfl) ?_<;>clear H<;>intro x1 H
 try simp only[wm,wmd,↓wk,↓wl,nq,evV,↓reduceIte,sevalprocAttr]
 refine AW.ifc H (by rfl) ?_ ?_<;>clear H<;>intro H
 ·refine AW.rseq ?_
  try simp only[wm,wmd,↓wk,↓wl,nq,evV,↓reduceIte,sevalprocAttr]
  refine AW.ret ?_
  refine seqQ.ret ?_
  cases H
  exact hQ _ _ _ _ (.inr rfl) (by simp only[resVs,omap,resV,wm,wmd,↓wk,↓wl,nq,evV,↓reduceIte,sevalprocAttr];rfl) hand_10 (by first | exact Or.inl rfl | exact Or.inr rfl)
 ·refine AW.skip ?_
  refine seqQ.norm ?_
  refine AW.rseq ?_
  try simp only[wm,wmd,↓wk,↓wl,nq,evV,↓reduceIte,sevalprocAttr]
  refine evTs_app0 (enc:=(AV.int .i64)) H (by rfl) (by rfl) ?_<;>clear H<;>intro x2 H
  try simp only[wm,wmd,↓wk,↓wl,nq,evV,↓reduceIte,sevalprocAttr]
  refine AW.ret ?_
  cases H
  exact hQ _ _ _ _ (.inr rfl) (by simp only[resVs,omap,resV,wm,wmd,↓wk,↓wl,nq,evV,↓reduceIte,sevalprocAttr];rfl) (hand_1 (by rfl) (by simp) (enc_all _)) (by first | exact Or.inl rfl | exact Or.inr rfl)
theorem f43_im{x0:(List Int)}{r_:(List Int)}(H:f43 x0=some r_):Pure Tryz.prog 43 [.sl 0 false (x0.map (AV.int .i64))] (· = .sl 0 false (r_.map (AV.int .i64))):=(f43_ok H).unfr (by first | exact enc_fits _ | simp only[frFits,List.all_cons,List.all_nil,enc_fits,Bool.and_self])
def c44_0:C:=.cond (.t 4) (.seq (.reg [iI 2 (.mv (.c (.sl 0 true [])))]) .ret) (.skip)
def c44_1:C:=.seq (.reg [iI 5 (.mkslp 0 0 (.str []) []),iI 6 (.mv (.t 0)),iI 7 (.append 0 16 (.t 5) (.t 6)),iI 2 (.mv (.t 7))]) .ret
def c44_2:C:=.seq (.seq (.reg [iI 3 (.mv (.t 0)),iI 4 (.isnil false (.t 3))]) c44_0) c44_1
def ir44:C:=.seq (.reg [iI 2 (.mv (.c (.sl 0 true [])))]) c44_2
theorem fd44:fd? Tryz.prog 44=some (8,[.slot 2],ir44):=by kernel_rfl
noncomputable def f44(x0:(List (List UInt8))):Option ((List (List UInt8))) :=
  (nil? (x0:List (List UInt8)) false fun x1=>(if x1=true then (some []) else (app? 16 [] x0).bind fun x2=>(some x2)))
theorem f44_ok{x0:(List (List UInt8))}{r_:(List (List UInt8))}(H:f44 x0=some r_):Pure Tryz.prog 44 [.sl 0 false (x0.map AV.str)] (· = .fr 0 (r_.map AV.str)):=by
 refine Pure.walk3 fd44 (some 0) (Nat.le_of_ble_eq_true rfl) (by rfl) fun Q hQ=>?_
 simp only[f44] at H
 refine AW.rseq ?_
 try simp only[wm,wmd,↓wk,↓wl,nq,evV,↓reduceIte,sevalprocAttr]
 refine AW.sseq ?_
 refine AW.rseq ?_
 try simp only[wm,wmd,↓wk,↓wl,nq,evV,↓reduceIte,sevalprocAttr]
 refine evTs_isnil (enc:=AV.str) H (by rfl) ?_<;>clear H<;>intro x1 H
 try simp only[wm,wmd,↓wk,↓wl,nq,evV,↓reduceIte,sevalprocAttr]
 refine AW.ifc H (by rfl) ?_ ?_<;>clear H<;>intro H
 ·refine AW.rseq ?_
  try simp only[wm,wmd,↓wk,↓wl,nq,evV,↓reduceIte,sevalprocAttr]
  refine AW.ret ?_
  refine seqQ.ret ?_
  cases H
  exact hQ _ _ _ _ (.inr rfl) (by simp only[resVs,omap,resV,wm,wmd,↓wk,↓wl,nq,evV,↓reduceIte,sevalprocAttr];rfl) hand_10 (by first | exact Or.inl rfl | exact Or.inr rfl)
 ·refine AW.skip ?_
  refine seqQ.norm ?_
  refine AW.rseq ?_
  try simp only[wm,wmd,↓wk,↓wl,nq,evV,↓reduceIte,sevalprocAttr]
  refine evTs_app0 (enc:=AV.str) H (by rfl) (by rfl) ?_<;>clear H<;>intro x2 H
  try simp only[wm,wmd,↓wk,↓wl,nq,evV,↓reduceIte,sevalprocAttr]
  refine AW.ret ?_
  cases H
  exact hQ _ _ _ _ (.inr rfl) (by simp only[resVs,omap,resV,wm,wmd,↓wk,↓wl,nq,evV,↓reduceIte,sevalprocAttr];rfl) (hand_1 (by rfl) (by simp) (enc_all _)) (by first | exact Or.inl rfl | exact Or.inr rfl)
theorem f44_im{x0:(List (List UInt8))}{r_:(List (List UInt8))}(H:f44 x0=some r_):Pure Tryz.prog 44 [.sl 0 false (x0.map AV.str)] (· = .sl 0 false (r_.map AV.str)):=(f44_ok H).unfr (by first | exact enc_fits _ | simp only[frFits,List.all_cons,List.all_nil,enc_fits,Bool.and_self])
def c25_0:C:=.seq (.regq [iI 3 (.faddr 0 (.t 1)),iI 4 (.load 0 (.t 3)),iI 5 (.call (.c (.fn 29 [])) [(.t 4)]),iI 6 (.faddr 1 (.t 1)),iI 7 (.load 0 (.t 6)),iI 8 (.call (.c (.fn 43 [])) [(.t 7)]),iI 9 (.faddr 2 (.t 1)),iI 10 (.load 0 (.t 9)),iI 11 (.call (.c (.fn 44 [])) [(.t 10)]),iI 12 (.build [(1,(.sl 7 true [])),(1,(.sl 0 true [])),(1,(.sl 0 true []))] [(0,0,(.t 5)),(1,0,(.t 8)),(2,0,(.t 11))]),iN (.store 3 (.t 2) (.t 12))]) .ret
def ir25:C:=.seq (.reg [iI 1 (.box (.t 0)),iI 2 (.alloc [(1,(.sl 7 true [])),(1,(.sl 0 true [])),(1,(.sl 0 true []))])]) c25_0
theorem fd25:fd? Tryz.prog 25=some (13,[.cell 2 3],ir25):=by kernel_rfl
noncomputable def f25(x0:ManagerWire):Option (ManagerWire) :=
  (f29 x0.fDevices).bind fun x1=>(f43 x0.fFaults).bind fun x2=>(f44 x0.fLate).bind fun x3=>(some (ManagerWire.mk x1 x2 x3))
theorem f25_ok{x0:ManagerWire}{r_:ManagerWire}(H:f25 x0=some r_):Pure Tryz.prog 25 [.agg [.sl 7 false (x0.fDevices.map eResponderDevice),.sl 0 false (x0.fFaults.map (AV.int .i64)),.sl 0 false (x0.fLate.map AV.str)]] (· = .agg [.sl 7 false (r_.fDevices.map eResponderDevice),.sl 0 false (r_.fFaults.map (AV.int .i64)),.sl 0 false (r_.fLate.map AV.str)]):=by
 refine Pure.walk3 fd25 none (Nat.le_of_ble_eq_true rfl) (by rfl) fun Q hQ=>?_
 simp only[f25] at H
 refine AW.rseq ?_
 try simp only[wm,wmd,↓wk,↓wl,nq,evV,↓reduceIte,sevalprocAttr]
 refine AW.rqseq ?_
 try simp only[wm,wmd,↓wk,↓wl,nq,evV,↓reduceIte,sevalprocAttr]
 refine evTs_pure hFnq H (fun _ h=>f29_im h) (by rfl) (by rfl) (by rfl) (by rfl) (fun _=>rfl) ?_<;>clear H<;>intro x1 H
 try simp only[eL,wm,wmd,↓wk,↓wl,nq,evV,↓reduceIte,sevalprocAttr]
 refine evTs_pure hFnq H (fun _ h=>f43_im h) (by rfl) (by rfl) (by rfl) (by rfl) (fun _=>rfl) ?_<;>clear H<;>intro x2 H
 try simp only[eL,wm,wmd,↓wk,↓wl,nq,evV,↓reduceIte,sevalprocAttr]
 refine evTs_pure hFnq H (fun _ h=>f44_im h) (by rfl) (by rfl) (by rfl) (by rfl) (fun _=>rfl) ?_<;>clear H<;>intro x3 H
 try simp only[eL,wm,wmd,↓wk,↓wl,nq,evV,↓reduceIte,sevalprocAttr]
 refine AW.ret ?_
 cases H
 exact hQ _ _ _ _ (.inr rfl) (by simp only[resVs,omap,resV,wm,wmd,↓wk,↓wl,nq,evV,↓reduceIte,sevalprocAttr];rfl) (hand_plain (by rfl)) (by first | exact Or.inl rfl | exact Or.inr rfl)
theorem con69:fd? Tryz.prog 69=some (36,[.slot 2],conC 0 16 115):=by kernel_rfl
theorem gro115:fd? Tryz.prog 115=some (27,[.slot 4],growC 0 16 (.str [])):=by kernel_rfl
noncomputable def f69(xss:List (List (List UInt8))):Option (List (List UInt8)):=conc? 16 xss
theorem f69_ok{xss:List (List (List UInt8))}{r_:List (List UInt8)}(H:f69 xss=some r_):Pure Tryz.prog 69 [.sl 0 false (xss.map (eL 0 AV.str))] (· = .fr 0 (r_.map AV.str)):=conc_ok H con69 gro115
end Go.Proofs.YtgjfhplkochbpaaGreat
