import Derived.Test.YtgjfhplkochbpaaGreatAM4
import Derived.Test.YtgjfhplkochbpaaGreatAM6
import Derived.Test.YtgjfhplkochbpaaGreatAMB
import Derived.Test.YtgjfhplkochbpaaGreatProg
import Derived.KernelRfl
namespace Go.Proofs.YtgjfhplkochbpaaGreat
open Go Go.Ab
set_option maxHeartbeats 1000000
set_option maxRecDepth 4000
set_option linter.unusedSimpArgs false
set_option linter.unusedVariables false
structure DiscoveryFinding where
  fFound:(List Int)
  fMessages:Int
def eDiscoveryFinding(x:DiscoveryFinding):AV:=.agg [.sl 0 false (x.fFound.map (AV.int .u64)),.int .i64 x.fMessages]
instance:IsEnc 2 eDiscoveryFinding:=⟨fun _=>rfl,fun _=>rfl,fun _=>rfl⟩
structure ResponderDevice where
  fIdentity:Int
  fFootprint:Int
  fAddress:Int
  fLabel:(List UInt8)
  fHours:Int
  fMuted:Bool
  fIdentify:Bool
def eResponderDevice(x:ResponderDevice):AV:=.agg [.int .u64 x.fIdentity,.int .i64 x.fFootprint,.int .i64 x.fAddress,.str x.fLabel,.int .i64 x.fHours,.bool x.fMuted,.bool x.fIdentify]
instance:IsFlat eResponderDevice:=⟨fun _=>rfl⟩
instance:IsEnc 7 eResponderDevice:=⟨fun _=>rfl,fun _=>rfl,fun _=>rfl⟩
structure ApiMessage where
  fTo:Int
  fFrom:Int
  fSeq:Int
  fKind:Int
  fParam:Int
  fData:(List UInt8)
def eApiMessage(x:ApiMessage):AV:=.agg [.int .u64 x.fTo,.int .u64 x.fFrom,.int .i64 x.fSeq,.int .i64 x.fKind,.int .i64 x.fParam,.str x.fData]
instance:IsFlat eApiMessage:=⟨fun _=>rfl⟩
instance:IsEnc 6 eApiMessage:=⟨fun _=>rfl,fun _=>rfl,fun _=>rfl⟩
structure Ref47Device where
  fIdentity:Int
  fFootprint:Int
  fAddress:Int
  fLabel:(List UInt8)
  fHours:Int
  fMuted:Bool
  fIdentify:Bool
def eRef47Device(x:Ref47Device):AV:=.agg [.int .u64 x.fIdentity,.int .i64 x.fFootprint,.int .i64 x.fAddress,.str x.fLabel,.int .i64 x.fHours,.bool x.fMuted,.bool x.fIdentify]
instance:IsFlat eRef47Device:=⟨fun _=>rfl⟩
instance:IsEnc 7 eRef47Device:=⟨fun _=>rfl,fun _=>rfl,fun _=>rfl⟩
def c71_0:C:=.seq (.reg [iI 3 (.mv (.t 0)),iI 4 (.bin .gtr (.t 3) (.c (.int .u64 0))),iI 5 (.mv (.t 4)),iG (some 6) 5 true (.mv (.t 0)),iG (some 7) 5 true (.bin .lss (.t 6) (.c (.int .u64 281474976710655))),iI 8 (.pick (.t 5) (.t 7) (.c (.bool false))),iI 2 (.mv (.t 8))]) .ret
def ir71:C:=.seq (.reg [iI 2 (.mv (.c (.bool false)))]) c71_0
theorem fd71:fd? Tryz.prog 71=some (9,[.slot 2],ir71):=by kernel_rfl
noncomputable def f71(x0:Int):Option (Bool) :=
  (if (decide (0<x0))=true then (some (decide (x0<281474976710655))) else (some false))
theorem f71_ok{x0:Int}{r_:Bool}(H:f71 x0=some r_):Pure Tryz.prog 71 [.int .u64 x0] (· = .bool r_):=by
 refine Pure.walk3 fd71 none (Nat.le_of_ble_eq_true rfl) (by rfl) fun Q hQ=>?_
 simp only[f71] at H
 refine AW.rseq ?_
 try simp only[wm,wmd,↓wk,↓wl,nq,evV,↓reduceIte,sevalprocAttr]
 refine AW.rseq ?_
 try simp only[wm,wmd,↓wk,↓wl,nq,evV,↓reduceIte,sevalprocAttr]
 refine evTs_ifg H (by rfl) ?_ ?_<;>clear H<;>intro H
 ·try simp only[wm,wmd,↓wk,↓wl,nq,evV,↓reduceIte,sevalprocAttr]
  refine AW.ret ?_
  cases H
  exact hQ _ _ _ _ (.inr rfl) (by simp only[resVs,omap,resV,wm,wmd,↓wk,↓wl,nq,evV,↓reduceIte,sevalprocAttr];rfl) (hand_plain (by rfl)) (by first | exact Or.inl rfl | exact Or.inr rfl)
 ·try simp only[wm,wmd,↓wk,↓wl,nq,evV,↓reduceIte,sevalprocAttr]
  refine AW.ret ?_
  cases H
  exact hQ _ _ _ _ (.inr rfl) (by simp only[resVs,omap,resV,wm,wmd,↓wk,↓wl,nq,evV,↓reduceIte,sevalprocAttr];rfl) (hand_plain (by rfl)) (by first | exact Or.inl rfl | exact Or.inr rfl)
def c72_0:C:=.seq (.reg [iI 5 (.mv (.t 1)),iI 6 (.bin .geq (.t 5) (.c (.int .i64 1))),iI 7 (.mv (.t 6)),iG (some 8) 7 true (.mv (.t 1)),iG (some 9) 7 true (.bin .leq (.t 8) (.c (.int .i64 512))),iI 10 (.pick (.t 7) (.t 9) (.c (.bool false))),iI 11 (.mv (.t 10)),iG (some 12) 11 true (.mv (.t 1)),iG (some 13) 11 true (.mv (.t 0)),iG (some 14) 11 true (.nilchk (.t 13)),iG (some 15) 11 true (.faddr 1 (.t 14)),iG (some 16) 11 true (.load 0 (.t 15)),iG (some 17) 11 true (.bin .add (.t 12) (.t 16)),iG (some 18) 11 true (.bin .sub (.t 17) (.c (.int .i64 1))),iG (some 19) 11 true (.bin .leq (.t 18) (.c (.int .i64 512))),iI 20 (.pick (.t 11) (.t 19) (.c (.bool false))),iI 4 (.mv (.t 20))]) .ret
def ir72:C:=.seq (.reg [iI 4 (.mv (.c (.bool false)))]) c72_0
theorem fd72:fd? Tryz.prog 72=some (21,[.slot 4],ir72):=by kernel_rfl
noncomputable def f72p(x0:Int)(x1:Int)(x2:Int)(x3:(List UInt8))(x4:Int)(x5:Bool)(x6:Bool)(x7:Int):Option (Bool) :=
  (if (decide (1≤x7))=true then (if (decide (x7≤512))=true then (some (decide ((IntKind.i64.wrap ((IntKind.i64.wrap (x7 + x1)) - 1))≤512))) else (some false)) else (some false))
theorem f72p_ok{x0:Int}{x1:Int}{x2:Int}{x3:(List UInt8)}{x4:Int}{x5:Bool}{x6:Bool}{x7:Int}{r_:Bool}(H:f72p x0 x1 x2 x3 x4 x5 x6 x7=some r_):Pure Tryz.prog 72 [.pro [.int .u64 x0,.int .i64 x1,.int .i64 x2,.str x3,.int .i64 x4,.bool x5,.bool x6],.int .i64 x7] (· = .bool r_):=by
 refine Pure.walk3 fd72 none (Nat.le_of_ble_eq_true rfl) (by rfl) fun Q hQ=>?_
 simp only[f72p] at H
 refine AW.rseq ?_
 try simp only[wm,wmd,↓wk,↓wl,nq,evV,↓reduceIte,sevalprocAttr]
 refine AW.rseq ?_
 try simp only[wm,wmd,↓wk,↓wl,nq,evV,↓reduceIte,sevalprocAttr]
 refine evTs_ifg H (by rfl) ?_ ?_<;>clear H<;>intro H
 ·try simp only[wm,wmd,↓wk,↓wl,nq,evV,↓reduceIte,sevalprocAttr]
  refine evTs_ifg H (by rfl) ?_ ?_<;>clear H<;>intro H
  ·try simp only[wm,wmd,↓wk,↓wl,nq,evV,↓reduceIte,sevalprocAttr]
   refine AW.ret ?_
   cases H
   exact hQ _ _ _ _ (.inr rfl) (by simp only[resVs,omap,resV,wm,wmd,↓wk,↓wl,nq,evV,↓reduceIte,sevalprocAttr];rfl) (hand_plain (by rfl)) (by first | exact Or.inl rfl | exact Or.inr rfl)
  ·try simp only[wm,wmd,↓wk,↓wl,nq,evV,↓reduceIte,sevalprocAttr]
   refine AW.ret ?_
   cases H
   exact hQ _ _ _ _ (.inr rfl) (by simp only[resVs,omap,resV,wm,wmd,↓wk,↓wl,nq,evV,↓reduceIte,sevalprocAttr];rfl) (hand_plain (by rfl)) (by first | exact Or.inl rfl | exact Or.inr rfl)
 ·try simp only[wm,wmd,↓wk,↓wl,nq,evV,↓reduceIte,sevalprocAttr]
  refine AW.ret ?_
  cases H
  exact hQ _ _ _ _ (.inr rfl) (by simp only[resVs,omap,resV,wm,wmd,↓wk,↓wl,nq,evV,↓reduceIte,sevalprocAttr];rfl) (hand_plain (by rfl)) (by first | exact Or.inl rfl | exact Or.inr rfl)
def c118_0:C:=.seq (.reg [iI 3 (.mv (.t 0)),iI 4 (.bin .lss (.t 3) (.c (.int .i32 32))),iI 5 (.mv (.t 4)),iG (some 6) 5 false (.mv (.t 0)),iG (some 7) 5 false (.bin .gtr (.t 6) (.c (.int .i32 126))),iI 8 (.pick (.t 5) (.c (.bool true)) (.t 7)),iI 2 (.mv (.t 8))]) .ret
def ir118:C:=.seq (.reg [iI 2 (.mv (.c (.bool false)))]) c118_0
theorem fd118:fd? Tryz.prog 118=some (9,[.slot 2],ir118):=by kernel_rfl
noncomputable def f118(x0:Int):Option (Bool) :=
  (if (decide (x0<32))=true then (some true) else (some (decide (126<x0))))
theorem f118_ok{x0:Int}{r_:Bool}(H:f118 x0=some r_):Pure Tryz.prog 118 [.int .i32 x0] (· = .bool r_):=by
 refine Pure.walk3 fd118 none (Nat.le_of_ble_eq_true rfl) (by rfl) fun Q hQ=>?_
 simp only[f118] at H
 refine AW.rseq ?_
 try simp only[wm,wmd,↓wk,↓wl,nq,evV,↓reduceIte,sevalprocAttr]
 refine AW.rseq ?_
 try simp only[wm,wmd,↓wk,↓wl,nq,evV,↓reduceIte,sevalprocAttr]
 refine evTs_ifg H (by rfl) ?_ ?_<;>clear H<;>intro H
 ·try simp only[wm,wmd,↓wk,↓wl,nq,evV,↓reduceIte,sevalprocAttr]
  refine AW.ret ?_
  cases H
  exact hQ _ _ _ _ (.inr rfl) (by simp only[resVs,omap,resV,wm,wmd,↓wk,↓wl,nq,evV,↓reduceIte,sevalprocAttr];rfl) (hand_plain (by rfl)) (by first | exact Or.inl rfl | exact Or.inr rfl)
 ·try simp only[wm,wmd,↓wk,↓wl,nq,evV,↓reduceIte,sevalprocAttr]
  refine AW.ret ?_
  cases H
  exact hQ _ _ _ _ (.inr rfl) (by simp only[resVs,omap,resV,wm,wmd,↓wk,↓wl,nq,evV,↓reduceIte,sevalprocAttr];rfl) (hand_plain (by rfl)) (by first | exact Or.inl rfl | exact Or.inr rfl)
noncomputable def f132_118_L1(x0:(List UInt8))(x1:Bool):Lp (Nat) ((Unit)⊕(Int)) where
  body:=fun x2=>(if decide (x2<x0.length)=true then (f118 ((dcd x0 x2).1:Int)).bind fun x3=>(if (x3 == x1)=true then (some (.brk (Sum.inr (x2:Int)))) else (some (.next (x2 + (dcd x0 x2).2)))) else (some (.brk (Sum.inl ()))))
  cst:=fun x2=>⟨put (put (put (fun _=>.junk) 10 (.ptr 0 0)) 2 (.bool x1)) 1 (.fn 118 []),[.itr x0 x2]⟩
theorem f132_118_L1c(x0:(List UInt8))(x1:Bool)(x2:Nat):(f132_118_L1 x0 x1).cst x2=⟨put (put (put (fun _=>.junk) 10 (.ptr 0 0)) 2 (.bool x1)) 1 (.fn 118 []),[.itr x0 x2]⟩:=rfl
def c132_0:C:=.cond (.t 19) (.seq (.reg [iI 20 (.mv (.t 7)),iI 6 (.mv (.t 20))]) .ret) (.skip)
def c132_1:C:=.seq (.reg [iI 15 (.mv (.t 1)),iI 16 (.mv (.t 8)),iI 17 (.call (.t 15) [(.t 16)]),iI 18 (.mv (.t 2)),iI 19 (.binb .eql (.t 17) (.t 18))]) c132_0
def c132_2:C:=.block 1 (.seq (.reg [iI 13 (.ext (.t 11) 1),iI 14 (.ext (.t 11) 2),iI 7 (.mv (.t 13)),iI 8 (.mv (.t 14))]) c132_1)
def c132_3:C:=.seq (.cond (.t 12) (.skip) (.exit 0)) c132_2
def c132_4:C:=.block 0 (.loop (.seq (.reg [iI 11 (.next (.t 10)),iI 12 (.ext (.t 11) 0)]) c132_3))
def c132_5:C:=.seq (.reg [iI 6 (.mv (.c (.int .i64 (-1))))]) .ret
def c132_6:C:=.seq (.seq (.reg [iI 9 (.mv (.t 0)),iI 10 (.rng (.t 9))]) c132_4) c132_5
def ir132:C:=.seq (.reg [iI 6 (.mv (.c (.int .i64 0)))]) c132_6
theorem fd132:fd? Tryz.prog 132=some (21,[.slot 6],ir132):=by kernel_rfl
noncomputable def f132_118(x0:(List UInt8))(x1:Bool):Option (Int) :=
  ((Lp.run (f132_118_L1 x0 x1) 0).bind fun r_=>match r_ with | (Sum.inl _)=>(some (-1)) | (Sum.inr x2)=>(some x2))
theorem f132_118_ok{x0:(List UInt8)}{x1:Bool}{r_:Int}(H:f132_118 x0 x1=some r_):Pure Tryz.prog 132 [.str x0,.fn 118 [],.bool x1] (· = .int .i64 r_):=by
 refine Pure.walk3 fd132 none (Nat.le_of_ble_eq_true rfl) (by rfl) fun Q hQ=>?_
 simp only[f132_118] at H
 refine AW.rseq ?_
 try simp only[wm,wmd,↓wk,↓wl,nq,evV,↓reduceIte,sevalprocAttr]
 refine AW.sseq ?_
 refine AW.rseq ?_
 try simp only[wm,wmd,↓wk,↓wl,nq,evV,↓reduceIte,sevalprocAttr]
 refine evTs_rng (by rfl) ?_
 try simp only[wm,wmd,↓wk,↓wl,nq,evV,↓reduceIte,sevalprocAttr]
 refine AW.bend ?_
 refine AW.iter H ((Le.tz [0] [1,2,10] (by simp only[f132_118_L1c,wm,wmr,rrm,↓wk,↓wl,evV,↓reduceIte,sevalprocAttr]<;>rfl))) ?_<;>clear H
 rintro x2 x_ st0_ H hst_
 rw[f132_118_L1c] at hst_
 simp only[f132_118_L1] at H
 subst hst_
 refine AW.rseq ?_
 try simp only[wm,wmd,↓wk,↓wl,nq,evV,↓reduceIte,sevalprocAttr]
 refine evTs_next H (by rfl) (by rfl) ?_ ?_<;>clear H<;>intro H
 ·try simp only[wm,wmd,↓wk,↓wl,nq,evV,↓reduceIte,sevalprocAttr]
  refine AW.sseq ?_
  refine AW.ift (by rfl) ?_
  refine AW.skip ?_
  refine seqQ.norm ?_
  refine AW.bend ?_
  refine AW.rseq ?_
  try simp only[wm,wmd,↓wk,↓wl,nq,evV,↓reduceIte,sevalprocAttr]
  refine AW.rseq ?_
  try simp only[wm,wmd,↓wk,↓wl,nq,evV,↓reduceIte,sevalprocAttr]
  refine evTs_pure hFn H (fun _ h=>f118_ok h) (by rfl) (by rfl) (by rfl) (by rfl) (fun _=>rfl) ?_<;>clear H<;>intro x3 H
  try simp only[eL,wm,wmd,↓wk,↓wl,nq,evV,↓reduceIte,sevalprocAttr]
  refine AW.ifc H (by rfl) ?_ ?_<;>clear H<;>intro H
  ·refine AW.rseq ?_
   try simp only[wm,wmd,↓wk,↓wl,nq,evV,↓reduceIte,sevalprocAttr]
   refine AW.ret ?_
   refine blk0.ret ?_
   refine loopQ.ret H ?_<;>clear H<;>intro H
   try dsimp only at H
   refine blk0.ret ?_
   refine seqQ.ret ?_
   cases H
   exact hQ _ _ _ _ (.inr rfl) (by simp only[resVs,omap,resV,wm,wmd,↓wk,↓wl,nq,evV,↓reduceIte,sevalprocAttr];rfl) (hand_plain (by rfl)) (by first | exact Or.inl rfl | exact Or.inr rfl)
  ·refine AW.skip ?_
   refine blk0.norm ?_
   exact loopQ.next H ((Le.tz [0] [1,2,10] (by simp only[f132_118_L1c,wm,wmr,rrm,↓wk,↓wl,evV,↓reduceIte,sevalprocAttr]<;>rfl)))
 ·try simp only[wm,wmd,↓wk,↓wl,nq,evV,↓reduceIte,sevalprocAttr]
  refine AW.sseq ?_
  refine AW.iff (by rfl) ?_
  refine AW.exit ?_
  refine seqQ.exit ?_
  refine loopQ.exit H ?_<;>clear H<;>intro H
  try dsimp only at H
  refine blk0.here ?_
  refine seqQ.norm ?_
  refine AW.rseq ?_
  try simp only[wm,wmd,↓wk,↓wl,nq,evV,↓reduceIte,sevalprocAttr]
  refine AW.ret ?_
  cases H
  exact hQ _ _ _ _ (.inr rfl) (by simp only[resVs,omap,resV,wm,wmd,↓wk,↓wl,nq,evV,↓reduceIte,sevalprocAttr];rfl) (hand_plain (by rfl)) (by first | exact Or.inl rfl | exact Or.inr rfl)
def c128_0:C:=.seq (.reg [iI 5 (.mv (.t 0)),iI 6 (.mv (.t 1)),iI 7 (.call (.c (.fn 132 [])) [(.t 5),(.t 6),(.c (.bool true))]),iI 4 (.mv (.t 7))]) .ret
def ir128:C:=.seq (.reg [iI 4 (.mv (.c (.int .i64 0)))]) c128_0
theorem fd128:fd? Tryz.prog 128=some (8,[.slot 4],ir128):=by kernel_rfl
noncomputable def f128_118(x0:(List UInt8)):Option (Int) :=
  (f132_118 x0 true).bind fun x1=>(some x1)
theorem f128_118_ok{x0:(List UInt8)}{r_:Int}(H:f128_118 x0=some r_):Pure Tryz.prog 128 [.str x0,.fn 118 []] (· = .int .i64 r_):=by
 refine Pure.walk3 fd128 none (Nat.le_of_ble_eq_true rfl) (by rfl) fun Q hQ=>?_
 simp only[f128_118] at H
 refine AW.rseq ?_
 try simp only[wm,wmd,↓wk,↓wl,nq,evV,↓reduceIte,sevalprocAttr]
 refine AW.rseq ?_
 try simp only[wm,wmd,↓wk,↓wl,nq,evV,↓reduceIte,sevalprocAttr]
 refine evTs_pure hFn H (fun _ h=>f132_118_ok h) (by rfl) (by rfl) (by rfl) (by rfl) (fun _=>rfl) ?_<;>clear H<;>intro x1 H
 try simp only[eL,wm,wmd,↓wk,↓wl,nq,evV,↓reduceIte,sevalprocAttr]
 refine AW.ret ?_
 cases H
 exact hQ _ _ _ _ (.inr rfl) (by simp only[resVs,omap,resV,wm,wmd,↓wk,↓wl,nq,evV,↓reduceIte,sevalprocAttr];rfl) (hand_plain (by rfl)) (by first | exact Or.inl rfl | exact Or.inr rfl)
def c117_0:C:=.seq (.reg [iI 5 (.mv (.t 0)),iI 6 (.mv (.t 1)),iI 7 (.call (.c (.fn 128 [])) [(.t 5),(.t 6)]),iI 8 (.bin .geq (.t 7) (.c (.int .i64 0))),iI 4 (.mv (.t 8))]) .ret
def ir117:C:=.seq (.reg [iI 4 (.mv (.c (.bool false)))]) c117_0
theorem fd117:fd? Tryz.prog 117=some (9,[.slot 4],ir117):=by kernel_rfl
noncomputable def f117_118(x0:(List UInt8)):Option (Bool) :=
  (f128_118 x0).bind fun x1=>(some (decide (0≤x1)))
theorem f117_118_ok{x0:(List UInt8)}{r_:Bool}(H:f117_118 x0=some r_):Pure Tryz.prog 117 [.str x0,.fn 118 []] (· = .bool r_):=by
 refine Pure.walk3 fd117 none (Nat.le_of_ble_eq_true rfl) (by rfl) fun Q hQ=>?_
 simp only[f117_118] at H
 refine AW.rseq ?_
 try simp only[wm,wmd,↓wk,↓wl,nq,evV,↓reduceIte,sevalprocAttr]
 refine AW.rseq ?_
 try simp only[wm,wmd,↓wk,↓wl,nq,evV,↓reduceIte,sevalprocAttr]
 refine evTs_pure hFn H (fun _ h=>f128_118_ok h) (by rfl) (by rfl) (by rfl) (by rfl) (fun _=>rfl) ?_<;>clear H<;>intro x1 H
 try simp only[eL,wm,wmd,↓wk,↓wl,nq,evV,↓reduceIte,sevalprocAttr]
 refine AW.ret ?_
 cases H
 exact hQ _ _ _ _ (.inr rfl) (by simp only[resVs,omap,resV,wm,wmd,↓wk,↓wl,nq,evV,↓reduceIte,sevalprocAttr];rfl) (hand_plain (by rfl)) (by first | exact Or.inl rfl | exact Or.inr rfl)
def c73_0:C:=.cond (.t 5) (.seq (.reg [iI 2 (.mv (.c (.int .i64 13)))]) .ret) (.skip)
def c73_1:C:=.cond (.t 7) (.seq (.reg [iI 2 (.mv (.c (.int .i64 3)))]) .ret) (.skip)
def c73_2:C:=.seq (.reg [iI 2 (.mv (.c (.int .i64 0)))]) .ret
def c73_3:C:=.seq (.seq (.reg [iI 6 (.mv (.t 0)),iI 7 (.call (.c (.fn 117 [])) [(.t 6),(.c (.fn 118 []))])]) c73_1) c73_2
def c73_4:C:=.seq (.seq (.reg [iI 3 (.mv (.t 0)),iI 4 (.len 1 (.t 3)),iI 5 (.bin .gtr (.t 4) (.c (.int .i64 32)))]) c73_0) c73_3
def ir73:C:=.seq (.reg [iI 2 (.mv (.c (.int .i64 0)))]) c73_4
theorem fd73:fd? Tryz.prog 73=some (8,[.slot 2],ir73):=by kernel_rfl
noncomputable def f73(x0:(List UInt8)):Option (Int) :=
  (if (decide (32<((x0.length:Nat):Int)))=true then (some 13) else (f117_118 x0).bind fun x1=>(if x1=true then (some 3) else (some 0)))
theorem f73_ok{x0:(List UInt8)}{r_:Int}(H:f73 x0=some r_):Pure Tryz.prog 73 [.str x0] (· = .int .i64 r_):=by
 refine Pure.walk3 fd73 none (Nat.le_of_ble_eq_true rfl) (by rfl) fun Q hQ=>?_
 simp only[f73] at H
 refine AW.rseq ?_
 try simp only[wm,wmd,↓wk,↓wl,nq,evV,↓reduceIte,sevalprocAttr]
 refine AW.sseq ?_
 refine AW.rseq ?_
 try simp only[wm,wmd,↓wk,↓wl,nq,evV,↓reduceIte,sevalprocAttr]
 refine AW.ifc H (by rfl) ?_ ?_<;>clear H<;>intro H
 ·refine AW.rseq ?_
  try simp only[wm,wmd,↓wk,↓wl,nq,evV,↓reduceIte,sevalprocAttr]
  refine AW.ret ?_
  refine seqQ.ret ?_
  cases H
  exact hQ _ _ _ _ (.inr rfl) (by simp only[resVs,omap,resV,wm,wmd,↓wk,↓wl,nq,evV,↓reduceIte,sevalprocAttr];rfl) (hand_plain (by rfl)) (by first | exact Or.inl rfl | exact Or.inr rfl)
 ·refine AW.skip ?_
  refine seqQ.norm ?_
  refine AW.sseq ?_
  refine AW.rseq ?_
  try simp only[wm,wmd,↓wk,↓wl,nq,evV,↓reduceIte,sevalprocAttr]
  refine evTs_pure hFn H (fun _ h=>f117_118_ok h) (by rfl) (by rfl) (by rfl) (by rfl) (fun _=>rfl) ?_<;>clear H<;>intro x1 H
  try simp only[eL,wm,wmd,↓wk,↓wl,nq,evV,↓reduceIte,sevalprocAttr]
  refine AW.ifc H (by rfl) ?_ ?_<;>clear H<;>intro H
  ·refine AW.rseq ?_
   try simp only[wm,wmd,↓wk,↓wl,nq,evV,↓reduceIte,sevalprocAttr]
   refine AW.ret ?_
   refine seqQ.ret ?_
   cases H
   exact hQ _ _ _ _ (.inr rfl) (by simp only[resVs,omap,resV,wm,wmd,↓wk,↓wl,nq,evV,↓reduceIte,sevalprocAttr];rfl) (hand_plain (by rfl)) (by first | exact Or.inl rfl | exact Or.inr rfl)
  ·refine AW.skip ?_
   refine seqQ.norm ?_
   refine AW.rseq ?_
   try simp only[wm,wmd,↓wk,↓wl,nq,evV,↓reduceIte,sevalprocAttr]
   refine AW.ret ?_
   cases H
   exact hQ _ _ _ _ (.inr rfl) (by simp only[resVs,omap,resV,wm,wmd,↓wk,↓wl,nq,evV,↓reduceIte,sevalprocAttr];rfl) (hand_plain (by rfl)) (by first | exact Or.inl rfl | exact Or.inr rfl)
def c47_0:C:=.cond (.t 23) (.seq (.reg [iI 2 (.mv (.c (.int .i64 2)))]) .ret) (.skip)
def c47_1:C:=.cond (.t 28) (.seq (.reg [iI 29 (.mv (.t 3)),iI 2 (.mv (.t 29))]) .ret) (.skip)
def c47_2:C:=.seq (.reg [iI 27 (.mv (.t 3)),iI 28 (.bin .neq (.t 27) (.c (.int .i64 0)))]) c47_1
def c47_3:C:=.cond (.t 37) (.seq (.reg [iI 2 (.mv (.c (.int .i64 2)))]) .ret) (.skip)
def c47_4:C:=.seq (.reg [iI 2 (.mv (.c (.int .i64 0)))]) .ret
def c47_5:C:=.seq (.seq (.reg [iI 30 (.faddr 4 (.t 1)),iI 31 (.load 0 (.t 30)),iI 32 (.bin .lss (.t 31) (.c (.int .i64 0))),iI 33 (.mv (.t 32)),iG (some 34) 33 false (.faddr 4 (.t 1)),iG (some 35) 33 false (.load 0 (.t 34)),iG (some 36) 33 false (.bin .gtr (.t 35) (.c (.int .i64 4294967295))),iI 37 (.pick (.t 33) (.c (.bool true)) (.t 36))]) c47_3) c47_4
def c47_6:C:=.seq (.seq (.reg [iI 24 (.faddr 3 (.t 1)),iI 25 (.load 0 (.t 24)),iI 26 (.call (.c (.fn 73 [])) [(.t 25)]),iI 3 (.mv (.t 26))]) c47_2) c47_5
def c47_7:C:=.seq (.seq (.reg [iI 4 (.faddr 0 (.t 1)),iI 5 (.load 0 (.t 4)),iI 6 (.call (.c (.fn 71 [])) [(.t 5)]),iI 7 (.un .not (.t 6)),iI 8 (.mv (.t 7)),iG (some 9) 8 false (.faddr 1 (.t 1)),iG (some 10) 8 false (.load 0 (.t 9)),iG (some 11) 8 false (.bin .lss (.t 10) (.c (.int .i64 1))),iI 12 (.pick (.t 8) (.c (.bool true)) (.t 11)),iI 13 (.mv (.t 12)),iG (some 14) 13 false (.faddr 1 (.t 1)),iG (some 15) 13 false (.load 0 (.t 14)),iG (some 16) 13 false (.bin .gtr (.t 15) (.c (.int .i64 512))),iI 17 (.pick (.t 13) (.c (.bool true)) (.t 16)),iI 18 (.mv (.t 17)),iG (some 19) 18 false (.faddr 2 (.t 1)),iG (some 20) 18 false (.load 0 (.t 19)),iG (some 21) 18 false (.call (.c (.fn 72 [])) [(.t 1),(.t 20)]),iG (some 22) 18 false (.un .not (.t 21)),iI 23 (.pick (.t 18) (.c (.bool true)) (.t 22))]) c47_0) c47_6
def ir47:C:=.seq (.reg [iI 1 (.box (.t 0)),iI 2 (.mv (.c (.int .i64 0)))]) c47_7
theorem fd47:fd? Tryz.prog 47=some (38,[.slot 2],ir47):=by kernel_rfl
noncomputable def f47(x0:ResponderDevice):Option (Int) :=
  (f71 x0.fIdentity).bind fun x1=>(if (!x1)=true then (some 2) else (if (decide (x0.fFootprint<1))=true then (some 2) else (if (decide (512<x0.fFootprint))=true then (some 2) else (f72p x0.fIdentity x0.fFootprint x0.fAddress x0.fLabel x0.fHours x0.fMuted x0.fIdentify x0.fAddress).bind fun x2=>(if (!x2)=true then (some 2) else (f73 x0.fLabel).bind fun x3=>(if (decide (x3≠0))=true then (some x3) else (if (decide (x0.fHours<0))=true then (some 2) else (if (decide (4294967295<x0.fHours))=true then (some 2) else (some 0))))))))
theorem f47_ok{x0:ResponderDevice}{r_:Int}(H:f47 x0=some r_):Pure Tryz.prog 47 [.agg [.int .u64 x0.fIdentity,.int .i64 x0.fFootprint,.int .i64 x0.fAddress,.str x0.fLabel,.int .i64 x0.fHours,.bool x0.fMuted,.bool x0.fIdentify]] (· = .int .i64 r_):=by
 refine Pure.walk3 fd47 none (Nat.le_of_ble_eq_true rfl) (by rfl) fun Q hQ=>?_
 simp only[f47] at H
 refine AW.rseq ?_
 try simp only[wm,wmd,↓wk,↓wl,nq,evV,↓reduceIte,sevalprocAttr]
 refine AW.sseq ?_
 refine AW.rseq ?_
 try simp only[wm,wmd,↓wk,↓wl,nq,evV,↓reduceIte,sevalprocAttr]
 refine evTs_pure hFn H (fun _ h=>f71_ok h) (by rfl) (by rfl) (by rfl) (by rfl) (fun _=>rfl) ?_<;>clear H<;>intro x1 H
 try simp only[eL,wm,wmd,↓wk,↓wl,nq,evV,↓reduceIte,sevalprocAttr]
 refine evTs_ifg H (by rfl) ?_ ?_<;>clear H<;>intro H
 ·try simp only[wm,wmd,↓wk,↓wl,nq,evV,↓reduceIte,sevalprocAttr]
  refine AW.ift (by rfl) ?_
  refine AW.rseq ?_
  try simp only[wm,wmd,↓wk,↓wl,nq,evV,↓reduceIte,sevalprocAttr]
  refine AW.ret ?_
  refine seqQ.ret ?_
  cases H
  exact hQ _ _ _ _ (.inr rfl) (by simp only[resVs,omap,resV,wm,wmd,↓wk,↓wl,nq,evV,↓reduceIte,sevalprocAttr];rfl) (hand_plain (by rfl)) (by first | exact Or.inl rfl | exact Or.inr rfl)
 ·try simp only[wm,wmd,↓wk,↓wl,nq,evV,↓reduceIte,sevalprocAttr]
  refine evTs_ifg H (by rfl) ?_ ?_<;>clear H<;>intro H
  ·try simp only[wm,wmd,↓wk,↓wl,nq,evV,↓reduceIte,sevalprocAttr]
   refine AW.ift (by rfl) ?_
   refine AW.rseq ?_
   try simp only[wm,wmd,↓wk,↓wl,nq,evV,↓reduceIte,sevalprocAttr]
   refine AW.ret ?_
   refine seqQ.ret ?_
   cases H
   exact hQ _ _ _ _ (.inr rfl) (by simp only[resVs,omap,resV,wm,wmd,↓wk,↓wl,nq,evV,↓reduceIte,sevalprocAttr];rfl) (hand_plain (by rfl)) (by first | exact Or.inl rfl | exact Or.inr rfl)
  ·try simp only[wm,wmd,↓wk,↓wl,nq,evV,↓reduceIte,sevalprocAttr]
   refine evTs_ifg H (by rfl) ?_ ?_<;>clear H<;>intro H
   ·try simp only[wm,wmd,↓wk,↓wl,nq,evV,↓reduceIte,sevalprocAttr]
    refine AW.ift (by rfl) ?_
    refine AW.rseq ?_
    try simp only[wm,wmd,↓wk,↓wl,nq,evV,↓reduceIte,sevalprocAttr]
    refine AW.ret ?_
    refine seqQ.ret ?_
    cases H
    exact hQ _ _ _ _ (.inr rfl) (by simp only[resVs,omap,resV,wm,wmd,↓wk,↓wl,nq,evV,↓reduceIte,sevalprocAttr];rfl) (hand_plain (by rfl)) (by first | exact Or.inl rfl | exact Or.inr rfl)
   ·try simp only[wm,wmd,↓wk,↓wl,nq,evV,↓reduceIte,sevalprocAttr]
    refine evTs_flat hFn H (fun _ h=>f72p_ok h) (by rfl) (by rfl) (by simp only[deep_eq,imm_simps,imm_rowE,imm_ptrE,imm_enc,imm_mrefE,imm_mpE,imm_arowE,omap_simps,take_map_len,take_map_set,take_map_set2,List.length_set,le_refl_true,Nat.zero_add,and_true,true_and,List.drop_zero,Option.map_some,wm,wmd,↓wk,↓wl,nq,evV,↓reduceIte,sevalprocAttr];rfl) (by rfl) (fun _=>rfl) (fun _=>rfl) ?_<;>clear H<;>intro x2 H
    try simp only[eL,wm,wmd,↓wk,↓wl,nq,evV,↓reduceIte,sevalprocAttr]
    refine AW.ifc H (by rfl) ?_ ?_<;>clear H<;>intro H
    ·refine AW.rseq ?_
     try simp only[wm,wmd,↓wk,↓wl,nq,evV,↓reduceIte,sevalprocAttr]
     refine AW.ret ?_
     refine seqQ.ret ?_
     cases H
     exact hQ _ _ _ _ (.inr rfl) (by simp only[resVs,omap,resV,wm,wmd,↓wk,↓wl,nq,evV,↓reduceIte,sevalprocAttr];rfl) (hand_plain (by rfl)) (by first | exact Or.inl rfl | exact Or.inr rfl)
    ·refine AW.skip ?_
     refine seqQ.norm ?_
     refine AW.sseq ?_
     refine AW.rseq ?_
     try simp only[wm,wmd,↓wk,↓wl,nq,evV,↓reduceIte,sevalprocAttr]
     refine evTs_pure hFn H (fun _ h=>f73_ok h) (by rfl) (by rfl) (by rfl) (by rfl) (fun _=>rfl) ?_<;>clear H<;>intro x3 H
     try simp only[eL,wm,wmd,↓wk,↓wl,nq,evV,↓reduceIte,sevalprocAttr]
     refine AW.rseq ?_
     try simp only[wm,wmd,↓wk,↓wl,nq,evV,↓reduceIte,sevalprocAttr]
     refine AW.ifc H (by rfl) ?_ ?_<;>clear H<;>intro H
     ·refine AW.rseq ?_
      try simp only[wm,wmd,↓wk,↓wl,nq,evV,↓reduceIte,sevalprocAttr]
      refine AW.ret ?_
      refine seqQ.ret ?_
      cases H
      exact hQ _ _ _ _ (.inr rfl) (by simp only[resVs,omap,resV,wm,wmd,↓wk,↓wl,nq,evV,↓reduceIte,sevalprocAttr];rfl) (hand_plain (by rfl)) (by first | exact Or.inl rfl | exact Or.inr rfl)
     ·refine AW.skip ?_
      refine seqQ.norm ?_
      refine AW.sseq ?_
      refine AW.rseq ?_
      try simp only[wm,wmd,↓wk,↓wl,nq,evV,↓reduceIte,sevalprocAttr]
      refine evTs_ifg H (by rfl) ?_ ?_<;>clear H<;>intro H
      ·try simp only[wm,wmd,↓wk,↓wl,nq,evV,↓reduceIte,sevalprocAttr]
       refine AW.ift (by rfl) ?_
       refine AW.rseq ?_
       try simp only[wm,wmd,↓wk,↓wl,nq,evV,↓reduceIte,sevalprocAttr]
       refine AW.ret ?_
       refine seqQ.ret ?_
       cases H
       exact hQ _ _ _ _ (.inr rfl) (by simp only[resVs,omap,resV,wm,wmd,↓wk,↓wl,nq,evV,↓reduceIte,sevalprocAttr];rfl) (hand_plain (by rfl)) (by first | exact Or.inl rfl | exact Or.inr rfl)
      ·try simp only[wm,wmd,↓wk,↓wl,nq,evV,↓reduceIte,sevalprocAttr]
       refine AW.ifc H (by rfl) ?_ ?_<;>clear H<;>intro H
       ·refine AW.rseq ?_
        try simp only[wm,wmd,↓wk,↓wl,nq,evV,↓reduceIte,sevalprocAttr]
        refine AW.ret ?_
        refine seqQ.ret ?_
        cases H
        exact hQ _ _ _ _ (.inr rfl) (by simp only[resVs,omap,resV,wm,wmd,↓wk,↓wl,nq,evV,↓reduceIte,sevalprocAttr];rfl) (hand_plain (by rfl)) (by first | exact Or.inl rfl | exact Or.inr rfl)
       ·refine AW.skip ?_
        refine seqQ.norm ?_
        refine AW.rseq ?_
        try simp only[wm,wmd,↓wk,↓wl,nq,evV,↓reduceIte,sevalprocAttr]
        refine AW.ret ?_
        cases H
        exact hQ _ _ _ _ (.inr rfl) (by simp only[resVs,omap,resV,wm,wmd,↓wk,↓wl,nq,evV,↓reduceIte,sevalprocAttr];rfl) (hand_plain (by rfl)) (by first | exact Or.inl rfl | exact Or.inr rfl)
def c74_0:C:=.seq (.reg [iI 3 (.mv (.t 0)),iI 4 (.bin .gtr (.t 3) (.c (.int .u64 0))),iI 5 (.mv (.t 4)),iG (some 6) 5 true (.mv (.t 0)),iG (some 7) 5 true (.bin .lss (.t 6) (.c (.int .u64 281474976710655))),iI 8 (.pick (.t 5) (.t 7) (.c (.bool false))),iI 2 (.mv (.t 8))]) .ret
def ir74:C:=.seq (.reg [iI 2 (.mv (.c (.bool false)))]) c74_0
theorem fd74:fd? Tryz.prog 74=some (9,[.slot 2],ir74):=by kernel_rfl
noncomputable def f74(x0:Int):Option (Bool) :=
  (if (decide (0<x0))=true then (some (decide (x0<281474976710655))) else (some false))
theorem f74_ok{x0:Int}{r_:Bool}(H:f74 x0=some r_):Pure Tryz.prog 74 [.int .u64 x0] (· = .bool r_):=by
 refine Pure.walk3 fd74 none (Nat.le_of_ble_eq_true rfl) (by rfl) fun Q hQ=>?_
 simp only[f74] at H
 refine AW.rseq ?_
 try simp only[wm,wmd,↓wk,↓wl,nq,evV,↓reduceIte,sevalprocAttr]
 refine AW.rseq ?_
 try simp only[wm,wmd,↓wk,↓wl,nq,evV,↓reduceIte,sevalprocAttr]
 refine evTs_ifg H (by rfl) ?_ ?_<;>clear H<;>intro H
 ·try simp only[wm,wmd,↓wk,↓wl,nq,evV,↓reduceIte,sevalprocAttr]
  refine AW.ret ?_
  cases H
  exact hQ _ _ _ _ (.inr rfl) (by simp only[resVs,omap,resV,wm,wmd,↓wk,↓wl,nq,evV,↓reduceIte,sevalprocAttr];rfl) (hand_plain (by rfl)) (by first | exact Or.inl rfl | exact Or.inr rfl)
 ·try simp only[wm,wmd,↓wk,↓wl,nq,evV,↓reduceIte,sevalprocAttr]
  refine AW.ret ?_
  cases H
  exact hQ _ _ _ _ (.inr rfl) (by simp only[resVs,omap,resV,wm,wmd,↓wk,↓wl,nq,evV,↓reduceIte,sevalprocAttr];rfl) (hand_plain (by rfl)) (by first | exact Or.inl rfl | exact Or.inr rfl)
def c75_0:C:=.seq (.reg [iI 13 (.mv (.t 4)),iI 14 (.mv (.t 5)),iI 2 (.mv (.t 13)),iI 3 (.mv (.t 14))]) .ret
def c75_1:C:=.seq (.reg [iI 7 .mkmap,iN (.mapset 0 (.t 7) (.c (.int .i64 1)) (.c (.int .i64 12))),iN (.mapset 0 (.t 7) (.c (.int .i64 2)) (.c (.int .i64 0))),iN (.mapset 0 (.t 7) (.c (.int .i64 3)) (.c (.int .i64 0))),iN (.mapset 0 (.t 7) (.c (.int .i64 7)) (.c (.int .i64 1))),iI 8 (.mv (.t 7)),iI 9 (.mv (.t 0)),iI 10 (.lookup 0 (.int .i64 0) true (.t 8) (.t 9)),iI 6 (.mv (.t 10)),iI 11 (.ext (.t 6) 0),iI 12 (.ext (.t 6) 1),iI 4 (.mv (.t 11)),iI 5 (.mv (.t 12))]) c75_0
def ir75:C:=.seq (.reg [iI 2 (.mv (.c (.int .i64 0))),iI 3 (.mv (.c (.bool false)))]) c75_1
theorem fd75:fd? Tryz.prog 75=some (15,[.slot 2,.slot 3],ir75):=by kernel_rfl
noncomputable def f75(x0:Int):Option (Int×Bool) :=
  (look? ((mset ((mset ((mset ((mset ([]:(List (Int×Int))) 1 12):(List (Int×Int))) 2 0):(List (Int×Int))) 3 0):(List (Int×Int))) 7 1):(List (Int×Int))) x0 (0:Int) fun x1 x2=>(some (x1,x2)))
theorem f75_ok{x0:Int}{r_:Int×Bool}(H:f75 x0=some r_):Pure Tryz.prog 75 [.int .i64 x0] (· = .tup [.int .i64 r_.1,.bool r_.2]):=by
 refine Pure.walk3 fd75 none (Nat.le_of_ble_eq_true rfl) (by rfl) fun Q hQ=>?_
 simp only[f75] at H
 refine AW.rseq ?_
 try simp only[wm,wmd,↓wk,↓wl,nq,evV,↓reduceIte,sevalprocAttr]
 refine AW.rseq ?_
 try simp only[wm,wmd,↓wk,↓wl,nq,evV,↓reduceIte,sevalprocAttr]
 refine evTs_mset (m:=[]) (ek:=(AV.int .i64)) (ev:=(AV.int .i64)) 1 12 (by rfl) (by rfl) (by rfl) (by rfl) ?_
 try simp only[wm,wmd,↓wk,↓wl,nq,evV,↓reduceIte,sevalprocAttr]
 refine evTs_mset (m:=(mset ([]:(List (Int×Int))) 1 12)) (ek:=(AV.int .i64)) (ev:=(AV.int .i64)) 2 0 (by rfl) (by rfl) (by rfl) (by rfl) ?_
 try simp only[wm,wmd,↓wk,↓wl,nq,evV,↓reduceIte,sevalprocAttr]
 refine evTs_mset (m:=(mset ((mset ([]:(List (Int×Int))) 1 12):(List (Int×Int))) 2 0)) (ek:=(AV.int .i64)) (ev:=(AV.int .i64)) 3 0 (by rfl) (by rfl) (by rfl) (by rfl) ?_
 try simp only[wm,wmd,↓wk,↓wl,nq,evV,↓reduceIte,sevalprocAttr]
 refine evTs_mset (m:=(mset ((mset ((mset ([]:(List (Int×Int))) 1 12):(List (Int×Int))) 2 0):(List (Int×Int))) 3 0)) (ek:=(AV.int .i64)) (ev:=(AV.int .i64)) 7 1 (by rfl) (by rfl) (by rfl) (by rfl) ?_
 try simp only[wm,wmd,↓wk,↓wl,nq,evV,↓reduceIte,sevalprocAttr]
 refine evTs_lookR (ek:=(AV.int .i64)) (ev:=(AV.int .i64)) H true (by rfl) (by rfl) (by rfl) (by rfl) ?_<;>clear H<;>intro x1 x2 H
 try simp only[wm,wmd,↓wk,↓wl,nq,evV,↓reduceIte,sevalprocAttr]
 refine AW.rseq ?_
 try simp only[wm,wmd,↓wk,↓wl,nq,evV,↓reduceIte,sevalprocAttr]
 refine AW.ret ?_
 cases H
 exact hQ _ _ _ _ (.inr rfl) (by simp only[resVs,omap,resV,wm,wmd,↓wk,↓wl,nq,evV,↓reduceIte,sevalprocAttr];rfl) (hand_plain (by rfl)) (by first | exact Or.inl rfl | exact Or.inr rfl)
noncomputable def f76_L1(x0:(List UInt8)):Lp (Int×Int) (Int) where
  body:=fun (x1,x2)=>(if (decide (x2<((x0.length:Nat):Int)))=true then (at? x0 x2).bind fun x3=>(some (.next ((IntKind.u64.wrap ((BitVec.ofInt (IntKind.bits .u64) (IntKind.u64.wrap (x1 * 2 ^ (min (Int.toNat 8) (IntKind.bits .u64)))) ||| BitVec.ofInt (IntKind.bits .u64) (IntKind.u64.wrap (x3.toNat:Int))).toNat:Int)),(IntKind.i64.wrap (x2 + 1))))) else (some (.brk x1)))
  cst:=fun (x1,x2)=>⟨put (put (put (put (fun _=>.junk) 7 (.int .i64 x2)) 6 (.int .i64 ((x0.length:Nat):Int))) 3 (.int .u64 x1)) 0 (.str x0),[]⟩
theorem f76_L1c(x0:(List UInt8))(x1:Int)(x2:Int):(f76_L1 x0).cst (x1,x2)=⟨put (put (put (put (fun _=>.junk) 7 (.int .i64 x2)) 6 (.int .i64 ((x0.length:Nat):Int))) 3 (.int .u64 x1)) 0 (.str x0),[]⟩:=rfl
def c76_0:C:=.reg [iI 10 (.mv (.t 3)),iI 11 (.bin .shl (.t 10) (.c (.int .u64 8))),iI 12 (.mv (.t 0)),iI 13 (.mv (.t 4)),iI 14 (.sidx (.t 12) (.t 13)),iI 15 (.cint .u64 (.t 14)),iI 16 (.bin .or (.t 11) (.t 15)),iI 3 (.mv (.t 16))]
def c76_1:C:=.reg [iI 17 (.bin .add (.t 7) (.c (.int .i64 1))),iI 7 (.mv (.t 17))]
def c76_2:C:=.seq (.block 1 (.seq (.reg [iI 9 (.mv (.t 7)),iI 4 (.mv (.t 9))]) c76_0)) c76_1
def c76_3:C:=.seq (.cond (.t 8) (.skip) (.exit 0)) c76_2
def c76_4:C:=.block 0 (.loop (.seq (.reg [iI 8 (.bin .lss (.t 7) (.t 6))]) c76_3))
def c76_5:C:=.seq (.reg [iI 18 (.mv (.t 3)),iI 2 (.mv (.t 18))]) .ret
def c76_6:C:=.seq (.seq (.reg [iI 5 (.mv (.t 0)),iI 6 (.len 1 (.t 5)),iI 7 (.mv (.c (.int .i64 0)))]) c76_4) c76_5
def c76_7:C:=.seq (.reg [iI 3 (.mv (.c (.int .u64 0)))]) c76_6
def ir76:C:=.seq (.reg [iI 2 (.mv (.c (.int .u64 0)))]) c76_7
theorem fd76:fd? Tryz.prog 76=some (19,[.slot 2],ir76):=by kernel_rfl
noncomputable def f76(x0:(List UInt8)):Option (Int) :=
  (Lp.run (f76_L1 x0) (0,0)).bind fun x1=>(some x1)
theorem f76_ok{x0:(List UInt8)}{r_:Int}(H:f76 x0=some r_):Pure Tryz.prog 76 [.str x0] (· = .int .u64 r_):=by
 refine Pure.walk3 fd76 none (Nat.le_of_ble_eq_true rfl) (by rfl) fun Q hQ=>?_
 simp only[f76] at H
 refine AW.rseq ?_
 try simp only[wm,wmd,↓wk,↓wl,nq,evV,↓reduceIte,sevalprocAttr]
 refine AW.rseq ?_
 try simp only[wm,wmd,↓wk,↓wl,nq,evV,↓reduceIte,sevalprocAttr]
 refine AW.sseq ?_
 refine AW.rseq ?_
 try simp only[wm,wmd,↓wk,↓wl,nq,evV,↓reduceIte,sevalprocAttr]
 refine AW.bend ?_
 refine AW.iter H ((Le.tz [] [0,3,6,7] (by simp only[f76_L1c,wm,wmr,rrm,↓wk,↓wl,evV,↓reduceIte,sevalprocAttr]<;>rfl))) ?_<;>clear H
 rintro ⟨x1,x2⟩ x_ st0_ H hst_
 rw[f76_L1c] at hst_
 simp only[f76_L1] at H
 subst hst_
 refine AW.rseq ?_
 try simp only[wm,wmd,↓wk,↓wl,nq,evV,↓reduceIte,sevalprocAttr]
 refine AW.sseq ?_
 refine AW.ifc H (by rfl) ?_ ?_<;>clear H<;>intro H
 ·refine AW.skip ?_
  refine seqQ.norm ?_
  refine AW.bseq ?_
  refine AW.rseq ?_
  try simp only[wm,wmd,↓wk,↓wl,nq,evV,↓reduceIte,sevalprocAttr]
  refine AW.rend ?_
  try simp only[wm,wmd,↓wk,↓wl,nq,evV,↓reduceIte,sevalprocAttr]
  refine rest_shl (by decide) ?_
  try simp only[wm,wmd,↓wk,↓wl,nq,evV,↓reduceIte,sevalprocAttr]
  refine evTs_sat H (by rfl) (by rfl) ?_<;>clear H<;>intro x3 H
  try simp only[wm,wmd,↓wk,↓wl,nq,evV,↓reduceIte,sevalprocAttr]
  refine rest_or ?_
  try simp only[wm,wmd,↓wk,↓wl,nq,evV,↓reduceIte,sevalprocAttr]
  refine blkQ.norm ?_
  refine AW.rend ?_
  try simp only[wm,wmd,↓wk,↓wl,nq,evV,↓reduceIte,sevalprocAttr]
  exact loopQ.next H ((Le.tz [] [0,3,6,7] (by simp only[f76_L1c,wm,wmr,rrm,↓wk,↓wl,evV,↓reduceIte,sevalprocAttr]<;>rfl)))
 ·refine AW.exit ?_
  refine seqQ.exit ?_
  refine loopQ.exit H ?_<;>clear H<;>intro H
  try dsimp only at H
  refine blk0.here ?_
  refine seqQ.norm ?_
  refine AW.rseq ?_
  try simp only[wm,wmd,↓wk,↓wl,nq,evV,↓reduceIte,sevalprocAttr]
  refine AW.ret ?_
  cases H
  exact hQ _ _ _ _ (.inr rfl) (by simp only[resVs,omap,resV,wm,wmd,↓wk,↓wl,nq,evV,↓reduceIte,sevalprocAttr];rfl) (hand_plain (by rfl)) (by first | exact Or.inl rfl | exact Or.inr rfl)
noncomputable def f48_J2(x0:ApiMessage):Jn (Unit) (Int) where
  run:=fun _=>(if (decide (x0.fKind≠1))=true then (some 0) else (slc? x0.fData 0 6).bind fun x1=>(f76 x1).bind fun x2=>(slc? x0.fData 6 ((x0.fData.length:Nat):Int)).bind fun x3=>(f76 x3).bind fun x4=>(f74 x2).bind fun x5=>(if (!x5)=true then (some 2) else (f74 x4).bind fun x6=>(if (!x6)=true then (some 2) else (if (decide (x4<x2))=true then (some 9) else (some 0)))))
  cst:=fun _=>⟨put (fun _=>.junk) 1 (.ptr 0 0),[.cel [.int .u64 x0.fTo,.int .u64 x0.fFrom,.int .i64 x0.fSeq,.int .i64 x0.fKind,.int .i64 x0.fParam,.str x0.fData]]⟩
theorem f48_J2c(x0:ApiMessage)(x_:Unit):(f48_J2 x0).cst x_=⟨put (fun _=>.junk) 1 (.ptr 0 0),[.cel [.int .u64 x0.fTo,.int .u64 x0.fFrom,.int .i64 x0.fSeq,.int .i64 x0.fKind,.int .i64 x0.fParam,.str x0.fData]]⟩:=rfl
noncomputable def f48_J1(x0:ApiMessage):Jn (Unit) (Int) where
  run:=fun _=>(f75 x0.fKind).bind fun x1=>(if x1.2=true then (if (decide (((x0.fData.length:Nat):Int)≠x1.1))=true then (some 14) else ((f48_J2 x0).run ())) else ((f48_J2 x0).run ()))
  cst:=fun _=>⟨put (fun _=>.junk) 1 (.ptr 0 0),[.cel [.int .u64 x0.fTo,.int .u64 x0.fFrom,.int .i64 x0.fSeq,.int .i64 x0.fKind,.int .i64 x0.fParam,.str x0.fData]]⟩
theorem f48_J1c(x0:ApiMessage)(x_:Unit):(f48_J1 x0).cst x_=⟨put (fun _=>.junk) 1 (.ptr 0 0),[.cel [.int .u64 x0.fTo,.int .u64 x0.fFrom,.int .i64 x0.fSeq,.int .i64 x0.fKind,.int .i64 x0.fParam,.str x0.fData]]⟩:=rfl
def c48_0:C:=.cond (.t 51) (.seq (.reg [iI 2 (.mv (.c (.int .i64 13)))]) .ret) (.skip)
def c48_1:C:=.cond (.t 42) (.seq (.reg [iI 2 (.mv (.c (.int .i64 2)))]) .ret) (.seq (.reg [iI 52 (.faddr 5 (.t 1)),iI 53 (.load 0 (.t 52)),iI 54 (.len 1 (.t 53)),iI 55 (.bin .gtr (.t 54) (.c (.int .i64 255))),iI 51 (.mv (.t 55))]) c48_0)
def c48_2:C:=.cond (.t 33) (.seq (.reg [iI 2 (.mv (.c (.int .i64 1)))]) .ret) (.seq (.reg [iI 43 (.faddr 4 (.t 1)),iI 44 (.load 0 (.t 43)),iI 45 (.bin .lss (.t 44) (.c (.int .i64 0))),iI 46 (.mv (.t 45)),iG (some 47) 46 false (.faddr 4 (.t 1)),iG (some 48) 46 false (.load 0 (.t 47)),iG (some 49) 46 false (.bin .gtr (.t 48) (.c (.int .i64 65535))),iI 50 (.pick (.t 46) (.c (.bool true)) (.t 49)),iI 42 (.mv (.t 50))]) c48_1)
def c48_3:C:=.cond (.t 7) (.seq (.reg [iI 2 (.mv (.c (.int .i64 2)))]) .ret) (.seq (.reg [iI 34 (.faddr 3 (.t 1)),iI 35 (.load 0 (.t 34)),iI 36 (.bin .lss (.t 35) (.c (.int .i64 1))),iI 37 (.mv (.t 36)),iG (some 38) 37 false (.faddr 3 (.t 1)),iG (some 39) 37 false (.load 0 (.t 38)),iG (some 40) 37 false (.bin .gtr (.t 39) (.c (.int .i64 7))),iI 41 (.pick (.t 37) (.c (.bool true)) (.t 40)),iI 33 (.mv (.t 41))]) c48_2)
def c48_4:C:=.cond (.t 69) (.seq (.reg [iI 2 (.mv (.c (.int .i64 14)))]) .ret) (.skip)
def c48_5:C:=.seq (.reg [iI 62 (.mv (.t 4)),iI 63 (.mv (.t 62)),iG (some 64) 63 true (.faddr 5 (.t 1)),iG (some 65) 63 true (.load 0 (.t 64)),iG (some 66) 63 true (.len 1 (.t 65)),iG (some 67) 63 true (.mv (.t 3)),iG (some 68) 63 true (.bin .neq (.t 66) (.t 67)),iI 69 (.pick (.t 63) (.t 68) (.c (.bool false)))]) c48_4
def c48_6:C:=.cond (.t 72) (.seq (.reg [iI 2 (.mv (.c (.int .i64 0)))]) .ret) (.skip)
def c48_7:C:=.cond (.t 90) (.seq (.reg [iI 2 (.mv (.c (.int .i64 9)))]) .ret) (.skip)
def c48_8:C:=.cond (.t 81) (.seq (.reg [iI 2 (.mv (.c (.int .i64 2)))]) .ret) (.seq (.reg [iI 91 (.mv (.t 5)),iI 92 (.mv (.t 6)),iI 93 (.bin .gtr (.t 91) (.t 92)),iI 90 (.mv (.t 93))]) c48_7)
def c48_9:C:=.seq (.reg [iI 2 (.mv (.c (.int .i64 0)))]) .ret
def c48_10:C:=.seq (.block 1 (.seq (.reg [iI 82 (.mv (.t 5)),iI 83 (.call (.c (.fn 74 [])) [(.t 82)]),iI 84 (.un .not (.t 83)),iI 85 (.mv (.t 84)),iG (some 86) 85 false (.mv (.t 6)),iG (some 87) 85 false (.call (.c (.fn 74 [])) [(.t 86)]),iG (some 88) 85 false (.un .not (.t 87)),iI 89 (.pick (.t 85) (.c (.bool true)) (.t 88)),iI 81 (.mv (.t 89))]) c48_8)) c48_9
def c48_11:C:=.seq (.regq [iI 73 (.faddr 5 (.t 1)),iI 74 (.load 0 (.t 73)),iI 75 (.sslice (.t 74) none (some (.c (.int .i64 6)))),iI 76 (.call (.c (.fn 76 [])) [(.t 75)]),iI 77 (.faddr 5 (.t 1)),iI 78 (.load 0 (.t 77)),iI 79 (.sslice (.t 78) (some (.c (.int .i64 6))) none),iI 80 (.call (.c (.fn 76 [])) [(.t 79)]),iI 5 (.mv (.t 76)),iI 6 (.mv (.t 80))]) c48_10
def c48_12:C:=.seq (.seq (.reg [iI 70 (.faddr 3 (.t 1)),iI 71 (.load 0 (.t 70)),iI 72 (.bin .neq (.t 71) (.c (.int .i64 1)))]) c48_6) c48_11
def c48_13:C:=.seq (.seq (.reg [iI 57 (.faddr 3 (.t 1)),iI 58 (.load 0 (.t 57)),iI 59 (.call (.c (.fn 75 [])) [(.t 58)]),iI 56 (.mv (.t 59)),iI 60 (.ext (.t 56) 0),iI 61 (.ext (.t 56) 1),iI 3 (.mv (.t 60)),iI 4 (.mv (.t 61))]) c48_5) c48_12
def c48_14:C:=.seq (.block 0 (.seq (.reg [iI 8 (.faddr 0 (.t 1)),iI 9 (.load 0 (.t 8)),iI 10 (.call (.c (.fn 74 [])) [(.t 9)]),iI 11 (.un .not (.t 10)),iI 12 (.mv (.t 11)),iG (some 13) 12 true (.faddr 0 (.t 1)),iG (some 14) 12 true (.load 0 (.t 13)),iG (some 15) 12 true (.bin .neq (.t 14) (.c (.int .u64 281474976710655))),iI 16 (.pick (.t 12) (.t 15) (.c (.bool false))),iI 17 (.mv (.t 16)),iG (some 18) 17 false (.faddr 1 (.t 1)),iG (some 19) 17 false (.load 0 (.t 18)),iG (some 20) 17 false (.call (.c (.fn 74 [])) [(.t 19)]),iG (some 21) 17 false (.un .not (.t 20)),iI 22 (.pick (.t 17) (.c (.bool true)) (.t 21)),iI 23 (.mv (.t 22)),iG (some 24) 23 false (.faddr 2 (.t 1)),iG (some 25) 23 false (.load 0 (.t 24)),iG (some 26) 23 false (.bin .lss (.t 25) (.c (.int .i64 0))),iI 27 (.pick (.t 23) (.c (.bool true)) (.t 26)),iI 28 (.mv (.t 27)),iG (some 29) 28 false (.faddr 2 (.t 1)),iG (some 30) 28 false (.load 0 (.t 29)),iG (some 31) 28 false (.bin .gtr (.t 30) (.c (.int .i64 255))),iI 32 (.pick (.t 28) (.c (.bool true)) (.t 31)),iI 7 (.mv (.t 32))]) c48_3)) c48_13
def ir48:C:=.seq (.reg [iI 1 (.box (.t 0)),iI 2 (.mv (.c (.int .i64 0)))]) c48_14
theorem fd48:fd? Tryz.prog 48=some (94,[.slot 2],ir48):=by kernel_rfl
noncomputable def f48(x0:ApiMessage):Option (Int) :=
  (f74 x0.fTo).bind fun x1=>(if (!x1)=true then (if (decide (x0.fTo≠281474976710655))=true then (some 2) else (f74 x0.fFrom).bind fun x2=>(if (!x2)=true then (some 2) else (if (decide (x0.fSeq<0))=true then (some 2) else (if (decide (255<x0.fSeq))=true then (some 2) else (if (decide (x0.fKind<1))=true then (some 1) else (if (decide (7<x0.fKind))=true then (some 1) else (if (decide (x0.fParam<0))=true then (some 2) else (if (decide (65535<x0.fParam))=true then (some 2) else (if (decide (255<((x0.fData.length:Nat):Int)))=true then (some 13) else ((f48_J1 x0).run ())))))))))) else (f74 x0.fFrom).bind fun x3=>(if (!x3)=true then (some 2) else (if (decide (x0.fSeq<0))=true then (some 2) else (if (decide (255<x0.fSeq))=true then (some 2) else (if (decide (x0.fKind<1))=true then (some 1) else (if (decide (7<x0.fKind))=true then (some 1) else (if (decide (x0.fParam<0))=true then (some 2) else (if (decide (65535<x0.fParam))=true then (some 2) else (if (decide (255<((x0.fData.length:Nat):Int)))=true then (some 13) else ((f48_J1 x0).run ()))))))))))
theorem f48_ok{x0:ApiMessage}{r_:Int}(H:f48 x0=some r_):Pure Tryz.prog 48 [.agg [.int .u64 x0.fTo,.int .u64 x0.fFrom,.int .i64 x0.fSeq,.int .i64 x0.fKind,.int .i64 x0.fParam,.str x0.fData]] (· = .int .i64 r_):=by
 refine Pure.walk3 fd48 none (Nat.le_of_ble_eq_true rfl) (by rfl) fun Q hQ=>?_
 simp only[f48] at H
 refine AW.rseq ?_
 try simp only[wm,wmd,↓wk,↓wl,nq,evV,↓reduceIte,sevalprocAttr]
 refine AW.joinB (f48_J1 x0) H ?_ fun hf48_J1=>?_
 ·clear H
  rintro _ st0_ H hst_
  rw[f48_J1c] at hst_
  simp only[f48_J1] at H
  subst hst_
  refine AW.join (f48_J2 x0) H ?_ fun hf48_J2=>?_
  ·clear H
   rintro _ st0_ H hst_
   rw[f48_J2c] at hst_
   simp only[f48_J2] at H
   subst hst_
   refine AW.sseq ?_
   refine AW.rseq ?_
   try simp only[wm,wmd,↓wk,↓wl,nq,evV,↓reduceIte,sevalprocAttr]
   refine AW.ifc H (by rfl) ?_ ?_<;>clear H<;>intro H
   ·refine AW.rseq ?_
    try simp only[wm,wmd,↓wk,↓wl,nq,evV,↓reduceIte,sevalprocAttr]
    refine AW.ret ?_
    refine seqQ.ret ?_
    cases H
    exact hQ _ _ _ _ (.inr rfl) (by simp only[resVs,omap,resV,wm,wmd,↓wk,↓wl,nq,evV,↓reduceIte,sevalprocAttr];rfl) (hand_plain (by rfl)) (by first | exact Or.inl rfl | exact Or.inr rfl)
   ·refine AW.skip ?_
    refine seqQ.norm ?_
    refine AW.rqseq ?_
    try simp only[wm,wmd,↓wk,↓wl,nq,evV,↓reduceIte,sevalprocAttr]
    refine evTs_sslc H (by rfl) (by simp only[loI,hiI,wm,wmd,↓wk,↓wl,nq,evV,↓reduceIte,sevalprocAttr];rfl) (by simp only[loI,hiI,wm,wmd,↓wk,↓wl,nq,evV,↓reduceIte,sevalprocAttr];rfl) ?_<;>clear H<;>intro x1 H
    try simp only[wm,wmd,↓wk,↓wl,nq,evV,↓reduceIte,sevalprocAttr]
    refine evTs_pure hFnq H (fun _ h=>f76_ok h) (by rfl) (by rfl) (by rfl) (by rfl) (fun _=>rfl) ?_<;>clear H<;>intro x2 H
    try simp only[eL,wm,wmd,↓wk,↓wl,nq,evV,↓reduceIte,sevalprocAttr]
    refine evTs_sslc H (by rfl) (by simp only[loI,hiI,wm,wmd,↓wk,↓wl,nq,evV,↓reduceIte,sevalprocAttr];rfl) (by simp only[loI,hiI,wm,wmd,↓wk,↓wl,nq,evV,↓reduceIte,sevalprocAttr];rfl) ?_<;>clear H<;>intro x3 H
    try simp only[wm,wmd,↓wk,↓wl,nq,evV,↓reduceIte,sevalprocAttr]
    refine evTs_pure hFnq H (fun _ h=>f76_ok h) (by rfl) (by rfl) (by rfl) (by rfl) (fun _=>rfl) ?_<;>clear H<;>intro x4 H
    try simp only[eL,wm,wmd,↓wk,↓wl,nq,evV,↓reduceIte,sevalprocAttr]
    refine AW.bseq ?_
    refine AW.rseq ?_
    try simp only[wm,wmd,↓wk,↓wl,nq,evV,↓reduceIte,sevalprocAttr]
    refine evTs_pure hFn H (fun _ h=>f74_ok h) (by rfl) (by rfl) (by rfl) (by rfl) (fun _=>rfl) ?_<;>clear H<;>intro x5 H
    try simp only[eL,wm,wmd,↓wk,↓wl,nq,evV,↓reduceIte,sevalprocAttr]
    refine evTs_ifg H (by rfl) ?_ ?_<;>clear H<;>intro H
    ·try simp only[wm,wmd,↓wk,↓wl,nq,evV,↓reduceIte,sevalprocAttr]
     refine AW.ift (by rfl) ?_
     refine AW.rseq ?_
     try simp only[wm,wmd,↓wk,↓wl,nq,evV,↓reduceIte,sevalprocAttr]
     refine AW.ret ?_
     refine blkQ.ret ?_
     cases H
     exact hQ _ _ _ _ (.inr rfl) (by simp only[resVs,omap,resV,wm,wmd,↓wk,↓wl,nq,evV,↓reduceIte,sevalprocAttr];rfl) (hand_plain (by rfl)) (by first | exact Or.inl rfl | exact Or.inr rfl)
    ·try simp only[wm,wmd,↓wk,↓wl,nq,evV,↓reduceIte,sevalprocAttr]
     refine evTs_pure hFn H (fun _ h=>f74_ok h) (by rfl) (by rfl) (by rfl) (by rfl) (fun _=>rfl) ?_<;>clear H<;>intro x6 H
     try simp only[eL,wm,wmd,↓wk,↓wl,nq,evV,↓reduceIte,sevalprocAttr]
     refine AW.ifc H (by rfl) ?_ ?_<;>clear H<;>intro H
     ·refine AW.rseq ?_
      try simp only[wm,wmd,↓wk,↓wl,nq,evV,↓reduceIte,sevalprocAttr]
      refine AW.ret ?_
      refine blkQ.ret ?_
      cases H
      exact hQ _ _ _ _ (.inr rfl) (by simp only[resVs,omap,resV,wm,wmd,↓wk,↓wl,nq,evV,↓reduceIte,sevalprocAttr];rfl) (hand_plain (by rfl)) (by first | exact Or.inl rfl | exact Or.inr rfl)
     ·refine AW.rseq ?_
      try simp only[wm,wmd,↓wk,↓wl,nq,evV,↓reduceIte,sevalprocAttr]
      refine AW.ifc H (by rfl) ?_ ?_<;>clear H<;>intro H
      ·refine AW.rseq ?_
       try simp only[wm,wmd,↓wk,↓wl,nq,evV,↓reduceIte,sevalprocAttr]
       refine AW.ret ?_
       refine blkQ.ret ?_
       cases H
       exact hQ _ _ _ _ (.inr rfl) (by simp only[resVs,omap,resV,wm,wmd,↓wk,↓wl,nq,evV,↓reduceIte,sevalprocAttr];rfl) (hand_plain (by rfl)) (by first | exact Or.inl rfl | exact Or.inr rfl)
      ·refine AW.skip ?_
       refine blkQ.norm ?_
       refine AW.rseq ?_
       try simp only[wm,wmd,↓wk,↓wl,nq,evV,↓reduceIte,sevalprocAttr]
       refine AW.ret ?_
       cases H
       exact hQ _ _ _ _ (.inr rfl) (by simp only[resVs,omap,resV,wm,wmd,↓wk,↓wl,nq,evV,↓reduceIte,sevalprocAttr];rfl) (hand_plain (by rfl)) (by first | exact Or.inl rfl | exact Or.inr rfl)
  ·refine AW.rseq ?_
   try simp only[wm,wmd,↓wk,↓wl,nq,evV,↓reduceIte,sevalprocAttr]
   refine evTs_pure hFn H (fun _ h=>f75_ok h) (by rfl) (by rfl) (by rfl) (by rfl) (fun _=>rfl) ?_<;>clear H<;>intro x7 H
   try simp only[eL,wm,wmd,↓wk,↓wl,nq,evV,↓reduceIte,sevalprocAttr]
   refine AW.rseq ?_
   try simp only[wm,wmd,↓wk,↓wl,nq,evV,↓reduceIte,sevalprocAttr]
   refine evTs_ifg H (by rfl) ?_ ?_<;>clear H<;>intro H
   ·try simp only[wm,wmd,↓wk,↓wl,nq,evV,↓reduceIte,sevalprocAttr]
    refine AW.ifc H (by rfl) ?_ ?_<;>clear H<;>intro H
    ·refine AW.rseq ?_
     try simp only[wm,wmd,↓wk,↓wl,nq,evV,↓reduceIte,sevalprocAttr]
     refine AW.ret ?_
     refine seqQ.ret ?_
     cases H
     exact hQ _ _ _ _ (.inr rfl) (by simp only[resVs,omap,resV,wm,wmd,↓wk,↓wl,nq,evV,↓reduceIte,sevalprocAttr];rfl) (hand_plain (by rfl)) (by first | exact Or.inl rfl | exact Or.inr rfl)
    ·refine AW.skip ?_
     refine seqQ.norm ?_
     exact hf48_J2 _ _ H ((Le.tz [0] [1] (by simp only[f48_J2c,wm,wmr,rrm,↓wk,↓wl,evV,↓reduceIte,sevalprocAttr]<;>rfl)))
   ·try simp only[wm,wmd,↓wk,↓wl,nq,evV,↓reduceIte,sevalprocAttr]
    refine AW.iff (by rfl) ?_
    refine AW.skip ?_
    refine seqQ.norm ?_
    exact hf48_J2 _ _ H ((Le.tz [0] [1] (by simp only[f48_J2c,wm,wmr,rrm,↓wk,↓wl,evV,↓reduceIte,sevalprocAttr]<;>rfl)))
 ·refine AW.rseq ?_
  try simp only[wm,wmd,↓wk,↓wl,nq,evV,↓reduceIte,sevalprocAttr]
  refine evTs_pure hFn H (fun _ h=>f74_ok h) (by rfl) (by rfl) (by rfl) (by rfl) (fun _=>rfl) ?_<;>clear H<;>intro x8 H
  try simp only[eL,wm,wmd,↓wk,↓wl,nq,evV,↓reduceIte,sevalprocAttr]
  refine evTs_ifg H (by rfl) ?_ ?_<;>clear H<;>intro H
  ·try simp only[wm,wmd,↓wk,↓wl,nq,evV,↓reduceIte,sevalprocAttr]
   refine evTs_ifg H (by rfl) ?_ ?_<;>clear H<;>intro H
   ·try simp only[wm,wmd,↓wk,↓wl,nq,evV,↓reduceIte,sevalprocAttr]
    refine AW.ift (by rfl) ?_
    refine AW.rseq ?_
    try simp only[wm,wmd,↓wk,↓wl,nq,evV,↓reduceIte,sevalprocAttr]
    refine AW.ret ?_
    refine blkQ.ret ?_
    cases H
    exact hQ _ _ _ _ (.inr rfl) (by simp only[resVs,omap,resV,wm,wmd,↓wk,↓wl,nq,evV,↓reduceIte,sevalprocAttr];rfl) (hand_plain (by rfl)) (by first | exact Or.inl rfl | exact Or.inr rfl)
   ·try simp only[wm,wmd,↓wk,↓wl,nq,evV,↓reduceIte,sevalprocAttr]
    refine evTs_pure hFn H (fun _ h=>f74_ok h) (by rfl) (by rfl) (by rfl) (by rfl) (fun _=>rfl) ?_<;>clear H<;>intro x9 H
    try simp only[eL,wm,wmd,↓wk,↓wl,nq,evV,↓reduceIte,sevalprocAttr]
    refine evTs_ifg H (by rfl) ?_ ?_<;>clear H<;>intro H
    ·try simp only[wm,wmd,↓wk,↓wl,nq,evV,↓reduceIte,sevalprocAttr]
     refine AW.ift (by rfl) ?_
     refine AW.rseq ?_
     try simp only[wm,wmd,↓wk,↓wl,nq,evV,↓reduceIte,sevalprocAttr]
     refine AW.ret ?_
     refine blkQ.ret ?_
     cases H
     exact hQ _ _ _ _ (.inr rfl) (by simp only[resVs,omap,resV,wm,wmd,↓wk,↓wl,nq,evV,↓reduceIte,sevalprocAttr];rfl) (hand_plain (by rfl)) (by first | exact Or.inl rfl | exact Or.inr rfl)
    ·try simp only[wm,wmd,↓wk,↓wl,nq,evV,↓reduceIte,sevalprocAttr]
     refine evTs_ifg H (by rfl) ?_ ?_<;>clear H<;>intro H
     ·try simp only[wm,wmd,↓wk,↓wl,nq,evV,↓reduceIte,sevalprocAttr]
      refine AW.ift (by rfl) ?_
      refine AW.rseq ?_
      try simp only[wm,wmd,↓wk,↓wl,nq,evV,↓reduceIte,sevalprocAttr]
      refine AW.ret ?_
      refine blkQ.ret ?_
      cases H
      exact hQ _ _ _ _ (.inr rfl) (by simp only[resVs,omap,resV,wm,wmd,↓wk,↓wl,nq,evV,↓reduceIte,sevalprocAttr];rfl) (hand_plain (by rfl)) (by first | exact Or.inl rfl | exact Or.inr rfl)
     ·try simp only[wm,wmd,↓wk,↓wl,nq,evV,↓reduceIte,sevalprocAttr]
      refine AW.ifc H (by rfl) ?_ ?_<;>clear H<;>intro H
      ·refine AW.rseq ?_
       try simp only[wm,wmd,↓wk,↓wl,nq,evV,↓reduceIte,sevalprocAttr]
       refine AW.ret ?_
       refine blkQ.ret ?_
       cases H
       exact hQ _ _ _ _ (.inr rfl) (by simp only[resVs,omap,resV,wm,wmd,↓wk,↓wl,nq,evV,↓reduceIte,sevalprocAttr];rfl) (hand_plain (by rfl)) (by first | exact Or.inl rfl | exact Or.inr rfl)
      ·refine AW.rseq ?_
       try simp only[wm,wmd,↓wk,↓wl,nq,evV,↓reduceIte,sevalprocAttr]
       refine evTs_ifg H (by rfl) ?_ ?_<;>clear H<;>intro H
       ·try simp only[wm,wmd,↓wk,↓wl,nq,evV,↓reduceIte,sevalprocAttr]
        refine AW.ift (by rfl) ?_
        refine AW.rseq ?_
        try simp only[wm,wmd,↓wk,↓wl,nq,evV,↓reduceIte,sevalprocAttr]
        refine AW.ret ?_
        refine blkQ.ret ?_
        cases H
        exact hQ _ _ _ _ (.inr rfl) (by simp only[resVs,omap,resV,wm,wmd,↓wk,↓wl,nq,evV,↓reduceIte,sevalprocAttr];rfl) (hand_plain (by rfl)) (by first | exact Or.inl rfl | exact Or.inr rfl)
       ·try simp only[wm,wmd,↓wk,↓wl,nq,evV,↓reduceIte,sevalprocAttr]
        refine AW.ifc H (by rfl) ?_ ?_<;>clear H<;>intro H
        ·refine AW.rseq ?_
         try simp only[wm,wmd,↓wk,↓wl,nq,evV,↓reduceIte,sevalprocAttr]
         refine AW.ret ?_
         refine blkQ.ret ?_
         cases H
         exact hQ _ _ _ _ (.inr rfl) (by simp only[resVs,omap,resV,wm,wmd,↓wk,↓wl,nq,evV,↓reduceIte,sevalprocAttr];rfl) (hand_plain (by rfl)) (by first | exact Or.inl rfl | exact Or.inr rfl)
        ·refine AW.rseq ?_
         try simp only[wm,wmd,↓wk,↓wl,nq,evV,↓reduceIte,sevalprocAttr]
         refine evTs_ifg H (by rfl) ?_ ?_<;>clear H<;>intro H
         ·try simp only[wm,wmd,↓wk,↓wl,nq,evV,↓reduceIte,sevalprocAttr]
          refine AW.ift (by rfl) ?_
          refine AW.rseq ?_
          try simp only[wm,wmd,↓wk,↓wl,nq,evV,↓reduceIte,sevalprocAttr]
          refine AW.ret ?_
          refine blkQ.ret ?_
          cases H
          exact hQ _ _ _ _ (.inr rfl) (by simp only[resVs,omap,resV,wm,wmd,↓wk,↓wl,nq,evV,↓reduceIte,sevalprocAttr];rfl) (hand_plain (by rfl)) (by first | exact Or.inl rfl | exact Or.inr rfl)
         ·try simp only[wm,wmd,↓wk,↓wl,nq,evV,↓reduceIte,sevalprocAttr]
          refine AW.ifc H (by rfl) ?_ ?_<;>clear H<;>intro H
          ·refine AW.rseq ?_
           try simp only[wm,wmd,↓wk,↓wl,nq,evV,↓reduceIte,sevalprocAttr]
           refine AW.ret ?_
           refine blkQ.ret ?_
           cases H
           exact hQ _ _ _ _ (.inr rfl) (by simp only[resVs,omap,resV,wm,wmd,↓wk,↓wl,nq,evV,↓reduceIte,sevalprocAttr];rfl) (hand_plain (by rfl)) (by first | exact Or.inl rfl | exact Or.inr rfl)
          ·refine AW.rseq ?_
           try simp only[wm,wmd,↓wk,↓wl,nq,evV,↓reduceIte,sevalprocAttr]
           refine AW.ifc H (by rfl) ?_ ?_<;>clear H<;>intro H
           ·refine AW.rseq ?_
            try simp only[wm,wmd,↓wk,↓wl,nq,evV,↓reduceIte,sevalprocAttr]
            refine AW.ret ?_
            refine blkQ.ret ?_
            cases H
            exact hQ _ _ _ _ (.inr rfl) (by simp only[resVs,omap,resV,wm,wmd,↓wk,↓wl,nq,evV,↓reduceIte,sevalprocAttr];rfl) (hand_plain (by rfl)) (by first | exact Or.inl rfl | exact Or.inr rfl)
           ·refine AW.skip ?_
            refine blkQ.norm ?_
            exact hf48_J1 _ _ H ((Le.tz [0] [1] (by simp only[f48_J1c,wm,wmr,rrm,↓wk,↓wl,evV,↓reduceIte,sevalprocAttr]<;>rfl)))
  ·try simp only[wm,wmd,↓wk,↓wl,nq,evV,↓reduceIte,sevalprocAttr]
   refine evTs_pure hFn H (fun _ h=>f74_ok h) (by rfl) (by rfl) (by rfl) (by rfl) (fun _=>rfl) ?_<;>clear H<;>intro xa H
   try simp only[eL,wm,wmd,↓wk,↓wl,nq,evV,↓reduceIte,sevalprocAttr]
   refine evTs_ifg H (by rfl) ?_ ?_<;>clear H<;>intro H
   ·try simp only[wm,wmd,↓wk,↓wl,nq,evV,↓reduceIte,sevalprocAttr]
    refine AW.ift (by rfl) ?_
    refine AW.rseq ?_
    try simp only[wm,wmd,↓wk,↓wl,nq,evV,↓reduceIte,sevalprocAttr]
    refine AW.ret ?_
    refine blkQ.ret ?_
    cases H
    exact hQ _ _ _ _ (.inr rfl) (by simp only[resVs,omap,resV,wm,wmd,↓wk,↓wl,nq,evV,↓reduceIte,sevalprocAttr];rfl) (hand_plain (by rfl)) (by first | exact Or.inl rfl | exact Or.inr rfl)
   ·try simp only[wm,wmd,↓wk,↓wl,nq,evV,↓reduceIte,sevalprocAttr]
    refine evTs_ifg H (by rfl) ?_ ?_<;>clear H<;>intro H
    ·try simp only[wm,wmd,↓wk,↓wl,nq,evV,↓reduceIte,sevalprocAttr]
     refine AW.ift (by rfl) ?_
     refine AW.rseq ?_
     try simp only[wm,wmd,↓wk,↓wl,nq,evV,↓reduceIte,sevalprocAttr]
     refine AW.ret ?_
     refine blkQ.ret ?_
     cases H
     exact hQ _ _ _ _ (.inr rfl) (by simp only[resVs,omap,resV,wm,wmd,↓wk,↓wl,nq,evV,↓reduceIte,sevalprocAttr];rfl) (hand_plain (by rfl)) (by first | exact Or.inl rfl | exact Or.inr rfl)
    ·try simp only[wm,wmd,↓wk,↓wl,nq,evV,↓reduceIte,sevalprocAttr]
     refine AW.ifc H (by rfl) ?_ ?_<;>clear H<;>intro H
     ·refine AW.rseq ?_
      try simp only[wm,wmd,↓wk,↓wl,nq,evV,↓reduceIte,sevalprocAttr]
      refine AW.ret ?_
      refine blkQ.ret ?_
      cases H
      exact hQ _ _ _ _ (.inr rfl) (by simp only[resVs,omap,resV,wm,wmd,↓wk,↓wl,nq,evV,↓reduceIte,sevalprocAttr];rfl) (hand_plain (by rfl)) (by first | exact Or.inl rfl | exact Or.inr rfl)
     ·refine AW.rseq ?_
      try simp only[wm,wmd,↓wk,↓wl,nq,evV,↓reduceIte,sevalprocAttr]
      refine evTs_ifg H (by rfl) ?_ ?_<;>clear H<;>intro H
      ·try simp only[wm,wmd,↓wk,↓wl,nq,evV,↓reduceIte,sevalprocAttr]
       refine AW.ift (by rfl) ?_
       refine AW.rseq ?_
       try simp only[wm,wmd,↓wk,↓wl,nq,evV,↓reduceIte,sevalprocAttr]
       refine AW.ret ?_
       refine blkQ.ret ?_
       cases H
       exact hQ _ _ _ _ (.inr rfl) (by simp only[resVs,omap,resV,wm,wmd,↓wk,↓wl,nq,evV,↓reduceIte,sevalprocAttr];rfl) (hand_plain (by rfl)) (by first | exact Or.inl rfl | exact Or.inr rfl)
      ·try simp only[wm,wmd,↓wk,↓wl,nq,evV,↓reduceIte,sevalprocAttr]
       refine AW.ifc H (by rfl) ?_ ?_<;>clear H<;>intro H
       ·refine AW.rseq ?_
        try simp only[wm,wmd,↓wk,↓wl,nq,evV,↓reduceIte,sevalprocAttr]
        refine AW.ret ?_
        refine blkQ.ret ?_
        cases H
        exact hQ _ _ _ _ (.inr rfl) (by simp only[resVs,omap,resV,wm,wmd,↓wk,↓wl,nq,evV,↓reduceIte,sevalprocAttr];rfl) (hand_plain (by rfl)) (by first | exact Or.inl rfl | exact Or.inr rfl)
       ·refine AW.rseq ?_
        try simp only[wm,wmd,↓wk,↓wl,nq,evV,↓reduceIte,sevalprocAttr]
        refine evTs_ifg H (by rfl) ?_ ?_<;>clear H<;>intro H
        ·try simp only[wm,wmd,↓wk,↓wl,nq,evV,↓reduceIte,sevalprocAttr]
         refine AW.ift (by rfl) ?_
         refine AW.rseq ?_
         try simp only[wm,wmd,↓wk,↓wl,nq,evV,↓reduceIte,sevalprocAttr]
         refine AW.ret ?_
         refine blkQ.ret ?_
         cases H
         exact hQ _ _ _ _ (.inr rfl) (by simp only[resVs,omap,resV,wm,wmd,↓wk,↓wl,nq,evV,↓reduceIte,sevalprocAttr];rfl) (hand_plain (by rfl)) (by first | exact Or.inl rfl | exact Or.inr rfl)
        ·try simp only[wm,wmd,↓wk,↓wl,nq,evV,↓reduceIte,sevalprocAttr]
         refine AW.ifc H (by rfl) ?_ ?_<;>clear H<;>intro H
         ·refine AW.rseq ?_
          try simp only[wm,wmd,↓wk,↓wl,nq,evV,↓reduceIte,sevalprocAttr]
          refine AW.ret ?_
          refine blkQ.ret ?_
          cases H
          exact hQ _ _ _ _ (.inr rfl) (by simp only[resVs,omap,resV,wm,wmd,↓wk,↓wl,nq,evV,↓reduceIte,sevalprocAttr];rfl) (hand_plain (by rfl)) (by first | exact Or.inl rfl | exact Or.inr rfl)
         ·refine AW.rseq ?_
          try simp only[wm,wmd,↓wk,↓wl,nq,evV,↓reduceIte,sevalprocAttr]
          refine AW.ifc H (by rfl) ?_ ?_<;>clear H<;>intro H
          ·refine AW.rseq ?_
           try simp only[wm,wmd,↓wk,↓wl,nq,evV,↓reduceIte,sevalprocAttr]
           refine AW.ret ?_
           refine blkQ.ret ?_
           cases H
           exact hQ _ _ _ _ (.inr rfl) (by simp only[resVs,omap,resV,wm,wmd,↓wk,↓wl,nq,evV,↓reduceIte,sevalprocAttr];rfl) (hand_plain (by rfl)) (by first | exact Or.inl rfl | exact Or.inr rfl)
          ·refine AW.skip ?_
           refine blkQ.norm ?_
           exact hf48_J1 _ _ H ((Le.tz [0] [1] (by simp only[f48_J1c,wm,wmr,rrm,↓wk,↓wl,evV,↓reduceIte,sevalprocAttr]<;>rfl)))
def c77_0:C:=.cond (.t 9) (.seq (.reg [iI 10 (.mv (.t 5)),iI 2 (.mv (.c (.int .u64 0))),iI 3 (.mv (.c (.int .u64 0))),iI 4 (.mv (.t 10))]) .ret) (.skip)
def c77_1:C:=.seq (.reg [iI 8 (.mv (.t 5)),iI 9 (.bin .neq (.t 8) (.c (.int .i64 0)))]) c77_0
def c77_2:C:=.cond (.t 13) (.seq (.reg [iI 2 (.mv (.c (.int .u64 0))),iI 3 (.mv (.c (.int .u64 0))),iI 4 (.mv (.c (.int .i64 1)))]) .ret) (.skip)
def c77_3:C:=.seq (.regq [iI 14 (.faddr 5 (.t 1)),iI 15 (.load 0 (.t 14)),iI 16 (.sslice (.t 15) none (some (.c (.int .i64 6)))),iI 17 (.call (.c (.fn 76 [])) [(.t 16)]),iI 18 (.faddr 5 (.t 1)),iI 19 (.load 0 (.t 18)),iI 20 (.sslice (.t 19) (some (.c (.int .i64 6))) none),iI 21 (.call (.c (.fn 76 [])) [(.t 20)]),iI 2 (.mv (.t 17)),iI 3 (.mv (.t 21)),iI 4 (.mv (.c (.int .i64 0)))]) .ret
def c77_4:C:=.seq (.seq (.reg [iI 11 (.faddr 3 (.t 1)),iI 12 (.load 0 (.t 11)),iI 13 (.bin .neq (.t 12) (.c (.int .i64 1)))]) c77_2) c77_3
def c77_5:C:=.seq (.seq (.reg [iI 6 (.load 6 (.t 1)),iI 7 (.call (.c (.fn 48 [])) [(.t 6)]),iI 5 (.mv (.t 7))]) c77_1) c77_4
def ir77:C:=.seq (.reg [iI 1 (.box (.t 0)),iI 2 (.mv (.c (.int .u64 0))),iI 3 (.mv (.c (.int .u64 0))),iI 4 (.mv (.c (.int .i64 0)))]) c77_5
theorem fd77:fd? Tryz.prog 77=some (22,[.slot 2,.slot 3,.slot 4],ir77):=by kernel_rfl
noncomputable def f77(x0:ApiMessage):Option (Int×Int×Int) :=
  (f48 x0).bind fun x1=>(if (decide (x1≠0))=true then (some (0,0,x1)) else (if (decide (x0.fKind≠1))=true then (some (0,0,1)) else (slc? x0.fData 0 6).bind fun x2=>(f76 x2).bind fun x3=>(slc? x0.fData 6 ((x0.fData.length:Nat):Int)).bind fun x4=>(f76 x4).bind fun x5=>(some (x3,x5,0))))
theorem f77_ok{x0:ApiMessage}{r_:Int×Int×Int}(H:f77 x0=some r_):Pure Tryz.prog 77 [.agg [.int .u64 x0.fTo,.int .u64 x0.fFrom,.int .i64 x0.fSeq,.int .i64 x0.fKind,.int .i64 x0.fParam,.str x0.fData]] (· = .tup [.int .u64 r_.1,.int .u64 r_.2.1,.int .i64 r_.2.2]):=by
 refine Pure.walk3 fd77 none (Nat.le_of_ble_eq_true rfl) (by rfl) fun Q hQ=>?_
 simp only[f77] at H
 refine AW.rseq ?_
 try simp only[wm,wmd,↓wk,↓wl,nq,evV,↓reduceIte,sevalprocAttr]
 refine AW.sseq ?_
 refine AW.rseq ?_
 try simp only[wm,wmd,↓wk,↓wl,nq,evV,↓reduceIte,sevalprocAttr]
 refine evTs_pure hFn H (fun _ h=>f48_ok h) (by rfl) (by rfl) (by rfl) (by rfl) (fun _=>rfl) ?_<;>clear H<;>intro x1 H
 try simp only[eL,wm,wmd,↓wk,↓wl,nq,evV,↓reduceIte,sevalprocAttr]
 refine AW.rseq ?_
 try simp only[wm,wmd,↓wk,↓wl,nq,evV,↓reduceIte,sevalprocAttr]
 refine AW.ifc H (by rfl) ?_ ?_<;>clear H<;>intro H
 ·refine AW.rseq ?_
  try simp only[wm,wmd,↓wk,↓wl,nq,evV,↓reduceIte,sevalprocAttr]
  refine AW.ret ?_
  refine seqQ.ret ?_
  cases H
  exact hQ _ _ _ _ (.inr rfl) (by simp only[resVs,omap,resV,wm,wmd,↓wk,↓wl,nq,evV,↓reduceIte,sevalprocAttr];rfl) (hand_plain (by rfl)) (by first | exact Or.inl rfl | exact Or.inr rfl)
 ·refine AW.skip ?_
  refine seqQ.norm ?_
  refine AW.sseq ?_
  refine AW.rseq ?_
  try simp only[wm,wmd,↓wk,↓wl,nq,evV,↓reduceIte,sevalprocAttr]
  refine AW.ifc H (by rfl) ?_ ?_<;>clear H<;>intro H
  ·refine AW.rseq ?_
   try simp only[wm,wmd,↓wk,↓wl,nq,evV,↓reduceIte,sevalprocAttr]
   refine AW.ret ?_
   refine seqQ.ret ?_
   cases H
   exact hQ _ _ _ _ (.inr rfl) (by simp only[resVs,omap,resV,wm,wmd,↓wk,↓wl,nq,evV,↓reduceIte,sevalprocAttr];rfl) (hand_plain (by rfl)) (by first | exact Or.inl rfl | exact Or.inr rfl)
  ·refine AW.skip ?_
   refine seqQ.norm ?_
   refine AW.rqseq ?_
   try simp only[wm,wmd,↓wk,↓wl,nq,evV,↓reduceIte,sevalprocAttr]
   refine evTs_sslc H (by rfl) (by simp only[loI,hiI,wm,wmd,↓wk,↓wl,nq,evV,↓reduceIte,sevalprocAttr];rfl) (by simp only[loI,hiI,wm,wmd,↓wk,↓wl,nq,evV,↓reduceIte,sevalprocAttr];rfl) ?_<;>clear H<;>intro x2 H
   try simp only[wm,wmd,↓wk,↓wl,nq,evV,↓reduceIte,sevalprocAttr]
   refine evTs_pure hFnq H (fun _ h=>f76_ok h) (by rfl) (by rfl) (by rfl) (by rfl) (fun _=>rfl) ?_<;>clear H<;>intro x3 H
   try simp only[eL,wm,wmd,↓wk,↓wl,nq,evV,↓reduceIte,sevalprocAttr]
   refine evTs_sslc H (by rfl) (by simp only[loI,hiI,wm,wmd,↓wk,↓wl,nq,evV,↓reduceIte,sevalprocAttr];rfl) (by simp only[loI,hiI,wm,wmd,↓wk,↓wl,nq,evV,↓reduceIte,sevalprocAttr];rfl) ?_<;>clear H<;>intro x4 H
   try simp only[wm,wmd,↓wk,↓wl,nq,evV,↓reduceIte,sevalprocAttr]
   refine evTs_pure hFnq H (fun _ h=>f76_ok h) (by rfl) (by rfl) (by rfl) (by rfl) (fun _=>rfl) ?_<;>clear H<;>intro x5 H
   try simp only[eL,wm,wmd,↓wk,↓wl,nq,evV,↓reduceIte,sevalprocAttr]
   refine AW.ret ?_
   cases H
   exact hQ _ _ _ _ (.inr rfl) (by simp only[resVs,omap,resV,wm,wmd,↓wk,↓wl,nq,evV,↓reduceIte,sevalprocAttr];rfl) (hand_plain (by rfl)) (by first | exact Or.inl rfl | exact Or.inr rfl)
noncomputable def f79_L1(x0:(List Int))(x1:Int)(x2:Int):Lp (Int×(List Int)) ((List Int)) where
  body:=fun (x3,x4)=>(if (decide (x3<((x0.length:Nat):Int)))=true then (must? (0≤(IntKind.i64.wrap (8 * x3)))).bind fun _=>(at? x4 (IntKind.i64.wrap ((IntKind.i64.wrap (x1 - 1)) - x3))).bind fun x5=>(some (.next ((IntKind.i64.wrap (x3 + 1)),(x4.set (IntKind.i64.wrap ((IntKind.i64.wrap (x1 - 1)) - x3)).toNat (IntKind.u8.wrap (Int.fdiv x2 (2 ^ (min (Int.toNat (IntKind.i64.wrap (8 * x3))) (IntKind.bits .u64))))))))) else (some (.brk x4)))
  cst:=fun (x3,x4)=>⟨put (put (put (put (put (fun _=>.junk) 11 (.int .i64 x3)) 10 (.int .i64 ((x0.length:Nat):Int))) 5 (.row 0 0 0 x4.length)) 1 (.int .i64 x1)) 0 (.int .u64 x2),[.els 0 (x4.map (AV.int .u8))]⟩
theorem f79_L1c(x0:(List Int))(x1:Int)(x2:Int)(x3:Int)(x4:(List Int)):(f79_L1 x0 x1 x2).cst (x3,x4)=⟨put (put (put (put (put (fun _=>.junk) 11 (.int .i64 x3)) 10 (.int .i64 ((x0.length:Nat):Int))) 5 (.row 0 0 0 x4.length)) 1 (.int .i64 x1)) 0 (.int .u64 x2),[.els 0 (x4.map (AV.int .u8))]⟩:=rfl
def c79_0:C:=.reg [iI 14 (.mv (.t 5)),iI 15 (.mv (.t 1)),iI 16 (.bin .sub (.t 15) (.c (.int .i64 1))),iI 17 (.mv (.t 6)),iI 18 (.bin .sub (.t 16) (.t 17)),iI 19 (.mv (.t 0)),iI 20 (.mv (.t 6)),iI 21 (.bin .mul (.c (.int .i64 8)) (.t 20)),iI 22 (.bin .shr (.t 19) (.t 21)),iI 23 (.cint .u8 (.t 22)),iI 24 (.iaddr 0 (.t 14) (.t 18)),iN (.store 0 (.t 24) (.t 23))]
def c79_1:C:=.reg [iI 25 (.bin .add (.t 11) (.c (.int .i64 1))),iI 11 (.mv (.t 25))]
def c79_2:C:=.seq (.block 1 (.seq (.reg [iI 13 (.mv (.t 11)),iI 6 (.mv (.t 13))]) c79_0)) c79_1
def c79_3:C:=.seq (.cond (.t 12) (.skip) (.exit 0)) c79_2
def c79_4:C:=.block 0 (.loop (.seq (.reg [iI 12 (.bin .lss (.t 11) (.t 10))]) c79_3))
def c79_5:C:=.seq (.reg [iI 26 (.mv (.t 5)),iI 27 (.cstr (.t 26)),iI 4 (.mv (.t 27))]) .ret
def c79_6:C:=.seq (.seq (.reg [iI 9 (.mv (.t 5)),iI 10 (.len 0 (.t 9)),iI 11 (.mv (.c (.int .i64 0)))]) c79_4) c79_5
def c79_7:C:=.seq (.reg [iI 7 (.mv (.t 1)),iI 8 (.appz 0 1 (.int .u8 0) (.c (.sl 0 true [])) (.t 7)),iI 5 (.mv (.t 8))]) c79_6
def ir79:C:=.seq (.reg [iI 4 (.mv (.c (.str [])))]) c79_7
theorem fd79:fd? Tryz.prog 79=some (28,[.slot 4],ir79):=by kernel_rfl
noncomputable def f79(x0:Int)(x1:Int):Option ((List UInt8)) :=
  (mkv? x1 1 (0:Int)).bind fun x2=>(Lp.run (f79_L1 x2 x1 x0) (0,x2)).bind fun x3=>(some (x3.map b8))
theorem f79_ok{x0:Int}{x1:Int}{r_:(List UInt8)}(H:f79 x0 x1=some r_):Pure Tryz.prog 79 [.int .u64 x0,.int .i64 x1] (· = .str r_):=by
 refine Pure.walk3 fd79 none (Nat.le_of_ble_eq_true rfl) (by rfl) fun Q hQ=>?_
 simp only[f79] at H
 refine AW.rseq ?_
 try simp only[wm,wmd,↓wk,↓wl,nqs,evV,↓reduceIte,sevalprocAttr]
 refine AW.rseq ?_
 try simp only[wm,wmd,↓wk,↓wl,nqs,evV,↓reduceIte,sevalprocAttr]
 refine evTs_mkv (enc:=(AV.int .u8)) H (by rfl) (by rfl) ?_<;>clear H<;>intro x2 H
 try simp only[wm,wmd,↓wk,↓wl,nqs,evV,↓reduceIte,sevalprocAttr]
 refine AW.sseq ?_
 refine AW.rseq ?_
 try simp only[wm,wmd,↓wk,↓wl,nqs,evV,↓reduceIte,sevalprocAttr]
 refine AW.bend ?_
 refine AW.iter H ((Le.tz [0] [0,1,5,10,11] (by simp only[f79_L1c,wm,wmr,rrm,↓wk,↓wl,evV,↓reduceIte,sevalprocAttr]<;>rfl))) ?_<;>clear H
 rintro ⟨x3,x4⟩ x_ st0_ H hst_
 rw[f79_L1c] at hst_
 simp only[f79_L1] at H
 subst hst_
 refine AW.rseq ?_
 try simp only[wm,wmd,↓wk,↓wl,nqs,evV,↓reduceIte,sevalprocAttr]
 refine AW.sseq ?_
 refine AW.ifc H (by rfl) ?_ ?_<;>clear H<;>intro H
 ·refine AW.skip ?_
  refine seqQ.norm ?_
  refine AW.bseq ?_
  refine AW.rseq ?_
  try simp only[wm,wmd,↓wk,↓wl,nqs,evV,↓reduceIte,sevalprocAttr]
  refine AW.rend ?_
  try simp only[wm,wmd,↓wk,↓wl,nqs,evV,↓reduceIte,sevalprocAttr]
  refine rest_shrv H ?_<;>clear H<;>intro H
  try simp only[wm,wmd,↓wk,↓wl,nqs,evV,↓reduceIte,sevalprocAttr]
  refine evTs_atr (enc:=(AV.int .u8)) H (by rfl) (by first | rfl | simp only[List.length_set]) (by rfl) ?_<;>clear H<;>intro x5 x6 H
  try simp only[wm,wmd,↓wk,↓wl,nqs,evV,↓reduceIte,sevalprocAttr,x6]
  refine evTs_stW (enc:=(AV.int .u8)) (IntKind.u8.wrap (Int.fdiv x0 (2 ^ (min (Int.toNat (IntKind.i64.wrap (8 * x3))) (IntKind.bits .u64))))) (by rfl) (by rfl) (by first | exact lt_map x6 | (simp only[List.length_set];exact lt_map x6)) (fun _=>by rfl) ?_
  have x7:=set_get x6 (IntKind.u8.wrap (Int.fdiv x0 (2 ^ (min (Int.toNat (IntKind.i64.wrap (8 * x3))) (IntKind.bits .u64)))))
  try simp only[wm,wmd,↓wk,↓wl,nqs,evV,↓reduceIte,sevalprocAttr,x6,x7]
  refine blkQ.norm ?_
  refine AW.rend ?_
  try simp only[wm,wmd,↓wk,↓wl,nqs,evV,↓reduceIte,sevalprocAttr,x6,x7]
  exact loopQ.next H ((Le.tz [0] [0,1,5,10,11] (by simp only[f79_L1c,wm,wmr,rrm,↓wk,↓wl,evV,↓reduceIte,sevalprocAttr,x6,x7]<;>rfl)))
 ·refine AW.exit ?_
  refine seqQ.exit ?_
  refine loopQ.exit H ?_<;>clear H<;>intro H
  try dsimp only at H
  refine blk0.here ?_
  refine seqQ.norm ?_
  refine AW.rseq ?_
  try simp only[wm,wmd,↓wk,↓wl,nqs,evV,↓reduceIte,sevalprocAttr]
  refine evTs_cstrr (xs:=x4) (by rfl) (by rfl) (by rfl) ?_
  try simp only[wm,wmd,↓wk,↓wl,nqs,evV,↓reduceIte,sevalprocAttr]
  refine AW.ret ?_
  cases H
  exact hQ _ _ _ _ (.inr rfl) (by simp only[resVs,omap,resV,wm,wmd,↓wk,↓wl,nqs,evV,↓reduceIte,sevalprocAttr];rfl) (hand_plain (by rfl)) (by first | exact Or.inl rfl | exact Or.inr rfl)
def c51_0:C:=.seq (.reg [iI 3 (.mv (.t 0)),iI 4 (.bin .eql (.t 3) (.c (.int .i64 6))),iI 5 (.mv (.t 4)),iG (some 6) 5 false (.mv (.t 0)),iG (some 7) 5 false (.bin .eql (.t 6) (.c (.int .i64 7))),iI 8 (.pick (.t 5) (.c (.bool true)) (.t 7)),iI 2 (.mv (.t 8))]) .ret
def ir51:C:=.seq (.reg [iI 2 (.mv (.c (.bool false)))]) c51_0
theorem fd51:fd? Tryz.prog 51=some (9,[.slot 2],ir51):=by kernel_rfl
noncomputable def f51(x0:Int):Option (Bool) :=
  (if (decide (x0=6))=true then (some true) else (some (decide (x0=7))))
theorem f51_ok{x0:Int}{r_:Bool}(H:f51 x0=some r_):Pure Tryz.prog 51 [.int .i64 x0] (· = .bool r_):=by
 refine Pure.walk3 fd51 none (Nat.le_of_ble_eq_true rfl) (by rfl) fun Q hQ=>?_
 simp only[f51] at H
 refine AW.rseq ?_
 try simp only[wm,wmd,↓wk,↓wl,nq,evV,↓reduceIte,sevalprocAttr]
 refine AW.rseq ?_
 try simp only[wm,wmd,↓wk,↓wl,nq,evV,↓reduceIte,sevalprocAttr]
 refine evTs_ifg H (by rfl) ?_ ?_<;>clear H<;>intro H
 ·try simp only[wm,wmd,↓wk,↓wl,nq,evV,↓reduceIte,sevalprocAttr]
  refine AW.ret ?_
  cases H
  exact hQ _ _ _ _ (.inr rfl) (by simp only[resVs,omap,resV,wm,wmd,↓wk,↓wl,nq,evV,↓reduceIte,sevalprocAttr];rfl) (hand_plain (by rfl)) (by first | exact Or.inl rfl | exact Or.inr rfl)
 ·try simp only[wm,wmd,↓wk,↓wl,nq,evV,↓reduceIte,sevalprocAttr]
  refine AW.ret ?_
  cases H
  exact hQ _ _ _ _ (.inr rfl) (by simp only[resVs,omap,resV,wm,wmd,↓wk,↓wl,nq,evV,↓reduceIte,sevalprocAttr];rfl) (hand_plain (by rfl)) (by first | exact Or.inl rfl | exact Or.inr rfl)
def c119_0:C:=.cond (.t 7) (.seq (.reg [iI 8 (.mv (.t 3)),iI 2 (.mv (.t 8))]) .ret) (.skip)
def c119_1:C:=.seq (.reg [iI 6 (.mv (.t 3)),iI 7 (.bin .neq (.t 6) (.c (.int .i64 0)))]) c119_0
def c119_2:C:=.cond (.t 11) (.seq (.reg [iI 2 (.mv (.c (.int .i64 16)))]) .ret) (.skip)
def c119_3:C:=.seq (.reg [iI 2 (.mv (.c (.int .i64 0)))]) .ret
def c119_4:C:=.seq (.seq (.reg [iI 9 (.faddr 3 (.t 1)),iI 10 (.load 0 (.t 9)),iI 11 (.call (.c (.fn 51 [])) [(.t 10)])]) c119_2) c119_3
def c119_5:C:=.seq (.seq (.reg [iI 4 (.load 6 (.t 1)),iI 5 (.call (.c (.fn 48 [])) [(.t 4)]),iI 3 (.mv (.t 5))]) c119_1) c119_4
def ir119:C:=.seq (.reg [iI 1 (.box (.t 0)),iI 2 (.mv (.c (.int .i64 0)))]) c119_5
theorem fd119:fd? Tryz.prog 119=some (12,[.slot 2],ir119):=by kernel_rfl
noncomputable def f119(x0:ApiMessage):Option (Int) :=
  (f48 x0).bind fun x1=>(if (decide (x1≠0))=true then (some x1) else (f51 x0.fKind).bind fun x2=>(if x2=true then (some 16) else (some 0)))
theorem f119_ok{x0:ApiMessage}{r_:Int}(H:f119 x0=some r_):Pure Tryz.prog 119 [.agg [.int .u64 x0.fTo,.int .u64 x0.fFrom,.int .i64 x0.fSeq,.int .i64 x0.fKind,.int .i64 x0.fParam,.str x0.fData]] (· = .int .i64 r_):=by
 refine Pure.walk3 fd119 none (Nat.le_of_ble_eq_true rfl) (by rfl) fun Q hQ=>?_
 simp only[f119] at H
 refine AW.rseq ?_
 try simp only[wm,wmd,↓wk,↓wl,nq,evV,↓reduceIte,sevalprocAttr]
 refine AW.sseq ?_
 refine AW.rseq ?_
 try simp only[wm,wmd,↓wk,↓wl,nq,evV,↓reduceIte,sevalprocAttr]
 refine evTs_pure hFn H (fun _ h=>f48_ok h) (by rfl) (by rfl) (by rfl) (by rfl) (fun _=>rfl) ?_<;>clear H<;>intro x1 H
 try simp only[eL,wm,wmd,↓wk,↓wl,nq,evV,↓reduceIte,sevalprocAttr]
 refine AW.rseq ?_
 try simp only[wm,wmd,↓wk,↓wl,nq,evV,↓reduceIte,sevalprocAttr]
 refine AW.ifc H (by rfl) ?_ ?_<;>clear H<;>intro H
 ·refine AW.rseq ?_
  try simp only[wm,wmd,↓wk,↓wl,nq,evV,↓reduceIte,sevalprocAttr]
  refine AW.ret ?_
  refine seqQ.ret ?_
  cases H
  exact hQ _ _ _ _ (.inr rfl) (by simp only[resVs,omap,resV,wm,wmd,↓wk,↓wl,nq,evV,↓reduceIte,sevalprocAttr];rfl) (hand_plain (by rfl)) (by first | exact Or.inl rfl | exact Or.inr rfl)
 ·refine AW.skip ?_
  refine seqQ.norm ?_
  refine AW.sseq ?_
  refine AW.rseq ?_
  try simp only[wm,wmd,↓wk,↓wl,nq,evV,↓reduceIte,sevalprocAttr]
  refine evTs_pure hFn H (fun _ h=>f51_ok h) (by rfl) (by rfl) (by rfl) (by rfl) (fun _=>rfl) ?_<;>clear H<;>intro x2 H
  try simp only[eL,wm,wmd,↓wk,↓wl,nq,evV,↓reduceIte,sevalprocAttr]
  refine AW.ifc H (by rfl) ?_ ?_<;>clear H<;>intro H
  ·refine AW.rseq ?_
   try simp only[wm,wmd,↓wk,↓wl,nq,evV,↓reduceIte,sevalprocAttr]
   refine AW.ret ?_
   refine seqQ.ret ?_
   cases H
   exact hQ _ _ _ _ (.inr rfl) (by simp only[resVs,omap,resV,wm,wmd,↓wk,↓wl,nq,evV,↓reduceIte,sevalprocAttr];rfl) (hand_plain (by rfl)) (by first | exact Or.inl rfl | exact Or.inr rfl)
  ·refine AW.skip ?_
   refine seqQ.norm ?_
   refine AW.rseq ?_
   try simp only[wm,wmd,↓wk,↓wl,nq,evV,↓reduceIte,sevalprocAttr]
   refine AW.ret ?_
   cases H
   exact hQ _ _ _ _ (.inr rfl) (by simp only[resVs,omap,resV,wm,wmd,↓wk,↓wl,nq,evV,↓reduceIte,sevalprocAttr];rfl) (hand_plain (by rfl)) (by first | exact Or.inl rfl | exact Or.inr rfl)
def c84_0:C:=.cond (.t 8) (.seq (.reg [iI 9 (.build [(1,(.int .u64 0)),(1,(.int .u64 0)),(1,(.int .i64 0)),(1,(.int .i64 0)),(1,(.int .i64 0)),(1,(.str []))] []),iI 10 (.mv (.t 4)),iN (.store 6 (.t 2) (.t 9)),iI 3 (.mv (.t 10))]) .ret) (.skip)
def c84_1:C:=.seq (.reg [iI 7 (.mv (.t 4)),iI 8 (.bin .neq (.t 7) (.c (.int .i64 0)))]) c84_0
def c84_2:C:=.seq (.reg [iI 11 (.load 6 (.t 1)),iN (.store 6 (.t 2) (.t 11)),iI 3 (.mv (.c (.int .i64 0)))]) .ret
def c84_3:C:=.seq (.seq (.reg [iI 5 (.load 6 (.t 1)),iI 6 (.call (.c (.fn 48 [])) [(.t 5)]),iI 4 (.mv (.t 6))]) c84_1) c84_2
def ir84:C:=.seq (.reg [iI 1 (.box (.t 0)),iI 2 (.alloc [(1,(.int .u64 0)),(1,(.int .u64 0)),(1,(.int .i64 0)),(1,(.int .i64 0)),(1,(.int .i64 0)),(1,(.str []))]),iI 3 (.mv (.c (.int .i64 0)))]) c84_3
theorem fd84:fd? Tryz.prog 84=some (12,[.cell 2 6,.slot 3],ir84):=by kernel_rfl
noncomputable def f84(x0:ApiMessage):Option (ApiMessage×Int) :=
  (f48 x0).bind fun x1=>(if (decide (x1≠0))=true then (some ((ApiMessage.mk 0 0 0 0 0 ([])),x1)) else (some (x0,0)))
theorem f84_ok{x0:ApiMessage}{r_:ApiMessage×Int}(H:f84 x0=some r_):Pure Tryz.prog 84 [.agg [.int .u64 x0.fTo,.int .u64 x0.fFrom,.int .i64 x0.fSeq,.int .i64 x0.fKind,.int .i64 x0.fParam,.str x0.fData]] (· = .tup [.agg [.int .u64 r_.1.fTo,.int .u64 r_.1.fFrom,.int .i64 r_.1.fSeq,.int .i64 r_.1.fKind,.int .i64 r_.1.fParam,.str r_.1.fData],.int .i64 r_.2]):=by
 refine Pure.walk3 fd84 none (Nat.le_of_ble_eq_true rfl) (by rfl) fun Q hQ=>?_
 simp only[f84] at H
 refine AW.rseq ?_
 try simp only[wm,wmd,↓wk,↓wl,nq,evV,↓reduceIte,sevalprocAttr]
 refine AW.sseq ?_
 refine AW.rseq ?_
 try simp only[wm,wmd,↓wk,↓wl,nq,evV,↓reduceIte,sevalprocAttr]
 refine evTs_pure hFn H (fun _ h=>f48_ok h) (by rfl) (by rfl) (by rfl) (by rfl) (fun _=>rfl) ?_<;>clear H<;>intro x1 H
 try simp only[eL,wm,wmd,↓wk,↓wl,nq,evV,↓reduceIte,sevalprocAttr]
 refine AW.rseq ?_
 try simp only[wm,wmd,↓wk,↓wl,nq,evV,↓reduceIte,sevalprocAttr]
 refine AW.ifc H (by rfl) ?_ ?_<;>clear H<;>intro H
 ·refine AW.rseq ?_
  try simp only[wm,wmd,↓wk,↓wl,nq,evV,↓reduceIte,sevalprocAttr]
  refine AW.ret ?_
  refine seqQ.ret ?_
  cases H
  exact hQ _ _ _ _ (.inr rfl) (by simp only[resVs,omap,resV,wm,wmd,↓wk,↓wl,nq,evV,↓reduceIte,sevalprocAttr];rfl) (hand_plain (by rfl)) (by first | exact Or.inl rfl | exact Or.inr rfl)
 ·refine AW.skip ?_
  refine seqQ.norm ?_
  refine AW.rseq ?_
  try simp only[wm,wmd,↓wk,↓wl,nq,evV,↓reduceIte,sevalprocAttr]
  refine AW.ret ?_
  cases H
  exact hQ _ _ _ _ (.inr rfl) (by simp only[resVs,omap,resV,wm,wmd,↓wk,↓wl,nq,evV,↓reduceIte,sevalprocAttr];rfl) (hand_plain (by rfl)) (by first | exact Or.inl rfl | exact Or.inr rfl)
def c78_0:C:=.cond (.t 12) (.seq (.reg [iI 13 (.build [(1,(.int .u64 0)),(1,(.int .u64 0)),(1,(.int .i64 0)),(1,(.int .i64 0)),(1,(.int .i64 0)),(1,(.str []))] []),iI 14 (.mv (.t 8)),iN (.store 6 (.t 6) (.t 13)),iI 7 (.mv (.t 14))]) .ret) (.skip)
def c78_1:C:=.seq (.reg [iI 11 (.mv (.t 8)),iI 12 (.bin .neq (.t 11) (.c (.int .i64 0)))]) c78_0
def c78_2:C:=.seq (.reg [iI 15 (.faddr 1 (.t 3)),iI 16 (.load 0 (.t 15)),iI 17 (.mv (.t 1)),iI 18 (.faddr 2 (.t 3)),iI 19 (.load 0 (.t 18)),iI 20 (.faddr 4 (.t 3)),iI 21 (.load 0 (.t 20)),iI 22 (.mv (.t 2)),iI 23 (.build [(1,(.int .u64 0)),(1,(.int .u64 0)),(1,(.int .i64 0)),(1,(.int .i64 0)),(1,(.int .i64 0)),(1,(.str []))] [(0,0,(.t 16)),(1,0,(.t 17)),(2,0,(.t 19)),(3,0,(.c (.int .i64 6))),(4,0,(.t 21)),(5,0,(.t 22))]),iI 24 (.call (.c (.fn 84 [])) [(.t 23)]),iI 25 (.ext (.t 24) 0),iI 26 (.ext (.t 24) 1),iN (.store 6 (.t 6) (.t 25)),iI 7 (.mv (.t 26))]) .ret
def c78_3:C:=.seq (.seq (.reg [iI 9 (.load 6 (.t 3)),iI 10 (.call (.c (.fn 119 [])) [(.t 9)]),iI 8 (.mv (.t 10))]) c78_1) c78_2
def ir78:C:=.seq (.reg [iI 3 (.box (.t 0)),iI 6 (.alloc [(1,(.int .u64 0)),(1,(.int .u64 0)),(1,(.int .i64 0)),(1,(.int .i64 0)),(1,(.int .i64 0)),(1,(.str []))]),iI 7 (.mv (.c (.int .i64 0)))]) c78_3
theorem fd78:fd? Tryz.prog 78=some (27,[.cell 6 6,.slot 7],ir78):=by kernel_rfl
noncomputable def f78(x0:ApiMessage)(x1:Int)(x2:(List UInt8)):Option (ApiMessage×Int) :=
  (f119 x0).bind fun x3=>(if (decide (x3≠0))=true then (some ((ApiMessage.mk 0 0 0 0 0 ([])),x3)) else (f84 (ApiMessage.mk x0.fFrom x1 x0.fSeq 6 x0.fParam x2)).bind fun x4=>(some (x4.1,x4.2)))
theorem f78_ok{x0:ApiMessage}{x1:Int}{x2:(List UInt8)}{r_:ApiMessage×Int}(H:f78 x0 x1 x2=some r_):Pure Tryz.prog 78 [.agg [.int .u64 x0.fTo,.int .u64 x0.fFrom,.int .i64 x0.fSeq,.int .i64 x0.fKind,.int .i64 x0.fParam,.str x0.fData],.int .u64 x1,.str x2] (· = .tup [.agg [.int .u64 r_.1.fTo,.int .u64 r_.1.fFrom,.int .i64 r_.1.fSeq,.int .i64 r_.1.fKind,.int .i64 r_.1.fParam,.str r_.1.fData],.int .i64 r_.2]):=by
 refine Pure.walk3 fd78 none (Nat.le_of_ble_eq_true rfl) (by rfl) fun Q hQ=>?_
 simp only[f78] at H
 refine AW.rseq ?_
 try simp only[wm,wmd,↓wk,↓wl,nq,evV,↓reduceIte,sevalprocAttr]
 refine AW.sseq ?_
 refine AW.rseq ?_
 try simp only[wm,wmd,↓wk,↓wl,nq,evV,↓reduceIte,sevalprocAttr]
 refine evTs_pure hFn H (fun _ h=>f119_ok h) (by rfl) (by rfl) (by rfl) (by rfl) (fun _=>rfl) ?_<;>clear H<;>intro x3 H
 try simp only[eL,wm,wmd,↓wk,↓wl,nq,evV,↓reduceIte,sevalprocAttr]
 refine AW.rseq ?_
 try simp only[wm,wmd,↓wk,↓wl,nq,evV,↓reduceIte,sevalprocAttr]
 refine AW.ifc H (by rfl) ?_ ?_<;>clear H<;>intro H
 ·refine AW.rseq ?_
  try simp only[wm,wmd,↓wk,↓wl,nq,evV,↓reduceIte,sevalprocAttr]
  refine AW.ret ?_
  refine seqQ.ret ?_
  cases H
  exact hQ _ _ _ _ (.inr rfl) (by simp only[resVs,omap,resV,wm,wmd,↓wk,↓wl,nq,evV,↓reduceIte,sevalprocAttr];rfl) (hand_plain (by rfl)) (by first | exact Or.inl rfl | exact Or.inr rfl)
 ·refine AW.skip ?_
  refine seqQ.norm ?_
  refine AW.rseq ?_
  try simp only[wm,wmd,↓wk,↓wl,nq,evV,↓reduceIte,sevalprocAttr]
  refine evTs_pure hFn H (fun _ h=>f84_ok h) (by rfl) (by rfl) (by rfl) (by rfl) (fun _=>rfl) ?_<;>clear H<;>intro x4 H
  try simp only[eL,eApiMessage,eM,wm,wmd,↓wk,↓wl,nq,evV,↓reduceIte,sevalprocAttr]
  refine AW.ret ?_
  cases H
  exact hQ _ _ _ _ (.inr rfl) (by simp only[resVs,omap,resV,wm,wmd,↓wk,↓wl,nq,evV,↓reduceIte,sevalprocAttr];rfl) (hand_plain (by rfl)) (by first | exact Or.inl rfl | exact Or.inr rfl)
def c129_0:C:=.seq (.reg [iI 1 (.build [(1,(.int .i64 0)),(1,.nilfn),(1,(.int .i64 0)),(1,.nilfn)] [(0,0,(.c (.int .i64 80))),(1,0,(.c (.fn 133 [])))]),iI 2 (.build [(1,(.int .i64 0)),(1,.nilfn),(1,(.int .i64 0)),(1,.nilfn)] [(0,0,(.c (.int .i64 96))),(1,0,(.c (.fn 134 [])))]),iI 3 (.build [(1,(.int .i64 0)),(1,.nilfn),(1,(.int .i64 0)),(1,.nilfn)] [(0,0,(.c (.int .i64 130))),(1,0,(.c (.fn 135 []))),(2,0,(.c (.int .i64 (-1)))),(3,0,(.c (.fn 136 [])))]),iI 4 (.build [(1,(.int .i64 0)),(1,.nilfn),(1,(.int .i64 0)),(1,.nilfn)] [(0,0,(.c (.int .i64 240))),(1,0,(.c (.fn 137 []))),(2,0,(.c (.int .i64 2))),(3,0,(.c (.fn 138 [])))]),iI 5 (.build [(1,(.int .i64 0)),(1,.nilfn),(1,(.int .i64 0)),(1,.nilfn)] [(0,0,(.c (.int .i64 1024))),(1,0,(.c (.fn 139 [])))]),iI 6 (.build [(1,(.int .i64 0)),(1,.nilfn),(1,(.int .i64 0)),(1,.nilfn)] [(0,0,(.c (.int .i64 4096))),(1,0,(.c (.fn 140 []))),(2,0,(.c (.int .i64 1))),(3,0,(.c (.fn 142 [])))]),iI 7 (.build [(1,(.int .i64 0)),(1,.nilfn),(1,(.int .i64 0)),(1,.nilfn)] [(0,0,(.c (.int .i64 4097))),(2,0,(.c (.int .i64 1))),(3,0,(.c (.fn 143 [])))]),iI 8 (.build [(1,(.int .i64 0)),(1,.nilfn),(1,(.int .i64 0)),(1,.nilfn),(1,(.int .i64 0)),(1,.nilfn),(1,(.int .i64 0)),(1,.nilfn),(1,(.int .i64 0)),(1,.nilfn),(1,(.int .i64 0)),(1,.nilfn),(1,(.int .i64 0)),(1,.nilfn),(1,(.int .i64 0)),(1,.nilfn),(1,(.int .i64 0)),(1,.nilfn),(1,(.int .i64 0)),(1,.nilfn),(1,(.int .i64 0)),(1,.nilfn),(1,(.int .i64 0)),(1,.nilfn),(1,(.int .i64 0)),(1,.nilfn),(1,(.int .i64 0)),(1,.nilfn)] [(0,4,(.t 1)),(4,4,(.t 2)),(8,4,(.t 3)),(12,4,(.t 4)),(16,4,(.t 5)),(20,4,(.t 6)),(24,4,(.t 7))]),iN (.store 28 (.t 0) (.t 8))]) .ret
def ir129:C:=.seq (.reg [iI 0 (.alloc [(1,(.int .i64 0)),(1,.nilfn),(1,(.int .i64 0)),(1,.nilfn),(1,(.int .i64 0)),(1,.nilfn),(1,(.int .i64 0)),(1,.nilfn),(1,(.int .i64 0)),(1,.nilfn),(1,(.int .i64 0)),(1,.nilfn),(1,(.int .i64 0)),(1,.nilfn),(1,(.int .i64 0)),(1,.nilfn),(1,(.int .i64 0)),(1,.nilfn),(1,(.int .i64 0)),(1,.nilfn),(1,(.int .i64 0)),(1,.nilfn),(1,(.int .i64 0)),(1,.nilfn),(1,(.int .i64 0)),(1,.nilfn),(1,(.int .i64 0)),(1,.nilfn)])]) c129_0
theorem fd129:fd? Tryz.prog 129=some (9,[.cell 0 28],ir129):=by kernel_rfl
noncomputable def f120_C1:Il (Unit) where
  run:=(some ())
  res:=fun _=>.agg [.int .i64 80,.fn 133 [],.int .i64 0,.nilfn,.int .i64 96,.fn 134 [],.int .i64 0,.nilfn,.int .i64 130,.fn 135 [],.int .i64 (-1),.fn 136 [],.int .i64 240,.fn 137 [],.int .i64 2,.fn 138 [],.int .i64 1024,.fn 139 [],.int .i64 0,.nilfn,.int .i64 4096,.fn 140 [],.int .i64 1,.fn 142 [],.int .i64 4097,.nilfn,.int .i64 1,.fn 143 []]
  hp:=fun _=>[.cel [.int .i64 0,.nilfn,.int .i64 0,.nilfn],.cel [.int .i64 80,.fn 133 [],.int .i64 0,.nilfn,.int .i64 96,.fn 134 [],.int .i64 0,.nilfn,.int .i64 130,.fn 135 [],.int .i64 (-1),.fn 136 [],.int .i64 240,.fn 137 [],.int .i64 2,.fn 138 [],.int .i64 1024,.fn 139 [],.int .i64 0,.nilfn,.int .i64 4096,.fn 140 [],.int .i64 1,.fn 142 [],.int .i64 4097,.nilfn,.int .i64 1,.fn 143 []]]
def c120_0:C:=.cond (.t 13) (.seq (.reg [iI 14 (.load 4 (.t 5)),iN (.store 4 (.t 2) (.t 14)),iI 3 (.mv (.c (.bool true)))]) .ret) (.skip)
def c120_1:C:=.seq (.reg [iI 10 (.faddr 0 (.t 5)),iI 11 (.load 0 (.t 10)),iI 12 (.mv (.t 0)),iI 13 (.bin .eql (.t 11) (.t 12))]) c120_0
def c120_2:C:=.reg [iI 15 (.bin .add (.t 7) (.c (.int .i64 1))),iI 7 (.mv (.t 15))]
def c120_3:C:=.seq (.block 1 (.seq (.reg [iI 9 (.idx 4 7 (.t 6) (.t 7)),iI 5 (.alloc [(1,(.int .i64 0)),(1,.nilfn),(1,(.int .i64 0)),(1,.nilfn)]),iN (.store 4 (.t 5) (.t 9))]) c120_1)) c120_2
def c120_4:C:=.seq (.cond (.t 8) (.skip) (.exit 0)) c120_3
def c120_5:C:=.block 0 (.loop (.seq (.reg [iI 8 (.bin .lss (.t 7) (.c (.int .i64 7)))]) c120_4))
def c120_6:C:=.seq (.reg [iI 16 (.build [(1,(.int .i64 0)),(1,.nilfn),(1,(.int .i64 0)),(1,.nilfn)] []),iN (.store 4 (.t 2) (.t 16)),iI 3 (.mv (.c (.bool false)))]) .ret
def c120_7:C:=.seq (.seq (.reg [iI 6 (.call (.c (.fn 129 [])) []),iI 7 (.mv (.c (.int .i64 0)))]) c120_5) c120_6
def ir120:C:=.seq (.reg [iI 2 (.alloc [(1,(.int .i64 0)),(1,.nilfn),(1,(.int .i64 0)),(1,.nilfn)]),iI 3 (.mv (.c (.bool false)))]) c120_7
theorem fd120:fd? Tryz.prog 120=some (17,[.cell 2 4,.slot 3],ir120):=by kernel_rfl
noncomputable def f120(x0:Int):Option Nat :=
  ((f120_C1).run.bind fun _=>(if (decide (80=x0))=true then (some 0) else (if (decide (96=x0))=true then (some 1) else (if (decide (130=x0))=true then (some 2) else (if (decide (240=x0))=true then (some 3) else (if (decide (1024=x0))=true then (some 4) else (if (decide (4096=x0))=true then (some 5) else (if (decide (4097=x0))=true then (some 6) else (some 7)))))))))
def f120v(i_:Nat):AV:=if i_=0 then .tup [.agg [.int .i64 80,.fn 133 [],.int .i64 0,.nilfn],.bool true] else if i_=1 then .tup [.agg [.int .i64 96,.fn 134 [],.int .i64 0,.nilfn],.bool true] else if i_=2 then .tup [.agg [.int .i64 130,.fn 135 [],.int .i64 (-1),.fn 136 []],.bool true] else if i_=3 then .tup [.agg [.int .i64 240,.fn 137 [],.int .i64 2,.fn 138 []],.bool true] else if i_=4 then .tup [.agg [.int .i64 1024,.fn 139 [],.int .i64 0,.nilfn],.bool true] else if i_=5 then .tup [.agg [.int .i64 4096,.fn 140 [],.int .i64 1,.fn 142 []],.bool true] else if i_=6 then .tup [.agg [.int .i64 4097,.nilfn,.int .i64 1,.fn 143 []],.bool true] else .tup [.agg [.int .i64 0,.nilfn,.int .i64 0,.nilfn],.bool false]
theorem f120v0:f120v 0=.tup [.agg [.int .i64 80,.fn 133 [],.int .i64 0,.nilfn],.bool true]:=rfl
theorem f120v1:f120v 1=.tup [.agg [.int .i64 96,.fn 134 [],.int .i64 0,.nilfn],.bool true]:=rfl
theorem f120v2:f120v 2=.tup [.agg [.int .i64 130,.fn 135 [],.int .i64 (-1),.fn 136 []],.bool true]:=rfl
theorem f120v3:f120v 3=.tup [.agg [.int .i64 240,.fn 137 [],.int .i64 2,.fn 138 []],.bool true]:=rfl
theorem f120v4:f120v 4=.tup [.agg [.int .i64 1024,.fn 139 [],.int .i64 0,.nilfn],.bool true]:=rfl
theorem f120v5:f120v 5=.tup [.agg [.int .i64 4096,.fn 140 [],.int .i64 1,.fn 142 []],.bool true]:=rfl
theorem f120v6:f120v 6=.tup [.agg [.int .i64 4097,.nilfn,.int .i64 1,.fn 143 []],.bool true]:=rfl
theorem f120vl{i_:Nat}(h0:i_≠0)(h1:i_≠1)(h2:i_≠2)(h3:i_≠3)(h4:i_≠4)(h5:i_≠5)(h6:i_≠6):f120v i_=.tup [.agg [.int .i64 0,.nilfn,.int .i64 0,.nilfn],.bool false]:=by unfold f120v;rw[if_neg h0,if_neg h1,if_neg h2,if_neg h3,if_neg h4,if_neg h5,if_neg h6]
theorem f120vu(i_:Nat):unr (f120v i_)=f120v i_:=ite_unr rfl (ite_unr rfl (ite_unr rfl (ite_unr rfl (ite_unr rfl (ite_unr rfl (ite_unr rfl rfl))))))
theorem f120vp(i_:Nat)(h:Hp):adopt h (f120v i_)=some (f120v i_,h):=ite_ad rfl (ite_ad rfl (ite_ad rfl (ite_ad rfl (ite_ad rfl (ite_ad rfl (ite_ad rfl rfl))))))
theorem f120_ok{x0:Int}{r_:Nat}(H:f120 x0=some r_):Pure Tryz.prog 120 [.int .i64 x0] (· = f120v r_):=by
 refine Pure.walk3 fd120 none (Nat.le_of_ble_eq_true rfl) (f120vu _) fun Q hQ=>?_
 simp only[f120] at H
 refine AW.rseq ?_
 try simp only[wm,wmd,↓wk,↓wl,nq,evV,↓reduceIte,sevalprocAttr]
 refine AW.sseq ?_
 refine AW.rseq ?_
 try simp only[wm,wmd,↓wk,↓wl,nq,evV,↓reduceIte,sevalprocAttr]
 refine evTs_inl (I:=f120_C1) (args:=[]) H (by rfl) fd129 (by rfl) (Nat.le_of_ble_eq_true rfl) ?_ ?_<;>clear H
 ·rintro v_ Q_ H hqf120_C1
  simp only[f120_C1] at H
  dsimp only[List.length_cons,List.length_nil]
  refine AW.rseq ?_
  try simp only[wm,wmd,↓wk,↓wl,nq,evV,↓reduceIte,sevalprocAttr]
  refine AW.rseq ?_
  try simp only[wm,wmd,↓wk,↓wl,nq,evV,↓reduceIte,sevalprocAttr]
  refine AW.ret ?_
  cases H
  exact hqf120_C1 _ _ _ (.inr rfl) (Le.tq 1 [0,1] [0] rfl) (by simp only[resVs,omap,resV,f120_C1,wm,wmr,rrm,↓wk,↓wl,evV,↓reduceIte,sevalprocAttr]) (by simp only[f120_C1,wm,wmr,rrm,↓wk,↓wl,evV,↓reduceIte,sevalprocAttr])
 ·rintro _ s_ h_ H hs_ hh_
  simp only[f120_C1] at H hs_ hh_
  subst hs_
  subst hh_
  try simp only[wm,wmd,↓wk,↓wl,nq,evV,↓reduceIte,sevalprocAttr]
  refine AW.bend ?_
  refine AW.rounds 40 ?_
  refine Rounds.go ?_
  refine AW.rseq ?_
  try simp only[wm,wmd,↓wk,↓wl,nq,evV,↓reduceIte,sevalprocAttr]
  refine AW.sseq ?_
  refine AW.ift (by rfl) ?_
  refine AW.skip ?_
  refine seqQ.norm ?_
  refine AW.bseq ?_
  refine AW.rseq ?_
  try simp only[wm,wmd,↓wk,↓wl,nq,evV,↓reduceIte,sevalprocAttr]
  refine evTs_any (v:=.agg [.int .i64 80,.fn 133 [],.int .i64 0,.nilfn]) rfl (by rfl) ?_
  try simp only[wm,wmd,↓wk,↓wl,nq,evV,↓reduceIte,sevalprocAttr]
  refine AW.rseq ?_
  try simp only[wm,wmd,↓wk,↓wl,nq,evV,↓reduceIte,sevalprocAttr]
  refine AW.ifc H (by rfl) ?_ ?_<;>clear H<;>intro H
  ·refine AW.rseq ?_
   try simp only[wm,wmd,↓wk,↓wl,nq,evV,↓reduceIte,sevalprocAttr]
   refine AW.ret ?_
   refine blkQ.ret ?_
   refine roundQ.ret ?_
   refine blk0.ret ?_
   refine seqQ.ret ?_
   cases H
   exact hQ _ _ _ _ (.inr rfl) (by simp only[resVs,omap,resV,wm,wmd,↓wk,↓wl,nq,evV,↓reduceIte,sevalprocAttr];rfl) (hand_plain (by rfl)) (by first | exact Or.inl rfl | exact Or.inr rfl)
  ·refine AW.skip ?_
   refine blkQ.norm ?_
   refine AW.rend ?_
   try simp only[wm,wmd,↓wk,↓wl,nq,evV,↓reduceIte,sevalprocAttr]
   refine roundQ.next (st2:=⟨put (put (put (put (fun _=>.junk) 7 (.int .i64 1)) 6 (.agg [.int .i64 80,.fn 133 [],.int .i64 0,.nilfn,.int .i64 96,.fn 134 [],.int .i64 0,.nilfn,.int .i64 130,.fn 135 [],.int .i64 (-1),.fn 136 [],.int .i64 240,.fn 137 [],.int .i64 2,.fn 138 [],.int .i64 1024,.fn 139 [],.int .i64 0,.nilfn,.int .i64 4096,.fn 140 [],.int .i64 1,.fn 142 [],.int .i64 4097,.nilfn,.int .i64 1,.fn 143 []])) 2 (.ptr 0 0)) 0 (.int .i64 x0),[.cel [.int .i64 0,.nilfn,.int .i64 0,.nilfn]]⟩) (Le.tz [0] [0,2,6,7] (by simp only[wm,wmr,rrm,↓wk,↓wl,evV,↓reduceIte,sevalprocAttr]<;>rfl)) ?_
   refine Rounds.go ?_
   refine AW.rseq ?_
   try simp only[wm,wmd,↓wk,↓wl,nq,evV,↓reduceIte,sevalprocAttr]
   refine AW.sseq ?_
   refine AW.ift (by rfl) ?_
   refine AW.skip ?_
   refine seqQ.norm ?_
   refine AW.bseq ?_
   refine AW.rseq ?_
   try simp only[wm,wmd,↓wk,↓wl,nq,evV,↓reduceIte,sevalprocAttr]
   refine evTs_any (v:=.agg [.int .i64 96,.fn 134 [],.int .i64 0,.nilfn]) rfl (by rfl) ?_
   try simp only[wm,wmd,↓wk,↓wl,nq,evV,↓reduceIte,sevalprocAttr]
   refine AW.rseq ?_
   try simp only[wm,wmd,↓wk,↓wl,nq,evV,↓reduceIte,sevalprocAttr]
   refine AW.ifc H (by rfl) ?_ ?_<;>clear H<;>intro H
   ·refine AW.rseq ?_
    try simp only[wm,wmd,↓wk,↓wl,nq,evV,↓reduceIte,sevalprocAttr]
    refine AW.ret ?_
    refine blkQ.ret ?_
    refine roundQ.ret ?_
    refine blk0.ret ?_
    refine seqQ.ret ?_
    cases H
    exact hQ _ _ _ _ (.inr rfl) (by simp only[resVs,omap,resV,wm,wmd,↓wk,↓wl,nq,evV,↓reduceIte,sevalprocAttr];rfl) (hand_plain (by rfl)) (by first | exact Or.inl rfl | exact Or.inr rfl)
   ·refine AW.skip ?_
    refine blkQ.norm ?_
    refine AW.rend ?_
    try simp only[wm,wmd,↓wk,↓wl,nq,evV,↓reduceIte,sevalprocAttr]
    refine roundQ.next (st2:=⟨put (put (put (put (fun _=>.junk) 7 (.int .i64 2)) 6 (.agg [.int .i64 80,.fn 133 [],.int .i64 0,.nilfn,.int .i64 96,.fn 134 [],.int .i64 0,.nilfn,.int .i64 130,.fn 135 [],.int .i64 (-1),.fn 136 [],.int .i64 240,.fn 137 [],.int .i64 2,.fn 138 [],.int .i64 1024,.fn 139 [],.int .i64 0,.nilfn,.int .i64 4096,.fn 140 [],.int .i64 1,.fn 142 [],.int .i64 4097,.nilfn,.int .i64 1,.fn 143 []])) 2 (.ptr 0 0)) 0 (.int .i64 x0),[.cel [.int .i64 0,.nilfn,.int .i64 0,.nilfn]]⟩) (Le.tz [0] [0,2,6,7] (by simp only[wm,wmr,rrm,↓wk,↓wl,evV,↓reduceIte,sevalprocAttr]<;>rfl)) ?_
    refine Rounds.go ?_
    refine AW.rseq ?_
    try simp only[wm,wmd,↓wk,↓wl,nq,evV,↓reduceIte,sevalprocAttr]
    refine AW.sseq ?_
    refine AW.ift (by rfl) ?_
    refine AW.skip ?_
    refine seqQ.norm ?_
    refine AW.bseq ?_
    refine AW.rseq ?_
    try simp only[wm,wmd,↓wk,↓wl,nq,evV,↓reduceIte,sevalprocAttr]
    refine evTs_any (v:=.agg [.int .i64 130,.fn 135 [],.int .i64 (-1),.fn 136 []]) rfl (by rfl) ?_
    try simp only[wm,wmd,↓wk,↓wl,nq,evV,↓reduceIte,sevalprocAttr]
    refine AW.rseq ?_
    try simp only[wm,wmd,↓wk,↓wl,nq,evV,↓reduceIte,sevalprocAttr]
    refine AW.ifc H (by rfl) ?_ ?_<;>clear H<;>intro H
    ·refine AW.rseq ?_
     try simp only[wm,wmd,↓wk,↓wl,nq,evV,↓reduceIte,sevalprocAttr]
     refine AW.ret ?_
     refine blkQ.ret ?_
     refine roundQ.ret ?_
     refine blk0.ret ?_
     refine seqQ.ret ?_
     cases H
     exact hQ _ _ _ _ (.inr rfl) (by simp only[resVs,omap,resV,wm,wmd,↓wk,↓wl,nq,evV,↓reduceIte,sevalprocAttr];rfl) (hand_plain (by rfl)) (by first | exact Or.inl rfl | exact Or.inr rfl)
    ·refine AW.skip ?_
     refine blkQ.norm ?_
     refine AW.rend ?_
     try simp only[wm,wmd,↓wk,↓wl,nq,evV,↓reduceIte,sevalprocAttr]
     refine roundQ.next (st2:=⟨put (put (put (put (fun _=>.junk) 7 (.int .i64 3)) 6 (.agg [.int .i64 80,.fn 133 [],.int .i64 0,.nilfn,.int .i64 96,.fn 134 [],.int .i64 0,.nilfn,.int .i64 130,.fn 135 [],.int .i64 (-1),.fn 136 [],.int .i64 240,.fn 137 [],.int .i64 2,.fn 138 [],.int .i64 1024,.fn 139 [],.int .i64 0,.nilfn,.int .i64 4096,.fn 140 [],.int .i64 1,.fn 142 [],.int .i64 4097,.nilfn,.int .i64 1,.fn 143 []])) 2 (.ptr 0 0)) 0 (.int .i64 x0),[.cel [.int .i64 0,.nilfn,.int .i64 0,.nilfn]]⟩) (Le.tz [0] [0,2,6,7] (by simp only[wm,wmr,rrm,↓wk,↓wl,evV,↓reduceIte,sevalprocAttr]<;>rfl)) ?_
     refine Rounds.go ?_
     refine AW.rseq ?_
     try simp only[wm,wmd,↓wk,↓wl,nq,evV,↓reduceIte,sevalprocAttr]
     refine AW.sseq ?_
     refine AW.ift (by rfl) ?_
     refine AW.skip ?_
     refine seqQ.norm ?_
     refine AW.bseq ?_
     refine AW.rseq ?_
     try simp only[wm,wmd,↓wk,↓wl,nq,evV,↓reduceIte,sevalprocAttr]
     refine evTs_any (v:=.agg [.int .i64 240,.fn 137 [],.int .i64 2,.fn 138 []]) rfl (by rfl) ?_
     try simp only[wm,wmd,↓wk,↓wl,nq,evV,↓reduceIte,sevalprocAttr]
     refine AW.rseq ?_
     try simp only[wm,wmd,↓wk,↓wl,nq,evV,↓reduceIte,sevalprocAttr]
     refine AW.ifc H (by rfl) ?_ ?_<;>clear H<;>intro H
     ·refine AW.rseq ?_
      try simp only[wm,wmd,↓wk,↓wl,nq,evV,↓reduceIte,sevalprocAttr]
      refine AW.ret ?_
      refine blkQ.ret ?_
      refine roundQ.ret ?_
      refine blk0.ret ?_
      refine seqQ.ret ?_
      cases H
      exact hQ _ _ _ _ (.inr rfl) (by simp only[resVs,omap,resV,wm,wmd,↓wk,↓wl,nq,evV,↓reduceIte,sevalprocAttr];rfl) (hand_plain (by rfl)) (by first | exact Or.inl rfl | exact Or.inr rfl)
     ·refine AW.skip ?_
      refine blkQ.norm ?_
      refine AW.rend ?_
      try simp only[wm,wmd,↓wk,↓wl,nq,evV,↓reduceIte,sevalprocAttr]
      refine roundQ.next (st2:=⟨put (put (put (put (fun _=>.junk) 7 (.int .i64 4)) 6 (.agg [.int .i64 80,.fn 133 [],.int .i64 0,.nilfn,.int .i64 96,.fn 134 [],.int .i64 0,.nilfn,.int .i64 130,.fn 135 [],.int .i64 (-1),.fn 136 [],.int .i64 240,.fn 137 [],.int .i64 2,.fn 138 [],.int .i64 1024,.fn 139 [],.int .i64 0,.nilfn,.int .i64 4096,.fn 140 [],.int .i64 1,.fn 142 [],.int .i64 4097,.nilfn,.int .i64 1,.fn 143 []])) 2 (.ptr 0 0)) 0 (.int .i64 x0),[.cel [.int .i64 0,.nilfn,.int .i64 0,.nilfn]]⟩) (Le.tz [0] [0,2,6,7] (by simp only[wm,wmr,rrm,↓wk,↓wl,evV,↓reduceIte,sevalprocAttr]<;>rfl)) ?_
      refine Rounds.go ?_
      refine AW.rseq ?_
      try simp only[wm,wmd,↓wk,↓wl,nq,evV,↓reduceIte,sevalprocAttr]
      refine AW.sseq ?_
      refine AW.ift (by rfl) ?_
      refine AW.skip ?_
      refine seqQ.norm ?_
      refine AW.bseq ?_
      refine AW.rseq ?_
      try simp only[wm,wmd,↓wk,↓wl,nq,evV,↓reduceIte,sevalprocAttr]
      refine evTs_any (v:=.agg [.int .i64 1024,.fn 139 [],.int .i64 0,.nilfn]) rfl (by rfl) ?_
      try simp only[wm,wmd,↓wk,↓wl,nq,evV,↓reduceIte,sevalprocAttr]
      refine AW.rseq ?_
      try simp only[wm,wmd,↓wk,↓wl,nq,evV,↓reduceIte,sevalprocAttr]
      refine AW.ifc H (by rfl) ?_ ?_<;>clear H<;>intro H
      ·refine AW.rseq ?_
       try simp only[wm,wmd,↓wk,↓wl,nq,evV,↓reduceIte,sevalprocAttr]
       refine AW.ret ?_
       refine blkQ.ret ?_
       refine roundQ.ret ?_
       refine blk0.ret ?_
       refine seqQ.ret ?_
       cases H
       exact hQ _ _ _ _ (.inr rfl) (by simp only[resVs,omap,resV,wm,wmd,↓wk,↓wl,nq,evV,↓reduceIte,sevalprocAttr];rfl) (hand_plain (by rfl)) (by first | exact Or.inl rfl | exact Or.inr rfl)
      ·refine AW.skip ?_
       refine blkQ.norm ?_
       refine AW.rend ?_
       try simp only[wm,wmd,↓wk,↓wl,nq,evV,↓reduceIte,sevalprocAttr]
       refine roundQ.next (st2:=⟨put (put (put (put (fun _=>.junk) 7 (.int .i64 5)) 6 (.agg [.int .i64 80,.fn 133 [],.int .i64 0,.nilfn,.int .i64 96,.fn 134 [],.int .i64 0,.nilfn,.int .i64 130,.fn 135 [],.int .i64 (-1),.fn 136 [],.int .i64 240,.fn 137 [],.int .i64 2,.fn 138 [],.int .i64 1024,.fn 139 [],.int .i64 0,.nilfn,.int .i64 4096,.fn 140 [],.int .i64 1,.fn 142 [],.int .i64 4097,.nilfn,.int .i64 1,.fn 143 []])) 2 (.ptr 0 0)) 0 (.int .i64 x0),[.cel [.int .i64 0,.nilfn,.int .i64 0,.nilfn]]⟩) (Le.tz [0] [0,2,6,7] (by simp only[wm,wmr,rrm,↓wk,↓wl,evV,↓reduceIte,sevalprocAttr]<;>rfl)) ?_
       refine Rounds.go ?_
       refine AW.rseq ?_
       try simp only[wm,wmd,↓wk,↓wl,nq,evV,↓reduceIte,sevalprocAttr]
       refine AW.sseq ?_
       refine AW.ift (by rfl) ?_
       refine AW.skip ?_
       refine seqQ.norm ?_
       refine AW.bseq ?_
       refine AW.rseq ?_
       try simp only[wm,wmd,↓wk,↓wl,nq,evV,↓reduceIte,sevalprocAttr]
       refine evTs_any (v:=.agg [.int .i64 4096,.fn 140 [],.int .i64 1,.fn 142 []]) rfl (by rfl) ?_
       try simp only[wm,wmd,↓wk,↓wl,nq,evV,↓reduceIte,sevalprocAttr]
       refine AW.rseq ?_
       try simp only[wm,wmd,↓wk,↓wl,nq,evV,↓reduceIte,sevalprocAttr]
       refine AW.ifc H (by rfl) ?_ ?_<;>clear H<;>intro H
       ·refine AW.rseq ?_
        try simp only[wm,wmd,↓wk,↓wl,nq,evV,↓reduceIte,sevalprocAttr]
        refine AW.ret ?_
        refine blkQ.ret ?_
        refine roundQ.ret ?_
        refine blk0.ret ?_
        refine seqQ.ret ?_
        cases H
        exact hQ _ _ _ _ (.inr rfl) (by simp only[resVs,omap,resV,wm,wmd,↓wk,↓wl,nq,evV,↓reduceIte,sevalprocAttr];rfl) (hand_plain (by rfl)) (by first | exact Or.inl rfl | exact Or.inr rfl)
       ·refine AW.skip ?_
        refine blkQ.norm ?_
        refine AW.rend ?_
        try simp only[wm,wmd,↓wk,↓wl,nq,evV,↓reduceIte,sevalprocAttr]
        refine roundQ.next (st2:=⟨put (put (put (put (fun _=>.junk) 7 (.int .i64 6)) 6 (.agg [.int .i64 80,.fn 133 [],.int .i64 0,.nilfn,.int .i64 96,.fn 134 [],.int .i64 0,.nilfn,.int .i64 130,.fn 135 [],.int .i64 (-1),.fn 136 [],.int .i64 240,.fn 137 [],.int .i64 2,.fn 138 [],.int .i64 1024,.fn 139 [],.int .i64 0,.nilfn,.int .i64 4096,.fn 140 [],.int .i64 1,.fn 142 [],.int .i64 4097,.nilfn,.int .i64 1,.fn 143 []])) 2 (.ptr 0 0)) 0 (.int .i64 x0),[.cel [.int .i64 0,.nilfn,.int .i64 0,.nilfn]]⟩) (Le.tz [0] [0,2,6,7] (by simp only[wm,wmr,rrm,↓wk,↓wl,evV,↓reduceIte,sevalprocAttr]<;>rfl)) ?_
        refine Rounds.go ?_
        refine AW.rseq ?_
        try simp only[wm,wmd,↓wk,↓wl,nq,evV,↓reduceIte,sevalprocAttr]
        refine AW.sseq ?_
        refine AW.ift (by rfl) ?_
        refine AW.skip ?_
        refine seqQ.norm ?_
        refine AW.bseq ?_
        refine AW.rseq ?_
        try simp only[wm,wmd,↓wk,↓wl,nq,evV,↓reduceIte,sevalprocAttr]
        refine evTs_any (v:=.agg [.int .i64 4097,.nilfn,.int .i64 1,.fn 143 []]) rfl (by rfl) ?_
        try simp only[wm,wmd,↓wk,↓wl,nq,evV,↓reduceIte,sevalprocAttr]
        refine AW.rseq ?_
        try simp only[wm,wmd,↓wk,↓wl,nq,evV,↓reduceIte,sevalprocAttr]
        refine AW.ifc H (by rfl) ?_ ?_<;>clear H<;>intro H
        ·refine AW.rseq ?_
         try simp only[wm,wmd,↓wk,↓wl,nq,evV,↓reduceIte,sevalprocAttr]
         refine AW.ret ?_
         refine blkQ.ret ?_
         refine roundQ.ret ?_
         refine blk0.ret ?_
         refine seqQ.ret ?_
         cases H
         exact hQ _ _ _ _ (.inr rfl) (by simp only[resVs,omap,resV,wm,wmd,↓wk,↓wl,nq,evV,↓reduceIte,sevalprocAttr];rfl) (hand_plain (by rfl)) (by first | exact Or.inl rfl | exact Or.inr rfl)
        ·refine AW.skip ?_
         refine blkQ.norm ?_
         refine AW.rend ?_
         try simp only[wm,wmd,↓wk,↓wl,nq,evV,↓reduceIte,sevalprocAttr]
         refine roundQ.next (st2:=⟨put (put (put (put (fun _=>.junk) 7 (.int .i64 7)) 6 (.agg [.int .i64 80,.fn 133 [],.int .i64 0,.nilfn,.int .i64 96,.fn 134 [],.int .i64 0,.nilfn,.int .i64 130,.fn 135 [],.int .i64 (-1),.fn 136 [],.int .i64 240,.fn 137 [],.int .i64 2,.fn 138 [],.int .i64 1024,.fn 139 [],.int .i64 0,.nilfn,.int .i64 4096,.fn 140 [],.int .i64 1,.fn 142 [],.int .i64 4097,.nilfn,.int .i64 1,.fn 143 []])) 2 (.ptr 0 0)) 0 (.int .i64 x0),[.cel [.int .i64 0,.nilfn,.int .i64 0,.nilfn]]⟩) (Le.tz [0] [0,2,6,7] (by simp only[wm,wmr,rrm,↓wk,↓wl,evV,↓reduceIte,sevalprocAttr]<;>rfl)) ?_
         refine Rounds.go ?_
         refine AW.rseq ?_
         try simp only[wm,wmd,↓wk,↓wl,nq,evV,↓reduceIte,sevalprocAttr]
         refine AW.sseq ?_
         refine AW.iff (by rfl) ?_
         refine AW.exit ?_
         refine seqQ.exit ?_
         refine roundQ.exit ?_
         refine blk0.here ?_
         refine seqQ.norm ?_
         refine AW.rseq ?_
         try simp only[wm,wmd,↓wk,↓wl,nq,evV,↓reduceIte,sevalprocAttr]
         refine AW.ret ?_
         cases H
         exact hQ _ _ _ _ (.inr rfl) (by simp only[resVs,omap,resV,wm,wmd,↓wk,↓wl,nq,evV,↓reduceIte,sevalprocAttr];rfl) (hand_plain (by rfl)) (by first | exact Or.inl rfl | exact Or.inr rfl)
def c133_0:C:=.reg [iI 10 (.mv (.t 3)),iI 11 (.mv (.t 5)),iI 12 (.cint .u64 (.t 11)),iI 13 (.call (.c (.fn 79 [])) [(.t 12),(.c (.int .i64 2))]),iI 14 (.bin .add (.t 10) (.t 13)),iI 3 (.mv (.t 14))]
def c133_1:C:=.reg [iI 15 (.bin .add (.t 7) (.c (.int .i64 1))),iI 7 (.mv (.t 15))]
def c133_2:C:=.seq (.block 1 (.seq (.reg [iI 9 (.idx 0 6 (.t 6) (.t 7)),iI 5 (.mv (.t 9))]) c133_0)) c133_1
def c133_3:C:=.seq (.cond (.t 8) (.skip) (.exit 0)) c133_2
def c133_4:C:=.block 0 (.loop (.seq (.reg [iI 8 (.bin .lss (.t 7) (.c (.int .i64 6)))]) c133_3))
def c133_5:C:=.seq (.reg [iI 16 (.mv (.t 3)),iI 2 (.mv (.t 16))]) .ret
def c133_6:C:=.seq (.seq (.reg [iI 6 (.build [(6,(.int .i64 0))] [(0,0,(.c (.int .i64 96))),(1,0,(.c (.int .i64 130))),(2,0,(.c (.int .i64 240))),(3,0,(.c (.int .i64 1024))),(4,0,(.c (.int .i64 4096))),(5,0,(.c (.int .i64 4097)))]),iI 7 (.mv (.c (.int .i64 0)))]) c133_4) c133_5
def c133_7:C:=.seq (.reg [iI 3 (.mv (.c (.str [])))]) c133_6
def ir133:C:=.seq (.reg [iI 2 (.mv (.c (.str [])))]) c133_7
theorem fd133:fd? Tryz.prog 133=some (17,[.slot 2],ir133):=by kernel_rfl
noncomputable def f133p(x0:Int)(x1:Int)(x2:Int)(x3:(List UInt8))(x4:Int)(x5:Bool)(x6:Bool):Option ((List UInt8)) :=
  (f79 (IntKind.u64.wrap 96) 2).bind fun x7=>(cat? ([]) x7).bind fun x8=>(f79 (IntKind.u64.wrap 130) 2).bind fun x9=>(cat? x8 x9).bind fun xa=>(f79 (IntKind.u64.wrap 240) 2).bind fun xb=>(cat? xa xb).bind fun xc=>(f79 (IntKind.u64.wrap 1024) 2).bind fun xd=>(cat? xc xd).bind fun xe=>(f79 (IntKind.u64.wrap 4096) 2).bind fun xf=>(cat? xe xf).bind fun xg=>(f79 (IntKind.u64.wrap 4097) 2).bind fun xh=>(cat? xg xh).bind fun xi=>(some xi)
theorem f133p_ok{x0:Int}{x1:Int}{x2:Int}{x3:(List UInt8)}{x4:Int}{x5:Bool}{x6:Bool}{r_:(List UInt8)}(H:f133p x0 x1 x2 x3 x4 x5 x6=some r_):Pure Tryz.prog 133 [.pro [.int .u64 x0,.int .i64 x1,.int .i64 x2,.str x3,.int .i64 x4,.bool x5,.bool x6]] (· = .str r_):=by
 refine Pure.walk3 fd133 none (Nat.le_of_ble_eq_true rfl) (by rfl) fun Q hQ=>?_
 simp only[f133p] at H
 refine AW.rseq ?_
 try simp only[wm,wmd,↓wk,↓wl,nq,evV,↓reduceIte,sevalprocAttr]
 refine AW.rseq ?_
 try simp only[wm,wmd,↓wk,↓wl,nq,evV,↓reduceIte,sevalprocAttr]
 refine AW.sseq ?_
 refine AW.rseq ?_
 try simp only[wm,wmd,↓wk,↓wl,nq,evV,↓reduceIte,sevalprocAttr]
 refine AW.bend ?_
 refine AW.rounds 40 ?_
 refine Rounds.go ?_
 refine AW.rseq ?_
 try simp only[wm,wmd,↓wk,↓wl,nq,evV,↓reduceIte,sevalprocAttr]
 refine AW.sseq ?_
 refine AW.ift (by rfl) ?_
 refine AW.skip ?_
 refine seqQ.norm ?_
 refine AW.bseq ?_
 refine AW.rseq ?_
 try simp only[wm,wmd,↓wk,↓wl,nq,evV,↓reduceIte,sevalprocAttr]
 refine evTs_any (v:=.int .i64 96) rfl (by rfl) ?_
 try simp only[wm,wmd,↓wk,↓wl,nq,evV,↓reduceIte,sevalprocAttr]
 refine AW.rend ?_
 try simp only[wm,wmd,↓wk,↓wl,nq,evV,↓reduceIte,sevalprocAttr]
 refine evTs_pure hFn H (fun _ h=>f79_ok h) (by rfl) (by rfl) (by rfl) (by rfl) (fun _=>rfl) ?_<;>clear H<;>intro x7 H
 try simp only[eL,wm,wmd,↓wk,↓wl,nq,evV,↓reduceIte,sevalprocAttr]
 refine rest_cat H ?_<;>clear H<;>intro x8 H
 try simp only[wm,wmd,↓wk,↓wl,nq,evV,↓reduceIte,sevalprocAttr]
 refine blkQ.norm ?_
 refine AW.rend ?_
 try simp only[wm,wmd,↓wk,↓wl,nq,evV,↓reduceIte,sevalprocAttr]
 refine roundQ.next (st2:=⟨put (put (put (fun _=>.junk) 7 (.int .i64 1)) 6 (.agg [.int .i64 96,.int .i64 130,.int .i64 240,.int .i64 1024,.int .i64 4096,.int .i64 4097])) 3 (.str x8),[]⟩) (Le.tz [] [3,6,7] (by simp only[wm,wmr,rrm,↓wk,↓wl,evV,↓reduceIte,sevalprocAttr]<;>rfl)) ?_
 refine Rounds.go ?_
 refine AW.rseq ?_
 try simp only[wm,wmd,↓wk,↓wl,nq,evV,↓reduceIte,sevalprocAttr]
 refine AW.sseq ?_
 refine AW.ift (by rfl) ?_
 refine AW.skip ?_
 refine seqQ.norm ?_
 refine AW.bseq ?_
 refine AW.rseq ?_
 try simp only[wm,wmd,↓wk,↓wl,nq,evV,↓reduceIte,sevalprocAttr]
 refine evTs_any (v:=.int .i64 130) rfl (by rfl) ?_
 try simp only[wm,wmd,↓wk,↓wl,nq,evV,↓reduceIte,sevalprocAttr]
 refine AW.rend ?_
 try simp only[wm,wmd,↓wk,↓wl,nq,evV,↓reduceIte,sevalprocAttr]
 refine evTs_pure hFn H (fun _ h=>f79_ok h) (by rfl) (by rfl) (by rfl) (by rfl) (fun _=>rfl) ?_<;>clear H<;>intro x9 H
 try simp only[eL,wm,wmd,↓wk,↓wl,nq,evV,↓reduceIte,sevalprocAttr]
 refine rest_cat H ?_<;>clear H<;>intro xa H
 try simp only[wm,wmd,↓wk,↓wl,nq,evV,↓reduceIte,sevalprocAttr]
 refine blkQ.norm ?_
 refine AW.rend ?_
 try simp only[wm,wmd,↓wk,↓wl,nq,evV,↓reduceIte,sevalprocAttr]
 refine roundQ.next (st2:=⟨put (put (put (fun _=>.junk) 7 (.int .i64 2)) 6 (.agg [.int .i64 96,.int .i64 130,.int .i64 240,.int .i64 1024,.int .i64 4096,.int .i64 4097])) 3 (.str xa),[]⟩) (Le.tz [] [3,6,7] (by simp only[wm,wmr,rrm,↓wk,↓wl,evV,↓reduceIte,sevalprocAttr]<;>rfl)) ?_
 refine Rounds.go ?_
 refine AW.rseq ?_
 try simp only[wm,wmd,↓wk,↓wl,nq,evV,↓reduceIte,sevalprocAttr]
 refine AW.sseq ?_
 refine AW.ift (by rfl) ?_
 refine AW.skip ?_
 refine seqQ.norm ?_
 refine AW.bseq ?_
 refine AW.rseq ?_
 try simp only[wm,wmd,↓wk,↓wl,nq,evV,↓reduceIte,sevalprocAttr]
 refine evTs_any (v:=.int .i64 240) rfl (by rfl) ?_
 try simp only[wm,wmd,↓wk,↓wl,nq,evV,↓reduceIte,sevalprocAttr]
 refine AW.rend ?_
 try simp only[wm,wmd,↓wk,↓wl,nq,evV,↓reduceIte,sevalprocAttr]
 refine evTs_pure hFn H (fun _ h=>f79_ok h) (by rfl) (by rfl) (by rfl) (by rfl) (fun _=>rfl) ?_<;>clear H<;>intro xb H
 try simp only[eL,wm,wmd,↓wk,↓wl,nq,evV,↓reduceIte,sevalprocAttr]
 refine rest_cat H ?_<;>clear H<;>intro xc H
 try simp only[wm,wmd,↓wk,↓wl,nq,evV,↓reduceIte,sevalprocAttr]
 refine blkQ.norm ?_
 refine AW.rend ?_
 try simp only[wm,wmd,↓wk,↓wl,nq,evV,↓reduceIte,sevalprocAttr]
 refine roundQ.next (st2:=⟨put (put (put (fun _=>.junk) 7 (.int .i64 3)) 6 (.agg [.int .i64 96,.int .i64 130,.int .i64 240,.int .i64 1024,.int .i64 4096,.int .i64 4097])) 3 (.str xc),[]⟩) (Le.tz [] [3,6,7] (by simp only[wm,wmr,rrm,↓wk,↓wl,evV,↓reduceIte,sevalprocAttr]<;>rfl)) ?_
 refine Rounds.go ?_
 refine AW.rseq ?_
 try simp only[wm,wmd,↓wk,↓wl,nq,evV,↓reduceIte,sevalprocAttr]
 refine AW.sseq ?_
 refine AW.ift (by rfl) ?_
 refine AW.skip ?_
 refine seqQ.norm ?_
 refine AW.bseq ?_
 refine AW.rseq ?_
 try simp only[wm,wmd,↓wk,↓wl,nq,evV,↓reduceIte,sevalprocAttr]
 refine evTs_any (v:=.int .i64 1024) rfl (by rfl) ?_
 try simp only[wm,wmd,↓wk,↓wl,nq,evV,↓reduceIte,sevalprocAttr]
 refine AW.rend ?_
 try simp only[wm,wmd,↓wk,↓wl,nq,evV,↓reduceIte,sevalprocAttr]
 refine evTs_pure hFn H (fun _ h=>f79_ok h) (by rfl) (by rfl) (by rfl) (by rfl) (fun _=>rfl) ?_<;>clear H<;>intro xd H
 try simp only[eL,wm,wmd,↓wk,↓wl,nq,evV,↓reduceIte,sevalprocAttr]
 refine rest_cat H ?_<;>clear H<;>intro xe H
 try simp only[wm,wmd,↓wk,↓wl,nq,evV,↓reduceIte,sevalprocAttr]
 refine blkQ.norm ?_
 refine AW.rend ?_
 try simp only[wm,wmd,↓wk,↓wl,nq,evV,↓reduceIte,sevalprocAttr]
 refine roundQ.next (st2:=⟨put (put (put (fun _=>.junk) 7 (.int .i64 4)) 6 (.agg [.int .i64 96,.int .i64 130,.int .i64 240,.int .i64 1024,.int .i64 4096,.int .i64 4097])) 3 (.str xe),[]⟩) (Le.tz [] [3,6,7] (by simp only[wm,wmr,rrm,↓wk,↓wl,evV,↓reduceIte,sevalprocAttr]<;>rfl)) ?_
 refine Rounds.go ?_
 refine AW.rseq ?_
 try simp only[wm,wmd,↓wk,↓wl,nq,evV,↓reduceIte,sevalprocAttr]
 refine AW.sseq ?_
 refine AW.ift (by rfl) ?_
 refine AW.skip ?_
 refine seqQ.norm ?_
 refine AW.bseq ?_
 refine AW.rseq ?_
 try simp only[wm,wmd,↓wk,↓wl,nq,evV,↓reduceIte,sevalprocAttr]
 refine evTs_any (v:=.int .i64 4096) rfl (by rfl) ?_
 try simp only[wm,wmd,↓wk,↓wl,nq,evV,↓reduceIte,sevalprocAttr]
 refine AW.rend ?_
 try simp only[wm,wmd,↓wk,↓wl,nq,evV,↓reduceIte,sevalprocAttr]
 refine evTs_pure hFn H (fun _ h=>f79_ok h) (by rfl) (by rfl) (by rfl) (by rfl) (fun _=>rfl) ?_<;>clear H<;>intro xf H
 try simp only[eL,wm,wmd,↓wk,↓wl,nq,evV,↓reduceIte,sevalprocAttr]
 refine rest_cat H ?_<;>clear H<;>intro xg H
 try simp only[wm,wmd,↓wk,↓wl,nq,evV,↓reduceIte,sevalprocAttr]
 refine blkQ.norm ?_
 refine AW.rend ?_
 try simp only[wm,wmd,↓wk,↓wl,nq,evV,↓reduceIte,sevalprocAttr]
 refine roundQ.next (st2:=⟨put (put (put (fun _=>.junk) 7 (.int .i64 5)) 6 (.agg [.int .i64 96,.int .i64 130,.int .i64 240,.int .i64 1024,.int .i64 4096,.int .i64 4097])) 3 (.str xg),[]⟩) (Le.tz [] [3,6,7] (by simp only[wm,wmr,rrm,↓wk,↓wl,evV,↓reduceIte,sevalprocAttr]<;>rfl)) ?_
 refine Rounds.go ?_
 refine AW.rseq ?_
 try simp only[wm,wmd,↓wk,↓wl,nq,evV,↓reduceIte,sevalprocAttr]
 refine AW.sseq ?_
 refine AW.ift (by rfl) ?_
 refine AW.skip ?_
 refine seqQ.norm ?_
 refine AW.bseq ?_
 refine AW.rseq ?_
 try simp only[wm,wmd,↓wk,↓wl,nq,evV,↓reduceIte,sevalprocAttr]
 refine evTs_any (v:=.int .i64 4097) rfl (by rfl) ?_
 try simp only[wm,wmd,↓wk,↓wl,nq,evV,↓reduceIte,sevalprocAttr]
 refine AW.rend ?_
 try simp only[wm,wmd,↓wk,↓wl,nq,evV,↓reduceIte,sevalprocAttr]
 refine evTs_pure hFn H (fun _ h=>f79_ok h) (by rfl) (by rfl) (by rfl) (by rfl) (fun _=>rfl) ?_<;>clear H<;>intro xh H
 try simp only[eL,wm,wmd,↓wk,↓wl,nq,evV,↓reduceIte,sevalprocAttr]
 refine rest_cat H ?_<;>clear H<;>intro xi H
 try simp only[wm,wmd,↓wk,↓wl,nq,evV,↓reduceIte,sevalprocAttr]
 refine blkQ.norm ?_
 refine AW.rend ?_
 try simp only[wm,wmd,↓wk,↓wl,nq,evV,↓reduceIte,sevalprocAttr]
 refine roundQ.next (st2:=⟨put (put (put (fun _=>.junk) 7 (.int .i64 6)) 6 (.agg [.int .i64 96,.int .i64 130,.int .i64 240,.int .i64 1024,.int .i64 4096,.int .i64 4097])) 3 (.str xi),[]⟩) (Le.tz [] [3,6,7] (by simp only[wm,wmr,rrm,↓wk,↓wl,evV,↓reduceIte,sevalprocAttr]<;>rfl)) ?_
 refine Rounds.go ?_
 refine AW.rseq ?_
 try simp only[wm,wmd,↓wk,↓wl,nq,evV,↓reduceIte,sevalprocAttr]
 refine AW.sseq ?_
 refine AW.iff (by rfl) ?_
 refine AW.exit ?_
 refine seqQ.exit ?_
 refine roundQ.exit ?_
 refine blk0.here ?_
 refine seqQ.norm ?_
 refine AW.rseq ?_
 try simp only[wm,wmd,↓wk,↓wl,nq,evV,↓reduceIte,sevalprocAttr]
 refine AW.ret ?_
 cases H
 exact hQ _ _ _ _ (.inr rfl) (by simp only[resVs,omap,resV,wm,wmd,↓wk,↓wl,nq,evV,↓reduceIte,sevalprocAttr];rfl) (hand_plain (by rfl)) (by first | exact Or.inl rfl | exact Or.inr rfl)
def c134_0:C:=.seq (.regq [iI 3 (.mv (.t 0)),iI 4 (.nilchk (.t 3)),iI 5 (.faddr 1 (.t 4)),iI 6 (.load 0 (.t 5)),iI 7 (.cint .u64 (.t 6)),iI 8 (.call (.c (.fn 79 [])) [(.t 7),(.c (.int .i64 2))]),iI 9 (.mv (.t 0)),iI 10 (.nilchk (.t 9)),iI 11 (.faddr 2 (.t 10)),iI 12 (.load 0 (.t 11)),iI 13 (.cint .u64 (.t 12)),iI 14 (.call (.c (.fn 79 [])) [(.t 13),(.c (.int .i64 2))]),iI 15 (.bin .add (.t 8) (.t 14)),iI 2 (.mv (.t 15))]) .ret
def ir134:C:=.seq (.reg [iI 2 (.mv (.c (.str [])))]) c134_0
theorem fd134:fd? Tryz.prog 134=some (16,[.slot 2],ir134):=by kernel_rfl
noncomputable def f134p(x0:Int)(x1:Int)(x2:Int)(x3:(List UInt8))(x4:Int)(x5:Bool)(x6:Bool):Option ((List UInt8)) :=
  (f79 (IntKind.u64.wrap x1) 2).bind fun x7=>(f79 (IntKind.u64.wrap x2) 2).bind fun x8=>(cat? x7 x8).bind fun x9=>(some x9)
theorem f134p_ok{x0:Int}{x1:Int}{x2:Int}{x3:(List UInt8)}{x4:Int}{x5:Bool}{x6:Bool}{r_:(List UInt8)}(H:f134p x0 x1 x2 x3 x4 x5 x6=some r_):Pure Tryz.prog 134 [.pro [.int .u64 x0,.int .i64 x1,.int .i64 x2,.str x3,.int .i64 x4,.bool x5,.bool x6]] (· = .str r_):=by
 refine Pure.walk3 fd134 none (Nat.le_of_ble_eq_true rfl) (by rfl) fun Q hQ=>?_
 simp only[f134p] at H
 refine AW.rseq ?_
 try simp only[wm,wmd,↓wk,↓wl,nq,evV,↓reduceIte,sevalprocAttr]
 refine AW.rqseq ?_
 try simp only[wm,wmd,↓wk,↓wl,nq,evV,↓reduceIte,sevalprocAttr]
 refine evTs_pure hFnq H (fun _ h=>f79_ok h) (by rfl) (by rfl) (by rfl) (by rfl) (fun _=>rfl) ?_<;>clear H<;>intro x7 H
 try simp only[eL,wm,wmd,↓wk,↓wl,nq,evV,↓reduceIte,sevalprocAttr]
 refine evTs_pure hFnq H (fun _ h=>f79_ok h) (by rfl) (by rfl) (by rfl) (by rfl) (fun _=>rfl) ?_<;>clear H<;>intro x8 H
 try simp only[eL,wm,wmd,↓wk,↓wl,nq,evV,↓reduceIte,sevalprocAttr]
 refine rest_cat H ?_<;>clear H<;>intro x9 H
 try simp only[wm,wmd,↓wk,↓wl,nq,evV,↓reduceIte,sevalprocAttr]
 refine AW.ret ?_
 cases H
 exact hQ _ _ _ _ (.inr rfl) (by simp only[resVs,omap,resV,wm,wmd,↓wk,↓wl,nq,evV,↓reduceIte,sevalprocAttr];rfl) (hand_plain (by rfl)) (by first | exact Or.inl rfl | exact Or.inr rfl)
def c135_0:C:=.seq (.reg [iI 3 (.mv (.t 0)),iI 4 (.nilchk (.t 3)),iI 5 (.faddr 3 (.t 4)),iI 6 (.load 0 (.t 5)),iI 2 (.mv (.t 6))]) .ret
def ir135:C:=.seq (.reg [iI 2 (.mv (.c (.str [])))]) c135_0
theorem fd135:fd? Tryz.prog 135=some (7,[.slot 2],ir135):=by kernel_rfl
noncomputable def f135p(x0:Int)(x1:Int)(x2:Int)(x3:(List UInt8))(x4:Int)(x5:Bool)(x6:Bool):Option ((List UInt8)) :=
  (some x3)
theorem f135p_ok{x0:Int}{x1:Int}{x2:Int}{x3:(List UInt8)}{x4:Int}{x5:Bool}{x6:Bool}{r_:(List UInt8)}(H:f135p x0 x1 x2 x3 x4 x5 x6=some r_):Pure Tryz.prog 135 [.pro [.int .u64 x0,.int .i64 x1,.int .i64 x2,.str x3,.int .i64 x4,.bool x5,.bool x6]] (· = .str r_):=by
 refine Pure.walk3 fd135 none (Nat.le_of_ble_eq_true rfl) (by rfl) fun Q hQ=>?_
 simp only[f135p] at H
 refine AW.rseq ?_
 try simp only[wm,wmd,↓wk,↓wl,nq,evV,↓reduceIte,sevalprocAttr]
 refine AW.rseq ?_
 try simp only[wm,wmd,↓wk,↓wl,nq,evV,↓reduceIte,sevalprocAttr]
 refine AW.ret ?_
 cases H
 exact hQ _ _ _ _ (.inr rfl) (by simp only[resVs,omap,resV,wm,wmd,↓wk,↓wl,nq,evV,↓reduceIte,sevalprocAttr];rfl) (hand_plain (by rfl)) (by first | exact Or.inl rfl | exact Or.inr rfl)
def c137_0:C:=.seq (.reg [iI 3 (.mv (.t 0)),iI 4 (.nilchk (.t 3)),iI 5 (.faddr 2 (.t 4)),iI 6 (.load 0 (.t 5)),iI 7 (.cint .u64 (.t 6)),iI 8 (.call (.c (.fn 79 [])) [(.t 7),(.c (.int .i64 2))]),iI 2 (.mv (.t 8))]) .ret
def ir137:C:=.seq (.reg [iI 2 (.mv (.c (.str [])))]) c137_0
theorem fd137:fd? Tryz.prog 137=some (9,[.slot 2],ir137):=by kernel_rfl
noncomputable def f137p(x0:Int)(x1:Int)(x2:Int)(x3:(List UInt8))(x4:Int)(x5:Bool)(x6:Bool):Option ((List UInt8)) :=
  (f79 (IntKind.u64.wrap x2) 2).bind fun x7=>(some x7)
theorem f137p_ok{x0:Int}{x1:Int}{x2:Int}{x3:(List UInt8)}{x4:Int}{x5:Bool}{x6:Bool}{r_:(List UInt8)}(H:f137p x0 x1 x2 x3 x4 x5 x6=some r_):Pure Tryz.prog 137 [.pro [.int .u64 x0,.int .i64 x1,.int .i64 x2,.str x3,.int .i64 x4,.bool x5,.bool x6]] (· = .str r_):=by
 refine Pure.walk3 fd137 none (Nat.le_of_ble_eq_true rfl) (by rfl) fun Q hQ=>?_
 simp only[f137p] at H
 refine AW.rseq ?_
 try simp only[wm,wmd,↓wk,↓wl,nq,evV,↓reduceIte,sevalprocAttr]
 refine AW.rseq ?_
 try simp only[wm,wmd,↓wk,↓wl,nq,evV,↓reduceIte,sevalprocAttr]
 refine evTs_pure hFn H (fun _ h=>f79_ok h) (by rfl) (by rfl) (by rfl) (by rfl) (fun _=>rfl) ?_<;>clear H<;>intro x7 H
 try simp only[eL,wm,wmd,↓wk,↓wl,nq,evV,↓reduceIte,sevalprocAttr]
 refine AW.ret ?_
 cases H
 exact hQ _ _ _ _ (.inr rfl) (by simp only[resVs,omap,resV,wm,wmd,↓wk,↓wl,nq,evV,↓reduceIte,sevalprocAttr];rfl) (hand_plain (by rfl)) (by first | exact Or.inl rfl | exact Or.inr rfl)
def c139_0:C:=.seq (.reg [iI 3 (.mv (.t 0)),iI 4 (.nilchk (.t 3)),iI 5 (.faddr 4 (.t 4)),iI 6 (.load 0 (.t 5)),iI 7 (.cint .u64 (.t 6)),iI 8 (.call (.c (.fn 79 [])) [(.t 7),(.c (.int .i64 4))]),iI 2 (.mv (.t 8))]) .ret
def ir139:C:=.seq (.reg [iI 2 (.mv (.c (.str [])))]) c139_0
theorem fd139:fd? Tryz.prog 139=some (9,[.slot 2],ir139):=by kernel_rfl
noncomputable def f139p(x0:Int)(x1:Int)(x2:Int)(x3:(List UInt8))(x4:Int)(x5:Bool)(x6:Bool):Option ((List UInt8)) :=
  (f79 (IntKind.u64.wrap x4) 4).bind fun x7=>(some x7)
theorem f139p_ok{x0:Int}{x1:Int}{x2:Int}{x3:(List UInt8)}{x4:Int}{x5:Bool}{x6:Bool}{r_:(List UInt8)}(H:f139p x0 x1 x2 x3 x4 x5 x6=some r_):Pure Tryz.prog 139 [.pro [.int .u64 x0,.int .i64 x1,.int .i64 x2,.str x3,.int .i64 x4,.bool x5,.bool x6]] (· = .str r_):=by
 refine Pure.walk3 fd139 none (Nat.le_of_ble_eq_true rfl) (by rfl) fun Q hQ=>?_
 simp only[f139p] at H
 refine AW.rseq ?_
 try simp only[wm,wmd,↓wk,↓wl,nq,evV,↓reduceIte,sevalprocAttr]
 refine AW.rseq ?_
 try simp only[wm,wmd,↓wk,↓wl,nq,evV,↓reduceIte,sevalprocAttr]
 refine evTs_pure hFn H (fun _ h=>f79_ok h) (by rfl) (by rfl) (by rfl) (by rfl) (fun _=>rfl) ?_<;>clear H<;>intro x7 H
 try simp only[eL,wm,wmd,↓wk,↓wl,nq,evV,↓reduceIte,sevalprocAttr]
 refine AW.ret ?_
 cases H
 exact hQ _ _ _ _ (.inr rfl) (by simp only[resVs,omap,resV,wm,wmd,↓wk,↓wl,nq,evV,↓reduceIte,sevalprocAttr];rfl) (hand_plain (by rfl)) (by first | exact Or.inl rfl | exact Or.inr rfl)
def c141_0:C:=.cond (.t 3) (.seq (.reg [iI 2 (.mv (.c (.str [1])))]) .ret) (.skip)
def c141_1:C:=.seq (.reg [iI 2 (.mv (.c (.str [0])))]) .ret
def c141_2:C:=.seq (.seq (.reg [iI 3 (.mv (.t 0))]) c141_0) c141_1
def ir141:C:=.seq (.reg [iI 2 (.mv (.c (.str [])))]) c141_2
theorem fd141:fd? Tryz.prog 141=some (4,[.slot 2],ir141):=by kernel_rfl
noncomputable def f141(x0:Bool):Option ((List UInt8)) :=
  (if x0=true then (some [1]) else (some [0]))
theorem f141_ok{x0:Bool}{r_:(List UInt8)}(H:f141 x0=some r_):Pure Tryz.prog 141 [.bool x0] (· = .str r_):=by
 refine Pure.walk3 fd141 none (Nat.le_of_ble_eq_true rfl) (by rfl) fun Q hQ=>?_
 simp only[f141] at H
 refine AW.rseq ?_
 try simp only[wm,wmd,↓wk,↓wl,nq,evV,↓reduceIte,sevalprocAttr]
 refine AW.sseq ?_
 refine AW.rseq ?_
 try simp only[wm,wmd,↓wk,↓wl,nq,evV,↓reduceIte,sevalprocAttr]
 refine AW.ifc H (by rfl) ?_ ?_<;>clear H<;>intro H
 ·refine AW.rseq ?_
  try simp only[wm,wmd,↓wk,↓wl,nq,evV,↓reduceIte,sevalprocAttr]
  refine AW.ret ?_
  refine seqQ.ret ?_
  cases H
  exact hQ _ _ _ _ (.inr rfl) (by simp only[resVs,omap,resV,wm,wmd,↓wk,↓wl,nq,evV,↓reduceIte,sevalprocAttr];rfl) (hand_plain (by rfl)) (by first | exact Or.inl rfl | exact Or.inr rfl)
 ·refine AW.skip ?_
  refine seqQ.norm ?_
  refine AW.rseq ?_
  try simp only[wm,wmd,↓wk,↓wl,nq,evV,↓reduceIte,sevalprocAttr]
  refine AW.ret ?_
  cases H
  exact hQ _ _ _ _ (.inr rfl) (by simp only[resVs,omap,resV,wm,wmd,↓wk,↓wl,nq,evV,↓reduceIte,sevalprocAttr];rfl) (hand_plain (by rfl)) (by first | exact Or.inl rfl | exact Or.inr rfl)
def c140_0:C:=.seq (.reg [iI 3 (.mv (.t 0)),iI 4 (.nilchk (.t 3)),iI 5 (.faddr 6 (.t 4)),iI 6 (.load 0 (.t 5)),iI 7 (.call (.c (.fn 141 [])) [(.t 6)]),iI 2 (.mv (.t 7))]) .ret
def ir140:C:=.seq (.reg [iI 2 (.mv (.c (.str [])))]) c140_0
theorem fd140:fd? Tryz.prog 140=some (8,[.slot 2],ir140):=by kernel_rfl
noncomputable def f140p(x0:Int)(x1:Int)(x2:Int)(x3:(List UInt8))(x4:Int)(x5:Bool)(x6:Bool):Option ((List UInt8)) :=
  (f141 x6).bind fun x7=>(some x7)
theorem f140p_ok{x0:Int}{x1:Int}{x2:Int}{x3:(List UInt8)}{x4:Int}{x5:Bool}{x6:Bool}{r_:(List UInt8)}(H:f140p x0 x1 x2 x3 x4 x5 x6=some r_):Pure Tryz.prog 140 [.pro [.int .u64 x0,.int .i64 x1,.int .i64 x2,.str x3,.int .i64 x4,.bool x5,.bool x6]] (· = .str r_):=by
 refine Pure.walk3 fd140 none (Nat.le_of_ble_eq_true rfl) (by rfl) fun Q hQ=>?_
 simp only[f140p] at H
 refine AW.rseq ?_
 try simp only[wm,wmd,↓wk,↓wl,nq,evV,↓reduceIte,sevalprocAttr]
 refine AW.rseq ?_
 try simp only[wm,wmd,↓wk,↓wl,nq,evV,↓reduceIte,sevalprocAttr]
 refine evTs_pure hFn H (fun _ h=>f141_ok h) (by rfl) (by rfl) (by rfl) (by rfl) (fun _=>rfl) ?_<;>clear H<;>intro x7 H
 try simp only[eL,wm,wmd,↓wk,↓wl,nq,evV,↓reduceIte,sevalprocAttr]
 refine AW.ret ?_
 cases H
 exact hQ _ _ _ _ (.inr rfl) (by simp only[resVs,omap,resV,wm,wmd,↓wk,↓wl,nq,evV,↓reduceIte,sevalprocAttr];rfl) (hand_plain (by rfl)) (by first | exact Or.inl rfl | exact Or.inr rfl)
def c80_0:C:=.cond (.t 16) (.seq (.reg [iI 4 (.mv (.c (.str []))),iI 5 (.mv (.c (.int .i64 1)))]) .ret) (.skip)
def c80_1:C:=.cond (.t 13) (.seq (.reg [iI 4 (.mv (.c (.str []))),iI 5 (.mv (.c (.int .i64 0)))]) .ret) (.seq (.reg [iI 17 (.faddr 1 (.t 6)),iI 18 (.load 0 (.t 17)),iI 19 (.eqs false [9] (.t 18) (.c .nilfn)),iI 16 (.mv (.t 19))]) c80_0)
def c80_2:C:=.seq (.reg [iI 20 (.faddr 1 (.t 6)),iI 21 (.load 0 (.t 20)),iI 22 (.mv (.t 0)),iI 23 (.call (.t 21) [(.t 22)]),iI 4 (.mv (.t 23)),iI 5 (.mv (.c (.int .i64 (-1))))]) .ret
def c80_3:C:=.seq (.block 0 (.seq (.reg [iI 14 (.mv (.t 7)),iI 15 (.un .not (.t 14)),iI 13 (.mv (.t 15))]) c80_1)) c80_2
def c80_4:C:=.seq (.reg [iI 9 (.mv (.t 1)),iI 10 (.call (.c (.fn 120 [])) [(.t 9)]),iI 8 (.mv (.t 10)),iI 11 (.ext (.t 8) 0),iI 12 (.ext (.t 8) 1),iI 6 (.alloc [(1,(.int .i64 0)),(1,.nilfn),(1,(.int .i64 0)),(1,.nilfn)]),iN (.store 4 (.t 6) (.t 11)),iI 7 (.mv (.t 12))]) c80_3
def ir80:C:=.seq (.reg [iI 4 (.mv (.c (.str []))),iI 5 (.mv (.c (.int .i64 0)))]) c80_4
theorem fd80:fd? Tryz.prog 80=some (24,[.slot 4,.slot 5],ir80):=by kernel_rfl
noncomputable def f80p(x0:Int)(x1:Int)(x2:Int)(x3:(List UInt8))(x4:Int)(x5:Bool)(x6:Bool)(x7:Int):Option ((List UInt8)×Int) :=
  (f120 x7).bind fun x8=>(if decide (x8=0)=true then (f133p x0 x1 x2 x3 x4 x5 x6).bind fun x9=>(some (x9,(-1))) else (if decide (x8=1)=true then (f134p x0 x1 x2 x3 x4 x5 x6).bind fun xa=>(some (xa,(-1))) else (if decide (x8=2)=true then (f135p x0 x1 x2 x3 x4 x5 x6).bind fun xb=>(some (xb,(-1))) else (if decide (x8=3)=true then (f137p x0 x1 x2 x3 x4 x5 x6).bind fun xc=>(some (xc,(-1))) else (if decide (x8=4)=true then (f139p x0 x1 x2 x3 x4 x5 x6).bind fun xd=>(some (xd,(-1))) else (if decide (x8=5)=true then (f140p x0 x1 x2 x3 x4 x5 x6).bind fun xe=>(some (xe,(-1))) else (if decide (x8=6)=true then (some ([],1)) else (some ([],0)))))))))
theorem f80p_ok{x0:Int}{x1:Int}{x2:Int}{x3:(List UInt8)}{x4:Int}{x5:Bool}{x6:Bool}{x7:Int}{r_:(List UInt8)×Int}(H:f80p x0 x1 x2 x3 x4 x5 x6 x7=some r_):Pure Tryz.prog 80 [.pro [.int .u64 x0,.int .i64 x1,.int .i64 x2,.str x3,.int .i64 x4,.bool x5,.bool x6],.int .i64 x7] (· = .tup [.str r_.1,.int .i64 r_.2]):=by
 refine Pure.walk3 fd80 none (Nat.le_of_ble_eq_true rfl) (by rfl) fun Q hQ=>?_
 simp only[f80p] at H
 refine AW.rseq ?_
 try simp only[wm,wmd,↓wk,↓wl,nq,evV,↓reduceIte,sevalprocAttr]
 refine AW.rseq ?_
 try simp only[wm,wmd,↓wk,↓wl,nq,evV,↓reduceIte,sevalprocAttr]
 refine evTs_pure hFn H (fun _ h=>f120_ok h) (by rfl) (by rfl) (by rfl) (by rfl) (fun _=>f120vp _ _) ?_<;>clear H<;>intro x8 H
 replace H:=selN H
 rcases H with ⟨hi_1005_0,H⟩ | ⟨hi_1005_0,H⟩
 ·subst hi_1005_0
  rw[f120v0]
  try simp only[wm,wmd,↓wk,↓wl,nq,evV,↓reduceIte,sevalprocAttr]
  refine AW.bseq ?_
  refine AW.rseq ?_
  try simp only[wm,wmd,↓wk,↓wl,nq,evV,↓reduceIte,sevalprocAttr]
  refine AW.iff (by rfl) ?_
  refine AW.rseq ?_
  try simp only[wm,wmd,↓wk,↓wl,nq,evV,↓reduceIte,sevalprocAttr]
  refine rest_eqs (by rfl) ?_
  try simp only[wm,wmd,↓wk,↓wl,nq,evV,↓reduceIte,sevalprocAttr]
  refine AW.iff (by rfl) ?_
  refine AW.skip ?_
  refine blkQ.norm ?_
  refine AW.rseq ?_
  try simp only[wm,wmd,↓wk,↓wl,nq,evV,↓reduceIte,sevalprocAttr]
  refine evTs_pure hFn H (fun _ h=>f133p_ok h) (by rfl) (by rfl) (by rfl) (by rfl) (fun _=>rfl) ?_<;>clear H<;>intro x9 H
  try simp only[eL,wm,wmd,↓wk,↓wl,nq,evV,↓reduceIte,sevalprocAttr]
  refine AW.ret ?_
  cases H
  exact hQ _ _ _ _ (.inr rfl) (by simp only[resVs,omap,resV,wm,wmd,↓wk,↓wl,nq,evV,↓reduceIte,sevalprocAttr];rfl) (hand_plain (by rfl)) (by first | exact Or.inl rfl | exact Or.inr rfl)
 ·replace H:=selN H
  rcases H with ⟨hi_1005_1,H⟩ | ⟨hi_1005_1,H⟩
  ·subst hi_1005_1
   rw[f120v1]
   try simp only[wm,wmd,↓wk,↓wl,nq,evV,↓reduceIte,sevalprocAttr]
   refine AW.bseq ?_
   refine AW.rseq ?_
   try simp only[wm,wmd,↓wk,↓wl,nq,evV,↓reduceIte,sevalprocAttr]
   refine AW.iff (by rfl) ?_
   refine AW.rseq ?_
   try simp only[wm,wmd,↓wk,↓wl,nq,evV,↓reduceIte,sevalprocAttr]
   refine rest_eqs (by rfl) ?_
   try simp only[wm,wmd,↓wk,↓wl,nq,evV,↓reduceIte,sevalprocAttr]
   refine AW.iff (by rfl) ?_
   refine AW.skip ?_
   refine blkQ.norm ?_
   refine AW.rseq ?_
   try simp only[wm,wmd,↓wk,↓wl,nq,evV,↓reduceIte,sevalprocAttr]
   refine evTs_pure hFn H (fun _ h=>f134p_ok h) (by rfl) (by rfl) (by rfl) (by rfl) (fun _=>rfl) ?_<;>clear H<;>intro xa H
   try simp only[eL,wm,wmd,↓wk,↓wl,nq,evV,↓reduceIte,sevalprocAttr]
   refine AW.ret ?_
   cases H
   exact hQ _ _ _ _ (.inr rfl) (by simp only[resVs,omap,resV,wm,wmd,↓wk,↓wl,nq,evV,↓reduceIte,sevalprocAttr];rfl) (hand_plain (by rfl)) (by first | exact Or.inl rfl | exact Or.inr rfl)
  ·replace H:=selN H
   rcases H with ⟨hi_1005_2,H⟩ | ⟨hi_1005_2,H⟩
   ·subst hi_1005_2
    rw[f120v2]
    try simp only[wm,wmd,↓wk,↓wl,nq,evV,↓reduceIte,sevalprocAttr]
    refine AW.bseq ?_
    refine AW.rseq ?_
    try simp only[wm,wmd,↓wk,↓wl,nq,evV,↓reduceIte,sevalprocAttr]
    refine AW.iff (by rfl) ?_
    refine AW.rseq ?_
    try simp only[wm,wmd,↓wk,↓wl,nq,evV,↓reduceIte,sevalprocAttr]
    refine rest_eqs (by rfl) ?_
    try simp only[wm,wmd,↓wk,↓wl,nq,evV,↓reduceIte,sevalprocAttr]
    refine AW.iff (by rfl) ?_
    refine AW.skip ?_
    refine blkQ.norm ?_
    refine AW.rseq ?_
    try simp only[wm,wmd,↓wk,↓wl,nq,evV,↓reduceIte,sevalprocAttr]
    refine evTs_pure hFn H (fun _ h=>f135p_ok h) (by rfl) (by rfl) (by rfl) (by rfl) (fun _=>rfl) ?_<;>clear H<;>intro xb H
    try simp only[eL,wm,wmd,↓wk,↓wl,nq,evV,↓reduceIte,sevalprocAttr]
    refine AW.ret ?_
    cases H
    exact hQ _ _ _ _ (.inr rfl) (by simp only[resVs,omap,resV,wm,wmd,↓wk,↓wl,nq,evV,↓reduceIte,sevalprocAttr];rfl) (hand_plain (by rfl)) (by first | exact Or.inl rfl | exact Or.inr rfl)
   ·replace H:=selN H
    rcases H with ⟨hi_1005_3,H⟩ | ⟨hi_1005_3,H⟩
    ·subst hi_1005_3
     rw[f120v3]
     try simp only[wm,wmd,↓wk,↓wl,nq,evV,↓reduceIte,sevalprocAttr]
     refine AW.bseq ?_
     refine AW.rseq ?_
     try simp only[wm,wmd,↓wk,↓wl,nq,evV,↓reduceIte,sevalprocAttr]
     refine AW.iff (by rfl) ?_
     refine AW.rseq ?_
     try simp only[wm,wmd,↓wk,↓wl,nq,evV,↓reduceIte,sevalprocAttr]
     refine rest_eqs (by rfl) ?_
     try simp only[wm,wmd,↓wk,↓wl,nq,evV,↓reduceIte,sevalprocAttr]
     refine AW.iff (by rfl) ?_
     refine AW.skip ?_
     refine blkQ.norm ?_
     refine AW.rseq ?_
     try simp only[wm,wmd,↓wk,↓wl,nq,evV,↓reduceIte,sevalprocAttr]
     refine evTs_pure hFn H (fun _ h=>f137p_ok h) (by rfl) (by rfl) (by rfl) (by rfl) (fun _=>rfl) ?_<;>clear H<;>intro xc H
     try simp only[eL,wm,wmd,↓wk,↓wl,nq,evV,↓reduceIte,sevalprocAttr]
     refine AW.ret ?_
     cases H
     exact hQ _ _ _ _ (.inr rfl) (by simp only[resVs,omap,resV,wm,wmd,↓wk,↓wl,nq,evV,↓reduceIte,sevalprocAttr];rfl) (hand_plain (by rfl)) (by first | exact Or.inl rfl | exact Or.inr rfl)
    ·replace H:=selN H
     rcases H with ⟨hi_1005_4,H⟩ | ⟨hi_1005_4,H⟩
     ·subst hi_1005_4
      rw[f120v4]
      try simp only[wm,wmd,↓wk,↓wl,nq,evV,↓reduceIte,sevalprocAttr]
      refine AW.bseq ?_
      refine AW.rseq ?_
      try simp only[wm,wmd,↓wk,↓wl,nq,evV,↓reduceIte,sevalprocAttr]
      refine AW.iff (by rfl) ?_
      refine AW.rseq ?_
      try simp only[wm,wmd,↓wk,↓wl,nq,evV,↓reduceIte,sevalprocAttr]
      refine rest_eqs (by rfl) ?_
      try simp only[wm,wmd,↓wk,↓wl,nq,evV,↓reduceIte,sevalprocAttr]
      refine AW.iff (by rfl) ?_
      refine AW.skip ?_
      refine blkQ.norm ?_
      refine AW.rseq ?_
      try simp only[wm,wmd,↓wk,↓wl,nq,evV,↓reduceIte,sevalprocAttr]
      refine evTs_pure hFn H (fun _ h=>f139p_ok h) (by rfl) (by rfl) (by rfl) (by rfl) (fun _=>rfl) ?_<;>clear H<;>intro xd H
      try simp only[eL,wm,wmd,↓wk,↓wl,nq,evV,↓reduceIte,sevalprocAttr]
      refine AW.ret ?_
      cases H
      exact hQ _ _ _ _ (.inr rfl) (by simp only[resVs,omap,resV,wm,wmd,↓wk,↓wl,nq,evV,↓reduceIte,sevalprocAttr];rfl) (hand_plain (by rfl)) (by first | exact Or.inl rfl | exact Or.inr rfl)
     ·replace H:=selN H
      rcases H with ⟨hi_1005_5,H⟩ | ⟨hi_1005_5,H⟩
      ·subst hi_1005_5
       rw[f120v5]
       try simp only[wm,wmd,↓wk,↓wl,nq,evV,↓reduceIte,sevalprocAttr]
       refine AW.bseq ?_
       refine AW.rseq ?_
       try simp only[wm,wmd,↓wk,↓wl,nq,evV,↓reduceIte,sevalprocAttr]
       refine AW.iff (by rfl) ?_
       refine AW.rseq ?_
       try simp only[wm,wmd,↓wk,↓wl,nq,evV,↓reduceIte,sevalprocAttr]
       refine rest_eqs (by rfl) ?_
       try simp only[wm,wmd,↓wk,↓wl,nq,evV,↓reduceIte,sevalprocAttr]
       refine AW.iff (by rfl) ?_
       refine AW.skip ?_
       refine blkQ.norm ?_
       refine AW.rseq ?_
       try simp only[wm,wmd,↓wk,↓wl,nq,evV,↓reduceIte,sevalprocAttr]
       refine evTs_pure hFn H (fun _ h=>f140p_ok h) (by rfl) (by rfl) (by rfl) (by rfl) (fun _=>rfl) ?_<;>clear H<;>intro xe H
       try simp only[eL,wm,wmd,↓wk,↓wl,nq,evV,↓reduceIte,sevalprocAttr]
       refine AW.ret ?_
       cases H
       exact hQ _ _ _ _ (.inr rfl) (by simp only[resVs,omap,resV,wm,wmd,↓wk,↓wl,nq,evV,↓reduceIte,sevalprocAttr];rfl) (hand_plain (by rfl)) (by first | exact Or.inl rfl | exact Or.inr rfl)
      ·replace H:=selN H
       rcases H with ⟨hi_1005_6,H⟩ | ⟨hi_1005_6,H⟩
       ·subst hi_1005_6
        rw[f120v6]
        try simp only[wm,wmd,↓wk,↓wl,nq,evV,↓reduceIte,sevalprocAttr]
        refine AW.bseq ?_
        refine AW.rseq ?_
        try simp only[wm,wmd,↓wk,↓wl,nq,evV,↓reduceIte,sevalprocAttr]
        refine AW.iff (by rfl) ?_
        refine AW.rseq ?_
        try simp only[wm,wmd,↓wk,↓wl,nq,evV,↓reduceIte,sevalprocAttr]
        refine rest_eqs (by rfl) ?_
        try simp only[wm,wmd,↓wk,↓wl,nq,evV,↓reduceIte,sevalprocAttr]
        refine AW.ift (by rfl) ?_
        refine AW.rseq ?_
        try simp only[wm,wmd,↓wk,↓wl,nq,evV,↓reduceIte,sevalprocAttr]
        refine AW.ret ?_
        refine blkQ.ret ?_
        cases H
        exact hQ _ _ _ _ (.inr rfl) (by simp only[resVs,omap,resV,wm,wmd,↓wk,↓wl,nq,evV,↓reduceIte,sevalprocAttr];rfl) (hand_plain (by rfl)) (by first | exact Or.inl rfl | exact Or.inr rfl)
       ·rw[f120vl hi_1005_0 hi_1005_1 hi_1005_2 hi_1005_3 hi_1005_4 hi_1005_5 hi_1005_6]
        try simp only[wm,wmd,↓wk,↓wl,nq,evV,↓reduceIte,sevalprocAttr]
        refine AW.bseq ?_
        refine AW.rseq ?_
        try simp only[wm,wmd,↓wk,↓wl,nq,evV,↓reduceIte,sevalprocAttr]
        refine AW.ift (by rfl) ?_
        refine AW.rseq ?_
        try simp only[wm,wmd,↓wk,↓wl,nq,evV,↓reduceIte,sevalprocAttr]
        refine AW.ret ?_
        refine blkQ.ret ?_
        cases H
        exact hQ _ _ _ _ (.inr rfl) (by simp only[resVs,omap,resV,wm,wmd,↓wk,↓wl,nq,evV,↓reduceIte,sevalprocAttr];rfl) (hand_plain (by rfl)) (by first | exact Or.inl rfl | exact Or.inr rfl)
noncomputable def f83_L1(x0:(List Int))(x1:Int)(x2:Int):Lp (Int×(List Int)) ((List Int)) where
  body:=fun (x3,x4)=>(if (decide (x3<((x0.length:Nat):Int)))=true then (must? (0≤(IntKind.i64.wrap (8 * (IntKind.i64.wrap ((IntKind.i64.wrap (x1 - 1)) - x3)))))).bind fun _=>(at? x4 x3).bind fun x5=>(some (.next ((IntKind.i64.wrap (x3 + 1)),(x4.set x3.toNat (IntKind.u8.wrap (Int.fdiv x2 (2 ^ (min (Int.toNat (IntKind.i64.wrap (8 * (IntKind.i64.wrap ((IntKind.i64.wrap (x1 - 1)) - x3))))) (IntKind.bits .u64))))))))) else (some (.brk x4)))
  cst:=fun (x3,x4)=>⟨put (put (put (put (put (fun _=>.junk) 11 (.int .i64 x3)) 10 (.int .i64 ((x0.length:Nat):Int))) 5 (.row 0 0 0 x4.length)) 1 (.int .i64 x1)) 0 (.int .u64 x2),[.els 0 (x4.map (AV.int .u8))]⟩
theorem f83_L1c(x0:(List Int))(x1:Int)(x2:Int)(x3:Int)(x4:(List Int)):(f83_L1 x0 x1 x2).cst (x3,x4)=⟨put (put (put (put (put (fun _=>.junk) 11 (.int .i64 x3)) 10 (.int .i64 ((x0.length:Nat):Int))) 5 (.row 0 0 0 x4.length)) 1 (.int .i64 x1)) 0 (.int .u64 x2),[.els 0 (x4.map (AV.int .u8))]⟩:=rfl
def c83_0:C:=.reg [iI 14 (.mv (.t 5)),iI 15 (.mv (.t 6)),iI 16 (.mv (.t 0)),iI 17 (.mv (.t 1)),iI 18 (.bin .sub (.t 17) (.c (.int .i64 1))),iI 19 (.mv (.t 6)),iI 20 (.bin .sub (.t 18) (.t 19)),iI 21 (.bin .mul (.c (.int .i64 8)) (.t 20)),iI 22 (.bin .shr (.t 16) (.t 21)),iI 23 (.cint .u8 (.t 22)),iI 24 (.iaddr 0 (.t 14) (.t 15)),iN (.store 0 (.t 24) (.t 23))]
def c83_1:C:=.reg [iI 25 (.bin .add (.t 11) (.c (.int .i64 1))),iI 11 (.mv (.t 25))]
def c83_2:C:=.seq (.block 1 (.seq (.reg [iI 13 (.mv (.t 11)),iI 6 (.mv (.t 13))]) c83_0)) c83_1
def c83_3:C:=.seq (.cond (.t 12) (.skip) (.exit 0)) c83_2
def c83_4:C:=.block 0 (.loop (.seq (.reg [iI 12 (.bin .lss (.t 11) (.t 10))]) c83_3))
def c83_5:C:=.seq (.reg [iI 26 (.mv (.t 5)),iI 27 (.cstr (.t 26)),iI 4 (.mv (.t 27))]) .ret
def c83_6:C:=.seq (.seq (.reg [iI 9 (.mv (.t 5)),iI 10 (.len 0 (.t 9)),iI 11 (.mv (.c (.int .i64 0)))]) c83_4) c83_5
def c83_7:C:=.seq (.reg [iI 7 (.mv (.t 1)),iI 8 (.appz 0 1 (.int .u8 0) (.c (.sl 0 true [])) (.t 7)),iI 5 (.mv (.t 8))]) c83_6
def ir83:C:=.seq (.reg [iI 4 (.mv (.c (.str [])))]) c83_7
theorem fd83:fd? Tryz.prog 83=some (28,[.slot 4],ir83):=by kernel_rfl
noncomputable def f83(x0:Int)(x1:Int):Option ((List UInt8)) :=
  (mkv? x1 1 (0:Int)).bind fun x2=>(Lp.run (f83_L1 x2 x1 x0) (0,x2)).bind fun x3=>(some (x3.map b8))
theorem f83_ok{x0:Int}{x1:Int}{r_:(List UInt8)}(H:f83 x0 x1=some r_):Pure Tryz.prog 83 [.int .u64 x0,.int .i64 x1] (· = .str r_):=by
 refine Pure.walk3 fd83 none (Nat.le_of_ble_eq_true rfl) (by rfl) fun Q hQ=>?_
 simp only[f83] at H
 refine AW.rseq ?_
 try simp only[wm,wmd,↓wk,↓wl,nqs,evV,↓reduceIte,sevalprocAttr]
 refine AW.rseq ?_
 try simp only[wm,wmd,↓wk,↓wl,nqs,evV,↓reduceIte,sevalprocAttr]
 refine evTs_mkv (enc:=(AV.int .u8)) H (by rfl) (by rfl) ?_<;>clear H<;>intro x2 H
 try simp only[wm,wmd,↓wk,↓wl,nqs,evV,↓reduceIte,sevalprocAttr]
 refine AW.sseq ?_
 refine AW.rseq ?_
 try simp only[wm,wmd,↓wk,↓wl,nqs,evV,↓reduceIte,sevalprocAttr]
 refine AW.bend ?_
 refine AW.iter H ((Le.tz [0] [0,1,5,10,11] (by simp only[f83_L1c,wm,wmr,rrm,↓wk,↓wl,evV,↓reduceIte,sevalprocAttr]<;>rfl))) ?_<;>clear H
 rintro ⟨x3,x4⟩ x_ st0_ H hst_
 rw[f83_L1c] at hst_
 simp only[f83_L1] at H
 subst hst_
 refine AW.rseq ?_
 try simp only[wm,wmd,↓wk,↓wl,nqs,evV,↓reduceIte,sevalprocAttr]
 refine AW.sseq ?_
 refine AW.ifc H (by rfl) ?_ ?_<;>clear H<;>intro H
 ·refine AW.skip ?_
  refine seqQ.norm ?_
  refine AW.bseq ?_
  refine AW.rseq ?_
  try simp only[wm,wmd,↓wk,↓wl,nqs,evV,↓reduceIte,sevalprocAttr]
  refine AW.rend ?_
  try simp only[wm,wmd,↓wk,↓wl,nqs,evV,↓reduceIte,sevalprocAttr]
  refine rest_shrv H ?_<;>clear H<;>intro H
  try simp only[wm,wmd,↓wk,↓wl,nqs,evV,↓reduceIte,sevalprocAttr]
  refine evTs_atr (enc:=(AV.int .u8)) H (by rfl) (by first | rfl | simp only[List.length_set]) (by rfl) ?_<;>clear H<;>intro x5 x6 H
  try simp only[wm,wmd,↓wk,↓wl,nqs,evV,↓reduceIte,sevalprocAttr,x6]
  refine evTs_stW (enc:=(AV.int .u8)) (IntKind.u8.wrap (Int.fdiv x0 (2 ^ (min (Int.toNat (IntKind.i64.wrap (8 * (IntKind.i64.wrap ((IntKind.i64.wrap (x1 - 1)) - x3))))) (IntKind.bits .u64))))) (by rfl) (by rfl) (by first | exact lt_map x6 | (simp only[List.length_set];exact lt_map x6)) (fun _=>by rfl) ?_
  have x7:=set_get x6 (IntKind.u8.wrap (Int.fdiv x0 (2 ^ (min (Int.toNat (IntKind.i64.wrap (8 * (IntKind.i64.wrap ((IntKind.i64.wrap (x1 - 1)) - x3))))) (IntKind.bits .u64)))))
  try simp only[wm,wmd,↓wk,↓wl,nqs,evV,↓reduceIte,sevalprocAttr,x6,x7]
  refine blkQ.norm ?_
  refine AW.rend ?_
  try simp only[wm,wmd,↓wk,↓wl,nqs,evV,↓reduceIte,sevalprocAttr,x6,x7]
  exact loopQ.next H ((Le.tz [0] [0,1,5,10,11] (by simp only[f83_L1c,wm,wmr,rrm,↓wk,↓wl,evV,↓reduceIte,sevalprocAttr,x6,x7]<;>rfl)))
 ·refine AW.exit ?_
  refine seqQ.exit ?_
  refine loopQ.exit H ?_<;>clear H<;>intro H
  try dsimp only at H
  refine blk0.here ?_
  refine seqQ.norm ?_
  refine AW.rseq ?_
  try simp only[wm,wmd,↓wk,↓wl,nqs,evV,↓reduceIte,sevalprocAttr]
  refine evTs_cstrr (xs:=x4) (by rfl) (by rfl) (by rfl) ?_
  try simp only[wm,wmd,↓wk,↓wl,nqs,evV,↓reduceIte,sevalprocAttr]
  refine AW.ret ?_
  cases H
  exact hQ _ _ _ _ (.inr rfl) (by simp only[resVs,omap,resV,wm,wmd,↓wk,↓wl,nqs,evV,↓reduceIte,sevalprocAttr];rfl) (hand_plain (by rfl)) (by first | exact Or.inl rfl | exact Or.inr rfl)
def c82_0:C:=.cond (.t 12) (.seq (.reg [iI 13 (.build [(1,(.int .u64 0)),(1,(.int .u64 0)),(1,(.int .i64 0)),(1,(.int .i64 0)),(1,(.int .i64 0)),(1,(.str []))] []),iI 14 (.mv (.t 8)),iN (.store 6 (.t 6) (.t 13)),iI 7 (.mv (.t 14))]) .ret) (.skip)
def c82_1:C:=.seq (.reg [iI 11 (.mv (.t 8)),iI 12 (.bin .neq (.t 11) (.c (.int .i64 0)))]) c82_0
def c82_2:C:=.cond (.t 20) (.seq (.reg [iI 21 (.build [(1,(.int .u64 0)),(1,(.int .u64 0)),(1,(.int .i64 0)),(1,(.int .i64 0)),(1,(.int .i64 0)),(1,(.str []))] []),iN (.store 6 (.t 6) (.t 21)),iI 7 (.mv (.c (.int .i64 2)))]) .ret) (.skip)
def c82_3:C:=.seq (.regq [iI 22 (.faddr 1 (.t 3)),iI 23 (.load 0 (.t 22)),iI 24 (.mv (.t 1)),iI 25 (.faddr 2 (.t 3)),iI 26 (.load 0 (.t 25)),iI 27 (.faddr 4 (.t 3)),iI 28 (.load 0 (.t 27)),iI 29 (.mv (.t 2)),iI 30 (.cint .u64 (.t 29)),iI 31 (.call (.c (.fn 83 [])) [(.t 30),(.c (.int .i64 1))]),iI 32 (.build [(1,(.int .u64 0)),(1,(.int .u64 0)),(1,(.int .i64 0)),(1,(.int .i64 0)),(1,(.int .i64 0)),(1,(.str []))] [(0,0,(.t 23)),(1,0,(.t 24)),(2,0,(.t 26)),(3,0,(.c (.int .i64 7))),(4,0,(.t 28)),(5,0,(.t 31))]),iI 33 (.call (.c (.fn 84 [])) [(.t 32)]),iI 34 (.ext (.t 33) 0),iI 35 (.ext (.t 33) 1),iN (.store 6 (.t 6) (.t 34)),iI 7 (.mv (.t 35))]) .ret
def c82_4:C:=.seq (.seq (.reg [iI 15 (.mv (.t 2)),iI 16 (.bin .lss (.t 15) (.c (.int .i64 0))),iI 17 (.mv (.t 16)),iG (some 18) 17 false (.mv (.t 2)),iG (some 19) 17 false (.bin .gtr (.t 18) (.c (.int .i64 255))),iI 20 (.pick (.t 17) (.c (.bool true)) (.t 19))]) c82_2) c82_3
def c82_5:C:=.seq (.seq (.reg [iI 9 (.load 6 (.t 3)),iI 10 (.call (.c (.fn 119 [])) [(.t 9)]),iI 8 (.mv (.t 10))]) c82_1) c82_4
def ir82:C:=.seq (.reg [iI 3 (.box (.t 0)),iI 6 (.alloc [(1,(.int .u64 0)),(1,(.int .u64 0)),(1,(.int .i64 0)),(1,(.int .i64 0)),(1,(.int .i64 0)),(1,(.str []))]),iI 7 (.mv (.c (.int .i64 0)))]) c82_5
theorem fd82:fd? Tryz.prog 82=some (36,[.cell 6 6,.slot 7],ir82):=by kernel_rfl
noncomputable def f82(x0:ApiMessage)(x1:Int)(x2:Int):Option (ApiMessage×Int) :=
  (f119 x0).bind fun x3=>(if (decide (x3≠0))=true then (some ((ApiMessage.mk 0 0 0 0 0 ([])),x3)) else (if (decide (x2<0))=true then (some ((ApiMessage.mk 0 0 0 0 0 ([])),2)) else (if (decide (255<x2))=true then (some ((ApiMessage.mk 0 0 0 0 0 ([])),2)) else (f83 (IntKind.u64.wrap x2) 1).bind fun x4=>(f84 (ApiMessage.mk x0.fFrom x1 x0.fSeq 7 x0.fParam x4)).bind fun x5=>(some (x5.1,x5.2)))))
theorem f82_ok{x0:ApiMessage}{x1:Int}{x2:Int}{r_:ApiMessage×Int}(H:f82 x0 x1 x2=some r_):Pure Tryz.prog 82 [.agg [.int .u64 x0.fTo,.int .u64 x0.fFrom,.int .i64 x0.fSeq,.int .i64 x0.fKind,.int .i64 x0.fParam,.str x0.fData],.int .u64 x1,.int .i64 x2] (· = .tup [.agg [.int .u64 r_.1.fTo,.int .u64 r_.1.fFrom,.int .i64 r_.1.fSeq,.int .i64 r_.1.fKind,.int .i64 r_.1.fParam,.str r_.1.fData],.int .i64 r_.2]):=by
 refine Pure.walk3 fd82 none (Nat.le_of_ble_eq_true rfl) (by rfl) fun Q hQ=>?_
 simp only[f82] at H
 refine AW.rseq ?_
 try simp only[wm,wmd,↓wk,↓wl,nq,evV,↓reduceIte,sevalprocAttr]
 refine AW.sseq ?_
 refine AW.rseq ?_
 try simp only[wm,wmd,↓wk,↓wl,nq,evV,↓reduceIte,sevalprocAttr]
 refine evTs_pure hFn H (fun _ h=>f119_ok h) (by rfl) (by rfl) (by rfl) (by rfl) (fun _=>rfl) ?_<;>clear H<;>intro x3 H
 try simp only[eL,wm,wmd,↓wk,↓wl,nq,evV,↓reduceIte,sevalprocAttr]
 refine AW.rseq ?_
 try simp only[wm,wmd,↓wk,↓wl,nq,evV,↓reduceIte,sevalprocAttr]
 refine AW.ifc H (by rfl) ?_ ?_<;>clear H<;>intro H
 ·refine AW.rseq ?_
  try simp only[wm,wmd,↓wk,↓wl,nq,evV,↓reduceIte,sevalprocAttr]
  refine AW.ret ?_
  refine seqQ.ret ?_
  cases H
  exact hQ _ _ _ _ (.inr rfl) (by simp only[resVs,omap,resV,wm,wmd,↓wk,↓wl,nq,evV,↓reduceIte,sevalprocAttr];rfl) (hand_plain (by rfl)) (by first | exact Or.inl rfl | exact Or.inr rfl)
 ·refine AW.skip ?_
  refine seqQ.norm ?_
  refine AW.sseq ?_
  refine AW.rseq ?_
  try simp only[wm,wmd,↓wk,↓wl,nq,evV,↓reduceIte,sevalprocAttr]
  refine evTs_ifg H (by rfl) ?_ ?_<;>clear H<;>intro H
  ·try simp only[wm,wmd,↓wk,↓wl,nq,evV,↓reduceIte,sevalprocAttr]
   refine AW.ift (by rfl) ?_
   refine AW.rseq ?_
   try simp only[wm,wmd,↓wk,↓wl,nq,evV,↓reduceIte,sevalprocAttr]
   refine AW.ret ?_
   refine seqQ.ret ?_
   cases H
   exact hQ _ _ _ _ (.inr rfl) (by simp only[resVs,omap,resV,wm,wmd,↓wk,↓wl,nq,evV,↓reduceIte,sevalprocAttr];rfl) (hand_plain (by rfl)) (by first | exact Or.inl rfl | exact Or.inr rfl)
  ·try simp only[wm,wmd,↓wk,↓wl,nq,evV,↓reduceIte,sevalprocAttr]
   refine AW.ifc H (by rfl) ?_ ?_<;>clear H<;>intro H
   ·refine AW.rseq ?_
    try simp only[wm,wmd,↓wk,↓wl,nq,evV,↓reduceIte,sevalprocAttr]
    refine AW.ret ?_
    refine seqQ.ret ?_
    cases H
    exact hQ _ _ _ _ (.inr rfl) (by simp only[resVs,omap,resV,wm,wmd,↓wk,↓wl,nq,evV,↓reduceIte,sevalprocAttr];rfl) (hand_plain (by rfl)) (by first | exact Or.inl rfl | exact Or.inr rfl)
   ·refine AW.skip ?_
    refine seqQ.norm ?_
    refine AW.rqseq ?_
    try simp only[wm,wmd,↓wk,↓wl,nq,evV,↓reduceIte,sevalprocAttr]
    refine evTs_pure hFnq H (fun _ h=>f83_ok h) (by rfl) (by rfl) (by rfl) (by rfl) (fun _=>rfl) ?_<;>clear H<;>intro x4 H
    try simp only[eL,wm,wmd,↓wk,↓wl,nq,evV,↓reduceIte,sevalprocAttr]
    refine evTs_pure hFnq H (fun _ h=>f84_ok h) (by rfl) (by rfl) (by rfl) (by rfl) (fun _=>rfl) ?_<;>clear H<;>intro x5 H
    try simp only[eL,eApiMessage,eM,wm,wmd,↓wk,↓wl,nq,evV,↓reduceIte,sevalprocAttr]
    refine AW.ret ?_
    cases H
    exact hQ _ _ _ _ (.inr rfl) (by simp only[resVs,omap,resV,wm,wmd,↓wk,↓wl,nq,evV,↓reduceIte,sevalprocAttr];rfl) (hand_plain (by rfl)) (by first | exact Or.inl rfl | exact Or.inr rfl)
def c49_0:C:=.cond (.t 36) (.seq (.reg [iI 37 (.build [(1,(.int .u64 0)),(1,(.int .u64 0)),(1,(.int .i64 0)),(1,(.int .i64 0)),(1,(.int .i64 0)),(1,(.str []))] []),iN (.store 6 (.t 4) (.t 37)),iI 5 (.mv (.c (.bool false)))]) .ret) (.skip)
def c49_1:C:=.cond (.t 67) (.seq (.reg [iI 68 (.build [(1,(.int .u64 0)),(1,(.int .u64 0)),(1,(.int .i64 0)),(1,(.int .i64 0)),(1,(.int .i64 0)),(1,(.str []))] []),iN (.store 6 (.t 4) (.t 68)),iI 5 (.mv (.c (.bool false)))]) .ret) (.skip)
def c49_2:C:=.seq (.reg [iI 83 (.load 6 (.t 11)),iI 84 (.mv (.t 12)),iI 85 (.bin .eql (.t 84) (.c (.int .i64 0))),iN (.store 6 (.t 4) (.t 83)),iI 5 (.mv (.t 85))]) .ret
def c49_3:C:=.seq (.regt (.fork [iI 70 (.load 6 (.t 3)),iI 71 (.mv (.t 0)),iI 72 (.nilchk (.t 71)),iI 73 (.faddr 0 (.t 72)),iI 74 (.load 0 (.t 73)),iI 75 (.mv (.t 0)),iI 76 (.nilchk (.t 75)),iI 77 (.faddr 0 (.t 76)),iI 78 (.load 0 (.t 77))] (.fork [iI 79 (.call (.c (.fn 79 [])) [(.t 78),(.c (.int .i64 6))])] (.run [iI 80 (.call (.c (.fn 78 [])) [(.t 70),(.t 74),(.t 79)]),iI 69 (.mv (.t 80)),iI 81 (.ext (.t 69) 0),iI 82 (.ext (.t 69) 1),iI 11 (.alloc [(1,(.int .u64 0)),(1,(.int .u64 0)),(1,(.int .i64 0)),(1,(.int .i64 0)),(1,(.int .i64 0)),(1,(.str []))]),iN (.store 6 (.t 11) (.t 81)),iI 12 (.mv (.t 82))]) (.run [iI 11 (.alloc [(1,(.int .u64 0)),(1,(.int .u64 0)),(1,(.int .i64 0)),(1,(.int .i64 0)),(1,(.int .i64 0)),(1,(.str []))]),iI 80 (.call (.c (.fn 78 [])) [(.t 70),(.t 74),(.t 79)]),iI 69 (.mv (.t 80)),iI 81 (.ext (.t 69) 0),iI 82 (.ext (.t 69) 1),iN (.store 6 (.t 11) (.t 81)),iI 12 (.mv (.t 82))])) (.run [iI 11 (.alloc [(1,(.int .u64 0)),(1,(.int .u64 0)),(1,(.int .i64 0)),(1,(.int .i64 0)),(1,(.int .i64 0)),(1,(.str []))]),iI 79 (.call (.c (.fn 79 [])) [(.t 78),(.c (.int .i64 6))]),iI 80 (.call (.c (.fn 78 [])) [(.t 70),(.t 74),(.t 79)]),iI 69 (.mv (.t 80)),iI 81 (.ext (.t 69) 0),iI 82 (.ext (.t 69) 1),iN (.store 6 (.t 11) (.t 81)),iI 12 (.mv (.t 82))]))) c49_2
def c49_4:C:=.seq (.seq (.reg [iI 48 (.mv (.t 0)),iI 49 (.nilchk (.t 48)),iI 50 (.faddr 5 (.t 49)),iI 51 (.load 0 (.t 50)),iI 52 (.mv (.t 51)),iG (some 53) 52 false (.mv (.t 0)),iG (some 54) 52 false (.nilchk (.t 53)),iG (some 55) 52 false (.faddr 0 (.t 54)),iG (some 56) 52 false (.load 0 (.t 55)),iG (some 57) 52 false (.mv (.t 8)),iG (some 58) 52 false (.bin .lss (.t 56) (.t 57)),iI 59 (.pick (.t 52) (.c (.bool true)) (.t 58)),iI 60 (.mv (.t 59)),iG (some 61) 60 false (.mv (.t 0)),iG (some 62) 60 false (.nilchk (.t 61)),iG (some 63) 60 false (.faddr 0 (.t 62)),iG (some 64) 60 false (.load 0 (.t 63)),iG (some 65) 60 false (.mv (.t 9)),iG (some 66) 60 false (.bin .gtr (.t 64) (.t 65)),iI 67 (.pick (.t 60) (.c (.bool true)) (.t 66))]) c49_1) c49_3
def c49_5:C:=.cond (.t 86) (.skip) (.reg [iI 88 (.bin .eql (.t 39) (.c (.int .i64 3))),iI 86 (.mv (.t 88))])
def c49_6:C:=.cond (.t 104) (.reg [iI 106 (.mv (.t 0)),iI 107 (.faddr 4 (.t 3)),iI 108 (.load 0 (.t 107)),iI 109 (.faddr 5 (.t 3)),iI 110 (.load 0 (.t 109)),iI 111 (.call (.c (.fn 81 [])) [(.t 106),(.t 108),(.t 110)]),iI 7 (.mv (.t 111))]) (.skip)
def c49_7:C:=.cond (.t 95) (.reg [iI 98 (.mv (.t 0)),iI 99 (.faddr 4 (.t 3)),iI 100 (.load 0 (.t 99)),iI 101 (.call (.c (.fn 80 [])) [(.t 98),(.t 100)]),iI 97 (.mv (.t 101)),iI 102 (.ext (.t 97) 0),iI 103 (.ext (.t 97) 1),iI 6 (.mv (.t 102)),iI 7 (.mv (.t 103))]) (.seq (.reg [iI 105 (.bin .eql (.t 39) (.c (.int .i64 5))),iI 104 (.mv (.t 105))]) c49_6)
def c49_8:C:=.cond (.t 86) (.reg [iI 89 (.mv (.t 0)),iI 90 (.faddr 3 (.t 3)),iI 91 (.load 0 (.t 90)),iI 92 (.bin .eql (.t 91) (.c (.int .i64 2))),iI 93 (.nilchk (.t 89)),iI 94 (.faddr 5 (.t 93)),iN (.store 0 (.t 94) (.t 92))]) (.seq (.reg [iI 96 (.bin .eql (.t 39) (.c (.int .i64 4))),iI 95 (.mv (.t 96))]) c49_7)
def c49_9:C:=.cond (.t 40) (.seq (.reg [iI 43 (.load 6 (.t 3)),iI 44 (.call (.c (.fn 77 [])) [(.t 43)]),iI 42 (.mv (.t 44)),iI 45 (.ext (.t 42) 0),iI 46 (.ext (.t 42) 1),iI 47 (.ext (.t 42) 2),iI 8 (.mv (.t 45)),iI 9 (.mv (.t 46)),iI 10 (.mv (.t 47))]) c49_4) (.seq (.seq (.reg [iI 87 (.bin .eql (.t 39) (.c (.int .i64 2))),iI 86 (.mv (.t 87))]) c49_5) c49_8)
def c49_10:C:=.block 0 (.seq (.reg [iI 41 (.bin .eql (.t 39) (.c (.int .i64 1))),iI 40 (.mv (.t 41))]) c49_9)
def c49_11:C:=.cond (.t 114) (.seq (.reg [iI 115 (.build [(1,(.int .u64 0)),(1,(.int .u64 0)),(1,(.int .i64 0)),(1,(.int .i64 0)),(1,(.int .i64 0)),(1,(.str []))] []),iN (.store 6 (.t 4) (.t 115)),iI 5 (.mv (.c (.bool false)))]) .ret) (.skip)
def c49_12:C:=.cond (.t 127) (.reg [iI 129 (.load 6 (.t 3)),iI 130 (.mv (.t 0)),iI 131 (.nilchk (.t 130)),iI 132 (.faddr 0 (.t 131)),iI 133 (.load 0 (.t 132)),iI 134 (.mv (.t 7)),iI 135 (.call (.c (.fn 82 [])) [(.t 129),(.t 133),(.t 134)]),iI 128 (.mv (.t 135)),iI 136 (.ext (.t 128) 0),iI 137 (.ext (.t 128) 1),iN (.store 6 (.t 13) (.t 136)),iI 14 (.mv (.t 137))]) (.skip)
def c49_13:C:=.seq (.reg [iI 138 (.load 6 (.t 13)),iI 139 (.mv (.t 14)),iI 140 (.bin .eql (.t 139) (.c (.int .i64 0))),iN (.store 6 (.t 4) (.t 138)),iI 5 (.mv (.t 140))]) .ret
def c49_14:C:=.seq (.seq (.reg [iI 126 (.mv (.t 7)),iI 127 (.bin .neq (.t 126) (.c (.int .i64 (-1))))]) c49_12) c49_13
def c49_15:C:=.seq (.regt (.fork [iI 117 (.load 6 (.t 3)),iI 118 (.mv (.t 0)),iI 119 (.nilchk (.t 118)),iI 120 (.faddr 0 (.t 119)),iI 121 (.load 0 (.t 120)),iI 122 (.mv (.t 6))] (.run [iI 123 (.call (.c (.fn 78 [])) [(.t 117),(.t 121),(.t 122)]),iI 116 (.mv (.t 123)),iI 124 (.ext (.t 116) 0),iI 125 (.ext (.t 116) 1),iI 13 (.alloc [(1,(.int .u64 0)),(1,(.int .u64 0)),(1,(.int .i64 0)),(1,(.int .i64 0)),(1,(.int .i64 0)),(1,(.str []))]),iN (.store 6 (.t 13) (.t 124)),iI 14 (.mv (.t 125))]) (.run [iI 13 (.alloc [(1,(.int .u64 0)),(1,(.int .u64 0)),(1,(.int .i64 0)),(1,(.int .i64 0)),(1,(.int .i64 0)),(1,(.str []))]),iI 123 (.call (.c (.fn 78 [])) [(.t 117),(.t 121),(.t 122)]),iI 116 (.mv (.t 123)),iI 124 (.ext (.t 116) 0),iI 125 (.ext (.t 116) 1),iN (.store 6 (.t 13) (.t 124)),iI 14 (.mv (.t 125))]))) c49_14
def c49_16:C:=.seq (.seq (.reg [iI 112 (.faddr 0 (.t 3)),iI 113 (.load 0 (.t 112)),iI 114 (.bin .eql (.t 113) (.c (.int .u64 281474976710655)))]) c49_11) c49_15
def c49_17:C:=.seq (.seq (.reg [iI 38 (.faddr 3 (.t 3)),iI 39 (.load 0 (.t 38))]) c49_10) c49_16
def c49_18:C:=.seq (.reg [iI 6 (.mv (.c (.str []))),iI 7 (.mv (.c (.int .i64 (-1))))]) c49_17
def c49_19:C:=.seq (.seq (.reg [iI 15 (.faddr 0 (.t 3)),iI 16 (.load 0 (.t 15)),iI 17 (.mv (.t 0)),iI 18 (.nilchk (.t 17)),iI 19 (.faddr 0 (.t 18)),iI 20 (.load 0 (.t 19)),iI 21 (.bin .neq (.t 16) (.t 20)),iI 22 (.mv (.t 21)),iG (some 23) 22 true (.faddr 0 (.t 3)),iG (some 24) 22 true (.load 0 (.t 23)),iG (some 25) 22 true (.bin .neq (.t 24) (.c (.int .u64 281474976710655))),iI 26 (.pick (.t 22) (.t 25) (.c (.bool false))),iI 27 (.mv (.t 26)),iG (some 28) 27 false (.faddr 3 (.t 3)),iG (some 29) 27 false (.load 0 (.t 28)),iG (some 30) 27 false (.bin .eql (.t 29) (.c (.int .i64 6))),iI 31 (.pick (.t 27) (.c (.bool true)) (.t 30)),iI 32 (.mv (.t 31)),iG (some 33) 32 false (.faddr 3 (.t 3)),iG (some 34) 32 false (.load 0 (.t 33)),iG (some 35) 32 false (.bin .eql (.t 34) (.c (.int .i64 7))),iI 36 (.pick (.t 32) (.c (.bool true)) (.t 35))]) c49_0) c49_18
def ir49:C:=.seq (.reg [iI 3 (.box (.t 1)),iI 4 (.alloc [(1,(.int .u64 0)),(1,(.int .u64 0)),(1,(.int .i64 0)),(1,(.int .i64 0)),(1,(.int .i64 0)),(1,(.str []))]),iI 5 (.mv (.c (.bool false)))]) c49_19
theorem fd49:fd? Tryz.prog 49=some (141,[.cell 4 6,.slot 5],ir49):=by kernel_rfl
noncomputable def f27_J6(x0:Int)(x1:ApiMessage)(x2:ResponderDevice)(x3:Int)(x4:(List UInt8))(x5:Bool)(x6:Bool)(x7:(List ResponderDevice))(x8:(List ApiMessage)):Jn (Int×Int×Int×Int×Int×Int×(List UInt8)) (Bool×Int×(List UInt8)×Bool×Bool×Int×Int×Int×Int×Int×(List UInt8)) where
  run:=fun (x9,xa,xb,xc,xd,xe,xf)=>(if (decide (x0≠(-1)))=true then (f82 x1 x2.fIdentity x0).bind fun xg=>(some ((decide (xg.2=0)),x3,x4,x5,x6,xg.1.fTo,xg.1.fFrom,xg.1.fSeq,xg.1.fKind,xg.1.fParam,xg.1.fData)) else (some ((decide (x9=0)),x3,x4,x5,x6,xa,xb,xc,xd,xe,xf)))
  cst:=fun (x9,xa,xb,xc,xd,xe,xf)=>⟨put (put (put (put (put (put (fun _=>.junk) 14 (.int .i64 x9)) 13 (.ptr 6 0)) 7 (.int .i64 x0)) 4 (.ptr 5 0)) 3 (.ptr 4 0)) 0 (.ptr 3 0),[.cel [.int .u64 x1.fTo,.int .u64 x1.fFrom,.int .i64 x1.fSeq,.int .i64 x1.fKind,.int .i64 x1.fParam,.str x1.fData],.els 7 (x7.map eResponderDevice),.els 6 (x8.map eApiMessage),.cel [.int .u64 x2.fIdentity,.int .i64 x2.fFootprint,.int .i64 x3,.str x4,.int .i64 x2.fHours,.bool x5,.bool x6],.cel [.int .u64 x1.fTo,.int .u64 x1.fFrom,.int .i64 x1.fSeq,.int .i64 x1.fKind,.int .i64 x1.fParam,.str x1.fData],.cel [.int .u64 0,.int .u64 0,.int .i64 0,.int .i64 0,.int .i64 0,.str ([])],.cel [.int .u64 xa,.int .u64 xb,.int .i64 xc,.int .i64 xd,.int .i64 xe,.str xf]]⟩
theorem f27_J6c(x0:Int)(x1:ApiMessage)(x2:ResponderDevice)(x3:Int)(x4:(List UInt8))(x5:Bool)(x6:Bool)(x7:(List ResponderDevice))(x8:(List ApiMessage))(x9:Int)(xa:Int)(xb:Int)(xc:Int)(xd:Int)(xe:Int)(xf:(List UInt8)):(f27_J6 x0 x1 x2 x3 x4 x5 x6 x7 x8).cst (x9,xa,xb,xc,xd,xe,xf)=⟨put (put (put (put (put (put (fun _=>.junk) 14 (.int .i64 x9)) 13 (.ptr 6 0)) 7 (.int .i64 x0)) 4 (.ptr 5 0)) 3 (.ptr 4 0)) 0 (.ptr 3 0),[.cel [.int .u64 x1.fTo,.int .u64 x1.fFrom,.int .i64 x1.fSeq,.int .i64 x1.fKind,.int .i64 x1.fParam,.str x1.fData],.els 7 (x7.map eResponderDevice),.els 6 (x8.map eApiMessage),.cel [.int .u64 x2.fIdentity,.int .i64 x2.fFootprint,.int .i64 x3,.str x4,.int .i64 x2.fHours,.bool x5,.bool x6],.cel [.int .u64 x1.fTo,.int .u64 x1.fFrom,.int .i64 x1.fSeq,.int .i64 x1.fKind,.int .i64 x1.fParam,.str x1.fData],.cel [.int .u64 0,.int .u64 0,.int .i64 0,.int .i64 0,.int .i64 0,.str ([])],.cel [.int .u64 xa,.int .u64 xb,.int .i64 xc,.int .i64 xd,.int .i64 xe,.str xf]]⟩:=rfl
noncomputable def f27_J5(x0:ApiMessage)(x1:ResponderDevice)(x2:(List ResponderDevice))(x3:(List ApiMessage)):Jn ((List UInt8)×Int×Int×(List UInt8)×Bool×Bool) (Bool×Int×(List UInt8)×Bool×Bool×Int×Int×Int×Int×Int×(List UInt8)) where
  run:=fun (x4,x5,x6,x7,x8,x9)=>(if (decide (x0.fTo=281474976710655))=true then (some (false,x6,x7,x8,x9,0,0,0,0,0,[])) else (f78 x0 x1.fIdentity x4).bind fun xa=>((f27_J6 x5 x0 x1 x6 x7 x8 x9 x2 x3).run (xa.2,xa.1.fTo,xa.1.fFrom,xa.1.fSeq,xa.1.fKind,xa.1.fParam,xa.1.fData)))
  cst:=fun (x4,x5,x6,x7,x8,x9)=>⟨put (put (put (put (put (fun _=>.junk) 7 (.int .i64 x5)) 6 (.str x4)) 4 (.ptr 5 0)) 3 (.ptr 4 0)) 0 (.ptr 3 0),[.cel [.int .u64 x0.fTo,.int .u64 x0.fFrom,.int .i64 x0.fSeq,.int .i64 x0.fKind,.int .i64 x0.fParam,.str x0.fData],.els 7 (x2.map eResponderDevice),.els 6 (x3.map eApiMessage),.cel [.int .u64 x1.fIdentity,.int .i64 x1.fFootprint,.int .i64 x6,.str x7,.int .i64 x1.fHours,.bool x8,.bool x9],.cel [.int .u64 x0.fTo,.int .u64 x0.fFrom,.int .i64 x0.fSeq,.int .i64 x0.fKind,.int .i64 x0.fParam,.str x0.fData],.cel [.int .u64 0,.int .u64 0,.int .i64 0,.int .i64 0,.int .i64 0,.str ([])]]⟩
theorem f27_J5c(x0:ApiMessage)(x1:ResponderDevice)(x2:(List ResponderDevice))(x3:(List ApiMessage))(x4:(List UInt8))(x5:Int)(x6:Int)(x7:(List UInt8))(x8:Bool)(x9:Bool):(f27_J5 x0 x1 x2 x3).cst (x4,x5,x6,x7,x8,x9)=⟨put (put (put (put (put (fun _=>.junk) 7 (.int .i64 x5)) 6 (.str x4)) 4 (.ptr 5 0)) 3 (.ptr 4 0)) 0 (.ptr 3 0),[.cel [.int .u64 x0.fTo,.int .u64 x0.fFrom,.int .i64 x0.fSeq,.int .i64 x0.fKind,.int .i64 x0.fParam,.str x0.fData],.els 7 (x2.map eResponderDevice),.els 6 (x3.map eApiMessage),.cel [.int .u64 x1.fIdentity,.int .i64 x1.fFootprint,.int .i64 x6,.str x7,.int .i64 x1.fHours,.bool x8,.bool x9],.cel [.int .u64 x0.fTo,.int .u64 x0.fFrom,.int .i64 x0.fSeq,.int .i64 x0.fKind,.int .i64 x0.fParam,.str x0.fData],.cel [.int .u64 0,.int .u64 0,.int .i64 0,.int .i64 0,.int .i64 0,.str ([])]]⟩:=rfl
noncomputable def f27_J7(x0:ResponderDevice)(x1:ApiMessage)(x2:(List ResponderDevice))(x3:(List ApiMessage)):Jn (Int×Int×Int×Int×Int×Int×(List UInt8)) (Bool×Int×(List UInt8)×Bool×Bool×Int×Int×Int×Int×Int×(List UInt8)) where
  run:=fun (x4,x5,x6,x7,x8,x9,xa)=>(some ((decide (x4=0)),x0.fAddress,x0.fLabel,x0.fMuted,x0.fIdentify,x5,x6,x7,x8,x9,xa))
  cst:=fun (x4,x5,x6,x7,x8,x9,xa)=>⟨put (put (put (fun _=>.junk) 12 (.int .i64 x4)) 11 (.ptr 5 0)) 4 (.ptr 4 0),[.cel [.int .u64 x1.fTo,.int .u64 x1.fFrom,.int .i64 x1.fSeq,.int .i64 x1.fKind,.int .i64 x1.fParam,.str x1.fData],.els 7 (x2.map eResponderDevice),.els 6 (x3.map eApiMessage),.cel [.int .u64 x0.fIdentity,.int .i64 x0.fFootprint,.int .i64 x0.fAddress,.str x0.fLabel,.int .i64 x0.fHours,.bool x0.fMuted,.bool x0.fIdentify],.cel [.int .u64 0,.int .u64 0,.int .i64 0,.int .i64 0,.int .i64 0,.str ([])],.cel [.int .u64 x5,.int .u64 x6,.int .i64 x7,.int .i64 x8,.int .i64 x9,.str xa]]⟩
theorem f27_J7c(x0:ResponderDevice)(x1:ApiMessage)(x2:(List ResponderDevice))(x3:(List ApiMessage))(x4:Int)(x5:Int)(x6:Int)(x7:Int)(x8:Int)(x9:Int)(xa:(List UInt8)):(f27_J7 x0 x1 x2 x3).cst (x4,x5,x6,x7,x8,x9,xa)=⟨put (put (put (fun _=>.junk) 12 (.int .i64 x4)) 11 (.ptr 5 0)) 4 (.ptr 4 0),[.cel [.int .u64 x1.fTo,.int .u64 x1.fFrom,.int .i64 x1.fSeq,.int .i64 x1.fKind,.int .i64 x1.fParam,.str x1.fData],.els 7 (x2.map eResponderDevice),.els 6 (x3.map eApiMessage),.cel [.int .u64 x0.fIdentity,.int .i64 x0.fFootprint,.int .i64 x0.fAddress,.str x0.fLabel,.int .i64 x0.fHours,.bool x0.fMuted,.bool x0.fIdentify],.cel [.int .u64 0,.int .u64 0,.int .i64 0,.int .i64 0,.int .i64 0,.str ([])],.cel [.int .u64 x5,.int .u64 x6,.int .i64 x7,.int .i64 x8,.int .i64 x9,.str xa]]⟩:=rfl
def c81_0:C:=.cond (.t 21) (.skip) (.reg [iI 32 (.faddr 2 (.t 7)),iI 33 (.load 0 (.t 32)),iI 34 (.bin .lss (.t 33) (.c (.int .i64 0))),iI 35 (.mv (.t 34)),iG (some 36) 35 true (.mv (.t 2)),iG (some 37) 35 true (.len 1 (.t 36)),iG (some 38) 35 true (.bin .gtr (.t 37) (.c (.int .i64 32))),iI 39 (.pick (.t 35) (.t 38) (.c (.bool false))),iI 21 (.mv (.t 39))])
def c81_1:C:=.cond (.t 40) (.seq (.reg [iI 6 (.mv (.c (.int .i64 3)))]) .ret) (.skip)
def c81_2:C:=.cond (.t 21) (.seq (.reg [iI 6 (.mv (.c (.int .i64 2)))]) .ret) (.seq (.reg [iI 41 (.faddr 3 (.t 7)),iI 42 (.load 0 (.t 41)),iI 43 (.mv (.t 0)),iI 44 (.mv (.t 2)),iI 45 (.call (.t 42) [(.t 43),(.t 44)]),iI 46 (.un .not (.t 45)),iI 40 (.mv (.t 46))]) c81_1)
def c81_3:C:=.cond (.t 17) (.seq (.reg [iI 6 (.mv (.c (.int .i64 1)))]) .ret) (.seq (.seq (.reg [iI 22 (.faddr 2 (.t 7)),iI 23 (.load 0 (.t 22)),iI 24 (.bin .geq (.t 23) (.c (.int .i64 0))),iI 25 (.mv (.t 24)),iG (some 26) 25 true (.mv (.t 2)),iG (some 27) 25 true (.len 1 (.t 26)),iG (some 28) 25 true (.faddr 2 (.t 7)),iG (some 29) 25 true (.load 0 (.t 28)),iG (some 30) 25 true (.bin .neq (.t 27) (.t 29)),iI 31 (.pick (.t 25) (.t 30) (.c (.bool false))),iI 21 (.mv (.t 31))]) c81_0) c81_2)
def c81_4:C:=.cond (.t 14) (.seq (.reg [iI 6 (.mv (.c (.int .i64 0)))]) .ret) (.seq (.reg [iI 18 (.faddr 3 (.t 7)),iI 19 (.load 0 (.t 18)),iI 20 (.eqs false [9] (.t 19) (.c .nilfn)),iI 17 (.mv (.t 20))]) c81_3)
def c81_5:C:=.seq (.reg [iI 6 (.mv (.c (.int .i64 (-1))))]) .ret
def c81_6:C:=.seq (.block 0 (.seq (.reg [iI 15 (.mv (.t 8)),iI 16 (.un .not (.t 15)),iI 14 (.mv (.t 16))]) c81_4)) c81_5
def c81_7:C:=.seq (.reg [iI 10 (.mv (.t 1)),iI 11 (.call (.c (.fn 120 [])) [(.t 10)]),iI 9 (.mv (.t 11)),iI 12 (.ext (.t 9) 0),iI 13 (.ext (.t 9) 1),iI 7 (.alloc [(1,(.int .i64 0)),(1,.nilfn),(1,(.int .i64 0)),(1,.nilfn)]),iN (.store 4 (.t 7) (.t 12)),iI 8 (.mv (.t 13))]) c81_6
def ir81:C:=.seq (.reg [iI 6 (.mv (.c (.int .i64 0)))]) c81_7
theorem fd81:fd? Tryz.prog 81=some (47,[.slot 6],ir81):=by kernel_rfl
def c136_0:C:=.cond (.t 7) (.seq (.reg [iI 4 (.mv (.c (.bool false)))]) .ret) (.skip)
def c136_1:C:=.seq (.reg [iI 4 (.mv (.c (.bool true)))]) .ret
def c136_2:C:=.seq (.reg [iI 8 (.mv (.t 0)),iI 9 (.mv (.t 1)),iI 10 (.nilchk (.t 8)),iI 11 (.faddr 3 (.t 10)),iN (.store 0 (.t 11) (.t 9))]) c136_1
def c136_3:C:=.seq (.seq (.reg [iI 5 (.mv (.t 1)),iI 6 (.call (.c (.fn 73 [])) [(.t 5)]),iI 7 (.bin .neq (.t 6) (.c (.int .i64 0)))]) c136_0) c136_2
def ir136:C:=.seq (.reg [iI 4 (.mv (.c (.bool false)))]) c136_3
theorem fd136:fd? Tryz.prog 136=some (12,[.slot 4],ir136):=by kernel_rfl
noncomputable def f27_C10(x0:ApiMessage)(x1:ResponderDevice)(x2:(List ResponderDevice))(x3:(List ApiMessage)):Il (Bool×(List UInt8)) where
  run:=(f73 x0.fData).bind fun x4=>(if (decide (x4≠0))=true then (some (false,x1.fLabel)) else (some (true,x0.fData)))
  res:=fun (x5,x6)=>.bool x5
  hp:=fun (x5,x6)=>[.cel [.int .u64 x0.fTo,.int .u64 x0.fFrom,.int .i64 x0.fSeq,.int .i64 x0.fKind,.int .i64 x0.fParam,.str x0.fData],.els 7 (x2.map eResponderDevice),.els 6 (x3.map eApiMessage),.cel [.int .u64 x1.fIdentity,.int .i64 x1.fFootprint,.int .i64 x1.fAddress,.str x6,.int .i64 x1.fHours,.bool x1.fMuted,.bool x1.fIdentify],.cel [.int .u64 x0.fTo,.int .u64 x0.fFrom,.int .i64 x0.fSeq,.int .i64 x0.fKind,.int .i64 x0.fParam,.str x0.fData],.cel [.int .u64 0,.int .u64 0,.int .i64 0,.int .i64 0,.int .i64 0,.str ([])],.cel [.int .i64 130,.fn 135 [],.int .i64 (-1),.fn 136 []]]
def c138_0:C:=.cond (.t 17) (.seq (.reg [iI 4 (.mv (.c (.bool false)))]) .ret) (.skip)
def c138_1:C:=.seq (.reg [iI 4 (.mv (.c (.bool true)))]) .ret
def c138_2:C:=.seq (.reg [iI 18 (.mv (.t 0)),iI 19 (.mv (.t 5)),iI 20 (.nilchk (.t 18)),iI 21 (.faddr 2 (.t 20)),iN (.store 0 (.t 21) (.t 19))]) c138_1
def c138_3:C:=.seq (.seq (.reg [iI 14 (.mv (.t 0)),iI 15 (.mv (.t 5)),iI 16 (.call (.c (.fn 72 [])) [(.t 14),(.t 15)]),iI 17 (.un .not (.t 16))]) c138_0) c138_2
def c138_4:C:=.seq (.reg [iI 6 (.mv (.t 1)),iI 7 (.sidx (.t 6) (.c (.int .i64 0))),iI 8 (.cint .i64 (.t 7)),iI 9 (.bin .shl (.t 8) (.c (.int .u64 8))),iI 10 (.mv (.t 1)),iI 11 (.sidx (.t 10) (.c (.int .i64 1))),iI 12 (.cint .i64 (.t 11)),iI 13 (.bin .or (.t 9) (.t 12)),iI 5 (.mv (.t 13))]) c138_3
def ir138:C:=.seq (.reg [iI 4 (.mv (.c (.bool false)))]) c138_4
theorem fd138:fd? Tryz.prog 138=some (22,[.slot 4],ir138):=by kernel_rfl
noncomputable def f27_C11(x0:ApiMessage)(x1:ResponderDevice)(x2:(List ResponderDevice))(x3:(List ApiMessage)):Il (Bool×Int) where
  run:=(at? x0.fData 0).bind fun x4=>(at? x0.fData 1).bind fun x5=>(f72p x1.fIdentity x1.fFootprint x1.fAddress x1.fLabel x1.fHours x1.fMuted x1.fIdentify (IntKind.i64.wrap ((BitVec.ofInt (IntKind.bits .i64) (IntKind.i64.wrap ((IntKind.i64.wrap (x4.toNat:Int)) * 2 ^ (min (Int.toNat 8) (IntKind.bits .i64)))) ||| BitVec.ofInt (IntKind.bits .i64) (IntKind.i64.wrap (x5.toNat:Int))).toNat:Int))).bind fun x6=>(if (!x6)=true then (some (false,x1.fAddress)) else (some (true,(IntKind.i64.wrap ((BitVec.ofInt (IntKind.bits .i64) (IntKind.i64.wrap ((IntKind.i64.wrap (x4.toNat:Int)) * 2 ^ (min (Int.toNat 8) (IntKind.bits .i64)))) ||| BitVec.ofInt (IntKind.bits .i64) (IntKind.i64.wrap (x5.toNat:Int))).toNat:Int)))))
  res:=fun (x7,x8)=>.bool x7
  hp:=fun (x7,x8)=>[.cel [.int .u64 x0.fTo,.int .u64 x0.fFrom,.int .i64 x0.fSeq,.int .i64 x0.fKind,.int .i64 x0.fParam,.str x0.fData],.els 7 (x2.map eResponderDevice),.els 6 (x3.map eApiMessage),.cel [.int .u64 x1.fIdentity,.int .i64 x1.fFootprint,.int .i64 x8,.str x1.fLabel,.int .i64 x1.fHours,.bool x1.fMuted,.bool x1.fIdentify],.cel [.int .u64 x0.fTo,.int .u64 x0.fFrom,.int .i64 x0.fSeq,.int .i64 x0.fKind,.int .i64 x0.fParam,.str x0.fData],.cel [.int .u64 0,.int .u64 0,.int .i64 0,.int .i64 0,.int .i64 0,.str ([])],.cel [.int .i64 240,.fn 137 [],.int .i64 2,.fn 138 []]]
noncomputable def f27_C12(x0:ApiMessage)(x1:ResponderDevice)(x2:(List ResponderDevice))(x3:(List ApiMessage)):Il (Bool×Int) where
  run:=(at? x0.fData 0).bind fun x4=>(at? x0.fData 1).bind fun x5=>(f72p x1.fIdentity x1.fFootprint x1.fAddress x1.fLabel x1.fHours x1.fMuted x1.fIdentify (IntKind.i64.wrap ((BitVec.ofInt (IntKind.bits .i64) (IntKind.i64.wrap ((IntKind.i64.wrap (x4.toNat:Int)) * 2 ^ (min (Int.toNat 8) (IntKind.bits .i64)))) ||| BitVec.ofInt (IntKind.bits .i64) (IntKind.i64.wrap (x5.toNat:Int))).toNat:Int))).bind fun x6=>(if (!x6)=true then (some (false,x1.fAddress)) else (some (true,(IntKind.i64.wrap ((BitVec.ofInt (IntKind.bits .i64) (IntKind.i64.wrap ((IntKind.i64.wrap (x4.toNat:Int)) * 2 ^ (min (Int.toNat 8) (IntKind.bits .i64)))) ||| BitVec.ofInt (IntKind.bits .i64) (IntKind.i64.wrap (x5.toNat:Int))).toNat:Int)))))
  res:=fun (x7,x8)=>.bool x7
  hp:=fun (x7,x8)=>[.cel [.int .u64 x0.fTo,.int .u64 x0.fFrom,.int .i64 x0.fSeq,.int .i64 x0.fKind,.int .i64 x0.fParam,.str x0.fData],.els 7 (x2.map eResponderDevice),.els 6 (x3.map eApiMessage),.cel [.int .u64 x1.fIdentity,.int .i64 x1.fFootprint,.int .i64 x8,.str x1.fLabel,.int .i64 x1.fHours,.bool x1.fMuted,.bool x1.fIdentify],.cel [.int .u64 x0.fTo,.int .u64 x0.fFrom,.int .i64 x0.fSeq,.int .i64 x0.fKind,.int .i64 x0.fParam,.str x0.fData],.cel [.int .u64 0,.int .u64 0,.int .i64 0,.int .i64 0,.int .i64 0,.str ([])],.cel [.int .i64 240,.fn 137 [],.int .i64 2,.fn 138 []]]
def c142_0:C:=.cond (.t 7) (.seq (.reg [iI 4 (.mv (.c (.bool false)))]) .ret) (.skip)
def c142_1:C:=.seq (.reg [iI 4 (.mv (.c (.bool true)))]) .ret
def c142_2:C:=.seq (.reg [iI 8 (.mv (.t 0)),iI 9 (.mv (.t 1)),iI 10 (.sidx (.t 9) (.c (.int .i64 0))),iI 11 (.bin .eql (.t 10) (.c (.int .u8 1))),iI 12 (.nilchk (.t 8)),iI 13 (.faddr 6 (.t 12)),iN (.store 0 (.t 13) (.t 11))]) c142_1
def c142_3:C:=.seq (.seq (.reg [iI 5 (.mv (.t 1)),iI 6 (.sidx (.t 5) (.c (.int .i64 0))),iI 7 (.bin .gtr (.t 6) (.c (.int .u8 1)))]) c142_0) c142_2
def ir142:C:=.seq (.reg [iI 4 (.mv (.c (.bool false)))]) c142_3
theorem fd142:fd? Tryz.prog 142=some (14,[.slot 4],ir142):=by kernel_rfl
noncomputable def f27_C13(x0:ApiMessage)(x1:ResponderDevice)(x2:(List ResponderDevice))(x3:(List ApiMessage)):Il (Bool×Bool) where
  run:=(at? x0.fData 0).bind fun x4=>(if (decide (1<(x4.toNat:Int)))=true then (some (false,x1.fIdentify)) else (at? x0.fData 0).bind fun x5=>(some (true,(decide ((x5.toNat:Int)=1)))))
  res:=fun (x6,x7)=>.bool x6
  hp:=fun (x6,x7)=>[.cel [.int .u64 x0.fTo,.int .u64 x0.fFrom,.int .i64 x0.fSeq,.int .i64 x0.fKind,.int .i64 x0.fParam,.str x0.fData],.els 7 (x2.map eResponderDevice),.els 6 (x3.map eApiMessage),.cel [.int .u64 x1.fIdentity,.int .i64 x1.fFootprint,.int .i64 x1.fAddress,.str x1.fLabel,.int .i64 x1.fHours,.bool x1.fMuted,.bool x7],.cel [.int .u64 x0.fTo,.int .u64 x0.fFrom,.int .i64 x0.fSeq,.int .i64 x0.fKind,.int .i64 x0.fParam,.str x0.fData],.cel [.int .u64 0,.int .u64 0,.int .i64 0,.int .i64 0,.int .i64 0,.str ([])],.cel [.int .i64 4096,.fn 140 [],.int .i64 1,.fn 142 []]]
noncomputable def f27_C14(x0:ApiMessage)(x1:ResponderDevice)(x2:(List ResponderDevice))(x3:(List ApiMessage)):Il (Bool×Bool) where
  run:=(at? x0.fData 0).bind fun x4=>(if (decide (1<(x4.toNat:Int)))=true then (some (false,x1.fIdentify)) else (at? x0.fData 0).bind fun x5=>(some (true,(decide ((x5.toNat:Int)=1)))))
  res:=fun (x6,x7)=>.bool x6
  hp:=fun (x6,x7)=>[.cel [.int .u64 x0.fTo,.int .u64 x0.fFrom,.int .i64 x0.fSeq,.int .i64 x0.fKind,.int .i64 x0.fParam,.str x0.fData],.els 7 (x2.map eResponderDevice),.els 6 (x3.map eApiMessage),.cel [.int .u64 x1.fIdentity,.int .i64 x1.fFootprint,.int .i64 x1.fAddress,.str x1.fLabel,.int .i64 x1.fHours,.bool x1.fMuted,.bool x7],.cel [.int .u64 x0.fTo,.int .u64 x0.fFrom,.int .i64 x0.fSeq,.int .i64 x0.fKind,.int .i64 x0.fParam,.str x0.fData],.cel [.int .u64 0,.int .u64 0,.int .i64 0,.int .i64 0,.int .i64 0,.str ([])],.cel [.int .i64 4096,.fn 140 [],.int .i64 1,.fn 142 []]]
def c143_0:C:=.cond (.t 7) (.seq (.reg [iI 4 (.mv (.c (.bool false)))]) .ret) (.skip)
def c143_1:C:=.seq (.reg [iI 4 (.mv (.c (.bool true)))]) .ret
def c143_2:C:=.seq (.reg [iI 8 (.mv (.t 0)),iI 9 (.mv (.t 0)),iI 10 (.mv (.t 0)),iI 11 (.mv (.t 0)),iI 12 (.nilchk (.t 8)),iI 13 (.faddr 3 (.t 12)),iN (.store 0 (.t 13) (.c (.str []))),iI 14 (.nilchk (.t 9)),iI 15 (.faddr 2 (.t 14)),iN (.store 0 (.t 15) (.c (.int .i64 1))),iI 16 (.nilchk (.t 10)),iI 17 (.faddr 6 (.t 16)),iN (.store 0 (.t 17) (.c (.bool false))),iI 18 (.nilchk (.t 11)),iI 19 (.faddr 5 (.t 18)),iN (.store 0 (.t 19) (.c (.bool false)))]) c143_1
def c143_3:C:=.seq (.seq (.reg [iI 5 (.mv (.t 1)),iI 6 (.sidx (.t 5) (.c (.int .i64 0))),iI 7 (.bin .neq (.t 6) (.c (.int .u8 255)))]) c143_0) c143_2
def ir143:C:=.seq (.reg [iI 4 (.mv (.c (.bool false)))]) c143_3
theorem fd143:fd? Tryz.prog 143=some (20,[.slot 4],ir143):=by kernel_rfl
noncomputable def f27_C15(x0:ApiMessage)(x1:ResponderDevice)(x2:(List ResponderDevice))(x3:(List ApiMessage)):Il (Bool×Int×(List UInt8)×Bool×Bool) where
  run:=(at? x0.fData 0).bind fun x4=>(if (decide ((x4.toNat:Int)≠255))=true then (some (false,x1.fAddress,x1.fLabel,x1.fMuted,x1.fIdentify)) else (some (true,1,[],false,false)))
  res:=fun (x5,x6,x7,x8,x9)=>.bool x5
  hp:=fun (x5,x6,x7,x8,x9)=>[.cel [.int .u64 x0.fTo,.int .u64 x0.fFrom,.int .i64 x0.fSeq,.int .i64 x0.fKind,.int .i64 x0.fParam,.str x0.fData],.els 7 (x2.map eResponderDevice),.els 6 (x3.map eApiMessage),.cel [.int .u64 x1.fIdentity,.int .i64 x1.fFootprint,.int .i64 x6,.str x7,.int .i64 x1.fHours,.bool x8,.bool x9],.cel [.int .u64 x0.fTo,.int .u64 x0.fFrom,.int .i64 x0.fSeq,.int .i64 x0.fKind,.int .i64 x0.fParam,.str x0.fData],.cel [.int .u64 0,.int .u64 0,.int .i64 0,.int .i64 0,.int .i64 0,.str ([])],.cel [.int .i64 4097,.nilfn,.int .i64 1,.fn 143 []]]
noncomputable def f27_C16(x0:ApiMessage)(x1:ResponderDevice)(x2:(List ResponderDevice))(x3:(List ApiMessage)):Il (Bool×Int×(List UInt8)×Bool×Bool) where
  run:=(at? x0.fData 0).bind fun x4=>(if (decide ((x4.toNat:Int)≠255))=true then (some (false,x1.fAddress,x1.fLabel,x1.fMuted,x1.fIdentify)) else (some (true,1,[],false,false)))
  res:=fun (x5,x6,x7,x8,x9)=>.bool x5
  hp:=fun (x5,x6,x7,x8,x9)=>[.cel [.int .u64 x0.fTo,.int .u64 x0.fFrom,.int .i64 x0.fSeq,.int .i64 x0.fKind,.int .i64 x0.fParam,.str x0.fData],.els 7 (x2.map eResponderDevice),.els 6 (x3.map eApiMessage),.cel [.int .u64 x1.fIdentity,.int .i64 x1.fFootprint,.int .i64 x6,.str x7,.int .i64 x1.fHours,.bool x8,.bool x9],.cel [.int .u64 x0.fTo,.int .u64 x0.fFrom,.int .i64 x0.fSeq,.int .i64 x0.fKind,.int .i64 x0.fParam,.str x0.fData],.cel [.int .u64 0,.int .u64 0,.int .i64 0,.int .i64 0,.int .i64 0,.str ([])],.cel [.int .i64 4097,.nilfn,.int .i64 1,.fn 143 []]]
noncomputable def f27_C9(x0:ApiMessage)(x1:ResponderDevice)(x2:(List ResponderDevice))(x3:(List ApiMessage)):Il (Int×Int×(List UInt8)×Bool×Bool) where
  run:=(f120 x0.fParam).bind fun x4=>(if decide (x4=0)=true then (some (1,x1.fAddress,x1.fLabel,x1.fMuted,x1.fIdentify)) else (if decide (x4=1)=true then (some (1,x1.fAddress,x1.fLabel,x1.fMuted,x1.fIdentify)) else (if decide (x4=2)=true then (if (decide (32<((x0.fData.length:Nat):Int)))=true then (some (2,x1.fAddress,x1.fLabel,x1.fMuted,x1.fIdentify)) else ((f27_C10 x0 x1 x2 x3).run.bind fun (x5,x6)=>(if (!x5)=true then (some (3,x1.fAddress,x6,x1.fMuted,x1.fIdentify)) else (some ((-1),x1.fAddress,x6,x1.fMuted,x1.fIdentify))))) else (if decide (x4=3)=true then (if (decide (((x0.fData.length:Nat):Int)≠2))=true then (if (decide (((x0.fData.length:Nat):Int)≠2))=true then (some (2,x1.fAddress,x1.fLabel,x1.fMuted,x1.fIdentify)) else ((f27_C11 x0 x1 x2 x3).run.bind fun (x7,x8)=>(if (!x7)=true then (some (3,x8,x1.fLabel,x1.fMuted,x1.fIdentify)) else (some ((-1),x8,x1.fLabel,x1.fMuted,x1.fIdentify))))) else ((f27_C12 x0 x1 x2 x3).run.bind fun (x9,xa)=>(if (!x9)=true then (some (3,xa,x1.fLabel,x1.fMuted,x1.fIdentify)) else (some ((-1),xa,x1.fLabel,x1.fMuted,x1.fIdentify))))) else (if decide (x4=4)=true then (some (1,x1.fAddress,x1.fLabel,x1.fMuted,x1.fIdentify)) else (if decide (x4=5)=true then (if (decide (((x0.fData.length:Nat):Int)≠1))=true then (if (decide (((x0.fData.length:Nat):Int)≠1))=true then (some (2,x1.fAddress,x1.fLabel,x1.fMuted,x1.fIdentify)) else ((f27_C13 x0 x1 x2 x3).run.bind fun (xb,xc)=>(if (!xb)=true then (some (3,x1.fAddress,x1.fLabel,x1.fMuted,xc)) else (some ((-1),x1.fAddress,x1.fLabel,x1.fMuted,xc))))) else ((f27_C14 x0 x1 x2 x3).run.bind fun (xd,xe)=>(if (!xd)=true then (some (3,x1.fAddress,x1.fLabel,x1.fMuted,xe)) else (some ((-1),x1.fAddress,x1.fLabel,x1.fMuted,xe))))) else (if decide (x4=6)=true then (if (decide (((x0.fData.length:Nat):Int)≠1))=true then (if (decide (((x0.fData.length:Nat):Int)≠1))=true then (some (2,x1.fAddress,x1.fLabel,x1.fMuted,x1.fIdentify)) else ((f27_C15 x0 x1 x2 x3).run.bind fun (xf,xg,xh,xi,xj)=>(if (!xf)=true then (some (3,xg,xh,xi,xj)) else (some ((-1),xg,xh,xi,xj))))) else ((f27_C16 x0 x1 x2 x3).run.bind fun (xk,xl,xm,xn,xo)=>(if (!xk)=true then (some (3,xl,xm,xn,xo)) else (some ((-1),xl,xm,xn,xo))))) else (some (0,x1.fAddress,x1.fLabel,x1.fMuted,x1.fIdentify)))))))))
  res:=fun (xp,xq,xr,xs,xt)=>.int .i64 xp
  hp:=fun (xp,xq,xr,xs,xt)=>[.cel [.int .u64 x0.fTo,.int .u64 x0.fFrom,.int .i64 x0.fSeq,.int .i64 x0.fKind,.int .i64 x0.fParam,.str x0.fData],.els 7 (x2.map eResponderDevice),.els 6 (x3.map eApiMessage),.cel [.int .u64 x1.fIdentity,.int .i64 x1.fFootprint,.int .i64 xq,.str xr,.int .i64 x1.fHours,.bool xs,.bool xt],.cel [.int .u64 x0.fTo,.int .u64 x0.fFrom,.int .i64 x0.fSeq,.int .i64 x0.fKind,.int .i64 x0.fParam,.str x0.fData],.cel [.int .u64 0,.int .u64 0,.int .i64 0,.int .i64 0,.int .i64 0,.str ([])]]
noncomputable def f27_J8(x0:ApiMessage)(x1:ResponderDevice)(x2:(List ResponderDevice))(x3:(List ApiMessage)):Jn (Bool) (Bool×Int×(List UInt8)×Bool×Bool×Int×Int×Int×Int×Int×(List UInt8)) where
  run:=fun x4=>(if x4=true then ((f27_J5 x0 x1 x2 x3).run ([],(-1),x1.fAddress,x1.fLabel,(decide (x0.fKind=2)),x1.fIdentify)) else (if (decide (x0.fKind=4))=true then (f80p x1.fIdentity x1.fFootprint x1.fAddress x1.fLabel x1.fHours x1.fMuted x1.fIdentify x0.fParam).bind fun x5=>((f27_J5 x0 x1 x2 x3).run (x5.1,x5.2,x1.fAddress,x1.fLabel,x1.fMuted,x1.fIdentify)) else (if (decide (x0.fKind=5))=true then ((f27_C9 x0 x1 x2 x3).run.bind fun (x6,x7,x8,x9,xa)=>((f27_J5 x0 x1 x2 x3).run ([],x6,x7,x8,x9,xa))) else ((f27_J5 x0 x1 x2 x3).run ([],(-1),x1.fAddress,x1.fLabel,x1.fMuted,x1.fIdentify)))))
  cst:=fun x4=>⟨put (put (put (put (put (put (put (fun _=>.junk) 86 (.bool x4)) 39 (.int .i64 x0.fKind)) 7 (.int .i64 (-1))) 6 (.str ([]))) 4 (.ptr 5 0)) 3 (.ptr 4 0)) 0 (.ptr 3 0),[.cel [.int .u64 x0.fTo,.int .u64 x0.fFrom,.int .i64 x0.fSeq,.int .i64 x0.fKind,.int .i64 x0.fParam,.str x0.fData],.els 7 (x2.map eResponderDevice),.els 6 (x3.map eApiMessage),.cel [.int .u64 x1.fIdentity,.int .i64 x1.fFootprint,.int .i64 x1.fAddress,.str x1.fLabel,.int .i64 x1.fHours,.bool x1.fMuted,.bool x1.fIdentify],.cel [.int .u64 x0.fTo,.int .u64 x0.fFrom,.int .i64 x0.fSeq,.int .i64 x0.fKind,.int .i64 x0.fParam,.str x0.fData],.cel [.int .u64 0,.int .u64 0,.int .i64 0,.int .i64 0,.int .i64 0,.str ([])]]⟩
theorem f27_J8c(x0:ApiMessage)(x1:ResponderDevice)(x2:(List ResponderDevice))(x3:(List ApiMessage))(x4:Bool):(f27_J8 x0 x1 x2 x3).cst x4=⟨put (put (put (put (put (put (put (fun _=>.junk) 86 (.bool x4)) 39 (.int .i64 x0.fKind)) 7 (.int .i64 (-1))) 6 (.str ([]))) 4 (.ptr 5 0)) 3 (.ptr 4 0)) 0 (.ptr 3 0),[.cel [.int .u64 x0.fTo,.int .u64 x0.fFrom,.int .i64 x0.fSeq,.int .i64 x0.fKind,.int .i64 x0.fParam,.str x0.fData],.els 7 (x2.map eResponderDevice),.els 6 (x3.map eApiMessage),.cel [.int .u64 x1.fIdentity,.int .i64 x1.fFootprint,.int .i64 x1.fAddress,.str x1.fLabel,.int .i64 x1.fHours,.bool x1.fMuted,.bool x1.fIdentify],.cel [.int .u64 x0.fTo,.int .u64 x0.fFrom,.int .i64 x0.fSeq,.int .i64 x0.fKind,.int .i64 x0.fParam,.str x0.fData],.cel [.int .u64 0,.int .u64 0,.int .i64 0,.int .i64 0,.int .i64 0,.str ([])]]⟩:=rfl
noncomputable def f27_J4(x0:ApiMessage)(x1:ResponderDevice)(x2:(List ResponderDevice))(x3:(List ApiMessage)):Jn (Unit) (Bool×Int×(List UInt8)×Bool×Bool×Int×Int×Int×Int×Int×(List UInt8)) where
  run:=fun _=>(if (decide (x0.fKind=1))=true then (f77 x0).bind fun x4=>(if x1.fMuted=true then (some (false,x1.fAddress,x1.fLabel,x1.fMuted,x1.fIdentify,0,0,0,0,0,[])) else (if (decide (x1.fIdentity<x4.1))=true then (some (false,x1.fAddress,x1.fLabel,x1.fMuted,x1.fIdentify,0,0,0,0,0,[])) else (if (decide (x4.2.1<x1.fIdentity))=true then (some (false,x1.fAddress,x1.fLabel,x1.fMuted,x1.fIdentify,0,0,0,0,0,[])) else (f79 x1.fIdentity 6).bind fun x5=>(f78 x0 x1.fIdentity x5).bind fun x6=>((f27_J7 x1 x0 x2 x3).run (x6.2,x6.1.fTo,x6.1.fFrom,x6.1.fSeq,x6.1.fKind,x6.1.fParam,x6.1.fData))))) else (if (decide (x0.fKind=2))=true then ((f27_J8 x0 x1 x2 x3).run (decide (x0.fKind=2))) else ((f27_J8 x0 x1 x2 x3).run (decide (x0.fKind=3)))))
  cst:=fun _=>⟨put (put (put (fun _=>.junk) 4 (.ptr 5 0)) 3 (.ptr 4 0)) 0 (.ptr 3 0),[.cel [.int .u64 x0.fTo,.int .u64 x0.fFrom,.int .i64 x0.fSeq,.int .i64 x0.fKind,.int .i64 x0.fParam,.str x0.fData],.els 7 (x2.map eResponderDevice),.els 6 (x3.map eApiMessage),.cel [.int .u64 x1.fIdentity,.int .i64 x1.fFootprint,.int .i64 x1.fAddress,.str x1.fLabel,.int .i64 x1.fHours,.bool x1.fMuted,.bool x1.fIdentify],.cel [.int .u64 x0.fTo,.int .u64 x0.fFrom,.int .i64 x0.fSeq,.int .i64 x0.fKind,.int .i64 x0.fParam,.str x0.fData],.cel [.int .u64 0,.int .u64 0,.int .i64 0,.int .i64 0,.int .i64 0,.str ([])]]⟩
theorem f27_J4c(x0:ApiMessage)(x1:ResponderDevice)(x2:(List ResponderDevice))(x3:(List ApiMessage))(x_:Unit):(f27_J4 x0 x1 x2 x3).cst x_=⟨put (put (put (fun _=>.junk) 4 (.ptr 5 0)) 3 (.ptr 4 0)) 0 (.ptr 3 0),[.cel [.int .u64 x0.fTo,.int .u64 x0.fFrom,.int .i64 x0.fSeq,.int .i64 x0.fKind,.int .i64 x0.fParam,.str x0.fData],.els 7 (x2.map eResponderDevice),.els 6 (x3.map eApiMessage),.cel [.int .u64 x1.fIdentity,.int .i64 x1.fFootprint,.int .i64 x1.fAddress,.str x1.fLabel,.int .i64 x1.fHours,.bool x1.fMuted,.bool x1.fIdentify],.cel [.int .u64 x0.fTo,.int .u64 x0.fFrom,.int .i64 x0.fSeq,.int .i64 x0.fKind,.int .i64 x0.fParam,.str x0.fData],.cel [.int .u64 0,.int .u64 0,.int .i64 0,.int .i64 0,.int .i64 0,.str ([])]]⟩:=rfl
noncomputable def f27_C3(x0:ApiMessage)(x1:ResponderDevice)(x2:(List ResponderDevice))(x3:(List ApiMessage)):Il (Bool×Int×(List UInt8)×Bool×Bool×Int×Int×Int×Int×Int×(List UInt8)) where
  run:=(if (decide (x0.fTo≠x1.fIdentity))=true then (if (decide (x0.fTo≠281474976710655))=true then (some (false,x1.fAddress,x1.fLabel,x1.fMuted,x1.fIdentify,0,0,0,0,0,[])) else (if (decide (x0.fKind=6))=true then (some (false,x1.fAddress,x1.fLabel,x1.fMuted,x1.fIdentify,0,0,0,0,0,[])) else (if (decide (x0.fKind=7))=true then (some (false,x1.fAddress,x1.fLabel,x1.fMuted,x1.fIdentify,0,0,0,0,0,[])) else ((f27_J4 x0 x1 x2 x3).run ())))) else (if (decide (x0.fKind=6))=true then (some (false,x1.fAddress,x1.fLabel,x1.fMuted,x1.fIdentify,0,0,0,0,0,[])) else (if (decide (x0.fKind=7))=true then (some (false,x1.fAddress,x1.fLabel,x1.fMuted,x1.fIdentify,0,0,0,0,0,[])) else ((f27_J4 x0 x1 x2 x3).run ()))))
  res:=fun (x4,x5,x6,x7,x8,x9,xa,xb,xc,xd,xe)=>.tup [.agg [.int .u64 x9,.int .u64 xa,.int .i64 xb,.int .i64 xc,.int .i64 xd,.str xe],.bool x4]
  hp:=fun (x4,x5,x6,x7,x8,x9,xa,xb,xc,xd,xe)=>[.cel [.int .u64 x0.fTo,.int .u64 x0.fFrom,.int .i64 x0.fSeq,.int .i64 x0.fKind,.int .i64 x0.fParam,.str x0.fData],.els 7 (x2.map eResponderDevice),.els 6 (x3.map eApiMessage),.cel [.int .u64 x1.fIdentity,.int .i64 x1.fFootprint,.int .i64 x5,.str x6,.int .i64 x1.fHours,.bool x7,.bool x8],.cel [.int .u64 x9,.int .u64 xa,.int .i64 xb,.int .i64 xc,.int .i64 xd,.str xe]]
noncomputable def f27_L2(x0:(List ResponderDevice))(x1:ApiMessage):Lp (Int×(List ResponderDevice)×(List ApiMessage)) ((List ResponderDevice)×(List ApiMessage)) where
  body:=fun (x2,x3,x4)=>(if (decide (x2<((x0.length:Nat):Int)))=true then (at? x0 x2).bind fun x5=>((f27_C3 x1 x5 x3 x4).run.bind fun (x6,x7,x8,x9,xa,xb,xc,xd,xe,xf,xg)=>(app? 56 x3 ([(ResponderDevice.mk x5.fIdentity x5.fFootprint x7 x8 x5.fHours x9 xa)])).bind fun xh=>(if x6=true then (app? 56 x4 ([(ApiMessage.mk xb xc xd xe xf xg)])).bind fun xi=>(some (.next ((IntKind.i64.wrap (x2 + 1)),xh,xi))) else (some (.next ((IntKind.i64.wrap (x2 + 1)),xh,x4))))) else (some (.brk (x3,x4))))
  cst:=fun (x2,x3,x4)=>⟨put (put (put (put (put (put (fun _=>.junk) 48 (.int .i64 x2)) 47 (.int .i64 ((x0.length:Nat):Int))) 46 (.sl 7 false (x0.map eResponderDevice))) 13 (.row 6 2 0 x4.length)) 12 (.row 7 1 0 x3.length)) 3 (.ptr 0 0),[.cel [.int .u64 x1.fTo,.int .u64 x1.fFrom,.int .i64 x1.fSeq,.int .i64 x1.fKind,.int .i64 x1.fParam,.str x1.fData],.els 7 (x3.map eResponderDevice),.els 6 (x4.map eApiMessage)]⟩
theorem f27_L2c(x0:(List ResponderDevice))(x1:ApiMessage)(x2:Int)(x3:(List ResponderDevice))(x4:(List ApiMessage)):(f27_L2 x0 x1).cst (x2,x3,x4)=⟨put (put (put (put (put (put (fun _=>.junk) 48 (.int .i64 x2)) 47 (.int .i64 ((x0.length:Nat):Int))) 46 (.sl 7 false (x0.map eResponderDevice))) 13 (.row 6 2 0 x4.length)) 12 (.row 7 1 0 x3.length)) 3 (.ptr 0 0),[.cel [.int .u64 x1.fTo,.int .u64 x1.fFrom,.int .i64 x1.fSeq,.int .i64 x1.fKind,.int .i64 x1.fParam,.str x1.fData],.els 7 (x3.map eResponderDevice),.els 6 (x4.map eApiMessage)]⟩:=rfl
noncomputable def f27_L1(x0:(List ResponderDevice))(x1:ApiMessage):Lp (Int×(List (Int×Bool))) ((Unit)⊕(Int)) where
  body:=fun (x2,x3)=>(if (decide (x2<((x0.length:Nat):Int)))=true then (at? x0 x2).bind fun x4=>(f47 x4).bind fun x5=>(if (decide (x5≠0))=true then (some (.brk (Sum.inr x5))) else (look? (x3:(List (Int×Bool))) x4.fIdentity (false:Bool) fun x6 x7=>(if x6=true then (some (.brk (Sum.inr 7))) else (some (.next ((IntKind.i64.wrap (x2 + 1)),(mset (x3:(List (Int×Bool))) x4.fIdentity true))))))) else (some (.brk (Sum.inl ()))))
  cst:=fun (x2,x3)=>⟨put (put (put (put (put (put (fun _=>.junk) 24 (.int .i64 x2)) 23 (.int .i64 ((x0.length:Nat):Int))) 22 (.sl 7 false (x0.map eResponderDevice))) 7 (.mref 1)) 3 (.ptr 0 0)) 0 (.sl 7 false (x0.map eResponderDevice)),[.cel [.int .u64 x1.fTo,.int .u64 x1.fFrom,.int .i64 x1.fSeq,.int .i64 x1.fKind,.int .i64 x1.fParam,.str x1.fData],.map (mk (AV.int .u64) x3) (mv AV.bool x3)]⟩
theorem f27_L1c(x0:(List ResponderDevice))(x1:ApiMessage)(x2:Int)(x3:(List (Int×Bool))):(f27_L1 x0 x1).cst (x2,x3)=⟨put (put (put (put (put (put (fun _=>.junk) 24 (.int .i64 x2)) 23 (.int .i64 ((x0.length:Nat):Int))) 22 (.sl 7 false (x0.map eResponderDevice))) 7 (.mref 1)) 3 (.ptr 0 0)) 0 (.sl 7 false (x0.map eResponderDevice)),[.cel [.int .u64 x1.fTo,.int .u64 x1.fFrom,.int .i64 x1.fSeq,.int .i64 x1.fKind,.int .i64 x1.fParam,.str x1.fData],.map (mk (AV.int .u64) x3) (mv AV.bool x3)]⟩:=rfl
def c27_0:C:=.cond (.t 20) (.seq (.reg [iI 4 (.mv (.c (.sl 7 true []))),iI 5 (.mv (.c (.sl 6 true []))),iI 6 (.mv (.c (.int .i64 5)))]) .ret) (.skip)
def c27_1:C:=.cond (.t 31) (.seq (.reg [iI 32 (.mv (.t 10)),iI 4 (.mv (.c (.sl 7 true []))),iI 5 (.mv (.c (.sl 6 true []))),iI 6 (.mv (.t 32))]) .ret) (.skip)
def c27_2:C:=.seq (.reg [iI 30 (.mv (.t 10)),iI 31 (.bin .neq (.t 30) (.c (.int .i64 0)))]) c27_1
def c27_3:C:=.cond (.t 36) (.seq (.reg [iI 4 (.mv (.c (.sl 7 true []))),iI 5 (.mv (.c (.sl 6 true []))),iI 6 (.mv (.c (.int .i64 7)))]) .ret) (.skip)
def c27_4:C:=.reg [iI 37 (.mv (.t 7)),iI 38 (.faddr 0 (.t 9)),iI 39 (.load 0 (.t 38)),iN (.mapset 0 (.t 37) (.t 39) (.c (.bool true)))]
def c27_5:C:=.seq (.seq (.reg [iI 33 (.mv (.t 7)),iI 34 (.faddr 0 (.t 9)),iI 35 (.load 0 (.t 34)),iI 36 (.lookup 0 (.bool false) false (.t 33) (.t 35))]) c27_3) c27_4
def c27_6:C:=.seq (.seq (.reg [iI 28 (.load 7 (.t 9)),iI 29 (.call (.c (.fn 47 [])) [(.t 28)]),iI 10 (.mv (.t 29))]) c27_2) c27_5
def c27_7:C:=.reg [iI 40 (.bin .add (.t 24) (.c (.int .i64 1))),iI 24 (.mv (.t 40))]
def c27_8:C:=.seq (.block 1 (.seq (.reg [iI 26 (.iaddr 7 (.t 22) (.t 24)),iI 27 (.load 7 (.t 26)),iI 9 (.alloc [(1,(.int .u64 0)),(1,(.int .i64 0)),(1,(.int .i64 0)),(1,(.str [])),(1,(.int .i64 0)),(1,(.bool false)),(1,(.bool false))]),iN (.store 7 (.t 9) (.t 27))]) c27_6)) c27_7
def c27_9:C:=.seq (.cond (.t 25) (.skip) (.exit 0)) c27_8
def c27_10:C:=.block 0 (.loop (.seq (.reg [iI 25 (.bin .lss (.t 24) (.t 23))]) c27_9))
def c27_11:C:=.cond (.t 44) (.seq (.reg [iI 45 (.mv (.t 11)),iI 4 (.mv (.c (.sl 7 true []))),iI 5 (.mv (.c (.sl 6 true []))),iI 6 (.mv (.t 45))]) .ret) (.skip)
def c27_12:C:=.seq (.reg [iI 43 (.mv (.t 11)),iI 44 (.bin .neq (.t 43) (.c (.int .i64 0)))]) c27_11
def c27_13:C:=.cond (.t 61) (.reg [iI 62 (.mv (.t 13)),iI 63 (.load 6 (.t 16)),iI 64 (.mkslp 6 1 (.agg [(.int .u64 0),(.int .u64 0),(.int .i64 0),(.int .i64 0),(.int .i64 0),(.str [])]) [(0,(.t 63))]),iI 65 (.append 6 56 (.t 62) (.t 64)),iI 13 (.mv (.t 65))]) (.skip)
def c27_14:C:=.seq (.reg [iI 61 (.mv (.t 17))]) c27_13
def c27_15:C:=.seq (.reg [iI 57 (.mv (.t 12)),iI 58 (.load 7 (.t 15)),iI 59 (.mkslp 7 1 (.agg [(.int .u64 0),(.int .i64 0),(.int .i64 0),(.str []),(.int .i64 0),(.bool false),(.bool false)]) [(0,(.t 58))]),iI 60 (.append 7 56 (.t 57) (.t 59)),iI 12 (.mv (.t 60))]) c27_14
def c27_16:C:=.seq (.reg [iI 53 (.load 6 (.t 3)),iI 54 (.call (.c (.fn 49 [])) [(.t 15),(.t 53)]),iI 52 (.mv (.t 54)),iI 55 (.ext (.t 52) 0),iI 56 (.ext (.t 52) 1),iI 16 (.alloc [(1,(.int .u64 0)),(1,(.int .u64 0)),(1,(.int .i64 0)),(1,(.int .i64 0)),(1,(.int .i64 0)),(1,(.str []))]),iN (.store 6 (.t 16) (.t 55)),iI 17 (.mv (.t 56))]) c27_15
def c27_17:C:=.reg [iI 66 (.bin .add (.t 48) (.c (.int .i64 1))),iI 48 (.mv (.t 66))]
def c27_18:C:=.seq (.block 3 (.seq (.reg [iI 50 (.iaddr 7 (.t 46) (.t 48)),iI 51 (.load 7 (.t 50)),iI 15 (.alloc [(1,(.int .u64 0)),(1,(.int .i64 0)),(1,(.int .i64 0)),(1,(.str [])),(1,(.int .i64 0)),(1,(.bool false)),(1,(.bool false))]),iN (.store 7 (.t 15) (.t 51))]) c27_16)) c27_17
def c27_19:C:=.seq (.cond (.t 49) (.skip) (.exit 2)) c27_18
def c27_20:C:=.block 2 (.loop (.seq (.reg [iI 49 (.bin .lss (.t 48) (.t 47))]) c27_19))
def c27_21:C:=.seq (.reg [iI 67 (.mv (.t 12)),iI 68 (.mv (.t 13)),iI 4 (.mv (.t 67)),iI 5 (.mv (.t 68)),iI 6 (.mv (.c (.int .i64 0)))]) .ret
def c27_22:C:=.seq (.seq (.reg [iI 46 (.mv (.t 0)),iI 47 (.len 0 (.t 46)),iI 48 (.mv (.c (.int .i64 0)))]) c27_20) c27_21
def c27_23:C:=.seq (.reg [iI 13 (.mv (.c (.sl 6 true [])))]) c27_22
def c27_24:C:=.seq (.reg [iI 12 (.mv (.c (.sl 7 true [])))]) c27_23
def c27_25:C:=.seq (.seq (.reg [iI 41 (.load 6 (.t 3)),iI 42 (.call (.c (.fn 48 [])) [(.t 41)]),iI 11 (.mv (.t 42))]) c27_12) c27_24
def c27_26:C:=.seq (.seq (.reg [iI 22 (.mv (.t 0)),iI 23 (.len 0 (.t 22)),iI 24 (.mv (.c (.int .i64 0)))]) c27_10) c27_25
def c27_27:C:=.seq (.reg [iI 21 .mkmap,iI 7 (.mv (.t 21))]) c27_26
def c27_28:C:=.seq (.seq (.reg [iI 18 (.mv (.t 0)),iI 19 (.len 0 (.t 18)),iI 20 (.bin .gtr (.t 19) (.c (.int .i64 64)))]) c27_0) c27_27
def ir27:C:=.seq (.reg [iI 3 (.box (.t 1)),iI 4 (.mv (.c (.sl 7 true []))),iI 5 (.mv (.c (.sl 6 true []))),iI 6 (.mv (.c (.int .i64 0)))]) c27_28
theorem fd27:fd? Tryz.prog 27=some (69,[.slot 4,.slot 5,.slot 6],ir27):=by kernel_rfl
noncomputable def f27(x0:(List ResponderDevice))(x1:ApiMessage):Option ((List ResponderDevice)×(List ApiMessage)×Int) :=
  (if (decide (64<((x0.length:Nat):Int)))=true then (some ([],[],5)) else ((Lp.run (f27_L1 x0 x1) (0,[])).bind fun r_=>match r_ with | (Sum.inl _)=>(f48 x1).bind fun x2=>(if (decide (x2≠0))=true then (some ([],[],x2)) else (Lp.run (f27_L2 x0 x1) (0,[],[])).bind fun (x3,x4)=>(some (x3,x4,0))) | (Sum.inr x5)=>(some ([],[],x5))))
end Go.Proofs.YtgjfhplkochbpaaGreat
