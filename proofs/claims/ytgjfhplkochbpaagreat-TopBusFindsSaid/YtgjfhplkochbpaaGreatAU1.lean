import Derived.Test.YtgjfhplkochbpaaGreatAX2
import Derived.Test.YtgjfhplkochbpaaGreatAM6
import Derived.Test.YtgjfhplkochbpaaGreatAMB
import Derived.Test.YtgjfhplkochbpaaGreatAE67
import Derived.Test.YtgjfhplkochbpaaGreatProg
import Derived.KernelRfl
namespace Go.Proofs.YtgjfhplkochbpaaGreat
open Go Go.Ab
set_option maxHeartbeats 1000000
set_option maxRecDepth 4000
set_option linter.unusedSimpArgs false
set_option linter.unusedVariables false
noncomputable def f53_L2(x0:ApiMessage×Int)(x1:ApiMessage):Lp (Int×Int) (Int) where
  body:=fun (x2,x3)=>(if (decide (x3<((x0.1.fData.length:Nat):Int)))=true then (at? x0.1.fData x3).bind fun x4=>(some (.next ((IntKind.u64.wrap ((BitVec.ofInt (IntKind.bits .u64) (IntKind.u64.wrap (x2 * 2 ^ (min (Int.toNat 8) (IntKind.bits .u64)))) ||| BitVec.ofInt (IntKind.bits .u64) (IntKind.u64.wrap (x4.toNat:Int))).toNat:Int)),(IntKind.i64.wrap (x3 + 1))))) else (some (.brk x2)))
  cst:=fun (x2,x3)=>⟨put (put (put (put (put (fun _=>.junk) 71 (.int .i64 x3)) 70 (.int .i64 ((x0.1.fData.length:Nat):Int))) 15 (.int .u64 x2)) 13 (.ptr 1 0)) 2 (.ptr 0 0),[.cel [.int .u64 x1.fTo,.int .u64 x1.fFrom,.int .i64 x1.fSeq,.int .i64 x1.fKind,.int .i64 x1.fParam,.str x1.fData],.cel [.int .u64 x0.1.fTo,.int .u64 x0.1.fFrom,.int .i64 x0.1.fSeq,.int .i64 x0.1.fKind,.int .i64 x0.1.fParam,.str x0.1.fData]]⟩
theorem f53_L2c(x0:ApiMessage×Int)(x1:ApiMessage)(x2:Int)(x3:Int):(f53_L2 x0 x1).cst (x2,x3)=⟨put (put (put (put (put (fun _=>.junk) 71 (.int .i64 x3)) 70 (.int .i64 ((x0.1.fData.length:Nat):Int))) 15 (.int .u64 x2)) 13 (.ptr 1 0)) 2 (.ptr 0 0),[.cel [.int .u64 x1.fTo,.int .u64 x1.fFrom,.int .i64 x1.fSeq,.int .i64 x1.fKind,.int .i64 x1.fParam,.str x1.fData],.cel [.int .u64 x0.1.fTo,.int .u64 x0.1.fFrom,.int .i64 x0.1.fSeq,.int .i64 x0.1.fKind,.int .i64 x0.1.fParam,.str x0.1.fData]]⟩:=rfl
noncomputable def f53_L1(x0:(List ApiMessage))(x1:ApiMessage):Lp (Int×(List (List UInt8))) ((List (List UInt8))) where
  body:=fun (x2,x3)=>(if (decide (x2<((x0.length:Nat):Int)))=true then (at? x0 x2).bind fun x4=>(f67 x4).bind fun x5=>(app? 16 x3 ([x5.1])).bind fun x6=>(some (.next ((IntKind.i64.wrap (x2 + 1)),x6))) else (some (.brk x3)))
  cst:=fun (x2,x3)=>⟨put (put (put (put (put (fun _=>.junk) 25 (.int .i64 x2)) 24 (.int .i64 ((x0.length:Nat):Int))) 23 (.sl 6 false (x0.map eApiMessage))) 6 (.row 0 1 0 x3.length)) 2 (.ptr 0 0),[.cel [.int .u64 x1.fTo,.int .u64 x1.fFrom,.int .i64 x1.fSeq,.int .i64 x1.fKind,.int .i64 x1.fParam,.str x1.fData],.els 0 (x3.map AV.str)]⟩
theorem f53_L1c(x0:(List ApiMessage))(x1:ApiMessage)(x2:Int)(x3:(List (List UInt8))):(f53_L1 x0 x1).cst (x2,x3)=⟨put (put (put (put (put (fun _=>.junk) 25 (.int .i64 x2)) 24 (.int .i64 ((x0.length:Nat):Int))) 23 (.sl 6 false (x0.map eApiMessage))) 6 (.row 0 1 0 x3.length)) 2 (.ptr 0 0),[.cel [.int .u64 x1.fTo,.int .u64 x1.fFrom,.int .i64 x1.fSeq,.int .i64 x1.fKind,.int .i64 x1.fParam,.str x1.fData],.els 0 (x3.map AV.str)]⟩:=rfl
def c53_0:C:=.cond (.t 22) (.seq (.reg [iI 4 (.mv (.c (.int .i64 0))),iI 5 (.mv (.c (.int .u64 0)))]) .ret) (.skip)
def c53_1:C:=.reg [iI 34 (.mv (.t 6)),iI 35 (.mv (.t 9)),iI 36 (.mkslp 0 1 (.str []) [(0,(.t 35))]),iI 37 (.append 0 16 (.t 34) (.t 36)),iI 6 (.mv (.t 37))]
def c53_2:C:=.seq (.reg [iI 30 (.load 6 (.t 8)),iI 31 (.call (.c (.fn 67 [])) [(.t 30)]),iI 29 (.mv (.t 31)),iI 32 (.ext (.t 29) 0),iI 33 (.ext (.t 29) 1),iI 9 (.mv (.t 32)),iI 10 (.mv (.t 33))]) c53_1
def c53_3:C:=.reg [iI 38 (.bin .add (.t 25) (.c (.int .i64 1))),iI 25 (.mv (.t 38))]
def c53_4:C:=.seq (.block 1 (.seq (.reg [iI 27 (.iaddr 6 (.t 23) (.t 25)),iI 28 (.load 6 (.t 27)),iI 8 (.alloc [(1,(.int .u64 0)),(1,(.int .u64 0)),(1,(.int .i64 0)),(1,(.int .i64 0)),(1,(.int .i64 0)),(1,(.str []))]),iN (.store 6 (.t 8) (.t 28))]) c53_2)) c53_3
def c53_5:C:=.seq (.cond (.t 26) (.skip) (.exit 0)) c53_4
def c53_6:C:=.block 0 (.loop (.seq (.reg [iI 26 (.bin .lss (.t 25) (.t 24))]) c53_5))
def c53_7:C:=.cond (.t 67) (.seq (.reg [iI 4 (.mv (.c (.int .i64 2))),iI 5 (.mv (.c (.int .u64 0)))]) .ret) (.skip)
def c53_8:C:=.reg [iI 74 (.mv (.t 15)),iI 75 (.bin .shl (.t 74) (.c (.int .u64 8))),iI 76 (.faddr 5 (.t 13)),iI 77 (.load 0 (.t 76)),iI 78 (.mv (.t 16)),iI 79 (.sidx (.t 77) (.t 78)),iI 80 (.cint .u64 (.t 79)),iI 81 (.bin .or (.t 75) (.t 80)),iI 15 (.mv (.t 81))]
def c53_9:C:=.reg [iI 82 (.bin .add (.t 71) (.c (.int .i64 1))),iI 71 (.mv (.t 82))]
def c53_10:C:=.seq (.block 3 (.seq (.reg [iI 73 (.mv (.t 71)),iI 16 (.mv (.t 73))]) c53_8)) c53_9
def c53_11:C:=.seq (.cond (.t 72) (.skip) (.exit 2)) c53_10
def c53_12:C:=.block 2 (.loop (.seq (.reg [iI 72 (.bin .lss (.t 71) (.t 70))]) c53_11))
def c53_13:C:=.cond (.t 102) (.seq (.reg [iI 4 (.mv (.c (.int .i64 2))),iI 5 (.mv (.c (.int .u64 0)))]) .ret) (.skip)
def c53_14:C:=.seq (.reg [iI 103 (.mv (.t 15)),iI 4 (.mv (.c (.int .i64 1))),iI 5 (.mv (.t 103))]) .ret
def c53_15:C:=.seq (.seq (.reg [iI 89 (.mv (.t 15)),iI 90 (.faddr 1 (.t 13)),iI 91 (.load 0 (.t 90)),iI 92 (.bin .neq (.t 89) (.t 91)),iI 93 (.mv (.t 92)),iG (some 94) 93 false (.mv (.t 15)),iG (some 95) 93 false (.mv (.t 17)),iG (some 96) 93 false (.bin .lss (.t 94) (.t 95)),iI 97 (.pick (.t 93) (.c (.bool true)) (.t 96)),iI 98 (.mv (.t 97)),iG (some 99) 98 false (.mv (.t 15)),iG (some 100) 98 false (.mv (.t 18)),iG (some 101) 98 false (.bin .gtr (.t 99) (.t 100)),iI 102 (.pick (.t 98) (.c (.bool true)) (.t 101))]) c53_13) c53_14
def c53_16:C:=.seq (.reg [iI 84 (.load 6 (.t 2)),iI 85 (.call (.c (.fn 77 [])) [(.t 84)]),iI 83 (.mv (.t 85)),iI 86 (.ext (.t 83) 0),iI 87 (.ext (.t 83) 1),iI 88 (.ext (.t 83) 2),iI 17 (.mv (.t 86)),iI 18 (.mv (.t 87)),iI 19 (.mv (.t 88))]) c53_15
def c53_17:C:=.seq (.seq (.reg [iI 68 (.faddr 5 (.t 13)),iI 69 (.load 0 (.t 68)),iI 70 (.len 1 (.t 69)),iI 71 (.mv (.c (.int .i64 0)))]) c53_12) c53_16
def c53_18:C:=.seq (.reg [iI 15 (.mv (.c (.int .u64 0)))]) c53_17
def c53_19:C:=.seq (.seq (.reg [iI 49 (.mv (.t 14)),iI 50 (.bin .neq (.t 49) (.c (.int .i64 0))),iI 51 (.mv (.t 50)),iG (some 52) 51 false (.load 6 (.t 2)),iG (some 53) 51 false (.load 6 (.t 13)),iG (some 54) 51 false (.call (.c (.fn 33 [])) [(.t 52),(.t 53)]),iG (some 55) 51 false (.un .not (.t 54)),iI 56 (.pick (.t 51) (.c (.bool true)) (.t 55)),iI 57 (.mv (.t 56)),iG (some 58) 57 false (.faddr 3 (.t 13)),iG (some 59) 57 false (.load 0 (.t 58)),iG (some 60) 57 false (.bin .neq (.t 59) (.c (.int .i64 6))),iI 61 (.pick (.t 57) (.c (.bool true)) (.t 60)),iI 62 (.mv (.t 61)),iG (some 63) 62 false (.faddr 5 (.t 13)),iG (some 64) 62 false (.load 0 (.t 63)),iG (some 65) 62 false (.len 1 (.t 64)),iG (some 66) 62 false (.bin .neq (.t 65) (.c (.int .i64 6))),iI 67 (.pick (.t 62) (.c (.bool true)) (.t 66))]) c53_7) c53_18
def c53_20:C:=.seq (.reg [iI 45 (.mv (.t 11)),iI 46 (.call (.c (.fn 86 [])) [(.t 45)]),iI 44 (.mv (.t 46)),iI 47 (.ext (.t 44) 0),iI 48 (.ext (.t 44) 1),iI 13 (.alloc [(1,(.int .u64 0)),(1,(.int .u64 0)),(1,(.int .i64 0)),(1,(.int .i64 0)),(1,(.int .i64 0)),(1,(.str []))]),iN (.store 6 (.t 13) (.t 47)),iI 14 (.mv (.t 48))]) c53_19
def c53_21:C:=.seq (.reg [iI 40 (.mv (.t 6)),iI 41 (.call (.c (.fn 85 [])) [(.t 40)]),iI 39 (.mv (.t 41)),iI 42 (.ext (.t 39) 0),iI 43 (.ext (.t 39) 1),iI 11 (.mv (.t 42)),iI 12 (.mv (.t 43))]) c53_20
def c53_22:C:=.seq (.seq (.reg [iI 23 (.mv (.t 1)),iI 24 (.len 0 (.t 23)),iI 25 (.mv (.c (.int .i64 0)))]) c53_6) c53_21
def c53_23:C:=.seq (.reg [iI 6 (.mv (.c (.sl 0 true [])))]) c53_22
def c53_24:C:=.seq (.seq (.reg [iI 20 (.mv (.t 1)),iI 21 (.len 0 (.t 20)),iI 22 (.bin .eql (.t 21) (.c (.int .i64 0)))]) c53_0) c53_23
def ir53:C:=.seq (.reg [iI 2 (.box (.t 0)),iI 4 (.mv (.c (.int .i64 0))),iI 5 (.mv (.c (.int .u64 0)))]) c53_24
theorem fd53:fd? Tryz.prog 53=some (104,[.slot 4,.slot 5],ir53):=by kernel_rfl
noncomputable def f53(x0:ApiMessage)(x1:(List ApiMessage)):Option (Int×Int) :=
  (if (decide (((x1.length:Nat):Int)=0))=true then (some (0,0)) else (Lp.run (f53_L1 x1 x0) (0,[])).bind fun x2=>(f85 x2).bind fun x3=>(f86 x3.1).bind fun x4=>(if (decide (x4.2≠0))=true then (some (2,0)) else (f33 x0 x4.1).bind fun x5=>(if (!x5)=true then (some (2,0)) else (if (decide (x4.1.fKind≠6))=true then (some (2,0)) else (if (decide (((x4.1.fData.length:Nat):Int)≠6))=true then (some (2,0)) else (Lp.run (f53_L2 x4 x0) (0,0)).bind fun x6=>(f77 x0).bind fun x7=>(if (decide (x6≠x4.1.fFrom))=true then (some (2,0)) else (if (decide (x6<x7.1))=true then (some (2,0)) else (if (decide (x7.2.1<x6))=true then (some (2,0)) else (some (1,x6))))))))))
theorem f53_ok{x0:ApiMessage}{x1:(List ApiMessage)}{r_:Int×Int}(H:f53 x0 x1=some r_):Pure Tryz.prog 53 [.agg [.int .u64 x0.fTo,.int .u64 x0.fFrom,.int .i64 x0.fSeq,.int .i64 x0.fKind,.int .i64 x0.fParam,.str x0.fData],.sl 6 false (x1.map eApiMessage)] (· = .tup [.int .i64 r_.1,.int .u64 r_.2]):=by
 refine Pure.walk3 fd53 none (Nat.le_of_ble_eq_true rfl) (by rfl) fun Q hQ=>?_
 simp only[f53] at H
 refine AW.rseq ?_
 try simp only[wm,wmd,↓wk,↓wl,nq,evV,↓reduceIte,sevalprocAttr]
 refine AW.sseq ?_
 refine AW.rseq ?_
 try simp only[wm,wmd,↓wk,↓wl,nq,evV,↓reduceIte,sevalprocAttr]
 refine AW.ifc H (by rfl) ?_ ?_<;>clear H<;>intro H
 ·refine AW.rseq ?_
  try simp only[wm,wmd,↓wk,↓wl,nq,evV,↓reduceIte,sevalprocAttr]
  refine AW.ret ?_
  refine seqQ.ret ?_
  cases H
  exact hQ _ _ _ _ (.inr rfl) (by simp only[resVs,omap,resV,wm,wmd,↓wk,↓wl,nq,evV,↓reduceIte,sevalprocAttr];rfl) (hand_plain (by rfl)) (by first | exact Or.inl rfl | exact Or.inr rfl)
 ·refine AW.skip ?_
  refine seqQ.norm ?_
  refine AW.rseq ?_
  try simp only[wm,wmd,↓wk,↓wl,nq,evV,↓reduceIte,sevalprocAttr]
  refine AW.sseq ?_
  refine AW.rseq ?_
  try simp only[wm,wmd,↓wk,↓wl,nq,evV,↓reduceIte,sevalprocAttr]
  refine AW.bend ?_
  refine AW.iter H ((Le.trans (Le.nilRow (i:=6) (e:=0) (by simp only[↓wk,↓wl,nq,evV,↓reduceIte,sevalprocAttr])) (Le.tz [0,1] [2,6,23,24,25] (by simp only[f53_L1c,wm,wmr,rrm,↓wk,↓wl,evV,↓reduceIte,sevalprocAttr]<;>rfl)))) ?_<;>clear H
  rintro ⟨x2,x3⟩ x_ st0_ H hst_
  rw[f53_L1c] at hst_
  simp only[f53_L1] at H
  subst hst_
  refine AW.rseq ?_
  try simp only[wm,wmd,↓wk,↓wl,nq,evV,↓reduceIte,sevalprocAttr]
  refine AW.sseq ?_
  refine AW.ifc H (by rfl) ?_ ?_<;>clear H<;>intro H
  ·refine AW.skip ?_
   refine seqQ.norm ?_
   refine AW.bseq ?_
   refine AW.rseq ?_
   try simp only[wm,wmd,↓wk,↓wl,nq,evV,↓reduceIte,sevalprocAttr]
   refine evTs_at (enc:=eApiMessage) H (by rfl) (by rfl) ?_<;>clear H<;>intro x4 H
   try simp only[eApiMessage,eL,eM,wm,wmd,↓wk,↓wl,nq,evV,↓reduceIte,sevalprocAttr]
   refine AW.rseq ?_
   try simp only[wm,wmd,↓wk,↓wl,nq,evV,↓reduceIte,sevalprocAttr]
   refine evTs_pure hFn H (fun _ h=>f67_ok h) (by rfl) (by rfl) (by rfl) (by rfl) (fun _=>rfl) ?_<;>clear H<;>intro x5 H
   try simp only[eL,wm,wmd,↓wk,↓wl,nq,evV,↓reduceIte,sevalprocAttr]
   refine AW.rend ?_
   try simp only[wm,wmd,↓wk,↓wl,nq,evV,↓reduceIte,sevalprocAttr]
   refine evTs_app (enc:=AV.str) H (by rfl) (by first | rfl | simp only[List.length_set]) (by rfl) (by rfl) ?_<;>clear H<;>intro x6 H
   try simp only[wm,wmd,↓wk,↓wl,nq,evV,↓reduceIte,sevalprocAttr]
   refine blkQ.norm ?_
   refine AW.rend ?_
   try simp only[wm,wmd,↓wk,↓wl,nq,evV,↓reduceIte,sevalprocAttr]
   exact loopQ.next H ((Le.tz [0,3] [2,6,23,24,25] (by simp only[f53_L1c,wm,wmr,rrm,↓wk,↓wl,evV,↓reduceIte,sevalprocAttr]<;>rfl)))
  ·refine AW.exit ?_
   refine seqQ.exit ?_
   refine loopQ.exit H ?_<;>clear H<;>intro H
   try dsimp only at H
   refine blk0.here ?_
   refine seqQ.norm ?_
   refine AW.rseq ?_
   try simp only[wm,wmd,↓wk,↓wl,nq,evV,↓reduceIte,sevalprocAttr]
   refine evTs_flat hFn H (fun _ h=>f85_ok h) (by rfl) (by rfl) (by simp only[deep_eq,imm_simps,imm_rowE,imm_ptrE,imm_enc,imm_mrefE,imm_mpE,imm_arowE,omap_simps,take_map_len,take_map_set,take_map_set2,List.length_set,le_refl_true,Nat.zero_add,and_true,true_and,List.drop_zero,Option.map_some,wm,wmd,↓wk,↓wl,nq,evV,↓reduceIte,sevalprocAttr];rfl) (by rfl) (fun _=>rfl) (fun _=>rfl) ?_<;>clear H<;>intro x7 H
   try simp only[eL,wm,wmd,↓wk,↓wl,nq,evV,↓reduceIte,sevalprocAttr]
   refine AW.rseq ?_
   try simp only[wm,wmd,↓wk,↓wl,nq,evV,↓reduceIte,sevalprocAttr]
   refine evTs_pure hFn H (fun _ h=>f86_ok h) (by rfl) (by rfl) (by rfl) (by rfl) (fun _=>rfl) ?_<;>clear H<;>intro x8 H
   try simp only[eL,eApiMessage,eM,wm,wmd,↓wk,↓wl,nq,evV,↓reduceIte,sevalprocAttr]
   refine AW.sseq ?_
   refine AW.rseq ?_
   try simp only[wm,wmd,↓wk,↓wl,nq,evV,↓reduceIte,sevalprocAttr]
   refine evTs_ifg H (by rfl) ?_ ?_<;>clear H<;>intro H
   ·try simp only[wm,wmd,↓wk,↓wl,nq,evV,↓reduceIte,sevalprocAttr]
    refine AW.ift (by rfl) ?_
    refine AW.rseq ?_
    try simp only[wm,wmd,↓wk,↓wl,nq,evV,↓reduceIte,sevalprocAttr]
    refine AW.ret ?_
    refine seqQ.ret ?_
    cases H
    exact hQ _ _ _ _ (.inr rfl) (by simp only[resVs,omap,resV,wm,wmd,↓wk,↓wl,nq,evV,↓reduceIte,sevalprocAttr];rfl) (hand_plain (by rfl)) (by first | exact Or.inl rfl | exact Or.inr rfl)
   ·try simp only[wm,wmd,↓wk,↓wl,nq,evV,↓reduceIte,sevalprocAttr]
    refine evTs_pure hFn H (fun _ h=>f33_ok h) (by rfl) (by rfl) (by rfl) (by rfl) (fun _=>rfl) ?_<;>clear H<;>intro x9 H
    try simp only[eL,wm,wmd,↓wk,↓wl,nq,evV,↓reduceIte,sevalprocAttr]
    refine evTs_ifg H (by rfl) ?_ ?_<;>clear H<;>intro H
    ·try simp only[wm,wmd,↓wk,↓wl,nq,evV,↓reduceIte,sevalprocAttr]
     refine AW.ift (by rfl) ?_
     refine AW.rseq ?_
     try simp only[wm,wmd,↓wk,↓wl,nq,evV,↓reduceIte,sevalprocAttr]
     refine AW.ret ?_
     refine seqQ.ret ?_
     cases H
     exact hQ _ _ _ _ (.inr rfl) (by simp only[resVs,omap,resV,wm,wmd,↓wk,↓wl,nq,evV,↓reduceIte,sevalprocAttr];rfl) (hand_plain (by rfl)) (by first | exact Or.inl rfl | exact Or.inr rfl)
    ·try simp only[wm,wmd,↓wk,↓wl,nq,evV,↓reduceIte,sevalprocAttr]
     refine evTs_ifg H (by rfl) ?_ ?_<;>clear H<;>intro H
     ·try simp only[wm,wmd,↓wk,↓wl,nq,evV,↓reduceIte,sevalprocAttr]
      refine AW.ift (by rfl) ?_
      refine AW.rseq ?_
      try simp only[wm,wmd,↓wk,↓wl,nq,evV,↓reduceIte,sevalprocAttr]
      refine AW.ret ?_
      refine seqQ.ret ?_
      cases H
      exact hQ _ _ _ _ (.inr rfl) (by simp only[resVs,omap,resV,wm,wmd,↓wk,↓wl,nq,evV,↓reduceIte,sevalprocAttr];rfl) (hand_plain (by rfl)) (by first | exact Or.inl rfl | exact Or.inr rfl)
     ·try simp only[wm,wmd,↓wk,↓wl,nq,evV,↓reduceIte,sevalprocAttr]
      refine AW.ifc H (by rfl) ?_ ?_<;>clear H<;>intro H
      ·refine AW.rseq ?_
       try simp only[wm,wmd,↓wk,↓wl,nq,evV,↓reduceIte,sevalprocAttr]
       refine AW.ret ?_
       refine seqQ.ret ?_
       cases H
       exact hQ _ _ _ _ (.inr rfl) (by simp only[resVs,omap,resV,wm,wmd,↓wk,↓wl,nq,evV,↓reduceIte,sevalprocAttr];rfl) (hand_plain (by rfl)) (by first | exact Or.inl rfl | exact Or.inr rfl)
      ·refine AW.skip ?_
       refine seqQ.norm ?_
       refine AW.rseq ?_
       try simp only[wm,wmd,↓wk,↓wl,nq,evV,↓reduceIte,sevalprocAttr]
       refine AW.sseq ?_
       refine AW.rseq ?_
       try simp only[wm,wmd,↓wk,↓wl,nq,evV,↓reduceIte,sevalprocAttr]
       refine AW.bend ?_
       refine AW.iter H ((Le.tz [0,2] [2,13,15,70,71] (by simp only[f53_L2c,wm,wmr,rrm,↓wk,↓wl,evV,↓reduceIte,sevalprocAttr]<;>rfl))) ?_<;>clear H
       rintro ⟨xa,xb⟩ x_ st0_ H hst_
       rw[f53_L2c] at hst_
       simp only[f53_L2] at H
       subst hst_
       refine AW.rseq ?_
       try simp only[wm,wmd,↓wk,↓wl,nq,evV,↓reduceIte,sevalprocAttr]
       refine AW.sseq ?_
       refine AW.ifc H (by rfl) ?_ ?_<;>clear H<;>intro H
       ·refine AW.skip ?_
        refine seqQ.norm ?_
        refine AW.bseq ?_
        refine AW.rseq ?_
        try simp only[wm,wmd,↓wk,↓wl,nq,evV,↓reduceIte,sevalprocAttr]
        refine AW.rend ?_
        try simp only[wm,wmd,↓wk,↓wl,nq,evV,↓reduceIte,sevalprocAttr]
        refine rest_shl (by decide) ?_
        try simp only[wm,wmd,↓wk,↓wl,nq,evV,↓reduceIte,sevalprocAttr]
        refine evTs_sat H (by rfl) (by rfl) ?_<;>clear H<;>intro xc H
        try simp only[wm,wmd,↓wk,↓wl,nq,evV,↓reduceIte,sevalprocAttr]
        refine rest_or ?_
        try simp only[wm,wmd,↓wk,↓wl,nq,evV,↓reduceIte,sevalprocAttr]
        refine blkQ.norm ?_
        refine AW.rend ?_
        try simp only[wm,wmd,↓wk,↓wl,nq,evV,↓reduceIte,sevalprocAttr]
        exact loopQ.next H ((Le.tz [0,1] [2,13,15,70,71] (by simp only[f53_L2c,wm,wmr,rrm,↓wk,↓wl,evV,↓reduceIte,sevalprocAttr]<;>rfl)))
       ·refine AW.exit ?_
        refine seqQ.exit ?_
        refine loopQ.exit H ?_<;>clear H<;>intro H
        try dsimp only at H
        refine blk0.here ?_
        refine seqQ.norm ?_
        refine AW.rseq ?_
        try simp only[wm,wmd,↓wk,↓wl,nq,evV,↓reduceIte,sevalprocAttr]
        refine evTs_pure hFn H (fun _ h=>f77_ok h) (by rfl) (by rfl) (by rfl) (by rfl) (fun _=>rfl) ?_<;>clear H<;>intro xd H
        try simp only[eL,wm,wmd,↓wk,↓wl,nq,evV,↓reduceIte,sevalprocAttr]
        refine AW.sseq ?_
        refine AW.rseq ?_
        try simp only[wm,wmd,↓wk,↓wl,nq,evV,↓reduceIte,sevalprocAttr]
        refine evTs_ifg H (by rfl) ?_ ?_<;>clear H<;>intro H
        ·try simp only[wm,wmd,↓wk,↓wl,nq,evV,↓reduceIte,sevalprocAttr]
         refine AW.ift (by rfl) ?_
         refine AW.rseq ?_
         try simp only[wm,wmd,↓wk,↓wl,nq,evV,↓reduceIte,sevalprocAttr]
         refine AW.ret ?_
         refine seqQ.ret ?_
         cases H
         exact hQ _ _ _ _ (.inr rfl) (by simp only[resVs,omap,resV,wm,wmd,↓wk,↓wl,nq,evV,↓reduceIte,sevalprocAttr];rfl) (hand_plain (by rfl)) (by first | exact Or.inl rfl | exact Or.inr rfl)
        ·try simp only[wm,wmd,↓wk,↓wl,nq,evV,↓reduceIte,sevalprocAttr]
         refine evTs_ifg H (by rfl) ?_ ?_<;>clear H<;>intro H
         ·try simp only[wm,wmd,↓wk,↓wl,nq,evV,↓reduceIte,sevalprocAttr]
          refine AW.ift (by rfl) ?_
          refine AW.rseq ?_
          try simp only[wm,wmd,↓wk,↓wl,nq,evV,↓reduceIte,sevalprocAttr]
          refine AW.ret ?_
          refine seqQ.ret ?_
          cases H
          exact hQ _ _ _ _ (.inr rfl) (by simp only[resVs,omap,resV,wm,wmd,↓wk,↓wl,nq,evV,↓reduceIte,sevalprocAttr];rfl) (hand_plain (by rfl)) (by first | exact Or.inl rfl | exact Or.inr rfl)
         ·try simp only[wm,wmd,↓wk,↓wl,nq,evV,↓reduceIte,sevalprocAttr]
          refine AW.ifc H (by rfl) ?_ ?_<;>clear H<;>intro H
          ·refine AW.rseq ?_
           try simp only[wm,wmd,↓wk,↓wl,nq,evV,↓reduceIte,sevalprocAttr]
           refine AW.ret ?_
           refine seqQ.ret ?_
           cases H
           exact hQ _ _ _ _ (.inr rfl) (by simp only[resVs,omap,resV,wm,wmd,↓wk,↓wl,nq,evV,↓reduceIte,sevalprocAttr];rfl) (hand_plain (by rfl)) (by first | exact Or.inl rfl | exact Or.inr rfl)
          ·refine AW.skip ?_
           refine seqQ.norm ?_
           refine AW.rseq ?_
           try simp only[wm,wmd,↓wk,↓wl,nq,evV,↓reduceIte,sevalprocAttr]
           refine AW.ret ?_
           cases H
           exact hQ _ _ _ _ (.inr rfl) (by simp only[resVs,omap,resV,wm,wmd,↓wk,↓wl,nq,evV,↓reduceIte,sevalprocAttr];rfl) (hand_plain (by rfl)) (by first | exact Or.inl rfl | exact Or.inr rfl)
end Go.Proofs.YtgjfhplkochbpaaGreat
