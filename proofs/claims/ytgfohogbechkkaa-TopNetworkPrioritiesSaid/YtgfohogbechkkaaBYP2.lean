import Derived.Test.YtgfohogbechkkaaBYP1
import Derived.Test.YtgfohogbechkkaaBM6
import Derived.Test.YtgfohogbechkkaaProg
import Derived.KernelRfl
namespace Go.Proofs.Ytgfohogbechkkaa
open Go Go.Ab
set_option maxHeartbeats 1000000
set_option maxRecDepth 4000
set_option linter.unusedSimpArgs false
set_option linter.unusedVariables false
theorem f60_L2c(x0:(List ReceiverInput))(x1:NetworkPacket)(x2:Bool)(x3:Int)(x4:(List ReceiverInput)):(f60_L2 x0 x1).cst (x2,x3,x4)=⟨put (put (put (put (put (fun _=>.junk) 10 (.int .i64 x3)) 9 (.int .i64 ((x0.length:Nat):Int))) 5 (.bool x2)) 3 (.ptr 2 0)) 0 (.row 8 1 0 x4.length),[.cel [.int .u64 x1.fSource,.int .i64 x1.fUniverse,.int .i64 x1.fPriority,.int .i64 x1.fSeq,.int .i64 x1.fSync,.bool x1.fEnd,.str x1.fSlots],.els 8 (x4.map eReceiverInput),.cel [.int .u64 x1.fSource,.int .i64 x1.fUniverse,.int .i64 x1.fPriority,.int .i64 x1.fSeq,.int .i64 x1.fSync,.bool x1.fEnd,.str x1.fSlots]]⟩:=rfl
noncomputable def f60_C1(x0:(List ReceiverInput))(x1:NetworkPacket):Il (Bool×(List ReceiverInput)) where
  run:=(Lp.run (f60_L2 x0 x1) (false,0,x0)).bind fun (x2,x3)=>(some (x2,x3))
  res:=fun (x4,x5)=>.bool x4
  hp:=fun (x4,x5)=>[.cel [.int .u64 x1.fSource,.int .i64 x1.fUniverse,.int .i64 x1.fPriority,.int .i64 x1.fSeq,.int .i64 x1.fSync,.bool x1.fEnd,.str x1.fSlots],.els 8 (x5.map eReceiverInput)]
def c140_0:C:=.seq (.regq [iI 7 (.load 0 (.t 2)),iI 8 (.load 0 (.t 3)),iI 9 (.load 8 (.t 4)),iI 10 (.call (.t 8) [(.t 9)]),iI 11 (.load 2 (.t 5)),iI 12 (.call (.t 7) [(.t 10),(.t 11)]),iI 6 (.mv (.t 12))]) .ret
def ir140:C:=.seq (.reg [iI 4 (.box (.t 0)),iI 5 (.box (.t 1)),iI 6 (.mv (.c (.int .i64 0)))]) c140_0
theorem fd140:fd? Try.prog 140=some (13,[.slot 6],ir140):=by kernel_rfl
noncomputable def f140p(x0:ReceiverInput)(x1:ReceiverPlace):Option (Int) :=
  (f65 x0).bind fun x2=>(f64 x2 x1).bind fun x3=>(some x3)
theorem f140p_ok{x0:ReceiverInput}{x1:ReceiverPlace}{r_:Int}(H:f140p x0 x1=some r_):Pure Try.prog 140 [.agg [.int .i64 x0.fUniverse,.int .u64 x0.fSource,.int .i64 x0.fPriority,.int .i64 x0.fSeq,.int .i64 x0.fSync,.int .i64 x0.fLast,.str x0.fSlots,.str x0.fWait],.agg [.int .i64 x1.fUniverse,.int .u64 x1.fSource],.pro [.fn 64 []],.pro [.fn 65 []]] (· = .int .i64 r_):=by
 refine Pure.walk3 fd140 none (Nat.le_of_ble_eq_true rfl) (by rfl) fun Q hQ=>?_
 simp only[f140p] at H
 refine AW.rseq ?_
 try simp only[↓wk,↓wl,nq,evV,↓reduceIte,sevalprocAttr]
 refine AW.rqseq ?_
 try simp only[↓wk,↓wl,nq,evV,↓reduceIte,sevalprocAttr]
 refine evTs_pure hFnq H (fun _ h=>f65_ok h) (by rfl) (by rfl) (by rfl) (by rfl) (fun _=>rfl) ?_<;>clear H<;>intro x2 H
 try simp only[eL,eReceiverPlace,↓wk,↓wl,nq,evV,↓reduceIte,sevalprocAttr]
 refine evTs_pure hFnq H (fun _ h=>f64_ok h) (by rfl) (by rfl) (by rfl) (by rfl) (fun _=>rfl) ?_<;>clear H<;>intro x3 H
 try simp only[eL,↓wk,↓wl,nq,evV,↓reduceIte,sevalprocAttr]
 refine AW.ret ?_
 cases H
 exact hQ.fin
noncomputable def f139_140_L1(x0:(List ReceiverInput))(x1:ReceiverPlace):Lp (Int×Int) (Int) where
  body:=fun (x2,x3)=>(if (decide (x2<x3))=true then (at? x0 (IntKind.i64.wrap (Int.fdiv (IntKind.u64.wrap (IntKind.i64.wrap (x2 + x3))) (2 ^ (min (Int.toNat 1) (IntKind.bits .u64)))))).bind fun x4=>(f140p x4 x1).bind fun x5=>(if (decide (x5<0))=true then (some (.next ((IntKind.i64.wrap ((IntKind.i64.wrap (Int.fdiv (IntKind.u64.wrap (IntKind.i64.wrap (x2 + x3))) (2 ^ (min (Int.toNat 1) (IntKind.bits .u64))))) + 1)),x3))) else (some (.next (x2,(IntKind.i64.wrap (Int.fdiv (IntKind.u64.wrap (IntKind.i64.wrap (x2 + x3))) (2 ^ (min (Int.toNat 1) (IntKind.bits .u64))))))))) else (some (.brk x2)))
  cst:=fun (x2,x3)=>⟨put (put (put (put (put (put (fun _=>.junk) 10 (.int .i64 x3)) 9 (.int .i64 x2)) 8 (.int .i64 ((x0.length:Nat):Int))) 4 (.ptr 0 0)) 2 (.fn 140 [.pro [.fn 64 []],.pro [.fn 65 []]])) 0 (.sl 8 false (x0.map eReceiverInput)),[.cel [.int .i64 x1.fUniverse,.int .u64 x1.fSource]]⟩
theorem f139_140_L1c(x0:(List ReceiverInput))(x1:ReceiverPlace)(x2:Int)(x3:Int):(f139_140_L1 x0 x1).cst (x2,x3)=⟨put (put (put (put (put (put (fun _=>.junk) 10 (.int .i64 x3)) 9 (.int .i64 x2)) 8 (.int .i64 ((x0.length:Nat):Int))) 4 (.ptr 0 0)) 2 (.fn 140 [.pro [.fn 64 []],.pro [.fn 65 []]])) 0 (.sl 8 false (x0.map eReceiverInput)),[.cel [.int .i64 x1.fUniverse,.int .u64 x1.fSource]]⟩:=rfl
def c139_0:C:=.cond (.t 17) (.skip) (.exit 0)
def c139_1:C:=.cond (.t 31) (.reg [iI 32 (.mv (.t 11)),iI 33 (.bin .add (.t 32) (.c (.int .i64 1))),iI 9 (.mv (.t 33))]) (.reg [iI 34 (.mv (.t 11)),iI 10 (.mv (.t 34))])
def c139_2:C:=.seq (.reg [iI 24 (.mv (.t 2)),iI 25 (.mv (.t 0)),iI 26 (.mv (.t 11)),iI 27 (.iaddr 8 (.t 25) (.t 26)),iI 28 (.load 8 (.t 27)),iI 29 (.load 2 (.t 4)),iI 30 (.call (.t 24) [(.t 28),(.t 29)]),iI 31 (.bin .lss (.t 30) (.c (.int .i64 0)))]) c139_1
def c139_3:C:=.block 1 (.seq (.reg [iI 18 (.mv (.t 9)),iI 19 (.mv (.t 10)),iI 20 (.bin .add (.t 18) (.t 19)),iI 21 (.cint .u64 (.t 20)),iI 22 (.bin .shr (.t 21) (.c (.int .u64 1))),iI 23 (.cint .i64 (.t 22)),iI 11 (.mv (.t 23))]) c139_2)
def c139_4:C:=.seq (.reg [iI 35 (.mv (.t 9)),iI 36 (.mv (.t 9)),iI 37 (.mv (.t 8)),iI 38 (.bin .lss (.t 36) (.t 37)),iI 39 (.mv (.t 38)),iG (some 40) 39 true (.mv (.t 2)),iG (some 41) 39 true (.mv (.t 0)),iG (some 42) 39 true (.mv (.t 9)),iG (some 43) 39 true (.iaddr 8 (.t 41) (.t 42)),iG (some 44) 39 true (.load 8 (.t 43)),iG (some 45) 39 true (.load 2 (.t 4)),iG (some 46) 39 true (.call (.t 40) [(.t 44),(.t 45)]),iG (some 47) 39 true (.bin .eql (.t 46) (.c (.int .i64 0))),iI 48 (.pick (.t 39) (.t 47) (.c (.bool false))),iI 6 (.mv (.t 35)),iI 7 (.mv (.t 48))]) .ret
def c139_5:C:=.seq (.block 0 (.loop (.seq (.seq (.reg [iI 15 (.mv (.t 9)),iI 16 (.mv (.t 10)),iI 17 (.bin .lss (.t 15) (.t 16))]) c139_0) c139_3))) c139_4
def c139_6:C:=.seq (.reg [iI 14 (.mv (.t 8)),iI 9 (.mv (.c (.int .i64 0))),iI 10 (.mv (.t 14))]) c139_5
def c139_7:C:=.seq (.reg [iI 12 (.mv (.t 0)),iI 13 (.len 0 (.t 12)),iI 8 (.mv (.t 13))]) c139_6
def ir139:C:=.seq (.reg [iI 4 (.box (.t 1)),iI 6 (.mv (.c (.int .i64 0))),iI 7 (.mv (.c (.bool false)))]) c139_7
theorem fd139:fd? Try.prog 139=some (49,[.slot 6,.slot 7],ir139):=by kernel_rfl
noncomputable def f139_140(x0:(List ReceiverInput))(x1:ReceiverPlace):Option (Int×Bool) :=
  (Lp.run (f139_140_L1 x0 x1) (0,((x0.length:Nat):Int))).bind fun x2=>(if (decide (x2<((x0.length:Nat):Int)))=true then (at? x0 x2).bind fun x3=>(f140p x3 x1).bind fun x4=>(some (x2,(decide (x4=0)))) else (some (x2,false)))
theorem f139_140_ok{x0:(List ReceiverInput)}{x1:ReceiverPlace}{r_:Int×Bool}(H:f139_140 x0 x1=some r_):Pure Try.prog 139 [.sl 8 false (x0.map eReceiverInput),.agg [.int .i64 x1.fUniverse,.int .u64 x1.fSource],.fn 140 [.pro [.fn 64 []],.pro [.fn 65 []]]] (· = .tup [.int .i64 r_.1,.bool r_.2]):=by
 refine Pure.walk3 fd139 none (Nat.le_of_ble_eq_true rfl) (by rfl) fun Q hQ=>?_
 simp only[f139_140] at H
 refine AW.rseq ?_
 try simp only[↓wk,↓wl,nq,evV,↓reduceIte,sevalprocAttr]
 refine AW.rseq ?_
 try simp only[↓wk,↓wl,nq,evV,↓reduceIte,sevalprocAttr]
 refine AW.rseq ?_
 try simp only[↓wk,↓wl,nq,evV,↓reduceIte,sevalprocAttr]
 refine AW.bseq ?_
 refine AW.iter H ((Le.tz [0] [0,2,4,8,9,10] (by simp only[f139_140_L1c,rrm,↓wk,↓wl,evV,↓reduceIte,sevalprocAttr]<;>rfl))) ?_<;>clear H
 rintro ⟨x2,x3⟩ x_ st0_ H hst_
 rw[f139_140_L1c] at hst_
 simp only[f139_140_L1] at H
 subst hst_
 refine AW.sseq ?_
 refine AW.rseq ?_
 try simp only[↓wk,↓wl,nq,evV,↓reduceIte,sevalprocAttr]
 refine AW.ifc H (by rfl) ?_ ?_<;>clear H<;>intro H
 ·refine AW.skip ?_
  refine seqQ.norm ?_
  refine AW.bend ?_
  refine AW.rseq ?_
  try simp only[↓wk,↓wl,nq,evV,↓reduceIte,sevalprocAttr]
  refine rest_shr (by decide) ?_
  try simp only[↓wk,↓wl,nq,evV,↓reduceIte,sevalprocAttr]
  refine AW.rseq ?_
  try simp only[↓wk,↓wl,nq,evV,↓reduceIte,sevalprocAttr]
  refine evTs_at (enc:=eReceiverInput) H (by rfl) (by rfl) ?_<;>clear H<;>intro x4 H
  try simp only[eReceiverInput,eL,↓wk,↓wl,nq,evV,↓reduceIte,sevalprocAttr]
  refine evTs_pure hFn H (fun _ h=>f140p_ok h) (by rfl) (by rfl) (by rfl) (by rfl) (fun _=>rfl) ?_<;>clear H<;>intro x5 H
  try simp only[eL,↓wk,↓wl,nq,evV,↓reduceIte,sevalprocAttr]
  refine AW.ifc H (by rfl) ?_ ?_<;>clear H<;>intro H
  ·refine AW.rend ?_
   try simp only[↓wk,↓wl,nq,evV,↓reduceIte,sevalprocAttr]
   refine blk0.norm ?_
   exact loopQ.next H ((Le.tz [0] [0,2,4,8,9,10] (by simp only[f139_140_L1c,rrm,↓wk,↓wl,evV,↓reduceIte,sevalprocAttr]<;>rfl)))
  ·refine AW.rend ?_
   try simp only[↓wk,↓wl,nq,evV,↓reduceIte,sevalprocAttr]
   refine blk0.norm ?_
   exact loopQ.next H ((Le.tz [0] [0,2,4,8,9,10] (by simp only[f139_140_L1c,rrm,↓wk,↓wl,evV,↓reduceIte,sevalprocAttr]<;>rfl)))
 ·refine AW.exit ?_
  refine seqQ.exit ?_
  refine loopQ.exit H ?_<;>clear H<;>intro H
  try dsimp only at H
  refine blkQ.here ?_
  refine AW.rseq ?_
  try simp only[↓wk,↓wl,nq,evV,↓reduceIte,sevalprocAttr]
  refine evTs_ifg H (by rfl) ?_ ?_<;>clear H<;>intro H
  ·try simp only[↓wk,↓wl,nq,evV,↓reduceIte,sevalprocAttr]
   refine evTs_at (enc:=eReceiverInput) H (by rfl) (by rfl) ?_<;>clear H<;>intro x6 H
   try simp only[eReceiverInput,eL,↓wk,↓wl,nq,evV,↓reduceIte,sevalprocAttr]
   refine evTs_pure hFn H (fun _ h=>f140p_ok h) (by rfl) (by rfl) (by rfl) (by rfl) (fun _=>rfl) ?_<;>clear H<;>intro x7 H
   try simp only[eL,↓wk,↓wl,nq,evV,↓reduceIte,sevalprocAttr]
   refine AW.ret ?_
   cases H
   exact hQ.fin
  ·try simp only[↓wk,↓wl,nq,evV,↓reduceIte,sevalprocAttr]
   refine AW.ret ?_
   cases H
   exact hQ.fin
def c96_0:C:=.seq (.reg [iI 10 (.mv (.t 0)),iI 11 (.load 2 (.t 5)),iI 12 (.mkfn 140 [(.t 7),(.t 6)]),iI 13 (.call (.c (.fn 139 [])) [(.t 10),(.t 11),(.t 12)]),iI 14 (.ext (.t 13) 0),iI 15 (.ext (.t 13) 1),iI 8 (.mv (.t 14)),iI 9 (.mv (.t 15))]) .ret
def ir96:C:=.seq (.reg [iI 5 (.box (.t 1)),iI 6 (.box (.t 2)),iI 7 (.box (.t 3)),iI 8 (.mv (.c (.int .i64 0))),iI 9 (.mv (.c (.bool false)))]) c96_0
theorem fd96:fd? Try.prog 96=some (16,[.slot 8,.slot 9],ir96):=by kernel_rfl
noncomputable def f96_65_64(x0:(List ReceiverInput))(x1:ReceiverPlace):Option (Int×Bool) :=
  (f139_140 x0 x1).bind fun x2=>(some (x2.1,x2.2))
theorem f96_65_64_ok{x0:(List ReceiverInput)}{x1:ReceiverPlace}{r_:Int×Bool}(H:f96_65_64 x0 x1=some r_):Pure Try.prog 96 [.sl 8 false (x0.map eReceiverInput),.agg [.int .i64 x1.fUniverse,.int .u64 x1.fSource],.fn 65 [],.fn 64 []] (· = .tup [.int .i64 r_.1,.bool r_.2]):=by
 refine Pure.walk3 fd96 none (Nat.le_of_ble_eq_true rfl) (by rfl) fun Q hQ=>?_
 simp only[f96_65_64] at H
 refine AW.rseq ?_
 try simp only[↓wk,↓wl,nq,evV,↓reduceIte,sevalprocAttr]
 refine AW.rseq ?_
 try simp only[↓wk,↓wl,nq,evV,↓reduceIte,sevalprocAttr]
 refine evTs_flat hFn H (fun _ h=>f139_140_ok h) (by rfl) (by rfl) (by simp only[deep_eq,imm_simps,imm_rowE,imm_ptrE,imm_enc,omap_simps,take_map_len,take_map_set,take_map_set2,List.length_set,le_refl_true,Nat.zero_add,and_true,true_and,List.drop_zero,Option.map_some,↓wk,↓wl,nq,evV,↓reduceIte,sevalprocAttr];rfl) (by rfl) (fun _=>rfl) (fun _=>rfl) ?_<;>clear H<;>intro x2 H
 try simp only[eL,↓wk,↓wl,nq,evV,↓reduceIte,sevalprocAttr]
 refine AW.ret ?_
 cases H
 exact hQ.fin
def c97_0:C:=.cond (.t 13) (.seq (.reg [iI 4 (.mv (.c (.bool false)))]) .ret) (.skip)
def c97_1:C:=.seq (.reg [iI 19 (.mv (.t 5)),iI 20 (.bin .gtr (.t 19) (.c (.int .i64 0))),iI 21 (.mv (.t 20)),iG (some 22) 21 true (.mv (.t 5)),iG (some 23) 21 true (.bin .lss (.t 22) (.c (.int .i64 237))),iI 24 (.pick (.t 21) (.t 23) (.c (.bool false))),iI 4 (.mv (.t 24))]) .ret
def c97_2:C:=.seq (.reg [iI 14 (.mv (.t 1)),iI 15 (.mv (.t 0)),iI 16 (.bin .sub (.t 14) (.t 15)),iI 17 (.bin .add (.t 16) (.c (.int .i64 256))),iI 18 (.bin .rem (.t 17) (.c (.int .i64 256))),iI 5 (.mv (.t 18))]) c97_1
def c97_3:C:=.seq (.seq (.reg [iI 6 (.mv (.t 0)),iI 7 (.call (.c (.fn 94 [])) [(.t 6)]),iI 8 (.un .not (.t 7)),iI 9 (.mv (.t 8)),iG (some 10) 9 false (.mv (.t 1)),iG (some 11) 9 false (.call (.c (.fn 94 [])) [(.t 10)]),iG (some 12) 9 false (.un .not (.t 11)),iI 13 (.pick (.t 9) (.c (.bool true)) (.t 12))]) c97_0) c97_2
def ir97:C:=.seq (.reg [iI 4 (.mv (.c (.bool false)))]) c97_3
theorem fd97:fd? Try.prog 97=some (25,[.slot 4],ir97):=by kernel_rfl
noncomputable def f97(x0:Int)(x1:Int):Option (Bool) :=
  (f94 x0).bind fun x2=>(if (!x2)=true then (some false) else (f94 x1).bind fun x3=>(if (!x3)=true then (some false) else (if (decide (0<((IntKind.i64.wrap ((IntKind.i64.wrap (x1 - x0)) + 256)).tmod 256)))=true then (some (decide (((IntKind.i64.wrap ((IntKind.i64.wrap (x1 - x0)) + 256)).tmod 256)<237))) else (some false))))
theorem f97_ok{x0:Int}{x1:Int}{r_:Bool}(H:f97 x0 x1=some r_):Pure Try.prog 97 [.int .i64 x0,.int .i64 x1] (· = .bool r_):=by
 refine Pure.walk3 fd97 none (Nat.le_of_ble_eq_true rfl) (by rfl) fun Q hQ=>?_
 simp only[f97] at H
 refine AW.rseq ?_
 try simp only[↓wk,↓wl,nq,evV,↓reduceIte,sevalprocAttr]
 refine AW.sseq ?_
 refine AW.rseq ?_
 try simp only[↓wk,↓wl,nq,evV,↓reduceIte,sevalprocAttr]
 refine evTs_pure hFn H (fun _ h=>f94_ok h) (by rfl) (by rfl) (by rfl) (by rfl) (fun _=>rfl) ?_<;>clear H<;>intro x2 H
 try simp only[eL,↓wk,↓wl,nq,evV,↓reduceIte,sevalprocAttr]
 refine evTs_ifg H (by rfl) ?_ ?_<;>clear H<;>intro H
 ·try simp only[↓wk,↓wl,nq,evV,↓reduceIte,sevalprocAttr]
  refine AW.ift (by rfl) ?_
  refine AW.rseq ?_
  try simp only[↓wk,↓wl,nq,evV,↓reduceIte,sevalprocAttr]
  refine AW.ret ?_
  refine seqQ.ret ?_
  cases H
  exact hQ.fin
 ·try simp only[↓wk,↓wl,nq,evV,↓reduceIte,sevalprocAttr]
  refine evTs_pure hFn H (fun _ h=>f94_ok h) (by rfl) (by rfl) (by rfl) (by rfl) (fun _=>rfl) ?_<;>clear H<;>intro x3 H
  try simp only[eL,↓wk,↓wl,nq,evV,↓reduceIte,sevalprocAttr]
  refine AW.ifc H (by rfl) ?_ ?_<;>clear H<;>intro H
  ·refine AW.rseq ?_
   try simp only[↓wk,↓wl,nq,evV,↓reduceIte,sevalprocAttr]
   refine AW.ret ?_
   refine seqQ.ret ?_
   cases H
   exact hQ.fin
  ·refine AW.skip ?_
   refine seqQ.norm ?_
   refine AW.rseq ?_
   try simp only[↓wk,↓wl,nq,evV,↓reduceIte,sevalprocAttr]
   refine AW.rseq ?_
   try simp only[↓wk,↓wl,nq,evV,↓reduceIte,sevalprocAttr]
   refine evTs_ifg H (by rfl) ?_ ?_<;>clear H<;>intro H
   ·try simp only[↓wk,↓wl,nq,evV,↓reduceIte,sevalprocAttr]
    refine AW.ret ?_
    cases H
    exact hQ.fin
   ·try simp only[↓wk,↓wl,nq,evV,↓reduceIte,sevalprocAttr]
    refine AW.ret ?_
    cases H
    exact hQ.fin
theorem del98:fd? Try.prog 98=some (33,[.slot 6],delC 8 80 (.agg [(.int .i64 0),(.int .u64 0),(.int .i64 0),(.int .i64 0),(.int .i64 0),(.int .i64 0),(.str []),(.str [])])):=by kernel_rfl
theorem ins99:fd? Try.prog 99=some (95,[.slot 6],insC 8 80 (.agg [(.int .i64 0),(.int .u64 0),(.int .i64 0),(.int .i64 0),(.int .i64 0),(.int .i64 0),(.str []),(.str [])]) 142):=by kernel_rfl
def c100_0:C:=.cond (.t 36) (.reg [iI 37 (.mv (.t 0)),iI 38 (.mv (.t 0)),iI 39 (.mv (.t 6)),iI 40 (.nilchk (.t 37)),iI 41 (.faddr 6 (.t 40)),iN (.store 0 (.t 41) (.t 39)),iI 42 (.nilchk (.t 38)),iI 43 (.faddr 7 (.t 42)),iN (.store 0 (.t 43) (.c (.str [])))]) (.reg [iI 44 (.mv (.t 0)),iI 45 (.mv (.t 6)),iI 46 (.nilchk (.t 44)),iI 47 (.faddr 7 (.t 46)),iN (.store 0 (.t 47) (.t 45))])
def c100_1:C:=.seq (.reg [iI 34 (.faddr 4 (.t 5)),iI 35 (.load 0 (.t 34)),iI 36 (.bin .eql (.t 35) (.c (.int .i64 0)))]) c100_0
def c100_2:C:=.seq (.regq [iI 26 (.faddr 6 (.t 5)),iI 27 (.load 0 (.t 26)),iI 28 (.faddr 6 (.t 5)),iI 29 (.load 0 (.t 28)),iI 30 (.len 1 (.t 29)),iI 31 (.bin .sub (.c (.int .i64 512)) (.t 30)),iI 32 (.call (.c (.fn 87 [])) [(.c (.str [0])),(.t 31)]),iI 33 (.bin .add (.t 27) (.t 32)),iI 6 (.mv (.t 33))]) c100_1
def c100_3:C:=.seq (.regt (.fork [iI 7 (.mv (.t 0)),iI 8 (.mv (.t 0)),iI 9 (.mv (.t 0)),iI 10 (.mv (.t 0)),iI 11 (.faddr 2 (.t 5)),iI 12 (.load 0 (.t 11)),iI 13 (.faddr 3 (.t 5)),iI 15 (.faddr 4 (.t 5)),iI 17 (.mv (.t 1)),iI 18 (.nilchk (.t 7)),iI 19 (.faddr 2 (.t 18))] (.fork [iI 14 (.load 0 (.t 13))] (.run [iI 16 (.load 0 (.t 15)),iN (.store 0 (.t 19) (.t 12)),iI 20 (.nilchk (.t 8)),iI 21 (.faddr 3 (.t 20)),iN (.store 0 (.t 21) (.t 14)),iI 22 (.nilchk (.t 9)),iI 23 (.faddr 4 (.t 22)),iN (.store 0 (.t 23) (.t 16)),iI 24 (.nilchk (.t 10)),iI 25 (.faddr 5 (.t 24)),iN (.store 0 (.t 25) (.t 17))]) (.fork [iN (.store 0 (.t 19) (.t 12)),iI 20 (.nilchk (.t 8)),iI 21 (.faddr 3 (.t 20))] (.run [iI 16 (.load 0 (.t 15)),iN (.store 0 (.t 21) (.t 14)),iI 22 (.nilchk (.t 9)),iI 23 (.faddr 4 (.t 22)),iN (.store 0 (.t 23) (.t 16)),iI 24 (.nilchk (.t 10)),iI 25 (.faddr 5 (.t 24)),iN (.store 0 (.t 25) (.t 17))]) (.run [iN (.store 0 (.t 21) (.t 14)),iI 16 (.load 0 (.t 15)),iI 22 (.nilchk (.t 9)),iI 23 (.faddr 4 (.t 22)),iN (.store 0 (.t 23) (.t 16)),iI 24 (.nilchk (.t 10)),iI 25 (.faddr 5 (.t 24)),iN (.store 0 (.t 25) (.t 17))]))) (.fork [] (.fork [iI 16 (.load 0 (.t 15))] (.run [iI 14 (.load 0 (.t 13)),iN (.store 0 (.t 19) (.t 12)),iI 20 (.nilchk (.t 8)),iI 21 (.faddr 3 (.t 20)),iN (.store 0 (.t 21) (.t 14)),iI 22 (.nilchk (.t 9)),iI 23 (.faddr 4 (.t 22)),iN (.store 0 (.t 23) (.t 16)),iI 24 (.nilchk (.t 10)),iI 25 (.faddr 5 (.t 24)),iN (.store 0 (.t 25) (.t 17))]) (.run [iN (.store 0 (.t 19) (.t 12)),iI 14 (.load 0 (.t 13)),iI 20 (.nilchk (.t 8)),iI 21 (.faddr 3 (.t 20)),iN (.store 0 (.t 21) (.t 14)),iI 22 (.nilchk (.t 9)),iI 23 (.faddr 4 (.t 22)),iN (.store 0 (.t 23) (.t 16)),iI 24 (.nilchk (.t 10)),iI 25 (.faddr 5 (.t 24)),iN (.store 0 (.t 25) (.t 17))])) (.fork [iN (.store 0 (.t 19) (.t 12)),iI 14 (.load 0 (.t 13)),iI 20 (.nilchk (.t 8)),iI 21 (.faddr 3 (.t 20))] (.run [iI 16 (.load 0 (.t 15)),iN (.store 0 (.t 21) (.t 14)),iI 22 (.nilchk (.t 9)),iI 23 (.faddr 4 (.t 22)),iN (.store 0 (.t 23) (.t 16)),iI 24 (.nilchk (.t 10)),iI 25 (.faddr 5 (.t 24)),iN (.store 0 (.t 25) (.t 17))]) (.run [iN (.store 0 (.t 21) (.t 14)),iI 16 (.load 0 (.t 15)),iI 22 (.nilchk (.t 9)),iI 23 (.faddr 4 (.t 22)),iN (.store 0 (.t 23) (.t 16)),iI 24 (.nilchk (.t 10)),iI 25 (.faddr 5 (.t 24)),iN (.store 0 (.t 25) (.t 17))]))))) c100_2
def ir100:C:=.seq (.reg [iI 5 (.box (.t 2))]) c100_3
theorem fd100:fd? Try.prog 100=some (48,[],ir100):=by kernel_rfl
noncomputable def f60_J5(x0:NetworkPacket)(x1:(List ReceiverInput))(x2:Int×Bool)(x3:ReceiverInput)(x4:Int):Jn (Unit) ((List ReceiverInput)) where
  run:=fun _=>(f87 ([0]) (IntKind.i64.wrap (512 - ((x0.fSlots.length:Nat):Int)))).bind fun x5=>(cat? x0.fSlots x5).bind fun x6=>(if (decide (x0.fSync=0))=true then (some ((((((x1.set x2.1.toNat (ReceiverInput.mk x3.fUniverse x3.fSource x0.fPriority x3.fSeq x3.fSync x3.fLast x3.fSlots x3.fWait)).set x2.1.toNat (ReceiverInput.mk x3.fUniverse x3.fSource x0.fPriority x0.fSeq x3.fSync x3.fLast x3.fSlots x3.fWait)).set x2.1.toNat (ReceiverInput.mk x3.fUniverse x3.fSource x0.fPriority x0.fSeq x0.fSync x3.fLast x3.fSlots x3.fWait)).set x2.1.toNat (ReceiverInput.mk x3.fUniverse x3.fSource x0.fPriority x0.fSeq x0.fSync x4 x3.fSlots x3.fWait)).set x2.1.toNat (ReceiverInput.mk x3.fUniverse x3.fSource x0.fPriority x0.fSeq x0.fSync x4 x6 x3.fWait)).set x2.1.toNat (ReceiverInput.mk x3.fUniverse x3.fSource x0.fPriority x0.fSeq x0.fSync x4 x6 ([])))) else (some (((((x1.set x2.1.toNat (ReceiverInput.mk x3.fUniverse x3.fSource x0.fPriority x3.fSeq x3.fSync x3.fLast x3.fSlots x3.fWait)).set x2.1.toNat (ReceiverInput.mk x3.fUniverse x3.fSource x0.fPriority x0.fSeq x3.fSync x3.fLast x3.fSlots x3.fWait)).set x2.1.toNat (ReceiverInput.mk x3.fUniverse x3.fSource x0.fPriority x0.fSeq x0.fSync x3.fLast x3.fSlots x3.fWait)).set x2.1.toNat (ReceiverInput.mk x3.fUniverse x3.fSource x0.fPriority x0.fSeq x0.fSync x4 x3.fSlots x3.fWait)).set x2.1.toNat (ReceiverInput.mk x3.fUniverse x3.fSource x0.fPriority x0.fSeq x0.fSync x4 x3.fSlots x6))))
  cst:=fun _=>⟨put (put (fun _=>.junk) 5 (.ptr 3 0)) 0 (.eptr 2 x2.1.toNat 0),[.cel [.int .u64 x0.fSource,.int .i64 x0.fUniverse,.int .i64 x0.fPriority,.int .i64 x0.fSeq,.int .i64 x0.fSync,.bool x0.fEnd,.str x0.fSlots],.dead,.els 8 (((((x1.set x2.1.toNat (ReceiverInput.mk x3.fUniverse x3.fSource x0.fPriority x3.fSeq x3.fSync x3.fLast x3.fSlots x3.fWait)).set x2.1.toNat (ReceiverInput.mk x3.fUniverse x3.fSource x0.fPriority x0.fSeq x3.fSync x3.fLast x3.fSlots x3.fWait)).set x2.1.toNat (ReceiverInput.mk x3.fUniverse x3.fSource x0.fPriority x0.fSeq x0.fSync x3.fLast x3.fSlots x3.fWait)).set x2.1.toNat (ReceiverInput.mk x3.fUniverse x3.fSource x0.fPriority x0.fSeq x0.fSync x4 x3.fSlots x3.fWait)).map eReceiverInput),.cel [.int .u64 x0.fSource,.int .i64 x0.fUniverse,.int .i64 x0.fPriority,.int .i64 x0.fSeq,.int .i64 x0.fSync,.bool x0.fEnd,.str x0.fSlots]]⟩
theorem f60_J5c(x0:NetworkPacket)(x1:(List ReceiverInput))(x2:Int×Bool)(x3:ReceiverInput)(x4:Int)(x_:Unit):(f60_J5 x0 x1 x2 x3 x4).cst x_=⟨put (put (fun _=>.junk) 5 (.ptr 3 0)) 0 (.eptr 2 x2.1.toNat 0),[.cel [.int .u64 x0.fSource,.int .i64 x0.fUniverse,.int .i64 x0.fPriority,.int .i64 x0.fSeq,.int .i64 x0.fSync,.bool x0.fEnd,.str x0.fSlots],.dead,.els 8 (((((x1.set x2.1.toNat (ReceiverInput.mk x3.fUniverse x3.fSource x0.fPriority x3.fSeq x3.fSync x3.fLast x3.fSlots x3.fWait)).set x2.1.toNat (ReceiverInput.mk x3.fUniverse x3.fSource x0.fPriority x0.fSeq x3.fSync x3.fLast x3.fSlots x3.fWait)).set x2.1.toNat (ReceiverInput.mk x3.fUniverse x3.fSource x0.fPriority x0.fSeq x0.fSync x3.fLast x3.fSlots x3.fWait)).set x2.1.toNat (ReceiverInput.mk x3.fUniverse x3.fSource x0.fPriority x0.fSeq x0.fSync x4 x3.fSlots x3.fWait)).map eReceiverInput),.cel [.int .u64 x0.fSource,.int .i64 x0.fUniverse,.int .i64 x0.fPriority,.int .i64 x0.fSeq,.int .i64 x0.fSync,.bool x0.fEnd,.str x0.fSlots]]⟩:=rfl
noncomputable def f60_C4(x0:NetworkPacket)(x1:(List ReceiverInput))(x2:Int×Bool)(x3:ReceiverInput)(x4:Int):Il ((List ReceiverInput)) where
  run:=((f60_J5 x0 x1 x2 x3 x4).run ())
  res:=fun x5=>.tup []
  hp:=fun x5=>[.cel [.int .u64 x0.fSource,.int .i64 x0.fUniverse,.int .i64 x0.fPriority,.int .i64 x0.fSeq,.int .i64 x0.fSync,.bool x0.fEnd,.str x0.fSlots],.dead,.els 8 (x5.map eReceiverInput)]
noncomputable def f60_J7(x0:NetworkPacket)(x1:(List ReceiverInput))(x2:Int×Bool)(x3:ReceiverInput)(x4:Int):Jn (Unit) ((List ReceiverInput)) where
  run:=fun _=>(f87 ([0]) (IntKind.i64.wrap (512 - ((x0.fSlots.length:Nat):Int)))).bind fun x5=>(cat? x0.fSlots x5).bind fun x6=>(if (decide (x0.fSync=0))=true then (some ((((((x1.set x2.1.toNat (ReceiverInput.mk x3.fUniverse x3.fSource x0.fPriority x3.fSeq x3.fSync x3.fLast x3.fSlots x3.fWait)).set x2.1.toNat (ReceiverInput.mk x3.fUniverse x3.fSource x0.fPriority x0.fSeq x3.fSync x3.fLast x3.fSlots x3.fWait)).set x2.1.toNat (ReceiverInput.mk x3.fUniverse x3.fSource x0.fPriority x0.fSeq x0.fSync x3.fLast x3.fSlots x3.fWait)).set x2.1.toNat (ReceiverInput.mk x3.fUniverse x3.fSource x0.fPriority x0.fSeq x0.fSync x4 x3.fSlots x3.fWait)).set x2.1.toNat (ReceiverInput.mk x3.fUniverse x3.fSource x0.fPriority x0.fSeq x0.fSync x4 x6 x3.fWait)).set x2.1.toNat (ReceiverInput.mk x3.fUniverse x3.fSource x0.fPriority x0.fSeq x0.fSync x4 x6 ([])))) else (some (((((x1.set x2.1.toNat (ReceiverInput.mk x3.fUniverse x3.fSource x0.fPriority x3.fSeq x3.fSync x3.fLast x3.fSlots x3.fWait)).set x2.1.toNat (ReceiverInput.mk x3.fUniverse x3.fSource x0.fPriority x0.fSeq x3.fSync x3.fLast x3.fSlots x3.fWait)).set x2.1.toNat (ReceiverInput.mk x3.fUniverse x3.fSource x0.fPriority x0.fSeq x0.fSync x3.fLast x3.fSlots x3.fWait)).set x2.1.toNat (ReceiverInput.mk x3.fUniverse x3.fSource x0.fPriority x0.fSeq x0.fSync x4 x3.fSlots x3.fWait)).set x2.1.toNat (ReceiverInput.mk x3.fUniverse x3.fSource x0.fPriority x0.fSeq x0.fSync x4 x3.fSlots x6))))
  cst:=fun _=>⟨put (put (fun _=>.junk) 5 (.ptr 2 0)) 0 (.eptr 1 x2.1.toNat 0),[.cel [.int .u64 x0.fSource,.int .i64 x0.fUniverse,.int .i64 x0.fPriority,.int .i64 x0.fSeq,.int .i64 x0.fSync,.bool x0.fEnd,.str x0.fSlots],.els 8 (((((x1.set x2.1.toNat (ReceiverInput.mk x3.fUniverse x3.fSource x0.fPriority x3.fSeq x3.fSync x3.fLast x3.fSlots x3.fWait)).set x2.1.toNat (ReceiverInput.mk x3.fUniverse x3.fSource x0.fPriority x0.fSeq x3.fSync x3.fLast x3.fSlots x3.fWait)).set x2.1.toNat (ReceiverInput.mk x3.fUniverse x3.fSource x0.fPriority x0.fSeq x0.fSync x3.fLast x3.fSlots x3.fWait)).set x2.1.toNat (ReceiverInput.mk x3.fUniverse x3.fSource x0.fPriority x0.fSeq x0.fSync x4 x3.fSlots x3.fWait)).map eReceiverInput),.cel [.int .u64 x0.fSource,.int .i64 x0.fUniverse,.int .i64 x0.fPriority,.int .i64 x0.fSeq,.int .i64 x0.fSync,.bool x0.fEnd,.str x0.fSlots]]⟩
theorem f60_J7c(x0:NetworkPacket)(x1:(List ReceiverInput))(x2:Int×Bool)(x3:ReceiverInput)(x4:Int)(x_:Unit):(f60_J7 x0 x1 x2 x3 x4).cst x_=⟨put (put (fun _=>.junk) 5 (.ptr 2 0)) 0 (.eptr 1 x2.1.toNat 0),[.cel [.int .u64 x0.fSource,.int .i64 x0.fUniverse,.int .i64 x0.fPriority,.int .i64 x0.fSeq,.int .i64 x0.fSync,.bool x0.fEnd,.str x0.fSlots],.els 8 (((((x1.set x2.1.toNat (ReceiverInput.mk x3.fUniverse x3.fSource x0.fPriority x3.fSeq x3.fSync x3.fLast x3.fSlots x3.fWait)).set x2.1.toNat (ReceiverInput.mk x3.fUniverse x3.fSource x0.fPriority x0.fSeq x3.fSync x3.fLast x3.fSlots x3.fWait)).set x2.1.toNat (ReceiverInput.mk x3.fUniverse x3.fSource x0.fPriority x0.fSeq x0.fSync x3.fLast x3.fSlots x3.fWait)).set x2.1.toNat (ReceiverInput.mk x3.fUniverse x3.fSource x0.fPriority x0.fSeq x0.fSync x4 x3.fSlots x3.fWait)).map eReceiverInput),.cel [.int .u64 x0.fSource,.int .i64 x0.fUniverse,.int .i64 x0.fPriority,.int .i64 x0.fSeq,.int .i64 x0.fSync,.bool x0.fEnd,.str x0.fSlots]]⟩:=rfl
noncomputable def f60_C6(x0:NetworkPacket)(x1:(List ReceiverInput))(x2:Int×Bool)(x3:ReceiverInput)(x4:Int):Il ((List ReceiverInput)) where
  run:=((f60_J7 x0 x1 x2 x3 x4).run ())
  res:=fun x5=>.tup []
  hp:=fun x5=>[.cel [.int .u64 x0.fSource,.int .i64 x0.fUniverse,.int .i64 x0.fPriority,.int .i64 x0.fSeq,.int .i64 x0.fSync,.bool x0.fEnd,.str x0.fSlots],.els 8 (x5.map eReceiverInput)]
noncomputable def f60_J3(x0:(List ReceiverInput))(x1:NetworkPacket)(x2:Int×Bool)(x3:Int):Jn (Bool) ((List ReceiverInput)×Bool) where
  run:=fun x4=>(if x4=true then (some (x0,false)) else (if x1.fEnd=true then (del? x0 x2.1 (IntKind.i64.wrap (x2.1 + 1))).bind fun x5=>(some (x5,true)) else (if (!x2.2)=true then (ins? 80 x0 x2.1 (ReceiverInput.mk x1.fUniverse x1.fSource 0 0 0 0 ([]) ([]))).bind fun x6=>(at? x6 x2.1).bind fun x7=>((f60_C4 x1 x6 x2 x7 x3).run.bind fun x8=>(must? (x8.length=x6.length)).bind fun _=>(some (x8,true))) else (at? x0 x2.1).bind fun x9=>((f60_C6 x1 x0 x2 x9 x3).run.bind fun xa=>(must? (xa.length=x0.length)).bind fun _=>(some (xa,true))))))
  cst:=fun x4=>⟨put (put (put (put (put (put (fun _=>.junk) 30 (.bool x4)) 10 (.bool x2.2)) 9 (.int .i64 x2.1)) 8 (.row 8 1 0 x0.length)) 5 (.ptr 0 0)) 1 (.int .i64 x3),[.cel [.int .u64 x1.fSource,.int .i64 x1.fUniverse,.int .i64 x1.fPriority,.int .i64 x1.fSeq,.int .i64 x1.fSync,.bool x1.fEnd,.str x1.fSlots],.els 8 (x0.map eReceiverInput)]⟩
theorem f60_J3c(x0:(List ReceiverInput))(x1:NetworkPacket)(x2:Int×Bool)(x3:Int)(x4:Bool):(f60_J3 x0 x1 x2 x3).cst x4=⟨put (put (put (put (put (put (fun _=>.junk) 30 (.bool x4)) 10 (.bool x2.2)) 9 (.int .i64 x2.1)) 8 (.row 8 1 0 x0.length)) 5 (.ptr 0 0)) 1 (.int .i64 x3),[.cel [.int .u64 x1.fSource,.int .i64 x1.fUniverse,.int .i64 x1.fPriority,.int .i64 x1.fSeq,.int .i64 x1.fSync,.bool x1.fEnd,.str x1.fSlots],.els 8 (x0.map eReceiverInput)]⟩:=rfl
def c60_0:C:=.cond (.t 15) (.seq (.reg [iI 16 (.mv (.t 8)),iI 17 (.mv (.t 8)),iI 18 (.load 7 (.t 5)),iI 19 (.call (.c (.fn 95 [])) [(.t 17),(.t 18)]),iI 6 (.mv (.t 16)),iI 7 (.mv (.t 19))]) .ret) (.skip)
def c60_1:C:=.cond (.t 30) (.skip) (.reg [iI 42 (.mv (.t 10)),iI 43 (.mv (.t 42)),iG (some 44) 43 true (.mv (.t 8)),iG (some 45) 43 true (.mv (.t 9)),iG (some 46) 43 true (.iaddr 8 (.t 44) (.t 45)),iG (some 47) 43 true (.faddr 3 (.t 46)),iG (some 48) 43 true (.load 0 (.t 47)),iG (some 49) 43 true (.faddr 3 (.t 5)),iG (some 50) 43 true (.load 0 (.t 49)),iG (some 51) 43 true (.call (.c (.fn 97 [])) [(.t 48),(.t 50)]),iG (some 52) 43 true (.un .not (.t 51)),iI 53 (.pick (.t 43) (.t 52) (.c (.bool false))),iI 30 (.mv (.t 53))])
def c60_2:C:=.cond (.t 63) (.reg [iI 66 (.mv (.t 8)),iI 67 (.mv (.t 9)),iI 68 (.faddr 1 (.t 5)),iI 69 (.load 0 (.t 68)),iI 70 (.faddr 0 (.t 5)),iI 71 (.load 0 (.t 70)),iI 72 (.build [(1,(.int .i64 0)),(1,(.int .u64 0)),(1,(.int .i64 0)),(1,(.int .i64 0)),(1,(.int .i64 0)),(1,(.int .i64 0)),(1,(.str [])),(1,(.str []))] [(0,0,(.t 69)),(1,0,(.t 71))]),iI 73 (.mkslp 8 1 (.agg [(.int .i64 0),(.int .u64 0),(.int .i64 0),(.int .i64 0),(.int .i64 0),(.int .i64 0),(.str []),(.str [])]) [(0,(.t 72))]),iI 74 (.call (.c (.fn 99 [])) [(.t 66),(.t 67),(.t 73)]),iI 8 (.mv (.t 74))]) (.skip)
def c60_3:C:=.cond (.t 55) (.seq (.reg [iI 58 (.mv (.t 8)),iI 59 (.mv (.t 9)),iI 60 (.mv (.t 9)),iI 61 (.bin .add (.t 60) (.c (.int .i64 1))),iI 62 (.call (.c (.fn 98 [])) [(.t 58),(.t 59),(.t 61)]),iI 6 (.mv (.t 62)),iI 7 (.mv (.c (.bool true)))]) .ret) (.seq (.reg [iI 64 (.mv (.t 10)),iI 65 (.un .not (.t 64)),iI 63 (.mv (.t 65))]) c60_2)
def c60_4:C:=.cond (.t 30) (.seq (.reg [iI 54 (.mv (.t 8)),iI 6 (.mv (.t 54)),iI 7 (.mv (.c (.bool false)))]) .ret) (.seq (.reg [iI 56 (.faddr 5 (.t 5)),iI 57 (.load 0 (.t 56)),iI 55 (.mv (.t 57))]) c60_3)
def c60_5:C:=.seq (.reg [iI 81 (.mv (.t 8)),iI 6 (.mv (.t 81)),iI 7 (.mv (.c (.bool true)))]) .ret
def c60_6:C:=.seq (.reg [iI 75 (.mv (.t 8)),iI 76 (.mv (.t 9)),iI 77 (.iaddr 8 (.t 75) (.t 76)),iI 78 (.mv (.t 1)),iI 79 (.load 7 (.t 5)),iI 80 (.call (.c (.fn 100 [])) [(.t 77),(.t 78),(.t 79)])]) c60_5
def c60_7:C:=.seq (.block 0 (.seq (.seq (.reg [iI 31 (.mv (.t 10)),iI 32 (.un .not (.t 31)),iI 33 (.mv (.t 32)),iG (some 34) 33 true (.faddr 5 (.t 5)),iG (some 35) 33 true (.load 0 (.t 34)),iG (some 36) 33 true (.mv (.t 35)),iG (some 37) 36 false (.mv (.t 8)),iG (some 38) 36 false (.len 0 (.t 37)),iG (some 39) 36 false (.bin .eql (.t 38) (.c (.int .i64 64))),iG (some 40) 33 true (.pick (.t 36) (.c (.bool true)) (.t 39)),iI 41 (.pick (.t 33) (.t 40) (.c (.bool false))),iI 30 (.mv (.t 41))]) c60_1) c60_4)) c60_6
def c60_8:C:=.seq (.reg [iI 21 (.mv (.t 8)),iI 22 (.faddr 1 (.t 5)),iI 23 (.load 0 (.t 22)),iI 24 (.faddr 0 (.t 5)),iI 25 (.load 0 (.t 24)),iI 26 (.build [(1,(.int .i64 0)),(1,(.int .u64 0))] [(0,0,(.t 23)),(1,0,(.t 25))]),iI 27 (.call (.c (.fn 96 [])) [(.t 21),(.t 26),(.c (.fn 65 [])),(.c (.fn 64 []))]),iI 20 (.mv (.t 27)),iI 28 (.ext (.t 20) 0),iI 29 (.ext (.t 20) 1),iI 9 (.mv (.t 28)),iI 10 (.mv (.t 29))]) c60_7
def c60_9:C:=.seq (.seq (.reg [iI 13 (.faddr 1 (.t 5)),iI 14 (.load 0 (.t 13)),iI 15 (.bin .eql (.t 14) (.c (.int .i64 0)))]) c60_0) c60_8
def c60_10:C:=.seq (.reg [iI 11 (.mv (.t 0)),iI 12 (.call (.c (.fn 39 [])) [(.t 11)]),iI 8 (.mv (.t 12))]) c60_9
def ir60:C:=.seq (.reg [iI 5 (.box (.t 2)),iI 6 (.mv (.c (.sl 8 true []))),iI 7 (.mv (.c (.bool false)))]) c60_10
theorem fd60:fd? Try.prog 60=some (82,[.slot 6,.slot 7],ir60):=by kernel_rfl
noncomputable def f60(x0:(List ReceiverInput))(x1:Int)(x2:NetworkPacket):Option ((List ReceiverInput)×Bool) :=
  (f39 x0).bind fun x3=>(if (decide (x2.fUniverse=0))=true then ((f60_C1 x3 x2).run.bind fun (x4,x5)=>(must? (x5.length=x3.length)).bind fun _=>(some (x5,x4))) else (f96_65_64 x3 (ReceiverPlace.mk x2.fUniverse x2.fSource)).bind fun x6=>(if (!x6.2)=true then (if x2.fEnd=true then ((f60_J3 x3 x2 x6 x1).run true) else (if (decide (((x3.length:Nat):Int)=64))=true then ((f60_J3 x3 x2 x6 x1).run (decide (((x3.length:Nat):Int)=64))) else (if x6.2=true then (at? x3 x6.1).bind fun x7=>(f97 x7.fSeq x2.fSeq).bind fun x8=>((f60_J3 x3 x2 x6 x1).run (!x8)) else ((f60_J3 x3 x2 x6 x1).run false)))) else (if x6.2=true then (at? x3 x6.1).bind fun x9=>(f97 x9.fSeq x2.fSeq).bind fun xa=>((f60_J3 x3 x2 x6 x1).run (!xa)) else ((f60_J3 x3 x2 x6 x1).run false))))
theorem f60_ok{x0:(List ReceiverInput)}{x1:Int}{x2:NetworkPacket}{r_:(List ReceiverInput)×Bool}(H:f60 x0 x1 x2=some r_):Pure Try.prog 60 [.sl 8 false (x0.map eReceiverInput),.int .i64 x1,.agg [.int .u64 x2.fSource,.int .i64 x2.fUniverse,.int .i64 x2.fPriority,.int .i64 x2.fSeq,.int .i64 x2.fSync,.bool x2.fEnd,.str x2.fSlots]] (· = .tup [.fr 8 (r_.1.map eReceiverInput),.bool r_.2]):=by
 refine Pure.walk3 fd60 (some 0) (Nat.le_of_ble_eq_true rfl) (by rfl) fun Q hQ=>?_
 simp only[f60] at H
 refine AW.rseq ?_
 try simp only[↓wk,↓wl,nqs,evV,↓reduceIte,sevalprocAttr]
 refine AW.rseq ?_
 try simp only[↓wk,↓wl,nqs,evV,↓reduceIte,sevalprocAttr]
 refine evTs_fr H (fun _ h=>f39_ok h) (by rfl) (by rfl) (by rfl) (by rfl) (fun _=>rfl) ?_<;>clear H<;>intro x3 H
 try simp only[eL,↓wk,↓wl,nqs,evV,↓reduceIte,sevalprocAttr]
 refine AW.sseq ?_
 refine AW.rseq ?_
 try simp only[↓wk,↓wl,nqs,evV,↓reduceIte,sevalprocAttr]
 refine AW.ifc H (by rfl) ?_ ?_<;>clear H<;>intro H
 ·refine AW.rseq ?_
  try simp only[↓wk,↓wl,nqs,evV,↓reduceIte,sevalprocAttr]
  refine evTs_inl (I:=f60_C1 x3 x2) (args:=[.row 8 1 0 x3.length,.agg [.int .u64 x2.fSource,.int .i64 x2.fUniverse,.int .i64 x2.fPriority,.int .i64 x2.fSeq,.int .i64 x2.fSync,.bool x2.fEnd,.str x2.fSlots]]) H (by rfl) fd95 (by rfl) (Nat.le_of_ble_eq_true rfl) ?_ ?_<;>clear H
  ·rintro v_ Q_ H hqf60_C1
   simp only[f60_C1] at H
   dsimp only[List.length_cons,List.length_nil]
   refine AW.rseq ?_
   try simp only[↓wk,↓wl,nqs,evV,↓reduceIte,sevalprocAttr]
   refine AW.rseq ?_
   try simp only[↓wk,↓wl,nqs,evV,↓reduceIte,sevalprocAttr]
   refine AW.sseq ?_
   refine AW.rseq ?_
   try simp only[↓wk,↓wl,nqs,evV,↓reduceIte,sevalprocAttr]
   refine AW.bend ?_
   refine AW.iter H ((Le.tq 2 [0,1,2] [0,3,5,9,10] (by simp only[f60_L2c,rrm,↓wk,↓wl,evV,↓reduceIte,sevalprocAttr]<;>rfl))) ?_<;>clear H
   rintro ⟨x4,x5,x6⟩ x_ st0_ H hst_
   rw[f60_L2c] at hst_
   simp only[f60_L2] at H
   subst hst_
   refine AW.rseq ?_
   try simp only[↓wk,↓wl,nqs,evV,↓reduceIte,sevalprocAttr]
   refine AW.sseq ?_
   refine AW.ifc H (by rfl) ?_ ?_<;>clear H<;>intro H
   ·refine AW.skip ?_
    refine seqQ.norm ?_
    refine AW.bseq ?_
    refine AW.rseq ?_
    try simp only[↓wk,↓wl,nqs,evV,↓reduceIte,sevalprocAttr]
    refine AW.rseq ?_
    try simp only[↓wk,↓wl,nqs,evV,↓reduceIte,sevalprocAttr]
    refine evTs_atr (enc:=eReceiverInput) H (by rfl) (by first | rfl | simp only[List.length_set]) (by rfl) ?_<;>clear H<;>intro x7 x8 H
    try simp only[eReceiverInput,eL,↓wk,↓wl,nqs,evV,↓reduceIte,sevalprocAttr,x8,eReceiverInput,eL]
    refine AW.rseq ?_
    try simp only[↓wk,↓wl,nqs,evV,↓reduceIte,sevalprocAttr,x8,eReceiverInput,eL]
    refine evTs_ifg H (by rfl) ?_ ?_<;>clear H<;>intro H
    ·try simp only[↓wk,↓wl,nqs,evV,↓reduceIte,sevalprocAttr,x8,eReceiverInput,eL]
     refine evTs_ifg H (by rfl) ?_ ?_<;>clear H<;>intro H
     ·try simp only[↓wk,↓wl,nqs,evV,↓reduceIte,sevalprocAttr,x8,eReceiverInput,eL]
      refine AW.ifc H (by rfl) ?_ ?_<;>clear H<;>intro H
      ·refine AW.rend ?_
       try simp only[↓wk,↓wl,nqs,evV,↓reduceIte,sevalprocAttr,x8,eReceiverInput,eL]
       refine evTs_stE (enc:=eReceiverInput) x7 (ReceiverInput.mk x7.fUniverse x7.fSource x7.fPriority x7.fSeq x7.fSync x7.fLast x7.fWait x7.fWait) (by rfl) (by rfl) x8 (by rfl) ?_
       have x9:=set_get x8 (ReceiverInput.mk x7.fUniverse x7.fSource x7.fPriority x7.fSeq x7.fSync x7.fLast x7.fWait x7.fWait)
       try simp only[eReceiverInput,eL,↓wk,↓wl,nqs,evV,↓reduceIte,sevalprocAttr,x8,eReceiverInput,eL,x9]
       refine evTs_stE (enc:=eReceiverInput) (ReceiverInput.mk x7.fUniverse x7.fSource x7.fPriority x7.fSeq x7.fSync x7.fLast x7.fWait x7.fWait) (ReceiverInput.mk x7.fUniverse x7.fSource x7.fPriority x7.fSeq x7.fSync x7.fLast x7.fWait ([])) (by rfl) (by rfl) x9 (by rfl) ?_
       have xa:=set_get x9 (ReceiverInput.mk x7.fUniverse x7.fSource x7.fPriority x7.fSeq x7.fSync x7.fLast x7.fWait ([]))
       try simp only[eReceiverInput,eL,↓wk,↓wl,nqs,evV,↓reduceIte,sevalprocAttr,x8,eReceiverInput,eL,x9,xa]
       refine blkQ.norm ?_
       refine AW.rend ?_
       try simp only[↓wk,↓wl,nqs,evV,↓reduceIte,sevalprocAttr,x8,eReceiverInput,eL,x9,xa]
       exact loopQ.next H ((Le.tq 2 [0,1,2] [0,3,5,9,10] (by simp only[f60_L2c,rrm,↓wk,↓wl,evV,↓reduceIte,sevalprocAttr,x8,eReceiverInput,eL,x9,xa]<;>rfl)))
      ·refine AW.skip ?_
       refine blkQ.norm ?_
       refine AW.rend ?_
       try simp only[↓wk,↓wl,nqs,evV,↓reduceIte,sevalprocAttr,x8,eReceiverInput,eL]
       exact loopQ.next H ((Le.tq 2 [0,1,2] [0,3,5,9,10] (by simp only[f60_L2c,rrm,↓wk,↓wl,evV,↓reduceIte,sevalprocAttr,x8,eReceiverInput,eL]<;>rfl)))
     ·try simp only[↓wk,↓wl,nqs,evV,↓reduceIte,sevalprocAttr,x8,eReceiverInput,eL]
      refine AW.iff (by rfl) ?_
      refine AW.skip ?_
      refine blkQ.norm ?_
      refine AW.rend ?_
      try simp only[↓wk,↓wl,nqs,evV,↓reduceIte,sevalprocAttr,x8,eReceiverInput,eL]
      exact loopQ.next H ((Le.tq 2 [0,1,2] [0,3,5,9,10] (by simp only[f60_L2c,rrm,↓wk,↓wl,evV,↓reduceIte,sevalprocAttr,x8,eReceiverInput,eL]<;>rfl)))
    ·try simp only[↓wk,↓wl,nqs,evV,↓reduceIte,sevalprocAttr,x8,eReceiverInput,eL]
     refine AW.iff (by rfl) ?_
     refine AW.skip ?_
     refine blkQ.norm ?_
     refine AW.rend ?_
     try simp only[↓wk,↓wl,nqs,evV,↓reduceIte,sevalprocAttr,x8,eReceiverInput,eL]
     exact loopQ.next H ((Le.tq 2 [0,1,2] [0,3,5,9,10] (by simp only[f60_L2c,rrm,↓wk,↓wl,evV,↓reduceIte,sevalprocAttr,x8,eReceiverInput,eL]<;>rfl)))
   ·refine AW.exit ?_
    refine seqQ.exit ?_
    refine loopQ.exit H ?_<;>clear H<;>intro H
    try dsimp only at H
    refine blk0.here ?_
    refine seqQ.norm ?_
    refine AW.rseq ?_
    try simp only[↓wk,↓wl,nqs,evV,↓reduceIte,sevalprocAttr]
    refine AW.ret ?_
    cases H
    exact hqf60_C1 _ _ _ (.inr rfl) (Le.tq 2 [0,1] [4] rfl) (by simp only[resVs,omap,resV,f60_C1,rrm,↓wk,↓wl,evV,↓reduceIte,sevalprocAttr]) (by simp only[f60_C1,rrm,↓wk,↓wl,evV,↓reduceIte,sevalprocAttr])
  ·rintro ⟨xb,xc⟩ s_ h_ H hs_ hh_
   simp only[f60_C1] at H hs_ hh_
   subst hs_
   subst hh_
   have xd:=(must_inv H).1
   have xe:=fun f=>take_map_eq xd f
   replace H:=(must_inv H).2
   try simp only[↓wk,↓wl,nqs,evV,↓reduceIte,sevalprocAttr,xd,xe]
   refine AW.ret ?_
   refine seqQ.ret ?_
   cases H
   exact hQ _ _ _ _ (.inr rfl) (by simp only[resVs,omap,resV,↓wk,↓wl,nqs,evV,↓reduceIte,sevalprocAttr,xd,xe];rfl) (hand_k (by rfl) (by rfl) (by first | rfl | (simp only[List.length_map,List.length_set,xd];done) | simp[xd]) (enc_all _) (by rfl)) (by first | exact Or.inl rfl | exact Or.inr rfl)
 ·refine AW.skip ?_
  refine seqQ.norm ?_
  refine AW.rseq ?_
  try simp only[↓wk,↓wl,nqs,evV,↓reduceIte,sevalprocAttr]
  refine evTs_flat hFn H (fun _ h=>f96_65_64_ok h) (by rfl) (by rfl) (by simp only[deep_eq,imm_simps,imm_rowE,imm_ptrE,imm_enc,omap_simps,take_map_len,take_map_set,take_map_set2,List.length_set,le_refl_true,Nat.zero_add,and_true,true_and,List.drop_zero,Option.map_some,↓wk,↓wl,nqs,evV,↓reduceIte,sevalprocAttr];rfl) (by rfl) (fun _=>rfl) (fun _=>rfl) ?_<;>clear H<;>intro xf H
  try simp only[eL,↓wk,↓wl,nqs,evV,↓reduceIte,sevalprocAttr]
  refine AW.bseq ?_
  refine AW.join (f60_J3 x3 x2 xf x1) H ?_ fun hf60_J3=>?_
  ·clear H
   rintro xg st0_ H hst_
   rw[f60_J3c] at hst_
   simp only[f60_J3] at H
   subst hst_
   refine AW.ifc H (by rfl) ?_ ?_<;>clear H<;>intro H
   ·refine AW.rseq ?_
    try simp only[↓wk,↓wl,nqs,evV,↓reduceIte,sevalprocAttr]
    refine AW.ret ?_
    refine blkQ.ret ?_
    cases H
    exact hQ _ _ _ _ (.inr rfl) (by simp only[resVs,omap,resV,↓wk,↓wl,nqs,evV,↓reduceIte,sevalprocAttr];rfl) (hand_k (by rfl) (by rfl) (by simp) (enc_all _) (by rfl)) (by first | exact Or.inl rfl | exact Or.inr rfl)
   ·refine AW.rseq ?_
    try simp only[↓wk,↓wl,nqs,evV,↓reduceIte,sevalprocAttr]
    refine AW.ifc H (by rfl) ?_ ?_<;>clear H<;>intro H
    ·refine AW.rseq ?_
     try simp only[↓wk,↓wl,nqs,evV,↓reduceIte,sevalprocAttr]
     refine evTs_del (enc:=eReceiverInput) H del98 (by rfl) (by rfl) (by first | rfl | simp only[List.length_set]) (by rfl) ?_<;>clear H<;>intro xh H
     try simp only[↓wk,↓wl,nqs,evV,↓reduceIte,sevalprocAttr]
     refine AW.ret ?_
     refine blkQ.ret ?_
     cases H
     exact hQ _ _ _ _ (.inr rfl) (by simp only[resVs,omap,resV,↓wk,↓wl,nqs,evV,↓reduceIte,sevalprocAttr];rfl) (hand_k (by rfl) (by rfl) (by simp) (enc_all _) (by rfl)) (by first | exact Or.inl rfl | exact Or.inr rfl)
    ·refine AW.rseq ?_
     try simp only[↓wk,↓wl,nqs,evV,↓reduceIte,sevalprocAttr]
     refine AW.ifc H (by rfl) ?_ ?_<;>clear H<;>intro H
     ·refine AW.rend ?_
      try simp only[↓wk,↓wl,nqs,evV,↓reduceIte,sevalprocAttr]
      refine evTs_ins (enc:=eReceiverInput) H ins99 (by rfl) (by rfl) (by first | rfl | simp only[List.length_set]) (by rfl) ?_<;>clear H<;>intro xi H
      try simp only[↓wk,↓wl,nqs,evV,↓reduceIte,sevalprocAttr]
      refine blkQ.norm ?_
      refine AW.rseq ?_
      try simp only[↓wk,↓wl,nqs,evV,↓reduceIte,sevalprocAttr]
      refine evTs_atr (enc:=eReceiverInput) H (by rfl) (by first | rfl | simp only[List.length_set]) (by rfl) ?_<;>clear H<;>intro xj xk H
      try simp only[eReceiverInput,eL,↓wk,↓wl,nqs,evV,↓reduceIte,sevalprocAttr,xk,eReceiverInput,eL]
      refine evTs_inl (I:=f60_C4 x2 xi xf xj x1) (args:=[.eptr 2 xf.1.toNat 0,.int .i64 x1,.agg [.int .u64 x2.fSource,.int .i64 x2.fUniverse,.int .i64 x2.fPriority,.int .i64 x2.fSeq,.int .i64 x2.fSync,.bool x2.fEnd,.str x2.fSlots]]) H (by rfl) fd100 (by rfl) (Nat.le_of_ble_eq_true rfl) ?_ ?_<;>clear H
      ·rintro v_ Q_ H hqf60_C4
       simp only[f60_C4] at H
       dsimp only[List.length_cons,List.length_nil]
       refine AW.rseq ?_
       try simp only[↓wk,↓wl,nqs,evV,↓reduceIte,sevalprocAttr,xk,eReceiverInput,eL]
       refine AW.join (f60_J5 x2 xi xf xj x1) H ?_ fun hf60_J5=>?_
       ·clear H
        rintro _ st0_ H hst_
        rw[f60_J5c] at hst_
        simp only[f60_J5] at H
        subst hst_
        have xl:=set_get xk (ReceiverInput.mk xj.fUniverse xj.fSource x2.fPriority xj.fSeq xj.fSync xj.fLast xj.fSlots xj.fWait)
        have xm:=set_get xl (ReceiverInput.mk xj.fUniverse xj.fSource x2.fPriority x2.fSeq xj.fSync xj.fLast xj.fSlots xj.fWait)
        have xn:=set_get xm (ReceiverInput.mk xj.fUniverse xj.fSource x2.fPriority x2.fSeq x2.fSync xj.fLast xj.fSlots xj.fWait)
        have xo:=set_get xn (ReceiverInput.mk xj.fUniverse xj.fSource x2.fPriority x2.fSeq x2.fSync x1 xj.fSlots xj.fWait)
        refine AW.rqseq ?_
        try simp only[↓wk,↓wl,nqs,evV,↓reduceIte,sevalprocAttr,xk,eReceiverInput,eL]
        refine evTs_pure hFnq H (fun _ h=>f87_ok h) (by rfl) (by rfl) (by rfl) (by rfl) (fun _=>rfl) ?_<;>clear H<;>intro xp H
        try simp only[eL,↓wk,↓wl,nqs,evV,↓reduceIte,sevalprocAttr,xk,eReceiverInput,eL]
        refine rest_cat H ?_<;>clear H<;>intro xq H
        try simp only[↓wk,↓wl,nqs,evV,↓reduceIte,sevalprocAttr,xk,eReceiverInput,eL]
        refine AW.rseq ?_
        try simp only[↓wk,↓wl,nqs,evV,↓reduceIte,sevalprocAttr,xk,eReceiverInput,eL]
        refine AW.ifc H (by rfl) ?_ ?_<;>clear H<;>intro H
        ·refine AW.rend ?_
         try simp only[↓wk,↓wl,nqs,evV,↓reduceIte,sevalprocAttr,xk,eReceiverInput,eL]
         refine evTs_stE (enc:=eReceiverInput) (ReceiverInput.mk xj.fUniverse xj.fSource x2.fPriority x2.fSeq x2.fSync x1 xj.fSlots xj.fWait) (ReceiverInput.mk xj.fUniverse xj.fSource x2.fPriority x2.fSeq x2.fSync x1 xq xj.fWait) (by rfl) (by rfl) xo (by rfl) ?_
         have xr:=set_get xo (ReceiverInput.mk xj.fUniverse xj.fSource x2.fPriority x2.fSeq x2.fSync x1 xq xj.fWait)
         try simp only[eReceiverInput,eL,↓wk,↓wl,nqs,evV,↓reduceIte,sevalprocAttr,xk,eReceiverInput,eL,xr]
         refine evTs_stE (enc:=eReceiverInput) (ReceiverInput.mk xj.fUniverse xj.fSource x2.fPriority x2.fSeq x2.fSync x1 xq xj.fWait) (ReceiverInput.mk xj.fUniverse xj.fSource x2.fPriority x2.fSeq x2.fSync x1 xq ([])) (by rfl) (by rfl) xr (by rfl) ?_
         have xs:=set_get xr (ReceiverInput.mk xj.fUniverse xj.fSource x2.fPriority x2.fSeq x2.fSync x1 xq ([]))
         try simp only[eReceiverInput,eL,↓wk,↓wl,nqs,evV,↓reduceIte,sevalprocAttr,xk,eReceiverInput,eL,xr,xs]
         cases H
         exact hqf60_C4 _ _ _ (.inl rfl) (Le.tq 3 [0,1,2] [] rfl) (by simp only[resVs,omap,resV,f60_C4,rrm,↓wk,↓wl,evV,↓reduceIte,sevalprocAttr,xk,eReceiverInput,eL,xr,xs]) (by simp only[f60_C4,rrm,↓wk,↓wl,evV,↓reduceIte,sevalprocAttr,xk,eReceiverInput,eL,xr,xs])
        ·refine AW.rend ?_
         try simp only[↓wk,↓wl,nqs,evV,↓reduceIte,sevalprocAttr,xk,eReceiverInput,eL]
         refine evTs_stE (enc:=eReceiverInput) (ReceiverInput.mk xj.fUniverse xj.fSource x2.fPriority x2.fSeq x2.fSync x1 xj.fSlots xj.fWait) (ReceiverInput.mk xj.fUniverse xj.fSource x2.fPriority x2.fSeq x2.fSync x1 xj.fSlots xq) (by rfl) (by rfl) xo (by rfl) ?_
         have xt:=set_get xo (ReceiverInput.mk xj.fUniverse xj.fSource x2.fPriority x2.fSeq x2.fSync x1 xj.fSlots xq)
         try simp only[eReceiverInput,eL,↓wk,↓wl,nqs,evV,↓reduceIte,sevalprocAttr,xk,eReceiverInput,eL,xt]
         cases H
         exact hqf60_C4 _ _ _ (.inl rfl) (Le.tq 3 [0,1,2] [] rfl) (by simp only[resVs,omap,resV,f60_C4,rrm,↓wk,↓wl,evV,↓reduceIte,sevalprocAttr,xk,eReceiverInput,eL,xt]) (by simp only[f60_C4,rrm,↓wk,↓wl,evV,↓reduceIte,sevalprocAttr,xk,eReceiverInput,eL,xt])
       ·refine AW.regt ?_
        refine evR.fork ?_
        try simp only[↓wk,↓wl,nqs,evV,↓reduceIte,sevalprocAttr,xk,eReceiverInput,eL]
        refine evR.both ?_ ?_
        ·refine evR.fork ?_
         try simp only[↓wk,↓wl,nqs,evV,↓reduceIte,sevalprocAttr,xk,eReceiverInput,eL]
         refine evR.both ?_ ?_
         ·refine evR.run ?_
          try simp only[↓wk,↓wl,nqs,evV,↓reduceIte,sevalprocAttr,xk,eReceiverInput,eL]
          refine evTs_stE (enc:=eReceiverInput) xj (ReceiverInput.mk xj.fUniverse xj.fSource x2.fPriority xj.fSeq xj.fSync xj.fLast xj.fSlots xj.fWait) (by rfl) (by rfl) xk (by rfl) ?_
          have xu:=set_get xk (ReceiverInput.mk xj.fUniverse xj.fSource x2.fPriority xj.fSeq xj.fSync xj.fLast xj.fSlots xj.fWait)
          try simp only[eReceiverInput,eL,↓wk,↓wl,nqs,evV,↓reduceIte,sevalprocAttr,xk,eReceiverInput,eL,xu]
          refine evTs_stE (enc:=eReceiverInput) (ReceiverInput.mk xj.fUniverse xj.fSource x2.fPriority xj.fSeq xj.fSync xj.fLast xj.fSlots xj.fWait) (ReceiverInput.mk xj.fUniverse xj.fSource x2.fPriority x2.fSeq xj.fSync xj.fLast xj.fSlots xj.fWait) (by rfl) (by rfl) xu (by rfl) ?_
          have xv:=set_get xu (ReceiverInput.mk xj.fUniverse xj.fSource x2.fPriority x2.fSeq xj.fSync xj.fLast xj.fSlots xj.fWait)
          try simp only[eReceiverInput,eL,↓wk,↓wl,nqs,evV,↓reduceIte,sevalprocAttr,xk,eReceiverInput,eL,xu,xv]
          refine evTs_stE (enc:=eReceiverInput) (ReceiverInput.mk xj.fUniverse xj.fSource x2.fPriority x2.fSeq xj.fSync xj.fLast xj.fSlots xj.fWait) (ReceiverInput.mk xj.fUniverse xj.fSource x2.fPriority x2.fSeq x2.fSync xj.fLast xj.fSlots xj.fWait) (by rfl) (by rfl) xv (by rfl) ?_
          have xw:=set_get xv (ReceiverInput.mk xj.fUniverse xj.fSource x2.fPriority x2.fSeq x2.fSync xj.fLast xj.fSlots xj.fWait)
          try simp only[eReceiverInput,eL,↓wk,↓wl,nqs,evV,↓reduceIte,sevalprocAttr,xk,eReceiverInput,eL,xu,xv,xw]
          refine evTs_stE (enc:=eReceiverInput) (ReceiverInput.mk xj.fUniverse xj.fSource x2.fPriority x2.fSeq x2.fSync xj.fLast xj.fSlots xj.fWait) (ReceiverInput.mk xj.fUniverse xj.fSource x2.fPriority x2.fSeq x2.fSync x1 xj.fSlots xj.fWait) (by rfl) (by rfl) xw (by rfl) ?_
          have xx:=set_get xw (ReceiverInput.mk xj.fUniverse xj.fSource x2.fPriority x2.fSeq x2.fSync x1 xj.fSlots xj.fWait)
          try simp only[eReceiverInput,eL,↓wk,↓wl,nqs,evV,↓reduceIte,sevalprocAttr,xk,eReceiverInput,eL,xu,xv,xw,xx]
          refine seqQ.norm ?_
          exact hf60_J5 _ _ H ((Le.tq 3 [0,1,2,3] [0,5] (by simp only[f60_J5c,rrm,↓wk,↓wl,evV,↓reduceIte,sevalprocAttr,xk,eReceiverInput,eL,xu,xv,xw,xx]<;>rfl)))
         ·refine evR.fork ?_
          try simp only[↓wk,↓wl,nqs,evV,↓reduceIte,sevalprocAttr,xk,eReceiverInput,eL]
          refine evTs_stE (enc:=eReceiverInput) xj (ReceiverInput.mk xj.fUniverse xj.fSource x2.fPriority xj.fSeq xj.fSync xj.fLast xj.fSlots xj.fWait) (by rfl) (by rfl) xk (by rfl) ?_
          have xu:=set_get xk (ReceiverInput.mk xj.fUniverse xj.fSource x2.fPriority xj.fSeq xj.fSync xj.fLast xj.fSlots xj.fWait)
          try simp only[eReceiverInput,eL,↓wk,↓wl,nqs,evV,↓reduceIte,sevalprocAttr,xk,eReceiverInput,eL,xu]
          refine evR.both ?_ ?_
          ·refine evR.run ?_
           try simp only[↓wk,↓wl,nqs,evV,↓reduceIte,sevalprocAttr,xk,eReceiverInput,eL,xu]
           refine evTs_stE (enc:=eReceiverInput) (ReceiverInput.mk xj.fUniverse xj.fSource x2.fPriority xj.fSeq xj.fSync xj.fLast xj.fSlots xj.fWait) (ReceiverInput.mk xj.fUniverse xj.fSource x2.fPriority x2.fSeq xj.fSync xj.fLast xj.fSlots xj.fWait) (by rfl) (by rfl) xu (by rfl) ?_
           have xv:=set_get xu (ReceiverInput.mk xj.fUniverse xj.fSource x2.fPriority x2.fSeq xj.fSync xj.fLast xj.fSlots xj.fWait)
           try simp only[eReceiverInput,eL,↓wk,↓wl,nqs,evV,↓reduceIte,sevalprocAttr,xk,eReceiverInput,eL,xu,xv]
           refine evTs_stE (enc:=eReceiverInput) (ReceiverInput.mk xj.fUniverse xj.fSource x2.fPriority x2.fSeq xj.fSync xj.fLast xj.fSlots xj.fWait) (ReceiverInput.mk xj.fUniverse xj.fSource x2.fPriority x2.fSeq x2.fSync xj.fLast xj.fSlots xj.fWait) (by rfl) (by rfl) xv (by rfl) ?_
           have xw:=set_get xv (ReceiverInput.mk xj.fUniverse xj.fSource x2.fPriority x2.fSeq x2.fSync xj.fLast xj.fSlots xj.fWait)
           try simp only[eReceiverInput,eL,↓wk,↓wl,nqs,evV,↓reduceIte,sevalprocAttr,xk,eReceiverInput,eL,xu,xv,xw]
           refine evTs_stE (enc:=eReceiverInput) (ReceiverInput.mk xj.fUniverse xj.fSource x2.fPriority x2.fSeq x2.fSync xj.fLast xj.fSlots xj.fWait) (ReceiverInput.mk xj.fUniverse xj.fSource x2.fPriority x2.fSeq x2.fSync x1 xj.fSlots xj.fWait) (by rfl) (by rfl) xw (by rfl) ?_
           have xx:=set_get xw (ReceiverInput.mk xj.fUniverse xj.fSource x2.fPriority x2.fSeq x2.fSync x1 xj.fSlots xj.fWait)
           try simp only[eReceiverInput,eL,↓wk,↓wl,nqs,evV,↓reduceIte,sevalprocAttr,xk,eReceiverInput,eL,xu,xv,xw,xx]
           refine seqQ.norm ?_
           exact hf60_J5 _ _ H ((Le.tq 3 [0,1,2,3] [0,5] (by simp only[f60_J5c,rrm,↓wk,↓wl,evV,↓reduceIte,sevalprocAttr,xk,eReceiverInput,eL,xu,xv,xw,xx]<;>rfl)))
          ·refine evR.run ?_
           try simp only[↓wk,↓wl,nqs,evV,↓reduceIte,sevalprocAttr,xk,eReceiverInput,eL,xu]
           refine evTs_stE (enc:=eReceiverInput) (ReceiverInput.mk xj.fUniverse xj.fSource x2.fPriority xj.fSeq xj.fSync xj.fLast xj.fSlots xj.fWait) (ReceiverInput.mk xj.fUniverse xj.fSource x2.fPriority x2.fSeq xj.fSync xj.fLast xj.fSlots xj.fWait) (by rfl) (by rfl) xu (by rfl) ?_
           have xv:=set_get xu (ReceiverInput.mk xj.fUniverse xj.fSource x2.fPriority x2.fSeq xj.fSync xj.fLast xj.fSlots xj.fWait)
           try simp only[eReceiverInput,eL,↓wk,↓wl,nqs,evV,↓reduceIte,sevalprocAttr,xk,eReceiverInput,eL,xu,xv]
           refine evTs_stE (enc:=eReceiverInput) (ReceiverInput.mk xj.fUniverse xj.fSource x2.fPriority x2.fSeq xj.fSync xj.fLast xj.fSlots xj.fWait) (ReceiverInput.mk xj.fUniverse xj.fSource x2.fPriority x2.fSeq x2.fSync xj.fLast xj.fSlots xj.fWait) (by rfl) (by rfl) xv (by rfl) ?_
           have xw:=set_get xv (ReceiverInput.mk xj.fUniverse xj.fSource x2.fPriority x2.fSeq x2.fSync xj.fLast xj.fSlots xj.fWait)
           try simp only[eReceiverInput,eL,↓wk,↓wl,nqs,evV,↓reduceIte,sevalprocAttr,xk,eReceiverInput,eL,xu,xv,xw]
           refine evTs_stE (enc:=eReceiverInput) (ReceiverInput.mk xj.fUniverse xj.fSource x2.fPriority x2.fSeq x2.fSync xj.fLast xj.fSlots xj.fWait) (ReceiverInput.mk xj.fUniverse xj.fSource x2.fPriority x2.fSeq x2.fSync x1 xj.fSlots xj.fWait) (by rfl) (by rfl) xw (by rfl) ?_
           have xx:=set_get xw (ReceiverInput.mk xj.fUniverse xj.fSource x2.fPriority x2.fSeq x2.fSync x1 xj.fSlots xj.fWait)
           try simp only[eReceiverInput,eL,↓wk,↓wl,nqs,evV,↓reduceIte,sevalprocAttr,xk,eReceiverInput,eL,xu,xv,xw,xx]
           refine seqQ.norm ?_
           exact hf60_J5 _ _ H ((Le.tq 3 [0,1,2,3] [0,5] (by simp only[f60_J5c,rrm,↓wk,↓wl,evV,↓reduceIte,sevalprocAttr,xk,eReceiverInput,eL,xu,xv,xw,xx]<;>rfl)))
        ·refine evR.fork ?_
         try simp only[↓wk,↓wl,nqs,evV,↓reduceIte,sevalprocAttr,xk,eReceiverInput,eL]
         refine evR.both ?_ ?_
         ·refine evR.fork ?_
          try simp only[↓wk,↓wl,nqs,evV,↓reduceIte,sevalprocAttr,xk,eReceiverInput,eL]
          refine evR.both ?_ ?_
          ·refine evR.run ?_
           try simp only[↓wk,↓wl,nqs,evV,↓reduceIte,sevalprocAttr,xk,eReceiverInput,eL]
           refine evTs_stE (enc:=eReceiverInput) xj (ReceiverInput.mk xj.fUniverse xj.fSource x2.fPriority xj.fSeq xj.fSync xj.fLast xj.fSlots xj.fWait) (by rfl) (by rfl) xk (by rfl) ?_
           have xu:=set_get xk (ReceiverInput.mk xj.fUniverse xj.fSource x2.fPriority xj.fSeq xj.fSync xj.fLast xj.fSlots xj.fWait)
           try simp only[eReceiverInput,eL,↓wk,↓wl,nqs,evV,↓reduceIte,sevalprocAttr,xk,eReceiverInput,eL,xu]
           refine evTs_stE (enc:=eReceiverInput) (ReceiverInput.mk xj.fUniverse xj.fSource x2.fPriority xj.fSeq xj.fSync xj.fLast xj.fSlots xj.fWait) (ReceiverInput.mk xj.fUniverse xj.fSource x2.fPriority x2.fSeq xj.fSync xj.fLast xj.fSlots xj.fWait) (by rfl) (by rfl) xu (by rfl) ?_
           have xv:=set_get xu (ReceiverInput.mk xj.fUniverse xj.fSource x2.fPriority x2.fSeq xj.fSync xj.fLast xj.fSlots xj.fWait)
           try simp only[eReceiverInput,eL,↓wk,↓wl,nqs,evV,↓reduceIte,sevalprocAttr,xk,eReceiverInput,eL,xu,xv]
           refine evTs_stE (enc:=eReceiverInput) (ReceiverInput.mk xj.fUniverse xj.fSource x2.fPriority x2.fSeq xj.fSync xj.fLast xj.fSlots xj.fWait) (ReceiverInput.mk xj.fUniverse xj.fSource x2.fPriority x2.fSeq x2.fSync xj.fLast xj.fSlots xj.fWait) (by rfl) (by rfl) xv (by rfl) ?_
           have xw:=set_get xv (ReceiverInput.mk xj.fUniverse xj.fSource x2.fPriority x2.fSeq x2.fSync xj.fLast xj.fSlots xj.fWait)
           try simp only[eReceiverInput,eL,↓wk,↓wl,nqs,evV,↓reduceIte,sevalprocAttr,xk,eReceiverInput,eL,xu,xv,xw]
           refine evTs_stE (enc:=eReceiverInput) (ReceiverInput.mk xj.fUniverse xj.fSource x2.fPriority x2.fSeq x2.fSync xj.fLast xj.fSlots xj.fWait) (ReceiverInput.mk xj.fUniverse xj.fSource x2.fPriority x2.fSeq x2.fSync x1 xj.fSlots xj.fWait) (by rfl) (by rfl) xw (by rfl) ?_
           have xx:=set_get xw (ReceiverInput.mk xj.fUniverse xj.fSource x2.fPriority x2.fSeq x2.fSync x1 xj.fSlots xj.fWait)
           try simp only[eReceiverInput,eL,↓wk,↓wl,nqs,evV,↓reduceIte,sevalprocAttr,xk,eReceiverInput,eL,xu,xv,xw,xx]
           refine seqQ.norm ?_
           exact hf60_J5 _ _ H ((Le.tq 3 [0,1,2,3] [0,5] (by simp only[f60_J5c,rrm,↓wk,↓wl,evV,↓reduceIte,sevalprocAttr,xk,eReceiverInput,eL,xu,xv,xw,xx]<;>rfl)))
          ·refine evR.run ?_
           try simp only[↓wk,↓wl,nqs,evV,↓reduceIte,sevalprocAttr,xk,eReceiverInput,eL]
           refine evTs_stE (enc:=eReceiverInput) xj (ReceiverInput.mk xj.fUniverse xj.fSource x2.fPriority xj.fSeq xj.fSync xj.fLast xj.fSlots xj.fWait) (by rfl) (by rfl) xk (by rfl) ?_
           have xu:=set_get xk (ReceiverInput.mk xj.fUniverse xj.fSource x2.fPriority xj.fSeq xj.fSync xj.fLast xj.fSlots xj.fWait)
           try simp only[eReceiverInput,eL,↓wk,↓wl,nqs,evV,↓reduceIte,sevalprocAttr,xk,eReceiverInput,eL,xu]
           refine evTs_stE (enc:=eReceiverInput) (ReceiverInput.mk xj.fUniverse xj.fSource x2.fPriority xj.fSeq xj.fSync xj.fLast xj.fSlots xj.fWait) (ReceiverInput.mk xj.fUniverse xj.fSource x2.fPriority x2.fSeq xj.fSync xj.fLast xj.fSlots xj.fWait) (by rfl) (by rfl) xu (by rfl) ?_
           have xv:=set_get xu (ReceiverInput.mk xj.fUniverse xj.fSource x2.fPriority x2.fSeq xj.fSync xj.fLast xj.fSlots xj.fWait)
           try simp only[eReceiverInput,eL,↓wk,↓wl,nqs,evV,↓reduceIte,sevalprocAttr,xk,eReceiverInput,eL,xu,xv]
           refine evTs_stE (enc:=eReceiverInput) (ReceiverInput.mk xj.fUniverse xj.fSource x2.fPriority x2.fSeq xj.fSync xj.fLast xj.fSlots xj.fWait) (ReceiverInput.mk xj.fUniverse xj.fSource x2.fPriority x2.fSeq x2.fSync xj.fLast xj.fSlots xj.fWait) (by rfl) (by rfl) xv (by rfl) ?_
           have xw:=set_get xv (ReceiverInput.mk xj.fUniverse xj.fSource x2.fPriority x2.fSeq x2.fSync xj.fLast xj.fSlots xj.fWait)
           try simp only[eReceiverInput,eL,↓wk,↓wl,nqs,evV,↓reduceIte,sevalprocAttr,xk,eReceiverInput,eL,xu,xv,xw]
           refine evTs_stE (enc:=eReceiverInput) (ReceiverInput.mk xj.fUniverse xj.fSource x2.fPriority x2.fSeq x2.fSync xj.fLast xj.fSlots xj.fWait) (ReceiverInput.mk xj.fUniverse xj.fSource x2.fPriority x2.fSeq x2.fSync x1 xj.fSlots xj.fWait) (by rfl) (by rfl) xw (by rfl) ?_
           have xx:=set_get xw (ReceiverInput.mk xj.fUniverse xj.fSource x2.fPriority x2.fSeq x2.fSync x1 xj.fSlots xj.fWait)
           try simp only[eReceiverInput,eL,↓wk,↓wl,nqs,evV,↓reduceIte,sevalprocAttr,xk,eReceiverInput,eL,xu,xv,xw,xx]
           refine seqQ.norm ?_
           exact hf60_J5 _ _ H ((Le.tq 3 [0,1,2,3] [0,5] (by simp only[f60_J5c,rrm,↓wk,↓wl,evV,↓reduceIte,sevalprocAttr,xk,eReceiverInput,eL,xu,xv,xw,xx]<;>rfl)))
         ·refine evR.fork ?_
          try simp only[↓wk,↓wl,nqs,evV,↓reduceIte,sevalprocAttr,xk,eReceiverInput,eL]
          refine evTs_stE (enc:=eReceiverInput) xj (ReceiverInput.mk xj.fUniverse xj.fSource x2.fPriority xj.fSeq xj.fSync xj.fLast xj.fSlots xj.fWait) (by rfl) (by rfl) xk (by rfl) ?_
          have xu:=set_get xk (ReceiverInput.mk xj.fUniverse xj.fSource x2.fPriority xj.fSeq xj.fSync xj.fLast xj.fSlots xj.fWait)
          try simp only[eReceiverInput,eL,↓wk,↓wl,nqs,evV,↓reduceIte,sevalprocAttr,xk,eReceiverInput,eL,xu]
          refine evR.both ?_ ?_
          ·refine evR.run ?_
           try simp only[↓wk,↓wl,nqs,evV,↓reduceIte,sevalprocAttr,xk,eReceiverInput,eL,xu]
           refine evTs_stE (enc:=eReceiverInput) (ReceiverInput.mk xj.fUniverse xj.fSource x2.fPriority xj.fSeq xj.fSync xj.fLast xj.fSlots xj.fWait) (ReceiverInput.mk xj.fUniverse xj.fSource x2.fPriority x2.fSeq xj.fSync xj.fLast xj.fSlots xj.fWait) (by rfl) (by rfl) xu (by rfl) ?_
           have xv:=set_get xu (ReceiverInput.mk xj.fUniverse xj.fSource x2.fPriority x2.fSeq xj.fSync xj.fLast xj.fSlots xj.fWait)
           try simp only[eReceiverInput,eL,↓wk,↓wl,nqs,evV,↓reduceIte,sevalprocAttr,xk,eReceiverInput,eL,xu,xv]
           refine evTs_stE (enc:=eReceiverInput) (ReceiverInput.mk xj.fUniverse xj.fSource x2.fPriority x2.fSeq xj.fSync xj.fLast xj.fSlots xj.fWait) (ReceiverInput.mk xj.fUniverse xj.fSource x2.fPriority x2.fSeq x2.fSync xj.fLast xj.fSlots xj.fWait) (by rfl) (by rfl) xv (by rfl) ?_
           have xw:=set_get xv (ReceiverInput.mk xj.fUniverse xj.fSource x2.fPriority x2.fSeq x2.fSync xj.fLast xj.fSlots xj.fWait)
           try simp only[eReceiverInput,eL,↓wk,↓wl,nqs,evV,↓reduceIte,sevalprocAttr,xk,eReceiverInput,eL,xu,xv,xw]
           refine evTs_stE (enc:=eReceiverInput) (ReceiverInput.mk xj.fUniverse xj.fSource x2.fPriority x2.fSeq x2.fSync xj.fLast xj.fSlots xj.fWait) (ReceiverInput.mk xj.fUniverse xj.fSource x2.fPriority x2.fSeq x2.fSync x1 xj.fSlots xj.fWait) (by rfl) (by rfl) xw (by rfl) ?_
           have xx:=set_get xw (ReceiverInput.mk xj.fUniverse xj.fSource x2.fPriority x2.fSeq x2.fSync x1 xj.fSlots xj.fWait)
           try simp only[eReceiverInput,eL,↓wk,↓wl,nqs,evV,↓reduceIte,sevalprocAttr,xk,eReceiverInput,eL,xu,xv,xw,xx]
           refine seqQ.norm ?_
           exact hf60_J5 _ _ H ((Le.tq 3 [0,1,2,3] [0,5] (by simp only[f60_J5c,rrm,↓wk,↓wl,evV,↓reduceIte,sevalprocAttr,xk,eReceiverInput,eL,xu,xv,xw,xx]<;>rfl)))
          ·refine evR.run ?_
           try simp only[↓wk,↓wl,nqs,evV,↓reduceIte,sevalprocAttr,xk,eReceiverInput,eL,xu]
           refine evTs_stE (enc:=eReceiverInput) (ReceiverInput.mk xj.fUniverse xj.fSource x2.fPriority xj.fSeq xj.fSync xj.fLast xj.fSlots xj.fWait) (ReceiverInput.mk xj.fUniverse xj.fSource x2.fPriority x2.fSeq xj.fSync xj.fLast xj.fSlots xj.fWait) (by rfl) (by rfl) xu (by rfl) ?_
           have xv:=set_get xu (ReceiverInput.mk xj.fUniverse xj.fSource x2.fPriority x2.fSeq xj.fSync xj.fLast xj.fSlots xj.fWait)
           try simp only[eReceiverInput,eL,↓wk,↓wl,nqs,evV,↓reduceIte,sevalprocAttr,xk,eReceiverInput,eL,xu,xv]
           refine evTs_stE (enc:=eReceiverInput) (ReceiverInput.mk xj.fUniverse xj.fSource x2.fPriority x2.fSeq xj.fSync xj.fLast xj.fSlots xj.fWait) (ReceiverInput.mk xj.fUniverse xj.fSource x2.fPriority x2.fSeq x2.fSync xj.fLast xj.fSlots xj.fWait) (by rfl) (by rfl) xv (by rfl) ?_
           have xw:=set_get xv (ReceiverInput.mk xj.fUniverse xj.fSource x2.fPriority x2.fSeq x2.fSync xj.fLast xj.fSlots xj.fWait)
           try simp only[eReceiverInput,eL,↓wk,↓wl,nqs,evV,↓reduceIte,sevalprocAttr,xk,eReceiverInput,eL,xu,xv,xw]
           refine evTs_stE (enc:=eReceiverInput) (ReceiverInput.mk xj.fUniverse xj.fSource x2.fPriority x2.fSeq x2.fSync xj.fLast xj.fSlots xj.fWait) (ReceiverInput.mk xj.fUniverse xj.fSource x2.fPriority x2.fSeq x2.fSync x1 xj.fSlots xj.fWait) (by rfl) (by rfl) xw (by rfl) ?_
           have xx:=set_get xw (ReceiverInput.mk xj.fUniverse xj.fSource x2.fPriority x2.fSeq x2.fSync x1 xj.fSlots xj.fWait)
           try simp only[eReceiverInput,eL,↓wk,↓wl,nqs,evV,↓reduceIte,sevalprocAttr,xk,eReceiverInput,eL,xu,xv,xw,xx]
           refine seqQ.norm ?_
           exact hf60_J5 _ _ H ((Le.tq 3 [0,1,2,3] [0,5] (by simp only[f60_J5c,rrm,↓wk,↓wl,evV,↓reduceIte,sevalprocAttr,xk,eReceiverInput,eL,xu,xv,xw,xx]<;>rfl)))
      ·rintro xy s_ h_ H hs_ hh_
       simp only[f60_C4] at H hs_ hh_
       subst hs_
       subst hh_
       have xz:=(must_inv H).1
       have x10:=fun f=>take_map_eq xz f
       replace H:=(must_inv H).2
       try simp only[↓wk,↓wl,nqs,evV,↓reduceIte,sevalprocAttr,xk,eReceiverInput,eL,xz,x10]
       refine AW.rseq ?_
       try simp only[↓wk,↓wl,nqs,evV,↓reduceIte,sevalprocAttr,xk,eReceiverInput,eL,xz,x10]
       refine AW.ret ?_
       cases H
       exact hQ _ _ _ _ (.inr rfl) (by simp only[resVs,omap,resV,↓wk,↓wl,nqs,evV,↓reduceIte,sevalprocAttr,xk,eReceiverInput,eL,xz,x10];rfl) (hand_k (by rfl) (by rfl) (by first | rfl | (simp only[List.length_map,List.length_set,xz];done) | simp[xz]) (enc_all _) (by rfl)) (by first | exact Or.inl rfl | exact Or.inr rfl)
     ·refine AW.skip ?_
      refine blkQ.norm ?_
      refine AW.rseq ?_
      try simp only[↓wk,↓wl,nqs,evV,↓reduceIte,sevalprocAttr]
      refine evTs_atr (enc:=eReceiverInput) H (by rfl) (by first | rfl | simp only[List.length_set]) (by rfl) ?_<;>clear H<;>intro x11 x12 H
      try simp only[eReceiverInput,eL,↓wk,↓wl,nqs,evV,↓reduceIte,sevalprocAttr,x12,eReceiverInput,eL]
      refine evTs_inl (I:=f60_C6 x2 x3 xf x11 x1) (args:=[.eptr 1 xf.1.toNat 0,.int .i64 x1,.agg [.int .u64 x2.fSource,.int .i64 x2.fUniverse,.int .i64 x2.fPriority,.int .i64 x2.fSeq,.int .i64 x2.fSync,.bool x2.fEnd,.str x2.fSlots]]) H (by rfl) fd100 (by rfl) (Nat.le_of_ble_eq_true rfl) ?_ ?_<;>clear H
      ·rintro v_ Q_ H hqf60_C6
       simp only[f60_C6] at H
       dsimp only[List.length_cons,List.length_nil]
       refine AW.rseq ?_
       try simp only[↓wk,↓wl,nqs,evV,↓reduceIte,sevalprocAttr,x12,eReceiverInput,eL]
       refine AW.join (f60_J7 x2 x3 xf x11 x1) H ?_ fun hf60_J7=>?_
       ·clear H
        rintro _ st0_ H hst_
        rw[f60_J7c] at hst_
        simp only[f60_J7] at H
        subst hst_
        have x13:=set_get x12 (ReceiverInput.mk x11.fUniverse x11.fSource x2.fPriority x11.fSeq x11.fSync x11.fLast x11.fSlots x11.fWait)
        have x14:=set_get x13 (ReceiverInput.mk x11.fUniverse x11.fSource x2.fPriority x2.fSeq x11.fSync x11.fLast x11.fSlots x11.fWait)
        have x15:=set_get x14 (ReceiverInput.mk x11.fUniverse x11.fSource x2.fPriority x2.fSeq x2.fSync x11.fLast x11.fSlots x11.fWait)
        have x16:=set_get x15 (ReceiverInput.mk x11.fUniverse x11.fSource x2.fPriority x2.fSeq x2.fSync x1 x11.fSlots x11.fWait)
        refine AW.rqseq ?_
        try simp only[↓wk,↓wl,nqs,evV,↓reduceIte,sevalprocAttr,x12,eReceiverInput,eL]
        refine evTs_pure hFnq H (fun _ h=>f87_ok h) (by rfl) (by rfl) (by rfl) (by rfl) (fun _=>rfl) ?_<;>clear H<;>intro x17 H
        try simp only[eL,↓wk,↓wl,nqs,evV,↓reduceIte,sevalprocAttr,x12,eReceiverInput,eL]
        refine rest_cat H ?_<;>clear H<;>intro x18 H
        try simp only[↓wk,↓wl,nqs,evV,↓reduceIte,sevalprocAttr,x12,eReceiverInput,eL]
        refine AW.rseq ?_
        try simp only[↓wk,↓wl,nqs,evV,↓reduceIte,sevalprocAttr,x12,eReceiverInput,eL]
        refine AW.ifc H (by rfl) ?_ ?_<;>clear H<;>intro H
        ·refine AW.rend ?_
         try simp only[↓wk,↓wl,nqs,evV,↓reduceIte,sevalprocAttr,x12,eReceiverInput,eL]
         refine evTs_stE (enc:=eReceiverInput) (ReceiverInput.mk x11.fUniverse x11.fSource x2.fPriority x2.fSeq x2.fSync x1 x11.fSlots x11.fWait) (ReceiverInput.mk x11.fUniverse x11.fSource x2.fPriority x2.fSeq x2.fSync x1 x18 x11.fWait) (by rfl) (by rfl) x16 (by rfl) ?_
         have x19:=set_get x16 (ReceiverInput.mk x11.fUniverse x11.fSource x2.fPriority x2.fSeq x2.fSync x1 x18 x11.fWait)
         try simp only[eReceiverInput,eL,↓wk,↓wl,nqs,evV,↓reduceIte,sevalprocAttr,x12,eReceiverInput,eL,x19]
         refine evTs_stE (enc:=eReceiverInput) (ReceiverInput.mk x11.fUniverse x11.fSource x2.fPriority x2.fSeq x2.fSync x1 x18 x11.fWait) (ReceiverInput.mk x11.fUniverse x11.fSource x2.fPriority x2.fSeq x2.fSync x1 x18 ([])) (by rfl) (by rfl) x19 (by rfl) ?_
         have x1a:=set_get x19 (ReceiverInput.mk x11.fUniverse x11.fSource x2.fPriority x2.fSeq x2.fSync x1 x18 ([]))
         try simp only[eReceiverInput,eL,↓wk,↓wl,nqs,evV,↓reduceIte,sevalprocAttr,x12,eReceiverInput,eL,x19,x1a]
         cases H
         exact hqf60_C6 _ _ _ (.inl rfl) (Le.tq 2 [0,1] [] rfl) (by simp only[resVs,omap,resV,f60_C6,rrm,↓wk,↓wl,evV,↓reduceIte,sevalprocAttr,x12,eReceiverInput,eL,x19,x1a]) (by simp only[f60_C6,rrm,↓wk,↓wl,evV,↓reduceIte,sevalprocAttr,x12,eReceiverInput,eL,x19,x1a])
        ·refine AW.rend ?_
         try simp only[↓wk,↓wl,nqs,evV,↓reduceIte,sevalprocAttr,x12,eReceiverInput,eL]
         refine evTs_stE (enc:=eReceiverInput) (ReceiverInput.mk x11.fUniverse x11.fSource x2.fPriority x2.fSeq x2.fSync x1 x11.fSlots x11.fWait) (ReceiverInput.mk x11.fUniverse x11.fSource x2.fPriority x2.fSeq x2.fSync x1 x11.fSlots x18) (by rfl) (by rfl) x16 (by rfl) ?_
         have x1b:=set_get x16 (ReceiverInput.mk x11.fUniverse x11.fSource x2.fPriority x2.fSeq x2.fSync x1 x11.fSlots x18)
         try simp only[eReceiverInput,eL,↓wk,↓wl,nqs,evV,↓reduceIte,sevalprocAttr,x12,eReceiverInput,eL,x1b]
         cases H
         exact hqf60_C6 _ _ _ (.inl rfl) (Le.tq 2 [0,1] [] rfl) (by simp only[resVs,omap,resV,f60_C6,rrm,↓wk,↓wl,evV,↓reduceIte,sevalprocAttr,x12,eReceiverInput,eL,x1b]) (by simp only[f60_C6,rrm,↓wk,↓wl,evV,↓reduceIte,sevalprocAttr,x12,eReceiverInput,eL,x1b])
       ·refine AW.regt ?_
        refine evR.fork ?_
        try simp only[↓wk,↓wl,nqs,evV,↓reduceIte,sevalprocAttr,x12,eReceiverInput,eL]
        refine evR.both ?_ ?_
        ·refine evR.fork ?_
         try simp only[↓wk,↓wl,nqs,evV,↓reduceIte,sevalprocAttr,x12,eReceiverInput,eL]
         refine evR.both ?_ ?_
         ·refine evR.run ?_
          try simp only[↓wk,↓wl,nqs,evV,↓reduceIte,sevalprocAttr,x12,eReceiverInput,eL]
          refine evTs_stE (enc:=eReceiverInput) x11 (ReceiverInput.mk x11.fUniverse x11.fSource x2.fPriority x11.fSeq x11.fSync x11.fLast x11.fSlots x11.fWait) (by rfl) (by rfl) x12 (by rfl) ?_
          have x1c:=set_get x12 (ReceiverInput.mk x11.fUniverse x11.fSource x2.fPriority x11.fSeq x11.fSync x11.fLast x11.fSlots x11.fWait)
          try simp only[eReceiverInput,eL,↓wk,↓wl,nqs,evV,↓reduceIte,sevalprocAttr,x12,eReceiverInput,eL,x1c]
          refine evTs_stE (enc:=eReceiverInput) (ReceiverInput.mk x11.fUniverse x11.fSource x2.fPriority x11.fSeq x11.fSync x11.fLast x11.fSlots x11.fWait) (ReceiverInput.mk x11.fUniverse x11.fSource x2.fPriority x2.fSeq x11.fSync x11.fLast x11.fSlots x11.fWait) (by rfl) (by rfl) x1c (by rfl) ?_
          have x1d:=set_get x1c (ReceiverInput.mk x11.fUniverse x11.fSource x2.fPriority x2.fSeq x11.fSync x11.fLast x11.fSlots x11.fWait)
          try simp only[eReceiverInput,eL,↓wk,↓wl,nqs,evV,↓reduceIte,sevalprocAttr,x12,eReceiverInput,eL,x1c,x1d]
          refine evTs_stE (enc:=eReceiverInput) (ReceiverInput.mk x11.fUniverse x11.fSource x2.fPriority x2.fSeq x11.fSync x11.fLast x11.fSlots x11.fWait) (ReceiverInput.mk x11.fUniverse x11.fSource x2.fPriority x2.fSeq x2.fSync x11.fLast x11.fSlots x11.fWait) (by rfl) (by rfl) x1d (by rfl) ?_
          have x1e:=set_get x1d (ReceiverInput.mk x11.fUniverse x11.fSource x2.fPriority x2.fSeq x2.fSync x11.fLast x11.fSlots x11.fWait)
          try simp only[eReceiverInput,eL,↓wk,↓wl,nqs,evV,↓reduceIte,sevalprocAttr,x12,eReceiverInput,eL,x1c,x1d,x1e]
          refine evTs_stE (enc:=eReceiverInput) (ReceiverInput.mk x11.fUniverse x11.fSource x2.fPriority x2.fSeq x2.fSync x11.fLast x11.fSlots x11.fWait) (ReceiverInput.mk x11.fUniverse x11.fSource x2.fPriority x2.fSeq x2.fSync x1 x11.fSlots x11.fWait) (by rfl) (by rfl) x1e (by rfl) ?_
          have x1f:=set_get x1e (ReceiverInput.mk x11.fUniverse x11.fSource x2.fPriority x2.fSeq x2.fSync x1 x11.fSlots x11.fWait)
          try simp only[eReceiverInput,eL,↓wk,↓wl,nqs,evV,↓reduceIte,sevalprocAttr,x12,eReceiverInput,eL,x1c,x1d,x1e,x1f]
          refine seqQ.norm ?_
          exact hf60_J7 _ _ H ((Le.tq 2 [0,1,2] [0,5] (by simp only[f60_J7c,rrm,↓wk,↓wl,evV,↓reduceIte,sevalprocAttr,x12,eReceiverInput,eL,x1c,x1d,x1e,x1f]<;>rfl)))
         ·refine evR.fork ?_
          try simp only[↓wk,↓wl,nqs,evV,↓reduceIte,sevalprocAttr,x12,eReceiverInput,eL]
          refine evTs_stE (enc:=eReceiverInput) x11 (ReceiverInput.mk x11.fUniverse x11.fSource x2.fPriority x11.fSeq x11.fSync x11.fLast x11.fSlots x11.fWait) (by rfl) (by rfl) x12 (by rfl) ?_
          have x1c:=set_get x12 (ReceiverInput.mk x11.fUniverse x11.fSource x2.fPriority x11.fSeq x11.fSync x11.fLast x11.fSlots x11.fWait)
          try simp only[eReceiverInput,eL,↓wk,↓wl,nqs,evV,↓reduceIte,sevalprocAttr,x12,eReceiverInput,eL,x1c]
          refine evR.both ?_ ?_
          ·refine evR.run ?_
           try simp only[↓wk,↓wl,nqs,evV,↓reduceIte,sevalprocAttr,x12,eReceiverInput,eL,x1c]
           refine evTs_stE (enc:=eReceiverInput) (ReceiverInput.mk x11.fUniverse x11.fSource x2.fPriority x11.fSeq x11.fSync x11.fLast x11.fSlots x11.fWait) (ReceiverInput.mk x11.fUniverse x11.fSource x2.fPriority x2.fSeq x11.fSync x11.fLast x11.fSlots x11.fWait) (by rfl) (by rfl) x1c (by rfl) ?_
           have x1d:=set_get x1c (ReceiverInput.mk x11.fUniverse x11.fSource x2.fPriority x2.fSeq x11.fSync x11.fLast x11.fSlots x11.fWait)
           try simp only[eReceiverInput,eL,↓wk,↓wl,nqs,evV,↓reduceIte,sevalprocAttr,x12,eReceiverInput,eL,x1c,x1d]
           refine evTs_stE (enc:=eReceiverInput) (ReceiverInput.mk x11.fUniverse x11.fSource x2.fPriority x2.fSeq x11.fSync x11.fLast x11.fSlots x11.fWait) (ReceiverInput.mk x11.fUniverse x11.fSource x2.fPriority x2.fSeq x2.fSync x11.fLast x11.fSlots x11.fWait) (by rfl) (by rfl) x1d (by rfl) ?_
           have x1e:=set_get x1d (ReceiverInput.mk x11.fUniverse x11.fSource x2.fPriority x2.fSeq x2.fSync x11.fLast x11.fSlots x11.fWait)
           try simp only[eReceiverInput,eL,↓wk,↓wl,nqs,evV,↓reduceIte,sevalprocAttr,x12,eReceiverInput,eL,x1c,x1d,x1e]
           refine evTs_stE (enc:=eReceiverInput) (ReceiverInput.mk x11.fUniverse x11.fSource x2.fPriority x2.fSeq x2.fSync x11.fLast x11.fSlots x11.fWait) (ReceiverInput.mk x11.fUniverse x11.fSource x2.fPriority x2.fSeq x2.fSync x1 x11.fSlots x11.fWait) (by rfl) (by rfl) x1e (by rfl) ?_
           have x1f:=set_get x1e (ReceiverInput.mk x11.fUniverse x11.fSource x2.fPriority x2.fSeq x2.fSync x1 x11.fSlots x11.fWait)
           try simp only[eReceiverInput,eL,↓wk,↓wl,nqs,evV,↓reduceIte,sevalprocAttr,x12,eReceiverInput,eL,x1c,x1d,x1e,x1f]
           refine seqQ.norm ?_
           exact hf60_J7 _ _ H ((Le.tq 2 [0,1,2] [0,5] (by simp only[f60_J7c,rrm,↓wk,↓wl,evV,↓reduceIte,sevalprocAttr,x12,eReceiverInput,eL,x1c,x1d,x1e,x1f]<;>rfl)))
          ·refine evR.run ?_
           try simp only[↓wk,↓wl,nqs,evV,↓reduceIte,sevalprocAttr,x12,eReceiverInput,eL,x1c]
           refine evTs_stE (enc:=eReceiverInput) (ReceiverInput.mk x11.fUniverse x11.fSource x2.fPriority x11.fSeq x11.fSync x11.fLast x11.fSlots x11.fWait) (ReceiverInput.mk x11.fUniverse x11.fSource x2.fPriority x2.fSeq x11.fSync x11.fLast x11.fSlots x11.fWait) (by rfl) (by rfl) x1c (by rfl) ?_
           have x1d:=set_get x1c (ReceiverInput.mk x11.fUniverse x11.fSource x2.fPriority x2.fSeq x11.fSync x11.fLast x11.fSlots x11.fWait)
           try simp only[eReceiverInput,eL,↓wk,↓wl,nqs,evV,↓reduceIte,sevalprocAttr,x12,eReceiverInput,eL,x1c,x1d]
           refine evTs_stE (enc:=eReceiverInput) (ReceiverInput.mk x11.fUniverse x11.fSource x2.fPriority x2.fSeq x11.fSync x11.fLast x11.fSlots x11.fWait) (ReceiverInput.mk x11.fUniverse x11.fSource x2.fPriority x2.fSeq x2.fSync x11.fLast x11.fSlots x11.fWait) (by rfl) (by rfl) x1d (by rfl) ?_
           have x1e:=set_get x1d (ReceiverInput.mk x11.fUniverse x11.fSource x2.fPriority x2.fSeq x2.fSync x11.fLast x11.fSlots x11.fWait)
           try simp only[eReceiverInput,eL,↓wk,↓wl,nqs,evV,↓reduceIte,sevalprocAttr,x12,eReceiverInput,eL,x1c,x1d,x1e]
           refine evTs_stE (enc:=eReceiverInput) (ReceiverInput.mk x11.fUniverse x11.fSource x2.fPriority x2.fSeq x2.fSync x11.fLast x11.fSlots x11.fWait) (ReceiverInput.mk x11.fUniverse x11.fSource x2.fPriority x2.fSeq x2.fSync x1 x11.fSlots x11.fWait) (by rfl) (by rfl) x1e (by rfl) ?_
           have x1f:=set_get x1e (ReceiverInput.mk x11.fUniverse x11.fSource x2.fPriority x2.fSeq x2.fSync x1 x11.fSlots x11.fWait)
           try simp only[eReceiverInput,eL,↓wk,↓wl,nqs,evV,↓reduceIte,sevalprocAttr,x12,eReceiverInput,eL,x1c,x1d,x1e,x1f]
           refine seqQ.norm ?_
           exact hf60_J7 _ _ H ((Le.tq 2 [0,1,2] [0,5] (by simp only[f60_J7c,rrm,↓wk,↓wl,evV,↓reduceIte,sevalprocAttr,x12,eReceiverInput,eL,x1c,x1d,x1e,x1f]<;>rfl)))
        ·refine evR.fork ?_
         try simp only[↓wk,↓wl,nqs,evV,↓reduceIte,sevalprocAttr,x12,eReceiverInput,eL]
         refine evR.both ?_ ?_
         ·refine evR.fork ?_
          try simp only[↓wk,↓wl,nqs,evV,↓reduceIte,sevalprocAttr,x12,eReceiverInput,eL]
          refine evR.both ?_ ?_
          ·refine evR.run ?_
           try simp only[↓wk,↓wl,nqs,evV,↓reduceIte,sevalprocAttr,x12,eReceiverInput,eL]
           refine evTs_stE (enc:=eReceiverInput) x11 (ReceiverInput.mk x11.fUniverse x11.fSource x2.fPriority x11.fSeq x11.fSync x11.fLast x11.fSlots x11.fWait) (by rfl) (by rfl) x12 (by rfl) ?_
           have x1c:=set_get x12 (ReceiverInput.mk x11.fUniverse x11.fSource x2.fPriority x11.fSeq x11.fSync x11.fLast x11.fSlots x11.fWait)
           try simp only[eReceiverInput,eL,↓wk,↓wl,nqs,evV,↓reduceIte,sevalprocAttr,x12,eReceiverInput,eL,x1c]
           refine evTs_stE (enc:=eReceiverInput) (ReceiverInput.mk x11.fUniverse x11.fSource x2.fPriority x11.fSeq x11.fSync x11.fLast x11.fSlots x11.fWait) (ReceiverInput.mk x11.fUniverse x11.fSource x2.fPriority x2.fSeq x11.fSync x11.fLast x11.fSlots x11.fWait) (by rfl) (by rfl) x1c (by rfl) ?_
           have x1d:=set_get x1c (ReceiverInput.mk x11.fUniverse x11.fSource x2.fPriority x2.fSeq x11.fSync x11.fLast x11.fSlots x11.fWait)
           try simp only[eReceiverInput,eL,↓wk,↓wl,nqs,evV,↓reduceIte,sevalprocAttr,x12,eReceiverInput,eL,x1c,x1d]
           refine evTs_stE (enc:=eReceiverInput) (ReceiverInput.mk x11.fUniverse x11.fSource x2.fPriority x2.fSeq x11.fSync x11.fLast x11.fSlots x11.fWait) (ReceiverInput.mk x11.fUniverse x11.fSource x2.fPriority x2.fSeq x2.fSync x11.fLast x11.fSlots x11.fWait) (by rfl) (by rfl) x1d (by rfl) ?_
           have x1e:=set_get x1d (ReceiverInput.mk x11.fUniverse x11.fSource x2.fPriority x2.fSeq x2.fSync x11.fLast x11.fSlots x11.fWait)
           try simp only[eReceiverInput,eL,↓wk,↓wl,nqs,evV,↓reduceIte,sevalprocAttr,x12,eReceiverInput,eL,x1c,x1d,x1e]
           refine evTs_stE (enc:=eReceiverInput) (ReceiverInput.mk x11.fUniverse x11.fSource x2.fPriority x2.fSeq x2.fSync x11.fLast x11.fSlots x11.fWait) (ReceiverInput.mk x11.fUniverse x11.fSource x2.fPriority x2.fSeq x2.fSync x1 x11.fSlots x11.fWait) (by rfl) (by rfl) x1e (by rfl) ?_
           have x1f:=set_get x1e (ReceiverInput.mk x11.fUniverse x11.fSource x2.fPriority x2.fSeq x2.fSync x1 x11.fSlots x11.fWait)
           try simp only[eReceiverInput,eL,↓wk,↓wl,nqs,evV,↓reduceIte,sevalprocAttr,x12,eReceiverInput,eL,x1c,x1d,x1e,x1f]
           refine seqQ.norm ?_
           exact hf60_J7 _ _ H ((Le.tq 2 [0,1,2] [0,5] (by simp only[f60_J7c,rrm,↓wk,↓wl,evV,↓reduceIte,sevalprocAttr,x12,eReceiverInput,eL,x1c,x1d,x1e,x1f]<;>rfl)))
          ·refine evR.run ?_
           try simp only[↓wk,↓wl,nqs,evV,↓reduceIte,sevalprocAttr,x12,eReceiverInput,eL]
           refine evTs_stE (enc:=eReceiverInput) x11 (ReceiverInput.mk x11.fUniverse x11.fSource x2.fPriority x11.fSeq x11.fSync x11.fLast x11.fSlots x11.fWait) (by rfl) (by rfl) x12 (by rfl) ?_
           have x1c:=set_get x12 (ReceiverInput.mk x11.fUniverse x11.fSource x2.fPriority x11.fSeq x11.fSync x11.fLast x11.fSlots x11.fWait)
           try simp only[eReceiverInput,eL,↓wk,↓wl,nqs,evV,↓reduceIte,sevalprocAttr,x12,eReceiverInput,eL,x1c]
           refine evTs_stE (enc:=eReceiverInput) (ReceiverInput.mk x11.fUniverse x11.fSource x2.fPriority x11.fSeq x11.fSync x11.fLast x11.fSlots x11.fWait) (ReceiverInput.mk x11.fUniverse x11.fSource x2.fPriority x2.fSeq x11.fSync x11.fLast x11.fSlots x11.fWait) (by rfl) (by rfl) x1c (by rfl) ?_
           have x1d:=set_get x1c (ReceiverInput.mk x11.fUniverse x11.fSource x2.fPriority x2.fSeq x11.fSync x11.fLast x11.fSlots x11.fWait)
           try simp only[eReceiverInput,eL,↓wk,↓wl,nqs,evV,↓reduceIte,sevalprocAttr,x12,eReceiverInput,eL,x1c,x1d]
           refine evTs_stE (enc:=eReceiverInput) (ReceiverInput.mk x11.fUniverse x11.fSource x2.fPriority x2.fSeq x11.fSync x11.fLast x11.fSlots x11.fWait) (ReceiverInput.mk x11.fUniverse x11.fSource x2.fPriority x2.fSeq x2.fSync x11.fLast x11.fSlots x11.fWait) (by rfl) (by rfl) x1d (by rfl) ?_
           have x1e:=set_get x1d (ReceiverInput.mk x11.fUniverse x11.fSource x2.fPriority x2.fSeq x2.fSync x11.fLast x11.fSlots x11.fWait)
           try simp only[eReceiverInput,eL,↓wk,↓wl,nqs,evV,↓reduceIte,sevalprocAttr,x12,eReceiverInput,eL,x1c,x1d,x1e]
           refine evTs_stE (enc:=eReceiverInput) (ReceiverInput.mk x11.fUniverse x11.fSource x2.fPriority x2.fSeq x2.fSync x11.fLast x11.fSlots x11.fWait) (ReceiverInput.mk x11.fUniverse x11.fSource x2.fPriority x2.fSeq x2.fSync x1 x11.fSlots x11.fWait) (by rfl) (by rfl) x1e (by rfl) ?_
           have x1f:=set_get x1e (ReceiverInput.mk x11.fUniverse x11.fSource x2.fPriority x2.fSeq x2.fSync x1 x11.fSlots x11.fWait)
           try simp only[eReceiverInput,eL,↓wk,↓wl,nqs,evV,↓reduceIte,sevalprocAttr,x12,eReceiverInput,eL,x1c,x1d,x1e,x1f]
           refine seqQ.norm ?_
           exact hf60_J7 _ _ H ((Le.tq 2 [0,1,2] [0,5] (by simp only[f60_J7c,rrm,↓wk,↓wl,evV,↓reduceIte,sevalprocAttr,x12,eReceiverInput,eL,x1c,x1d,x1e,x1f]<;>rfl)))
         ·refine evR.fork ?_
          try simp only[↓wk,↓wl,nqs,evV,↓reduceIte,sevalprocAttr,x12,eReceiverInput,eL]
          refine evTs_stE (enc:=eReceiverInput) x11 (ReceiverInput.mk x11.fUniverse x11.fSource x2.fPriority x11.fSeq x11.fSync x11.fLast x11.fSlots x11.fWait) (by rfl) (by rfl) x12 (by rfl) ?_
          have x1c:=set_get x12 (ReceiverInput.mk x11.fUniverse x11.fSource x2.fPriority x11.fSeq x11.fSync x11.fLast x11.fSlots x11.fWait)
          try simp only[eReceiverInput,eL,↓wk,↓wl,nqs,evV,↓reduceIte,sevalprocAttr,x12,eReceiverInput,eL,x1c]
          refine evR.both ?_ ?_
          ·refine evR.run ?_
           try simp only[↓wk,↓wl,nqs,evV,↓reduceIte,sevalprocAttr,x12,eReceiverInput,eL,x1c]
           refine evTs_stE (enc:=eReceiverInput) (ReceiverInput.mk x11.fUniverse x11.fSource x2.fPriority x11.fSeq x11.fSync x11.fLast x11.fSlots x11.fWait) (ReceiverInput.mk x11.fUniverse x11.fSource x2.fPriority x2.fSeq x11.fSync x11.fLast x11.fSlots x11.fWait) (by rfl) (by rfl) x1c (by rfl) ?_
           have x1d:=set_get x1c (ReceiverInput.mk x11.fUniverse x11.fSource x2.fPriority x2.fSeq x11.fSync x11.fLast x11.fSlots x11.fWait)
           try simp only[eReceiverInput,eL,↓wk,↓wl,nqs,evV,↓reduceIte,sevalprocAttr,x12,eReceiverInput,eL,x1c,x1d]
           refine evTs_stE (enc:=eReceiverInput) (ReceiverInput.mk x11.fUniverse x11.fSource x2.fPriority x2.fSeq x11.fSync x11.fLast x11.fSlots x11.fWait) (ReceiverInput.mk x11.fUniverse x11.fSource x2.fPriority x2.fSeq x2.fSync x11.fLast x11.fSlots x11.fWait) (by rfl) (by rfl) x1d (by rfl) ?_
           have x1e:=set_get x1d (ReceiverInput.mk x11.fUniverse x11.fSource x2.fPriority x2.fSeq x2.fSync x11.fLast x11.fSlots x11.fWait)
           try simp only[eReceiverInput,eL,↓wk,↓wl,nqs,evV,↓reduceIte,sevalprocAttr,x12,eReceiverInput,eL,x1c,x1d,x1e]
           refine evTs_stE (enc:=eReceiverInput) (ReceiverInput.mk x11.fUniverse x11.fSource x2.fPriority x2.fSeq x2.fSync x11.fLast x11.fSlots x11.fWait) (ReceiverInput.mk x11.fUniverse x11.fSource x2.fPriority x2.fSeq x2.fSync x1 x11.fSlots x11.fWait) (by rfl) (by rfl) x1e (by rfl) ?_
           have x1f:=set_get x1e (ReceiverInput.mk x11.fUniverse x11.fSource x2.fPriority x2.fSeq x2.fSync x1 x11.fSlots x11.fWait)
           try simp only[eReceiverInput,eL,↓wk,↓wl,nqs,evV,↓reduceIte,sevalprocAttr,x12,eReceiverInput,eL,x1c,x1d,x1e,x1f]
           refine seqQ.norm ?_
           exact hf60_J7 _ _ H ((Le.tq 2 [0,1,2] [0,5] (by simp only[f60_J7c,rrm,↓wk,↓wl,evV,↓reduceIte,sevalprocAttr,x12,eReceiverInput,eL,x1c,x1d,x1e,x1f]<;>rfl)))
          ·refine evR.run ?_
           try simp only[↓wk,↓wl,nqs,evV,↓reduceIte,sevalprocAttr,x12,eReceiverInput,eL,x1c]
           refine evTs_stE (enc:=eReceiverInput) (ReceiverInput.mk x11.fUniverse x11.fSource x2.fPriority x11.fSeq x11.fSync x11.fLast x11.fSlots x11.fWait) (ReceiverInput.mk x11.fUniverse x11.fSource x2.fPriority x2.fSeq x11.fSync x11.fLast x11.fSlots x11.fWait) (by rfl) (by rfl) x1c (by rfl) ?_
           have x1d:=set_get x1c (ReceiverInput.mk x11.fUniverse x11.fSource x2.fPriority x2.fSeq x11.fSync x11.fLast x11.fSlots x11.fWait)
           try simp only[eReceiverInput,eL,↓wk,↓wl,nqs,evV,↓reduceIte,sevalprocAttr,x12,eReceiverInput,eL,x1c,x1d]
           refine evTs_stE (enc:=eReceiverInput) (ReceiverInput.mk x11.fUniverse x11.fSource x2.fPriority x2.fSeq x11.fSync x11.fLast x11.fSlots x11.fWait) (ReceiverInput.mk x11.fUniverse x11.fSource x2.fPriority x2.fSeq x2.fSync x11.fLast x11.fSlots x11.fWait) (by rfl) (by rfl) x1d (by rfl) ?_
           have x1e:=set_get x1d (ReceiverInput.mk x11.fUniverse x11.fSource x2.fPriority x2.fSeq x2.fSync x11.fLast x11.fSlots x11.fWait)
           try simp only[eReceiverInput,eL,↓wk,↓wl,nqs,evV,↓reduceIte,sevalprocAttr,x12,eReceiverInput,eL,x1c,x1d,x1e]
           refine evTs_stE (enc:=eReceiverInput) (ReceiverInput.mk x11.fUniverse x11.fSource x2.fPriority x2.fSeq x2.fSync x11.fLast x11.fSlots x11.fWait) (ReceiverInput.mk x11.fUniverse x11.fSource x2.fPriority x2.fSeq x2.fSync x1 x11.fSlots x11.fWait) (by rfl) (by rfl) x1e (by rfl) ?_
           have x1f:=set_get x1e (ReceiverInput.mk x11.fUniverse x11.fSource x2.fPriority x2.fSeq x2.fSync x1 x11.fSlots x11.fWait)
           try simp only[eReceiverInput,eL,↓wk,↓wl,nqs,evV,↓reduceIte,sevalprocAttr,x12,eReceiverInput,eL,x1c,x1d,x1e,x1f]
           refine seqQ.norm ?_
           exact hf60_J7 _ _ H ((Le.tq 2 [0,1,2] [0,5] (by simp only[f60_J7c,rrm,↓wk,↓wl,evV,↓reduceIte,sevalprocAttr,x12,eReceiverInput,eL,x1c,x1d,x1e,x1f]<;>rfl)))
      ·rintro x1g s_ h_ H hs_ hh_
       simp only[f60_C6] at H hs_ hh_
       subst hs_
       subst hh_
       have x1h:=(must_inv H).1
       have x1i:=fun f=>take_map_eq x1h f
       replace H:=(must_inv H).2
       try simp only[↓wk,↓wl,nqs,evV,↓reduceIte,sevalprocAttr,x12,eReceiverInput,eL,x1h,x1i]
       refine AW.rseq ?_
       try simp only[↓wk,↓wl,nqs,evV,↓reduceIte,sevalprocAttr,x12,eReceiverInput,eL,x1h,x1i]
       refine AW.ret ?_
       cases H
       exact hQ _ _ _ _ (.inr rfl) (by simp only[resVs,omap,resV,↓wk,↓wl,nqs,evV,↓reduceIte,sevalprocAttr,x12,eReceiverInput,eL,x1h,x1i];rfl) (hand_k (by rfl) (by rfl) (by first | rfl | (simp only[List.length_map,List.length_set,x1h];done) | simp[x1h]) (enc_all _) (by rfl)) (by first | exact Or.inl rfl | exact Or.inr rfl)
  ·refine AW.rseq ?_
   try simp only[↓wk,↓wl,nqs,evV,↓reduceIte,sevalprocAttr]
   refine evTs_ifg H (by rfl) ?_ ?_<;>clear H<;>intro H
   ·try simp only[↓wk,↓wl,nqs,evV,↓reduceIte,sevalprocAttr]
    refine evTs_ifg H (by rfl) ?_ ?_<;>clear H<;>intro H
    ·try simp only[↓wk,↓wl,nqs,evV,↓reduceIte,sevalprocAttr]
     refine AW.ift (by rfl) ?_
     refine AW.skip ?_
     refine seqQ.norm ?_
     exact hf60_J3 _ _ H ((Le.tz [0,1] [1,5,8,9,10,30] (by simp only[f60_J3c,rrm,↓wk,↓wl,evV,↓reduceIte,sevalprocAttr]<;>rfl)))
    ·try simp only[↓wk,↓wl,nqs,evV,↓reduceIte,sevalprocAttr]
     refine AW.ifc H (by rfl) ?_ ?_<;>clear H<;>intro H
     ·refine AW.skip ?_
      refine seqQ.norm ?_
      exact hf60_J3 _ _ H ((Le.tz [0,1] [1,5,8,9,10,30] (by simp only[f60_J3c,rrm,↓wk,↓wl,evV,↓reduceIte,sevalprocAttr]<;>rfl)))
     ·refine AW.rend ?_
      try simp only[↓wk,↓wl,nqs,evV,↓reduceIte,sevalprocAttr]
      refine evTs_ifg H (by rfl) ?_ ?_<;>clear H<;>intro H
      ·try simp only[↓wk,↓wl,nqs,evV,↓reduceIte,sevalprocAttr]
       refine evTs_atr (enc:=eReceiverInput) H (by rfl) (by first | rfl | simp only[List.length_set]) (by rfl) ?_<;>clear H<;>intro x1j x1k H
       try simp only[eReceiverInput,eL,↓wk,↓wl,nqs,evV,↓reduceIte,sevalprocAttr,x1k,eReceiverInput,eL]
       refine evTs_pure hFn H (fun _ h=>f97_ok h) (by rfl) (by rfl) (by rfl) (by rfl) (fun _=>rfl) ?_<;>clear H<;>intro x1l H
       try simp only[eL,↓wk,↓wl,nqs,evV,↓reduceIte,sevalprocAttr,x1k,eReceiverInput,eL]
       refine seqQ.norm ?_
       exact hf60_J3 _ _ H ((Le.tz [0,1] [1,5,8,9,10,30] (by simp only[f60_J3c,rrm,↓wk,↓wl,evV,↓reduceIte,sevalprocAttr,x1k,eReceiverInput,eL]<;>rfl)))
      ·try simp only[↓wk,↓wl,nqs,evV,↓reduceIte,sevalprocAttr]
       refine seqQ.norm ?_
       exact hf60_J3 _ _ H ((Le.tz [0,1] [1,5,8,9,10,30] (by simp only[f60_J3c,rrm,↓wk,↓wl,evV,↓reduceIte,sevalprocAttr]<;>rfl)))
   ·try simp only[↓wk,↓wl,nqs,evV,↓reduceIte,sevalprocAttr]
    refine AW.iff (by rfl) ?_
    refine AW.rend ?_
    try simp only[↓wk,↓wl,nqs,evV,↓reduceIte,sevalprocAttr]
    refine evTs_ifg H (by rfl) ?_ ?_<;>clear H<;>intro H
    ·try simp only[↓wk,↓wl,nqs,evV,↓reduceIte,sevalprocAttr]
     refine evTs_atr (enc:=eReceiverInput) H (by rfl) (by first | rfl | simp only[List.length_set]) (by rfl) ?_<;>clear H<;>intro x1m x1n H
     try simp only[eReceiverInput,eL,↓wk,↓wl,nqs,evV,↓reduceIte,sevalprocAttr,x1n,eReceiverInput,eL]
     refine evTs_pure hFn H (fun _ h=>f97_ok h) (by rfl) (by rfl) (by rfl) (by rfl) (fun _=>rfl) ?_<;>clear H<;>intro x1o H
     try simp only[eL,↓wk,↓wl,nqs,evV,↓reduceIte,sevalprocAttr,x1n,eReceiverInput,eL]
     refine seqQ.norm ?_
     exact hf60_J3 _ _ H ((Le.tz [0,1] [1,5,8,9,10,30] (by simp only[f60_J3c,rrm,↓wk,↓wl,evV,↓reduceIte,sevalprocAttr,x1n,eReceiverInput,eL]<;>rfl)))
    ·try simp only[↓wk,↓wl,nqs,evV,↓reduceIte,sevalprocAttr]
     refine seqQ.norm ?_
     exact hf60_J3 _ _ H ((Le.tz [0,1] [1,5,8,9,10,30] (by simp only[f60_J3c,rrm,↓wk,↓wl,evV,↓reduceIte,sevalprocAttr]<;>rfl)))
theorem f60_im{x0:(List ReceiverInput)}{x1:Int}{x2:NetworkPacket}{r_:(List ReceiverInput)×Bool}(H:f60 x0 x1 x2=some r_):Pure Try.prog 60 [.sl 8 false (x0.map eReceiverInput),.int .i64 x1,.agg [.int .u64 x2.fSource,.int .i64 x2.fUniverse,.int .i64 x2.fPriority,.int .i64 x2.fSeq,.int .i64 x2.fSync,.bool x2.fEnd,.str x2.fSlots]] (· = .tup [.sl 8 false (r_.1.map eReceiverInput),.bool r_.2]):=(f60_ok H).unfr (by first | exact enc_fits _ | simp only[frFits,List.all_cons,List.all_nil,enc_fits,Bool.and_self])
def c16_0:C:=.cond (.t 17) (.seq (.reg [iI 18 (.build [(1,(.sl 8 true []))] []),iI 19 (.mv (.t 9)),iN (.store 1 (.t 6) (.t 18)),iI 7 (.mv (.c (.bool false))),iI 8 (.mv (.t 19))]) .ret) (.skip)
def c16_1:C:=.seq (.reg [iI 16 (.mv (.t 9)),iI 17 (.bin .neq (.t 16) (.c (.int .i64 0)))]) c16_0
def c16_2:C:=.cond (.t 23) (.seq (.reg [iI 24 (.build [(1,(.sl 8 true []))] []),iI 25 (.mv (.t 10)),iN (.store 1 (.t 6) (.t 24)),iI 7 (.mv (.c (.bool false))),iI 8 (.mv (.t 25))]) .ret) (.skip)
def c16_3:C:=.seq (.reg [iI 22 (.mv (.t 10)),iI 23 (.bin .neq (.t 22) (.c (.int .i64 0)))]) c16_2
def c16_4:C:=.seq (.reg [iI 34 (.mv (.t 11)),iI 35 (.build [(1,(.sl 8 true []))] [(0,0,(.t 34))]),iI 36 (.mv (.t 12)),iN (.store 1 (.t 6) (.t 35)),iI 7 (.mv (.t 36)),iI 8 (.mv (.c (.int .i64 0)))]) .ret
def c16_5:C:=.seq (.reg [iI 27 (.faddr 0 (.t 3)),iI 28 (.load 0 (.t 27)),iI 29 (.mv (.t 1)),iI 30 (.load 7 (.t 5)),iI 31 (.call (.c (.fn 60 [])) [(.t 28),(.t 29),(.t 30)]),iI 26 (.mv (.t 31)),iI 32 (.ext (.t 26) 0),iI 33 (.ext (.t 26) 1),iI 11 (.mv (.t 32)),iI 12 (.mv (.t 33))]) c16_4
def c16_6:C:=.seq (.seq (.reg [iI 20 (.load 7 (.t 5)),iI 21 (.call (.c (.fn 59 [])) [(.t 20)]),iI 10 (.mv (.t 21))]) c16_3) c16_5
def c16_7:C:=.seq (.seq (.reg [iI 13 (.load 1 (.t 3)),iI 14 (.mv (.t 1)),iI 15 (.call (.c (.fn 58 [])) [(.t 13),(.t 14)]),iI 9 (.mv (.t 15))]) c16_1) c16_6
def ir16:C:=.seq (.reg [iI 3 (.box (.t 0)),iI 5 (.box (.t 2)),iI 6 (.alloc [(1,(.sl 8 true []))]),iI 7 (.mv (.c (.bool false))),iI 8 (.mv (.c (.int .i64 0)))]) c16_7
theorem fd16:fd? Try.prog 16=some (37,[.cell 6 1,.slot 7,.slot 8],ir16):=by kernel_rfl
noncomputable def f16(x0:ReceiverReceiver)(x1:Int)(x2:NetworkPacket):Option (ReceiverReceiver×Bool×Int) :=
  (f58 x0 x1).bind fun x3=>(if (decide (x3≠0))=true then (some ((ReceiverReceiver.mk ([])),false,x3)) else (f59 x2).bind fun x4=>(if (decide (x4≠0))=true then (some ((ReceiverReceiver.mk ([])),false,x4)) else (f60 x0.fInputs x1 x2).bind fun x5=>(some ((ReceiverReceiver.mk x5.1),x5.2,0))))
theorem f16_ok{x0:ReceiverReceiver}{x1:Int}{x2:NetworkPacket}{r_:ReceiverReceiver×Bool×Int}(H:f16 x0 x1 x2=some r_):Pure Try.prog 16 [.agg [.sl 8 false (x0.fInputs.map eReceiverInput)],.int .i64 x1,.agg [.int .u64 x2.fSource,.int .i64 x2.fUniverse,.int .i64 x2.fPriority,.int .i64 x2.fSeq,.int .i64 x2.fSync,.bool x2.fEnd,.str x2.fSlots]] (· = .tup [.agg [.sl 8 false (r_.1.fInputs.map eReceiverInput)],.bool r_.2.1,.int .i64 r_.2.2]):=by
 refine Pure.walk3 fd16 none (Nat.le_of_ble_eq_true rfl) (by rfl) fun Q hQ=>?_
 simp only[f16] at H
 refine AW.rseq ?_
 try simp only[↓wk,↓wl,nq,evV,↓reduceIte,sevalprocAttr]
 refine AW.sseq ?_
 refine AW.rseq ?_
 try simp only[↓wk,↓wl,nq,evV,↓reduceIte,sevalprocAttr]
 refine evTs_pure hFn H (fun _ h=>f58_ok h) (by rfl) (by rfl) (by rfl) (by rfl) (fun _=>rfl) ?_<;>clear H<;>intro x3 H
 try simp only[eL,↓wk,↓wl,nq,evV,↓reduceIte,sevalprocAttr]
 refine AW.rseq ?_
 try simp only[↓wk,↓wl,nq,evV,↓reduceIte,sevalprocAttr]
 refine AW.ifc H (by rfl) ?_ ?_<;>clear H<;>intro H
 ·refine AW.rseq ?_
  try simp only[↓wk,↓wl,nq,evV,↓reduceIte,sevalprocAttr]
  refine AW.ret ?_
  refine seqQ.ret ?_
  cases H
  exact hQ.fin
 ·refine AW.skip ?_
  refine seqQ.norm ?_
  refine AW.sseq ?_
  refine AW.rseq ?_
  try simp only[↓wk,↓wl,nq,evV,↓reduceIte,sevalprocAttr]
  refine evTs_pure hFn H (fun _ h=>f59_ok h) (by rfl) (by rfl) (by rfl) (by rfl) (fun _=>rfl) ?_<;>clear H<;>intro x4 H
  try simp only[eL,↓wk,↓wl,nq,evV,↓reduceIte,sevalprocAttr]
  refine AW.rseq ?_
  try simp only[↓wk,↓wl,nq,evV,↓reduceIte,sevalprocAttr]
  refine AW.ifc H (by rfl) ?_ ?_<;>clear H<;>intro H
  ·refine AW.rseq ?_
   try simp only[↓wk,↓wl,nq,evV,↓reduceIte,sevalprocAttr]
   refine AW.ret ?_
   refine seqQ.ret ?_
   cases H
   exact hQ.fin
  ·refine AW.skip ?_
   refine seqQ.norm ?_
   refine AW.rseq ?_
   try simp only[↓wk,↓wl,nq,evV,↓reduceIte,sevalprocAttr]
   refine evTs_pure hFn H (fun _ h=>f60_im h) (by rfl) (by rfl) (by rfl) (by rfl) (fun _=>rfl) ?_<;>clear H<;>intro x5 H
   try simp only[eL,↓wk,↓wl,nq,evV,↓reduceIte,sevalprocAttr]
   refine AW.rseq ?_
   try simp only[↓wk,↓wl,nq,evV,↓reduceIte,sevalprocAttr]
   refine AW.ret ?_
   cases H
   exact hQ.fin
noncomputable def f73_L1(x0:ReceiverReceiver)(x1:Int)(x2:Int):Lp (Int×(List ReceiverInput)) ((List ReceiverInput)) where
  body:=fun (x3,x4)=>(if (decide (x3<((x0.fInputs.length:Nat):Int)))=true then (at? x0.fInputs x3).bind fun x5=>(if (decide (x5.fUniverse≠x1))=true then (some (.next ((IntKind.i64.wrap (x3 + 1)),x4))) else (if (decide (2500<(IntKind.i64.wrap (x2 - x5.fLast))))=true then (some (.next ((IntKind.i64.wrap (x3 + 1)),x4))) else (if (x5.fSlots == ([]))=true then (some (.next ((IntKind.i64.wrap (x3 + 1)),x4))) else (if (decide (0<((x4.length:Nat):Int)))=true then (at? x4 0).bind fun x6=>(if (decide (x6.fPriority<x5.fPriority))=true then (app? 80 [] ([x5])).bind fun x7=>(some (.next ((IntKind.i64.wrap (x3 + 1)),x7))) else (if (decide (((x4.length:Nat):Int)=0))=true then (app? 80 x4 ([x5])).bind fun x8=>(some (.next ((IntKind.i64.wrap (x3 + 1)),x8))) else (at? x4 0).bind fun x9=>(if (decide (x5.fPriority=x9.fPriority))=true then (app? 80 x4 ([x5])).bind fun xa=>(some (.next ((IntKind.i64.wrap (x3 + 1)),xa))) else (some (.next ((IntKind.i64.wrap (x3 + 1)),x4)))))) else (if (decide (((x4.length:Nat):Int)=0))=true then (app? 80 x4 ([x5])).bind fun xb=>(some (.next ((IntKind.i64.wrap (x3 + 1)),xb))) else (at? x4 0).bind fun xc=>(if (decide (x5.fPriority=xc.fPriority))=true then (app? 80 x4 ([x5])).bind fun xd=>(some (.next ((IntKind.i64.wrap (x3 + 1)),xd))) else (some (.next ((IntKind.i64.wrap (x3 + 1)),x4))))))))) else (some (.brk x4)))
  cst:=fun (x3,x4)=>⟨put (put (put (put (put (put (fun _=>.junk) 13 (.int .i64 x3)) 12 (.int .i64 ((x0.fInputs.length:Nat):Int))) 11 (.sl 8 false (x0.fInputs.map eReceiverInput))) 7 (.row 8 0 0 x4.length)) 2 (.int .i64 x1)) 1 (.int .i64 x2),[.els 8 (x4.map eReceiverInput)]⟩
theorem f73_L1c(x0:ReceiverReceiver)(x1:Int)(x2:Int)(x3:Int)(x4:(List ReceiverInput)):(f73_L1 x0 x1 x2).cst (x3,x4)=⟨put (put (put (put (put (put (fun _=>.junk) 13 (.int .i64 x3)) 12 (.int .i64 ((x0.fInputs.length:Nat):Int))) 11 (.sl 8 false (x0.fInputs.map eReceiverInput))) 7 (.row 8 0 0 x4.length)) 2 (.int .i64 x1)) 1 (.int .i64 x2),[.els 8 (x4.map eReceiverInput)]⟩:=rfl
def c73_0:C:=.cond (.t 32) (.exit 1) (.skip)
def c73_1:C:=.cond (.t 44) (.reg [iI 7 (.mv (.c (.sl 8 true [])))]) (.skip)
def c73_2:C:=.cond (.t 56) (.reg [iI 57 (.mv (.t 7)),iI 58 (.load 8 (.t 9)),iI 59 (.mkslp 8 1 (.agg [(.int .i64 0),(.int .u64 0),(.int .i64 0),(.int .i64 0),(.int .i64 0),(.int .i64 0),(.str []),(.str [])]) [(0,(.t 58))]),iI 60 (.append 8 80 (.t 57) (.t 59)),iI 7 (.mv (.t 60))]) (.skip)
def c73_3:C:=.seq (.reg [iI 45 (.mv (.t 7)),iI 46 (.len 0 (.t 45)),iI 47 (.bin .eql (.t 46) (.c (.int .i64 0))),iI 48 (.mv (.t 47)),iG (some 49) 48 false (.faddr 2 (.t 9)),iG (some 50) 48 false (.load 0 (.t 49)),iG (some 51) 48 false (.mv (.t 7)),iG (some 52) 48 false (.iaddr 8 (.t 51) (.c (.int .i64 0))),iG (some 53) 48 false (.faddr 2 (.t 52)),iG (some 54) 48 false (.load 0 (.t 53)),iG (some 55) 48 false (.bin .eql (.t 50) (.t 54)),iI 56 (.pick (.t 48) (.c (.bool true)) (.t 55))]) c73_2
def c73_4:C:=.seq (.seq (.reg [iI 33 (.mv (.t 7)),iI 34 (.len 0 (.t 33)),iI 35 (.bin .gtr (.t 34) (.c (.int .i64 0))),iI 36 (.mv (.t 35)),iG (some 37) 36 true (.faddr 2 (.t 9)),iG (some 38) 36 true (.load 0 (.t 37)),iG (some 39) 36 true (.mv (.t 7)),iG (some 40) 36 true (.iaddr 8 (.t 39) (.c (.int .i64 0))),iG (some 41) 36 true (.faddr 2 (.t 40)),iG (some 42) 36 true (.load 0 (.t 41)),iG (some 43) 36 true (.bin .gtr (.t 38) (.t 42)),iI 44 (.pick (.t 36) (.t 43) (.c (.bool false)))]) c73_1) c73_3
def c73_5:C:=.seq (.seq (.reg [iI 17 (.faddr 0 (.t 9)),iI 18 (.load 0 (.t 17)),iI 19 (.mv (.t 2)),iI 20 (.bin .neq (.t 18) (.t 19)),iI 21 (.mv (.t 20)),iG (some 22) 21 false (.mv (.t 1)),iG (some 23) 21 false (.faddr 5 (.t 9)),iG (some 24) 21 false (.load 0 (.t 23)),iG (some 25) 21 false (.bin .sub (.t 22) (.t 24)),iG (some 26) 21 false (.bin .gtr (.t 25) (.c (.int .i64 2500))),iI 27 (.pick (.t 21) (.c (.bool true)) (.t 26)),iI 28 (.mv (.t 27)),iG (some 29) 28 false (.faddr 6 (.t 9)),iG (some 30) 28 false (.load 0 (.t 29)),iG (some 31) 28 false (.bin .eql (.t 30) (.c (.str []))),iI 32 (.pick (.t 28) (.c (.bool true)) (.t 31))]) c73_0) c73_4
def c73_6:C:=.reg [iI 61 (.bin .add (.t 13) (.c (.int .i64 1))),iI 13 (.mv (.t 61))]
def c73_7:C:=.seq (.block 1 (.seq (.reg [iI 15 (.iaddr 8 (.t 11) (.t 13)),iI 16 (.load 8 (.t 15)),iI 9 (.alloc [(1,(.int .i64 0)),(1,(.int .u64 0)),(1,(.int .i64 0)),(1,(.int .i64 0)),(1,(.int .i64 0)),(1,(.int .i64 0)),(1,(.str [])),(1,(.str []))]),iN (.store 8 (.t 9) (.t 16))]) c73_5)) c73_6
def c73_8:C:=.seq (.cond (.t 14) (.skip) (.exit 0)) c73_7
def c73_9:C:=.block 0 (.loop (.seq (.reg [iI 14 (.bin .lss (.t 13) (.t 12))]) c73_8))
def c73_10:C:=.seq (.reg [iI 62 (.mv (.t 7)),iI 6 (.mv (.t 62))]) .ret
def c73_11:C:=.seq (.seq (.reg [iI 10 (.faddr 0 (.t 3)),iI 11 (.load 0 (.t 10)),iI 12 (.len 0 (.t 11)),iI 13 (.mv (.c (.int .i64 0)))]) c73_9) c73_10
def c73_12:C:=.seq (.reg [iI 7 (.mv (.c (.sl 8 true [])))]) c73_11
def ir73:C:=.seq (.reg [iI 3 (.box (.t 0)),iI 6 (.mv (.c (.sl 8 true [])))]) c73_12
theorem fd73:fd? Try.prog 73=some (63,[.slot 6],ir73):=by kernel_rfl
noncomputable def f73(x0:ReceiverReceiver)(x1:Int)(x2:Int):Option ((List ReceiverInput)) :=
  (Lp.run (f73_L1 x0 x2 x1) (0,[])).bind fun x3=>(some x3)
theorem f73_ok{x0:ReceiverReceiver}{x1:Int}{x2:Int}{r_:(List ReceiverInput)}(H:f73 x0 x1 x2=some r_):Pure Try.prog 73 [.agg [.sl 8 false (x0.fInputs.map eReceiverInput)],.int .i64 x1,.int .i64 x2] (· = .fr 8 (r_.map eReceiverInput)):=by
 refine Pure.walk3 fd73 (some 0) (Nat.le_of_ble_eq_true rfl) (by rfl) fun Q hQ=>?_
 simp only[f73] at H
 refine AW.rseq ?_
 try simp only[↓wk,↓wl,nq,evV,↓reduceIte,sevalprocAttr]
 refine AW.rseq ?_
 try simp only[↓wk,↓wl,nq,evV,↓reduceIte,sevalprocAttr]
 refine AW.sseq ?_
 refine AW.rseq ?_
 try simp only[↓wk,↓wl,nq,evV,↓reduceIte,sevalprocAttr]
 refine AW.bend ?_
 refine AW.iter H ((Le.trans (Le.nilRow (i:=7) (e:=8) (by simp only[↓wk,↓wl,nq,evV,↓reduceIte,sevalprocAttr])) (Le.tz [1] [1,2,7,11,12,13] (by simp only[f73_L1c,rrm,↓wk,↓wl,evV,↓reduceIte,sevalprocAttr]<;>rfl)))) ?_<;>clear H
 rintro ⟨x3,x4⟩ x_ st0_ H hst_
 rw[f73_L1c] at hst_
 simp only[f73_L1] at H
 subst hst_
 refine AW.rseq ?_
 try simp only[↓wk,↓wl,nq,evV,↓reduceIte,sevalprocAttr]
 refine AW.sseq ?_
 refine AW.ifc H (by rfl) ?_ ?_<;>clear H<;>intro H
 ·refine AW.skip ?_
  refine seqQ.norm ?_
  refine AW.bseq ?_
  refine AW.rseq ?_
  try simp only[↓wk,↓wl,nq,evV,↓reduceIte,sevalprocAttr]
  refine evTs_at (enc:=eReceiverInput) H (by rfl) (by rfl) ?_<;>clear H<;>intro x5 H
  try simp only[eReceiverInput,eL,↓wk,↓wl,nq,evV,↓reduceIte,sevalprocAttr]
  refine AW.sseq ?_
  refine AW.rseq ?_
  try simp only[↓wk,↓wl,nq,evV,↓reduceIte,sevalprocAttr]
  refine evTs_ifg H (by rfl) ?_ ?_<;>clear H<;>intro H
  ·try simp only[↓wk,↓wl,nq,evV,↓reduceIte,sevalprocAttr]
   refine AW.ift (by rfl) ?_
   refine AW.exit ?_
   refine seqQ.exit ?_
   refine blkQ.here ?_
   refine AW.rend ?_
   try simp only[↓wk,↓wl,nq,evV,↓reduceIte,sevalprocAttr]
   exact loopQ.next H ((Le.tz [0] [1,2,7,11,12,13] (by simp only[f73_L1c,rrm,↓wk,↓wl,evV,↓reduceIte,sevalprocAttr]<;>rfl)))
  ·try simp only[↓wk,↓wl,nq,evV,↓reduceIte,sevalprocAttr]
   refine evTs_ifg H (by rfl) ?_ ?_<;>clear H<;>intro H
   ·try simp only[↓wk,↓wl,nq,evV,↓reduceIte,sevalprocAttr]
    refine AW.ift (by rfl) ?_
    refine AW.exit ?_
    refine seqQ.exit ?_
    refine blkQ.here ?_
    refine AW.rend ?_
    try simp only[↓wk,↓wl,nq,evV,↓reduceIte,sevalprocAttr]
    exact loopQ.next H ((Le.tz [0] [1,2,7,11,12,13] (by simp only[f73_L1c,rrm,↓wk,↓wl,evV,↓reduceIte,sevalprocAttr]<;>rfl)))
   ·try simp only[↓wk,↓wl,nq,evV,↓reduceIte,sevalprocAttr]
    refine AW.ifc H (by rfl) ?_ ?_<;>clear H<;>intro H
    ·refine AW.exit ?_
     refine seqQ.exit ?_
     refine blkQ.here ?_
     refine AW.rend ?_
     try simp only[↓wk,↓wl,nq,evV,↓reduceIte,sevalprocAttr]
     exact loopQ.next H ((Le.tz [0] [1,2,7,11,12,13] (by simp only[f73_L1c,rrm,↓wk,↓wl,evV,↓reduceIte,sevalprocAttr]<;>rfl)))
    ·refine AW.skip ?_
     refine seqQ.norm ?_
     refine AW.sseq ?_
     refine AW.rseq ?_
     try simp only[↓wk,↓wl,nq,evV,↓reduceIte,sevalprocAttr]
     refine evTs_ifg H (by rfl) ?_ ?_<;>clear H<;>intro H
     ·try simp only[↓wk,↓wl,nq,evV,↓reduceIte,sevalprocAttr]
      refine evTs_atr (enc:=eReceiverInput) H (by rfl) (by first | rfl | simp only[List.length_set]) (by rfl) ?_<;>clear H<;>intro x6 x7 H
      replace x7:(x4.map eReceiverInput)[0]? = some (eReceiverInput x6):=x7
      try simp only[eReceiverInput,eL,↓wk,↓wl,nq,evV,↓reduceIte,sevalprocAttr,x7,eReceiverInput,eL]
      refine AW.ifc H (by rfl) ?_ ?_<;>clear H<;>intro H
      ·refine AW.rend ?_
       try simp only[↓wk,↓wl,nq,evV,↓reduceIte,sevalprocAttr,x7,eReceiverInput,eL]
       refine seqQ.norm ?_
       refine AW.rseq ?_
       try simp only[↓wk,↓wl,nq,evV,↓reduceIte,sevalprocAttr,x7,eReceiverInput,eL]
       refine AW.ift (by rfl) ?_
       refine AW.rend ?_
       try simp only[↓wk,↓wl,nq,evV,↓reduceIte,sevalprocAttr,x7,eReceiverInput,eL]
       refine evTs_app0 (enc:=eReceiverInput) H (by rfl) (by rfl) ?_<;>clear H<;>intro x8 H
       try simp only[↓wk,↓wl,nq,evV,↓reduceIte,sevalprocAttr,x7,eReceiverInput,eL]
       refine blkQ.norm ?_
       refine AW.rend ?_
       try simp only[↓wk,↓wl,nq,evV,↓reduceIte,sevalprocAttr,x7,eReceiverInput,eL]
       exact loopQ.next H ((Le.tz [2] [1,2,7,11,12,13] (by simp only[f73_L1c,rrm,↓wk,↓wl,evV,↓reduceIte,sevalprocAttr,x7,eReceiverInput,eL]<;>rfl)))
      ·refine AW.skip ?_
       refine seqQ.norm ?_
       refine AW.rseq ?_
       try simp only[↓wk,↓wl,nq,evV,↓reduceIte,sevalprocAttr,x7,eReceiverInput,eL]
       refine evTs_ifg H (by rfl) ?_ ?_<;>clear H<;>intro H
       ·try simp only[↓wk,↓wl,nq,evV,↓reduceIte,sevalprocAttr,x7,eReceiverInput,eL]
        refine AW.ift (by rfl) ?_
        refine AW.rend ?_
        try simp only[↓wk,↓wl,nq,evV,↓reduceIte,sevalprocAttr,x7,eReceiverInput,eL]
        refine evTs_app (enc:=eReceiverInput) H (by rfl) (by first | rfl | simp only[List.length_set,x7,eReceiverInput,eL]) (by rfl) (by rfl) ?_<;>clear H<;>intro x9 H
        try simp only[↓wk,↓wl,nq,evV,↓reduceIte,sevalprocAttr,x7,eReceiverInput,eL]
        refine blkQ.norm ?_
        refine AW.rend ?_
        try simp only[↓wk,↓wl,nq,evV,↓reduceIte,sevalprocAttr,x7,eReceiverInput,eL]
        exact loopQ.next H ((Le.tz [2] [1,2,7,11,12,13] (by simp only[f73_L1c,rrm,↓wk,↓wl,evV,↓reduceIte,sevalprocAttr,x7,eReceiverInput,eL]<;>rfl)))
       ·try simp only[↓wk,↓wl,nq,evV,↓reduceIte,sevalprocAttr,x7,eReceiverInput,eL]
        refine evTs_atr (enc:=eReceiverInput) H (by rfl) (by first | rfl | simp only[List.length_set,x7,eReceiverInput,eL]) (by rfl) ?_<;>clear H<;>intro xa xb H
        replace xb:(x4.map eReceiverInput)[0]? = some (eReceiverInput xa):=xb
        try simp only[eReceiverInput,eL,↓wk,↓wl,nq,evV,↓reduceIte,sevalprocAttr,eReceiverInput,eL,xb]
        refine AW.ifc H (by rfl) ?_ ?_<;>clear H<;>intro H
        ·refine AW.rend ?_
         try simp only[↓wk,↓wl,nq,evV,↓reduceIte,sevalprocAttr,eReceiverInput,eL,xb]
         refine evTs_app (enc:=eReceiverInput) H (by rfl) (by first | rfl | simp only[List.length_set,eReceiverInput,eL,xb]) (by rfl) (by rfl) ?_<;>clear H<;>intro xc H
         try simp only[↓wk,↓wl,nq,evV,↓reduceIte,sevalprocAttr,eReceiverInput,eL,xb]
         refine blkQ.norm ?_
         refine AW.rend ?_
         try simp only[↓wk,↓wl,nq,evV,↓reduceIte,sevalprocAttr,eReceiverInput,eL,xb]
         exact loopQ.next H ((Le.tz [2] [1,2,7,11,12,13] (by simp only[f73_L1c,rrm,↓wk,↓wl,evV,↓reduceIte,sevalprocAttr,eReceiverInput,eL,xb]<;>rfl)))
        ·refine AW.skip ?_
         refine blkQ.norm ?_
         refine AW.rend ?_
         try simp only[↓wk,↓wl,nq,evV,↓reduceIte,sevalprocAttr,eReceiverInput,eL,xb]
         exact loopQ.next H ((Le.tz [0] [1,2,7,11,12,13] (by simp only[f73_L1c,rrm,↓wk,↓wl,evV,↓reduceIte,sevalprocAttr,eReceiverInput,eL,xb]<;>rfl)))
     ·try simp only[↓wk,↓wl,nq,evV,↓reduceIte,sevalprocAttr]
      refine AW.iff (by rfl) ?_
      refine AW.skip ?_
      refine seqQ.norm ?_
      refine AW.rseq ?_
      try simp only[↓wk,↓wl,nq,evV,↓reduceIte,sevalprocAttr]
      refine evTs_ifg H (by rfl) ?_ ?_<;>clear H<;>intro H
      ·try simp only[↓wk,↓wl,nq,evV,↓reduceIte,sevalprocAttr]
       refine AW.ift (by rfl) ?_
       refine AW.rend ?_
       try simp only[↓wk,↓wl,nq,evV,↓reduceIte,sevalprocAttr]
       refine evTs_app (enc:=eReceiverInput) H (by rfl) (by first | rfl | simp only[List.length_set]) (by rfl) (by rfl) ?_<;>clear H<;>intro xd H
       try simp only[↓wk,↓wl,nq,evV,↓reduceIte,sevalprocAttr]
       refine blkQ.norm ?_
       refine AW.rend ?_
       try simp only[↓wk,↓wl,nq,evV,↓reduceIte,sevalprocAttr]
       exact loopQ.next H ((Le.tz [2] [1,2,7,11,12,13] (by simp only[f73_L1c,rrm,↓wk,↓wl,evV,↓reduceIte,sevalprocAttr]<;>rfl)))
      ·try simp only[↓wk,↓wl,nq,evV,↓reduceIte,sevalprocAttr]
       refine evTs_atr (enc:=eReceiverInput) H (by rfl) (by first | rfl | simp only[List.length_set]) (by rfl) ?_<;>clear H<;>intro xe xf H
       replace xf:(x4.map eReceiverInput)[0]? = some (eReceiverInput xe):=xf
       try simp only[eReceiverInput,eL,↓wk,↓wl,nq,evV,↓reduceIte,sevalprocAttr,xf,eReceiverInput,eL]
       refine AW.ifc H (by rfl) ?_ ?_<;>clear H<;>intro H
       ·refine AW.rend ?_
        try simp only[↓wk,↓wl,nq,evV,↓reduceIte,sevalprocAttr,xf,eReceiverInput,eL]
        refine evTs_app (enc:=eReceiverInput) H (by rfl) (by first | rfl | simp only[List.length_set,xf,eReceiverInput,eL]) (by rfl) (by rfl) ?_<;>clear H<;>intro xg H
        try simp only[↓wk,↓wl,nq,evV,↓reduceIte,sevalprocAttr,xf,eReceiverInput,eL]
        refine blkQ.norm ?_
        refine AW.rend ?_
        try simp only[↓wk,↓wl,nq,evV,↓reduceIte,sevalprocAttr,xf,eReceiverInput,eL]
        exact loopQ.next H ((Le.tz [2] [1,2,7,11,12,13] (by simp only[f73_L1c,rrm,↓wk,↓wl,evV,↓reduceIte,sevalprocAttr,xf,eReceiverInput,eL]<;>rfl)))
       ·refine AW.skip ?_
        refine blkQ.norm ?_
        refine AW.rend ?_
        try simp only[↓wk,↓wl,nq,evV,↓reduceIte,sevalprocAttr,xf,eReceiverInput,eL]
        exact loopQ.next H ((Le.tz [0] [1,2,7,11,12,13] (by simp only[f73_L1c,rrm,↓wk,↓wl,evV,↓reduceIte,sevalprocAttr,xf,eReceiverInput,eL]<;>rfl)))
 ·refine AW.exit ?_
  refine seqQ.exit ?_
  refine loopQ.exit H ?_<;>clear H<;>intro H
  try dsimp only at H
  refine blk0.here ?_
  refine seqQ.norm ?_
  refine AW.rseq ?_
  try simp only[↓wk,↓wl,nq,evV,↓reduceIte,sevalprocAttr]
  refine AW.ret ?_
  cases H
  exact hQ _ _ _ _ (.inr rfl) (by simp only[resVs,omap,resV,↓wk,↓wl,nq,evV,↓reduceIte,sevalprocAttr];rfl) (hand_1 (by rfl) (by simp) (enc_all _)) (by first | exact Or.inl rfl | exact Or.inr rfl)
theorem f73_im{x0:ReceiverReceiver}{x1:Int}{x2:Int}{r_:(List ReceiverInput)}(H:f73 x0 x1 x2=some r_):Pure Try.prog 73 [.agg [.sl 8 false (x0.fInputs.map eReceiverInput)],.int .i64 x1,.int .i64 x2] (· = .sl 8 false (r_.map eReceiverInput)):=(f73_ok H).unfr (by first | exact enc_fits _ | simp only[frFits,List.all_cons,List.all_nil,enc_fits,Bool.and_self])
noncomputable def f30_L3(x0:ReceiverInput)(x1:Int)(x2:(List ReceiverInput))(x3:Int)(x4:(List ApiFrame))(x5:Int)(x6:ReceiverReceiver):Lp (Int×(List Int)) ((List Int)) where
  body:=fun (x7,x8)=>(if (decide (x7<512))=true then (arr? 512 x8 x7).bind fun x9=>(at? x0.fSlots x7).bind fun xa=>(arr? 512 x8 x7).bind fun xb=>(some (.next ((IntKind.i64.wrap (x7 + 1)),(x8.set x7.toNat (if (xa.toNat:Int) > x9 then (xa.toNat:Int) else x9))))) else (some (.brk x8)))
  cst:=fun (x7,x8)=>⟨put (put (put (put (put (put (put (put (put (put (fun _=>.junk) 37 (.int .i64 x7)) 33 (.int .i64 x1)) 32 (.int .i64 ((x2.length:Nat):Int))) 31 (.sl 8 false (x2.map eReceiverInput))) 12 (.ptr 3 0)) 10 (.ptr 2 0)) 8 (.int .i64 x3)) 7 (.row 2 1 0 x4.length)) 2 (.ptr 0 0)) 1 (.int .i64 x5),[.cel [.sl 8 false (x6.fInputs.map eReceiverInput)],.els 2 (x4.map eApiFrame),.cel (x8.map (AV.int .u8)),.cel [.int .i64 x0.fUniverse,.int .u64 x0.fSource,.int .i64 x0.fPriority,.int .i64 x0.fSeq,.int .i64 x0.fSync,.int .i64 x0.fLast,.str x0.fSlots,.str x0.fWait]]⟩
theorem f30_L3c(x0:ReceiverInput)(x1:Int)(x2:(List ReceiverInput))(x3:Int)(x4:(List ApiFrame))(x5:Int)(x6:ReceiverReceiver)(x7:Int)(x8:(List Int)):(f30_L3 x0 x1 x2 x3 x4 x5 x6).cst (x7,x8)=⟨put (put (put (put (put (put (put (put (put (put (fun _=>.junk) 37 (.int .i64 x7)) 33 (.int .i64 x1)) 32 (.int .i64 ((x2.length:Nat):Int))) 31 (.sl 8 false (x2.map eReceiverInput))) 12 (.ptr 3 0)) 10 (.ptr 2 0)) 8 (.int .i64 x3)) 7 (.row 2 1 0 x4.length)) 2 (.ptr 0 0)) 1 (.int .i64 x5),[.cel [.sl 8 false (x6.fInputs.map eReceiverInput)],.els 2 (x4.map eApiFrame),.cel (x8.map (AV.int .u8)),.cel [.int .i64 x0.fUniverse,.int .u64 x0.fSource,.int .i64 x0.fPriority,.int .i64 x0.fSeq,.int .i64 x0.fSync,.int .i64 x0.fLast,.str x0.fSlots,.str x0.fWait]]⟩:=rfl
noncomputable def f30_L2(x0:(List ReceiverInput))(x1:Int)(x2:(List ApiFrame))(x3:Int)(x4:ReceiverReceiver):Lp (Int×(List Int)) ((List Int)) where
  body:=fun (x5,x6)=>(if (decide (x5<((x0.length:Nat):Int)))=true then (at? x0 x5).bind fun x7=>(Lp.run (f30_L3 x7 x5 x0 x1 x2 x3 x4) (0,x6)).bind fun x8=>(some (.next ((IntKind.i64.wrap (x5 + 1)),x8))) else (some (.brk x6)))
  cst:=fun (x5,x6)=>⟨put (put (put (put (put (put (put (put (fun _=>.junk) 33 (.int .i64 x5)) 32 (.int .i64 ((x0.length:Nat):Int))) 31 (.sl 8 false (x0.map eReceiverInput))) 10 (.ptr 2 0)) 8 (.int .i64 x1)) 7 (.row 2 1 0 x2.length)) 2 (.ptr 0 0)) 1 (.int .i64 x3),[.cel [.sl 8 false (x4.fInputs.map eReceiverInput)],.els 2 (x2.map eApiFrame),.cel (x6.map (AV.int .u8))]⟩
theorem f30_L2c(x0:(List ReceiverInput))(x1:Int)(x2:(List ApiFrame))(x3:Int)(x4:ReceiverReceiver)(x5:Int)(x6:(List Int)):(f30_L2 x0 x1 x2 x3 x4).cst (x5,x6)=⟨put (put (put (put (put (put (put (put (fun _=>.junk) 33 (.int .i64 x5)) 32 (.int .i64 ((x0.length:Nat):Int))) 31 (.sl 8 false (x0.map eReceiverInput))) 10 (.ptr 2 0)) 8 (.int .i64 x1)) 7 (.row 2 1 0 x2.length)) 2 (.ptr 0 0)) 1 (.int .i64 x3),[.cel [.sl 8 false (x4.fInputs.map eReceiverInput)],.els 2 (x2.map eApiFrame),.cel (x6.map (AV.int .u8))]⟩:=rfl
noncomputable def f30_L1(x0:ReceiverReceiver)(x1:Int):Lp (Int×(List ApiFrame)) ((List ApiFrame)) where
  body:=fun (x2,x3)=>(if (decide (x2≤8))=true then (f73 x0 x1 x2).bind fun x4=>(if (decide (((x4.length:Nat):Int)=0))=true then (some (.next ((IntKind.i64.wrap (x2 + 1)),x3))) else (arr0? 512 (0:Int)).bind fun x5=>(Lp.run (f30_L2 x4 x2 x3 x1 x0) (0,x5)).bind fun x6=>(must? (x6.length=512)).bind fun _=>(app? 24 x3 ([(ApiFrame.mk x2 (x6.map b8))])).bind fun x7=>(some (.next ((IntKind.i64.wrap (x2 + 1)),x7)))) else (some (.brk x3)))
  cst:=fun (x2,x3)=>⟨put (put (put (put (fun _=>.junk) 8 (.int .i64 x2)) 7 (.row 2 1 0 x3.length)) 2 (.ptr 0 0)) 1 (.int .i64 x1),[.cel [.sl 8 false (x0.fInputs.map eReceiverInput)],.els 2 (x3.map eApiFrame)]⟩
theorem f30_L1c(x0:ReceiverReceiver)(x1:Int)(x2:Int)(x3:(List ApiFrame)):(f30_L1 x0 x1).cst (x2,x3)=⟨put (put (put (put (fun _=>.junk) 8 (.int .i64 x2)) 7 (.row 2 1 0 x3.length)) 2 (.ptr 0 0)) 1 (.int .i64 x1),[.cel [.sl 8 false (x0.fInputs.map eReceiverInput)],.els 2 (x3.map eApiFrame)]⟩:=rfl
def c30_0:C:=.cond (.t 18) (.seq (.reg [iI 19 (.mv (.t 6)),iI 4 (.mv (.c (.sl 2 true []))),iI 5 (.mv (.t 19))]) .ret) (.skip)
def c30_1:C:=.seq (.reg [iI 17 (.mv (.t 6)),iI 18 (.bin .neq (.t 17) (.c (.int .i64 0)))]) c30_0
def c30_2:C:=.cond (.t 21) (.skip) (.exit 0)
def c30_3:C:=.cond (.t 30) (.exit 1) (.skip)
def c30_4:C:=.reg [iI 40 (.mv (.t 13)),iI 41 (.mv (.t 13)),iI 42 (.aiaddr 0 512 (.t 10) (.t 41)),iI 43 (.load 0 (.t 42)),iI 44 (.faddr 6 (.t 12)),iI 45 (.load 0 (.t 44)),iI 46 (.mv (.t 13)),iI 47 (.sidx (.t 45) (.t 46)),iI 48 (.maxmin true (.t 43) [(.t 47)]),iI 49 (.aiaddr 0 512 (.t 10) (.t 40)),iN (.store 0 (.t 49) (.t 48))]
def c30_5:C:=.reg [iI 50 (.bin .add (.t 37) (.c (.int .i64 1))),iI 37 (.mv (.t 50))]
def c30_6:C:=.seq (.block 5 (.seq (.reg [iI 39 (.mv (.t 37)),iI 13 (.mv (.t 39))]) c30_4)) c30_5
def c30_7:C:=.seq (.cond (.t 38) (.skip) (.exit 4)) c30_6
def c30_8:C:=.block 4 (.loop (.seq (.reg [iI 38 (.bin .lss (.t 37) (.c (.int .i64 512)))]) c30_7))
def c30_9:C:=.seq (.reg [iI 37 (.mv (.c (.int .i64 0)))]) c30_8
def c30_10:C:=.reg [iI 51 (.bin .add (.t 33) (.c (.int .i64 1))),iI 33 (.mv (.t 51))]
def c30_11:C:=.seq (.block 3 (.seq (.reg [iI 35 (.iaddr 8 (.t 31) (.t 33)),iI 36 (.load 8 (.t 35)),iI 12 (.alloc [(1,(.int .i64 0)),(1,(.int .u64 0)),(1,(.int .i64 0)),(1,(.int .i64 0)),(1,(.int .i64 0)),(1,(.int .i64 0)),(1,(.str [])),(1,(.str []))]),iN (.store 8 (.t 12) (.t 36))]) c30_9)) c30_10
def c30_12:C:=.seq (.cond (.t 34) (.skip) (.exit 2)) c30_11
def c30_13:C:=.block 2 (.loop (.seq (.reg [iI 34 (.bin .lss (.t 33) (.t 32))]) c30_12))
def c30_14:C:=.reg [iI 52 (.mv (.t 7)),iI 53 (.mv (.t 8)),iI 54 (.aslice 0 512 (.t 10) none none),iI 55 (.cstr (.t 54)),iI 56 (.build [(1,(.int .i64 0)),(1,(.str []))] [(0,0,(.t 53)),(1,0,(.t 55))]),iI 57 (.mkslp 2 1 (.agg [(.int .i64 0),(.str [])]) [(0,(.t 56))]),iI 58 (.append 2 24 (.t 52) (.t 57)),iI 7 (.mv (.t 58))]
def c30_15:C:=.seq (.seq (.reg [iI 31 (.mv (.t 9)),iI 32 (.len 0 (.t 31)),iI 33 (.mv (.c (.int .i64 0)))]) c30_13) c30_14
def c30_16:C:=.seq (.reg [iI 10 (.alloc [(512,(.int .u8 0))])]) c30_15
def c30_17:C:=.seq (.seq (.reg [iI 28 (.mv (.t 9)),iI 29 (.len 0 (.t 28)),iI 30 (.bin .eql (.t 29) (.c (.int .i64 0)))]) c30_3) c30_16
def c30_18:C:=.reg [iI 22 (.mv (.t 8)),iI 23 (.bin .add (.t 22) (.c (.int .i64 1))),iI 8 (.mv (.t 23))]
def c30_19:C:=.seq (.block 1 (.seq (.reg [iI 24 (.load 1 (.t 2)),iI 25 (.mv (.t 1)),iI 26 (.mv (.t 8)),iI 27 (.call (.c (.fn 73 [])) [(.t 24),(.t 25),(.t 26)]),iI 9 (.mv (.t 27))]) c30_17)) c30_18
def c30_20:C:=.block 0 (.loop (.seq (.seq (.reg [iI 20 (.mv (.t 8)),iI 21 (.bin .leq (.t 20) (.c (.int .i64 8)))]) c30_2) c30_19))
def c30_21:C:=.seq (.reg [iI 59 (.mv (.t 7)),iI 4 (.mv (.t 59)),iI 5 (.mv (.c (.int .i64 0)))]) .ret
def c30_22:C:=.seq (.seq (.reg [iI 8 (.mv (.c (.int .i64 1)))]) c30_20) c30_21
def c30_23:C:=.seq (.reg [iI 7 (.mv (.c (.sl 2 true [])))]) c30_22
def c30_24:C:=.seq (.seq (.reg [iI 14 (.load 1 (.t 2)),iI 15 (.mv (.t 1)),iI 16 (.call (.c (.fn 58 [])) [(.t 14),(.t 15)]),iI 6 (.mv (.t 16))]) c30_1) c30_23
def ir30:C:=.seq (.reg [iI 2 (.box (.t 0)),iI 4 (.mv (.c (.sl 2 true []))),iI 5 (.mv (.c (.int .i64 0)))]) c30_24
theorem fd30:fd? Try.prog 30=some (60,[.slot 4,.slot 5],ir30):=by kernel_rfl
noncomputable def f30(x0:ReceiverReceiver)(x1:Int):Option ((List ApiFrame)×Int) :=
  (f58 x0 x1).bind fun x2=>(if (decide (x2≠0))=true then (some ([],x2)) else (Lp.run (f30_L1 x0 x1) (1,[])).bind fun x3=>(some (x3,0)))
theorem f30_ok{x0:ReceiverReceiver}{x1:Int}{r_:(List ApiFrame)×Int}(H:f30 x0 x1=some r_):Pure Try.prog 30 [.agg [.sl 8 false (x0.fInputs.map eReceiverInput)],.int .i64 x1] (· = .tup [.fr 2 (r_.1.map eApiFrame),.int .i64 r_.2]):=by
 refine Pure.walk3 fd30 (some 0) (Nat.le_of_ble_eq_true rfl) (by rfl) fun Q hQ=>?_
 simp only[f30] at H
 refine AW.rseq ?_
 try simp only[↓wk,↓wl,nqa,evV,↓reduceIte,Nat.reduceEqDiff,Nat.reduceAdd,Nat.reduceSub,Nat.reduceLeDiff,Nat.reduceLT,Nat.reduceBEq,reduceCtorEq,Int.reduceEq]
 refine evTs_any rfl (by simp only[nc,↓wk,↓wl,nqa,evV,↓reduceIte,Nat.reduceEqDiff,Nat.reduceAdd,Nat.reduceSub,Nat.reduceLeDiff,Nat.reduceLT,Nat.reduceBEq,reduceCtorEq,Int.reduceEq,Nat.reduceLeDiff];rfl) ?_
 try simp only[↓wk,↓wl,nqa,evV,↓reduceIte,Nat.reduceEqDiff,Nat.reduceAdd,Nat.reduceSub,Nat.reduceLeDiff,Nat.reduceLT,Nat.reduceBEq,reduceCtorEq,Int.reduceEq]
 refine AW.sseq ?_
 refine AW.rseq ?_
 try simp only[↓wk,↓wl,nqa,evV,↓reduceIte,Nat.reduceEqDiff,Nat.reduceAdd,Nat.reduceSub,Nat.reduceLeDiff,Nat.reduceLT,Nat.reduceBEq,reduceCtorEq,Int.reduceEq]
 refine evTs_any rfl (by simp only[nc,↓wk,↓wl,nqa,evV,↓reduceIte,Nat.reduceEqDiff,Nat.reduceAdd,Nat.reduceSub,Nat.reduceLeDiff,Nat.reduceLT,Nat.reduceBEq,reduceCtorEq,Int.reduceEq,Nat.reduceLeDiff];rfl) ?_
 try simp only[↓wk,↓wl,nqa,evV,↓reduceIte,Nat.reduceEqDiff,Nat.reduceAdd,Nat.reduceSub,Nat.reduceLeDiff,Nat.reduceLT,Nat.reduceBEq,reduceCtorEq,Int.reduceEq]
 refine evTs_pure hFn H (fun _ h=>f58_ok h) (by rfl) (by rfl) (by rfl) (by rfl) (fun _=>rfl) ?_<;>clear H<;>intro x2 H
 try simp only[eL,↓wk,↓wl,nqa,evV,↓reduceIte,Nat.reduceEqDiff,Nat.reduceAdd,Nat.reduceSub,Nat.reduceLeDiff,Nat.reduceLT,Nat.reduceBEq,reduceCtorEq,Int.reduceEq]
 refine AW.rseq ?_
 try simp only[↓wk,↓wl,nqa,evV,↓reduceIte,Nat.reduceEqDiff,Nat.reduceAdd,Nat.reduceSub,Nat.reduceLeDiff,Nat.reduceLT,Nat.reduceBEq,reduceCtorEq,Int.reduceEq]
 refine AW.ifc H (by rfl) ?_ ?_<;>clear H<;>intro H
 ·refine AW.rseq ?_
  try simp only[↓wk,↓wl,nqa,evV,↓reduceIte,Nat.reduceEqDiff,Nat.reduceAdd,Nat.reduceSub,Nat.reduceLeDiff,Nat.reduceLT,Nat.reduceBEq,reduceCtorEq,Int.reduceEq]
  refine AW.ret ?_
  refine seqQ.ret ?_
  cases H
  exact hQ _ _ _ _ (.inr rfl) (by simp only[resVs,omap,resV,↓wk,↓wl,nqa,evV,↓reduceIte,Nat.reduceEqDiff,Nat.reduceAdd,Nat.reduceSub,Nat.reduceLeDiff,Nat.reduceLT,Nat.reduceBEq,reduceCtorEq,Int.reduceEq];rfl) (hand_k0 (by rfl) (by rfl)) (by first | exact Or.inl rfl | exact Or.inr rfl)
 ·refine AW.skip ?_
  refine seqQ.norm ?_
  refine AW.rseq ?_
  try simp only[↓wk,↓wl,nqa,evV,↓reduceIte,Nat.reduceEqDiff,Nat.reduceAdd,Nat.reduceSub,Nat.reduceLeDiff,Nat.reduceLT,Nat.reduceBEq,reduceCtorEq,Int.reduceEq]
  refine AW.sseq ?_
  refine AW.rseq ?_
  try simp only[↓wk,↓wl,nqa,evV,↓reduceIte,Nat.reduceEqDiff,Nat.reduceAdd,Nat.reduceSub,Nat.reduceLeDiff,Nat.reduceLT,Nat.reduceBEq,reduceCtorEq,Int.reduceEq]
  refine AW.bend ?_
  refine AW.iter H ((Le.trans (Le.nilRow (i:=7) (e:=2) (by simp only[↓wk,↓wl,nq,evV,↓reduceIte,sevalprocAttr])) (Le.tz [0,1] [1,2,7,8] (by simp only[f30_L1c,rrm,↓wk,↓wl,evV,↓reduceIte,Nat.reduceEqDiff,Nat.reduceAdd,Nat.reduceSub,Nat.reduceLeDiff,Nat.reduceLT,Nat.reduceBEq,reduceCtorEq,Int.reduceEq]<;>rfl)))) ?_<;>clear H
  rintro ⟨x3,x4⟩ x_ st0_ H hst_
  rw[f30_L1c] at hst_
  simp only[f30_L1] at H
  subst hst_
  refine AW.sseq ?_
  refine AW.rseq ?_
  try simp only[↓wk,↓wl,nqa,evV,↓reduceIte,Nat.reduceEqDiff,Nat.reduceAdd,Nat.reduceSub,Nat.reduceLeDiff,Nat.reduceLT,Nat.reduceBEq,reduceCtorEq,Int.reduceEq]
  refine AW.ifc H (by rfl) ?_ ?_<;>clear H<;>intro H
  ·refine AW.skip ?_
   refine seqQ.norm ?_
   refine AW.bseq ?_
   refine AW.rseq ?_
   try simp only[↓wk,↓wl,nqa,evV,↓reduceIte,Nat.reduceEqDiff,Nat.reduceAdd,Nat.reduceSub,Nat.reduceLeDiff,Nat.reduceLT,Nat.reduceBEq,reduceCtorEq,Int.reduceEq]
   refine evTs_any rfl (by simp only[nc,↓wk,↓wl,nqa,evV,↓reduceIte,Nat.reduceEqDiff,Nat.reduceAdd,Nat.reduceSub,Nat.reduceLeDiff,Nat.reduceLT,Nat.reduceBEq,reduceCtorEq,Int.reduceEq,Nat.reduceLeDiff];rfl) ?_
   try simp only[↓wk,↓wl,nqa,evV,↓reduceIte,Nat.reduceEqDiff,Nat.reduceAdd,Nat.reduceSub,Nat.reduceLeDiff,Nat.reduceLT,Nat.reduceBEq,reduceCtorEq,Int.reduceEq]
   refine evTs_pure hFn H (fun _ h=>f73_im h) (by rfl) (by rfl) (by rfl) (by rfl) (fun _=>rfl) ?_<;>clear H<;>intro x5 H
   try simp only[eL,↓wk,↓wl,nqa,evV,↓reduceIte,Nat.reduceEqDiff,Nat.reduceAdd,Nat.reduceSub,Nat.reduceLeDiff,Nat.reduceLT,Nat.reduceBEq,reduceCtorEq,Int.reduceEq]
   refine AW.sseq ?_
   refine AW.rseq ?_
   try simp only[↓wk,↓wl,nqa,evV,↓reduceIte,Nat.reduceEqDiff,Nat.reduceAdd,Nat.reduceSub,Nat.reduceLeDiff,Nat.reduceLT,Nat.reduceBEq,reduceCtorEq,Int.reduceEq]
   refine AW.ifc H (by rfl) ?_ ?_<;>clear H<;>intro H
   ·refine AW.exit ?_
    refine seqQ.exit ?_
    refine blkQ.here ?_
    refine AW.rend ?_
    try simp only[↓wk,↓wl,nqa,evV,↓reduceIte,Nat.reduceEqDiff,Nat.reduceAdd,Nat.reduceSub,Nat.reduceLeDiff,Nat.reduceLT,Nat.reduceBEq,reduceCtorEq,Int.reduceEq]
    exact loopQ.next H ((Le.tz [0,1] [1,2,7,8] (by simp only[f30_L1c,rrm,↓wk,↓wl,evV,↓reduceIte,Nat.reduceEqDiff,Nat.reduceAdd,Nat.reduceSub,Nat.reduceLeDiff,Nat.reduceLT,Nat.reduceBEq,reduceCtorEq,Int.reduceEq]<;>rfl)))
   ·refine AW.skip ?_
    refine seqQ.norm ?_
    refine AW.rseq ?_
    try simp only[↓wk,↓wl,nqa,evV,↓reduceIte,Nat.reduceEqDiff,Nat.reduceAdd,Nat.reduceSub,Nat.reduceLeDiff,Nat.reduceLT,Nat.reduceBEq,reduceCtorEq,Int.reduceEq]
    refine evTs_arrn (enc:=(AV.int .u8)) H (by rfl) ?_<;>clear H<;>intro x6 H
    try simp only[↓wk,↓wl,nqa,evV,↓reduceIte,Nat.reduceEqDiff,Nat.reduceAdd,Nat.reduceSub,Nat.reduceLeDiff,Nat.reduceLT,Nat.reduceBEq,reduceCtorEq,Int.reduceEq]
    refine AW.sseq ?_
    refine AW.rseq ?_
    try simp only[↓wk,↓wl,nqa,evV,↓reduceIte,Nat.reduceEqDiff,Nat.reduceAdd,Nat.reduceSub,Nat.reduceLeDiff,Nat.reduceLT,Nat.reduceBEq,reduceCtorEq,Int.reduceEq]
    refine AW.bend ?_
    refine AW.iter H ((Le.tz [0,1,2] [1,2,7,8,10,31,32,33] (by simp only[f30_L2c,rrm,↓wk,↓wl,evV,↓reduceIte,Nat.reduceEqDiff,Nat.reduceAdd,Nat.reduceSub,Nat.reduceLeDiff,Nat.reduceLT,Nat.reduceBEq,reduceCtorEq,Int.reduceEq]<;>rfl))) ?_<;>clear H
    rintro ⟨x7,x8⟩ x_ st0_ H hst_
    rw[f30_L2c] at hst_
    simp only[f30_L2] at H
    subst hst_
    refine AW.rseq ?_
    try simp only[↓wk,↓wl,nqa,evV,↓reduceIte,Nat.reduceEqDiff,Nat.reduceAdd,Nat.reduceSub,Nat.reduceLeDiff,Nat.reduceLT,Nat.reduceBEq,reduceCtorEq,Int.reduceEq]
    refine AW.sseq ?_
    refine AW.ifc H (by rfl) ?_ ?_<;>clear H<;>intro H
    ·refine AW.skip ?_
     refine seqQ.norm ?_
     refine AW.bseq ?_
     refine AW.rseq ?_
     try simp only[↓wk,↓wl,nqa,evV,↓reduceIte,Nat.reduceEqDiff,Nat.reduceAdd,Nat.reduceSub,Nat.reduceLeDiff,Nat.reduceLT,Nat.reduceBEq,reduceCtorEq,Int.reduceEq]
     refine evTs_at (enc:=eReceiverInput) H (by rfl) (by rfl) ?_<;>clear H<;>intro x9 H
     try simp only[eReceiverInput,eL,↓wk,↓wl,nqa,evV,↓reduceIte,Nat.reduceEqDiff,Nat.reduceAdd,Nat.reduceSub,Nat.reduceLeDiff,Nat.reduceLT,Nat.reduceBEq,reduceCtorEq,Int.reduceEq]
     refine evTs_any rfl (by simp only[nc,↓wk,↓wl,nqa,evV,↓reduceIte,Nat.reduceEqDiff,Nat.reduceAdd,Nat.reduceSub,Nat.reduceLeDiff,Nat.reduceLT,Nat.reduceBEq,reduceCtorEq,Int.reduceEq,Nat.reduceLeDiff];rfl) ?_
     try simp only[↓wk,↓wl,nqa,evV,↓reduceIte,Nat.reduceEqDiff,Nat.reduceAdd,Nat.reduceSub,Nat.reduceLeDiff,Nat.reduceLT,Nat.reduceBEq,reduceCtorEq,Int.reduceEq]
     refine evTs_any rfl (by simp only[nc,↓wk,↓wl,nqa,evV,↓reduceIte,Nat.reduceEqDiff,Nat.reduceAdd,Nat.reduceSub,Nat.reduceLeDiff,Nat.reduceLT,Nat.reduceBEq,reduceCtorEq,Int.reduceEq,Nat.reduceLeDiff];rfl) ?_
     try simp only[↓wk,↓wl,nqa,evV,↓reduceIte,Nat.reduceEqDiff,Nat.reduceAdd,Nat.reduceSub,Nat.reduceLeDiff,Nat.reduceLT,Nat.reduceBEq,reduceCtorEq,Int.reduceEq]
     refine evTs_st (by simp only[↓wk,↓wl,nqa,evV,↓reduceIte,Nat.reduceEqDiff,Nat.reduceAdd,Nat.reduceSub,Nat.reduceLeDiff,Nat.reduceLT,Nat.reduceBEq,reduceCtorEq,Int.reduceEq,Nat.reduceLeDiff];rfl) ?_
     try simp only[↓wk,↓wl,nqa,evV,↓reduceIte,Nat.reduceEqDiff,Nat.reduceAdd,Nat.reduceSub,Nat.reduceLeDiff,Nat.reduceLT,Nat.reduceBEq,reduceCtorEq,Int.reduceEq]
     refine AW.rseq ?_
     try simp only[↓wk,↓wl,nqa,evV,↓reduceIte,Nat.reduceEqDiff,Nat.reduceAdd,Nat.reduceSub,Nat.reduceLeDiff,Nat.reduceLT,Nat.reduceBEq,reduceCtorEq,Int.reduceEq]
     refine AW.bend ?_
     refine AW.iter H ((Le.tz [0,1,2,3] [1,2,7,8,10,12,31,32,33,37] (by simp only[f30_L3c,rrm,↓wk,↓wl,evV,↓reduceIte,Nat.reduceEqDiff,Nat.reduceAdd,Nat.reduceSub,Nat.reduceLeDiff,Nat.reduceLT,Nat.reduceBEq,reduceCtorEq,Int.reduceEq]<;>rfl))) ?_<;>clear H
     rintro ⟨xa,xb⟩ x_ st0_ H hst_
     rw[f30_L3c] at hst_
     simp only[f30_L3] at H
     subst hst_
     refine AW.rseq ?_
     try simp only[↓wk,↓wl,nqa,evV,↓reduceIte,Nat.reduceEqDiff,Nat.reduceAdd,Nat.reduceSub,Nat.reduceLeDiff,Nat.reduceLT,Nat.reduceBEq,reduceCtorEq,Int.reduceEq]
     refine AW.sseq ?_
     refine AW.ifc H (by rfl) ?_ ?_<;>clear H<;>intro H
     ·refine AW.skip ?_
      refine seqQ.norm ?_
      refine AW.bseq ?_
      refine AW.rseq ?_
      try simp only[↓wk,↓wl,nqa,evV,↓reduceIte,Nat.reduceEqDiff,Nat.reduceAdd,Nat.reduceSub,Nat.reduceLeDiff,Nat.reduceLT,Nat.reduceBEq,reduceCtorEq,Int.reduceEq]
      refine AW.rend ?_
      try simp only[↓wk,↓wl,nqa,evV,↓reduceIte,Nat.reduceEqDiff,Nat.reduceAdd,Nat.reduceSub,Nat.reduceLeDiff,Nat.reduceLT,Nat.reduceBEq,reduceCtorEq,Int.reduceEq]
      refine evTs_aat (enc:=(AV.int .u8)) H (by rfl) (by rfl) ?_<;>clear H<;>intro xc xd H
      try simp only[↓wk,↓wl,nqa,evV,↓reduceIte,Nat.reduceEqDiff,Nat.reduceAdd,Nat.reduceSub,Nat.reduceLeDiff,Nat.reduceLT,Nat.reduceBEq,reduceCtorEq,Int.reduceEq]
      refine evTs_ald (enc:=(AV.int .u8)) xc (by rfl) (by rfl) xd ?_
      try simp only[↓wk,↓wl,nqa,evV,↓reduceIte,Nat.reduceEqDiff,Nat.reduceAdd,Nat.reduceSub,Nat.reduceLeDiff,Nat.reduceLT,Nat.reduceBEq,reduceCtorEq,Int.reduceEq]
      refine evTs_any rfl (by simp only[nc,↓wk,↓wl,nqa,evV,↓reduceIte,Nat.reduceEqDiff,Nat.reduceAdd,Nat.reduceSub,Nat.reduceLeDiff,Nat.reduceLT,Nat.reduceBEq,reduceCtorEq,Int.reduceEq,Nat.reduceLeDiff];rfl) ?_
      try simp only[↓wk,↓wl,nqa,evV,↓reduceIte,Nat.reduceEqDiff,Nat.reduceAdd,Nat.reduceSub,Nat.reduceLeDiff,Nat.reduceLT,Nat.reduceBEq,reduceCtorEq,Int.reduceEq]
      refine evTs_sat H (by rfl) (by rfl) ?_<;>clear H<;>intro xe H
      try simp only[↓wk,↓wl,nqa,evV,↓reduceIte,Nat.reduceEqDiff,Nat.reduceAdd,Nat.reduceSub,Nat.reduceLeDiff,Nat.reduceLT,Nat.reduceBEq,reduceCtorEq,Int.reduceEq]
      refine evTs_aat (enc:=(AV.int .u8)) H (by rfl) (by rfl) ?_<;>clear H<;>intro xf xg H
      try simp only[↓wk,↓wl,nqa,evV,↓reduceIte,Nat.reduceEqDiff,Nat.reduceAdd,Nat.reduceSub,Nat.reduceLeDiff,Nat.reduceLT,Nat.reduceBEq,reduceCtorEq,Int.reduceEq]
      refine evTs_ast (enc:=(AV.int .u8)) (if (xe.toNat:Int) > xc then (xe.toNat:Int) else xc) (by rfl) (by rfl) xg (by rfl) ?_
      try simp only[↓wk,↓wl,nqa,evV,↓reduceIte,Nat.reduceEqDiff,Nat.reduceAdd,Nat.reduceSub,Nat.reduceLeDiff,Nat.reduceLT,Nat.reduceBEq,reduceCtorEq,Int.reduceEq]
      refine blkQ.norm ?_
      refine AW.rend ?_
      try simp only[↓wk,↓wl,nqa,evV,↓reduceIte,Nat.reduceEqDiff,Nat.reduceAdd,Nat.reduceSub,Nat.reduceLeDiff,Nat.reduceLT,Nat.reduceBEq,reduceCtorEq,Int.reduceEq]
      exact loopQ.next H ((Le.tz [0,1,2,3] [1,2,7,8,10,12,31,32,33,37] (by simp only[f30_L3c,rrm,↓wk,↓wl,evV,↓reduceIte,Nat.reduceEqDiff,Nat.reduceAdd,Nat.reduceSub,Nat.reduceLeDiff,Nat.reduceLT,Nat.reduceBEq,reduceCtorEq,Int.reduceEq]<;>rfl)))
     ·refine AW.exit ?_
      refine seqQ.exit ?_
      refine loopQ.exit H ?_<;>clear H<;>intro H
      try dsimp only at H
      refine blk0.here ?_
      refine blkQ.norm ?_
      refine AW.rend ?_
      try simp only[↓wk,↓wl,nqa,evV,↓reduceIte,Nat.reduceEqDiff,Nat.reduceAdd,Nat.reduceSub,Nat.reduceLeDiff,Nat.reduceLT,Nat.reduceBEq,reduceCtorEq,Int.reduceEq]
      exact loopQ.next H ((Le.tz [0,1,2] [1,2,7,8,10,31,32,33] (by simp only[f30_L2c,rrm,↓wk,↓wl,evV,↓reduceIte,Nat.reduceEqDiff,Nat.reduceAdd,Nat.reduceSub,Nat.reduceLeDiff,Nat.reduceLT,Nat.reduceBEq,reduceCtorEq,Int.reduceEq]<;>rfl)))
    ·refine AW.exit ?_
     refine seqQ.exit ?_
     refine loopQ.exit H ?_<;>clear H<;>intro H
     try dsimp only at H
     refine blk0.here ?_
     refine seqQ.norm ?_
     refine AW.rend ?_
     try simp only[↓wk,↓wl,nqa,evV,↓reduceIte,Nat.reduceEqDiff,Nat.reduceAdd,Nat.reduceSub,Nat.reduceLeDiff,Nat.reduceLT,Nat.reduceBEq,reduceCtorEq,Int.reduceEq]
     refine evTs_any (v:=.arow 0 2 0 512) rfl (by rfl) ?_
     try simp only[↓wk,↓wl,nqa,evV,↓reduceIte,Nat.reduceEqDiff,Nat.reduceAdd,Nat.reduceSub,Nat.reduceLeDiff,Nat.reduceLT,Nat.reduceBEq,reduceCtorEq,Int.reduceEq]
     refine evTs_cstra H (by rfl) (by rfl) ?_<;>clear H<;>intro H
     try simp only[↓wk,↓wl,nqa,evV,↓reduceIte,Nat.reduceEqDiff,Nat.reduceAdd,Nat.reduceSub,Nat.reduceLeDiff,Nat.reduceLT,Nat.reduceBEq,reduceCtorEq,Int.reduceEq]
     refine evTs_app (enc:=eApiFrame) H (by rfl) (by first | rfl | simp only[List.length_set]) (by rfl) (by rfl) ?_<;>clear H<;>intro xh H
     try simp only[↓wk,↓wl,nqa,evV,↓reduceIte,Nat.reduceEqDiff,Nat.reduceAdd,Nat.reduceSub,Nat.reduceLeDiff,Nat.reduceLT,Nat.reduceBEq,reduceCtorEq,Int.reduceEq]
     refine blkQ.norm ?_
     refine AW.rend ?_
     try simp only[↓wk,↓wl,nqa,evV,↓reduceIte,Nat.reduceEqDiff,Nat.reduceAdd,Nat.reduceSub,Nat.reduceLeDiff,Nat.reduceLT,Nat.reduceBEq,reduceCtorEq,Int.reduceEq]
     exact loopQ.next H ((Le.tz [0,3] [1,2,7,8] (by simp only[f30_L1c,rrm,↓wk,↓wl,evV,↓reduceIte,Nat.reduceEqDiff,Nat.reduceAdd,Nat.reduceSub,Nat.reduceLeDiff,Nat.reduceLT,Nat.reduceBEq,reduceCtorEq,Int.reduceEq]<;>rfl)))
  ·refine AW.exit ?_
   refine seqQ.exit ?_
   refine loopQ.exit H ?_<;>clear H<;>intro H
   try dsimp only at H
   refine blk0.here ?_
   refine seqQ.norm ?_
   refine AW.rseq ?_
   try simp only[↓wk,↓wl,nqa,evV,↓reduceIte,Nat.reduceEqDiff,Nat.reduceAdd,Nat.reduceSub,Nat.reduceLeDiff,Nat.reduceLT,Nat.reduceBEq,reduceCtorEq,Int.reduceEq]
   refine AW.ret ?_
   cases H
   exact hQ _ _ _ _ (.inr rfl) (by simp only[resVs,omap,resV,↓wk,↓wl,nqa,evV,↓reduceIte,Nat.reduceEqDiff,Nat.reduceAdd,Nat.reduceSub,Nat.reduceLeDiff,Nat.reduceLT,Nat.reduceBEq,reduceCtorEq,Int.reduceEq];rfl) (hand_k (by rfl) (by rfl) (by simp) (enc_all _) (by rfl)) (by first | exact Or.inl rfl | exact Or.inr rfl)
theorem f30_im{x0:ReceiverReceiver}{x1:Int}{r_:(List ApiFrame)×Int}(H:f30 x0 x1=some r_):Pure Try.prog 30 [.agg [.sl 8 false (x0.fInputs.map eReceiverInput)],.int .i64 x1] (· = .tup [.sl 2 false (r_.1.map eApiFrame),.int .i64 r_.2]):=(f30_ok H).unfr (by first | exact enc_fits _ | simp only[frFits,List.all_cons,List.all_nil,enc_fits,Bool.and_self])
noncomputable def f34_L1(x0:(List ApiFrame))(x1:(List ApiFrame)):Lp (Int) ((Unit)⊕(Unit)) where
  body:=fun x2=>(if (decide (x2<((x0.length:Nat):Int)))=true then (at? x0 x2).bind fun x3=>(at? x1 x2).bind fun x4=>(if (!((x3.fUniverse == x4.fUniverse) && ((x3.fSlots == x4.fSlots) && true)))=true then (some (.brk (Sum.inr ()))) else (some (.next (IntKind.i64.wrap (x2 + 1))))) else (some (.brk (Sum.inl ()))))
  cst:=fun x2=>⟨put (put (put (put (fun _=>.junk) 13 (.int .i64 x2)) 12 (.int .i64 ((x0.length:Nat):Int))) 1 (.sl 2 false (x1.map eApiFrame))) 0 (.sl 2 false (x0.map eApiFrame)),[]⟩
theorem f34_L1c(x0:(List ApiFrame))(x1:(List ApiFrame))(x2:Int):(f34_L1 x0 x1).cst x2=⟨put (put (put (put (fun _=>.junk) 13 (.int .i64 x2)) 12 (.int .i64 ((x0.length:Nat):Int))) 1 (.sl 2 false (x1.map eApiFrame))) 0 (.sl 2 false (x0.map eApiFrame)),[]⟩:=rfl
def c34_0:C:=.cond (.t 10) (.seq (.reg [iI 4 (.mv (.c (.bool false)))]) .ret) (.skip)
def c34_1:C:=.cond (.t 24) (.seq (.reg [iI 4 (.mv (.c (.bool false)))]) .ret) (.skip)
def c34_2:C:=.seq (.reg [iI 16 (.mv (.t 0)),iI 17 (.mv (.t 5)),iI 18 (.iaddr 2 (.t 16) (.t 17)),iI 19 (.load 2 (.t 18)),iI 20 (.mv (.t 1)),iI 21 (.mv (.t 5)),iI 22 (.iaddr 2 (.t 20) (.t 21)),iI 23 (.load 2 (.t 22)),iI 24 (.eqs true [0,1] (.t 19) (.t 23))]) c34_1
def c34_3:C:=.reg [iI 25 (.bin .add (.t 13) (.c (.int .i64 1))),iI 13 (.mv (.t 25))]
def c34_4:C:=.seq (.block 1 (.seq (.reg [iI 15 (.mv (.t 13)),iI 5 (.mv (.t 15))]) c34_2)) c34_3
def c34_5:C:=.seq (.cond (.t 14) (.skip) (.exit 0)) c34_4
def c34_6:C:=.block 0 (.loop (.seq (.reg [iI 14 (.bin .lss (.t 13) (.t 12))]) c34_5))
def c34_7:C:=.seq (.reg [iI 4 (.mv (.c (.bool true)))]) .ret
def c34_8:C:=.seq (.seq (.reg [iI 11 (.mv (.t 0)),iI 12 (.len 0 (.t 11)),iI 13 (.mv (.c (.int .i64 0)))]) c34_6) c34_7
def c34_9:C:=.seq (.seq (.reg [iI 6 (.mv (.t 0)),iI 7 (.len 0 (.t 6)),iI 8 (.mv (.t 1)),iI 9 (.len 0 (.t 8)),iI 10 (.bin .neq (.t 7) (.t 9))]) c34_0) c34_8
def ir34:C:=.seq (.reg [iI 4 (.mv (.c (.bool false)))]) c34_9
theorem fd34:fd? Try.prog 34=some (26,[.slot 4],ir34):=by kernel_rfl
noncomputable def f34(x0:(List ApiFrame))(x1:(List ApiFrame)):Option (Bool) :=
  (if (decide (((x0.length:Nat):Int)≠((x1.length:Nat):Int)))=true then (some false) else ((Lp.run (f34_L1 x0 x1) 0).bind fun r_=>match r_ with | (Sum.inl _)=>(some true) | (Sum.inr _)=>(some false)))
theorem f34_ok{x0:(List ApiFrame)}{x1:(List ApiFrame)}{r_:Bool}(H:f34 x0 x1=some r_):Pure Try.prog 34 [.sl 2 false (x0.map eApiFrame),.sl 2 false (x1.map eApiFrame)] (· = .bool r_):=by
 refine Pure.walk3 fd34 none (Nat.le_of_ble_eq_true rfl) (by rfl) fun Q hQ=>?_
 simp only[f34] at H
 refine AW.rseq ?_
 try simp only[↓wk,↓wl,nq,evV,↓reduceIte,sevalprocAttr]
 refine AW.sseq ?_
 refine AW.rseq ?_
 try simp only[↓wk,↓wl,nq,evV,↓reduceIte,sevalprocAttr]
 refine AW.ifc H (by rfl) ?_ ?_<;>clear H<;>intro H
 ·refine AW.rseq ?_
  try simp only[↓wk,↓wl,nq,evV,↓reduceIte,sevalprocAttr]
  refine AW.ret ?_
  refine seqQ.ret ?_
  cases H
  exact hQ.fin
 ·refine AW.skip ?_
  refine seqQ.norm ?_
  refine AW.sseq ?_
  refine AW.rseq ?_
  try simp only[↓wk,↓wl,nq,evV,↓reduceIte,sevalprocAttr]
  refine AW.bend ?_
  refine AW.iter H ((Le.tz [] [0,1,12,13] (by simp only[f34_L1c,rrm,↓wk,↓wl,evV,↓reduceIte,sevalprocAttr]<;>rfl))) ?_<;>clear H
  rintro x2 x_ st0_ H hst_
  rw[f34_L1c] at hst_
  simp only[f34_L1] at H
  subst hst_
  refine AW.rseq ?_
  try simp only[↓wk,↓wl,nq,evV,↓reduceIte,sevalprocAttr]
  refine AW.sseq ?_
  refine AW.ifc H (by rfl) ?_ ?_<;>clear H<;>intro H
  ·refine AW.skip ?_
   refine seqQ.norm ?_
   refine AW.bseq ?_
   refine AW.rseq ?_
   try simp only[↓wk,↓wl,nq,evV,↓reduceIte,sevalprocAttr]
   refine AW.rseq ?_
   try simp only[↓wk,↓wl,nq,evV,↓reduceIte,sevalprocAttr]
   refine evTs_at (enc:=eApiFrame) H (by rfl) (by rfl) ?_<;>clear H<;>intro x3 H
   try simp only[eApiFrame,eL,↓wk,↓wl,nq,evV,↓reduceIte,sevalprocAttr]
   refine evTs_at (enc:=eApiFrame) H (by rfl) (by rfl) ?_<;>clear H<;>intro x4 H
   try simp only[eApiFrame,eL,↓wk,↓wl,nq,evV,↓reduceIte,sevalprocAttr]
   refine rest_neqs (by rfl) ?_
   try simp only[↓wk,↓wl,nq,evV,↓reduceIte,sevalprocAttr]
   refine AW.ifc H (by rfl) ?_ ?_<;>clear H<;>intro H
   ·refine AW.rseq ?_
    try simp only[↓wk,↓wl,nq,evV,↓reduceIte,sevalprocAttr]
    refine AW.ret ?_
    refine blkQ.ret ?_
    refine loopQ.ret H ?_<;>clear H<;>intro H
    try dsimp only at H
    refine blk0.ret ?_
    refine seqQ.ret ?_
    cases H
    exact hQ.fin
   ·refine AW.skip ?_
    refine blkQ.norm ?_
    refine AW.rend ?_
    try simp only[↓wk,↓wl,nq,evV,↓reduceIte,sevalprocAttr]
    exact loopQ.next H ((Le.tz [] [0,1,12,13] (by simp only[f34_L1c,rrm,↓wk,↓wl,evV,↓reduceIte,sevalprocAttr]<;>rfl)))
  ·refine AW.exit ?_
   refine seqQ.exit ?_
   refine loopQ.exit H ?_<;>clear H<;>intro H
   try dsimp only at H
   refine blk0.here ?_
   refine seqQ.norm ?_
   refine AW.rseq ?_
   try simp only[↓wk,↓wl,nq,evV,↓reduceIte,sevalprocAttr]
   refine AW.ret ?_
   cases H
   exact hQ.fin
def c52_0:C:=.seq (.reg [iI 5 (.mv (.t 0)),iI 6 (.mv (.t 1)),iI 7 (.call (.c (.fn 34 [])) [(.t 5),(.t 6)]),iI 4 (.mv (.t 7))]) .ret
def ir52:C:=.seq (.reg [iI 4 (.mv (.c (.bool false)))]) c52_0
theorem fd52:fd? Try.prog 52=some (8,[.slot 4],ir52):=by kernel_rfl
noncomputable def f52(x0:(List ApiFrame))(x1:(List ApiFrame)):Option (Bool) :=
  (f34 x0 x1).bind fun x2=>(some x2)
theorem f52_ok{x0:(List ApiFrame)}{x1:(List ApiFrame)}{r_:Bool}(H:f52 x0 x1=some r_):Pure Try.prog 52 [.sl 2 false (x0.map eApiFrame),.sl 2 false (x1.map eApiFrame)] (· = .bool r_):=by
 refine Pure.walk3 fd52 none (Nat.le_of_ble_eq_true rfl) (by rfl) fun Q hQ=>?_
 simp only[f52] at H
 refine AW.rseq ?_
 try simp only[↓wk,↓wl,nq,evV,↓reduceIte,sevalprocAttr]
 refine AW.rseq ?_
 try simp only[↓wk,↓wl,nq,evV,↓reduceIte,sevalprocAttr]
 refine evTs_pure hFn H (fun _ h=>f34_ok h) (by rfl) (by rfl) (by rfl) (by rfl) (fun _=>rfl) ?_<;>clear H<;>intro x2 H
 try simp only[eL,↓wk,↓wl,nq,evV,↓reduceIte,sevalprocAttr]
 refine AW.ret ?_
 cases H
 exact hQ.fin
noncomputable def f49_J1(x0:NetworkSender×Int):Jn ((List NetworkPacket)×Int) (Bool) where
  run:=fun (x1,x2)=>(if (decide ((IntKind.i64.wrap (x0.2 + x2))≠0))=true then (some false) else (if (decide (((x1.length:Nat):Int)≠1))=true then (some false) else (at? x1 0).bind fun x3=>(f16 (ReceiverReceiver.mk ([])) 1000 x3).bind fun x4=>(f30 x4.1 3500).bind fun x5=>(f30 x4.1 3501).bind fun x6=>(if (decide ((IntKind.i64.wrap ((IntKind.i64.wrap (x4.2.2 + x5.2)) + x6.2))=0))=true then (if x4.2.1=true then (f50 2 9).bind fun x7=>(f52 x5.1 ([x7])).bind fun x8=>(if x8=true then (some (decide (((x6.1.length:Nat):Int)=0))) else (some false)) else (some false)) else (some false))))
  cst:=fun (x1,x2)=>⟨put (put (put (fun _=>.junk) 5 (.int .i64 x2)) 4 (.sl 7 false (x1.map eNetworkPacket))) 2 (.int .i64 x0.2),[]⟩
theorem f49_J1c(x0:NetworkSender×Int)(x1:(List NetworkPacket))(x2:Int):(f49_J1 x0).cst (x1,x2)=⟨put (put (put (fun _=>.junk) 5 (.int .i64 x2)) 4 (.sl 7 false (x1.map eNetworkPacket))) 2 (.int .i64 x0.2),[]⟩:=rfl
def c49_0:C:=.cond (.t 31) (.seq (.reg [iI 0 (.mv (.c (.bool false)))]) .ret) (.skip)
def c49_1:C:=.seq (.reg [iI 51 (.mv (.t 2)),iI 52 (.mv (.t 5)),iI 53 (.bin .add (.t 51) (.t 52)),iI 54 (.mv (.t 10)),iI 55 (.bin .add (.t 53) (.t 54)),iI 56 (.bin .eql (.t 55) (.c (.int .i64 0))),iI 57 (.mv (.t 56)),iG (some 58) 57 true (.mv (.t 7)),iI 59 (.pick (.t 57) (.t 58) (.c (.bool false))),iI 60 (.mv (.t 59)),iG (some 61) 60 true (.mv (.t 8)),iG (some 62) 60 true (.call (.c (.fn 50 [])) [(.c (.int .i64 2)),(.c (.int .i64 9))]),iG (some 63) 60 true (.mkslp 2 1 (.agg [(.int .i64 0),(.str [])]) [(0,(.t 62))]),iG (some 64) 60 true (.call (.c (.fn 52 [])) [(.t 61),(.t 63)]),iI 65 (.pick (.t 60) (.t 64) (.c (.bool false))),iI 66 (.mv (.t 65)),iG (some 67) 66 true (.mv (.t 9)),iG (some 68) 66 true (.len 0 (.t 67)),iG (some 69) 66 true (.bin .eql (.t 68) (.c (.int .i64 0))),iI 70 (.pick (.t 66) (.t 69) (.c (.bool false))),iI 0 (.mv (.t 70))]) .ret
def c49_2:C:=.seq (.reg [iI 47 (.load 1 (.t 6)),iI 48 (.call (.c (.fn 30 [])) [(.t 47),(.c (.int .i64 3501))]),iI 46 (.mv (.t 48)),iI 49 (.ext (.t 46) 0),iI 50 (.ext (.t 46) 1),iI 9 (.mv (.t 49)),iI 10 (.mv (.t 50))]) c49_1
def c49_3:C:=.seq (.reg [iI 42 (.load 1 (.t 6)),iI 43 (.call (.c (.fn 30 [])) [(.t 42),(.c (.int .i64 3500))]),iI 41 (.mv (.t 43)),iI 44 (.ext (.t 41) 0),iI 45 (.ext (.t 41) 1),iI 8 (.mv (.t 44)),iI 5 (.mv (.t 45))]) c49_2
def c49_4:C:=.seq (.reg [iI 33 (.build [(1,(.sl 8 true []))] []),iI 34 (.mv (.t 4)),iI 35 (.iaddr 7 (.t 34) (.c (.int .i64 0))),iI 36 (.load 7 (.t 35)),iI 37 (.call (.c (.fn 16 [])) [(.t 33),(.c (.int .i64 1000)),(.t 36)]),iI 32 (.mv (.t 37)),iI 38 (.ext (.t 32) 0),iI 39 (.ext (.t 32) 1),iI 40 (.ext (.t 32) 2),iI 6 (.alloc [(1,(.sl 8 true []))]),iN (.store 1 (.t 6) (.t 38)),iI 7 (.mv (.t 39)),iI 2 (.mv (.t 40))]) c49_3
def c49_5:C:=.seq (.seq (.reg [iI 23 (.mv (.t 2)),iI 24 (.mv (.t 5)),iI 25 (.bin .add (.t 23) (.t 24)),iI 26 (.bin .neq (.t 25) (.c (.int .i64 0))),iI 27 (.mv (.t 26)),iG (some 28) 27 false (.mv (.t 4)),iG (some 29) 27 false (.len 0 (.t 28)),iG (some 30) 27 false (.bin .neq (.t 29) (.c (.int .i64 1))),iI 31 (.pick (.t 27) (.c (.bool true)) (.t 30))]) c49_0) c49_4
def c49_6:C:=.seq (.regt (.fork [iI 16 (.load 5 (.t 1))] (.fork [iI 17 (.call (.c (.fn 50 [])) [(.c (.int .i64 2)),(.c (.int .i64 9))]),iI 18 (.mkslp 2 1 (.agg [(.int .i64 0),(.str [])]) [(0,(.t 17))])] (.run [iI 19 (.call (.c (.fn 43 [])) [(.t 16),(.c (.int .i64 1000)),(.t 18)]),iI 15 (.mv (.t 19)),iI 20 (.ext (.t 15) 0),iI 21 (.ext (.t 15) 1),iI 22 (.ext (.t 15) 2),iI 3 (.alloc [(1,(.int .u64 0)),(1,(.int .i64 0)),(1,(.int .i64 0)),(1,(.int .i64 0)),(1,(.sl 5 true []))]),iN (.store 5 (.t 3) (.t 20)),iI 4 (.mv (.t 21)),iI 5 (.mv (.t 22))]) (.run [iI 3 (.alloc [(1,(.int .u64 0)),(1,(.int .i64 0)),(1,(.int .i64 0)),(1,(.int .i64 0)),(1,(.sl 5 true []))]),iI 19 (.call (.c (.fn 43 [])) [(.t 16),(.c (.int .i64 1000)),(.t 18)]),iI 15 (.mv (.t 19)),iI 20 (.ext (.t 15) 0),iI 21 (.ext (.t 15) 1),iI 22 (.ext (.t 15) 2),iN (.store 5 (.t 3) (.t 20)),iI 4 (.mv (.t 21)),iI 5 (.mv (.t 22))])) (.run [iI 3 (.alloc [(1,(.int .u64 0)),(1,(.int .i64 0)),(1,(.int .i64 0)),(1,(.int .i64 0)),(1,(.sl 5 true []))]),iI 17 (.call (.c (.fn 50 [])) [(.c (.int .i64 2)),(.c (.int .i64 9))]),iI 18 (.mkslp 2 1 (.agg [(.int .i64 0),(.str [])]) [(0,(.t 17))]),iI 19 (.call (.c (.fn 43 [])) [(.t 16),(.c (.int .i64 1000)),(.t 18)]),iI 15 (.mv (.t 19)),iI 20 (.ext (.t 15) 0),iI 21 (.ext (.t 15) 1),iI 22 (.ext (.t 15) 2),iN (.store 5 (.t 3) (.t 20)),iI 4 (.mv (.t 21)),iI 5 (.mv (.t 22))]))) c49_5
def c49_7:C:=.seq (.reg [iI 12 (.call (.c (.fn 42 [])) [(.c (.int .u64 7)),(.c (.int .i64 100)),(.c (.int .i64 0))]),iI 11 (.mv (.t 12)),iI 13 (.ext (.t 11) 0),iI 14 (.ext (.t 11) 1),iI 1 (.alloc [(1,(.int .u64 0)),(1,(.int .i64 0)),(1,(.int .i64 0)),(1,(.int .i64 0)),(1,(.sl 5 true []))]),iN (.store 5 (.t 1) (.t 13)),iI 2 (.mv (.t 14))]) c49_6
def ir49:C:=.seq (.reg [iI 0 (.mv (.c (.bool false)))]) c49_7
theorem fd49:fd? Try.prog 49=some (71,[.slot 0],ir49):=by kernel_rfl
noncomputable def f49:Option (Bool) :=
  (f42 7 100 0).bind fun x0=>(f50 2 9).bind fun x1=>(f43 x0.1 1000 ([x1])).bind fun x2=>((f49_J1 x0).run (x2.2.1,x2.2.2))
theorem f49_ok{r_:Bool}(H:f49=some r_):Pure Try.prog 49 [] (· = .bool r_):=by
 refine Pure.walk3 fd49 none (Nat.le_of_ble_eq_true rfl) (by rfl) fun Q hQ=>?_
 simp only[f49] at H
 refine AW.rseq ?_
 try simp only[↓wk,↓wl,nq,evV,↓reduceIte,sevalprocAttr]
 refine AW.rseq ?_
 try simp only[↓wk,↓wl,nq,evV,↓reduceIte,sevalprocAttr]
 refine evTs_pure hFn H (fun _ h=>f42_ok h) (by rfl) (by rfl) (by rfl) (by rfl) (fun _=>rfl) ?_<;>clear H<;>intro x0 H
 try simp only[eL,eNetworkSender,↓wk,↓wl,nq,evV,↓reduceIte,sevalprocAttr]
 refine AW.join (f49_J1 x0) H ?_ fun hf49_J1=>?_
 ·clear H
  rintro ⟨x1,x2⟩ st0_ H hst_
  rw[f49_J1c] at hst_
  simp only[f49_J1] at H
  subst hst_
  refine AW.sseq ?_
  refine AW.rseq ?_
  try simp only[↓wk,↓wl,nq,evV,↓reduceIte,sevalprocAttr]
  refine evTs_ifg H (by rfl) ?_ ?_<;>clear H<;>intro H
  ·try simp only[↓wk,↓wl,nq,evV,↓reduceIte,sevalprocAttr]
   refine AW.ift (by rfl) ?_
   refine AW.rseq ?_
   try simp only[↓wk,↓wl,nq,evV,↓reduceIte,sevalprocAttr]
   refine AW.ret ?_
   refine seqQ.ret ?_
   cases H
   exact hQ.fin
  ·try simp only[↓wk,↓wl,nq,evV,↓reduceIte,sevalprocAttr]
   refine AW.ifc H (by rfl) ?_ ?_<;>clear H<;>intro H
   ·refine AW.rseq ?_
    try simp only[↓wk,↓wl,nq,evV,↓reduceIte,sevalprocAttr]
    refine AW.ret ?_
    refine seqQ.ret ?_
    cases H
    exact hQ.fin
   ·refine AW.skip ?_
    refine seqQ.norm ?_
    refine AW.rseq ?_
    try simp only[↓wk,↓wl,nq,evV,↓reduceIte,sevalprocAttr]
    refine evTs_at (enc:=eNetworkPacket) H (by rfl) (by rfl) ?_<;>clear H<;>intro x3 H
    try simp only[eNetworkPacket,eL,↓wk,↓wl,nq,evV,↓reduceIte,sevalprocAttr]
    refine evTs_pure hFn H (fun _ h=>f16_ok h) (by rfl) (by rfl) (by rfl) (by rfl) (fun _=>rfl) ?_<;>clear H<;>intro x4 H
    try simp only[eL,eReceiverReceiver,↓wk,↓wl,nq,evV,↓reduceIte,sevalprocAttr]
    refine AW.rseq ?_
    try simp only[↓wk,↓wl,nq,evV,↓reduceIte,sevalprocAttr]
    refine evTs_pure hFn H (fun _ h=>f30_im h) (by rfl) (by rfl) (by rfl) (by rfl) (fun _=>rfl) ?_<;>clear H<;>intro x5 H
    try simp only[eL,↓wk,↓wl,nq,evV,↓reduceIte,sevalprocAttr]
    refine AW.rseq ?_
    try simp only[↓wk,↓wl,nq,evV,↓reduceIte,sevalprocAttr]
    refine evTs_pure hFn H (fun _ h=>f30_im h) (by rfl) (by rfl) (by rfl) (by rfl) (fun _=>rfl) ?_<;>clear H<;>intro x6 H
    try simp only[eL,↓wk,↓wl,nq,evV,↓reduceIte,sevalprocAttr]
    refine AW.rseq ?_
    try simp only[↓wk,↓wl,nq,evV,↓reduceIte,sevalprocAttr]
    refine evTs_ifg H (by rfl) ?_ ?_<;>clear H<;>intro H
    ·try simp only[↓wk,↓wl,nq,evV,↓reduceIte,sevalprocAttr]
     refine evTs_ifg H (by rfl) ?_ ?_<;>clear H<;>intro H
     ·try simp only[↓wk,↓wl,nq,evV,↓reduceIte,sevalprocAttr]
      refine evTs_pure hFn H (fun _ h=>f50_ok h) (by rfl) (by rfl) (by rfl) (by rfl) (fun _=>rfl) ?_<;>clear H<;>intro x7 H
      try simp only[eL,eApiFrame,↓wk,↓wl,nq,evV,↓reduceIte,sevalprocAttr]
      refine evTs_pure hFn H (fun _ h=>f52_ok h) (by rfl) (by rfl) (by rfl) (by rfl) (fun _=>rfl) ?_<;>clear H<;>intro x8 H
      try simp only[eL,↓wk,↓wl,nq,evV,↓reduceIte,sevalprocAttr]
      refine evTs_ifg H (by rfl) ?_ ?_<;>clear H<;>intro H
      ·try simp only[↓wk,↓wl,nq,evV,↓reduceIte,sevalprocAttr]
       refine AW.ret ?_
       cases H
       exact hQ.fin
      ·try simp only[↓wk,↓wl,nq,evV,↓reduceIte,sevalprocAttr]
       refine AW.ret ?_
       cases H
       exact hQ.fin
     ·try simp only[↓wk,↓wl,nq,evV,↓reduceIte,sevalprocAttr]
      refine AW.ret ?_
      cases H
      exact hQ.fin
    ·try simp only[↓wk,↓wl,nq,evV,↓reduceIte,sevalprocAttr]
     refine AW.ret ?_
     cases H
     exact hQ.fin
 ·refine AW.regt ?_
  refine evR.fork ?_
  try simp only[↓wk,↓wl,nq,evV,↓reduceIte,sevalprocAttr]
  refine evR.both ?_ ?_
  ·refine evR.fork ?_
   try simp only[↓wk,↓wl,nq,evV,↓reduceIte,sevalprocAttr]
   refine evTs_pure hFnq H (fun _ h=>f50_ok h) (by rfl) (by rfl) (by rfl) (by rfl) (fun _=>rfl) ?_<;>clear H<;>intro x9 H
   try simp only[eL,eApiFrame,↓wk,↓wl,nq,evV,↓reduceIte,sevalprocAttr]
   refine evR.both ?_ ?_
   ·refine evR.run ?_
    try simp only[↓wk,↓wl,nq,evV,↓reduceIte,sevalprocAttr]
    refine evTs_pure hFnq H (fun _ h=>f43_im h) (by rfl) (by rfl) (by rfl) (by rfl) (fun _=>rfl) ?_<;>clear H<;>intro xa H
    try simp only[eL,eNetworkSender,↓wk,↓wl,nq,evV,↓reduceIte,sevalprocAttr]
    refine seqQ.norm ?_
    exact hf49_J1 _ _ H ((Le.tz [] [2,4,5] (by simp only[f49_J1c,rrm,↓wk,↓wl,evV,↓reduceIte,sevalprocAttr]<;>rfl)))
   ·refine evR.run ?_
    try simp only[↓wk,↓wl,nq,evV,↓reduceIte,sevalprocAttr]
    refine evTs_pure hFnq H (fun _ h=>f43_im h) (by rfl) (by rfl) (by rfl) (by rfl) (fun _=>rfl) ?_<;>clear H<;>intro xa H
    try simp only[eL,eNetworkSender,↓wk,↓wl,nq,evV,↓reduceIte,sevalprocAttr]
    refine seqQ.norm ?_
    exact hf49_J1 _ _ H ((Le.tz [] [2,4,5] (by simp only[f49_J1c,rrm,↓wk,↓wl,evV,↓reduceIte,sevalprocAttr]<;>rfl)))
  ·refine evR.run ?_
   try simp only[↓wk,↓wl,nq,evV,↓reduceIte,sevalprocAttr]
   refine evTs_pure hFnq H (fun _ h=>f50_ok h) (by rfl) (by rfl) (by rfl) (by rfl) (fun _=>rfl) ?_<;>clear H<;>intro x9 H
   try simp only[eL,eApiFrame,↓wk,↓wl,nq,evV,↓reduceIte,sevalprocAttr]
   refine evTs_pure hFnq H (fun _ h=>f43_im h) (by rfl) (by rfl) (by rfl) (by rfl) (fun _=>rfl) ?_<;>clear H<;>intro xa H
   try simp only[eL,eNetworkSender,↓wk,↓wl,nq,evV,↓reduceIte,sevalprocAttr]
   refine seqQ.norm ?_
   exact hf49_J1 _ _ H ((Le.tz [] [2,4,5] (by simp only[f49_J1c,rrm,↓wk,↓wl,evV,↓reduceIte,sevalprocAttr]<;>rfl)))
noncomputable def f133_L1:Lp (Int×(List Int)) (Int×(List Int)) where
  body:=fun (x0,x1)=>(if (decide (128≤x0))=true then (app? 1 x1 ([(IntKind.u8.wrap ((BitVec.ofInt (IntKind.bits .u8) (IntKind.u8.wrap x0) ||| BitVec.ofInt (IntKind.bits .u8) 128).toNat:Int))])).bind fun x2=>(some (.next ((Int.fdiv x0 (2 ^ (min (Int.toNat 7) (IntKind.bits .u64)))),x2))) else (some (.brk (x0,x1))))
  cst:=fun (x0,x1)=>⟨put (put (fun _=>.junk) 4 (.row 0 0 0 x1.length)) 3 (.int .u64 x0),[.els 0 (x1.map (AV.int .u8))]⟩
theorem f133_L1c(x0:Int)(x1:(List Int)):(f133_L1).cst (x0,x1)=⟨put (put (fun _=>.junk) 4 (.row 0 0 0 x1.length)) 3 (.int .u64 x0),[.els 0 (x1.map (AV.int .u8))]⟩:=rfl
def c133_0:C:=.cond (.t 13) (.skip) (.exit 0)
def c133_1:C:=.reg [iI 14 (.mv (.t 3)),iI 15 (.bin .shr (.t 14) (.c (.int .u64 7))),iI 3 (.mv (.t 15))]
def c133_2:C:=.seq (.block 1 (.reg [iI 16 (.mv (.t 4)),iI 17 (.mv (.t 3)),iI 18 (.cint .u8 (.t 17)),iI 19 (.bin .or (.t 18) (.c (.int .u8 128))),iI 20 (.mkslp 0 1 (.int .u8 0) [(0,(.t 19))]),iI 21 (.append 0 1 (.t 16) (.t 20)),iI 4 (.mv (.t 21))])) c133_1
def c133_3:C:=.seq (.reg [iI 22 (.mv (.t 4)),iI 23 (.mv (.t 3)),iI 24 (.cint .u8 (.t 23)),iI 25 (.mkslp 0 1 (.int .u8 0) [(0,(.t 24))]),iI 26 (.append 0 1 (.t 22) (.t 25)),iI 27 (.cstr (.t 26)),iI 2 (.mv (.t 27))]) .ret
def c133_4:C:=.seq (.block 0 (.loop (.seq (.seq (.reg [iI 12 (.mv (.t 3)),iI 13 (.bin .geq (.t 12) (.c (.int .u64 128)))]) c133_0) c133_2))) c133_3
def c133_5:C:=.seq (.reg [iI 4 (.mv (.c (.sl 0 true [])))]) c133_4
def c133_6:C:=.seq (.reg [iI 5 (.mv (.t 0)),iI 6 (.cint .u64 (.t 5)),iI 7 (.bin .shl (.t 6) (.c (.int .u64 1))),iI 8 (.mv (.t 0)),iI 9 (.bin .shr (.t 8) (.c (.int .u64 63))),iI 10 (.cint .u64 (.t 9)),iI 11 (.bin .xor (.t 7) (.t 10)),iI 3 (.mv (.t 11))]) c133_5
def ir133:C:=.seq (.reg [iI 2 (.mv (.c (.str [])))]) c133_6
theorem fd133:fd? Try.prog 133=some (28,[.slot 2],ir133):=by kernel_rfl
noncomputable def f133(x0:Int):Option ((List UInt8)) :=
  (Lp.run (f133_L1) ((IntKind.u64.wrap ((BitVec.ofInt (IntKind.bits .u64) (IntKind.u64.wrap ((IntKind.u64.wrap x0) * 2 ^ (min (Int.toNat 1) (IntKind.bits .u64)))) ^^^ BitVec.ofInt (IntKind.bits .u64) (IntKind.u64.wrap (Int.fdiv x0 (2 ^ (min (Int.toNat 63) (IntKind.bits .i64)))))).toNat:Int)),[])).bind fun (x1,x2)=>(app? 1 x2 ([(IntKind.u8.wrap x1)])).bind fun x3=>(some (x3.map b8))
theorem f133_ok{x0:Int}{r_:(List UInt8)}(H:f133 x0=some r_):Pure Try.prog 133 [.int .i64 x0] (· = .str r_):=by
 refine Pure.walk3 fd133 none (Nat.le_of_ble_eq_true rfl) (by rfl) fun Q hQ=>?_
 simp only[f133] at H
 refine AW.rseq ?_
 try simp only[↓wk,↓wl,nq,evV,↓reduceIte,sevalprocAttr]
 refine AW.rseq ?_
 try simp only[↓wk,↓wl,nq,evV,↓reduceIte,sevalprocAttr]
 refine rest_shl (by decide) ?_
 try simp only[↓wk,↓wl,nq,evV,↓reduceIte,sevalprocAttr]
 refine rest_shr (by decide) ?_
 try simp only[↓wk,↓wl,nq,evV,↓reduceIte,sevalprocAttr]
 refine rest_xor ?_
 try simp only[↓wk,↓wl,nq,evV,↓reduceIte,sevalprocAttr]
 refine AW.rseq ?_
 try simp only[↓wk,↓wl,nq,evV,↓reduceIte,sevalprocAttr]
 refine AW.bseq ?_
 refine AW.iter H ((Le.trans (Le.nilRow (i:=4) (e:=0) (by simp only[↓wk,↓wl,nq,evV,↓reduceIte,sevalprocAttr])) (Le.tz [0] [3,4] (by simp only[f133_L1c,rrm,↓wk,↓wl,evV,↓reduceIte,sevalprocAttr]<;>rfl)))) ?_<;>clear H
 rintro ⟨x1,x2⟩ x_ st0_ H hst_
 rw[f133_L1c] at hst_
 unfold f133_L1 at H
 try dsimp only at H
 subst hst_
 refine AW.sseq ?_
 refine AW.rseq ?_
 try simp only[↓wk,↓wl,nq,evV,↓reduceIte,sevalprocAttr]
 refine AW.ifc H (by rfl) ?_ ?_<;>clear H<;>intro H
 ·refine AW.skip ?_
  refine seqQ.norm ?_
  refine AW.bseq ?_
  refine AW.rend ?_
  try simp only[↓wk,↓wl,nq,evV,↓reduceIte,sevalprocAttr]
  refine rest_or ?_
  try simp only[↓wk,↓wl,nq,evV,↓reduceIte,sevalprocAttr]
  refine evTs_app (enc:=(AV.int .u8)) H (by rfl) (by first | rfl | simp only[List.length_set]) (by rfl) (by rfl) ?_<;>clear H<;>intro x3 H
  try simp only[↓wk,↓wl,nq,evV,↓reduceIte,sevalprocAttr]
  refine blkQ.norm ?_
  refine AW.rend ?_
  try simp only[↓wk,↓wl,nq,evV,↓reduceIte,sevalprocAttr]
  refine rest_shr (by decide) ?_
  try simp only[↓wk,↓wl,nq,evV,↓reduceIte,sevalprocAttr]
  exact loopQ.next H ((Le.tz [1] [3,4] (by simp only[f133_L1c,rrm,↓wk,↓wl,evV,↓reduceIte,sevalprocAttr]<;>rfl)))
 ·refine AW.exit ?_
  refine seqQ.exit ?_
  refine loopQ.exit H ?_<;>clear H<;>intro H
  try dsimp only at H
  refine blkQ.here ?_
  refine AW.rseq ?_
  try simp only[↓wk,↓wl,nq,evV,↓reduceIte,sevalprocAttr]
  refine evTs_app (enc:=(AV.int .u8)) H (by rfl) (by first | rfl | simp only[List.length_set]) (by rfl) (by rfl) ?_<;>clear H<;>intro x4 H
  try simp only[↓wk,↓wl,nq,evV,↓reduceIte,sevalprocAttr]
  refine evTs_cstrr (xs:=x4) (by rfl) (by rfl) (by rfl) ?_
  try simp only[↓wk,↓wl,nq,evV,↓reduceIte,sevalprocAttr]
  refine AW.ret ?_
  cases H
  exact hQ.fin
def c134_0:C:=.cond (.t 6) (.seq (.reg [iI 2 (.mv (.c (.str []))),iI 3 (.mv (.c (.int .i64 13)))]) .ret) (.skip)
def c134_1:C:=.seq (.reg [iI 7 (.mv (.t 0)),iI 8 (.len 1 (.t 7)),iI 9 (.call (.c (.fn 133 [])) [(.t 8)]),iI 10 (.mv (.t 0)),iI 11 (.bin .add (.t 9) (.t 10)),iI 2 (.mv (.t 11)),iI 3 (.mv (.c (.int .i64 0)))]) .ret
def c134_2:C:=.seq (.seq (.reg [iI 4 (.mv (.t 0)),iI 5 (.len 1 (.t 4)),iI 6 (.bin .gtr (.t 5) (.c (.int .i64 65535)))]) c134_0) c134_1
def ir134:C:=.seq (.reg [iI 2 (.mv (.c (.str []))),iI 3 (.mv (.c (.int .i64 0)))]) c134_2
theorem fd134:fd? Try.prog 134=some (12,[.slot 2,.slot 3],ir134):=by kernel_rfl
noncomputable def f134(x0:(List UInt8)):Option ((List UInt8)×Int) :=
  (if (decide (65535<((x0.length:Nat):Int)))=true then (some ([],13)) else (f133 ((x0.length:Nat):Int)).bind fun x1=>(cat? x1 x0).bind fun x2=>(some (x2,0)))
theorem f134_ok{x0:(List UInt8)}{r_:(List UInt8)×Int}(H:f134 x0=some r_):Pure Try.prog 134 [.str x0] (· = .tup [.str r_.1,.int .i64 r_.2]):=by
 refine Pure.walk3 fd134 none (Nat.le_of_ble_eq_true rfl) (by rfl) fun Q hQ=>?_
 simp only[f134] at H
 refine AW.rseq ?_
 try simp only[↓wk,↓wl,nq,evV,↓reduceIte,sevalprocAttr]
 refine AW.sseq ?_
 refine AW.rseq ?_
 try simp only[↓wk,↓wl,nq,evV,↓reduceIte,sevalprocAttr]
 refine AW.ifc H (by rfl) ?_ ?_<;>clear H<;>intro H
 ·refine AW.rseq ?_
  try simp only[↓wk,↓wl,nq,evV,↓reduceIte,sevalprocAttr]
  refine AW.ret ?_
  refine seqQ.ret ?_
  cases H
  exact hQ.fin
 ·refine AW.skip ?_
  refine seqQ.norm ?_
  refine AW.rseq ?_
  try simp only[↓wk,↓wl,nq,evV,↓reduceIte,sevalprocAttr]
  refine evTs_pure hFn H (fun _ h=>f133_ok h) (by rfl) (by rfl) (by rfl) (by rfl) (fun _=>rfl) ?_<;>clear H<;>intro x1 H
  try simp only[eL,↓wk,↓wl,nq,evV,↓reduceIte,sevalprocAttr]
  refine rest_cat H ?_<;>clear H<;>intro x2 H
  try simp only[↓wk,↓wl,nq,evV,↓reduceIte,sevalprocAttr]
  refine AW.ret ?_
  cases H
  exact hQ.fin
def c159_0:C:=.seq (.reg [iI 3 (.mv (.t 0)),iI 4 (.bin .shr (.t 3) (.c (.int .u64 8))),iI 5 (.cint .u8 (.t 4)),iI 6 (.mv (.t 0)),iI 7 (.cint .u8 (.t 6)),iI 8 (.mkslp 0 2 (.int .u8 0) [(0,(.t 5)),(1,(.t 7))]),iI 9 (.cstr (.t 8)),iI 2 (.mv (.t 9))]) .ret
def ir159:C:=.seq (.reg [iI 2 (.mv (.c (.str [])))]) c159_0
theorem fd159:fd? Try.prog 159=some (10,[.slot 2],ir159):=by kernel_rfl
noncomputable def f159(x0:Int):Option ((List UInt8)) :=
  (some (([(IntKind.u8.wrap (Int.fdiv x0 (2 ^ (min (Int.toNat 8) (IntKind.bits .i64))))),(IntKind.u8.wrap x0)]).map b8))
theorem f159_ok{x0:Int}{r_:(List UInt8)}(H:f159 x0=some r_):Pure Try.prog 159 [.int .i64 x0] (· = .str r_):=by
 refine Pure.walk3 fd159 none (Nat.le_of_ble_eq_true rfl) (by rfl) fun Q hQ=>?_
 simp only[f159] at H
 refine AW.rseq ?_
 try simp only[↓wk,↓wl,nq,evV,↓reduceIte,sevalprocAttr]
 refine AW.rseq ?_
 try simp only[↓wk,↓wl,nq,evV,↓reduceIte,sevalprocAttr]
 refine rest_shr (by decide) ?_
 try simp only[↓wk,↓wl,nq,evV,↓reduceIte,sevalprocAttr]
 refine evTs_cstr (xs:=[(IntKind.u8.wrap (Int.fdiv x0 (2 ^ (min (Int.toNat 8) (IntKind.bits .i64))))),(IntKind.u8.wrap x0)]) (by rfl) ?_
 try simp only[↓wk,↓wl,nq,evV,↓reduceIte,sevalprocAttr]
 refine AW.ret ?_
 cases H
 exact hQ.fin
noncomputable def f160_L1(x0:(List UInt8)):Lp (Int×Int×Int) (Int×Int) where
  body:=fun (x1,x2,x3)=>(if (decide (x3<((x0.length:Nat):Int)))=true then (at? x0 x3).bind fun x4=>(some (.next (((IntKind.u64.wrap (x1 + (IntKind.u64.wrap (x4.toNat:Int)))).tmod 255),((IntKind.u64.wrap (x2 + ((IntKind.u64.wrap (x1 + (IntKind.u64.wrap (x4.toNat:Int)))).tmod 255))).tmod 255),(IntKind.i64.wrap (x3 + 1))))) else (some (.brk (x1,x2))))
  cst:=fun (x1,x2,x3)=>⟨put (put (put (put (put (fun _=>.junk) 8 (.int .i64 x3)) 7 (.int .i64 ((x0.length:Nat):Int))) 4 (.int .u64 x2)) 3 (.int .u64 x1)) 0 (.str x0),[]⟩
theorem f160_L1c(x0:(List UInt8))(x1:Int)(x2:Int)(x3:Int):(f160_L1 x0).cst (x1,x2,x3)=⟨put (put (put (put (put (fun _=>.junk) 8 (.int .i64 x3)) 7 (.int .i64 ((x0.length:Nat):Int))) 4 (.int .u64 x2)) 3 (.int .u64 x1)) 0 (.str x0),[]⟩:=rfl
def c160_0:C:=.reg [iI 18 (.mv (.t 4)),iI 19 (.mv (.t 3)),iI 20 (.bin .add (.t 18) (.t 19)),iI 21 (.bin .rem (.t 20) (.c (.int .u64 255))),iI 4 (.mv (.t 21))]
def c160_1:C:=.seq (.reg [iI 11 (.mv (.t 3)),iI 12 (.mv (.t 0)),iI 13 (.mv (.t 5)),iI 14 (.sidx (.t 12) (.t 13)),iI 15 (.cint .u64 (.t 14)),iI 16 (.bin .add (.t 11) (.t 15)),iI 17 (.bin .rem (.t 16) (.c (.int .u64 255))),iI 3 (.mv (.t 17))]) c160_0
def c160_2:C:=.reg [iI 22 (.bin .add (.t 8) (.c (.int .i64 1))),iI 8 (.mv (.t 22))]
def c160_3:C:=.seq (.block 1 (.seq (.reg [iI 10 (.mv (.t 8)),iI 5 (.mv (.t 10))]) c160_1)) c160_2
def c160_4:C:=.seq (.cond (.t 9) (.skip) (.exit 0)) c160_3
def c160_5:C:=.block 0 (.loop (.seq (.reg [iI 9 (.bin .lss (.t 8) (.t 7))]) c160_4))
def c160_6:C:=.seq (.reg [iI 23 (.mv (.t 4)),iI 24 (.bin .shl (.t 23) (.c (.int .u64 8))),iI 25 (.mv (.t 3)),iI 26 (.bin .or (.t 24) (.t 25)),iI 27 (.cint .i64 (.t 26)),iI 2 (.mv (.t 27))]) .ret
def c160_7:C:=.seq (.seq (.reg [iI 6 (.mv (.t 0)),iI 7 (.len 1 (.t 6)),iI 8 (.mv (.c (.int .i64 0)))]) c160_5) c160_6
def c160_8:C:=.seq (.reg [iI 3 (.mv (.c (.int .u64 0))),iI 4 (.mv (.c (.int .u64 0)))]) c160_7
def ir160:C:=.seq (.reg [iI 2 (.mv (.c (.int .i64 0)))]) c160_8
theorem fd160:fd? Try.prog 160=some (28,[.slot 2],ir160):=by kernel_rfl
noncomputable def f160(x0:(List UInt8)):Option (Int) :=
  (Lp.run (f160_L1 x0) (0,0,0)).bind fun (x1,x2)=>(some (IntKind.i64.wrap (IntKind.u64.wrap ((BitVec.ofInt (IntKind.bits .u64) (IntKind.u64.wrap (x2 * 2 ^ (min (Int.toNat 8) (IntKind.bits .u64)))) ||| BitVec.ofInt (IntKind.bits .u64) x1).toNat:Int))))
theorem f160_ok{x0:(List UInt8)}{r_:Int}(H:f160 x0=some r_):Pure Try.prog 160 [.str x0] (· = .int .i64 r_):=by
 refine Pure.walk3 fd160 none (Nat.le_of_ble_eq_true rfl) (by rfl) fun Q hQ=>?_
 simp only[f160] at H
 refine AW.rseq ?_
 try simp only[↓wk,↓wl,nq,evV,↓reduceIte,sevalprocAttr]
 refine AW.rseq ?_
 try simp only[↓wk,↓wl,nq,evV,↓reduceIte,sevalprocAttr]
 refine AW.sseq ?_
 refine AW.rseq ?_
 try simp only[↓wk,↓wl,nq,evV,↓reduceIte,sevalprocAttr]
 refine AW.bend ?_
 refine AW.iter H ((Le.tz [] [0,3,4,7,8] (by simp only[f160_L1c,rrm,↓wk,↓wl,evV,↓reduceIte,sevalprocAttr]<;>rfl))) ?_<;>clear H
 rintro ⟨x1,x2,x3⟩ x_ st0_ H hst_
 rw[f160_L1c] at hst_
 simp only[f160_L1] at H
 subst hst_
 refine AW.rseq ?_
 try simp only[↓wk,↓wl,nq,evV,↓reduceIte,sevalprocAttr]
 refine AW.sseq ?_
 refine AW.ifc H (by rfl) ?_ ?_<;>clear H<;>intro H
 ·refine AW.skip ?_
  refine seqQ.norm ?_
  refine AW.bseq ?_
  refine AW.rseq ?_
  try simp only[↓wk,↓wl,nq,evV,↓reduceIte,sevalprocAttr]
  refine AW.rseq ?_
  try simp only[↓wk,↓wl,nq,evV,↓reduceIte,sevalprocAttr]
  refine evTs_sat H (by rfl) (by rfl) ?_<;>clear H<;>intro x4 H
  try simp only[↓wk,↓wl,nq,evV,↓reduceIte,sevalprocAttr]
  refine AW.rend ?_
  try simp only[↓wk,↓wl,nq,evV,↓reduceIte,sevalprocAttr]
  refine blkQ.norm ?_
  refine AW.rend ?_
  try simp only[↓wk,↓wl,nq,evV,↓reduceIte,sevalprocAttr]
  exact loopQ.next H ((Le.tz [] [0,3,4,7,8] (by simp only[f160_L1c,rrm,↓wk,↓wl,evV,↓reduceIte,sevalprocAttr]<;>rfl)))
 ·refine AW.exit ?_
  refine seqQ.exit ?_
  refine loopQ.exit H ?_<;>clear H<;>intro H
  try dsimp only at H
  refine blk0.here ?_
  refine seqQ.norm ?_
  refine AW.rseq ?_
  try simp only[↓wk,↓wl,nq,evV,↓reduceIte,sevalprocAttr]
  refine rest_shl (by decide) ?_
  try simp only[↓wk,↓wl,nq,evV,↓reduceIte,sevalprocAttr]
  refine rest_or ?_
  try simp only[↓wk,↓wl,nq,evV,↓reduceIte,sevalprocAttr]
  refine AW.ret ?_
  cases H
  exact hQ.fin
def c135_0:C:=.cond (.t 14) (.seq (.reg [iI 2 (.mv (.c (.str []))),iI 3 (.mv (.c (.int .i64 13)))]) .ret) (.skip)
def c135_1:C:=.cond (.t 5) (.seq (.reg [iI 2 (.mv (.c (.str []))),iI 3 (.mv (.c (.int .i64 2)))]) .ret) (.seq (.reg [iI 15 (.faddr 1 (.t 1)),iI 16 (.load 0 (.t 15)),iI 17 (.len 1 (.t 16)),iI 18 (.bin .gtr (.t 17) (.c (.int .i64 65535))),iI 14 (.mv (.t 18))]) c135_0)
def c135_2:C:=.seq (.reg [iI 32 (.mv (.t 4)),iI 33 (.mv (.t 4)),iI 34 (.call (.c (.fn 160 [])) [(.t 33)]),iI 35 (.call (.c (.fn 159 [])) [(.t 34)]),iI 36 (.bin .add (.t 32) (.t 35)),iI 2 (.mv (.t 36)),iI 3 (.mv (.c (.int .i64 0)))]) .ret
def c135_3:C:=.seq (.regq [iI 19 (.faddr 0 (.t 1)),iI 20 (.load 0 (.t 19)),iI 21 (.cint .u8 (.t 20)),iI 22 (.mkslp 0 1 (.int .u8 0) [(0,(.t 21))]),iI 23 (.cstr (.t 22)),iI 24 (.faddr 1 (.t 1)),iI 25 (.load 0 (.t 24)),iI 26 (.len 1 (.t 25)),iI 27 (.call (.c (.fn 159 [])) [(.t 26)]),iI 28 (.bin .add (.t 23) (.t 27)),iI 29 (.faddr 1 (.t 1)),iI 30 (.load 0 (.t 29)),iI 31 (.bin .add (.t 28) (.t 30)),iI 4 (.mv (.t 31))]) c135_2
def c135_4:C:=.seq (.block 0 (.seq (.reg [iI 6 (.faddr 0 (.t 1)),iI 7 (.load 0 (.t 6)),iI 8 (.bin .lss (.t 7) (.c (.int .i64 0))),iI 9 (.mv (.t 8)),iG (some 10) 9 false (.faddr 0 (.t 1)),iG (some 11) 9 false (.load 0 (.t 10)),iG (some 12) 9 false (.bin .gtr (.t 11) (.c (.int .i64 255))),iI 13 (.pick (.t 9) (.c (.bool true)) (.t 12)),iI 5 (.mv (.t 13))]) c135_1)) c135_3
def ir135:C:=.seq (.reg [iI 1 (.box (.t 0)),iI 2 (.mv (.c (.str []))),iI 3 (.mv (.c (.int .i64 0)))]) c135_4
theorem fd135:fd? Try.prog 135=some (37,[.slot 2,.slot 3],ir135):=by kernel_rfl
noncomputable def f135(x0:RecordEntry):Option ((List UInt8)×Int) :=
  (if (decide (x0.fKind<0))=true then (some ([],2)) else (if (decide (255<x0.fKind))=true then (some ([],2)) else (if (decide (65535<((x0.fData.length:Nat):Int)))=true then (some ([],13)) else (f159 ((x0.fData.length:Nat):Int)).bind fun x1=>(cat? (([(IntKind.u8.wrap x0.fKind)]).map b8) x1).bind fun x2=>(cat? x2 x0.fData).bind fun x3=>(f160 x3).bind fun x4=>(f159 x4).bind fun x5=>(cat? x3 x5).bind fun x6=>(some (x6,0)))))
theorem f135_ok{x0:RecordEntry}{r_:(List UInt8)×Int}(H:f135 x0=some r_):Pure Try.prog 135 [.agg [.int .i64 x0.fKind,.str x0.fData]] (· = .tup [.str r_.1,.int .i64 r_.2]):=by
 refine Pure.walk3 fd135 none (Nat.le_of_ble_eq_true rfl) (by rfl) fun Q hQ=>?_
 simp only[f135] at H
 refine AW.rseq ?_
 try simp only[↓wk,↓wl,nq,evV,↓reduceIte,sevalprocAttr]
 refine AW.bseq ?_
 refine AW.rseq ?_
 try simp only[↓wk,↓wl,nq,evV,↓reduceIte,sevalprocAttr]
 refine evTs_ifg H (by rfl) ?_ ?_<;>clear H<;>intro H
 ·try simp only[↓wk,↓wl,nq,evV,↓reduceIte,sevalprocAttr]
  refine AW.ift (by rfl) ?_
  refine AW.rseq ?_
  try simp only[↓wk,↓wl,nq,evV,↓reduceIte,sevalprocAttr]
  refine AW.ret ?_
  refine blkQ.ret ?_
  cases H
  exact hQ.fin
 ·try simp only[↓wk,↓wl,nq,evV,↓reduceIte,sevalprocAttr]
  refine AW.ifc H (by rfl) ?_ ?_<;>clear H<;>intro H
  ·refine AW.rseq ?_
   try simp only[↓wk,↓wl,nq,evV,↓reduceIte,sevalprocAttr]
   refine AW.ret ?_
   refine blkQ.ret ?_
   cases H
   exact hQ.fin
  ·refine AW.rseq ?_
   try simp only[↓wk,↓wl,nq,evV,↓reduceIte,sevalprocAttr]
   refine AW.ifc H (by rfl) ?_ ?_<;>clear H<;>intro H
   ·refine AW.rseq ?_
    try simp only[↓wk,↓wl,nq,evV,↓reduceIte,sevalprocAttr]
    refine AW.ret ?_
    refine blkQ.ret ?_
    cases H
    exact hQ.fin
   ·refine AW.skip ?_
    refine blkQ.norm ?_
    refine AW.rqseq ?_
    try simp only[↓wk,↓wl,nq,evV,↓reduceIte,sevalprocAttr]
    refine evTs_cstr (xs:=[(IntKind.u8.wrap x0.fKind)]) (by rfl) ?_
    try simp only[↓wk,↓wl,nq,evV,↓reduceIte,sevalprocAttr]
    refine evTs_pure hFnq H (fun _ h=>f159_ok h) (by rfl) (by rfl) (by rfl) (by rfl) (fun _=>rfl) ?_<;>clear H<;>intro x1 H
    try simp only[eL,↓wk,↓wl,nq,evV,↓reduceIte,sevalprocAttr]
    refine rest_cat H ?_<;>clear H<;>intro x2 H
    try simp only[↓wk,↓wl,nq,evV,↓reduceIte,sevalprocAttr]
    refine rest_cat H ?_<;>clear H<;>intro x3 H
    try simp only[↓wk,↓wl,nq,evV,↓reduceIte,sevalprocAttr]
    refine AW.rseq ?_
    try simp only[↓wk,↓wl,nq,evV,↓reduceIte,sevalprocAttr]
    refine evTs_pure hFn H (fun _ h=>f160_ok h) (by rfl) (by rfl) (by rfl) (by rfl) (fun _=>rfl) ?_<;>clear H<;>intro x4 H
    try simp only[eL,↓wk,↓wl,nq,evV,↓reduceIte,sevalprocAttr]
    refine evTs_pure hFn H (fun _ h=>f159_ok h) (by rfl) (by rfl) (by rfl) (by rfl) (fun _=>rfl) ?_<;>clear H<;>intro x5 H
    try simp only[eL,↓wk,↓wl,nq,evV,↓reduceIte,sevalprocAttr]
    refine rest_cat H ?_<;>clear H<;>intro x6 H
    try simp only[↓wk,↓wl,nq,evV,↓reduceIte,sevalprocAttr]
    refine AW.ret ?_
    cases H
    exact hQ.fin
noncomputable def f88_J1(x0:NetworkPacket):Jn (Int) ((List UInt8)×Int) where
  run:=fun x1=>(f133 (IntKind.i64.wrap x0.fSource)).bind fun x2=>(cat? ([]) x2).bind fun x3=>(f133 x0.fUniverse).bind fun x4=>(cat? x3 x4).bind fun x5=>(f133 x0.fPriority).bind fun x6=>(cat? x5 x6).bind fun x7=>(f133 x0.fSeq).bind fun x8=>(cat? x7 x8).bind fun x9=>(f133 x0.fSync).bind fun xa=>(cat? x9 xa).bind fun xb=>(f133 x1).bind fun xc=>(cat? xb xc).bind fun xd=>(f134 x0.fSlots).bind fun xe=>(if (decide (xe.2≠0))=true then (some ([],xe.2)) else (cat? xd xe.1).bind fun xf=>(f135 (RecordEntry.mk 85 xf)).bind fun xg=>(some (xg.1,xg.2)))
  cst:=fun x1=>⟨put (put (fun _=>.junk) 5 (.int .i64 x1)) 1 (.ptr 0 0),[.cel [.int .u64 x0.fSource,.int .i64 x0.fUniverse,.int .i64 x0.fPriority,.int .i64 x0.fSeq,.int .i64 x0.fSync,.bool x0.fEnd,.str x0.fSlots]]⟩
theorem f88_J1c(x0:NetworkPacket)(x1:Int):(f88_J1 x0).cst x1=⟨put (put (fun _=>.junk) 5 (.int .i64 x1)) 1 (.ptr 0 0),[.cel [.int .u64 x0.fSource,.int .i64 x0.fUniverse,.int .i64 x0.fPriority,.int .i64 x0.fSeq,.int .i64 x0.fSync,.bool x0.fEnd,.str x0.fSlots]]⟩:=rfl
def c88_0:C:=.cond (.t 14) (.seq (.reg [iI 15 (.mv (.t 4)),iI 2 (.mv (.c (.str []))),iI 3 (.mv (.t 15))]) .ret) (.skip)
def c88_1:C:=.seq (.reg [iI 13 (.mv (.t 4)),iI 14 (.bin .neq (.t 13) (.c (.int .i64 0)))]) c88_0
def c88_2:C:=.cond (.t 17) (.reg [iI 5 (.mv (.c (.int .i64 1)))]) (.skip)
def c88_3:C:=.reg [iI 34 (.mv (.t 6)),iI 35 (.mv (.t 8)),iI 36 (.call (.c (.fn 133 [])) [(.t 35)]),iI 37 (.bin .add (.t 34) (.t 36)),iI 6 (.mv (.t 37))]
def c88_4:C:=.reg [iI 38 (.bin .add (.t 31) (.c (.int .i64 1))),iI 31 (.mv (.t 38))]
def c88_5:C:=.seq (.block 1 (.seq (.reg [iI 33 (.idx 0 6 (.t 30) (.t 31)),iI 8 (.mv (.t 33))]) c88_3)) c88_4
def c88_6:C:=.seq (.cond (.t 32) (.skip) (.exit 0)) c88_5
def c88_7:C:=.block 0 (.loop (.seq (.reg [iI 32 (.bin .lss (.t 31) (.c (.int .i64 6)))]) c88_6))
def c88_8:C:=.cond (.t 46) (.seq (.reg [iI 47 (.mv (.t 10)),iI 2 (.mv (.c (.str []))),iI 3 (.mv (.t 47))]) .ret) (.skip)
def c88_9:C:=.seq (.reg [iI 48 (.mv (.t 6)),iI 49 (.mv (.t 9)),iI 50 (.bin .add (.t 48) (.t 49)),iI 51 (.build [(1,(.int .i64 0)),(1,(.str []))] [(0,0,(.c (.int .i64 85))),(1,0,(.t 50))]),iI 52 (.call (.c (.fn 135 [])) [(.t 51)]),iI 53 (.ext (.t 52) 0),iI 54 (.ext (.t 52) 1),iI 2 (.mv (.t 53)),iI 3 (.mv (.t 54))]) .ret
def c88_10:C:=.seq (.seq (.reg [iI 45 (.mv (.t 10)),iI 46 (.bin .neq (.t 45) (.c (.int .i64 0)))]) c88_8) c88_9
def c88_11:C:=.seq (.reg [iI 40 (.faddr 6 (.t 1)),iI 41 (.load 0 (.t 40)),iI 42 (.call (.c (.fn 134 [])) [(.t 41)]),iI 39 (.mv (.t 42)),iI 43 (.ext (.t 39) 0),iI 44 (.ext (.t 39) 1),iI 9 (.mv (.t 43)),iI 10 (.mv (.t 44))]) c88_10
def c88_12:C:=.seq (.seq (.reg [iI 18 (.faddr 0 (.t 1)),iI 19 (.load 0 (.t 18)),iI 20 (.cint .i64 (.t 19)),iI 21 (.faddr 1 (.t 1)),iI 22 (.load 0 (.t 21)),iI 23 (.faddr 2 (.t 1)),iI 24 (.load 0 (.t 23)),iI 25 (.faddr 3 (.t 1)),iI 26 (.load 0 (.t 25)),iI 27 (.faddr 4 (.t 1)),iI 28 (.load 0 (.t 27)),iI 29 (.mv (.t 5)),iI 30 (.build [(6,(.int .i64 0))] [(0,0,(.t 20)),(1,0,(.t 22)),(2,0,(.t 24)),(3,0,(.t 26)),(4,0,(.t 28)),(5,0,(.t 29))]),iI 31 (.mv (.c (.int .i64 0)))]) c88_7) c88_11
def c88_13:C:=.seq (.reg [iI 6 (.mv (.c (.str [])))]) c88_12
def c88_14:C:=.seq (.seq (.reg [iI 16 (.faddr 5 (.t 1)),iI 17 (.load 0 (.t 16))]) c88_2) c88_13
def c88_15:C:=.seq (.reg [iI 5 (.mv (.c (.int .i64 0)))]) c88_14
def c88_16:C:=.seq (.seq (.reg [iI 11 (.load 7 (.t 1)),iI 12 (.call (.c (.fn 59 [])) [(.t 11)]),iI 4 (.mv (.t 12))]) c88_1) c88_15
def ir88:C:=.seq (.reg [iI 1 (.box (.t 0)),iI 2 (.mv (.c (.str []))),iI 3 (.mv (.c (.int .i64 0)))]) c88_16
theorem fd88:fd? Try.prog 88=some (55,[.slot 2,.slot 3],ir88):=by kernel_rfl
noncomputable def f88(x0:NetworkPacket):Option ((List UInt8)×Int) :=
  (f59 x0).bind fun x1=>(if (decide (x1≠0))=true then (some ([],x1)) else (if x0.fEnd=true then ((f88_J1 x0).run 1) else ((f88_J1 x0).run 0)))
theorem f88_ok{x0:NetworkPacket}{r_:(List UInt8)×Int}(H:f88 x0=some r_):Pure Try.prog 88 [.agg [.int .u64 x0.fSource,.int .i64 x0.fUniverse,.int .i64 x0.fPriority,.int .i64 x0.fSeq,.int .i64 x0.fSync,.bool x0.fEnd,.str x0.fSlots]] (· = .tup [.str r_.1,.int .i64 r_.2]):=by
 refine Pure.walk3 fd88 none (Nat.le_of_ble_eq_true rfl) (by rfl) fun Q hQ=>?_
 simp only[f88] at H
 refine AW.rseq ?_
 try simp only[↓wk,↓wl,nq,evV,↓reduceIte,sevalprocAttr]
 refine AW.sseq ?_
 refine AW.rseq ?_
 try simp only[↓wk,↓wl,nq,evV,↓reduceIte,sevalprocAttr]
 refine evTs_pure hFn H (fun _ h=>f59_ok h) (by rfl) (by rfl) (by rfl) (by rfl) (fun _=>rfl) ?_<;>clear H<;>intro x1 H
 try simp only[eL,↓wk,↓wl,nq,evV,↓reduceIte,sevalprocAttr]
 refine AW.rseq ?_
 try simp only[↓wk,↓wl,nq,evV,↓reduceIte,sevalprocAttr]
 refine AW.ifc H (by rfl) ?_ ?_<;>clear H<;>intro H
 ·refine AW.rseq ?_
  try simp only[↓wk,↓wl,nq,evV,↓reduceIte,sevalprocAttr]
  refine AW.ret ?_
  refine seqQ.ret ?_
  cases H
  exact hQ.fin
 ·refine AW.skip ?_
  refine seqQ.norm ?_
  refine AW.rseq ?_
  try simp only[↓wk,↓wl,nq,evV,↓reduceIte,sevalprocAttr]
  refine AW.join (f88_J1 x0) H ?_ fun hf88_J1=>?_
  ·clear H
   rintro x2 st0_ H hst_
   rw[f88_J1c] at hst_
   simp only[f88_J1] at H
   subst hst_
   refine AW.rseq ?_
   try simp only[↓wk,↓wl,nq,evV,↓reduceIte,sevalprocAttr]
   refine AW.sseq ?_
   refine AW.rseq ?_
   try simp only[↓wk,↓wl,nq,evV,↓reduceIte,sevalprocAttr]
   refine AW.bend ?_
   refine AW.rounds 40 ?_
   refine Rounds.go ?_
   refine AW.rseq ?_
   try simp only[↓wk,↓wl,nq,evV,↓reduceIte,sevalprocAttr]
   refine AW.sseq ?_
   refine AW.ift (by rfl) ?_
   refine AW.skip ?_
   refine seqQ.norm ?_
   refine AW.bseq ?_
   refine AW.rseq ?_
   try simp only[↓wk,↓wl,nq,evV,↓reduceIte,sevalprocAttr]
   refine evTs_any (v:=.int .i64 (IntKind.i64.wrap x0.fSource)) rfl (by rfl) ?_
   try simp only[↓wk,↓wl,nq,evV,↓reduceIte,sevalprocAttr]
   refine AW.rend ?_
   try simp only[↓wk,↓wl,nq,evV,↓reduceIte,sevalprocAttr]
   refine evTs_pure hFn H (fun _ h=>f133_ok h) (by rfl) (by rfl) (by rfl) (by rfl) (fun _=>rfl) ?_<;>clear H<;>intro x3 H
   try simp only[eL,↓wk,↓wl,nq,evV,↓reduceIte,sevalprocAttr]
   refine rest_cat H ?_<;>clear H<;>intro x4 H
   try simp only[↓wk,↓wl,nq,evV,↓reduceIte,sevalprocAttr]
   refine blkQ.norm ?_
   refine AW.rend ?_
   try simp only[↓wk,↓wl,nq,evV,↓reduceIte,sevalprocAttr]
   refine roundQ.next (st2:=⟨put (put (put (put (fun _=>.junk) 31 (.int .i64 1)) 30 (.agg [.int .i64 (IntKind.i64.wrap x0.fSource),.int .i64 x0.fUniverse,.int .i64 x0.fPriority,.int .i64 x0.fSeq,.int .i64 x0.fSync,.int .i64 x2])) 6 (.str x4)) 1 (.ptr 0 0),[.cel [.int .u64 x0.fSource,.int .i64 x0.fUniverse,.int .i64 x0.fPriority,.int .i64 x0.fSeq,.int .i64 x0.fSync,.bool x0.fEnd,.str x0.fSlots]]⟩) (Le.tz [0] [1,6,30,31] (by simp only[rrm,↓wk,↓wl,evV,↓reduceIte,sevalprocAttr]<;>rfl)) ?_
   refine Rounds.go ?_
   refine AW.rseq ?_
   try simp only[↓wk,↓wl,nq,evV,↓reduceIte,sevalprocAttr]
   refine AW.sseq ?_
   refine AW.ift (by rfl) ?_
   refine AW.skip ?_
   refine seqQ.norm ?_
   refine AW.bseq ?_
   refine AW.rseq ?_
   try simp only[↓wk,↓wl,nq,evV,↓reduceIte,sevalprocAttr]
   refine evTs_any (v:=.int .i64 x0.fUniverse) rfl (by rfl) ?_
   try simp only[↓wk,↓wl,nq,evV,↓reduceIte,sevalprocAttr]
   refine AW.rend ?_
   try simp only[↓wk,↓wl,nq,evV,↓reduceIte,sevalprocAttr]
   refine evTs_pure hFn H (fun _ h=>f133_ok h) (by rfl) (by rfl) (by rfl) (by rfl) (fun _=>rfl) ?_<;>clear H<;>intro x5 H
   try simp only[eL,↓wk,↓wl,nq,evV,↓reduceIte,sevalprocAttr]
   refine rest_cat H ?_<;>clear H<;>intro x6 H
   try simp only[↓wk,↓wl,nq,evV,↓reduceIte,sevalprocAttr]
   refine blkQ.norm ?_
   refine AW.rend ?_
   try simp only[↓wk,↓wl,nq,evV,↓reduceIte,sevalprocAttr]
   refine roundQ.next (st2:=⟨put (put (put (put (fun _=>.junk) 31 (.int .i64 2)) 30 (.agg [.int .i64 (IntKind.i64.wrap x0.fSource),.int .i64 x0.fUniverse,.int .i64 x0.fPriority,.int .i64 x0.fSeq,.int .i64 x0.fSync,.int .i64 x2])) 6 (.str x6)) 1 (.ptr 0 0),[.cel [.int .u64 x0.fSource,.int .i64 x0.fUniverse,.int .i64 x0.fPriority,.int .i64 x0.fSeq,.int .i64 x0.fSync,.bool x0.fEnd,.str x0.fSlots]]⟩) (Le.tz [0] [1,6,30,31] (by simp only[rrm,↓wk,↓wl,evV,↓reduceIte,sevalprocAttr]<;>rfl)) ?_
   refine Rounds.go ?_
   refine AW.rseq ?_
   try simp only[↓wk,↓wl,nq,evV,↓reduceIte,sevalprocAttr]
   refine AW.sseq ?_
   refine AW.ift (by rfl) ?_
   refine AW.skip ?_
   refine seqQ.norm ?_
   refine AW.bseq ?_
   refine AW.rseq ?_
   try simp only[↓wk,↓wl,nq,evV,↓reduceIte,sevalprocAttr]
   refine evTs_any (v:=.int .i64 x0.fPriority) rfl (by rfl) ?_
   try simp only[↓wk,↓wl,nq,evV,↓reduceIte,sevalprocAttr]
   refine AW.rend ?_
   try simp only[↓wk,↓wl,nq,evV,↓reduceIte,sevalprocAttr]
   refine evTs_pure hFn H (fun _ h=>f133_ok h) (by rfl) (by rfl) (by rfl) (by rfl) (fun _=>rfl) ?_<;>clear H<;>intro x7 H
   try simp only[eL,↓wk,↓wl,nq,evV,↓reduceIte,sevalprocAttr]
   refine rest_cat H ?_<;>clear H<;>intro x8 H
   try simp only[↓wk,↓wl,nq,evV,↓reduceIte,sevalprocAttr]
   refine blkQ.norm ?_
   refine AW.rend ?_
   try simp only[↓wk,↓wl,nq,evV,↓reduceIte,sevalprocAttr]
   refine roundQ.next (st2:=⟨put (put (put (put (fun _=>.junk) 31 (.int .i64 3)) 30 (.agg [.int .i64 (IntKind.i64.wrap x0.fSource),.int .i64 x0.fUniverse,.int .i64 x0.fPriority,.int .i64 x0.fSeq,.int .i64 x0.fSync,.int .i64 x2])) 6 (.str x8)) 1 (.ptr 0 0),[.cel [.int .u64 x0.fSource,.int .i64 x0.fUniverse,.int .i64 x0.fPriority,.int .i64 x0.fSeq,.int .i64 x0.fSync,.bool x0.fEnd,.str x0.fSlots]]⟩) (Le.tz [0] [1,6,30,31] (by simp only[rrm,↓wk,↓wl,evV,↓reduceIte,sevalprocAttr]<;>rfl)) ?_
   refine Rounds.go ?_
   refine AW.rseq ?_
   try simp only[↓wk,↓wl,nq,evV,↓reduceIte,sevalprocAttr]
   refine AW.sseq ?_
   refine AW.ift (by rfl) ?_
   refine AW.skip ?_
   refine seqQ.norm ?_
   refine AW.bseq ?_
   refine AW.rseq ?_
   try simp only[↓wk,↓wl,nq,evV,↓reduceIte,sevalprocAttr]
   refine evTs_any (v:=.int .i64 x0.fSeq) rfl (by rfl) ?_
   try simp only[↓wk,↓wl,nq,evV,↓reduceIte,sevalprocAttr]
   refine AW.rend ?_
   try simp only[↓wk,↓wl,nq,evV,↓reduceIte,sevalprocAttr]
   refine evTs_pure hFn H (fun _ h=>f133_ok h) (by rfl) (by rfl) (by rfl) (by rfl) (fun _=>rfl) ?_<;>clear H<;>intro x9 H
   try simp only[eL,↓wk,↓wl,nq,evV,↓reduceIte,sevalprocAttr]
   refine rest_cat H ?_<;>clear H<;>intro xa H
   try simp only[↓wk,↓wl,nq,evV,↓reduceIte,sevalprocAttr]
   refine blkQ.norm ?_
   refine AW.rend ?_
   try simp only[↓wk,↓wl,nq,evV,↓reduceIte,sevalprocAttr]
   refine roundQ.next (st2:=⟨put (put (put (put (fun _=>.junk) 31 (.int .i64 4)) 30 (.agg [.int .i64 (IntKind.i64.wrap x0.fSource),.int .i64 x0.fUniverse,.int .i64 x0.fPriority,.int .i64 x0.fSeq,.int .i64 x0.fSync,.int .i64 x2])) 6 (.str xa)) 1 (.ptr 0 0),[.cel [.int .u64 x0.fSource,.int .i64 x0.fUniverse,.int .i64 x0.fPriority,.int .i64 x0.fSeq,.int .i64 x0.fSync,.bool x0.fEnd,.str x0.fSlots]]⟩) (Le.tz [0] [1,6,30,31] (by simp only[rrm,↓wk,↓wl,evV,↓reduceIte,sevalprocAttr]<;>rfl)) ?_
   refine Rounds.go ?_
   refine AW.rseq ?_
   try simp only[↓wk,↓wl,nq,evV,↓reduceIte,sevalprocAttr]
   refine AW.sseq ?_
   refine AW.ift (by rfl) ?_
   refine AW.skip ?_
   refine seqQ.norm ?_
   refine AW.bseq ?_
   refine AW.rseq ?_
   try simp only[↓wk,↓wl,nq,evV,↓reduceIte,sevalprocAttr]
   refine evTs_any (v:=.int .i64 x0.fSync) rfl (by rfl) ?_
   try simp only[↓wk,↓wl,nq,evV,↓reduceIte,sevalprocAttr]
   refine AW.rend ?_
   try simp only[↓wk,↓wl,nq,evV,↓reduceIte,sevalprocAttr]
   refine evTs_pure hFn H (fun _ h=>f133_ok h) (by rfl) (by rfl) (by rfl) (by rfl) (fun _=>rfl) ?_<;>clear H<;>intro xb H
   try simp only[eL,↓wk,↓wl,nq,evV,↓reduceIte,sevalprocAttr]
   refine rest_cat H ?_<;>clear H<;>intro xc H
   try simp only[↓wk,↓wl,nq,evV,↓reduceIte,sevalprocAttr]
   refine blkQ.norm ?_
   refine AW.rend ?_
   try simp only[↓wk,↓wl,nq,evV,↓reduceIte,sevalprocAttr]
   refine roundQ.next (st2:=⟨put (put (put (put (fun _=>.junk) 31 (.int .i64 5)) 30 (.agg [.int .i64 (IntKind.i64.wrap x0.fSource),.int .i64 x0.fUniverse,.int .i64 x0.fPriority,.int .i64 x0.fSeq,.int .i64 x0.fSync,.int .i64 x2])) 6 (.str xc)) 1 (.ptr 0 0),[.cel [.int .u64 x0.fSource,.int .i64 x0.fUniverse,.int .i64 x0.fPriority,.int .i64 x0.fSeq,.int .i64 x0.fSync,.bool x0.fEnd,.str x0.fSlots]]⟩) (Le.tz [0] [1,6,30,31] (by simp only[rrm,↓wk,↓wl,evV,↓reduceIte,sevalprocAttr]<;>rfl)) ?_
   refine Rounds.go ?_
   refine AW.rseq ?_
   try simp only[↓wk,↓wl,nq,evV,↓reduceIte,sevalprocAttr]
   refine AW.sseq ?_
   refine AW.ift (by rfl) ?_
   refine AW.skip ?_
   refine seqQ.norm ?_
   refine AW.bseq ?_
   refine AW.rseq ?_
   try simp only[↓wk,↓wl,nq,evV,↓reduceIte,sevalprocAttr]
   refine evTs_any (v:=.int .i64 x2) rfl (by rfl) ?_
   try simp only[↓wk,↓wl,nq,evV,↓reduceIte,sevalprocAttr]
   refine AW.rend ?_
   try simp only[↓wk,↓wl,nq,evV,↓reduceIte,sevalprocAttr]
   refine evTs_pure hFn H (fun _ h=>f133_ok h) (by rfl) (by rfl) (by rfl) (by rfl) (fun _=>rfl) ?_<;>clear H<;>intro xd H
   try simp only[eL,↓wk,↓wl,nq,evV,↓reduceIte,sevalprocAttr]
   refine rest_cat H ?_<;>clear H<;>intro xe H
   try simp only[↓wk,↓wl,nq,evV,↓reduceIte,sevalprocAttr]
   refine blkQ.norm ?_
   refine AW.rend ?_
   try simp only[↓wk,↓wl,nq,evV,↓reduceIte,sevalprocAttr]
   refine roundQ.next (st2:=⟨put (put (put (put (fun _=>.junk) 31 (.int .i64 6)) 30 (.agg [.int .i64 (IntKind.i64.wrap x0.fSource),.int .i64 x0.fUniverse,.int .i64 x0.fPriority,.int .i64 x0.fSeq,.int .i64 x0.fSync,.int .i64 x2])) 6 (.str xe)) 1 (.ptr 0 0),[.cel [.int .u64 x0.fSource,.int .i64 x0.fUniverse,.int .i64 x0.fPriority,.int .i64 x0.fSeq,.int .i64 x0.fSync,.bool x0.fEnd,.str x0.fSlots]]⟩) (Le.tz [0] [1,6,30,31] (by simp only[rrm,↓wk,↓wl,evV,↓reduceIte,sevalprocAttr]<;>rfl)) ?_
   refine Rounds.go ?_
   refine AW.rseq ?_
   try simp only[↓wk,↓wl,nq,evV,↓reduceIte,sevalprocAttr]
   refine AW.sseq ?_
   refine AW.iff (by rfl) ?_
   refine AW.exit ?_
   refine seqQ.exit ?_
   refine roundQ.exit ?_
   refine blk0.here ?_
   refine seqQ.norm ?_
   refine AW.rseq ?_
   try simp only[↓wk,↓wl,nq,evV,↓reduceIte,sevalprocAttr]
   refine evTs_pure hFn H (fun _ h=>f134_ok h) (by rfl) (by rfl) (by rfl) (by rfl) (fun _=>rfl) ?_<;>clear H<;>intro xf H
   try simp only[eL,↓wk,↓wl,nq,evV,↓reduceIte,sevalprocAttr]
   refine AW.sseq ?_
   refine AW.rseq ?_
   try simp only[↓wk,↓wl,nq,evV,↓reduceIte,sevalprocAttr]
   refine AW.ifc H (by rfl) ?_ ?_<;>clear H<;>intro H
   ·refine AW.rseq ?_
    try simp only[↓wk,↓wl,nq,evV,↓reduceIte,sevalprocAttr]
    refine AW.ret ?_
    refine seqQ.ret ?_
    cases H
    exact hQ.fin
   ·refine AW.skip ?_
    refine seqQ.norm ?_
    refine AW.rseq ?_
    try simp only[↓wk,↓wl,nq,evV,↓reduceIte,sevalprocAttr]
    refine rest_cat H ?_<;>clear H<;>intro xg H
    try simp only[↓wk,↓wl,nq,evV,↓reduceIte,sevalprocAttr]
    refine evTs_pure hFn H (fun _ h=>f135_ok h) (by rfl) (by rfl) (by rfl) (by rfl) (fun _=>rfl) ?_<;>clear H<;>intro xh H
    try simp only[eL,↓wk,↓wl,nq,evV,↓reduceIte,sevalprocAttr]
    refine AW.ret ?_
    cases H
    exact hQ.fin
  ·refine AW.rseq ?_
   try simp only[↓wk,↓wl,nq,evV,↓reduceIte,sevalprocAttr]
   refine AW.ifc H (by rfl) ?_ ?_<;>clear H<;>intro H
   ·refine AW.rend ?_
    try simp only[↓wk,↓wl,nq,evV,↓reduceIte,sevalprocAttr]
    refine seqQ.norm ?_
    exact hf88_J1 _ _ H ((Le.tz [0] [1,5] (by simp only[f88_J1c,rrm,↓wk,↓wl,evV,↓reduceIte,sevalprocAttr]<;>rfl)))
   ·refine AW.skip ?_
    refine seqQ.norm ?_
    exact hf88_J1 _ _ H ((Le.tz [0] [1,5] (by simp only[f88_J1c,rrm,↓wk,↓wl,evV,↓reduceIte,sevalprocAttr]<;>rfl)))
def c161_0:C:=.cond (.t 19) (.seq (.reg [iI 2 (.mv (.c (.int .i64 2)))]) .ret) (.skip)
def c161_1:C:=.seq (.reg [iI 2 (.mv (.c (.int .i64 0)))]) .ret
def c161_2:C:=.seq (.seq (.reg [iI 3 (.mv (.t 0)),iI 4 (.nilchk (.t 3)),iI 5 (.faddr 1 (.t 4)),iI 6 (.load 0 (.t 5)),iI 7 (.bin .lss (.t 6) (.c (.int .i64 0))),iI 8 (.mv (.t 7)),iG (some 9) 8 false (.mv (.t 0)),iG (some 10) 8 false (.nilchk (.t 9)),iG (some 11) 8 false (.faddr 1 (.t 10)),iG (some 12) 8 false (.load 0 (.t 11)),iG (some 13) 8 false (.mv (.t 0)),iG (some 14) 8 false (.nilchk (.t 13)),iG (some 15) 8 false (.faddr 0 (.t 14)),iG (some 16) 8 false (.load 0 (.t 15)),iG (some 17) 8 false (.len 1 (.t 16)),iG (some 18) 8 false (.bin .gtr (.t 12) (.t 17)),iI 19 (.pick (.t 8) (.c (.bool true)) (.t 18))]) c161_0) c161_1
def ir161:C:=.seq (.reg [iI 2 (.mv (.c (.int .i64 0)))]) c161_2
theorem fd161:fd? Try.prog 161=some (20,[.slot 2],ir161):=by kernel_rfl
noncomputable def f161p(x0:(List UInt8))(x1:Int):Option (Int) :=
  (if (decide (x1<0))=true then (some 2) else (if (decide (((x0.length:Nat):Int)<x1))=true then (some 2) else (some 0)))
theorem f161p_ok{x0:(List UInt8)}{x1:Int}{r_:Int}(H:f161p x0 x1=some r_):Pure Try.prog 161 [.pro [.str x0,.int .i64 x1]] (· = .int .i64 r_):=by
 refine Pure.walk3 fd161 none (Nat.le_of_ble_eq_true rfl) (by rfl) fun Q hQ=>?_
 simp only[f161p] at H
 refine AW.rseq ?_
 try simp only[↓wk,↓wl,nq,evV,↓reduceIte,sevalprocAttr]
 refine AW.sseq ?_
 refine AW.rseq ?_
 try simp only[↓wk,↓wl,nq,evV,↓reduceIte,sevalprocAttr]
 refine evTs_ifg H (by rfl) ?_ ?_<;>clear H<;>intro H
 ·try simp only[↓wk,↓wl,nq,evV,↓reduceIte,sevalprocAttr]
  refine AW.ift (by rfl) ?_
  refine AW.rseq ?_
  try simp only[↓wk,↓wl,nq,evV,↓reduceIte,sevalprocAttr]
  refine AW.ret ?_
  refine seqQ.ret ?_
  cases H
  exact hQ.fin
 ·try simp only[↓wk,↓wl,nq,evV,↓reduceIte,sevalprocAttr]
  refine AW.ifc H (by rfl) ?_ ?_<;>clear H<;>intro H
  ·refine AW.rseq ?_
   try simp only[↓wk,↓wl,nq,evV,↓reduceIte,sevalprocAttr]
   refine AW.ret ?_
   refine seqQ.ret ?_
   cases H
   exact hQ.fin
  ·refine AW.skip ?_
   refine seqQ.norm ?_
   refine AW.rseq ?_
   try simp only[↓wk,↓wl,nq,evV,↓reduceIte,sevalprocAttr]
   refine AW.ret ?_
   cases H
   exact hQ.fin
def c162_0:C:=.seq (.reg [iI 5 (.mv (.t 1)),iI 6 (.mv (.t 0)),iI 7 (.nilchk (.t 6)),iI 8 (.faddr 0 (.t 7)),iI 9 (.load 0 (.t 8)),iI 10 (.len 1 (.t 9)),iI 11 (.mv (.t 0)),iI 12 (.nilchk (.t 11)),iI 13 (.faddr 1 (.t 12)),iI 14 (.load 0 (.t 13)),iI 15 (.bin .sub (.t 10) (.t 14)),iI 16 (.bin .leq (.t 5) (.t 15)),iI 4 (.mv (.t 16))]) .ret
def ir162:C:=.seq (.reg [iI 4 (.mv (.c (.bool false)))]) c162_0
theorem fd162:fd? Try.prog 162=some (17,[.slot 4],ir162):=by kernel_rfl
noncomputable def f162p(x0:(List UInt8))(x1:Int)(x2:Int):Option (Bool) :=
  (some (decide (x2≤(IntKind.i64.wrap (((x0.length:Nat):Int) - x1)))))
theorem f162p_ok{x0:(List UInt8)}{x1:Int}{x2:Int}{r_:Bool}(H:f162p x0 x1 x2=some r_):Pure Try.prog 162 [.pro [.str x0,.int .i64 x1],.int .i64 x2] (· = .bool r_):=by
 refine Pure.walk3 fd162 none (Nat.le_of_ble_eq_true rfl) (by rfl) fun Q hQ=>?_
 simp only[f162p] at H
 refine AW.rseq ?_
 try simp only[↓wk,↓wl,nq,evV,↓reduceIte,sevalprocAttr]
 refine AW.rseq ?_
 try simp only[↓wk,↓wl,nq,evV,↓reduceIte,sevalprocAttr]
 refine AW.ret ?_
 cases H
 exact hQ.fin
def c163_0:C:=.seq (.reg [iI 13 (.mv (.t 0)),iI 14 (.nilchk (.t 13)),iI 15 (.faddr 0 (.t 14)),iI 16 (.load 0 (.t 15)),iI 17 (.mv (.t 0)),iI 18 (.nilchk (.t 17)),iI 19 (.faddr 1 (.t 18)),iI 20 (.load 0 (.t 19)),iI 21 (.mv (.t 1)),iI 22 (.bin .sub (.t 20) (.t 21)),iI 23 (.mv (.t 0)),iI 24 (.nilchk (.t 23)),iI 25 (.faddr 1 (.t 24)),iI 26 (.load 0 (.t 25)),iI 27 (.sslice (.t 16) (some (.t 22)) (some (.t 26))),iI 4 (.mv (.t 27))]) .ret
def c163_1:C:=.seq (.reg [iI 5 (.mv (.t 0)),iI 6 (.nilchk (.t 5)),iI 7 (.faddr 1 (.t 6)),iI 8 (.load 0 (.t 7)),iI 9 (.mv (.t 1)),iI 10 (.bin .add (.t 8) (.t 9)),iI 11 (.nilchk (.t 5)),iI 12 (.faddr 1 (.t 11)),iN (.store 0 (.t 12) (.t 10))]) c163_0
def ir163:C:=.seq (.reg [iI 4 (.mv (.c (.str [])))]) c163_1
theorem fd163:fd? Try.prog 163=some (28,[.slot 4],ir163):=by kernel_rfl
noncomputable def f136_C1(x0:(List UInt8))(x1:Int):Il ((List UInt8)×Int) where
  run:=(slc? x0 (IntKind.i64.wrap ((IntKind.i64.wrap (x1 + 3)) - 3)) (IntKind.i64.wrap (x1 + 3))).bind fun x2=>(some (x2,(IntKind.i64.wrap (x1 + 3))))
  res:=fun (x3,x4)=>.str x3
  hp:=fun (x3,x4)=>[.cel [.int .i64 0,.str ([])],.cel [.str x0,.int .i64 x4]]
noncomputable def f136_C2(x0:(List UInt8))(x1:Int)(x2:UInt8)(x3:UInt8):Il ((List UInt8)×Int) where
  run:=(slc? x0 (IntKind.i64.wrap ((IntKind.i64.wrap (x1 + (IntKind.i64.wrap ((BitVec.ofInt (IntKind.bits .i64) (IntKind.i64.wrap ((IntKind.i64.wrap (x2.toNat:Int)) * 2 ^ (min (Int.toNat 8) (IntKind.bits .i64)))) ||| BitVec.ofInt (IntKind.bits .i64) (IntKind.i64.wrap (x3.toNat:Int))).toNat:Int)))) - (IntKind.i64.wrap ((BitVec.ofInt (IntKind.bits .i64) (IntKind.i64.wrap ((IntKind.i64.wrap (x2.toNat:Int)) * 2 ^ (min (Int.toNat 8) (IntKind.bits .i64)))) ||| BitVec.ofInt (IntKind.bits .i64) (IntKind.i64.wrap (x3.toNat:Int))).toNat:Int)))) (IntKind.i64.wrap (x1 + (IntKind.i64.wrap ((BitVec.ofInt (IntKind.bits .i64) (IntKind.i64.wrap ((IntKind.i64.wrap (x2.toNat:Int)) * 2 ^ (min (Int.toNat 8) (IntKind.bits .i64)))) ||| BitVec.ofInt (IntKind.bits .i64) (IntKind.i64.wrap (x3.toNat:Int))).toNat:Int))))).bind fun x4=>(some (x4,(IntKind.i64.wrap (x1 + (IntKind.i64.wrap ((BitVec.ofInt (IntKind.bits .i64) (IntKind.i64.wrap ((IntKind.i64.wrap (x2.toNat:Int)) * 2 ^ (min (Int.toNat 8) (IntKind.bits .i64)))) ||| BitVec.ofInt (IntKind.bits .i64) (IntKind.i64.wrap (x3.toNat:Int))).toNat:Int))))))
  res:=fun (x5,x6)=>.str x5
  hp:=fun (x5,x6)=>[.cel [.int .i64 0,.str ([])],.cel [.str x0,.int .i64 x6]]
noncomputable def f136_C3(x0:(List UInt8))(x1:Int):Il ((List UInt8)×Int) where
  run:=(slc? x0 (IntKind.i64.wrap ((IntKind.i64.wrap (x1 + 2)) - 2)) (IntKind.i64.wrap (x1 + 2))).bind fun x2=>(some (x2,(IntKind.i64.wrap (x1 + 2))))
  res:=fun (x3,x4)=>.str x3
  hp:=fun (x3,x4)=>[.cel [.int .i64 0,.str ([])],.cel [.str x0,.int .i64 x4]]
noncomputable def f136_J4(x0:(List UInt8))(x1:Int):Jn (Int) (RecordEntry×Int×Int) where
  run:=fun x2=>(some ((RecordEntry.mk x2 x0),x1,0))
  cst:=fun x2=>⟨put (put (put (fun _=>.junk) 6 (.int .i64 0)) 5 (.int .i64 x1)) 4 (.ptr 0 0),[.cel [.int .i64 x2,.str x0]]⟩
theorem f136_J4c(x0:(List UInt8))(x1:Int)(x2:Int):(f136_J4 x0 x1).cst x2=⟨put (put (put (fun _=>.junk) 6 (.int .i64 0)) 5 (.int .i64 x1)) 4 (.ptr 0 0),[.cel [.int .i64 x2,.str x0]]⟩:=rfl
def c136_0:C:=.cond (.t 19) (.seq (.reg [iI 20 (.build [(1,(.int .i64 0)),(1,(.str []))] []),iI 21 (.mv (.t 8)),iN (.store 2 (.t 4) (.t 20)),iI 5 (.mv (.c (.int .i64 0))),iI 6 (.mv (.t 21))]) .ret) (.skip)
def c136_1:C:=.seq (.reg [iI 18 (.mv (.t 8)),iI 19 (.bin .neq (.t 18) (.c (.int .i64 0)))]) c136_0
def c136_2:C:=.cond (.t 24) (.seq (.reg [iI 25 (.build [(1,(.int .i64 0)),(1,(.str []))] []),iN (.store 2 (.t 4) (.t 25)),iI 5 (.mv (.c (.int .i64 0))),iI 6 (.mv (.c (.int .i64 20)))]) .ret) (.skip)
def c136_3:C:=.cond (.t 40) (.seq (.reg [iI 41 (.build [(1,(.int .i64 0)),(1,(.str []))] []),iN (.store 2 (.t 4) (.t 41)),iI 5 (.mv (.c (.int .i64 0))),iI 6 (.mv (.c (.int .i64 20)))]) .ret) (.skip)
def c136_4:C:=.cond (.t 52) (.seq (.reg [iI 53 (.build [(1,(.int .i64 0)),(1,(.str []))] []),iN (.store 2 (.t 4) (.t 53)),iI 5 (.mv (.c (.int .i64 0))),iI 6 (.mv (.c (.int .i64 17)))]) .ret) (.skip)
def c136_5:C:=.seq (.regt (.fork [iI 54 (.mv (.t 9)),iI 55 (.sidx (.t 54) (.c (.int .i64 0))),iI 56 (.cint .i64 (.t 55)),iI 57 (.mv (.t 11)),iI 58 (.build [(1,(.int .i64 0)),(1,(.str []))] [(0,0,(.t 56)),(1,0,(.t 57))]),iI 59 (.mv (.t 7)),iI 60 (.nilchk (.t 59)),iI 61 (.faddr 1 (.t 60))] (.run [iI 62 (.load 0 (.t 61)),iN (.store 2 (.t 4) (.t 58)),iI 5 (.mv (.t 62)),iI 6 (.mv (.c (.int .i64 0)))]) (.run [iN (.store 2 (.t 4) (.t 58)),iI 62 (.load 0 (.t 61)),iI 5 (.mv (.t 62)),iI 6 (.mv (.c (.int .i64 0)))]))) .ret
def c136_6:C:=.seq (.seq (.reg [iI 45 (.mv (.t 7)),iI 46 (.call (.c (.fn 163 [])) [(.t 45),(.c (.int .i64 2))]),iI 47 (.mv (.t 9)),iI 48 (.mv (.t 11)),iI 49 (.bin .add (.t 47) (.t 48)),iI 50 (.call (.c (.fn 160 [])) [(.t 49)]),iI 51 (.call (.c (.fn 159 [])) [(.t 50)]),iI 52 (.bin .neq (.t 46) (.t 51))]) c136_4) c136_5
def c136_7:C:=.seq (.reg [iI 42 (.mv (.t 7)),iI 43 (.mv (.t 10)),iI 44 (.call (.c (.fn 163 [])) [(.t 42),(.t 43)]),iI 11 (.mv (.t 44))]) c136_6
def c136_8:C:=.seq (.seq (.reg [iI 36 (.mv (.t 7)),iI 37 (.mv (.t 10)),iI 38 (.bin .add (.t 37) (.c (.int .i64 2))),iI 39 (.call (.c (.fn 162 [])) [(.t 36),(.t 38)]),iI 40 (.un .not (.t 39))]) c136_3) c136_7
def c136_9:C:=.seq (.reg [iI 28 (.mv (.t 9)),iI 29 (.sidx (.t 28) (.c (.int .i64 1))),iI 30 (.cint .i64 (.t 29)),iI 31 (.bin .shl (.t 30) (.c (.int .u64 8))),iI 32 (.mv (.t 9)),iI 33 (.sidx (.t 32) (.c (.int .i64 2))),iI 34 (.cint .i64 (.t 33)),iI 35 (.bin .or (.t 31) (.t 34)),iI 10 (.mv (.t 35))]) c136_8
def c136_10:C:=.seq (.reg [iI 26 (.mv (.t 7)),iI 27 (.call (.c (.fn 163 [])) [(.t 26),(.c (.int .i64 3))]),iI 9 (.mv (.t 27))]) c136_9
def c136_11:C:=.seq (.seq (.reg [iI 22 (.mv (.t 7)),iI 23 (.call (.c (.fn 162 [])) [(.t 22),(.c (.int .i64 5))]),iI 24 (.un .not (.t 23))]) c136_2) c136_10
def c136_12:C:=.seq (.seq (.reg [iI 16 (.mv (.t 7)),iI 17 (.call (.c (.fn 161 [])) [(.t 16)]),iI 8 (.mv (.t 17))]) c136_1) c136_11
def c136_13:C:=.seq (.reg [iI 12 (.mv (.t 0)),iI 13 (.mv (.t 1)),iI 14 (.build [(1,(.str [])),(1,(.int .i64 0))] [(0,0,(.t 12)),(1,0,(.t 13))]),iI 15 (.box (.t 14)),iI 7 (.mv (.t 15))]) c136_12
def ir136:C:=.seq (.reg [iI 4 (.alloc [(1,(.int .i64 0)),(1,(.str []))]),iI 5 (.mv (.c (.int .i64 0))),iI 6 (.mv (.c (.int .i64 0)))]) c136_13
theorem fd136:fd? Try.prog 136=some (63,[.cell 4 2,.slot 5,.slot 6],ir136):=by kernel_rfl
noncomputable def f136(x0:(List UInt8))(x1:Int):Option (RecordEntry×Int×Int) :=
  (f161p x0 x1).bind fun x2=>(if (decide (x2≠0))=true then (some ((RecordEntry.mk 0 ([])),0,x2)) else (f162p x0 x1 5).bind fun x3=>(if (!x3)=true then (some ((RecordEntry.mk 0 ([])),0,20)) else ((f136_C1 x0 x1).run.bind fun (x4,x5)=>(at? x4 1).bind fun x6=>(at? x4 2).bind fun x7=>(f162p x0 x5 (IntKind.i64.wrap ((IntKind.i64.wrap ((BitVec.ofInt (IntKind.bits .i64) (IntKind.i64.wrap ((IntKind.i64.wrap (x6.toNat:Int)) * 2 ^ (min (Int.toNat 8) (IntKind.bits .i64)))) ||| BitVec.ofInt (IntKind.bits .i64) (IntKind.i64.wrap (x7.toNat:Int))).toNat:Int)) + 2))).bind fun x8=>(if (!x8)=true then (some ((RecordEntry.mk 0 ([])),0,20)) else ((f136_C2 x0 x5 x6 x7).run.bind fun (x9,xa)=>((f136_C3 x0 xa).run.bind fun (xb,xc)=>(cat? x4 x9).bind fun xd=>(f160 xd).bind fun xe=>(f159 xe).bind fun xf=>(if (!(xb == xf))=true then (some ((RecordEntry.mk 0 ([])),0,17)) else (at? x4 0).bind fun xg=>((f136_J4 x9 xc).run (IntKind.i64.wrap (xg.toNat:Int))))))))))
theorem f136_ok{x0:(List UInt8)}{x1:Int}{r_:RecordEntry×Int×Int}(H:f136 x0 x1=some r_):Pure Try.prog 136 [.str x0,.int .i64 x1] (· = .tup [.agg [.int .i64 r_.1.fKind,.str r_.1.fData],.int .i64 r_.2.1,.int .i64 r_.2.2]):=by
 refine Pure.walk3 fd136 none (Nat.le_of_ble_eq_true rfl) (by rfl) fun Q hQ=>?_
 simp only[f136] at H
 refine AW.rseq ?_
 try simp only[↓wk,↓wl,nq,evV,↓reduceIte,sevalprocAttr]
 refine AW.rseq ?_
 try simp only[↓wk,↓wl,nq,evV,↓reduceIte,sevalprocAttr]
 refine AW.sseq ?_
 refine AW.rseq ?_
 try simp only[↓wk,↓wl,nq,evV,↓reduceIte,sevalprocAttr]
 refine evTs_flat hFn H (fun _ h=>f161p_ok h) (by rfl) (by rfl) (by simp only[deep_eq,imm_simps,imm_rowE,imm_ptrE,imm_enc,omap_simps,take_map_len,take_map_set,take_map_set2,List.length_set,le_refl_true,Nat.zero_add,and_true,true_and,List.drop_zero,Option.map_some,↓wk,↓wl,nq,evV,↓reduceIte,sevalprocAttr];rfl) (by rfl) (fun _=>rfl) (fun _=>rfl) ?_<;>clear H<;>intro x2 H
 try simp only[eL,↓wk,↓wl,nq,evV,↓reduceIte,sevalprocAttr]
 refine AW.rseq ?_
 try simp only[↓wk,↓wl,nq,evV,↓reduceIte,sevalprocAttr]
 refine AW.ifc H (by rfl) ?_ ?_<;>clear H<;>intro H
 ·refine AW.rseq ?_
  try simp only[↓wk,↓wl,nq,evV,↓reduceIte,sevalprocAttr]
  refine AW.ret ?_
  refine seqQ.ret ?_
  cases H
  exact hQ.fin
 ·refine AW.skip ?_
  refine seqQ.norm ?_
  refine AW.sseq ?_
  refine AW.rseq ?_
  try simp only[↓wk,↓wl,nq,evV,↓reduceIte,sevalprocAttr]
  refine evTs_flat hFn H (fun _ h=>f162p_ok h) (by rfl) (by rfl) (by simp only[deep_eq,imm_simps,imm_rowE,imm_ptrE,imm_enc,omap_simps,take_map_len,take_map_set,take_map_set2,List.length_set,le_refl_true,Nat.zero_add,and_true,true_and,List.drop_zero,Option.map_some,↓wk,↓wl,nq,evV,↓reduceIte,sevalprocAttr];rfl) (by rfl) (fun _=>rfl) (fun _=>rfl) ?_<;>clear H<;>intro x3 H
  try simp only[eL,↓wk,↓wl,nq,evV,↓reduceIte,sevalprocAttr]
  refine AW.ifc H (by rfl) ?_ ?_<;>clear H<;>intro H
  ·refine AW.rseq ?_
   try simp only[↓wk,↓wl,nq,evV,↓reduceIte,sevalprocAttr]
   refine AW.ret ?_
   refine seqQ.ret ?_
   cases H
   exact hQ.fin
  ·refine AW.skip ?_
   refine seqQ.norm ?_
   refine AW.rseq ?_
   try simp only[↓wk,↓wl,nq,evV,↓reduceIte,sevalprocAttr]
   refine evTs_inl (I:=f136_C1 x0 x1) (args:=[.ptr 1 0,.int .i64 3]) H (by rfl) fd163 (by rfl) (Nat.le_of_ble_eq_true rfl) ?_ ?_<;>clear H
   ·rintro v_ Q_ H hqf136_C1
    simp only[f136_C1] at H
    dsimp only[List.length_cons,List.length_nil]
    refine AW.rseq ?_
    try simp only[↓wk,↓wl,nq,evV,↓reduceIte,sevalprocAttr]
    refine AW.rseq ?_
    try simp only[↓wk,↓wl,nq,evV,↓reduceIte,sevalprocAttr]
    refine AW.rseq ?_
    try simp only[↓wk,↓wl,nq,evV,↓reduceIte,sevalprocAttr]
    refine evTs_sslc H (by rfl) (by simp only[loI,hiI,↓wk,↓wl,nq,evV,↓reduceIte,sevalprocAttr];rfl) (by simp only[loI,hiI,↓wk,↓wl,nq,evV,↓reduceIte,sevalprocAttr];rfl) ?_<;>clear H<;>intro x4 H
    try simp only[↓wk,↓wl,nq,evV,↓reduceIte,sevalprocAttr]
    refine AW.ret ?_
    cases H
    exact hqf136_C1 _ _ _ (.inr rfl) (Le.tq 2 [0,1] [4] rfl) (by simp only[resVs,omap,resV,f136_C1,rrm,↓wk,↓wl,evV,↓reduceIte,sevalprocAttr]) (by simp only[f136_C1,rrm,↓wk,↓wl,evV,↓reduceIte,sevalprocAttr])
   ·rintro ⟨x5,x6⟩ s_ h_ H hs_ hh_
    simp only[f136_C1] at H hs_ hh_
    subst hs_
    subst hh_
    try simp only[↓wk,↓wl,nq,evV,↓reduceIte,sevalprocAttr]
    refine AW.rseq ?_
    try simp only[↓wk,↓wl,nq,evV,↓reduceIte,sevalprocAttr]
    refine evTs_sat H (by rfl) (by rfl) ?_<;>clear H<;>intro x7 H
    try simp only[↓wk,↓wl,nq,evV,↓reduceIte,sevalprocAttr]
    refine rest_shl (by decide) ?_
    try simp only[↓wk,↓wl,nq,evV,↓reduceIte,sevalprocAttr]
    refine evTs_sat H (by rfl) (by rfl) ?_<;>clear H<;>intro x8 H
    try simp only[↓wk,↓wl,nq,evV,↓reduceIte,sevalprocAttr]
    refine rest_or ?_
    try simp only[↓wk,↓wl,nq,evV,↓reduceIte,sevalprocAttr]
    refine AW.sseq ?_
    refine AW.rseq ?_
    try simp only[↓wk,↓wl,nq,evV,↓reduceIte,sevalprocAttr]
    refine evTs_flat hFn H (fun _ h=>f162p_ok h) (by rfl) (by rfl) (by simp only[deep_eq,imm_simps,imm_rowE,imm_ptrE,imm_enc,omap_simps,take_map_len,take_map_set,take_map_set2,List.length_set,le_refl_true,Nat.zero_add,and_true,true_and,List.drop_zero,Option.map_some,↓wk,↓wl,nq,evV,↓reduceIte,sevalprocAttr];rfl) (by rfl) (fun _=>rfl) (fun _=>rfl) ?_<;>clear H<;>intro x9 H
    try simp only[eL,↓wk,↓wl,nq,evV,↓reduceIte,sevalprocAttr]
    refine AW.ifc H (by rfl) ?_ ?_<;>clear H<;>intro H
    ·refine AW.rseq ?_
     try simp only[↓wk,↓wl,nq,evV,↓reduceIte,sevalprocAttr]
     refine AW.ret ?_
     refine seqQ.ret ?_
     cases H
     exact hQ.fin
    ·refine AW.skip ?_
     refine seqQ.norm ?_
     refine AW.rseq ?_
     try simp only[↓wk,↓wl,nq,evV,↓reduceIte,sevalprocAttr]
     refine evTs_inl (I:=f136_C2 x0 x6 x7 x8) (args:=[.ptr 1 0,.int .i64 (IntKind.i64.wrap ((BitVec.ofInt (IntKind.bits .i64) (IntKind.i64.wrap ((IntKind.i64.wrap (x7.toNat:Int)) * 2 ^ (min (Int.toNat 8) (IntKind.bits .i64)))) ||| BitVec.ofInt (IntKind.bits .i64) (IntKind.i64.wrap (x8.toNat:Int))).toNat:Int))]) H (by rfl) fd163 (by rfl) (Nat.le_of_ble_eq_true rfl) ?_ ?_<;>clear H
     ·rintro v_ Q_ H hqf136_C2
      simp only[f136_C2] at H
      dsimp only[List.length_cons,List.length_nil]
      refine AW.rseq ?_
      try simp only[↓wk,↓wl,nq,evV,↓reduceIte,sevalprocAttr]
      refine AW.rseq ?_
      try simp only[↓wk,↓wl,nq,evV,↓reduceIte,sevalprocAttr]
      refine AW.rseq ?_
      try simp only[↓wk,↓wl,nq,evV,↓reduceIte,sevalprocAttr]
      refine evTs_sslc H (by rfl) (by simp only[loI,hiI,↓wk,↓wl,nq,evV,↓reduceIte,sevalprocAttr];rfl) (by simp only[loI,hiI,↓wk,↓wl,nq,evV,↓reduceIte,sevalprocAttr];rfl) ?_<;>clear H<;>intro xa H
      try simp only[↓wk,↓wl,nq,evV,↓reduceIte,sevalprocAttr]
      refine AW.ret ?_
      cases H
      exact hqf136_C2 _ _ _ (.inr rfl) (Le.tq 2 [0,1] [4] rfl) (by simp only[resVs,omap,resV,f136_C2,rrm,↓wk,↓wl,evV,↓reduceIte,sevalprocAttr]) (by simp only[f136_C2,rrm,↓wk,↓wl,evV,↓reduceIte,sevalprocAttr])
     ·rintro ⟨xb,xc⟩ s_ h_ H hs_ hh_
      simp only[f136_C2] at H hs_ hh_
      subst hs_
      subst hh_
      try simp only[↓wk,↓wl,nq,evV,↓reduceIte,sevalprocAttr]
      refine AW.sseq ?_
      refine AW.rseq ?_
      try simp only[↓wk,↓wl,nq,evV,↓reduceIte,sevalprocAttr]
      refine evTs_inl (I:=f136_C3 x0 xc) (args:=[.ptr 1 0,.int .i64 2]) H (by rfl) fd163 (by rfl) (Nat.le_of_ble_eq_true rfl) ?_ ?_<;>clear H
      ·rintro v_ Q_ H hqf136_C3
       simp only[f136_C3] at H
       dsimp only[List.length_cons,List.length_nil]
       refine AW.rseq ?_
       try simp only[↓wk,↓wl,nq,evV,↓reduceIte,sevalprocAttr]
       refine AW.rseq ?_
       try simp only[↓wk,↓wl,nq,evV,↓reduceIte,sevalprocAttr]
       refine AW.rseq ?_
       try simp only[↓wk,↓wl,nq,evV,↓reduceIte,sevalprocAttr]
       refine evTs_sslc H (by rfl) (by simp only[loI,hiI,↓wk,↓wl,nq,evV,↓reduceIte,sevalprocAttr];rfl) (by simp only[loI,hiI,↓wk,↓wl,nq,evV,↓reduceIte,sevalprocAttr];rfl) ?_<;>clear H<;>intro xd H
       try simp only[↓wk,↓wl,nq,evV,↓reduceIte,sevalprocAttr]
       refine AW.ret ?_
       cases H
       exact hqf136_C3 _ _ _ (.inr rfl) (Le.tq 2 [0,1] [4] rfl) (by simp only[resVs,omap,resV,f136_C3,rrm,↓wk,↓wl,evV,↓reduceIte,sevalprocAttr]) (by simp only[f136_C3,rrm,↓wk,↓wl,evV,↓reduceIte,sevalprocAttr])
      ·rintro ⟨xe,xf⟩ s_ h_ H hs_ hh_
       simp only[f136_C3] at H hs_ hh_
       subst hs_
       subst hh_
       try simp only[↓wk,↓wl,nq,evV,↓reduceIte,sevalprocAttr]
       refine rest_cat H ?_<;>clear H<;>intro xg H
       try simp only[↓wk,↓wl,nq,evV,↓reduceIte,sevalprocAttr]
       refine evTs_pure hFn H (fun _ h=>f160_ok h) (by rfl) (by rfl) (by rfl) (by rfl) (fun _=>rfl) ?_<;>clear H<;>intro xh H
       try simp only[eL,↓wk,↓wl,nq,evV,↓reduceIte,sevalprocAttr]
       refine evTs_pure hFn H (fun _ h=>f159_ok h) (by rfl) (by rfl) (by rfl) (by rfl) (fun _=>rfl) ?_<;>clear H<;>intro xi H
       try simp only[eL,↓wk,↓wl,nq,evV,↓reduceIte,sevalprocAttr]
       refine AW.ifc H (by rfl) ?_ ?_<;>clear H<;>intro H
       ·refine AW.rseq ?_
        try simp only[↓wk,↓wl,nq,evV,↓reduceIte,sevalprocAttr]
        refine AW.ret ?_
        refine seqQ.ret ?_
        cases H
        exact hQ.fin
       ·refine AW.skip ?_
        refine seqQ.norm ?_
        refine AW.join (f136_J4 xb xf) H ?_ fun hf136_J4=>?_
        ·clear H
         rintro xj st0_ H hst_
         rw[f136_J4c] at hst_
         simp only[f136_J4] at H
         subst hst_
         refine AW.ret ?_
         cases H
         exact hQ.fin
        ·refine AW.regt ?_
         refine evR.fork ?_
         try simp only[↓wk,↓wl,nq,evV,↓reduceIte,sevalprocAttr]
         refine evTs_sat H (by rfl) (by rfl) ?_<;>clear H<;>intro xk H
         try simp only[↓wk,↓wl,nq,evV,↓reduceIte,sevalprocAttr]
         refine evR.both ?_ ?_
         ·refine evR.run ?_
          try simp only[↓wk,↓wl,nq,evV,↓reduceIte,sevalprocAttr]
          refine seqQ.norm ?_
          exact hf136_J4 _ _ H ((Le.tz [0] [4,5,6] (by simp only[f136_J4c,rrm,↓wk,↓wl,evV,↓reduceIte,sevalprocAttr]<;>rfl)))
         ·refine evR.run ?_
          try simp only[↓wk,↓wl,nq,evV,↓reduceIte,sevalprocAttr]
          refine seqQ.norm ?_
          exact hf136_J4 _ _ H ((Le.tz [0] [4,5,6] (by simp only[f136_J4c,rrm,↓wk,↓wl,evV,↓reduceIte,sevalprocAttr]<;>rfl)))
def c164_0:C:=.cond (.t 11) (.seq (.reg [iI 2 (.mv (.c (.int .i64 0))),iI 3 (.mv (.c (.int .i64 20)))]) .ret) (.skip)
def c164_1:C:=.cond (.t 22) (.skip) (.reg [iI 29 (.mv (.t 6)),iI 30 (.bin .eql (.t 29) (.c (.int .u8 0))),iI 31 (.mv (.t 30)),iG (some 32) 31 true (.mv (.t 5)),iG (some 33) 31 true (.bin .gtr (.t 32) (.c (.int .i64 0))),iI 34 (.pick (.t 31) (.t 33) (.c (.bool false))),iI 22 (.mv (.t 34))])
def c164_2:C:=.cond (.t 35) (.exit 0) (.skip)
def c164_3:C:=.cond (.t 22) (.seq (.reg [iI 2 (.mv (.c (.int .i64 0))),iI 3 (.mv (.c (.int .i64 3)))]) .ret) (.seq (.reg [iI 36 (.mv (.t 6)),iI 37 (.bin .lss (.t 36) (.c (.int .u8 128))),iI 35 (.mv (.t 37))]) c164_2)
def c164_4:C:=.block 2 (.seq (.seq (.reg [iI 23 (.mv (.t 5)),iI 24 (.bin .eql (.t 23) (.c (.int .i64 63))),iI 25 (.mv (.t 24)),iG (some 26) 25 true (.mv (.t 6)),iG (some 27) 25 true (.bin .gtr (.t 26) (.c (.int .u8 1))),iI 28 (.pick (.t 25) (.t 27) (.c (.bool false))),iI 22 (.mv (.t 28))]) c164_1) c164_3)
def c164_5:C:=.seq (.reg [iI 15 (.mv (.t 4)),iI 16 (.mv (.t 6)),iI 17 (.bin .and (.t 16) (.c (.int .u8 127))),iI 18 (.cint .u64 (.t 17)),iI 19 (.mv (.t 5)),iI 20 (.bin .shl (.t 18) (.t 19)),iI 21 (.bin .or (.t 15) (.t 20)),iI 4 (.mv (.t 21))]) c164_4
def c164_6:C:=.seq (.reg [iI 12 (.mv (.t 0)),iI 13 (.call (.c (.fn 163 [])) [(.t 12),(.c (.int .i64 1))]),iI 14 (.sidx (.t 13) (.c (.int .i64 0))),iI 6 (.mv (.t 14))]) c164_5
def c164_7:C:=.reg [iI 7 (.mv (.t 5)),iI 8 (.bin .add (.t 7) (.c (.int .i64 7))),iI 5 (.mv (.t 8))]
def c164_8:C:=.block 0 (.loop (.seq (.block 1 (.seq (.seq (.reg [iI 9 (.mv (.t 0)),iI 10 (.call (.c (.fn 162 [])) [(.t 9),(.c (.int .i64 1))]),iI 11 (.un .not (.t 10))]) c164_0) c164_6)) c164_7))
def c164_9:C:=.seq (.reg [iI 38 (.mv (.t 4)),iI 39 (.bin .shr (.t 38) (.c (.int .u64 1))),iI 40 (.cint .i64 (.t 39)),iI 41 (.mv (.t 4)),iI 42 (.bin .and (.t 41) (.c (.int .u64 1))),iI 43 (.cint .i64 (.t 42)),iI 44 (.un .neg (.t 43)),iI 45 (.bin .xor (.t 40) (.t 44)),iI 2 (.mv (.t 45)),iI 3 (.mv (.c (.int .i64 0)))]) .ret
def c164_10:C:=.seq (.seq (.reg [iI 5 (.mv (.c (.int .i64 0)))]) c164_8) c164_9
def c164_11:C:=.seq (.skip) c164_10
def c164_12:C:=.scope (.seq (.reg [iI 4 (.mv (.c (.int .u64 0)))]) c164_11)
def ir164:C:=.seq (.reg [iI 2 (.mv (.c (.int .i64 0))),iI 3 (.mv (.c (.int .i64 0)))]) c164_12
theorem fd164:fd? Try.prog 164=some (46,[.slot 2,.slot 3],ir164):=by kernel_rfl
noncomputable def f137_C3(x0:(List UInt8))(x1:Int):Il ((List UInt8)×Int) where
  run:=(slc? x0 (IntKind.i64.wrap ((IntKind.i64.wrap (x1 + 1)) - 1)) (IntKind.i64.wrap (x1 + 1))).bind fun x2=>(some (x2,(IntKind.i64.wrap (x1 + 1))))
  res:=fun (x3,x4)=>.str x3
  hp:=fun (x3,x4)=>[.cel [.str x0,.int .i64 x4]]
noncomputable def f137_L2(x0:(List UInt8)):Lp (Int×Int×Int) ((Int×Int)⊕(Int×Int)) where
  body:=fun (x1,x2,x3)=>(f162p x0 x3 1).bind fun x4=>(if (!x4)=true then (some (.brk (Sum.inr (x3,20)))) else ((f137_C3 x0 x3).run.bind fun (x5,x6)=>(at? x5 0).bind fun x7=>(must? (0≤x2)).bind fun _=>(if (decide (x2=63))=true then (if (decide (1<(x7.toNat:Int)))=true then (if (decide (1<(x7.toNat:Int)))=true then (some (.brk (Sum.inr (x6,3)))) else (if (decide ((x7.toNat:Int)<128))=true then (some (.brk (Sum.inl ((IntKind.u64.wrap ((BitVec.ofInt (IntKind.bits .u64) x1 ||| BitVec.ofInt (IntKind.bits .u64) (IntKind.u64.wrap ((IntKind.u64.wrap (IntKind.u8.wrap ((BitVec.ofInt (IntKind.bits .u8) (x7.toNat:Int) &&& BitVec.ofInt (IntKind.bits .u8) 127).toNat:Int))) * 2 ^ (min (Int.toNat x2) (IntKind.bits .u64))))).toNat:Int)),x6)))) else (some (.next ((IntKind.u64.wrap ((BitVec.ofInt (IntKind.bits .u64) x1 ||| BitVec.ofInt (IntKind.bits .u64) (IntKind.u64.wrap ((IntKind.u64.wrap (IntKind.u8.wrap ((BitVec.ofInt (IntKind.bits .u8) (x7.toNat:Int) &&& BitVec.ofInt (IntKind.bits .u8) 127).toNat:Int))) * 2 ^ (min (Int.toNat x2) (IntKind.bits .u64))))).toNat:Int)),(IntKind.i64.wrap (x2 + 7)),x6))))) else (if (decide ((x7.toNat:Int)=0))=true then (if (decide (0<x2))=true then (some (.brk (Sum.inr (x6,3)))) else (if (decide ((x7.toNat:Int)<128))=true then (some (.brk (Sum.inl ((IntKind.u64.wrap ((BitVec.ofInt (IntKind.bits .u64) x1 ||| BitVec.ofInt (IntKind.bits .u64) (IntKind.u64.wrap ((IntKind.u64.wrap (IntKind.u8.wrap ((BitVec.ofInt (IntKind.bits .u8) (x7.toNat:Int) &&& BitVec.ofInt (IntKind.bits .u8) 127).toNat:Int))) * 2 ^ (min (Int.toNat x2) (IntKind.bits .u64))))).toNat:Int)),x6)))) else (some (.next ((IntKind.u64.wrap ((BitVec.ofInt (IntKind.bits .u64) x1 ||| BitVec.ofInt (IntKind.bits .u64) (IntKind.u64.wrap ((IntKind.u64.wrap (IntKind.u8.wrap ((BitVec.ofInt (IntKind.bits .u8) (x7.toNat:Int) &&& BitVec.ofInt (IntKind.bits .u8) 127).toNat:Int))) * 2 ^ (min (Int.toNat x2) (IntKind.bits .u64))))).toNat:Int)),(IntKind.i64.wrap (x2 + 7)),x6))))) else (if (decide ((x7.toNat:Int)<128))=true then (some (.brk (Sum.inl ((IntKind.u64.wrap ((BitVec.ofInt (IntKind.bits .u64) x1 ||| BitVec.ofInt (IntKind.bits .u64) (IntKind.u64.wrap ((IntKind.u64.wrap (IntKind.u8.wrap ((BitVec.ofInt (IntKind.bits .u8) (x7.toNat:Int) &&& BitVec.ofInt (IntKind.bits .u8) 127).toNat:Int))) * 2 ^ (min (Int.toNat x2) (IntKind.bits .u64))))).toNat:Int)),x6)))) else (some (.next ((IntKind.u64.wrap ((BitVec.ofInt (IntKind.bits .u64) x1 ||| BitVec.ofInt (IntKind.bits .u64) (IntKind.u64.wrap ((IntKind.u64.wrap (IntKind.u8.wrap ((BitVec.ofInt (IntKind.bits .u8) (x7.toNat:Int) &&& BitVec.ofInt (IntKind.bits .u8) 127).toNat:Int))) * 2 ^ (min (Int.toNat x2) (IntKind.bits .u64))))).toNat:Int)),(IntKind.i64.wrap (x2 + 7)),x6)))))) else (if (decide ((x7.toNat:Int)=0))=true then (if (decide (0<x2))=true then (some (.brk (Sum.inr (x6,3)))) else (if (decide ((x7.toNat:Int)<128))=true then (some (.brk (Sum.inl ((IntKind.u64.wrap ((BitVec.ofInt (IntKind.bits .u64) x1 ||| BitVec.ofInt (IntKind.bits .u64) (IntKind.u64.wrap ((IntKind.u64.wrap (IntKind.u8.wrap ((BitVec.ofInt (IntKind.bits .u8) (x7.toNat:Int) &&& BitVec.ofInt (IntKind.bits .u8) 127).toNat:Int))) * 2 ^ (min (Int.toNat x2) (IntKind.bits .u64))))).toNat:Int)),x6)))) else (some (.next ((IntKind.u64.wrap ((BitVec.ofInt (IntKind.bits .u64) x1 ||| BitVec.ofInt (IntKind.bits .u64) (IntKind.u64.wrap ((IntKind.u64.wrap (IntKind.u8.wrap ((BitVec.ofInt (IntKind.bits .u8) (x7.toNat:Int) &&& BitVec.ofInt (IntKind.bits .u8) 127).toNat:Int))) * 2 ^ (min (Int.toNat x2) (IntKind.bits .u64))))).toNat:Int)),(IntKind.i64.wrap (x2 + 7)),x6))))) else (if (decide ((x7.toNat:Int)<128))=true then (some (.brk (Sum.inl ((IntKind.u64.wrap ((BitVec.ofInt (IntKind.bits .u64) x1 ||| BitVec.ofInt (IntKind.bits .u64) (IntKind.u64.wrap ((IntKind.u64.wrap (IntKind.u8.wrap ((BitVec.ofInt (IntKind.bits .u8) (x7.toNat:Int) &&& BitVec.ofInt (IntKind.bits .u8) 127).toNat:Int))) * 2 ^ (min (Int.toNat x2) (IntKind.bits .u64))))).toNat:Int)),x6)))) else (some (.next ((IntKind.u64.wrap ((BitVec.ofInt (IntKind.bits .u64) x1 ||| BitVec.ofInt (IntKind.bits .u64) (IntKind.u64.wrap ((IntKind.u64.wrap (IntKind.u8.wrap ((BitVec.ofInt (IntKind.bits .u8) (x7.toNat:Int) &&& BitVec.ofInt (IntKind.bits .u8) 127).toNat:Int))) * 2 ^ (min (Int.toNat x2) (IntKind.bits .u64))))).toNat:Int)),(IntKind.i64.wrap (x2 + 7)),x6))))))))
  cst:=fun (x1,x2,x3)=>⟨put (put (put (fun _=>.junk) 5 (.int .i64 x2)) 4 (.int .u64 x1)) 0 (.ptr 0 0),[.cel [.str x0,.int .i64 x3]]⟩
theorem f137_L2c(x0:(List UInt8))(x1:Int)(x2:Int)(x3:Int):(f137_L2 x0).cst (x1,x2,x3)=⟨put (put (put (fun _=>.junk) 5 (.int .i64 x2)) 4 (.int .u64 x1)) 0 (.ptr 0 0),[.cel [.str x0,.int .i64 x3]]⟩:=rfl
noncomputable def f137_C1(x0:(List UInt8))(x1:Int):Il (Int×Int×Int) where
  run:=((Lp.run (f137_L2 x0) (0,0,x1)).bind fun r_=>match r_ with | (Sum.inl (x2,x3))=>(some ((IntKind.i64.wrap ((BitVec.ofInt (IntKind.bits .i64) (IntKind.i64.wrap (Int.fdiv x2 (2 ^ (min (Int.toNat 1) (IntKind.bits .u64))))) ^^^ BitVec.ofInt (IntKind.bits .i64) (IntKind.i64.wrap (0 - (IntKind.i64.wrap (IntKind.u64.wrap ((BitVec.ofInt (IntKind.bits .u64) x2 &&& BitVec.ofInt (IntKind.bits .u64) 1).toNat:Int)))))).toNat:Int)),0,x3)) | (Sum.inr (x4,x5))=>(some (0,x5,x4)))
  res:=fun (x6,x7,x8)=>.tup [.int .i64 x6,.int .i64 x7]
  hp:=fun (x6,x7,x8)=>[.cel [.str x0,.int .i64 x8]]
end Go.Proofs.Ytgfohogbechkkaa
