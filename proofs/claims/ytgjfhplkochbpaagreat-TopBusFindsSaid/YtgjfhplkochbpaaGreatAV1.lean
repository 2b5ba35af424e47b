import Derived.Test.YtgjfhplkochbpaaGreatAQ1
import Derived.Test.YtgjfhplkochbpaaGreatAM6
import Derived.Test.YtgjfhplkochbpaaGreatAMB
import Derived.Test.YtgjfhplkochbpaaGreatASF
import Derived.Test.YtgjfhplkochbpaaGreatProg
import Derived.KernelRfl
namespace Go.Proofs.YtgjfhplkochbpaaGreat
open Go Go.Ab
set_option maxHeartbeats 1000000
set_option maxRecDepth 4000
set_option linter.unusedSimpArgs false
set_option linter.unusedVariables false
noncomputable def f8_L7(x0:Int)(x1:(List Int)):Lp (Int×(List Int)) ((List Int)) where
  body:=fun (x2,x3)=>(if (decide (0<x2))=true then (at? x3 x2).bind fun x4=>(at? x3 (IntKind.i64.wrap (x2 - 1))).bind fun x5=>(f61 x4 x5).bind fun x6=>(if x6=true then (at? x3 (IntKind.i64.wrap (x2 - 1))).bind fun x7=>(at? x3 x2).bind fun x8=>(at? x3 x2).bind fun x9=>(at? (x3.set x2.toNat x7) (IntKind.i64.wrap (x2 - 1))).bind fun xa=>(some (.next ((IntKind.i64.wrap (x2 - 1)),((x3.set x2.toNat x7).set (IntKind.i64.wrap (x2 - 1)).toNat x8)))) else (some (.brk x3))) else (some (.brk x3)))
  cst:=fun (x2,x3)=>⟨put (put (put (put (put (fun _=>.junk) 7 (.int .i64 x2)) 6 (.int .i64 x0)) 2 (.int .i64 ((x1.length:Nat):Int))) 1 (.int .i64 0)) 0 (.row 0 0 0 x3.length),[.els 0 (x3.map (AV.int .u64))]⟩
theorem f8_L7c(x0:Int)(x1:(List Int))(x2:Int)(x3:(List Int)):(f8_L7 x0 x1).cst (x2,x3)=⟨put (put (put (put (put (fun _=>.junk) 7 (.int .i64 x2)) 6 (.int .i64 x0)) 2 (.int .i64 ((x1.length:Nat):Int))) 1 (.int .i64 0)) 0 (.row 0 0 0 x3.length),[.els 0 (x3.map (AV.int .u64))]⟩:=rfl
noncomputable def f8_L6(x0:(List Int)):Lp (Int×(List Int)) ((List Int)) where
  body:=fun (x1,x2)=>(if (decide (x1<((x0.length:Nat):Int)))=true then (Lp.run (f8_L7 x1 x0) (x1,x2)).bind fun x3=>(some (.next ((IntKind.i64.wrap (x1 + 1)),x3))) else (some (.brk x2)))
  cst:=fun (x1,x2)=>⟨put (put (put (put (fun _=>.junk) 6 (.int .i64 x1)) 2 (.int .i64 ((x0.length:Nat):Int))) 1 (.int .i64 0)) 0 (.row 0 0 0 x2.length),[.els 0 (x2.map (AV.int .u64))]⟩
theorem f8_L6c(x0:(List Int))(x1:Int)(x2:(List Int)):(f8_L6 x0).cst (x1,x2)=⟨put (put (put (put (fun _=>.junk) 6 (.int .i64 x1)) 2 (.int .i64 ((x0.length:Nat):Int))) 1 (.int .i64 0)) 0 (.row 0 0 0 x2.length),[.els 0 (x2.map (AV.int .u64))]⟩:=rfl
noncomputable def f8_C5(x0:(List Int)):Il ((List Int)) where
  run:=(Lp.run (f8_L6 x0) ((IntKind.i64.wrap (0 + 1)),x0)).bind fun x1=>(some x1)
  res:=fun x2=>.tup []
  hp:=fun x2=>[.els 0 (x2.map (AV.int .u64))]
noncomputable def f8_L4(x0:(List Int))(x1:Int):Lp (Unit) ((List Int)) where
  body:=fun _=>(if (decide ((IntKind.i64.wrap (((x0.length:Nat):Int) - 0))≤12))=true then ((f8_C5 x0).run.bind fun x2=>(must? (x2.length=x0.length)).bind fun _=>(some (.brk x2))) else (if (decide (x1=0))=true then none else none))
  cst:=fun _=>⟨put (put (put (put (put (put (fun _=>.junk) 9 (.bool true)) 8 (.bool true)) 3 (.int .i64 x1)) 2 (.int .i64 ((x0.length:Nat):Int))) 1 (.int .i64 0)) 0 (.row 0 0 0 x0.length),[.els 0 (x0.map (AV.int .u64))]⟩
theorem f8_L4c(x0:(List Int))(x1:Int)(x_:Unit):(f8_L4 x0 x1).cst x_=⟨put (put (put (put (put (put (fun _=>.junk) 9 (.bool true)) 8 (.bool true)) 3 (.int .i64 x1)) 2 (.int .i64 ((x0.length:Nat):Int))) 1 (.int .i64 0)) 0 (.row 0 0 0 x0.length),[.els 0 (x0.map (AV.int .u64))]⟩:=rfl
noncomputable def f8_C3(x0:(List Int))(x1:Int):Il ((List Int)) where
  run:=(Lp.run (f8_L4 x0 x1) ()).bind fun x2=>(some x2)
  res:=fun x3=>.tup []
  hp:=fun x3=>[.els 0 (x3.map (AV.int .u64))]
noncomputable def f8_C2(x0:(List Int)):Il ((List Int)) where
  run:=(f38 (IntKind.u64.wrap ((x0.length:Nat):Int))).bind fun x1=>((f8_C3 x0 x1).run.bind fun x2=>(must? (x2.length=x0.length)).bind fun _=>(some x2))
  res:=fun x3=>.tup []
  hp:=fun x3=>[.els 0 (x3.map (AV.int .u64))]
noncomputable def f8_L1(x0:(List ResponderDevice)):Lp (Int×(List Int)) ((List Int)) where
  body:=fun (x1,x2)=>(if (decide (x1<((x0.length:Nat):Int)))=true then (at? x0 x1).bind fun x3=>(app? 8 x2 ([x3.fIdentity])).bind fun x4=>(some (.next ((IntKind.i64.wrap (x1 + 1)),x4))) else (some (.brk x2)))
  cst:=fun (x1,x2)=>⟨put (put (put (put (fun _=>.junk) 8 (.int .i64 x1)) 7 (.int .i64 ((x0.length:Nat):Int))) 6 (.sl 7 false (x0.map eResponderDevice))) 3 (.row 0 0 0 x2.length),[.els 0 (x2.map (AV.int .u64))]⟩
theorem f8_L1c(x0:(List ResponderDevice))(x1:Int)(x2:(List Int)):(f8_L1 x0).cst (x1,x2)=⟨put (put (put (put (fun _=>.junk) 8 (.int .i64 x1)) 7 (.int .i64 ((x0.length:Nat):Int))) 6 (.sl 7 false (x0.map eResponderDevice))) 3 (.row 0 0 0 x2.length),[.els 0 (x2.map (AV.int .u64))]⟩:=rfl
def c8_0:C:=.reg [iI 12 (.mv (.t 3)),iI 13 (.faddr 0 (.t 5)),iI 14 (.load 0 (.t 13)),iI 15 (.mkslp 0 1 (.int .u64 0) [(0,(.t 14))]),iI 16 (.append 0 8 (.t 12) (.t 15)),iI 3 (.mv (.t 16))]
def c8_1:C:=.reg [iI 17 (.bin .add (.t 8) (.c (.int .i64 1))),iI 8 (.mv (.t 17))]
def c8_2:C:=.seq (.block 1 (.seq (.reg [iI 10 (.iaddr 7 (.t 6) (.t 8)),iI 11 (.load 7 (.t 10)),iI 5 (.alloc [(1,(.int .u64 0)),(1,(.int .i64 0)),(1,(.int .i64 0)),(1,(.str [])),(1,(.int .i64 0)),(1,(.bool false)),(1,(.bool false))]),iN (.store 7 (.t 5) (.t 11))]) c8_0)) c8_1
def c8_3:C:=.seq (.cond (.t 9) (.skip) (.exit 0)) c8_2
def c8_4:C:=.block 0 (.loop (.seq (.reg [iI 9 (.bin .lss (.t 8) (.t 7))]) c8_3))
def c8_5:C:=.seq (.reg [iI 20 (.mv (.t 3)),iI 2 (.mv (.t 20))]) .ret
def c8_6:C:=.seq (.reg [iI 18 (.mv (.t 3)),iI 19 (.call (.c (.fn 19 [])) [(.t 18)])]) c8_5
def c8_7:C:=.seq (.seq (.reg [iI 6 (.mv (.t 0)),iI 7 (.len 0 (.t 6)),iI 8 (.mv (.c (.int .i64 0)))]) c8_4) c8_6
def c8_8:C:=.seq (.reg [iI 3 (.mv (.c (.sl 0 true [])))]) c8_7
def ir8:C:=.seq (.reg [iI 2 (.mv (.c (.sl 0 true [])))]) c8_8
theorem fd8:fd? Tryz.prog 8=some (21,[.slot 2],ir8):=by kernel_rfl
noncomputable def f8(x0:(List ResponderDevice)):Option ((List Int)) :=
  (Lp.run (f8_L1 x0) (0,[])).bind fun x1=>((f8_C2 x1).run.bind fun x2=>(must? (x2.length=x1.length)).bind fun _=>(some x2))
theorem f8_ok{x0:(List ResponderDevice)}{r_:(List Int)}(H:f8 x0=some r_):Pure Tryz.prog 8 [.sl 7 false (x0.map eResponderDevice)] (· = .fr 0 (r_.map (AV.int .u64))):=by
 refine Pure.walk3 fd8 (some 0) (Nat.le_of_ble_eq_true rfl) (by rfl) fun Q hQ=>?_
 simp only[f8] at H
 refine AW.rseq ?_
 try simp only[wm,wmd,↓wk,↓wl,nqs,evV,↓reduceIte,sevalprocAttr]
 refine AW.rseq ?_
 try simp only[wm,wmd,↓wk,↓wl,nqs,evV,↓reduceIte,sevalprocAttr]
 refine AW.sseq ?_
 refine AW.rseq ?_
 try simp only[wm,wmd,↓wk,↓wl,nqs,evV,↓reduceIte,sevalprocAttr]
 refine AW.bend ?_
 refine AW.iter H ((Le.trans (Le.nilRow (i:=3) (e:=0) (by simp only[↓wk,↓wl,nq,evV,↓reduceIte,sevalprocAttr])) (Le.tz [0] [3,6,7,8] (by simp only[f8_L1c,wm,wmr,rrm,↓wk,↓wl,evV,↓reduceIte,sevalprocAttr]<;>rfl)))) ?_<;>clear H
 rintro ⟨x1,x2⟩ x_ st0_ H hst_
 rw[f8_L1c] at hst_
 simp only[f8_L1] at H
 subst hst_
 refine AW.rseq ?_
 try simp only[wm,wmd,↓wk,↓wl,nqs,evV,↓reduceIte,sevalprocAttr]
 refine AW.sseq ?_
 refine AW.ifc H (by rfl) ?_ ?_<;>clear H<;>intro H
 ·refine AW.skip ?_
  refine seqQ.norm ?_
  refine AW.bseq ?_
  refine AW.rseq ?_
  try simp only[wm,wmd,↓wk,↓wl,nqs,evV,↓reduceIte,sevalprocAttr]
  refine evTs_at (enc:=eResponderDevice) H (by rfl) (by rfl) ?_<;>clear H<;>intro x3 H
  try simp only[eResponderDevice,eL,eM,wm,wmd,↓wk,↓wl,nqs,evV,↓reduceIte,sevalprocAttr]
  refine evTs_st (by simp only[wm,wmd,↓wk,↓wl,nqs,evV,↓reduceIte,sevalprocAttr,Nat.reduceLeDiff];rfl) ?_
  try simp only[wm,wmd,↓wk,↓wl,nqs,evV,↓reduceIte,sevalprocAttr]
  refine AW.rend ?_
  try simp only[wm,wmd,↓wk,↓wl,nqs,evV,↓reduceIte,sevalprocAttr]
  refine evTs_app (enc:=(AV.int .u64)) H (by rfl) (by first | rfl | simp only[List.length_set]) (by rfl) (by rfl) ?_<;>clear H<;>intro x4 H
  try simp only[wm,wmd,↓wk,↓wl,nqs,evV,↓reduceIte,sevalprocAttr]
  refine blkQ.norm ?_
  refine AW.rend ?_
  try simp only[wm,wmd,↓wk,↓wl,nqs,evV,↓reduceIte,sevalprocAttr]
  exact loopQ.next H ((Le.tz [2] [3,6,7,8] (by simp only[f8_L1c,wm,wmr,rrm,↓wk,↓wl,evV,↓reduceIte,sevalprocAttr]<;>rfl)))
 ·refine AW.exit ?_
  refine seqQ.exit ?_
  refine loopQ.exit H ?_<;>clear H<;>intro H
  try dsimp only at H
  refine blk0.here ?_
  refine seqQ.norm ?_
  refine AW.rseq ?_
  try simp only[wm,wmd,↓wk,↓wl,nqs,evV,↓reduceIte,sevalprocAttr]
  refine evTs_inl (I:=f8_C2 x2) (args:=[.row 0 0 0 x2.length]) H (by rfl) fd19 (by rfl) (Nat.le_of_ble_eq_true rfl) ?_ ?_<;>clear H
  ·rintro v_ Q_ H hqf8_C2
   simp only[f8_C2] at H
   dsimp only[List.length_cons,List.length_nil]
   refine AW.rseq ?_
   try simp only[wm,wmd,↓wk,↓wl,nqs,evV,↓reduceIte,sevalprocAttr]
   refine AW.rend ?_
   try simp only[wm,wmd,↓wk,↓wl,nqs,evV,↓reduceIte,sevalprocAttr]
   refine evTs_pure hFn H (fun _ h=>f38_ok h) (by rfl) (by rfl) (by rfl) (by rfl) (fun _=>rfl) ?_<;>clear H<;>intro x5 H
   try simp only[eL,wm,wmd,↓wk,↓wl,nqs,evV,↓reduceIte,sevalprocAttr]
   refine evTs_inl (I:=f8_C3 x2 x5) (args:=[.row 0 0 0 x2.length,.int .i64 0,.int .i64 ((x2.length:Nat):Int),.int .i64 x5]) H (by rfl) fd37 (by rfl) (Nat.le_of_ble_eq_true rfl) ?_ ?_<;>clear H
   ·rintro v_ Q_ H hqf8_C3
    simp only[f8_C3] at H
    dsimp only[List.length_cons,List.length_nil]
    refine AW.rseq ?_
    try simp only[wm,wmd,↓wk,↓wl,nqs,evV,↓reduceIte,sevalprocAttr]
    refine AW.rseq ?_
    try simp only[wm,wmd,↓wk,↓wl,nqs,evV,↓reduceIte,sevalprocAttr]
    refine AW.bend ?_
    refine AW.iter H ((Le.tq 1 [0] [0,1,2,3,8,9] (by simp only[f8_L4c,wm,wmr,rrm,↓wk,↓wl,evV,↓reduceIte,sevalprocAttr]<;>rfl))) ?_<;>clear H
    rintro _ x_ st0_ H hst_
    rw[f8_L4c] at hst_
    simp only[f8_L4] at H
    subst hst_
    refine AW.bend ?_
    refine AW.rseq ?_
    try simp only[wm,wmd,↓wk,↓wl,nqs,evV,↓reduceIte,sevalprocAttr]
    refine AW.sseq ?_
    refine AW.rseq ?_
    try simp only[wm,wmd,↓wk,↓wl,nqs,evV,↓reduceIte,sevalprocAttr]
    refine AW.ifc H (by rfl) ?_ ?_<;>clear H<;>intro H
    ·refine AW.rseq ?_
     try simp only[wm,wmd,↓wk,↓wl,nqs,evV,↓reduceIte,sevalprocAttr]
     refine evTs_inl (I:=f8_C5 x2) (args:=[.row 0 0 0 x2.length,.int .i64 0,.int .i64 ((x2.length:Nat):Int)]) H (by rfl) fd55 (by rfl) (Nat.le_of_ble_eq_true rfl) ?_ ?_<;>clear H
     ·rintro v_ Q_ H hqf8_C5
      simp only[f8_C5] at H
      dsimp only[List.length_cons,List.length_nil]
      refine AW.rseq ?_
      try simp only[wm,wmd,↓wk,↓wl,nqs,evV,↓reduceIte,sevalprocAttr]
      refine AW.bend ?_
      refine AW.iter H ((Le.tq 1 [0] [0,1,2,6] (by simp only[f8_L6c,wm,wmr,rrm,↓wk,↓wl,evV,↓reduceIte,sevalprocAttr]<;>rfl))) ?_<;>clear H
      rintro ⟨x6,x7⟩ x_ st0_ H hst_
      rw[f8_L6c] at hst_
      simp only[f8_L6] at H
      subst hst_
      refine AW.sseq ?_
      refine AW.rseq ?_
      try simp only[wm,wmd,↓wk,↓wl,nqs,evV,↓reduceIte,sevalprocAttr]
      refine AW.ifc H (by rfl) ?_ ?_<;>clear H<;>intro H
      ·refine AW.skip ?_
       refine seqQ.norm ?_
       refine AW.bseq ?_
       refine AW.rseq ?_
       try simp only[wm,wmd,↓wk,↓wl,nqs,evV,↓reduceIte,sevalprocAttr]
       refine AW.bend ?_
       refine AW.iter H ((Le.tq 1 [0] [0,1,2,6,7] (by simp only[f8_L7c,wm,wmr,rrm,↓wk,↓wl,evV,↓reduceIte,sevalprocAttr]<;>rfl))) ?_<;>clear H
       rintro ⟨x8,x9⟩ x_ st0_ H hst_
       rw[f8_L7c] at hst_
       simp only[f8_L7] at H
       subst hst_
       refine AW.sseq ?_
       refine AW.rseq ?_
       try simp only[wm,wmd,↓wk,↓wl,nqs,evV,↓reduceIte,sevalprocAttr]
       refine evTs_ifg H (by rfl) ?_ ?_<;>clear H<;>intro H
       ·try simp only[wm,wmd,↓wk,↓wl,nqs,evV,↓reduceIte,sevalprocAttr]
        refine evTs_atr (enc:=(AV.int .u64)) H (by rfl) (by first | rfl | simp only[List.length_set]) (by rfl) ?_<;>clear H<;>intro xa xb H
        try simp only[wm,wmd,↓wk,↓wl,nqs,evV,↓reduceIte,sevalprocAttr,xb]
        refine evTs_atr (enc:=(AV.int .u64)) H (by rfl) (by first | rfl | simp only[List.length_set,xb]) (by rfl) ?_<;>clear H<;>intro xc xd H
        try simp only[wm,wmd,↓wk,↓wl,nqs,evV,↓reduceIte,sevalprocAttr,xb,xd]
        refine evTs_pure hFn H (fun _ h=>f61_ok h) (by rfl) (by rfl) (by rfl) (by rfl) (fun _=>rfl) ?_<;>clear H<;>intro xe H
        try simp only[eL,wm,wmd,↓wk,↓wl,nqs,evV,↓reduceIte,sevalprocAttr,xb,xd]
        refine AW.ifc H (by rfl) ?_ ?_<;>clear H<;>intro H
        ·refine AW.skip ?_
         refine seqQ.norm ?_
         refine AW.bseq ?_
         refine AW.rend ?_
         try simp only[wm,wmd,↓wk,↓wl,nqs,evV,↓reduceIte,sevalprocAttr,xb,xd]
         refine evTs_atr (enc:=(AV.int .u64)) H (by rfl) (by first | rfl | simp only[List.length_set,xb,xd]) (by rfl) ?_<;>clear H<;>intro xf xg H
         try simp only[wm,wmd,↓wk,↓wl,nqs,evV,↓reduceIte,sevalprocAttr,xb,xg]
         refine evTs_atr (enc:=(AV.int .u64)) H (by rfl) (by first | rfl | simp only[List.length_set,xb,xg]) (by rfl) ?_<;>clear H<;>intro xh xi H
         try simp only[wm,wmd,↓wk,↓wl,nqs,evV,↓reduceIte,sevalprocAttr,xg,xi]
         refine evTs_atr (enc:=(AV.int .u64)) H (by rfl) (by first | rfl | simp only[List.length_set,xg,xi]) (by rfl) ?_<;>clear H<;>intro xj xk H
         try simp only[wm,wmd,↓wk,↓wl,nqs,evV,↓reduceIte,sevalprocAttr,xg,xk]
         refine evTs_stW (enc:=(AV.int .u64)) xf (by rfl) (by rfl) (by first | exact lt_map xk | (simp only[List.length_set,xg];exact lt_map xk)) (fun _=>by rfl) ?_
         have xl:=set_get xk xf
         try simp only[wm,wmd,↓wk,↓wl,nqs,evV,↓reduceIte,sevalprocAttr,xg,xk,xl]
         refine evTs_atr (enc:=(AV.int .u64)) H (by rfl) (by first | rfl | simp only[List.length_set,xg,xk,xl]) (by rfl) ?_<;>clear H<;>intro xm xn H
         try simp only[wm,wmd,↓wk,↓wl,nqs,evV,↓reduceIte,sevalprocAttr,xg,xk,xl,xn]
         refine evTs_stW (enc:=(AV.int .u64)) xh (by rfl) (by rfl) (by first | exact lt_map xn | (simp only[List.length_set,xg,xk,xl];exact lt_map xn)) (fun _=>by rfl) ?_
         have xo:=set_get xn xh
         try simp only[wm,wmd,↓wk,↓wl,nqs,evV,↓reduceIte,sevalprocAttr,xg,xk,xl,xn,xo]
         refine blkQ.norm ?_
         refine AW.rend ?_
         try simp only[wm,wmd,↓wk,↓wl,nqs,evV,↓reduceIte,sevalprocAttr,xg,xk,xl,xn,xo]
         exact loopQ.next H ((Le.tq 1 [0] [0,1,2,6,7] (by simp only[f8_L7c,wm,wmr,rrm,↓wk,↓wl,evV,↓reduceIte,sevalprocAttr,xg,xk,xl,xn,xo]<;>rfl)))
        ·refine AW.exit ?_
         refine seqQ.exit ?_
         refine loopQ.exit H ?_<;>clear H<;>intro H
         try dsimp only at H
         refine blk0.here ?_
         refine blkQ.norm ?_
         refine AW.rend ?_
         try simp only[wm,wmd,↓wk,↓wl,nqs,evV,↓reduceIte,sevalprocAttr,xb,xd]
         exact loopQ.next H ((Le.tq 1 [0] [0,1,2,6] (by simp only[f8_L6c,wm,wmr,rrm,↓wk,↓wl,evV,↓reduceIte,sevalprocAttr,xb,xd]<;>rfl)))
       ·try simp only[wm,wmd,↓wk,↓wl,nqs,evV,↓reduceIte,sevalprocAttr]
        refine AW.iff (by rfl) ?_
        refine AW.exit ?_
        refine seqQ.exit ?_
        refine loopQ.exit H ?_<;>clear H<;>intro H
        try dsimp only at H
        refine blk0.here ?_
        refine blkQ.norm ?_
        refine AW.rend ?_
        try simp only[wm,wmd,↓wk,↓wl,nqs,evV,↓reduceIte,sevalprocAttr]
        exact loopQ.next H ((Le.tq 1 [0] [0,1,2,6] (by simp only[f8_L6c,wm,wmr,rrm,↓wk,↓wl,evV,↓reduceIte,sevalprocAttr]<;>rfl)))
      ·refine AW.exit ?_
       refine seqQ.exit ?_
       refine loopQ.exit H ?_<;>clear H<;>intro H
       try dsimp only at H
       refine blk0.here ?_
       cases H
       exact hqf8_C5 _ _ _ (.inl rfl) (Le.tq 1 [0] [] rfl) (by simp only[resVs,omap,resV,f8_C5,wm,wmr,rrm,↓wk,↓wl,evV,↓reduceIte,sevalprocAttr]) (by simp only[f8_C5,wm,wmr,rrm,↓wk,↓wl,evV,↓reduceIte,sevalprocAttr])
     ·rintro xp s_ h_ H hs_ hh_
      simp only[f8_C5] at H hs_ hh_
      subst hs_
      subst hh_
      have xq:=(must_inv H).1
      have xr:=fun f=>take_map_eq xq f
      replace H:=(must_inv H).2
      try simp only[wm,wmd,↓wk,↓wl,nqs,evV,↓reduceIte,sevalprocAttr,xq,xr]
      refine AW.ret ?_
      refine seqQ.ret ?_
      refine blk0.ret ?_
      refine loopQ.ret H ?_<;>clear H<;>intro H
      try dsimp only at H
      refine blk0.ret ?_
      cases H
      exact hqf8_C3 _ _ _ (.inr rfl) (Le.tq 1 [0] [] rfl) (by simp only[resVs,omap,resV,f8_C3,wm,wmr,rrm,↓wk,↓wl,evV,↓reduceIte,sevalprocAttr,xq,xr]) (by simp only[f8_C3,wm,wmr,rrm,↓wk,↓wl,evV,↓reduceIte,sevalprocAttr,xq,xr])
    ·refine AW.skip ?_
     refine seqQ.norm ?_
     refine AW.sseq ?_
     refine AW.rseq ?_
     try simp only[wm,wmd,↓wk,↓wl,nqs,evV,↓reduceIte,sevalprocAttr]
     refine AW.ifc H (by rfl) ?_ ?_<;>clear H<;>intro H
     ·refine AW.rseq ?_
      try simp only[wm,wmd,↓wk,↓wl,nqs,evV,↓reduceIte,sevalprocAttr]
      cases H
     ·refine AW.skip ?_
      refine seqQ.norm ?_
      refine AW.sseq ?_
      refine AW.rseq ?_
      try simp only[wm,wmd,↓wk,↓wl,nqs,evV,↓reduceIte,sevalprocAttr]
      refine AW.iff (by rfl) ?_
      refine AW.skip ?_
      refine seqQ.norm ?_
      refine AW.rseq ?_
      try simp only[wm,wmd,↓wk,↓wl,nqs,evV,↓reduceIte,sevalprocAttr]
      cases H
   ·rintro xs s_ h_ H hs_ hh_
    simp only[f8_C3] at H hs_ hh_
    subst hs_
    subst hh_
    have xt:=(must_inv H).1
    have xu:=fun f=>take_map_eq xt f
    replace H:=(must_inv H).2
    try simp only[wm,wmd,↓wk,↓wl,nqs,evV,↓reduceIte,sevalprocAttr,xt,xu]
    cases H
    exact hqf8_C2 _ _ _ (.inl rfl) (Le.tq 1 [0] [] rfl) (by simp only[resVs,omap,resV,f8_C2,wm,wmr,rrm,↓wk,↓wl,evV,↓reduceIte,sevalprocAttr,xt,xu]) (by simp only[f8_C2,wm,wmr,rrm,↓wk,↓wl,evV,↓reduceIte,sevalprocAttr,xt,xu])
  ·rintro xv s_ h_ H hs_ hh_
   simp only[f8_C2] at H hs_ hh_
   subst hs_
   subst hh_
   have xw:=(must_inv H).1
   have xx:=fun f=>take_map_eq xw f
   replace H:=(must_inv H).2
   try simp only[wm,wmd,↓wk,↓wl,nqs,evV,↓reduceIte,sevalprocAttr,xw,xx]
   refine AW.rseq ?_
   try simp only[wm,wmd,↓wk,↓wl,nqs,evV,↓reduceIte,sevalprocAttr,xw,xx]
   refine AW.ret ?_
   cases H
   exact hQ _ _ _ _ (.inr rfl) (by simp only[resVs,omap,resV,wm,wmd,↓wk,↓wl,nqs,evV,↓reduceIte,sevalprocAttr,xw,xx];rfl) (hand_1 (by rfl) (by first | rfl | (simp only[List.length_map,List.length_set,xw];done) | simp[xw]) (enc_all _)) (by first | exact Or.inl rfl | exact Or.inr rfl)
theorem f8_im{x0:(List ResponderDevice)}{r_:(List Int)}(H:f8 x0=some r_):Pure Tryz.prog 8 [.sl 7 false (x0.map eResponderDevice)] (· = .sl 0 false (r_.map (AV.int .u64))):=(f8_ok H).unfr (by first | exact enc_fits _ | simp only[frFits,List.all_cons,List.all_nil,enc_fits,Bool.and_self])
noncomputable def f3_C1(x0:(List ResponderDevice)×DiscoveryFinding×Int)(x1:(List ResponderDevice)×DiscoveryFinding×Int):Il (Unit) where
  run:=(some ())
  res:=fun _=>.fn 21 [.ptr 2 0]
  hp:=fun _=>[.cel [.sl 0 false (x0.2.1.fFound.map (AV.int .u64)),.int .i64 x0.2.1.fMessages],.cel [.sl 0 false (x1.2.1.fFound.map (AV.int .u64)),.int .i64 x1.2.1.fMessages],.cel [.sl 0 false (x0.2.1.fFound.map (AV.int .u64))]]
noncomputable def f3_C2(x0:(List ResponderDevice)×DiscoveryFinding×Int)(x1:(List ResponderDevice)×DiscoveryFinding×Int)(x2:(List Int)):Il (Unit) where
  run:=(some ())
  res:=fun _=>.fn 21 [.ptr 4 0]
  hp:=fun _=>[.cel [.sl 0 false (x0.2.1.fFound.map (AV.int .u64)),.int .i64 x0.2.1.fMessages],.cel [.sl 0 false (x1.2.1.fFound.map (AV.int .u64)),.int .i64 x1.2.1.fMessages],.cel [.sl 0 false (x0.2.1.fFound.map (AV.int .u64))],.els 0 (x2.map (AV.int .u64)),.cel [.sl 0 false (x1.2.1.fFound.map (AV.int .u64))]]
noncomputable def f3_L3(x0:(List ResponderDevice)×DiscoveryFinding×Int)(x1:(List ResponderDevice))(x2:(List ResponderDevice)×DiscoveryFinding×Int):Lp (Int) ((Unit)⊕(Unit)) where
  body:=fun x3=>(if (decide (x3<((x0.1.length:Nat):Int)))=true then (at? x0.1 x3).bind fun x4=>(at? x1 x3).bind fun x5=>(if (!((x4.fIdentity == x5.fIdentity) && ((x4.fFootprint == x5.fFootprint) && ((x4.fAddress == x5.fAddress) && ((x4.fLabel == x5.fLabel) && ((x4.fHours == x5.fHours) && ((x4.fMuted == true) && ((x4.fIdentify == x5.fIdentify) && true))))))))=true then (some (.brk (Sum.inr ()))) else (at? x2.1 x3).bind fun x6=>(if (!((x6.fIdentity == x5.fIdentity) && ((x6.fFootprint == x5.fFootprint) && ((x6.fAddress == x5.fAddress) && ((x6.fLabel == x5.fLabel) && ((x6.fHours == x5.fHours) && ((x6.fMuted == true) && ((x6.fIdentify == x5.fIdentify) && true))))))))=true then (some (.brk (Sum.inr ()))) else (some (.next (IntKind.i64.wrap (x3 + 1)))))) else (some (.brk (Sum.inl ()))))
  cst:=fun x3=>⟨put (put (put (put (put (fun _=>.junk) 78 (.int .i64 x3)) 77 (.int .i64 ((x0.1.length:Nat):Int))) 76 (.sl 7 false (x0.1.map eResponderDevice))) 8 (.sl 7 false (x2.1.map eResponderDevice))) 0 (.sl 7 false (x1.map eResponderDevice)),[]⟩
theorem f3_L3c(x0:(List ResponderDevice)×DiscoveryFinding×Int)(x1:(List ResponderDevice))(x2:(List ResponderDevice)×DiscoveryFinding×Int)(x3:Int):(f3_L3 x0 x1 x2).cst x3=⟨put (put (put (put (put (fun _=>.junk) 78 (.int .i64 x3)) 77 (.int .i64 ((x0.1.length:Nat):Int))) 76 (.sl 7 false (x0.1.map eResponderDevice))) 8 (.sl 7 false (x2.1.map eResponderDevice))) 0 (.sl 7 false (x1.map eResponderDevice)),[]⟩:=rfl
def c3_0:C:=.cond (.t 22) (.seq (.reg [iI 23 (.call (.c (.fn 6 [])) []),iI 4 (.mv (.t 23))]) .ret) (.skip)
def c3_1:C:=.cond (.t 57) (.seq (.reg [iI 4 (.mv (.c (.bool false)))]) .ret) (.skip)
def c3_2:C:=.cond (.t 75) (.seq (.reg [iI 4 (.mv (.c (.bool false)))]) .ret) (.skip)
def c3_3:C:=.cond (.t 98) (.seq (.reg [iI 4 (.mv (.c (.bool false)))]) .ret) (.skip)
def c3_4:C:=.seq (.reg [iI 88 (.load 7 (.t 13)),iI 89 (.load 7 (.t 14)),iI 90 (.eqs true [0,0,0,1,0,2,2] (.t 88) (.t 89)),iI 91 (.mv (.t 90)),iG (some 92) 91 false (.mv (.t 8)),iG (some 93) 91 false (.mv (.t 12)),iG (some 94) 91 false (.iaddr 7 (.t 92) (.t 93)),iG (some 95) 91 false (.load 7 (.t 94)),iG (some 96) 91 false (.load 7 (.t 14)),iG (some 97) 91 false (.eqs true [0,0,0,1,0,2,2] (.t 95) (.t 96)),iI 98 (.pick (.t 91) (.c (.bool true)) (.t 97))]) c3_3
def c3_5:C:=.seq (.reg [iI 87 (.faddr 5 (.t 14)),iN (.store 0 (.t 87) (.c (.bool true)))]) c3_4
def c3_6:C:=.seq (.reg [iI 83 (.mv (.t 0)),iI 84 (.mv (.t 12)),iI 85 (.iaddr 7 (.t 83) (.t 84)),iI 86 (.load 7 (.t 85)),iI 14 (.alloc [(1,(.int .u64 0)),(1,(.int .i64 0)),(1,(.int .i64 0)),(1,(.str [])),(1,(.int .i64 0)),(1,(.bool false)),(1,(.bool false))]),iN (.store 7 (.t 14) (.t 86))]) c3_5
def c3_7:C:=.reg [iI 99 (.bin .add (.t 78) (.c (.int .i64 1))),iI 78 (.mv (.t 99))]
def c3_8:C:=.seq (.block 1 (.seq (.reg [iI 80 (.mv (.t 78)),iI 81 (.iaddr 7 (.t 76) (.t 78)),iI 82 (.load 7 (.t 81)),iI 13 (.alloc [(1,(.int .u64 0)),(1,(.int .i64 0)),(1,(.int .i64 0)),(1,(.str [])),(1,(.int .i64 0)),(1,(.bool false)),(1,(.bool false))]),iI 12 (.mv (.t 80)),iN (.store 7 (.t 13) (.t 82))]) c3_6)) c3_7
def c3_9:C:=.seq (.cond (.t 79) (.skip) (.exit 0)) c3_8
def c3_10:C:=.block 0 (.loop (.seq (.reg [iI 79 (.bin .lss (.t 78) (.t 77))]) c3_9))
def c3_11:C:=.seq (.reg [iI 100 (.call (.c (.fn 6 [])) []),iI 4 (.mv (.t 100))]) .ret
def c3_12:C:=.seq (.seq (.reg [iI 76 (.mv (.t 5)),iI 77 (.len 0 (.t 76)),iI 78 (.mv (.c (.int .i64 0)))]) c3_10) c3_11
def c3_13:C:=.seq (.seq (.reg [iI 60 (.faddr 0 (.t 6)),iI 61 (.load 0 (.t 60)),iI 62 (.call (.c (.fn 11 [])) [(.t 61)]),iI 63 (.call (.c (.fn 10 [])) [(.t 62)]),iI 64 (.mv (.t 11)),iI 65 (.call (.c (.fn 9 [])) [(.t 63),(.t 64)]),iI 66 (.un .not (.t 65)),iI 67 (.mv (.t 66)),iG (some 68) 67 false (.faddr 0 (.t 9)),iG (some 69) 67 false (.load 0 (.t 68)),iG (some 70) 67 false (.call (.c (.fn 11 [])) [(.t 69)]),iG (some 71) 67 false (.call (.c (.fn 10 [])) [(.t 70)]),iG (some 72) 67 false (.mv (.t 11)),iG (some 73) 67 false (.call (.c (.fn 9 [])) [(.t 71),(.t 72)]),iG (some 74) 67 false (.un .not (.t 73)),iI 75 (.pick (.t 67) (.c (.bool true)) (.t 74))]) c3_2) c3_12
def c3_14:C:=.seq (.reg [iI 58 (.mv (.t 0)),iI 59 (.call (.c (.fn 8 [])) [(.t 58)]),iI 11 (.mv (.t 59))]) c3_13
def c3_15:C:=.seq (.seq (.reg [iI 38 (.mv (.t 7)),iI 39 (.bin .neq (.t 38) (.c (.int .i64 0))),iI 40 (.mv (.t 39)),iG (some 41) 40 false (.mv (.t 10)),iG (some 42) 40 false (.bin .neq (.t 41) (.c (.int .i64 0))),iI 43 (.pick (.t 40) (.c (.bool true)) (.t 42)),iI 44 (.mv (.t 43)),iG (some 45) 44 false (.mv (.t 5)),iG (some 46) 44 false (.len 0 (.t 45)),iG (some 47) 44 false (.mv (.t 0)),iG (some 48) 44 false (.len 0 (.t 47)),iG (some 49) 44 false (.bin .neq (.t 46) (.t 48)),iI 50 (.pick (.t 44) (.c (.bool true)) (.t 49)),iI 51 (.mv (.t 50)),iG (some 52) 51 false (.mv (.t 8)),iG (some 53) 51 false (.len 0 (.t 52)),iG (some 54) 51 false (.mv (.t 0)),iG (some 55) 51 false (.len 0 (.t 54)),iG (some 56) 51 false (.bin .neq (.t 53) (.t 55)),iI 57 (.pick (.t 51) (.c (.bool true)) (.t 56))]) c3_1) c3_14
def c3_16:C:=.seq (.reg [iI 32 (.mv (.t 5)),iI 33 (.mv (.t 1)),iI 34 (.call (.c (.fn 7 [])) [(.t 32),(.t 33)]),iI 31 (.mv (.t 34)),iI 35 (.ext (.t 31) 0),iI 36 (.ext (.t 31) 1),iI 37 (.ext (.t 31) 2),iI 9 (.alloc [(1,(.sl 0 true [])),(1,(.int .i64 0))]),iI 8 (.mv (.t 35)),iN (.store 2 (.t 9) (.t 36)),iI 10 (.mv (.t 37))]) c3_15
def c3_17:C:=.seq (.reg [iI 25 (.mv (.t 0)),iI 26 (.mv (.t 1)),iI 27 (.call (.c (.fn 7 [])) [(.t 25),(.t 26)]),iI 24 (.mv (.t 27)),iI 28 (.ext (.t 24) 0),iI 29 (.ext (.t 24) 1),iI 30 (.ext (.t 24) 2),iI 6 (.alloc [(1,(.sl 0 true [])),(1,(.int .i64 0))]),iI 5 (.mv (.t 28)),iN (.store 2 (.t 6) (.t 29)),iI 7 (.mv (.t 30))]) c3_16
def c3_18:C:=.seq (.seq (.reg [iI 15 (.mv (.t 0)),iI 16 (.call (.c (.fn 4 [])) [(.t 15)]),iI 17 (.un .not (.t 16)),iI 18 (.mv (.t 17)),iG (some 19) 18 false (.mv (.t 1)),iG (some 20) 18 false (.call (.c (.fn 5 [])) [(.t 19)]),iG (some 21) 18 false (.un .not (.t 20)),iI 22 (.pick (.t 18) (.c (.bool true)) (.t 21))]) c3_0) c3_17
def ir3:C:=.seq (.reg [iI 4 (.mv (.c (.bool false)))]) c3_18
theorem fd3:fd? Tryz.prog 3=some (101,[.slot 4],ir3):=by kernel_rfl
noncomputable def f3(x0:(List ResponderDevice))(x1:Int):Option (Bool) :=
  (f4 x0).bind fun x2=>(if (!x2)=true then (f6).bind fun x3=>(some x3) else (f5 x1).bind fun x4=>(if (!x4)=true then (f6).bind fun x5=>(some x5) else (f7 x0 x1).bind fun x6=>(f7 x6.1 x1).bind fun x7=>(if (decide (x6.2.2≠0))=true then (some false) else (if (decide (x7.2.2≠0))=true then (some false) else (if (decide (((x6.1.length:Nat):Int)≠((x0.length:Nat):Int)))=true then (some false) else (if (decide (((x7.1.length:Nat):Int)≠((x0.length:Nat):Int)))=true then (some false) else (f8 x0).bind fun x8=>((f3_C1 x6 x7).run.bind fun _=>(f10_21 x6.2.1.fFound).bind fun x9=>(f9 x9 x8).bind fun xa=>(if (!xa)=true then (some false) else ((f3_C2 x6 x7 x9).run.bind fun _=>(f10_21 x7.2.1.fFound).bind fun xb=>(f9 xb x8).bind fun xc=>(if (!xc)=true then (some false) else ((Lp.run (f3_L3 x6 x0 x7) 0).bind fun r_=>match r_ with | (Sum.inl _)=>(f6).bind fun xd=>(some xd) | (Sum.inr _)=>(some false))))))))))))
theorem f3_ok{x0:(List ResponderDevice)}{x1:Int}{r_:Bool}(H:f3 x0 x1=some r_):Pure Tryz.prog 3 [.sl 7 false (x0.map eResponderDevice),.int .u64 x1] (· = .bool r_):=by
 refine Pure.walk3 fd3 none (Nat.le_of_ble_eq_true rfl) (by rfl) fun Q hQ=>?_
 simp only[f3] at H
 refine AW.rseq ?_
 try simp only[wm,wmd,↓wk,↓wl,nq,evV,↓reduceIte,sevalprocAttr]
 refine AW.sseq ?_
 refine AW.rseq ?_
 try simp only[wm,wmd,↓wk,↓wl,nq,evV,↓reduceIte,sevalprocAttr]
 refine evTs_pure hFn H (fun _ h=>f4_ok h) (by rfl) (by rfl) (by rfl) (by rfl) (fun _=>rfl) ?_<;>clear H<;>intro x2 H
 try simp only[eL,wm,wmd,↓wk,↓wl,nq,evV,↓reduceIte,sevalprocAttr]
 refine evTs_ifg H (by rfl) ?_ ?_<;>clear H<;>intro H
 ·try simp only[wm,wmd,↓wk,↓wl,nq,evV,↓reduceIte,sevalprocAttr]
  refine AW.ift (by rfl) ?_
  refine AW.rseq ?_
  try simp only[wm,wmd,↓wk,↓wl,nq,evV,↓reduceIte,sevalprocAttr]
  refine evTs_pure hFn H (fun _ h=>f6_ok h) (by rfl) (by rfl) (by rfl) (by rfl) (fun _=>rfl) ?_<;>clear H<;>intro x3 H
  try simp only[eL,wm,wmd,↓wk,↓wl,nq,evV,↓reduceIte,sevalprocAttr]
  refine AW.ret ?_
  refine seqQ.ret ?_
  cases H
  exact hQ _ _ _ _ (.inr rfl) (by simp only[resVs,omap,resV,wm,wmd,↓wk,↓wl,nq,evV,↓reduceIte,sevalprocAttr];rfl) (hand_plain (by rfl)) (by first | exact Or.inl rfl | exact Or.inr rfl)
 ·try simp only[wm,wmd,↓wk,↓wl,nq,evV,↓reduceIte,sevalprocAttr]
  refine evTs_pure hFn H (fun _ h=>f5_ok h) (by rfl) (by rfl) (by rfl) (by rfl) (fun _=>rfl) ?_<;>clear H<;>intro x4 H
  try simp only[eL,wm,wmd,↓wk,↓wl,nq,evV,↓reduceIte,sevalprocAttr]
  refine AW.ifc H (by rfl) ?_ ?_<;>clear H<;>intro H
  ·refine AW.rseq ?_
   try simp only[wm,wmd,↓wk,↓wl,nq,evV,↓reduceIte,sevalprocAttr]
   refine evTs_pure hFn H (fun _ h=>f6_ok h) (by rfl) (by rfl) (by rfl) (by rfl) (fun _=>rfl) ?_<;>clear H<;>intro x5 H
   try simp only[eL,wm,wmd,↓wk,↓wl,nq,evV,↓reduceIte,sevalprocAttr]
   refine AW.ret ?_
   refine seqQ.ret ?_
   cases H
   exact hQ _ _ _ _ (.inr rfl) (by simp only[resVs,omap,resV,wm,wmd,↓wk,↓wl,nq,evV,↓reduceIte,sevalprocAttr];rfl) (hand_plain (by rfl)) (by first | exact Or.inl rfl | exact Or.inr rfl)
  ·refine AW.skip ?_
   refine seqQ.norm ?_
   refine AW.rseq ?_
   try simp only[wm,wmd,↓wk,↓wl,nq,evV,↓reduceIte,sevalprocAttr]
   refine evTs_pure hFn H (fun _ h=>f7_ok h) (by rfl) (by rfl) (by rfl) (by rfl) (fun _=>rfl) ?_<;>clear H<;>intro x6 H
   try simp only[eL,eDiscoveryFinding,eM,wm,wmd,↓wk,↓wl,nq,evV,↓reduceIte,sevalprocAttr]
   refine AW.rseq ?_
   try simp only[wm,wmd,↓wk,↓wl,nq,evV,↓reduceIte,sevalprocAttr]
   refine evTs_pure hFn H (fun _ h=>f7_ok h) (by rfl) (by rfl) (by rfl) (by rfl) (fun _=>rfl) ?_<;>clear H<;>intro x7 H
   try simp only[eL,eDiscoveryFinding,eM,wm,wmd,↓wk,↓wl,nq,evV,↓reduceIte,sevalprocAttr]
   refine AW.sseq ?_
   refine AW.rseq ?_
   try simp only[wm,wmd,↓wk,↓wl,nq,evV,↓reduceIte,sevalprocAttr]
   refine evTs_ifg H (by rfl) ?_ ?_<;>clear H<;>intro H
   ·try simp only[wm,wmd,↓wk,↓wl,nq,evV,↓reduceIte,sevalprocAttr]
    refine AW.ift (by rfl) ?_
    refine AW.rseq ?_
    try simp only[wm,wmd,↓wk,↓wl,nq,evV,↓reduceIte,sevalprocAttr]
    refine AW.ret ?_
    refine seqQ.ret ?_
    cases H
    exact hQ _ _ _ _ (.inr rfl) (by simp only[resVs,omap,resV,wm,wmd,↓wk,↓wl,nq,evV,↓reduceIte,sevalprocAttr];rfl) (hand_plain (by rfl)) (by first | exact Or.inl rfl | exact Or.inr rfl)
   ·try simp only[wm,wmd,↓wk,↓wl,nq,evV,↓reduceIte,sevalprocAttr]
    refine evTs_ifg H (by rfl) ?_ ?_<;>clear H<;>intro H
    ·try simp only[wm,wmd,↓wk,↓wl,nq,evV,↓reduceIte,sevalprocAttr]
     refine AW.ift (by rfl) ?_
     refine AW.rseq ?_
     try simp only[wm,wmd,↓wk,↓wl,nq,evV,↓reduceIte,sevalprocAttr]
     refine AW.ret ?_
     refine seqQ.ret ?_
     cases H
     exact hQ _ _ _ _ (.inr rfl) (by simp only[resVs,omap,resV,wm,wmd,↓wk,↓wl,nq,evV,↓reduceIte,sevalprocAttr];rfl) (hand_plain (by rfl)) (by first | exact Or.inl rfl | exact Or.inr rfl)
    ·try simp only[wm,wmd,↓wk,↓wl,nq,evV,↓reduceIte,sevalprocAttr]
     refine evTs_ifg H (by rfl) ?_ ?_<;>clear H<;>intro H
     ·try simp only[wm,wmd,↓wk,↓wl,nq,evV,↓reduceIte,sevalprocAttr]
      refine AW.ift (by rfl) ?_
      refine AW.rseq ?_
      try simp only[wm,wmd,↓wk,↓wl,nq,evV,↓reduceIte,sevalprocAttr]
      refine AW.ret ?_
      refine seqQ.ret ?_
      cases H
      exact hQ _ _ _ _ (.inr rfl) (by simp only[resVs,omap,resV,wm,wmd,↓wk,↓wl,nq,evV,↓reduceIte,sevalprocAttr];rfl) (hand_plain (by rfl)) (by first | exact Or.inl rfl | exact Or.inr rfl)
     ·try simp only[wm,wmd,↓wk,↓wl,nq,evV,↓reduceIte,sevalprocAttr]
      refine AW.ifc H (by rfl) ?_ ?_<;>clear H<;>intro H
      ·refine AW.rseq ?_
       try simp only[wm,wmd,↓wk,↓wl,nq,evV,↓reduceIte,sevalprocAttr]
       refine AW.ret ?_
       refine seqQ.ret ?_
       cases H
       exact hQ _ _ _ _ (.inr rfl) (by simp only[resVs,omap,resV,wm,wmd,↓wk,↓wl,nq,evV,↓reduceIte,sevalprocAttr];rfl) (hand_plain (by rfl)) (by first | exact Or.inl rfl | exact Or.inr rfl)
      ·refine AW.skip ?_
       refine seqQ.norm ?_
       refine AW.rseq ?_
       try simp only[wm,wmd,↓wk,↓wl,nq,evV,↓reduceIte,sevalprocAttr]
       refine evTs_pure hFn H (fun _ h=>f8_im h) (by rfl) (by rfl) (by rfl) (by rfl) (fun _=>rfl) ?_<;>clear H<;>intro x8 H
       try simp only[eL,wm,wmd,↓wk,↓wl,nq,evV,↓reduceIte,sevalprocAttr]
       refine AW.sseq ?_
       refine AW.rseq ?_
       try simp only[wm,wmd,↓wk,↓wl,nq,evV,↓reduceIte,sevalprocAttr]
       refine evTs_inl (I:=f3_C1 x6 x7) (args:=[.sl 0 false (x6.2.1.fFound.map (AV.int .u64))]) H (by rfl) fd11 (by rfl) (Nat.le_of_ble_eq_true rfl) ?_ ?_<;>clear H
       ·rintro v_ Q_ H hqf3_C1
        simp only[f3_C1] at H
        dsimp only[List.length_cons,List.length_nil]
        refine AW.rseq ?_
        try simp only[wm,wmd,↓wk,↓wl,nq,evV,↓reduceIte,sevalprocAttr]
        refine AW.rseq ?_
        try simp only[wm,wmd,↓wk,↓wl,nq,evV,↓reduceIte,sevalprocAttr]
        refine AW.ret ?_
        cases H
        exact hqf3_C1 _ _ _ (.inr rfl) (Le.tq 2 [0,1,2] [2] rfl) (by simp only[resVs,omap,resV,f3_C1,wm,wmr,rrm,↓wk,↓wl,evV,↓reduceIte,sevalprocAttr]) (by simp only[f3_C1,wm,wmr,rrm,↓wk,↓wl,evV,↓reduceIte,sevalprocAttr])
       ·rintro _ s_ h_ H hs_ hh_
        simp only[f3_C1] at H hs_ hh_
        subst hs_
        subst hh_
        try simp only[wm,wmd,↓wk,↓wl,nq,evV,↓reduceIte,sevalprocAttr]
        refine evTs_frR H (fun _ h=>f10_21_ok h) (by rfl) (by rfl) (by simp only[deep_eq,imm_simps,imm_rowE,imm_ptrE,imm_enc,imm_mrefE,imm_mpE,imm_arowE,omap_simps,take_map_len,take_map_set,take_map_set2,List.length_set,le_refl_true,Nat.zero_add,and_true,true_and,List.drop_zero,Option.map_some,wm,wmd,↓wk,↓wl,nq,evV,↓reduceIte,sevalprocAttr];rfl) (by rfl) (fun _=>by simp only[flatR,List.all_cons,List.all_nil,flat_all,Bool.and_true];try rfl) (fun _=>rfl) ?_<;>clear H<;>intro x9 H
        try simp only[eL,wm,wmd,↓wk,↓wl,nq,evV,↓reduceIte,sevalprocAttr]
        refine evTs_flat hFn H (fun _ h=>f9_ok h) (by rfl) (by rfl) (by simp only[deep_eq,imm_simps,imm_rowE,imm_ptrE,imm_enc,imm_mrefE,imm_mpE,imm_arowE,omap_simps,take_map_len,take_map_set,take_map_set2,List.length_set,le_refl_true,Nat.zero_add,and_true,true_and,List.drop_zero,Option.map_some,wm,wmd,↓wk,↓wl,nq,evV,↓reduceIte,sevalprocAttr];rfl) (by rfl) (fun _=>rfl) (fun _=>rfl) ?_<;>clear H<;>intro xa H
        try simp only[eL,wm,wmd,↓wk,↓wl,nq,evV,↓reduceIte,sevalprocAttr]
        refine evTs_ifg H (by rfl) ?_ ?_<;>clear H<;>intro H
        ·try simp only[wm,wmd,↓wk,↓wl,nq,evV,↓reduceIte,sevalprocAttr]
         refine AW.ift (by rfl) ?_
         refine AW.rseq ?_
         try simp only[wm,wmd,↓wk,↓wl,nq,evV,↓reduceIte,sevalprocAttr]
         refine AW.ret ?_
         refine seqQ.ret ?_
         cases H
         exact hQ _ _ _ _ (.inr rfl) (by simp only[resVs,omap,resV,wm,wmd,↓wk,↓wl,nq,evV,↓reduceIte,sevalprocAttr];rfl) (hand_plain (by rfl)) (by first | exact Or.inl rfl | exact Or.inr rfl)
        ·try simp only[wm,wmd,↓wk,↓wl,nq,evV,↓reduceIte,sevalprocAttr]
         refine evTs_inl (I:=f3_C2 x6 x7 x9) (args:=[.sl 0 false (x7.2.1.fFound.map (AV.int .u64))]) H (by rfl) fd11 (by rfl) (Nat.le_of_ble_eq_true rfl) ?_ ?_<;>clear H
         ·rintro v_ Q_ H hqf3_C2
          simp only[f3_C2] at H
          dsimp only[List.length_cons,List.length_nil]
          refine AW.rseq ?_
          try simp only[wm,wmd,↓wk,↓wl,nq,evV,↓reduceIte,sevalprocAttr]
          refine AW.rseq ?_
          try simp only[wm,wmd,↓wk,↓wl,nq,evV,↓reduceIte,sevalprocAttr]
          refine AW.ret ?_
          cases H
          exact hqf3_C2 _ _ _ (.inr rfl) (Le.tq 4 [0,1,2,3,4] [2] rfl) (by simp only[resVs,omap,resV,f3_C2,wm,wmr,rrm,↓wk,↓wl,evV,↓reduceIte,sevalprocAttr]) (by simp only[f3_C2,wm,wmr,rrm,↓wk,↓wl,evV,↓reduceIte,sevalprocAttr])
         ·rintro _ s_ h_ H hs_ hh_
          simp only[f3_C2] at H hs_ hh_
          subst hs_
          subst hh_
          try simp only[wm,wmd,↓wk,↓wl,nq,evV,↓reduceIte,sevalprocAttr]
          refine evTs_frR H (fun _ h=>f10_21_ok h) (by rfl) (by rfl) (by simp only[deep_eq,imm_simps,imm_rowE,imm_ptrE,imm_enc,imm_mrefE,imm_mpE,imm_arowE,omap_simps,take_map_len,take_map_set,take_map_set2,List.length_set,le_refl_true,Nat.zero_add,and_true,true_and,List.drop_zero,Option.map_some,wm,wmd,↓wk,↓wl,nq,evV,↓reduceIte,sevalprocAttr];rfl) (by rfl) (fun _=>by simp only[flatR,List.all_cons,List.all_nil,flat_all,Bool.and_true];try rfl) (fun _=>rfl) ?_<;>clear H<;>intro xb H
          try simp only[eL,wm,wmd,↓wk,↓wl,nq,evV,↓reduceIte,sevalprocAttr]
          refine evTs_flat hFn H (fun _ h=>f9_ok h) (by rfl) (by rfl) (by simp only[deep_eq,imm_simps,imm_rowE,imm_ptrE,imm_enc,imm_mrefE,imm_mpE,imm_arowE,omap_simps,take_map_len,take_map_set,take_map_set2,List.length_set,le_refl_true,Nat.zero_add,and_true,true_and,List.drop_zero,Option.map_some,wm,wmd,↓wk,↓wl,nq,evV,↓reduceIte,sevalprocAttr];rfl) (by rfl) (fun _=>rfl) (fun _=>rfl) ?_<;>clear H<;>intro xc H
          try simp only[eL,wm,wmd,↓wk,↓wl,nq,evV,↓reduceIte,sevalprocAttr]
          refine AW.ifc H (by rfl) ?_ ?_<;>clear H<;>intro H
          ·refine AW.rseq ?_
           try simp only[wm,wmd,↓wk,↓wl,nq,evV,↓reduceIte,sevalprocAttr]
           refine AW.ret ?_
           refine seqQ.ret ?_
           cases H
           exact hQ _ _ _ _ (.inr rfl) (by simp only[resVs,omap,resV,wm,wmd,↓wk,↓wl,nq,evV,↓reduceIte,sevalprocAttr];rfl) (hand_plain (by rfl)) (by first | exact Or.inl rfl | exact Or.inr rfl)
          ·refine AW.skip ?_
           refine seqQ.norm ?_
           refine AW.sseq ?_
           refine AW.rseq ?_
           try simp only[wm,wmd,↓wk,↓wl,nq,evV,↓reduceIte,sevalprocAttr]
           refine AW.bend ?_
           refine AW.iter H ((Le.tz [] [0,8,76,77,78] (by simp only[f3_L3c,wm,wmr,rrm,↓wk,↓wl,evV,↓reduceIte,sevalprocAttr]<;>rfl))) ?_<;>clear H
           rintro xd x_ st0_ H hst_
           rw[f3_L3c] at hst_
           simp only[f3_L3] at H
           subst hst_
           refine AW.rseq ?_
           try simp only[wm,wmd,↓wk,↓wl,nq,evV,↓reduceIte,sevalprocAttr]
           refine AW.sseq ?_
           refine AW.ifc H (by rfl) ?_ ?_<;>clear H<;>intro H
           ·refine AW.skip ?_
            refine seqQ.norm ?_
            refine AW.bseq ?_
            refine AW.rseq ?_
            try simp only[wm,wmd,↓wk,↓wl,nq,evV,↓reduceIte,sevalprocAttr]
            refine evTs_at (enc:=eResponderDevice) H (by rfl) (by rfl) ?_<;>clear H<;>intro xe H
            try simp only[eResponderDevice,eL,eM,wm,wmd,↓wk,↓wl,nq,evV,↓reduceIte,sevalprocAttr]
            refine AW.rseq ?_
            try simp only[wm,wmd,↓wk,↓wl,nq,evV,↓reduceIte,sevalprocAttr]
            refine evTs_at (enc:=eResponderDevice) H (by rfl) (by rfl) ?_<;>clear H<;>intro xf H
            try simp only[eResponderDevice,eL,eM,wm,wmd,↓wk,↓wl,nq,evV,↓reduceIte,sevalprocAttr]
            refine AW.rseq ?_
            try simp only[wm,wmd,↓wk,↓wl,nq,evV,↓reduceIte,sevalprocAttr]
            refine AW.rseq ?_
            try simp only[wm,wmd,↓wk,↓wl,nq,evV,↓reduceIte,sevalprocAttr]
            refine rest_neqs (by rfl) ?_
            try simp only[wm,wmd,↓wk,↓wl,nq,evV,↓reduceIte,sevalprocAttr]
            refine evTs_ifg H (by rfl) ?_ ?_<;>clear H<;>intro H
            ·try simp only[wm,wmd,↓wk,↓wl,nq,evV,↓reduceIte,sevalprocAttr]
             refine AW.ift (by rfl) ?_
             refine AW.rseq ?_
             try simp only[wm,wmd,↓wk,↓wl,nq,evV,↓reduceIte,sevalprocAttr]
             refine AW.ret ?_
             refine blkQ.ret ?_
             refine loopQ.ret H ?_<;>clear H<;>intro H
             try dsimp only at H
             refine blk0.ret ?_
             refine seqQ.ret ?_
             cases H
             exact hQ _ _ _ _ (.inr rfl) (by simp only[resVs,omap,resV,wm,wmd,↓wk,↓wl,nq,evV,↓reduceIte,sevalprocAttr];rfl) (hand_plain (by rfl)) (by first | exact Or.inl rfl | exact Or.inr rfl)
            ·try simp only[wm,wmd,↓wk,↓wl,nq,evV,↓reduceIte,sevalprocAttr]
             refine evTs_at (enc:=eResponderDevice) H (by rfl) (by rfl) ?_<;>clear H<;>intro xg H
             try simp only[eResponderDevice,eL,eM,wm,wmd,↓wk,↓wl,nq,evV,↓reduceIte,sevalprocAttr]
             refine rest_neqs (by rfl) ?_
             try simp only[wm,wmd,↓wk,↓wl,nq,evV,↓reduceIte,sevalprocAttr]
             refine AW.ifc H (by rfl) ?_ ?_<;>clear H<;>intro H
             ·refine AW.rseq ?_
              try simp only[wm,wmd,↓wk,↓wl,nq,evV,↓reduceIte,sevalprocAttr]
              refine AW.ret ?_
              refine blkQ.ret ?_
              refine loopQ.ret H ?_<;>clear H<;>intro H
              try dsimp only at H
              refine blk0.ret ?_
              refine seqQ.ret ?_
              cases H
              exact hQ _ _ _ _ (.inr rfl) (by simp only[resVs,omap,resV,wm,wmd,↓wk,↓wl,nq,evV,↓reduceIte,sevalprocAttr];rfl) (hand_plain (by rfl)) (by first | exact Or.inl rfl | exact Or.inr rfl)
             ·refine AW.skip ?_
              refine blkQ.norm ?_
              refine AW.rend ?_
              try simp only[wm,wmd,↓wk,↓wl,nq,evV,↓reduceIte,sevalprocAttr]
              exact loopQ.next H ((Le.tz [] [0,8,76,77,78] (by simp only[f3_L3c,wm,wmr,rrm,↓wk,↓wl,evV,↓reduceIte,sevalprocAttr]<;>rfl)))
           ·refine AW.exit ?_
            refine seqQ.exit ?_
            refine loopQ.exit H ?_<;>clear H<;>intro H
            try dsimp only at H
            refine blk0.here ?_
            refine seqQ.norm ?_
            refine AW.rseq ?_
            try simp only[wm,wmd,↓wk,↓wl,nq,evV,↓reduceIte,sevalprocAttr]
            refine evTs_pure hFn H (fun _ h=>f6_ok h) (by rfl) (by rfl) (by rfl) (by rfl) (fun _=>rfl) ?_<;>clear H<;>intro xh H
            try simp only[eL,wm,wmd,↓wk,↓wl,nq,evV,↓reduceIte,sevalprocAttr]
            refine AW.ret ?_
            cases H
            exact hQ _ _ _ _ (.inr rfl) (by simp only[resVs,omap,resV,wm,wmd,↓wk,↓wl,nq,evV,↓reduceIte,sevalprocAttr];rfl) (hand_plain (by rfl)) (by first | exact Or.inl rfl | exact Or.inr rfl)
end Go.Proofs.YtgjfhplkochbpaaGreat
