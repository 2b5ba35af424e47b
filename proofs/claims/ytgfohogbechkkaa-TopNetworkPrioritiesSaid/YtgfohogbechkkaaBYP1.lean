import Derived.Test.YtgfohogbechkkaaBShelf
import Derived.Test.YtgfohogbechkkaaBM6
import Derived.Test.YtgfohogbechkkaaBMN
import Derived.Test.YtgfohogbechkkaaProg
import Derived.KernelRfl
namespace Go.Proofs.Ytgfohogbechkkaa
open Go Go.Ab
set_option maxHeartbeats 1000000
set_option maxRecDepth 4000
set_option linter.unusedSimpArgs false
set_option linter.unusedVariables false
structure ApiFrame where
  fUniverse:Int
  fSlots:(List UInt8)
def eApiFrame(x:ApiFrame):AV:=.agg [.int .i64 x.fUniverse,.str x.fSlots]
instance:IsFlat eApiFrame:=⟨fun _=>rfl⟩
instance:IsEnc 2 eApiFrame:=⟨fun _=>rfl,fun _=>rfl,fun _=>rfl⟩
structure Arr2_110 where
  fE0:Int
  fE1:Int
def eArr2_110(x:Arr2_110):AV:=.agg [.int .u8 x.fE0,.int .u8 x.fE1]
instance:IsFlat eArr2_110:=⟨fun _=>rfl⟩
instance:IsEnc 2 eArr2_110:=⟨fun _=>rfl,fun _=>rfl,fun _=>rfl⟩
structure NetworkStream where
  fUniverse:Int
  fSeq:Int
  fLast:Int
  fTimes:Int
  fSlots:(List UInt8)
def eNetworkStream(x:NetworkStream):AV:=.agg [.int .i64 x.fUniverse,.int .i64 x.fSeq,.int .i64 x.fLast,.int .i64 x.fTimes,.str x.fSlots]
instance:IsFlat eNetworkStream:=⟨fun _=>rfl⟩
instance:IsEnc 5 eNetworkStream:=⟨fun _=>rfl,fun _=>rfl,fun _=>rfl⟩
structure NetworkSender where
  fSource:Int
  fPriority:Int
  fSync:Int
  fPulse:Int
  fStreams:(List NetworkStream)
def eNetworkSender(x:NetworkSender):AV:=.agg [.int .u64 x.fSource,.int .i64 x.fPriority,.int .i64 x.fSync,.int .i64 x.fPulse,.sl 5 false (x.fStreams.map eNetworkStream)]
instance:IsEnc 5 eNetworkSender:=⟨fun _=>rfl,fun _=>rfl,fun _=>rfl⟩
structure NetworkPacket where
  fSource:Int
  fUniverse:Int
  fPriority:Int
  fSeq:Int
  fSync:Int
  fEnd:Bool
  fSlots:(List UInt8)
def eNetworkPacket(x:NetworkPacket):AV:=.agg [.int .u64 x.fSource,.int .i64 x.fUniverse,.int .i64 x.fPriority,.int .i64 x.fSeq,.int .i64 x.fSync,.bool x.fEnd,.str x.fSlots]
instance:IsFlat eNetworkPacket:=⟨fun _=>rfl⟩
instance:IsEnc 7 eNetworkPacket:=⟨fun _=>rfl,fun _=>rfl,fun _=>rfl⟩
structure ReceiverInput where
  fUniverse:Int
  fSource:Int
  fPriority:Int
  fSeq:Int
  fSync:Int
  fLast:Int
  fSlots:(List UInt8)
  fWait:(List UInt8)
def eReceiverInput(x:ReceiverInput):AV:=.agg [.int .i64 x.fUniverse,.int .u64 x.fSource,.int .i64 x.fPriority,.int .i64 x.fSeq,.int .i64 x.fSync,.int .i64 x.fLast,.str x.fSlots,.str x.fWait]
instance:IsFlat eReceiverInput:=⟨fun _=>rfl⟩
instance:IsEnc 8 eReceiverInput:=⟨fun _=>rfl,fun _=>rfl,fun _=>rfl⟩
structure ReceiverReceiver where
  fInputs:(List ReceiverInput)
def eReceiverReceiver(x:ReceiverReceiver):AV:=.agg [.sl 8 false (x.fInputs.map eReceiverInput)]
instance:IsEnc 1 eReceiverReceiver:=⟨fun _=>rfl,fun _=>rfl,fun _=>rfl⟩
structure ReceiverPlace where
  fUniverse:Int
  fSource:Int
def eReceiverPlace(x:ReceiverPlace):AV:=.agg [.int .i64 x.fUniverse,.int .u64 x.fSource]
instance:IsFlat eReceiverPlace:=⟨fun _=>rfl⟩
instance:IsEnc 2 eReceiverPlace:=⟨fun _=>rfl,fun _=>rfl,fun _=>rfl⟩
structure RecordEntry where
  fKind:Int
  fData:(List UInt8)
def eRecordEntry(x:RecordEntry):AV:=.agg [.int .i64 x.fKind,.str x.fData]
instance:IsFlat eRecordEntry:=⟨fun _=>rfl⟩
instance:IsEnc 2 eRecordEntry:=⟨fun _=>rfl,fun _=>rfl,fun _=>rfl⟩
structure RecordReader where
  fS:(List UInt8)
  fAt:Int
def eRecordReader(x:RecordReader):AV:=.agg [.str x.fS,.int .i64 x.fAt]
instance:IsFlat eRecordReader:=⟨fun _=>rfl⟩
instance:IsEnc 2 eRecordReader:=⟨fun _=>rfl,fun _=>rfl,fun _=>rfl⟩
noncomputable def f90_L1(x0:(List ApiFrame)):Lp (Int) ((Unit)⊕(Unit)) where
  body:=fun x1=>(if (decide (x1<((x0.length:Nat):Int)))=true then (if (decide (x1<12))=true then (at? x0 x1).bind fun x2=>(if (decide (1024<((x2.fSlots.length:Nat):Int)))=true then (some (.brk (Sum.inr ()))) else (some (.next (IntKind.i64.wrap (x1 + 1))))) else (some (.brk (Sum.inl ())))) else (some (.brk (Sum.inl ()))))
  cst:=fun x1=>⟨put (put (fun _=>.junk) 3 (.int .i64 x1)) 0 (.sl 2 false (x0.map eApiFrame)),[]⟩
theorem f90_L1c(x0:(List ApiFrame))(x1:Int):(f90_L1 x0).cst x1=⟨put (put (fun _=>.junk) 3 (.int .i64 x1)) 0 (.sl 2 false (x0.map eApiFrame)),[]⟩:=rfl
def c90_0:C:=.cond (.t 11) (.skip) (.exit 0)
def c90_1:C:=.cond (.t 20) (.seq (.reg [iI 2 (.mv (.c (.bool false)))]) .ret) (.skip)
def c90_2:C:=.reg [iI 12 (.mv (.t 3)),iI 13 (.bin .add (.t 12) (.c (.int .i64 1))),iI 3 (.mv (.t 13))]
def c90_3:C:=.seq (.block 1 (.seq (.reg [iI 14 (.mv (.t 0)),iI 15 (.mv (.t 3)),iI 16 (.iaddr 2 (.t 14) (.t 15)),iI 17 (.faddr 1 (.t 16)),iI 18 (.load 0 (.t 17)),iI 19 (.len 1 (.t 18)),iI 20 (.bin .gtr (.t 19) (.c (.int .i64 1024)))]) c90_1)) c90_2
def c90_4:C:=.block 0 (.loop (.seq (.seq (.reg [iI 4 (.mv (.t 3)),iI 5 (.mv (.t 0)),iI 6 (.len 0 (.t 5)),iI 7 (.bin .lss (.t 4) (.t 6)),iI 8 (.mv (.t 7)),iG (some 9) 8 true (.mv (.t 3)),iG (some 10) 8 true (.bin .lss (.t 9) (.c (.int .i64 12))),iI 11 (.pick (.t 8) (.t 10) (.c (.bool false)))]) c90_0) c90_3))
def c90_5:C:=.seq (.reg [iI 21 (.mv (.t 0)),iI 22 (.len 0 (.t 21)),iI 23 (.bin .leq (.t 22) (.c (.int .i64 12))),iI 2 (.mv (.t 23))]) .ret
def c90_6:C:=.seq (.seq (.reg [iI 3 (.mv (.c (.int .i64 0)))]) c90_4) c90_5
def ir90:C:=.seq (.reg [iI 2 (.mv (.c (.bool false)))]) c90_6
theorem fd90:fd? Try.prog 90=some (24,[.slot 2],ir90):=by kernel_rfl
noncomputable def f90(x0:(List ApiFrame)):Option (Bool) :=
  ((Lp.run (f90_L1 x0) 0).bind fun r_=>match r_ with | (Sum.inl _)=>(some (decide (((x0.length:Nat):Int)≤12))) | (Sum.inr _)=>(some false))
theorem f90_ok{x0:(List ApiFrame)}{r_:Bool}(H:f90 x0=some r_):Pure Try.prog 90 [.sl 2 false (x0.map eApiFrame)] (· = .bool r_):=by
 refine Pure.walk3 fd90 none (Nat.le_of_ble_eq_true rfl) (by rfl) fun Q hQ=>?_
 simp only[f90] at H
 refine AW.rseq ?_
 try simp only[↓wk,↓wl,nq,evV,↓reduceIte,sevalprocAttr]
 refine AW.sseq ?_
 refine AW.rseq ?_
 try simp only[↓wk,↓wl,nq,evV,↓reduceIte,sevalprocAttr]
 refine AW.bend ?_
 refine AW.iter H ((Le.tz [] [0,3] (by simp only[f90_L1c,rrm,↓wk,↓wl,evV,↓reduceIte,sevalprocAttr]<;>rfl))) ?_<;>clear H
 rintro x1 x_ st0_ H hst_
 rw[f90_L1c] at hst_
 simp only[f90_L1] at H
 subst hst_
 refine AW.sseq ?_
 refine AW.rseq ?_
 try simp only[↓wk,↓wl,nq,evV,↓reduceIte,sevalprocAttr]
 refine evTs_ifg H (by rfl) ?_ ?_<;>clear H<;>intro H
 ·try simp only[↓wk,↓wl,nq,evV,↓reduceIte,sevalprocAttr]
  refine AW.ifc H (by rfl) ?_ ?_<;>clear H<;>intro H
  ·refine AW.skip ?_
   refine seqQ.norm ?_
   refine AW.bseq ?_
   refine AW.rseq ?_
   try simp only[↓wk,↓wl,nq,evV,↓reduceIte,sevalprocAttr]
   refine evTs_at (enc:=eApiFrame) H (by rfl) (by rfl) ?_<;>clear H<;>intro x2 H
   try simp only[eApiFrame,eL,↓wk,↓wl,nq,evV,↓reduceIte,sevalprocAttr]
   refine AW.ifc H (by rfl) ?_ ?_<;>clear H<;>intro H
   ·refine AW.rseq ?_
    try simp only[↓wk,↓wl,nq,evV,↓reduceIte,sevalprocAttr]
    refine AW.ret ?_
    refine blkQ.ret ?_
    refine loopQ.ret H ?_<;>clear H<;>intro H
    try dsimp only at H
    refine blk0.ret ?_
    refine seqQ.ret ?_
    cases H
    exact hQ.fin
   ·refine AW.skip ?_
    refine blkQ.norm ?_
    refine AW.rend ?_
    try simp only[↓wk,↓wl,nq,evV,↓reduceIte,sevalprocAttr]
    exact loopQ.next H ((Le.tz [] [0,3] (by simp only[f90_L1c,rrm,↓wk,↓wl,evV,↓reduceIte,sevalprocAttr]<;>rfl)))
  ·refine AW.exit ?_
   refine seqQ.exit ?_
   refine loopQ.exit H ?_<;>clear H<;>intro H
   try dsimp only at H
   refine blk0.here ?_
   refine seqQ.norm ?_
   refine AW.rseq ?_
   try simp only[↓wk,↓wl,nq,evV,↓reduceIte,sevalprocAttr]
   refine AW.ret ?_
   cases H
   exact hQ.fin
 ·try simp only[↓wk,↓wl,nq,evV,↓reduceIte,sevalprocAttr]
  refine AW.iff (by rfl) ?_
  refine AW.exit ?_
  refine seqQ.exit ?_
  refine loopQ.exit H ?_<;>clear H<;>intro H
  try dsimp only at H
  refine blk0.here ?_
  refine seqQ.norm ?_
  refine AW.rseq ?_
  try simp only[↓wk,↓wl,nq,evV,↓reduceIte,sevalprocAttr]
  refine AW.ret ?_
  cases H
  exact hQ.fin
noncomputable def f41_L1(x0:(List ApiFrame)):Lp (Int) ((Unit)⊕(Int)) where
  body:=fun x1=>(if (decide (x1<((x0.length:Nat):Int)))=true then (at? x0 x1).bind fun x2=>(if (decide (x2.fUniverse<1))=true then (some (.brk (Sum.inr 2))) else (at? x0 x1).bind fun x3=>(if (decide (8<x3.fUniverse))=true then (some (.brk (Sum.inr 2))) else (at? x0 x1).bind fun x4=>(if (decide (((x4.fSlots.length:Nat):Int)≠512))=true then (some (.brk (Sum.inr 14))) else (if (decide (0<x1))=true then (at? x0 x1).bind fun x5=>(at? x0 (IntKind.i64.wrap (x1 - 1))).bind fun x6=>(if (decide (x5.fUniverse≤x6.fUniverse))=true then (some (.brk (Sum.inr 9))) else (some (.next (IntKind.i64.wrap (x1 + 1))))) else (some (.next (IntKind.i64.wrap (x1 + 1)))))))) else (some (.brk (Sum.inl ()))))
  cst:=fun x1=>⟨put (put (fun _=>.junk) 3 (.int .i64 x1)) 0 (.sl 2 false (x0.map eApiFrame)),[]⟩
theorem f41_L1c(x0:(List ApiFrame))(x1:Int):(f41_L1 x0).cst x1=⟨put (put (fun _=>.junk) 3 (.int .i64 x1)) 0 (.sl 2 false (x0.map eApiFrame)),[]⟩:=rfl
def c41_0:C:=.cond (.t 6) (.seq (.reg [iI 2 (.mv (.c (.int .i64 5)))]) .ret) (.skip)
def c41_1:C:=.cond (.t 10) (.skip) (.exit 0)
def c41_2:C:=.cond (.t 26) (.seq (.reg [iI 2 (.mv (.c (.int .i64 2)))]) .ret) (.skip)
def c41_3:C:=.cond (.t 33) (.seq (.reg [iI 2 (.mv (.c (.int .i64 14)))]) .ret) (.skip)
def c41_4:C:=.cond (.t 49) (.seq (.reg [iI 2 (.mv (.c (.int .i64 9)))]) .ret) (.skip)
def c41_5:C:=.seq (.reg [iI 34 (.mv (.t 3)),iI 35 (.bin .gtr (.t 34) (.c (.int .i64 0))),iI 36 (.mv (.t 35)),iG (some 37) 36 true (.mv (.t 0)),iG (some 38) 36 true (.mv (.t 3)),iG (some 39) 36 true (.iaddr 2 (.t 37) (.t 38)),iG (some 40) 36 true (.faddr 0 (.t 39)),iG (some 41) 36 true (.load 0 (.t 40)),iG (some 42) 36 true (.mv (.t 0)),iG (some 43) 36 true (.mv (.t 3)),iG (some 44) 36 true (.bin .sub (.t 43) (.c (.int .i64 1))),iG (some 45) 36 true (.iaddr 2 (.t 42) (.t 44)),iG (some 46) 36 true (.faddr 0 (.t 45)),iG (some 47) 36 true (.load 0 (.t 46)),iG (some 48) 36 true (.bin .leq (.t 41) (.t 47)),iI 49 (.pick (.t 36) (.t 48) (.c (.bool false)))]) c41_4
def c41_6:C:=.seq (.seq (.reg [iI 27 (.mv (.t 0)),iI 28 (.mv (.t 3)),iI 29 (.iaddr 2 (.t 27) (.t 28)),iI 30 (.faddr 1 (.t 29)),iI 31 (.load 0 (.t 30)),iI 32 (.len 1 (.t 31)),iI 33 (.bin .neq (.t 32) (.c (.int .i64 512)))]) c41_3) c41_5
def c41_7:C:=.reg [iI 11 (.mv (.t 3)),iI 12 (.bin .add (.t 11) (.c (.int .i64 1))),iI 3 (.mv (.t 12))]
def c41_8:C:=.seq (.block 1 (.seq (.seq (.reg [iI 13 (.mv (.t 0)),iI 14 (.mv (.t 3)),iI 15 (.iaddr 2 (.t 13) (.t 14)),iI 16 (.faddr 0 (.t 15)),iI 17 (.load 0 (.t 16)),iI 18 (.bin .lss (.t 17) (.c (.int .i64 1))),iI 19 (.mv (.t 18)),iG (some 20) 19 false (.mv (.t 0)),iG (some 21) 19 false (.mv (.t 3)),iG (some 22) 19 false (.iaddr 2 (.t 20) (.t 21)),iG (some 23) 19 false (.faddr 0 (.t 22)),iG (some 24) 19 false (.load 0 (.t 23)),iG (some 25) 19 false (.bin .gtr (.t 24) (.c (.int .i64 8))),iI 26 (.pick (.t 19) (.c (.bool true)) (.t 25))]) c41_2) c41_6)) c41_7
def c41_9:C:=.block 0 (.loop (.seq (.seq (.reg [iI 7 (.mv (.t 3)),iI 8 (.mv (.t 0)),iI 9 (.len 0 (.t 8)),iI 10 (.bin .lss (.t 7) (.t 9))]) c41_1) c41_8))
def c41_10:C:=.seq (.reg [iI 2 (.mv (.c (.int .i64 0)))]) .ret
def c41_11:C:=.seq (.seq (.reg [iI 3 (.mv (.c (.int .i64 0)))]) c41_9) c41_10
def c41_12:C:=.seq (.seq (.reg [iI 4 (.mv (.t 0)),iI 5 (.len 0 (.t 4)),iI 6 (.bin .gtr (.t 5) (.c (.int .i64 8)))]) c41_0) c41_11
def ir41:C:=.seq (.reg [iI 2 (.mv (.c (.int .i64 0)))]) c41_12
theorem fd41:fd? Try.prog 41=some (50,[.slot 2],ir41):=by kernel_rfl
noncomputable def f41(x0:(List ApiFrame)):Option (Int) :=
  (if (decide (8<((x0.length:Nat):Int)))=true then (some 5) else ((Lp.run (f41_L1 x0) 0).bind fun r_=>match r_ with | (Sum.inl _)=>(some 0) | (Sum.inr x1)=>(some x1)))
theorem f41_ok{x0:(List ApiFrame)}{r_:Int}(H:f41 x0=some r_):Pure Try.prog 41 [.sl 2 false (x0.map eApiFrame)] (· = .int .i64 r_):=by
 refine Pure.walk3 fd41 none (Nat.le_of_ble_eq_true rfl) (by rfl) fun Q hQ=>?_
 simp only[f41] at H
 refine AW.rseq ?_
 try simp only[↓wk,↓wl,nq,evV,↓reduceIte,sevalprocAttr]
 refine AW.sseq ?_
 refine AW.rseq ?_
 try simp only[↓wk,↓wl,nq,evV,↓reduceIte,sevalprocAttr]
 refine AW.ifc H (by rfl) ?_ ?_<;>clear H<;>intro H
 ·refine AW.rseq ?_
  try simp only[↓wk,↓wl,nq,evV,↓reduceIte,sevalprocAttr]
  refine AW.ret ?_
  refine seqQ.ret ?_
  cases H
  exact hQ.fin
 ·refine AW.skip ?_
  refine seqQ.norm ?_
  refine AW.sseq ?_
  refine AW.rseq ?_
  try simp only[↓wk,↓wl,nq,evV,↓reduceIte,sevalprocAttr]
  refine AW.bend ?_
  refine AW.iter H ((Le.tz [] [0,3] (by simp only[f41_L1c,rrm,↓wk,↓wl,evV,↓reduceIte,sevalprocAttr]<;>rfl))) ?_<;>clear H
  rintro x1 x_ st0_ H hst_
  rw[f41_L1c] at hst_
  simp only[f41_L1] at H
  subst hst_
  refine AW.sseq ?_
  refine AW.rseq ?_
  try simp only[↓wk,↓wl,nq,evV,↓reduceIte,sevalprocAttr]
  refine AW.ifc H (by rfl) ?_ ?_<;>clear H<;>intro H
  ·refine AW.skip ?_
   refine seqQ.norm ?_
   refine AW.bseq ?_
   refine AW.sseq ?_
   refine AW.rseq ?_
   try simp only[↓wk,↓wl,nq,evV,↓reduceIte,sevalprocAttr]
   refine evTs_at (enc:=eApiFrame) H (by rfl) (by rfl) ?_<;>clear H<;>intro x2 H
   try simp only[eApiFrame,eL,↓wk,↓wl,nq,evV,↓reduceIte,sevalprocAttr]
   refine evTs_ifg H (by rfl) ?_ ?_<;>clear H<;>intro H
   ·try simp only[↓wk,↓wl,nq,evV,↓reduceIte,sevalprocAttr]
    refine AW.ift (by rfl) ?_
    refine AW.rseq ?_
    try simp only[↓wk,↓wl,nq,evV,↓reduceIte,sevalprocAttr]
    refine AW.ret ?_
    refine seqQ.ret ?_
    refine blkQ.ret ?_
    refine loopQ.ret H ?_<;>clear H<;>intro H
    try dsimp only at H
    refine blk0.ret ?_
    refine seqQ.ret ?_
    cases H
    exact hQ.fin
   ·try simp only[↓wk,↓wl,nq,evV,↓reduceIte,sevalprocAttr]
    refine evTs_at (enc:=eApiFrame) H (by rfl) (by rfl) ?_<;>clear H<;>intro x3 H
    try simp only[eApiFrame,eL,↓wk,↓wl,nq,evV,↓reduceIte,sevalprocAttr]
    refine AW.ifc H (by rfl) ?_ ?_<;>clear H<;>intro H
    ·refine AW.rseq ?_
     try simp only[↓wk,↓wl,nq,evV,↓reduceIte,sevalprocAttr]
     refine AW.ret ?_
     refine seqQ.ret ?_
     refine blkQ.ret ?_
     refine loopQ.ret H ?_<;>clear H<;>intro H
     try dsimp only at H
     refine blk0.ret ?_
     refine seqQ.ret ?_
     cases H
     exact hQ.fin
    ·refine AW.skip ?_
     refine seqQ.norm ?_
     refine AW.sseq ?_
     refine AW.rseq ?_
     try simp only[↓wk,↓wl,nq,evV,↓reduceIte,sevalprocAttr]
     refine evTs_at (enc:=eApiFrame) H (by rfl) (by rfl) ?_<;>clear H<;>intro x4 H
     try simp only[eApiFrame,eL,↓wk,↓wl,nq,evV,↓reduceIte,sevalprocAttr]
     refine AW.ifc H (by rfl) ?_ ?_<;>clear H<;>intro H
     ·refine AW.rseq ?_
      try simp only[↓wk,↓wl,nq,evV,↓reduceIte,sevalprocAttr]
      refine AW.ret ?_
      refine seqQ.ret ?_
      refine blkQ.ret ?_
      refine loopQ.ret H ?_<;>clear H<;>intro H
      try dsimp only at H
      refine blk0.ret ?_
      refine seqQ.ret ?_
      cases H
      exact hQ.fin
     ·refine AW.skip ?_
      refine seqQ.norm ?_
      refine AW.rseq ?_
      try simp only[↓wk,↓wl,nq,evV,↓reduceIte,sevalprocAttr]
      refine evTs_ifg H (by rfl) ?_ ?_<;>clear H<;>intro H
      ·try simp only[↓wk,↓wl,nq,evV,↓reduceIte,sevalprocAttr]
       refine evTs_at (enc:=eApiFrame) H (by rfl) (by rfl) ?_<;>clear H<;>intro x5 H
       try simp only[eApiFrame,eL,↓wk,↓wl,nq,evV,↓reduceIte,sevalprocAttr]
       refine evTs_at (enc:=eApiFrame) H (by rfl) (by rfl) ?_<;>clear H<;>intro x6 H
       try simp only[eApiFrame,eL,↓wk,↓wl,nq,evV,↓reduceIte,sevalprocAttr]
       refine AW.ifc H (by rfl) ?_ ?_<;>clear H<;>intro H
       ·refine AW.rseq ?_
        try simp only[↓wk,↓wl,nq,evV,↓reduceIte,sevalprocAttr]
        refine AW.ret ?_
        refine blkQ.ret ?_
        refine loopQ.ret H ?_<;>clear H<;>intro H
        try dsimp only at H
        refine blk0.ret ?_
        refine seqQ.ret ?_
        cases H
        exact hQ.fin
       ·refine AW.skip ?_
        refine blkQ.norm ?_
        refine AW.rend ?_
        try simp only[↓wk,↓wl,nq,evV,↓reduceIte,sevalprocAttr]
        exact loopQ.next H ((Le.tz [] [0,3] (by simp only[f41_L1c,rrm,↓wk,↓wl,evV,↓reduceIte,sevalprocAttr]<;>rfl)))
      ·try simp only[↓wk,↓wl,nq,evV,↓reduceIte,sevalprocAttr]
       refine AW.iff (by rfl) ?_
       refine AW.skip ?_
       refine blkQ.norm ?_
       refine AW.rend ?_
       try simp only[↓wk,↓wl,nq,evV,↓reduceIte,sevalprocAttr]
       exact loopQ.next H ((Le.tz [] [0,3] (by simp only[f41_L1c,rrm,↓wk,↓wl,evV,↓reduceIte,sevalprocAttr]<;>rfl)))
  ·refine AW.exit ?_
   refine seqQ.exit ?_
   refine loopQ.exit H ?_<;>clear H<;>intro H
   try dsimp only at H
   refine blk0.here ?_
   refine seqQ.norm ?_
   refine AW.rseq ?_
   try simp only[↓wk,↓wl,nq,evV,↓reduceIte,sevalprocAttr]
   refine AW.ret ?_
   cases H
   exact hQ.fin
def c53_0:C:=.seq (.reg [iI 3 (.mv (.t 0)),iI 4 (.call (.c (.fn 90 [])) [(.t 3)]),iI 5 (.mv (.t 4)),iG (some 6) 5 true (.mv (.t 0)),iG (some 7) 5 true (.call (.c (.fn 41 [])) [(.t 6)]),iG (some 8) 5 true (.bin .eql (.t 7) (.c (.int .i64 0))),iI 9 (.pick (.t 5) (.t 8) (.c (.bool false))),iI 2 (.mv (.t 9))]) .ret
def ir53:C:=.seq (.reg [iI 2 (.mv (.c (.bool false)))]) c53_0
theorem fd53:fd? Try.prog 53=some (10,[.slot 2],ir53):=by kernel_rfl
noncomputable def f53(x0:(List ApiFrame)):Option (Bool) :=
  (f90 x0).bind fun x1=>(if x1=true then (f41 x0).bind fun x2=>(some (decide (x2=0))) else (some false))
theorem f53_ok{x0:(List ApiFrame)}{r_:Bool}(H:f53 x0=some r_):Pure Try.prog 53 [.sl 2 false (x0.map eApiFrame)] (· = .bool r_):=by
 refine Pure.walk3 fd53 none (Nat.le_of_ble_eq_true rfl) (by rfl) fun Q hQ=>?_
 simp only[f53] at H
 refine AW.rseq ?_
 try simp only[↓wk,↓wl,nq,evV,↓reduceIte,sevalprocAttr]
 refine AW.rseq ?_
 try simp only[↓wk,↓wl,nq,evV,↓reduceIte,sevalprocAttr]
 refine evTs_pure hFn H (fun _ h=>f90_ok h) (by rfl) (by rfl) (by rfl) (by rfl) (fun _=>rfl) ?_<;>clear H<;>intro x1 H
 try simp only[eL,↓wk,↓wl,nq,evV,↓reduceIte,sevalprocAttr]
 refine evTs_ifg H (by rfl) ?_ ?_<;>clear H<;>intro H
 ·try simp only[↓wk,↓wl,nq,evV,↓reduceIte,sevalprocAttr]
  refine evTs_pure hFn H (fun _ h=>f41_ok h) (by rfl) (by rfl) (by rfl) (by rfl) (fun _=>rfl) ?_<;>clear H<;>intro x2 H
  try simp only[eL,↓wk,↓wl,nq,evV,↓reduceIte,sevalprocAttr]
  refine AW.ret ?_
  cases H
  exact hQ.fin
 ·try simp only[↓wk,↓wl,nq,evV,↓reduceIte,sevalprocAttr]
  refine AW.ret ?_
  cases H
  exact hQ.fin
def c93_0:C:=.seq (.reg [iI 7 (.mv (.t 0)),iI 8 (.mv (.t 1)),iI 9 (.bin .geq (.t 7) (.t 8)),iI 10 (.mv (.t 9)),iG (some 11) 10 true (.mv (.t 0)),iG (some 12) 10 true (.mv (.t 2)),iG (some 13) 10 true (.bin .leq (.t 11) (.t 12)),iI 14 (.pick (.t 10) (.t 13) (.c (.bool false))),iI 6 (.mv (.t 14))]) .ret
def ir93:C:=.seq (.reg [iI 6 (.mv (.c (.bool false)))]) c93_0
theorem fd93:fd? Try.prog 93=some (15,[.slot 6],ir93):=by kernel_rfl
noncomputable def f93(x0:Int)(x1:Int)(x2:Int):Option (Bool) :=
  (if (decide (x1≤x0))=true then (some (decide (x0≤x2))) else (some false))
theorem f93_ok{x0:Int}{x1:Int}{x2:Int}{r_:Bool}(H:f93 x0 x1 x2=some r_):Pure Try.prog 93 [.int .i64 x0,.int .i64 x1,.int .i64 x2] (· = .bool r_):=by
 refine Pure.walk3 fd93 none (Nat.le_of_ble_eq_true rfl) (by rfl) fun Q hQ=>?_
 simp only[f93] at H
 refine AW.rseq ?_
 try simp only[↓wk,↓wl,nq,evV,↓reduceIte,sevalprocAttr]
 refine AW.rseq ?_
 try simp only[↓wk,↓wl,nq,evV,↓reduceIte,sevalprocAttr]
 refine evTs_ifg H (by rfl) ?_ ?_<;>clear H<;>intro H
 ·try simp only[↓wk,↓wl,nq,evV,↓reduceIte,sevalprocAttr]
  refine AW.ret ?_
  cases H
  exact hQ.fin
 ·try simp only[↓wk,↓wl,nq,evV,↓reduceIte,sevalprocAttr]
  refine AW.ret ?_
  cases H
  exact hQ.fin
def c78_0:C:=.seq (.reg [iI 7 (.mv (.t 0)),iI 8 (.bin .gtr (.t 7) (.c (.int .u64 0))),iI 9 (.mv (.t 8)),iG (some 10) 9 true (.mv (.t 0)),iG (some 11) 9 true (.bin .lss (.t 10) (.c (.int .u64 281474976710655))),iI 12 (.pick (.t 9) (.t 11) (.c (.bool false))),iI 13 (.mv (.t 12)),iG (some 14) 13 true (.mv (.t 1)),iG (some 15) 13 true (.call (.c (.fn 93 [])) [(.t 14),(.c (.int .i64 0)),(.c (.int .i64 200))]),iI 16 (.pick (.t 13) (.t 15) (.c (.bool false))),iI 17 (.mv (.t 16)),iG (some 18) 17 true (.mv (.t 2)),iG (some 19) 17 true (.call (.c (.fn 93 [])) [(.t 18),(.c (.int .i64 0)),(.c (.int .i64 8))]),iI 20 (.pick (.t 17) (.t 19) (.c (.bool false))),iI 6 (.mv (.t 20))]) .ret
def ir78:C:=.seq (.reg [iI 6 (.mv (.c (.bool false)))]) c78_0
theorem fd78:fd? Try.prog 78=some (21,[.slot 6],ir78):=by kernel_rfl
noncomputable def f78(x0:Int)(x1:Int)(x2:Int):Option (Bool) :=
  (if (decide (0<x0))=true then (if (decide (x0<281474976710655))=true then (f93 x1 0 200).bind fun x3=>(if x3=true then (f93 x2 0 8).bind fun x4=>(some x4) else (some false)) else (some false)) else (some false))
theorem f78_ok{x0:Int}{x1:Int}{x2:Int}{r_:Bool}(H:f78 x0 x1 x2=some r_):Pure Try.prog 78 [.int .u64 x0,.int .i64 x1,.int .i64 x2] (· = .bool r_):=by
 refine Pure.walk3 fd78 none (Nat.le_of_ble_eq_true rfl) (by rfl) fun Q hQ=>?_
 simp only[f78] at H
 refine AW.rseq ?_
 try simp only[↓wk,↓wl,nq,evV,↓reduceIte,sevalprocAttr]
 refine AW.rseq ?_
 try simp only[↓wk,↓wl,nq,evV,↓reduceIte,sevalprocAttr]
 refine evTs_ifg H (by rfl) ?_ ?_<;>clear H<;>intro H
 ·try simp only[↓wk,↓wl,nq,evV,↓reduceIte,sevalprocAttr]
  refine evTs_ifg H (by rfl) ?_ ?_<;>clear H<;>intro H
  ·try simp only[↓wk,↓wl,nq,evV,↓reduceIte,sevalprocAttr]
   refine evTs_pure hFn H (fun _ h=>f93_ok h) (by rfl) (by rfl) (by rfl) (by rfl) (fun _=>rfl) ?_<;>clear H<;>intro x3 H
   try simp only[eL,↓wk,↓wl,nq,evV,↓reduceIte,sevalprocAttr]
   refine evTs_ifg H (by rfl) ?_ ?_<;>clear H<;>intro H
   ·try simp only[↓wk,↓wl,nq,evV,↓reduceIte,sevalprocAttr]
    refine evTs_pure hFn H (fun _ h=>f93_ok h) (by rfl) (by rfl) (by rfl) (by rfl) (fun _=>rfl) ?_<;>clear H<;>intro x4 H
    try simp only[eL,↓wk,↓wl,nq,evV,↓reduceIte,sevalprocAttr]
    refine AW.ret ?_
    cases H
    exact hQ.fin
   ·try simp only[↓wk,↓wl,nq,evV,↓reduceIte,sevalprocAttr]
    refine AW.ret ?_
    cases H
    exact hQ.fin
  ·try simp only[↓wk,↓wl,nq,evV,↓reduceIte,sevalprocAttr]
   refine AW.ret ?_
   cases H
   exact hQ.fin
 ·try simp only[↓wk,↓wl,nq,evV,↓reduceIte,sevalprocAttr]
  refine AW.ret ?_
  cases H
  exact hQ.fin
def c42_0:C:=.cond (.t 12) (.seq (.reg [iI 13 (.build [(1,(.int .u64 0)),(1,(.int .i64 0)),(1,(.int .i64 0)),(1,(.int .i64 0)),(1,(.sl 5 true []))] []),iN (.store 5 (.t 6) (.t 13)),iI 7 (.mv (.c (.int .i64 2)))]) .ret) (.skip)
def c42_1:C:=.seq (.reg [iI 14 (.mv (.t 0)),iI 15 (.mv (.t 1)),iI 16 (.mv (.t 2)),iI 17 (.build [(1,(.int .u64 0)),(1,(.int .i64 0)),(1,(.int .i64 0)),(1,(.int .i64 0)),(1,(.sl 5 true []))] [(0,0,(.t 14)),(1,0,(.t 15)),(2,0,(.t 16))]),iN (.store 5 (.t 6) (.t 17)),iI 7 (.mv (.c (.int .i64 0)))]) .ret
def c42_2:C:=.seq (.seq (.reg [iI 8 (.mv (.t 0)),iI 9 (.mv (.t 1)),iI 10 (.mv (.t 2)),iI 11 (.call (.c (.fn 78 [])) [(.t 8),(.t 9),(.t 10)]),iI 12 (.un .not (.t 11))]) c42_0) c42_1
def ir42:C:=.seq (.reg [iI 6 (.alloc [(1,(.int .u64 0)),(1,(.int .i64 0)),(1,(.int .i64 0)),(1,(.int .i64 0)),(1,(.sl 5 true []))]),iI 7 (.mv (.c (.int .i64 0)))]) c42_2
theorem fd42:fd? Try.prog 42=some (18,[.cell 6 5,.slot 7],ir42):=by kernel_rfl
noncomputable def f42(x0:Int)(x1:Int)(x2:Int):Option (NetworkSender×Int) :=
  (f78 x0 x1 x2).bind fun x3=>(if (!x3)=true then (some ((NetworkSender.mk 0 0 0 0 ([])),2)) else (some ((NetworkSender.mk x0 x1 x2 0 ([])),0)))
theorem f42_ok{x0:Int}{x1:Int}{x2:Int}{r_:NetworkSender×Int}(H:f42 x0 x1 x2=some r_):Pure Try.prog 42 [.int .u64 x0,.int .i64 x1,.int .i64 x2] (· = .tup [.agg [.int .u64 r_.1.fSource,.int .i64 r_.1.fPriority,.int .i64 r_.1.fSync,.int .i64 r_.1.fPulse,.sl 5 false (r_.1.fStreams.map eNetworkStream)],.int .i64 r_.2]):=by
 refine Pure.walk3 fd42 none (Nat.le_of_ble_eq_true rfl) (by rfl) fun Q hQ=>?_
 simp only[f42] at H
 refine AW.rseq ?_
 try simp only[↓wk,↓wl,nq,evV,↓reduceIte,sevalprocAttr]
 refine AW.sseq ?_
 refine AW.rseq ?_
 try simp only[↓wk,↓wl,nq,evV,↓reduceIte,sevalprocAttr]
 refine evTs_pure hFn H (fun _ h=>f78_ok h) (by rfl) (by rfl) (by rfl) (by rfl) (fun _=>rfl) ?_<;>clear H<;>intro x3 H
 try simp only[eL,↓wk,↓wl,nq,evV,↓reduceIte,sevalprocAttr]
 refine AW.ifc H (by rfl) ?_ ?_<;>clear H<;>intro H
 ·refine AW.rseq ?_
  try simp only[↓wk,↓wl,nq,evV,↓reduceIte,sevalprocAttr]
  refine AW.ret ?_
  refine seqQ.ret ?_
  cases H
  exact hQ.fin
 ·refine AW.skip ?_
  refine seqQ.norm ?_
  refine AW.rseq ?_
  try simp only[↓wk,↓wl,nq,evV,↓reduceIte,sevalprocAttr]
  refine AW.ret ?_
  cases H
  exact hQ.fin
noncomputable def f87(s:List UInt8)(n:Int):Option (List UInt8):=rep? s n
theorem f87_ok{s:List UInt8}{n:Int}{r_:List UInt8}(H:f87 s n=some r_):Pure Try.prog 87 [.str s,.int .i64 n] (· = .str r_) :=
  repeat_pure (fun _ _=>trivial) ⟨Try.f87,_,Try.func87,by kernel_rfl,rfl⟩ Try.strings_Repeat H
def c50_0:C:=.seq (.regq [iI 5 (.mv (.t 0)),iI 6 (.mv (.t 1)),iI 7 (.cint .u8 (.t 6)),iI 8 (.mkslp 0 1 (.int .u8 0) [(0,(.t 7))]),iI 9 (.cstr (.t 8)),iI 10 (.call (.c (.fn 87 [])) [(.c (.str [0])),(.c (.int .i64 511))]),iI 11 (.bin .add (.t 9) (.t 10)),iI 12 (.build [(1,(.int .i64 0)),(1,(.str []))] [(0,0,(.t 5)),(1,0,(.t 11))]),iN (.store 2 (.t 4) (.t 12))]) .ret
def ir50:C:=.seq (.reg [iI 4 (.alloc [(1,(.int .i64 0)),(1,(.str []))])]) c50_0
theorem fd50:fd? Try.prog 50=some (13,[.cell 4 2],ir50):=by kernel_rfl
noncomputable def f50(x0:Int)(x1:Int):Option (ApiFrame) :=
  (f87 ([0]) 511).bind fun x2=>(cat? (([(IntKind.u8.wrap x1)]).map b8) x2).bind fun x3=>(some (ApiFrame.mk x0 x3))
theorem f50_ok{x0:Int}{x1:Int}{r_:ApiFrame}(H:f50 x0 x1=some r_):Pure Try.prog 50 [.int .i64 x0,.int .i64 x1] (· = .agg [.int .i64 r_.fUniverse,.str r_.fSlots]):=by
 refine Pure.walk3 fd50 none (Nat.le_of_ble_eq_true rfl) (by rfl) fun Q hQ=>?_
 simp only[f50] at H
 refine AW.rseq ?_
 try simp only[↓wk,↓wl,nq,evV,↓reduceIte,sevalprocAttr]
 refine AW.rqseq ?_
 try simp only[↓wk,↓wl,nq,evV,↓reduceIte,sevalprocAttr]
 refine evTs_cstr (xs:=[(IntKind.u8.wrap x1)]) (by rfl) ?_
 try simp only[↓wk,↓wl,nq,evV,↓reduceIte,sevalprocAttr]
 refine evTs_pure hFnq H (fun _ h=>f87_ok h) (by rfl) (by rfl) (by rfl) (by rfl) (fun _=>rfl) ?_<;>clear H<;>intro x2 H
 try simp only[eL,↓wk,↓wl,nq,evV,↓reduceIte,sevalprocAttr]
 refine rest_cat H ?_<;>clear H<;>intro x3 H
 try simp only[↓wk,↓wl,nq,evV,↓reduceIte,sevalprocAttr]
 refine AW.ret ?_
 cases H
 exact hQ.fin
def c94_0:C:=.seq (.reg [iI 3 (.mv (.t 0)),iI 4 (.call (.c (.fn 93 [])) [(.t 3),(.c (.int .i64 0)),(.c (.int .i64 255))]),iI 2 (.mv (.t 4))]) .ret
def ir94:C:=.seq (.reg [iI 2 (.mv (.c (.bool false)))]) c94_0
theorem fd94:fd? Try.prog 94=some (5,[.slot 2],ir94):=by kernel_rfl
noncomputable def f94(x0:Int):Option (Bool) :=
  (f93 x0 0 255).bind fun x1=>(some x1)
theorem f94_ok{x0:Int}{r_:Bool}(H:f94 x0=some r_):Pure Try.prog 94 [.int .i64 x0] (· = .bool r_):=by
 refine Pure.walk3 fd94 none (Nat.le_of_ble_eq_true rfl) (by rfl) fun Q hQ=>?_
 simp only[f94] at H
 refine AW.rseq ?_
 try simp only[↓wk,↓wl,nq,evV,↓reduceIte,sevalprocAttr]
 refine AW.rseq ?_
 try simp only[↓wk,↓wl,nq,evV,↓reduceIte,sevalprocAttr]
 refine evTs_pure hFn H (fun _ h=>f93_ok h) (by rfl) (by rfl) (by rfl) (by rfl) (fun _=>rfl) ?_<;>clear H<;>intro x1 H
 try simp only[eL,↓wk,↓wl,nq,evV,↓reduceIte,sevalprocAttr]
 refine AW.ret ?_
 cases H
 exact hQ.fin
noncomputable def f111_L1(x0:NetworkSender):Lp (Int) ((Unit)⊕(Int)) where
  body:=fun x1=>(if (decide (x1<((x0.fStreams.length:Nat):Int)))=true then (at? x0.fStreams x1).bind fun x2=>(f93 x2.fUniverse 1 8).bind fun x3=>(if (!x3)=true then (some (.brk (Sum.inr 2))) else (f94 x2.fSeq).bind fun x4=>(if (!x4)=true then (some (.brk (Sum.inr 2))) else (f93 x2.fLast 0 10000000).bind fun x5=>(if (!x5)=true then (some (.brk (Sum.inr 2))) else (f93 x2.fTimes 1 3).bind fun x6=>(if (!x6)=true then (some (.brk (Sum.inr 2))) else (if (decide (((x2.fSlots.length:Nat):Int)≠512))=true then (some (.brk (Sum.inr 14))) else (if (decide (0<x1))=true then (at? x0.fStreams (IntKind.i64.wrap (x1 - 1))).bind fun x7=>(if (decide (x2.fUniverse≤x7.fUniverse))=true then (some (.brk (Sum.inr 9))) else (some (.next (IntKind.i64.wrap (x1 + 1))))) else (some (.next (IntKind.i64.wrap (x1 + 1)))))))))) else (some (.brk (Sum.inl ()))))
  cst:=fun x1=>⟨put (put (put (put (fun _=>.junk) 26 (.int .i64 x1)) 25 (.int .i64 ((x0.fStreams.length:Nat):Int))) 24 (.sl 5 false (x0.fStreams.map eNetworkStream))) 1 (.ptr 0 0),[.cel [.int .u64 x0.fSource,.int .i64 x0.fPriority,.int .i64 x0.fSync,.int .i64 x0.fPulse,.sl 5 false (x0.fStreams.map eNetworkStream)]]⟩
theorem f111_L1c(x0:NetworkSender)(x1:Int):(f111_L1 x0).cst x1=⟨put (put (put (put (fun _=>.junk) 26 (.int .i64 x1)) 25 (.int .i64 ((x0.fStreams.length:Nat):Int))) 24 (.sl 5 false (x0.fStreams.map eNetworkStream))) 1 (.ptr 0 0),[.cel [.int .u64 x0.fSource,.int .i64 x0.fPriority,.int .i64 x0.fSync,.int .i64 x0.fPulse,.sl 5 false (x0.fStreams.map eNetworkStream)]]⟩:=rfl
def c111_0:C:=.cond (.t 18) (.seq (.reg [iI 2 (.mv (.c (.int .i64 2)))]) .ret) (.skip)
def c111_1:C:=.cond (.t 22) (.seq (.reg [iI 2 (.mv (.c (.int .i64 5)))]) .ret) (.skip)
def c111_2:C:=.cond (.t 59) (.seq (.reg [iI 2 (.mv (.c (.int .i64 9)))]) .ret) (.skip)
def c111_3:C:=.cond (.t 54) (.seq (.reg [iI 2 (.mv (.c (.int .i64 14)))]) .ret) (.seq (.reg [iI 60 (.mv (.t 3)),iI 61 (.bin .gtr (.t 60) (.c (.int .i64 0))),iI 62 (.mv (.t 61)),iG (some 63) 62 true (.faddr 0 (.t 4)),iG (some 64) 62 true (.load 0 (.t 63)),iG (some 65) 62 true (.faddr 4 (.t 1)),iG (some 66) 62 true (.load 0 (.t 65)),iG (some 67) 62 true (.mv (.t 3)),iG (some 68) 62 true (.bin .sub (.t 67) (.c (.int .i64 1))),iG (some 69) 62 true (.iaddr 5 (.t 66) (.t 68)),iG (some 70) 62 true (.faddr 0 (.t 69)),iG (some 71) 62 true (.load 0 (.t 70)),iG (some 72) 62 true (.bin .leq (.t 64) (.t 71)),iI 73 (.pick (.t 62) (.t 72) (.c (.bool false))),iI 59 (.mv (.t 73))]) c111_2)
def c111_4:C:=.cond (.t 31) (.seq (.reg [iI 2 (.mv (.c (.int .i64 2)))]) .ret) (.seq (.reg [iI 55 (.faddr 4 (.t 4)),iI 56 (.load 0 (.t 55)),iI 57 (.len 1 (.t 56)),iI 58 (.bin .neq (.t 57) (.c (.int .i64 512))),iI 54 (.mv (.t 58))]) c111_3)
def c111_5:C:=.block 2 (.seq (.reg [iI 32 (.faddr 0 (.t 4)),iI 33 (.load 0 (.t 32)),iI 34 (.call (.c (.fn 93 [])) [(.t 33),(.c (.int .i64 1)),(.c (.int .i64 8))]),iI 35 (.un .not (.t 34)),iI 36 (.mv (.t 35)),iG (some 37) 36 false (.faddr 1 (.t 4)),iG (some 38) 36 false (.load 0 (.t 37)),iG (some 39) 36 false (.call (.c (.fn 94 [])) [(.t 38)]),iG (some 40) 36 false (.un .not (.t 39)),iI 41 (.pick (.t 36) (.c (.bool true)) (.t 40)),iI 42 (.mv (.t 41)),iG (some 43) 42 false (.faddr 2 (.t 4)),iG (some 44) 42 false (.load 0 (.t 43)),iG (some 45) 42 false (.call (.c (.fn 93 [])) [(.t 44),(.c (.int .i64 0)),(.c (.int .i64 10000000))]),iG (some 46) 42 false (.un .not (.t 45)),iI 47 (.pick (.t 42) (.c (.bool true)) (.t 46)),iI 48 (.mv (.t 47)),iG (some 49) 48 false (.faddr 3 (.t 4)),iG (some 50) 48 false (.load 0 (.t 49)),iG (some 51) 48 false (.call (.c (.fn 93 [])) [(.t 50),(.c (.int .i64 1)),(.c (.int .i64 3))]),iG (some 52) 48 false (.un .not (.t 51)),iI 53 (.pick (.t 48) (.c (.bool true)) (.t 52)),iI 31 (.mv (.t 53))]) c111_4)
def c111_6:C:=.reg [iI 74 (.bin .add (.t 26) (.c (.int .i64 1))),iI 26 (.mv (.t 74))]
def c111_7:C:=.seq (.block 1 (.seq (.reg [iI 28 (.mv (.t 26)),iI 29 (.iaddr 5 (.t 24) (.t 26)),iI 30 (.load 5 (.t 29)),iI 4 (.alloc [(1,(.int .i64 0)),(1,(.int .i64 0)),(1,(.int .i64 0)),(1,(.int .i64 0)),(1,(.str []))]),iI 3 (.mv (.t 28)),iN (.store 5 (.t 4) (.t 30))]) c111_5)) c111_6
def c111_8:C:=.seq (.cond (.t 27) (.skip) (.exit 0)) c111_7
def c111_9:C:=.block 0 (.loop (.seq (.reg [iI 27 (.bin .lss (.t 26) (.t 25))]) c111_8))
def c111_10:C:=.seq (.reg [iI 2 (.mv (.c (.int .i64 0)))]) .ret
def c111_11:C:=.seq (.seq (.reg [iI 23 (.faddr 4 (.t 1)),iI 24 (.load 0 (.t 23)),iI 25 (.len 0 (.t 24)),iI 26 (.mv (.c (.int .i64 0)))]) c111_9) c111_10
def c111_12:C:=.seq (.seq (.reg [iI 19 (.faddr 4 (.t 1)),iI 20 (.load 0 (.t 19)),iI 21 (.len 0 (.t 20)),iI 22 (.bin .gtr (.t 21) (.c (.int .i64 8)))]) c111_1) c111_11
def c111_13:C:=.seq (.seq (.reg [iI 5 (.faddr 0 (.t 1)),iI 6 (.load 0 (.t 5)),iI 7 (.faddr 1 (.t 1)),iI 8 (.load 0 (.t 7)),iI 9 (.faddr 2 (.t 1)),iI 10 (.load 0 (.t 9)),iI 11 (.call (.c (.fn 78 [])) [(.t 6),(.t 8),(.t 10)]),iI 12 (.un .not (.t 11)),iI 13 (.mv (.t 12)),iG (some 14) 13 false (.faddr 3 (.t 1)),iG (some 15) 13 false (.load 0 (.t 14)),iG (some 16) 13 false (.call (.c (.fn 94 [])) [(.t 15)]),iG (some 17) 13 false (.un .not (.t 16)),iI 18 (.pick (.t 13) (.c (.bool true)) (.t 17))]) c111_0) c111_12
def ir111:C:=.seq (.reg [iI 1 (.box (.t 0)),iI 2 (.mv (.c (.int .i64 0)))]) c111_13
theorem fd111:fd? Try.prog 111=some (75,[.slot 2],ir111):=by kernel_rfl
noncomputable def f111(x0:NetworkSender):Option (Int) :=
  (f78 x0.fSource x0.fPriority x0.fSync).bind fun x1=>(if (!x1)=true then (some 2) else (f94 x0.fPulse).bind fun x2=>(if (!x2)=true then (some 2) else (if (decide (8<((x0.fStreams.length:Nat):Int)))=true then (some 5) else ((Lp.run (f111_L1 x0) 0).bind fun r_=>match r_ with | (Sum.inl _)=>(some 0) | (Sum.inr x3)=>(some x3)))))
theorem f111_ok{x0:NetworkSender}{r_:Int}(H:f111 x0=some r_):Pure Try.prog 111 [.agg [.int .u64 x0.fSource,.int .i64 x0.fPriority,.int .i64 x0.fSync,.int .i64 x0.fPulse,.sl 5 false (x0.fStreams.map eNetworkStream)]] (· = .int .i64 r_):=by
 refine Pure.walk3 fd111 none (Nat.le_of_ble_eq_true rfl) (by rfl) fun Q hQ=>?_
 simp only[f111] at H
 refine AW.rseq ?_
 try simp only[↓wk,↓wl,nq,evV,↓reduceIte,sevalprocAttr]
 refine AW.sseq ?_
 refine AW.rseq ?_
 try simp only[↓wk,↓wl,nq,evV,↓reduceIte,sevalprocAttr]
 refine evTs_pure hFn H (fun _ h=>f78_ok h) (by rfl) (by rfl) (by rfl) (by rfl) (fun _=>rfl) ?_<;>clear H<;>intro x1 H
 try simp only[eL,↓wk,↓wl,nq,evV,↓reduceIte,sevalprocAttr]
 refine evTs_ifg H (by rfl) ?_ ?_<;>clear H<;>intro H
 ·try simp only[↓wk,↓wl,nq,evV,↓reduceIte,sevalprocAttr]
  refine AW.ift (by rfl) ?_
  refine AW.rseq ?_
  try simp only[↓wk,↓wl,nq,evV,↓reduceIte,sevalprocAttr]
  refine AW.ret ?_
  refine seqQ.ret ?_
  cases H
  exact hQ.fin
 ·try simp only[↓wk,↓wl,nq,evV,↓reduceIte,sevalprocAttr]
  refine evTs_pure hFn H (fun _ h=>f94_ok h) (by rfl) (by rfl) (by rfl) (by rfl) (fun _=>rfl) ?_<;>clear H<;>intro x2 H
  try simp only[eL,↓wk,↓wl,nq,evV,↓reduceIte,sevalprocAttr]
  refine AW.ifc H (by rfl) ?_ ?_<;>clear H<;>intro H
  ·refine AW.rseq ?_
   try simp only[↓wk,↓wl,nq,evV,↓reduceIte,sevalprocAttr]
   refine AW.ret ?_
   refine seqQ.ret ?_
   cases H
   exact hQ.fin
  ·refine AW.skip ?_
   refine seqQ.norm ?_
   refine AW.sseq ?_
   refine AW.rseq ?_
   try simp only[↓wk,↓wl,nq,evV,↓reduceIte,sevalprocAttr]
   refine AW.ifc H (by rfl) ?_ ?_<;>clear H<;>intro H
   ·refine AW.rseq ?_
    try simp only[↓wk,↓wl,nq,evV,↓reduceIte,sevalprocAttr]
    refine AW.ret ?_
    refine seqQ.ret ?_
    cases H
    exact hQ.fin
   ·refine AW.skip ?_
    refine seqQ.norm ?_
    refine AW.sseq ?_
    refine AW.rseq ?_
    try simp only[↓wk,↓wl,nq,evV,↓reduceIte,sevalprocAttr]
    refine AW.bend ?_
    refine AW.iter H ((Le.tz [0] [1,24,25,26] (by simp only[f111_L1c,rrm,↓wk,↓wl,evV,↓reduceIte,sevalprocAttr]<;>rfl))) ?_<;>clear H
    rintro x3 x_ st0_ H hst_
    rw[f111_L1c] at hst_
    simp only[f111_L1] at H
    subst hst_
    refine AW.rseq ?_
    try simp only[↓wk,↓wl,nq,evV,↓reduceIte,sevalprocAttr]
    refine AW.sseq ?_
    refine AW.ifc H (by rfl) ?_ ?_<;>clear H<;>intro H
    ·refine AW.skip ?_
     refine seqQ.norm ?_
     refine AW.bseq ?_
     refine AW.rseq ?_
     try simp only[↓wk,↓wl,nq,evV,↓reduceIte,sevalprocAttr]
     refine evTs_at (enc:=eNetworkStream) H (by rfl) (by rfl) ?_<;>clear H<;>intro x4 H
     try simp only[eNetworkStream,eL,↓wk,↓wl,nq,evV,↓reduceIte,sevalprocAttr]
     refine AW.bend ?_
     refine AW.rseq ?_
     try simp only[↓wk,↓wl,nq,evV,↓reduceIte,sevalprocAttr]
     refine evTs_pure hFn H (fun _ h=>f93_ok h) (by rfl) (by rfl) (by rfl) (by rfl) (fun _=>rfl) ?_<;>clear H<;>intro x5 H
     try simp only[eL,↓wk,↓wl,nq,evV,↓reduceIte,sevalprocAttr]
     refine evTs_ifg H (by rfl) ?_ ?_<;>clear H<;>intro H
     ·try simp only[↓wk,↓wl,nq,evV,↓reduceIte,sevalprocAttr]
      refine AW.ift (by rfl) ?_
      refine AW.rseq ?_
      try simp only[↓wk,↓wl,nq,evV,↓reduceIte,sevalprocAttr]
      refine AW.ret ?_
      refine blk0.ret ?_
      refine blkQ.ret ?_
      refine loopQ.ret H ?_<;>clear H<;>intro H
      try dsimp only at H
      refine blk0.ret ?_
      refine seqQ.ret ?_
      cases H
      exact hQ.fin
     ·try simp only[↓wk,↓wl,nq,evV,↓reduceIte,sevalprocAttr]
      refine evTs_pure hFn H (fun _ h=>f94_ok h) (by rfl) (by rfl) (by rfl) (by rfl) (fun _=>rfl) ?_<;>clear H<;>intro x6 H
      try simp only[eL,↓wk,↓wl,nq,evV,↓reduceIte,sevalprocAttr]
      refine evTs_ifg H (by rfl) ?_ ?_<;>clear H<;>intro H
      ·try simp only[↓wk,↓wl,nq,evV,↓reduceIte,sevalprocAttr]
       refine AW.ift (by rfl) ?_
       refine AW.rseq ?_
       try simp only[↓wk,↓wl,nq,evV,↓reduceIte,sevalprocAttr]
       refine AW.ret ?_
       refine blk0.ret ?_
       refine blkQ.ret ?_
       refine loopQ.ret H ?_<;>clear H<;>intro H
       try dsimp only at H
       refine blk0.ret ?_
       refine seqQ.ret ?_
       cases H
       exact hQ.fin
      ·try simp only[↓wk,↓wl,nq,evV,↓reduceIte,sevalprocAttr]
       refine evTs_pure hFn H (fun _ h=>f93_ok h) (by rfl) (by rfl) (by rfl) (by rfl) (fun _=>rfl) ?_<;>clear H<;>intro x7 H
       try simp only[eL,↓wk,↓wl,nq,evV,↓reduceIte,sevalprocAttr]
       refine evTs_ifg H (by rfl) ?_ ?_<;>clear H<;>intro H
       ·try simp only[↓wk,↓wl,nq,evV,↓reduceIte,sevalprocAttr]
        refine AW.ift (by rfl) ?_
        refine AW.rseq ?_
        try simp only[↓wk,↓wl,nq,evV,↓reduceIte,sevalprocAttr]
        refine AW.ret ?_
        refine blk0.ret ?_
        refine blkQ.ret ?_
        refine loopQ.ret H ?_<;>clear H<;>intro H
        try dsimp only at H
        refine blk0.ret ?_
        refine seqQ.ret ?_
        cases H
        exact hQ.fin
       ·try simp only[↓wk,↓wl,nq,evV,↓reduceIte,sevalprocAttr]
        refine evTs_pure hFn H (fun _ h=>f93_ok h) (by rfl) (by rfl) (by rfl) (by rfl) (fun _=>rfl) ?_<;>clear H<;>intro x8 H
        try simp only[eL,↓wk,↓wl,nq,evV,↓reduceIte,sevalprocAttr]
        refine AW.ifc H (by rfl) ?_ ?_<;>clear H<;>intro H
        ·refine AW.rseq ?_
         try simp only[↓wk,↓wl,nq,evV,↓reduceIte,sevalprocAttr]
         refine AW.ret ?_
         refine blk0.ret ?_
         refine blkQ.ret ?_
         refine loopQ.ret H ?_<;>clear H<;>intro H
         try dsimp only at H
         refine blk0.ret ?_
         refine seqQ.ret ?_
         cases H
         exact hQ.fin
        ·refine AW.rseq ?_
         try simp only[↓wk,↓wl,nq,evV,↓reduceIte,sevalprocAttr]
         refine AW.ifc H (by rfl) ?_ ?_<;>clear H<;>intro H
         ·refine AW.rseq ?_
          try simp only[↓wk,↓wl,nq,evV,↓reduceIte,sevalprocAttr]
          refine AW.ret ?_
          refine blk0.ret ?_
          refine blkQ.ret ?_
          refine loopQ.ret H ?_<;>clear H<;>intro H
          try dsimp only at H
          refine blk0.ret ?_
          refine seqQ.ret ?_
          cases H
          exact hQ.fin
         ·refine AW.rseq ?_
          try simp only[↓wk,↓wl,nq,evV,↓reduceIte,sevalprocAttr]
          refine evTs_ifg H (by rfl) ?_ ?_<;>clear H<;>intro H
          ·try simp only[↓wk,↓wl,nq,evV,↓reduceIte,sevalprocAttr]
           refine evTs_at (enc:=eNetworkStream) H (by rfl) (by rfl) ?_<;>clear H<;>intro x9 H
           try simp only[eNetworkStream,eL,↓wk,↓wl,nq,evV,↓reduceIte,sevalprocAttr]
           refine AW.ifc H (by rfl) ?_ ?_<;>clear H<;>intro H
           ·refine AW.rseq ?_
            try simp only[↓wk,↓wl,nq,evV,↓reduceIte,sevalprocAttr]
            refine AW.ret ?_
            refine blk0.ret ?_
            refine blkQ.ret ?_
            refine loopQ.ret H ?_<;>clear H<;>intro H
            try dsimp only at H
            refine blk0.ret ?_
            refine seqQ.ret ?_
            cases H
            exact hQ.fin
           ·refine AW.skip ?_
            refine blk0.norm ?_
            refine blkQ.norm ?_
            refine AW.rend ?_
            try simp only[↓wk,↓wl,nq,evV,↓reduceIte,sevalprocAttr]
            exact loopQ.next H ((Le.tz [0] [1,24,25,26] (by simp only[f111_L1c,rrm,↓wk,↓wl,evV,↓reduceIte,sevalprocAttr]<;>rfl)))
          ·try simp only[↓wk,↓wl,nq,evV,↓reduceIte,sevalprocAttr]
           refine AW.iff (by rfl) ?_
           refine AW.skip ?_
           refine blk0.norm ?_
           refine blkQ.norm ?_
           refine AW.rend ?_
           try simp only[↓wk,↓wl,nq,evV,↓reduceIte,sevalprocAttr]
           exact loopQ.next H ((Le.tz [0] [1,24,25,26] (by simp only[f111_L1c,rrm,↓wk,↓wl,evV,↓reduceIte,sevalprocAttr]<;>rfl)))
    ·refine AW.exit ?_
     refine seqQ.exit ?_
     refine loopQ.exit H ?_<;>clear H<;>intro H
     try dsimp only at H
     refine blk0.here ?_
     refine seqQ.norm ?_
     refine AW.rseq ?_
     try simp only[↓wk,↓wl,nq,evV,↓reduceIte,sevalprocAttr]
     refine AW.ret ?_
     cases H
     exact hQ.fin
def c113_0:C:=.seq (.reg [iI 4 (.load 0 (.t 1)),iI 5 (.faddr 2 (.t 2)),iI 6 (.load 0 (.t 5)),iI 7 (.bin .lss (.t 4) (.t 6)),iI 3 (.mv (.t 7))]) .ret
def ir113:C:=.seq (.reg [iI 2 (.box (.t 0)),iI 3 (.mv (.c (.bool false)))]) c113_0
theorem fd113:fd? Try.prog 113=some (8,[.slot 3],ir113):=by kernel_rfl
noncomputable def f113p(x0:NetworkStream)(x1:Int):Option (Bool) :=
  (some (decide (x1<x0.fLast)))
theorem f113p_ok{x0:NetworkStream}{x1:Int}{r_:Bool}(H:f113p x0 x1=some r_):Pure Try.prog 113 [.agg [.int .i64 x0.fUniverse,.int .i64 x0.fSeq,.int .i64 x0.fLast,.int .i64 x0.fTimes,.str x0.fSlots],.pro [.int .i64 x1]] (· = .bool r_):=by
 refine Pure.walk3 fd113 none (Nat.le_of_ble_eq_true rfl) (by rfl) fun Q hQ=>?_
 simp only[f113p] at H
 refine AW.rseq ?_
 try simp only[↓wk,↓wl,nq,evV,↓reduceIte,sevalprocAttr]
 refine AW.rseq ?_
 try simp only[↓wk,↓wl,nq,evV,↓reduceIte,sevalprocAttr]
 refine AW.ret ?_
 cases H
 exact hQ.fin
noncomputable def f146_113_L1(x0:(List NetworkStream))(x1:Int):Lp (Int) ((Unit)⊕(Int)) where
  body:=fun x2=>(if (decide (x2<((x0.length:Nat):Int)))=true then (at? x0 x2).bind fun x3=>(f113p x3 x1).bind fun x4=>(if x4=true then (some (.brk (Sum.inr x2))) else (some (.next (IntKind.i64.wrap (x2 + 1))))) else (some (.brk (Sum.inl ()))))
  cst:=fun x2=>⟨put (put (put (put (fun _=>.junk) 8 (.int .i64 x2)) 7 (.int .i64 ((x0.length:Nat):Int))) 1 (.fn 113 [.pro [.int .i64 x1]])) 0 (.sl 5 false (x0.map eNetworkStream)),[]⟩
theorem f146_113_L1c(x0:(List NetworkStream))(x1:Int)(x2:Int):(f146_113_L1 x0 x1).cst x2=⟨put (put (put (put (fun _=>.junk) 8 (.int .i64 x2)) 7 (.int .i64 ((x0.length:Nat):Int))) 1 (.fn 113 [.pro [.int .i64 x1]])) 0 (.sl 5 false (x0.map eNetworkStream)),[]⟩:=rfl
def c146_0:C:=.cond (.t 16) (.seq (.reg [iI 17 (.mv (.t 5)),iI 4 (.mv (.t 17))]) .ret) (.skip)
def c146_1:C:=.seq (.reg [iI 11 (.mv (.t 1)),iI 12 (.mv (.t 0)),iI 13 (.mv (.t 5)),iI 14 (.iaddr 5 (.t 12) (.t 13)),iI 15 (.load 5 (.t 14)),iI 16 (.call (.t 11) [(.t 15)])]) c146_0
def c146_2:C:=.reg [iI 18 (.bin .add (.t 8) (.c (.int .i64 1))),iI 8 (.mv (.t 18))]
def c146_3:C:=.seq (.block 1 (.seq (.reg [iI 10 (.mv (.t 8)),iI 5 (.mv (.t 10))]) c146_1)) c146_2
def c146_4:C:=.seq (.cond (.t 9) (.skip) (.exit 0)) c146_3
def c146_5:C:=.block 0 (.loop (.seq (.reg [iI 9 (.bin .lss (.t 8) (.t 7))]) c146_4))
def c146_6:C:=.seq (.reg [iI 4 (.mv (.c (.int .i64 (-1))))]) .ret
def c146_7:C:=.seq (.seq (.reg [iI 6 (.mv (.t 0)),iI 7 (.len 0 (.t 6)),iI 8 (.mv (.c (.int .i64 0)))]) c146_5) c146_6
def ir146:C:=.seq (.reg [iI 4 (.mv (.c (.int .i64 0)))]) c146_7
theorem fd146:fd? Try.prog 146=some (19,[.slot 4],ir146):=by kernel_rfl
noncomputable def f146_113(x0:(List NetworkStream))(x1:Int):Option (Int) :=
  ((Lp.run (f146_113_L1 x0 x1) 0).bind fun r_=>match r_ with | (Sum.inl _)=>(some (-1)) | (Sum.inr x2)=>(some x2))
theorem f146_113_ok{x0:(List NetworkStream)}{x1:Int}{r_:Int}(H:f146_113 x0 x1=some r_):Pure Try.prog 146 [.sl 5 false (x0.map eNetworkStream),.fn 113 [.pro [.int .i64 x1]]] (· = .int .i64 r_):=by
 refine Pure.walk3 fd146 none (Nat.le_of_ble_eq_true rfl) (by rfl) fun Q hQ=>?_
 simp only[f146_113] at H
 refine AW.rseq ?_
 try simp only[↓wk,↓wl,nq,evV,↓reduceIte,sevalprocAttr]
 refine AW.sseq ?_
 refine AW.rseq ?_
 try simp only[↓wk,↓wl,nq,evV,↓reduceIte,sevalprocAttr]
 refine AW.bend ?_
 refine AW.iter H ((Le.tz [] [0,1,7,8] (by simp only[f146_113_L1c,rrm,↓wk,↓wl,evV,↓reduceIte,sevalprocAttr]<;>rfl))) ?_<;>clear H
 rintro x2 x_ st0_ H hst_
 rw[f146_113_L1c] at hst_
 simp only[f146_113_L1] at H
 subst hst_
 refine AW.rseq ?_
 try simp only[↓wk,↓wl,nq,evV,↓reduceIte,sevalprocAttr]
 refine AW.sseq ?_
 refine AW.ifc H (by rfl) ?_ ?_<;>clear H<;>intro H
 ·refine AW.skip ?_
  refine seqQ.norm ?_
  refine AW.bseq ?_
  refine AW.rseq ?_
  try simp only[↓wk,↓wl,nq,evV,↓reduceIte,sevalprocAttr]
  refine AW.rseq ?_
  try simp only[↓wk,↓wl,nq,evV,↓reduceIte,sevalprocAttr]
  refine evTs_at (enc:=eNetworkStream) H (by rfl) (by rfl) ?_<;>clear H<;>intro x3 H
  try simp only[eNetworkStream,eL,↓wk,↓wl,nq,evV,↓reduceIte,sevalprocAttr]
  refine evTs_pure hFn H (fun _ h=>f113p_ok h) (by rfl) (by rfl) (by rfl) (by rfl) (fun _=>rfl) ?_<;>clear H<;>intro x4 H
  try simp only[eL,↓wk,↓wl,nq,evV,↓reduceIte,sevalprocAttr]
  refine AW.ifc H (by rfl) ?_ ?_<;>clear H<;>intro H
  ·refine AW.rseq ?_
   try simp only[↓wk,↓wl,nq,evV,↓reduceIte,sevalprocAttr]
   refine AW.ret ?_
   refine blkQ.ret ?_
   refine loopQ.ret H ?_<;>clear H<;>intro H
   try dsimp only at H
   refine blk0.ret ?_
   refine seqQ.ret ?_
   cases H
   exact hQ.fin
  ·refine AW.skip ?_
   refine blkQ.norm ?_
   refine AW.rend ?_
   try simp only[↓wk,↓wl,nq,evV,↓reduceIte,sevalprocAttr]
   exact loopQ.next H ((Le.tz [] [0,1,7,8] (by simp only[f146_113_L1c,rrm,↓wk,↓wl,evV,↓reduceIte,sevalprocAttr]<;>rfl)))
 ·refine AW.exit ?_
  refine seqQ.exit ?_
  refine loopQ.exit H ?_<;>clear H<;>intro H
  try dsimp only at H
  refine blk0.here ?_
  refine seqQ.norm ?_
  refine AW.rseq ?_
  try simp only[↓wk,↓wl,nq,evV,↓reduceIte,sevalprocAttr]
  refine AW.ret ?_
  cases H
  exact hQ.fin
def c112_0:C:=.seq (.reg [iI 5 (.mv (.t 0)),iI 6 (.mv (.t 1)),iI 7 (.call (.c (.fn 146 [])) [(.t 5),(.t 6)]),iI 8 (.bin .geq (.t 7) (.c (.int .i64 0))),iI 4 (.mv (.t 8))]) .ret
def ir112:C:=.seq (.reg [iI 4 (.mv (.c (.bool false)))]) c112_0
theorem fd112:fd? Try.prog 112=some (9,[.slot 4],ir112):=by kernel_rfl
noncomputable def f112_113(x0:(List NetworkStream))(x1:Int):Option (Bool) :=
  (f146_113 x0 x1).bind fun x2=>(some (decide (0≤x2)))
theorem f112_113_ok{x0:(List NetworkStream)}{x1:Int}{r_:Bool}(H:f112_113 x0 x1=some r_):Pure Try.prog 112 [.sl 5 false (x0.map eNetworkStream),.fn 113 [.pro [.int .i64 x1]]] (· = .bool r_):=by
 refine Pure.walk3 fd112 none (Nat.le_of_ble_eq_true rfl) (by rfl) fun Q hQ=>?_
 simp only[f112_113] at H
 refine AW.rseq ?_
 try simp only[↓wk,↓wl,nq,evV,↓reduceIte,sevalprocAttr]
 refine AW.rseq ?_
 try simp only[↓wk,↓wl,nq,evV,↓reduceIte,sevalprocAttr]
 refine evTs_pure hFn H (fun _ h=>f146_113_ok h) (by rfl) (by rfl) (by rfl) (by rfl) (fun _=>rfl) ?_<;>clear H<;>intro x2 H
 try simp only[eL,↓wk,↓wl,nq,evV,↓reduceIte,sevalprocAttr]
 refine AW.ret ?_
 cases H
 exact hQ.fin
def c79_0:C:=.cond (.t 9) (.seq (.reg [iI 10 (.mv (.t 5)),iI 4 (.mv (.t 10))]) .ret) (.skip)
def c79_1:C:=.seq (.reg [iI 8 (.mv (.t 5)),iI 9 (.bin .neq (.t 8) (.c (.int .i64 0)))]) c79_0
def c79_2:C:=.cond (.t 13) (.seq (.reg [iI 4 (.mv (.c (.int .i64 2)))]) .ret) (.skip)
def c79_3:C:=.cond (.t 17) (.seq (.reg [iI 4 (.mv (.c (.int .i64 9)))]) .ret) (.skip)
def c79_4:C:=.seq (.reg [iI 4 (.mv (.c (.int .i64 0)))]) .ret
def c79_5:C:=.seq (.seq (.reg [iI 14 (.faddr 4 (.t 2)),iI 15 (.load 0 (.t 14)),iI 16 (.mkfn 113 [(.t 3)]),iI 17 (.call (.c (.fn 112 [])) [(.t 15),(.t 16)])]) c79_3) c79_4
def c79_6:C:=.seq (.seq (.reg [iI 11 (.load 0 (.t 3)),iI 12 (.call (.c (.fn 93 [])) [(.t 11),(.c (.int .i64 0)),(.c (.int .i64 10000000))]),iI 13 (.un .not (.t 12))]) c79_2) c79_5
def c79_7:C:=.seq (.seq (.reg [iI 6 (.load 5 (.t 2)),iI 7 (.call (.c (.fn 111 [])) [(.t 6)]),iI 5 (.mv (.t 7))]) c79_1) c79_6
def ir79:C:=.seq (.reg [iI 2 (.box (.t 0)),iI 3 (.box (.t 1)),iI 4 (.mv (.c (.int .i64 0)))]) c79_7
theorem fd79:fd? Try.prog 79=some (18,[.slot 4],ir79):=by kernel_rfl
noncomputable def f79(x0:NetworkSender)(x1:Int):Option (Int) :=
  (f111 x0).bind fun x2=>(if (decide (x2≠0))=true then (some x2) else (f93 x1 0 10000000).bind fun x3=>(if (!x3)=true then (some 2) else (f112_113 x0.fStreams x1).bind fun x4=>(if x4=true then (some 9) else (some 0))))
theorem f79_ok{x0:NetworkSender}{x1:Int}{r_:Int}(H:f79 x0 x1=some r_):Pure Try.prog 79 [.agg [.int .u64 x0.fSource,.int .i64 x0.fPriority,.int .i64 x0.fSync,.int .i64 x0.fPulse,.sl 5 false (x0.fStreams.map eNetworkStream)],.int .i64 x1] (· = .int .i64 r_):=by
 refine Pure.walk3 fd79 none (Nat.le_of_ble_eq_true rfl) (by rfl) fun Q hQ=>?_
 simp only[f79] at H
 refine AW.rseq ?_
 try simp only[↓wk,↓wl,nq,evV,↓reduceIte,sevalprocAttr]
 refine AW.sseq ?_
 refine AW.rseq ?_
 try simp only[↓wk,↓wl,nq,evV,↓reduceIte,sevalprocAttr]
 refine evTs_pure hFn H (fun _ h=>f111_ok h) (by rfl) (by rfl) (by rfl) (by rfl) (fun _=>rfl) ?_<;>clear H<;>intro x2 H
 try simp only[eL,↓wk,↓wl,nq,evV,↓reduceIte,sevalprocAttr]
 refine AW.rseq ?_
 try simp only[↓wk,↓wl,nq,evV,↓reduceIte,sevalprocAttr]
 refine AW.ifc H (by rfl) ?_ ?_<;>clear H<;>intro H
 ·refine AW.rseq ?_
  try simp only[↓wk,↓wl,nq,evV,↓reduceIte,sevalprocAttr]
  refine AW.ret ?_
  refine seqQ.ret ?_
  cases H
  exact hQ.fin
 ·refine AW.skip ?_
  refine seqQ.norm ?_
  refine AW.sseq ?_
  refine AW.rseq ?_
  try simp only[↓wk,↓wl,nq,evV,↓reduceIte,sevalprocAttr]
  refine evTs_pure hFn H (fun _ h=>f93_ok h) (by rfl) (by rfl) (by rfl) (by rfl) (fun _=>rfl) ?_<;>clear H<;>intro x3 H
  try simp only[eL,↓wk,↓wl,nq,evV,↓reduceIte,sevalprocAttr]
  refine AW.ifc H (by rfl) ?_ ?_<;>clear H<;>intro H
  ·refine AW.rseq ?_
   try simp only[↓wk,↓wl,nq,evV,↓reduceIte,sevalprocAttr]
   refine AW.ret ?_
   refine seqQ.ret ?_
   cases H
   exact hQ.fin
  ·refine AW.skip ?_
   refine seqQ.norm ?_
   refine AW.sseq ?_
   refine AW.rseq ?_
   try simp only[↓wk,↓wl,nq,evV,↓reduceIte,sevalprocAttr]
   refine evTs_flat hFn H (fun _ h=>f112_113_ok h) (by rfl) (by rfl) (by simp only[deep_eq,imm_simps,imm_rowE,imm_ptrE,imm_enc,omap_simps,take_map_len,take_map_set,take_map_set2,List.length_set,le_refl_true,Nat.zero_add,and_true,true_and,List.drop_zero,Option.map_some,↓wk,↓wl,nq,evV,↓reduceIte,sevalprocAttr];rfl) (by rfl) (fun _=>rfl) (fun _=>rfl) ?_<;>clear H<;>intro x4 H
   try simp only[eL,↓wk,↓wl,nq,evV,↓reduceIte,sevalprocAttr]
   refine AW.ifc H (by rfl) ?_ ?_<;>clear H<;>intro H
   ·refine AW.rseq ?_
    try simp only[↓wk,↓wl,nq,evV,↓reduceIte,sevalprocAttr]
    refine AW.ret ?_
    refine seqQ.ret ?_
    cases H
    exact hQ.fin
   ·refine AW.skip ?_
    refine seqQ.norm ?_
    refine AW.rseq ?_
    try simp only[↓wk,↓wl,nq,evV,↓reduceIte,sevalprocAttr]
    refine AW.ret ?_
    cases H
    exact hQ.fin
noncomputable def f80_L1(x0:(List ApiFrame)):Lp (Int) ((Unit)⊕(Int)) where
  body:=fun x1=>(if (decide (x1<((x0.length:Nat):Int)))=true then (at? x0 x1).bind fun x2=>(if (decide (x2.fUniverse<1))=true then (some (.brk (Sum.inr 2))) else (if (decide (8<x2.fUniverse))=true then (some (.brk (Sum.inr 2))) else (if (decide (((x2.fSlots.length:Nat):Int)≠512))=true then (some (.brk (Sum.inr 14))) else (if (decide (0<x1))=true then (at? x0 (IntKind.i64.wrap (x1 - 1))).bind fun x3=>(if (decide (x2.fUniverse≤x3.fUniverse))=true then (some (.brk (Sum.inr 9))) else (some (.next (IntKind.i64.wrap (x1 + 1))))) else (some (.next (IntKind.i64.wrap (x1 + 1)))))))) else (some (.brk (Sum.inl ()))))
  cst:=fun x1=>⟨put (put (put (put (fun _=>.junk) 10 (.int .i64 x1)) 9 (.int .i64 ((x0.length:Nat):Int))) 8 (.sl 2 false (x0.map eApiFrame))) 0 (.sl 2 false (x0.map eApiFrame)),[]⟩
theorem f80_L1c(x0:(List ApiFrame))(x1:Int):(f80_L1 x0).cst x1=⟨put (put (put (put (fun _=>.junk) 10 (.int .i64 x1)) 9 (.int .i64 ((x0.length:Nat):Int))) 8 (.sl 2 false (x0.map eApiFrame))) 0 (.sl 2 false (x0.map eApiFrame)),[]⟩:=rfl
def c80_0:C:=.cond (.t 7) (.seq (.reg [iI 2 (.mv (.c (.int .i64 5)))]) .ret) (.skip)
def c80_1:C:=.cond (.t 29) (.seq (.reg [iI 2 (.mv (.c (.int .i64 9)))]) .ret) (.skip)
def c80_2:C:=.cond (.t 24) (.seq (.reg [iI 2 (.mv (.c (.int .i64 14)))]) .ret) (.seq (.reg [iI 30 (.mv (.t 3)),iI 31 (.bin .gtr (.t 30) (.c (.int .i64 0))),iI 32 (.mv (.t 31)),iG (some 33) 32 true (.faddr 0 (.t 4)),iG (some 34) 32 true (.load 0 (.t 33)),iG (some 35) 32 true (.mv (.t 0)),iG (some 36) 32 true (.mv (.t 3)),iG (some 37) 32 true (.bin .sub (.t 36) (.c (.int .i64 1))),iG (some 38) 32 true (.iaddr 2 (.t 35) (.t 37)),iG (some 39) 32 true (.faddr 0 (.t 38)),iG (some 40) 32 true (.load 0 (.t 39)),iG (some 41) 32 true (.bin .leq (.t 34) (.t 40)),iI 42 (.pick (.t 32) (.t 41) (.c (.bool false))),iI 29 (.mv (.t 42))]) c80_1)
def c80_3:C:=.cond (.t 15) (.seq (.reg [iI 2 (.mv (.c (.int .i64 2)))]) .ret) (.seq (.reg [iI 25 (.faddr 1 (.t 4)),iI 26 (.load 0 (.t 25)),iI 27 (.len 1 (.t 26)),iI 28 (.bin .neq (.t 27) (.c (.int .i64 512))),iI 24 (.mv (.t 28))]) c80_2)
def c80_4:C:=.block 2 (.seq (.reg [iI 16 (.faddr 0 (.t 4)),iI 17 (.load 0 (.t 16)),iI 18 (.bin .lss (.t 17) (.c (.int .i64 1))),iI 19 (.mv (.t 18)),iG (some 20) 19 false (.faddr 0 (.t 4)),iG (some 21) 19 false (.load 0 (.t 20)),iG (some 22) 19 false (.bin .gtr (.t 21) (.c (.int .i64 8))),iI 23 (.pick (.t 19) (.c (.bool true)) (.t 22)),iI 15 (.mv (.t 23))]) c80_3)
def c80_5:C:=.reg [iI 43 (.bin .add (.t 10) (.c (.int .i64 1))),iI 10 (.mv (.t 43))]
def c80_6:C:=.seq (.block 1 (.seq (.reg [iI 12 (.mv (.t 10)),iI 13 (.iaddr 2 (.t 8) (.t 10)),iI 14 (.load 2 (.t 13)),iI 4 (.alloc [(1,(.int .i64 0)),(1,(.str []))]),iI 3 (.mv (.t 12)),iN (.store 2 (.t 4) (.t 14))]) c80_4)) c80_5
def c80_7:C:=.seq (.cond (.t 11) (.skip) (.exit 0)) c80_6
def c80_8:C:=.block 0 (.loop (.seq (.reg [iI 11 (.bin .lss (.t 10) (.t 9))]) c80_7))
def c80_9:C:=.seq (.reg [iI 2 (.mv (.c (.int .i64 0)))]) .ret
def c80_10:C:=.seq (.seq (.reg [iI 8 (.mv (.t 0)),iI 9 (.len 0 (.t 8)),iI 10 (.mv (.c (.int .i64 0)))]) c80_8) c80_9
def c80_11:C:=.seq (.seq (.reg [iI 5 (.mv (.t 0)),iI 6 (.len 0 (.t 5)),iI 7 (.bin .gtr (.t 6) (.c (.int .i64 8)))]) c80_0) c80_10
def ir80:C:=.seq (.reg [iI 2 (.mv (.c (.int .i64 0)))]) c80_11
theorem fd80:fd? Try.prog 80=some (44,[.slot 2],ir80):=by kernel_rfl
noncomputable def f80(x0:(List ApiFrame)):Option (Int) :=
  (if (decide (8<((x0.length:Nat):Int)))=true then (some 5) else ((Lp.run (f80_L1 x0) 0).bind fun r_=>match r_ with | (Sum.inl _)=>(some 0) | (Sum.inr x1)=>(some x1)))
theorem f80_ok{x0:(List ApiFrame)}{r_:Int}(H:f80 x0=some r_):Pure Try.prog 80 [.sl 2 false (x0.map eApiFrame)] (· = .int .i64 r_):=by
 refine Pure.walk3 fd80 none (Nat.le_of_ble_eq_true rfl) (by rfl) fun Q hQ=>?_
 simp only[f80] at H
 refine AW.rseq ?_
 try simp only[↓wk,↓wl,nq,evV,↓reduceIte,sevalprocAttr]
 refine AW.sseq ?_
 refine AW.rseq ?_
 try simp only[↓wk,↓wl,nq,evV,↓reduceIte,sevalprocAttr]
 refine AW.ifc H (by rfl) ?_ ?_<;>clear H<;>intro H
 ·refine AW.rseq ?_
  try simp only[↓wk,↓wl,nq,evV,↓reduceIte,sevalprocAttr]
  refine AW.ret ?_
  refine seqQ.ret ?_
  cases H
  exact hQ.fin
 ·refine AW.skip ?_
  refine seqQ.norm ?_
  refine AW.sseq ?_
  refine AW.rseq ?_
  try simp only[↓wk,↓wl,nq,evV,↓reduceIte,sevalprocAttr]
  refine AW.bend ?_
  refine AW.iter H ((Le.tz [] [0,8,9,10] (by simp only[f80_L1c,rrm,↓wk,↓wl,evV,↓reduceIte,sevalprocAttr]<;>rfl))) ?_<;>clear H
  rintro x1 x_ st0_ H hst_
  rw[f80_L1c] at hst_
  simp only[f80_L1] at H
  subst hst_
  refine AW.rseq ?_
  try simp only[↓wk,↓wl,nq,evV,↓reduceIte,sevalprocAttr]
  refine AW.sseq ?_
  refine AW.ifc H (by rfl) ?_ ?_<;>clear H<;>intro H
  ·refine AW.skip ?_
   refine seqQ.norm ?_
   refine AW.bseq ?_
   refine AW.rseq ?_
   try simp only[↓wk,↓wl,nq,evV,↓reduceIte,sevalprocAttr]
   refine evTs_at (enc:=eApiFrame) H (by rfl) (by rfl) ?_<;>clear H<;>intro x2 H
   try simp only[eApiFrame,eL,↓wk,↓wl,nq,evV,↓reduceIte,sevalprocAttr]
   refine AW.bend ?_
   refine AW.rseq ?_
   try simp only[↓wk,↓wl,nq,evV,↓reduceIte,sevalprocAttr]
   refine evTs_ifg H (by rfl) ?_ ?_<;>clear H<;>intro H
   ·try simp only[↓wk,↓wl,nq,evV,↓reduceIte,sevalprocAttr]
    refine AW.ift (by rfl) ?_
    refine AW.rseq ?_
    try simp only[↓wk,↓wl,nq,evV,↓reduceIte,sevalprocAttr]
    refine AW.ret ?_
    refine blk0.ret ?_
    refine blkQ.ret ?_
    refine loopQ.ret H ?_<;>clear H<;>intro H
    try dsimp only at H
    refine blk0.ret ?_
    refine seqQ.ret ?_
    cases H
    exact hQ.fin
   ·try simp only[↓wk,↓wl,nq,evV,↓reduceIte,sevalprocAttr]
    refine AW.ifc H (by rfl) ?_ ?_<;>clear H<;>intro H
    ·refine AW.rseq ?_
     try simp only[↓wk,↓wl,nq,evV,↓reduceIte,sevalprocAttr]
     refine AW.ret ?_
     refine blk0.ret ?_
     refine blkQ.ret ?_
     refine loopQ.ret H ?_<;>clear H<;>intro H
     try dsimp only at H
     refine blk0.ret ?_
     refine seqQ.ret ?_
     cases H
     exact hQ.fin
    ·refine AW.rseq ?_
     try simp only[↓wk,↓wl,nq,evV,↓reduceIte,sevalprocAttr]
     refine AW.ifc H (by rfl) ?_ ?_<;>clear H<;>intro H
     ·refine AW.rseq ?_
      try simp only[↓wk,↓wl,nq,evV,↓reduceIte,sevalprocAttr]
      refine AW.ret ?_
      refine blk0.ret ?_
      refine blkQ.ret ?_
      refine loopQ.ret H ?_<;>clear H<;>intro H
      try dsimp only at H
      refine blk0.ret ?_
      refine seqQ.ret ?_
      cases H
      exact hQ.fin
     ·refine AW.rseq ?_
      try simp only[↓wk,↓wl,nq,evV,↓reduceIte,sevalprocAttr]
      refine evTs_ifg H (by rfl) ?_ ?_<;>clear H<;>intro H
      ·try simp only[↓wk,↓wl,nq,evV,↓reduceIte,sevalprocAttr]
       refine evTs_at (enc:=eApiFrame) H (by rfl) (by rfl) ?_<;>clear H<;>intro x3 H
       try simp only[eApiFrame,eL,↓wk,↓wl,nq,evV,↓reduceIte,sevalprocAttr]
       refine AW.ifc H (by rfl) ?_ ?_<;>clear H<;>intro H
       ·refine AW.rseq ?_
        try simp only[↓wk,↓wl,nq,evV,↓reduceIte,sevalprocAttr]
        refine AW.ret ?_
        refine blk0.ret ?_
        refine blkQ.ret ?_
        refine loopQ.ret H ?_<;>clear H<;>intro H
        try dsimp only at H
        refine blk0.ret ?_
        refine seqQ.ret ?_
        cases H
        exact hQ.fin
       ·refine AW.skip ?_
        refine blk0.norm ?_
        refine blkQ.norm ?_
        refine AW.rend ?_
        try simp only[↓wk,↓wl,nq,evV,↓reduceIte,sevalprocAttr]
        exact loopQ.next H ((Le.tz [] [0,8,9,10] (by simp only[f80_L1c,rrm,↓wk,↓wl,evV,↓reduceIte,sevalprocAttr]<;>rfl)))
      ·try simp only[↓wk,↓wl,nq,evV,↓reduceIte,sevalprocAttr]
       refine AW.iff (by rfl) ?_
       refine AW.skip ?_
       refine blk0.norm ?_
       refine blkQ.norm ?_
       refine AW.rend ?_
       try simp only[↓wk,↓wl,nq,evV,↓reduceIte,sevalprocAttr]
       exact loopQ.next H ((Le.tz [] [0,8,9,10] (by simp only[f80_L1c,rrm,↓wk,↓wl,evV,↓reduceIte,sevalprocAttr]<;>rfl)))
  ·refine AW.exit ?_
   refine seqQ.exit ?_
   refine loopQ.exit H ?_<;>clear H<;>intro H
   try dsimp only at H
   refine blk0.here ?_
   refine seqQ.norm ?_
   refine AW.rseq ?_
   try simp only[↓wk,↓wl,nq,evV,↓reduceIte,sevalprocAttr]
   refine AW.ret ?_
   cases H
   exact hQ.fin
def c81_0:C:=.cond (.t 4) (.seq (.reg [iI 2 (.mv (.c (.sl 5 true [])))]) .ret) (.skip)
def c81_1:C:=.seq (.reg [iI 5 (.mkslp 5 0 (.agg [(.int .i64 0),(.int .i64 0),(.int .i64 0),(.int .i64 0),(.str [])]) []),iI 6 (.mv (.t 0)),iI 7 (.append 5 48 (.t 5) (.t 6)),iI 2 (.mv (.t 7))]) .ret
def c81_2:C:=.seq (.seq (.reg [iI 3 (.mv (.t 0)),iI 4 (.isnil false (.t 3))]) c81_0) c81_1
def ir81:C:=.seq (.reg [iI 2 (.mv (.c (.sl 5 true [])))]) c81_2
theorem fd81:fd? Try.prog 81=some (8,[.slot 2],ir81):=by kernel_rfl
noncomputable def f81(x0:(List NetworkStream)):Option ((List NetworkStream)) :=
  (nil? (x0:List NetworkStream) false fun x1=>(if x1=true then (some []) else (app? 48 [] x0).bind fun x2=>(some x2)))
theorem f81_ok{x0:(List NetworkStream)}{r_:(List NetworkStream)}(H:f81 x0=some r_):Pure Try.prog 81 [.sl 5 false (x0.map eNetworkStream)] (· = .fr 5 (r_.map eNetworkStream)):=by
 refine Pure.walk3 fd81 (some 0) (Nat.le_of_ble_eq_true rfl) (by rfl) fun Q hQ=>?_
 simp only[f81] at H
 refine AW.rseq ?_
 try simp only[↓wk,↓wl,nq,evV,↓reduceIte,sevalprocAttr]
 refine AW.sseq ?_
 refine AW.rseq ?_
 try simp only[↓wk,↓wl,nq,evV,↓reduceIte,sevalprocAttr]
 refine evTs_isnil (enc:=eNetworkStream) H (by rfl) ?_<;>clear H<;>intro x1 H
 try simp only[↓wk,↓wl,nq,evV,↓reduceIte,sevalprocAttr]
 refine AW.ifc H (by rfl) ?_ ?_<;>clear H<;>intro H
 ·refine AW.rseq ?_
  try simp only[↓wk,↓wl,nq,evV,↓reduceIte,sevalprocAttr]
  refine AW.ret ?_
  refine seqQ.ret ?_
  cases H
  exact hQ _ _ _ _ (.inr rfl) (by simp only[resVs,omap,resV,↓wk,↓wl,nq,evV,↓reduceIte,sevalprocAttr];rfl) hand_10 (by first | exact Or.inl rfl | exact Or.inr rfl)
 ·refine AW.skip ?_
  refine seqQ.norm ?_
  refine AW.rseq ?_
  try simp only[↓wk,↓wl,nq,evV,↓reduceIte,sevalprocAttr]
  refine evTs_app0 (enc:=eNetworkStream) H (by rfl) (by rfl) ?_<;>clear H<;>intro x2 H
  try simp only[↓wk,↓wl,nq,evV,↓reduceIte,sevalprocAttr]
  refine AW.ret ?_
  cases H
  exact hQ _ _ _ _ (.inr rfl) (by simp only[resVs,omap,resV,↓wk,↓wl,nq,evV,↓reduceIte,sevalprocAttr];rfl) (hand_1 (by rfl) (by simp) (enc_all _)) (by first | exact Or.inl rfl | exact Or.inr rfl)
def c115_0:C:=.seq (.reg [iI 5 (.faddr 0 (.t 2)),iI 6 (.load 0 (.t 5)),iI 7 (.mv (.t 1)),iI 8 (.bin .sub (.t 6) (.t 7)),iI 4 (.mv (.t 8))]) .ret
def ir115:C:=.seq (.reg [iI 2 (.box (.t 0)),iI 4 (.mv (.c (.int .i64 0)))]) c115_0
theorem fd115:fd? Try.prog 115=some (9,[.slot 4],ir115):=by kernel_rfl
noncomputable def f115(x0:NetworkStream)(x1:Int):Option (Int) :=
  (some (IntKind.i64.wrap (x0.fUniverse - x1)))
theorem f115_ok{x0:NetworkStream}{x1:Int}{r_:Int}(H:f115 x0 x1=some r_):Pure Try.prog 115 [.agg [.int .i64 x0.fUniverse,.int .i64 x0.fSeq,.int .i64 x0.fLast,.int .i64 x0.fTimes,.str x0.fSlots],.int .i64 x1] (· = .int .i64 r_):=by
 refine Pure.walk3 fd115 none (Nat.le_of_ble_eq_true rfl) (by rfl) fun Q hQ=>?_
 simp only[f115] at H
 refine AW.rseq ?_
 try simp only[↓wk,↓wl,nq,evV,↓reduceIte,sevalprocAttr]
 refine AW.rseq ?_
 try simp only[↓wk,↓wl,nq,evV,↓reduceIte,sevalprocAttr]
 refine AW.ret ?_
 cases H
 exact hQ.fin
noncomputable def f114_115_L1(x0:(List NetworkStream))(x1:Int):Lp (Int×Int) (Int) where
  body:=fun (x2,x3)=>(if (decide (x2<x3))=true then (at? x0 (IntKind.i64.wrap (Int.fdiv (IntKind.u64.wrap (IntKind.i64.wrap (x2 + x3))) (2 ^ (min (Int.toNat 1) (IntKind.bits .u64)))))).bind fun x4=>(f115 x4 x1).bind fun x5=>(if (decide (x5<0))=true then (some (.next ((IntKind.i64.wrap ((IntKind.i64.wrap (Int.fdiv (IntKind.u64.wrap (IntKind.i64.wrap (x2 + x3))) (2 ^ (min (Int.toNat 1) (IntKind.bits .u64))))) + 1)),x3))) else (some (.next (x2,(IntKind.i64.wrap (Int.fdiv (IntKind.u64.wrap (IntKind.i64.wrap (x2 + x3))) (2 ^ (min (Int.toNat 1) (IntKind.bits .u64))))))))) else (some (.brk x2)))
  cst:=fun (x2,x3)=>⟨put (put (put (put (put (put (fun _=>.junk) 10 (.int .i64 x3)) 9 (.int .i64 x2)) 8 (.int .i64 ((x0.length:Nat):Int))) 2 (.fn 115 [])) 1 (.int .i64 x1)) 0 (.sl 5 false (x0.map eNetworkStream)),[]⟩
theorem f114_115_L1c(x0:(List NetworkStream))(x1:Int)(x2:Int)(x3:Int):(f114_115_L1 x0 x1).cst (x2,x3)=⟨put (put (put (put (put (put (fun _=>.junk) 10 (.int .i64 x3)) 9 (.int .i64 x2)) 8 (.int .i64 ((x0.length:Nat):Int))) 2 (.fn 115 [])) 1 (.int .i64 x1)) 0 (.sl 5 false (x0.map eNetworkStream)),[]⟩:=rfl
def c114_0:C:=.cond (.t 17) (.skip) (.exit 0)
def c114_1:C:=.cond (.t 31) (.reg [iI 32 (.mv (.t 11)),iI 33 (.bin .add (.t 32) (.c (.int .i64 1))),iI 9 (.mv (.t 33))]) (.reg [iI 34 (.mv (.t 11)),iI 10 (.mv (.t 34))])
def c114_2:C:=.seq (.reg [iI 24 (.mv (.t 2)),iI 25 (.mv (.t 0)),iI 26 (.mv (.t 11)),iI 27 (.iaddr 5 (.t 25) (.t 26)),iI 28 (.load 5 (.t 27)),iI 29 (.mv (.t 1)),iI 30 (.call (.t 24) [(.t 28),(.t 29)]),iI 31 (.bin .lss (.t 30) (.c (.int .i64 0)))]) c114_1
def c114_3:C:=.block 1 (.seq (.reg [iI 18 (.mv (.t 9)),iI 19 (.mv (.t 10)),iI 20 (.bin .add (.t 18) (.t 19)),iI 21 (.cint .u64 (.t 20)),iI 22 (.bin .shr (.t 21) (.c (.int .u64 1))),iI 23 (.cint .i64 (.t 22)),iI 11 (.mv (.t 23))]) c114_2)
def c114_4:C:=.seq (.reg [iI 35 (.mv (.t 9)),iI 36 (.mv (.t 9)),iI 37 (.mv (.t 8)),iI 38 (.bin .lss (.t 36) (.t 37)),iI 39 (.mv (.t 38)),iG (some 40) 39 true (.mv (.t 2)),iG (some 41) 39 true (.mv (.t 0)),iG (some 42) 39 true (.mv (.t 9)),iG (some 43) 39 true (.iaddr 5 (.t 41) (.t 42)),iG (some 44) 39 true (.load 5 (.t 43)),iG (some 45) 39 true (.mv (.t 1)),iG (some 46) 39 true (.call (.t 40) [(.t 44),(.t 45)]),iG (some 47) 39 true (.bin .eql (.t 46) (.c (.int .i64 0))),iI 48 (.pick (.t 39) (.t 47) (.c (.bool false))),iI 6 (.mv (.t 35)),iI 7 (.mv (.t 48))]) .ret
def c114_5:C:=.seq (.block 0 (.loop (.seq (.seq (.reg [iI 15 (.mv (.t 9)),iI 16 (.mv (.t 10)),iI 17 (.bin .lss (.t 15) (.t 16))]) c114_0) c114_3))) c114_4
def c114_6:C:=.seq (.reg [iI 14 (.mv (.t 8)),iI 9 (.mv (.c (.int .i64 0))),iI 10 (.mv (.t 14))]) c114_5
def c114_7:C:=.seq (.reg [iI 12 (.mv (.t 0)),iI 13 (.len 0 (.t 12)),iI 8 (.mv (.t 13))]) c114_6
def ir114:C:=.seq (.reg [iI 6 (.mv (.c (.int .i64 0))),iI 7 (.mv (.c (.bool false)))]) c114_7
theorem fd114:fd? Try.prog 114=some (49,[.slot 6,.slot 7],ir114):=by kernel_rfl
noncomputable def f114_115(x0:(List NetworkStream))(x1:Int):Option (Int×Bool) :=
  (Lp.run (f114_115_L1 x0 x1) (0,((x0.length:Nat):Int))).bind fun x2=>(if (decide (x2<((x0.length:Nat):Int)))=true then (at? x0 x2).bind fun x3=>(f115 x3 x1).bind fun x4=>(some (x2,(decide (x4=0)))) else (some (x2,false)))
theorem f114_115_ok{x0:(List NetworkStream)}{x1:Int}{r_:Int×Bool}(H:f114_115 x0 x1=some r_):Pure Try.prog 114 [.sl 5 false (x0.map eNetworkStream),.int .i64 x1,.fn 115 []] (· = .tup [.int .i64 r_.1,.bool r_.2]):=by
 refine Pure.walk3 fd114 none (Nat.le_of_ble_eq_true rfl) (by rfl) fun Q hQ=>?_
 simp only[f114_115] at H
 refine AW.rseq ?_
 try simp only[↓wk,↓wl,nq,evV,↓reduceIte,sevalprocAttr]
 refine AW.rseq ?_
 try simp only[↓wk,↓wl,nq,evV,↓reduceIte,sevalprocAttr]
 refine AW.rseq ?_
 try simp only[↓wk,↓wl,nq,evV,↓reduceIte,sevalprocAttr]
 refine AW.bseq ?_
 refine AW.iter H ((Le.tz [] [0,1,2,8,9,10] (by simp only[f114_115_L1c,rrm,↓wk,↓wl,evV,↓reduceIte,sevalprocAttr]<;>rfl))) ?_<;>clear H
 rintro ⟨x2,x3⟩ x_ st0_ H hst_
 rw[f114_115_L1c] at hst_
 simp only[f114_115_L1] at H
 subst hst_
 refine AW.sseq ?_
 refine AW.rseq ?_
 try simp only[↓wk,↓wl,nq,evV,↓reduceIte,sevalprocAttr]
 refine AW.ifc H (by rfl) ?_ ?_<;>clear H<;>intro H
 ·refine AW.skip ?_
  refine seqQ.norm ?_
  refine AW.bend ?_
  refine AW.rseq ?_
  try simp only[↓wk,↓wl,nq,evV,↓reduceIte,sevalprocAttr]
  refine rest_shr (by decide) ?_
  try simp only[↓wk,↓wl,nq,evV,↓reduceIte,sevalprocAttr]
  refine AW.rseq ?_
  try simp only[↓wk,↓wl,nq,evV,↓reduceIte,sevalprocAttr]
  refine evTs_at (enc:=eNetworkStream) H (by rfl) (by rfl) ?_<;>clear H<;>intro x4 H
  try simp only[eNetworkStream,eL,↓wk,↓wl,nq,evV,↓reduceIte,sevalprocAttr]
  refine evTs_pure hFn H (fun _ h=>f115_ok h) (by rfl) (by rfl) (by rfl) (by rfl) (fun _=>rfl) ?_<;>clear H<;>intro x5 H
  try simp only[eL,↓wk,↓wl,nq,evV,↓reduceIte,sevalprocAttr]
  refine AW.ifc H (by rfl) ?_ ?_<;>clear H<;>intro H
  ·refine AW.rend ?_
   try simp only[↓wk,↓wl,nq,evV,↓reduceIte,sevalprocAttr]
   refine blk0.norm ?_
   exact loopQ.next H ((Le.tz [] [0,1,2,8,9,10] (by simp only[f114_115_L1c,rrm,↓wk,↓wl,evV,↓reduceIte,sevalprocAttr]<;>rfl)))
  ·refine AW.rend ?_
   try simp only[↓wk,↓wl,nq,evV,↓reduceIte,sevalprocAttr]
   refine blk0.norm ?_
   exact loopQ.next H ((Le.tz [] [0,1,2,8,9,10] (by simp only[f114_115_L1c,rrm,↓wk,↓wl,evV,↓reduceIte,sevalprocAttr]<;>rfl)))
 ·refine AW.exit ?_
  refine seqQ.exit ?_
  refine loopQ.exit H ?_<;>clear H<;>intro H
  try dsimp only at H
  refine blkQ.here ?_
  refine AW.rseq ?_
  try simp only[↓wk,↓wl,nq,evV,↓reduceIte,sevalprocAttr]
  refine evTs_ifg H (by rfl) ?_ ?_<;>clear H<;>intro H
  ·try simp only[↓wk,↓wl,nq,evV,↓reduceIte,sevalprocAttr]
   refine evTs_at (enc:=eNetworkStream) H (by rfl) (by rfl) ?_<;>clear H<;>intro x6 H
   try simp only[eNetworkStream,eL,↓wk,↓wl,nq,evV,↓reduceIte,sevalprocAttr]
   refine evTs_pure hFn H (fun _ h=>f115_ok h) (by rfl) (by rfl) (by rfl) (by rfl) (fun _=>rfl) ?_<;>clear H<;>intro x7 H
   try simp only[eL,↓wk,↓wl,nq,evV,↓reduceIte,sevalprocAttr]
   refine AW.ret ?_
   cases H
   exact hQ.fin
  ·try simp only[↓wk,↓wl,nq,evV,↓reduceIte,sevalprocAttr]
   refine AW.ret ?_
   cases H
   exact hQ.fin
theorem ins116:fd? Try.prog 116=some (95,[.slot 6],insC 5 48 (.agg [(.int .i64 0),(.int .i64 0),(.int .i64 0),(.int .i64 0),(.str [])]) 148):=by kernel_rfl
def c84_0:C:=.seq (.reg [iI 3 (.mv (.t 0)),iI 4 (.bin .add (.t 3) (.c (.int .i64 1))),iI 5 (.bin .rem (.t 4) (.c (.int .i64 256))),iI 2 (.mv (.t 5))]) .ret
def ir84:C:=.seq (.reg [iI 2 (.mv (.c (.int .i64 0)))]) c84_0
theorem fd84:fd? Try.prog 84=some (6,[.slot 2],ir84):=by kernel_rfl
noncomputable def f84(x0:Int):Option (Int) :=
  (some ((IntKind.i64.wrap (x0 + 1)).tmod 256))
theorem f84_ok{x0:Int}{r_:Int}(H:f84 x0=some r_):Pure Try.prog 84 [.int .i64 x0] (· = .int .i64 r_):=by
 refine Pure.walk3 fd84 none (Nat.le_of_ble_eq_true rfl) (by rfl) fun Q hQ=>?_
 simp only[f84] at H
 refine AW.rseq ?_
 try simp only[↓wk,↓wl,nq,evV,↓reduceIte,sevalprocAttr]
 refine AW.rseq ?_
 try simp only[↓wk,↓wl,nq,evV,↓reduceIte,sevalprocAttr]
 refine AW.ret ?_
 cases H
 exact hQ.fin
def c91_0:C:=.seq (.reg [iI 5 (.faddr 0 (.t 2)),iI 6 (.load 0 (.t 5)),iI 7 (.faddr 0 (.t 3)),iI 8 (.load 0 (.t 7)),iI 9 (.faddr 1 (.t 2)),iI 10 (.load 0 (.t 9)),iI 11 (.faddr 1 (.t 3)),iI 12 (.load 0 (.t 11)),iI 13 (.faddr 2 (.t 2)),iI 14 (.load 0 (.t 13)),iI 15 (.faddr 4 (.t 3)),iI 16 (.load 0 (.t 15)),iI 17 (.build [(1,(.int .u64 0)),(1,(.int .i64 0)),(1,(.int .i64 0)),(1,(.int .i64 0)),(1,(.int .i64 0)),(1,(.bool false)),(1,(.str []))] [(0,0,(.t 6)),(1,0,(.t 8)),(2,0,(.t 10)),(3,0,(.t 12)),(4,0,(.t 14)),(6,0,(.t 16))]),iN (.store 7 (.t 4) (.t 17))]) .ret
def ir91:C:=.seq (.reg [iI 2 (.box (.t 0)),iI 3 (.box (.t 1)),iI 4 (.alloc [(1,(.int .u64 0)),(1,(.int .i64 0)),(1,(.int .i64 0)),(1,(.int .i64 0)),(1,(.int .i64 0)),(1,(.bool false)),(1,(.str []))])]) c91_0
theorem fd91:fd? Try.prog 91=some (18,[.cell 4 7],ir91):=by kernel_rfl
noncomputable def f91(x0:NetworkSender)(x1:NetworkStream):Option (NetworkPacket) :=
  (some (NetworkPacket.mk x0.fSource x1.fUniverse x0.fPriority x1.fSeq x0.fSync false x1.fSlots))
theorem f91_ok{x0:NetworkSender}{x1:NetworkStream}{r_:NetworkPacket}(H:f91 x0 x1=some r_):Pure Try.prog 91 [.agg [.int .u64 x0.fSource,.int .i64 x0.fPriority,.int .i64 x0.fSync,.int .i64 x0.fPulse,.sl 5 false (x0.fStreams.map eNetworkStream)],.agg [.int .i64 x1.fUniverse,.int .i64 x1.fSeq,.int .i64 x1.fLast,.int .i64 x1.fTimes,.str x1.fSlots]] (· = .agg [.int .u64 r_.fSource,.int .i64 r_.fUniverse,.int .i64 r_.fPriority,.int .i64 r_.fSeq,.int .i64 r_.fSync,.bool r_.fEnd,.str r_.fSlots]):=by
 refine Pure.walk3 fd91 none (Nat.le_of_ble_eq_true rfl) (by rfl) fun Q hQ=>?_
 simp only[f91] at H
 refine AW.rseq ?_
 try simp only[↓wk,↓wl,nq,evV,↓reduceIte,sevalprocAttr]
 refine AW.rseq ?_
 try simp only[↓wk,↓wl,nq,evV,↓reduceIte,sevalprocAttr]
 refine AW.ret ?_
 cases H
 exact hQ.fin
noncomputable def f43_J3(x0:NetworkSender)(x1:Int)(x2:(List NetworkStream))(x3:(List NetworkPacket)):Jn (Unit) (NetworkSender×(List NetworkPacket)×Int) where
  run:=fun _=>(some ((NetworkSender.mk x0.fSource x0.fPriority x0.fSync x1 x2),x3,0))
  cst:=fun _=>⟨put (put (put (fun _=>.junk) 8 (.int .i64 0)) 7 (.row 7 1 0 x3.length)) 6 (.ptr 0 0),[.cel [.int .u64 x0.fSource,.int .i64 x0.fPriority,.int .i64 x0.fSync,.int .i64 x1,.row 5 2 0 x2.length],.els 7 (x3.map eNetworkPacket),.els 5 (x2.map eNetworkStream)]⟩
theorem f43_J3c(x0:NetworkSender)(x1:Int)(x2:(List NetworkStream))(x3:(List NetworkPacket))(x_:Unit):(f43_J3 x0 x1 x2 x3).cst x_=⟨put (put (put (fun _=>.junk) 8 (.int .i64 0)) 7 (.row 7 1 0 x3.length)) 6 (.ptr 0 0),[.cel [.int .u64 x0.fSource,.int .i64 x0.fPriority,.int .i64 x0.fSync,.int .i64 x1,.row 5 2 0 x2.length],.els 7 (x3.map eNetworkPacket),.els 5 (x2.map eNetworkStream)]⟩:=rfl
noncomputable def f43_J2(x0:NetworkSender)(x1:(List NetworkStream)):Jn (Int×(List NetworkPacket)) (NetworkSender×(List NetworkPacket)×Int) where
  run:=fun (x2,x3)=>((f43_J3 x0 x2 x1 x3).run ())
  cst:=fun (x2,x3)=>⟨put (put (put (fun _=>.junk) 11 (.ptr 2 0)) 6 (.ptr 1 0)) 3 (.ptr 0 0),[.cel [.int .u64 x0.fSource,.int .i64 x0.fPriority,.int .i64 x0.fSync,.int .i64 x2,.row 5 3 0 x1.length],.cel [.int .u64 0,.int .i64 0,.int .i64 0,.int .i64 0,.sl 5 true []],.cel [.row 7 4 0 x3.length],.els 5 (x1.map eNetworkStream),.els 7 (x3.map eNetworkPacket)]⟩
theorem f43_J2c(x0:NetworkSender)(x1:(List NetworkStream))(x2:Int)(x3:(List NetworkPacket)):(f43_J2 x0 x1).cst (x2,x3)=⟨put (put (put (fun _=>.junk) 11 (.ptr 2 0)) 6 (.ptr 1 0)) 3 (.ptr 0 0),[.cel [.int .u64 x0.fSource,.int .i64 x0.fPriority,.int .i64 x0.fSync,.int .i64 x2,.row 5 3 0 x1.length],.cel [.int .u64 0,.int .i64 0,.int .i64 0,.int .i64 0,.sl 5 true []],.cel [.row 7 4 0 x3.length],.els 5 (x1.map eNetworkStream),.els 7 (x3.map eNetworkPacket)]⟩:=rfl
def c82_0:C:=.cond (.t 22) (.reg [iI 23 (.mv (.t 0)),iI 24 (.mv (.t 0)),iI 25 (.nilchk (.t 24)),iI 26 (.faddr 4 (.t 25)),iI 27 (.load 0 (.t 26)),iI 28 (.mv (.t 8)),iI 29 (.faddr 0 (.t 6)),iI 30 (.load 0 (.t 29)),iI 31 (.faddr 1 (.t 6)),iI 32 (.load 0 (.t 31)),iI 33 (.build [(1,(.int .i64 0)),(1,(.int .i64 0)),(1,(.int .i64 0)),(1,(.int .i64 0)),(1,(.str []))] [(0,0,(.t 30)),(1,0,(.c (.int .i64 255))),(4,0,(.t 32))]),iI 34 (.mkslp 5 1 (.agg [(.int .i64 0),(.int .i64 0),(.int .i64 0),(.int .i64 0),(.str [])]) [(0,(.t 33))]),iI 35 (.call (.c (.fn 116 [])) [(.t 27),(.t 28),(.t 34)]),iI 36 (.nilchk (.t 23)),iI 37 (.faddr 4 (.t 36)),iN (.store 0 (.t 37) (.t 35))]) (.skip)
def c82_1:C:=.cond (.t 60) (.reg [iI 75 (.mv (.t 10)),iI 76 (.mv (.t 10)),iI 77 (.nilchk (.t 76)),iI 78 (.faddr 3 (.t 77)),iI 79 (.load 0 (.t 78)),iI 80 (.bin .add (.t 79) (.c (.int .i64 1))),iI 81 (.maxmin false (.t 80) [(.c (.int .i64 3))]),iI 82 (.nilchk (.t 75)),iI 83 (.faddr 3 (.t 82)),iN (.store 0 (.t 83) (.t 81))]) (.ret)
def c82_2:C:=.cond (.t 44) (.reg [iI 52 (.mv (.t 10)),iI 53 (.mv (.t 10)),iI 54 (.faddr 1 (.t 6)),iI 55 (.load 0 (.t 54)),iI 56 (.nilchk (.t 52)),iI 57 (.faddr 4 (.t 56)),iN (.store 0 (.t 57) (.t 55)),iI 58 (.nilchk (.t 53)),iI 59 (.faddr 3 (.t 58)),iN (.store 0 (.t 59) (.c (.int .i64 1)))]) (.seq (.reg [iI 61 (.mv (.t 10)),iI 62 (.nilchk (.t 61)),iI 63 (.faddr 3 (.t 62)),iI 64 (.load 0 (.t 63)),iI 65 (.bin .lss (.t 64) (.c (.int .i64 3))),iI 66 (.mv (.t 65)),iG (some 67) 66 false (.mv (.t 1)),iG (some 68) 66 false (.mv (.t 10)),iG (some 69) 66 false (.nilchk (.t 68)),iG (some 70) 66 false (.faddr 2 (.t 69)),iG (some 71) 66 false (.load 0 (.t 70)),iG (some 72) 66 false (.bin .sub (.t 67) (.t 71)),iG (some 73) 66 false (.bin .geq (.t 72) (.c (.int .i64 1000))),iI 74 (.pick (.t 66) (.c (.bool true)) (.t 73)),iI 60 (.mv (.t 74))]) c82_1)
def c82_3:C:=.reg [iI 96 (.mv (.t 3)),iI 97 (.mv (.t 0)),iI 98 (.nilchk (.t 97)),iI 99 (.load 5 (.t 98)),iI 100 (.mv (.t 10)),iI 101 (.nilchk (.t 100)),iI 102 (.load 5 (.t 101)),iI 103 (.call (.c (.fn 91 [])) [(.t 99),(.t 102)]),iI 104 (.call (.t 96) [(.t 103)])]
def c82_4:C:=.seq (.reg [iI 84 (.mv (.t 10)),iI 85 (.mv (.t 10)),iI 86 (.mv (.t 10)),iI 87 (.nilchk (.t 86)),iI 88 (.faddr 1 (.t 87)),iI 89 (.load 0 (.t 88)),iI 90 (.call (.c (.fn 84 [])) [(.t 89)]),iI 91 (.mv (.t 1)),iI 92 (.nilchk (.t 84)),iI 93 (.faddr 1 (.t 92)),iN (.store 0 (.t 93) (.t 90)),iI 94 (.nilchk (.t 85)),iI 95 (.faddr 2 (.t 94)),iN (.store 0 (.t 95) (.t 91))]) c82_3
def c82_5:C:=.seq (.block 0 (.seq (.reg [iI 45 (.mv (.t 10)),iI 46 (.nilchk (.t 45)),iI 47 (.faddr 4 (.t 46)),iI 48 (.load 0 (.t 47)),iI 49 (.faddr 1 (.t 6)),iI 50 (.load 0 (.t 49)),iI 51 (.bin .neq (.t 48) (.t 50)),iI 44 (.mv (.t 51))]) c82_2)) c82_4
def c82_6:C:=.seq (.reg [iI 38 (.mv (.t 0)),iI 39 (.nilchk (.t 38)),iI 40 (.faddr 4 (.t 39)),iI 41 (.load 0 (.t 40)),iI 42 (.mv (.t 8)),iI 43 (.iaddr 5 (.t 41) (.t 42)),iI 10 (.mv (.t 43))]) c82_5
def c82_7:C:=.seq (.seq (.reg [iI 21 (.mv (.t 9)),iI 22 (.un .not (.t 21))]) c82_0) c82_6
def c82_8:C:=.seq (.reg [iI 12 (.mv (.t 0)),iI 13 (.nilchk (.t 12)),iI 14 (.faddr 4 (.t 13)),iI 15 (.load 0 (.t 14)),iI 16 (.faddr 0 (.t 6)),iI 17 (.load 0 (.t 16)),iI 18 (.call (.c (.fn 114 [])) [(.t 15),(.t 17),(.c (.fn 115 []))]),iI 11 (.mv (.t 18)),iI 19 (.ext (.t 11) 0),iI 20 (.ext (.t 11) 1),iI 8 (.mv (.t 19)),iI 9 (.mv (.t 20))]) c82_7
def ir82:C:=.seq (.reg [iI 6 (.box (.t 2))]) c82_8
theorem fd82:fd? Try.prog 82=some (105,[],ir82):=by kernel_rfl
noncomputable def f43_C5(x0:NetworkSender)(x1:NetworkStream)(x2:Int)(x3:ApiFrame)(x4:(List NetworkStream))(x5:(List NetworkPacket))(x6:Int×Bool)(x7:Int):Il (Unit) where
  run:=(some ())
  res:=fun _=>.agg [.int .u64 x0.fSource,.int .i64 x1.fUniverse,.int .i64 x0.fPriority,.int .i64 x2,.int .i64 x0.fSync,.bool false,.str x3.fSlots]
  hp:=fun _=>[.cel [.int .u64 x0.fSource,.int .i64 x0.fPriority,.int .i64 x0.fSync,.int .i64 x0.fPulse,.row 5 7 0 x4.length],.cel [.int .u64 0,.int .i64 0,.int .i64 0,.int .i64 0,.sl 5 true []],.cel [.row 7 4 0 x5.length],.dead,.els 7 (x5.map eNetworkPacket),.cel [.int .i64 x3.fUniverse,.str x3.fSlots],.cel [.int .i64 x3.fUniverse,.str x3.fSlots],.els 5 (((((x4.set x6.1.toNat (NetworkStream.mk x1.fUniverse x1.fSeq x1.fLast x1.fTimes x3.fSlots)).set x6.1.toNat (NetworkStream.mk x1.fUniverse x1.fSeq x1.fLast 1 x3.fSlots)).set x6.1.toNat (NetworkStream.mk x1.fUniverse x2 x1.fLast 1 x3.fSlots)).set x6.1.toNat (NetworkStream.mk x1.fUniverse x2 x7 1 x3.fSlots)).map eNetworkStream),.cel [.int .u64 x0.fSource,.int .i64 x1.fUniverse,.int .i64 x0.fPriority,.int .i64 x2,.int .i64 x0.fSync,.bool false,.str x3.fSlots]]
def c83_0:C:=.reg [iI 3 (.load 0 (.t 1)),iI 4 (.load 7 (.t 2)),iI 5 (.mkslp 7 1 (.agg [(.int .u64 0),(.int .i64 0),(.int .i64 0),(.int .i64 0),(.int .i64 0),(.bool false),(.str [])]) [(0,(.t 4))]),iI 6 (.append 7 64 (.t 3) (.t 5)),iN (.store 0 (.t 1) (.t 6))]
def ir83:C:=.seq (.reg [iI 2 (.box (.t 0))]) c83_0
theorem fd83:fd? Try.prog 83=some (7,[],ir83):=by kernel_rfl
noncomputable def f43_C6(x0:(List NetworkPacket))(x1:NetworkSender)(x2:NetworkStream)(x3:Int)(x4:ApiFrame)(x5:(List NetworkStream))(x6:Int×Bool)(x7:Int):Il ((List NetworkPacket)) where
  run:=(app? 64 x0 ([(NetworkPacket.mk x1.fSource x2.fUniverse x1.fPriority x3 x1.fSync false x4.fSlots)])).bind fun x8=>(some x8)
  res:=fun x9=>.tup []
  hp:=fun x9=>[.cel [.int .u64 x1.fSource,.int .i64 x1.fPriority,.int .i64 x1.fSync,.int .i64 x1.fPulse,.row 5 7 0 x5.length],.cel [.int .u64 0,.int .i64 0,.int .i64 0,.int .i64 0,.sl 5 true []],.cel [.row 7 9 0 x9.length],.dead,.dead,.cel [.int .i64 x4.fUniverse,.str x4.fSlots],.cel [.int .i64 x4.fUniverse,.str x4.fSlots],.els 5 (((((x5.set x6.1.toNat (NetworkStream.mk x2.fUniverse x2.fSeq x2.fLast x2.fTimes x4.fSlots)).set x6.1.toNat (NetworkStream.mk x2.fUniverse x2.fSeq x2.fLast 1 x4.fSlots)).set x6.1.toNat (NetworkStream.mk x2.fUniverse x3 x2.fLast 1 x4.fSlots)).set x6.1.toNat (NetworkStream.mk x2.fUniverse x3 x7 1 x4.fSlots)).map eNetworkStream),.cel [.int .u64 x1.fSource,.int .i64 x2.fUniverse,.int .i64 x1.fPriority,.int .i64 x3,.int .i64 x1.fSync,.bool false,.str x4.fSlots],.els 7 (x9.map eNetworkPacket)]
noncomputable def f43_C7(x0:NetworkSender)(x1:NetworkStream)(x2:Int)(x3:(List NetworkStream))(x4:(List NetworkPacket))(x5:ApiFrame)(x6:Int×Bool)(x7:Int):Il (Unit) where
  run:=(some ())
  res:=fun _=>.agg [.int .u64 x0.fSource,.int .i64 x1.fUniverse,.int .i64 x0.fPriority,.int .i64 x2,.int .i64 x0.fSync,.bool false,.str x1.fSlots]
  hp:=fun _=>[.cel [.int .u64 x0.fSource,.int .i64 x0.fPriority,.int .i64 x0.fSync,.int .i64 x0.fPulse,.row 5 7 0 x3.length],.cel [.int .u64 0,.int .i64 0,.int .i64 0,.int .i64 0,.sl 5 true []],.cel [.row 7 4 0 x4.length],.dead,.els 7 (x4.map eNetworkPacket),.cel [.int .i64 x5.fUniverse,.str x5.fSlots],.cel [.int .i64 x5.fUniverse,.str x5.fSlots],.els 5 ((((x3.set x6.1.toNat (NetworkStream.mk x1.fUniverse x1.fSeq x1.fLast (if 3<(IntKind.i64.wrap (x1.fTimes + 1)) then 3 else (IntKind.i64.wrap (x1.fTimes + 1))) x1.fSlots)).set x6.1.toNat (NetworkStream.mk x1.fUniverse x2 x1.fLast (if 3<(IntKind.i64.wrap (x1.fTimes + 1)) then 3 else (IntKind.i64.wrap (x1.fTimes + 1))) x1.fSlots)).set x6.1.toNat (NetworkStream.mk x1.fUniverse x2 x7 (if 3<(IntKind.i64.wrap (x1.fTimes + 1)) then 3 else (IntKind.i64.wrap (x1.fTimes + 1))) x1.fSlots)).map eNetworkStream),.cel [.int .u64 x0.fSource,.int .i64 x1.fUniverse,.int .i64 x0.fPriority,.int .i64 x2,.int .i64 x0.fSync,.bool false,.str x1.fSlots]]
noncomputable def f43_C8(x0:(List NetworkPacket))(x1:NetworkSender)(x2:NetworkStream)(x3:Int)(x4:(List NetworkStream))(x5:ApiFrame)(x6:Int×Bool)(x7:Int):Il ((List NetworkPacket)) where
  run:=(app? 64 x0 ([(NetworkPacket.mk x1.fSource x2.fUniverse x1.fPriority x3 x1.fSync false x2.fSlots)])).bind fun x8=>(some x8)
  res:=fun x9=>.tup []
  hp:=fun x9=>[.cel [.int .u64 x1.fSource,.int .i64 x1.fPriority,.int .i64 x1.fSync,.int .i64 x1.fPulse,.row 5 7 0 x4.length],.cel [.int .u64 0,.int .i64 0,.int .i64 0,.int .i64 0,.sl 5 true []],.cel [.row 7 9 0 x9.length],.dead,.dead,.cel [.int .i64 x5.fUniverse,.str x5.fSlots],.cel [.int .i64 x5.fUniverse,.str x5.fSlots],.els 5 ((((x4.set x6.1.toNat (NetworkStream.mk x2.fUniverse x2.fSeq x2.fLast (if 3<(IntKind.i64.wrap (x2.fTimes + 1)) then 3 else (IntKind.i64.wrap (x2.fTimes + 1))) x2.fSlots)).set x6.1.toNat (NetworkStream.mk x2.fUniverse x3 x2.fLast (if 3<(IntKind.i64.wrap (x2.fTimes + 1)) then 3 else (IntKind.i64.wrap (x2.fTimes + 1))) x2.fSlots)).set x6.1.toNat (NetworkStream.mk x2.fUniverse x3 x7 (if 3<(IntKind.i64.wrap (x2.fTimes + 1)) then 3 else (IntKind.i64.wrap (x2.fTimes + 1))) x2.fSlots)).map eNetworkStream),.cel [.int .u64 x1.fSource,.int .i64 x2.fUniverse,.int .i64 x1.fPriority,.int .i64 x3,.int .i64 x1.fSync,.bool false,.str x2.fSlots],.els 7 (x9.map eNetworkPacket)]
noncomputable def f43_C9(x0:NetworkSender)(x1:NetworkStream)(x2:Int)(x3:(List NetworkStream))(x4:(List NetworkPacket))(x5:ApiFrame)(x6:Int×Bool)(x7:Int):Il (Unit) where
  run:=(some ())
  res:=fun _=>.agg [.int .u64 x0.fSource,.int .i64 x1.fUniverse,.int .i64 x0.fPriority,.int .i64 x2,.int .i64 x0.fSync,.bool false,.str x1.fSlots]
  hp:=fun _=>[.cel [.int .u64 x0.fSource,.int .i64 x0.fPriority,.int .i64 x0.fSync,.int .i64 x0.fPulse,.row 5 7 0 x3.length],.cel [.int .u64 0,.int .i64 0,.int .i64 0,.int .i64 0,.sl 5 true []],.cel [.row 7 4 0 x4.length],.dead,.els 7 (x4.map eNetworkPacket),.cel [.int .i64 x5.fUniverse,.str x5.fSlots],.cel [.int .i64 x5.fUniverse,.str x5.fSlots],.els 5 ((((x3.set x6.1.toNat (NetworkStream.mk x1.fUniverse x1.fSeq x1.fLast (if 3<(IntKind.i64.wrap (x1.fTimes + 1)) then 3 else (IntKind.i64.wrap (x1.fTimes + 1))) x1.fSlots)).set x6.1.toNat (NetworkStream.mk x1.fUniverse x2 x1.fLast (if 3<(IntKind.i64.wrap (x1.fTimes + 1)) then 3 else (IntKind.i64.wrap (x1.fTimes + 1))) x1.fSlots)).set x6.1.toNat (NetworkStream.mk x1.fUniverse x2 x7 (if 3<(IntKind.i64.wrap (x1.fTimes + 1)) then 3 else (IntKind.i64.wrap (x1.fTimes + 1))) x1.fSlots)).map eNetworkStream),.cel [.int .u64 x0.fSource,.int .i64 x1.fUniverse,.int .i64 x0.fPriority,.int .i64 x2,.int .i64 x0.fSync,.bool false,.str x1.fSlots]]
noncomputable def f43_C10(x0:(List NetworkPacket))(x1:NetworkSender)(x2:NetworkStream)(x3:Int)(x4:(List NetworkStream))(x5:ApiFrame)(x6:Int×Bool)(x7:Int):Il ((List NetworkPacket)) where
  run:=(app? 64 x0 ([(NetworkPacket.mk x1.fSource x2.fUniverse x1.fPriority x3 x1.fSync false x2.fSlots)])).bind fun x8=>(some x8)
  res:=fun x9=>.tup []
  hp:=fun x9=>[.cel [.int .u64 x1.fSource,.int .i64 x1.fPriority,.int .i64 x1.fSync,.int .i64 x1.fPulse,.row 5 7 0 x4.length],.cel [.int .u64 0,.int .i64 0,.int .i64 0,.int .i64 0,.sl 5 true []],.cel [.row 7 9 0 x9.length],.dead,.dead,.cel [.int .i64 x5.fUniverse,.str x5.fSlots],.cel [.int .i64 x5.fUniverse,.str x5.fSlots],.els 5 ((((x4.set x6.1.toNat (NetworkStream.mk x2.fUniverse x2.fSeq x2.fLast (if 3<(IntKind.i64.wrap (x2.fTimes + 1)) then 3 else (IntKind.i64.wrap (x2.fTimes + 1))) x2.fSlots)).set x6.1.toNat (NetworkStream.mk x2.fUniverse x3 x2.fLast (if 3<(IntKind.i64.wrap (x2.fTimes + 1)) then 3 else (IntKind.i64.wrap (x2.fTimes + 1))) x2.fSlots)).set x6.1.toNat (NetworkStream.mk x2.fUniverse x3 x7 (if 3<(IntKind.i64.wrap (x2.fTimes + 1)) then 3 else (IntKind.i64.wrap (x2.fTimes + 1))) x2.fSlots)).map eNetworkStream),.cel [.int .u64 x1.fSource,.int .i64 x2.fUniverse,.int .i64 x1.fPriority,.int .i64 x3,.int .i64 x1.fSync,.bool false,.str x2.fSlots],.els 7 (x9.map eNetworkPacket)]
noncomputable def f43_C11(x0:NetworkSender)(x1:NetworkStream)(x2:Int)(x3:ApiFrame)(x4:(List NetworkStream))(x5:(List NetworkPacket))(x6:Int×Bool)(x7:Int):Il (Unit) where
  run:=(some ())
  res:=fun _=>.agg [.int .u64 x0.fSource,.int .i64 x1.fUniverse,.int .i64 x0.fPriority,.int .i64 x2,.int .i64 x0.fSync,.bool false,.str x3.fSlots]
  hp:=fun _=>[.cel [.int .u64 x0.fSource,.int .i64 x0.fPriority,.int .i64 x0.fSync,.int .i64 x0.fPulse,.row 5 3 0 x4.length],.cel [.int .u64 0,.int .i64 0,.int .i64 0,.int .i64 0,.sl 5 true []],.cel [.row 7 4 0 x5.length],.els 5 (((((x4.set x6.1.toNat (NetworkStream.mk x1.fUniverse x1.fSeq x1.fLast x1.fTimes x3.fSlots)).set x6.1.toNat (NetworkStream.mk x1.fUniverse x1.fSeq x1.fLast 1 x3.fSlots)).set x6.1.toNat (NetworkStream.mk x1.fUniverse x2 x1.fLast 1 x3.fSlots)).set x6.1.toNat (NetworkStream.mk x1.fUniverse x2 x7 1 x3.fSlots)).map eNetworkStream),.els 7 (x5.map eNetworkPacket),.cel [.int .i64 x3.fUniverse,.str x3.fSlots],.cel [.int .i64 x3.fUniverse,.str x3.fSlots],.cel [.int .u64 x0.fSource,.int .i64 x1.fUniverse,.int .i64 x0.fPriority,.int .i64 x2,.int .i64 x0.fSync,.bool false,.str x3.fSlots]]
noncomputable def f43_C12(x0:(List NetworkPacket))(x1:NetworkSender)(x2:NetworkStream)(x3:Int)(x4:ApiFrame)(x5:(List NetworkStream))(x6:Int×Bool)(x7:Int):Il ((List NetworkPacket)) where
  run:=(app? 64 x0 ([(NetworkPacket.mk x1.fSource x2.fUniverse x1.fPriority x3 x1.fSync false x4.fSlots)])).bind fun x8=>(some x8)
  res:=fun x9=>.tup []
  hp:=fun x9=>[.cel [.int .u64 x1.fSource,.int .i64 x1.fPriority,.int .i64 x1.fSync,.int .i64 x1.fPulse,.row 5 3 0 x5.length],.cel [.int .u64 0,.int .i64 0,.int .i64 0,.int .i64 0,.sl 5 true []],.cel [.row 7 8 0 x9.length],.els 5 (((((x5.set x6.1.toNat (NetworkStream.mk x2.fUniverse x2.fSeq x2.fLast x2.fTimes x4.fSlots)).set x6.1.toNat (NetworkStream.mk x2.fUniverse x2.fSeq x2.fLast 1 x4.fSlots)).set x6.1.toNat (NetworkStream.mk x2.fUniverse x3 x2.fLast 1 x4.fSlots)).set x6.1.toNat (NetworkStream.mk x2.fUniverse x3 x7 1 x4.fSlots)).map eNetworkStream),.dead,.cel [.int .i64 x4.fUniverse,.str x4.fSlots],.cel [.int .i64 x4.fUniverse,.str x4.fSlots],.cel [.int .u64 x1.fSource,.int .i64 x2.fUniverse,.int .i64 x1.fPriority,.int .i64 x3,.int .i64 x1.fSync,.bool false,.str x4.fSlots],.els 7 (x9.map eNetworkPacket)]
noncomputable def f43_C13(x0:NetworkSender)(x1:NetworkStream)(x2:Int)(x3:(List NetworkStream))(x4:(List NetworkPacket))(x5:Int×Bool)(x6:Int)(x7:ApiFrame):Il (Unit) where
  run:=(some ())
  res:=fun _=>.agg [.int .u64 x0.fSource,.int .i64 x1.fUniverse,.int .i64 x0.fPriority,.int .i64 x2,.int .i64 x0.fSync,.bool false,.str x1.fSlots]
  hp:=fun _=>[.cel [.int .u64 x0.fSource,.int .i64 x0.fPriority,.int .i64 x0.fSync,.int .i64 x0.fPulse,.row 5 3 0 x3.length],.cel [.int .u64 0,.int .i64 0,.int .i64 0,.int .i64 0,.sl 5 true []],.cel [.row 7 4 0 x4.length],.els 5 ((((x3.set x5.1.toNat (NetworkStream.mk x1.fUniverse x1.fSeq x1.fLast (if 3<(IntKind.i64.wrap (x1.fTimes + 1)) then 3 else (IntKind.i64.wrap (x1.fTimes + 1))) x1.fSlots)).set x5.1.toNat (NetworkStream.mk x1.fUniverse x2 x1.fLast (if 3<(IntKind.i64.wrap (x1.fTimes + 1)) then 3 else (IntKind.i64.wrap (x1.fTimes + 1))) x1.fSlots)).set x5.1.toNat (NetworkStream.mk x1.fUniverse x2 x6 (if 3<(IntKind.i64.wrap (x1.fTimes + 1)) then 3 else (IntKind.i64.wrap (x1.fTimes + 1))) x1.fSlots)).map eNetworkStream),.els 7 (x4.map eNetworkPacket),.cel [.int .i64 x7.fUniverse,.str x7.fSlots],.cel [.int .i64 x7.fUniverse,.str x7.fSlots],.cel [.int .u64 x0.fSource,.int .i64 x1.fUniverse,.int .i64 x0.fPriority,.int .i64 x2,.int .i64 x0.fSync,.bool false,.str x1.fSlots]]
noncomputable def f43_C14(x0:(List NetworkPacket))(x1:NetworkSender)(x2:NetworkStream)(x3:Int)(x4:(List NetworkStream))(x5:Int×Bool)(x6:Int)(x7:ApiFrame):Il ((List NetworkPacket)) where
  run:=(app? 64 x0 ([(NetworkPacket.mk x1.fSource x2.fUniverse x1.fPriority x3 x1.fSync false x2.fSlots)])).bind fun x8=>(some x8)
  res:=fun x9=>.tup []
  hp:=fun x9=>[.cel [.int .u64 x1.fSource,.int .i64 x1.fPriority,.int .i64 x1.fSync,.int .i64 x1.fPulse,.row 5 3 0 x4.length],.cel [.int .u64 0,.int .i64 0,.int .i64 0,.int .i64 0,.sl 5 true []],.cel [.row 7 8 0 x9.length],.els 5 ((((x4.set x5.1.toNat (NetworkStream.mk x2.fUniverse x2.fSeq x2.fLast (if 3<(IntKind.i64.wrap (x2.fTimes + 1)) then 3 else (IntKind.i64.wrap (x2.fTimes + 1))) x2.fSlots)).set x5.1.toNat (NetworkStream.mk x2.fUniverse x3 x2.fLast (if 3<(IntKind.i64.wrap (x2.fTimes + 1)) then 3 else (IntKind.i64.wrap (x2.fTimes + 1))) x2.fSlots)).set x5.1.toNat (NetworkStream.mk x2.fUniverse x3 x6 (if 3<(IntKind.i64.wrap (x2.fTimes + 1)) then 3 else (IntKind.i64.wrap (x2.fTimes + 1))) x2.fSlots)).map eNetworkStream),.dead,.cel [.int .i64 x7.fUniverse,.str x7.fSlots],.cel [.int .i64 x7.fUniverse,.str x7.fSlots],.cel [.int .u64 x1.fSource,.int .i64 x2.fUniverse,.int .i64 x1.fPriority,.int .i64 x3,.int .i64 x1.fSync,.bool false,.str x2.fSlots],.els 7 (x9.map eNetworkPacket)]
noncomputable def f43_C15(x0:NetworkSender)(x1:NetworkStream)(x2:Int)(x3:(List NetworkStream))(x4:(List NetworkPacket))(x5:Int×Bool)(x6:Int)(x7:ApiFrame):Il (Unit) where
  run:=(some ())
  res:=fun _=>.agg [.int .u64 x0.fSource,.int .i64 x1.fUniverse,.int .i64 x0.fPriority,.int .i64 x2,.int .i64 x0.fSync,.bool false,.str x1.fSlots]
  hp:=fun _=>[.cel [.int .u64 x0.fSource,.int .i64 x0.fPriority,.int .i64 x0.fSync,.int .i64 x0.fPulse,.row 5 3 0 x3.length],.cel [.int .u64 0,.int .i64 0,.int .i64 0,.int .i64 0,.sl 5 true []],.cel [.row 7 4 0 x4.length],.els 5 ((((x3.set x5.1.toNat (NetworkStream.mk x1.fUniverse x1.fSeq x1.fLast (if 3<(IntKind.i64.wrap (x1.fTimes + 1)) then 3 else (IntKind.i64.wrap (x1.fTimes + 1))) x1.fSlots)).set x5.1.toNat (NetworkStream.mk x1.fUniverse x2 x1.fLast (if 3<(IntKind.i64.wrap (x1.fTimes + 1)) then 3 else (IntKind.i64.wrap (x1.fTimes + 1))) x1.fSlots)).set x5.1.toNat (NetworkStream.mk x1.fUniverse x2 x6 (if 3<(IntKind.i64.wrap (x1.fTimes + 1)) then 3 else (IntKind.i64.wrap (x1.fTimes + 1))) x1.fSlots)).map eNetworkStream),.els 7 (x4.map eNetworkPacket),.cel [.int .i64 x7.fUniverse,.str x7.fSlots],.cel [.int .i64 x7.fUniverse,.str x7.fSlots],.cel [.int .u64 x0.fSource,.int .i64 x1.fUniverse,.int .i64 x0.fPriority,.int .i64 x2,.int .i64 x0.fSync,.bool false,.str x1.fSlots]]
noncomputable def f43_C16(x0:(List NetworkPacket))(x1:NetworkSender)(x2:NetworkStream)(x3:Int)(x4:(List NetworkStream))(x5:Int×Bool)(x6:Int)(x7:ApiFrame):Il ((List NetworkPacket)) where
  run:=(app? 64 x0 ([(NetworkPacket.mk x1.fSource x2.fUniverse x1.fPriority x3 x1.fSync false x2.fSlots)])).bind fun x8=>(some x8)
  res:=fun x9=>.tup []
  hp:=fun x9=>[.cel [.int .u64 x1.fSource,.int .i64 x1.fPriority,.int .i64 x1.fSync,.int .i64 x1.fPulse,.row 5 3 0 x4.length],.cel [.int .u64 0,.int .i64 0,.int .i64 0,.int .i64 0,.sl 5 true []],.cel [.row 7 8 0 x9.length],.els 5 ((((x4.set x5.1.toNat (NetworkStream.mk x2.fUniverse x2.fSeq x2.fLast (if 3<(IntKind.i64.wrap (x2.fTimes + 1)) then 3 else (IntKind.i64.wrap (x2.fTimes + 1))) x2.fSlots)).set x5.1.toNat (NetworkStream.mk x2.fUniverse x3 x2.fLast (if 3<(IntKind.i64.wrap (x2.fTimes + 1)) then 3 else (IntKind.i64.wrap (x2.fTimes + 1))) x2.fSlots)).set x5.1.toNat (NetworkStream.mk x2.fUniverse x3 x6 (if 3<(IntKind.i64.wrap (x2.fTimes + 1)) then 3 else (IntKind.i64.wrap (x2.fTimes + 1))) x2.fSlots)).map eNetworkStream),.dead,.cel [.int .i64 x7.fUniverse,.str x7.fSlots],.cel [.int .i64 x7.fUniverse,.str x7.fSlots],.cel [.int .u64 x1.fSource,.int .i64 x2.fUniverse,.int .i64 x1.fPriority,.int .i64 x3,.int .i64 x1.fSync,.bool false,.str x2.fSlots],.els 7 (x9.map eNetworkPacket)]
noncomputable def f43_C4(x0:(List NetworkStream))(x1:ApiFrame)(x2:NetworkSender)(x3:(List NetworkPacket))(x4:Int):Il ((List NetworkStream)×(List NetworkPacket)) where
  run:=(f114_115 x0 x1.fUniverse).bind fun x5=>(if (!x5.2)=true then (ins? 48 x0 x5.1 (NetworkStream.mk x1.fUniverse 255 0 0 x1.fSlots)).bind fun x6=>(at? x6 x5.1).bind fun x7=>(if (!(x7.fSlots == x1.fSlots))=true then (f84 x7.fSeq).bind fun x8=>((f43_C5 x2 x7 x8 x1 x6 x3 x5 x4).run.bind fun _=>((f43_C6 x3 x2 x7 x8 x1 x6 x5 x4).run.bind fun x9=>(some (((((x6.set x5.1.toNat (NetworkStream.mk x7.fUniverse x7.fSeq x7.fLast x7.fTimes x1.fSlots)).set x5.1.toNat (NetworkStream.mk x7.fUniverse x7.fSeq x7.fLast 1 x1.fSlots)).set x5.1.toNat (NetworkStream.mk x7.fUniverse x8 x7.fLast 1 x1.fSlots)).set x5.1.toNat (NetworkStream.mk x7.fUniverse x8 x4 1 x1.fSlots)),x9)))) else (if (decide (x7.fTimes<3))=true then (f84 x7.fSeq).bind fun xa=>((f43_C7 x2 x7 xa x6 x3 x1 x5 x4).run.bind fun _=>((f43_C8 x3 x2 x7 xa x6 x1 x5 x4).run.bind fun xb=>(some ((((x6.set x5.1.toNat (NetworkStream.mk x7.fUniverse x7.fSeq x7.fLast (if 3<(IntKind.i64.wrap (x7.fTimes + 1)) then 3 else (IntKind.i64.wrap (x7.fTimes + 1))) x7.fSlots)).set x5.1.toNat (NetworkStream.mk x7.fUniverse xa x7.fLast (if 3<(IntKind.i64.wrap (x7.fTimes + 1)) then 3 else (IntKind.i64.wrap (x7.fTimes + 1))) x7.fSlots)).set x5.1.toNat (NetworkStream.mk x7.fUniverse xa x4 (if 3<(IntKind.i64.wrap (x7.fTimes + 1)) then 3 else (IntKind.i64.wrap (x7.fTimes + 1))) x7.fSlots)),xb)))) else (if (decide (1000≤(IntKind.i64.wrap (x4 - x7.fLast))))=true then (f84 x7.fSeq).bind fun xc=>((f43_C9 x2 x7 xc x6 x3 x1 x5 x4).run.bind fun _=>((f43_C10 x3 x2 x7 xc x6 x1 x5 x4).run.bind fun xd=>(some ((((x6.set x5.1.toNat (NetworkStream.mk x7.fUniverse x7.fSeq x7.fLast (if 3<(IntKind.i64.wrap (x7.fTimes + 1)) then 3 else (IntKind.i64.wrap (x7.fTimes + 1))) x7.fSlots)).set x5.1.toNat (NetworkStream.mk x7.fUniverse xc x7.fLast (if 3<(IntKind.i64.wrap (x7.fTimes + 1)) then 3 else (IntKind.i64.wrap (x7.fTimes + 1))) x7.fSlots)).set x5.1.toNat (NetworkStream.mk x7.fUniverse xc x4 (if 3<(IntKind.i64.wrap (x7.fTimes + 1)) then 3 else (IntKind.i64.wrap (x7.fTimes + 1))) x7.fSlots)),xd)))) else (some (x6,x3))))) else (at? x0 x5.1).bind fun xe=>(if (!(xe.fSlots == x1.fSlots))=true then (f84 xe.fSeq).bind fun xf=>((f43_C11 x2 xe xf x1 x0 x3 x5 x4).run.bind fun _=>((f43_C12 x3 x2 xe xf x1 x0 x5 x4).run.bind fun xg=>(some (((((x0.set x5.1.toNat (NetworkStream.mk xe.fUniverse xe.fSeq xe.fLast xe.fTimes x1.fSlots)).set x5.1.toNat (NetworkStream.mk xe.fUniverse xe.fSeq xe.fLast 1 x1.fSlots)).set x5.1.toNat (NetworkStream.mk xe.fUniverse xf xe.fLast 1 x1.fSlots)).set x5.1.toNat (NetworkStream.mk xe.fUniverse xf x4 1 x1.fSlots)),xg)))) else (if (decide (xe.fTimes<3))=true then (f84 xe.fSeq).bind fun xh=>((f43_C13 x2 xe xh x0 x3 x5 x4 x1).run.bind fun _=>((f43_C14 x3 x2 xe xh x0 x5 x4 x1).run.bind fun xi=>(some ((((x0.set x5.1.toNat (NetworkStream.mk xe.fUniverse xe.fSeq xe.fLast (if 3<(IntKind.i64.wrap (xe.fTimes + 1)) then 3 else (IntKind.i64.wrap (xe.fTimes + 1))) xe.fSlots)).set x5.1.toNat (NetworkStream.mk xe.fUniverse xh xe.fLast (if 3<(IntKind.i64.wrap (xe.fTimes + 1)) then 3 else (IntKind.i64.wrap (xe.fTimes + 1))) xe.fSlots)).set x5.1.toNat (NetworkStream.mk xe.fUniverse xh x4 (if 3<(IntKind.i64.wrap (xe.fTimes + 1)) then 3 else (IntKind.i64.wrap (xe.fTimes + 1))) xe.fSlots)),xi)))) else (if (decide (1000≤(IntKind.i64.wrap (x4 - xe.fLast))))=true then (f84 xe.fSeq).bind fun xj=>((f43_C15 x2 xe xj x0 x3 x5 x4 x1).run.bind fun _=>((f43_C16 x3 x2 xe xj x0 x5 x4 x1).run.bind fun xk=>(some ((((x0.set x5.1.toNat (NetworkStream.mk xe.fUniverse xe.fSeq xe.fLast (if 3<(IntKind.i64.wrap (xe.fTimes + 1)) then 3 else (IntKind.i64.wrap (xe.fTimes + 1))) xe.fSlots)).set x5.1.toNat (NetworkStream.mk xe.fUniverse xj xe.fLast (if 3<(IntKind.i64.wrap (xe.fTimes + 1)) then 3 else (IntKind.i64.wrap (xe.fTimes + 1))) xe.fSlots)).set x5.1.toNat (NetworkStream.mk xe.fUniverse xj x4 (if 3<(IntKind.i64.wrap (xe.fTimes + 1)) then 3 else (IntKind.i64.wrap (xe.fTimes + 1))) xe.fSlots)),xk)))) else (some (x0,x3))))))
  res:=fun (xl,xm)=>.tup []
  hp:=fun (xl,xm)=>[.cel [.int .u64 x2.fSource,.int .i64 x2.fPriority,.int .i64 x2.fSync,.int .i64 x2.fPulse,.row 5 6 0 xl.length],.cel [.int .u64 0,.int .i64 0,.int .i64 0,.int .i64 0,.sl 5 true []],.cel [.row 7 7 0 xm.length],.dead,.dead,.cel [.int .i64 x1.fUniverse,.str x1.fSlots],.els 5 (xl.map eNetworkStream),.els 7 (xm.map eNetworkPacket)]
noncomputable def f43_L1(x0:(List ApiFrame))(x1:NetworkSender)(x2:Int):Lp (Int×(List NetworkStream)×(List NetworkPacket)) ((List NetworkStream)×(List NetworkPacket)) where
  body:=fun (x3,x4,x5)=>(if (decide (x3<((x0.length:Nat):Int)))=true then (at? x0 x3).bind fun x6=>((f43_C4 x4 x6 x1 x5 x2).run.bind fun (x7,x8)=>(some (.next ((IntKind.i64.wrap (x3 + 1)),x7,x8)))) else (some (.brk (x4,x5))))
  cst:=fun (x3,x4,x5)=>⟨put (put (put (put (put (put (put (fun _=>.junk) 33 (.int .i64 x3)) 32 (.int .i64 ((x0.length:Nat):Int))) 31 (.sl 2 false (x0.map eApiFrame))) 11 (.ptr 2 0)) 6 (.ptr 1 0)) 3 (.ptr 0 0)) 1 (.int .i64 x2),[.cel [.int .u64 x1.fSource,.int .i64 x1.fPriority,.int .i64 x1.fSync,.int .i64 x1.fPulse,.row 5 3 0 x4.length],.cel [.int .u64 0,.int .i64 0,.int .i64 0,.int .i64 0,.sl 5 true []],.cel [.row 7 4 0 x5.length],.els 5 (x4.map eNetworkStream),.els 7 (x5.map eNetworkPacket)]⟩
theorem f43_L1c(x0:(List ApiFrame))(x1:NetworkSender)(x2:Int)(x3:Int)(x4:(List NetworkStream))(x5:(List NetworkPacket)):(f43_L1 x0 x1 x2).cst (x3,x4,x5)=⟨put (put (put (put (put (put (put (fun _=>.junk) 33 (.int .i64 x3)) 32 (.int .i64 ((x0.length:Nat):Int))) 31 (.sl 2 false (x0.map eApiFrame))) 11 (.ptr 2 0)) 6 (.ptr 1 0)) 3 (.ptr 0 0)) 1 (.int .i64 x2),[.cel [.int .u64 x1.fSource,.int .i64 x1.fPriority,.int .i64 x1.fSync,.int .i64 x1.fPulse,.row 5 3 0 x4.length],.cel [.int .u64 0,.int .i64 0,.int .i64 0,.int .i64 0,.sl 5 true []],.cel [.row 7 4 0 x5.length],.els 5 (x4.map eNetworkStream),.els 7 (x5.map eNetworkPacket)]⟩:=rfl
def c43_0:C:=.cond (.t 18) (.seq (.reg [iI 19 (.build [(1,(.int .u64 0)),(1,(.int .i64 0)),(1,(.int .i64 0)),(1,(.int .i64 0)),(1,(.sl 5 true []))] []),iI 20 (.mv (.t 9)),iN (.store 5 (.t 6) (.t 19)),iI 7 (.mv (.c (.sl 7 true []))),iI 8 (.mv (.t 20))]) .ret) (.skip)
def c43_1:C:=.seq (.reg [iI 17 (.mv (.t 9)),iI 18 (.bin .neq (.t 17) (.c (.int .i64 0)))]) c43_0
def c43_2:C:=.cond (.t 24) (.seq (.reg [iI 25 (.build [(1,(.int .u64 0)),(1,(.int .i64 0)),(1,(.int .i64 0)),(1,(.int .i64 0)),(1,(.sl 5 true []))] []),iI 26 (.mv (.t 10)),iN (.store 5 (.t 6) (.t 25)),iI 7 (.mv (.c (.sl 7 true []))),iI 8 (.mv (.t 26))]) .ret) (.skip)
def c43_3:C:=.seq (.reg [iI 23 (.mv (.t 10)),iI 24 (.bin .neq (.t 23) (.c (.int .i64 0)))]) c43_2
def c43_4:C:=.reg [iI 37 (.mv (.t 1)),iI 38 (.load 2 (.t 13)),iI 39 (.mkfn 83 [(.t 11)]),iI 40 (.call (.c (.fn 82 [])) [(.t 3),(.t 37),(.t 38),(.t 39)])]
def c43_5:C:=.reg [iI 41 (.bin .add (.t 33) (.c (.int .i64 1))),iI 33 (.mv (.t 41))]
def c43_6:C:=.seq (.block 1 (.seq (.reg [iI 35 (.iaddr 2 (.t 31) (.t 33)),iI 36 (.load 2 (.t 35)),iI 13 (.alloc [(1,(.int .i64 0)),(1,(.str []))]),iN (.store 2 (.t 13) (.t 36))]) c43_4)) c43_5
def c43_7:C:=.seq (.cond (.t 34) (.skip) (.exit 0)) c43_6
def c43_8:C:=.block 0 (.loop (.seq (.reg [iI 34 (.bin .lss (.t 33) (.t 32))]) c43_7))
def c43_9:C:=.reg [iI 62 (.faddr 3 (.t 3)),iI 63 (.load 0 (.t 62)),iI 64 (.call (.c (.fn 84 [])) [(.t 63)]),iI 65 (.faddr 3 (.t 3)),iN (.store 0 (.t 65) (.t 64))]
def c43_10:C:=.cond (.t 49) (.seq (.reg [iI 50 (.load 0 (.t 11)),iI 51 (.faddr 0 (.t 3)),iI 52 (.load 0 (.t 51)),iI 53 (.faddr 1 (.t 3)),iI 54 (.load 0 (.t 53)),iI 55 (.faddr 3 (.t 3)),iI 56 (.load 0 (.t 55)),iI 57 (.faddr 2 (.t 3)),iI 58 (.load 0 (.t 57)),iI 59 (.build [(1,(.int .u64 0)),(1,(.int .i64 0)),(1,(.int .i64 0)),(1,(.int .i64 0)),(1,(.int .i64 0)),(1,(.bool false)),(1,(.str []))] [(0,0,(.t 52)),(2,0,(.t 54)),(3,0,(.t 56)),(4,0,(.t 58))]),iI 60 (.mkslp 7 1 (.agg [(.int .u64 0),(.int .i64 0),(.int .i64 0),(.int .i64 0),(.int .i64 0),(.bool false),(.str [])]) [(0,(.t 59))]),iI 61 (.append 7 64 (.t 50) (.t 60)),iN (.store 0 (.t 11) (.t 61))]) c43_9) (.skip)
def c43_11:C:=.seq (.regt (.fork [iI 66 (.load 5 (.t 3))] (.run [iI 67 (.load 0 (.t 11)),iN (.store 5 (.t 6) (.t 66)),iI 7 (.mv (.t 67)),iI 8 (.mv (.c (.int .i64 0)))]) (.run [iN (.store 5 (.t 6) (.t 66)),iI 67 (.load 0 (.t 11)),iI 7 (.mv (.t 67)),iI 8 (.mv (.c (.int .i64 0)))]))) .ret
def c43_12:C:=.seq (.seq (.reg [iI 42 (.load 0 (.t 11)),iI 43 (.len 0 (.t 42)),iI 44 (.bin .gtr (.t 43) (.c (.int .i64 0))),iI 45 (.mv (.t 44)),iG (some 46) 45 true (.faddr 2 (.t 3)),iG (some 47) 45 true (.load 0 (.t 46)),iG (some 48) 45 true (.bin .neq (.t 47) (.c (.int .i64 0))),iI 49 (.pick (.t 45) (.t 48) (.c (.bool false)))]) c43_10) c43_11
def c43_13:C:=.seq (.seq (.reg [iI 31 (.mv (.t 2)),iI 32 (.len 0 (.t 31)),iI 33 (.mv (.c (.int .i64 0)))]) c43_8) c43_12
def c43_14:C:=.seq (.reg [iI 11 (.alloc [(1,(.sl 7 true []))])]) c43_13
def c43_15:C:=.seq (.reg [iI 27 (.faddr 4 (.t 3)),iI 28 (.load 0 (.t 27)),iI 29 (.call (.c (.fn 81 [])) [(.t 28)]),iI 30 (.faddr 4 (.t 3)),iN (.store 0 (.t 30) (.t 29))]) c43_14
def c43_16:C:=.seq (.seq (.reg [iI 21 (.mv (.t 2)),iI 22 (.call (.c (.fn 80 [])) [(.t 21)]),iI 10 (.mv (.t 22))]) c43_3) c43_15
def c43_17:C:=.seq (.seq (.reg [iI 14 (.load 5 (.t 3)),iI 15 (.mv (.t 1)),iI 16 (.call (.c (.fn 79 [])) [(.t 14),(.t 15)]),iI 9 (.mv (.t 16))]) c43_1) c43_16
def ir43:C:=.seq (.reg [iI 3 (.box (.t 0)),iI 6 (.alloc [(1,(.int .u64 0)),(1,(.int .i64 0)),(1,(.int .i64 0)),(1,(.int .i64 0)),(1,(.sl 5 true []))]),iI 7 (.mv (.c (.sl 7 true []))),iI 8 (.mv (.c (.int .i64 0)))]) c43_17
theorem fd43:fd? Try.prog 43=some (68,[.cell 6 5,.slot 7,.slot 8],ir43):=by kernel_rfl
noncomputable def f43(x0:NetworkSender)(x1:Int)(x2:(List ApiFrame)):Option (NetworkSender×(List NetworkPacket)×Int) :=
  (f79 x0 x1).bind fun x3=>(if (decide (x3≠0))=true then (some ((NetworkSender.mk 0 0 0 0 ([])),[],x3)) else (f80 x2).bind fun x4=>(if (decide (x4≠0))=true then (some ((NetworkSender.mk 0 0 0 0 ([])),[],x4)) else (f81 x0.fStreams).bind fun x5=>(Lp.run (f43_L1 x2 x0 x1) (0,x5,[])).bind fun (x6,x7)=>(if (decide (0<((x7.length:Nat):Int)))=true then (if (decide (x0.fSync≠0))=true then (app? 64 x7 ([(NetworkPacket.mk x0.fSource 0 x0.fPriority x0.fPulse x0.fSync false ([]))])).bind fun x8=>(f84 x0.fPulse).bind fun x9=>((f43_J2 x0 x6).run (x9,x8)) else ((f43_J2 x0 x6).run (x0.fPulse,x7))) else ((f43_J2 x0 x6).run (x0.fPulse,x7)))))
theorem f43_ok{x0:NetworkSender}{x1:Int}{x2:(List ApiFrame)}{r_:NetworkSender×(List NetworkPacket)×Int}(H:f43 x0 x1 x2=some r_):Pure Try.prog 43 [.agg [.int .u64 x0.fSource,.int .i64 x0.fPriority,.int .i64 x0.fSync,.int .i64 x0.fPulse,.sl 5 false (x0.fStreams.map eNetworkStream)],.int .i64 x1,.sl 2 false (x2.map eApiFrame)] (· = .tup [.agg [.int .u64 r_.1.fSource,.int .i64 r_.1.fPriority,.int .i64 r_.1.fSync,.int .i64 r_.1.fPulse,.sl 5 false (r_.1.fStreams.map eNetworkStream)],.fr 7 (r_.2.1.map eNetworkPacket),.int .i64 r_.2.2]):=by
 refine Pure.walk3 fd43 (some 1) (Nat.le_of_ble_eq_true rfl) (by rfl) fun Q hQ=>?_
 simp only[f43] at H
 refine AW.rseq ?_
 try simp only[↓wk,↓wl,nqs,evV,↓reduceIte,sevalprocAttr]
 refine AW.sseq ?_
 refine AW.rseq ?_
 try simp only[↓wk,↓wl,nqs,evV,↓reduceIte,sevalprocAttr]
 refine evTs_pure hFn H (fun _ h=>f79_ok h) (by rfl) (by rfl) (by rfl) (by rfl) (fun _=>rfl) ?_<;>clear H<;>intro x3 H
 try simp only[eL,↓wk,↓wl,nqs,evV,↓reduceIte,sevalprocAttr]
 refine AW.rseq ?_
 try simp only[↓wk,↓wl,nqs,evV,↓reduceIte,sevalprocAttr]
 refine AW.ifc H (by rfl) ?_ ?_<;>clear H<;>intro H
 ·refine AW.rseq ?_
  try simp only[↓wk,↓wl,nqs,evV,↓reduceIte,sevalprocAttr]
  refine evTs_st (by simp only[↓wk,↓wl,nqs,evV,↓reduceIte,sevalprocAttr,Nat.reduceLeDiff];rfl) ?_
  try simp only[↓wk,↓wl,nqs,evV,↓reduceIte,sevalprocAttr]
  refine AW.ret ?_
  refine seqQ.ret ?_
  cases H
  exact hQ _ _ _ _ (.inr rfl) (by simp only[resVs,omap,resV,↓wk,↓wl,nqs,evV,↓reduceIte,sevalprocAttr];rfl) (hand_k0 (by rfl) (by rfl)) (by first | exact Or.inl rfl | exact Or.inr rfl)
 ·refine AW.skip ?_
  refine seqQ.norm ?_
  refine AW.sseq ?_
  refine AW.rseq ?_
  try simp only[↓wk,↓wl,nqs,evV,↓reduceIte,sevalprocAttr]
  refine evTs_pure hFn H (fun _ h=>f80_ok h) (by rfl) (by rfl) (by rfl) (by rfl) (fun _=>rfl) ?_<;>clear H<;>intro x4 H
  try simp only[eL,↓wk,↓wl,nqs,evV,↓reduceIte,sevalprocAttr]
  refine AW.rseq ?_
  try simp only[↓wk,↓wl,nqs,evV,↓reduceIte,sevalprocAttr]
  refine AW.ifc H (by rfl) ?_ ?_<;>clear H<;>intro H
  ·refine AW.rseq ?_
   try simp only[↓wk,↓wl,nqs,evV,↓reduceIte,sevalprocAttr]
   refine evTs_st (by simp only[↓wk,↓wl,nqs,evV,↓reduceIte,sevalprocAttr,Nat.reduceLeDiff];rfl) ?_
   try simp only[↓wk,↓wl,nqs,evV,↓reduceIte,sevalprocAttr]
   refine AW.ret ?_
   refine seqQ.ret ?_
   cases H
   exact hQ _ _ _ _ (.inr rfl) (by simp only[resVs,omap,resV,↓wk,↓wl,nqs,evV,↓reduceIte,sevalprocAttr];rfl) (hand_k0 (by rfl) (by rfl)) (by first | exact Or.inl rfl | exact Or.inr rfl)
  ·refine AW.skip ?_
   refine seqQ.norm ?_
   refine AW.rseq ?_
   try simp only[↓wk,↓wl,nqs,evV,↓reduceIte,sevalprocAttr]
   refine evTs_fr H (fun _ h=>f81_ok h) (by rfl) (by rfl) (by rfl) (by rfl) (fun _=>rfl) ?_<;>clear H<;>intro x5 H
   try simp only[eL,↓wk,↓wl,nqs,evV,↓reduceIte,sevalprocAttr]
   refine evTs_st (by simp only[↓wk,↓wl,nqs,evV,↓reduceIte,sevalprocAttr,Nat.reduceLeDiff];rfl) ?_
   try simp only[↓wk,↓wl,nqs,evV,↓reduceIte,sevalprocAttr]
   refine AW.rseq ?_
   try simp only[↓wk,↓wl,nqs,evV,↓reduceIte,sevalprocAttr]
   refine AW.sseq ?_
   refine AW.rseq ?_
   try simp only[↓wk,↓wl,nqs,evV,↓reduceIte,sevalprocAttr]
   refine AW.bend ?_
   refine AW.iter H ((Le.trans (Le.nilCell (b:=3) (o:=0) (e:=7) (by rfl) (by rfl)) (Le.tz [0,1,3,2,4] [1,3,6,11,31,32,33] (by simp only[f43_L1c,rrm,↓wk,↓wl,evV,↓reduceIte,sevalprocAttr]<;>rfl)))) ?_<;>clear H
   rintro ⟨x6,x7,x8⟩ x_ st0_ H hst_
   rw[f43_L1c] at hst_
   simp only[f43_L1] at H
   subst hst_
   refine AW.rseq ?_
   try simp only[↓wk,↓wl,nqs,evV,↓reduceIte,sevalprocAttr]
   refine AW.sseq ?_
   refine AW.ifc H (by rfl) ?_ ?_<;>clear H<;>intro H
   ·refine AW.skip ?_
    refine seqQ.norm ?_
    refine AW.bseq ?_
    refine AW.rseq ?_
    try simp only[↓wk,↓wl,nqs,evV,↓reduceIte,sevalprocAttr]
    refine evTs_at (enc:=eApiFrame) H (by rfl) (by rfl) ?_<;>clear H<;>intro x9 H
    try simp only[eApiFrame,eL,↓wk,↓wl,nqs,evV,↓reduceIte,sevalprocAttr]
    refine evTs_st (by simp only[↓wk,↓wl,nqs,evV,↓reduceIte,sevalprocAttr,Nat.reduceLeDiff];rfl) ?_
    try simp only[↓wk,↓wl,nqs,evV,↓reduceIte,sevalprocAttr]
    refine AW.rend ?_
    try simp only[↓wk,↓wl,nqs,evV,↓reduceIte,sevalprocAttr]
    refine evTs_inl (I:=f43_C4 x7 x9 x0 x8 x1) (args:=[.ptr 0 0,.int .i64 x1,.agg [.int .i64 x9.fUniverse,.str x9.fSlots],.fn 83 [.ptr 2 0]]) H (by rfl) fd82 (by rfl) (Nat.le_of_ble_eq_true rfl) ?_ ?_<;>clear H
    ·rintro v_ Q_ H hqf43_C4
     simp only[f43_C4] at H
     dsimp only[List.length_cons,List.length_nil]
     refine AW.rseq ?_
     try simp only[↓wk,↓wl,nqs,evV,↓reduceIte,sevalprocAttr]
     refine AW.rseq ?_
     try simp only[↓wk,↓wl,nqs,evV,↓reduceIte,sevalprocAttr]
     refine evTs_flat hFn H (fun _ h=>f114_115_ok h) (by rfl) (by rfl) (by simp only[deep_eq,imm_simps,imm_rowE,imm_ptrE,imm_enc,omap_simps,take_map_len,take_map_set,take_map_set2,List.length_set,le_refl_true,Nat.zero_add,and_true,true_and,List.drop_zero,Option.map_some,↓wk,↓wl,nqs,evV,↓reduceIte,sevalprocAttr];rfl) (by rfl) (fun _=>rfl) (fun _=>rfl) ?_<;>clear H<;>intro xa H
     try simp only[eL,↓wk,↓wl,nqs,evV,↓reduceIte,sevalprocAttr]
     refine AW.sseq ?_
     refine AW.rseq ?_
     try simp only[↓wk,↓wl,nqs,evV,↓reduceIte,sevalprocAttr]
     refine AW.ifc H (by rfl) ?_ ?_<;>clear H<;>intro H
     ·refine AW.rend ?_
      try simp only[↓wk,↓wl,nqs,evV,↓reduceIte,sevalprocAttr]
      refine evTs_ins (enc:=eNetworkStream) H ins116 (by rfl) (by rfl) (by first | rfl | simp only[List.length_set]) (by rfl) ?_<;>clear H<;>intro xb H
      try simp only[↓wk,↓wl,nqs,evV,↓reduceIte,sevalprocAttr]
      refine evTs_st (by simp only[↓wk,↓wl,nqs,evV,↓reduceIte,sevalprocAttr,Nat.reduceLeDiff];rfl) ?_
      try simp only[↓wk,↓wl,nqs,evV,↓reduceIte,sevalprocAttr]
      refine seqQ.norm ?_
      refine AW.rseq ?_
      try simp only[↓wk,↓wl,nqs,evV,↓reduceIte,sevalprocAttr]
      refine evTs_atr (enc:=eNetworkStream) H (by rfl) (by first | rfl | simp only[List.length_set]) (by rfl) ?_<;>clear H<;>intro xc xd H
      try simp only[eNetworkStream,eL,↓wk,↓wl,nqs,evV,↓reduceIte,sevalprocAttr,xd,eNetworkStream,eL]
      refine AW.bseq ?_
      refine AW.rseq ?_
      try simp only[↓wk,↓wl,nqs,evV,↓reduceIte,sevalprocAttr,xd,eNetworkStream,eL]
      refine AW.ifc H (by rfl) ?_ ?_<;>clear H<;>intro H
      ·refine AW.rend ?_
       try simp only[↓wk,↓wl,nqs,evV,↓reduceIte,sevalprocAttr,xd,eNetworkStream,eL]
       refine evTs_stE (enc:=eNetworkStream) xc (NetworkStream.mk xc.fUniverse xc.fSeq xc.fLast xc.fTimes x9.fSlots) (by rfl) (by rfl) xd (by rfl) ?_
       have xe:=set_get xd (NetworkStream.mk xc.fUniverse xc.fSeq xc.fLast xc.fTimes x9.fSlots)
       try simp only[eNetworkStream,eL,↓wk,↓wl,nqs,evV,↓reduceIte,sevalprocAttr,xd,eNetworkStream,eL,xe]
       refine evTs_stE (enc:=eNetworkStream) (NetworkStream.mk xc.fUniverse xc.fSeq xc.fLast xc.fTimes x9.fSlots) (NetworkStream.mk xc.fUniverse xc.fSeq xc.fLast 1 x9.fSlots) (by rfl) (by rfl) xe (by rfl) ?_
       have xf:=set_get xe (NetworkStream.mk xc.fUniverse xc.fSeq xc.fLast 1 x9.fSlots)
       try simp only[eNetworkStream,eL,↓wk,↓wl,nqs,evV,↓reduceIte,sevalprocAttr,xd,eNetworkStream,eL,xe,xf]
       refine blkQ.norm ?_
       refine AW.rseq ?_
       try simp only[↓wk,↓wl,nqs,evV,↓reduceIte,sevalprocAttr,xd,eNetworkStream,eL,xe,xf]
       refine evTs_pure hFn H (fun _ h=>f84_ok h) (by rfl) (by rfl) (by rfl) (by rfl) (fun _=>rfl) ?_<;>clear H<;>intro xg H
       try simp only[eL,↓wk,↓wl,nqs,evV,↓reduceIte,sevalprocAttr,xd,eNetworkStream,eL,xe,xf]
       refine evTs_stE (enc:=eNetworkStream) (NetworkStream.mk xc.fUniverse xc.fSeq xc.fLast 1 x9.fSlots) (NetworkStream.mk xc.fUniverse xg xc.fLast 1 x9.fSlots) (by rfl) (by rfl) xf (by rfl) ?_
       have xh:=set_get xf (NetworkStream.mk xc.fUniverse xg xc.fLast 1 x9.fSlots)
       try simp only[eNetworkStream,eL,↓wk,↓wl,nqs,evV,↓reduceIte,sevalprocAttr,xd,eNetworkStream,eL,xe,xf,xh]
       refine evTs_stE (enc:=eNetworkStream) (NetworkStream.mk xc.fUniverse xg xc.fLast 1 x9.fSlots) (NetworkStream.mk xc.fUniverse xg x1 1 x9.fSlots) (by rfl) (by rfl) xh (by rfl) ?_
       have xi:=set_get xh (NetworkStream.mk xc.fUniverse xg x1 1 x9.fSlots)
       try simp only[eNetworkStream,eL,↓wk,↓wl,nqs,evV,↓reduceIte,sevalprocAttr,xd,eNetworkStream,eL,xe,xf,xh,xi]
       refine AW.rend ?_
       try simp only[↓wk,↓wl,nqs,evV,↓reduceIte,sevalprocAttr,xd,eNetworkStream,eL,xe,xf,xh,xi]
       refine evTs_inl (I:=f43_C5 x0 xc xg x9 xb x8 xa x1) (args:=[.agg [.int .u64 x0.fSource,.int .i64 x0.fPriority,.int .i64 x0.fSync,.int .i64 x0.fPulse,.row 5 7 0 xb.length],.agg [.int .i64 xc.fUniverse,.int .i64 xg,.int .i64 x1,.int .i64 1,.str x9.fSlots]]) H (by rfl) fd91 (by rfl) (Nat.le_of_ble_eq_true rfl) ?_ ?_<;>clear H
       ·rintro v_ Q_ H hqf43_C5
        simp only[f43_C5] at H
        dsimp only[List.length_cons,List.length_nil]
        refine AW.rseq ?_
        try simp only[↓wk,↓wl,nqs,evV,↓reduceIte,sevalprocAttr,xd,eNetworkStream,eL,xe,xf,xh,xi]
        refine AW.rseq ?_
        try simp only[↓wk,↓wl,nqs,evV,↓reduceIte,sevalprocAttr,xd,eNetworkStream,eL,xe,xf,xh,xi]
        refine evTs_st (by simp only[↓wk,↓wl,nqs,evV,↓reduceIte,sevalprocAttr,xd,eNetworkStream,eL,xe,xf,xh,xi,Nat.reduceLeDiff];rfl) ?_
        try simp only[↓wk,↓wl,nqs,evV,↓reduceIte,sevalprocAttr,xd,eNetworkStream,eL,xe,xf,xh,xi]
        refine AW.ret ?_
        cases H
        exact hqf43_C5 _ _ _ (.inr rfl) (Le.tq 8 [0,1,2,3,4,5,6,7,10] [4] rfl) (by simp only[resVs,omap,resV,f43_C5,rrm,↓wk,↓wl,evV,↓reduceIte,sevalprocAttr,xd,eNetworkStream,eL,xe,xf,xh,xi]) (by simp only[f43_C5,rrm,↓wk,↓wl,evV,↓reduceIte,sevalprocAttr,xd,eNetworkStream,eL,xe,xf,xh,xi])
       ·rintro _ s_ h_ H hs_ hh_
        simp only[f43_C5] at H hs_ hh_
        subst hs_
        subst hh_
        try simp only[↓wk,↓wl,nqs,evV,↓reduceIte,sevalprocAttr,xd,eNetworkStream,eL,xe,xf,xh,xi]
        refine evTs_inl (I:=f43_C6 x8 x0 xc xg x9 xb xa x1) (args:=[.agg [.int .u64 x0.fSource,.int .i64 xc.fUniverse,.int .i64 x0.fPriority,.int .i64 xg,.int .i64 x0.fSync,.bool false,.str x9.fSlots],.ptr 2 0]) H (by rfl) fd83 (by rfl) (Nat.le_of_ble_eq_true rfl) ?_ ?_<;>clear H
        ·rintro v_ Q_ H hqf43_C6
         simp only[f43_C6] at H
         dsimp only[List.length_cons,List.length_nil]
         refine AW.rseq ?_
         try simp only[↓wk,↓wl,nqs,evV,↓reduceIte,sevalprocAttr,xd,eNetworkStream,eL,xe,xf,xh,xi]
         refine AW.rend ?_
         try simp only[↓wk,↓wl,nqs,evV,↓reduceIte,sevalprocAttr,xd,eNetworkStream,eL,xe,xf,xh,xi]
         refine evTs_app (enc:=eNetworkPacket) H (by rfl) (by first | rfl | simp only[List.length_set,xd,eNetworkStream,eL,xe,xf,xh,xi]) (by rfl) (by rfl) ?_<;>clear H<;>intro xj H
         try simp only[↓wk,↓wl,nqs,evV,↓reduceIte,sevalprocAttr,xd,eNetworkStream,eL,xe,xf,xh,xi]
         refine evTs_st (by simp only[↓wk,↓wl,nqs,evV,↓reduceIte,sevalprocAttr,xd,eNetworkStream,eL,xe,xf,xh,xi,Nat.reduceLeDiff];rfl) ?_
         try simp only[↓wk,↓wl,nqs,evV,↓reduceIte,sevalprocAttr,xd,eNetworkStream,eL,xe,xf,xh,xi]
         cases H
         exact hqf43_C6 _ _ _ (.inl rfl) (Le.tq 9 [0,1,2,3,4,5,6,7,8,10] [] rfl) (by simp only[resVs,omap,resV,f43_C6,rrm,↓wk,↓wl,evV,↓reduceIte,sevalprocAttr,xd,eNetworkStream,eL,xe,xf,xh,xi]) (by simp only[f43_C6,rrm,↓wk,↓wl,evV,↓reduceIte,sevalprocAttr,xd,eNetworkStream,eL,xe,xf,xh,xi])
        ·rintro xk s_ h_ H hs_ hh_
         simp only[f43_C6] at H hs_ hh_
         subst hs_
         subst hh_
         try simp only[↓wk,↓wl,nqs,evV,↓reduceIte,sevalprocAttr,xd,eNetworkStream,eL,xe,xf,xh,xi]
         cases H
         exact hqf43_C4 _ _ _ (.inl rfl) (Le.tq 6 [0,1,2,3,4,5,7,9] [] rfl) (by simp only[resVs,omap,resV,f43_C4,rrm,↓wk,↓wl,evV,↓reduceIte,sevalprocAttr,xd,eNetworkStream,eL,xe,xf,xh,xi]) (by simp only[f43_C4,rrm,↓wk,↓wl,evV,↓reduceIte,sevalprocAttr,xd,eNetworkStream,eL,xe,xf,xh,xi])
      ·refine AW.rseq ?_
       try simp only[↓wk,↓wl,nqs,evV,↓reduceIte,sevalprocAttr,xd,eNetworkStream,eL]
       refine evTs_ifg H (by rfl) ?_ ?_<;>clear H<;>intro H
       ·try simp only[↓wk,↓wl,nqs,evV,↓reduceIte,sevalprocAttr,xd,eNetworkStream,eL]
        refine AW.ift (by rfl) ?_
        refine AW.rend ?_
        try simp only[↓wk,↓wl,nqs,evV,↓reduceIte,sevalprocAttr,xd,eNetworkStream,eL]
        refine evTs_stE (enc:=eNetworkStream) xc (NetworkStream.mk xc.fUniverse xc.fSeq xc.fLast (if 3<(IntKind.i64.wrap (xc.fTimes + 1)) then 3 else (IntKind.i64.wrap (xc.fTimes + 1))) xc.fSlots) (by rfl) (by rfl) xd (by rfl) ?_
        have xl:=set_get xd (NetworkStream.mk xc.fUniverse xc.fSeq xc.fLast (if 3<(IntKind.i64.wrap (xc.fTimes + 1)) then 3 else (IntKind.i64.wrap (xc.fTimes + 1))) xc.fSlots)
        try simp only[eNetworkStream,eL,↓wk,↓wl,nqs,evV,↓reduceIte,sevalprocAttr,xd,eNetworkStream,eL,xl]
        refine blkQ.norm ?_
        refine AW.rseq ?_
        try simp only[↓wk,↓wl,nqs,evV,↓reduceIte,sevalprocAttr,xd,eNetworkStream,eL,xl]
        refine evTs_pure hFn H (fun _ h=>f84_ok h) (by rfl) (by rfl) (by rfl) (by rfl) (fun _=>rfl) ?_<;>clear H<;>intro xm H
        try simp only[eL,↓wk,↓wl,nqs,evV,↓reduceIte,sevalprocAttr,xd,eNetworkStream,eL,xl]
        refine evTs_stE (enc:=eNetworkStream) (NetworkStream.mk xc.fUniverse xc.fSeq xc.fLast (if 3<(IntKind.i64.wrap (xc.fTimes + 1)) then 3 else (IntKind.i64.wrap (xc.fTimes + 1))) xc.fSlots) (NetworkStream.mk xc.fUniverse xm xc.fLast (if 3<(IntKind.i64.wrap (xc.fTimes + 1)) then 3 else (IntKind.i64.wrap (xc.fTimes + 1))) xc.fSlots) (by rfl) (by rfl) xl (by rfl) ?_
        have xn:=set_get xl (NetworkStream.mk xc.fUniverse xm xc.fLast (if 3<(IntKind.i64.wrap (xc.fTimes + 1)) then 3 else (IntKind.i64.wrap (xc.fTimes + 1))) xc.fSlots)
        try simp only[eNetworkStream,eL,↓wk,↓wl,nqs,evV,↓reduceIte,sevalprocAttr,xd,eNetworkStream,eL,xl,xn]
        refine evTs_stE (enc:=eNetworkStream) (NetworkStream.mk xc.fUniverse xm xc.fLast (if 3<(IntKind.i64.wrap (xc.fTimes + 1)) then 3 else (IntKind.i64.wrap (xc.fTimes + 1))) xc.fSlots) (NetworkStream.mk xc.fUniverse xm x1 (if 3<(IntKind.i64.wrap (xc.fTimes + 1)) then 3 else (IntKind.i64.wrap (xc.fTimes + 1))) xc.fSlots) (by rfl) (by rfl) xn (by rfl) ?_
        have xo:=set_get xn (NetworkStream.mk xc.fUniverse xm x1 (if 3<(IntKind.i64.wrap (xc.fTimes + 1)) then 3 else (IntKind.i64.wrap (xc.fTimes + 1))) xc.fSlots)
        try simp only[eNetworkStream,eL,↓wk,↓wl,nqs,evV,↓reduceIte,sevalprocAttr,xd,eNetworkStream,eL,xl,xn,xo]
        refine AW.rend ?_
        try simp only[↓wk,↓wl,nqs,evV,↓reduceIte,sevalprocAttr,xd,eNetworkStream,eL,xl,xn,xo]
        refine evTs_inl (I:=f43_C7 x0 xc xm xb x8 x9 xa x1) (args:=[.agg [.int .u64 x0.fSource,.int .i64 x0.fPriority,.int .i64 x0.fSync,.int .i64 x0.fPulse,.row 5 7 0 xb.length],.agg [.int .i64 xc.fUniverse,.int .i64 xm,.int .i64 x1,.int .i64 (if 3<(IntKind.i64.wrap (xc.fTimes + 1)) then 3 else (IntKind.i64.wrap (xc.fTimes + 1))),.str xc.fSlots]]) H (by rfl) fd91 (by rfl) (Nat.le_of_ble_eq_true rfl) ?_ ?_<;>clear H
        ·rintro v_ Q_ H hqf43_C7
         simp only[f43_C7] at H
         dsimp only[List.length_cons,List.length_nil]
         refine AW.rseq ?_
         try simp only[↓wk,↓wl,nqs,evV,↓reduceIte,sevalprocAttr,xd,eNetworkStream,eL,xl,xn,xo]
         refine AW.rseq ?_
         try simp only[↓wk,↓wl,nqs,evV,↓reduceIte,sevalprocAttr,xd,eNetworkStream,eL,xl,xn,xo]
         refine evTs_st (by simp only[↓wk,↓wl,nqs,evV,↓reduceIte,sevalprocAttr,xd,eNetworkStream,eL,xl,xn,xo,Nat.reduceLeDiff];rfl) ?_
         try simp only[↓wk,↓wl,nqs,evV,↓reduceIte,sevalprocAttr,xd,eNetworkStream,eL,xl,xn,xo]
         refine AW.ret ?_
         cases H
         exact hqf43_C7 _ _ _ (.inr rfl) (Le.tq 8 [0,1,2,3,4,5,6,7,10] [4] rfl) (by simp only[resVs,omap,resV,f43_C7,rrm,↓wk,↓wl,evV,↓reduceIte,sevalprocAttr,xd,eNetworkStream,eL,xl,xn,xo]) (by simp only[f43_C7,rrm,↓wk,↓wl,evV,↓reduceIte,sevalprocAttr,xd,eNetworkStream,eL,xl,xn,xo])
        ·rintro _ s_ h_ H hs_ hh_
         simp only[f43_C7] at H hs_ hh_
         subst hs_
         subst hh_
         try simp only[↓wk,↓wl,nqs,evV,↓reduceIte,sevalprocAttr,xd,eNetworkStream,eL,xl,xn,xo]
         refine evTs_inl (I:=f43_C8 x8 x0 xc xm xb x9 xa x1) (args:=[.agg [.int .u64 x0.fSource,.int .i64 xc.fUniverse,.int .i64 x0.fPriority,.int .i64 xm,.int .i64 x0.fSync,.bool false,.str xc.fSlots],.ptr 2 0]) H (by rfl) fd83 (by rfl) (Nat.le_of_ble_eq_true rfl) ?_ ?_<;>clear H
         ·rintro v_ Q_ H hqf43_C8
          simp only[f43_C8] at H
          dsimp only[List.length_cons,List.length_nil]
          refine AW.rseq ?_
          try simp only[↓wk,↓wl,nqs,evV,↓reduceIte,sevalprocAttr,xd,eNetworkStream,eL,xl,xn,xo]
          refine AW.rend ?_
          try simp only[↓wk,↓wl,nqs,evV,↓reduceIte,sevalprocAttr,xd,eNetworkStream,eL,xl,xn,xo]
          refine evTs_app (enc:=eNetworkPacket) H (by rfl) (by first | rfl | simp only[List.length_set,xd,eNetworkStream,eL,xl,xn,xo]) (by rfl) (by rfl) ?_<;>clear H<;>intro xp H
          try simp only[↓wk,↓wl,nqs,evV,↓reduceIte,sevalprocAttr,xd,eNetworkStream,eL,xl,xn,xo]
          refine evTs_st (by simp only[↓wk,↓wl,nqs,evV,↓reduceIte,sevalprocAttr,xd,eNetworkStream,eL,xl,xn,xo,Nat.reduceLeDiff];rfl) ?_
          try simp only[↓wk,↓wl,nqs,evV,↓reduceIte,sevalprocAttr,xd,eNetworkStream,eL,xl,xn,xo]
          cases H
          exact hqf43_C8 _ _ _ (.inl rfl) (Le.tq 9 [0,1,2,3,4,5,6,7,8,10] [] rfl) (by simp only[resVs,omap,resV,f43_C8,rrm,↓wk,↓wl,evV,↓reduceIte,sevalprocAttr,xd,eNetworkStream,eL,xl,xn,xo]) (by simp only[f43_C8,rrm,↓wk,↓wl,evV,↓reduceIte,sevalprocAttr,xd,eNetworkStream,eL,xl,xn,xo])
         ·rintro xq s_ h_ H hs_ hh_
          simp only[f43_C8] at H hs_ hh_
          subst hs_
          subst hh_
          try simp only[↓wk,↓wl,nqs,evV,↓reduceIte,sevalprocAttr,xd,eNetworkStream,eL,xl,xn,xo]
          cases H
          exact hqf43_C4 _ _ _ (.inl rfl) (Le.tq 6 [0,1,2,3,4,5,7,9] [] rfl) (by simp only[resVs,omap,resV,f43_C4,rrm,↓wk,↓wl,evV,↓reduceIte,sevalprocAttr,xd,eNetworkStream,eL,xl,xn,xo]) (by simp only[f43_C4,rrm,↓wk,↓wl,evV,↓reduceIte,sevalprocAttr,xd,eNetworkStream,eL,xl,xn,xo])
       ·try simp only[↓wk,↓wl,nqs,evV,↓reduceIte,sevalprocAttr,xd,eNetworkStream,eL]
        refine AW.ifc H (by rfl) ?_ ?_<;>clear H<;>intro H
        ·refine AW.rend ?_
         try simp only[↓wk,↓wl,nqs,evV,↓reduceIte,sevalprocAttr,xd,eNetworkStream,eL]
         refine evTs_stE (enc:=eNetworkStream) xc (NetworkStream.mk xc.fUniverse xc.fSeq xc.fLast (if 3<(IntKind.i64.wrap (xc.fTimes + 1)) then 3 else (IntKind.i64.wrap (xc.fTimes + 1))) xc.fSlots) (by rfl) (by rfl) xd (by rfl) ?_
         have xr:=set_get xd (NetworkStream.mk xc.fUniverse xc.fSeq xc.fLast (if 3<(IntKind.i64.wrap (xc.fTimes + 1)) then 3 else (IntKind.i64.wrap (xc.fTimes + 1))) xc.fSlots)
         try simp only[eNetworkStream,eL,↓wk,↓wl,nqs,evV,↓reduceIte,sevalprocAttr,xd,eNetworkStream,eL,xr]
         refine blkQ.norm ?_
         refine AW.rseq ?_
         try simp only[↓wk,↓wl,nqs,evV,↓reduceIte,sevalprocAttr,xd,eNetworkStream,eL,xr]
         refine evTs_pure hFn H (fun _ h=>f84_ok h) (by rfl) (by rfl) (by rfl) (by rfl) (fun _=>rfl) ?_<;>clear H<;>intro xs H
         try simp only[eL,↓wk,↓wl,nqs,evV,↓reduceIte,sevalprocAttr,xd,eNetworkStream,eL,xr]
         refine evTs_stE (enc:=eNetworkStream) (NetworkStream.mk xc.fUniverse xc.fSeq xc.fLast (if 3<(IntKind.i64.wrap (xc.fTimes + 1)) then 3 else (IntKind.i64.wrap (xc.fTimes + 1))) xc.fSlots) (NetworkStream.mk xc.fUniverse xs xc.fLast (if 3<(IntKind.i64.wrap (xc.fTimes + 1)) then 3 else (IntKind.i64.wrap (xc.fTimes + 1))) xc.fSlots) (by rfl) (by rfl) xr (by rfl) ?_
         have xt:=set_get xr (NetworkStream.mk xc.fUniverse xs xc.fLast (if 3<(IntKind.i64.wrap (xc.fTimes + 1)) then 3 else (IntKind.i64.wrap (xc.fTimes + 1))) xc.fSlots)
         try simp only[eNetworkStream,eL,↓wk,↓wl,nqs,evV,↓reduceIte,sevalprocAttr,xd,eNetworkStream,eL,xr,xt]
         refine evTs_stE (enc:=eNetworkStream) (NetworkStream.mk xc.fUniverse xs xc.fLast (if 3<(IntKind.i64.wrap (xc.fTimes + 1)) then 3 else (IntKind.i64.wrap (xc.fTimes + 1))) xc.fSlots) (NetworkStream.mk xc.fUniverse xs x1 (if 3<(IntKind.i64.wrap (xc.fTimes + 1)) then 3 else (IntKind.i64.wrap (xc.fTimes + 1))) xc.fSlots) (by rfl) (by rfl) xt (by rfl) ?_
         have xu:=set_get xt (NetworkStream.mk xc.fUniverse xs x1 (if 3<(IntKind.i64.wrap (xc.fTimes + 1)) then 3 else (IntKind.i64.wrap (xc.fTimes + 1))) xc.fSlots)
         try simp only[eNetworkStream,eL,↓wk,↓wl,nqs,evV,↓reduceIte,sevalprocAttr,xd,eNetworkStream,eL,xr,xt,xu]
         refine AW.rend ?_
         try simp only[↓wk,↓wl,nqs,evV,↓reduceIte,sevalprocAttr,xd,eNetworkStream,eL,xr,xt,xu]
         refine evTs_inl (I:=f43_C9 x0 xc xs xb x8 x9 xa x1) (args:=[.agg [.int .u64 x0.fSource,.int .i64 x0.fPriority,.int .i64 x0.fSync,.int .i64 x0.fPulse,.row 5 7 0 xb.length],.agg [.int .i64 xc.fUniverse,.int .i64 xs,.int .i64 x1,.int .i64 (if 3<(IntKind.i64.wrap (xc.fTimes + 1)) then 3 else (IntKind.i64.wrap (xc.fTimes + 1))),.str xc.fSlots]]) H (by rfl) fd91 (by rfl) (Nat.le_of_ble_eq_true rfl) ?_ ?_<;>clear H
         ·rintro v_ Q_ H hqf43_C9
          simp only[f43_C9] at H
          dsimp only[List.length_cons,List.length_nil]
          refine AW.rseq ?_
          try simp only[↓wk,↓wl,nqs,evV,↓reduceIte,sevalprocAttr,xd,eNetworkStream,eL,xr,xt,xu]
          refine AW.rseq ?_
          try simp only[↓wk,↓wl,nqs,evV,↓reduceIte,sevalprocAttr,xd,eNetworkStream,eL,xr,xt,xu]
          refine evTs_st (by simp only[↓wk,↓wl,nqs,evV,↓reduceIte,sevalprocAttr,xd,eNetworkStream,eL,xr,xt,xu,Nat.reduceLeDiff];rfl) ?_
          try simp only[↓wk,↓wl,nqs,evV,↓reduceIte,sevalprocAttr,xd,eNetworkStream,eL,xr,xt,xu]
          refine AW.ret ?_
          cases H
          exact hqf43_C9 _ _ _ (.inr rfl) (Le.tq 8 [0,1,2,3,4,5,6,7,10] [4] rfl) (by simp only[resVs,omap,resV,f43_C9,rrm,↓wk,↓wl,evV,↓reduceIte,sevalprocAttr,xd,eNetworkStream,eL,xr,xt,xu]) (by simp only[f43_C9,rrm,↓wk,↓wl,evV,↓reduceIte,sevalprocAttr,xd,eNetworkStream,eL,xr,xt,xu])
         ·rintro _ s_ h_ H hs_ hh_
          simp only[f43_C9] at H hs_ hh_
          subst hs_
          subst hh_
          try simp only[↓wk,↓wl,nqs,evV,↓reduceIte,sevalprocAttr,xd,eNetworkStream,eL,xr,xt,xu]
          refine evTs_inl (I:=f43_C10 x8 x0 xc xs xb x9 xa x1) (args:=[.agg [.int .u64 x0.fSource,.int .i64 xc.fUniverse,.int .i64 x0.fPriority,.int .i64 xs,.int .i64 x0.fSync,.bool false,.str xc.fSlots],.ptr 2 0]) H (by rfl) fd83 (by rfl) (Nat.le_of_ble_eq_true rfl) ?_ ?_<;>clear H
          ·rintro v_ Q_ H hqf43_C10
           simp only[f43_C10] at H
           dsimp only[List.length_cons,List.length_nil]
           refine AW.rseq ?_
           try simp only[↓wk,↓wl,nqs,evV,↓reduceIte,sevalprocAttr,xd,eNetworkStream,eL,xr,xt,xu]
           refine AW.rend ?_
           try simp only[↓wk,↓wl,nqs,evV,↓reduceIte,sevalprocAttr,xd,eNetworkStream,eL,xr,xt,xu]
           refine evTs_app (enc:=eNetworkPacket) H (by rfl) (by first | rfl | simp only[List.length_set,xd,eNetworkStream,eL,xr,xt,xu]) (by rfl) (by rfl) ?_<;>clear H<;>intro xv H
           try simp only[↓wk,↓wl,nqs,evV,↓reduceIte,sevalprocAttr,xd,eNetworkStream,eL,xr,xt,xu]
           refine evTs_st (by simp only[↓wk,↓wl,nqs,evV,↓reduceIte,sevalprocAttr,xd,eNetworkStream,eL,xr,xt,xu,Nat.reduceLeDiff];rfl) ?_
           try simp only[↓wk,↓wl,nqs,evV,↓reduceIte,sevalprocAttr,xd,eNetworkStream,eL,xr,xt,xu]
           cases H
           exact hqf43_C10 _ _ _ (.inl rfl) (Le.tq 9 [0,1,2,3,4,5,6,7,8,10] [] rfl) (by simp only[resVs,omap,resV,f43_C10,rrm,↓wk,↓wl,evV,↓reduceIte,sevalprocAttr,xd,eNetworkStream,eL,xr,xt,xu]) (by simp only[f43_C10,rrm,↓wk,↓wl,evV,↓reduceIte,sevalprocAttr,xd,eNetworkStream,eL,xr,xt,xu])
          ·rintro xw s_ h_ H hs_ hh_
           simp only[f43_C10] at H hs_ hh_
           subst hs_
           subst hh_
           try simp only[↓wk,↓wl,nqs,evV,↓reduceIte,sevalprocAttr,xd,eNetworkStream,eL,xr,xt,xu]
           cases H
           exact hqf43_C4 _ _ _ (.inl rfl) (Le.tq 6 [0,1,2,3,4,5,7,9] [] rfl) (by simp only[resVs,omap,resV,f43_C4,rrm,↓wk,↓wl,evV,↓reduceIte,sevalprocAttr,xd,eNetworkStream,eL,xr,xt,xu]) (by simp only[f43_C4,rrm,↓wk,↓wl,evV,↓reduceIte,sevalprocAttr,xd,eNetworkStream,eL,xr,xt,xu])
        ·refine AW.ret ?_
         refine blkQ.ret ?_
         cases H
         exact hqf43_C4 _ _ _ (.inr rfl) (Le.trans (Le.moveCell 2 0 (by rfl) (by rfl) (by rfl)) (Le.tq 6 [0,1,2,3,4,5,7,8] [] rfl)) (by simp only[resVs,omap,resV,f43_C4,rrm,↓wk,↓wl,evV,↓reduceIte,sevalprocAttr,xd,eNetworkStream,eL]) (by simp only[f43_C4,rrm,↓wk,↓wl,evV,↓reduceIte,sevalprocAttr,xd,eNetworkStream,eL])
     ·refine AW.skip ?_
      refine seqQ.norm ?_
      refine AW.rseq ?_
      try simp only[↓wk,↓wl,nqs,evV,↓reduceIte,sevalprocAttr]
      refine evTs_atr (enc:=eNetworkStream) H (by rfl) (by first | rfl | simp only[List.length_set]) (by rfl) ?_<;>clear H<;>intro xx xy H
      try simp only[eNetworkStream,eL,↓wk,↓wl,nqs,evV,↓reduceIte,sevalprocAttr,xy,eNetworkStream,eL]
      refine AW.bseq ?_
      refine AW.rseq ?_
      try simp only[↓wk,↓wl,nqs,evV,↓reduceIte,sevalprocAttr,xy,eNetworkStream,eL]
      refine AW.ifc H (by rfl) ?_ ?_<;>clear H<;>intro H
      ·refine AW.rend ?_
       try simp only[↓wk,↓wl,nqs,evV,↓reduceIte,sevalprocAttr,xy,eNetworkStream,eL]
       refine evTs_stE (enc:=eNetworkStream) xx (NetworkStream.mk xx.fUniverse xx.fSeq xx.fLast xx.fTimes x9.fSlots) (by rfl) (by rfl) xy (by rfl) ?_
       have xz:=set_get xy (NetworkStream.mk xx.fUniverse xx.fSeq xx.fLast xx.fTimes x9.fSlots)
       try simp only[eNetworkStream,eL,↓wk,↓wl,nqs,evV,↓reduceIte,sevalprocAttr,xy,eNetworkStream,eL,xz]
       refine evTs_stE (enc:=eNetworkStream) (NetworkStream.mk xx.fUniverse xx.fSeq xx.fLast xx.fTimes x9.fSlots) (NetworkStream.mk xx.fUniverse xx.fSeq xx.fLast 1 x9.fSlots) (by rfl) (by rfl) xz (by rfl) ?_
       have x10:=set_get xz (NetworkStream.mk xx.fUniverse xx.fSeq xx.fLast 1 x9.fSlots)
       try simp only[eNetworkStream,eL,↓wk,↓wl,nqs,evV,↓reduceIte,sevalprocAttr,xy,eNetworkStream,eL,xz,x10]
       refine blkQ.norm ?_
       refine AW.rseq ?_
       try simp only[↓wk,↓wl,nqs,evV,↓reduceIte,sevalprocAttr,xy,eNetworkStream,eL,xz,x10]
       refine evTs_pure hFn H (fun _ h=>f84_ok h) (by rfl) (by rfl) (by rfl) (by rfl) (fun _=>rfl) ?_<;>clear H<;>intro x11 H
       try simp only[eL,↓wk,↓wl,nqs,evV,↓reduceIte,sevalprocAttr,xy,eNetworkStream,eL,xz,x10]
       refine evTs_stE (enc:=eNetworkStream) (NetworkStream.mk xx.fUniverse xx.fSeq xx.fLast 1 x9.fSlots) (NetworkStream.mk xx.fUniverse x11 xx.fLast 1 x9.fSlots) (by rfl) (by rfl) x10 (by rfl) ?_
       have x12:=set_get x10 (NetworkStream.mk xx.fUniverse x11 xx.fLast 1 x9.fSlots)
       try simp only[eNetworkStream,eL,↓wk,↓wl,nqs,evV,↓reduceIte,sevalprocAttr,xy,eNetworkStream,eL,xz,x10,x12]
       refine evTs_stE (enc:=eNetworkStream) (NetworkStream.mk xx.fUniverse x11 xx.fLast 1 x9.fSlots) (NetworkStream.mk xx.fUniverse x11 x1 1 x9.fSlots) (by rfl) (by rfl) x12 (by rfl) ?_
       have x13:=set_get x12 (NetworkStream.mk xx.fUniverse x11 x1 1 x9.fSlots)
       try simp only[eNetworkStream,eL,↓wk,↓wl,nqs,evV,↓reduceIte,sevalprocAttr,xy,eNetworkStream,eL,xz,x10,x12,x13]
       refine AW.rend ?_
       try simp only[↓wk,↓wl,nqs,evV,↓reduceIte,sevalprocAttr,xy,eNetworkStream,eL,xz,x10,x12,x13]
       refine evTs_inl (I:=f43_C11 x0 xx x11 x9 x7 x8 xa x1) (args:=[.agg [.int .u64 x0.fSource,.int .i64 x0.fPriority,.int .i64 x0.fSync,.int .i64 x0.fPulse,.row 5 3 0 x7.length],.agg [.int .i64 xx.fUniverse,.int .i64 x11,.int .i64 x1,.int .i64 1,.str x9.fSlots]]) H (by rfl) fd91 (by rfl) (Nat.le_of_ble_eq_true rfl) ?_ ?_<;>clear H
       ·rintro v_ Q_ H hqf43_C11
        simp only[f43_C11] at H
        dsimp only[List.length_cons,List.length_nil]
        refine AW.rseq ?_
        try simp only[↓wk,↓wl,nqs,evV,↓reduceIte,sevalprocAttr,xy,eNetworkStream,eL,xz,x10,x12,x13]
        refine AW.rseq ?_
        try simp only[↓wk,↓wl,nqs,evV,↓reduceIte,sevalprocAttr,xy,eNetworkStream,eL,xz,x10,x12,x13]
        refine evTs_st (by simp only[↓wk,↓wl,nqs,evV,↓reduceIte,sevalprocAttr,xy,eNetworkStream,eL,xz,x10,x12,x13,Nat.reduceLeDiff];rfl) ?_
        try simp only[↓wk,↓wl,nqs,evV,↓reduceIte,sevalprocAttr,xy,eNetworkStream,eL,xz,x10,x12,x13]
        refine AW.ret ?_
        cases H
        exact hqf43_C11 _ _ _ (.inr rfl) (Le.tq 7 [0,1,2,3,4,5,6,9] [4] rfl) (by simp only[resVs,omap,resV,f43_C11,rrm,↓wk,↓wl,evV,↓reduceIte,sevalprocAttr,xy,eNetworkStream,eL,xz,x10,x12,x13]) (by simp only[f43_C11,rrm,↓wk,↓wl,evV,↓reduceIte,sevalprocAttr,xy,eNetworkStream,eL,xz,x10,x12,x13])
       ·rintro _ s_ h_ H hs_ hh_
        simp only[f43_C11] at H hs_ hh_
        subst hs_
        subst hh_
        try simp only[↓wk,↓wl,nqs,evV,↓reduceIte,sevalprocAttr,xy,eNetworkStream,eL,xz,x10,x12,x13]
        refine evTs_inl (I:=f43_C12 x8 x0 xx x11 x9 x7 xa x1) (args:=[.agg [.int .u64 x0.fSource,.int .i64 xx.fUniverse,.int .i64 x0.fPriority,.int .i64 x11,.int .i64 x0.fSync,.bool false,.str x9.fSlots],.ptr 2 0]) H (by rfl) fd83 (by rfl) (Nat.le_of_ble_eq_true rfl) ?_ ?_<;>clear H
        ·rintro v_ Q_ H hqf43_C12
         simp only[f43_C12] at H
         dsimp only[List.length_cons,List.length_nil]
         refine AW.rseq ?_
         try simp only[↓wk,↓wl,nqs,evV,↓reduceIte,sevalprocAttr,xy,eNetworkStream,eL,xz,x10,x12,x13]
         refine AW.rend ?_
         try simp only[↓wk,↓wl,nqs,evV,↓reduceIte,sevalprocAttr,xy,eNetworkStream,eL,xz,x10,x12,x13]
         refine evTs_app (enc:=eNetworkPacket) H (by rfl) (by first | rfl | simp only[List.length_set,xy,eNetworkStream,eL,xz,x10,x12,x13]) (by rfl) (by rfl) ?_<;>clear H<;>intro x14 H
         try simp only[↓wk,↓wl,nqs,evV,↓reduceIte,sevalprocAttr,xy,eNetworkStream,eL,xz,x10,x12,x13]
         refine evTs_st (by simp only[↓wk,↓wl,nqs,evV,↓reduceIte,sevalprocAttr,xy,eNetworkStream,eL,xz,x10,x12,x13,Nat.reduceLeDiff];rfl) ?_
         try simp only[↓wk,↓wl,nqs,evV,↓reduceIte,sevalprocAttr,xy,eNetworkStream,eL,xz,x10,x12,x13]
         cases H
         exact hqf43_C12 _ _ _ (.inl rfl) (Le.tq 8 [0,1,2,3,4,5,6,7,9] [] rfl) (by simp only[resVs,omap,resV,f43_C12,rrm,↓wk,↓wl,evV,↓reduceIte,sevalprocAttr,xy,eNetworkStream,eL,xz,x10,x12,x13]) (by simp only[f43_C12,rrm,↓wk,↓wl,evV,↓reduceIte,sevalprocAttr,xy,eNetworkStream,eL,xz,x10,x12,x13])
        ·rintro x15 s_ h_ H hs_ hh_
         simp only[f43_C12] at H hs_ hh_
         subst hs_
         subst hh_
         try simp only[↓wk,↓wl,nqs,evV,↓reduceIte,sevalprocAttr,xy,eNetworkStream,eL,xz,x10,x12,x13]
         cases H
         exact hqf43_C4 _ _ _ (.inl rfl) (Le.trans (Le.moveCell 0 4 (by rfl) (by rfl) (by rfl)) (Le.tq 6 [0,1,2,3,4,5,9,8] [] rfl)) (by simp only[resVs,omap,resV,f43_C4,rrm,↓wk,↓wl,evV,↓reduceIte,sevalprocAttr,xy,eNetworkStream,eL,xz,x10,x12,x13]) (by simp only[f43_C4,rrm,↓wk,↓wl,evV,↓reduceIte,sevalprocAttr,xy,eNetworkStream,eL,xz,x10,x12,x13])
      ·refine AW.rseq ?_
       try simp only[↓wk,↓wl,nqs,evV,↓reduceIte,sevalprocAttr,xy,eNetworkStream,eL]
       refine evTs_ifg H (by rfl) ?_ ?_<;>clear H<;>intro H
       ·try simp only[↓wk,↓wl,nqs,evV,↓reduceIte,sevalprocAttr,xy,eNetworkStream,eL]
        refine AW.ift (by rfl) ?_
        refine AW.rend ?_
        try simp only[↓wk,↓wl,nqs,evV,↓reduceIte,sevalprocAttr,xy,eNetworkStream,eL]
        refine evTs_stE (enc:=eNetworkStream) xx (NetworkStream.mk xx.fUniverse xx.fSeq xx.fLast (if 3<(IntKind.i64.wrap (xx.fTimes + 1)) then 3 else (IntKind.i64.wrap (xx.fTimes + 1))) xx.fSlots) (by rfl) (by rfl) xy (by rfl) ?_
        have x16:=set_get xy (NetworkStream.mk xx.fUniverse xx.fSeq xx.fLast (if 3<(IntKind.i64.wrap (xx.fTimes + 1)) then 3 else (IntKind.i64.wrap (xx.fTimes + 1))) xx.fSlots)
        try simp only[eNetworkStream,eL,↓wk,↓wl,nqs,evV,↓reduceIte,sevalprocAttr,xy,eNetworkStream,eL,x16]
        refine blkQ.norm ?_
        refine AW.rseq ?_
        try simp only[↓wk,↓wl,nqs,evV,↓reduceIte,sevalprocAttr,xy,eNetworkStream,eL,x16]
        refine evTs_pure hFn H (fun _ h=>f84_ok h) (by rfl) (by rfl) (by rfl) (by rfl) (fun _=>rfl) ?_<;>clear H<;>intro x17 H
        try simp only[eL,↓wk,↓wl,nqs,evV,↓reduceIte,sevalprocAttr,xy,eNetworkStream,eL,x16]
        refine evTs_stE (enc:=eNetworkStream) (NetworkStream.mk xx.fUniverse xx.fSeq xx.fLast (if 3<(IntKind.i64.wrap (xx.fTimes + 1)) then 3 else (IntKind.i64.wrap (xx.fTimes + 1))) xx.fSlots) (NetworkStream.mk xx.fUniverse x17 xx.fLast (if 3<(IntKind.i64.wrap (xx.fTimes + 1)) then 3 else (IntKind.i64.wrap (xx.fTimes + 1))) xx.fSlots) (by rfl) (by rfl) x16 (by rfl) ?_
        have x18:=set_get x16 (NetworkStream.mk xx.fUniverse x17 xx.fLast (if 3<(IntKind.i64.wrap (xx.fTimes + 1)) then 3 else (IntKind.i64.wrap (xx.fTimes + 1))) xx.fSlots)
        try simp only[eNetworkStream,eL,↓wk,↓wl,nqs,evV,↓reduceIte,sevalprocAttr,xy,eNetworkStream,eL,x16,x18]
        refine evTs_stE (enc:=eNetworkStream) (NetworkStream.mk xx.fUniverse x17 xx.fLast (if 3<(IntKind.i64.wrap (xx.fTimes + 1)) then 3 else (IntKind.i64.wrap (xx.fTimes + 1))) xx.fSlots) (NetworkStream.mk xx.fUniverse x17 x1 (if 3<(IntKind.i64.wrap (xx.fTimes + 1)) then 3 else (IntKind.i64.wrap (xx.fTimes + 1))) xx.fSlots) (by rfl) (by rfl) x18 (by rfl) ?_
        have x19:=set_get x18 (NetworkStream.mk xx.fUniverse x17 x1 (if 3<(IntKind.i64.wrap (xx.fTimes + 1)) then 3 else (IntKind.i64.wrap (xx.fTimes + 1))) xx.fSlots)
        try simp only[eNetworkStream,eL,↓wk,↓wl,nqs,evV,↓reduceIte,sevalprocAttr,xy,eNetworkStream,eL,x16,x18,x19]
        refine AW.rend ?_
        try simp only[↓wk,↓wl,nqs,evV,↓reduceIte,sevalprocAttr,xy,eNetworkStream,eL,x16,x18,x19]
        refine evTs_inl (I:=f43_C13 x0 xx x17 x7 x8 xa x1 x9) (args:=[.agg [.int .u64 x0.fSource,.int .i64 x0.fPriority,.int .i64 x0.fSync,.int .i64 x0.fPulse,.row 5 3 0 x7.length],.agg [.int .i64 xx.fUniverse,.int .i64 x17,.int .i64 x1,.int .i64 (if 3<(IntKind.i64.wrap (xx.fTimes + 1)) then 3 else (IntKind.i64.wrap (xx.fTimes + 1))),.str xx.fSlots]]) H (by rfl) fd91 (by rfl) (Nat.le_of_ble_eq_true rfl) ?_ ?_<;>clear H
        ·rintro v_ Q_ H hqf43_C13
         simp only[f43_C13] at H
         dsimp only[List.length_cons,List.length_nil]
         refine AW.rseq ?_
         try simp only[↓wk,↓wl,nqs,evV,↓reduceIte,sevalprocAttr,xy,eNetworkStream,eL,x16,x18,x19]
         refine AW.rseq ?_
         try simp only[↓wk,↓wl,nqs,evV,↓reduceIte,sevalprocAttr,xy,eNetworkStream,eL,x16,x18,x19]
         refine evTs_st (by simp only[↓wk,↓wl,nqs,evV,↓reduceIte,sevalprocAttr,xy,eNetworkStream,eL,x16,x18,x19,Nat.reduceLeDiff];rfl) ?_
         try simp only[↓wk,↓wl,nqs,evV,↓reduceIte,sevalprocAttr,xy,eNetworkStream,eL,x16,x18,x19]
         refine AW.ret ?_
         cases H
         exact hqf43_C13 _ _ _ (.inr rfl) (Le.tq 7 [0,1,2,3,4,5,6,9] [4] rfl) (by simp only[resVs,omap,resV,f43_C13,rrm,↓wk,↓wl,evV,↓reduceIte,sevalprocAttr,xy,eNetworkStream,eL,x16,x18,x19]) (by simp only[f43_C13,rrm,↓wk,↓wl,evV,↓reduceIte,sevalprocAttr,xy,eNetworkStream,eL,x16,x18,x19])
        ·rintro _ s_ h_ H hs_ hh_
         simp only[f43_C13] at H hs_ hh_
         subst hs_
         subst hh_
         try simp only[↓wk,↓wl,nqs,evV,↓reduceIte,sevalprocAttr,xy,eNetworkStream,eL,x16,x18,x19]
         refine evTs_inl (I:=f43_C14 x8 x0 xx x17 x7 xa x1 x9) (args:=[.agg [.int .u64 x0.fSource,.int .i64 xx.fUniverse,.int .i64 x0.fPriority,.int .i64 x17,.int .i64 x0.fSync,.bool false,.str xx.fSlots],.ptr 2 0]) H (by rfl) fd83 (by rfl) (Nat.le_of_ble_eq_true rfl) ?_ ?_<;>clear H
         ·rintro v_ Q_ H hqf43_C14
          simp only[f43_C14] at H
          dsimp only[List.length_cons,List.length_nil]
          refine AW.rseq ?_
          try simp only[↓wk,↓wl,nqs,evV,↓reduceIte,sevalprocAttr,xy,eNetworkStream,eL,x16,x18,x19]
          refine AW.rend ?_
          try simp only[↓wk,↓wl,nqs,evV,↓reduceIte,sevalprocAttr,xy,eNetworkStream,eL,x16,x18,x19]
          refine evTs_app (enc:=eNetworkPacket) H (by rfl) (by first | rfl | simp only[List.length_set,xy,eNetworkStream,eL,x16,x18,x19]) (by rfl) (by rfl) ?_<;>clear H<;>intro x1a H
          try simp only[↓wk,↓wl,nqs,evV,↓reduceIte,sevalprocAttr,xy,eNetworkStream,eL,x16,x18,x19]
          refine evTs_st (by simp only[↓wk,↓wl,nqs,evV,↓reduceIte,sevalprocAttr,xy,eNetworkStream,eL,x16,x18,x19,Nat.reduceLeDiff];rfl) ?_
          try simp only[↓wk,↓wl,nqs,evV,↓reduceIte,sevalprocAttr,xy,eNetworkStream,eL,x16,x18,x19]
          cases H
          exact hqf43_C14 _ _ _ (.inl rfl) (Le.tq 8 [0,1,2,3,4,5,6,7,9] [] rfl) (by simp only[resVs,omap,resV,f43_C14,rrm,↓wk,↓wl,evV,↓reduceIte,sevalprocAttr,xy,eNetworkStream,eL,x16,x18,x19]) (by simp only[f43_C14,rrm,↓wk,↓wl,evV,↓reduceIte,sevalprocAttr,xy,eNetworkStream,eL,x16,x18,x19])
         ·rintro x1b s_ h_ H hs_ hh_
          simp only[f43_C14] at H hs_ hh_
          subst hs_
          subst hh_
          try simp only[↓wk,↓wl,nqs,evV,↓reduceIte,sevalprocAttr,xy,eNetworkStream,eL,x16,x18,x19]
          cases H
          exact hqf43_C4 _ _ _ (.inl rfl) (Le.trans (Le.moveCell 0 4 (by rfl) (by rfl) (by rfl)) (Le.tq 6 [0,1,2,3,4,5,9,8] [] rfl)) (by simp only[resVs,omap,resV,f43_C4,rrm,↓wk,↓wl,evV,↓reduceIte,sevalprocAttr,xy,eNetworkStream,eL,x16,x18,x19]) (by simp only[f43_C4,rrm,↓wk,↓wl,evV,↓reduceIte,sevalprocAttr,xy,eNetworkStream,eL,x16,x18,x19])
       ·try simp only[↓wk,↓wl,nqs,evV,↓reduceIte,sevalprocAttr,xy,eNetworkStream,eL]
        refine AW.ifc H (by rfl) ?_ ?_<;>clear H<;>intro H
        ·refine AW.rend ?_
         try simp only[↓wk,↓wl,nqs,evV,↓reduceIte,sevalprocAttr,xy,eNetworkStream,eL]
         refine evTs_stE (enc:=eNetworkStream) xx (NetworkStream.mk xx.fUniverse xx.fSeq xx.fLast (if 3<(IntKind.i64.wrap (xx.fTimes + 1)) then 3 else (IntKind.i64.wrap (xx.fTimes + 1))) xx.fSlots) (by rfl) (by rfl) xy (by rfl) ?_
         have x1c:=set_get xy (NetworkStream.mk xx.fUniverse xx.fSeq xx.fLast (if 3<(IntKind.i64.wrap (xx.fTimes + 1)) then 3 else (IntKind.i64.wrap (xx.fTimes + 1))) xx.fSlots)
         try simp only[eNetworkStream,eL,↓wk,↓wl,nqs,evV,↓reduceIte,sevalprocAttr,xy,eNetworkStream,eL,x1c]
         refine blkQ.norm ?_
         refine AW.rseq ?_
         try simp only[↓wk,↓wl,nqs,evV,↓reduceIte,sevalprocAttr,xy,eNetworkStream,eL,x1c]
         refine evTs_pure hFn H (fun _ h=>f84_ok h) (by rfl) (by rfl) (by rfl) (by rfl) (fun _=>rfl) ?_<;>clear H<;>intro x1d H
         try simp only[eL,↓wk,↓wl,nqs,evV,↓reduceIte,sevalprocAttr,xy,eNetworkStream,eL,x1c]
         refine evTs_stE (enc:=eNetworkStream) (NetworkStream.mk xx.fUniverse xx.fSeq xx.fLast (if 3<(IntKind.i64.wrap (xx.fTimes + 1)) then 3 else (IntKind.i64.wrap (xx.fTimes + 1))) xx.fSlots) (NetworkStream.mk xx.fUniverse x1d xx.fLast (if 3<(IntKind.i64.wrap (xx.fTimes + 1)) then 3 else (IntKind.i64.wrap (xx.fTimes + 1))) xx.fSlots) (by rfl) (by rfl) x1c (by rfl) ?_
         have x1e:=set_get x1c (NetworkStream.mk xx.fUniverse x1d xx.fLast (if 3<(IntKind.i64.wrap (xx.fTimes + 1)) then 3 else (IntKind.i64.wrap (xx.fTimes + 1))) xx.fSlots)
         try simp only[eNetworkStream,eL,↓wk,↓wl,nqs,evV,↓reduceIte,sevalprocAttr,xy,eNetworkStream,eL,x1c,x1e]
         refine evTs_stE (enc:=eNetworkStream) (NetworkStream.mk xx.fUniverse x1d xx.fLast (if 3<(IntKind.i64.wrap (xx.fTimes + 1)) then 3 else (IntKind.i64.wrap (xx.fTimes + 1))) xx.fSlots) (NetworkStream.mk xx.fUniverse x1d x1 (if 3<(IntKind.i64.wrap (xx.fTimes + 1)) then 3 else (IntKind.i64.wrap (xx.fTimes + 1))) xx.fSlots) (by rfl) (by rfl) x1e (by rfl) ?_
         have x1f:=set_get x1e (NetworkStream.mk xx.fUniverse x1d x1 (if 3<(IntKind.i64.wrap (xx.fTimes + 1)) then 3 else (IntKind.i64.wrap (xx.fTimes + 1))) xx.fSlots)
         try simp only[eNetworkStream,eL,↓wk,↓wl,nqs,evV,↓reduceIte,sevalprocAttr,xy,eNetworkStream,eL,x1c,x1e,x1f]
         refine AW.rend ?_
         try simp only[↓wk,↓wl,nqs,evV,↓reduceIte,sevalprocAttr,xy,eNetworkStream,eL,x1c,x1e,x1f]
         refine evTs_inl (I:=f43_C15 x0 xx x1d x7 x8 xa x1 x9) (args:=[.agg [.int .u64 x0.fSource,.int .i64 x0.fPriority,.int .i64 x0.fSync,.int .i64 x0.fPulse,.row 5 3 0 x7.length],.agg [.int .i64 xx.fUniverse,.int .i64 x1d,.int .i64 x1,.int .i64 (if 3<(IntKind.i64.wrap (xx.fTimes + 1)) then 3 else (IntKind.i64.wrap (xx.fTimes + 1))),.str xx.fSlots]]) H (by rfl) fd91 (by rfl) (Nat.le_of_ble_eq_true rfl) ?_ ?_<;>clear H
         ·rintro v_ Q_ H hqf43_C15
          simp only[f43_C15] at H
          dsimp only[List.length_cons,List.length_nil]
          refine AW.rseq ?_
          try simp only[↓wk,↓wl,nqs,evV,↓reduceIte,sevalprocAttr,xy,eNetworkStream,eL,x1c,x1e,x1f]
          refine AW.rseq ?_
          try simp only[↓wk,↓wl,nqs,evV,↓reduceIte,sevalprocAttr,xy,eNetworkStream,eL,x1c,x1e,x1f]
          refine evTs_st (by simp only[↓wk,↓wl,nqs,evV,↓reduceIte,sevalprocAttr,xy,eNetworkStream,eL,x1c,x1e,x1f,Nat.reduceLeDiff];rfl) ?_
          try simp only[↓wk,↓wl,nqs,evV,↓reduceIte,sevalprocAttr,xy,eNetworkStream,eL,x1c,x1e,x1f]
          refine AW.ret ?_
          cases H
          exact hqf43_C15 _ _ _ (.inr rfl) (Le.tq 7 [0,1,2,3,4,5,6,9] [4] rfl) (by simp only[resVs,omap,resV,f43_C15,rrm,↓wk,↓wl,evV,↓reduceIte,sevalprocAttr,xy,eNetworkStream,eL,x1c,x1e,x1f]) (by simp only[f43_C15,rrm,↓wk,↓wl,evV,↓reduceIte,sevalprocAttr,xy,eNetworkStream,eL,x1c,x1e,x1f])
         ·rintro _ s_ h_ H hs_ hh_
          simp only[f43_C15] at H hs_ hh_
          subst hs_
          subst hh_
          try simp only[↓wk,↓wl,nqs,evV,↓reduceIte,sevalprocAttr,xy,eNetworkStream,eL,x1c,x1e,x1f]
          refine evTs_inl (I:=f43_C16 x8 x0 xx x1d x7 xa x1 x9) (args:=[.agg [.int .u64 x0.fSource,.int .i64 xx.fUniverse,.int .i64 x0.fPriority,.int .i64 x1d,.int .i64 x0.fSync,.bool false,.str xx.fSlots],.ptr 2 0]) H (by rfl) fd83 (by rfl) (Nat.le_of_ble_eq_true rfl) ?_ ?_<;>clear H
          ·rintro v_ Q_ H hqf43_C16
           simp only[f43_C16] at H
           dsimp only[List.length_cons,List.length_nil]
           refine AW.rseq ?_
           try simp only[↓wk,↓wl,nqs,evV,↓reduceIte,sevalprocAttr,xy,eNetworkStream,eL,x1c,x1e,x1f]
           refine AW.rend ?_
           try simp only[↓wk,↓wl,nqs,evV,↓reduceIte,sevalprocAttr,xy,eNetworkStream,eL,x1c,x1e,x1f]
           refine evTs_app (enc:=eNetworkPacket) H (by rfl) (by first | rfl | simp only[List.length_set,xy,eNetworkStream,eL,x1c,x1e,x1f]) (by rfl) (by rfl) ?_<;>clear H<;>intro x1g H
           try simp only[↓wk,↓wl,nqs,evV,↓reduceIte,sevalprocAttr,xy,eNetworkStream,eL,x1c,x1e,x1f]
           refine evTs_st (by simp only[↓wk,↓wl,nqs,evV,↓reduceIte,sevalprocAttr,xy,eNetworkStream,eL,x1c,x1e,x1f,Nat.reduceLeDiff];rfl) ?_
           try simp only[↓wk,↓wl,nqs,evV,↓reduceIte,sevalprocAttr,xy,eNetworkStream,eL,x1c,x1e,x1f]
           cases H
           exact hqf43_C16 _ _ _ (.inl rfl) (Le.tq 8 [0,1,2,3,4,5,6,7,9] [] rfl) (by simp only[resVs,omap,resV,f43_C16,rrm,↓wk,↓wl,evV,↓reduceIte,sevalprocAttr,xy,eNetworkStream,eL,x1c,x1e,x1f]) (by simp only[f43_C16,rrm,↓wk,↓wl,evV,↓reduceIte,sevalprocAttr,xy,eNetworkStream,eL,x1c,x1e,x1f])
          ·rintro x1h s_ h_ H hs_ hh_
           simp only[f43_C16] at H hs_ hh_
           subst hs_
           subst hh_
           try simp only[↓wk,↓wl,nqs,evV,↓reduceIte,sevalprocAttr,xy,eNetworkStream,eL,x1c,x1e,x1f]
           cases H
           exact hqf43_C4 _ _ _ (.inl rfl) (Le.trans (Le.moveCell 0 4 (by rfl) (by rfl) (by rfl)) (Le.tq 6 [0,1,2,3,4,5,9,8] [] rfl)) (by simp only[resVs,omap,resV,f43_C4,rrm,↓wk,↓wl,evV,↓reduceIte,sevalprocAttr,xy,eNetworkStream,eL,x1c,x1e,x1f]) (by simp only[f43_C4,rrm,↓wk,↓wl,evV,↓reduceIte,sevalprocAttr,xy,eNetworkStream,eL,x1c,x1e,x1f])
        ·refine AW.ret ?_
         refine blkQ.ret ?_
         cases H
         exact hqf43_C4 _ _ _ (.inr rfl) (Le.trans (Le.moveCell 0 4 (by rfl) (by rfl) (by rfl)) (Le.trans (Le.moveCell 2 0 (by rfl) (by rfl) (by rfl)) (Le.tq 6 [0,1,2,3,4,5,7,8] [] rfl))) (by simp only[resVs,omap,resV,f43_C4,rrm,↓wk,↓wl,evV,↓reduceIte,sevalprocAttr,xy,eNetworkStream,eL]) (by simp only[f43_C4,rrm,↓wk,↓wl,evV,↓reduceIte,sevalprocAttr,xy,eNetworkStream,eL])
    ·rintro ⟨x1i,x1j⟩ s_ h_ H hs_ hh_
     simp only[f43_C4] at H hs_ hh_
     subst hs_
     subst hh_
     try simp only[↓wk,↓wl,nqs,evV,↓reduceIte,sevalprocAttr]
     refine blkQ.norm ?_
     refine AW.rend ?_
     try simp only[↓wk,↓wl,nqs,evV,↓reduceIte,sevalprocAttr]
     exact loopQ.next H ((Le.tz [0,1,2,6,7] [1,3,6,11,31,32,33] (by simp only[f43_L1c,rrm,↓wk,↓wl,evV,↓reduceIte,sevalprocAttr]<;>rfl)))
   ·refine AW.exit ?_
    refine seqQ.exit ?_
    refine loopQ.exit H ?_<;>clear H<;>intro H
    try dsimp only at H
    refine blk0.here ?_
    refine seqQ.norm ?_
    refine AW.join (f43_J2 x0 x7) H ?_ fun hf43_J2=>?_
    ·clear H
     rintro ⟨x1k,x1l⟩ st0_ H hst_
     rw[f43_J2c] at hst_
     simp only[f43_J2] at H
     subst hst_
     refine AW.join (f43_J3 x0 x1k x7 x1l) H ?_ fun hf43_J3=>?_
     ·clear H
      rintro _ st0_ H hst_
      rw[f43_J3c] at hst_
      simp only[f43_J3] at H
      subst hst_
      refine AW.ret ?_
      cases H
      exact hQ _ _ _ _ (.inr rfl) (by simp only[resVs,omap,resV,↓wk,↓wl,nqs,evV,↓reduceIte,sevalprocAttr];rfl) (hand_kI (by rfl) (by rfl) (by simp) (enc_all _) (by show (visit _ (12 + 1) (.tup [_,_])).contains _=false;rw[visit_tup_cons,visit_aggT,visit_tup_cons,visit_pl (by rfl),visit_tup_cons,visit_pl (by rfl),visit_tup_cons,visit_pl (by rfl),visit_tup_cons,visit_pl (by rfl),visit_tup_cons,visit_rowE (enc:=eNetworkStream) (by rfl),visit_tup_nil,visit_tup_cons,visit_pl (by rfl),visit_tup_nil];rfl) (by show omap (imm _ 12) [_,_]=_;simp only[deep_eq,imm_simps,imm_rowE,imm_ptrE,imm_enc,omap_simps,take_map_len,take_map_set,take_map_set2,List.length_set,le_refl_true,Nat.zero_add,and_true,true_and,List.drop_zero,Option.map_some,↓wk,↓wl,nqs,evV,↓reduceIte,sevalprocAttr];rfl)) (by first | exact Or.inl rfl | exact Or.inr rfl)
     ·refine AW.regt ?_
      refine evR.fork ?_
      try simp only[↓wk,↓wl,nqs,evV,↓reduceIte,sevalprocAttr]
      refine evR.both ?_ ?_
      ·refine evR.run ?_
       try simp only[↓wk,↓wl,nqs,evV,↓reduceIte,sevalprocAttr]
       refine evTs_st (by simp only[↓wk,↓wl,nqs,evV,↓reduceIte,sevalprocAttr,Nat.reduceLeDiff];rfl) ?_
       try simp only[↓wk,↓wl,nqs,evV,↓reduceIte,sevalprocAttr]
       refine seqQ.norm ?_
       exact hf43_J3 _ _ H ((Le.tz [1,4,3] [6,7,8] (by simp only[f43_J3c,rrm,↓wk,↓wl,evV,↓reduceIte,sevalprocAttr]<;>rfl)))
      ·refine evR.run ?_
       try simp only[↓wk,↓wl,nqs,evV,↓reduceIte,sevalprocAttr]
       refine evTs_st (by simp only[↓wk,↓wl,nqs,evV,↓reduceIte,sevalprocAttr,Nat.reduceLeDiff];rfl) ?_
       try simp only[↓wk,↓wl,nqs,evV,↓reduceIte,sevalprocAttr]
       refine seqQ.norm ?_
       exact hf43_J3 _ _ H ((Le.tz [1,4,3] [6,7,8] (by simp only[f43_J3c,rrm,↓wk,↓wl,evV,↓reduceIte,sevalprocAttr]<;>rfl)))
    ·refine AW.rseq ?_
     try simp only[↓wk,↓wl,nqs,evV,↓reduceIte,sevalprocAttr]
     refine evTs_ifg H (by rfl) ?_ ?_<;>clear H<;>intro H
     ·try simp only[↓wk,↓wl,nqs,evV,↓reduceIte,sevalprocAttr]
      refine AW.ifc H (by rfl) ?_ ?_<;>clear H<;>intro H
      ·refine AW.rseq ?_
       try simp only[↓wk,↓wl,nqs,evV,↓reduceIte,sevalprocAttr]
       refine evTs_app (enc:=eNetworkPacket) H (by rfl) (by first | rfl | simp only[List.length_set]) (by rfl) (by rfl) ?_<;>clear H<;>intro x1m H
       try simp only[↓wk,↓wl,nqs,evV,↓reduceIte,sevalprocAttr]
       refine evTs_st (by simp only[↓wk,↓wl,nqs,evV,↓reduceIte,sevalprocAttr,Nat.reduceLeDiff];rfl) ?_
       try simp only[↓wk,↓wl,nqs,evV,↓reduceIte,sevalprocAttr]
       refine AW.rend ?_
       try simp only[↓wk,↓wl,nqs,evV,↓reduceIte,sevalprocAttr]
       refine evTs_pure hFn H (fun _ h=>f84_ok h) (by rfl) (by rfl) (by rfl) (by rfl) (fun _=>rfl) ?_<;>clear H<;>intro x1n H
       try simp only[eL,↓wk,↓wl,nqs,evV,↓reduceIte,sevalprocAttr]
       refine evTs_st (by simp only[↓wk,↓wl,nqs,evV,↓reduceIte,sevalprocAttr,Nat.reduceLeDiff];rfl) ?_
       try simp only[↓wk,↓wl,nqs,evV,↓reduceIte,sevalprocAttr]
       refine seqQ.norm ?_
       exact hf43_J2 _ _ H ((Le.tz [0,1,2,3,5] [3,6,11] (by simp only[f43_J2c,rrm,↓wk,↓wl,evV,↓reduceIte,sevalprocAttr]<;>rfl)))
      ·refine AW.skip ?_
       refine seqQ.norm ?_
       exact hf43_J2 _ _ H ((Le.tz [0,1,2,3,4] [3,6,11] (by simp only[f43_J2c,rrm,↓wk,↓wl,evV,↓reduceIte,sevalprocAttr]<;>rfl)))
     ·try simp only[↓wk,↓wl,nqs,evV,↓reduceIte,sevalprocAttr]
      refine AW.iff (by rfl) ?_
      refine AW.skip ?_
      refine seqQ.norm ?_
      exact hf43_J2 _ _ H ((Le.tz [0,1,2,3,4] [3,6,11] (by simp only[f43_J2c,rrm,↓wk,↓wl,evV,↓reduceIte,sevalprocAttr]<;>rfl)))
theorem f43_im{x0:NetworkSender}{x1:Int}{x2:(List ApiFrame)}{r_:NetworkSender×(List NetworkPacket)×Int}(H:f43 x0 x1 x2=some r_):Pure Try.prog 43 [.agg [.int .u64 x0.fSource,.int .i64 x0.fPriority,.int .i64 x0.fSync,.int .i64 x0.fPulse,.sl 5 false (x0.fStreams.map eNetworkStream)],.int .i64 x1,.sl 2 false (x2.map eApiFrame)] (· = .tup [.agg [.int .u64 r_.1.fSource,.int .i64 r_.1.fPriority,.int .i64 r_.1.fSync,.int .i64 r_.1.fPulse,.sl 5 false (r_.1.fStreams.map eNetworkStream)],.sl 7 false (r_.2.1.map eNetworkPacket),.int .i64 r_.2.2]):=(f43_ok H).unfr (by first | exact enc_fits _ | simp only[frFits,List.all_cons,List.all_nil,enc_fits,Bool.and_self])
def c59_0:C:=.cond (.t 29) (.seq (.reg [iI 2 (.mv (.c (.int .i64 3)))]) .ret) (.skip)
def c59_1:C:=.cond (.t 24) (.seq (.reg [iI 2 (.mv (.c (.int .i64 13)))]) .ret) (.seq (.reg [iI 30 (.faddr 1 (.t 1)),iI 31 (.load 0 (.t 30)),iI 32 (.bin .eql (.t 31) (.c (.int .i64 0))),iI 33 (.mv (.t 32)),iG (some 34) 33 true (.faddr 4 (.t 1)),iG (some 35) 33 true (.load 0 (.t 34)),iG (some 36) 33 true (.bin .eql (.t 35) (.c (.int .i64 0))),iG (some 37) 33 true (.mv (.t 36)),iG (some 38) 37 false (.faddr 5 (.t 1)),iG (some 39) 37 false (.load 0 (.t 38)),iG (some 40) 33 true (.pick (.t 37) (.c (.bool true)) (.t 39)),iG (some 41) 33 true (.mv (.t 40)),iG (some 42) 41 false (.faddr 6 (.t 1)),iG (some 43) 41 false (.load 0 (.t 42)),iG (some 44) 41 false (.bin .neq (.t 43) (.c (.str []))),iG (some 45) 33 true (.pick (.t 41) (.c (.bool true)) (.t 44)),iI 46 (.pick (.t 33) (.t 45) (.c (.bool false))),iI 29 (.mv (.t 46))]) c59_0)
def c59_2:C:=.cond (.t 3) (.seq (.reg [iI 2 (.mv (.c (.int .i64 2)))]) .ret) (.seq (.reg [iI 25 (.faddr 6 (.t 1)),iI 26 (.load 0 (.t 25)),iI 27 (.len 1 (.t 26)),iI 28 (.bin .gtr (.t 27) (.c (.int .i64 512))),iI 24 (.mv (.t 28))]) c59_1)
def c59_3:C:=.seq (.reg [iI 2 (.mv (.c (.int .i64 0)))]) .ret
def c59_4:C:=.seq (.block 0 (.seq (.reg [iI 4 (.faddr 0 (.t 1)),iI 5 (.load 0 (.t 4)),iI 6 (.faddr 2 (.t 1)),iI 7 (.load 0 (.t 6)),iI 8 (.faddr 4 (.t 1)),iI 9 (.load 0 (.t 8)),iI 10 (.call (.c (.fn 78 [])) [(.t 5),(.t 7),(.t 9)]),iI 11 (.un .not (.t 10)),iI 12 (.mv (.t 11)),iG (some 13) 12 false (.faddr 1 (.t 1)),iG (some 14) 12 false (.load 0 (.t 13)),iG (some 15) 12 false (.call (.c (.fn 93 [])) [(.t 14),(.c (.int .i64 0)),(.c (.int .i64 8))]),iG (some 16) 12 false (.un .not (.t 15)),iI 17 (.pick (.t 12) (.c (.bool true)) (.t 16)),iI 18 (.mv (.t 17)),iG (some 19) 18 false (.faddr 3 (.t 1)),iG (some 20) 18 false (.load 0 (.t 19)),iG (some 21) 18 false (.call (.c (.fn 94 [])) [(.t 20)]),iG (some 22) 18 false (.un .not (.t 21)),iI 23 (.pick (.t 18) (.c (.bool true)) (.t 22)),iI 3 (.mv (.t 23))]) c59_2)) c59_3
def ir59:C:=.seq (.reg [iI 1 (.box (.t 0)),iI 2 (.mv (.c (.int .i64 0)))]) c59_4
theorem fd59:fd? Try.prog 59=some (47,[.slot 2],ir59):=by kernel_rfl
noncomputable def f59(x0:NetworkPacket):Option (Int) :=
  (f78 x0.fSource x0.fPriority x0.fSync).bind fun x1=>(if (!x1)=true then (some 2) else (f93 x0.fUniverse 0 8).bind fun x2=>(if (!x2)=true then (some 2) else (f94 x0.fSeq).bind fun x3=>(if (!x3)=true then (some 2) else (if (decide (512<((x0.fSlots.length:Nat):Int)))=true then (some 13) else (if (decide (x0.fUniverse=0))=true then (if (decide (x0.fSync=0))=true then (some 3) else (if x0.fEnd=true then (some 3) else (if (!(x0.fSlots == ([])))=true then (some 3) else (some 0)))) else (some 0))))))
theorem f59_ok{x0:NetworkPacket}{r_:Int}(H:f59 x0=some r_):Pure Try.prog 59 [.agg [.int .u64 x0.fSource,.int .i64 x0.fUniverse,.int .i64 x0.fPriority,.int .i64 x0.fSeq,.int .i64 x0.fSync,.bool x0.fEnd,.str x0.fSlots]] (· = .int .i64 r_):=by
 refine Pure.walk3 fd59 none (Nat.le_of_ble_eq_true rfl) (by rfl) fun Q hQ=>?_
 simp only[f59] at H
 refine AW.rseq ?_
 try simp only[↓wk,↓wl,nq,evV,↓reduceIte,sevalprocAttr]
 refine AW.bseq ?_
 refine AW.rseq ?_
 try simp only[↓wk,↓wl,nq,evV,↓reduceIte,sevalprocAttr]
 refine evTs_pure hFn H (fun _ h=>f78_ok h) (by rfl) (by rfl) (by rfl) (by rfl) (fun _=>rfl) ?_<;>clear H<;>intro x1 H
 try simp only[eL,↓wk,↓wl,nq,evV,↓reduceIte,sevalprocAttr]
 refine evTs_ifg H (by rfl) ?_ ?_<;>clear H<;>intro H
 ·try simp only[↓wk,↓wl,nq,evV,↓reduceIte,sevalprocAttr]
  refine AW.ift (by rfl) ?_
  refine AW.rseq ?_
  try simp only[↓wk,↓wl,nq,evV,↓reduceIte,sevalprocAttr]
  refine AW.ret ?_
  refine blkQ.ret ?_
  cases H
  exact hQ.fin
 ·try simp only[↓wk,↓wl,nq,evV,↓reduceIte,sevalprocAttr]
  refine evTs_pure hFn H (fun _ h=>f93_ok h) (by rfl) (by rfl) (by rfl) (by rfl) (fun _=>rfl) ?_<;>clear H<;>intro x2 H
  try simp only[eL,↓wk,↓wl,nq,evV,↓reduceIte,sevalprocAttr]
  refine evTs_ifg H (by rfl) ?_ ?_<;>clear H<;>intro H
  ·try simp only[↓wk,↓wl,nq,evV,↓reduceIte,sevalprocAttr]
   refine AW.ift (by rfl) ?_
   refine AW.rseq ?_
   try simp only[↓wk,↓wl,nq,evV,↓reduceIte,sevalprocAttr]
   refine AW.ret ?_
   refine blkQ.ret ?_
   cases H
   exact hQ.fin
  ·try simp only[↓wk,↓wl,nq,evV,↓reduceIte,sevalprocAttr]
   refine evTs_pure hFn H (fun _ h=>f94_ok h) (by rfl) (by rfl) (by rfl) (by rfl) (fun _=>rfl) ?_<;>clear H<;>intro x3 H
   try simp only[eL,↓wk,↓wl,nq,evV,↓reduceIte,sevalprocAttr]
   refine AW.ifc H (by rfl) ?_ ?_<;>clear H<;>intro H
   ·refine AW.rseq ?_
    try simp only[↓wk,↓wl,nq,evV,↓reduceIte,sevalprocAttr]
    refine AW.ret ?_
    refine blkQ.ret ?_
    cases H
    exact hQ.fin
   ·refine AW.rseq ?_
    try simp only[↓wk,↓wl,nq,evV,↓reduceIte,sevalprocAttr]
    refine AW.ifc H (by rfl) ?_ ?_<;>clear H<;>intro H
    ·refine AW.rseq ?_
     try simp only[↓wk,↓wl,nq,evV,↓reduceIte,sevalprocAttr]
     refine AW.ret ?_
     refine blkQ.ret ?_
     cases H
     exact hQ.fin
    ·refine AW.rseq ?_
     try simp only[↓wk,↓wl,nq,evV,↓reduceIte,sevalprocAttr]
     refine evTs_ifg H (by rfl) ?_ ?_<;>clear H<;>intro H
     ·try simp only[↓wk,↓wl,nq,evV,↓reduceIte,sevalprocAttr]
      refine evTs_ifg H (by rfl) ?_ ?_<;>clear H<;>intro H
      ·try simp only[↓wk,↓wl,nq,evV,↓reduceIte,sevalprocAttr]
       refine AW.ift (by rfl) ?_
       refine AW.rseq ?_
       try simp only[↓wk,↓wl,nq,evV,↓reduceIte,sevalprocAttr]
       refine AW.ret ?_
       refine blkQ.ret ?_
       cases H
       exact hQ.fin
      ·try simp only[↓wk,↓wl,nq,evV,↓reduceIte,sevalprocAttr]
       refine evTs_ifg H (by rfl) ?_ ?_<;>clear H<;>intro H
       ·try simp only[↓wk,↓wl,nq,evV,↓reduceIte,sevalprocAttr]
        refine AW.ift (by rfl) ?_
        refine AW.rseq ?_
        try simp only[↓wk,↓wl,nq,evV,↓reduceIte,sevalprocAttr]
        refine AW.ret ?_
        refine blkQ.ret ?_
        cases H
        exact hQ.fin
       ·try simp only[↓wk,↓wl,nq,evV,↓reduceIte,sevalprocAttr]
        refine AW.ifc H (by rfl) ?_ ?_<;>clear H<;>intro H
        ·refine AW.rseq ?_
         try simp only[↓wk,↓wl,nq,evV,↓reduceIte,sevalprocAttr]
         refine AW.ret ?_
         refine blkQ.ret ?_
         cases H
         exact hQ.fin
        ·refine AW.skip ?_
         refine blkQ.norm ?_
         refine AW.rseq ?_
         try simp only[↓wk,↓wl,nq,evV,↓reduceIte,sevalprocAttr]
         refine AW.ret ?_
         cases H
         exact hQ.fin
     ·try simp only[↓wk,↓wl,nq,evV,↓reduceIte,sevalprocAttr]
      refine AW.iff (by rfl) ?_
      refine AW.skip ?_
      refine blkQ.norm ?_
      refine AW.rseq ?_
      try simp only[↓wk,↓wl,nq,evV,↓reduceIte,sevalprocAttr]
      refine AW.ret ?_
      cases H
      exact hQ.fin
def c105_0:C:=.seq (.reg [iI 3 (.mv (.t 0)),iI 4 (.bin .eql (.t 3) (.c (.str []))),iI 5 (.mv (.t 4)),iG (some 6) 5 false (.mv (.t 0)),iG (some 7) 5 false (.len 1 (.t 6)),iG (some 8) 5 false (.bin .eql (.t 7) (.c (.int .i64 512))),iI 9 (.pick (.t 5) (.c (.bool true)) (.t 8)),iI 2 (.mv (.t 9))]) .ret
def ir105:C:=.seq (.reg [iI 2 (.mv (.c (.bool false)))]) c105_0
theorem fd105:fd? Try.prog 105=some (10,[.slot 2],ir105):=by kernel_rfl
noncomputable def f105(x0:(List UInt8)):Option (Bool) :=
  (if (x0 == ([]))=true then (some true) else (some (decide (((x0.length:Nat):Int)=512))))
theorem f105_ok{x0:(List UInt8)}{r_:Bool}(H:f105 x0=some r_):Pure Try.prog 105 [.str x0] (· = .bool r_):=by
 refine Pure.walk3 fd105 none (Nat.le_of_ble_eq_true rfl) (by rfl) fun Q hQ=>?_
 simp only[f105] at H
 refine AW.rseq ?_
 try simp only[↓wk,↓wl,nq,evV,↓reduceIte,sevalprocAttr]
 refine AW.rseq ?_
 try simp only[↓wk,↓wl,nq,evV,↓reduceIte,sevalprocAttr]
 refine evTs_ifg H (by rfl) ?_ ?_<;>clear H<;>intro H
 ·try simp only[↓wk,↓wl,nq,evV,↓reduceIte,sevalprocAttr]
  refine AW.ret ?_
  cases H
  exact hQ.fin
 ·try simp only[↓wk,↓wl,nq,evV,↓reduceIte,sevalprocAttr]
  refine AW.ret ?_
  cases H
  exact hQ.fin
def c63_0:C:=.cond (.t 32) (.seq (.reg [iI 2 (.mv (.c (.int .i64 2)))]) .ret) (.skip)
def c63_1:C:=.cond (.t 42) (.seq (.reg [iI 2 (.mv (.c (.int .i64 14)))]) .ret) (.skip)
def c63_2:C:=.cond (.t 50) (.seq (.reg [iI 2 (.mv (.c (.int .i64 3)))]) .ret) (.skip)
def c63_3:C:=.seq (.reg [iI 2 (.mv (.c (.int .i64 0)))]) .ret
def c63_4:C:=.seq (.seq (.reg [iI 43 (.faddr 4 (.t 1)),iI 44 (.load 0 (.t 43)),iI 45 (.bin .eql (.t 44) (.c (.int .i64 0))),iI 46 (.mv (.t 45)),iG (some 47) 46 true (.faddr 7 (.t 1)),iG (some 48) 46 true (.load 0 (.t 47)),iG (some 49) 46 true (.bin .neq (.t 48) (.c (.str []))),iI 50 (.pick (.t 46) (.t 49) (.c (.bool false)))]) c63_2) c63_3
def c63_5:C:=.seq (.seq (.reg [iI 33 (.faddr 6 (.t 1)),iI 34 (.load 0 (.t 33)),iI 35 (.call (.c (.fn 105 [])) [(.t 34)]),iI 36 (.un .not (.t 35)),iI 37 (.mv (.t 36)),iG (some 38) 37 false (.faddr 7 (.t 1)),iG (some 39) 37 false (.load 0 (.t 38)),iG (some 40) 37 false (.call (.c (.fn 105 [])) [(.t 39)]),iG (some 41) 37 false (.un .not (.t 40)),iI 42 (.pick (.t 37) (.c (.bool true)) (.t 41))]) c63_1) c63_4
def c63_6:C:=.seq (.seq (.reg [iI 15 (.faddr 0 (.t 1)),iI 16 (.load 0 (.t 15)),iI 17 (.bin .lss (.t 16) (.c (.int .i64 1))),iI 18 (.mv (.t 17)),iG (some 19) 18 false (.load 7 (.t 3)),iG (some 20) 18 false (.call (.c (.fn 59 [])) [(.t 19)]),iG (some 21) 18 false (.bin .neq (.t 20) (.c (.int .i64 0))),iI 22 (.pick (.t 18) (.c (.bool true)) (.t 21)),iI 23 (.mv (.t 22)),iG (some 24) 23 false (.faddr 5 (.t 1)),iG (some 25) 23 false (.load 0 (.t 24)),iG (some 26) 23 false (.bin .lss (.t 25) (.c (.int .i64 0))),iI 27 (.pick (.t 23) (.c (.bool true)) (.t 26)),iI 28 (.mv (.t 27)),iG (some 29) 28 false (.faddr 5 (.t 1)),iG (some 30) 28 false (.load 0 (.t 29)),iG (some 31) 28 false (.bin .gtr (.t 30) (.c (.int .i64 10000000))),iI 32 (.pick (.t 28) (.c (.bool true)) (.t 31))]) c63_0) c63_5
def c63_7:C:=.seq (.reg [iI 4 (.faddr 1 (.t 1)),iI 5 (.load 0 (.t 4)),iI 6 (.faddr 0 (.t 1)),iI 7 (.load 0 (.t 6)),iI 8 (.faddr 2 (.t 1)),iI 9 (.load 0 (.t 8)),iI 10 (.faddr 3 (.t 1)),iI 11 (.load 0 (.t 10)),iI 12 (.faddr 4 (.t 1)),iI 13 (.load 0 (.t 12)),iI 14 (.build [(1,(.int .u64 0)),(1,(.int .i64 0)),(1,(.int .i64 0)),(1,(.int .i64 0)),(1,(.int .i64 0)),(1,(.bool false)),(1,(.str []))] [(0,0,(.t 5)),(1,0,(.t 7)),(2,0,(.t 9)),(3,0,(.t 11)),(4,0,(.t 13))]),iI 3 (.alloc [(1,(.int .u64 0)),(1,(.int .i64 0)),(1,(.int .i64 0)),(1,(.int .i64 0)),(1,(.int .i64 0)),(1,(.bool false)),(1,(.str []))]),iN (.store 7 (.t 3) (.t 14))]) c63_6
def ir63:C:=.seq (.reg [iI 1 (.box (.t 0)),iI 2 (.mv (.c (.int .i64 0)))]) c63_7
theorem fd63:fd? Try.prog 63=some (51,[.slot 2],ir63):=by kernel_rfl
noncomputable def f63(x0:ReceiverInput):Option (Int) :=
  (if (decide (x0.fUniverse<1))=true then (some 2) else (f59 (NetworkPacket.mk x0.fSource x0.fUniverse x0.fPriority x0.fSeq x0.fSync false ([]))).bind fun x1=>(if (decide (x1≠0))=true then (some 2) else (if (decide (x0.fLast<0))=true then (some 2) else (if (decide (10000000<x0.fLast))=true then (some 2) else (f105 x0.fSlots).bind fun x2=>(if (!x2)=true then (some 14) else (f105 x0.fWait).bind fun x3=>(if (!x3)=true then (some 14) else (if (decide (x0.fSync=0))=true then (if (!(x0.fWait == ([])))=true then (some 3) else (some 0)) else (some 0))))))))
theorem f63_ok{x0:ReceiverInput}{r_:Int}(H:f63 x0=some r_):Pure Try.prog 63 [.agg [.int .i64 x0.fUniverse,.int .u64 x0.fSource,.int .i64 x0.fPriority,.int .i64 x0.fSeq,.int .i64 x0.fSync,.int .i64 x0.fLast,.str x0.fSlots,.str x0.fWait]] (· = .int .i64 r_):=by
 refine Pure.walk3 fd63 none (Nat.le_of_ble_eq_true rfl) (by rfl) fun Q hQ=>?_
 simp only[f63] at H
 refine AW.rseq ?_
 try simp only[↓wk,↓wl,nq,evV,↓reduceIte,sevalprocAttr]
 refine AW.rseq ?_
 try simp only[↓wk,↓wl,nq,evV,↓reduceIte,sevalprocAttr]
 refine AW.sseq ?_
 refine AW.rseq ?_
 try simp only[↓wk,↓wl,nq,evV,↓reduceIte,sevalprocAttr]
 refine evTs_ifg H (by rfl) ?_ ?_<;>clear H<;>intro H
 ·try simp only[↓wk,↓wl,nq,evV,↓reduceIte,sevalprocAttr]
  refine AW.ift (by rfl) ?_
  refine AW.rseq ?_
  try simp only[↓wk,↓wl,nq,evV,↓reduceIte,sevalprocAttr]
  refine AW.ret ?_
  refine seqQ.ret ?_
  cases H
  exact hQ.fin
 ·try simp only[↓wk,↓wl,nq,evV,↓reduceIte,sevalprocAttr]
  refine evTs_pure hFn H (fun _ h=>f59_ok h) (by rfl) (by rfl) (by rfl) (by rfl) (fun _=>rfl) ?_<;>clear H<;>intro x1 H
  try simp only[eL,↓wk,↓wl,nq,evV,↓reduceIte,sevalprocAttr]
  refine evTs_ifg H (by rfl) ?_ ?_<;>clear H<;>intro H
  ·try simp only[↓wk,↓wl,nq,evV,↓reduceIte,sevalprocAttr]
   refine AW.ift (by rfl) ?_
   refine AW.rseq ?_
   try simp only[↓wk,↓wl,nq,evV,↓reduceIte,sevalprocAttr]
   refine AW.ret ?_
   refine seqQ.ret ?_
   cases H
   exact hQ.fin
  ·try simp only[↓wk,↓wl,nq,evV,↓reduceIte,sevalprocAttr]
   refine evTs_ifg H (by rfl) ?_ ?_<;>clear H<;>intro H
   ·try simp only[↓wk,↓wl,nq,evV,↓reduceIte,sevalprocAttr]
    refine AW.ift (by rfl) ?_
    refine AW.rseq ?_
    try simp only[↓wk,↓wl,nq,evV,↓reduceIte,sevalprocAttr]
    refine AW.ret ?_
    refine seqQ.ret ?_
    cases H
    exact hQ.fin
   ·try simp only[↓wk,↓wl,nq,evV,↓reduceIte,sevalprocAttr]
    refine AW.ifc H (by rfl) ?_ ?_<;>clear H<;>intro H
    ·refine AW.rseq ?_
     try simp only[↓wk,↓wl,nq,evV,↓reduceIte,sevalprocAttr]
     refine AW.ret ?_
     refine seqQ.ret ?_
     cases H
     exact hQ.fin
    ·refine AW.skip ?_
     refine seqQ.norm ?_
     refine AW.sseq ?_
     refine AW.rseq ?_
     try simp only[↓wk,↓wl,nq,evV,↓reduceIte,sevalprocAttr]
     refine evTs_pure hFn H (fun _ h=>f105_ok h) (by rfl) (by rfl) (by rfl) (by rfl) (fun _=>rfl) ?_<;>clear H<;>intro x2 H
     try simp only[eL,↓wk,↓wl,nq,evV,↓reduceIte,sevalprocAttr]
     refine evTs_ifg H (by rfl) ?_ ?_<;>clear H<;>intro H
     ·try simp only[↓wk,↓wl,nq,evV,↓reduceIte,sevalprocAttr]
      refine AW.ift (by rfl) ?_
      refine AW.rseq ?_
      try simp only[↓wk,↓wl,nq,evV,↓reduceIte,sevalprocAttr]
      refine AW.ret ?_
      refine seqQ.ret ?_
      cases H
      exact hQ.fin
     ·try simp only[↓wk,↓wl,nq,evV,↓reduceIte,sevalprocAttr]
      refine evTs_pure hFn H (fun _ h=>f105_ok h) (by rfl) (by rfl) (by rfl) (by rfl) (fun _=>rfl) ?_<;>clear H<;>intro x3 H
      try simp only[eL,↓wk,↓wl,nq,evV,↓reduceIte,sevalprocAttr]
      refine AW.ifc H (by rfl) ?_ ?_<;>clear H<;>intro H
      ·refine AW.rseq ?_
       try simp only[↓wk,↓wl,nq,evV,↓reduceIte,sevalprocAttr]
       refine AW.ret ?_
       refine seqQ.ret ?_
       cases H
       exact hQ.fin
      ·refine AW.skip ?_
       refine seqQ.norm ?_
       refine AW.sseq ?_
       refine AW.rseq ?_
       try simp only[↓wk,↓wl,nq,evV,↓reduceIte,sevalprocAttr]
       refine evTs_ifg H (by rfl) ?_ ?_<;>clear H<;>intro H
       ·try simp only[↓wk,↓wl,nq,evV,↓reduceIte,sevalprocAttr]
        refine AW.ifc H (by rfl) ?_ ?_<;>clear H<;>intro H
        ·refine AW.rseq ?_
         try simp only[↓wk,↓wl,nq,evV,↓reduceIte,sevalprocAttr]
         refine AW.ret ?_
         refine seqQ.ret ?_
         cases H
         exact hQ.fin
        ·refine AW.skip ?_
         refine seqQ.norm ?_
         refine AW.rseq ?_
         try simp only[↓wk,↓wl,nq,evV,↓reduceIte,sevalprocAttr]
         refine AW.ret ?_
         cases H
         exact hQ.fin
       ·try simp only[↓wk,↓wl,nq,evV,↓reduceIte,sevalprocAttr]
        refine AW.iff (by rfl) ?_
        refine AW.skip ?_
        refine seqQ.norm ?_
        refine AW.rseq ?_
        try simp only[↓wk,↓wl,nq,evV,↓reduceIte,sevalprocAttr]
        refine AW.ret ?_
        cases H
        exact hQ.fin
def c65_0:C:=.seq (.reg [iI 3 (.faddr 0 (.t 1)),iI 4 (.load 0 (.t 3)),iI 5 (.faddr 1 (.t 1)),iI 6 (.load 0 (.t 5)),iI 7 (.build [(1,(.int .i64 0)),(1,(.int .u64 0))] [(0,0,(.t 4)),(1,0,(.t 6))]),iN (.store 2 (.t 2) (.t 7))]) .ret
def ir65:C:=.seq (.reg [iI 1 (.box (.t 0)),iI 2 (.alloc [(1,(.int .i64 0)),(1,(.int .u64 0))])]) c65_0
theorem fd65:fd? Try.prog 65=some (8,[.cell 2 2],ir65):=by kernel_rfl
noncomputable def f65(x0:ReceiverInput):Option (ReceiverPlace) :=
  (some (ReceiverPlace.mk x0.fUniverse x0.fSource))
theorem f65_ok{x0:ReceiverInput}{r_:ReceiverPlace}(H:f65 x0=some r_):Pure Try.prog 65 [.agg [.int .i64 x0.fUniverse,.int .u64 x0.fSource,.int .i64 x0.fPriority,.int .i64 x0.fSeq,.int .i64 x0.fSync,.int .i64 x0.fLast,.str x0.fSlots,.str x0.fWait]] (· = .agg [.int .i64 r_.fUniverse,.int .u64 r_.fSource]):=by
 refine Pure.walk3 fd65 none (Nat.le_of_ble_eq_true rfl) (by rfl) fun Q hQ=>?_
 simp only[f65] at H
 refine AW.rseq ?_
 try simp only[↓wk,↓wl,nq,evV,↓reduceIte,sevalprocAttr]
 refine AW.rseq ?_
 try simp only[↓wk,↓wl,nq,evV,↓reduceIte,sevalprocAttr]
 refine AW.ret ?_
 cases H
 exact hQ.fin
def c144_0:C:=.seq (.reg [iI 3 (.mv (.t 0)),iI 4 (.mv (.t 0)),iI 5 (.bin .neq (.t 3) (.t 4)),iI 2 (.mv (.t 5))]) .ret
def ir144:C:=.seq (.reg [iI 2 (.mv (.c (.bool false)))]) c144_0
theorem fd144:fd? Try.prog 144=some (6,[.slot 2],ir144):=by kernel_rfl
noncomputable def f144(x0:Int):Option (Bool) :=
  (some (decide (x0≠x0)))
theorem f144_ok{x0:Int}{r_:Bool}(H:f144 x0=some r_):Pure Try.prog 144 [.int .i64 x0] (· = .bool r_):=by
 refine Pure.walk3 fd144 none (Nat.le_of_ble_eq_true rfl) (by rfl) fun Q hQ=>?_
 simp only[f144] at H
 refine AW.rseq ?_
 try simp only[↓wk,↓wl,nq,evV,↓reduceIte,sevalprocAttr]
 refine AW.rseq ?_
 try simp only[↓wk,↓wl,nq,evV,↓reduceIte,sevalprocAttr]
 refine AW.ret ?_
 cases H
 exact hQ.fin
def c107_0:C:=.cond (.t 12) (.seq (.reg [iI 4 (.mv (.c (.int .i64 0)))]) .ret) (.skip)
def c107_1:C:=.seq (.reg [iI 4 (.mv (.c (.int .i64 (-1))))]) .ret
def c107_2:C:=.cond (.t 11) (.seq (.seq (.reg [iI 12 (.mv (.t 6))]) c107_0) c107_1) (.skip)
def c107_3:C:=.cond (.t 13) (.seq (.reg [iI 4 (.mv (.c (.int .i64 1)))]) .ret) (.skip)
def c107_4:C:=.cond (.t 16) (.seq (.reg [iI 4 (.mv (.c (.int .i64 (-1))))]) .ret) (.skip)
def c107_5:C:=.cond (.t 19) (.seq (.reg [iI 4 (.mv (.c (.int .i64 1)))]) .ret) (.skip)
def c107_6:C:=.seq (.reg [iI 4 (.mv (.c (.int .i64 0)))]) .ret
def c107_7:C:=.seq (.seq (.reg [iI 17 (.mv (.t 0)),iI 18 (.mv (.t 1)),iI 19 (.bin .gtr (.t 17) (.t 18))]) c107_5) c107_6
def c107_8:C:=.seq (.seq (.reg [iI 14 (.mv (.t 0)),iI 15 (.mv (.t 1)),iI 16 (.bin .lss (.t 14) (.t 15))]) c107_4) c107_7
def c107_9:C:=.seq (.seq (.reg [iI 13 (.mv (.t 6))]) c107_3) c107_8
def c107_10:C:=.seq (.seq (.reg [iI 11 (.mv (.t 5))]) c107_2) c107_9
def c107_11:C:=.seq (.reg [iI 9 (.mv (.t 1)),iI 10 (.call (.c (.fn 144 [])) [(.t 9)]),iI 6 (.mv (.t 10))]) c107_10
def c107_12:C:=.seq (.reg [iI 7 (.mv (.t 0)),iI 8 (.call (.c (.fn 144 [])) [(.t 7)]),iI 5 (.mv (.t 8))]) c107_11
def ir107:C:=.seq (.reg [iI 4 (.mv (.c (.int .i64 0)))]) c107_12
theorem fd107:fd? Try.prog 107=some (20,[.slot 4],ir107):=by kernel_rfl
noncomputable def f107(x0:Int)(x1:Int):Option (Int) :=
  (f144 x0).bind fun x2=>(f144 x1).bind fun x3=>(if x2=true then (if x3=true then (some 0) else (some (-1))) else (if x3=true then (some 1) else (if (decide (x0<x1))=true then (some (-1)) else (if (decide (x1<x0))=true then (some 1) else (some 0)))))
theorem f107_ok{x0:Int}{x1:Int}{r_:Int}(H:f107 x0 x1=some r_):Pure Try.prog 107 [.int .i64 x0,.int .i64 x1] (· = .int .i64 r_):=by
 refine Pure.walk3 fd107 none (Nat.le_of_ble_eq_true rfl) (by rfl) fun Q hQ=>?_
 simp only[f107] at H
 refine AW.rseq ?_
 try simp only[↓wk,↓wl,nq,evV,↓reduceIte,sevalprocAttr]
 refine AW.rseq ?_
 try simp only[↓wk,↓wl,nq,evV,↓reduceIte,sevalprocAttr]
 refine evTs_pure hFn H (fun _ h=>f144_ok h) (by rfl) (by rfl) (by rfl) (by rfl) (fun _=>rfl) ?_<;>clear H<;>intro x2 H
 try simp only[eL,↓wk,↓wl,nq,evV,↓reduceIte,sevalprocAttr]
 refine AW.rseq ?_
 try simp only[↓wk,↓wl,nq,evV,↓reduceIte,sevalprocAttr]
 refine evTs_pure hFn H (fun _ h=>f144_ok h) (by rfl) (by rfl) (by rfl) (by rfl) (fun _=>rfl) ?_<;>clear H<;>intro x3 H
 try simp only[eL,↓wk,↓wl,nq,evV,↓reduceIte,sevalprocAttr]
 refine AW.sseq ?_
 refine AW.rseq ?_
 try simp only[↓wk,↓wl,nq,evV,↓reduceIte,sevalprocAttr]
 refine AW.ifc H (by rfl) ?_ ?_<;>clear H<;>intro H
 ·refine AW.sseq ?_
  refine AW.rseq ?_
  try simp only[↓wk,↓wl,nq,evV,↓reduceIte,sevalprocAttr]
  refine AW.ifc H (by rfl) ?_ ?_<;>clear H<;>intro H
  ·refine AW.rseq ?_
   try simp only[↓wk,↓wl,nq,evV,↓reduceIte,sevalprocAttr]
   refine AW.ret ?_
   refine seqQ.ret ?_
   refine seqQ.ret ?_
   cases H
   exact hQ.fin
  ·refine AW.skip ?_
   refine seqQ.norm ?_
   refine AW.rseq ?_
   try simp only[↓wk,↓wl,nq,evV,↓reduceIte,sevalprocAttr]
   refine AW.ret ?_
   refine seqQ.ret ?_
   cases H
   exact hQ.fin
 ·refine AW.skip ?_
  refine seqQ.norm ?_
  refine AW.sseq ?_
  refine AW.rseq ?_
  try simp only[↓wk,↓wl,nq,evV,↓reduceIte,sevalprocAttr]
  refine AW.ifc H (by rfl) ?_ ?_<;>clear H<;>intro H
  ·refine AW.rseq ?_
   try simp only[↓wk,↓wl,nq,evV,↓reduceIte,sevalprocAttr]
   refine AW.ret ?_
   refine seqQ.ret ?_
   cases H
   exact hQ.fin
  ·refine AW.skip ?_
   refine seqQ.norm ?_
   refine AW.sseq ?_
   refine AW.rseq ?_
   try simp only[↓wk,↓wl,nq,evV,↓reduceIte,sevalprocAttr]
   refine AW.ifc H (by rfl) ?_ ?_<;>clear H<;>intro H
   ·refine AW.rseq ?_
    try simp only[↓wk,↓wl,nq,evV,↓reduceIte,sevalprocAttr]
    refine AW.ret ?_
    refine seqQ.ret ?_
    cases H
    exact hQ.fin
   ·refine AW.skip ?_
    refine seqQ.norm ?_
    refine AW.sseq ?_
    refine AW.rseq ?_
    try simp only[↓wk,↓wl,nq,evV,↓reduceIte,sevalprocAttr]
    refine AW.ifc H (by rfl) ?_ ?_<;>clear H<;>intro H
    ·refine AW.rseq ?_
     try simp only[↓wk,↓wl,nq,evV,↓reduceIte,sevalprocAttr]
     refine AW.ret ?_
     refine seqQ.ret ?_
     cases H
     exact hQ.fin
    ·refine AW.skip ?_
     refine seqQ.norm ?_
     refine AW.rseq ?_
     try simp only[↓wk,↓wl,nq,evV,↓reduceIte,sevalprocAttr]
     refine AW.ret ?_
     cases H
     exact hQ.fin
def c145_0:C:=.seq (.reg [iI 3 (.mv (.t 0)),iI 4 (.mv (.t 0)),iI 5 (.bin .neq (.t 3) (.t 4)),iI 2 (.mv (.t 5))]) .ret
def ir145:C:=.seq (.reg [iI 2 (.mv (.c (.bool false)))]) c145_0
theorem fd145:fd? Try.prog 145=some (6,[.slot 2],ir145):=by kernel_rfl
noncomputable def f145(x0:Int):Option (Bool) :=
  (some (decide (x0≠x0)))
theorem f145_ok{x0:Int}{r_:Bool}(H:f145 x0=some r_):Pure Try.prog 145 [.int .u64 x0] (· = .bool r_):=by
 refine Pure.walk3 fd145 none (Nat.le_of_ble_eq_true rfl) (by rfl) fun Q hQ=>?_
 simp only[f145] at H
 refine AW.rseq ?_
 try simp only[↓wk,↓wl,nq,evV,↓reduceIte,sevalprocAttr]
 refine AW.rseq ?_
 try simp only[↓wk,↓wl,nq,evV,↓reduceIte,sevalprocAttr]
 refine AW.ret ?_
 cases H
 exact hQ.fin
def c108_0:C:=.cond (.t 12) (.seq (.reg [iI 4 (.mv (.c (.int .i64 0)))]) .ret) (.skip)
def c108_1:C:=.seq (.reg [iI 4 (.mv (.c (.int .i64 (-1))))]) .ret
def c108_2:C:=.cond (.t 11) (.seq (.seq (.reg [iI 12 (.mv (.t 6))]) c108_0) c108_1) (.skip)
def c108_3:C:=.cond (.t 13) (.seq (.reg [iI 4 (.mv (.c (.int .i64 1)))]) .ret) (.skip)
def c108_4:C:=.cond (.t 16) (.seq (.reg [iI 4 (.mv (.c (.int .i64 (-1))))]) .ret) (.skip)
def c108_5:C:=.cond (.t 19) (.seq (.reg [iI 4 (.mv (.c (.int .i64 1)))]) .ret) (.skip)
def c108_6:C:=.seq (.reg [iI 4 (.mv (.c (.int .i64 0)))]) .ret
def c108_7:C:=.seq (.seq (.reg [iI 17 (.mv (.t 0)),iI 18 (.mv (.t 1)),iI 19 (.bin .gtr (.t 17) (.t 18))]) c108_5) c108_6
def c108_8:C:=.seq (.seq (.reg [iI 14 (.mv (.t 0)),iI 15 (.mv (.t 1)),iI 16 (.bin .lss (.t 14) (.t 15))]) c108_4) c108_7
def c108_9:C:=.seq (.seq (.reg [iI 13 (.mv (.t 6))]) c108_3) c108_8
def c108_10:C:=.seq (.seq (.reg [iI 11 (.mv (.t 5))]) c108_2) c108_9
def c108_11:C:=.seq (.reg [iI 9 (.mv (.t 1)),iI 10 (.call (.c (.fn 145 [])) [(.t 9)]),iI 6 (.mv (.t 10))]) c108_10
def c108_12:C:=.seq (.reg [iI 7 (.mv (.t 0)),iI 8 (.call (.c (.fn 145 [])) [(.t 7)]),iI 5 (.mv (.t 8))]) c108_11
def ir108:C:=.seq (.reg [iI 4 (.mv (.c (.int .i64 0)))]) c108_12
theorem fd108:fd? Try.prog 108=some (20,[.slot 4],ir108):=by kernel_rfl
noncomputable def f108(x0:Int)(x1:Int):Option (Int) :=
  (f145 x0).bind fun x2=>(f145 x1).bind fun x3=>(if x2=true then (if x3=true then (some 0) else (some (-1))) else (if x3=true then (some 1) else (if (decide (x0<x1))=true then (some (-1)) else (if (decide (x1<x0))=true then (some 1) else (some 0)))))
theorem f108_ok{x0:Int}{x1:Int}{r_:Int}(H:f108 x0 x1=some r_):Pure Try.prog 108 [.int .u64 x0,.int .u64 x1] (· = .int .i64 r_):=by
 refine Pure.walk3 fd108 none (Nat.le_of_ble_eq_true rfl) (by rfl) fun Q hQ=>?_
 simp only[f108] at H
 refine AW.rseq ?_
 try simp only[↓wk,↓wl,nq,evV,↓reduceIte,sevalprocAttr]
 refine AW.rseq ?_
 try simp only[↓wk,↓wl,nq,evV,↓reduceIte,sevalprocAttr]
 refine evTs_pure hFn H (fun _ h=>f145_ok h) (by rfl) (by rfl) (by rfl) (by rfl) (fun _=>rfl) ?_<;>clear H<;>intro x2 H
 try simp only[eL,↓wk,↓wl,nq,evV,↓reduceIte,sevalprocAttr]
 refine AW.rseq ?_
 try simp only[↓wk,↓wl,nq,evV,↓reduceIte,sevalprocAttr]
 refine evTs_pure hFn H (fun _ h=>f145_ok h) (by rfl) (by rfl) (by rfl) (by rfl) (fun _=>rfl) ?_<;>clear H<;>intro x3 H
 try simp only[eL,↓wk,↓wl,nq,evV,↓reduceIte,sevalprocAttr]
 refine AW.sseq ?_
 refine AW.rseq ?_
 try simp only[↓wk,↓wl,nq,evV,↓reduceIte,sevalprocAttr]
 refine AW.ifc H (by rfl) ?_ ?_<;>clear H<;>intro H
 ·refine AW.sseq ?_
  refine AW.rseq ?_
  try simp only[↓wk,↓wl,nq,evV,↓reduceIte,sevalprocAttr]
  refine AW.ifc H (by rfl) ?_ ?_<;>clear H<;>intro H
  ·refine AW.rseq ?_
   try simp only[↓wk,↓wl,nq,evV,↓reduceIte,sevalprocAttr]
   refine AW.ret ?_
   refine seqQ.ret ?_
   refine seqQ.ret ?_
   cases H
   exact hQ.fin
  ·refine AW.skip ?_
   refine seqQ.norm ?_
   refine AW.rseq ?_
   try simp only[↓wk,↓wl,nq,evV,↓reduceIte,sevalprocAttr]
   refine AW.ret ?_
   refine seqQ.ret ?_
   cases H
   exact hQ.fin
 ·refine AW.skip ?_
  refine seqQ.norm ?_
  refine AW.sseq ?_
  refine AW.rseq ?_
  try simp only[↓wk,↓wl,nq,evV,↓reduceIte,sevalprocAttr]
  refine AW.ifc H (by rfl) ?_ ?_<;>clear H<;>intro H
  ·refine AW.rseq ?_
   try simp only[↓wk,↓wl,nq,evV,↓reduceIte,sevalprocAttr]
   refine AW.ret ?_
   refine seqQ.ret ?_
   cases H
   exact hQ.fin
  ·refine AW.skip ?_
   refine seqQ.norm ?_
   refine AW.sseq ?_
   refine AW.rseq ?_
   try simp only[↓wk,↓wl,nq,evV,↓reduceIte,sevalprocAttr]
   refine AW.ifc H (by rfl) ?_ ?_<;>clear H<;>intro H
   ·refine AW.rseq ?_
    try simp only[↓wk,↓wl,nq,evV,↓reduceIte,sevalprocAttr]
    refine AW.ret ?_
    refine seqQ.ret ?_
    cases H
    exact hQ.fin
   ·refine AW.skip ?_
    refine seqQ.norm ?_
    refine AW.sseq ?_
    refine AW.rseq ?_
    try simp only[↓wk,↓wl,nq,evV,↓reduceIte,sevalprocAttr]
    refine AW.ifc H (by rfl) ?_ ?_<;>clear H<;>intro H
    ·refine AW.rseq ?_
     try simp only[↓wk,↓wl,nq,evV,↓reduceIte,sevalprocAttr]
     refine AW.ret ?_
     refine seqQ.ret ?_
     cases H
     exact hQ.fin
    ·refine AW.skip ?_
     refine seqQ.norm ?_
     refine AW.rseq ?_
     try simp only[↓wk,↓wl,nq,evV,↓reduceIte,sevalprocAttr]
     refine AW.ret ?_
     cases H
     exact hQ.fin
noncomputable def f106_L1(x0:(List Int)):Lp (Int) ((Unit)⊕(Int)) where
  body:=fun x1=>(if (decide (x1<((x0.length:Nat):Int)))=true then (at? x0 x1).bind fun x2=>(if (decide (x2≠0))=true then (some (.brk (Sum.inr x2))) else (some (.next (IntKind.i64.wrap (x1 + 1))))) else (some (.brk (Sum.inl ()))))
  cst:=fun x1=>⟨put (put (put (put (fun _=>.junk) 8 (.int .i64 x1)) 7 (.int .i64 ((x0.length:Nat):Int))) 6 (.sl 0 false (x0.map (AV.int .i64)))) 3 (.int .i64 0),[]⟩
theorem f106_L1c(x0:(List Int))(x1:Int):(f106_L1 x0).cst x1=⟨put (put (put (put (fun _=>.junk) 8 (.int .i64 x1)) 7 (.int .i64 ((x0.length:Nat):Int))) 6 (.sl 0 false (x0.map (AV.int .i64)))) 3 (.int .i64 0),[]⟩:=rfl
def c106_0:C:=.cond (.t 14) (.seq (.reg [iI 15 (.mv (.t 5)),iI 2 (.mv (.t 15))]) .ret) (.skip)
def c106_1:C:=.seq (.reg [iI 12 (.mv (.t 5)),iI 13 (.mv (.t 3)),iI 14 (.bin .neq (.t 12) (.t 13))]) c106_0
def c106_2:C:=.reg [iI 16 (.bin .add (.t 8) (.c (.int .i64 1))),iI 8 (.mv (.t 16))]
def c106_3:C:=.seq (.block 1 (.seq (.reg [iI 10 (.iaddr 0 (.t 6) (.t 8)),iI 11 (.load 0 (.t 10)),iI 5 (.mv (.t 11))]) c106_1)) c106_2
def c106_4:C:=.seq (.cond (.t 9) (.skip) (.exit 0)) c106_3
def c106_5:C:=.block 0 (.loop (.seq (.reg [iI 9 (.bin .lss (.t 8) (.t 7))]) c106_4))
def c106_6:C:=.seq (.reg [iI 17 (.mv (.t 3)),iI 2 (.mv (.t 17))]) .ret
def c106_7:C:=.seq (.seq (.reg [iI 6 (.mv (.t 0)),iI 7 (.len 0 (.t 6)),iI 8 (.mv (.c (.int .i64 0)))]) c106_5) c106_6
def c106_8:C:=.seq (.reg [iI 3 (.mv (.c (.int .i64 0)))]) c106_7
def ir106:C:=.seq (.reg [iI 2 (.mv (.c (.int .i64 0)))]) c106_8
theorem fd106:fd? Try.prog 106=some (18,[.slot 2],ir106):=by kernel_rfl
noncomputable def f106(x0:(List Int)):Option (Int) :=
  ((Lp.run (f106_L1 x0) 0).bind fun r_=>match r_ with | (Sum.inl _)=>(some 0) | (Sum.inr x1)=>(some x1))
theorem f106_ok{x0:(List Int)}{r_:Int}(H:f106 x0=some r_):Pure Try.prog 106 [.sl 0 false (x0.map (AV.int .i64))] (· = .int .i64 r_):=by
 refine Pure.walk3 fd106 none (Nat.le_of_ble_eq_true rfl) (by rfl) fun Q hQ=>?_
 simp only[f106] at H
 refine AW.rseq ?_
 try simp only[↓wk,↓wl,nq,evV,↓reduceIte,sevalprocAttr]
 refine AW.rseq ?_
 try simp only[↓wk,↓wl,nq,evV,↓reduceIte,sevalprocAttr]
 refine AW.sseq ?_
 refine AW.rseq ?_
 try simp only[↓wk,↓wl,nq,evV,↓reduceIte,sevalprocAttr]
 refine AW.bend ?_
 refine AW.iter H ((Le.tz [] [3,6,7,8] (by simp only[f106_L1c,rrm,↓wk,↓wl,evV,↓reduceIte,sevalprocAttr]<;>rfl))) ?_<;>clear H
 rintro x1 x_ st0_ H hst_
 rw[f106_L1c] at hst_
 simp only[f106_L1] at H
 subst hst_
 refine AW.rseq ?_
 try simp only[↓wk,↓wl,nq,evV,↓reduceIte,sevalprocAttr]
 refine AW.sseq ?_
 refine AW.ifc H (by rfl) ?_ ?_<;>clear H<;>intro H
 ·refine AW.skip ?_
  refine seqQ.norm ?_
  refine AW.bseq ?_
  refine AW.rseq ?_
  try simp only[↓wk,↓wl,nq,evV,↓reduceIte,sevalprocAttr]
  refine evTs_at (enc:=(AV.int .i64)) H (by rfl) (by rfl) ?_<;>clear H<;>intro x2 H
  try simp only[↓wk,↓wl,nq,evV,↓reduceIte,sevalprocAttr]
  refine AW.rseq ?_
  try simp only[↓wk,↓wl,nq,evV,↓reduceIte,sevalprocAttr]
  refine AW.ifc H (by rfl) ?_ ?_<;>clear H<;>intro H
  ·refine AW.rseq ?_
   try simp only[↓wk,↓wl,nq,evV,↓reduceIte,sevalprocAttr]
   refine AW.ret ?_
   refine blkQ.ret ?_
   refine loopQ.ret H ?_<;>clear H<;>intro H
   try dsimp only at H
   refine blk0.ret ?_
   refine seqQ.ret ?_
   cases H
   exact hQ.fin
  ·refine AW.skip ?_
   refine blkQ.norm ?_
   refine AW.rend ?_
   try simp only[↓wk,↓wl,nq,evV,↓reduceIte,sevalprocAttr]
   exact loopQ.next H ((Le.tz [] [3,6,7,8] (by simp only[f106_L1c,rrm,↓wk,↓wl,evV,↓reduceIte,sevalprocAttr]<;>rfl)))
 ·refine AW.exit ?_
  refine seqQ.exit ?_
  refine loopQ.exit H ?_<;>clear H<;>intro H
  try dsimp only at H
  refine blk0.here ?_
  refine seqQ.norm ?_
  refine AW.rseq ?_
  try simp only[↓wk,↓wl,nq,evV,↓reduceIte,sevalprocAttr]
  refine AW.ret ?_
  cases H
  exact hQ.fin
def c64_0:C:=.seq (.regq [iI 5 (.faddr 0 (.t 2)),iI 6 (.load 0 (.t 5)),iI 7 (.faddr 0 (.t 3)),iI 8 (.load 0 (.t 7)),iI 9 (.call (.c (.fn 107 [])) [(.t 6),(.t 8)]),iI 10 (.faddr 1 (.t 2)),iI 11 (.load 0 (.t 10)),iI 12 (.faddr 1 (.t 3)),iI 13 (.load 0 (.t 12)),iI 14 (.call (.c (.fn 108 [])) [(.t 11),(.t 13)]),iI 15 (.mkslp 0 2 (.int .i64 0) [(0,(.t 9)),(1,(.t 14))]),iI 16 (.call (.c (.fn 106 [])) [(.t 15)]),iI 4 (.mv (.t 16))]) .ret
def ir64:C:=.seq (.reg [iI 2 (.box (.t 0)),iI 3 (.box (.t 1)),iI 4 (.mv (.c (.int .i64 0)))]) c64_0
theorem fd64:fd? Try.prog 64=some (17,[.slot 4],ir64):=by kernel_rfl
noncomputable def f64(x0:ReceiverPlace)(x1:ReceiverPlace):Option (Int) :=
  (f107 x0.fUniverse x1.fUniverse).bind fun x2=>(f108 x0.fSource x1.fSource).bind fun x3=>(f106 ([x2,x3])).bind fun x4=>(some x4)
theorem f64_ok{x0:ReceiverPlace}{x1:ReceiverPlace}{r_:Int}(H:f64 x0 x1=some r_):Pure Try.prog 64 [.agg [.int .i64 x0.fUniverse,.int .u64 x0.fSource],.agg [.int .i64 x1.fUniverse,.int .u64 x1.fSource]] (· = .int .i64 r_):=by
 refine Pure.walk3 fd64 none (Nat.le_of_ble_eq_true rfl) (by rfl) fun Q hQ=>?_
 simp only[f64] at H
 refine AW.rseq ?_
 try simp only[↓wk,↓wl,nq,evV,↓reduceIte,sevalprocAttr]
 refine AW.rqseq ?_
 try simp only[↓wk,↓wl,nq,evV,↓reduceIte,sevalprocAttr]
 refine evTs_pure hFnq H (fun _ h=>f107_ok h) (by rfl) (by rfl) (by rfl) (by rfl) (fun _=>rfl) ?_<;>clear H<;>intro x2 H
 try simp only[eL,↓wk,↓wl,nq,evV,↓reduceIte,sevalprocAttr]
 refine evTs_pure hFnq H (fun _ h=>f108_ok h) (by rfl) (by rfl) (by rfl) (by rfl) (fun _=>rfl) ?_<;>clear H<;>intro x3 H
 try simp only[eL,↓wk,↓wl,nq,evV,↓reduceIte,sevalprocAttr]
 refine evTs_pure hFnq H (fun _ h=>f106_ok h) (by rfl) (by rfl) (by rfl) (by rfl) (fun _=>rfl) ?_<;>clear H<;>intro x4 H
 try simp only[eL,↓wk,↓wl,nq,evV,↓reduceIte,sevalprocAttr]
 refine AW.ret ?_
 cases H
 exact hQ.fin
noncomputable def f19_L1(x0:ReceiverReceiver):Lp (Int) ((Unit)⊕(Int)) where
  body:=fun x1=>(if (decide (x1<((x0.fInputs.length:Nat):Int)))=true then (at? x0.fInputs x1).bind fun x2=>(f63 x2).bind fun x3=>(if (decide (x3≠0))=true then (some (.brk (Sum.inr x3))) else (if (decide (0<x1))=true then (at? x0.fInputs (IntKind.i64.wrap (x1 - 1))).bind fun x4=>(f65 x4).bind fun x5=>(f65 x2).bind fun x6=>(f64 x5 x6).bind fun x7=>(if (decide (0≤x7))=true then (some (.brk (Sum.inr 9))) else (some (.next (IntKind.i64.wrap (x1 + 1))))) else (some (.next (IntKind.i64.wrap (x1 + 1)))))) else (some (.brk (Sum.inl ()))))
  cst:=fun x1=>⟨put (put (put (put (fun _=>.junk) 13 (.int .i64 x1)) 12 (.int .i64 ((x0.fInputs.length:Nat):Int))) 11 (.sl 8 false (x0.fInputs.map eReceiverInput))) 1 (.ptr 0 0),[.cel [.sl 8 false (x0.fInputs.map eReceiverInput)]]⟩
theorem f19_L1c(x0:ReceiverReceiver)(x1:Int):(f19_L1 x0).cst x1=⟨put (put (put (put (fun _=>.junk) 13 (.int .i64 x1)) 12 (.int .i64 ((x0.fInputs.length:Nat):Int))) 11 (.sl 8 false (x0.fInputs.map eReceiverInput))) 1 (.ptr 0 0),[.cel [.sl 8 false (x0.fInputs.map eReceiverInput)]]⟩:=rfl
def c19_0:C:=.cond (.t 9) (.seq (.reg [iI 2 (.mv (.c (.int .i64 5)))]) .ret) (.skip)
def c19_1:C:=.cond (.t 21) (.seq (.reg [iI 22 (.mv (.t 5)),iI 2 (.mv (.t 22))]) .ret) (.skip)
def c19_2:C:=.seq (.reg [iI 20 (.mv (.t 5)),iI 21 (.bin .neq (.t 20) (.c (.int .i64 0)))]) c19_1
def c19_3:C:=.cond (.t 37) (.seq (.reg [iI 2 (.mv (.c (.int .i64 9)))]) .ret) (.skip)
def c19_4:C:=.seq (.regq [iI 23 (.mv (.t 3)),iI 24 (.bin .gtr (.t 23) (.c (.int .i64 0))),iI 25 (.mv (.t 24)),iG (some 26) 25 true (.faddr 0 (.t 1)),iG (some 27) 25 true (.load 0 (.t 26)),iG (some 28) 25 true (.mv (.t 3)),iG (some 29) 25 true (.bin .sub (.t 28) (.c (.int .i64 1))),iG (some 30) 25 true (.iaddr 8 (.t 27) (.t 29)),iG (some 31) 25 true (.load 8 (.t 30)),iG (some 32) 25 true (.call (.c (.fn 65 [])) [(.t 31)]),iG (some 33) 25 true (.load 8 (.t 4)),iG (some 34) 25 true (.call (.c (.fn 65 [])) [(.t 33)]),iG (some 35) 25 true (.call (.c (.fn 64 [])) [(.t 32),(.t 34)]),iG (some 36) 25 true (.bin .geq (.t 35) (.c (.int .i64 0))),iI 37 (.pick (.t 25) (.t 36) (.c (.bool false)))]) c19_3
def c19_5:C:=.seq (.seq (.reg [iI 18 (.load 8 (.t 4)),iI 19 (.call (.c (.fn 63 [])) [(.t 18)]),iI 5 (.mv (.t 19))]) c19_2) c19_4
def c19_6:C:=.reg [iI 38 (.bin .add (.t 13) (.c (.int .i64 1))),iI 13 (.mv (.t 38))]
def c19_7:C:=.seq (.block 1 (.seq (.reg [iI 15 (.mv (.t 13)),iI 16 (.iaddr 8 (.t 11) (.t 13)),iI 17 (.load 8 (.t 16)),iI 4 (.alloc [(1,(.int .i64 0)),(1,(.int .u64 0)),(1,(.int .i64 0)),(1,(.int .i64 0)),(1,(.int .i64 0)),(1,(.int .i64 0)),(1,(.str [])),(1,(.str []))]),iI 3 (.mv (.t 15)),iN (.store 8 (.t 4) (.t 17))]) c19_5)) c19_6
def c19_8:C:=.seq (.cond (.t 14) (.skip) (.exit 0)) c19_7
def c19_9:C:=.block 0 (.loop (.seq (.reg [iI 14 (.bin .lss (.t 13) (.t 12))]) c19_8))
def c19_10:C:=.seq (.reg [iI 2 (.mv (.c (.int .i64 0)))]) .ret
def c19_11:C:=.seq (.seq (.reg [iI 10 (.faddr 0 (.t 1)),iI 11 (.load 0 (.t 10)),iI 12 (.len 0 (.t 11)),iI 13 (.mv (.c (.int .i64 0)))]) c19_9) c19_10
def c19_12:C:=.seq (.seq (.reg [iI 6 (.faddr 0 (.t 1)),iI 7 (.load 0 (.t 6)),iI 8 (.len 0 (.t 7)),iI 9 (.bin .gtr (.t 8) (.c (.int .i64 64)))]) c19_0) c19_11
def ir19:C:=.seq (.reg [iI 1 (.box (.t 0)),iI 2 (.mv (.c (.int .i64 0)))]) c19_12
theorem fd19:fd? Try.prog 19=some (39,[.slot 2],ir19):=by kernel_rfl
noncomputable def f19(x0:ReceiverReceiver):Option (Int) :=
  (if (decide (64<((x0.fInputs.length:Nat):Int)))=true then (some 5) else ((Lp.run (f19_L1 x0) 0).bind fun r_=>match r_ with | (Sum.inl _)=>(some 0) | (Sum.inr x1)=>(some x1)))
theorem f19_ok{x0:ReceiverReceiver}{r_:Int}(H:f19 x0=some r_):Pure Try.prog 19 [.agg [.sl 8 false (x0.fInputs.map eReceiverInput)]] (· = .int .i64 r_):=by
 refine Pure.walk3 fd19 none (Nat.le_of_ble_eq_true rfl) (by rfl) fun Q hQ=>?_
 simp only[f19] at H
 refine AW.rseq ?_
 try simp only[↓wk,↓wl,nq,evV,↓reduceIte,sevalprocAttr]
 refine AW.sseq ?_
 refine AW.rseq ?_
 try simp only[↓wk,↓wl,nq,evV,↓reduceIte,sevalprocAttr]
 refine AW.ifc H (by rfl) ?_ ?_<;>clear H<;>intro H
 ·refine AW.rseq ?_
  try simp only[↓wk,↓wl,nq,evV,↓reduceIte,sevalprocAttr]
  refine AW.ret ?_
  refine seqQ.ret ?_
  cases H
  exact hQ.fin
 ·refine AW.skip ?_
  refine seqQ.norm ?_
  refine AW.sseq ?_
  refine AW.rseq ?_
  try simp only[↓wk,↓wl,nq,evV,↓reduceIte,sevalprocAttr]
  refine AW.bend ?_
  refine AW.iter H ((Le.tz [0] [1,11,12,13] (by simp only[f19_L1c,rrm,↓wk,↓wl,evV,↓reduceIte,sevalprocAttr]<;>rfl))) ?_<;>clear H
  rintro x1 x_ st0_ H hst_
  rw[f19_L1c] at hst_
  simp only[f19_L1] at H
  subst hst_
  refine AW.rseq ?_
  try simp only[↓wk,↓wl,nq,evV,↓reduceIte,sevalprocAttr]
  refine AW.sseq ?_
  refine AW.ifc H (by rfl) ?_ ?_<;>clear H<;>intro H
  ·refine AW.skip ?_
   refine seqQ.norm ?_
   refine AW.bseq ?_
   refine AW.rseq ?_
   try simp only[↓wk,↓wl,nq,evV,↓reduceIte,sevalprocAttr]
   refine evTs_at (enc:=eReceiverInput) H (by rfl) (by rfl) ?_<;>clear H<;>intro x2 H
   try simp only[eReceiverInput,eL,↓wk,↓wl,nq,evV,↓reduceIte,sevalprocAttr]
   refine AW.sseq ?_
   refine AW.rseq ?_
   try simp only[↓wk,↓wl,nq,evV,↓reduceIte,sevalprocAttr]
   refine evTs_pure hFn H (fun _ h=>f63_ok h) (by rfl) (by rfl) (by rfl) (by rfl) (fun _=>rfl) ?_<;>clear H<;>intro x3 H
   try simp only[eL,↓wk,↓wl,nq,evV,↓reduceIte,sevalprocAttr]
   refine AW.rseq ?_
   try simp only[↓wk,↓wl,nq,evV,↓reduceIte,sevalprocAttr]
   refine AW.ifc H (by rfl) ?_ ?_<;>clear H<;>intro H
   ·refine AW.rseq ?_
    try simp only[↓wk,↓wl,nq,evV,↓reduceIte,sevalprocAttr]
    refine AW.ret ?_
    refine seqQ.ret ?_
    refine blkQ.ret ?_
    refine loopQ.ret H ?_<;>clear H<;>intro H
    try dsimp only at H
    refine blk0.ret ?_
    refine seqQ.ret ?_
    cases H
    exact hQ.fin
   ·refine AW.skip ?_
    refine seqQ.norm ?_
    refine AW.rqseq ?_
    try simp only[↓wk,↓wl,nq,evV,↓reduceIte,sevalprocAttr]
    refine evTs_ifg H (by rfl) ?_ ?_<;>clear H<;>intro H
    ·try simp only[↓wk,↓wl,nq,evV,↓reduceIte,sevalprocAttr]
     refine evTs_at (enc:=eReceiverInput) H (by rfl) (by rfl) ?_<;>clear H<;>intro x4 H
     try simp only[eReceiverInput,eL,↓wk,↓wl,nq,evV,↓reduceIte,sevalprocAttr]
     refine evTs_pure hFnq H (fun _ h=>f65_ok h) (by rfl) (by rfl) (by rfl) (by rfl) (fun _=>rfl) ?_<;>clear H<;>intro x5 H
     try simp only[eL,eReceiverPlace,↓wk,↓wl,nq,evV,↓reduceIte,sevalprocAttr]
     refine evTs_pure hFnq H (fun _ h=>f65_ok h) (by rfl) (by rfl) (by rfl) (by rfl) (fun _=>rfl) ?_<;>clear H<;>intro x6 H
     try simp only[eL,eReceiverPlace,↓wk,↓wl,nq,evV,↓reduceIte,sevalprocAttr]
     refine evTs_pure hFnq H (fun _ h=>f64_ok h) (by rfl) (by rfl) (by rfl) (by rfl) (fun _=>rfl) ?_<;>clear H<;>intro x7 H
     try simp only[eL,↓wk,↓wl,nq,evV,↓reduceIte,sevalprocAttr]
     refine AW.ifc H (by rfl) ?_ ?_<;>clear H<;>intro H
     ·refine AW.rseq ?_
      try simp only[↓wk,↓wl,nq,evV,↓reduceIte,sevalprocAttr]
      refine AW.ret ?_
      refine blkQ.ret ?_
      refine loopQ.ret H ?_<;>clear H<;>intro H
      try dsimp only at H
      refine blk0.ret ?_
      refine seqQ.ret ?_
      cases H
      exact hQ.fin
     ·refine AW.skip ?_
      refine blkQ.norm ?_
      refine AW.rend ?_
      try simp only[↓wk,↓wl,nq,evV,↓reduceIte,sevalprocAttr]
      exact loopQ.next H ((Le.tz [0] [1,11,12,13] (by simp only[f19_L1c,rrm,↓wk,↓wl,evV,↓reduceIte,sevalprocAttr]<;>rfl)))
    ·try simp only[↓wk,↓wl,nq,evV,↓reduceIte,sevalprocAttr]
     refine AW.iff (by rfl) ?_
     refine AW.skip ?_
     refine blkQ.norm ?_
     refine AW.rend ?_
     try simp only[↓wk,↓wl,nq,evV,↓reduceIte,sevalprocAttr]
     exact loopQ.next H ((Le.tz [0] [1,11,12,13] (by simp only[f19_L1c,rrm,↓wk,↓wl,evV,↓reduceIte,sevalprocAttr]<;>rfl)))
  ·refine AW.exit ?_
   refine seqQ.exit ?_
   refine loopQ.exit H ?_<;>clear H<;>intro H
   try dsimp only at H
   refine blk0.here ?_
   refine seqQ.norm ?_
   refine AW.rseq ?_
   try simp only[↓wk,↓wl,nq,evV,↓reduceIte,sevalprocAttr]
   refine AW.ret ?_
   cases H
   exact hQ.fin
def c92_0:C:=.seq (.reg [iI 4 (.load 0 (.t 1)),iI 5 (.faddr 5 (.t 2)),iI 6 (.load 0 (.t 5)),iI 7 (.bin .lss (.t 4) (.t 6)),iI 3 (.mv (.t 7))]) .ret
def ir92:C:=.seq (.reg [iI 2 (.box (.t 0)),iI 3 (.mv (.c (.bool false)))]) c92_0
theorem fd92:fd? Try.prog 92=some (8,[.slot 3],ir92):=by kernel_rfl
noncomputable def f92p(x0:ReceiverInput)(x1:Int):Option (Bool) :=
  (some (decide (x1<x0.fLast)))
theorem f92p_ok{x0:ReceiverInput}{x1:Int}{r_:Bool}(H:f92p x0 x1=some r_):Pure Try.prog 92 [.agg [.int .i64 x0.fUniverse,.int .u64 x0.fSource,.int .i64 x0.fPriority,.int .i64 x0.fSeq,.int .i64 x0.fSync,.int .i64 x0.fLast,.str x0.fSlots,.str x0.fWait],.pro [.int .i64 x1]] (· = .bool r_):=by
 refine Pure.walk3 fd92 none (Nat.le_of_ble_eq_true rfl) (by rfl) fun Q hQ=>?_
 simp only[f92p] at H
 refine AW.rseq ?_
 try simp only[↓wk,↓wl,nq,evV,↓reduceIte,sevalprocAttr]
 refine AW.rseq ?_
 try simp only[↓wk,↓wl,nq,evV,↓reduceIte,sevalprocAttr]
 refine AW.ret ?_
 cases H
 exact hQ.fin
noncomputable def f77_92_L1(x0:(List ReceiverInput))(x1:Int):Lp (Int) ((Unit)⊕(Int)) where
  body:=fun x2=>(if (decide (x2<((x0.length:Nat):Int)))=true then (at? x0 x2).bind fun x3=>(f92p x3 x1).bind fun x4=>(if x4=true then (some (.brk (Sum.inr x2))) else (some (.next (IntKind.i64.wrap (x2 + 1))))) else (some (.brk (Sum.inl ()))))
  cst:=fun x2=>⟨put (put (put (put (fun _=>.junk) 8 (.int .i64 x2)) 7 (.int .i64 ((x0.length:Nat):Int))) 1 (.fn 92 [.pro [.int .i64 x1]])) 0 (.sl 8 false (x0.map eReceiverInput)),[]⟩
theorem f77_92_L1c(x0:(List ReceiverInput))(x1:Int)(x2:Int):(f77_92_L1 x0 x1).cst x2=⟨put (put (put (put (fun _=>.junk) 8 (.int .i64 x2)) 7 (.int .i64 ((x0.length:Nat):Int))) 1 (.fn 92 [.pro [.int .i64 x1]])) 0 (.sl 8 false (x0.map eReceiverInput)),[]⟩:=rfl
def c77_0:C:=.cond (.t 16) (.seq (.reg [iI 17 (.mv (.t 5)),iI 4 (.mv (.t 17))]) .ret) (.skip)
def c77_1:C:=.seq (.reg [iI 11 (.mv (.t 1)),iI 12 (.mv (.t 0)),iI 13 (.mv (.t 5)),iI 14 (.iaddr 8 (.t 12) (.t 13)),iI 15 (.load 8 (.t 14)),iI 16 (.call (.t 11) [(.t 15)])]) c77_0
def c77_2:C:=.reg [iI 18 (.bin .add (.t 8) (.c (.int .i64 1))),iI 8 (.mv (.t 18))]
def c77_3:C:=.seq (.block 1 (.seq (.reg [iI 10 (.mv (.t 8)),iI 5 (.mv (.t 10))]) c77_1)) c77_2
def c77_4:C:=.seq (.cond (.t 9) (.skip) (.exit 0)) c77_3
def c77_5:C:=.block 0 (.loop (.seq (.reg [iI 9 (.bin .lss (.t 8) (.t 7))]) c77_4))
def c77_6:C:=.seq (.reg [iI 4 (.mv (.c (.int .i64 (-1))))]) .ret
def c77_7:C:=.seq (.seq (.reg [iI 6 (.mv (.t 0)),iI 7 (.len 0 (.t 6)),iI 8 (.mv (.c (.int .i64 0)))]) c77_5) c77_6
def ir77:C:=.seq (.reg [iI 4 (.mv (.c (.int .i64 0)))]) c77_7
theorem fd77:fd? Try.prog 77=some (19,[.slot 4],ir77):=by kernel_rfl
noncomputable def f77_92(x0:(List ReceiverInput))(x1:Int):Option (Int) :=
  ((Lp.run (f77_92_L1 x0 x1) 0).bind fun r_=>match r_ with | (Sum.inl _)=>(some (-1)) | (Sum.inr x2)=>(some x2))
theorem f77_92_ok{x0:(List ReceiverInput)}{x1:Int}{r_:Int}(H:f77_92 x0 x1=some r_):Pure Try.prog 77 [.sl 8 false (x0.map eReceiverInput),.fn 92 [.pro [.int .i64 x1]]] (· = .int .i64 r_):=by
 refine Pure.walk3 fd77 none (Nat.le_of_ble_eq_true rfl) (by rfl) fun Q hQ=>?_
 simp only[f77_92] at H
 refine AW.rseq ?_
 try simp only[↓wk,↓wl,nq,evV,↓reduceIte,sevalprocAttr]
 refine AW.sseq ?_
 refine AW.rseq ?_
 try simp only[↓wk,↓wl,nq,evV,↓reduceIte,sevalprocAttr]
 refine AW.bend ?_
 refine AW.iter H ((Le.tz [] [0,1,7,8] (by simp only[f77_92_L1c,rrm,↓wk,↓wl,evV,↓reduceIte,sevalprocAttr]<;>rfl))) ?_<;>clear H
 rintro x2 x_ st0_ H hst_
 rw[f77_92_L1c] at hst_
 simp only[f77_92_L1] at H
 subst hst_
 refine AW.rseq ?_
 try simp only[↓wk,↓wl,nq,evV,↓reduceIte,sevalprocAttr]
 refine AW.sseq ?_
 refine AW.ifc H (by rfl) ?_ ?_<;>clear H<;>intro H
 ·refine AW.skip ?_
  refine seqQ.norm ?_
  refine AW.bseq ?_
  refine AW.rseq ?_
  try simp only[↓wk,↓wl,nq,evV,↓reduceIte,sevalprocAttr]
  refine AW.rseq ?_
  try simp only[↓wk,↓wl,nq,evV,↓reduceIte,sevalprocAttr]
  refine evTs_at (enc:=eReceiverInput) H (by rfl) (by rfl) ?_<;>clear H<;>intro x3 H
  try simp only[eReceiverInput,eL,↓wk,↓wl,nq,evV,↓reduceIte,sevalprocAttr]
  refine evTs_pure hFn H (fun _ h=>f92p_ok h) (by rfl) (by rfl) (by rfl) (by rfl) (fun _=>rfl) ?_<;>clear H<;>intro x4 H
  try simp only[eL,↓wk,↓wl,nq,evV,↓reduceIte,sevalprocAttr]
  refine AW.ifc H (by rfl) ?_ ?_<;>clear H<;>intro H
  ·refine AW.rseq ?_
   try simp only[↓wk,↓wl,nq,evV,↓reduceIte,sevalprocAttr]
   refine AW.ret ?_
   refine blkQ.ret ?_
   refine loopQ.ret H ?_<;>clear H<;>intro H
   try dsimp only at H
   refine blk0.ret ?_
   refine seqQ.ret ?_
   cases H
   exact hQ.fin
  ·refine AW.skip ?_
   refine blkQ.norm ?_
   refine AW.rend ?_
   try simp only[↓wk,↓wl,nq,evV,↓reduceIte,sevalprocAttr]
   exact loopQ.next H ((Le.tz [] [0,1,7,8] (by simp only[f77_92_L1c,rrm,↓wk,↓wl,evV,↓reduceIte,sevalprocAttr]<;>rfl)))
 ·refine AW.exit ?_
  refine seqQ.exit ?_
  refine loopQ.exit H ?_<;>clear H<;>intro H
  try dsimp only at H
  refine blk0.here ?_
  refine seqQ.norm ?_
  refine AW.rseq ?_
  try simp only[↓wk,↓wl,nq,evV,↓reduceIte,sevalprocAttr]
  refine AW.ret ?_
  cases H
  exact hQ.fin
def c68_0:C:=.seq (.reg [iI 5 (.mv (.t 0)),iI 6 (.mv (.t 1)),iI 7 (.call (.c (.fn 77 [])) [(.t 5),(.t 6)]),iI 8 (.bin .geq (.t 7) (.c (.int .i64 0))),iI 4 (.mv (.t 8))]) .ret
def ir68:C:=.seq (.reg [iI 4 (.mv (.c (.bool false)))]) c68_0
theorem fd68:fd? Try.prog 68=some (9,[.slot 4],ir68):=by kernel_rfl
noncomputable def f68_92(x0:(List ReceiverInput))(x1:Int):Option (Bool) :=
  (f77_92 x0 x1).bind fun x2=>(some (decide (0≤x2)))
theorem f68_92_ok{x0:(List ReceiverInput)}{x1:Int}{r_:Bool}(H:f68_92 x0 x1=some r_):Pure Try.prog 68 [.sl 8 false (x0.map eReceiverInput),.fn 92 [.pro [.int .i64 x1]]] (· = .bool r_):=by
 refine Pure.walk3 fd68 none (Nat.le_of_ble_eq_true rfl) (by rfl) fun Q hQ=>?_
 simp only[f68_92] at H
 refine AW.rseq ?_
 try simp only[↓wk,↓wl,nq,evV,↓reduceIte,sevalprocAttr]
 refine AW.rseq ?_
 try simp only[↓wk,↓wl,nq,evV,↓reduceIte,sevalprocAttr]
 refine evTs_pure hFn H (fun _ h=>f77_92_ok h) (by rfl) (by rfl) (by rfl) (by rfl) (fun _=>rfl) ?_<;>clear H<;>intro x2 H
 try simp only[eL,↓wk,↓wl,nq,evV,↓reduceIte,sevalprocAttr]
 refine AW.ret ?_
 cases H
 exact hQ.fin
def c58_0:C:=.cond (.t 9) (.seq (.reg [iI 10 (.mv (.t 5)),iI 4 (.mv (.t 10))]) .ret) (.skip)
def c58_1:C:=.seq (.reg [iI 8 (.mv (.t 5)),iI 9 (.bin .neq (.t 8) (.c (.int .i64 0)))]) c58_0
def c58_2:C:=.cond (.t 16) (.seq (.reg [iI 4 (.mv (.c (.int .i64 2)))]) .ret) (.skip)
def c58_3:C:=.cond (.t 20) (.seq (.reg [iI 4 (.mv (.c (.int .i64 9)))]) .ret) (.skip)
def c58_4:C:=.seq (.reg [iI 4 (.mv (.c (.int .i64 0)))]) .ret
def c58_5:C:=.seq (.seq (.reg [iI 17 (.faddr 0 (.t 2)),iI 18 (.load 0 (.t 17)),iI 19 (.mkfn 92 [(.t 3)]),iI 20 (.call (.c (.fn 68 [])) [(.t 18),(.t 19)])]) c58_3) c58_4
def c58_6:C:=.seq (.seq (.reg [iI 11 (.load 0 (.t 3)),iI 12 (.bin .lss (.t 11) (.c (.int .i64 0))),iI 13 (.mv (.t 12)),iG (some 14) 13 false (.load 0 (.t 3)),iG (some 15) 13 false (.bin .gtr (.t 14) (.c (.int .i64 10000000))),iI 16 (.pick (.t 13) (.c (.bool true)) (.t 15))]) c58_2) c58_5
def c58_7:C:=.seq (.seq (.reg [iI 6 (.load 1 (.t 2)),iI 7 (.call (.c (.fn 19 [])) [(.t 6)]),iI 5 (.mv (.t 7))]) c58_1) c58_6
def ir58:C:=.seq (.reg [iI 2 (.box (.t 0)),iI 3 (.box (.t 1)),iI 4 (.mv (.c (.int .i64 0)))]) c58_7
theorem fd58:fd? Try.prog 58=some (21,[.slot 4],ir58):=by kernel_rfl
noncomputable def f58(x0:ReceiverReceiver)(x1:Int):Option (Int) :=
  (f19 x0).bind fun x2=>(if (decide (x2≠0))=true then (some x2) else (if (decide (x1<0))=true then (some 2) else (if (decide (10000000<x1))=true then (some 2) else (f68_92 x0.fInputs x1).bind fun x3=>(if x3=true then (some 9) else (some 0)))))
theorem f58_ok{x0:ReceiverReceiver}{x1:Int}{r_:Int}(H:f58 x0 x1=some r_):Pure Try.prog 58 [.agg [.sl 8 false (x0.fInputs.map eReceiverInput)],.int .i64 x1] (· = .int .i64 r_):=by
 refine Pure.walk3 fd58 none (Nat.le_of_ble_eq_true rfl) (by rfl) fun Q hQ=>?_
 simp only[f58] at H
 refine AW.rseq ?_
 try simp only[↓wk,↓wl,nq,evV,↓reduceIte,sevalprocAttr]
 refine AW.sseq ?_
 refine AW.rseq ?_
 try simp only[↓wk,↓wl,nq,evV,↓reduceIte,sevalprocAttr]
 refine evTs_pure hFn H (fun _ h=>f19_ok h) (by rfl) (by rfl) (by rfl) (by rfl) (fun _=>rfl) ?_<;>clear H<;>intro x2 H
 try simp only[eL,↓wk,↓wl,nq,evV,↓reduceIte,sevalprocAttr]
 refine AW.rseq ?_
 try simp only[↓wk,↓wl,nq,evV,↓reduceIte,sevalprocAttr]
 refine AW.ifc H (by rfl) ?_ ?_<;>clear H<;>intro H
 ·refine AW.rseq ?_
  try simp only[↓wk,↓wl,nq,evV,↓reduceIte,sevalprocAttr]
  refine AW.ret ?_
  refine seqQ.ret ?_
  cases H
  exact hQ.fin
 ·refine AW.skip ?_
  refine seqQ.norm ?_
  refine AW.sseq ?_
  refine AW.rseq ?_
  try simp only[↓wk,↓wl,nq,evV,↓reduceIte,sevalprocAttr]
  refine evTs_ifg H (by rfl) ?_ ?_<;>clear H<;>intro H
  ·try simp only[↓wk,↓wl,nq,evV,↓reduceIte,sevalprocAttr]
   refine AW.ift (by rfl) ?_
   refine AW.rseq ?_
   try simp only[↓wk,↓wl,nq,evV,↓reduceIte,sevalprocAttr]
   refine AW.ret ?_
   refine seqQ.ret ?_
   cases H
   exact hQ.fin
  ·try simp only[↓wk,↓wl,nq,evV,↓reduceIte,sevalprocAttr]
   refine AW.ifc H (by rfl) ?_ ?_<;>clear H<;>intro H
   ·refine AW.rseq ?_
    try simp only[↓wk,↓wl,nq,evV,↓reduceIte,sevalprocAttr]
    refine AW.ret ?_
    refine seqQ.ret ?_
    cases H
    exact hQ.fin
   ·refine AW.skip ?_
    refine seqQ.norm ?_
    refine AW.sseq ?_
    refine AW.rseq ?_
    try simp only[↓wk,↓wl,nq,evV,↓reduceIte,sevalprocAttr]
    refine evTs_flat hFn H (fun _ h=>f68_92_ok h) (by rfl) (by rfl) (by simp only[deep_eq,imm_simps,imm_rowE,imm_ptrE,imm_enc,omap_simps,take_map_len,take_map_set,take_map_set2,List.length_set,le_refl_true,Nat.zero_add,and_true,true_and,List.drop_zero,Option.map_some,↓wk,↓wl,nq,evV,↓reduceIte,sevalprocAttr];rfl) (by rfl) (fun _=>rfl) (fun _=>rfl) ?_<;>clear H<;>intro x3 H
    try simp only[eL,↓wk,↓wl,nq,evV,↓reduceIte,sevalprocAttr]
    refine AW.ifc H (by rfl) ?_ ?_<;>clear H<;>intro H
    ·refine AW.rseq ?_
     try simp only[↓wk,↓wl,nq,evV,↓reduceIte,sevalprocAttr]
     refine AW.ret ?_
     refine seqQ.ret ?_
     cases H
     exact hQ.fin
    ·refine AW.skip ?_
     refine seqQ.norm ?_
     refine AW.rseq ?_
     try simp only[↓wk,↓wl,nq,evV,↓reduceIte,sevalprocAttr]
     refine AW.ret ?_
     cases H
     exact hQ.fin
def c39_0:C:=.cond (.t 4) (.seq (.reg [iI 2 (.mv (.c (.sl 8 true [])))]) .ret) (.skip)
def c39_1:C:=.seq (.reg [iI 5 (.mkslp 8 0 (.agg [(.int .i64 0),(.int .u64 0),(.int .i64 0),(.int .i64 0),(.int .i64 0),(.int .i64 0),(.str []),(.str [])]) []),iI 6 (.mv (.t 0)),iI 7 (.append 8 80 (.t 5) (.t 6)),iI 2 (.mv (.t 7))]) .ret
def c39_2:C:=.seq (.seq (.reg [iI 3 (.mv (.t 0)),iI 4 (.isnil false (.t 3))]) c39_0) c39_1
def ir39:C:=.seq (.reg [iI 2 (.mv (.c (.sl 8 true [])))]) c39_2
theorem fd39:fd? Try.prog 39=some (8,[.slot 2],ir39):=by kernel_rfl
noncomputable def f39(x0:(List ReceiverInput)):Option ((List ReceiverInput)) :=
  (nil? (x0:List ReceiverInput) false fun x1=>(if x1=true then (some []) else (app? 80 [] x0).bind fun x2=>(some x2)))
theorem f39_ok{x0:(List ReceiverInput)}{r_:(List ReceiverInput)}(H:f39 x0=some r_):Pure Try.prog 39 [.sl 8 false (x0.map eReceiverInput)] (· = .fr 8 (r_.map eReceiverInput)):=by
 refine Pure.walk3 fd39 (some 0) (Nat.le_of_ble_eq_true rfl) (by rfl) fun Q hQ=>?_
 simp only[f39] at H
 refine AW.rseq ?_
 try simp only[↓wk,↓wl,nq,evV,↓reduceIte,sevalprocAttr]
 refine AW.sseq ?_
 refine AW.rseq ?_
 try simp only[↓wk,↓wl,nq,evV,↓reduceIte,sevalprocAttr]
 refine evTs_isnil (enc:=eReceiverInput) H (by rfl) ?_<;>clear H<;>intro x1 H
 try simp only[↓wk,↓wl,nq,evV,↓reduceIte,sevalprocAttr]
 refine AW.ifc H (by rfl) ?_ ?_<;>clear H<;>intro H
 ·refine AW.rseq ?_
  try simp only[↓wk,↓wl,nq,evV,↓reduceIte,sevalprocAttr]
  refine AW.ret ?_
  refine seqQ.ret ?_
  cases H
  exact hQ _ _ _ _ (.inr rfl) (by simp only[resVs,omap,resV,↓wk,↓wl,nq,evV,↓reduceIte,sevalprocAttr];rfl) hand_10 (by first | exact Or.inl rfl | exact Or.inr rfl)
 ·refine AW.skip ?_
  refine seqQ.norm ?_
  refine AW.rseq ?_
  try simp only[↓wk,↓wl,nq,evV,↓reduceIte,sevalprocAttr]
  refine evTs_app0 (enc:=eReceiverInput) H (by rfl) (by rfl) ?_<;>clear H<;>intro x2 H
  try simp only[↓wk,↓wl,nq,evV,↓reduceIte,sevalprocAttr]
  refine AW.ret ?_
  cases H
  exact hQ _ _ _ _ (.inr rfl) (by simp only[resVs,omap,resV,↓wk,↓wl,nq,evV,↓reduceIte,sevalprocAttr];rfl) (hand_1 (by rfl) (by simp) (enc_all _)) (by first | exact Or.inl rfl | exact Or.inr rfl)
def c95_0:C:=.cond (.t 38) (.reg [iI 39 (.mv (.t 7)),iI 40 (.mv (.t 7)),iI 41 (.mv (.t 7)),iI 42 (.nilchk (.t 41)),iI 43 (.faddr 7 (.t 42)),iI 44 (.load 0 (.t 43)),iI 45 (.nilchk (.t 39)),iI 46 (.faddr 6 (.t 45)),iN (.store 0 (.t 46) (.t 44)),iI 47 (.nilchk (.t 40)),iI 48 (.faddr 7 (.t 47)),iN (.store 0 (.t 48) (.c (.str []))),iI 5 (.mv (.c (.bool true)))]) (.skip)
def c95_1:C:=.seq (.reg [iI 16 (.mv (.t 7)),iI 17 (.nilchk (.t 16)),iI 18 (.faddr 1 (.t 17)),iI 19 (.load 0 (.t 18)),iI 20 (.faddr 0 (.t 3)),iI 21 (.load 0 (.t 20)),iI 22 (.bin .eql (.t 19) (.t 21)),iI 23 (.mv (.t 22)),iG (some 24) 23 true (.mv (.t 7)),iG (some 25) 23 true (.nilchk (.t 24)),iG (some 26) 23 true (.faddr 4 (.t 25)),iG (some 27) 23 true (.load 0 (.t 26)),iG (some 28) 23 true (.faddr 4 (.t 3)),iG (some 29) 23 true (.load 0 (.t 28)),iG (some 30) 23 true (.bin .eql (.t 27) (.t 29)),iI 31 (.pick (.t 23) (.t 30) (.c (.bool false))),iI 32 (.mv (.t 31)),iG (some 33) 32 true (.mv (.t 7)),iG (some 34) 32 true (.nilchk (.t 33)),iG (some 35) 32 true (.faddr 7 (.t 34)),iG (some 36) 32 true (.load 0 (.t 35)),iG (some 37) 32 true (.bin .neq (.t 36) (.c (.str []))),iI 38 (.pick (.t 32) (.t 37) (.c (.bool false)))]) c95_0
def c95_2:C:=.seq (.reg [iI 13 (.mv (.t 0)),iI 14 (.mv (.t 6)),iI 15 (.iaddr 8 (.t 13) (.t 14)),iI 7 (.mv (.t 15))]) c95_1
def c95_3:C:=.reg [iI 49 (.bin .add (.t 10) (.c (.int .i64 1))),iI 10 (.mv (.t 49))]
def c95_4:C:=.seq (.block 1 (.seq (.reg [iI 12 (.mv (.t 10)),iI 6 (.mv (.t 12))]) c95_2)) c95_3
def c95_5:C:=.seq (.cond (.t 11) (.skip) (.exit 0)) c95_4
def c95_6:C:=.block 0 (.loop (.seq (.reg [iI 11 (.bin .lss (.t 10) (.t 9))]) c95_5))
def c95_7:C:=.seq (.reg [iI 50 (.mv (.t 5)),iI 4 (.mv (.t 50))]) .ret
def c95_8:C:=.seq (.seq (.reg [iI 8 (.mv (.t 0)),iI 9 (.len 0 (.t 8)),iI 10 (.mv (.c (.int .i64 0)))]) c95_6) c95_7
def c95_9:C:=.seq (.reg [iI 5 (.mv (.c (.bool false)))]) c95_8
def ir95:C:=.seq (.reg [iI 3 (.box (.t 1)),iI 4 (.mv (.c (.bool false)))]) c95_9
theorem fd95:fd? Try.prog 95=some (51,[.slot 4],ir95):=by kernel_rfl
noncomputable def f60_L2(x0:(List ReceiverInput))(x1:NetworkPacket):Lp (Bool×Int×(List ReceiverInput)) (Bool×(List ReceiverInput)) where
  body:=fun (x2,x3,x4)=>(if (decide (x3<((x0.length:Nat):Int)))=true then (at? x4 x3).bind fun x5=>(if (decide (x5.fSource=x1.fSource))=true then (if (decide (x5.fSync=x1.fSync))=true then (if (!(x5.fWait == ([])))=true then (some (.next (true,(IntKind.i64.wrap (x3 + 1)),((x4.set x3.toNat (ReceiverInput.mk x5.fUniverse x5.fSource x5.fPriority x5.fSeq x5.fSync x5.fLast x5.fWait x5.fWait)).set x3.toNat (ReceiverInput.mk x5.fUniverse x5.fSource x5.fPriority x5.fSeq x5.fSync x5.fLast x5.fWait ([])))))) else (some (.next (x2,(IntKind.i64.wrap (x3 + 1)),x4)))) else (some (.next (x2,(IntKind.i64.wrap (x3 + 1)),x4)))) else (some (.next (x2,(IntKind.i64.wrap (x3 + 1)),x4)))) else (some (.brk (x2,x4))))
  cst:=fun (x2,x3,x4)=>⟨put (put (put (put (put (fun _=>.junk) 10 (.int .i64 x3)) 9 (.int .i64 ((x0.length:Nat):Int))) 5 (.bool x2)) 3 (.ptr 2 0)) 0 (.row 8 1 0 x4.length),[.cel [.int .u64 x1.fSource,.int .i64 x1.fUniverse,.int .i64 x1.fPriority,.int .i64 x1.fSeq,.int .i64 x1.fSync,.bool x1.fEnd,.str x1.fSlots],.els 8 (x4.map eReceiverInput),.cel [.int .u64 x1.fSource,.int .i64 x1.fUniverse,.int .i64 x1.fPriority,.int .i64 x1.fSeq,.int .i64 x1.fSync,.bool x1.fEnd,.str x1.fSlots]]⟩
end Go.Proofs.Ytgfohogbechkkaa
