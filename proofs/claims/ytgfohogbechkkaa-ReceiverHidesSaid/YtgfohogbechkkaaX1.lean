import Derived.Test.YtgfohogbechkkaaShelf
import Derived.Test.YtgfohogbechkkaaM6
import Derived.Test.YtgfohogbechkkaaProg
import Derived.KernelRfl
namespace Go.Proofs.Ytgfohogbechkkaa
open Go Go.Ab

set_option maxHeartbeats 1000000
set_option maxRecDepth 4000
set_option linter.unusedSimpArgs false
set_option linter.unusedVariables false
structure ReceiverInput where
  fUniverse : Int
  fSource : Int
  fPriority : Int
  fSeq : Int
  fSync : Int
  fLast : Int
  fSlots : (List UInt8)
  fWait : (List UInt8)
def eReceiverInput (x : ReceiverInput) : AV := .agg [.int .i64 x.fUniverse, .int .u64 x.fSource, .int .i64 x.fPriority, .int .i64 x.fSeq, .int .i64 x.fSync, .int .i64 x.fLast, .str x.fSlots, .str x.fWait]
instance : IsFlat eReceiverInput := ⟨fun _ => rfl⟩
instance : IsEnc 8 eReceiverInput := ⟨fun _ => rfl, fun _ => rfl, fun _ => rfl⟩
structure ReceiverReceiver where
  fInputs : (List ReceiverInput)
def eReceiverReceiver (x : ReceiverReceiver) : AV := .agg [.sl 8 false (x.fInputs.map eReceiverInput)]
instance : IsEnc 1 eReceiverReceiver := ⟨fun _ => rfl, fun _ => rfl, fun _ => rfl⟩
structure NetworkPacket where
  fSource : Int
  fUniverse : Int
  fPriority : Int
  fSeq : Int
  fSync : Int
  fEnd : Bool
  fSlots : (List UInt8)
def eNetworkPacket (x : NetworkPacket) : AV := .agg [.int .u64 x.fSource, .int .i64 x.fUniverse, .int .i64 x.fPriority, .int .i64 x.fSeq, .int .i64 x.fSync, .bool x.fEnd, .str x.fSlots]
instance : IsFlat eNetworkPacket := ⟨fun _ => rfl⟩
instance : IsEnc 7 eNetworkPacket := ⟨fun _ => rfl, fun _ => rfl, fun _ => rfl⟩
structure ReceiverEvent where
  fAt : Int
  fPacket : NetworkPacket
def eReceiverEvent (x : ReceiverEvent) : AV := .agg [.int .i64 x.fAt, .int .u64 x.fPacket.fSource, .int .i64 x.fPacket.fUniverse, .int .i64 x.fPacket.fPriority, .int .i64 x.fPacket.fSeq, .int .i64 x.fPacket.fSync, .bool x.fPacket.fEnd, .str x.fPacket.fSlots]
instance : IsFlat eReceiverEvent := ⟨fun _ => rfl⟩
instance : IsEnc 8 eReceiverEvent := ⟨fun _ => rfl, fun _ => rfl, fun _ => rfl⟩
structure ReceiverPlace where
  fUniverse : Int
  fSource : Int
def eReceiverPlace (x : ReceiverPlace) : AV := .agg [.int .i64 x.fUniverse, .int .u64 x.fSource]
instance : IsFlat eReceiverPlace := ⟨fun _ => rfl⟩
instance : IsEnc 2 eReceiverPlace := ⟨fun _ => rfl, fun _ => rfl, fun _ => rfl⟩
structure ApiFrame where
  fUniverse : Int
  fSlots : (List UInt8)
def eApiFrame (x : ApiFrame) : AV := .agg [.int .i64 x.fUniverse, .str x.fSlots]
instance : IsFlat eApiFrame := ⟨fun _ => rfl⟩
instance : IsEnc 2 eApiFrame := ⟨fun _ => rfl, fun _ => rfl, fun _ => rfl⟩
structure Ref57Input where
  fUniverse : Int
  fSource : Int
  fPriority : Int
  fSeq : Int
  fSync : Int
  fLast : Int
  fSlots : (List UInt8)
  fWait : (List UInt8)
def eRef57Input (x : Ref57Input) : AV := .agg [.int .i64 x.fUniverse, .int .u64 x.fSource, .int .i64 x.fPriority, .int .i64 x.fSeq, .int .i64 x.fSync, .int .i64 x.fLast, .str x.fSlots, .str x.fWait]
instance : IsFlat eRef57Input := ⟨fun _ => rfl⟩
instance : IsEnc 8 eRef57Input := ⟨fun _ => rfl, fun _ => rfl, fun _ => rfl⟩
structure Ref57Receiver where
  fInputs : (List Ref57Input)
def eRef57Receiver (x : Ref57Receiver) : AV := .agg [.sl 8 false (x.fInputs.map eRef57Input)]
instance : IsEnc 1 eRef57Receiver := ⟨fun _ => rfl, fun _ => rfl, fun _ => rfl⟩
structure Ref56Packet where
  fSource : Int
  fUniverse : Int
  fPriority : Int
  fSeq : Int
  fSync : Int
  fEnd : Bool
  fSlots : (List UInt8)
def eRef56Packet (x : Ref56Packet) : AV := .agg [.int .u64 x.fSource, .int .i64 x.fUniverse, .int .i64 x.fPriority, .int .i64 x.fSeq, .int .i64 x.fSync, .bool x.fEnd, .str x.fSlots]
instance : IsFlat eRef56Packet := ⟨fun _ => rfl⟩
instance : IsEnc 7 eRef56Packet := ⟨fun _ => rfl, fun _ => rfl, fun _ => rfl⟩
def c56_0 : C := .seq (.reg [iI 9 (.mv (.t 0)), iI 10 (.mv (.t 1)), iI 11 (.mv (.t 2)), iI 12 (.mv (.t 3)), iI 13 (.cstr (.t 12)), iI 14 (.build [(1, (.int .u64 0)), (1, (.int .i64 0)), (1, (.int .i64 0)), (1, (.int .i64 0)), (1, (.int .i64 0)), (1, (.bool false)), (1, (.str []))] [(0, 0, (.t 9)), (1, 0, (.t 10)), (2, 0, (.c (.int .i64 100))), (3, 0, (.t 11)), (6, 0, (.t 13))]), iN (.store 7 (.t 8) (.t 14))]) .ret
def ir56 : C := .seq (.reg [iI 8 (.alloc [(1, (.int .u64 0)), (1, (.int .i64 0)), (1, (.int .i64 0)), (1, (.int .i64 0)), (1, (.int .i64 0)), (1, (.bool false)), (1, (.str []))])]) c56_0
theorem fd56 : fd? Try.prog 56 = some (15, [.cell 8 7], ir56) := by kernel_rfl
noncomputable def f56 (source_1 : Int) (universe_2 : Int) (seq_3 : Int) (slots_4 : (List Int)) : Option (NetworkPacket) :=
  (some (NetworkPacket.mk source_1 universe_2 100 seq_3 0 false (slots_4.map b8)))
theorem f56_ok {source_1 : Int} {universe_2 : Int} {seq_3 : Int} {slots_4 : (List Int)} {r_ : NetworkPacket} (H : f56 source_1 universe_2 seq_3 slots_4 = some r_) : Pure Try.prog 56 [.int .u64 source_1, .int .i64 universe_2, .int .i64 seq_3, .sl 0 false (slots_4.map (AV.int .u8))] (· = .agg [.int .u64 r_.fSource, .int .i64 r_.fUniverse, .int .i64 r_.fPriority, .int .i64 r_.fSeq, .int .i64 r_.fSync, .bool r_.fEnd, .str r_.fSlots]) := by
 refine Pure.walk3 fd56 none (Nat.le_of_ble_eq_true rfl) (by rfl) fun Q hQ => ?_
 simp only [f56] at H
 refine AW.rseq ?_
 try simp only [↓wk, ↓wl, nq, evV, ↓reduceIte, sevalprocAttr]
 refine AW.rseq ?_
 try simp only [↓wk, ↓wl, nq, evV, ↓reduceIte, sevalprocAttr]
 refine evTs_cstr (xs := slots_4) (by rfl) ?_
 try simp only [↓wk, ↓wl, nq, evV, ↓reduceIte, sevalprocAttr]
 refine AW.ret ?_
 cases H
 exact hQ.fin
def c93_0 : C := .seq (.reg [iI 7 (.mv (.t 0)), iI 8 (.mv (.t 1)), iI 9 (.bin .geq (.t 7) (.t 8)), iI 10 (.mv (.t 9)), iG (some 11) 10 true (.mv (.t 0)), iG (some 12) 10 true (.mv (.t 2)), iG (some 13) 10 true (.bin .leq (.t 11) (.t 12)), iI 14 (.pick (.t 10) (.t 13) (.c (.bool false))), iI 6 (.mv (.t 14))]) .ret
def ir93 : C := .seq (.reg [iI 6 (.mv (.c (.bool false)))]) c93_0
theorem fd93 : fd? Try.prog 93 = some (15, [.slot 6], ir93) := by kernel_rfl
noncomputable def f93 (n_16 : Int) (low_17 : Int) (high_18 : Int) : Option (Bool) :=
  (if (decide (low_17 ≤ n_16)) = true then (some (decide (n_16 ≤ high_18))) else (some false))
theorem f93_ok {n_16 : Int} {low_17 : Int} {high_18 : Int} {r_ : Bool} (H : f93 n_16 low_17 high_18 = some r_) : Pure Try.prog 93 [.int .i64 n_16, .int .i64 low_17, .int .i64 high_18] (· = .bool r_) := by
 refine Pure.walk3 fd93 none (Nat.le_of_ble_eq_true rfl) (by rfl) fun Q hQ => ?_
 simp only [f93] at H
 refine AW.rseq ?_
 try simp only [↓wk, ↓wl, nq, evV, ↓reduceIte, sevalprocAttr]
 refine AW.rseq ?_
 try simp only [↓wk, ↓wl, nq, evV, ↓reduceIte, sevalprocAttr]
 refine evTs_ifg H (by rfl) ?_ ?_ <;> clear H <;> intro H
 ·try simp only [↓wk, ↓wl, nq, evV, ↓reduceIte, sevalprocAttr]
  refine AW.ret ?_
  cases H
  exact hQ.fin
 ·try simp only [↓wk, ↓wl, nq, evV, ↓reduceIte, sevalprocAttr]
  refine AW.ret ?_
  cases H
  exact hQ.fin
def c78_0 : C := .seq (.reg [iI 7 (.mv (.t 0)), iI 8 (.bin .gtr (.t 7) (.c (.int .u64 0))), iI 9 (.mv (.t 8)), iG (some 10) 9 true (.mv (.t 0)), iG (some 11) 9 true (.bin .lss (.t 10) (.c (.int .u64 281474976710655))), iI 12 (.pick (.t 9) (.t 11) (.c (.bool false))), iI 13 (.mv (.t 12)), iG (some 14) 13 true (.mv (.t 1)), iG (some 15) 13 true (.call (.c (.fn 93 [])) [(.t 14), (.c (.int .i64 0)), (.c (.int .i64 200))]), iI 16 (.pick (.t 13) (.t 15) (.c (.bool false))), iI 17 (.mv (.t 16)), iG (some 18) 17 true (.mv (.t 2)), iG (some 19) 17 true (.call (.c (.fn 93 [])) [(.t 18), (.c (.int .i64 0)), (.c (.int .i64 8))]), iI 20 (.pick (.t 17) (.t 19) (.c (.bool false))), iI 6 (.mv (.t 20))]) .ret
def ir78 : C := .seq (.reg [iI 6 (.mv (.c (.bool false)))]) c78_0
theorem fd78 : fd? Try.prog 78 = some (21, [.slot 6], ir78) := by kernel_rfl
noncomputable def f78 (source_13 : Int) (priority_14 : Int) (sync_15 : Int) : Option (Bool) :=
  (if (decide (0 < source_13)) = true then (if (decide (source_13 < 281474976710655)) = true then (f93 priority_14 0 200).bind fun r_19 => (if r_19 = true then (f93 sync_15 0 8).bind fun r_20 => (some r_20) else (some false)) else (some false)) else (some false))
theorem f78_ok {source_13 : Int} {priority_14 : Int} {sync_15 : Int} {r_ : Bool} (H : f78 source_13 priority_14 sync_15 = some r_) : Pure Try.prog 78 [.int .u64 source_13, .int .i64 priority_14, .int .i64 sync_15] (· = .bool r_) := by
 refine Pure.walk3 fd78 none (Nat.le_of_ble_eq_true rfl) (by rfl) fun Q hQ => ?_
 simp only [f78] at H
 refine AW.rseq ?_
 try simp only [↓wk, ↓wl, nq, evV, ↓reduceIte, sevalprocAttr]
 refine AW.rseq ?_
 try simp only [↓wk, ↓wl, nq, evV, ↓reduceIte, sevalprocAttr]
 refine evTs_ifg H (by rfl) ?_ ?_ <;> clear H <;> intro H
 ·try simp only [↓wk, ↓wl, nq, evV, ↓reduceIte, sevalprocAttr]
  refine evTs_ifg H (by rfl) ?_ ?_ <;> clear H <;> intro H
  ·try simp only [↓wk, ↓wl, nq, evV, ↓reduceIte, sevalprocAttr]
   refine evTs_pure hFn H (fun _ h => f93_ok h) (by rfl) (by rfl) (by rfl) (by rfl) (fun _ => rfl) ?_ <;> clear H <;> intro r_19 H
   try simp only [eL, ↓wk, ↓wl, nq, evV, ↓reduceIte, sevalprocAttr]
   refine evTs_ifg H (by rfl) ?_ ?_ <;> clear H <;> intro H
   ·try simp only [↓wk, ↓wl, nq, evV, ↓reduceIte, sevalprocAttr]
    refine evTs_pure hFn H (fun _ h => f93_ok h) (by rfl) (by rfl) (by rfl) (by rfl) (fun _ => rfl) ?_ <;> clear H <;> intro r_20 H
    try simp only [eL, ↓wk, ↓wl, nq, evV, ↓reduceIte, sevalprocAttr]
    refine AW.ret ?_
    cases H
    exact hQ.fin
   ·try simp only [↓wk, ↓wl, nq, evV, ↓reduceIte, sevalprocAttr]
    refine AW.ret ?_
    cases H
    exact hQ.fin
  ·try simp only [↓wk, ↓wl, nq, evV, ↓reduceIte, sevalprocAttr]
   refine AW.ret ?_
   cases H
   exact hQ.fin
 ·try simp only [↓wk, ↓wl, nq, evV, ↓reduceIte, sevalprocAttr]
  refine AW.ret ?_
  cases H
  exact hQ.fin
def c94_0 : C := .seq (.reg [iI 3 (.mv (.t 0)), iI 4 (.call (.c (.fn 93 [])) [(.t 3), (.c (.int .i64 0)), (.c (.int .i64 255))]), iI 2 (.mv (.t 4))]) .ret
def ir94 : C := .seq (.reg [iI 2 (.mv (.c (.bool false)))]) c94_0
theorem fd94 : fd? Try.prog 94 = some (5, [.slot 2], ir94) := by kernel_rfl
noncomputable def f94 (n_23 : Int) : Option (Bool) :=
  (f93 n_23 0 255).bind fun r_24 => (some r_24)
theorem f94_ok {n_23 : Int} {r_ : Bool} (H : f94 n_23 = some r_) : Pure Try.prog 94 [.int .i64 n_23] (· = .bool r_) := by
 refine Pure.walk3 fd94 none (Nat.le_of_ble_eq_true rfl) (by rfl) fun Q hQ => ?_
 simp only [f94] at H
 refine AW.rseq ?_
 try simp only [↓wk, ↓wl, nq, evV, ↓reduceIte, sevalprocAttr]
 refine AW.rseq ?_
 try simp only [↓wk, ↓wl, nq, evV, ↓reduceIte, sevalprocAttr]
 refine evTs_pure hFn H (fun _ h => f93_ok h) (by rfl) (by rfl) (by rfl) (by rfl) (fun _ => rfl) ?_ <;> clear H <;> intro r_24 H
 try simp only [eL, ↓wk, ↓wl, nq, evV, ↓reduceIte, sevalprocAttr]
 refine AW.ret ?_
 cases H
 exact hQ.fin
def c59_0 : C := .cond (.t 29) (.seq (.reg [iI 2 (.mv (.c (.int .i64 3)))]) .ret) (.skip)
def c59_1 : C := .cond (.t 24) (.seq (.reg [iI 2 (.mv (.c (.int .i64 13)))]) .ret) (.seq (.reg [iI 30 (.faddr 1 (.t 1)), iI 31 (.load 0 (.t 30)), iI 32 (.bin .eql (.t 31) (.c (.int .i64 0))), iI 33 (.mv (.t 32)), iG (some 34) 33 true (.faddr 4 (.t 1)), iG (some 35) 33 true (.load 0 (.t 34)), iG (some 36) 33 true (.bin .eql (.t 35) (.c (.int .i64 0))), iG (some 37) 33 true (.mv (.t 36)), iG (some 38) 37 false (.faddr 5 (.t 1)), iG (some 39) 37 false (.load 0 (.t 38)), iG (some 40) 33 true (.pick (.t 37) (.c (.bool true)) (.t 39)), iG (some 41) 33 true (.mv (.t 40)), iG (some 42) 41 false (.faddr 6 (.t 1)), iG (some 43) 41 false (.load 0 (.t 42)), iG (some 44) 41 false (.bin .neq (.t 43) (.c (.str []))), iG (some 45) 33 true (.pick (.t 41) (.c (.bool true)) (.t 44)), iI 46 (.pick (.t 33) (.t 45) (.c (.bool false))), iI 29 (.mv (.t 46))]) c59_0)
def c59_2 : C := .cond (.t 3) (.seq (.reg [iI 2 (.mv (.c (.int .i64 2)))]) .ret) (.seq (.reg [iI 25 (.faddr 6 (.t 1)), iI 26 (.load 0 (.t 25)), iI 27 (.len 1 (.t 26)), iI 28 (.bin .gtr (.t 27) (.c (.int .i64 512))), iI 24 (.mv (.t 28))]) c59_1)
def c59_3 : C := .seq (.reg [iI 2 (.mv (.c (.int .i64 0)))]) .ret
def c59_4 : C := .seq (.block 0 (.seq (.reg [iI 4 (.faddr 0 (.t 1)), iI 5 (.load 0 (.t 4)), iI 6 (.faddr 2 (.t 1)), iI 7 (.load 0 (.t 6)), iI 8 (.faddr 4 (.t 1)), iI 9 (.load 0 (.t 8)), iI 10 (.call (.c (.fn 78 [])) [(.t 5), (.t 7), (.t 9)]), iI 11 (.un .not (.t 10)), iI 12 (.mv (.t 11)), iG (some 13) 12 false (.faddr 1 (.t 1)), iG (some 14) 12 false (.load 0 (.t 13)), iG (some 15) 12 false (.call (.c (.fn 93 [])) [(.t 14), (.c (.int .i64 0)), (.c (.int .i64 8))]), iG (some 16) 12 false (.un .not (.t 15)), iI 17 (.pick (.t 12) (.c (.bool true)) (.t 16)), iI 18 (.mv (.t 17)), iG (some 19) 18 false (.faddr 3 (.t 1)), iG (some 20) 18 false (.load 0 (.t 19)), iG (some 21) 18 false (.call (.c (.fn 94 [])) [(.t 20)]), iG (some 22) 18 false (.un .not (.t 21)), iI 23 (.pick (.t 18) (.c (.bool true)) (.t 22)), iI 3 (.mv (.t 23))]) c59_2)) c59_3
def ir59 : C := .seq (.reg [iI 1 (.box (.t 0)), iI 2 (.mv (.c (.int .i64 0)))]) c59_4
theorem fd59 : fd? Try.prog 59 = some (47, [.slot 2], ir59) := by kernel_rfl
noncomputable def f59 (p_12 : NetworkPacket) : Option (Int) :=
  (f78 p_12.fSource p_12.fPriority p_12.fSync).bind fun r_21 => (if (!r_21) = true then (some 2) else (f93 p_12.fUniverse 0 8).bind fun r_22 => (if (!r_22) = true then (some 2) else (f94 p_12.fSeq).bind fun r_25 => (if (!r_25) = true then (some 2) else (if (decide (512 < ((p_12.fSlots.length : Nat) : Int))) = true then (some 13) else (if (decide (p_12.fUniverse = 0)) = true then (if (decide (p_12.fSync = 0)) = true then (some 3) else (if p_12.fEnd = true then (some 3) else (if (!(p_12.fSlots == ([]))) = true then (some 3) else (some 0)))) else (some 0))))))
theorem f59_ok {p_12 : NetworkPacket} {r_ : Int} (H : f59 p_12 = some r_) : Pure Try.prog 59 [.agg [.int .u64 p_12.fSource, .int .i64 p_12.fUniverse, .int .i64 p_12.fPriority, .int .i64 p_12.fSeq, .int .i64 p_12.fSync, .bool p_12.fEnd, .str p_12.fSlots]] (· = .int .i64 r_) := by
 refine Pure.walk3 fd59 none (Nat.le_of_ble_eq_true rfl) (by rfl) fun Q hQ => ?_
 simp only [f59] at H
 refine AW.rseq ?_
 try simp only [↓wk, ↓wl, nq, evV, ↓reduceIte, sevalprocAttr]
 refine AW.bseq ?_
 refine AW.rseq ?_
 try simp only [↓wk, ↓wl, nq, evV, ↓reduceIte, sevalprocAttr]
 refine evTs_pure hFn H (fun _ h => f78_ok h) (by rfl) (by rfl) (by rfl) (by rfl) (fun _ => rfl) ?_ <;> clear H <;> intro r_21 H
 try simp only [eL, ↓wk, ↓wl, nq, evV, ↓reduceIte, sevalprocAttr]
 refine evTs_ifg H (by rfl) ?_ ?_ <;> clear H <;> intro H
 ·try simp only [↓wk, ↓wl, nq, evV, ↓reduceIte, sevalprocAttr]
  refine AW.ift (by rfl) ?_
  refine AW.rseq ?_
  try simp only [↓wk, ↓wl, nq, evV, ↓reduceIte, sevalprocAttr]
  refine AW.ret ?_
  refine blkQ.ret ?_
  cases H
  exact hQ.fin
 ·try simp only [↓wk, ↓wl, nq, evV, ↓reduceIte, sevalprocAttr]
  refine evTs_pure hFn H (fun _ h => f93_ok h) (by rfl) (by rfl) (by rfl) (by rfl) (fun _ => rfl) ?_ <;> clear H <;> intro r_22 H
  try simp only [eL, ↓wk, ↓wl, nq, evV, ↓reduceIte, sevalprocAttr]
  refine evTs_ifg H (by rfl) ?_ ?_ <;> clear H <;> intro H
  ·try simp only [↓wk, ↓wl, nq, evV, ↓reduceIte, sevalprocAttr]
   refine AW.ift (by rfl) ?_
   refine AW.rseq ?_
   try simp only [↓wk, ↓wl, nq, evV, ↓reduceIte, sevalprocAttr]
   refine AW.ret ?_
   refine blkQ.ret ?_
   cases H
   exact hQ.fin
  ·try simp only [↓wk, ↓wl, nq, evV, ↓reduceIte, sevalprocAttr]
   refine evTs_pure hFn H (fun _ h => f94_ok h) (by rfl) (by rfl) (by rfl) (by rfl) (fun _ => rfl) ?_ <;> clear H <;> intro r_25 H
   try simp only [eL, ↓wk, ↓wl, nq, evV, ↓reduceIte, sevalprocAttr]
   refine AW.ifc H (by rfl) ?_ ?_ <;> clear H <;> intro H
   ·refine AW.rseq ?_
    try simp only [↓wk, ↓wl, nq, evV, ↓reduceIte, sevalprocAttr]
    refine AW.ret ?_
    refine blkQ.ret ?_
    cases H
    exact hQ.fin
   ·refine AW.rseq ?_
    try simp only [↓wk, ↓wl, nq, evV, ↓reduceIte, sevalprocAttr]
    refine AW.ifc H (by rfl) ?_ ?_ <;> clear H <;> intro H
    ·refine AW.rseq ?_
     try simp only [↓wk, ↓wl, nq, evV, ↓reduceIte, sevalprocAttr]
     refine AW.ret ?_
     refine blkQ.ret ?_
     cases H
     exact hQ.fin
    ·refine AW.rseq ?_
     try simp only [↓wk, ↓wl, nq, evV, ↓reduceIte, sevalprocAttr]
     refine evTs_ifg H (by rfl) ?_ ?_ <;> clear H <;> intro H
     ·try simp only [↓wk, ↓wl, nq, evV, ↓reduceIte, sevalprocAttr]
      refine evTs_ifg H (by rfl) ?_ ?_ <;> clear H <;> intro H
      ·try simp only [↓wk, ↓wl, nq, evV, ↓reduceIte, sevalprocAttr]
       refine AW.ift (by rfl) ?_
       refine AW.rseq ?_
       try simp only [↓wk, ↓wl, nq, evV, ↓reduceIte, sevalprocAttr]
       refine AW.ret ?_
       refine blkQ.ret ?_
       cases H
       exact hQ.fin
      ·try simp only [↓wk, ↓wl, nq, evV, ↓reduceIte, sevalprocAttr]
       refine evTs_ifg H (by rfl) ?_ ?_ <;> clear H <;> intro H
       ·try simp only [↓wk, ↓wl, nq, evV, ↓reduceIte, sevalprocAttr]
        refine AW.ift (by rfl) ?_
        refine AW.rseq ?_
        try simp only [↓wk, ↓wl, nq, evV, ↓reduceIte, sevalprocAttr]
        refine AW.ret ?_
        refine blkQ.ret ?_
        cases H
        exact hQ.fin
       ·try simp only [↓wk, ↓wl, nq, evV, ↓reduceIte, sevalprocAttr]
        refine AW.ifc H (by rfl) ?_ ?_ <;> clear H <;> intro H
        ·refine AW.rseq ?_
         try simp only [↓wk, ↓wl, nq, evV, ↓reduceIte, sevalprocAttr]
         refine AW.ret ?_
         refine blkQ.ret ?_
         cases H
         exact hQ.fin
        ·refine AW.skip ?_
         refine blkQ.norm ?_
         refine AW.rseq ?_
         try simp only [↓wk, ↓wl, nq, evV, ↓reduceIte, sevalprocAttr]
         refine AW.ret ?_
         cases H
         exact hQ.fin
     ·try simp only [↓wk, ↓wl, nq, evV, ↓reduceIte, sevalprocAttr]
      refine AW.iff (by rfl) ?_
      refine AW.skip ?_
      refine blkQ.norm ?_
      refine AW.rseq ?_
      try simp only [↓wk, ↓wl, nq, evV, ↓reduceIte, sevalprocAttr]
      refine AW.ret ?_
      cases H
      exact hQ.fin
def c105_0 : C := .seq (.reg [iI 3 (.mv (.t 0)), iI 4 (.bin .eql (.t 3) (.c (.str []))), iI 5 (.mv (.t 4)), iG (some 6) 5 false (.mv (.t 0)), iG (some 7) 5 false (.len 1 (.t 6)), iG (some 8) 5 false (.bin .eql (.t 7) (.c (.int .i64 512))), iI 9 (.pick (.t 5) (.c (.bool true)) (.t 8)), iI 2 (.mv (.t 9))]) .ret
def ir105 : C := .seq (.reg [iI 2 (.mv (.c (.bool false)))]) c105_0
theorem fd105 : fd? Try.prog 105 = some (10, [.slot 2], ir105) := by kernel_rfl
noncomputable def f105 (s_28 : (List UInt8)) : Option (Bool) :=
  (if (s_28 == ([])) = true then (some true) else (some (decide (((s_28.length : Nat) : Int) = 512))))
theorem f105_ok {s_28 : (List UInt8)} {r_ : Bool} (H : f105 s_28 = some r_) : Pure Try.prog 105 [.str s_28] (· = .bool r_) := by
 refine Pure.walk3 fd105 none (Nat.le_of_ble_eq_true rfl) (by rfl) fun Q hQ => ?_
 simp only [f105] at H
 refine AW.rseq ?_
 try simp only [↓wk, ↓wl, nq, evV, ↓reduceIte, sevalprocAttr]
 refine AW.rseq ?_
 try simp only [↓wk, ↓wl, nq, evV, ↓reduceIte, sevalprocAttr]
 refine evTs_ifg H (by rfl) ?_ ?_ <;> clear H <;> intro H
 ·try simp only [↓wk, ↓wl, nq, evV, ↓reduceIte, sevalprocAttr]
  refine AW.ret ?_
  cases H
  exact hQ.fin
 ·try simp only [↓wk, ↓wl, nq, evV, ↓reduceIte, sevalprocAttr]
  refine AW.ret ?_
  cases H
  exact hQ.fin
def c63_0 : C := .cond (.t 32) (.seq (.reg [iI 2 (.mv (.c (.int .i64 2)))]) .ret) (.skip)
def c63_1 : C := .cond (.t 42) (.seq (.reg [iI 2 (.mv (.c (.int .i64 14)))]) .ret) (.skip)
def c63_2 : C := .cond (.t 50) (.seq (.reg [iI 2 (.mv (.c (.int .i64 3)))]) .ret) (.skip)
def c63_3 : C := .seq (.reg [iI 2 (.mv (.c (.int .i64 0)))]) .ret
def c63_4 : C := .seq (.seq (.reg [iI 43 (.faddr 4 (.t 1)), iI 44 (.load 0 (.t 43)), iI 45 (.bin .eql (.t 44) (.c (.int .i64 0))), iI 46 (.mv (.t 45)), iG (some 47) 46 true (.faddr 7 (.t 1)), iG (some 48) 46 true (.load 0 (.t 47)), iG (some 49) 46 true (.bin .neq (.t 48) (.c (.str []))), iI 50 (.pick (.t 46) (.t 49) (.c (.bool false)))]) c63_2) c63_3
def c63_5 : C := .seq (.seq (.reg [iI 33 (.faddr 6 (.t 1)), iI 34 (.load 0 (.t 33)), iI 35 (.call (.c (.fn 105 [])) [(.t 34)]), iI 36 (.un .not (.t 35)), iI 37 (.mv (.t 36)), iG (some 38) 37 false (.faddr 7 (.t 1)), iG (some 39) 37 false (.load 0 (.t 38)), iG (some 40) 37 false (.call (.c (.fn 105 [])) [(.t 39)]), iG (some 41) 37 false (.un .not (.t 40)), iI 42 (.pick (.t 37) (.c (.bool true)) (.t 41))]) c63_1) c63_4
def c63_6 : C := .seq (.seq (.reg [iI 15 (.faddr 0 (.t 1)), iI 16 (.load 0 (.t 15)), iI 17 (.bin .lss (.t 16) (.c (.int .i64 1))), iI 18 (.mv (.t 17)), iG (some 19) 18 false (.load 7 (.t 3)), iG (some 20) 18 false (.call (.c (.fn 59 [])) [(.t 19)]), iG (some 21) 18 false (.bin .neq (.t 20) (.c (.int .i64 0))), iI 22 (.pick (.t 18) (.c (.bool true)) (.t 21)), iI 23 (.mv (.t 22)), iG (some 24) 23 false (.faddr 5 (.t 1)), iG (some 25) 23 false (.load 0 (.t 24)), iG (some 26) 23 false (.bin .lss (.t 25) (.c (.int .i64 0))), iI 27 (.pick (.t 23) (.c (.bool true)) (.t 26)), iI 28 (.mv (.t 27)), iG (some 29) 28 false (.faddr 5 (.t 1)), iG (some 30) 28 false (.load 0 (.t 29)), iG (some 31) 28 false (.bin .gtr (.t 30) (.c (.int .i64 10000000))), iI 32 (.pick (.t 28) (.c (.bool true)) (.t 31))]) c63_0) c63_5
def c63_7 : C := .seq (.reg [iI 4 (.faddr 1 (.t 1)), iI 5 (.load 0 (.t 4)), iI 6 (.faddr 0 (.t 1)), iI 7 (.load 0 (.t 6)), iI 8 (.faddr 2 (.t 1)), iI 9 (.load 0 (.t 8)), iI 10 (.faddr 3 (.t 1)), iI 11 (.load 0 (.t 10)), iI 12 (.faddr 4 (.t 1)), iI 13 (.load 0 (.t 12)), iI 14 (.build [(1, (.int .u64 0)), (1, (.int .i64 0)), (1, (.int .i64 0)), (1, (.int .i64 0)), (1, (.int .i64 0)), (1, (.bool false)), (1, (.str []))] [(0, 0, (.t 5)), (1, 0, (.t 7)), (2, 0, (.t 9)), (3, 0, (.t 11)), (4, 0, (.t 13))]), iI 3 (.alloc [(1, (.int .u64 0)), (1, (.int .i64 0)), (1, (.int .i64 0)), (1, (.int .i64 0)), (1, (.int .i64 0)), (1, (.bool false)), (1, (.str []))]), iN (.store 7 (.t 3) (.t 14))]) c63_6
def ir63 : C := .seq (.reg [iI 1 (.box (.t 0)), iI 2 (.mv (.c (.int .i64 0)))]) c63_7
theorem fd63 : fd? Try.prog 63 = some (51, [.slot 2], ir63) := by kernel_rfl
noncomputable def f63 (x_11 : ReceiverInput) : Option (Int) :=
  (if (decide (x_11.fUniverse < 1)) = true then (some 2) else (f59 (NetworkPacket.mk x_11.fSource x_11.fUniverse x_11.fPriority x_11.fSeq x_11.fSync false ([]))).bind fun r_27 => (if (decide (r_27 ≠ 0)) = true then (some 2) else (if (decide (x_11.fLast < 0)) = true then (some 2) else (if (decide (10000000 < x_11.fLast)) = true then (some 2) else (f105 x_11.fSlots).bind fun r_29 => (if (!r_29) = true then (some 14) else (f105 x_11.fWait).bind fun r_30 => (if (!r_30) = true then (some 14) else (if (decide (x_11.fSync = 0)) = true then (if (!(x_11.fWait == ([]))) = true then (some 3) else (some 0)) else (some 0))))))))
theorem f63_ok {x_11 : ReceiverInput} {r_ : Int} (H : f63 x_11 = some r_) : Pure Try.prog 63 [.agg [.int .i64 x_11.fUniverse, .int .u64 x_11.fSource, .int .i64 x_11.fPriority, .int .i64 x_11.fSeq, .int .i64 x_11.fSync, .int .i64 x_11.fLast, .str x_11.fSlots, .str x_11.fWait]] (· = .int .i64 r_) := by
 refine Pure.walk3 fd63 none (Nat.le_of_ble_eq_true rfl) (by rfl) fun Q hQ => ?_
 simp only [f63] at H
 refine AW.rseq ?_
 try simp only [↓wk, ↓wl, nq, evV, ↓reduceIte, sevalprocAttr]
 refine AW.rseq ?_
 try simp only [↓wk, ↓wl, nq, evV, ↓reduceIte, sevalprocAttr]
 refine AW.sseq ?_
 refine AW.rseq ?_
 try simp only [↓wk, ↓wl, nq, evV, ↓reduceIte, sevalprocAttr]
 refine evTs_ifg H (by rfl) ?_ ?_ <;> clear H <;> intro H
 ·try simp only [↓wk, ↓wl, nq, evV, ↓reduceIte, sevalprocAttr]
  refine AW.ift (by rfl) ?_
  refine AW.rseq ?_
  try simp only [↓wk, ↓wl, nq, evV, ↓reduceIte, sevalprocAttr]
  refine AW.ret ?_
  refine seqQ.ret ?_
  cases H
  exact hQ.fin
 ·try simp only [↓wk, ↓wl, nq, evV, ↓reduceIte, sevalprocAttr]
  refine evTs_pure hFn H (fun _ h => f59_ok h) (by rfl) (by rfl) (by rfl) (by rfl) (fun _ => rfl) ?_ <;> clear H <;> intro r_27 H
  try simp only [eL, ↓wk, ↓wl, nq, evV, ↓reduceIte, sevalprocAttr]
  refine evTs_ifg H (by rfl) ?_ ?_ <;> clear H <;> intro H
  ·try simp only [↓wk, ↓wl, nq, evV, ↓reduceIte, sevalprocAttr]
   refine AW.ift (by rfl) ?_
   refine AW.rseq ?_
   try simp only [↓wk, ↓wl, nq, evV, ↓reduceIte, sevalprocAttr]
   refine AW.ret ?_
   refine seqQ.ret ?_
   cases H
   exact hQ.fin
  ·try simp only [↓wk, ↓wl, nq, evV, ↓reduceIte, sevalprocAttr]
   refine evTs_ifg H (by rfl) ?_ ?_ <;> clear H <;> intro H
   ·try simp only [↓wk, ↓wl, nq, evV, ↓reduceIte, sevalprocAttr]
    refine AW.ift (by rfl) ?_
    refine AW.rseq ?_
    try simp only [↓wk, ↓wl, nq, evV, ↓reduceIte, sevalprocAttr]
    refine AW.ret ?_
    refine seqQ.ret ?_
    cases H
    exact hQ.fin
   ·try simp only [↓wk, ↓wl, nq, evV, ↓reduceIte, sevalprocAttr]
    refine AW.ifc H (by rfl) ?_ ?_ <;> clear H <;> intro H
    ·refine AW.rseq ?_
     try simp only [↓wk, ↓wl, nq, evV, ↓reduceIte, sevalprocAttr]
     refine AW.ret ?_
     refine seqQ.ret ?_
     cases H
     exact hQ.fin
    ·refine AW.skip ?_
     refine seqQ.norm ?_
     refine AW.sseq ?_
     refine AW.rseq ?_
     try simp only [↓wk, ↓wl, nq, evV, ↓reduceIte, sevalprocAttr]
     refine evTs_pure hFn H (fun _ h => f105_ok h) (by rfl) (by rfl) (by rfl) (by rfl) (fun _ => rfl) ?_ <;> clear H <;> intro r_29 H
     try simp only [eL, ↓wk, ↓wl, nq, evV, ↓reduceIte, sevalprocAttr]
     refine evTs_ifg H (by rfl) ?_ ?_ <;> clear H <;> intro H
     ·try simp only [↓wk, ↓wl, nq, evV, ↓reduceIte, sevalprocAttr]
      refine AW.ift (by rfl) ?_
      refine AW.rseq ?_
      try simp only [↓wk, ↓wl, nq, evV, ↓reduceIte, sevalprocAttr]
      refine AW.ret ?_
      refine seqQ.ret ?_
      cases H
      exact hQ.fin
     ·try simp only [↓wk, ↓wl, nq, evV, ↓reduceIte, sevalprocAttr]
      refine evTs_pure hFn H (fun _ h => f105_ok h) (by rfl) (by rfl) (by rfl) (by rfl) (fun _ => rfl) ?_ <;> clear H <;> intro r_30 H
      try simp only [eL, ↓wk, ↓wl, nq, evV, ↓reduceIte, sevalprocAttr]
      refine AW.ifc H (by rfl) ?_ ?_ <;> clear H <;> intro H
      ·refine AW.rseq ?_
       try simp only [↓wk, ↓wl, nq, evV, ↓reduceIte, sevalprocAttr]
       refine AW.ret ?_
       refine seqQ.ret ?_
       cases H
       exact hQ.fin
      ·refine AW.skip ?_
       refine seqQ.norm ?_
       refine AW.sseq ?_
       refine AW.rseq ?_
       try simp only [↓wk, ↓wl, nq, evV, ↓reduceIte, sevalprocAttr]
       refine evTs_ifg H (by rfl) ?_ ?_ <;> clear H <;> intro H
       ·try simp only [↓wk, ↓wl, nq, evV, ↓reduceIte, sevalprocAttr]
        refine AW.ifc H (by rfl) ?_ ?_ <;> clear H <;> intro H
        ·refine AW.rseq ?_
         try simp only [↓wk, ↓wl, nq, evV, ↓reduceIte, sevalprocAttr]
         refine AW.ret ?_
         refine seqQ.ret ?_
         cases H
         exact hQ.fin
        ·refine AW.skip ?_
         refine seqQ.norm ?_
         refine AW.rseq ?_
         try simp only [↓wk, ↓wl, nq, evV, ↓reduceIte, sevalprocAttr]
         refine AW.ret ?_
         cases H
         exact hQ.fin
       ·try simp only [↓wk, ↓wl, nq, evV, ↓reduceIte, sevalprocAttr]
        refine AW.iff (by rfl) ?_
        refine AW.skip ?_
        refine seqQ.norm ?_
        refine AW.rseq ?_
        try simp only [↓wk, ↓wl, nq, evV, ↓reduceIte, sevalprocAttr]
        refine AW.ret ?_
        cases H
        exact hQ.fin
def c65_0 : C := .seq (.reg [iI 3 (.faddr 0 (.t 1)), iI 4 (.load 0 (.t 3)), iI 5 (.faddr 1 (.t 1)), iI 6 (.load 0 (.t 5)), iI 7 (.build [(1, (.int .i64 0)), (1, (.int .u64 0))] [(0, 0, (.t 4)), (1, 0, (.t 6))]), iN (.store 2 (.t 2) (.t 7))]) .ret
def ir65 : C := .seq (.reg [iI 1 (.box (.t 0)), iI 2 (.alloc [(1, (.int .i64 0)), (1, (.int .u64 0))])]) c65_0
theorem fd65 : fd? Try.prog 65 = some (8, [.cell 2 2], ir65) := by kernel_rfl
noncomputable def f65 (x_38 : ReceiverInput) : Option (ReceiverPlace) :=
  (some (ReceiverPlace.mk x_38.fUniverse x_38.fSource))
theorem f65_ok {x_38 : ReceiverInput} {r_ : ReceiverPlace} (H : f65 x_38 = some r_) : Pure Try.prog 65 [.agg [.int .i64 x_38.fUniverse, .int .u64 x_38.fSource, .int .i64 x_38.fPriority, .int .i64 x_38.fSeq, .int .i64 x_38.fSync, .int .i64 x_38.fLast, .str x_38.fSlots, .str x_38.fWait]] (· = .agg [.int .i64 r_.fUniverse, .int .u64 r_.fSource]) := by
 refine Pure.walk3 fd65 none (Nat.le_of_ble_eq_true rfl) (by rfl) fun Q hQ => ?_
 simp only [f65] at H
 refine AW.rseq ?_
 try simp only [↓wk, ↓wl, nq, evV, ↓reduceIte, sevalprocAttr]
 refine AW.rseq ?_
 try simp only [↓wk, ↓wl, nq, evV, ↓reduceIte, sevalprocAttr]
 refine AW.ret ?_
 cases H
 exact hQ.fin
def c144_0 : C := .seq (.reg [iI 3 (.mv (.t 0)), iI 4 (.mv (.t 0)), iI 5 (.bin .neq (.t 3) (.t 4)), iI 2 (.mv (.t 5))]) .ret
def ir144 : C := .seq (.reg [iI 2 (.mv (.c (.bool false)))]) c144_0
theorem fd144 : fd? Try.prog 144 = some (6, [.slot 2], ir144) := by kernel_rfl
noncomputable def f144 (x_45 : Int) : Option (Bool) :=
  (some (decide (x_45 ≠ x_45)))
theorem f144_ok {x_45 : Int} {r_ : Bool} (H : f144 x_45 = some r_) : Pure Try.prog 144 [.int .i64 x_45] (· = .bool r_) := by
 refine Pure.walk3 fd144 none (Nat.le_of_ble_eq_true rfl) (by rfl) fun Q hQ => ?_
 simp only [f144] at H
 refine AW.rseq ?_
 try simp only [↓wk, ↓wl, nq, evV, ↓reduceIte, sevalprocAttr]
 refine AW.rseq ?_
 try simp only [↓wk, ↓wl, nq, evV, ↓reduceIte, sevalprocAttr]
 refine AW.ret ?_
 cases H
 exact hQ.fin
def c107_0 : C := .cond (.t 12) (.seq (.reg [iI 4 (.mv (.c (.int .i64 0)))]) .ret) (.skip)
def c107_1 : C := .seq (.reg [iI 4 (.mv (.c (.int .i64 (-1))))]) .ret
def c107_2 : C := .cond (.t 11) (.seq (.seq (.reg [iI 12 (.mv (.t 6))]) c107_0) c107_1) (.skip)
def c107_3 : C := .cond (.t 13) (.seq (.reg [iI 4 (.mv (.c (.int .i64 1)))]) .ret) (.skip)
def c107_4 : C := .cond (.t 16) (.seq (.reg [iI 4 (.mv (.c (.int .i64 (-1))))]) .ret) (.skip)
def c107_5 : C := .cond (.t 19) (.seq (.reg [iI 4 (.mv (.c (.int .i64 1)))]) .ret) (.skip)
def c107_6 : C := .seq (.reg [iI 4 (.mv (.c (.int .i64 0)))]) .ret
def c107_7 : C := .seq (.seq (.reg [iI 17 (.mv (.t 0)), iI 18 (.mv (.t 1)), iI 19 (.bin .gtr (.t 17) (.t 18))]) c107_5) c107_6
def c107_8 : C := .seq (.seq (.reg [iI 14 (.mv (.t 0)), iI 15 (.mv (.t 1)), iI 16 (.bin .lss (.t 14) (.t 15))]) c107_4) c107_7
def c107_9 : C := .seq (.seq (.reg [iI 13 (.mv (.t 6))]) c107_3) c107_8
def c107_10 : C := .seq (.seq (.reg [iI 11 (.mv (.t 5))]) c107_2) c107_9
def c107_11 : C := .seq (.reg [iI 9 (.mv (.t 1)), iI 10 (.call (.c (.fn 144 [])) [(.t 9)]), iI 6 (.mv (.t 10))]) c107_10
def c107_12 : C := .seq (.reg [iI 7 (.mv (.t 0)), iI 8 (.call (.c (.fn 144 [])) [(.t 7)]), iI 5 (.mv (.t 8))]) c107_11
def ir107 : C := .seq (.reg [iI 4 (.mv (.c (.int .i64 0)))]) c107_12
theorem fd107 : fd? Try.prog 107 = some (20, [.slot 4], ir107) := by kernel_rfl
noncomputable def f107 (x_43 : Int) (y_44 : Int) : Option (Int) :=
  (f144 x_43).bind fun r_46 => (f144 y_44).bind fun r_47 => (if r_46 = true then (if r_47 = true then (some 0) else (some (-1))) else (if r_47 = true then (some 1) else (if (decide (x_43 < y_44)) = true then (some (-1)) else (if (decide (y_44 < x_43)) = true then (some 1) else (some 0)))))
theorem f107_ok {x_43 : Int} {y_44 : Int} {r_ : Int} (H : f107 x_43 y_44 = some r_) : Pure Try.prog 107 [.int .i64 x_43, .int .i64 y_44] (· = .int .i64 r_) := by
 refine Pure.walk3 fd107 none (Nat.le_of_ble_eq_true rfl) (by rfl) fun Q hQ => ?_
 simp only [f107] at H
 refine AW.rseq ?_
 try simp only [↓wk, ↓wl, nq, evV, ↓reduceIte, sevalprocAttr]
 refine AW.rseq ?_
 try simp only [↓wk, ↓wl, nq, evV, ↓reduceIte, sevalprocAttr]
 refine evTs_pure hFn H (fun _ h => f144_ok h) (by rfl) (by rfl) (by rfl) (by rfl) (fun _ => rfl) ?_ <;> clear H <;> intro r_46 H
 try simp only [eL, ↓wk, ↓wl, nq, evV, ↓reduceIte, sevalprocAttr]
 refine AW.rseq ?_
 try simp only [↓wk, ↓wl, nq, evV, ↓reduceIte, sevalprocAttr]
 refine evTs_pure hFn H (fun _ h => f144_ok h) (by rfl) (by rfl) (by rfl) (by rfl) (fun _ => rfl) ?_ <;> clear H <;> intro r_47 H
 try simp only [eL, ↓wk, ↓wl, nq, evV, ↓reduceIte, sevalprocAttr]
 refine AW.sseq ?_
 refine AW.rseq ?_
 try simp only [↓wk, ↓wl, nq, evV, ↓reduceIte, sevalprocAttr]
 refine AW.ifc H (by rfl) ?_ ?_ <;> clear H <;> intro H
 ·refine AW.sseq ?_
  refine AW.rseq ?_
  try simp only [↓wk, ↓wl, nq, evV, ↓reduceIte, sevalprocAttr]
  refine AW.ifc H (by rfl) ?_ ?_ <;> clear H <;> intro H
  ·refine AW.rseq ?_
   try simp only [↓wk, ↓wl, nq, evV, ↓reduceIte, sevalprocAttr]
   refine AW.ret ?_
   refine seqQ.ret ?_
   refine seqQ.ret ?_
   cases H
   exact hQ.fin
  ·refine AW.skip ?_
   refine seqQ.norm ?_
   refine AW.rseq ?_
   try simp only [↓wk, ↓wl, nq, evV, ↓reduceIte, sevalprocAttr]
   refine AW.ret ?_
   refine seqQ.ret ?_
   cases H
   exact hQ.fin
 ·refine AW.skip ?_
  refine seqQ.norm ?_
  refine AW.sseq ?_
  refine AW.rseq ?_
  try simp only [↓wk, ↓wl, nq, evV, ↓reduceIte, sevalprocAttr]
  refine AW.ifc H (by rfl) ?_ ?_ <;> clear H <;> intro H
  ·refine AW.rseq ?_
   try simp only [↓wk, ↓wl, nq, evV, ↓reduceIte, sevalprocAttr]
   refine AW.ret ?_
   refine seqQ.ret ?_
   cases H
   exact hQ.fin
  ·refine AW.skip ?_
   refine seqQ.norm ?_
   refine AW.sseq ?_
   refine AW.rseq ?_
   try simp only [↓wk, ↓wl, nq, evV, ↓reduceIte, sevalprocAttr]
   refine AW.ifc H (by rfl) ?_ ?_ <;> clear H <;> intro H
   ·refine AW.rseq ?_
    try simp only [↓wk, ↓wl, nq, evV, ↓reduceIte, sevalprocAttr]
    refine AW.ret ?_
    refine seqQ.ret ?_
    cases H
    exact hQ.fin
   ·refine AW.skip ?_
    refine seqQ.norm ?_
    refine AW.sseq ?_
    refine AW.rseq ?_
    try simp only [↓wk, ↓wl, nq, evV, ↓reduceIte, sevalprocAttr]
    refine AW.ifc H (by rfl) ?_ ?_ <;> clear H <;> intro H
    ·refine AW.rseq ?_
     try simp only [↓wk, ↓wl, nq, evV, ↓reduceIte, sevalprocAttr]
     refine AW.ret ?_
     refine seqQ.ret ?_
     cases H
     exact hQ.fin
    ·refine AW.skip ?_
     refine seqQ.norm ?_
     refine AW.rseq ?_
     try simp only [↓wk, ↓wl, nq, evV, ↓reduceIte, sevalprocAttr]
     refine AW.ret ?_
     cases H
     exact hQ.fin
def c145_0 : C := .seq (.reg [iI 3 (.mv (.t 0)), iI 4 (.mv (.t 0)), iI 5 (.bin .neq (.t 3) (.t 4)), iI 2 (.mv (.t 5))]) .ret
def ir145 : C := .seq (.reg [iI 2 (.mv (.c (.bool false)))]) c145_0
theorem fd145 : fd? Try.prog 145 = some (6, [.slot 2], ir145) := by kernel_rfl
noncomputable def f145 (x_51 : Int) : Option (Bool) :=
  (some (decide (x_51 ≠ x_51)))
theorem f145_ok {x_51 : Int} {r_ : Bool} (H : f145 x_51 = some r_) : Pure Try.prog 145 [.int .u64 x_51] (· = .bool r_) := by
 refine Pure.walk3 fd145 none (Nat.le_of_ble_eq_true rfl) (by rfl) fun Q hQ => ?_
 simp only [f145] at H
 refine AW.rseq ?_
 try simp only [↓wk, ↓wl, nq, evV, ↓reduceIte, sevalprocAttr]
 refine AW.rseq ?_
 try simp only [↓wk, ↓wl, nq, evV, ↓reduceIte, sevalprocAttr]
 refine AW.ret ?_
 cases H
 exact hQ.fin
def c108_0 : C := .cond (.t 12) (.seq (.reg [iI 4 (.mv (.c (.int .i64 0)))]) .ret) (.skip)
def c108_1 : C := .seq (.reg [iI 4 (.mv (.c (.int .i64 (-1))))]) .ret
def c108_2 : C := .cond (.t 11) (.seq (.seq (.reg [iI 12 (.mv (.t 6))]) c108_0) c108_1) (.skip)
def c108_3 : C := .cond (.t 13) (.seq (.reg [iI 4 (.mv (.c (.int .i64 1)))]) .ret) (.skip)
def c108_4 : C := .cond (.t 16) (.seq (.reg [iI 4 (.mv (.c (.int .i64 (-1))))]) .ret) (.skip)
def c108_5 : C := .cond (.t 19) (.seq (.reg [iI 4 (.mv (.c (.int .i64 1)))]) .ret) (.skip)
def c108_6 : C := .seq (.reg [iI 4 (.mv (.c (.int .i64 0)))]) .ret
def c108_7 : C := .seq (.seq (.reg [iI 17 (.mv (.t 0)), iI 18 (.mv (.t 1)), iI 19 (.bin .gtr (.t 17) (.t 18))]) c108_5) c108_6
def c108_8 : C := .seq (.seq (.reg [iI 14 (.mv (.t 0)), iI 15 (.mv (.t 1)), iI 16 (.bin .lss (.t 14) (.t 15))]) c108_4) c108_7
def c108_9 : C := .seq (.seq (.reg [iI 13 (.mv (.t 6))]) c108_3) c108_8
def c108_10 : C := .seq (.seq (.reg [iI 11 (.mv (.t 5))]) c108_2) c108_9
def c108_11 : C := .seq (.reg [iI 9 (.mv (.t 1)), iI 10 (.call (.c (.fn 145 [])) [(.t 9)]), iI 6 (.mv (.t 10))]) c108_10
def c108_12 : C := .seq (.reg [iI 7 (.mv (.t 0)), iI 8 (.call (.c (.fn 145 [])) [(.t 7)]), iI 5 (.mv (.t 8))]) c108_11
def ir108 : C := .seq (.reg [iI 4 (.mv (.c (.int .i64 0)))]) c108_12
theorem fd108 : fd? Try.prog 108 = some (20, [.slot 4], ir108) := by kernel_rfl
noncomputable def f108 (x_49 : Int) (y_50 : Int) : Option (Int) :=
  (f145 x_49).bind fun r_52 => (f145 y_50).bind fun r_53 => (if r_52 = true then (if r_53 = true then (some 0) else (some (-1))) else (if r_53 = true then (some 1) else (if (decide (x_49 < y_50)) = true then (some (-1)) else (if (decide (y_50 < x_49)) = true then (some 1) else (some 0)))))
theorem f108_ok {x_49 : Int} {y_50 : Int} {r_ : Int} (H : f108 x_49 y_50 = some r_) : Pure Try.prog 108 [.int .u64 x_49, .int .u64 y_50] (· = .int .i64 r_) := by
 refine Pure.walk3 fd108 none (Nat.le_of_ble_eq_true rfl) (by rfl) fun Q hQ => ?_
 simp only [f108] at H
 refine AW.rseq ?_
 try simp only [↓wk, ↓wl, nq, evV, ↓reduceIte, sevalprocAttr]
 refine AW.rseq ?_
 try simp only [↓wk, ↓wl, nq, evV, ↓reduceIte, sevalprocAttr]
 refine evTs_pure hFn H (fun _ h => f145_ok h) (by rfl) (by rfl) (by rfl) (by rfl) (fun _ => rfl) ?_ <;> clear H <;> intro r_52 H
 try simp only [eL, ↓wk, ↓wl, nq, evV, ↓reduceIte, sevalprocAttr]
 refine AW.rseq ?_
 try simp only [↓wk, ↓wl, nq, evV, ↓reduceIte, sevalprocAttr]
 refine evTs_pure hFn H (fun _ h => f145_ok h) (by rfl) (by rfl) (by rfl) (by rfl) (fun _ => rfl) ?_ <;> clear H <;> intro r_53 H
 try simp only [eL, ↓wk, ↓wl, nq, evV, ↓reduceIte, sevalprocAttr]
 refine AW.sseq ?_
 refine AW.rseq ?_
 try simp only [↓wk, ↓wl, nq, evV, ↓reduceIte, sevalprocAttr]
 refine AW.ifc H (by rfl) ?_ ?_ <;> clear H <;> intro H
 ·refine AW.sseq ?_
  refine AW.rseq ?_
  try simp only [↓wk, ↓wl, nq, evV, ↓reduceIte, sevalprocAttr]
  refine AW.ifc H (by rfl) ?_ ?_ <;> clear H <;> intro H
  ·refine AW.rseq ?_
   try simp only [↓wk, ↓wl, nq, evV, ↓reduceIte, sevalprocAttr]
   refine AW.ret ?_
   refine seqQ.ret ?_
   refine seqQ.ret ?_
   cases H
   exact hQ.fin
  ·refine AW.skip ?_
   refine seqQ.norm ?_
   refine AW.rseq ?_
   try simp only [↓wk, ↓wl, nq, evV, ↓reduceIte, sevalprocAttr]
   refine AW.ret ?_
   refine seqQ.ret ?_
   cases H
   exact hQ.fin
 ·refine AW.skip ?_
  refine seqQ.norm ?_
  refine AW.sseq ?_
  refine AW.rseq ?_
  try simp only [↓wk, ↓wl, nq, evV, ↓reduceIte, sevalprocAttr]
  refine AW.ifc H (by rfl) ?_ ?_ <;> clear H <;> intro H
  ·refine AW.rseq ?_
   try simp only [↓wk, ↓wl, nq, evV, ↓reduceIte, sevalprocAttr]
   refine AW.ret ?_
   refine seqQ.ret ?_
   cases H
   exact hQ.fin
  ·refine AW.skip ?_
   refine seqQ.norm ?_
   refine AW.sseq ?_
   refine AW.rseq ?_
   try simp only [↓wk, ↓wl, nq, evV, ↓reduceIte, sevalprocAttr]
   refine AW.ifc H (by rfl) ?_ ?_ <;> clear H <;> intro H
   ·refine AW.rseq ?_
    try simp only [↓wk, ↓wl, nq, evV, ↓reduceIte, sevalprocAttr]
    refine AW.ret ?_
    refine seqQ.ret ?_
    cases H
    exact hQ.fin
   ·refine AW.skip ?_
    refine seqQ.norm ?_
    refine AW.sseq ?_
    refine AW.rseq ?_
    try simp only [↓wk, ↓wl, nq, evV, ↓reduceIte, sevalprocAttr]
    refine AW.ifc H (by rfl) ?_ ?_ <;> clear H <;> intro H
    ·refine AW.rseq ?_
     try simp only [↓wk, ↓wl, nq, evV, ↓reduceIte, sevalprocAttr]
     refine AW.ret ?_
     refine seqQ.ret ?_
     cases H
     exact hQ.fin
    ·refine AW.skip ?_
     refine seqQ.norm ?_
     refine AW.rseq ?_
     try simp only [↓wk, ↓wl, nq, evV, ↓reduceIte, sevalprocAttr]
     refine AW.ret ?_
     cases H
     exact hQ.fin
noncomputable def f106_L1 (vals_55 : (List Int)) : Lp (Int) ((Unit) ⊕ (Int)) where
  body := fun v_59 => (if (decide (v_59 < ((vals_55.length : Nat) : Int))) = true then (at? vals_55 v_59).bind fun x_62 => (if (decide (x_62 ≠ 0)) = true then (some (.brk (Sum.inr x_62))) else (some (.next (IntKind.i64.wrap (v_59 + 1))))) else (some (.brk (Sum.inl ()))))
  cst := fun v_59 => ⟨put (put (put (put (fun _ => .junk) 8 (.int .i64 v_59)) 7 (.int .i64 ((vals_55.length : Nat) : Int))) 6 (.sl 0 false (vals_55.map (AV.int .i64)))) 3 (.int .i64 0), []⟩
theorem f106_L1c (vals_55 : (List Int)) (v_59 : Int) : (f106_L1 vals_55).cst v_59 = ⟨put (put (put (put (fun _ => .junk) 8 (.int .i64 v_59)) 7 (.int .i64 ((vals_55.length : Nat) : Int))) 6 (.sl 0 false (vals_55.map (AV.int .i64)))) 3 (.int .i64 0), []⟩ := rfl
def c106_0 : C := .cond (.t 14) (.seq (.reg [iI 15 (.mv (.t 5)), iI 2 (.mv (.t 15))]) .ret) (.skip)
def c106_1 : C := .seq (.reg [iI 12 (.mv (.t 5)), iI 13 (.mv (.t 3)), iI 14 (.bin .neq (.t 12) (.t 13))]) c106_0
def c106_2 : C := .reg [iI 16 (.bin .add (.t 8) (.c (.int .i64 1))), iI 8 (.mv (.t 16))]
def c106_3 : C := .seq (.block 1 (.seq (.reg [iI 10 (.iaddr 0 (.t 6) (.t 8)), iI 11 (.load 0 (.t 10)), iI 5 (.mv (.t 11))]) c106_1)) c106_2
def c106_4 : C := .seq (.cond (.t 9) (.skip) (.exit 0)) c106_3
def c106_5 : C := .block 0 (.loop (.seq (.reg [iI 9 (.bin .lss (.t 8) (.t 7))]) c106_4))
def c106_6 : C := .seq (.reg [iI 17 (.mv (.t 3)), iI 2 (.mv (.t 17))]) .ret
def c106_7 : C := .seq (.seq (.reg [iI 6 (.mv (.t 0)), iI 7 (.len 0 (.t 6)), iI 8 (.mv (.c (.int .i64 0)))]) c106_5) c106_6
def c106_8 : C := .seq (.reg [iI 3 (.mv (.c (.int .i64 0)))]) c106_7
def ir106 : C := .seq (.reg [iI 2 (.mv (.c (.int .i64 0)))]) c106_8
theorem fd106 : fd? Try.prog 106 = some (18, [.slot 2], ir106) := by kernel_rfl
noncomputable def f106 (vals_55 : (List Int)) : Option (Int) :=
  ((Lp.run (f106_L1 vals_55) 0).bind fun r_ => match r_ with | (Sum.inl _) => (some 0) | (Sum.inr v_61) => (some v_61))
theorem f106_ok {vals_55 : (List Int)} {r_ : Int} (H : f106 vals_55 = some r_) : Pure Try.prog 106 [.sl 0 false (vals_55.map (AV.int .i64))] (· = .int .i64 r_) := by
 refine Pure.walk3 fd106 none (Nat.le_of_ble_eq_true rfl) (by rfl) fun Q hQ => ?_
 simp only [f106] at H
 refine AW.rseq ?_
 try simp only [↓wk, ↓wl, nq, evV, ↓reduceIte, sevalprocAttr]
 refine AW.rseq ?_
 try simp only [↓wk, ↓wl, nq, evV, ↓reduceIte, sevalprocAttr]
 refine AW.sseq ?_
 refine AW.rseq ?_
 try simp only [↓wk, ↓wl, nq, evV, ↓reduceIte, sevalprocAttr]
 refine AW.bend ?_
 refine AW.iter H ((Le.tz [] [3, 6, 7, 8] (by simp only [f106_L1c, rrm, ↓wk, ↓wl, evV, ↓reduceIte, sevalprocAttr] <;> rfl))) ?_ <;> clear H
 rintro v_59 x_ st0_ H hst_
 rw [f106_L1c] at hst_
 simp only [f106_L1] at H
 subst hst_
 refine AW.rseq ?_
 try simp only [↓wk, ↓wl, nq, evV, ↓reduceIte, sevalprocAttr]
 refine AW.sseq ?_
 refine AW.ifc H (by rfl) ?_ ?_ <;> clear H <;> intro H
 ·refine AW.skip ?_
  refine seqQ.norm ?_
  refine AW.bseq ?_
  refine AW.rseq ?_
  try simp only [↓wk, ↓wl, nq, evV, ↓reduceIte, sevalprocAttr]
  refine evTs_at (enc := (AV.int .i64)) H (by rfl) (by rfl) ?_ <;> clear H <;> intro x_62 H
  try simp only [↓wk, ↓wl, nq, evV, ↓reduceIte, sevalprocAttr]
  refine AW.rseq ?_
  try simp only [↓wk, ↓wl, nq, evV, ↓reduceIte, sevalprocAttr]
  refine AW.ifc H (by rfl) ?_ ?_ <;> clear H <;> intro H
  ·refine AW.rseq ?_
   try simp only [↓wk, ↓wl, nq, evV, ↓reduceIte, sevalprocAttr]
   refine AW.ret ?_
   refine blkQ.ret ?_
   refine loopQ.ret H ?_ <;> clear H <;> intro H
   try dsimp only at H
   refine blk0.ret ?_
   refine seqQ.ret ?_
   cases H
   exact hQ.fin
  ·refine AW.skip ?_
   refine blkQ.norm ?_
   refine AW.rend ?_
   try simp only [↓wk, ↓wl, nq, evV, ↓reduceIte, sevalprocAttr]
   exact loopQ.next H ((Le.tz [] [3, 6, 7, 8] (by simp only [f106_L1c, rrm, ↓wk, ↓wl, evV, ↓reduceIte, sevalprocAttr] <;> rfl)))
 ·refine AW.exit ?_
  refine seqQ.exit ?_
  refine loopQ.exit H ?_ <;> clear H <;> intro H
  try dsimp only at H
  refine blk0.here ?_
  refine seqQ.norm ?_
  refine AW.rseq ?_
  try simp only [↓wk, ↓wl, nq, evV, ↓reduceIte, sevalprocAttr]
  refine AW.ret ?_
  cases H
  exact hQ.fin
def c64_0 : C := .seq (.regq [iI 5 (.faddr 0 (.t 2)), iI 6 (.load 0 (.t 5)), iI 7 (.faddr 0 (.t 3)), iI 8 (.load 0 (.t 7)), iI 9 (.call (.c (.fn 107 [])) [(.t 6), (.t 8)]), iI 10 (.faddr 1 (.t 2)), iI 11 (.load 0 (.t 10)), iI 12 (.faddr 1 (.t 3)), iI 13 (.load 0 (.t 12)), iI 14 (.call (.c (.fn 108 [])) [(.t 11), (.t 13)]), iI 15 (.mkslp 0 2 (.int .i64 0) [(0, (.t 9)), (1, (.t 14))]), iI 16 (.call (.c (.fn 106 [])) [(.t 15)]), iI 4 (.mv (.t 16))]) .ret
def ir64 : C := .seq (.reg [iI 2 (.box (.t 0)), iI 3 (.box (.t 1)), iI 4 (.mv (.c (.int .i64 0)))]) c64_0
theorem fd64 : fd? Try.prog 64 = some (17, [.slot 4], ir64) := by kernel_rfl
noncomputable def f64 (a_41 : ReceiverPlace) (b_42 : ReceiverPlace) : Option (Int) :=
  (f107 a_41.fUniverse b_42.fUniverse).bind fun r_48 => (f108 a_41.fSource b_42.fSource).bind fun r_54 => (f106 ([r_48, r_54])).bind fun r_63 => (some r_63)
theorem f64_ok {a_41 : ReceiverPlace} {b_42 : ReceiverPlace} {r_ : Int} (H : f64 a_41 b_42 = some r_) : Pure Try.prog 64 [.agg [.int .i64 a_41.fUniverse, .int .u64 a_41.fSource], .agg [.int .i64 b_42.fUniverse, .int .u64 b_42.fSource]] (· = .int .i64 r_) := by
 refine Pure.walk3 fd64 none (Nat.le_of_ble_eq_true rfl) (by rfl) fun Q hQ => ?_
 simp only [f64] at H
 refine AW.rseq ?_
 try simp only [↓wk, ↓wl, nq, evV, ↓reduceIte, sevalprocAttr]
 refine AW.rqseq ?_
 try simp only [↓wk, ↓wl, nq, evV, ↓reduceIte, sevalprocAttr]
 refine evTs_pure hFnq H (fun _ h => f107_ok h) (by rfl) (by rfl) (by rfl) (by rfl) (fun _ => rfl) ?_ <;> clear H <;> intro r_48 H
 try simp only [eL, ↓wk, ↓wl, nq, evV, ↓reduceIte, sevalprocAttr]
 refine evTs_pure hFnq H (fun _ h => f108_ok h) (by rfl) (by rfl) (by rfl) (by rfl) (fun _ => rfl) ?_ <;> clear H <;> intro r_54 H
 try simp only [eL, ↓wk, ↓wl, nq, evV, ↓reduceIte, sevalprocAttr]
 refine evTs_pure hFnq H (fun _ h => f106_ok h) (by rfl) (by rfl) (by rfl) (by rfl) (fun _ => rfl) ?_ <;> clear H <;> intro r_63 H
 try simp only [eL, ↓wk, ↓wl, nq, evV, ↓reduceIte, sevalprocAttr]
 refine AW.ret ?_
 cases H
 exact hQ.fin
noncomputable def f19_L1 (r_9 : ReceiverReceiver) : Lp (Int) ((Unit) ⊕ (Int)) where
  body := fun v_65 => (if (decide (v_65 < ((r_9.fInputs.length : Nat) : Int))) = true then (at? r_9.fInputs v_65).bind fun x_74 => (f63 x_74).bind fun r_76 => (if (decide (r_76 ≠ 0)) = true then (some (.brk (Sum.inr r_76))) else (if (decide (0 < v_65)) = true then (at? r_9.fInputs (IntKind.i64.wrap (v_65 - 1))).bind fun x_77 => (f65 x_77).bind fun r_78 => (f65 x_74).bind fun r_79 => (f64 r_78 r_79).bind fun r_80 => (if (decide (0 ≤ r_80)) = true then (some (.brk (Sum.inr 9))) else (some (.next (IntKind.i64.wrap (v_65 + 1))))) else (some (.next (IntKind.i64.wrap (v_65 + 1)))))) else (some (.brk (Sum.inl ()))))
  cst := fun v_65 => ⟨put (put (put (put (fun _ => .junk) 13 (.int .i64 v_65)) 12 (.int .i64 ((r_9.fInputs.length : Nat) : Int))) 11 (.sl 8 false (r_9.fInputs.map eReceiverInput))) 1 (.ptr 0 0), [.cel [.sl 8 false (r_9.fInputs.map eReceiverInput)]]⟩
theorem f19_L1c (r_9 : ReceiverReceiver) (v_65 : Int) : (f19_L1 r_9).cst v_65 = ⟨put (put (put (put (fun _ => .junk) 13 (.int .i64 v_65)) 12 (.int .i64 ((r_9.fInputs.length : Nat) : Int))) 11 (.sl 8 false (r_9.fInputs.map eReceiverInput))) 1 (.ptr 0 0), [.cel [.sl 8 false (r_9.fInputs.map eReceiverInput)]]⟩ := rfl
def c19_0 : C := .cond (.t 9) (.seq (.reg [iI 2 (.mv (.c (.int .i64 5)))]) .ret) (.skip)
def c19_1 : C := .cond (.t 21) (.seq (.reg [iI 22 (.mv (.t 5)), iI 2 (.mv (.t 22))]) .ret) (.skip)
def c19_2 : C := .seq (.reg [iI 20 (.mv (.t 5)), iI 21 (.bin .neq (.t 20) (.c (.int .i64 0)))]) c19_1
def c19_3 : C := .cond (.t 37) (.seq (.reg [iI 2 (.mv (.c (.int .i64 9)))]) .ret) (.skip)
def c19_4 : C := .seq (.regq [iI 23 (.mv (.t 3)), iI 24 (.bin .gtr (.t 23) (.c (.int .i64 0))), iI 25 (.mv (.t 24)), iG (some 26) 25 true (.faddr 0 (.t 1)), iG (some 27) 25 true (.load 0 (.t 26)), iG (some 28) 25 true (.mv (.t 3)), iG (some 29) 25 true (.bin .sub (.t 28) (.c (.int .i64 1))), iG (some 30) 25 true (.iaddr 8 (.t 27) (.t 29)), iG (some 31) 25 true (.load 8 (.t 30)), iG (some 32) 25 true (.call (.c (.fn 65 [])) [(.t 31)]), iG (some 33) 25 true (.load 8 (.t 4)), iG (some 34) 25 true (.call (.c (.fn 65 [])) [(.t 33)]), iG (some 35) 25 true (.call (.c (.fn 64 [])) [(.t 32), (.t 34)]), iG (some 36) 25 true (.bin .geq (.t 35) (.c (.int .i64 0))), iI 37 (.pick (.t 25) (.t 36) (.c (.bool false)))]) c19_3
def c19_5 : C := .seq (.seq (.reg [iI 18 (.load 8 (.t 4)), iI 19 (.call (.c (.fn 63 [])) [(.t 18)]), iI 5 (.mv (.t 19))]) c19_2) c19_4
def c19_6 : C := .reg [iI 38 (.bin .add (.t 13) (.c (.int .i64 1))), iI 13 (.mv (.t 38))]
def c19_7 : C := .seq (.block 1 (.seq (.reg [iI 15 (.mv (.t 13)), iI 16 (.iaddr 8 (.t 11) (.t 13)), iI 17 (.load 8 (.t 16)), iI 4 (.alloc [(1, (.int .i64 0)), (1, (.int .u64 0)), (1, (.int .i64 0)), (1, (.int .i64 0)), (1, (.int .i64 0)), (1, (.int .i64 0)), (1, (.str [])), (1, (.str []))]), iI 3 (.mv (.t 15)), iN (.store 8 (.t 4) (.t 17))]) c19_5)) c19_6
def c19_8 : C := .seq (.cond (.t 14) (.skip) (.exit 0)) c19_7
def c19_9 : C := .block 0 (.loop (.seq (.reg [iI 14 (.bin .lss (.t 13) (.t 12))]) c19_8))
def c19_10 : C := .seq (.reg [iI 2 (.mv (.c (.int .i64 0)))]) .ret
def c19_11 : C := .seq (.seq (.reg [iI 10 (.faddr 0 (.t 1)), iI 11 (.load 0 (.t 10)), iI 12 (.len 0 (.t 11)), iI 13 (.mv (.c (.int .i64 0)))]) c19_9) c19_10
def c19_12 : C := .seq (.seq (.reg [iI 6 (.faddr 0 (.t 1)), iI 7 (.load 0 (.t 6)), iI 8 (.len 0 (.t 7)), iI 9 (.bin .gtr (.t 8) (.c (.int .i64 64)))]) c19_0) c19_11
def ir19 : C := .seq (.reg [iI 1 (.box (.t 0)), iI 2 (.mv (.c (.int .i64 0)))]) c19_12
theorem fd19 : fd? Try.prog 19 = some (39, [.slot 2], ir19) := by kernel_rfl
noncomputable def f19 (r_9 : ReceiverReceiver) : Option (Int) :=
  (if (decide (64 < ((r_9.fInputs.length : Nat) : Int))) = true then (some 5) else ((Lp.run (f19_L1 r_9) 0).bind fun r_ => match r_ with | (Sum.inl _) => (some 0) | (Sum.inr v_73) => (some v_73)))
theorem f19_ok {r_9 : ReceiverReceiver} {r_ : Int} (H : f19 r_9 = some r_) : Pure Try.prog 19 [.agg [.sl 8 false (r_9.fInputs.map eReceiverInput)]] (· = .int .i64 r_) := by
 refine Pure.walk3 fd19 none (Nat.le_of_ble_eq_true rfl) (by rfl) fun Q hQ => ?_
 simp only [f19] at H
 refine AW.rseq ?_
 try simp only [↓wk, ↓wl, nq, evV, ↓reduceIte, sevalprocAttr]
 refine AW.sseq ?_
 refine AW.rseq ?_
 try simp only [↓wk, ↓wl, nq, evV, ↓reduceIte, sevalprocAttr]
 refine AW.ifc H (by rfl) ?_ ?_ <;> clear H <;> intro H
 ·refine AW.rseq ?_
  try simp only [↓wk, ↓wl, nq, evV, ↓reduceIte, sevalprocAttr]
  refine AW.ret ?_
  refine seqQ.ret ?_
  cases H
  exact hQ.fin
 ·refine AW.skip ?_
  refine seqQ.norm ?_
  refine AW.sseq ?_
  refine AW.rseq ?_
  try simp only [↓wk, ↓wl, nq, evV, ↓reduceIte, sevalprocAttr]
  refine AW.bend ?_
  refine AW.iter H ((Le.tz [0] [1, 11, 12, 13] (by simp only [f19_L1c, rrm, ↓wk, ↓wl, evV, ↓reduceIte, sevalprocAttr] <;> rfl))) ?_ <;> clear H
  rintro v_65 x_ st0_ H hst_
  rw [f19_L1c] at hst_
  simp only [f19_L1] at H
  subst hst_
  refine AW.rseq ?_
  try simp only [↓wk, ↓wl, nq, evV, ↓reduceIte, sevalprocAttr]
  refine AW.sseq ?_
  refine AW.ifc H (by rfl) ?_ ?_ <;> clear H <;> intro H
  ·refine AW.skip ?_
   refine seqQ.norm ?_
   refine AW.bseq ?_
   refine AW.rseq ?_
   try simp only [↓wk, ↓wl, nq, evV, ↓reduceIte, sevalprocAttr]
   refine evTs_at (enc := eReceiverInput) H (by rfl) (by rfl) ?_ <;> clear H <;> intro x_74 H
   try simp only [eReceiverInput, eL, ↓wk, ↓wl, nq, evV, ↓reduceIte, sevalprocAttr]
   refine AW.sseq ?_
   refine AW.rseq ?_
   try simp only [↓wk, ↓wl, nq, evV, ↓reduceIte, sevalprocAttr]
   refine evTs_pure hFn H (fun _ h => f63_ok h) (by rfl) (by rfl) (by rfl) (by rfl) (fun _ => rfl) ?_ <;> clear H <;> intro r_76 H
   try simp only [eL, ↓wk, ↓wl, nq, evV, ↓reduceIte, sevalprocAttr]
   refine AW.rseq ?_
   try simp only [↓wk, ↓wl, nq, evV, ↓reduceIte, sevalprocAttr]
   refine AW.ifc H (by rfl) ?_ ?_ <;> clear H <;> intro H
   ·refine AW.rseq ?_
    try simp only [↓wk, ↓wl, nq, evV, ↓reduceIte, sevalprocAttr]
    refine AW.ret ?_
    refine seqQ.ret ?_
    refine blkQ.ret ?_
    refine loopQ.ret H ?_ <;> clear H <;> intro H
    try dsimp only at H
    refine blk0.ret ?_
    refine seqQ.ret ?_
    cases H
    exact hQ.fin
   ·refine AW.skip ?_
    refine seqQ.norm ?_
    refine AW.rqseq ?_
    try simp only [↓wk, ↓wl, nq, evV, ↓reduceIte, sevalprocAttr]
    refine evTs_ifg H (by rfl) ?_ ?_ <;> clear H <;> intro H
    ·try simp only [↓wk, ↓wl, nq, evV, ↓reduceIte, sevalprocAttr]
     refine evTs_at (enc := eReceiverInput) H (by rfl) (by rfl) ?_ <;> clear H <;> intro x_77 H
     try simp only [eReceiverInput, eL, ↓wk, ↓wl, nq, evV, ↓reduceIte, sevalprocAttr]
     refine evTs_pure hFnq H (fun _ h => f65_ok h) (by rfl) (by rfl) (by rfl) (by rfl) (fun _ => rfl) ?_ <;> clear H <;> intro r_78 H
     try simp only [eL, eReceiverPlace, ↓wk, ↓wl, nq, evV, ↓reduceIte, sevalprocAttr]
     refine evTs_pure hFnq H (fun _ h => f65_ok h) (by rfl) (by rfl) (by rfl) (by rfl) (fun _ => rfl) ?_ <;> clear H <;> intro r_79 H
     try simp only [eL, eReceiverPlace, ↓wk, ↓wl, nq, evV, ↓reduceIte, sevalprocAttr]
     refine evTs_pure hFnq H (fun _ h => f64_ok h) (by rfl) (by rfl) (by rfl) (by rfl) (fun _ => rfl) ?_ <;> clear H <;> intro r_80 H
     try simp only [eL, ↓wk, ↓wl, nq, evV, ↓reduceIte, sevalprocAttr]
     refine AW.ifc H (by rfl) ?_ ?_ <;> clear H <;> intro H
     ·refine AW.rseq ?_
      try simp only [↓wk, ↓wl, nq, evV, ↓reduceIte, sevalprocAttr]
      refine AW.ret ?_
      refine blkQ.ret ?_
      refine loopQ.ret H ?_ <;> clear H <;> intro H
      try dsimp only at H
      refine blk0.ret ?_
      refine seqQ.ret ?_
      cases H
      exact hQ.fin
     ·refine AW.skip ?_
      refine blkQ.norm ?_
      refine AW.rend ?_
      try simp only [↓wk, ↓wl, nq, evV, ↓reduceIte, sevalprocAttr]
      exact loopQ.next H ((Le.tz [0] [1, 11, 12, 13] (by simp only [f19_L1c, rrm, ↓wk, ↓wl, evV, ↓reduceIte, sevalprocAttr] <;> rfl)))
    ·try simp only [↓wk, ↓wl, nq, evV, ↓reduceIte, sevalprocAttr]
     refine AW.iff (by rfl) ?_
     refine AW.skip ?_
     refine blkQ.norm ?_
     refine AW.rend ?_
     try simp only [↓wk, ↓wl, nq, evV, ↓reduceIte, sevalprocAttr]
     exact loopQ.next H ((Le.tz [0] [1, 11, 12, 13] (by simp only [f19_L1c, rrm, ↓wk, ↓wl, evV, ↓reduceIte, sevalprocAttr] <;> rfl)))
  ·refine AW.exit ?_
   refine seqQ.exit ?_
   refine loopQ.exit H ?_ <;> clear H <;> intro H
   try dsimp only at H
   refine blk0.here ?_
   refine seqQ.norm ?_
   refine AW.rseq ?_
   try simp only [↓wk, ↓wl, nq, evV, ↓reduceIte, sevalprocAttr]
   refine AW.ret ?_
   cases H
   exact hQ.fin
def c92_0 : C := .seq (.reg [iI 4 (.load 0 (.t 1)), iI 5 (.faddr 5 (.t 2)), iI 6 (.load 0 (.t 5)), iI 7 (.bin .lss (.t 4) (.t 6)), iI 3 (.mv (.t 7))]) .ret
def ir92 : C := .seq (.reg [iI 2 (.box (.t 0)), iI 3 (.mv (.c (.bool false)))]) c92_0
theorem fd92 : fd? Try.prog 92 = some (8, [.slot 3], ir92) := by kernel_rfl
noncomputable def f92p (x_96 : ReceiverInput) (c_97 : Int) : Option (Bool) :=
  (some (decide (c_97 < x_96.fLast)))
theorem f92p_ok {x_96 : ReceiverInput} {c_97 : Int} {r_ : Bool} (H : f92p x_96 c_97 = some r_) : Pure Try.prog 92 [.agg [.int .i64 x_96.fUniverse, .int .u64 x_96.fSource, .int .i64 x_96.fPriority, .int .i64 x_96.fSeq, .int .i64 x_96.fSync, .int .i64 x_96.fLast, .str x_96.fSlots, .str x_96.fWait], .pro [.int .i64 c_97]] (· = .bool r_) := by
 refine Pure.walk3 fd92 none (Nat.le_of_ble_eq_true rfl) (by rfl) fun Q hQ => ?_
 simp only [f92p] at H
 refine AW.rseq ?_
 try simp only [↓wk, ↓wl, nq, evV, ↓reduceIte, sevalprocAttr]
 refine AW.rseq ?_
 try simp only [↓wk, ↓wl, nq, evV, ↓reduceIte, sevalprocAttr]
 refine AW.ret ?_
 cases H
 exact hQ.fin
noncomputable def f77_92_L1 (s_93 : (List ReceiverInput)) (f_94 : Int) : Lp (Int) ((Unit) ⊕ (Int)) where
  body := fun v_102 => (if (decide (v_102 < ((s_93.length : Nat) : Int))) = true then (at? s_93 v_102).bind fun x_106 => (f92p x_106 f_94).bind fun r_107 => (if r_107 = true then (some (.brk (Sum.inr v_102))) else (some (.next (IntKind.i64.wrap (v_102 + 1))))) else (some (.brk (Sum.inl ()))))
  cst := fun v_102 => ⟨put (put (put (put (fun _ => .junk) 8 (.int .i64 v_102)) 7 (.int .i64 ((s_93.length : Nat) : Int))) 1 (.fn 92 [.pro [.int .i64 f_94]])) 0 (.sl 8 false (s_93.map eReceiverInput)), []⟩
theorem f77_92_L1c (s_93 : (List ReceiverInput)) (f_94 : Int) (v_102 : Int) : (f77_92_L1 s_93 f_94).cst v_102 = ⟨put (put (put (put (fun _ => .junk) 8 (.int .i64 v_102)) 7 (.int .i64 ((s_93.length : Nat) : Int))) 1 (.fn 92 [.pro [.int .i64 f_94]])) 0 (.sl 8 false (s_93.map eReceiverInput)), []⟩ := rfl
def c77_0 : C := .cond (.t 16) (.seq (.reg [iI 17 (.mv (.t 5)), iI 4 (.mv (.t 17))]) .ret) (.skip)
def c77_1 : C := .seq (.reg [iI 11 (.mv (.t 1)), iI 12 (.mv (.t 0)), iI 13 (.mv (.t 5)), iI 14 (.iaddr 8 (.t 12) (.t 13)), iI 15 (.load 8 (.t 14)), iI 16 (.call (.t 11) [(.t 15)])]) c77_0
def c77_2 : C := .reg [iI 18 (.bin .add (.t 8) (.c (.int .i64 1))), iI 8 (.mv (.t 18))]
def c77_3 : C := .seq (.block 1 (.seq (.reg [iI 10 (.mv (.t 8)), iI 5 (.mv (.t 10))]) c77_1)) c77_2
def c77_4 : C := .seq (.cond (.t 9) (.skip) (.exit 0)) c77_3
def c77_5 : C := .block 0 (.loop (.seq (.reg [iI 9 (.bin .lss (.t 8) (.t 7))]) c77_4))
def c77_6 : C := .seq (.reg [iI 4 (.mv (.c (.int .i64 (-1))))]) .ret
def c77_7 : C := .seq (.seq (.reg [iI 6 (.mv (.t 0)), iI 7 (.len 0 (.t 6)), iI 8 (.mv (.c (.int .i64 0)))]) c77_5) c77_6
def ir77 : C := .seq (.reg [iI 4 (.mv (.c (.int .i64 0)))]) c77_7
theorem fd77 : fd? Try.prog 77 = some (19, [.slot 4], ir77) := by kernel_rfl
noncomputable def f77_92 (s_93 : (List ReceiverInput)) (f_94 : Int) : Option (Int) :=
  ((Lp.run (f77_92_L1 s_93 f_94) 0).bind fun r_ => match r_ with | (Sum.inl _) => (some (-1)) | (Sum.inr v_105) => (some v_105))
theorem f77_92_ok {s_93 : (List ReceiverInput)} {f_94 : Int} {r_ : Int} (H : f77_92 s_93 f_94 = some r_) : Pure Try.prog 77 [.sl 8 false (s_93.map eReceiverInput), .fn 92 [.pro [.int .i64 f_94]]] (· = .int .i64 r_) := by
 refine Pure.walk3 fd77 none (Nat.le_of_ble_eq_true rfl) (by rfl) fun Q hQ => ?_
 simp only [f77_92] at H
 refine AW.rseq ?_
 try simp only [↓wk, ↓wl, nq, evV, ↓reduceIte, sevalprocAttr]
 refine AW.sseq ?_
 refine AW.rseq ?_
 try simp only [↓wk, ↓wl, nq, evV, ↓reduceIte, sevalprocAttr]
 refine AW.bend ?_
 refine AW.iter H ((Le.tz [] [0, 1, 7, 8] (by simp only [f77_92_L1c, rrm, ↓wk, ↓wl, evV, ↓reduceIte, sevalprocAttr] <;> rfl))) ?_ <;> clear H
 rintro v_102 x_ st0_ H hst_
 rw [f77_92_L1c] at hst_
 simp only [f77_92_L1] at H
 subst hst_
 refine AW.rseq ?_
 try simp only [↓wk, ↓wl, nq, evV, ↓reduceIte, sevalprocAttr]
 refine AW.sseq ?_
 refine AW.ifc H (by rfl) ?_ ?_ <;> clear H <;> intro H
 ·refine AW.skip ?_
  refine seqQ.norm ?_
  refine AW.bseq ?_
  refine AW.rseq ?_
  try simp only [↓wk, ↓wl, nq, evV, ↓reduceIte, sevalprocAttr]
  refine AW.rseq ?_
  try simp only [↓wk, ↓wl, nq, evV, ↓reduceIte, sevalprocAttr]
  refine evTs_at (enc := eReceiverInput) H (by rfl) (by rfl) ?_ <;> clear H <;> intro x_106 H
  try simp only [eReceiverInput, eL, ↓wk, ↓wl, nq, evV, ↓reduceIte, sevalprocAttr]
  refine evTs_pure hFn H (fun _ h => f92p_ok h) (by rfl) (by rfl) (by rfl) (by rfl) (fun _ => rfl) ?_ <;> clear H <;> intro r_107 H
  try simp only [eL, ↓wk, ↓wl, nq, evV, ↓reduceIte, sevalprocAttr]
  refine AW.ifc H (by rfl) ?_ ?_ <;> clear H <;> intro H
  ·refine AW.rseq ?_
   try simp only [↓wk, ↓wl, nq, evV, ↓reduceIte, sevalprocAttr]
   refine AW.ret ?_
   refine blkQ.ret ?_
   refine loopQ.ret H ?_ <;> clear H <;> intro H
   try dsimp only at H
   refine blk0.ret ?_
   refine seqQ.ret ?_
   cases H
   exact hQ.fin
  ·refine AW.skip ?_
   refine blkQ.norm ?_
   refine AW.rend ?_
   try simp only [↓wk, ↓wl, nq, evV, ↓reduceIte, sevalprocAttr]
   exact loopQ.next H ((Le.tz [] [0, 1, 7, 8] (by simp only [f77_92_L1c, rrm, ↓wk, ↓wl, evV, ↓reduceIte, sevalprocAttr] <;> rfl)))
 ·refine AW.exit ?_
  refine seqQ.exit ?_
  refine loopQ.exit H ?_ <;> clear H <;> intro H
  try dsimp only at H
  refine blk0.here ?_
  refine seqQ.norm ?_
  refine AW.rseq ?_
  try simp only [↓wk, ↓wl, nq, evV, ↓reduceIte, sevalprocAttr]
  refine AW.ret ?_
  cases H
  exact hQ.fin
def c68_0 : C := .seq (.reg [iI 5 (.mv (.t 0)), iI 6 (.mv (.t 1)), iI 7 (.call (.c (.fn 77 [])) [(.t 5), (.t 6)]), iI 8 (.bin .geq (.t 7) (.c (.int .i64 0))), iI 4 (.mv (.t 8))]) .ret
def ir68 : C := .seq (.reg [iI 4 (.mv (.c (.bool false)))]) c68_0
theorem fd68 : fd? Try.prog 68 = some (9, [.slot 4], ir68) := by kernel_rfl
noncomputable def f68_92 (s_91 : (List ReceiverInput)) (f_92 : Int) : Option (Bool) :=
  (f77_92 s_91 f_92).bind fun r_108 => (some (decide (0 ≤ r_108)))
theorem f68_92_ok {s_91 : (List ReceiverInput)} {f_92 : Int} {r_ : Bool} (H : f68_92 s_91 f_92 = some r_) : Pure Try.prog 68 [.sl 8 false (s_91.map eReceiverInput), .fn 92 [.pro [.int .i64 f_92]]] (· = .bool r_) := by
 refine Pure.walk3 fd68 none (Nat.le_of_ble_eq_true rfl) (by rfl) fun Q hQ => ?_
 simp only [f68_92] at H
 refine AW.rseq ?_
 try simp only [↓wk, ↓wl, nq, evV, ↓reduceIte, sevalprocAttr]
 refine AW.rseq ?_
 try simp only [↓wk, ↓wl, nq, evV, ↓reduceIte, sevalprocAttr]
 refine evTs_pure hFn H (fun _ h => f77_92_ok h) (by rfl) (by rfl) (by rfl) (by rfl) (fun _ => rfl) ?_ <;> clear H <;> intro r_108 H
 try simp only [eL, ↓wk, ↓wl, nq, evV, ↓reduceIte, sevalprocAttr]
 refine AW.ret ?_
 cases H
 exact hQ.fin
def c58_0 : C := .cond (.t 9) (.seq (.reg [iI 10 (.mv (.t 5)), iI 4 (.mv (.t 10))]) .ret) (.skip)
def c58_1 : C := .seq (.reg [iI 8 (.mv (.t 5)), iI 9 (.bin .neq (.t 8) (.c (.int .i64 0)))]) c58_0
def c58_2 : C := .cond (.t 16) (.seq (.reg [iI 4 (.mv (.c (.int .i64 2)))]) .ret) (.skip)
def c58_3 : C := .cond (.t 20) (.seq (.reg [iI 4 (.mv (.c (.int .i64 9)))]) .ret) (.skip)
def c58_4 : C := .seq (.reg [iI 4 (.mv (.c (.int .i64 0)))]) .ret
def c58_5 : C := .seq (.seq (.reg [iI 17 (.faddr 0 (.t 2)), iI 18 (.load 0 (.t 17)), iI 19 (.mkfn 92 [(.t 3)]), iI 20 (.call (.c (.fn 68 [])) [(.t 18), (.t 19)])]) c58_3) c58_4
def c58_6 : C := .seq (.seq (.reg [iI 11 (.load 0 (.t 3)), iI 12 (.bin .lss (.t 11) (.c (.int .i64 0))), iI 13 (.mv (.t 12)), iG (some 14) 13 false (.load 0 (.t 3)), iG (some 15) 13 false (.bin .gtr (.t 14) (.c (.int .i64 10000000))), iI 16 (.pick (.t 13) (.c (.bool true)) (.t 15))]) c58_2) c58_5
def c58_7 : C := .seq (.seq (.reg [iI 6 (.load 1 (.t 2)), iI 7 (.call (.c (.fn 19 [])) [(.t 6)]), iI 5 (.mv (.t 7))]) c58_1) c58_6
def ir58 : C := .seq (.reg [iI 2 (.box (.t 0)), iI 3 (.box (.t 1)), iI 4 (.mv (.c (.int .i64 0)))]) c58_7
theorem fd58 : fd? Try.prog 58 = some (21, [.slot 4], ir58) := by kernel_rfl
noncomputable def f58 (r_87 : ReceiverReceiver) (t_88 : Int) : Option (Int) :=
  (f19 r_87).bind fun r_90 => (if (decide (r_90 ≠ 0)) = true then (some r_90) else (if (decide (t_88 < 0)) = true then (some 2) else (if (decide (10000000 < t_88)) = true then (some 2) else (f68_92 r_87.fInputs t_88).bind fun r_109 => (if r_109 = true then (some 9) else (some 0)))))
theorem f58_ok {r_87 : ReceiverReceiver} {t_88 : Int} {r_ : Int} (H : f58 r_87 t_88 = some r_) : Pure Try.prog 58 [.agg [.sl 8 false (r_87.fInputs.map eReceiverInput)], .int .i64 t_88] (· = .int .i64 r_) := by
 refine Pure.walk3 fd58 none (Nat.le_of_ble_eq_true rfl) (by rfl) fun Q hQ => ?_
 simp only [f58] at H
 refine AW.rseq ?_
 try simp only [↓wk, ↓wl, nq, evV, ↓reduceIte, sevalprocAttr]
 refine AW.sseq ?_
 refine AW.rseq ?_
 try simp only [↓wk, ↓wl, nq, evV, ↓reduceIte, sevalprocAttr]
 refine evTs_pure hFn H (fun _ h => f19_ok h) (by rfl) (by rfl) (by rfl) (by rfl) (fun _ => rfl) ?_ <;> clear H <;> intro r_90 H
 try simp only [eL, ↓wk, ↓wl, nq, evV, ↓reduceIte, sevalprocAttr]
 refine AW.rseq ?_
 try simp only [↓wk, ↓wl, nq, evV, ↓reduceIte, sevalprocAttr]
 refine AW.ifc H (by rfl) ?_ ?_ <;> clear H <;> intro H
 ·refine AW.rseq ?_
  try simp only [↓wk, ↓wl, nq, evV, ↓reduceIte, sevalprocAttr]
  refine AW.ret ?_
  refine seqQ.ret ?_
  cases H
  exact hQ.fin
 ·refine AW.skip ?_
  refine seqQ.norm ?_
  refine AW.sseq ?_
  refine AW.rseq ?_
  try simp only [↓wk, ↓wl, nq, evV, ↓reduceIte, sevalprocAttr]
  refine evTs_ifg H (by rfl) ?_ ?_ <;> clear H <;> intro H
  ·try simp only [↓wk, ↓wl, nq, evV, ↓reduceIte, sevalprocAttr]
   refine AW.ift (by rfl) ?_
   refine AW.rseq ?_
   try simp only [↓wk, ↓wl, nq, evV, ↓reduceIte, sevalprocAttr]
   refine AW.ret ?_
   refine seqQ.ret ?_
   cases H
   exact hQ.fin
  ·try simp only [↓wk, ↓wl, nq, evV, ↓reduceIte, sevalprocAttr]
   refine AW.ifc H (by rfl) ?_ ?_ <;> clear H <;> intro H
   ·refine AW.rseq ?_
    try simp only [↓wk, ↓wl, nq, evV, ↓reduceIte, sevalprocAttr]
    refine AW.ret ?_
    refine seqQ.ret ?_
    cases H
    exact hQ.fin
   ·refine AW.skip ?_
    refine seqQ.norm ?_
    refine AW.sseq ?_
    refine AW.rseq ?_
    try simp only [↓wk, ↓wl, nq, evV, ↓reduceIte, sevalprocAttr]
    refine evTs_flat hFn H (fun _ h => f68_92_ok h) (by rfl) (by rfl) (by simp only [deep_eq, imm_simps, imm_rowE, imm_ptrE, imm_enc, omap_simps, take_map_len, take_map_set, take_map_set2, List.length_set, le_refl_true, Nat.zero_add, and_true, true_and, List.drop_zero, Option.map_some, ↓wk, ↓wl, nq, evV, ↓reduceIte, sevalprocAttr]; rfl) (by rfl) (fun _ => rfl) (fun _ => rfl) ?_ <;> clear H <;> intro r_109 H
    try simp only [eL, ↓wk, ↓wl, nq, evV, ↓reduceIte, sevalprocAttr]
    refine AW.ifc H (by rfl) ?_ ?_ <;> clear H <;> intro H
    ·refine AW.rseq ?_
     try simp only [↓wk, ↓wl, nq, evV, ↓reduceIte, sevalprocAttr]
     refine AW.ret ?_
     refine seqQ.ret ?_
     cases H
     exact hQ.fin
    ·refine AW.skip ?_
     refine seqQ.norm ?_
     refine AW.rseq ?_
     try simp only [↓wk, ↓wl, nq, evV, ↓reduceIte, sevalprocAttr]
     refine AW.ret ?_
     cases H
     exact hQ.fin
def c39_0 : C := .cond (.t 4) (.seq (.reg [iI 2 (.mv (.c (.sl 8 true [])))]) .ret) (.skip)
def c39_1 : C := .seq (.reg [iI 5 (.mkslp 8 0 (.agg [(.int .i64 0), (.int .u64 0), (.int .i64 0), (.int .i64 0), (.int .i64 0), (.int .i64 0), (.str []), (.str [])]) []), iI 6 (.mv (.t 0)), iI 7 (.append 8 80 (.t 5) (.t 6)), iI 2 (.mv (.t 7))]) .ret
def c39_2 : C := .seq (.seq (.reg [iI 3 (.mv (.t 0)), iI 4 (.isnil false (.t 3))]) c39_0) c39_1
def ir39 : C := .seq (.reg [iI 2 (.mv (.c (.sl 8 true [])))]) c39_2
theorem fd39 : fd? Try.prog 39 = some (8, [.slot 2], ir39) := by kernel_rfl
noncomputable def f39 (s_135 : (List ReceiverInput)) : Option ((List ReceiverInput)) :=
  (nil? (s_135 : List ReceiverInput) false fun b_136 => (if b_136 = true then (some []) else (app? 80 [] s_135).bind fun out_137 => (some out_137)))
theorem f39_ok {s_135 : (List ReceiverInput)} {r_ : (List ReceiverInput)} (H : f39 s_135 = some r_) : Pure Try.prog 39 [.sl 8 false (s_135.map eReceiverInput)] (· = .fr 8 (r_.map eReceiverInput)) := by
 refine Pure.walk3 fd39 (some 0) (Nat.le_of_ble_eq_true rfl) (by rfl) fun Q hQ => ?_
 simp only [f39] at H
 refine AW.rseq ?_
 try simp only [↓wk, ↓wl, nq, evV, ↓reduceIte, sevalprocAttr]
 refine AW.sseq ?_
 refine AW.rseq ?_
 try simp only [↓wk, ↓wl, nq, evV, ↓reduceIte, sevalprocAttr]
 refine evTs_isnil (enc := eReceiverInput) H (by rfl) ?_ <;> clear H <;> intro b_136 H
 try simp only [↓wk, ↓wl, nq, evV, ↓reduceIte, sevalprocAttr]
 refine AW.ifc H (by rfl) ?_ ?_ <;> clear H <;> intro H
 ·refine AW.rseq ?_
  try simp only [↓wk, ↓wl, nq, evV, ↓reduceIte, sevalprocAttr]
  refine AW.ret ?_
  refine seqQ.ret ?_
  cases H
  exact hQ _ _ _ _ (.inr rfl) (by simp only [resVs, omap, resV, ↓wk, ↓wl, nq, evV, ↓reduceIte, sevalprocAttr]; rfl) hand_10 (by first | exact Or.inl rfl | exact Or.inr rfl)
 ·refine AW.skip ?_
  refine seqQ.norm ?_
  refine AW.rseq ?_
  try simp only [↓wk, ↓wl, nq, evV, ↓reduceIte, sevalprocAttr]
  refine evTs_app0 (enc := eReceiverInput) H (by rfl) (by rfl) ?_ <;> clear H <;> intro out_137 H
  try simp only [↓wk, ↓wl, nq, evV, ↓reduceIte, sevalprocAttr]
  refine AW.ret ?_
  cases H
  exact hQ _ _ _ _ (.inr rfl) (by simp only [resVs, omap, resV, ↓wk, ↓wl, nq, evV, ↓reduceIte, sevalprocAttr]; rfl) (hand_1 (by rfl) (by simp) (enc_all _)) (by first | exact Or.inl rfl | exact Or.inr rfl)
theorem f39_im {s_135 : (List ReceiverInput)} {r_ : (List ReceiverInput)} (H : f39 s_135 = some r_) : Pure Try.prog 39 [.sl 8 false (s_135.map eReceiverInput)] (· = .sl 8 false (r_.map eReceiverInput)) := (f39_ok H).unfr (by first | exact enc_fits _ | simp only [frFits, List.all_cons, List.all_nil, enc_fits, Bool.and_self])
def c95_0 : C := .cond (.t 38) (.reg [iI 39 (.mv (.t 7)), iI 40 (.mv (.t 7)), iI 41 (.mv (.t 7)), iI 42 (.nilchk (.t 41)), iI 43 (.faddr 7 (.t 42)), iI 44 (.load 0 (.t 43)), iI 45 (.nilchk (.t 39)), iI 46 (.faddr 6 (.t 45)), iN (.store 0 (.t 46) (.t 44)), iI 47 (.nilchk (.t 40)), iI 48 (.faddr 7 (.t 47)), iN (.store 0 (.t 48) (.c (.str []))), iI 5 (.mv (.c (.bool true)))]) (.skip)
def c95_1 : C := .seq (.reg [iI 16 (.mv (.t 7)), iI 17 (.nilchk (.t 16)), iI 18 (.faddr 1 (.t 17)), iI 19 (.load 0 (.t 18)), iI 20 (.faddr 0 (.t 3)), iI 21 (.load 0 (.t 20)), iI 22 (.bin .eql (.t 19) (.t 21)), iI 23 (.mv (.t 22)), iG (some 24) 23 true (.mv (.t 7)), iG (some 25) 23 true (.nilchk (.t 24)), iG (some 26) 23 true (.faddr 4 (.t 25)), iG (some 27) 23 true (.load 0 (.t 26)), iG (some 28) 23 true (.faddr 4 (.t 3)), iG (some 29) 23 true (.load 0 (.t 28)), iG (some 30) 23 true (.bin .eql (.t 27) (.t 29)), iI 31 (.pick (.t 23) (.t 30) (.c (.bool false))), iI 32 (.mv (.t 31)), iG (some 33) 32 true (.mv (.t 7)), iG (some 34) 32 true (.nilchk (.t 33)), iG (some 35) 32 true (.faddr 7 (.t 34)), iG (some 36) 32 true (.load 0 (.t 35)), iG (some 37) 32 true (.bin .neq (.t 36) (.c (.str []))), iI 38 (.pick (.t 32) (.t 37) (.c (.bool false)))]) c95_0
def c95_2 : C := .seq (.reg [iI 13 (.mv (.t 0)), iI 14 (.mv (.t 6)), iI 15 (.iaddr 8 (.t 13) (.t 14)), iI 7 (.mv (.t 15))]) c95_1
def c95_3 : C := .reg [iI 49 (.bin .add (.t 10) (.c (.int .i64 1))), iI 10 (.mv (.t 49))]
def c95_4 : C := .seq (.block 1 (.seq (.reg [iI 12 (.mv (.t 10)), iI 6 (.mv (.t 12))]) c95_2)) c95_3
def c95_5 : C := .seq (.cond (.t 11) (.skip) (.exit 0)) c95_4
def c95_6 : C := .block 0 (.loop (.seq (.reg [iI 11 (.bin .lss (.t 10) (.t 9))]) c95_5))
def c95_7 : C := .seq (.reg [iI 50 (.mv (.t 5)), iI 4 (.mv (.t 50))]) .ret
def c95_8 : C := .seq (.seq (.reg [iI 8 (.mv (.t 0)), iI 9 (.len 0 (.t 8)), iI 10 (.mv (.c (.int .i64 0)))]) c95_6) c95_7
def c95_9 : C := .seq (.reg [iI 5 (.mv (.c (.bool false)))]) c95_8
def ir95 : C := .seq (.reg [iI 3 (.box (.t 1)), iI 4 (.mv (.c (.bool false)))]) c95_9
theorem fd95 : fd? Try.prog 95 = some (51, [.slot 4], ir95) := by kernel_rfl
noncomputable def f60_L2 (r_138 : (List ReceiverInput)) (p_134 : NetworkPacket) : Lp (Bool × Int × (List ReceiverInput)) (Bool × (List ReceiverInput)) where
  body := fun (accepted_186, v_187, v_188) => (if (decide (v_187 < ((r_138.length : Nat) : Int))) = true then (at? v_188 v_187).bind fun x_194 => (if (decide (x_194.fSource = p_134.fSource)) = true then (if (decide (x_194.fSync = p_134.fSync)) = true then (if (!(x_194.fWait == ([]))) = true then (some (.next (true, (IntKind.i64.wrap (v_187 + 1)), ((v_188.set v_187.toNat (ReceiverInput.mk x_194.fUniverse x_194.fSource x_194.fPriority x_194.fSeq x_194.fSync x_194.fLast x_194.fWait x_194.fWait)).set v_187.toNat (ReceiverInput.mk x_194.fUniverse x_194.fSource x_194.fPriority x_194.fSeq x_194.fSync x_194.fLast x_194.fWait ([])))))) else (some (.next (accepted_186, (IntKind.i64.wrap (v_187 + 1)), v_188)))) else (some (.next (accepted_186, (IntKind.i64.wrap (v_187 + 1)), v_188)))) else (some (.next (accepted_186, (IntKind.i64.wrap (v_187 + 1)), v_188)))) else (some (.brk (accepted_186, v_188))))
  cst := fun (accepted_186, v_187, v_188) => ⟨put (put (put (put (put (fun _ => .junk) 10 (.int .i64 v_187)) 9 (.int .i64 ((r_138.length : Nat) : Int))) 5 (.bool accepted_186)) 3 (.ptr 2 0)) 0 (.row 8 1 0 v_188.length), [.cel [.int .u64 p_134.fSource, .int .i64 p_134.fUniverse, .int .i64 p_134.fPriority, .int .i64 p_134.fSeq, .int .i64 p_134.fSync, .bool p_134.fEnd, .str p_134.fSlots], .els 8 (v_188.map eReceiverInput), .cel [.int .u64 p_134.fSource, .int .i64 p_134.fUniverse, .int .i64 p_134.fPriority, .int .i64 p_134.fSeq, .int .i64 p_134.fSync, .bool p_134.fEnd, .str p_134.fSlots]]⟩
theorem f60_L2c (r_138 : (List ReceiverInput)) (p_134 : NetworkPacket) (accepted_186 : Bool) (v_187 : Int) (v_188 : (List ReceiverInput)) : (f60_L2 r_138 p_134).cst (accepted_186, v_187, v_188) = ⟨put (put (put (put (put (fun _ => .junk) 10 (.int .i64 v_187)) 9 (.int .i64 ((r_138.length : Nat) : Int))) 5 (.bool accepted_186)) 3 (.ptr 2 0)) 0 (.row 8 1 0 v_188.length), [.cel [.int .u64 p_134.fSource, .int .i64 p_134.fUniverse, .int .i64 p_134.fPriority, .int .i64 p_134.fSeq, .int .i64 p_134.fSync, .bool p_134.fEnd, .str p_134.fSlots], .els 8 (v_188.map eReceiverInput), .cel [.int .u64 p_134.fSource, .int .i64 p_134.fUniverse, .int .i64 p_134.fPriority, .int .i64 p_134.fSeq, .int .i64 p_134.fSync, .bool p_134.fEnd, .str p_134.fSlots]]⟩ := rfl
noncomputable def f60_C1 (r_138 : (List ReceiverInput)) (p_134 : NetworkPacket) : Il (Bool × (List ReceiverInput)) where
  run := (Lp.run (f60_L2 r_138 p_134) (false, 0, r_138)).bind fun (accepted_192, v_193) => (some (accepted_192, v_193))
  res := fun (v_175, v_176) => .bool v_175
  hp := fun (v_175, v_176) => [.cel [.int .u64 p_134.fSource, .int .i64 p_134.fUniverse, .int .i64 p_134.fPriority, .int .i64 p_134.fSeq, .int .i64 p_134.fSync, .bool p_134.fEnd, .str p_134.fSlots], .els 8 (v_176.map eReceiverInput)]
def c140_0 : C := .seq (.regq [iI 7 (.load 0 (.t 2)), iI 8 (.load 0 (.t 3)), iI 9 (.load 8 (.t 4)), iI 10 (.call (.t 8) [(.t 9)]), iI 11 (.load 2 (.t 5)), iI 12 (.call (.t 7) [(.t 10), (.t 11)]), iI 6 (.mv (.t 12))]) .ret
def ir140 : C := .seq (.reg [iI 4 (.box (.t 0)), iI 5 (.box (.t 1)), iI 6 (.mv (.c (.int .i64 0)))]) c140_0
theorem fd140 : fd? Try.prog 140 = some (13, [.slot 6], ir140) := by kernel_rfl
noncomputable def f140p (x_202 : ReceiverInput) (k_203 : ReceiverPlace) : Option (Int) :=
  (f65 x_202).bind fun r_204 => (f64 r_204 k_203).bind fun r_205 => (some r_205)
theorem f140p_ok {x_202 : ReceiverInput} {k_203 : ReceiverPlace} {r_ : Int} (H : f140p x_202 k_203 = some r_) : Pure Try.prog 140 [.agg [.int .i64 x_202.fUniverse, .int .u64 x_202.fSource, .int .i64 x_202.fPriority, .int .i64 x_202.fSeq, .int .i64 x_202.fSync, .int .i64 x_202.fLast, .str x_202.fSlots, .str x_202.fWait], .agg [.int .i64 k_203.fUniverse, .int .u64 k_203.fSource], .pro [.fn 64 []], .pro [.fn 65 []]] (· = .int .i64 r_) := by
 refine Pure.walk3 fd140 none (Nat.le_of_ble_eq_true rfl) (by rfl) fun Q hQ => ?_
 simp only [f140p] at H
 refine AW.rseq ?_
 try simp only [↓wk, ↓wl, nq, evV, ↓reduceIte, sevalprocAttr]
 refine AW.rqseq ?_
 try simp only [↓wk, ↓wl, nq, evV, ↓reduceIte, sevalprocAttr]
 refine evTs_pure hFnq H (fun _ h => f65_ok h) (by rfl) (by rfl) (by rfl) (by rfl) (fun _ => rfl) ?_ <;> clear H <;> intro r_204 H
 try simp only [eL, eReceiverPlace, ↓wk, ↓wl, nq, evV, ↓reduceIte, sevalprocAttr]
 refine evTs_pure hFnq H (fun _ h => f64_ok h) (by rfl) (by rfl) (by rfl) (by rfl) (fun _ => rfl) ?_ <;> clear H <;> intro r_205 H
 try simp only [eL, ↓wk, ↓wl, nq, evV, ↓reduceIte, sevalprocAttr]
 refine AW.ret ?_
 cases H
 exact hQ.fin
noncomputable def f139_140_L1 (x_199 : (List ReceiverInput)) (target_200 : ReceiverPlace) : Lp (Int × Int) (Int) where
  body := fun (i_222, j_223) => (if (decide (i_222 < j_223)) = true then (at? x_199 (IntKind.i64.wrap (Int.fdiv (IntKind.u64.wrap (IntKind.i64.wrap (i_222 + j_223))) (2 ^ (min (Int.toNat 1) (IntKind.bits .u64)))))).bind fun x_231 => (f140p x_231 target_200).bind fun r_232 => (if (decide (r_232 < 0)) = true then (some (.next ((IntKind.i64.wrap ((IntKind.i64.wrap (Int.fdiv (IntKind.u64.wrap (IntKind.i64.wrap (i_222 + j_223))) (2 ^ (min (Int.toNat 1) (IntKind.bits .u64))))) + 1)), j_223))) else (some (.next (i_222, (IntKind.i64.wrap (Int.fdiv (IntKind.u64.wrap (IntKind.i64.wrap (i_222 + j_223))) (2 ^ (min (Int.toNat 1) (IntKind.bits .u64))))))))) else (some (.brk i_222)))
  cst := fun (i_222, j_223) => ⟨put (put (put (put (put (put (fun _ => .junk) 10 (.int .i64 j_223)) 9 (.int .i64 i_222)) 8 (.int .i64 ((x_199.length : Nat) : Int))) 4 (.ptr 0 0)) 2 (.fn 140 [.pro [.fn 64 []], .pro [.fn 65 []]])) 0 (.sl 8 false (x_199.map eReceiverInput)), [.cel [.int .i64 target_200.fUniverse, .int .u64 target_200.fSource]]⟩
theorem f139_140_L1c (x_199 : (List ReceiverInput)) (target_200 : ReceiverPlace) (i_222 : Int) (j_223 : Int) : (f139_140_L1 x_199 target_200).cst (i_222, j_223) = ⟨put (put (put (put (put (put (fun _ => .junk) 10 (.int .i64 j_223)) 9 (.int .i64 i_222)) 8 (.int .i64 ((x_199.length : Nat) : Int))) 4 (.ptr 0 0)) 2 (.fn 140 [.pro [.fn 64 []], .pro [.fn 65 []]])) 0 (.sl 8 false (x_199.map eReceiverInput)), [.cel [.int .i64 target_200.fUniverse, .int .u64 target_200.fSource]]⟩ := rfl
def c139_0 : C := .cond (.t 17) (.skip) (.exit 0)
def c139_1 : C := .cond (.t 31) (.reg [iI 32 (.mv (.t 11)), iI 33 (.bin .add (.t 32) (.c (.int .i64 1))), iI 9 (.mv (.t 33))]) (.reg [iI 34 (.mv (.t 11)), iI 10 (.mv (.t 34))])
def c139_2 : C := .seq (.reg [iI 24 (.mv (.t 2)), iI 25 (.mv (.t 0)), iI 26 (.mv (.t 11)), iI 27 (.iaddr 8 (.t 25) (.t 26)), iI 28 (.load 8 (.t 27)), iI 29 (.load 2 (.t 4)), iI 30 (.call (.t 24) [(.t 28), (.t 29)]), iI 31 (.bin .lss (.t 30) (.c (.int .i64 0)))]) c139_1
def c139_3 : C := .block 1 (.seq (.reg [iI 18 (.mv (.t 9)), iI 19 (.mv (.t 10)), iI 20 (.bin .add (.t 18) (.t 19)), iI 21 (.cint .u64 (.t 20)), iI 22 (.bin .shr (.t 21) (.c (.int .u64 1))), iI 23 (.cint .i64 (.t 22)), iI 11 (.mv (.t 23))]) c139_2)
def c139_4 : C := .seq (.reg [iI 35 (.mv (.t 9)), iI 36 (.mv (.t 9)), iI 37 (.mv (.t 8)), iI 38 (.bin .lss (.t 36) (.t 37)), iI 39 (.mv (.t 38)), iG (some 40) 39 true (.mv (.t 2)), iG (some 41) 39 true (.mv (.t 0)), iG (some 42) 39 true (.mv (.t 9)), iG (some 43) 39 true (.iaddr 8 (.t 41) (.t 42)), iG (some 44) 39 true (.load 8 (.t 43)), iG (some 45) 39 true (.load 2 (.t 4)), iG (some 46) 39 true (.call (.t 40) [(.t 44), (.t 45)]), iG (some 47) 39 true (.bin .eql (.t 46) (.c (.int .i64 0))), iI 48 (.pick (.t 39) (.t 47) (.c (.bool false))), iI 6 (.mv (.t 35)), iI 7 (.mv (.t 48))]) .ret
def c139_5 : C := .seq (.block 0 (.loop (.seq (.seq (.reg [iI 15 (.mv (.t 9)), iI 16 (.mv (.t 10)), iI 17 (.bin .lss (.t 15) (.t 16))]) c139_0) c139_3))) c139_4
def c139_6 : C := .seq (.reg [iI 14 (.mv (.t 8)), iI 9 (.mv (.c (.int .i64 0))), iI 10 (.mv (.t 14))]) c139_5
def c139_7 : C := .seq (.reg [iI 12 (.mv (.t 0)), iI 13 (.len 0 (.t 12)), iI 8 (.mv (.t 13))]) c139_6
def ir139 : C := .seq (.reg [iI 4 (.box (.t 1)), iI 6 (.mv (.c (.int .i64 0))), iI 7 (.mv (.c (.bool false)))]) c139_7
theorem fd139 : fd? Try.prog 139 = some (49, [.slot 6, .slot 7], ir139) := by kernel_rfl
noncomputable def f139_140 (x_199 : (List ReceiverInput)) (target_200 : ReceiverPlace) : Option (Int × Bool) :=
  (Lp.run (f139_140_L1 x_199 target_200) (0, ((x_199.length : Nat) : Int))).bind fun i_226 => (if (decide (i_226 < ((x_199.length : Nat) : Int))) = true then (at? x_199 i_226).bind fun x_227 => (f140p x_227 target_200).bind fun r_228 => (some (i_226, (decide (r_228 = 0)))) else (some (i_226, false)))
theorem f139_140_ok {x_199 : (List ReceiverInput)} {target_200 : ReceiverPlace} {r_ : Int × Bool} (H : f139_140 x_199 target_200 = some r_) : Pure Try.prog 139 [.sl 8 false (x_199.map eReceiverInput), .agg [.int .i64 target_200.fUniverse, .int .u64 target_200.fSource], .fn 140 [.pro [.fn 64 []], .pro [.fn 65 []]]] (· = .tup [.int .i64 r_.1, .bool r_.2]) := by
 refine Pure.walk3 fd139 none (Nat.le_of_ble_eq_true rfl) (by rfl) fun Q hQ => ?_
 simp only [f139_140] at H
 refine AW.rseq ?_
 try simp only [↓wk, ↓wl, nq, evV, ↓reduceIte, sevalprocAttr]
 refine AW.rseq ?_
 try simp only [↓wk, ↓wl, nq, evV, ↓reduceIte, sevalprocAttr]
 refine AW.rseq ?_
 try simp only [↓wk, ↓wl, nq, evV, ↓reduceIte, sevalprocAttr]
 refine AW.bseq ?_
 refine AW.iter H ((Le.tz [0] [0, 2, 4, 8, 9, 10] (by simp only [f139_140_L1c, rrm, ↓wk, ↓wl, evV, ↓reduceIte, sevalprocAttr] <;> rfl))) ?_ <;> clear H
 rintro ⟨i_222, j_223⟩ x_ st0_ H hst_
 rw [f139_140_L1c] at hst_
 simp only [f139_140_L1] at H
 subst hst_
 refine AW.sseq ?_
 refine AW.rseq ?_
 try simp only [↓wk, ↓wl, nq, evV, ↓reduceIte, sevalprocAttr]
 refine AW.ifc H (by rfl) ?_ ?_ <;> clear H <;> intro H
 ·refine AW.skip ?_
  refine seqQ.norm ?_
  refine AW.bend ?_
  refine AW.rseq ?_
  try simp only [↓wk, ↓wl, nq, evV, ↓reduceIte, sevalprocAttr]
  refine rest_shr (by decide) ?_
  try simp only [↓wk, ↓wl, nq, evV, ↓reduceIte, sevalprocAttr]
  refine AW.rseq ?_
  try simp only [↓wk, ↓wl, nq, evV, ↓reduceIte, sevalprocAttr]
  refine evTs_at (enc := eReceiverInput) H (by rfl) (by rfl) ?_ <;> clear H <;> intro x_231 H
  try simp only [eReceiverInput, eL, ↓wk, ↓wl, nq, evV, ↓reduceIte, sevalprocAttr]
  refine evTs_pure hFn H (fun _ h => f140p_ok h) (by rfl) (by rfl) (by rfl) (by rfl) (fun _ => rfl) ?_ <;> clear H <;> intro r_232 H
  try simp only [eL, ↓wk, ↓wl, nq, evV, ↓reduceIte, sevalprocAttr]
  refine AW.ifc H (by rfl) ?_ ?_ <;> clear H <;> intro H
  ·refine AW.rend ?_
   try simp only [↓wk, ↓wl, nq, evV, ↓reduceIte, sevalprocAttr]
   refine blk0.norm ?_
   exact loopQ.next H ((Le.tz [0] [0, 2, 4, 8, 9, 10] (by simp only [f139_140_L1c, rrm, ↓wk, ↓wl, evV, ↓reduceIte, sevalprocAttr] <;> rfl)))
  ·refine AW.rend ?_
   try simp only [↓wk, ↓wl, nq, evV, ↓reduceIte, sevalprocAttr]
   refine blk0.norm ?_
   exact loopQ.next H ((Le.tz [0] [0, 2, 4, 8, 9, 10] (by simp only [f139_140_L1c, rrm, ↓wk, ↓wl, evV, ↓reduceIte, sevalprocAttr] <;> rfl)))
 ·refine AW.exit ?_
  refine seqQ.exit ?_
  refine loopQ.exit H ?_ <;> clear H <;> intro H
  try dsimp only at H
  refine blkQ.here ?_
  refine AW.rseq ?_
  try simp only [↓wk, ↓wl, nq, evV, ↓reduceIte, sevalprocAttr]
  refine evTs_ifg H (by rfl) ?_ ?_ <;> clear H <;> intro H
  ·try simp only [↓wk, ↓wl, nq, evV, ↓reduceIte, sevalprocAttr]
   refine evTs_at (enc := eReceiverInput) H (by rfl) (by rfl) ?_ <;> clear H <;> intro x_233 H
   try simp only [eReceiverInput, eL, ↓wk, ↓wl, nq, evV, ↓reduceIte, sevalprocAttr]
   refine evTs_pure hFn H (fun _ h => f140p_ok h) (by rfl) (by rfl) (by rfl) (by rfl) (fun _ => rfl) ?_ <;> clear H <;> intro r_234 H
   try simp only [eL, ↓wk, ↓wl, nq, evV, ↓reduceIte, sevalprocAttr]
   refine AW.ret ?_
   cases H
   exact hQ.fin
  ·try simp only [↓wk, ↓wl, nq, evV, ↓reduceIte, sevalprocAttr]
   refine AW.ret ?_
   cases H
   exact hQ.fin
def c96_0 : C := .seq (.reg [iI 10 (.mv (.t 0)), iI 11 (.load 2 (.t 5)), iI 12 (.mkfn 140 [(.t 7), (.t 6)]), iI 13 (.call (.c (.fn 139 [])) [(.t 10), (.t 11), (.t 12)]), iI 14 (.ext (.t 13) 0), iI 15 (.ext (.t 13) 1), iI 8 (.mv (.t 14)), iI 9 (.mv (.t 15))]) .ret
def ir96 : C := .seq (.reg [iI 5 (.box (.t 1)), iI 6 (.box (.t 2)), iI 7 (.box (.t 3)), iI 8 (.mv (.c (.int .i64 0))), iI 9 (.mv (.c (.bool false)))]) c96_0
theorem fd96 : fd? Try.prog 96 = some (16, [.slot 8, .slot 9], ir96) := by kernel_rfl
noncomputable def f96_65_64 (l_197 : (List ReceiverInput)) (key_198 : ReceiverPlace) : Option (Int × Bool) :=
  (f139_140 l_197 key_198).bind fun r_235 => (some (r_235.1, r_235.2))
theorem f96_65_64_ok {l_197 : (List ReceiverInput)} {key_198 : ReceiverPlace} {r_ : Int × Bool} (H : f96_65_64 l_197 key_198 = some r_) : Pure Try.prog 96 [.sl 8 false (l_197.map eReceiverInput), .agg [.int .i64 key_198.fUniverse, .int .u64 key_198.fSource], .fn 65 [], .fn 64 []] (· = .tup [.int .i64 r_.1, .bool r_.2]) := by
 refine Pure.walk3 fd96 none (Nat.le_of_ble_eq_true rfl) (by rfl) fun Q hQ => ?_
 simp only [f96_65_64] at H
 refine AW.rseq ?_
 try simp only [↓wk, ↓wl, nq, evV, ↓reduceIte, sevalprocAttr]
 refine AW.rseq ?_
 try simp only [↓wk, ↓wl, nq, evV, ↓reduceIte, sevalprocAttr]
 refine evTs_flat hFn H (fun _ h => f139_140_ok h) (by rfl) (by rfl) (by simp only [deep_eq, imm_simps, imm_rowE, imm_ptrE, imm_enc, omap_simps, take_map_len, take_map_set, take_map_set2, List.length_set, le_refl_true, Nat.zero_add, and_true, true_and, List.drop_zero, Option.map_some, ↓wk, ↓wl, nq, evV, ↓reduceIte, sevalprocAttr]; rfl) (by rfl) (fun _ => rfl) (fun _ => rfl) ?_ <;> clear H <;> intro r_235 H
 try simp only [eL, ↓wk, ↓wl, nq, evV, ↓reduceIte, sevalprocAttr]
 refine AW.ret ?_
 cases H
 exact hQ.fin
def c97_0 : C := .cond (.t 13) (.seq (.reg [iI 4 (.mv (.c (.bool false)))]) .ret) (.skip)
def c97_1 : C := .seq (.reg [iI 19 (.mv (.t 5)), iI 20 (.bin .gtr (.t 19) (.c (.int .i64 0))), iI 21 (.mv (.t 20)), iG (some 22) 21 true (.mv (.t 5)), iG (some 23) 21 true (.bin .lss (.t 22) (.c (.int .i64 237))), iI 24 (.pick (.t 21) (.t 23) (.c (.bool false))), iI 4 (.mv (.t 24))]) .ret
def c97_2 : C := .seq (.reg [iI 14 (.mv (.t 1)), iI 15 (.mv (.t 0)), iI 16 (.bin .sub (.t 14) (.t 15)), iI 17 (.bin .add (.t 16) (.c (.int .i64 256))), iI 18 (.bin .rem (.t 17) (.c (.int .i64 256))), iI 5 (.mv (.t 18))]) c97_1
def c97_3 : C := .seq (.seq (.reg [iI 6 (.mv (.t 0)), iI 7 (.call (.c (.fn 94 [])) [(.t 6)]), iI 8 (.un .not (.t 7)), iI 9 (.mv (.t 8)), iG (some 10) 9 false (.mv (.t 1)), iG (some 11) 9 false (.call (.c (.fn 94 [])) [(.t 10)]), iG (some 12) 9 false (.un .not (.t 11)), iI 13 (.pick (.t 9) (.c (.bool true)) (.t 12))]) c97_0) c97_2
def ir97 : C := .seq (.reg [iI 4 (.mv (.c (.bool false)))]) c97_3
theorem fd97 : fd? Try.prog 97 = some (25, [.slot 4], ir97) := by kernel_rfl
noncomputable def f97 (old_238 : Int) (seq_239 : Int) : Option (Bool) :=
  (f94 old_238).bind fun r_240 => (if (!r_240) = true then (some false) else (f94 seq_239).bind fun r_241 => (if (!r_241) = true then (some false) else (if (decide (0 < ((IntKind.i64.wrap ((IntKind.i64.wrap (seq_239 - old_238)) + 256)).tmod 256))) = true then (some (decide (((IntKind.i64.wrap ((IntKind.i64.wrap (seq_239 - old_238)) + 256)).tmod 256) < 237))) else (some false))))
theorem f97_ok {old_238 : Int} {seq_239 : Int} {r_ : Bool} (H : f97 old_238 seq_239 = some r_) : Pure Try.prog 97 [.int .i64 old_238, .int .i64 seq_239] (· = .bool r_) := by
 refine Pure.walk3 fd97 none (Nat.le_of_ble_eq_true rfl) (by rfl) fun Q hQ => ?_
 simp only [f97] at H
 refine AW.rseq ?_
 try simp only [↓wk, ↓wl, nq, evV, ↓reduceIte, sevalprocAttr]
 refine AW.sseq ?_
 refine AW.rseq ?_
 try simp only [↓wk, ↓wl, nq, evV, ↓reduceIte, sevalprocAttr]
 refine evTs_pure hFn H (fun _ h => f94_ok h) (by rfl) (by rfl) (by rfl) (by rfl) (fun _ => rfl) ?_ <;> clear H <;> intro r_240 H
 try simp only [eL, ↓wk, ↓wl, nq, evV, ↓reduceIte, sevalprocAttr]
 refine evTs_ifg H (by rfl) ?_ ?_ <;> clear H <;> intro H
 ·try simp only [↓wk, ↓wl, nq, evV, ↓reduceIte, sevalprocAttr]
  refine AW.ift (by rfl) ?_
  refine AW.rseq ?_
  try simp only [↓wk, ↓wl, nq, evV, ↓reduceIte, sevalprocAttr]
  refine AW.ret ?_
  refine seqQ.ret ?_
  cases H
  exact hQ.fin
 ·try simp only [↓wk, ↓wl, nq, evV, ↓reduceIte, sevalprocAttr]
  refine evTs_pure hFn H (fun _ h => f94_ok h) (by rfl) (by rfl) (by rfl) (by rfl) (fun _ => rfl) ?_ <;> clear H <;> intro r_241 H
  try simp only [eL, ↓wk, ↓wl, nq, evV, ↓reduceIte, sevalprocAttr]
  refine AW.ifc H (by rfl) ?_ ?_ <;> clear H <;> intro H
  ·refine AW.rseq ?_
   try simp only [↓wk, ↓wl, nq, evV, ↓reduceIte, sevalprocAttr]
   refine AW.ret ?_
   refine seqQ.ret ?_
   cases H
   exact hQ.fin
  ·refine AW.skip ?_
   refine seqQ.norm ?_
   refine AW.rseq ?_
   try simp only [↓wk, ↓wl, nq, evV, ↓reduceIte, sevalprocAttr]
   refine AW.rseq ?_
   try simp only [↓wk, ↓wl, nq, evV, ↓reduceIte, sevalprocAttr]
   refine evTs_ifg H (by rfl) ?_ ?_ <;> clear H <;> intro H
   ·try simp only [↓wk, ↓wl, nq, evV, ↓reduceIte, sevalprocAttr]
    refine AW.ret ?_
    cases H
    exact hQ.fin
   ·try simp only [↓wk, ↓wl, nq, evV, ↓reduceIte, sevalprocAttr]
    refine AW.ret ?_
    cases H
    exact hQ.fin
theorem del98 : fd? Try.prog 98 = some (33, [.slot 6], delC 8 80 (.agg [(.int .i64 0), (.int .u64 0), (.int .i64 0), (.int .i64 0), (.int .i64 0), (.int .i64 0), (.str []), (.str [])])) := by kernel_rfl
theorem ins99 : fd? Try.prog 99 = some (95, [.slot 6], insC 8 80 (.agg [(.int .i64 0), (.int .u64 0), (.int .i64 0), (.int .i64 0), (.int .i64 0), (.int .i64 0), (.str []), (.str [])]) 142) := by kernel_rfl
noncomputable def f87 (s : List UInt8) (n : Int) : Option (List UInt8) := rep? s n
theorem f87_ok {s : List UInt8} {n : Int} {r_ : List UInt8} (H : f87 s n = some r_) : Pure Try.prog 87 [.str s, .int .i64 n] (· = .str r_) :=
  repeat_pure ⟨Try.f87, _, Try.func87, by kernel_rfl, rfl⟩ Try.strings_Repeat H
def c100_0 : C := .cond (.t 36) (.reg [iI 37 (.mv (.t 0)), iI 38 (.mv (.t 0)), iI 39 (.mv (.t 6)), iI 40 (.nilchk (.t 37)), iI 41 (.faddr 6 (.t 40)), iN (.store 0 (.t 41) (.t 39)), iI 42 (.nilchk (.t 38)), iI 43 (.faddr 7 (.t 42)), iN (.store 0 (.t 43) (.c (.str [])))]) (.reg [iI 44 (.mv (.t 0)), iI 45 (.mv (.t 6)), iI 46 (.nilchk (.t 44)), iI 47 (.faddr 7 (.t 46)), iN (.store 0 (.t 47) (.t 45))])
def c100_1 : C := .seq (.reg [iI 34 (.faddr 4 (.t 5)), iI 35 (.load 0 (.t 34)), iI 36 (.bin .eql (.t 35) (.c (.int .i64 0)))]) c100_0
def c100_2 : C := .seq (.regq [iI 26 (.faddr 6 (.t 5)), iI 27 (.load 0 (.t 26)), iI 28 (.faddr 6 (.t 5)), iI 29 (.load 0 (.t 28)), iI 30 (.len 1 (.t 29)), iI 31 (.bin .sub (.c (.int .i64 512)) (.t 30)), iI 32 (.call (.c (.fn 87 [])) [(.c (.str [0])), (.t 31)]), iI 33 (.bin .add (.t 27) (.t 32)), iI 6 (.mv (.t 33))]) c100_1
def c100_3 : C := .seq (.regt (.fork [iI 7 (.mv (.t 0)), iI 8 (.mv (.t 0)), iI 9 (.mv (.t 0)), iI 10 (.mv (.t 0)), iI 11 (.faddr 2 (.t 5)), iI 12 (.load 0 (.t 11)), iI 13 (.faddr 3 (.t 5)), iI 15 (.faddr 4 (.t 5)), iI 17 (.mv (.t 1)), iI 18 (.nilchk (.t 7)), iI 19 (.faddr 2 (.t 18))] (.fork [iI 14 (.load 0 (.t 13))] (.run [iI 16 (.load 0 (.t 15)), iN (.store 0 (.t 19) (.t 12)), iI 20 (.nilchk (.t 8)), iI 21 (.faddr 3 (.t 20)), iN (.store 0 (.t 21) (.t 14)), iI 22 (.nilchk (.t 9)), iI 23 (.faddr 4 (.t 22)), iN (.store 0 (.t 23) (.t 16)), iI 24 (.nilchk (.t 10)), iI 25 (.faddr 5 (.t 24)), iN (.store 0 (.t 25) (.t 17))]) (.fork [iN (.store 0 (.t 19) (.t 12)), iI 20 (.nilchk (.t 8)), iI 21 (.faddr 3 (.t 20))] (.run [iI 16 (.load 0 (.t 15)), iN (.store 0 (.t 21) (.t 14)), iI 22 (.nilchk (.t 9)), iI 23 (.faddr 4 (.t 22)), iN (.store 0 (.t 23) (.t 16)), iI 24 (.nilchk (.t 10)), iI 25 (.faddr 5 (.t 24)), iN (.store 0 (.t 25) (.t 17))]) (.run [iN (.store 0 (.t 21) (.t 14)), iI 16 (.load 0 (.t 15)), iI 22 (.nilchk (.t 9)), iI 23 (.faddr 4 (.t 22)), iN (.store 0 (.t 23) (.t 16)), iI 24 (.nilchk (.t 10)), iI 25 (.faddr 5 (.t 24)), iN (.store 0 (.t 25) (.t 17))]))) (.fork [] (.fork [iI 16 (.load 0 (.t 15))] (.run [iI 14 (.load 0 (.t 13)), iN (.store 0 (.t 19) (.t 12)), iI 20 (.nilchk (.t 8)), iI 21 (.faddr 3 (.t 20)), iN (.store 0 (.t 21) (.t 14)), iI 22 (.nilchk (.t 9)), iI 23 (.faddr 4 (.t 22)), iN (.store 0 (.t 23) (.t 16)), iI 24 (.nilchk (.t 10)), iI 25 (.faddr 5 (.t 24)), iN (.store 0 (.t 25) (.t 17))]) (.run [iN (.store 0 (.t 19) (.t 12)), iI 14 (.load 0 (.t 13)), iI 20 (.nilchk (.t 8)), iI 21 (.faddr 3 (.t 20)), iN (.store 0 (.t 21) (.t 14)), iI 22 (.nilchk (.t 9)), iI 23 (.faddr 4 (.t 22)), iN (.store 0 (.t 23) (.t 16)), iI 24 (.nilchk (.t 10)), iI 25 (.faddr 5 (.t 24)), iN (.store 0 (.t 25) (.t 17))])) (.fork [iN (.store 0 (.t 19) (.t 12)), iI 14 (.load 0 (.t 13)), iI 20 (.nilchk (.t 8)), iI 21 (.faddr 3 (.t 20))] (.run [iI 16 (.load 0 (.t 15)), iN (.store 0 (.t 21) (.t 14)), iI 22 (.nilchk (.t 9)), iI 23 (.faddr 4 (.t 22)), iN (.store 0 (.t 23) (.t 16)), iI 24 (.nilchk (.t 10)), iI 25 (.faddr 5 (.t 24)), iN (.store 0 (.t 25) (.t 17))]) (.run [iN (.store 0 (.t 21) (.t 14)), iI 16 (.load 0 (.t 15)), iI 22 (.nilchk (.t 9)), iI 23 (.faddr 4 (.t 22)), iN (.store 0 (.t 23) (.t 16)), iI 24 (.nilchk (.t 10)), iI 25 (.faddr 5 (.t 24)), iN (.store 0 (.t 25) (.t 17))]))))) c100_2
def ir100 : C := .seq (.reg [iI 5 (.box (.t 2))]) c100_3
theorem fd100 : fd? Try.prog 100 = some (48, [], ir100) := by kernel_rfl
noncomputable def f60_J5 (p_134 : NetworkPacket) (v_247 : (List ReceiverInput)) (r_236 : Int × Bool) (x_248 : ReceiverInput) (t_133 : Int) : Jn (Unit) ((List ReceiverInput)) where
  run := fun _ => (f87 ([0]) (IntKind.i64.wrap (512 - ((p_134.fSlots.length : Nat) : Int)))).bind fun r_263 => (cat? p_134.fSlots r_263).bind fun v_264 => (if (decide (p_134.fSync = 0)) = true then (some ((((((v_247.set r_236.1.toNat (ReceiverInput.mk x_248.fUniverse x_248.fSource p_134.fPriority x_248.fSeq x_248.fSync x_248.fLast x_248.fSlots x_248.fWait)).set r_236.1.toNat (ReceiverInput.mk x_248.fUniverse x_248.fSource p_134.fPriority p_134.fSeq x_248.fSync x_248.fLast x_248.fSlots x_248.fWait)).set r_236.1.toNat (ReceiverInput.mk x_248.fUniverse x_248.fSource p_134.fPriority p_134.fSeq p_134.fSync x_248.fLast x_248.fSlots x_248.fWait)).set r_236.1.toNat (ReceiverInput.mk x_248.fUniverse x_248.fSource p_134.fPriority p_134.fSeq p_134.fSync t_133 x_248.fSlots x_248.fWait)).set r_236.1.toNat (ReceiverInput.mk x_248.fUniverse x_248.fSource p_134.fPriority p_134.fSeq p_134.fSync t_133 v_264 x_248.fWait)).set r_236.1.toNat (ReceiverInput.mk x_248.fUniverse x_248.fSource p_134.fPriority p_134.fSeq p_134.fSync t_133 v_264 ([])))) else (some (((((v_247.set r_236.1.toNat (ReceiverInput.mk x_248.fUniverse x_248.fSource p_134.fPriority x_248.fSeq x_248.fSync x_248.fLast x_248.fSlots x_248.fWait)).set r_236.1.toNat (ReceiverInput.mk x_248.fUniverse x_248.fSource p_134.fPriority p_134.fSeq x_248.fSync x_248.fLast x_248.fSlots x_248.fWait)).set r_236.1.toNat (ReceiverInput.mk x_248.fUniverse x_248.fSource p_134.fPriority p_134.fSeq p_134.fSync x_248.fLast x_248.fSlots x_248.fWait)).set r_236.1.toNat (ReceiverInput.mk x_248.fUniverse x_248.fSource p_134.fPriority p_134.fSeq p_134.fSync t_133 x_248.fSlots x_248.fWait)).set r_236.1.toNat (ReceiverInput.mk x_248.fUniverse x_248.fSource p_134.fPriority p_134.fSeq p_134.fSync t_133 x_248.fSlots v_264))))
  cst := fun _ => ⟨put (put (fun _ => .junk) 5 (.ptr 3 0)) 0 (.eptr 2 r_236.1.toNat 0), [.cel [.int .u64 p_134.fSource, .int .i64 p_134.fUniverse, .int .i64 p_134.fPriority, .int .i64 p_134.fSeq, .int .i64 p_134.fSync, .bool p_134.fEnd, .str p_134.fSlots], .dead, .els 8 (((((v_247.set r_236.1.toNat (ReceiverInput.mk x_248.fUniverse x_248.fSource p_134.fPriority x_248.fSeq x_248.fSync x_248.fLast x_248.fSlots x_248.fWait)).set r_236.1.toNat (ReceiverInput.mk x_248.fUniverse x_248.fSource p_134.fPriority p_134.fSeq x_248.fSync x_248.fLast x_248.fSlots x_248.fWait)).set r_236.1.toNat (ReceiverInput.mk x_248.fUniverse x_248.fSource p_134.fPriority p_134.fSeq p_134.fSync x_248.fLast x_248.fSlots x_248.fWait)).set r_236.1.toNat (ReceiverInput.mk x_248.fUniverse x_248.fSource p_134.fPriority p_134.fSeq p_134.fSync t_133 x_248.fSlots x_248.fWait)).map eReceiverInput), .cel [.int .u64 p_134.fSource, .int .i64 p_134.fUniverse, .int .i64 p_134.fPriority, .int .i64 p_134.fSeq, .int .i64 p_134.fSync, .bool p_134.fEnd, .str p_134.fSlots]]⟩
theorem f60_J5c (p_134 : NetworkPacket) (v_247 : (List ReceiverInput)) (r_236 : Int × Bool) (x_248 : ReceiverInput) (t_133 : Int) (x_ : Unit) : (f60_J5 p_134 v_247 r_236 x_248 t_133).cst x_ = ⟨put (put (fun _ => .junk) 5 (.ptr 3 0)) 0 (.eptr 2 r_236.1.toNat 0), [.cel [.int .u64 p_134.fSource, .int .i64 p_134.fUniverse, .int .i64 p_134.fPriority, .int .i64 p_134.fSeq, .int .i64 p_134.fSync, .bool p_134.fEnd, .str p_134.fSlots], .dead, .els 8 (((((v_247.set r_236.1.toNat (ReceiverInput.mk x_248.fUniverse x_248.fSource p_134.fPriority x_248.fSeq x_248.fSync x_248.fLast x_248.fSlots x_248.fWait)).set r_236.1.toNat (ReceiverInput.mk x_248.fUniverse x_248.fSource p_134.fPriority p_134.fSeq x_248.fSync x_248.fLast x_248.fSlots x_248.fWait)).set r_236.1.toNat (ReceiverInput.mk x_248.fUniverse x_248.fSource p_134.fPriority p_134.fSeq p_134.fSync x_248.fLast x_248.fSlots x_248.fWait)).set r_236.1.toNat (ReceiverInput.mk x_248.fUniverse x_248.fSource p_134.fPriority p_134.fSeq p_134.fSync t_133 x_248.fSlots x_248.fWait)).map eReceiverInput), .cel [.int .u64 p_134.fSource, .int .i64 p_134.fUniverse, .int .i64 p_134.fPriority, .int .i64 p_134.fSeq, .int .i64 p_134.fSync, .bool p_134.fEnd, .str p_134.fSlots]]⟩ := rfl
noncomputable def f60_C4 (p_134 : NetworkPacket) (v_247 : (List ReceiverInput)) (r_236 : Int × Bool) (x_248 : ReceiverInput) (t_133 : Int) : Il ((List ReceiverInput)) where
  run := ((f60_J5 p_134 v_247 r_236 x_248 t_133).run ())
  res := fun v_258 => .tup []
  hp := fun v_258 => [.cel [.int .u64 p_134.fSource, .int .i64 p_134.fUniverse, .int .i64 p_134.fPriority, .int .i64 p_134.fSeq, .int .i64 p_134.fSync, .bool p_134.fEnd, .str p_134.fSlots], .dead, .els 8 (v_258.map eReceiverInput)]
noncomputable def f60_J7 (p_134 : NetworkPacket) (r_138 : (List ReceiverInput)) (r_236 : Int × Bool) (x_272 : ReceiverInput) (t_133 : Int) : Jn (Unit) ((List ReceiverInput)) where
  run := fun _ => (f87 ([0]) (IntKind.i64.wrap (512 - ((p_134.fSlots.length : Nat) : Int)))).bind fun r_287 => (cat? p_134.fSlots r_287).bind fun v_288 => (if (decide (p_134.fSync = 0)) = true then (some ((((((r_138.set r_236.1.toNat (ReceiverInput.mk x_272.fUniverse x_272.fSource p_134.fPriority x_272.fSeq x_272.fSync x_272.fLast x_272.fSlots x_272.fWait)).set r_236.1.toNat (ReceiverInput.mk x_272.fUniverse x_272.fSource p_134.fPriority p_134.fSeq x_272.fSync x_272.fLast x_272.fSlots x_272.fWait)).set r_236.1.toNat (ReceiverInput.mk x_272.fUniverse x_272.fSource p_134.fPriority p_134.fSeq p_134.fSync x_272.fLast x_272.fSlots x_272.fWait)).set r_236.1.toNat (ReceiverInput.mk x_272.fUniverse x_272.fSource p_134.fPriority p_134.fSeq p_134.fSync t_133 x_272.fSlots x_272.fWait)).set r_236.1.toNat (ReceiverInput.mk x_272.fUniverse x_272.fSource p_134.fPriority p_134.fSeq p_134.fSync t_133 v_288 x_272.fWait)).set r_236.1.toNat (ReceiverInput.mk x_272.fUniverse x_272.fSource p_134.fPriority p_134.fSeq p_134.fSync t_133 v_288 ([])))) else (some (((((r_138.set r_236.1.toNat (ReceiverInput.mk x_272.fUniverse x_272.fSource p_134.fPriority x_272.fSeq x_272.fSync x_272.fLast x_272.fSlots x_272.fWait)).set r_236.1.toNat (ReceiverInput.mk x_272.fUniverse x_272.fSource p_134.fPriority p_134.fSeq x_272.fSync x_272.fLast x_272.fSlots x_272.fWait)).set r_236.1.toNat (ReceiverInput.mk x_272.fUniverse x_272.fSource p_134.fPriority p_134.fSeq p_134.fSync x_272.fLast x_272.fSlots x_272.fWait)).set r_236.1.toNat (ReceiverInput.mk x_272.fUniverse x_272.fSource p_134.fPriority p_134.fSeq p_134.fSync t_133 x_272.fSlots x_272.fWait)).set r_236.1.toNat (ReceiverInput.mk x_272.fUniverse x_272.fSource p_134.fPriority p_134.fSeq p_134.fSync t_133 x_272.fSlots v_288))))
  cst := fun _ => ⟨put (put (fun _ => .junk) 5 (.ptr 2 0)) 0 (.eptr 1 r_236.1.toNat 0), [.cel [.int .u64 p_134.fSource, .int .i64 p_134.fUniverse, .int .i64 p_134.fPriority, .int .i64 p_134.fSeq, .int .i64 p_134.fSync, .bool p_134.fEnd, .str p_134.fSlots], .els 8 (((((r_138.set r_236.1.toNat (ReceiverInput.mk x_272.fUniverse x_272.fSource p_134.fPriority x_272.fSeq x_272.fSync x_272.fLast x_272.fSlots x_272.fWait)).set r_236.1.toNat (ReceiverInput.mk x_272.fUniverse x_272.fSource p_134.fPriority p_134.fSeq x_272.fSync x_272.fLast x_272.fSlots x_272.fWait)).set r_236.1.toNat (ReceiverInput.mk x_272.fUniverse x_272.fSource p_134.fPriority p_134.fSeq p_134.fSync x_272.fLast x_272.fSlots x_272.fWait)).set r_236.1.toNat (ReceiverInput.mk x_272.fUniverse x_272.fSource p_134.fPriority p_134.fSeq p_134.fSync t_133 x_272.fSlots x_272.fWait)).map eReceiverInput), .cel [.int .u64 p_134.fSource, .int .i64 p_134.fUniverse, .int .i64 p_134.fPriority, .int .i64 p_134.fSeq, .int .i64 p_134.fSync, .bool p_134.fEnd, .str p_134.fSlots]]⟩
theorem f60_J7c (p_134 : NetworkPacket) (r_138 : (List ReceiverInput)) (r_236 : Int × Bool) (x_272 : ReceiverInput) (t_133 : Int) (x_ : Unit) : (f60_J7 p_134 r_138 r_236 x_272 t_133).cst x_ = ⟨put (put (fun _ => .junk) 5 (.ptr 2 0)) 0 (.eptr 1 r_236.1.toNat 0), [.cel [.int .u64 p_134.fSource, .int .i64 p_134.fUniverse, .int .i64 p_134.fPriority, .int .i64 p_134.fSeq, .int .i64 p_134.fSync, .bool p_134.fEnd, .str p_134.fSlots], .els 8 (((((r_138.set r_236.1.toNat (ReceiverInput.mk x_272.fUniverse x_272.fSource p_134.fPriority x_272.fSeq x_272.fSync x_272.fLast x_272.fSlots x_272.fWait)).set r_236.1.toNat (ReceiverInput.mk x_272.fUniverse x_272.fSource p_134.fPriority p_134.fSeq x_272.fSync x_272.fLast x_272.fSlots x_272.fWait)).set r_236.1.toNat (ReceiverInput.mk x_272.fUniverse x_272.fSource p_134.fPriority p_134.fSeq p_134.fSync x_272.fLast x_272.fSlots x_272.fWait)).set r_236.1.toNat (ReceiverInput.mk x_272.fUniverse x_272.fSource p_134.fPriority p_134.fSeq p_134.fSync t_133 x_272.fSlots x_272.fWait)).map eReceiverInput), .cel [.int .u64 p_134.fSource, .int .i64 p_134.fUniverse, .int .i64 p_134.fPriority, .int .i64 p_134.fSeq, .int .i64 p_134.fSync, .bool p_134.fEnd, .str p_134.fSlots]]⟩ := rfl
noncomputable def f60_C6 (p_134 : NetworkPacket) (r_138 : (List ReceiverInput)) (r_236 : Int × Bool) (x_272 : ReceiverInput) (t_133 : Int) : Il ((List ReceiverInput)) where
  run := ((f60_J7 p_134 r_138 r_236 x_272 t_133).run ())
  res := fun v_282 => .tup []
  hp := fun v_282 => [.cel [.int .u64 p_134.fSource, .int .i64 p_134.fUniverse, .int .i64 p_134.fPriority, .int .i64 p_134.fSeq, .int .i64 p_134.fSync, .bool p_134.fEnd, .str p_134.fSlots], .els 8 (v_282.map eReceiverInput)]
noncomputable def f60_J3 (r_138 : (List ReceiverInput)) (p_134 : NetworkPacket) (r_236 : Int × Bool) (t_133 : Int) : Jn (Bool) ((List ReceiverInput) × Bool) where
  run := fun v_245 => (if v_245 = true then (some (r_138, false)) else (if p_134.fEnd = true then (del? r_138 r_236.1 (IntKind.i64.wrap (r_236.1 + 1))).bind fun v_246 => (some (v_246, true)) else (if (!r_236.2) = true then (ins? 80 r_138 r_236.1 (ReceiverInput.mk p_134.fUniverse p_134.fSource 0 0 0 0 ([]) ([]))).bind fun v_247 => (at? v_247 r_236.1).bind fun x_248 => ((f60_C4 p_134 v_247 r_236 x_248 t_133).run.bind fun v_258 => (must? (v_258.length = v_247.length)).bind fun _ => (some (v_258, true))) else (at? r_138 r_236.1).bind fun x_272 => ((f60_C6 p_134 r_138 r_236 x_272 t_133).run.bind fun v_282 => (must? (v_282.length = r_138.length)).bind fun _ => (some (v_282, true))))))
  cst := fun v_245 => ⟨put (put (put (put (put (put (fun _ => .junk) 30 (.bool v_245)) 10 (.bool r_236.2)) 9 (.int .i64 r_236.1)) 8 (.row 8 1 0 r_138.length)) 5 (.ptr 0 0)) 1 (.int .i64 t_133), [.cel [.int .u64 p_134.fSource, .int .i64 p_134.fUniverse, .int .i64 p_134.fPriority, .int .i64 p_134.fSeq, .int .i64 p_134.fSync, .bool p_134.fEnd, .str p_134.fSlots], .els 8 (r_138.map eReceiverInput)]⟩
theorem f60_J3c (r_138 : (List ReceiverInput)) (p_134 : NetworkPacket) (r_236 : Int × Bool) (t_133 : Int) (v_245 : Bool) : (f60_J3 r_138 p_134 r_236 t_133).cst v_245 = ⟨put (put (put (put (put (put (fun _ => .junk) 30 (.bool v_245)) 10 (.bool r_236.2)) 9 (.int .i64 r_236.1)) 8 (.row 8 1 0 r_138.length)) 5 (.ptr 0 0)) 1 (.int .i64 t_133), [.cel [.int .u64 p_134.fSource, .int .i64 p_134.fUniverse, .int .i64 p_134.fPriority, .int .i64 p_134.fSeq, .int .i64 p_134.fSync, .bool p_134.fEnd, .str p_134.fSlots], .els 8 (r_138.map eReceiverInput)]⟩ := rfl
def c60_0 : C := .cond (.t 15) (.seq (.reg [iI 16 (.mv (.t 8)), iI 17 (.mv (.t 8)), iI 18 (.load 7 (.t 5)), iI 19 (.call (.c (.fn 95 [])) [(.t 17), (.t 18)]), iI 6 (.mv (.t 16)), iI 7 (.mv (.t 19))]) .ret) (.skip)
def c60_1 : C := .cond (.t 30) (.skip) (.reg [iI 42 (.mv (.t 10)), iI 43 (.mv (.t 42)), iG (some 44) 43 true (.mv (.t 8)), iG (some 45) 43 true (.mv (.t 9)), iG (some 46) 43 true (.iaddr 8 (.t 44) (.t 45)), iG (some 47) 43 true (.faddr 3 (.t 46)), iG (some 48) 43 true (.load 0 (.t 47)), iG (some 49) 43 true (.faddr 3 (.t 5)), iG (some 50) 43 true (.load 0 (.t 49)), iG (some 51) 43 true (.call (.c (.fn 97 [])) [(.t 48), (.t 50)]), iG (some 52) 43 true (.un .not (.t 51)), iI 53 (.pick (.t 43) (.t 52) (.c (.bool false))), iI 30 (.mv (.t 53))])
def c60_2 : C := .cond (.t 63) (.reg [iI 66 (.mv (.t 8)), iI 67 (.mv (.t 9)), iI 68 (.faddr 1 (.t 5)), iI 69 (.load 0 (.t 68)), iI 70 (.faddr 0 (.t 5)), iI 71 (.load 0 (.t 70)), iI 72 (.build [(1, (.int .i64 0)), (1, (.int .u64 0)), (1, (.int .i64 0)), (1, (.int .i64 0)), (1, (.int .i64 0)), (1, (.int .i64 0)), (1, (.str [])), (1, (.str []))] [(0, 0, (.t 69)), (1, 0, (.t 71))]), iI 73 (.mkslp 8 1 (.agg [(.int .i64 0), (.int .u64 0), (.int .i64 0), (.int .i64 0), (.int .i64 0), (.int .i64 0), (.str []), (.str [])]) [(0, (.t 72))]), iI 74 (.call (.c (.fn 99 [])) [(.t 66), (.t 67), (.t 73)]), iI 8 (.mv (.t 74))]) (.skip)
def c60_3 : C := .cond (.t 55) (.seq (.reg [iI 58 (.mv (.t 8)), iI 59 (.mv (.t 9)), iI 60 (.mv (.t 9)), iI 61 (.bin .add (.t 60) (.c (.int .i64 1))), iI 62 (.call (.c (.fn 98 [])) [(.t 58), (.t 59), (.t 61)]), iI 6 (.mv (.t 62)), iI 7 (.mv (.c (.bool true)))]) .ret) (.seq (.reg [iI 64 (.mv (.t 10)), iI 65 (.un .not (.t 64)), iI 63 (.mv (.t 65))]) c60_2)
def c60_4 : C := .cond (.t 30) (.seq (.reg [iI 54 (.mv (.t 8)), iI 6 (.mv (.t 54)), iI 7 (.mv (.c (.bool false)))]) .ret) (.seq (.reg [iI 56 (.faddr 5 (.t 5)), iI 57 (.load 0 (.t 56)), iI 55 (.mv (.t 57))]) c60_3)
def c60_5 : C := .seq (.reg [iI 81 (.mv (.t 8)), iI 6 (.mv (.t 81)), iI 7 (.mv (.c (.bool true)))]) .ret
def c60_6 : C := .seq (.reg [iI 75 (.mv (.t 8)), iI 76 (.mv (.t 9)), iI 77 (.iaddr 8 (.t 75) (.t 76)), iI 78 (.mv (.t 1)), iI 79 (.load 7 (.t 5)), iI 80 (.call (.c (.fn 100 [])) [(.t 77), (.t 78), (.t 79)])]) c60_5
def c60_7 : C := .seq (.block 0 (.seq (.seq (.reg [iI 31 (.mv (.t 10)), iI 32 (.un .not (.t 31)), iI 33 (.mv (.t 32)), iG (some 34) 33 true (.faddr 5 (.t 5)), iG (some 35) 33 true (.load 0 (.t 34)), iG (some 36) 33 true (.mv (.t 35)), iG (some 37) 36 false (.mv (.t 8)), iG (some 38) 36 false (.len 0 (.t 37)), iG (some 39) 36 false (.bin .eql (.t 38) (.c (.int .i64 64))), iG (some 40) 33 true (.pick (.t 36) (.c (.bool true)) (.t 39)), iI 41 (.pick (.t 33) (.t 40) (.c (.bool false))), iI 30 (.mv (.t 41))]) c60_1) c60_4)) c60_6
def c60_8 : C := .seq (.reg [iI 21 (.mv (.t 8)), iI 22 (.faddr 1 (.t 5)), iI 23 (.load 0 (.t 22)), iI 24 (.faddr 0 (.t 5)), iI 25 (.load 0 (.t 24)), iI 26 (.build [(1, (.int .i64 0)), (1, (.int .u64 0))] [(0, 0, (.t 23)), (1, 0, (.t 25))]), iI 27 (.call (.c (.fn 96 [])) [(.t 21), (.t 26), (.c (.fn 65 [])), (.c (.fn 64 []))]), iI 20 (.mv (.t 27)), iI 28 (.ext (.t 20) 0), iI 29 (.ext (.t 20) 1), iI 9 (.mv (.t 28)), iI 10 (.mv (.t 29))]) c60_7
def c60_9 : C := .seq (.seq (.reg [iI 13 (.faddr 1 (.t 5)), iI 14 (.load 0 (.t 13)), iI 15 (.bin .eql (.t 14) (.c (.int .i64 0)))]) c60_0) c60_8
def c60_10 : C := .seq (.reg [iI 11 (.mv (.t 0)), iI 12 (.call (.c (.fn 39 [])) [(.t 11)]), iI 8 (.mv (.t 12))]) c60_9
def ir60 : C := .seq (.reg [iI 5 (.box (.t 2)), iI 6 (.mv (.c (.sl 8 true []))), iI 7 (.mv (.c (.bool false)))]) c60_10
theorem fd60 : fd? Try.prog 60 = some (82, [.slot 6, .slot 7], ir60) := by kernel_rfl
noncomputable def f60 (old_132 : (List ReceiverInput)) (t_133 : Int) (p_134 : NetworkPacket) : Option ((List ReceiverInput) × Bool) :=
  (f39 old_132).bind fun r_138 => (if (decide (p_134.fUniverse = 0)) = true then ((f60_C1 r_138 p_134).run.bind fun (v_175, v_176) => (must? (v_176.length = r_138.length)).bind fun _ => (some (v_176, v_175))) else (f96_65_64 r_138 (ReceiverPlace.mk p_134.fUniverse p_134.fSource)).bind fun r_236 => (if (!r_236.2) = true then (if p_134.fEnd = true then ((f60_J3 r_138 p_134 r_236 t_133).run true) else (if (decide (((r_138.length : Nat) : Int) = 64)) = true then ((f60_J3 r_138 p_134 r_236 t_133).run (decide (((r_138.length : Nat) : Int) = 64))) else (if r_236.2 = true then (at? r_138 r_236.1).bind fun x_296 => (f97 x_296.fSeq p_134.fSeq).bind fun r_297 => ((f60_J3 r_138 p_134 r_236 t_133).run (!r_297)) else ((f60_J3 r_138 p_134 r_236 t_133).run false)))) else (if r_236.2 = true then (at? r_138 r_236.1).bind fun x_298 => (f97 x_298.fSeq p_134.fSeq).bind fun r_299 => ((f60_J3 r_138 p_134 r_236 t_133).run (!r_299)) else ((f60_J3 r_138 p_134 r_236 t_133).run false))))
theorem f60_ok {old_132 : (List ReceiverInput)} {t_133 : Int} {p_134 : NetworkPacket} {r_ : (List ReceiverInput) × Bool} (H : f60 old_132 t_133 p_134 = some r_) : Pure Try.prog 60 [.sl 8 false (old_132.map eReceiverInput), .int .i64 t_133, .agg [.int .u64 p_134.fSource, .int .i64 p_134.fUniverse, .int .i64 p_134.fPriority, .int .i64 p_134.fSeq, .int .i64 p_134.fSync, .bool p_134.fEnd, .str p_134.fSlots]] (· = .tup [.fr 8 (r_.1.map eReceiverInput), .bool r_.2]) := by
 refine Pure.walk3 fd60 (some 0) (Nat.le_of_ble_eq_true rfl) (by rfl) fun Q hQ => ?_
 simp only [f60] at H
 refine AW.rseq ?_
 try simp only [↓wk, ↓wl, nqs, evV, ↓reduceIte, sevalprocAttr]
 refine AW.rseq ?_
 try simp only [↓wk, ↓wl, nqs, evV, ↓reduceIte, sevalprocAttr]
 refine evTs_fr H (fun _ h => f39_ok h) (by rfl) (by rfl) (by rfl) (by rfl) (fun _ => rfl) ?_ <;> clear H <;> intro r_138 H
 try simp only [eL, ↓wk, ↓wl, nqs, evV, ↓reduceIte, sevalprocAttr]
 refine AW.sseq ?_
 refine AW.rseq ?_
 try simp only [↓wk, ↓wl, nqs, evV, ↓reduceIte, sevalprocAttr]
 refine AW.ifc H (by rfl) ?_ ?_ <;> clear H <;> intro H
 ·refine AW.rseq ?_
  try simp only [↓wk, ↓wl, nqs, evV, ↓reduceIte, sevalprocAttr]
  refine evTs_inl (I := f60_C1 r_138 p_134) (args := [.row 8 1 0 r_138.length, .agg [.int .u64 p_134.fSource, .int .i64 p_134.fUniverse, .int .i64 p_134.fPriority, .int .i64 p_134.fSeq, .int .i64 p_134.fSync, .bool p_134.fEnd, .str p_134.fSlots]]) H (by rfl) fd95 (by rfl) (Nat.le_of_ble_eq_true rfl) ?_ ?_ <;> clear H
  ·rintro v_ Q_ H hqf60_C1
   simp only [f60_C1] at H
   dsimp only [List.length_cons, List.length_nil]
   refine AW.rseq ?_
   try simp only [↓wk, ↓wl, nqs, evV, ↓reduceIte, sevalprocAttr]
   refine AW.rseq ?_
   try simp only [↓wk, ↓wl, nqs, evV, ↓reduceIte, sevalprocAttr]
   refine AW.sseq ?_
   refine AW.rseq ?_
   try simp only [↓wk, ↓wl, nqs, evV, ↓reduceIte, sevalprocAttr]
   refine AW.bend ?_
   refine AW.iter H ((Le.tq 2 [0, 1, 2] [0, 3, 5, 9, 10] (by simp only [f60_L2c, rrm, ↓wk, ↓wl, evV, ↓reduceIte, sevalprocAttr] <;> rfl))) ?_ <;> clear H
   rintro ⟨accepted_186, v_187, v_188⟩ x_ st0_ H hst_
   rw [f60_L2c] at hst_
   simp only [f60_L2] at H
   subst hst_
   refine AW.rseq ?_
   try simp only [↓wk, ↓wl, nqs, evV, ↓reduceIte, sevalprocAttr]
   refine AW.sseq ?_
   refine AW.ifc H (by rfl) ?_ ?_ <;> clear H <;> intro H
   ·refine AW.skip ?_
    refine seqQ.norm ?_
    refine AW.bseq ?_
    refine AW.rseq ?_
    try simp only [↓wk, ↓wl, nqs, evV, ↓reduceIte, sevalprocAttr]
    refine AW.rseq ?_
    try simp only [↓wk, ↓wl, nqs, evV, ↓reduceIte, sevalprocAttr]
    refine evTs_atr (enc := eReceiverInput) H (by rfl) (by first | rfl | simp only [List.length_set]) (by rfl) ?_ <;> clear H <;> intro x_194 hx_194 H
    try simp only [eReceiverInput, eL, ↓wk, ↓wl, nqs, evV, ↓reduceIte, sevalprocAttr, hx_194, eReceiverInput, eL]
    refine AW.rseq ?_
    try simp only [↓wk, ↓wl, nqs, evV, ↓reduceIte, sevalprocAttr, hx_194, eReceiverInput, eL]
    refine evTs_ifg H (by rfl) ?_ ?_ <;> clear H <;> intro H
    ·try simp only [↓wk, ↓wl, nqs, evV, ↓reduceIte, sevalprocAttr, hx_194, eReceiverInput, eL]
     refine evTs_ifg H (by rfl) ?_ ?_ <;> clear H <;> intro H
     ·try simp only [↓wk, ↓wl, nqs, evV, ↓reduceIte, sevalprocAttr, hx_194, eReceiverInput, eL]
      refine AW.ifc H (by rfl) ?_ ?_ <;> clear H <;> intro H
      ·refine AW.rend ?_
       try simp only [↓wk, ↓wl, nqs, evV, ↓reduceIte, sevalprocAttr, hx_194, eReceiverInput, eL]
       refine evTs_stE (enc := eReceiverInput) x_194 (ReceiverInput.mk x_194.fUniverse x_194.fSource x_194.fPriority x_194.fSeq x_194.fSync x_194.fLast x_194.fWait x_194.fWait) (by rfl) (by rfl) hx_194 (by rfl) ?_
       have hw_195 := set_get hx_194 (ReceiverInput.mk x_194.fUniverse x_194.fSource x_194.fPriority x_194.fSeq x_194.fSync x_194.fLast x_194.fWait x_194.fWait)
       try simp only [eReceiverInput, eL, ↓wk, ↓wl, nqs, evV, ↓reduceIte, sevalprocAttr, hx_194, eReceiverInput, eL, hw_195]
       refine evTs_stE (enc := eReceiverInput) (ReceiverInput.mk x_194.fUniverse x_194.fSource x_194.fPriority x_194.fSeq x_194.fSync x_194.fLast x_194.fWait x_194.fWait) (ReceiverInput.mk x_194.fUniverse x_194.fSource x_194.fPriority x_194.fSeq x_194.fSync x_194.fLast x_194.fWait ([])) (by rfl) (by rfl) hw_195 (by rfl) ?_
       have hw_196 := set_get hw_195 (ReceiverInput.mk x_194.fUniverse x_194.fSource x_194.fPriority x_194.fSeq x_194.fSync x_194.fLast x_194.fWait ([]))
       try simp only [eReceiverInput, eL, ↓wk, ↓wl, nqs, evV, ↓reduceIte, sevalprocAttr, hx_194, eReceiverInput, eL, hw_195, hw_196]
       refine blkQ.norm ?_
       refine AW.rend ?_
       try simp only [↓wk, ↓wl, nqs, evV, ↓reduceIte, sevalprocAttr, hx_194, eReceiverInput, eL, hw_195, hw_196]
       exact loopQ.next H ((Le.tq 2 [0, 1, 2] [0, 3, 5, 9, 10] (by simp only [f60_L2c, rrm, ↓wk, ↓wl, evV, ↓reduceIte, sevalprocAttr, hx_194, eReceiverInput, eL, hw_195, hw_196] <;> rfl)))
      ·refine AW.skip ?_
       refine blkQ.norm ?_
       refine AW.rend ?_
       try simp only [↓wk, ↓wl, nqs, evV, ↓reduceIte, sevalprocAttr, hx_194, eReceiverInput, eL]
       exact loopQ.next H ((Le.tq 2 [0, 1, 2] [0, 3, 5, 9, 10] (by simp only [f60_L2c, rrm, ↓wk, ↓wl, evV, ↓reduceIte, sevalprocAttr, hx_194, eReceiverInput, eL] <;> rfl)))
     ·try simp only [↓wk, ↓wl, nqs, evV, ↓reduceIte, sevalprocAttr, hx_194, eReceiverInput, eL]
      refine AW.iff (by rfl) ?_
      refine AW.skip ?_
      refine blkQ.norm ?_
      refine AW.rend ?_
      try simp only [↓wk, ↓wl, nqs, evV, ↓reduceIte, sevalprocAttr, hx_194, eReceiverInput, eL]
      exact loopQ.next H ((Le.tq 2 [0, 1, 2] [0, 3, 5, 9, 10] (by simp only [f60_L2c, rrm, ↓wk, ↓wl, evV, ↓reduceIte, sevalprocAttr, hx_194, eReceiverInput, eL] <;> rfl)))
    ·try simp only [↓wk, ↓wl, nqs, evV, ↓reduceIte, sevalprocAttr, hx_194, eReceiverInput, eL]
     refine AW.iff (by rfl) ?_
     refine AW.skip ?_
     refine blkQ.norm ?_
     refine AW.rend ?_
     try simp only [↓wk, ↓wl, nqs, evV, ↓reduceIte, sevalprocAttr, hx_194, eReceiverInput, eL]
     exact loopQ.next H ((Le.tq 2 [0, 1, 2] [0, 3, 5, 9, 10] (by simp only [f60_L2c, rrm, ↓wk, ↓wl, evV, ↓reduceIte, sevalprocAttr, hx_194, eReceiverInput, eL] <;> rfl)))
   ·refine AW.exit ?_
    refine seqQ.exit ?_
    refine loopQ.exit H ?_ <;> clear H <;> intro H
    try dsimp only at H
    refine blk0.here ?_
    refine seqQ.norm ?_
    refine AW.rseq ?_
    try simp only [↓wk, ↓wl, nqs, evV, ↓reduceIte, sevalprocAttr]
    refine AW.ret ?_
    cases H
    exact hqf60_C1 _ _ _ (.inr rfl) (Le.tq 2 [0, 1] [4] rfl) (by simp only [resVs, omap, resV, f60_C1, rrm, ↓wk, ↓wl, evV, ↓reduceIte, sevalprocAttr]) (by simp only [f60_C1, rrm, ↓wk, ↓wl, evV, ↓reduceIte, sevalprocAttr])
  ·rintro ⟨v_175, v_176⟩ s_ h_ H hs_ hh_
   simp only [f60_C1] at H hs_ hh_
   subst hs_
   subst hh_
   have hlv_176 := (must_inv H).1
   have thlv_176 := fun f => take_map_eq hlv_176 f
   replace H := (must_inv H).2
   try simp only [↓wk, ↓wl, nqs, evV, ↓reduceIte, sevalprocAttr, hlv_176, thlv_176]
   refine AW.ret ?_
   refine seqQ.ret ?_
   cases H
   exact hQ _ _ _ _ (.inr rfl) (by simp only [resVs, omap, resV, ↓wk, ↓wl, nqs, evV, ↓reduceIte, sevalprocAttr, hlv_176, thlv_176]; rfl) (hand_k (by rfl) (by rfl) (by first | rfl | (simp only [List.length_map, List.length_set, hlv_176]; done) | simp [hlv_176]) (enc_all _) (by rfl)) (by first | exact Or.inl rfl | exact Or.inr rfl)
 ·refine AW.skip ?_
  refine seqQ.norm ?_
  refine AW.rseq ?_
  try simp only [↓wk, ↓wl, nqs, evV, ↓reduceIte, sevalprocAttr]
  refine evTs_flat hFn H (fun _ h => f96_65_64_ok h) (by rfl) (by rfl) (by simp only [deep_eq, imm_simps, imm_rowE, imm_ptrE, imm_enc, omap_simps, take_map_len, take_map_set, take_map_set2, List.length_set, le_refl_true, Nat.zero_add, and_true, true_and, List.drop_zero, Option.map_some, ↓wk, ↓wl, nqs, evV, ↓reduceIte, sevalprocAttr]; rfl) (by rfl) (fun _ => rfl) (fun _ => rfl) ?_ <;> clear H <;> intro r_236 H
  try simp only [eL, ↓wk, ↓wl, nqs, evV, ↓reduceIte, sevalprocAttr]
  refine AW.bseq ?_
  refine AW.join (f60_J3 r_138 p_134 r_236 t_133) H ?_ fun hf60_J3 => ?_
  ·clear H
   rintro v_245 st0_ H hst_
   rw [f60_J3c] at hst_
   simp only [f60_J3] at H
   subst hst_
   refine AW.ifc H (by rfl) ?_ ?_ <;> clear H <;> intro H
   ·refine AW.rseq ?_
    try simp only [↓wk, ↓wl, nqs, evV, ↓reduceIte, sevalprocAttr]
    refine AW.ret ?_
    refine blkQ.ret ?_
    cases H
    exact hQ _ _ _ _ (.inr rfl) (by simp only [resVs, omap, resV, ↓wk, ↓wl, nqs, evV, ↓reduceIte, sevalprocAttr]; rfl) (hand_k (by rfl) (by rfl) (by simp) (enc_all _) (by rfl)) (by first | exact Or.inl rfl | exact Or.inr rfl)
   ·refine AW.rseq ?_
    try simp only [↓wk, ↓wl, nqs, evV, ↓reduceIte, sevalprocAttr]
    refine AW.ifc H (by rfl) ?_ ?_ <;> clear H <;> intro H
    ·refine AW.rseq ?_
     try simp only [↓wk, ↓wl, nqs, evV, ↓reduceIte, sevalprocAttr]
     refine evTs_del (enc := eReceiverInput) H del98 (by rfl) (by rfl) (by first | rfl | simp only [List.length_set]) (by rfl) ?_ <;> clear H <;> intro v_246 H
     try simp only [↓wk, ↓wl, nqs, evV, ↓reduceIte, sevalprocAttr]
     refine AW.ret ?_
     refine blkQ.ret ?_
     cases H
     exact hQ _ _ _ _ (.inr rfl) (by simp only [resVs, omap, resV, ↓wk, ↓wl, nqs, evV, ↓reduceIte, sevalprocAttr]; rfl) (hand_k (by rfl) (by rfl) (by simp) (enc_all _) (by rfl)) (by first | exact Or.inl rfl | exact Or.inr rfl)
    ·refine AW.rseq ?_
     try simp only [↓wk, ↓wl, nqs, evV, ↓reduceIte, sevalprocAttr]
     refine AW.ifc H (by rfl) ?_ ?_ <;> clear H <;> intro H
     ·refine AW.rend ?_
      try simp only [↓wk, ↓wl, nqs, evV, ↓reduceIte, sevalprocAttr]
      refine evTs_ins (enc := eReceiverInput) H ins99 (by rfl) (by rfl) (by first | rfl | simp only [List.length_set]) (by rfl) ?_ <;> clear H <;> intro v_247 H
      try simp only [↓wk, ↓wl, nqs, evV, ↓reduceIte, sevalprocAttr]
      refine blkQ.norm ?_
      refine AW.rseq ?_
      try simp only [↓wk, ↓wl, nqs, evV, ↓reduceIte, sevalprocAttr]
      refine evTs_atr (enc := eReceiverInput) H (by rfl) (by first | rfl | simp only [List.length_set]) (by rfl) ?_ <;> clear H <;> intro x_248 hx_248 H
      try simp only [eReceiverInput, eL, ↓wk, ↓wl, nqs, evV, ↓reduceIte, sevalprocAttr, hx_248, eReceiverInput, eL]
      refine evTs_inl (I := f60_C4 p_134 v_247 r_236 x_248 t_133) (args := [.eptr 2 r_236.1.toNat 0, .int .i64 t_133, .agg [.int .u64 p_134.fSource, .int .i64 p_134.fUniverse, .int .i64 p_134.fPriority, .int .i64 p_134.fSeq, .int .i64 p_134.fSync, .bool p_134.fEnd, .str p_134.fSlots]]) H (by rfl) fd100 (by rfl) (Nat.le_of_ble_eq_true rfl) ?_ ?_ <;> clear H
      ·rintro v_ Q_ H hqf60_C4
       simp only [f60_C4] at H
       dsimp only [List.length_cons, List.length_nil]
       refine AW.rseq ?_
       try simp only [↓wk, ↓wl, nqs, evV, ↓reduceIte, sevalprocAttr, hx_248, eReceiverInput, eL]
       refine AW.join (f60_J5 p_134 v_247 r_236 x_248 t_133) H ?_ fun hf60_J5 => ?_
       ·clear H
        rintro _ st0_ H hst_
        rw [f60_J5c] at hst_
        simp only [f60_J5] at H
        subst hst_
        have hw_259 := set_get hx_248 (ReceiverInput.mk x_248.fUniverse x_248.fSource p_134.fPriority x_248.fSeq x_248.fSync x_248.fLast x_248.fSlots x_248.fWait)
        have hw_260 := set_get hw_259 (ReceiverInput.mk x_248.fUniverse x_248.fSource p_134.fPriority p_134.fSeq x_248.fSync x_248.fLast x_248.fSlots x_248.fWait)
        have hw_261 := set_get hw_260 (ReceiverInput.mk x_248.fUniverse x_248.fSource p_134.fPriority p_134.fSeq p_134.fSync x_248.fLast x_248.fSlots x_248.fWait)
        have hw_262 := set_get hw_261 (ReceiverInput.mk x_248.fUniverse x_248.fSource p_134.fPriority p_134.fSeq p_134.fSync t_133 x_248.fSlots x_248.fWait)
        refine AW.rqseq ?_
        try simp only [↓wk, ↓wl, nqs, evV, ↓reduceIte, sevalprocAttr, hx_248, eReceiverInput, eL]
        refine evTs_pure hFnq H (fun _ h => f87_ok h) (by rfl) (by rfl) (by rfl) (by rfl) (fun _ => rfl) ?_ <;> clear H <;> intro r_263 H
        try simp only [eL, ↓wk, ↓wl, nqs, evV, ↓reduceIte, sevalprocAttr, hx_248, eReceiverInput, eL]
        refine rest_cat H ?_ <;> clear H <;> intro v_264 H
        try simp only [↓wk, ↓wl, nqs, evV, ↓reduceIte, sevalprocAttr, hx_248, eReceiverInput, eL]
        refine AW.rseq ?_
        try simp only [↓wk, ↓wl, nqs, evV, ↓reduceIte, sevalprocAttr, hx_248, eReceiverInput, eL]
        refine AW.ifc H (by rfl) ?_ ?_ <;> clear H <;> intro H
        ·refine AW.rend ?_
         try simp only [↓wk, ↓wl, nqs, evV, ↓reduceIte, sevalprocAttr, hx_248, eReceiverInput, eL]
         refine evTs_stE (enc := eReceiverInput) (ReceiverInput.mk x_248.fUniverse x_248.fSource p_134.fPriority p_134.fSeq p_134.fSync t_133 x_248.fSlots x_248.fWait) (ReceiverInput.mk x_248.fUniverse x_248.fSource p_134.fPriority p_134.fSeq p_134.fSync t_133 v_264 x_248.fWait) (by rfl) (by rfl) hw_262 (by rfl) ?_
         have hw_265 := set_get hw_262 (ReceiverInput.mk x_248.fUniverse x_248.fSource p_134.fPriority p_134.fSeq p_134.fSync t_133 v_264 x_248.fWait)
         try simp only [eReceiverInput, eL, ↓wk, ↓wl, nqs, evV, ↓reduceIte, sevalprocAttr, hx_248, eReceiverInput, eL, hw_265]
         refine evTs_stE (enc := eReceiverInput) (ReceiverInput.mk x_248.fUniverse x_248.fSource p_134.fPriority p_134.fSeq p_134.fSync t_133 v_264 x_248.fWait) (ReceiverInput.mk x_248.fUniverse x_248.fSource p_134.fPriority p_134.fSeq p_134.fSync t_133 v_264 ([])) (by rfl) (by rfl) hw_265 (by rfl) ?_
         have hw_266 := set_get hw_265 (ReceiverInput.mk x_248.fUniverse x_248.fSource p_134.fPriority p_134.fSeq p_134.fSync t_133 v_264 ([]))
         try simp only [eReceiverInput, eL, ↓wk, ↓wl, nqs, evV, ↓reduceIte, sevalprocAttr, hx_248, eReceiverInput, eL, hw_265, hw_266]
         cases H
         exact hqf60_C4 _ _ _ (.inl rfl) (Le.tq 3 [0, 1, 2] [] rfl) (by simp only [resVs, omap, resV, f60_C4, rrm, ↓wk, ↓wl, evV, ↓reduceIte, sevalprocAttr, hx_248, eReceiverInput, eL, hw_265, hw_266]) (by simp only [f60_C4, rrm, ↓wk, ↓wl, evV, ↓reduceIte, sevalprocAttr, hx_248, eReceiverInput, eL, hw_265, hw_266])
        ·refine AW.rend ?_
         try simp only [↓wk, ↓wl, nqs, evV, ↓reduceIte, sevalprocAttr, hx_248, eReceiverInput, eL]
         refine evTs_stE (enc := eReceiverInput) (ReceiverInput.mk x_248.fUniverse x_248.fSource p_134.fPriority p_134.fSeq p_134.fSync t_133 x_248.fSlots x_248.fWait) (ReceiverInput.mk x_248.fUniverse x_248.fSource p_134.fPriority p_134.fSeq p_134.fSync t_133 x_248.fSlots v_264) (by rfl) (by rfl) hw_262 (by rfl) ?_
         have hw_267 := set_get hw_262 (ReceiverInput.mk x_248.fUniverse x_248.fSource p_134.fPriority p_134.fSeq p_134.fSync t_133 x_248.fSlots v_264)
         try simp only [eReceiverInput, eL, ↓wk, ↓wl, nqs, evV, ↓reduceIte, sevalprocAttr, hx_248, eReceiverInput, eL, hw_267]
         cases H
         exact hqf60_C4 _ _ _ (.inl rfl) (Le.tq 3 [0, 1, 2] [] rfl) (by simp only [resVs, omap, resV, f60_C4, rrm, ↓wk, ↓wl, evV, ↓reduceIte, sevalprocAttr, hx_248, eReceiverInput, eL, hw_267]) (by simp only [f60_C4, rrm, ↓wk, ↓wl, evV, ↓reduceIte, sevalprocAttr, hx_248, eReceiverInput, eL, hw_267])
       ·refine AW.regt ?_
        refine evR.fork ?_
        try simp only [↓wk, ↓wl, nqs, evV, ↓reduceIte, sevalprocAttr, hx_248, eReceiverInput, eL]
        refine evR.both ?_ ?_
        ·refine evR.fork ?_
         try simp only [↓wk, ↓wl, nqs, evV, ↓reduceIte, sevalprocAttr, hx_248, eReceiverInput, eL]
         refine evR.both ?_ ?_
         ·refine evR.run ?_
          try simp only [↓wk, ↓wl, nqs, evV, ↓reduceIte, sevalprocAttr, hx_248, eReceiverInput, eL]
          refine evTs_stE (enc := eReceiverInput) x_248 (ReceiverInput.mk x_248.fUniverse x_248.fSource p_134.fPriority x_248.fSeq x_248.fSync x_248.fLast x_248.fSlots x_248.fWait) (by rfl) (by rfl) hx_248 (by rfl) ?_
          have hw_268 := set_get hx_248 (ReceiverInput.mk x_248.fUniverse x_248.fSource p_134.fPriority x_248.fSeq x_248.fSync x_248.fLast x_248.fSlots x_248.fWait)
          try simp only [eReceiverInput, eL, ↓wk, ↓wl, nqs, evV, ↓reduceIte, sevalprocAttr, hx_248, eReceiverInput, eL, hw_268]
          refine evTs_stE (enc := eReceiverInput) (ReceiverInput.mk x_248.fUniverse x_248.fSource p_134.fPriority x_248.fSeq x_248.fSync x_248.fLast x_248.fSlots x_248.fWait) (ReceiverInput.mk x_248.fUniverse x_248.fSource p_134.fPriority p_134.fSeq x_248.fSync x_248.fLast x_248.fSlots x_248.fWait) (by rfl) (by rfl) hw_268 (by rfl) ?_
          have hw_269 := set_get hw_268 (ReceiverInput.mk x_248.fUniverse x_248.fSource p_134.fPriority p_134.fSeq x_248.fSync x_248.fLast x_248.fSlots x_248.fWait)
          try simp only [eReceiverInput, eL, ↓wk, ↓wl, nqs, evV, ↓reduceIte, sevalprocAttr, hx_248, eReceiverInput, eL, hw_268, hw_269]
          refine evTs_stE (enc := eReceiverInput) (ReceiverInput.mk x_248.fUniverse x_248.fSource p_134.fPriority p_134.fSeq x_248.fSync x_248.fLast x_248.fSlots x_248.fWait) (ReceiverInput.mk x_248.fUniverse x_248.fSource p_134.fPriority p_134.fSeq p_134.fSync x_248.fLast x_248.fSlots x_248.fWait) (by rfl) (by rfl) hw_269 (by rfl) ?_
          have hw_270 := set_get hw_269 (ReceiverInput.mk x_248.fUniverse x_248.fSource p_134.fPriority p_134.fSeq p_134.fSync x_248.fLast x_248.fSlots x_248.fWait)
          try simp only [eReceiverInput, eL, ↓wk, ↓wl, nqs, evV, ↓reduceIte, sevalprocAttr, hx_248, eReceiverInput, eL, hw_268, hw_269, hw_270]
          refine evTs_stE (enc := eReceiverInput) (ReceiverInput.mk x_248.fUniverse x_248.fSource p_134.fPriority p_134.fSeq p_134.fSync x_248.fLast x_248.fSlots x_248.fWait) (ReceiverInput.mk x_248.fUniverse x_248.fSource p_134.fPriority p_134.fSeq p_134.fSync t_133 x_248.fSlots x_248.fWait) (by rfl) (by rfl) hw_270 (by rfl) ?_
          have hw_271 := set_get hw_270 (ReceiverInput.mk x_248.fUniverse x_248.fSource p_134.fPriority p_134.fSeq p_134.fSync t_133 x_248.fSlots x_248.fWait)
          try simp only [eReceiverInput, eL, ↓wk, ↓wl, nqs, evV, ↓reduceIte, sevalprocAttr, hx_248, eReceiverInput, eL, hw_268, hw_269, hw_270, hw_271]
          refine seqQ.norm ?_
          exact hf60_J5 _ _ H ((Le.tq 3 [0, 1, 2, 3] [0, 5] (by simp only [f60_J5c, rrm, ↓wk, ↓wl, evV, ↓reduceIte, sevalprocAttr, hx_248, eReceiverInput, eL, hw_268, hw_269, hw_270, hw_271] <;> rfl)))
         ·refine evR.fork ?_
          try simp only [↓wk, ↓wl, nqs, evV, ↓reduceIte, sevalprocAttr, hx_248, eReceiverInput, eL]
          refine evTs_stE (enc := eReceiverInput) x_248 (ReceiverInput.mk x_248.fUniverse x_248.fSource p_134.fPriority x_248.fSeq x_248.fSync x_248.fLast x_248.fSlots x_248.fWait) (by rfl) (by rfl) hx_248 (by rfl) ?_
          have hw_268 := set_get hx_248 (ReceiverInput.mk x_248.fUniverse x_248.fSource p_134.fPriority x_248.fSeq x_248.fSync x_248.fLast x_248.fSlots x_248.fWait)
          try simp only [eReceiverInput, eL, ↓wk, ↓wl, nqs, evV, ↓reduceIte, sevalprocAttr, hx_248, eReceiverInput, eL, hw_268]
          refine evR.both ?_ ?_
          ·refine evR.run ?_
           try simp only [↓wk, ↓wl, nqs, evV, ↓reduceIte, sevalprocAttr, hx_248, eReceiverInput, eL, hw_268]
           refine evTs_stE (enc := eReceiverInput) (ReceiverInput.mk x_248.fUniverse x_248.fSource p_134.fPriority x_248.fSeq x_248.fSync x_248.fLast x_248.fSlots x_248.fWait) (ReceiverInput.mk x_248.fUniverse x_248.fSource p_134.fPriority p_134.fSeq x_248.fSync x_248.fLast x_248.fSlots x_248.fWait) (by rfl) (by rfl) hw_268 (by rfl) ?_
           have hw_269 := set_get hw_268 (ReceiverInput.mk x_248.fUniverse x_248.fSource p_134.fPriority p_134.fSeq x_248.fSync x_248.fLast x_248.fSlots x_248.fWait)
           try simp only [eReceiverInput, eL, ↓wk, ↓wl, nqs, evV, ↓reduceIte, sevalprocAttr, hx_248, eReceiverInput, eL, hw_268, hw_269]
           refine evTs_stE (enc := eReceiverInput) (ReceiverInput.mk x_248.fUniverse x_248.fSource p_134.fPriority p_134.fSeq x_248.fSync x_248.fLast x_248.fSlots x_248.fWait) (ReceiverInput.mk x_248.fUniverse x_248.fSource p_134.fPriority p_134.fSeq p_134.fSync x_248.fLast x_248.fSlots x_248.fWait) (by rfl) (by rfl) hw_269 (by rfl) ?_
           have hw_270 := set_get hw_269 (ReceiverInput.mk x_248.fUniverse x_248.fSource p_134.fPriority p_134.fSeq p_134.fSync x_248.fLast x_248.fSlots x_248.fWait)
           try simp only [eReceiverInput, eL, ↓wk, ↓wl, nqs, evV, ↓reduceIte, sevalprocAttr, hx_248, eReceiverInput, eL, hw_268, hw_269, hw_270]
           refine evTs_stE (enc := eReceiverInput) (ReceiverInput.mk x_248.fUniverse x_248.fSource p_134.fPriority p_134.fSeq p_134.fSync x_248.fLast x_248.fSlots x_248.fWait) (ReceiverInput.mk x_248.fUniverse x_248.fSource p_134.fPriority p_134.fSeq p_134.fSync t_133 x_248.fSlots x_248.fWait) (by rfl) (by rfl) hw_270 (by rfl) ?_
           have hw_271 := set_get hw_270 (ReceiverInput.mk x_248.fUniverse x_248.fSource p_134.fPriority p_134.fSeq p_134.fSync t_133 x_248.fSlots x_248.fWait)
           try simp only [eReceiverInput, eL, ↓wk, ↓wl, nqs, evV, ↓reduceIte, sevalprocAttr, hx_248, eReceiverInput, eL, hw_268, hw_269, hw_270, hw_271]
           refine seqQ.norm ?_
           exact hf60_J5 _ _ H ((Le.tq 3 [0, 1, 2, 3] [0, 5] (by simp only [f60_J5c, rrm, ↓wk, ↓wl, evV, ↓reduceIte, sevalprocAttr, hx_248, eReceiverInput, eL, hw_268, hw_269, hw_270, hw_271] <;> rfl)))
          ·refine evR.run ?_
           try simp only [↓wk, ↓wl, nqs, evV, ↓reduceIte, sevalprocAttr, hx_248, eReceiverInput, eL, hw_268]
           refine evTs_stE (enc := eReceiverInput) (ReceiverInput.mk x_248.fUniverse x_248.fSource p_134.fPriority x_248.fSeq x_248.fSync x_248.fLast x_248.fSlots x_248.fWait) (ReceiverInput.mk x_248.fUniverse x_248.fSource p_134.fPriority p_134.fSeq x_248.fSync x_248.fLast x_248.fSlots x_248.fWait) (by rfl) (by rfl) hw_268 (by rfl) ?_
           have hw_269 := set_get hw_268 (ReceiverInput.mk x_248.fUniverse x_248.fSource p_134.fPriority p_134.fSeq x_248.fSync x_248.fLast x_248.fSlots x_248.fWait)
           try simp only [eReceiverInput, eL, ↓wk, ↓wl, nqs, evV, ↓reduceIte, sevalprocAttr, hx_248, eReceiverInput, eL, hw_268, hw_269]
           refine evTs_stE (enc := eReceiverInput) (ReceiverInput.mk x_248.fUniverse x_248.fSource p_134.fPriority p_134.fSeq x_248.fSync x_248.fLast x_248.fSlots x_248.fWait) (ReceiverInput.mk x_248.fUniverse x_248.fSource p_134.fPriority p_134.fSeq p_134.fSync x_248.fLast x_248.fSlots x_248.fWait) (by rfl) (by rfl) hw_269 (by rfl) ?_
           have hw_270 := set_get hw_269 (ReceiverInput.mk x_248.fUniverse x_248.fSource p_134.fPriority p_134.fSeq p_134.fSync x_248.fLast x_248.fSlots x_248.fWait)
           try simp only [eReceiverInput, eL, ↓wk, ↓wl, nqs, evV, ↓reduceIte, sevalprocAttr, hx_248, eReceiverInput, eL, hw_268, hw_269, hw_270]
           refine evTs_stE (enc := eReceiverInput) (ReceiverInput.mk x_248.fUniverse x_248.fSource p_134.fPriority p_134.fSeq p_134.fSync x_248.fLast x_248.fSlots x_248.fWait) (ReceiverInput.mk x_248.fUniverse x_248.fSource p_134.fPriority p_134.fSeq p_134.fSync t_133 x_248.fSlots x_248.fWait) (by rfl) (by rfl) hw_270 (by rfl) ?_
           have hw_271 := set_get hw_270 (ReceiverInput.mk x_248.fUniverse x_248.fSource p_134.fPriority p_134.fSeq p_134.fSync t_133 x_248.fSlots x_248.fWait)
           try simp only [eReceiverInput, eL, ↓wk, ↓wl, nqs, evV, ↓reduceIte, sevalprocAttr, hx_248, eReceiverInput, eL, hw_268, hw_269, hw_270, hw_271]
           refine seqQ.norm ?_
           exact hf60_J5 _ _ H ((Le.tq 3 [0, 1, 2, 3] [0, 5] (by simp only [f60_J5c, rrm, ↓wk, ↓wl, evV, ↓reduceIte, sevalprocAttr, hx_248, eReceiverInput, eL, hw_268, hw_269, hw_270, hw_271] <;> rfl)))
        ·refine evR.fork ?_
         try simp only [↓wk, ↓wl, nqs, evV, ↓reduceIte, sevalprocAttr, hx_248, eReceiverInput, eL]
         refine evR.both ?_ ?_
         ·refine evR.fork ?_
          try simp only [↓wk, ↓wl, nqs, evV, ↓reduceIte, sevalprocAttr, hx_248, eReceiverInput, eL]
          refine evR.both ?_ ?_
          ·refine evR.run ?_
           try simp only [↓wk, ↓wl, nqs, evV, ↓reduceIte, sevalprocAttr, hx_248, eReceiverInput, eL]
           refine evTs_stE (enc := eReceiverInput) x_248 (ReceiverInput.mk x_248.fUniverse x_248.fSource p_134.fPriority x_248.fSeq x_248.fSync x_248.fLast x_248.fSlots x_248.fWait) (by rfl) (by rfl) hx_248 (by rfl) ?_
           have hw_268 := set_get hx_248 (ReceiverInput.mk x_248.fUniverse x_248.fSource p_134.fPriority x_248.fSeq x_248.fSync x_248.fLast x_248.fSlots x_248.fWait)
           try simp only [eReceiverInput, eL, ↓wk, ↓wl, nqs, evV, ↓reduceIte, sevalprocAttr, hx_248, eReceiverInput, eL, hw_268]
           refine evTs_stE (enc := eReceiverInput) (ReceiverInput.mk x_248.fUniverse x_248.fSource p_134.fPriority x_248.fSeq x_248.fSync x_248.fLast x_248.fSlots x_248.fWait) (ReceiverInput.mk x_248.fUniverse x_248.fSource p_134.fPriority p_134.fSeq x_248.fSync x_248.fLast x_248.fSlots x_248.fWait) (by rfl) (by rfl) hw_268 (by rfl) ?_
           have hw_269 := set_get hw_268 (ReceiverInput.mk x_248.fUniverse x_248.fSource p_134.fPriority p_134.fSeq x_248.fSync x_248.fLast x_248.fSlots x_248.fWait)
           try simp only [eReceiverInput, eL, ↓wk, ↓wl, nqs, evV, ↓reduceIte, sevalprocAttr, hx_248, eReceiverInput, eL, hw_268, hw_269]
           refine evTs_stE (enc := eReceiverInput) (ReceiverInput.mk x_248.fUniverse x_248.fSource p_134.fPriority p_134.fSeq x_248.fSync x_248.fLast x_248.fSlots x_248.fWait) (ReceiverInput.mk x_248.fUniverse x_248.fSource p_134.fPriority p_134.fSeq p_134.fSync x_248.fLast x_248.fSlots x_248.fWait) (by rfl) (by rfl) hw_269 (by rfl) ?_
           have hw_270 := set_get hw_269 (ReceiverInput.mk x_248.fUniverse x_248.fSource p_134.fPriority p_134.fSeq p_134.fSync x_248.fLast x_248.fSlots x_248.fWait)
           try simp only [eReceiverInput, eL, ↓wk, ↓wl, nqs, evV, ↓reduceIte, sevalprocAttr, hx_248, eReceiverInput, eL, hw_268, hw_269, hw_270]
           refine evTs_stE (enc := eReceiverInput) (ReceiverInput.mk x_248.fUniverse x_248.fSource p_134.fPriority p_134.fSeq p_134.fSync x_248.fLast x_248.fSlots x_248.fWait) (ReceiverInput.mk x_248.fUniverse x_248.fSource p_134.fPriority p_134.fSeq p_134.fSync t_133 x_248.fSlots x_248.fWait) (by rfl) (by rfl) hw_270 (by rfl) ?_
           have hw_271 := set_get hw_270 (ReceiverInput.mk x_248.fUniverse x_248.fSource p_134.fPriority p_134.fSeq p_134.fSync t_133 x_248.fSlots x_248.fWait)
           try simp only [eReceiverInput, eL, ↓wk, ↓wl, nqs, evV, ↓reduceIte, sevalprocAttr, hx_248, eReceiverInput, eL, hw_268, hw_269, hw_270, hw_271]
           refine seqQ.norm ?_
           exact hf60_J5 _ _ H ((Le.tq 3 [0, 1, 2, 3] [0, 5] (by simp only [f60_J5c, rrm, ↓wk, ↓wl, evV, ↓reduceIte, sevalprocAttr, hx_248, eReceiverInput, eL, hw_268, hw_269, hw_270, hw_271] <;> rfl)))
          ·refine evR.run ?_
           try simp only [↓wk, ↓wl, nqs, evV, ↓reduceIte, sevalprocAttr, hx_248, eReceiverInput, eL]
           refine evTs_stE (enc := eReceiverInput) x_248 (ReceiverInput.mk x_248.fUniverse x_248.fSource p_134.fPriority x_248.fSeq x_248.fSync x_248.fLast x_248.fSlots x_248.fWait) (by rfl) (by rfl) hx_248 (by rfl) ?_
           have hw_268 := set_get hx_248 (ReceiverInput.mk x_248.fUniverse x_248.fSource p_134.fPriority x_248.fSeq x_248.fSync x_248.fLast x_248.fSlots x_248.fWait)
           try simp only [eReceiverInput, eL, ↓wk, ↓wl, nqs, evV, ↓reduceIte, sevalprocAttr, hx_248, eReceiverInput, eL, hw_268]
           refine evTs_stE (enc := eReceiverInput) (ReceiverInput.mk x_248.fUniverse x_248.fSource p_134.fPriority x_248.fSeq x_248.fSync x_248.fLast x_248.fSlots x_248.fWait) (ReceiverInput.mk x_248.fUniverse x_248.fSource p_134.fPriority p_134.fSeq x_248.fSync x_248.fLast x_248.fSlots x_248.fWait) (by rfl) (by rfl) hw_268 (by rfl) ?_
           have hw_269 := set_get hw_268 (ReceiverInput.mk x_248.fUniverse x_248.fSource p_134.fPriority p_134.fSeq x_248.fSync x_248.fLast x_248.fSlots x_248.fWait)
           try simp only [eReceiverInput, eL, ↓wk, ↓wl, nqs, evV, ↓reduceIte, sevalprocAttr, hx_248, eReceiverInput, eL, hw_268, hw_269]
           refine evTs_stE (enc := eReceiverInput) (ReceiverInput.mk x_248.fUniverse x_248.fSource p_134.fPriority p_134.fSeq x_248.fSync x_248.fLast x_248.fSlots x_248.fWait) (ReceiverInput.mk x_248.fUniverse x_248.fSource p_134.fPriority p_134.fSeq p_134.fSync x_248.fLast x_248.fSlots x_248.fWait) (by rfl) (by rfl) hw_269 (by rfl) ?_
           have hw_270 := set_get hw_269 (ReceiverInput.mk x_248.fUniverse x_248.fSource p_134.fPriority p_134.fSeq p_134.fSync x_248.fLast x_248.fSlots x_248.fWait)
           try simp only [eReceiverInput, eL, ↓wk, ↓wl, nqs, evV, ↓reduceIte, sevalprocAttr, hx_248, eReceiverInput, eL, hw_268, hw_269, hw_270]
           refine evTs_stE (enc := eReceiverInput) (ReceiverInput.mk x_248.fUniverse x_248.fSource p_134.fPriority p_134.fSeq p_134.fSync x_248.fLast x_248.fSlots x_248.fWait) (ReceiverInput.mk x_248.fUniverse x_248.fSource p_134.fPriority p_134.fSeq p_134.fSync t_133 x_248.fSlots x_248.fWait) (by rfl) (by rfl) hw_270 (by rfl) ?_
           have hw_271 := set_get hw_270 (ReceiverInput.mk x_248.fUniverse x_248.fSource p_134.fPriority p_134.fSeq p_134.fSync t_133 x_248.fSlots x_248.fWait)
           try simp only [eReceiverInput, eL, ↓wk, ↓wl, nqs, evV, ↓reduceIte, sevalprocAttr, hx_248, eReceiverInput, eL, hw_268, hw_269, hw_270, hw_271]
           refine seqQ.norm ?_
           exact hf60_J5 _ _ H ((Le.tq 3 [0, 1, 2, 3] [0, 5] (by simp only [f60_J5c, rrm, ↓wk, ↓wl, evV, ↓reduceIte, sevalprocAttr, hx_248, eReceiverInput, eL, hw_268, hw_269, hw_270, hw_271] <;> rfl)))
         ·refine evR.fork ?_
          try simp only [↓wk, ↓wl, nqs, evV, ↓reduceIte, sevalprocAttr, hx_248, eReceiverInput, eL]
          refine evTs_stE (enc := eReceiverInput) x_248 (ReceiverInput.mk x_248.fUniverse x_248.fSource p_134.fPriority x_248.fSeq x_248.fSync x_248.fLast x_248.fSlots x_248.fWait) (by rfl) (by rfl) hx_248 (by rfl) ?_
          have hw_268 := set_get hx_248 (ReceiverInput.mk x_248.fUniverse x_248.fSource p_134.fPriority x_248.fSeq x_248.fSync x_248.fLast x_248.fSlots x_248.fWait)
          try simp only [eReceiverInput, eL, ↓wk, ↓wl, nqs, evV, ↓reduceIte, sevalprocAttr, hx_248, eReceiverInput, eL, hw_268]
          refine evR.both ?_ ?_
          ·refine evR.run ?_
           try simp only [↓wk, ↓wl, nqs, evV, ↓reduceIte, sevalprocAttr, hx_248, eReceiverInput, eL, hw_268]
           refine evTs_stE (enc := eReceiverInput) (ReceiverInput.mk x_248.fUniverse x_248.fSource p_134.fPriority x_248.fSeq x_248.fSync x_248.fLast x_248.fSlots x_248.fWait) (ReceiverInput.mk x_248.fUniverse x_248.fSource p_134.fPriority p_134.fSeq x_248.fSync x_248.fLast x_248.fSlots x_248.fWait) (by rfl) (by rfl) hw_268 (by rfl) ?_
           have hw_269 := set_get hw_268 (ReceiverInput.mk x_248.fUniverse x_248.fSource p_134.fPriority p_134.fSeq x_248.fSync x_248.fLast x_248.fSlots x_248.fWait)
           try simp only [eReceiverInput, eL, ↓wk, ↓wl, nqs, evV, ↓reduceIte, sevalprocAttr, hx_248, eReceiverInput, eL, hw_268, hw_269]
           refine evTs_stE (enc := eReceiverInput) (ReceiverInput.mk x_248.fUniverse x_248.fSource p_134.fPriority p_134.fSeq x_248.fSync x_248.fLast x_248.fSlots x_248.fWait) (ReceiverInput.mk x_248.fUniverse x_248.fSource p_134.fPriority p_134.fSeq p_134.fSync x_248.fLast x_248.fSlots x_248.fWait) (by rfl) (by rfl) hw_269 (by rfl) ?_
           have hw_270 := set_get hw_269 (ReceiverInput.mk x_248.fUniverse x_248.fSource p_134.fPriority p_134.fSeq p_134.fSync x_248.fLast x_248.fSlots x_248.fWait)
           try simp only [eReceiverInput, eL, ↓wk, ↓wl, nqs, evV, ↓reduceIte, sevalprocAttr, hx_248, eReceiverInput, eL, hw_268, hw_269, hw_270]
           refine evTs_stE (enc := eReceiverInput) (ReceiverInput.mk x_248.fUniverse x_248.fSource p_134.fPriority p_134.fSeq p_134.fSync x_248.fLast x_248.fSlots x_248.fWait) (ReceiverInput.mk x_248.fUniverse x_248.fSource p_134.fPriority p_134.fSeq p_134.fSync t_133 x_248.fSlots x_248.fWait) (by rfl) (by rfl) hw_270 (by rfl) ?_
           have hw_271 := set_get hw_270 (ReceiverInput.mk x_248.fUniverse x_248.fSource p_134.fPriority p_134.fSeq p_134.fSync t_133 x_248.fSlots x_248.fWait)
           try simp only [eReceiverInput, eL, ↓wk, ↓wl, nqs, evV, ↓reduceIte, sevalprocAttr, hx_248, eReceiverInput, eL, hw_268, hw_269, hw_270, hw_271]
           refine seqQ.norm ?_
           exact hf60_J5 _ _ H ((Le.tq 3 [0, 1, 2, 3] [0, 5] (by simp only [f60_J5c, rrm, ↓wk, ↓wl, evV, ↓reduceIte, sevalprocAttr, hx_248, eReceiverInput, eL, hw_268, hw_269, hw_270, hw_271] <;> rfl)))
          ·refine evR.run ?_
           try simp only [↓wk, ↓wl, nqs, evV, ↓reduceIte, sevalprocAttr, hx_248, eReceiverInput, eL, hw_268]
           refine evTs_stE (enc := eReceiverInput) (ReceiverInput.mk x_248.fUniverse x_248.fSource p_134.fPriority x_248.fSeq x_248.fSync x_248.fLast x_248.fSlots x_248.fWait) (ReceiverInput.mk x_248.fUniverse x_248.fSource p_134.fPriority p_134.fSeq x_248.fSync x_248.fLast x_248.fSlots x_248.fWait) (by rfl) (by rfl) hw_268 (by rfl) ?_
           have hw_269 := set_get hw_268 (ReceiverInput.mk x_248.fUniverse x_248.fSource p_134.fPriority p_134.fSeq x_248.fSync x_248.fLast x_248.fSlots x_248.fWait)
           try simp only [eReceiverInput, eL, ↓wk, ↓wl, nqs, evV, ↓reduceIte, sevalprocAttr, hx_248, eReceiverInput, eL, hw_268, hw_269]
           refine evTs_stE (enc := eReceiverInput) (ReceiverInput.mk x_248.fUniverse x_248.fSource p_134.fPriority p_134.fSeq x_248.fSync x_248.fLast x_248.fSlots x_248.fWait) (ReceiverInput.mk x_248.fUniverse x_248.fSource p_134.fPriority p_134.fSeq p_134.fSync x_248.fLast x_248.fSlots x_248.fWait) (by rfl) (by rfl) hw_269 (by rfl) ?_
           have hw_270 := set_get hw_269 (ReceiverInput.mk x_248.fUniverse x_248.fSource p_134.fPriority p_134.fSeq p_134.fSync x_248.fLast x_248.fSlots x_248.fWait)
           try simp only [eReceiverInput, eL, ↓wk, ↓wl, nqs, evV, ↓reduceIte, sevalprocAttr, hx_248, eReceiverInput, eL, hw_268, hw_269, hw_270]
           refine evTs_stE (enc := eReceiverInput) (ReceiverInput.mk x_248.fUniverse x_248.fSource p_134.fPriority p_134.fSeq p_134.fSync x_248.fLast x_248.fSlots x_248.fWait) (ReceiverInput.mk x_248.fUniverse x_248.fSource p_134.fPriority p_134.fSeq p_134.fSync t_133 x_248.fSlots x_248.fWait) (by rfl) (by rfl) hw_270 (by rfl) ?_
           have hw_271 := set_get hw_270 (ReceiverInput.mk x_248.fUniverse x_248.fSource p_134.fPriority p_134.fSeq p_134.fSync t_133 x_248.fSlots x_248.fWait)
           try simp only [eReceiverInput, eL, ↓wk, ↓wl, nqs, evV, ↓reduceIte, sevalprocAttr, hx_248, eReceiverInput, eL, hw_268, hw_269, hw_270, hw_271]
           refine seqQ.norm ?_
           exact hf60_J5 _ _ H ((Le.tq 3 [0, 1, 2, 3] [0, 5] (by simp only [f60_J5c, rrm, ↓wk, ↓wl, evV, ↓reduceIte, sevalprocAttr, hx_248, eReceiverInput, eL, hw_268, hw_269, hw_270, hw_271] <;> rfl)))
      ·rintro v_258 s_ h_ H hs_ hh_
       simp only [f60_C4] at H hs_ hh_
       subst hs_
       subst hh_
       have hlv_258 := (must_inv H).1
       have thlv_258 := fun f => take_map_eq hlv_258 f
       replace H := (must_inv H).2
       try simp only [↓wk, ↓wl, nqs, evV, ↓reduceIte, sevalprocAttr, hx_248, eReceiverInput, eL, hlv_258, thlv_258]
       refine AW.rseq ?_
       try simp only [↓wk, ↓wl, nqs, evV, ↓reduceIte, sevalprocAttr, hx_248, eReceiverInput, eL, hlv_258, thlv_258]
       refine AW.ret ?_
       cases H
       exact hQ _ _ _ _ (.inr rfl) (by simp only [resVs, omap, resV, ↓wk, ↓wl, nqs, evV, ↓reduceIte, sevalprocAttr, hx_248, eReceiverInput, eL, hlv_258, thlv_258]; rfl) (hand_k (by rfl) (by rfl) (by first | rfl | (simp only [List.length_map, List.length_set, hlv_258]; done) | simp [hlv_258]) (enc_all _) (by rfl)) (by first | exact Or.inl rfl | exact Or.inr rfl)
     ·refine AW.skip ?_
      refine blkQ.norm ?_
      refine AW.rseq ?_
      try simp only [↓wk, ↓wl, nqs, evV, ↓reduceIte, sevalprocAttr]
      refine evTs_atr (enc := eReceiverInput) H (by rfl) (by first | rfl | simp only [List.length_set]) (by rfl) ?_ <;> clear H <;> intro x_272 hx_272 H
      try simp only [eReceiverInput, eL, ↓wk, ↓wl, nqs, evV, ↓reduceIte, sevalprocAttr, hx_272, eReceiverInput, eL]
      refine evTs_inl (I := f60_C6 p_134 r_138 r_236 x_272 t_133) (args := [.eptr 1 r_236.1.toNat 0, .int .i64 t_133, .agg [.int .u64 p_134.fSource, .int .i64 p_134.fUniverse, .int .i64 p_134.fPriority, .int .i64 p_134.fSeq, .int .i64 p_134.fSync, .bool p_134.fEnd, .str p_134.fSlots]]) H (by rfl) fd100 (by rfl) (Nat.le_of_ble_eq_true rfl) ?_ ?_ <;> clear H
      ·rintro v_ Q_ H hqf60_C6
       simp only [f60_C6] at H
       dsimp only [List.length_cons, List.length_nil]
       refine AW.rseq ?_
       try simp only [↓wk, ↓wl, nqs, evV, ↓reduceIte, sevalprocAttr, hx_272, eReceiverInput, eL]
       refine AW.join (f60_J7 p_134 r_138 r_236 x_272 t_133) H ?_ fun hf60_J7 => ?_
       ·clear H
        rintro _ st0_ H hst_
        rw [f60_J7c] at hst_
        simp only [f60_J7] at H
        subst hst_
        have hw_283 := set_get hx_272 (ReceiverInput.mk x_272.fUniverse x_272.fSource p_134.fPriority x_272.fSeq x_272.fSync x_272.fLast x_272.fSlots x_272.fWait)
        have hw_284 := set_get hw_283 (ReceiverInput.mk x_272.fUniverse x_272.fSource p_134.fPriority p_134.fSeq x_272.fSync x_272.fLast x_272.fSlots x_272.fWait)
        have hw_285 := set_get hw_284 (ReceiverInput.mk x_272.fUniverse x_272.fSource p_134.fPriority p_134.fSeq p_134.fSync x_272.fLast x_272.fSlots x_272.fWait)
        have hw_286 := set_get hw_285 (ReceiverInput.mk x_272.fUniverse x_272.fSource p_134.fPriority p_134.fSeq p_134.fSync t_133 x_272.fSlots x_272.fWait)
        refine AW.rqseq ?_
        try simp only [↓wk, ↓wl, nqs, evV, ↓reduceIte, sevalprocAttr, hx_272, eReceiverInput, eL]
        refine evTs_pure hFnq H (fun _ h => f87_ok h) (by rfl) (by rfl) (by rfl) (by rfl) (fun _ => rfl) ?_ <;> clear H <;> intro r_287 H
        try simp only [eL, ↓wk, ↓wl, nqs, evV, ↓reduceIte, sevalprocAttr, hx_272, eReceiverInput, eL]
        refine rest_cat H ?_ <;> clear H <;> intro v_288 H
        try simp only [↓wk, ↓wl, nqs, evV, ↓reduceIte, sevalprocAttr, hx_272, eReceiverInput, eL]
        refine AW.rseq ?_
        try simp only [↓wk, ↓wl, nqs, evV, ↓reduceIte, sevalprocAttr, hx_272, eReceiverInput, eL]
        refine AW.ifc H (by rfl) ?_ ?_ <;> clear H <;> intro H
        ·refine AW.rend ?_
         try simp only [↓wk, ↓wl, nqs, evV, ↓reduceIte, sevalprocAttr, hx_272, eReceiverInput, eL]
         refine evTs_stE (enc := eReceiverInput) (ReceiverInput.mk x_272.fUniverse x_272.fSource p_134.fPriority p_134.fSeq p_134.fSync t_133 x_272.fSlots x_272.fWait) (ReceiverInput.mk x_272.fUniverse x_272.fSource p_134.fPriority p_134.fSeq p_134.fSync t_133 v_288 x_272.fWait) (by rfl) (by rfl) hw_286 (by rfl) ?_
         have hw_289 := set_get hw_286 (ReceiverInput.mk x_272.fUniverse x_272.fSource p_134.fPriority p_134.fSeq p_134.fSync t_133 v_288 x_272.fWait)
         try simp only [eReceiverInput, eL, ↓wk, ↓wl, nqs, evV, ↓reduceIte, sevalprocAttr, hx_272, eReceiverInput, eL, hw_289]
         refine evTs_stE (enc := eReceiverInput) (ReceiverInput.mk x_272.fUniverse x_272.fSource p_134.fPriority p_134.fSeq p_134.fSync t_133 v_288 x_272.fWait) (ReceiverInput.mk x_272.fUniverse x_272.fSource p_134.fPriority p_134.fSeq p_134.fSync t_133 v_288 ([])) (by rfl) (by rfl) hw_289 (by rfl) ?_
         have hw_290 := set_get hw_289 (ReceiverInput.mk x_272.fUniverse x_272.fSource p_134.fPriority p_134.fSeq p_134.fSync t_133 v_288 ([]))
         try simp only [eReceiverInput, eL, ↓wk, ↓wl, nqs, evV, ↓reduceIte, sevalprocAttr, hx_272, eReceiverInput, eL, hw_289, hw_290]
         cases H
         exact hqf60_C6 _ _ _ (.inl rfl) (Le.tq 2 [0, 1] [] rfl) (by simp only [resVs, omap, resV, f60_C6, rrm, ↓wk, ↓wl, evV, ↓reduceIte, sevalprocAttr, hx_272, eReceiverInput, eL, hw_289, hw_290]) (by simp only [f60_C6, rrm, ↓wk, ↓wl, evV, ↓reduceIte, sevalprocAttr, hx_272, eReceiverInput, eL, hw_289, hw_290])
        ·refine AW.rend ?_
         try simp only [↓wk, ↓wl, nqs, evV, ↓reduceIte, sevalprocAttr, hx_272, eReceiverInput, eL]
         refine evTs_stE (enc := eReceiverInput) (ReceiverInput.mk x_272.fUniverse x_272.fSource p_134.fPriority p_134.fSeq p_134.fSync t_133 x_272.fSlots x_272.fWait) (ReceiverInput.mk x_272.fUniverse x_272.fSource p_134.fPriority p_134.fSeq p_134.fSync t_133 x_272.fSlots v_288) (by rfl) (by rfl) hw_286 (by rfl) ?_
         have hw_291 := set_get hw_286 (ReceiverInput.mk x_272.fUniverse x_272.fSource p_134.fPriority p_134.fSeq p_134.fSync t_133 x_272.fSlots v_288)
         try simp only [eReceiverInput, eL, ↓wk, ↓wl, nqs, evV, ↓reduceIte, sevalprocAttr, hx_272, eReceiverInput, eL, hw_291]
         cases H
         exact hqf60_C6 _ _ _ (.inl rfl) (Le.tq 2 [0, 1] [] rfl) (by simp only [resVs, omap, resV, f60_C6, rrm, ↓wk, ↓wl, evV, ↓reduceIte, sevalprocAttr, hx_272, eReceiverInput, eL, hw_291]) (by simp only [f60_C6, rrm, ↓wk, ↓wl, evV, ↓reduceIte, sevalprocAttr, hx_272, eReceiverInput, eL, hw_291])
       ·refine AW.regt ?_
        refine evR.fork ?_
        try simp only [↓wk, ↓wl, nqs, evV, ↓reduceIte, sevalprocAttr, hx_272, eReceiverInput, eL]
        refine evR.both ?_ ?_
        ·refine evR.fork ?_
         try simp only [↓wk, ↓wl, nqs, evV, ↓reduceIte, sevalprocAttr, hx_272, eReceiverInput, eL]
         refine evR.both ?_ ?_
         ·refine evR.run ?_
          try simp only [↓wk, ↓wl, nqs, evV, ↓reduceIte, sevalprocAttr, hx_272, eReceiverInput, eL]
          refine evTs_stE (enc := eReceiverInput) x_272 (ReceiverInput.mk x_272.fUniverse x_272.fSource p_134.fPriority x_272.fSeq x_272.fSync x_272.fLast x_272.fSlots x_272.fWait) (by rfl) (by rfl) hx_272 (by rfl) ?_
          have hw_292 := set_get hx_272 (ReceiverInput.mk x_272.fUniverse x_272.fSource p_134.fPriority x_272.fSeq x_272.fSync x_272.fLast x_272.fSlots x_272.fWait)
          try simp only [eReceiverInput, eL, ↓wk, ↓wl, nqs, evV, ↓reduceIte, sevalprocAttr, hx_272, eReceiverInput, eL, hw_292]
          refine evTs_stE (enc := eReceiverInput) (ReceiverInput.mk x_272.fUniverse x_272.fSource p_134.fPriority x_272.fSeq x_272.fSync x_272.fLast x_272.fSlots x_272.fWait) (ReceiverInput.mk x_272.fUniverse x_272.fSource p_134.fPriority p_134.fSeq x_272.fSync x_272.fLast x_272.fSlots x_272.fWait) (by rfl) (by rfl) hw_292 (by rfl) ?_
          have hw_293 := set_get hw_292 (ReceiverInput.mk x_272.fUniverse x_272.fSource p_134.fPriority p_134.fSeq x_272.fSync x_272.fLast x_272.fSlots x_272.fWait)
          try simp only [eReceiverInput, eL, ↓wk, ↓wl, nqs, evV, ↓reduceIte, sevalprocAttr, hx_272, eReceiverInput, eL, hw_292, hw_293]
          refine evTs_stE (enc := eReceiverInput) (ReceiverInput.mk x_272.fUniverse x_272.fSource p_134.fPriority p_134.fSeq x_272.fSync x_272.fLast x_272.fSlots x_272.fWait) (ReceiverInput.mk x_272.fUniverse x_272.fSource p_134.fPriority p_134.fSeq p_134.fSync x_272.fLast x_272.fSlots x_272.fWait) (by rfl) (by rfl) hw_293 (by rfl) ?_
          have hw_294 := set_get hw_293 (ReceiverInput.mk x_272.fUniverse x_272.fSource p_134.fPriority p_134.fSeq p_134.fSync x_272.fLast x_272.fSlots x_272.fWait)
          try simp only [eReceiverInput, eL, ↓wk, ↓wl, nqs, evV, ↓reduceIte, sevalprocAttr, hx_272, eReceiverInput, eL, hw_292, hw_293, hw_294]
          refine evTs_stE (enc := eReceiverInput) (ReceiverInput.mk x_272.fUniverse x_272.fSource p_134.fPriority p_134.fSeq p_134.fSync x_272.fLast x_272.fSlots x_272.fWait) (ReceiverInput.mk x_272.fUniverse x_272.fSource p_134.fPriority p_134.fSeq p_134.fSync t_133 x_272.fSlots x_272.fWait) (by rfl) (by rfl) hw_294 (by rfl) ?_
          have hw_295 := set_get hw_294 (ReceiverInput.mk x_272.fUniverse x_272.fSource p_134.fPriority p_134.fSeq p_134.fSync t_133 x_272.fSlots x_272.fWait)
          try simp only [eReceiverInput, eL, ↓wk, ↓wl, nqs, evV, ↓reduceIte, sevalprocAttr, hx_272, eReceiverInput, eL, hw_292, hw_293, hw_294, hw_295]
          refine seqQ.norm ?_
          exact hf60_J7 _ _ H ((Le.tq 2 [0, 1, 2] [0, 5] (by simp only [f60_J7c, rrm, ↓wk, ↓wl, evV, ↓reduceIte, sevalprocAttr, hx_272, eReceiverInput, eL, hw_292, hw_293, hw_294, hw_295] <;> rfl)))
         ·refine evR.fork ?_
          try simp only [↓wk, ↓wl, nqs, evV, ↓reduceIte, sevalprocAttr, hx_272, eReceiverInput, eL]
          refine evTs_stE (enc := eReceiverInput) x_272 (ReceiverInput.mk x_272.fUniverse x_272.fSource p_134.fPriority x_272.fSeq x_272.fSync x_272.fLast x_272.fSlots x_272.fWait) (by rfl) (by rfl) hx_272 (by rfl) ?_
          have hw_292 := set_get hx_272 (ReceiverInput.mk x_272.fUniverse x_272.fSource p_134.fPriority x_272.fSeq x_272.fSync x_272.fLast x_272.fSlots x_272.fWait)
          try simp only [eReceiverInput, eL, ↓wk, ↓wl, nqs, evV, ↓reduceIte, sevalprocAttr, hx_272, eReceiverInput, eL, hw_292]
          refine evR.both ?_ ?_
          ·refine evR.run ?_
           try simp only [↓wk, ↓wl, nqs, evV, ↓reduceIte, sevalprocAttr, hx_272, eReceiverInput, eL, hw_292]
           refine evTs_stE (enc := eReceiverInput) (ReceiverInput.mk x_272.fUniverse x_272.fSource p_134.fPriority x_272.fSeq x_272.fSync x_272.fLast x_272.fSlots x_272.fWait) (ReceiverInput.mk x_272.fUniverse x_272.fSource p_134.fPriority p_134.fSeq x_272.fSync x_272.fLast x_272.fSlots x_272.fWait) (by rfl) (by rfl) hw_292 (by rfl) ?_
           have hw_293 := set_get hw_292 (ReceiverInput.mk x_272.fUniverse x_272.fSource p_134.fPriority p_134.fSeq x_272.fSync x_272.fLast x_272.fSlots x_272.fWait)
           try simp only [eReceiverInput, eL, ↓wk, ↓wl, nqs, evV, ↓reduceIte, sevalprocAttr, hx_272, eReceiverInput, eL, hw_292, hw_293]
           refine evTs_stE (enc := eReceiverInput) (ReceiverInput.mk x_272.fUniverse x_272.fSource p_134.fPriority p_134.fSeq x_272.fSync x_272.fLast x_272.fSlots x_272.fWait) (ReceiverInput.mk x_272.fUniverse x_272.fSource p_134.fPriority p_134.fSeq p_134.fSync x_272.fLast x_272.fSlots x_272.fWait) (by rfl) (by rfl) hw_293 (by rfl) ?_
           have hw_294 := set_get hw_293 (ReceiverInput.mk x_272.fUniverse x_272.fSource p_134.fPriority p_134.fSeq p_134.fSync x_272.fLast x_272.fSlots x_272.fWait)
           try simp only [eReceiverInput, eL, ↓wk, ↓wl, nqs, evV, ↓reduceIte, sevalprocAttr, hx_272, eReceiverInput, eL, hw_292, hw_293, hw_294]
           refine evTs_stE (enc := eReceiverInput) (ReceiverInput.mk x_272.fUniverse x_272.fSource p_134.fPriority p_134.fSeq p_134.fSync x_272.fLast x_272.fSlots x_272.fWait) (ReceiverInput.mk x_272.fUniverse x_272.fSource p_134.fPriority p_134.fSeq p_134.fSync t_133 x_272.fSlots x_272.fWait) (by rfl) (by rfl) hw_294 (by rfl) ?_
           have hw_295 := set_get hw_294 (ReceiverInput.mk x_272.fUniverse x_272.fSource p_134.fPriority p_134.fSeq p_134.fSync t_133 x_272.fSlots x_272.fWait)
           try simp only [eReceiverInput, eL, ↓wk, ↓wl, nqs, evV, ↓reduceIte, sevalprocAttr, hx_272, eReceiverInput, eL, hw_292, hw_293, hw_294, hw_295]
           refine seqQ.norm ?_
           exact hf60_J7 _ _ H ((Le.tq 2 [0, 1, 2] [0, 5] (by simp only [f60_J7c, rrm, ↓wk, ↓wl, evV, ↓reduceIte, sevalprocAttr, hx_272, eReceiverInput, eL, hw_292, hw_293, hw_294, hw_295] <;> rfl)))
          ·refine evR.run ?_
           try simp only [↓wk, ↓wl, nqs, evV, ↓reduceIte, sevalprocAttr, hx_272, eReceiverInput, eL, hw_292]
           refine evTs_stE (enc := eReceiverInput) (ReceiverInput.mk x_272.fUniverse x_272.fSource p_134.fPriority x_272.fSeq x_272.fSync x_272.fLast x_272.fSlots x_272.fWait) (ReceiverInput.mk x_272.fUniverse x_272.fSource p_134.fPriority p_134.fSeq x_272.fSync x_272.fLast x_272.fSlots x_272.fWait) (by rfl) (by rfl) hw_292 (by rfl) ?_
           have hw_293 := set_get hw_292 (ReceiverInput.mk x_272.fUniverse x_272.fSource p_134.fPriority p_134.fSeq x_272.fSync x_272.fLast x_272.fSlots x_272.fWait)
           try simp only [eReceiverInput, eL, ↓wk, ↓wl, nqs, evV, ↓reduceIte, sevalprocAttr, hx_272, eReceiverInput, eL, hw_292, hw_293]
           refine evTs_stE (enc := eReceiverInput) (ReceiverInput.mk x_272.fUniverse x_272.fSource p_134.fPriority p_134.fSeq x_272.fSync x_272.fLast x_272.fSlots x_272.fWait) (ReceiverInput.mk x_272.fUniverse x_272.fSource p_134.fPriority p_134.fSeq p_134.fSync x_272.fLast x_272.fSlots x_272.fWait) (by rfl) (by rfl) hw_293 (by rfl) ?_
           have hw_294 := set_get hw_293 (ReceiverInput.mk x_272.fUniverse x_272.fSource p_134.fPriority p_134.fSeq p_134.fSync x_272.fLast x_272.fSlots x_272.fWait)
           try simp only [eReceiverInput, eL, ↓wk, ↓wl, nqs, evV, ↓reduceIte, sevalprocAttr, hx_272, eReceiverInput, eL, hw_292, hw_293, hw_294]
           refine evTs_stE (enc := eReceiverInput) (ReceiverInput.mk x_272.fUniverse x_272.fSource p_134.fPriority p_134.fSeq p_134.fSync x_272.fLast x_272.fSlots x_272.fWait) (ReceiverInput.mk x_272.fUniverse x_272.fSource p_134.fPriority p_134.fSeq p_134.fSync t_133 x_272.fSlots x_272.fWait) (by rfl) (by rfl) hw_294 (by rfl) ?_
           have hw_295 := set_get hw_294 (ReceiverInput.mk x_272.fUniverse x_272.fSource p_134.fPriority p_134.fSeq p_134.fSync t_133 x_272.fSlots x_272.fWait)
           try simp only [eReceiverInput, eL, ↓wk, ↓wl, nqs, evV, ↓reduceIte, sevalprocAttr, hx_272, eReceiverInput, eL, hw_292, hw_293, hw_294, hw_295]
           refine seqQ.norm ?_
           exact hf60_J7 _ _ H ((Le.tq 2 [0, 1, 2] [0, 5] (by simp only [f60_J7c, rrm, ↓wk, ↓wl, evV, ↓reduceIte, sevalprocAttr, hx_272, eReceiverInput, eL, hw_292, hw_293, hw_294, hw_295] <;> rfl)))
        ·refine evR.fork ?_
         try simp only [↓wk, ↓wl, nqs, evV, ↓reduceIte, sevalprocAttr, hx_272, eReceiverInput, eL]
         refine evR.both ?_ ?_
         ·refine evR.fork ?_
          try simp only [↓wk, ↓wl, nqs, evV, ↓reduceIte, sevalprocAttr, hx_272, eReceiverInput, eL]
          refine evR.both ?_ ?_
          ·refine evR.run ?_
           try simp only [↓wk, ↓wl, nqs, evV, ↓reduceIte, sevalprocAttr, hx_272, eReceiverInput, eL]
           refine evTs_stE (enc := eReceiverInput) x_272 (ReceiverInput.mk x_272.fUniverse x_272.fSource p_134.fPriority x_272.fSeq x_272.fSync x_272.fLast x_272.fSlots x_272.fWait) (by rfl) (by rfl) hx_272 (by rfl) ?_
           have hw_292 := set_get hx_272 (ReceiverInput.mk x_272.fUniverse x_272.fSource p_134.fPriority x_272.fSeq x_272.fSync x_272.fLast x_272.fSlots x_272.fWait)
           try simp only [eReceiverInput, eL, ↓wk, ↓wl, nqs, evV, ↓reduceIte, sevalprocAttr, hx_272, eReceiverInput, eL, hw_292]
           refine evTs_stE (enc := eReceiverInput) (ReceiverInput.mk x_272.fUniverse x_272.fSource p_134.fPriority x_272.fSeq x_272.fSync x_272.fLast x_272.fSlots x_272.fWait) (ReceiverInput.mk x_272.fUniverse x_272.fSource p_134.fPriority p_134.fSeq x_272.fSync x_272.fLast x_272.fSlots x_272.fWait) (by rfl) (by rfl) hw_292 (by rfl) ?_
           have hw_293 := set_get hw_292 (ReceiverInput.mk x_272.fUniverse x_272.fSource p_134.fPriority p_134.fSeq x_272.fSync x_272.fLast x_272.fSlots x_272.fWait)
           try simp only [eReceiverInput, eL, ↓wk, ↓wl, nqs, evV, ↓reduceIte, sevalprocAttr, hx_272, eReceiverInput, eL, hw_292, hw_293]
           refine evTs_stE (enc := eReceiverInput) (ReceiverInput.mk x_272.fUniverse x_272.fSource p_134.fPriority p_134.fSeq x_272.fSync x_272.fLast x_272.fSlots x_272.fWait) (ReceiverInput.mk x_272.fUniverse x_272.fSource p_134.fPriority p_134.fSeq p_134.fSync x_272.fLast x_272.fSlots x_272.fWait) (by rfl) (by rfl) hw_293 (by rfl) ?_
           have hw_294 := set_get hw_293 (ReceiverInput.mk x_272.fUniverse x_272.fSource p_134.fPriority p_134.fSeq p_134.fSync x_272.fLast x_272.fSlots x_272.fWait)
           try simp only [eReceiverInput, eL, ↓wk, ↓wl, nqs, evV, ↓reduceIte, sevalprocAttr, hx_272, eReceiverInput, eL, hw_292, hw_293, hw_294]
           refine evTs_stE (enc := eReceiverInput) (ReceiverInput.mk x_272.fUniverse x_272.fSource p_134.fPriority p_134.fSeq p_134.fSync x_272.fLast x_272.fSlots x_272.fWait) (ReceiverInput.mk x_272.fUniverse x_272.fSource p_134.fPriority p_134.fSeq p_134.fSync t_133 x_272.fSlots x_272.fWait) (by rfl) (by rfl) hw_294 (by rfl) ?_
           have hw_295 := set_get hw_294 (ReceiverInput.mk x_272.fUniverse x_272.fSource p_134.fPriority p_134.fSeq p_134.fSync t_133 x_272.fSlots x_272.fWait)
           try simp only [eReceiverInput, eL, ↓wk, ↓wl, nqs, evV, ↓reduceIte, sevalprocAttr, hx_272, eReceiverInput, eL, hw_292, hw_293, hw_294, hw_295]
           refine seqQ.norm ?_
           exact hf60_J7 _ _ H ((Le.tq 2 [0, 1, 2] [0, 5] (by simp only [f60_J7c, rrm, ↓wk, ↓wl, evV, ↓reduceIte, sevalprocAttr, hx_272, eReceiverInput, eL, hw_292, hw_293, hw_294, hw_295] <;> rfl)))
          ·refine evR.run ?_
           try simp only [↓wk, ↓wl, nqs, evV, ↓reduceIte, sevalprocAttr, hx_272, eReceiverInput, eL]
           refine evTs_stE (enc := eReceiverInput) x_272 (ReceiverInput.mk x_272.fUniverse x_272.fSource p_134.fPriority x_272.fSeq x_272.fSync x_272.fLast x_272.fSlots x_272.fWait) (by rfl) (by rfl) hx_272 (by rfl) ?_
           have hw_292 := set_get hx_272 (ReceiverInput.mk x_272.fUniverse x_272.fSource p_134.fPriority x_272.fSeq x_272.fSync x_272.fLast x_272.fSlots x_272.fWait)
           try simp only [eReceiverInput, eL, ↓wk, ↓wl, nqs, evV, ↓reduceIte, sevalprocAttr, hx_272, eReceiverInput, eL, hw_292]
           refine evTs_stE (enc := eReceiverInput) (ReceiverInput.mk x_272.fUniverse x_272.fSource p_134.fPriority x_272.fSeq x_272.fSync x_272.fLast x_272.fSlots x_272.fWait) (ReceiverInput.mk x_272.fUniverse x_272.fSource p_134.fPriority p_134.fSeq x_272.fSync x_272.fLast x_272.fSlots x_272.fWait) (by rfl) (by rfl) hw_292 (by rfl) ?_
           have hw_293 := set_get hw_292 (ReceiverInput.mk x_272.fUniverse x_272.fSource p_134.fPriority p_134.fSeq x_272.fSync x_272.fLast x_272.fSlots x_272.fWait)
           try simp only [eReceiverInput, eL, ↓wk, ↓wl, nqs, evV, ↓reduceIte, sevalprocAttr, hx_272, eReceiverInput, eL, hw_292, hw_293]
           refine evTs_stE (enc := eReceiverInput) (ReceiverInput.mk x_272.fUniverse x_272.fSource p_134.fPriority p_134.fSeq x_272.fSync x_272.fLast x_272.fSlots x_272.fWait) (ReceiverInput.mk x_272.fUniverse x_272.fSource p_134.fPriority p_134.fSeq p_134.fSync x_272.fLast x_272.fSlots x_272.fWait) (by rfl) (by rfl) hw_293 (by rfl) ?_
           have hw_294 := set_get hw_293 (ReceiverInput.mk x_272.fUniverse x_272.fSource p_134.fPriority p_134.fSeq p_134.fSync x_272.fLast x_272.fSlots x_272.fWait)
           try simp only [eReceiverInput, eL, ↓wk, ↓wl, nqs, evV, ↓reduceIte, sevalprocAttr, hx_272, eReceiverInput, eL, hw_292, hw_293, hw_294]
           refine evTs_stE (enc := eReceiverInput) (ReceiverInput.mk x_272.fUniverse x_272.fSource p_134.fPriority p_134.fSeq p_134.fSync x_272.fLast x_272.fSlots x_272.fWait) (ReceiverInput.mk x_272.fUniverse x_272.fSource p_134.fPriority p_134.fSeq p_134.fSync t_133 x_272.fSlots x_272.fWait) (by rfl) (by rfl) hw_294 (by rfl) ?_
           have hw_295 := set_get hw_294 (ReceiverInput.mk x_272.fUniverse x_272.fSource p_134.fPriority p_134.fSeq p_134.fSync t_133 x_272.fSlots x_272.fWait)
           try simp only [eReceiverInput, eL, ↓wk, ↓wl, nqs, evV, ↓reduceIte, sevalprocAttr, hx_272, eReceiverInput, eL, hw_292, hw_293, hw_294, hw_295]
           refine seqQ.norm ?_
           exact hf60_J7 _ _ H ((Le.tq 2 [0, 1, 2] [0, 5] (by simp only [f60_J7c, rrm, ↓wk, ↓wl, evV, ↓reduceIte, sevalprocAttr, hx_272, eReceiverInput, eL, hw_292, hw_293, hw_294, hw_295] <;> rfl)))
         ·refine evR.fork ?_
          try simp only [↓wk, ↓wl, nqs, evV, ↓reduceIte, sevalprocAttr, hx_272, eReceiverInput, eL]
          refine evTs_stE (enc := eReceiverInput) x_272 (ReceiverInput.mk x_272.fUniverse x_272.fSource p_134.fPriority x_272.fSeq x_272.fSync x_272.fLast x_272.fSlots x_272.fWait) (by rfl) (by rfl) hx_272 (by rfl) ?_
          have hw_292 := set_get hx_272 (ReceiverInput.mk x_272.fUniverse x_272.fSource p_134.fPriority x_272.fSeq x_272.fSync x_272.fLast x_272.fSlots x_272.fWait)
          try simp only [eReceiverInput, eL, ↓wk, ↓wl, nqs, evV, ↓reduceIte, sevalprocAttr, hx_272, eReceiverInput, eL, hw_292]
          refine evR.both ?_ ?_
          ·refine evR.run ?_
           try simp only [↓wk, ↓wl, nqs, evV, ↓reduceIte, sevalprocAttr, hx_272, eReceiverInput, eL, hw_292]
           refine evTs_stE (enc := eReceiverInput) (ReceiverInput.mk x_272.fUniverse x_272.fSource p_134.fPriority x_272.fSeq x_272.fSync x_272.fLast x_272.fSlots x_272.fWait) (ReceiverInput.mk x_272.fUniverse x_272.fSource p_134.fPriority p_134.fSeq x_272.fSync x_272.fLast x_272.fSlots x_272.fWait) (by rfl) (by rfl) hw_292 (by rfl) ?_
           have hw_293 := set_get hw_292 (ReceiverInput.mk x_272.fUniverse x_272.fSource p_134.fPriority p_134.fSeq x_272.fSync x_272.fLast x_272.fSlots x_272.fWait)
           try simp only [eReceiverInput, eL, ↓wk, ↓wl, nqs, evV, ↓reduceIte, sevalprocAttr, hx_272, eReceiverInput, eL, hw_292, hw_293]
           refine evTs_stE (enc := eReceiverInput) (ReceiverInput.mk x_272.fUniverse x_272.fSource p_134.fPriority p_134.fSeq x_272.fSync x_272.fLast x_272.fSlots x_272.fWait) (ReceiverInput.mk x_272.fUniverse x_272.fSource p_134.fPriority p_134.fSeq p_134.fSync x_272.fLast x_272.fSlots x_272.fWait) (by rfl) (by rfl) hw_293 (by rfl) ?_
           have hw_294 := set_get hw_293 (ReceiverInput.mk x_272.fUniverse x_272.fSource p_134.fPriority p_134.fSeq p_134.fSync x_272.fLast x_272.fSlots x_272.fWait)
           try simp only [eReceiverInput, eL, ↓wk, ↓wl, nqs, evV, ↓reduceIte, sevalprocAttr, hx_272, eReceiverInput, eL, hw_292, hw_293, hw_294]
           refine evTs_stE (enc := eReceiverInput) (ReceiverInput.mk x_272.fUniverse x_272.fSource p_134.fPriority p_134.fSeq p_134.fSync x_272.fLast x_272.fSlots x_272.fWait) (ReceiverInput.mk x_272.fUniverse x_272.fSource p_134.fPriority p_134.fSeq p_134.fSync t_133 x_272.fSlots x_272.fWait) (by rfl) (by rfl) hw_294 (by rfl) ?_
           have hw_295 := set_get hw_294 (ReceiverInput.mk x_272.fUniverse x_272.fSource p_134.fPriority p_134.fSeq p_134.fSync t_133 x_272.fSlots x_272.fWait)
           try simp only [eReceiverInput, eL, ↓wk, ↓wl, nqs, evV, ↓reduceIte, sevalprocAttr, hx_272, eReceiverInput, eL, hw_292, hw_293, hw_294, hw_295]
           refine seqQ.norm ?_
           exact hf60_J7 _ _ H ((Le.tq 2 [0, 1, 2] [0, 5] (by simp only [f60_J7c, rrm, ↓wk, ↓wl, evV, ↓reduceIte, sevalprocAttr, hx_272, eReceiverInput, eL, hw_292, hw_293, hw_294, hw_295] <;> rfl)))
          ·refine evR.run ?_
           try simp only [↓wk, ↓wl, nqs, evV, ↓reduceIte, sevalprocAttr, hx_272, eReceiverInput, eL, hw_292]
           refine evTs_stE (enc := eReceiverInput) (ReceiverInput.mk x_272.fUniverse x_272.fSource p_134.fPriority x_272.fSeq x_272.fSync x_272.fLast x_272.fSlots x_272.fWait) (ReceiverInput.mk x_272.fUniverse x_272.fSource p_134.fPriority p_134.fSeq x_272.fSync x_272.fLast x_272.fSlots x_272.fWait) (by rfl) (by rfl) hw_292 (by rfl) ?_
           have hw_293 := set_get hw_292 (ReceiverInput.mk x_272.fUniverse x_272.fSource p_134.fPriority p_134.fSeq x_272.fSync x_272.fLast x_272.fSlots x_272.fWait)
           try simp only [eReceiverInput, eL, ↓wk, ↓wl, nqs, evV, ↓reduceIte, sevalprocAttr, hx_272, eReceiverInput, eL, hw_292, hw_293]
           refine evTs_stE (enc := eReceiverInput) (ReceiverInput.mk x_272.fUniverse x_272.fSource p_134.fPriority p_134.fSeq x_272.fSync x_272.fLast x_272.fSlots x_272.fWait) (ReceiverInput.mk x_272.fUniverse x_272.fSource p_134.fPriority p_134.fSeq p_134.fSync x_272.fLast x_272.fSlots x_272.fWait) (by rfl) (by rfl) hw_293 (by rfl) ?_
           have hw_294 := set_get hw_293 (ReceiverInput.mk x_272.fUniverse x_272.fSource p_134.fPriority p_134.fSeq p_134.fSync x_272.fLast x_272.fSlots x_272.fWait)
           try simp only [eReceiverInput, eL, ↓wk, ↓wl, nqs, evV, ↓reduceIte, sevalprocAttr, hx_272, eReceiverInput, eL, hw_292, hw_293, hw_294]
           refine evTs_stE (enc := eReceiverInput) (ReceiverInput.mk x_272.fUniverse x_272.fSource p_134.fPriority p_134.fSeq p_134.fSync x_272.fLast x_272.fSlots x_272.fWait) (ReceiverInput.mk x_272.fUniverse x_272.fSource p_134.fPriority p_134.fSeq p_134.fSync t_133 x_272.fSlots x_272.fWait) (by rfl) (by rfl) hw_294 (by rfl) ?_
           have hw_295 := set_get hw_294 (ReceiverInput.mk x_272.fUniverse x_272.fSource p_134.fPriority p_134.fSeq p_134.fSync t_133 x_272.fSlots x_272.fWait)
           try simp only [eReceiverInput, eL, ↓wk, ↓wl, nqs, evV, ↓reduceIte, sevalprocAttr, hx_272, eReceiverInput, eL, hw_292, hw_293, hw_294, hw_295]
           refine seqQ.norm ?_
           exact hf60_J7 _ _ H ((Le.tq 2 [0, 1, 2] [0, 5] (by simp only [f60_J7c, rrm, ↓wk, ↓wl, evV, ↓reduceIte, sevalprocAttr, hx_272, eReceiverInput, eL, hw_292, hw_293, hw_294, hw_295] <;> rfl)))
      ·rintro v_282 s_ h_ H hs_ hh_
       simp only [f60_C6] at H hs_ hh_
       subst hs_
       subst hh_
       have hlv_282 := (must_inv H).1
       have thlv_282 := fun f => take_map_eq hlv_282 f
       replace H := (must_inv H).2
       try simp only [↓wk, ↓wl, nqs, evV, ↓reduceIte, sevalprocAttr, hx_272, eReceiverInput, eL, hlv_282, thlv_282]
       refine AW.rseq ?_
       try simp only [↓wk, ↓wl, nqs, evV, ↓reduceIte, sevalprocAttr, hx_272, eReceiverInput, eL, hlv_282, thlv_282]
       refine AW.ret ?_
       cases H
       exact hQ _ _ _ _ (.inr rfl) (by simp only [resVs, omap, resV, ↓wk, ↓wl, nqs, evV, ↓reduceIte, sevalprocAttr, hx_272, eReceiverInput, eL, hlv_282, thlv_282]; rfl) (hand_k (by rfl) (by rfl) (by first | rfl | (simp only [List.length_map, List.length_set, hlv_282]; done) | simp [hlv_282]) (enc_all _) (by rfl)) (by first | exact Or.inl rfl | exact Or.inr rfl)
  ·refine AW.rseq ?_
   try simp only [↓wk, ↓wl, nqs, evV, ↓reduceIte, sevalprocAttr]
   refine evTs_ifg H (by rfl) ?_ ?_ <;> clear H <;> intro H
   ·try simp only [↓wk, ↓wl, nqs, evV, ↓reduceIte, sevalprocAttr]
    refine evTs_ifg H (by rfl) ?_ ?_ <;> clear H <;> intro H
    ·try simp only [↓wk, ↓wl, nqs, evV, ↓reduceIte, sevalprocAttr]
     refine AW.ift (by rfl) ?_
     refine AW.skip ?_
     refine seqQ.norm ?_
     exact hf60_J3 _ _ H ((Le.tz [0, 1] [1, 5, 8, 9, 10, 30] (by simp only [f60_J3c, rrm, ↓wk, ↓wl, evV, ↓reduceIte, sevalprocAttr] <;> rfl)))
    ·try simp only [↓wk, ↓wl, nqs, evV, ↓reduceIte, sevalprocAttr]
     refine AW.ifc H (by rfl) ?_ ?_ <;> clear H <;> intro H
     ·refine AW.skip ?_
      refine seqQ.norm ?_
      exact hf60_J3 _ _ H ((Le.tz [0, 1] [1, 5, 8, 9, 10, 30] (by simp only [f60_J3c, rrm, ↓wk, ↓wl, evV, ↓reduceIte, sevalprocAttr] <;> rfl)))
     ·refine AW.rend ?_
      try simp only [↓wk, ↓wl, nqs, evV, ↓reduceIte, sevalprocAttr]
      refine evTs_ifg H (by rfl) ?_ ?_ <;> clear H <;> intro H
      ·try simp only [↓wk, ↓wl, nqs, evV, ↓reduceIte, sevalprocAttr]
       refine evTs_atr (enc := eReceiverInput) H (by rfl) (by first | rfl | simp only [List.length_set]) (by rfl) ?_ <;> clear H <;> intro x_296 hx_296 H
       try simp only [eReceiverInput, eL, ↓wk, ↓wl, nqs, evV, ↓reduceIte, sevalprocAttr, hx_296, eReceiverInput, eL]
       refine evTs_pure hFn H (fun _ h => f97_ok h) (by rfl) (by rfl) (by rfl) (by rfl) (fun _ => rfl) ?_ <;> clear H <;> intro r_297 H
       try simp only [eL, ↓wk, ↓wl, nqs, evV, ↓reduceIte, sevalprocAttr, hx_296, eReceiverInput, eL]
       refine seqQ.norm ?_
       exact hf60_J3 _ _ H ((Le.tz [0, 1] [1, 5, 8, 9, 10, 30] (by simp only [f60_J3c, rrm, ↓wk, ↓wl, evV, ↓reduceIte, sevalprocAttr, hx_296, eReceiverInput, eL] <;> rfl)))
      ·try simp only [↓wk, ↓wl, nqs, evV, ↓reduceIte, sevalprocAttr]
       refine seqQ.norm ?_
       exact hf60_J3 _ _ H ((Le.tz [0, 1] [1, 5, 8, 9, 10, 30] (by simp only [f60_J3c, rrm, ↓wk, ↓wl, evV, ↓reduceIte, sevalprocAttr] <;> rfl)))
   ·try simp only [↓wk, ↓wl, nqs, evV, ↓reduceIte, sevalprocAttr]
    refine AW.iff (by rfl) ?_
    refine AW.rend ?_
    try simp only [↓wk, ↓wl, nqs, evV, ↓reduceIte, sevalprocAttr]
    refine evTs_ifg H (by rfl) ?_ ?_ <;> clear H <;> intro H
    ·try simp only [↓wk, ↓wl, nqs, evV, ↓reduceIte, sevalprocAttr]
     refine evTs_atr (enc := eReceiverInput) H (by rfl) (by first | rfl | simp only [List.length_set]) (by rfl) ?_ <;> clear H <;> intro x_298 hx_298 H
     try simp only [eReceiverInput, eL, ↓wk, ↓wl, nqs, evV, ↓reduceIte, sevalprocAttr, hx_298, eReceiverInput, eL]
     refine evTs_pure hFn H (fun _ h => f97_ok h) (by rfl) (by rfl) (by rfl) (by rfl) (fun _ => rfl) ?_ <;> clear H <;> intro r_299 H
     try simp only [eL, ↓wk, ↓wl, nqs, evV, ↓reduceIte, sevalprocAttr, hx_298, eReceiverInput, eL]
     refine seqQ.norm ?_
     exact hf60_J3 _ _ H ((Le.tz [0, 1] [1, 5, 8, 9, 10, 30] (by simp only [f60_J3c, rrm, ↓wk, ↓wl, evV, ↓reduceIte, sevalprocAttr, hx_298, eReceiverInput, eL] <;> rfl)))
    ·try simp only [↓wk, ↓wl, nqs, evV, ↓reduceIte, sevalprocAttr]
     refine seqQ.norm ?_
     exact hf60_J3 _ _ H ((Le.tz [0, 1] [1, 5, 8, 9, 10, 30] (by simp only [f60_J3c, rrm, ↓wk, ↓wl, evV, ↓reduceIte, sevalprocAttr] <;> rfl)))
theorem f60_im {old_132 : (List ReceiverInput)} {t_133 : Int} {p_134 : NetworkPacket} {r_ : (List ReceiverInput) × Bool} (H : f60 old_132 t_133 p_134 = some r_) : Pure Try.prog 60 [.sl 8 false (old_132.map eReceiverInput), .int .i64 t_133, .agg [.int .u64 p_134.fSource, .int .i64 p_134.fUniverse, .int .i64 p_134.fPriority, .int .i64 p_134.fSeq, .int .i64 p_134.fSync, .bool p_134.fEnd, .str p_134.fSlots]] (· = .tup [.sl 8 false (r_.1.map eReceiverInput), .bool r_.2]) := (f60_ok H).unfr (by first | exact enc_fits _ | simp only [frFits, List.all_cons, List.all_nil, enc_fits, Bool.and_self])
def c16_0 : C := .cond (.t 17) (.seq (.reg [iI 18 (.build [(1, (.sl 8 true []))] []), iI 19 (.mv (.t 9)), iN (.store 1 (.t 6) (.t 18)), iI 7 (.mv (.c (.bool false))), iI 8 (.mv (.t 19))]) .ret) (.skip)
def c16_1 : C := .seq (.reg [iI 16 (.mv (.t 9)), iI 17 (.bin .neq (.t 16) (.c (.int .i64 0)))]) c16_0
def c16_2 : C := .cond (.t 23) (.seq (.reg [iI 24 (.build [(1, (.sl 8 true []))] []), iI 25 (.mv (.t 10)), iN (.store 1 (.t 6) (.t 24)), iI 7 (.mv (.c (.bool false))), iI 8 (.mv (.t 25))]) .ret) (.skip)
def c16_3 : C := .seq (.reg [iI 22 (.mv (.t 10)), iI 23 (.bin .neq (.t 22) (.c (.int .i64 0)))]) c16_2
def c16_4 : C := .seq (.reg [iI 34 (.mv (.t 11)), iI 35 (.build [(1, (.sl 8 true []))] [(0, 0, (.t 34))]), iI 36 (.mv (.t 12)), iN (.store 1 (.t 6) (.t 35)), iI 7 (.mv (.t 36)), iI 8 (.mv (.c (.int .i64 0)))]) .ret
def c16_5 : C := .seq (.reg [iI 27 (.faddr 0 (.t 3)), iI 28 (.load 0 (.t 27)), iI 29 (.mv (.t 1)), iI 30 (.load 7 (.t 5)), iI 31 (.call (.c (.fn 60 [])) [(.t 28), (.t 29), (.t 30)]), iI 26 (.mv (.t 31)), iI 32 (.ext (.t 26) 0), iI 33 (.ext (.t 26) 1), iI 11 (.mv (.t 32)), iI 12 (.mv (.t 33))]) c16_4
def c16_6 : C := .seq (.seq (.reg [iI 20 (.load 7 (.t 5)), iI 21 (.call (.c (.fn 59 [])) [(.t 20)]), iI 10 (.mv (.t 21))]) c16_3) c16_5
def c16_7 : C := .seq (.seq (.reg [iI 13 (.load 1 (.t 3)), iI 14 (.mv (.t 1)), iI 15 (.call (.c (.fn 58 [])) [(.t 13), (.t 14)]), iI 9 (.mv (.t 15))]) c16_1) c16_6
def ir16 : C := .seq (.reg [iI 3 (.box (.t 0)), iI 5 (.box (.t 2)), iI 6 (.alloc [(1, (.sl 8 true []))]), iI 7 (.mv (.c (.bool false))), iI 8 (.mv (.c (.int .i64 0)))]) c16_7
theorem fd16 : fd? Try.prog 16 = some (37, [.cell 6 1, .slot 7, .slot 8], ir16) := by kernel_rfl
noncomputable def f16 (r_84 : ReceiverReceiver) (t_85 : Int) (p_86 : NetworkPacket) : Option (ReceiverReceiver × Bool × Int) :=
  (f58 r_84 t_85).bind fun r_111 => (if (decide (r_111 ≠ 0)) = true then (some ((ReceiverReceiver.mk ([])), false, r_111)) else (f59 p_86).bind fun r_113 => (if (decide (r_113 ≠ 0)) = true then (some ((ReceiverReceiver.mk ([])), false, r_113)) else (f60 r_84.fInputs t_85 p_86).bind fun r_300 => (some ((ReceiverReceiver.mk r_300.1), r_300.2, 0))))
theorem f16_ok {r_84 : ReceiverReceiver} {t_85 : Int} {p_86 : NetworkPacket} {r_ : ReceiverReceiver × Bool × Int} (H : f16 r_84 t_85 p_86 = some r_) : Pure Try.prog 16 [.agg [.sl 8 false (r_84.fInputs.map eReceiverInput)], .int .i64 t_85, .agg [.int .u64 p_86.fSource, .int .i64 p_86.fUniverse, .int .i64 p_86.fPriority, .int .i64 p_86.fSeq, .int .i64 p_86.fSync, .bool p_86.fEnd, .str p_86.fSlots]] (· = .tup [.agg [.sl 8 false (r_.1.fInputs.map eReceiverInput)], .bool r_.2.1, .int .i64 r_.2.2]) := by
 refine Pure.walk3 fd16 none (Nat.le_of_ble_eq_true rfl) (by rfl) fun Q hQ => ?_
 simp only [f16] at H
 refine AW.rseq ?_
 try simp only [↓wk, ↓wl, nq, evV, ↓reduceIte, sevalprocAttr]
 refine AW.sseq ?_
 refine AW.rseq ?_
 try simp only [↓wk, ↓wl, nq, evV, ↓reduceIte, sevalprocAttr]
 refine evTs_pure hFn H (fun _ h => f58_ok h) (by rfl) (by rfl) (by rfl) (by rfl) (fun _ => rfl) ?_ <;> clear H <;> intro r_111 H
 try simp only [eL, ↓wk, ↓wl, nq, evV, ↓reduceIte, sevalprocAttr]
 refine AW.rseq ?_
 try simp only [↓wk, ↓wl, nq, evV, ↓reduceIte, sevalprocAttr]
 refine AW.ifc H (by rfl) ?_ ?_ <;> clear H <;> intro H
 ·refine AW.rseq ?_
  try simp only [↓wk, ↓wl, nq, evV, ↓reduceIte, sevalprocAttr]
  refine AW.ret ?_
  refine seqQ.ret ?_
  cases H
  exact hQ.fin
 ·refine AW.skip ?_
  refine seqQ.norm ?_
  refine AW.sseq ?_
  refine AW.rseq ?_
  try simp only [↓wk, ↓wl, nq, evV, ↓reduceIte, sevalprocAttr]
  refine evTs_pure hFn H (fun _ h => f59_ok h) (by rfl) (by rfl) (by rfl) (by rfl) (fun _ => rfl) ?_ <;> clear H <;> intro r_113 H
  try simp only [eL, ↓wk, ↓wl, nq, evV, ↓reduceIte, sevalprocAttr]
  refine AW.rseq ?_
  try simp only [↓wk, ↓wl, nq, evV, ↓reduceIte, sevalprocAttr]
  refine AW.ifc H (by rfl) ?_ ?_ <;> clear H <;> intro H
  ·refine AW.rseq ?_
   try simp only [↓wk, ↓wl, nq, evV, ↓reduceIte, sevalprocAttr]
   refine AW.ret ?_
   refine seqQ.ret ?_
   cases H
   exact hQ.fin
  ·refine AW.skip ?_
   refine seqQ.norm ?_
   refine AW.rseq ?_
   try simp only [↓wk, ↓wl, nq, evV, ↓reduceIte, sevalprocAttr]
   refine evTs_pure hFn H (fun _ h => f60_im h) (by rfl) (by rfl) (by rfl) (by rfl) (fun _ => rfl) ?_ <;> clear H <;> intro r_300 H
   try simp only [eL, ↓wk, ↓wl, nq, evV, ↓reduceIte, sevalprocAttr]
   refine AW.rseq ?_
   try simp only [↓wk, ↓wl, nq, evV, ↓reduceIte, sevalprocAttr]
   refine AW.ret ?_
   cases H
   exact hQ.fin
noncomputable def f24_L1 (l_8 : (List ReceiverEvent)) : Lp (Int × Int × (List ReceiverInput)) ((Int × (List ReceiverInput)) ⊕ (Int)) where
  body := fun (n_307, v_308, r_309) => (if (decide (v_308 < ((l_8.length : Nat) : Int))) = true then (at? l_8 v_308).bind fun x_315 => (f16 (ReceiverReceiver.mk r_309) x_315.fAt x_315.fPacket).bind fun r_316 => (if (decide (r_316.2.2 ≠ 0)) = true then (some (.brk (Sum.inr r_316.2.2))) else (if r_316.2.1 = true then (some (.next ((IntKind.i64.wrap (n_307 + 1)), (IntKind.i64.wrap (v_308 + 1)), r_316.1.fInputs))) else (some (.next (n_307, (IntKind.i64.wrap (v_308 + 1)), r_316.1.fInputs))))) else (some (.brk (Sum.inl (n_307, r_309)))))
  cst := fun (n_307, v_308, r_309) => ⟨put (put (put (put (put (put (fun _ => .junk) 26 (.int .i64 v_308)) 25 (.int .i64 ((l_8.length : Nat) : Int))) 24 (.sl 8 false (l_8.map eReceiverEvent))) 8 (.int .i64 n_307)) 4 (.ptr 1 0)) 2 (.ptr 0 0), [.cel [.sl 8 false (r_309.map eReceiverInput)], .cel [.sl 8 true []]]⟩
theorem f24_L1c (l_8 : (List ReceiverEvent)) (n_307 : Int) (v_308 : Int) (r_309 : (List ReceiverInput)) : (f24_L1 l_8).cst (n_307, v_308, r_309) = ⟨put (put (put (put (put (put (fun _ => .junk) 26 (.int .i64 v_308)) 25 (.int .i64 ((l_8.length : Nat) : Int))) 24 (.sl 8 false (l_8.map eReceiverEvent))) 8 (.int .i64 n_307)) 4 (.ptr 1 0)) 2 (.ptr 0 0), [.cel [.sl 8 false (r_309.map eReceiverInput)], .cel [.sl 8 true []]]⟩ := rfl
def c24_0 : C := .cond (.t 17) (.seq (.reg [iI 18 (.build [(1, (.sl 8 true []))] []), iI 19 (.mv (.t 7)), iN (.store 1 (.t 4) (.t 18)), iI 5 (.mv (.c (.int .i64 0))), iI 6 (.mv (.t 19))]) .ret) (.skip)
def c24_1 : C := .seq (.reg [iI 16 (.mv (.t 7)), iI 17 (.bin .neq (.t 16) (.c (.int .i64 0)))]) c24_0
def c24_2 : C := .cond (.t 22) (.seq (.reg [iI 23 (.build [(1, (.sl 8 true []))] []), iN (.store 1 (.t 4) (.t 23)), iI 5 (.mv (.c (.int .i64 0))), iI 6 (.mv (.c (.int .i64 5)))]) .ret) (.skip)
def c24_3 : C := .cond (.t 41) (.seq (.reg [iI 42 (.build [(1, (.sl 8 true []))] []), iI 43 (.mv (.t 13)), iN (.store 1 (.t 4) (.t 42)), iI 5 (.mv (.c (.int .i64 0))), iI 6 (.mv (.t 43))]) .ret) (.skip)
def c24_4 : C := .cond (.t 45) (.reg [iI 46 (.mv (.t 8)), iI 47 (.bin .add (.t 46) (.c (.int .i64 1))), iI 8 (.mv (.t 47))]) (.skip)
def c24_5 : C := .seq (.reg [iI 45 (.mv (.t 12))]) c24_4
def c24_6 : C := .seq (.reg [iI 44 (.load 1 (.t 11)), iN (.store 1 (.t 2) (.t 44))]) c24_5
def c24_7 : C := .seq (.seq (.reg [iI 40 (.mv (.t 13)), iI 41 (.bin .neq (.t 40) (.c (.int .i64 0)))]) c24_3) c24_6
def c24_8 : C := .seq (.reg [iI 31 (.load 1 (.t 2)), iI 32 (.faddr 0 (.t 10)), iI 33 (.load 0 (.t 32)), iI 34 (.faddr 1 (.t 10)), iI 35 (.load 7 (.t 34)), iI 36 (.call (.c (.fn 16 [])) [(.t 31), (.t 33), (.t 35)]), iI 30 (.mv (.t 36)), iI 37 (.ext (.t 30) 0), iI 38 (.ext (.t 30) 1), iI 39 (.ext (.t 30) 2), iI 11 (.alloc [(1, (.sl 8 true []))]), iN (.store 1 (.t 11) (.t 37)), iI 12 (.mv (.t 38)), iI 13 (.mv (.t 39))]) c24_7
def c24_9 : C := .reg [iI 48 (.bin .add (.t 26) (.c (.int .i64 1))), iI 26 (.mv (.t 48))]
def c24_10 : C := .seq (.block 1 (.seq (.reg [iI 28 (.iaddr 8 (.t 24) (.t 26)), iI 29 (.load 8 (.t 28)), iI 10 (.alloc [(1, (.int .i64 0)), (1, (.int .u64 0)), (1, (.int .i64 0)), (1, (.int .i64 0)), (1, (.int .i64 0)), (1, (.int .i64 0)), (1, (.bool false)), (1, (.str []))]), iN (.store 8 (.t 10) (.t 29))]) c24_8)) c24_9
def c24_11 : C := .seq (.cond (.t 27) (.skip) (.exit 0)) c24_10
def c24_12 : C := .block 0 (.loop (.seq (.reg [iI 27 (.bin .lss (.t 26) (.t 25))]) c24_11))
def c24_13 : C := .seq (.reg [iI 49 (.load 1 (.t 2)), iI 50 (.mv (.t 8)), iN (.store 1 (.t 4) (.t 49)), iI 5 (.mv (.t 50)), iI 6 (.mv (.c (.int .i64 0)))]) .ret
def c24_14 : C := .seq (.seq (.reg [iI 24 (.mv (.t 1)), iI 25 (.len 0 (.t 24)), iI 26 (.mv (.c (.int .i64 0)))]) c24_12) c24_13
def c24_15 : C := .seq (.reg [iI 8 (.mv (.c (.int .i64 0)))]) c24_14
def c24_16 : C := .seq (.seq (.reg [iI 20 (.mv (.t 1)), iI 21 (.len 0 (.t 20)), iI 22 (.bin .gtr (.t 21) (.c (.int .i64 4096)))]) c24_2) c24_15
def c24_17 : C := .seq (.seq (.reg [iI 14 (.load 1 (.t 2)), iI 15 (.call (.c (.fn 19 [])) [(.t 14)]), iI 7 (.mv (.t 15))]) c24_1) c24_16
def ir24 : C := .seq (.reg [iI 2 (.box (.t 0)), iI 4 (.alloc [(1, (.sl 8 true []))]), iI 5 (.mv (.c (.int .i64 0))), iI 6 (.mv (.c (.int .i64 0)))]) c24_17
theorem fd24 : fd? Try.prog 24 = some (51, [.cell 4 1, .slot 5, .slot 6], ir24) := by kernel_rfl
noncomputable def f24 (r_7 : ReceiverReceiver) (l_8 : (List ReceiverEvent)) : Option (ReceiverReceiver × Int × Int) :=
  (f19 r_7).bind fun r_82 => (if (decide (r_82 ≠ 0)) = true then (some ((ReceiverReceiver.mk ([])), 0, r_82)) else (if (decide (4096 < ((l_8.length : Nat) : Int))) = true then (some ((ReceiverReceiver.mk ([])), 0, 5)) else ((Lp.run (f24_L1 l_8) (0, 0, r_7.fInputs)).bind fun r_ => match r_ with | (Sum.inl (n_312, r_313)) => (some ((ReceiverReceiver.mk r_313), n_312, 0)) | (Sum.inr v_314) => (some ((ReceiverReceiver.mk ([])), 0, v_314)))))
theorem f24_ok {r_7 : ReceiverReceiver} {l_8 : (List ReceiverEvent)} {r_ : ReceiverReceiver × Int × Int} (H : f24 r_7 l_8 = some r_) : Pure Try.prog 24 [.agg [.sl 8 false (r_7.fInputs.map eReceiverInput)], .sl 8 false (l_8.map eReceiverEvent)] (· = .tup [.agg [.sl 8 false (r_.1.fInputs.map eReceiverInput)], .int .i64 r_.2.1, .int .i64 r_.2.2]) := by
 refine Pure.walk3 fd24 none (Nat.le_of_ble_eq_true rfl) (by rfl) fun Q hQ => ?_
 simp only [f24] at H
 refine AW.rseq ?_
 try simp only [↓wk, ↓wl, nq, evV, ↓reduceIte, sevalprocAttr]
 refine AW.sseq ?_
 refine AW.rseq ?_
 try simp only [↓wk, ↓wl, nq, evV, ↓reduceIte, sevalprocAttr]
 refine evTs_pure hFn H (fun _ h => f19_ok h) (by rfl) (by rfl) (by rfl) (by rfl) (fun _ => rfl) ?_ <;> clear H <;> intro r_82 H
 try simp only [eL, ↓wk, ↓wl, nq, evV, ↓reduceIte, sevalprocAttr]
 refine AW.rseq ?_
 try simp only [↓wk, ↓wl, nq, evV, ↓reduceIte, sevalprocAttr]
 refine AW.ifc H (by rfl) ?_ ?_ <;> clear H <;> intro H
 ·refine AW.rseq ?_
  try simp only [↓wk, ↓wl, nq, evV, ↓reduceIte, sevalprocAttr]
  refine AW.ret ?_
  refine seqQ.ret ?_
  cases H
  exact hQ.fin
 ·refine AW.skip ?_
  refine seqQ.norm ?_
  refine AW.sseq ?_
  refine AW.rseq ?_
  try simp only [↓wk, ↓wl, nq, evV, ↓reduceIte, sevalprocAttr]
  refine AW.ifc H (by rfl) ?_ ?_ <;> clear H <;> intro H
  ·refine AW.rseq ?_
   try simp only [↓wk, ↓wl, nq, evV, ↓reduceIte, sevalprocAttr]
   refine AW.ret ?_
   refine seqQ.ret ?_
   cases H
   exact hQ.fin
  ·refine AW.skip ?_
   refine seqQ.norm ?_
   refine AW.rseq ?_
   try simp only [↓wk, ↓wl, nq, evV, ↓reduceIte, sevalprocAttr]
   refine AW.sseq ?_
   refine AW.rseq ?_
   try simp only [↓wk, ↓wl, nq, evV, ↓reduceIte, sevalprocAttr]
   refine AW.bend ?_
   refine AW.iter H ((Le.tz [0, 1] [2, 4, 8, 24, 25, 26] (by simp only [f24_L1c, rrm, ↓wk, ↓wl, evV, ↓reduceIte, sevalprocAttr] <;> rfl))) ?_ <;> clear H
   rintro ⟨n_307, v_308, r_309⟩ x_ st0_ H hst_
   rw [f24_L1c] at hst_
   simp only [f24_L1] at H
   subst hst_
   refine AW.rseq ?_
   try simp only [↓wk, ↓wl, nq, evV, ↓reduceIte, sevalprocAttr]
   refine AW.sseq ?_
   refine AW.ifc H (by rfl) ?_ ?_ <;> clear H <;> intro H
   ·refine AW.skip ?_
    refine seqQ.norm ?_
    refine AW.bseq ?_
    refine AW.rseq ?_
    try simp only [↓wk, ↓wl, nq, evV, ↓reduceIte, sevalprocAttr]
    refine evTs_at (enc := eReceiverEvent) H (by rfl) (by rfl) ?_ <;> clear H <;> intro x_315 H
    try simp only [eReceiverEvent, eL, ↓wk, ↓wl, nq, evV, ↓reduceIte, sevalprocAttr]
    refine AW.rseq ?_
    try simp only [↓wk, ↓wl, nq, evV, ↓reduceIte, sevalprocAttr]
    refine evTs_pure hFn H (fun _ h => f16_ok h) (by rfl) (by rfl) (by rfl) (by rfl) (fun _ => rfl) ?_ <;> clear H <;> intro r_316 H
    try simp only [eL, eReceiverReceiver, ↓wk, ↓wl, nq, evV, ↓reduceIte, sevalprocAttr]
    refine AW.sseq ?_
    refine AW.rseq ?_
    try simp only [↓wk, ↓wl, nq, evV, ↓reduceIte, sevalprocAttr]
    refine AW.ifc H (by rfl) ?_ ?_ <;> clear H <;> intro H
    ·refine AW.rseq ?_
     try simp only [↓wk, ↓wl, nq, evV, ↓reduceIte, sevalprocAttr]
     refine AW.ret ?_
     refine seqQ.ret ?_
     refine blkQ.ret ?_
     refine loopQ.ret H ?_ <;> clear H <;> intro H
     try dsimp only at H
     refine blk0.ret ?_
     refine seqQ.ret ?_
     cases H
     exact hQ.fin
    ·refine AW.skip ?_
     refine seqQ.norm ?_
     refine AW.rseq ?_
     try simp only [↓wk, ↓wl, nq, evV, ↓reduceIte, sevalprocAttr]
     refine AW.rseq ?_
     try simp only [↓wk, ↓wl, nq, evV, ↓reduceIte, sevalprocAttr]
     refine AW.ifc H (by rfl) ?_ ?_ <;> clear H <;> intro H
     ·refine AW.rend ?_
      try simp only [↓wk, ↓wl, nq, evV, ↓reduceIte, sevalprocAttr]
      refine blkQ.norm ?_
      refine AW.rend ?_
      try simp only [↓wk, ↓wl, nq, evV, ↓reduceIte, sevalprocAttr]
      exact loopQ.next H ((Le.tz [0, 1] [2, 4, 8, 24, 25, 26] (by simp only [f24_L1c, rrm, ↓wk, ↓wl, evV, ↓reduceIte, sevalprocAttr] <;> rfl)))
     ·refine AW.skip ?_
      refine blkQ.norm ?_
      refine AW.rend ?_
      try simp only [↓wk, ↓wl, nq, evV, ↓reduceIte, sevalprocAttr]
      exact loopQ.next H ((Le.tz [0, 1] [2, 4, 8, 24, 25, 26] (by simp only [f24_L1c, rrm, ↓wk, ↓wl, evV, ↓reduceIte, sevalprocAttr] <;> rfl)))
   ·refine AW.exit ?_
    refine seqQ.exit ?_
    refine loopQ.exit H ?_ <;> clear H <;> intro H
    try dsimp only at H
    refine blk0.here ?_
    refine seqQ.norm ?_
    refine AW.rseq ?_
    try simp only [↓wk, ↓wl, nq, evV, ↓reduceIte, sevalprocAttr]
    refine AW.ret ?_
    cases H
    exact hQ.fin
noncomputable def f73_L1 (r_381 : ReceiverReceiver) (universe_383 : Int) (t_382 : Int) : Lp (Int × (List ReceiverInput)) ((List ReceiverInput)) where
  body := fun (v_408, out_409) => (if (decide (v_408 < ((r_381.fInputs.length : Nat) : Int))) = true then (at? r_381.fInputs v_408).bind fun x_421 => (if (decide (x_421.fUniverse ≠ universe_383)) = true then (some (.next ((IntKind.i64.wrap (v_408 + 1)), out_409))) else (if (decide (2500 < (IntKind.i64.wrap (t_382 - x_421.fLast)))) = true then (some (.next ((IntKind.i64.wrap (v_408 + 1)), out_409))) else (if (x_421.fSlots == ([])) = true then (some (.next ((IntKind.i64.wrap (v_408 + 1)), out_409))) else (if (decide (0 < ((out_409.length : Nat) : Int))) = true then (at? out_409 0).bind fun x_423 => (if (decide (x_423.fPriority < x_421.fPriority)) = true then (app? 80 [] ([x_421])).bind fun out_424 => (some (.next ((IntKind.i64.wrap (v_408 + 1)), out_424))) else (if (decide (((out_409.length : Nat) : Int) = 0)) = true then (app? 80 out_409 ([x_421])).bind fun out_425 => (some (.next ((IntKind.i64.wrap (v_408 + 1)), out_425))) else (at? out_409 0).bind fun x_426 => (if (decide (x_421.fPriority = x_426.fPriority)) = true then (app? 80 out_409 ([x_421])).bind fun out_427 => (some (.next ((IntKind.i64.wrap (v_408 + 1)), out_427))) else (some (.next ((IntKind.i64.wrap (v_408 + 1)), out_409)))))) else (if (decide (((out_409.length : Nat) : Int) = 0)) = true then (app? 80 out_409 ([x_421])).bind fun out_428 => (some (.next ((IntKind.i64.wrap (v_408 + 1)), out_428))) else (at? out_409 0).bind fun x_429 => (if (decide (x_421.fPriority = x_429.fPriority)) = true then (app? 80 out_409 ([x_421])).bind fun out_430 => (some (.next ((IntKind.i64.wrap (v_408 + 1)), out_430))) else (some (.next ((IntKind.i64.wrap (v_408 + 1)), out_409))))))))) else (some (.brk out_409)))
  cst := fun (v_408, out_409) => ⟨put (put (put (put (put (put (fun _ => .junk) 13 (.int .i64 v_408)) 12 (.int .i64 ((r_381.fInputs.length : Nat) : Int))) 11 (.sl 8 false (r_381.fInputs.map eReceiverInput))) 7 (.row 8 0 0 out_409.length)) 2 (.int .i64 universe_383)) 1 (.int .i64 t_382), [.els 8 (out_409.map eReceiverInput)]⟩
theorem f73_L1c (r_381 : ReceiverReceiver) (universe_383 : Int) (t_382 : Int) (v_408 : Int) (out_409 : (List ReceiverInput)) : (f73_L1 r_381 universe_383 t_382).cst (v_408, out_409) = ⟨put (put (put (put (put (put (fun _ => .junk) 13 (.int .i64 v_408)) 12 (.int .i64 ((r_381.fInputs.length : Nat) : Int))) 11 (.sl 8 false (r_381.fInputs.map eReceiverInput))) 7 (.row 8 0 0 out_409.length)) 2 (.int .i64 universe_383)) 1 (.int .i64 t_382), [.els 8 (out_409.map eReceiverInput)]⟩ := rfl
def c73_0 : C := .cond (.t 32) (.exit 1) (.skip)
def c73_1 : C := .cond (.t 44) (.reg [iI 7 (.mv (.c (.sl 8 true [])))]) (.skip)
def c73_2 : C := .cond (.t 56) (.reg [iI 57 (.mv (.t 7)), iI 58 (.load 8 (.t 9)), iI 59 (.mkslp 8 1 (.agg [(.int .i64 0), (.int .u64 0), (.int .i64 0), (.int .i64 0), (.int .i64 0), (.int .i64 0), (.str []), (.str [])]) [(0, (.t 58))]), iI 60 (.append 8 80 (.t 57) (.t 59)), iI 7 (.mv (.t 60))]) (.skip)
def c73_3 : C := .seq (.reg [iI 45 (.mv (.t 7)), iI 46 (.len 0 (.t 45)), iI 47 (.bin .eql (.t 46) (.c (.int .i64 0))), iI 48 (.mv (.t 47)), iG (some 49) 48 false (.faddr 2 (.t 9)), iG (some 50) 48 false (.load 0 (.t 49)), iG (some 51) 48 false (.mv (.t 7)), iG (some 52) 48 false (.iaddr 8 (.t 51) (.c (.int .i64 0))), iG (some 53) 48 false (.faddr 2 (.t 52)), iG (some 54) 48 false (.load 0 (.t 53)), iG (some 55) 48 false (.bin .eql (.t 50) (.t 54)), iI 56 (.pick (.t 48) (.c (.bool true)) (.t 55))]) c73_2
def c73_4 : C := .seq (.seq (.reg [iI 33 (.mv (.t 7)), iI 34 (.len 0 (.t 33)), iI 35 (.bin .gtr (.t 34) (.c (.int .i64 0))), iI 36 (.mv (.t 35)), iG (some 37) 36 true (.faddr 2 (.t 9)), iG (some 38) 36 true (.load 0 (.t 37)), iG (some 39) 36 true (.mv (.t 7)), iG (some 40) 36 true (.iaddr 8 (.t 39) (.c (.int .i64 0))), iG (some 41) 36 true (.faddr 2 (.t 40)), iG (some 42) 36 true (.load 0 (.t 41)), iG (some 43) 36 true (.bin .gtr (.t 38) (.t 42)), iI 44 (.pick (.t 36) (.t 43) (.c (.bool false)))]) c73_1) c73_3
def c73_5 : C := .seq (.seq (.reg [iI 17 (.faddr 0 (.t 9)), iI 18 (.load 0 (.t 17)), iI 19 (.mv (.t 2)), iI 20 (.bin .neq (.t 18) (.t 19)), iI 21 (.mv (.t 20)), iG (some 22) 21 false (.mv (.t 1)), iG (some 23) 21 false (.faddr 5 (.t 9)), iG (some 24) 21 false (.load 0 (.t 23)), iG (some 25) 21 false (.bin .sub (.t 22) (.t 24)), iG (some 26) 21 false (.bin .gtr (.t 25) (.c (.int .i64 2500))), iI 27 (.pick (.t 21) (.c (.bool true)) (.t 26)), iI 28 (.mv (.t 27)), iG (some 29) 28 false (.faddr 6 (.t 9)), iG (some 30) 28 false (.load 0 (.t 29)), iG (some 31) 28 false (.bin .eql (.t 30) (.c (.str []))), iI 32 (.pick (.t 28) (.c (.bool true)) (.t 31))]) c73_0) c73_4
def c73_6 : C := .reg [iI 61 (.bin .add (.t 13) (.c (.int .i64 1))), iI 13 (.mv (.t 61))]
def c73_7 : C := .seq (.block 1 (.seq (.reg [iI 15 (.iaddr 8 (.t 11) (.t 13)), iI 16 (.load 8 (.t 15)), iI 9 (.alloc [(1, (.int .i64 0)), (1, (.int .u64 0)), (1, (.int .i64 0)), (1, (.int .i64 0)), (1, (.int .i64 0)), (1, (.int .i64 0)), (1, (.str [])), (1, (.str []))]), iN (.store 8 (.t 9) (.t 16))]) c73_5)) c73_6
def c73_8 : C := .seq (.cond (.t 14) (.skip) (.exit 0)) c73_7
def c73_9 : C := .block 0 (.loop (.seq (.reg [iI 14 (.bin .lss (.t 13) (.t 12))]) c73_8))
def c73_10 : C := .seq (.reg [iI 62 (.mv (.t 7)), iI 6 (.mv (.t 62))]) .ret
def c73_11 : C := .seq (.seq (.reg [iI 10 (.faddr 0 (.t 3)), iI 11 (.load 0 (.t 10)), iI 12 (.len 0 (.t 11)), iI 13 (.mv (.c (.int .i64 0)))]) c73_9) c73_10
def c73_12 : C := .seq (.reg [iI 7 (.mv (.c (.sl 8 true [])))]) c73_11
def ir73 : C := .seq (.reg [iI 3 (.box (.t 0)), iI 6 (.mv (.c (.sl 8 true [])))]) c73_12
theorem fd73 : fd? Try.prog 73 = some (63, [.slot 6], ir73) := by kernel_rfl
noncomputable def f73 (r_381 : ReceiverReceiver) (t_382 : Int) (universe_383 : Int) : Option ((List ReceiverInput)) :=
  (Lp.run (f73_L1 r_381 universe_383 t_382) (0, [])).bind fun out_420 => (some out_420)
theorem f73_ok {r_381 : ReceiverReceiver} {t_382 : Int} {universe_383 : Int} {r_ : (List ReceiverInput)} (H : f73 r_381 t_382 universe_383 = some r_) : Pure Try.prog 73 [.agg [.sl 8 false (r_381.fInputs.map eReceiverInput)], .int .i64 t_382, .int .i64 universe_383] (· = .fr 8 (r_.map eReceiverInput)) := by
 refine Pure.walk3 fd73 (some 0) (Nat.le_of_ble_eq_true rfl) (by rfl) fun Q hQ => ?_
 simp only [f73] at H
 refine AW.rseq ?_
 try simp only [↓wk, ↓wl, nq, evV, ↓reduceIte, sevalprocAttr]
 refine AW.rseq ?_
 try simp only [↓wk, ↓wl, nq, evV, ↓reduceIte, sevalprocAttr]
 refine AW.sseq ?_
 refine AW.rseq ?_
 try simp only [↓wk, ↓wl, nq, evV, ↓reduceIte, sevalprocAttr]
 refine AW.bend ?_
 refine AW.iter H ((Le.trans (Le.nilRow (i := 7) (e := 8) (by simp only [↓wk, ↓wl, nq, evV, ↓reduceIte, sevalprocAttr])) (Le.tz [1] [1, 2, 7, 11, 12, 13] (by simp only [f73_L1c, rrm, ↓wk, ↓wl, evV, ↓reduceIte, sevalprocAttr] <;> rfl)))) ?_ <;> clear H
 rintro ⟨v_408, out_409⟩ x_ st0_ H hst_
 rw [f73_L1c] at hst_
 simp only [f73_L1] at H
 subst hst_
 refine AW.rseq ?_
 try simp only [↓wk, ↓wl, nq, evV, ↓reduceIte, sevalprocAttr]
 refine AW.sseq ?_
 refine AW.ifc H (by rfl) ?_ ?_ <;> clear H <;> intro H
 ·refine AW.skip ?_
  refine seqQ.norm ?_
  refine AW.bseq ?_
  refine AW.rseq ?_
  try simp only [↓wk, ↓wl, nq, evV, ↓reduceIte, sevalprocAttr]
  refine evTs_at (enc := eReceiverInput) H (by rfl) (by rfl) ?_ <;> clear H <;> intro x_421 H
  try simp only [eReceiverInput, eL, ↓wk, ↓wl, nq, evV, ↓reduceIte, sevalprocAttr]
  refine AW.sseq ?_
  refine AW.rseq ?_
  try simp only [↓wk, ↓wl, nq, evV, ↓reduceIte, sevalprocAttr]
  refine evTs_ifg H (by rfl) ?_ ?_ <;> clear H <;> intro H
  ·try simp only [↓wk, ↓wl, nq, evV, ↓reduceIte, sevalprocAttr]
   refine AW.ift (by rfl) ?_
   refine AW.exit ?_
   refine seqQ.exit ?_
   refine blkQ.here ?_
   refine AW.rend ?_
   try simp only [↓wk, ↓wl, nq, evV, ↓reduceIte, sevalprocAttr]
   exact loopQ.next H ((Le.tz [0] [1, 2, 7, 11, 12, 13] (by simp only [f73_L1c, rrm, ↓wk, ↓wl, evV, ↓reduceIte, sevalprocAttr] <;> rfl)))
  ·try simp only [↓wk, ↓wl, nq, evV, ↓reduceIte, sevalprocAttr]
   refine evTs_ifg H (by rfl) ?_ ?_ <;> clear H <;> intro H
   ·try simp only [↓wk, ↓wl, nq, evV, ↓reduceIte, sevalprocAttr]
    refine AW.ift (by rfl) ?_
    refine AW.exit ?_
    refine seqQ.exit ?_
    refine blkQ.here ?_
    refine AW.rend ?_
    try simp only [↓wk, ↓wl, nq, evV, ↓reduceIte, sevalprocAttr]
    exact loopQ.next H ((Le.tz [0] [1, 2, 7, 11, 12, 13] (by simp only [f73_L1c, rrm, ↓wk, ↓wl, evV, ↓reduceIte, sevalprocAttr] <;> rfl)))
   ·try simp only [↓wk, ↓wl, nq, evV, ↓reduceIte, sevalprocAttr]
    refine AW.ifc H (by rfl) ?_ ?_ <;> clear H <;> intro H
    ·refine AW.exit ?_
     refine seqQ.exit ?_
     refine blkQ.here ?_
     refine AW.rend ?_
     try simp only [↓wk, ↓wl, nq, evV, ↓reduceIte, sevalprocAttr]
     exact loopQ.next H ((Le.tz [0] [1, 2, 7, 11, 12, 13] (by simp only [f73_L1c, rrm, ↓wk, ↓wl, evV, ↓reduceIte, sevalprocAttr] <;> rfl)))
    ·refine AW.skip ?_
     refine seqQ.norm ?_
     refine AW.sseq ?_
     refine AW.rseq ?_
     try simp only [↓wk, ↓wl, nq, evV, ↓reduceIte, sevalprocAttr]
     refine evTs_ifg H (by rfl) ?_ ?_ <;> clear H <;> intro H
     ·try simp only [↓wk, ↓wl, nq, evV, ↓reduceIte, sevalprocAttr]
      refine evTs_atr (enc := eReceiverInput) H (by rfl) (by first | rfl | simp only [List.length_set]) (by rfl) ?_ <;> clear H <;> intro x_423 hx_423 H
      replace hx_423 : (out_409.map eReceiverInput)[0]? = some (eReceiverInput x_423) := hx_423
      try simp only [eReceiverInput, eL, ↓wk, ↓wl, nq, evV, ↓reduceIte, sevalprocAttr, hx_423, eReceiverInput, eL]
      refine AW.ifc H (by rfl) ?_ ?_ <;> clear H <;> intro H
      ·refine AW.rend ?_
       try simp only [↓wk, ↓wl, nq, evV, ↓reduceIte, sevalprocAttr, hx_423, eReceiverInput, eL]
       refine seqQ.norm ?_
       refine AW.rseq ?_
       try simp only [↓wk, ↓wl, nq, evV, ↓reduceIte, sevalprocAttr, hx_423, eReceiverInput, eL]
       refine AW.ift (by rfl) ?_
       refine AW.rend ?_
       try simp only [↓wk, ↓wl, nq, evV, ↓reduceIte, sevalprocAttr, hx_423, eReceiverInput, eL]
       refine evTs_app0 (enc := eReceiverInput) H (by rfl) (by rfl) ?_ <;> clear H <;> intro out_424 H
       try simp only [↓wk, ↓wl, nq, evV, ↓reduceIte, sevalprocAttr, hx_423, eReceiverInput, eL]
       refine blkQ.norm ?_
       refine AW.rend ?_
       try simp only [↓wk, ↓wl, nq, evV, ↓reduceIte, sevalprocAttr, hx_423, eReceiverInput, eL]
       exact loopQ.next H ((Le.tz [2] [1, 2, 7, 11, 12, 13] (by simp only [f73_L1c, rrm, ↓wk, ↓wl, evV, ↓reduceIte, sevalprocAttr, hx_423, eReceiverInput, eL] <;> rfl)))
      ·refine AW.skip ?_
       refine seqQ.norm ?_
       refine AW.rseq ?_
       try simp only [↓wk, ↓wl, nq, evV, ↓reduceIte, sevalprocAttr, hx_423, eReceiverInput, eL]
       refine evTs_ifg H (by rfl) ?_ ?_ <;> clear H <;> intro H
       ·try simp only [↓wk, ↓wl, nq, evV, ↓reduceIte, sevalprocAttr, hx_423, eReceiverInput, eL]
        refine AW.ift (by rfl) ?_
        refine AW.rend ?_
        try simp only [↓wk, ↓wl, nq, evV, ↓reduceIte, sevalprocAttr, hx_423, eReceiverInput, eL]
        refine evTs_app (enc := eReceiverInput) H (by rfl) (by first | rfl | simp only [List.length_set, hx_423, eReceiverInput, eL]) (by rfl) (by rfl) ?_ <;> clear H <;> intro out_425 H
        try simp only [↓wk, ↓wl, nq, evV, ↓reduceIte, sevalprocAttr, hx_423, eReceiverInput, eL]
        refine blkQ.norm ?_
        refine AW.rend ?_
        try simp only [↓wk, ↓wl, nq, evV, ↓reduceIte, sevalprocAttr, hx_423, eReceiverInput, eL]
        exact loopQ.next H ((Le.tz [2] [1, 2, 7, 11, 12, 13] (by simp only [f73_L1c, rrm, ↓wk, ↓wl, evV, ↓reduceIte, sevalprocAttr, hx_423, eReceiverInput, eL] <;> rfl)))
       ·try simp only [↓wk, ↓wl, nq, evV, ↓reduceIte, sevalprocAttr, hx_423, eReceiverInput, eL]
        refine evTs_atr (enc := eReceiverInput) H (by rfl) (by first | rfl | simp only [List.length_set, hx_423, eReceiverInput, eL]) (by rfl) ?_ <;> clear H <;> intro x_426 hx_426 H
        replace hx_426 : (out_409.map eReceiverInput)[0]? = some (eReceiverInput x_426) := hx_426
        try simp only [eReceiverInput, eL, ↓wk, ↓wl, nq, evV, ↓reduceIte, sevalprocAttr, eReceiverInput, eL, hx_426]
        refine AW.ifc H (by rfl) ?_ ?_ <;> clear H <;> intro H
        ·refine AW.rend ?_
         try simp only [↓wk, ↓wl, nq, evV, ↓reduceIte, sevalprocAttr, eReceiverInput, eL, hx_426]
         refine evTs_app (enc := eReceiverInput) H (by rfl) (by first | rfl | simp only [List.length_set, eReceiverInput, eL, hx_426]) (by rfl) (by rfl) ?_ <;> clear H <;> intro out_427 H
         try simp only [↓wk, ↓wl, nq, evV, ↓reduceIte, sevalprocAttr, eReceiverInput, eL, hx_426]
         refine blkQ.norm ?_
         refine AW.rend ?_
         try simp only [↓wk, ↓wl, nq, evV, ↓reduceIte, sevalprocAttr, eReceiverInput, eL, hx_426]
         exact loopQ.next H ((Le.tz [2] [1, 2, 7, 11, 12, 13] (by simp only [f73_L1c, rrm, ↓wk, ↓wl, evV, ↓reduceIte, sevalprocAttr, eReceiverInput, eL, hx_426] <;> rfl)))
        ·refine AW.skip ?_
         refine blkQ.norm ?_
         refine AW.rend ?_
         try simp only [↓wk, ↓wl, nq, evV, ↓reduceIte, sevalprocAttr, eReceiverInput, eL, hx_426]
         exact loopQ.next H ((Le.tz [0] [1, 2, 7, 11, 12, 13] (by simp only [f73_L1c, rrm, ↓wk, ↓wl, evV, ↓reduceIte, sevalprocAttr, eReceiverInput, eL, hx_426] <;> rfl)))
     ·try simp only [↓wk, ↓wl, nq, evV, ↓reduceIte, sevalprocAttr]
      refine AW.iff (by rfl) ?_
      refine AW.skip ?_
      refine seqQ.norm ?_
      refine AW.rseq ?_
      try simp only [↓wk, ↓wl, nq, evV, ↓reduceIte, sevalprocAttr]
      refine evTs_ifg H (by rfl) ?_ ?_ <;> clear H <;> intro H
      ·try simp only [↓wk, ↓wl, nq, evV, ↓reduceIte, sevalprocAttr]
       refine AW.ift (by rfl) ?_
       refine AW.rend ?_
       try simp only [↓wk, ↓wl, nq, evV, ↓reduceIte, sevalprocAttr]
       refine evTs_app (enc := eReceiverInput) H (by rfl) (by first | rfl | simp only [List.length_set]) (by rfl) (by rfl) ?_ <;> clear H <;> intro out_428 H
       try simp only [↓wk, ↓wl, nq, evV, ↓reduceIte, sevalprocAttr]
       refine blkQ.norm ?_
       refine AW.rend ?_
       try simp only [↓wk, ↓wl, nq, evV, ↓reduceIte, sevalprocAttr]
       exact loopQ.next H ((Le.tz [2] [1, 2, 7, 11, 12, 13] (by simp only [f73_L1c, rrm, ↓wk, ↓wl, evV, ↓reduceIte, sevalprocAttr] <;> rfl)))
      ·try simp only [↓wk, ↓wl, nq, evV, ↓reduceIte, sevalprocAttr]
       refine evTs_atr (enc := eReceiverInput) H (by rfl) (by first | rfl | simp only [List.length_set]) (by rfl) ?_ <;> clear H <;> intro x_429 hx_429 H
       replace hx_429 : (out_409.map eReceiverInput)[0]? = some (eReceiverInput x_429) := hx_429
       try simp only [eReceiverInput, eL, ↓wk, ↓wl, nq, evV, ↓reduceIte, sevalprocAttr, hx_429, eReceiverInput, eL]
       refine AW.ifc H (by rfl) ?_ ?_ <;> clear H <;> intro H
       ·refine AW.rend ?_
        try simp only [↓wk, ↓wl, nq, evV, ↓reduceIte, sevalprocAttr, hx_429, eReceiverInput, eL]
        refine evTs_app (enc := eReceiverInput) H (by rfl) (by first | rfl | simp only [List.length_set, hx_429, eReceiverInput, eL]) (by rfl) (by rfl) ?_ <;> clear H <;> intro out_430 H
        try simp only [↓wk, ↓wl, nq, evV, ↓reduceIte, sevalprocAttr, hx_429, eReceiverInput, eL]
        refine blkQ.norm ?_
        refine AW.rend ?_
        try simp only [↓wk, ↓wl, nq, evV, ↓reduceIte, sevalprocAttr, hx_429, eReceiverInput, eL]
        exact loopQ.next H ((Le.tz [2] [1, 2, 7, 11, 12, 13] (by simp only [f73_L1c, rrm, ↓wk, ↓wl, evV, ↓reduceIte, sevalprocAttr, hx_429, eReceiverInput, eL] <;> rfl)))
       ·refine AW.skip ?_
        refine blkQ.norm ?_
        refine AW.rend ?_
        try simp only [↓wk, ↓wl, nq, evV, ↓reduceIte, sevalprocAttr, hx_429, eReceiverInput, eL]
        exact loopQ.next H ((Le.tz [0] [1, 2, 7, 11, 12, 13] (by simp only [f73_L1c, rrm, ↓wk, ↓wl, evV, ↓reduceIte, sevalprocAttr, hx_429, eReceiverInput, eL] <;> rfl)))
 ·refine AW.exit ?_
  refine seqQ.exit ?_
  refine loopQ.exit H ?_ <;> clear H <;> intro H
  try dsimp only at H
  refine blk0.here ?_
  refine seqQ.norm ?_
  refine AW.rseq ?_
  try simp only [↓wk, ↓wl, nq, evV, ↓reduceIte, sevalprocAttr]
  refine AW.ret ?_
  cases H
  exact hQ _ _ _ _ (.inr rfl) (by simp only [resVs, omap, resV, ↓wk, ↓wl, nq, evV, ↓reduceIte, sevalprocAttr]; rfl) (hand_1 (by rfl) (by simp) (enc_all _)) (by first | exact Or.inl rfl | exact Or.inr rfl)
theorem f73_im {r_381 : ReceiverReceiver} {t_382 : Int} {universe_383 : Int} {r_ : (List ReceiverInput)} (H : f73 r_381 t_382 universe_383 = some r_) : Pure Try.prog 73 [.agg [.sl 8 false (r_381.fInputs.map eReceiverInput)], .int .i64 t_382, .int .i64 universe_383] (· = .sl 8 false (r_.map eReceiverInput)) := (f73_ok H).unfr (by first | exact enc_fits _ | simp only [frFits, List.all_cons, List.all_nil, enc_fits, Bool.and_self])
noncomputable def f30_L3 (x_702 : ReceiverInput) (v_682 : Int) (r_648 : (List ReceiverInput)) (universe_592 : Int) (out_593 : (List ApiFrame)) (t_378 : Int) (r_377 : ReceiverReceiver) : Lp (Int × (List Int)) ((List Int)) where
  body := fun (v_711, slots_712) => (if (decide (v_711 < 512)) = true then (arr? 512 slots_712 v_711).bind fun x_717 => (at? x_702.fSlots v_711).bind fun b_718 => (arr? 512 slots_712 v_711).bind fun x_719 => (some (.next ((IntKind.i64.wrap (v_711 + 1)), (slots_712.set v_711.toNat (if (b_718.toNat : Int) > x_717 then (b_718.toNat : Int) else x_717))))) else (some (.brk slots_712)))
  cst := fun (v_711, slots_712) => ⟨put (put (put (put (put (put (put (put (put (put (fun _ => .junk) 37 (.int .i64 v_711)) 33 (.int .i64 v_682)) 32 (.int .i64 ((r_648.length : Nat) : Int))) 31 (.sl 8 false (r_648.map eReceiverInput))) 12 (.ptr 3 0)) 10 (.ptr 2 0)) 8 (.int .i64 universe_592)) 7 (.row 2 1 0 out_593.length)) 2 (.ptr 0 0)) 1 (.int .i64 t_378), [.cel [.sl 8 false (r_377.fInputs.map eReceiverInput)], .els 2 (out_593.map eApiFrame), .cel (slots_712.map (AV.int .u8)), .cel [.int .i64 x_702.fUniverse, .int .u64 x_702.fSource, .int .i64 x_702.fPriority, .int .i64 x_702.fSeq, .int .i64 x_702.fSync, .int .i64 x_702.fLast, .str x_702.fSlots, .str x_702.fWait]]⟩
theorem f30_L3c (x_702 : ReceiverInput) (v_682 : Int) (r_648 : (List ReceiverInput)) (universe_592 : Int) (out_593 : (List ApiFrame)) (t_378 : Int) (r_377 : ReceiverReceiver) (v_711 : Int) (slots_712 : (List Int)) : (f30_L3 x_702 v_682 r_648 universe_592 out_593 t_378 r_377).cst (v_711, slots_712) = ⟨put (put (put (put (put (put (put (put (put (put (fun _ => .junk) 37 (.int .i64 v_711)) 33 (.int .i64 v_682)) 32 (.int .i64 ((r_648.length : Nat) : Int))) 31 (.sl 8 false (r_648.map eReceiverInput))) 12 (.ptr 3 0)) 10 (.ptr 2 0)) 8 (.int .i64 universe_592)) 7 (.row 2 1 0 out_593.length)) 2 (.ptr 0 0)) 1 (.int .i64 t_378), [.cel [.sl 8 false (r_377.fInputs.map eReceiverInput)], .els 2 (out_593.map eApiFrame), .cel (slots_712.map (AV.int .u8)), .cel [.int .i64 x_702.fUniverse, .int .u64 x_702.fSource, .int .i64 x_702.fPriority, .int .i64 x_702.fSeq, .int .i64 x_702.fSync, .int .i64 x_702.fLast, .str x_702.fSlots, .str x_702.fWait]]⟩ := rfl
noncomputable def f30_L2 (r_648 : (List ReceiverInput)) (universe_592 : Int) (out_593 : (List ApiFrame)) (t_378 : Int) (r_377 : ReceiverReceiver) : Lp (Int × (List Int)) ((List Int)) where
  body := fun (v_682, slots_683) => (if (decide (v_682 < ((r_648.length : Nat) : Int))) = true then (at? r_648 v_682).bind fun x_702 => (Lp.run (f30_L3 x_702 v_682 r_648 universe_592 out_593 t_378 r_377) (0, slots_683)).bind fun slots_716 => (some (.next ((IntKind.i64.wrap (v_682 + 1)), slots_716))) else (some (.brk slots_683)))
  cst := fun (v_682, slots_683) => ⟨put (put (put (put (put (put (put (put (fun _ => .junk) 33 (.int .i64 v_682)) 32 (.int .i64 ((r_648.length : Nat) : Int))) 31 (.sl 8 false (r_648.map eReceiverInput))) 10 (.ptr 2 0)) 8 (.int .i64 universe_592)) 7 (.row 2 1 0 out_593.length)) 2 (.ptr 0 0)) 1 (.int .i64 t_378), [.cel [.sl 8 false (r_377.fInputs.map eReceiverInput)], .els 2 (out_593.map eApiFrame), .cel (slots_683.map (AV.int .u8))]⟩
theorem f30_L2c (r_648 : (List ReceiverInput)) (universe_592 : Int) (out_593 : (List ApiFrame)) (t_378 : Int) (r_377 : ReceiverReceiver) (v_682 : Int) (slots_683 : (List Int)) : (f30_L2 r_648 universe_592 out_593 t_378 r_377).cst (v_682, slots_683) = ⟨put (put (put (put (put (put (put (put (fun _ => .junk) 33 (.int .i64 v_682)) 32 (.int .i64 ((r_648.length : Nat) : Int))) 31 (.sl 8 false (r_648.map eReceiverInput))) 10 (.ptr 2 0)) 8 (.int .i64 universe_592)) 7 (.row 2 1 0 out_593.length)) 2 (.ptr 0 0)) 1 (.int .i64 t_378), [.cel [.sl 8 false (r_377.fInputs.map eReceiverInput)], .els 2 (out_593.map eApiFrame), .cel (slots_683.map (AV.int .u8))]⟩ := rfl
noncomputable def f30_L1 (r_377 : ReceiverReceiver) (t_378 : Int) : Lp (Int × (List ApiFrame)) ((List ApiFrame)) where
  body := fun (universe_592, out_593) => (if (decide (universe_592 ≤ 8)) = true then (f73 r_377 t_378 universe_592).bind fun r_648 => (if (decide (((r_648.length : Nat) : Int) = 0)) = true then (some (.next ((IntKind.i64.wrap (universe_592 + 1)), out_593))) else (arr0? 512 (0 : Int)).bind fun slots_649 => (Lp.run (f30_L2 r_648 universe_592 out_593 t_378 r_377) (0, slots_649)).bind fun slots_699 => (must? (slots_699.length = 512)).bind fun _ => (app? 24 out_593 ([(ApiFrame.mk universe_592 (slots_699.map b8))])).bind fun out_700 => (some (.next ((IntKind.i64.wrap (universe_592 + 1)), out_700)))) else (some (.brk out_593)))
  cst := fun (universe_592, out_593) => ⟨put (put (put (put (fun _ => .junk) 8 (.int .i64 universe_592)) 7 (.row 2 1 0 out_593.length)) 2 (.ptr 0 0)) 1 (.int .i64 t_378), [.cel [.sl 8 false (r_377.fInputs.map eReceiverInput)], .els 2 (out_593.map eApiFrame)]⟩
theorem f30_L1c (r_377 : ReceiverReceiver) (t_378 : Int) (universe_592 : Int) (out_593 : (List ApiFrame)) : (f30_L1 r_377 t_378).cst (universe_592, out_593) = ⟨put (put (put (put (fun _ => .junk) 8 (.int .i64 universe_592)) 7 (.row 2 1 0 out_593.length)) 2 (.ptr 0 0)) 1 (.int .i64 t_378), [.cel [.sl 8 false (r_377.fInputs.map eReceiverInput)], .els 2 (out_593.map eApiFrame)]⟩ := rfl
def c30_0 : C := .cond (.t 18) (.seq (.reg [iI 19 (.mv (.t 6)), iI 4 (.mv (.c (.sl 2 true []))), iI 5 (.mv (.t 19))]) .ret) (.skip)
def c30_1 : C := .seq (.reg [iI 17 (.mv (.t 6)), iI 18 (.bin .neq (.t 17) (.c (.int .i64 0)))]) c30_0
def c30_2 : C := .cond (.t 21) (.skip) (.exit 0)
def c30_3 : C := .cond (.t 30) (.exit 1) (.skip)
def c30_4 : C := .reg [iI 40 (.mv (.t 13)), iI 41 (.mv (.t 13)), iI 42 (.aiaddr 0 512 (.t 10) (.t 41)), iI 43 (.load 0 (.t 42)), iI 44 (.faddr 6 (.t 12)), iI 45 (.load 0 (.t 44)), iI 46 (.mv (.t 13)), iI 47 (.sidx (.t 45) (.t 46)), iI 48 (.maxmin true (.t 43) [(.t 47)]), iI 49 (.aiaddr 0 512 (.t 10) (.t 40)), iN (.store 0 (.t 49) (.t 48))]
def c30_5 : C := .reg [iI 50 (.bin .add (.t 37) (.c (.int .i64 1))), iI 37 (.mv (.t 50))]
def c30_6 : C := .seq (.block 5 (.seq (.reg [iI 39 (.mv (.t 37)), iI 13 (.mv (.t 39))]) c30_4)) c30_5
def c30_7 : C := .seq (.cond (.t 38) (.skip) (.exit 4)) c30_6
def c30_8 : C := .block 4 (.loop (.seq (.reg [iI 38 (.bin .lss (.t 37) (.c (.int .i64 512)))]) c30_7))
def c30_9 : C := .seq (.reg [iI 37 (.mv (.c (.int .i64 0)))]) c30_8
def c30_10 : C := .reg [iI 51 (.bin .add (.t 33) (.c (.int .i64 1))), iI 33 (.mv (.t 51))]
def c30_11 : C := .seq (.block 3 (.seq (.reg [iI 35 (.iaddr 8 (.t 31) (.t 33)), iI 36 (.load 8 (.t 35)), iI 12 (.alloc [(1, (.int .i64 0)), (1, (.int .u64 0)), (1, (.int .i64 0)), (1, (.int .i64 0)), (1, (.int .i64 0)), (1, (.int .i64 0)), (1, (.str [])), (1, (.str []))]), iN (.store 8 (.t 12) (.t 36))]) c30_9)) c30_10
def c30_12 : C := .seq (.cond (.t 34) (.skip) (.exit 2)) c30_11
def c30_13 : C := .block 2 (.loop (.seq (.reg [iI 34 (.bin .lss (.t 33) (.t 32))]) c30_12))
def c30_14 : C := .reg [iI 52 (.mv (.t 7)), iI 53 (.mv (.t 8)), iI 54 (.aslice 0 512 (.t 10) none none), iI 55 (.cstr (.t 54)), iI 56 (.build [(1, (.int .i64 0)), (1, (.str []))] [(0, 0, (.t 53)), (1, 0, (.t 55))]), iI 57 (.mkslp 2 1 (.agg [(.int .i64 0), (.str [])]) [(0, (.t 56))]), iI 58 (.append 2 24 (.t 52) (.t 57)), iI 7 (.mv (.t 58))]
def c30_15 : C := .seq (.seq (.reg [iI 31 (.mv (.t 9)), iI 32 (.len 0 (.t 31)), iI 33 (.mv (.c (.int .i64 0)))]) c30_13) c30_14
def c30_16 : C := .seq (.reg [iI 10 (.alloc [(512, (.int .u8 0))])]) c30_15
def c30_17 : C := .seq (.seq (.reg [iI 28 (.mv (.t 9)), iI 29 (.len 0 (.t 28)), iI 30 (.bin .eql (.t 29) (.c (.int .i64 0)))]) c30_3) c30_16
def c30_18 : C := .reg [iI 22 (.mv (.t 8)), iI 23 (.bin .add (.t 22) (.c (.int .i64 1))), iI 8 (.mv (.t 23))]
def c30_19 : C := .seq (.block 1 (.seq (.reg [iI 24 (.load 1 (.t 2)), iI 25 (.mv (.t 1)), iI 26 (.mv (.t 8)), iI 27 (.call (.c (.fn 73 [])) [(.t 24), (.t 25), (.t 26)]), iI 9 (.mv (.t 27))]) c30_17)) c30_18
def c30_20 : C := .block 0 (.loop (.seq (.seq (.reg [iI 20 (.mv (.t 8)), iI 21 (.bin .leq (.t 20) (.c (.int .i64 8)))]) c30_2) c30_19))
def c30_21 : C := .seq (.reg [iI 59 (.mv (.t 7)), iI 4 (.mv (.t 59)), iI 5 (.mv (.c (.int .i64 0)))]) .ret
def c30_22 : C := .seq (.seq (.reg [iI 8 (.mv (.c (.int .i64 1)))]) c30_20) c30_21
def c30_23 : C := .seq (.reg [iI 7 (.mv (.c (.sl 2 true [])))]) c30_22
def c30_24 : C := .seq (.seq (.reg [iI 14 (.load 1 (.t 2)), iI 15 (.mv (.t 1)), iI 16 (.call (.c (.fn 58 [])) [(.t 14), (.t 15)]), iI 6 (.mv (.t 16))]) c30_1) c30_23
def ir30 : C := .seq (.reg [iI 2 (.box (.t 0)), iI 4 (.mv (.c (.sl 2 true []))), iI 5 (.mv (.c (.int .i64 0)))]) c30_24
theorem fd30 : fd? Try.prog 30 = some (60, [.slot 4, .slot 5], ir30) := by kernel_rfl
noncomputable def f30 (r_377 : ReceiverReceiver) (t_378 : Int) : Option ((List ApiFrame) × Int) :=
  (f58 r_377 t_378).bind fun r_380 => (if (decide (r_380 ≠ 0)) = true then (some ([], r_380)) else (Lp.run (f30_L1 r_377 t_378) (1, [])).bind fun out_647 => (some (out_647, 0)))
theorem f30_ok {r_377 : ReceiverReceiver} {t_378 : Int} {r_ : (List ApiFrame) × Int} (H : f30 r_377 t_378 = some r_) : Pure Try.prog 30 [.agg [.sl 8 false (r_377.fInputs.map eReceiverInput)], .int .i64 t_378] (· = .tup [.fr 2 (r_.1.map eApiFrame), .int .i64 r_.2]) := by
 refine Pure.walk3 fd30 (some 0) (Nat.le_of_ble_eq_true rfl) (by rfl) fun Q hQ => ?_
 simp only [f30] at H
 refine AW.rseq ?_
 try simp only [↓wk, ↓wl, nqa, evV, ↓reduceIte, Nat.reduceEqDiff, Nat.reduceAdd, Nat.reduceSub, Nat.reduceLeDiff, Nat.reduceLT, Nat.reduceBEq, reduceCtorEq, Int.reduceEq]
 refine evTs_any rfl (by simp only [nc, ↓wk, ↓wl, nqa, evV, ↓reduceIte, Nat.reduceEqDiff, Nat.reduceAdd, Nat.reduceSub, Nat.reduceLeDiff, Nat.reduceLT, Nat.reduceBEq, reduceCtorEq, Int.reduceEq, Nat.reduceLeDiff]; rfl) ?_
 try simp only [↓wk, ↓wl, nqa, evV, ↓reduceIte, Nat.reduceEqDiff, Nat.reduceAdd, Nat.reduceSub, Nat.reduceLeDiff, Nat.reduceLT, Nat.reduceBEq, reduceCtorEq, Int.reduceEq]
 refine AW.sseq ?_
 refine AW.rseq ?_
 try simp only [↓wk, ↓wl, nqa, evV, ↓reduceIte, Nat.reduceEqDiff, Nat.reduceAdd, Nat.reduceSub, Nat.reduceLeDiff, Nat.reduceLT, Nat.reduceBEq, reduceCtorEq, Int.reduceEq]
 refine evTs_any rfl (by simp only [nc, ↓wk, ↓wl, nqa, evV, ↓reduceIte, Nat.reduceEqDiff, Nat.reduceAdd, Nat.reduceSub, Nat.reduceLeDiff, Nat.reduceLT, Nat.reduceBEq, reduceCtorEq, Int.reduceEq, Nat.reduceLeDiff]; rfl) ?_
 try simp only [↓wk, ↓wl, nqa, evV, ↓reduceIte, Nat.reduceEqDiff, Nat.reduceAdd, Nat.reduceSub, Nat.reduceLeDiff, Nat.reduceLT, Nat.reduceBEq, reduceCtorEq, Int.reduceEq]
 refine evTs_pure hFn H (fun _ h => f58_ok h) (by rfl) (by rfl) (by rfl) (by rfl) (fun _ => rfl) ?_ <;> clear H <;> intro r_380 H
 try simp only [eL, ↓wk, ↓wl, nqa, evV, ↓reduceIte, Nat.reduceEqDiff, Nat.reduceAdd, Nat.reduceSub, Nat.reduceLeDiff, Nat.reduceLT, Nat.reduceBEq, reduceCtorEq, Int.reduceEq]
 refine AW.rseq ?_
 try simp only [↓wk, ↓wl, nqa, evV, ↓reduceIte, Nat.reduceEqDiff, Nat.reduceAdd, Nat.reduceSub, Nat.reduceLeDiff, Nat.reduceLT, Nat.reduceBEq, reduceCtorEq, Int.reduceEq]
 refine AW.ifc H (by rfl) ?_ ?_ <;> clear H <;> intro H
 ·refine AW.rseq ?_
  try simp only [↓wk, ↓wl, nqa, evV, ↓reduceIte, Nat.reduceEqDiff, Nat.reduceAdd, Nat.reduceSub, Nat.reduceLeDiff, Nat.reduceLT, Nat.reduceBEq, reduceCtorEq, Int.reduceEq]
  refine AW.ret ?_
  refine seqQ.ret ?_
  cases H
  exact hQ _ _ _ _ (.inr rfl) (by simp only [resVs, omap, resV, ↓wk, ↓wl, nqa, evV, ↓reduceIte, Nat.reduceEqDiff, Nat.reduceAdd, Nat.reduceSub, Nat.reduceLeDiff, Nat.reduceLT, Nat.reduceBEq, reduceCtorEq, Int.reduceEq]; rfl) (hand_k0 (by rfl) (by rfl)) (by first | exact Or.inl rfl | exact Or.inr rfl)
 ·refine AW.skip ?_
  refine seqQ.norm ?_
  refine AW.rseq ?_
  try simp only [↓wk, ↓wl, nqa, evV, ↓reduceIte, Nat.reduceEqDiff, Nat.reduceAdd, Nat.reduceSub, Nat.reduceLeDiff, Nat.reduceLT, Nat.reduceBEq, reduceCtorEq, Int.reduceEq]
  refine AW.sseq ?_
  refine AW.rseq ?_
  try simp only [↓wk, ↓wl, nqa, evV, ↓reduceIte, Nat.reduceEqDiff, Nat.reduceAdd, Nat.reduceSub, Nat.reduceLeDiff, Nat.reduceLT, Nat.reduceBEq, reduceCtorEq, Int.reduceEq]
  refine AW.bend ?_
  refine AW.iter H ((Le.trans (Le.nilRow (i := 7) (e := 2) (by simp only [↓wk, ↓wl, nq, evV, ↓reduceIte, sevalprocAttr])) (Le.tz [0, 1] [1, 2, 7, 8] (by simp only [f30_L1c, rrm, ↓wk, ↓wl, evV, ↓reduceIte, Nat.reduceEqDiff, Nat.reduceAdd, Nat.reduceSub, Nat.reduceLeDiff, Nat.reduceLT, Nat.reduceBEq, reduceCtorEq, Int.reduceEq] <;> rfl)))) ?_ <;> clear H
  rintro ⟨universe_592, out_593⟩ x_ st0_ H hst_
  rw [f30_L1c] at hst_
  simp only [f30_L1] at H
  subst hst_
  refine AW.sseq ?_
  refine AW.rseq ?_
  try simp only [↓wk, ↓wl, nqa, evV, ↓reduceIte, Nat.reduceEqDiff, Nat.reduceAdd, Nat.reduceSub, Nat.reduceLeDiff, Nat.reduceLT, Nat.reduceBEq, reduceCtorEq, Int.reduceEq]
  refine AW.ifc H (by rfl) ?_ ?_ <;> clear H <;> intro H
  ·refine AW.skip ?_
   refine seqQ.norm ?_
   refine AW.bseq ?_
   refine AW.rseq ?_
   try simp only [↓wk, ↓wl, nqa, evV, ↓reduceIte, Nat.reduceEqDiff, Nat.reduceAdd, Nat.reduceSub, Nat.reduceLeDiff, Nat.reduceLT, Nat.reduceBEq, reduceCtorEq, Int.reduceEq]
   refine evTs_any rfl (by simp only [nc, ↓wk, ↓wl, nqa, evV, ↓reduceIte, Nat.reduceEqDiff, Nat.reduceAdd, Nat.reduceSub, Nat.reduceLeDiff, Nat.reduceLT, Nat.reduceBEq, reduceCtorEq, Int.reduceEq, Nat.reduceLeDiff]; rfl) ?_
   try simp only [↓wk, ↓wl, nqa, evV, ↓reduceIte, Nat.reduceEqDiff, Nat.reduceAdd, Nat.reduceSub, Nat.reduceLeDiff, Nat.reduceLT, Nat.reduceBEq, reduceCtorEq, Int.reduceEq]
   refine evTs_pure hFn H (fun _ h => f73_im h) (by rfl) (by rfl) (by rfl) (by rfl) (fun _ => rfl) ?_ <;> clear H <;> intro r_648 H
   try simp only [eL, ↓wk, ↓wl, nqa, evV, ↓reduceIte, Nat.reduceEqDiff, Nat.reduceAdd, Nat.reduceSub, Nat.reduceLeDiff, Nat.reduceLT, Nat.reduceBEq, reduceCtorEq, Int.reduceEq]
   refine AW.sseq ?_
   refine AW.rseq ?_
   try simp only [↓wk, ↓wl, nqa, evV, ↓reduceIte, Nat.reduceEqDiff, Nat.reduceAdd, Nat.reduceSub, Nat.reduceLeDiff, Nat.reduceLT, Nat.reduceBEq, reduceCtorEq, Int.reduceEq]
   refine AW.ifc H (by rfl) ?_ ?_ <;> clear H <;> intro H
   ·refine AW.exit ?_
    refine seqQ.exit ?_
    refine blkQ.here ?_
    refine AW.rend ?_
    try simp only [↓wk, ↓wl, nqa, evV, ↓reduceIte, Nat.reduceEqDiff, Nat.reduceAdd, Nat.reduceSub, Nat.reduceLeDiff, Nat.reduceLT, Nat.reduceBEq, reduceCtorEq, Int.reduceEq]
    exact loopQ.next H ((Le.tz [0, 1] [1, 2, 7, 8] (by simp only [f30_L1c, rrm, ↓wk, ↓wl, evV, ↓reduceIte, Nat.reduceEqDiff, Nat.reduceAdd, Nat.reduceSub, Nat.reduceLeDiff, Nat.reduceLT, Nat.reduceBEq, reduceCtorEq, Int.reduceEq] <;> rfl)))
   ·refine AW.skip ?_
    refine seqQ.norm ?_
    refine AW.rseq ?_
    try simp only [↓wk, ↓wl, nqa, evV, ↓reduceIte, Nat.reduceEqDiff, Nat.reduceAdd, Nat.reduceSub, Nat.reduceLeDiff, Nat.reduceLT, Nat.reduceBEq, reduceCtorEq, Int.reduceEq]
    refine evTs_arrn (enc := (AV.int .u8)) H (by rfl) ?_ <;> clear H <;> intro slots_649 H
    try simp only [↓wk, ↓wl, nqa, evV, ↓reduceIte, Nat.reduceEqDiff, Nat.reduceAdd, Nat.reduceSub, Nat.reduceLeDiff, Nat.reduceLT, Nat.reduceBEq, reduceCtorEq, Int.reduceEq]
    refine AW.sseq ?_
    refine AW.rseq ?_
    try simp only [↓wk, ↓wl, nqa, evV, ↓reduceIte, Nat.reduceEqDiff, Nat.reduceAdd, Nat.reduceSub, Nat.reduceLeDiff, Nat.reduceLT, Nat.reduceBEq, reduceCtorEq, Int.reduceEq]
    refine AW.bend ?_
    refine AW.iter H ((Le.tz [0, 1, 2] [1, 2, 7, 8, 10, 31, 32, 33] (by simp only [f30_L2c, rrm, ↓wk, ↓wl, evV, ↓reduceIte, Nat.reduceEqDiff, Nat.reduceAdd, Nat.reduceSub, Nat.reduceLeDiff, Nat.reduceLT, Nat.reduceBEq, reduceCtorEq, Int.reduceEq] <;> rfl))) ?_ <;> clear H
    rintro ⟨v_682, slots_683⟩ x_ st0_ H hst_
    rw [f30_L2c] at hst_
    simp only [f30_L2] at H
    subst hst_
    refine AW.rseq ?_
    try simp only [↓wk, ↓wl, nqa, evV, ↓reduceIte, Nat.reduceEqDiff, Nat.reduceAdd, Nat.reduceSub, Nat.reduceLeDiff, Nat.reduceLT, Nat.reduceBEq, reduceCtorEq, Int.reduceEq]
    refine AW.sseq ?_
    refine AW.ifc H (by rfl) ?_ ?_ <;> clear H <;> intro H
    ·refine AW.skip ?_
     refine seqQ.norm ?_
     refine AW.bseq ?_
     refine AW.rseq ?_
     try simp only [↓wk, ↓wl, nqa, evV, ↓reduceIte, Nat.reduceEqDiff, Nat.reduceAdd, Nat.reduceSub, Nat.reduceLeDiff, Nat.reduceLT, Nat.reduceBEq, reduceCtorEq, Int.reduceEq]
     refine evTs_at (enc := eReceiverInput) H (by rfl) (by rfl) ?_ <;> clear H <;> intro x_702 H
     try simp only [eReceiverInput, eL, ↓wk, ↓wl, nqa, evV, ↓reduceIte, Nat.reduceEqDiff, Nat.reduceAdd, Nat.reduceSub, Nat.reduceLeDiff, Nat.reduceLT, Nat.reduceBEq, reduceCtorEq, Int.reduceEq]
     refine evTs_any rfl (by simp only [nc, ↓wk, ↓wl, nqa, evV, ↓reduceIte, Nat.reduceEqDiff, Nat.reduceAdd, Nat.reduceSub, Nat.reduceLeDiff, Nat.reduceLT, Nat.reduceBEq, reduceCtorEq, Int.reduceEq, Nat.reduceLeDiff]; rfl) ?_
     try simp only [↓wk, ↓wl, nqa, evV, ↓reduceIte, Nat.reduceEqDiff, Nat.reduceAdd, Nat.reduceSub, Nat.reduceLeDiff, Nat.reduceLT, Nat.reduceBEq, reduceCtorEq, Int.reduceEq]
     refine evTs_any rfl (by simp only [nc, ↓wk, ↓wl, nqa, evV, ↓reduceIte, Nat.reduceEqDiff, Nat.reduceAdd, Nat.reduceSub, Nat.reduceLeDiff, Nat.reduceLT, Nat.reduceBEq, reduceCtorEq, Int.reduceEq, Nat.reduceLeDiff]; rfl) ?_
     try simp only [↓wk, ↓wl, nqa, evV, ↓reduceIte, Nat.reduceEqDiff, Nat.reduceAdd, Nat.reduceSub, Nat.reduceLeDiff, Nat.reduceLT, Nat.reduceBEq, reduceCtorEq, Int.reduceEq]
     refine evTs_st (by simp only [↓wk, ↓wl, nqa, evV, ↓reduceIte, Nat.reduceEqDiff, Nat.reduceAdd, Nat.reduceSub, Nat.reduceLeDiff, Nat.reduceLT, Nat.reduceBEq, reduceCtorEq, Int.reduceEq, Nat.reduceLeDiff]; rfl) ?_
     try simp only [↓wk, ↓wl, nqa, evV, ↓reduceIte, Nat.reduceEqDiff, Nat.reduceAdd, Nat.reduceSub, Nat.reduceLeDiff, Nat.reduceLT, Nat.reduceBEq, reduceCtorEq, Int.reduceEq]
     refine AW.rseq ?_
     try simp only [↓wk, ↓wl, nqa, evV, ↓reduceIte, Nat.reduceEqDiff, Nat.reduceAdd, Nat.reduceSub, Nat.reduceLeDiff, Nat.reduceLT, Nat.reduceBEq, reduceCtorEq, Int.reduceEq]
     refine AW.bend ?_
     refine AW.iter H ((Le.tz [0, 1, 2, 3] [1, 2, 7, 8, 10, 12, 31, 32, 33, 37] (by simp only [f30_L3c, rrm, ↓wk, ↓wl, evV, ↓reduceIte, Nat.reduceEqDiff, Nat.reduceAdd, Nat.reduceSub, Nat.reduceLeDiff, Nat.reduceLT, Nat.reduceBEq, reduceCtorEq, Int.reduceEq] <;> rfl))) ?_ <;> clear H
     rintro ⟨v_711, slots_712⟩ x_ st0_ H hst_
     rw [f30_L3c] at hst_
     simp only [f30_L3] at H
     subst hst_
     refine AW.rseq ?_
     try simp only [↓wk, ↓wl, nqa, evV, ↓reduceIte, Nat.reduceEqDiff, Nat.reduceAdd, Nat.reduceSub, Nat.reduceLeDiff, Nat.reduceLT, Nat.reduceBEq, reduceCtorEq, Int.reduceEq]
     refine AW.sseq ?_
     refine AW.ifc H (by rfl) ?_ ?_ <;> clear H <;> intro H
     ·refine AW.skip ?_
      refine seqQ.norm ?_
      refine AW.bseq ?_
      refine AW.rseq ?_
      try simp only [↓wk, ↓wl, nqa, evV, ↓reduceIte, Nat.reduceEqDiff, Nat.reduceAdd, Nat.reduceSub, Nat.reduceLeDiff, Nat.reduceLT, Nat.reduceBEq, reduceCtorEq, Int.reduceEq]
      refine AW.rend ?_
      try simp only [↓wk, ↓wl, nqa, evV, ↓reduceIte, Nat.reduceEqDiff, Nat.reduceAdd, Nat.reduceSub, Nat.reduceLeDiff, Nat.reduceLT, Nat.reduceBEq, reduceCtorEq, Int.reduceEq]
      refine evTs_aat (enc := (AV.int .u8)) H (by rfl) (by rfl) ?_ <;> clear H <;> intro x_717 hx_717 H
      try simp only [↓wk, ↓wl, nqa, evV, ↓reduceIte, Nat.reduceEqDiff, Nat.reduceAdd, Nat.reduceSub, Nat.reduceLeDiff, Nat.reduceLT, Nat.reduceBEq, reduceCtorEq, Int.reduceEq]
      refine evTs_ald (enc := (AV.int .u8)) x_717 (by rfl) (by rfl) hx_717 ?_
      try simp only [↓wk, ↓wl, nqa, evV, ↓reduceIte, Nat.reduceEqDiff, Nat.reduceAdd, Nat.reduceSub, Nat.reduceLeDiff, Nat.reduceLT, Nat.reduceBEq, reduceCtorEq, Int.reduceEq]
      refine evTs_any rfl (by simp only [nc, ↓wk, ↓wl, nqa, evV, ↓reduceIte, Nat.reduceEqDiff, Nat.reduceAdd, Nat.reduceSub, Nat.reduceLeDiff, Nat.reduceLT, Nat.reduceBEq, reduceCtorEq, Int.reduceEq, Nat.reduceLeDiff]; rfl) ?_
      try simp only [↓wk, ↓wl, nqa, evV, ↓reduceIte, Nat.reduceEqDiff, Nat.reduceAdd, Nat.reduceSub, Nat.reduceLeDiff, Nat.reduceLT, Nat.reduceBEq, reduceCtorEq, Int.reduceEq]
      refine evTs_sat H (by rfl) (by rfl) ?_ <;> clear H <;> intro b_718 H
      try simp only [↓wk, ↓wl, nqa, evV, ↓reduceIte, Nat.reduceEqDiff, Nat.reduceAdd, Nat.reduceSub, Nat.reduceLeDiff, Nat.reduceLT, Nat.reduceBEq, reduceCtorEq, Int.reduceEq]
      refine evTs_aat (enc := (AV.int .u8)) H (by rfl) (by rfl) ?_ <;> clear H <;> intro x_719 hx_719 H
      try simp only [↓wk, ↓wl, nqa, evV, ↓reduceIte, Nat.reduceEqDiff, Nat.reduceAdd, Nat.reduceSub, Nat.reduceLeDiff, Nat.reduceLT, Nat.reduceBEq, reduceCtorEq, Int.reduceEq]
      refine evTs_ast (enc := (AV.int .u8)) (if (b_718.toNat : Int) > x_717 then (b_718.toNat : Int) else x_717) (by rfl) (by rfl) hx_719 (by rfl) ?_
      try simp only [↓wk, ↓wl, nqa, evV, ↓reduceIte, Nat.reduceEqDiff, Nat.reduceAdd, Nat.reduceSub, Nat.reduceLeDiff, Nat.reduceLT, Nat.reduceBEq, reduceCtorEq, Int.reduceEq]
      refine blkQ.norm ?_
      refine AW.rend ?_
      try simp only [↓wk, ↓wl, nqa, evV, ↓reduceIte, Nat.reduceEqDiff, Nat.reduceAdd, Nat.reduceSub, Nat.reduceLeDiff, Nat.reduceLT, Nat.reduceBEq, reduceCtorEq, Int.reduceEq]
      exact loopQ.next H ((Le.tz [0, 1, 2, 3] [1, 2, 7, 8, 10, 12, 31, 32, 33, 37] (by simp only [f30_L3c, rrm, ↓wk, ↓wl, evV, ↓reduceIte, Nat.reduceEqDiff, Nat.reduceAdd, Nat.reduceSub, Nat.reduceLeDiff, Nat.reduceLT, Nat.reduceBEq, reduceCtorEq, Int.reduceEq] <;> rfl)))
     ·refine AW.exit ?_
      refine seqQ.exit ?_
      refine loopQ.exit H ?_ <;> clear H <;> intro H
      try dsimp only at H
      refine blk0.here ?_
      refine blkQ.norm ?_
      refine AW.rend ?_
      try simp only [↓wk, ↓wl, nqa, evV, ↓reduceIte, Nat.reduceEqDiff, Nat.reduceAdd, Nat.reduceSub, Nat.reduceLeDiff, Nat.reduceLT, Nat.reduceBEq, reduceCtorEq, Int.reduceEq]
      exact loopQ.next H ((Le.tz [0, 1, 2] [1, 2, 7, 8, 10, 31, 32, 33] (by simp only [f30_L2c, rrm, ↓wk, ↓wl, evV, ↓reduceIte, Nat.reduceEqDiff, Nat.reduceAdd, Nat.reduceSub, Nat.reduceLeDiff, Nat.reduceLT, Nat.reduceBEq, reduceCtorEq, Int.reduceEq] <;> rfl)))
    ·refine AW.exit ?_
     refine seqQ.exit ?_
     refine loopQ.exit H ?_ <;> clear H <;> intro H
     try dsimp only at H
     refine blk0.here ?_
     refine seqQ.norm ?_
     refine AW.rend ?_
     try simp only [↓wk, ↓wl, nqa, evV, ↓reduceIte, Nat.reduceEqDiff, Nat.reduceAdd, Nat.reduceSub, Nat.reduceLeDiff, Nat.reduceLT, Nat.reduceBEq, reduceCtorEq, Int.reduceEq]
     refine evTs_any (v := .arow 0 2 0 512) rfl (by rfl) ?_
     try simp only [↓wk, ↓wl, nqa, evV, ↓reduceIte, Nat.reduceEqDiff, Nat.reduceAdd, Nat.reduceSub, Nat.reduceLeDiff, Nat.reduceLT, Nat.reduceBEq, reduceCtorEq, Int.reduceEq]
     refine evTs_cstra H (by rfl) (by rfl) ?_ <;> clear H <;> intro H
     try simp only [↓wk, ↓wl, nqa, evV, ↓reduceIte, Nat.reduceEqDiff, Nat.reduceAdd, Nat.reduceSub, Nat.reduceLeDiff, Nat.reduceLT, Nat.reduceBEq, reduceCtorEq, Int.reduceEq]
     refine evTs_app (enc := eApiFrame) H (by rfl) (by first | rfl | simp only [List.length_set]) (by rfl) (by rfl) ?_ <;> clear H <;> intro out_720 H
     try simp only [↓wk, ↓wl, nqa, evV, ↓reduceIte, Nat.reduceEqDiff, Nat.reduceAdd, Nat.reduceSub, Nat.reduceLeDiff, Nat.reduceLT, Nat.reduceBEq, reduceCtorEq, Int.reduceEq]
     refine blkQ.norm ?_
     refine AW.rend ?_
     try simp only [↓wk, ↓wl, nqa, evV, ↓reduceIte, Nat.reduceEqDiff, Nat.reduceAdd, Nat.reduceSub, Nat.reduceLeDiff, Nat.reduceLT, Nat.reduceBEq, reduceCtorEq, Int.reduceEq]
     exact loopQ.next H ((Le.tz [0, 3] [1, 2, 7, 8] (by simp only [f30_L1c, rrm, ↓wk, ↓wl, evV, ↓reduceIte, Nat.reduceEqDiff, Nat.reduceAdd, Nat.reduceSub, Nat.reduceLeDiff, Nat.reduceLT, Nat.reduceBEq, reduceCtorEq, Int.reduceEq] <;> rfl)))
  ·refine AW.exit ?_
   refine seqQ.exit ?_
   refine loopQ.exit H ?_ <;> clear H <;> intro H
   try dsimp only at H
   refine blk0.here ?_
   refine seqQ.norm ?_
   refine AW.rseq ?_
   try simp only [↓wk, ↓wl, nqa, evV, ↓reduceIte, Nat.reduceEqDiff, Nat.reduceAdd, Nat.reduceSub, Nat.reduceLeDiff, Nat.reduceLT, Nat.reduceBEq, reduceCtorEq, Int.reduceEq]
   refine AW.ret ?_
   cases H
   exact hQ _ _ _ _ (.inr rfl) (by simp only [resVs, omap, resV, ↓wk, ↓wl, nqa, evV, ↓reduceIte, Nat.reduceEqDiff, Nat.reduceAdd, Nat.reduceSub, Nat.reduceLeDiff, Nat.reduceLT, Nat.reduceBEq, reduceCtorEq, Int.reduceEq]; rfl) (hand_k (by rfl) (by rfl) (by simp) (enc_all _) (by rfl)) (by first | exact Or.inl rfl | exact Or.inr rfl)
theorem f30_im {r_377 : ReceiverReceiver} {t_378 : Int} {r_ : (List ApiFrame) × Int} (H : f30 r_377 t_378 = some r_) : Pure Try.prog 30 [.agg [.sl 8 false (r_377.fInputs.map eReceiverInput)], .int .i64 t_378] (· = .tup [.sl 2 false (r_.1.map eApiFrame), .int .i64 r_.2]) := (f30_ok H).unfr (by first | exact enc_fits _ | simp only [frFits, List.all_cons, List.all_nil, enc_fits, Bool.and_self])
def c57_0 : C := .seq (.reg [iI 17 (.mv (.t 10)), iI 18 (.bin .eql (.t 17) (.c (.int .i64 0))), iI 19 (.mv (.t 18)), iG (some 20) 19 true (.mv (.t 9)), iG (some 21) 19 true (.len 0 (.t 20)), iG (some 22) 19 true (.bin .eql (.t 21) (.c (.int .i64 1))), iI 23 (.pick (.t 19) (.t 22) (.c (.bool false))), iI 24 (.mv (.t 23)), iG (some 25) 24 true (.mv (.t 9)), iG (some 26) 24 true (.iaddr 2 (.t 25) (.c (.int .i64 0))), iG (some 27) 24 true (.faddr 0 (.t 26)), iG (some 28) 24 true (.load 0 (.t 27)), iG (some 29) 24 true (.mv (.t 2)), iG (some 30) 24 true (.bin .eql (.t 28) (.t 29)), iI 31 (.pick (.t 24) (.t 30) (.c (.bool false))), iI 32 (.mv (.t 31)), iG (some 33) 32 true (.mv (.t 9)), iG (some 34) 32 true (.iaddr 2 (.t 33) (.c (.int .i64 0))), iG (some 35) 32 true (.faddr 1 (.t 34)), iG (some 36) 32 true (.load 0 (.t 35)), iG (some 37) 32 true (.len 1 (.t 36)), iG (some 38) 32 true (.bin .eql (.t 37) (.c (.int .i64 512))), iI 39 (.pick (.t 32) (.t 38) (.c (.bool false))), iI 40 (.mv (.t 39)), iG (some 41) 40 true (.mv (.t 9)), iG (some 42) 40 true (.iaddr 2 (.t 41) (.c (.int .i64 0))), iG (some 43) 40 true (.faddr 1 (.t 42)), iG (some 44) 40 true (.load 0 (.t 43)), iG (some 45) 40 true (.mv (.t 3)), iG (some 46) 40 true (.len 0 (.t 45)), iG (some 47) 40 true (.sslice (.t 44) none (some (.t 46))), iG (some 48) 40 true (.mv (.t 3)), iG (some 49) 40 true (.cstr (.t 48)), iG (some 50) 40 true (.bin .eql (.t 47) (.t 49)), iI 51 (.pick (.t 40) (.t 50) (.c (.bool false))), iI 8 (.mv (.t 51))]) .ret
def c57_1 : C := .seq (.reg [iI 12 (.load 1 (.t 4)), iI 13 (.mv (.t 1)), iI 14 (.call (.c (.fn 30 [])) [(.t 12), (.t 13)]), iI 11 (.mv (.t 14)), iI 15 (.ext (.t 11) 0), iI 16 (.ext (.t 11) 1), iI 9 (.mv (.t 15)), iI 10 (.mv (.t 16))]) c57_0
def ir57 : C := .seq (.reg [iI 4 (.box (.t 0)), iI 8 (.mv (.c (.bool false)))]) c57_1
theorem fd57 : fd? Try.prog 57 = some (52, [.slot 8], ir57) := by kernel_rfl
noncomputable def f57 (r_318 : ReceiverReceiver) (t_319 : Int) (universe_320 : Int) (b_321 : (List Int)) : Option (Bool) :=
  (f30 r_318 t_319).bind fun r_721 => (if (decide (r_721.2 = 0)) = true then (if (decide (((r_721.1.length : Nat) : Int) = 1)) = true then (at? r_721.1 0).bind fun x_722 => (if (decide (x_722.fUniverse = universe_320)) = true then (at? r_721.1 0).bind fun x_723 => (if (decide (((x_723.fSlots.length : Nat) : Int) = 512)) = true then (at? r_721.1 0).bind fun x_724 => (slc? x_724.fSlots 0 ((b_321.length : Nat) : Int)).bind fun s_725 => (some (s_725 == (b_321.map b8))) else (some false)) else (some false)) else (some false)) else (some false))
theorem f57_ok {r_318 : ReceiverReceiver} {t_319 : Int} {universe_320 : Int} {b_321 : (List Int)} {r_ : Bool} (H : f57 r_318 t_319 universe_320 b_321 = some r_) : Pure Try.prog 57 [.agg [.sl 8 false (r_318.fInputs.map eReceiverInput)], .int .i64 t_319, .int .i64 universe_320, .sl 0 false (b_321.map (AV.int .u8))] (· = .bool r_) := by
 refine Pure.walk3 fd57 none (Nat.le_of_ble_eq_true rfl) (by rfl) fun Q hQ => ?_
 simp only [f57] at H
 refine AW.rseq ?_
 try simp only [↓wk, ↓wl, nq, evV, ↓reduceIte, sevalprocAttr]
 refine AW.rseq ?_
 try simp only [↓wk, ↓wl, nq, evV, ↓reduceIte, sevalprocAttr]
 refine evTs_pure hFn H (fun _ h => f30_im h) (by rfl) (by rfl) (by rfl) (by rfl) (fun _ => rfl) ?_ <;> clear H <;> intro r_721 H
 try simp only [eL, ↓wk, ↓wl, nq, evV, ↓reduceIte, sevalprocAttr]
 refine AW.rseq ?_
 try simp only [↓wk, ↓wl, nq, evV, ↓reduceIte, sevalprocAttr]
 refine evTs_ifg H (by rfl) ?_ ?_ <;> clear H <;> intro H
 ·try simp only [↓wk, ↓wl, nq, evV, ↓reduceIte, sevalprocAttr]
  refine evTs_ifg H (by rfl) ?_ ?_ <;> clear H <;> intro H
  ·try simp only [↓wk, ↓wl, nq, evV, ↓reduceIte, sevalprocAttr]
   refine evTs_at (enc := eApiFrame) H (by rfl) (by rfl) ?_ <;> clear H <;> intro x_722 H
   try simp only [eApiFrame, eL, ↓wk, ↓wl, nq, evV, ↓reduceIte, sevalprocAttr]
   refine evTs_ifg H (by rfl) ?_ ?_ <;> clear H <;> intro H
   ·try simp only [↓wk, ↓wl, nq, evV, ↓reduceIte, sevalprocAttr]
    refine evTs_at (enc := eApiFrame) H (by rfl) (by rfl) ?_ <;> clear H <;> intro x_723 H
    try simp only [eApiFrame, eL, ↓wk, ↓wl, nq, evV, ↓reduceIte, sevalprocAttr]
    refine evTs_ifg H (by rfl) ?_ ?_ <;> clear H <;> intro H
    ·try simp only [↓wk, ↓wl, nq, evV, ↓reduceIte, sevalprocAttr]
     refine evTs_at (enc := eApiFrame) H (by rfl) (by rfl) ?_ <;> clear H <;> intro x_724 H
     try simp only [eApiFrame, eL, ↓wk, ↓wl, nq, evV, ↓reduceIte, sevalprocAttr]
     refine evTs_sslc H (by rfl) (by simp only [loI, hiI, ↓wk, ↓wl, nq, evV, ↓reduceIte, sevalprocAttr]; rfl) (by simp only [loI, hiI, ↓wk, ↓wl, nq, evV, ↓reduceIte, sevalprocAttr]; rfl) ?_ <;> clear H <;> intro s_725 H
     try simp only [↓wk, ↓wl, nq, evV, ↓reduceIte, sevalprocAttr]
     refine evTs_cstr (xs := b_321) (by rfl) ?_
     try simp only [↓wk, ↓wl, nq, evV, ↓reduceIte, sevalprocAttr]
     refine AW.ret ?_
     cases H
     exact hQ.fin
    ·try simp only [↓wk, ↓wl, nq, evV, ↓reduceIte, sevalprocAttr]
     refine AW.ret ?_
     cases H
     exact hQ.fin
   ·try simp only [↓wk, ↓wl, nq, evV, ↓reduceIte, sevalprocAttr]
    refine AW.ret ?_
    cases H
    exact hQ.fin
  ·try simp only [↓wk, ↓wl, nq, evV, ↓reduceIte, sevalprocAttr]
   refine AW.ret ?_
   cases H
   exact hQ.fin
 ·try simp only [↓wk, ↓wl, nq, evV, ↓reduceIte, sevalprocAttr]
  refine AW.ret ?_
  cases H
  exact hQ.fin
noncomputable def f15_J2 (e_737 : Int) (late_738 : Bool) (r_730 : ReceiverReceiver × Int × Int) : Jn (Bool × Int) (Bool) where
  run := fun (far_741, f_742) => (if (decide ((IntKind.i64.wrap (e_737 + f_742)) ≠ 0)) = true then (some false) else (if late_738 = true then (some false) else (if (!far_741) = true then (some false) else (f56 3 1 0 ([7])).bind fun r_743 => (f56 3 2 0 ([8])).bind fun r_744 => (f24 (ReceiverReceiver.mk ([])) ([(ReceiverEvent.mk 0 (NetworkPacket.mk r_743.fSource r_743.fUniverse r_743.fPriority r_743.fSeq 3 r_743.fEnd r_743.fSlots)), (ReceiverEvent.mk 0 (NetworkPacket.mk r_744.fSource r_744.fUniverse r_744.fPriority r_744.fSeq 3 r_744.fEnd r_744.fSlots))])).bind fun r_745 => (f30 r_745.1 5).bind fun r_746 => (f16 r_745.1 5 (NetworkPacket.mk 3 0 0 0 3 false ([]))).bind fun r_747 => (f30 r_747.1 5).bind fun r_748 => (if (decide ((IntKind.i64.wrap ((IntKind.i64.wrap ((IntKind.i64.wrap (r_745.2.2 + r_746.2)) + r_747.2.2)) + r_748.2)) = 0)) = true then (if (decide (r_745.2.1 = 2)) = true then (if (decide (((r_746.1.length : Nat) : Int) = 0)) = true then (if r_747.2.1 = true then (some (decide (((r_748.1.length : Nat) : Int) = 2))) else (some false)) else (some false)) else (some false)) else (some false)))))
  cst := fun (far_741, f_742) => ⟨put (put (put (put (put (fun _ => .junk) 9 (.int .i64 f_742)) 8 (.bool far_741)) 6 (.bool late_738)) 3 (.int .i64 e_737)) 1 (.ptr 0 0), [.cel [.sl 8 false (r_730.1.fInputs.map eReceiverInput)]]⟩
theorem f15_J2c (e_737 : Int) (late_738 : Bool) (r_730 : ReceiverReceiver × Int × Int) (far_741 : Bool) (f_742 : Int) : (f15_J2 e_737 late_738 r_730).cst (far_741, f_742) = ⟨put (put (put (put (put (fun _ => .junk) 9 (.int .i64 f_742)) 8 (.bool far_741)) 6 (.bool late_738)) 3 (.int .i64 e_737)) 1 (.ptr 0 0), [.cel [.sl 8 false (r_730.1.fInputs.map eReceiverInput)]]⟩ := rfl
noncomputable def f15_J1 (r_730 : ReceiverReceiver × Int × Int) : Jn (Int × Bool) (Bool) where
  run := fun (e_737, late_738) => (f56 2 4 200 ([1])).bind fun r_749 => (f16 r_730.1 2600 r_749).bind fun r_750 => ((f15_J2 e_737 late_738 r_730).run (r_750.2.1, r_750.2.2))
  cst := fun (e_737, late_738) => ⟨put (put (put (fun _ => .junk) 6 (.bool late_738)) 3 (.int .i64 e_737)) 1 (.ptr 0 0), [.cel [.sl 8 false (r_730.1.fInputs.map eReceiverInput)]]⟩
end Go.Proofs.Ytgfohogbechkkaa
