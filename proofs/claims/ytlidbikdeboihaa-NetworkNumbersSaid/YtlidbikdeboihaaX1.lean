import Derived.Test.YtlidbikdeboihaaShelf
import Derived.Test.YtlidbikdeboihaaProg
import Derived.KernelRfl
namespace Go.Proofs.Ytlidbikdeboihaa
open Go Go.Ab

set_option maxHeartbeats 1000000
set_option linter.unusedSimpArgs false
set_option linter.unusedVariables false
structure NetworkStream where
  fUniverse : Int
  fSeq : Int
  fLast : Int
  fTimes : Int
  fSlots : (List UInt8)
def eNetworkStream (x : NetworkStream) : AV := .agg [.int .i64 x.fUniverse, .int .i64 x.fSeq, .int .i64 x.fLast, .int .i64 x.fTimes, .str x.fSlots]
instance : IsFlat eNetworkStream := ⟨fun _ => rfl⟩
instance : IsEnc 5 eNetworkStream := ⟨fun _ => rfl, fun _ => rfl, fun _ => rfl⟩
structure NetworkSender where
  fSource : Int
  fPriority : Int
  fSync : Int
  fPulse : Int
  fStreams : (List NetworkStream)
def eNetworkSender (x : NetworkSender) : AV := .agg [.int .u64 x.fSource, .int .i64 x.fPriority, .int .i64 x.fSync, .int .i64 x.fPulse, .sl 5 false (x.fStreams.map eNetworkStream)]
instance : IsEnc 5 eNetworkSender := ⟨fun _ => rfl, fun _ => rfl, fun _ => rfl⟩
structure ApiFrame where
  fUniverse : Int
  fSlots : (List UInt8)
def eApiFrame (x : ApiFrame) : AV := .agg [.int .i64 x.fUniverse, .str x.fSlots]
instance : IsFlat eApiFrame := ⟨fun _ => rfl⟩
instance : IsEnc 2 eApiFrame := ⟨fun _ => rfl, fun _ => rfl, fun _ => rfl⟩
structure NetworkPacket where
  fSource : Int
  fUniverse : Int
  fPriority : Int
  fSeq : Int
  fSync : Int
  fEnd : Bool
  fSlots : (List UInt8)
def eNetworkPacket (x : NetworkPacket) : AV := .agg [.int .u64 x.fSource, .int .i64 x.fUniverse, .int .i64 x.fPriority, .int .i64 x.fSeq, .int .i64 x.fSync, .bool x.fEnd, .str x.fSlots]
instance : IsFlat eNetworkPacket := ⟨fun _ => rfl⟩
instance : IsEnc 7 eNetworkPacket := ⟨fun _ => rfl, fun _ => rfl, fun _ => rfl⟩
def c40_0 : C := .seq (.reg [iI 7 (.mv (.t 0)), iI 8 (.mv (.t 1)), iI 9 (.bin .geq (.t 7) (.t 8)), iI 10 (.mv (.t 9)), iG (some 11) 10 true (.mv (.t 0)), iG (some 12) 10 true (.mv (.t 2)), iG (some 13) 10 true (.bin .leq (.t 11) (.t 12)), iI 14 (.pick (.t 10) (.t 13) (.c (.bool false))), iI 6 (.mv (.t 14))]) .ret
def ir40 : C := .seq (.reg [iI 6 (.mv (.c (.bool false)))]) c40_0
theorem fd40 : fd? Try.prog 40 = some (15, [.slot 6], ir40) := by kernel_rfl
noncomputable def f40 (n_7 : Int) (low_8 : Int) (high_9 : Int) : Option (Bool) :=
  (if (decide (low_8 ≤ n_7)) = true then (some (decide (n_7 ≤ high_9))) else (some false))
theorem f40_ok {n_7 : Int} {low_8 : Int} {high_9 : Int} {r_ : Bool} (H : f40 n_7 low_8 high_9 = some r_) : Pure Try.prog 40 [.int .i64 n_7, .int .i64 low_8, .int .i64 high_9] (· = .bool r_) := by
  refine Pure.walk3 fd40 none (Nat.le_of_ble_eq_true rfl) (by rfl) fun Q hQ => ?_
  simp only [f40] at H
  refine AW.rseq ?_
  try simp only [↓wk, ↓wl, nc, evV, wrapBits_eq, ↓reduceIte, Nat.reduceEqDiff, Nat.reduceAdd, Nat.reduceSub, Nat.reduceLeDiff, Nat.reduceLT, Nat.reduceBEq, reduceCtorEq, Int.reduceEq]
  refine AW.rseq ?_
  try simp only [↓wk, ↓wl, nc, evV, wrapBits_eq, ↓reduceIte, Nat.reduceEqDiff, Nat.reduceAdd, Nat.reduceSub, Nat.reduceLeDiff, Nat.reduceLT, Nat.reduceBEq, reduceCtorEq, Int.reduceEq]
  refine evTs_ifg H (by rfl) ?_ ?_ <;> clear H <;> intro H
  · try simp only [↓wk, ↓wl, nc, evV, wrapBits_eq, ↓reduceIte, Nat.reduceEqDiff, Nat.reduceAdd, Nat.reduceSub, Nat.reduceLeDiff, Nat.reduceLT, Nat.reduceBEq, reduceCtorEq, Int.reduceEq]
    refine AW.ret ?_
    cases H
    exact hQ _ _ _ _ (.inr rfl) (by simp only [resVs, omap, resV, ↓wk, ↓wl, nc, evV, wrapBits_eq, ↓reduceIte, Nat.reduceEqDiff, Nat.reduceAdd, Nat.reduceSub, Nat.reduceLeDiff, Nat.reduceLT, Nat.reduceBEq, reduceCtorEq, Int.reduceEq]; rfl) (hand_plain (by rfl)) (by first | exact Or.inl rfl | exact Or.inr rfl)
  · try simp only [↓wk, ↓wl, nc, evV, wrapBits_eq, ↓reduceIte, Nat.reduceEqDiff, Nat.reduceAdd, Nat.reduceSub, Nat.reduceLeDiff, Nat.reduceLT, Nat.reduceBEq, reduceCtorEq, Int.reduceEq]
    refine AW.ret ?_
    cases H
    exact hQ _ _ _ _ (.inr rfl) (by simp only [resVs, omap, resV, ↓wk, ↓wl, nc, evV, wrapBits_eq, ↓reduceIte, Nat.reduceEqDiff, Nat.reduceAdd, Nat.reduceSub, Nat.reduceLeDiff, Nat.reduceLT, Nat.reduceBEq, reduceCtorEq, Int.reduceEq]; rfl) (hand_plain (by rfl)) (by first | exact Or.inl rfl | exact Or.inr rfl)
def c38_0 : C := .seq (.reg [iI 7 (.mv (.t 0)), iI 8 (.bin .gtr (.t 7) (.c (.int .u64 0))), iI 9 (.mv (.t 8)), iG (some 10) 9 true (.mv (.t 0)), iG (some 11) 9 true (.bin .lss (.t 10) (.c (.int .u64 281474976710655))), iI 12 (.pick (.t 9) (.t 11) (.c (.bool false))), iI 13 (.mv (.t 12)), iG (some 14) 13 true (.mv (.t 1)), iG (some 15) 13 true (.call (.c (.fn 40 [])) [(.t 14), (.c (.int .i64 0)), (.c (.int .i64 200))]), iI 16 (.pick (.t 13) (.t 15) (.c (.bool false))), iI 17 (.mv (.t 16)), iG (some 18) 17 true (.mv (.t 2)), iG (some 19) 17 true (.call (.c (.fn 40 [])) [(.t 18), (.c (.int .i64 0)), (.c (.int .i64 8))]), iI 20 (.pick (.t 17) (.t 19) (.c (.bool false))), iI 6 (.mv (.t 20))]) .ret
def ir38 : C := .seq (.reg [iI 6 (.mv (.c (.bool false)))]) c38_0
theorem fd38 : fd? Try.prog 38 = some (21, [.slot 6], ir38) := by kernel_rfl
noncomputable def f38 (source_4 : Int) (priority_5 : Int) (sync_6 : Int) : Option (Bool) :=
  (if (decide (0 < source_4)) = true then (if (decide (source_4 < 281474976710655)) = true then (f40 priority_5 0 200).bind fun r_10 => (if r_10 = true then (f40 sync_6 0 8).bind fun r_11 => (some r_11) else (some false)) else (some false)) else (some false))
theorem f38_ok {source_4 : Int} {priority_5 : Int} {sync_6 : Int} {r_ : Bool} (H : f38 source_4 priority_5 sync_6 = some r_) : Pure Try.prog 38 [.int .u64 source_4, .int .i64 priority_5, .int .i64 sync_6] (· = .bool r_) := by
  refine Pure.walk3 fd38 none (Nat.le_of_ble_eq_true rfl) (by rfl) fun Q hQ => ?_
  simp only [f38] at H
  refine AW.rseq ?_
  try simp only [↓wk, ↓wl, nc, evV, wrapBits_eq, ↓reduceIte, Nat.reduceEqDiff, Nat.reduceAdd, Nat.reduceSub, Nat.reduceLeDiff, Nat.reduceLT, Nat.reduceBEq, reduceCtorEq, Int.reduceEq]
  refine AW.rseq ?_
  try simp only [↓wk, ↓wl, nc, evV, wrapBits_eq, ↓reduceIte, Nat.reduceEqDiff, Nat.reduceAdd, Nat.reduceSub, Nat.reduceLeDiff, Nat.reduceLT, Nat.reduceBEq, reduceCtorEq, Int.reduceEq]
  refine evTs_ifg H (by rfl) ?_ ?_ <;> clear H <;> intro H
  · try simp only [↓wk, ↓wl, nc, evV, wrapBits_eq, ↓reduceIte, Nat.reduceEqDiff, Nat.reduceAdd, Nat.reduceSub, Nat.reduceLeDiff, Nat.reduceLT, Nat.reduceBEq, reduceCtorEq, Int.reduceEq]
    refine evTs_ifg H (by rfl) ?_ ?_ <;> clear H <;> intro H
    · try simp only [↓wk, ↓wl, nc, evV, wrapBits_eq, ↓reduceIte, Nat.reduceEqDiff, Nat.reduceAdd, Nat.reduceSub, Nat.reduceLeDiff, Nat.reduceLT, Nat.reduceBEq, reduceCtorEq, Int.reduceEq]
      refine evTs_pure hFn H (fun _ h => f40_ok h) (by rfl) (by rfl) (by rfl) (by rfl) (fun _ => rfl) ?_ <;> clear H <;> intro r_10 H
      try simp only [eL, ↓wk, ↓wl, nc, evV, wrapBits_eq, ↓reduceIte, Nat.reduceEqDiff, Nat.reduceAdd, Nat.reduceSub, Nat.reduceLeDiff, Nat.reduceLT, Nat.reduceBEq, reduceCtorEq, Int.reduceEq]
      refine evTs_ifg H (by rfl) ?_ ?_ <;> clear H <;> intro H
      · try simp only [↓wk, ↓wl, nc, evV, wrapBits_eq, ↓reduceIte, Nat.reduceEqDiff, Nat.reduceAdd, Nat.reduceSub, Nat.reduceLeDiff, Nat.reduceLT, Nat.reduceBEq, reduceCtorEq, Int.reduceEq]
        refine evTs_pure hFn H (fun _ h => f40_ok h) (by rfl) (by rfl) (by rfl) (by rfl) (fun _ => rfl) ?_ <;> clear H <;> intro r_11 H
        try simp only [eL, ↓wk, ↓wl, nc, evV, wrapBits_eq, ↓reduceIte, Nat.reduceEqDiff, Nat.reduceAdd, Nat.reduceSub, Nat.reduceLeDiff, Nat.reduceLT, Nat.reduceBEq, reduceCtorEq, Int.reduceEq]
        refine AW.ret ?_
        cases H
        exact hQ _ _ _ _ (.inr rfl) (by simp only [resVs, omap, resV, ↓wk, ↓wl, nc, evV, wrapBits_eq, ↓reduceIte, Nat.reduceEqDiff, Nat.reduceAdd, Nat.reduceSub, Nat.reduceLeDiff, Nat.reduceLT, Nat.reduceBEq, reduceCtorEq, Int.reduceEq]; rfl) (hand_plain (by rfl)) (by first | exact Or.inl rfl | exact Or.inr rfl)
      · try simp only [↓wk, ↓wl, nc, evV, wrapBits_eq, ↓reduceIte, Nat.reduceEqDiff, Nat.reduceAdd, Nat.reduceSub, Nat.reduceLeDiff, Nat.reduceLT, Nat.reduceBEq, reduceCtorEq, Int.reduceEq]
        refine AW.ret ?_
        cases H
        exact hQ _ _ _ _ (.inr rfl) (by simp only [resVs, omap, resV, ↓wk, ↓wl, nc, evV, wrapBits_eq, ↓reduceIte, Nat.reduceEqDiff, Nat.reduceAdd, Nat.reduceSub, Nat.reduceLeDiff, Nat.reduceLT, Nat.reduceBEq, reduceCtorEq, Int.reduceEq]; rfl) (hand_plain (by rfl)) (by first | exact Or.inl rfl | exact Or.inr rfl)
    · try simp only [↓wk, ↓wl, nc, evV, wrapBits_eq, ↓reduceIte, Nat.reduceEqDiff, Nat.reduceAdd, Nat.reduceSub, Nat.reduceLeDiff, Nat.reduceLT, Nat.reduceBEq, reduceCtorEq, Int.reduceEq]
      refine AW.ret ?_
      cases H
      exact hQ _ _ _ _ (.inr rfl) (by simp only [resVs, omap, resV, ↓wk, ↓wl, nc, evV, wrapBits_eq, ↓reduceIte, Nat.reduceEqDiff, Nat.reduceAdd, Nat.reduceSub, Nat.reduceLeDiff, Nat.reduceLT, Nat.reduceBEq, reduceCtorEq, Int.reduceEq]; rfl) (hand_plain (by rfl)) (by first | exact Or.inl rfl | exact Or.inr rfl)
  · try simp only [↓wk, ↓wl, nc, evV, wrapBits_eq, ↓reduceIte, Nat.reduceEqDiff, Nat.reduceAdd, Nat.reduceSub, Nat.reduceLeDiff, Nat.reduceLT, Nat.reduceBEq, reduceCtorEq, Int.reduceEq]
    refine AW.ret ?_
    cases H
    exact hQ _ _ _ _ (.inr rfl) (by simp only [resVs, omap, resV, ↓wk, ↓wl, nc, evV, wrapBits_eq, ↓reduceIte, Nat.reduceEqDiff, Nat.reduceAdd, Nat.reduceSub, Nat.reduceLeDiff, Nat.reduceLT, Nat.reduceBEq, reduceCtorEq, Int.reduceEq]; rfl) (hand_plain (by rfl)) (by first | exact Or.inl rfl | exact Or.inr rfl)
def c17_0 : C := .cond (.t 12) (.seq (.reg [iI 13 (.build [(1, (.int .u64 0)), (1, (.int .i64 0)), (1, (.int .i64 0)), (1, (.int .i64 0)), (1, (.sl 5 true []))] []), iN (.store 5 (.t 6) (.t 13)), iI 7 (.mv (.c (.int .i64 2)))]) .ret) (.skip)
def c17_1 : C := .seq (.reg [iI 14 (.mv (.t 0)), iI 15 (.mv (.t 1)), iI 16 (.mv (.t 2)), iI 17 (.build [(1, (.int .u64 0)), (1, (.int .i64 0)), (1, (.int .i64 0)), (1, (.int .i64 0)), (1, (.sl 5 true []))] [(0, 0, (.t 14)), (1, 0, (.t 15)), (2, 0, (.t 16))]), iN (.store 5 (.t 6) (.t 17)), iI 7 (.mv (.c (.int .i64 0)))]) .ret
def c17_2 : C := .seq (.seq (.reg [iI 8 (.mv (.t 0)), iI 9 (.mv (.t 1)), iI 10 (.mv (.t 2)), iI 11 (.call (.c (.fn 38 [])) [(.t 8), (.t 9), (.t 10)]), iI 12 (.un .not (.t 11))]) c17_0) c17_1
def ir17 : C := .seq (.reg [iI 6 (.alloc [(1, (.int .u64 0)), (1, (.int .i64 0)), (1, (.int .i64 0)), (1, (.int .i64 0)), (1, (.sl 5 true []))]), iI 7 (.mv (.c (.int .i64 0)))]) c17_2
theorem fd17 : fd? Try.prog 17 = some (18, [.cell 6 5, .slot 7], ir17) := by kernel_rfl
noncomputable def f17 (source_1 : Int) (priority_2 : Int) (sync_3 : Int) : Option (NetworkSender × Int) :=
  (f38 source_1 priority_2 sync_3).bind fun r_12 => (if (!r_12) = true then (some ((NetworkSender.mk 0 0 0 0 ([])), 2)) else (some ((NetworkSender.mk source_1 priority_2 sync_3 0 ([])), 0)))
theorem f17_ok {source_1 : Int} {priority_2 : Int} {sync_3 : Int} {r_ : NetworkSender × Int} (H : f17 source_1 priority_2 sync_3 = some r_) : Pure Try.prog 17 [.int .u64 source_1, .int .i64 priority_2, .int .i64 sync_3] (· = .tup [.agg [.int .u64 r_.1.fSource, .int .i64 r_.1.fPriority, .int .i64 r_.1.fSync, .int .i64 r_.1.fPulse, .sl 5 false (r_.1.fStreams.map eNetworkStream)], .int .i64 r_.2]) := by
  refine Pure.walk3 fd17 none (Nat.le_of_ble_eq_true rfl) (by rfl) fun Q hQ => ?_
  simp only [f17] at H
  refine AW.rseq ?_
  try simp only [↓wk, ↓wl, nc, evV, wrapBits_eq, ↓reduceIte, Nat.reduceEqDiff, Nat.reduceAdd, Nat.reduceSub, Nat.reduceLeDiff, Nat.reduceLT, Nat.reduceBEq, reduceCtorEq, Int.reduceEq]
  refine AW.sseq ?_
  refine AW.rseq ?_
  try simp only [↓wk, ↓wl, nc, evV, wrapBits_eq, ↓reduceIte, Nat.reduceEqDiff, Nat.reduceAdd, Nat.reduceSub, Nat.reduceLeDiff, Nat.reduceLT, Nat.reduceBEq, reduceCtorEq, Int.reduceEq]
  refine evTs_pure hFn H (fun _ h => f38_ok h) (by rfl) (by rfl) (by rfl) (by rfl) (fun _ => rfl) ?_ <;> clear H <;> intro r_12 H
  try simp only [eL, ↓wk, ↓wl, nc, evV, wrapBits_eq, ↓reduceIte, Nat.reduceEqDiff, Nat.reduceAdd, Nat.reduceSub, Nat.reduceLeDiff, Nat.reduceLT, Nat.reduceBEq, reduceCtorEq, Int.reduceEq]
  refine AW.ifc H (by rfl) ?_ ?_ <;> clear H <;> intro H
  · refine AW.rseq ?_
    try simp only [↓wk, ↓wl, nc, evV, wrapBits_eq, ↓reduceIte, Nat.reduceEqDiff, Nat.reduceAdd, Nat.reduceSub, Nat.reduceLeDiff, Nat.reduceLT, Nat.reduceBEq, reduceCtorEq, Int.reduceEq]
    refine AW.ret ?_
    refine seqQ.ret ?_
    cases H
    exact hQ _ _ _ _ (.inr rfl) (by simp only [resVs, omap, resV, ↓wk, ↓wl, nc, evV, wrapBits_eq, ↓reduceIte, Nat.reduceEqDiff, Nat.reduceAdd, Nat.reduceSub, Nat.reduceLeDiff, Nat.reduceLT, Nat.reduceBEq, reduceCtorEq, Int.reduceEq]; rfl) (hand_plain (by rfl)) (by first | exact Or.inl rfl | exact Or.inr rfl)
  · refine AW.skip ?_
    refine seqQ.norm ?_
    refine AW.rseq ?_
    try simp only [↓wk, ↓wl, nc, evV, wrapBits_eq, ↓reduceIte, Nat.reduceEqDiff, Nat.reduceAdd, Nat.reduceSub, Nat.reduceLeDiff, Nat.reduceLT, Nat.reduceBEq, reduceCtorEq, Int.reduceEq]
    refine AW.ret ?_
    cases H
    exact hQ _ _ _ _ (.inr rfl) (by simp only [resVs, omap, resV, ↓wk, ↓wl, nc, evV, wrapBits_eq, ↓reduceIte, Nat.reduceEqDiff, Nat.reduceAdd, Nat.reduceSub, Nat.reduceLeDiff, Nat.reduceLT, Nat.reduceBEq, reduceCtorEq, Int.reduceEq]; rfl) (hand_plain (by rfl)) (by first | exact Or.inl rfl | exact Or.inr rfl)
def c36_0 : C := .seq (.reg [iI 3 (.mv (.t 0)), iI 4 (.call (.c (.fn 40 [])) [(.t 3), (.c (.int .i64 0)), (.c (.int .i64 255))]), iI 2 (.mv (.t 4))]) .ret
def ir36 : C := .seq (.reg [iI 2 (.mv (.c (.bool false)))]) c36_0
theorem fd36 : fd? Try.prog 36 = some (5, [.slot 2], ir36) := by kernel_rfl
noncomputable def f36 (n_16 : Int) : Option (Bool) :=
  (f40 n_16 0 255).bind fun r_17 => (some r_17)
theorem f36_ok {n_16 : Int} {r_ : Bool} (H : f36 n_16 = some r_) : Pure Try.prog 36 [.int .i64 n_16] (· = .bool r_) := by
  refine Pure.walk3 fd36 none (Nat.le_of_ble_eq_true rfl) (by rfl) fun Q hQ => ?_
  simp only [f36] at H
  refine AW.rseq ?_
  try simp only [↓wk, ↓wl, nc, evV, wrapBits_eq, ↓reduceIte, Nat.reduceEqDiff, Nat.reduceAdd, Nat.reduceSub, Nat.reduceLeDiff, Nat.reduceLT, Nat.reduceBEq, reduceCtorEq, Int.reduceEq]
  refine AW.rseq ?_
  try simp only [↓wk, ↓wl, nc, evV, wrapBits_eq, ↓reduceIte, Nat.reduceEqDiff, Nat.reduceAdd, Nat.reduceSub, Nat.reduceLeDiff, Nat.reduceLT, Nat.reduceBEq, reduceCtorEq, Int.reduceEq]
  refine evTs_pure hFn H (fun _ h => f40_ok h) (by rfl) (by rfl) (by rfl) (by rfl) (fun _ => rfl) ?_ <;> clear H <;> intro r_17 H
  try simp only [eL, ↓wk, ↓wl, nc, evV, wrapBits_eq, ↓reduceIte, Nat.reduceEqDiff, Nat.reduceAdd, Nat.reduceSub, Nat.reduceLeDiff, Nat.reduceLT, Nat.reduceBEq, reduceCtorEq, Int.reduceEq]
  refine AW.ret ?_
  cases H
  exact hQ _ _ _ _ (.inr rfl) (by simp only [resVs, omap, resV, ↓wk, ↓wl, nc, evV, wrapBits_eq, ↓reduceIte, Nat.reduceEqDiff, Nat.reduceAdd, Nat.reduceSub, Nat.reduceLeDiff, Nat.reduceLT, Nat.reduceBEq, reduceCtorEq, Int.reduceEq]; rfl) (hand_plain (by rfl)) (by first | exact Or.inl rfl | exact Or.inr rfl)
def c12_0 : C := .cond (.t 13) (.seq (.reg [iI 4 (.mv (.c (.bool false)))]) .ret) (.skip)
def c12_1 : C := .seq (.reg [iI 19 (.mv (.t 5)), iI 20 (.bin .gtr (.t 19) (.c (.int .i64 0))), iI 21 (.mv (.t 20)), iG (some 22) 21 true (.mv (.t 5)), iG (some 23) 21 true (.bin .lss (.t 22) (.c (.int .i64 237))), iI 24 (.pick (.t 21) (.t 23) (.c (.bool false))), iI 4 (.mv (.t 24))]) .ret
def c12_2 : C := .seq (.reg [iI 14 (.mv (.t 1)), iI 15 (.mv (.t 0)), iI 16 (.bin .sub (.t 14) (.t 15)), iI 17 (.bin .add (.t 16) (.c (.int .i64 256))), iI 18 (.bin .rem (.t 17) (.c (.int .i64 256))), iI 5 (.mv (.t 18))]) c12_1
def c12_3 : C := .seq (.seq (.reg [iI 6 (.mv (.t 0)), iI 7 (.call (.c (.fn 36 [])) [(.t 6)]), iI 8 (.un .not (.t 7)), iI 9 (.mv (.t 8)), iG (some 10) 9 false (.mv (.t 1)), iG (some 11) 9 false (.call (.c (.fn 36 [])) [(.t 10)]), iG (some 12) 9 false (.un .not (.t 11)), iI 13 (.pick (.t 9) (.c (.bool true)) (.t 12))]) c12_0) c12_2
def ir12 : C := .seq (.reg [iI 4 (.mv (.c (.bool false)))]) c12_3
theorem fd12 : fd? Try.prog 12 = some (25, [.slot 4], ir12) := by kernel_rfl
noncomputable def f12 (old_14 : Int) (seq_15 : Int) : Option (Bool) :=
  (f36 old_14).bind fun r_18 => (if (!r_18) = true then (some false) else (f36 seq_15).bind fun r_19 => (if (!r_19) = true then (some false) else (if (decide (0 < ((IntKind.i64.wrap ((IntKind.i64.wrap (seq_15 - old_14)) + 256)).tmod 256))) = true then (some (decide (((IntKind.i64.wrap ((IntKind.i64.wrap (seq_15 - old_14)) + 256)).tmod 256) < 237))) else (some false))))
theorem f12_ok {old_14 : Int} {seq_15 : Int} {r_ : Bool} (H : f12 old_14 seq_15 = some r_) : Pure Try.prog 12 [.int .i64 old_14, .int .i64 seq_15] (· = .bool r_) := by
  refine Pure.walk3 fd12 none (Nat.le_of_ble_eq_true rfl) (by rfl) fun Q hQ => ?_
  simp only [f12] at H
  refine AW.rseq ?_
  try simp only [↓wk, ↓wl, nc, evV, wrapBits_eq, ↓reduceIte, Nat.reduceEqDiff, Nat.reduceAdd, Nat.reduceSub, Nat.reduceLeDiff, Nat.reduceLT, Nat.reduceBEq, reduceCtorEq, Int.reduceEq]
  refine AW.sseq ?_
  refine AW.rseq ?_
  try simp only [↓wk, ↓wl, nc, evV, wrapBits_eq, ↓reduceIte, Nat.reduceEqDiff, Nat.reduceAdd, Nat.reduceSub, Nat.reduceLeDiff, Nat.reduceLT, Nat.reduceBEq, reduceCtorEq, Int.reduceEq]
  refine evTs_pure hFn H (fun _ h => f36_ok h) (by rfl) (by rfl) (by rfl) (by rfl) (fun _ => rfl) ?_ <;> clear H <;> intro r_18 H
  try simp only [eL, ↓wk, ↓wl, nc, evV, wrapBits_eq, ↓reduceIte, Nat.reduceEqDiff, Nat.reduceAdd, Nat.reduceSub, Nat.reduceLeDiff, Nat.reduceLT, Nat.reduceBEq, reduceCtorEq, Int.reduceEq]
  refine evTs_ifg H (by rfl) ?_ ?_ <;> clear H <;> intro H
  · try simp only [↓wk, ↓wl, nc, evV, wrapBits_eq, ↓reduceIte, Nat.reduceEqDiff, Nat.reduceAdd, Nat.reduceSub, Nat.reduceLeDiff, Nat.reduceLT, Nat.reduceBEq, reduceCtorEq, Int.reduceEq]
    refine AW.ift (by rfl) ?_
    refine AW.rseq ?_
    try simp only [↓wk, ↓wl, nc, evV, wrapBits_eq, ↓reduceIte, Nat.reduceEqDiff, Nat.reduceAdd, Nat.reduceSub, Nat.reduceLeDiff, Nat.reduceLT, Nat.reduceBEq, reduceCtorEq, Int.reduceEq]
    refine AW.ret ?_
    refine seqQ.ret ?_
    cases H
    exact hQ _ _ _ _ (.inr rfl) (by simp only [resVs, omap, resV, ↓wk, ↓wl, nc, evV, wrapBits_eq, ↓reduceIte, Nat.reduceEqDiff, Nat.reduceAdd, Nat.reduceSub, Nat.reduceLeDiff, Nat.reduceLT, Nat.reduceBEq, reduceCtorEq, Int.reduceEq]; rfl) (hand_plain (by rfl)) (by first | exact Or.inl rfl | exact Or.inr rfl)
  · try simp only [↓wk, ↓wl, nc, evV, wrapBits_eq, ↓reduceIte, Nat.reduceEqDiff, Nat.reduceAdd, Nat.reduceSub, Nat.reduceLeDiff, Nat.reduceLT, Nat.reduceBEq, reduceCtorEq, Int.reduceEq]
    refine evTs_pure hFn H (fun _ h => f36_ok h) (by rfl) (by rfl) (by rfl) (by rfl) (fun _ => rfl) ?_ <;> clear H <;> intro r_19 H
    try simp only [eL, ↓wk, ↓wl, nc, evV, wrapBits_eq, ↓reduceIte, Nat.reduceEqDiff, Nat.reduceAdd, Nat.reduceSub, Nat.reduceLeDiff, Nat.reduceLT, Nat.reduceBEq, reduceCtorEq, Int.reduceEq]
    refine AW.ifc H (by rfl) ?_ ?_ <;> clear H <;> intro H
    · refine AW.rseq ?_
      try simp only [↓wk, ↓wl, nc, evV, wrapBits_eq, ↓reduceIte, Nat.reduceEqDiff, Nat.reduceAdd, Nat.reduceSub, Nat.reduceLeDiff, Nat.reduceLT, Nat.reduceBEq, reduceCtorEq, Int.reduceEq]
      refine AW.ret ?_
      refine seqQ.ret ?_
      cases H
      exact hQ _ _ _ _ (.inr rfl) (by simp only [resVs, omap, resV, ↓wk, ↓wl, nc, evV, wrapBits_eq, ↓reduceIte, Nat.reduceEqDiff, Nat.reduceAdd, Nat.reduceSub, Nat.reduceLeDiff, Nat.reduceLT, Nat.reduceBEq, reduceCtorEq, Int.reduceEq]; rfl) (hand_plain (by rfl)) (by first | exact Or.inl rfl | exact Or.inr rfl)
    · refine AW.skip ?_
      refine seqQ.norm ?_
      refine AW.rseq ?_
      try simp only [↓wk, ↓wl, nc, evV, wrapBits_eq, ↓reduceIte, Nat.reduceEqDiff, Nat.reduceAdd, Nat.reduceSub, Nat.reduceLeDiff, Nat.reduceLT, Nat.reduceBEq, reduceCtorEq, Int.reduceEq]
      refine AW.rseq ?_
      try simp only [↓wk, ↓wl, nc, evV, wrapBits_eq, ↓reduceIte, Nat.reduceEqDiff, Nat.reduceAdd, Nat.reduceSub, Nat.reduceLeDiff, Nat.reduceLT, Nat.reduceBEq, reduceCtorEq, Int.reduceEq]
      refine evTs_ifg H (by rfl) ?_ ?_ <;> clear H <;> intro H
      · try simp only [↓wk, ↓wl, nc, evV, wrapBits_eq, ↓reduceIte, Nat.reduceEqDiff, Nat.reduceAdd, Nat.reduceSub, Nat.reduceLeDiff, Nat.reduceLT, Nat.reduceBEq, reduceCtorEq, Int.reduceEq]
        refine AW.ret ?_
        cases H
        exact hQ _ _ _ _ (.inr rfl) (by simp only [resVs, omap, resV, ↓wk, ↓wl, nc, evV, wrapBits_eq, ↓reduceIte, Nat.reduceEqDiff, Nat.reduceAdd, Nat.reduceSub, Nat.reduceLeDiff, Nat.reduceLT, Nat.reduceBEq, reduceCtorEq, Int.reduceEq]; rfl) (hand_plain (by rfl)) (by first | exact Or.inl rfl | exact Or.inr rfl)
      · try simp only [↓wk, ↓wl, nc, evV, wrapBits_eq, ↓reduceIte, Nat.reduceEqDiff, Nat.reduceAdd, Nat.reduceSub, Nat.reduceLeDiff, Nat.reduceLT, Nat.reduceBEq, reduceCtorEq, Int.reduceEq]
        refine AW.ret ?_
        cases H
        exact hQ _ _ _ _ (.inr rfl) (by simp only [resVs, omap, resV, ↓wk, ↓wl, nc, evV, wrapBits_eq, ↓reduceIte, Nat.reduceEqDiff, Nat.reduceAdd, Nat.reduceSub, Nat.reduceLeDiff, Nat.reduceLT, Nat.reduceBEq, reduceCtorEq, Int.reduceEq]; rfl) (hand_plain (by rfl)) (by first | exact Or.inl rfl | exact Or.inr rfl)
noncomputable def f50 (s : List UInt8) (n : Int) : Option (List UInt8) := rep? s n
theorem f50_ok {s : List UInt8} {n : Int} {r_ : List UInt8} (H : f50 s n = some r_) : Pure Try.prog 50 [.str s, .int .i64 n] (· = .str r_) :=
  repeat_pure ⟨Try.f50, _, Try.func50, by kernel_rfl, rfl⟩ Try.strings_Repeat H
def c27_0 : C := .seq (.regq [iI 5 (.mv (.t 0)), iI 6 (.mv (.t 1)), iI 7 (.cint .u8 (.t 6)), iI 8 (.mkslp 0 1 (.int .u8 0) [(0, (.t 7))]), iI 9 (.cstr (.t 8)), iI 10 (.call (.c (.fn 50 [])) [(.c (.str [0])), (.c (.int .i64 511))]), iI 11 (.bin .add (.t 9) (.t 10)), iI 12 (.build [(1, (.int .i64 0)), (1, (.str []))] [(0, 0, (.t 5)), (1, 0, (.t 11))]), iN (.store 2 (.t 4) (.t 12))]) .ret
def ir27 : C := .seq (.reg [iI 4 (.alloc [(1, (.int .i64 0)), (1, (.str []))])]) c27_0
theorem fd27 : fd? Try.prog 27 = some (13, [.cell 4 2], ir27) := by kernel_rfl
noncomputable def f27 (universe_27 : Int) (v_28 : Int) : Option (ApiFrame) :=
  (f50 ([0]) 511).bind fun r_29 => (cat? (([(IntKind.u8.wrap v_28)]).map b8) r_29).bind fun v_30 => (some (ApiFrame.mk universe_27 v_30))
theorem f27_ok {universe_27 : Int} {v_28 : Int} {r_ : ApiFrame} (H : f27 universe_27 v_28 = some r_) : Pure Try.prog 27 [.int .i64 universe_27, .int .i64 v_28] (· = .agg [.int .i64 r_.fUniverse, .str r_.fSlots]) := by
  refine Pure.walk3 fd27 none (Nat.le_of_ble_eq_true rfl) (by rfl) fun Q hQ => ?_
  simp only [f27] at H
  refine AW.rseq ?_
  try simp only [↓wk, ↓wl, nc, evV, wrapBits_eq, ↓reduceIte, Nat.reduceEqDiff, Nat.reduceAdd, Nat.reduceSub, Nat.reduceLeDiff, Nat.reduceLT, Nat.reduceBEq, reduceCtorEq, Int.reduceEq]
  refine AW.rqseq ?_
  try simp only [↓wk, ↓wl, nc, evV, wrapBits_eq, ↓reduceIte, Nat.reduceEqDiff, Nat.reduceAdd, Nat.reduceSub, Nat.reduceLeDiff, Nat.reduceLT, Nat.reduceBEq, reduceCtorEq, Int.reduceEq]
  refine evTs_cstr (xs := [(IntKind.u8.wrap v_28)]) (by rfl) ?_
  try simp only [↓wk, ↓wl, nc, evV, wrapBits_eq, ↓reduceIte, Nat.reduceEqDiff, Nat.reduceAdd, Nat.reduceSub, Nat.reduceLeDiff, Nat.reduceLT, Nat.reduceBEq, reduceCtorEq, Int.reduceEq]
  refine evTs_pure hFnq H (fun _ h => f50_ok h) (by rfl) (by rfl) (by rfl) (by rfl) (fun _ => rfl) ?_ <;> clear H <;> intro r_29 H
  try simp only [eL, ↓wk, ↓wl, nc, evV, wrapBits_eq, ↓reduceIte, Nat.reduceEqDiff, Nat.reduceAdd, Nat.reduceSub, Nat.reduceLeDiff, Nat.reduceLT, Nat.reduceBEq, reduceCtorEq, Int.reduceEq]
  refine rest_cat H ?_ <;> clear H <;> intro v_30 H
  try simp only [↓wk, ↓wl, nc, evV, wrapBits_eq, ↓reduceIte, Nat.reduceEqDiff, Nat.reduceAdd, Nat.reduceSub, Nat.reduceLeDiff, Nat.reduceLT, Nat.reduceBEq, reduceCtorEq, Int.reduceEq]
  refine AW.ret ?_
  cases H
  exact hQ _ _ _ _ (.inr rfl) (by simp only [resVs, omap, resV, ↓wk, ↓wl, nc, evV, wrapBits_eq, ↓reduceIte, Nat.reduceEqDiff, Nat.reduceAdd, Nat.reduceSub, Nat.reduceLeDiff, Nat.reduceLT, Nat.reduceBEq, reduceCtorEq, Int.reduceEq]; rfl) (hand_plain (by rfl)) (by first | exact Or.inl rfl | exact Or.inr rfl)
noncomputable def f20_L1 (s_928 : NetworkSender) : Lp (Int) ((Unit) ⊕ (Int)) where
  body := fun v_946 => (if (decide (v_946 < ((s_928.fStreams.length : Nat) : Int))) = true then (at? s_928.fStreams v_946).bind fun x_954 => (f40 x_954.fUniverse 1 8).bind fun r_955 => (if (!r_955) = true then (some (.brk (Sum.inr 2))) else (f36 x_954.fSeq).bind fun r_956 => (if (!r_956) = true then (some (.brk (Sum.inr 2))) else (f40 x_954.fLast 0 10000000).bind fun r_957 => (if (!r_957) = true then (some (.brk (Sum.inr 2))) else (f40 x_954.fTimes 1 3).bind fun r_958 => (if (!r_958) = true then (some (.brk (Sum.inr 2))) else (if (decide (((x_954.fSlots.length : Nat) : Int) ≠ 512)) = true then (some (.brk (Sum.inr 14))) else (if (decide (0 < v_946)) = true then (at? s_928.fStreams (IntKind.i64.wrap (v_946 - 1))).bind fun x_959 => (if (decide (x_954.fUniverse ≤ x_959.fUniverse)) = true then (some (.brk (Sum.inr 9))) else (some (.next (IntKind.i64.wrap (v_946 + 1))))) else (some (.next (IntKind.i64.wrap (v_946 + 1)))))))))) else (some (.brk (Sum.inl ()))))
  cst := fun v_946 => ⟨put (put (put (put (fun _ => .junk) 26 (.int .i64 v_946)) 25 (.int .i64 ((s_928.fStreams.length : Nat) : Int))) 24 (.sl 5 false (s_928.fStreams.map eNetworkStream))) 1 (.ptr 0 0), [.cel [.int .u64 s_928.fSource, .int .i64 s_928.fPriority, .int .i64 s_928.fSync, .int .i64 s_928.fPulse, .sl 5 false (s_928.fStreams.map eNetworkStream)]]⟩
def c20_0 : C := .cond (.t 18) (.seq (.reg [iI 2 (.mv (.c (.int .i64 2)))]) .ret) (.skip)
def c20_1 : C := .cond (.t 22) (.seq (.reg [iI 2 (.mv (.c (.int .i64 5)))]) .ret) (.skip)
def c20_2 : C := .cond (.t 59) (.seq (.reg [iI 2 (.mv (.c (.int .i64 9)))]) .ret) (.skip)
def c20_3 : C := .cond (.t 54) (.seq (.reg [iI 2 (.mv (.c (.int .i64 14)))]) .ret) (.seq (.reg [iI 60 (.mv (.t 3)), iI 61 (.bin .gtr (.t 60) (.c (.int .i64 0))), iI 62 (.mv (.t 61)), iG (some 63) 62 true (.faddr 0 (.t 4)), iG (some 64) 62 true (.load 0 (.t 63)), iG (some 65) 62 true (.faddr 4 (.t 1)), iG (some 66) 62 true (.load 0 (.t 65)), iG (some 67) 62 true (.mv (.t 3)), iG (some 68) 62 true (.bin .sub (.t 67) (.c (.int .i64 1))), iG (some 69) 62 true (.iaddr 5 (.t 66) (.t 68)), iG (some 70) 62 true (.faddr 0 (.t 69)), iG (some 71) 62 true (.load 0 (.t 70)), iG (some 72) 62 true (.bin .leq (.t 64) (.t 71)), iI 73 (.pick (.t 62) (.t 72) (.c (.bool false))), iI 59 (.mv (.t 73))]) c20_2)
def c20_4 : C := .cond (.t 31) (.seq (.reg [iI 2 (.mv (.c (.int .i64 2)))]) .ret) (.seq (.reg [iI 55 (.faddr 4 (.t 4)), iI 56 (.load 0 (.t 55)), iI 57 (.len 1 (.t 56)), iI 58 (.bin .neq (.t 57) (.c (.int .i64 512))), iI 54 (.mv (.t 58))]) c20_3)
def c20_5 : C := .block 2 (.seq (.reg [iI 32 (.faddr 0 (.t 4)), iI 33 (.load 0 (.t 32)), iI 34 (.call (.c (.fn 40 [])) [(.t 33), (.c (.int .i64 1)), (.c (.int .i64 8))]), iI 35 (.un .not (.t 34)), iI 36 (.mv (.t 35)), iG (some 37) 36 false (.faddr 1 (.t 4)), iG (some 38) 36 false (.load 0 (.t 37)), iG (some 39) 36 false (.call (.c (.fn 36 [])) [(.t 38)]), iG (some 40) 36 false (.un .not (.t 39)), iI 41 (.pick (.t 36) (.c (.bool true)) (.t 40)), iI 42 (.mv (.t 41)), iG (some 43) 42 false (.faddr 2 (.t 4)), iG (some 44) 42 false (.load 0 (.t 43)), iG (some 45) 42 false (.call (.c (.fn 40 [])) [(.t 44), (.c (.int .i64 0)), (.c (.int .i64 10000000))]), iG (some 46) 42 false (.un .not (.t 45)), iI 47 (.pick (.t 42) (.c (.bool true)) (.t 46)), iI 48 (.mv (.t 47)), iG (some 49) 48 false (.faddr 3 (.t 4)), iG (some 50) 48 false (.load 0 (.t 49)), iG (some 51) 48 false (.call (.c (.fn 40 [])) [(.t 50), (.c (.int .i64 1)), (.c (.int .i64 3))]), iG (some 52) 48 false (.un .not (.t 51)), iI 53 (.pick (.t 48) (.c (.bool true)) (.t 52)), iI 31 (.mv (.t 53))]) c20_4)
def c20_6 : C := .reg [iI 74 (.bin .add (.t 26) (.c (.int .i64 1))), iI 26 (.mv (.t 74))]
def c20_7 : C := .seq (.block 1 (.seq (.reg [iI 28 (.mv (.t 26)), iI 29 (.iaddr 5 (.t 24) (.t 26)), iI 30 (.load 5 (.t 29)), iI 4 (.alloc [(1, (.int .i64 0)), (1, (.int .i64 0)), (1, (.int .i64 0)), (1, (.int .i64 0)), (1, (.str []))]), iI 3 (.mv (.t 28)), iN (.store 5 (.t 4) (.t 30))]) c20_5)) c20_6
def c20_8 : C := .seq (.cond (.t 27) (.skip) (.exit 0)) c20_7
def c20_9 : C := .block 0 (.loop (.seq (.reg [iI 27 (.bin .lss (.t 26) (.t 25))]) c20_8))
def c20_10 : C := .seq (.reg [iI 2 (.mv (.c (.int .i64 0)))]) .ret
def c20_11 : C := .seq (.seq (.reg [iI 23 (.faddr 4 (.t 1)), iI 24 (.load 0 (.t 23)), iI 25 (.len 0 (.t 24)), iI 26 (.mv (.c (.int .i64 0)))]) c20_9) c20_10
def c20_12 : C := .seq (.seq (.reg [iI 19 (.faddr 4 (.t 1)), iI 20 (.load 0 (.t 19)), iI 21 (.len 0 (.t 20)), iI 22 (.bin .gtr (.t 21) (.c (.int .i64 8)))]) c20_1) c20_11
def c20_13 : C := .seq (.seq (.reg [iI 5 (.faddr 0 (.t 1)), iI 6 (.load 0 (.t 5)), iI 7 (.faddr 1 (.t 1)), iI 8 (.load 0 (.t 7)), iI 9 (.faddr 2 (.t 1)), iI 10 (.load 0 (.t 9)), iI 11 (.call (.c (.fn 38 [])) [(.t 6), (.t 8), (.t 10)]), iI 12 (.un .not (.t 11)), iI 13 (.mv (.t 12)), iG (some 14) 13 false (.faddr 3 (.t 1)), iG (some 15) 13 false (.load 0 (.t 14)), iG (some 16) 13 false (.call (.c (.fn 36 [])) [(.t 15)]), iG (some 17) 13 false (.un .not (.t 16)), iI 18 (.pick (.t 13) (.c (.bool true)) (.t 17))]) c20_0) c20_12
def ir20 : C := .seq (.reg [iI 1 (.box (.t 0)), iI 2 (.mv (.c (.int .i64 0)))]) c20_13
theorem fd20 : fd? Try.prog 20 = some (75, [.slot 2], ir20) := by kernel_rfl
noncomputable def f20 (s_928 : NetworkSender) : Option (Int) :=
  (f38 s_928.fSource s_928.fPriority s_928.fSync).bind fun r_931 => (if (!r_931) = true then (some 2) else (f36 s_928.fPulse).bind fun r_932 => (if (!r_932) = true then (some 2) else (if (decide (8 < ((s_928.fStreams.length : Nat) : Int))) = true then (some 5) else ((Lp.run (f20_L1 s_928) 0).bind fun r_ => match r_ with | (Sum.inl _) => (some 0) | (Sum.inr v_953) => (some v_953)))))
theorem f20_ok {s_928 : NetworkSender} {r_ : Int} (H : f20 s_928 = some r_) : Pure Try.prog 20 [.agg [.int .u64 s_928.fSource, .int .i64 s_928.fPriority, .int .i64 s_928.fSync, .int .i64 s_928.fPulse, .sl 5 false (s_928.fStreams.map eNetworkStream)]] (· = .int .i64 r_) := by
  refine Pure.walk3 fd20 none (Nat.le_of_ble_eq_true rfl) (by rfl) fun Q hQ => ?_
  simp only [f20] at H
  refine AW.rseq ?_
  try simp only [↓wk, ↓wl, nc, evV, wrapBits_eq, ↓reduceIte, Nat.reduceEqDiff, Nat.reduceAdd, Nat.reduceSub, Nat.reduceLeDiff, Nat.reduceLT, Nat.reduceBEq, reduceCtorEq, Int.reduceEq]
  refine AW.sseq ?_
  refine AW.rseq ?_
  try simp only [↓wk, ↓wl, nc, evV, wrapBits_eq, ↓reduceIte, Nat.reduceEqDiff, Nat.reduceAdd, Nat.reduceSub, Nat.reduceLeDiff, Nat.reduceLT, Nat.reduceBEq, reduceCtorEq, Int.reduceEq]
  refine evTs_pure hFn H (fun _ h => f38_ok h) (by rfl) (by rfl) (by rfl) (by rfl) (fun _ => rfl) ?_ <;> clear H <;> intro r_931 H
  try simp only [eL, ↓wk, ↓wl, nc, evV, wrapBits_eq, ↓reduceIte, Nat.reduceEqDiff, Nat.reduceAdd, Nat.reduceSub, Nat.reduceLeDiff, Nat.reduceLT, Nat.reduceBEq, reduceCtorEq, Int.reduceEq]
  refine evTs_ifg H (by rfl) ?_ ?_ <;> clear H <;> intro H
  · try simp only [↓wk, ↓wl, nc, evV, wrapBits_eq, ↓reduceIte, Nat.reduceEqDiff, Nat.reduceAdd, Nat.reduceSub, Nat.reduceLeDiff, Nat.reduceLT, Nat.reduceBEq, reduceCtorEq, Int.reduceEq]
    refine AW.ift (by rfl) ?_
    refine AW.rseq ?_
    try simp only [↓wk, ↓wl, nc, evV, wrapBits_eq, ↓reduceIte, Nat.reduceEqDiff, Nat.reduceAdd, Nat.reduceSub, Nat.reduceLeDiff, Nat.reduceLT, Nat.reduceBEq, reduceCtorEq, Int.reduceEq]
    refine AW.ret ?_
    refine seqQ.ret ?_
    cases H
    exact hQ _ _ _ _ (.inr rfl) (by simp only [resVs, omap, resV, ↓wk, ↓wl, nc, evV, wrapBits_eq, ↓reduceIte, Nat.reduceEqDiff, Nat.reduceAdd, Nat.reduceSub, Nat.reduceLeDiff, Nat.reduceLT, Nat.reduceBEq, reduceCtorEq, Int.reduceEq]; rfl) (hand_plain (by rfl)) (by first | exact Or.inl rfl | exact Or.inr rfl)
  · try simp only [↓wk, ↓wl, nc, evV, wrapBits_eq, ↓reduceIte, Nat.reduceEqDiff, Nat.reduceAdd, Nat.reduceSub, Nat.reduceLeDiff, Nat.reduceLT, Nat.reduceBEq, reduceCtorEq, Int.reduceEq]
    refine evTs_pure hFn H (fun _ h => f36_ok h) (by rfl) (by rfl) (by rfl) (by rfl) (fun _ => rfl) ?_ <;> clear H <;> intro r_932 H
    try simp only [eL, ↓wk, ↓wl, nc, evV, wrapBits_eq, ↓reduceIte, Nat.reduceEqDiff, Nat.reduceAdd, Nat.reduceSub, Nat.reduceLeDiff, Nat.reduceLT, Nat.reduceBEq, reduceCtorEq, Int.reduceEq]
    refine AW.ifc H (by rfl) ?_ ?_ <;> clear H <;> intro H
    · refine AW.rseq ?_
      try simp only [↓wk, ↓wl, nc, evV, wrapBits_eq, ↓reduceIte, Nat.reduceEqDiff, Nat.reduceAdd, Nat.reduceSub, Nat.reduceLeDiff, Nat.reduceLT, Nat.reduceBEq, reduceCtorEq, Int.reduceEq]
      refine AW.ret ?_
      refine seqQ.ret ?_
      cases H
      exact hQ _ _ _ _ (.inr rfl) (by simp only [resVs, omap, resV, ↓wk, ↓wl, nc, evV, wrapBits_eq, ↓reduceIte, Nat.reduceEqDiff, Nat.reduceAdd, Nat.reduceSub, Nat.reduceLeDiff, Nat.reduceLT, Nat.reduceBEq, reduceCtorEq, Int.reduceEq]; rfl) (hand_plain (by rfl)) (by first | exact Or.inl rfl | exact Or.inr rfl)
    · refine AW.skip ?_
      refine seqQ.norm ?_
      refine AW.sseq ?_
      refine AW.rseq ?_
      try simp only [↓wk, ↓wl, nc, evV, wrapBits_eq, ↓reduceIte, Nat.reduceEqDiff, Nat.reduceAdd, Nat.reduceSub, Nat.reduceLeDiff, Nat.reduceLT, Nat.reduceBEq, reduceCtorEq, Int.reduceEq]
      refine AW.ifc H (by rfl) ?_ ?_ <;> clear H <;> intro H
      · refine AW.rseq ?_
        try simp only [↓wk, ↓wl, nc, evV, wrapBits_eq, ↓reduceIte, Nat.reduceEqDiff, Nat.reduceAdd, Nat.reduceSub, Nat.reduceLeDiff, Nat.reduceLT, Nat.reduceBEq, reduceCtorEq, Int.reduceEq]
        refine AW.ret ?_
        refine seqQ.ret ?_
        cases H
        exact hQ _ _ _ _ (.inr rfl) (by simp only [resVs, omap, resV, ↓wk, ↓wl, nc, evV, wrapBits_eq, ↓reduceIte, Nat.reduceEqDiff, Nat.reduceAdd, Nat.reduceSub, Nat.reduceLeDiff, Nat.reduceLT, Nat.reduceBEq, reduceCtorEq, Int.reduceEq]; rfl) (hand_plain (by rfl)) (by first | exact Or.inl rfl | exact Or.inr rfl)
      · refine AW.skip ?_
        refine seqQ.norm ?_
        refine AW.sseq ?_
        refine AW.rseq ?_
        try simp only [↓wk, ↓wl, nc, evV, wrapBits_eq, ↓reduceIte, Nat.reduceEqDiff, Nat.reduceAdd, Nat.reduceSub, Nat.reduceLeDiff, Nat.reduceLT, Nat.reduceBEq, reduceCtorEq, Int.reduceEq]
        refine AW.bend ?_
        refine AW.iter H ((Le.none [0] [1, 24, 25, 26] (by decide) (by simp only [f20_L1, List.length_set, Option.map_some, restrict_eq, renS_nil, renS_cons, renB_els, renB_cel, renB_dead, deep_eq, map_ren_enc, ren_agg', ren_tup', ren_fn', ren_int', ren_bool', ren_str', ren_sl', ren_pro', ren_nilp', ren_nilfn', ren_junk', ren_ptr', ren_row', ren_arow', ren_eptr', vm, List.idxOf?_cons, List.idxOf?_nil, beq_self_eq_true, Option.map_none, List.getD_cons_zero, List.getD_cons_succ, ↓wk, ↓wl, nc, evV, wrapBits_eq, ↓reduceIte, Nat.reduceEqDiff, Nat.reduceAdd, Nat.reduceSub, Nat.reduceLeDiff, Nat.reduceLT, Nat.reduceBEq, reduceCtorEq, Int.reduceEq] <;> rfl))) ?_ <;> clear H
        rintro v_946 x_ st0_ H hst_
        simp only [f20_L1] at H hst_
        subst hst_
        refine AW.rseq ?_
        try simp only [↓wk, ↓wl, nc, evV, wrapBits_eq, ↓reduceIte, Nat.reduceEqDiff, Nat.reduceAdd, Nat.reduceSub, Nat.reduceLeDiff, Nat.reduceLT, Nat.reduceBEq, reduceCtorEq, Int.reduceEq]
        refine AW.sseq ?_
        refine AW.ifc H (by rfl) ?_ ?_ <;> clear H <;> intro H
        · refine AW.skip ?_
          refine seqQ.norm ?_
          refine AW.bseq ?_
          refine AW.rseq ?_
          try simp only [↓wk, ↓wl, nc, evV, wrapBits_eq, ↓reduceIte, Nat.reduceEqDiff, Nat.reduceAdd, Nat.reduceSub, Nat.reduceLeDiff, Nat.reduceLT, Nat.reduceBEq, reduceCtorEq, Int.reduceEq]
          refine evTs_at (enc := eNetworkStream) H (by rfl) (by rfl) ?_ <;> clear H <;> intro x_954 H
          try simp only [eNetworkStream, eL, ↓wk, ↓wl, nc, evV, wrapBits_eq, ↓reduceIte, Nat.reduceEqDiff, Nat.reduceAdd, Nat.reduceSub, Nat.reduceLeDiff, Nat.reduceLT, Nat.reduceBEq, reduceCtorEq, Int.reduceEq]
          refine AW.bend ?_
          refine AW.rseq ?_
          try simp only [↓wk, ↓wl, nc, evV, wrapBits_eq, ↓reduceIte, Nat.reduceEqDiff, Nat.reduceAdd, Nat.reduceSub, Nat.reduceLeDiff, Nat.reduceLT, Nat.reduceBEq, reduceCtorEq, Int.reduceEq]
          refine evTs_pure hFn H (fun _ h => f40_ok h) (by rfl) (by rfl) (by rfl) (by rfl) (fun _ => rfl) ?_ <;> clear H <;> intro r_955 H
          try simp only [eL, ↓wk, ↓wl, nc, evV, wrapBits_eq, ↓reduceIte, Nat.reduceEqDiff, Nat.reduceAdd, Nat.reduceSub, Nat.reduceLeDiff, Nat.reduceLT, Nat.reduceBEq, reduceCtorEq, Int.reduceEq]
          refine evTs_ifg H (by rfl) ?_ ?_ <;> clear H <;> intro H
          · try simp only [↓wk, ↓wl, nc, evV, wrapBits_eq, ↓reduceIte, Nat.reduceEqDiff, Nat.reduceAdd, Nat.reduceSub, Nat.reduceLeDiff, Nat.reduceLT, Nat.reduceBEq, reduceCtorEq, Int.reduceEq]
            refine AW.ift (by rfl) ?_
            refine AW.rseq ?_
            try simp only [↓wk, ↓wl, nc, evV, wrapBits_eq, ↓reduceIte, Nat.reduceEqDiff, Nat.reduceAdd, Nat.reduceSub, Nat.reduceLeDiff, Nat.reduceLT, Nat.reduceBEq, reduceCtorEq, Int.reduceEq]
            refine AW.ret ?_
            refine blk0.ret ?_
            refine blkQ.ret ?_
            refine loopQ.ret H ?_ <;> clear H <;> intro H
            try dsimp only at H
            refine blk0.ret ?_
            refine seqQ.ret ?_
            cases H
            exact hQ _ _ _ _ (.inr rfl) (by simp only [resVs, omap, resV, ↓wk, ↓wl, nc, evV, wrapBits_eq, ↓reduceIte, Nat.reduceEqDiff, Nat.reduceAdd, Nat.reduceSub, Nat.reduceLeDiff, Nat.reduceLT, Nat.reduceBEq, reduceCtorEq, Int.reduceEq]; rfl) (hand_plain (by rfl)) (by first | exact Or.inl rfl | exact Or.inr rfl)
          · try simp only [↓wk, ↓wl, nc, evV, wrapBits_eq, ↓reduceIte, Nat.reduceEqDiff, Nat.reduceAdd, Nat.reduceSub, Nat.reduceLeDiff, Nat.reduceLT, Nat.reduceBEq, reduceCtorEq, Int.reduceEq]
            refine evTs_pure hFn H (fun _ h => f36_ok h) (by rfl) (by rfl) (by rfl) (by rfl) (fun _ => rfl) ?_ <;> clear H <;> intro r_956 H
            try simp only [eL, ↓wk, ↓wl, nc, evV, wrapBits_eq, ↓reduceIte, Nat.reduceEqDiff, Nat.reduceAdd, Nat.reduceSub, Nat.reduceLeDiff, Nat.reduceLT, Nat.reduceBEq, reduceCtorEq, Int.reduceEq]
            refine evTs_ifg H (by rfl) ?_ ?_ <;> clear H <;> intro H
            · try simp only [↓wk, ↓wl, nc, evV, wrapBits_eq, ↓reduceIte, Nat.reduceEqDiff, Nat.reduceAdd, Nat.reduceSub, Nat.reduceLeDiff, Nat.reduceLT, Nat.reduceBEq, reduceCtorEq, Int.reduceEq]
              refine AW.ift (by rfl) ?_
              refine AW.rseq ?_
              try simp only [↓wk, ↓wl, nc, evV, wrapBits_eq, ↓reduceIte, Nat.reduceEqDiff, Nat.reduceAdd, Nat.reduceSub, Nat.reduceLeDiff, Nat.reduceLT, Nat.reduceBEq, reduceCtorEq, Int.reduceEq]
              refine AW.ret ?_
              refine blk0.ret ?_
              refine blkQ.ret ?_
              refine loopQ.ret H ?_ <;> clear H <;> intro H
              try dsimp only at H
              refine blk0.ret ?_
              refine seqQ.ret ?_
              cases H
              exact hQ _ _ _ _ (.inr rfl) (by simp only [resVs, omap, resV, ↓wk, ↓wl, nc, evV, wrapBits_eq, ↓reduceIte, Nat.reduceEqDiff, Nat.reduceAdd, Nat.reduceSub, Nat.reduceLeDiff, Nat.reduceLT, Nat.reduceBEq, reduceCtorEq, Int.reduceEq]; rfl) (hand_plain (by rfl)) (by first | exact Or.inl rfl | exact Or.inr rfl)
            · try simp only [↓wk, ↓wl, nc, evV, wrapBits_eq, ↓reduceIte, Nat.reduceEqDiff, Nat.reduceAdd, Nat.reduceSub, Nat.reduceLeDiff, Nat.reduceLT, Nat.reduceBEq, reduceCtorEq, Int.reduceEq]
              refine evTs_pure hFn H (fun _ h => f40_ok h) (by rfl) (by rfl) (by rfl) (by rfl) (fun _ => rfl) ?_ <;> clear H <;> intro r_957 H
              try simp only [eL, ↓wk, ↓wl, nc, evV, wrapBits_eq, ↓reduceIte, Nat.reduceEqDiff, Nat.reduceAdd, Nat.reduceSub, Nat.reduceLeDiff, Nat.reduceLT, Nat.reduceBEq, reduceCtorEq, Int.reduceEq]
              refine evTs_ifg H (by rfl) ?_ ?_ <;> clear H <;> intro H
              · try simp only [↓wk, ↓wl, nc, evV, wrapBits_eq, ↓reduceIte, Nat.reduceEqDiff, Nat.reduceAdd, Nat.reduceSub, Nat.reduceLeDiff, Nat.reduceLT, Nat.reduceBEq, reduceCtorEq, Int.reduceEq]
                refine AW.ift (by rfl) ?_
                refine AW.rseq ?_
                try simp only [↓wk, ↓wl, nc, evV, wrapBits_eq, ↓reduceIte, Nat.reduceEqDiff, Nat.reduceAdd, Nat.reduceSub, Nat.reduceLeDiff, Nat.reduceLT, Nat.reduceBEq, reduceCtorEq, Int.reduceEq]
                refine AW.ret ?_
                refine blk0.ret ?_
                refine blkQ.ret ?_
                refine loopQ.ret H ?_ <;> clear H <;> intro H
                try dsimp only at H
                refine blk0.ret ?_
                refine seqQ.ret ?_
                cases H
                exact hQ _ _ _ _ (.inr rfl) (by simp only [resVs, omap, resV, ↓wk, ↓wl, nc, evV, wrapBits_eq, ↓reduceIte, Nat.reduceEqDiff, Nat.reduceAdd, Nat.reduceSub, Nat.reduceLeDiff, Nat.reduceLT, Nat.reduceBEq, reduceCtorEq, Int.reduceEq]; rfl) (hand_plain (by rfl)) (by first | exact Or.inl rfl | exact Or.inr rfl)
              · try simp only [↓wk, ↓wl, nc, evV, wrapBits_eq, ↓reduceIte, Nat.reduceEqDiff, Nat.reduceAdd, Nat.reduceSub, Nat.reduceLeDiff, Nat.reduceLT, Nat.reduceBEq, reduceCtorEq, Int.reduceEq]
                refine evTs_pure hFn H (fun _ h => f40_ok h) (by rfl) (by rfl) (by rfl) (by rfl) (fun _ => rfl) ?_ <;> clear H <;> intro r_958 H
                try simp only [eL, ↓wk, ↓wl, nc, evV, wrapBits_eq, ↓reduceIte, Nat.reduceEqDiff, Nat.reduceAdd, Nat.reduceSub, Nat.reduceLeDiff, Nat.reduceLT, Nat.reduceBEq, reduceCtorEq, Int.reduceEq]
                refine AW.ifc H (by rfl) ?_ ?_ <;> clear H <;> intro H
                · refine AW.rseq ?_
                  try simp only [↓wk, ↓wl, nc, evV, wrapBits_eq, ↓reduceIte, Nat.reduceEqDiff, Nat.reduceAdd, Nat.reduceSub, Nat.reduceLeDiff, Nat.reduceLT, Nat.reduceBEq, reduceCtorEq, Int.reduceEq]
                  refine AW.ret ?_
                  refine blk0.ret ?_
                  refine blkQ.ret ?_
                  refine loopQ.ret H ?_ <;> clear H <;> intro H
                  try dsimp only at H
                  refine blk0.ret ?_
                  refine seqQ.ret ?_
                  cases H
                  exact hQ _ _ _ _ (.inr rfl) (by simp only [resVs, omap, resV, ↓wk, ↓wl, nc, evV, wrapBits_eq, ↓reduceIte, Nat.reduceEqDiff, Nat.reduceAdd, Nat.reduceSub, Nat.reduceLeDiff, Nat.reduceLT, Nat.reduceBEq, reduceCtorEq, Int.reduceEq]; rfl) (hand_plain (by rfl)) (by first | exact Or.inl rfl | exact Or.inr rfl)
                · refine AW.rseq ?_
                  try simp only [↓wk, ↓wl, nc, evV, wrapBits_eq, ↓reduceIte, Nat.reduceEqDiff, Nat.reduceAdd, Nat.reduceSub, Nat.reduceLeDiff, Nat.reduceLT, Nat.reduceBEq, reduceCtorEq, Int.reduceEq]
                  refine AW.ifc H (by rfl) ?_ ?_ <;> clear H <;> intro H
                  · refine AW.rseq ?_
                    try simp only [↓wk, ↓wl, nc, evV, wrapBits_eq, ↓reduceIte, Nat.reduceEqDiff, Nat.reduceAdd, Nat.reduceSub, Nat.reduceLeDiff, Nat.reduceLT, Nat.reduceBEq, reduceCtorEq, Int.reduceEq]
                    refine AW.ret ?_
                    refine blk0.ret ?_
                    refine blkQ.ret ?_
                    refine loopQ.ret H ?_ <;> clear H <;> intro H
                    try dsimp only at H
                    refine blk0.ret ?_
                    refine seqQ.ret ?_
                    cases H
                    exact hQ _ _ _ _ (.inr rfl) (by simp only [resVs, omap, resV, ↓wk, ↓wl, nc, evV, wrapBits_eq, ↓reduceIte, Nat.reduceEqDiff, Nat.reduceAdd, Nat.reduceSub, Nat.reduceLeDiff, Nat.reduceLT, Nat.reduceBEq, reduceCtorEq, Int.reduceEq]; rfl) (hand_plain (by rfl)) (by first | exact Or.inl rfl | exact Or.inr rfl)
                  · refine AW.rseq ?_
                    try simp only [↓wk, ↓wl, nc, evV, wrapBits_eq, ↓reduceIte, Nat.reduceEqDiff, Nat.reduceAdd, Nat.reduceSub, Nat.reduceLeDiff, Nat.reduceLT, Nat.reduceBEq, reduceCtorEq, Int.reduceEq]
                    refine evTs_ifg H (by rfl) ?_ ?_ <;> clear H <;> intro H
                    · try simp only [↓wk, ↓wl, nc, evV, wrapBits_eq, ↓reduceIte, Nat.reduceEqDiff, Nat.reduceAdd, Nat.reduceSub, Nat.reduceLeDiff, Nat.reduceLT, Nat.reduceBEq, reduceCtorEq, Int.reduceEq]
                      refine evTs_at (enc := eNetworkStream) H (by rfl) (by rfl) ?_ <;> clear H <;> intro x_959 H
                      try simp only [eNetworkStream, eL, ↓wk, ↓wl, nc, evV, wrapBits_eq, ↓reduceIte, Nat.reduceEqDiff, Nat.reduceAdd, Nat.reduceSub, Nat.reduceLeDiff, Nat.reduceLT, Nat.reduceBEq, reduceCtorEq, Int.reduceEq]
                      refine AW.ifc H (by rfl) ?_ ?_ <;> clear H <;> intro H
                      · refine AW.rseq ?_
                        try simp only [↓wk, ↓wl, nc, evV, wrapBits_eq, ↓reduceIte, Nat.reduceEqDiff, Nat.reduceAdd, Nat.reduceSub, Nat.reduceLeDiff, Nat.reduceLT, Nat.reduceBEq, reduceCtorEq, Int.reduceEq]
                        refine AW.ret ?_
                        refine blk0.ret ?_
                        refine blkQ.ret ?_
                        refine loopQ.ret H ?_ <;> clear H <;> intro H
                        try dsimp only at H
                        refine blk0.ret ?_
                        refine seqQ.ret ?_
                        cases H
                        exact hQ _ _ _ _ (.inr rfl) (by simp only [resVs, omap, resV, ↓wk, ↓wl, nc, evV, wrapBits_eq, ↓reduceIte, Nat.reduceEqDiff, Nat.reduceAdd, Nat.reduceSub, Nat.reduceLeDiff, Nat.reduceLT, Nat.reduceBEq, reduceCtorEq, Int.reduceEq]; rfl) (hand_plain (by rfl)) (by first | exact Or.inl rfl | exact Or.inr rfl)
                      · refine AW.skip ?_
                        refine blk0.norm ?_
                        refine blkQ.norm ?_
                        refine AW.rend ?_
                        try simp only [↓wk, ↓wl, nc, evV, wrapBits_eq, ↓reduceIte, Nat.reduceEqDiff, Nat.reduceAdd, Nat.reduceSub, Nat.reduceLeDiff, Nat.reduceLT, Nat.reduceBEq, reduceCtorEq, Int.reduceEq]
                        exact loopQ.next H ((Le.none [0] [1, 24, 25, 26] (by decide) (by simp only [f20_L1, List.length_set, Option.map_some, restrict_eq, renS_nil, renS_cons, renB_els, renB_cel, renB_dead, deep_eq, map_ren_enc, ren_agg', ren_tup', ren_fn', ren_int', ren_bool', ren_str', ren_sl', ren_pro', ren_nilp', ren_nilfn', ren_junk', ren_ptr', ren_row', ren_arow', ren_eptr', vm, List.idxOf?_cons, List.idxOf?_nil, beq_self_eq_true, Option.map_none, List.getD_cons_zero, List.getD_cons_succ, ↓wk, ↓wl, nc, evV, wrapBits_eq, ↓reduceIte, Nat.reduceEqDiff, Nat.reduceAdd, Nat.reduceSub, Nat.reduceLeDiff, Nat.reduceLT, Nat.reduceBEq, reduceCtorEq, Int.reduceEq] <;> rfl)))
                    · try simp only [↓wk, ↓wl, nc, evV, wrapBits_eq, ↓reduceIte, Nat.reduceEqDiff, Nat.reduceAdd, Nat.reduceSub, Nat.reduceLeDiff, Nat.reduceLT, Nat.reduceBEq, reduceCtorEq, Int.reduceEq]
                      refine AW.iff (by rfl) ?_
                      refine AW.skip ?_
                      refine blk0.norm ?_
                      refine blkQ.norm ?_
                      refine AW.rend ?_
                      try simp only [↓wk, ↓wl, nc, evV, wrapBits_eq, ↓reduceIte, Nat.reduceEqDiff, Nat.reduceAdd, Nat.reduceSub, Nat.reduceLeDiff, Nat.reduceLT, Nat.reduceBEq, reduceCtorEq, Int.reduceEq]
                      exact loopQ.next H ((Le.none [0] [1, 24, 25, 26] (by decide) (by simp only [f20_L1, List.length_set, Option.map_some, restrict_eq, renS_nil, renS_cons, renB_els, renB_cel, renB_dead, deep_eq, map_ren_enc, ren_agg', ren_tup', ren_fn', ren_int', ren_bool', ren_str', ren_sl', ren_pro', ren_nilp', ren_nilfn', ren_junk', ren_ptr', ren_row', ren_arow', ren_eptr', vm, List.idxOf?_cons, List.idxOf?_nil, beq_self_eq_true, Option.map_none, List.getD_cons_zero, List.getD_cons_succ, ↓wk, ↓wl, nc, evV, wrapBits_eq, ↓reduceIte, Nat.reduceEqDiff, Nat.reduceAdd, Nat.reduceSub, Nat.reduceLeDiff, Nat.reduceLT, Nat.reduceBEq, reduceCtorEq, Int.reduceEq] <;> rfl)))
        · refine AW.exit ?_
          refine seqQ.exit ?_
          refine loopQ.exit H ?_ <;> clear H <;> intro H
          try dsimp only at H
          refine blk0.here ?_
          refine seqQ.norm ?_
          refine AW.rseq ?_
          try simp only [↓wk, ↓wl, nc, evV, wrapBits_eq, ↓reduceIte, Nat.reduceEqDiff, Nat.reduceAdd, Nat.reduceSub, Nat.reduceLeDiff, Nat.reduceLT, Nat.reduceBEq, reduceCtorEq, Int.reduceEq]
          refine AW.ret ?_
          cases H
          exact hQ _ _ _ _ (.inr rfl) (by simp only [resVs, omap, resV, ↓wk, ↓wl, nc, evV, wrapBits_eq, ↓reduceIte, Nat.reduceEqDiff, Nat.reduceAdd, Nat.reduceSub, Nat.reduceLeDiff, Nat.reduceLT, Nat.reduceBEq, reduceCtorEq, Int.reduceEq]; rfl) (hand_plain (by rfl)) (by first | exact Or.inl rfl | exact Or.inr rfl)
def c64_0 : C := .seq (.reg [iI 4 (.load 0 (.t 1)), iI 5 (.faddr 2 (.t 2)), iI 6 (.load 0 (.t 5)), iI 7 (.bin .lss (.t 4) (.t 6)), iI 3 (.mv (.t 7))]) .ret
def ir64 : C := .seq (.reg [iI 2 (.box (.t 0)), iI 3 (.mv (.c (.bool false)))]) c64_0
theorem fd64 : fd? Try.prog 64 = some (8, [.slot 3], ir64) := by kernel_rfl
noncomputable def f64p (x_967 : NetworkStream) (c_968 : Int) : Option (Bool) :=
  (some (decide (c_968 < x_967.fLast)))
theorem f64p_ok {x_967 : NetworkStream} {c_968 : Int} {r_ : Bool} (H : f64p x_967 c_968 = some r_) : Pure Try.prog 64 [.agg [.int .i64 x_967.fUniverse, .int .i64 x_967.fSeq, .int .i64 x_967.fLast, .int .i64 x_967.fTimes, .str x_967.fSlots], .pro [.int .i64 c_968]] (· = .bool r_) := by
  refine Pure.walk3 fd64 none (Nat.le_of_ble_eq_true rfl) (by rfl) fun Q hQ => ?_
  simp only [f64p] at H
  refine AW.rseq ?_
  try simp only [↓wk, ↓wl, nc, evV, wrapBits_eq, ↓reduceIte, Nat.reduceEqDiff, Nat.reduceAdd, Nat.reduceSub, Nat.reduceLeDiff, Nat.reduceLT, Nat.reduceBEq, reduceCtorEq, Int.reduceEq]
  refine AW.rseq ?_
  try simp only [↓wk, ↓wl, nc, evV, wrapBits_eq, ↓reduceIte, Nat.reduceEqDiff, Nat.reduceAdd, Nat.reduceSub, Nat.reduceLeDiff, Nat.reduceLT, Nat.reduceBEq, reduceCtorEq, Int.reduceEq]
  refine AW.ret ?_
  cases H
  exact hQ _ _ _ _ (.inr rfl) (by simp only [resVs, omap, resV, ↓wk, ↓wl, nc, evV, wrapBits_eq, ↓reduceIte, Nat.reduceEqDiff, Nat.reduceAdd, Nat.reduceSub, Nat.reduceLeDiff, Nat.reduceLT, Nat.reduceBEq, reduceCtorEq, Int.reduceEq]; rfl) (hand_plain (by rfl)) (by first | exact Or.inl rfl | exact Or.inr rfl)
noncomputable def f89_64_L1 (s_964 : (List NetworkStream)) (f_965 : Int) : Lp (Int) ((Unit) ⊕ (Int)) where
  body := fun v_973 => (if (decide (v_973 < ((s_964.length : Nat) : Int))) = true then (at? s_964 v_973).bind fun x_977 => (f64p x_977 f_965).bind fun r_978 => (if r_978 = true then (some (.brk (Sum.inr v_973))) else (some (.next (IntKind.i64.wrap (v_973 + 1))))) else (some (.brk (Sum.inl ()))))
  cst := fun v_973 => ⟨put (put (put (put (fun _ => .junk) 8 (.int .i64 v_973)) 7 (.int .i64 ((s_964.length : Nat) : Int))) 1 (.fn 64 [.pro [.int .i64 f_965]])) 0 (.sl 5 false (s_964.map eNetworkStream)), []⟩
def c89_0 : C := .cond (.t 16) (.seq (.reg [iI 17 (.mv (.t 5)), iI 4 (.mv (.t 17))]) .ret) (.skip)
def c89_1 : C := .seq (.reg [iI 11 (.mv (.t 1)), iI 12 (.mv (.t 0)), iI 13 (.mv (.t 5)), iI 14 (.iaddr 5 (.t 12) (.t 13)), iI 15 (.load 5 (.t 14)), iI 16 (.call (.t 11) [(.t 15)])]) c89_0
def c89_2 : C := .reg [iI 18 (.bin .add (.t 8) (.c (.int .i64 1))), iI 8 (.mv (.t 18))]
def c89_3 : C := .seq (.block 1 (.seq (.reg [iI 10 (.mv (.t 8)), iI 5 (.mv (.t 10))]) c89_1)) c89_2
def c89_4 : C := .seq (.cond (.t 9) (.skip) (.exit 0)) c89_3
def c89_5 : C := .block 0 (.loop (.seq (.reg [iI 9 (.bin .lss (.t 8) (.t 7))]) c89_4))
def c89_6 : C := .seq (.reg [iI 4 (.mv (.c (.int .i64 (-1))))]) .ret
def c89_7 : C := .seq (.seq (.reg [iI 6 (.mv (.t 0)), iI 7 (.len 0 (.t 6)), iI 8 (.mv (.c (.int .i64 0)))]) c89_5) c89_6
def ir89 : C := .seq (.reg [iI 4 (.mv (.c (.int .i64 0)))]) c89_7
theorem fd89 : fd? Try.prog 89 = some (19, [.slot 4], ir89) := by kernel_rfl
noncomputable def f89_64 (s_964 : (List NetworkStream)) (f_965 : Int) : Option (Int) :=
  ((Lp.run (f89_64_L1 s_964 f_965) 0).bind fun r_ => match r_ with | (Sum.inl _) => (some (-1)) | (Sum.inr v_976) => (some v_976))
theorem f89_64_ok {s_964 : (List NetworkStream)} {f_965 : Int} {r_ : Int} (H : f89_64 s_964 f_965 = some r_) : Pure Try.prog 89 [.sl 5 false (s_964.map eNetworkStream), .fn 64 [.pro [.int .i64 f_965]]] (· = .int .i64 r_) := by
  refine Pure.walk3 fd89 none (Nat.le_of_ble_eq_true rfl) (by rfl) fun Q hQ => ?_
  simp only [f89_64] at H
  refine AW.rseq ?_
  try simp only [↓wk, ↓wl, nc, evV, wrapBits_eq, ↓reduceIte, Nat.reduceEqDiff, Nat.reduceAdd, Nat.reduceSub, Nat.reduceLeDiff, Nat.reduceLT, Nat.reduceBEq, reduceCtorEq, Int.reduceEq]
  refine AW.sseq ?_
  refine AW.rseq ?_
  try simp only [↓wk, ↓wl, nc, evV, wrapBits_eq, ↓reduceIte, Nat.reduceEqDiff, Nat.reduceAdd, Nat.reduceSub, Nat.reduceLeDiff, Nat.reduceLT, Nat.reduceBEq, reduceCtorEq, Int.reduceEq]
  refine AW.bend ?_
  refine AW.iter H ((Le.none [] [0, 1, 7, 8] (by decide) (by simp only [f89_64_L1, List.length_set, Option.map_some, restrict_eq, renS_nil, renS_cons, renB_els, renB_cel, renB_dead, deep_eq, map_ren_enc, ren_agg', ren_tup', ren_fn', ren_int', ren_bool', ren_str', ren_sl', ren_pro', ren_nilp', ren_nilfn', ren_junk', ren_ptr', ren_row', ren_arow', ren_eptr', vm, List.idxOf?_cons, List.idxOf?_nil, beq_self_eq_true, Option.map_none, List.getD_cons_zero, List.getD_cons_succ, ↓wk, ↓wl, nc, evV, wrapBits_eq, ↓reduceIte, Nat.reduceEqDiff, Nat.reduceAdd, Nat.reduceSub, Nat.reduceLeDiff, Nat.reduceLT, Nat.reduceBEq, reduceCtorEq, Int.reduceEq] <;> rfl))) ?_ <;> clear H
  rintro v_973 x_ st0_ H hst_
  simp only [f89_64_L1] at H hst_
  subst hst_
  refine AW.rseq ?_
  try simp only [↓wk, ↓wl, nc, evV, wrapBits_eq, ↓reduceIte, Nat.reduceEqDiff, Nat.reduceAdd, Nat.reduceSub, Nat.reduceLeDiff, Nat.reduceLT, Nat.reduceBEq, reduceCtorEq, Int.reduceEq]
  refine AW.sseq ?_
  refine AW.ifc H (by rfl) ?_ ?_ <;> clear H <;> intro H
  · refine AW.skip ?_
    refine seqQ.norm ?_
    refine AW.bseq ?_
    refine AW.rseq ?_
    try simp only [↓wk, ↓wl, nc, evV, wrapBits_eq, ↓reduceIte, Nat.reduceEqDiff, Nat.reduceAdd, Nat.reduceSub, Nat.reduceLeDiff, Nat.reduceLT, Nat.reduceBEq, reduceCtorEq, Int.reduceEq]
    refine AW.rseq ?_
    try simp only [↓wk, ↓wl, nc, evV, wrapBits_eq, ↓reduceIte, Nat.reduceEqDiff, Nat.reduceAdd, Nat.reduceSub, Nat.reduceLeDiff, Nat.reduceLT, Nat.reduceBEq, reduceCtorEq, Int.reduceEq]
    refine evTs_at (enc := eNetworkStream) H (by rfl) (by rfl) ?_ <;> clear H <;> intro x_977 H
    try simp only [eNetworkStream, eL, ↓wk, ↓wl, nc, evV, wrapBits_eq, ↓reduceIte, Nat.reduceEqDiff, Nat.reduceAdd, Nat.reduceSub, Nat.reduceLeDiff, Nat.reduceLT, Nat.reduceBEq, reduceCtorEq, Int.reduceEq]
    refine evTs_pure hFn H (fun _ h => f64p_ok h) (by rfl) (by rfl) (by rfl) (by rfl) (fun _ => rfl) ?_ <;> clear H <;> intro r_978 H
    try simp only [eL, ↓wk, ↓wl, nc, evV, wrapBits_eq, ↓reduceIte, Nat.reduceEqDiff, Nat.reduceAdd, Nat.reduceSub, Nat.reduceLeDiff, Nat.reduceLT, Nat.reduceBEq, reduceCtorEq, Int.reduceEq]
    refine AW.ifc H (by rfl) ?_ ?_ <;> clear H <;> intro H
    · refine AW.rseq ?_
      try simp only [↓wk, ↓wl, nc, evV, wrapBits_eq, ↓reduceIte, Nat.reduceEqDiff, Nat.reduceAdd, Nat.reduceSub, Nat.reduceLeDiff, Nat.reduceLT, Nat.reduceBEq, reduceCtorEq, Int.reduceEq]
      refine AW.ret ?_
      refine blkQ.ret ?_
      refine loopQ.ret H ?_ <;> clear H <;> intro H
      try dsimp only at H
      refine blk0.ret ?_
      refine seqQ.ret ?_
      cases H
      exact hQ _ _ _ _ (.inr rfl) (by simp only [resVs, omap, resV, ↓wk, ↓wl, nc, evV, wrapBits_eq, ↓reduceIte, Nat.reduceEqDiff, Nat.reduceAdd, Nat.reduceSub, Nat.reduceLeDiff, Nat.reduceLT, Nat.reduceBEq, reduceCtorEq, Int.reduceEq]; rfl) (hand_plain (by rfl)) (by first | exact Or.inl rfl | exact Or.inr rfl)
    · refine AW.skip ?_
      refine blkQ.norm ?_
      refine AW.rend ?_
      try simp only [↓wk, ↓wl, nc, evV, wrapBits_eq, ↓reduceIte, Nat.reduceEqDiff, Nat.reduceAdd, Nat.reduceSub, Nat.reduceLeDiff, Nat.reduceLT, Nat.reduceBEq, reduceCtorEq, Int.reduceEq]
      exact loopQ.next H ((Le.none [] [0, 1, 7, 8] (by decide) (by simp only [f89_64_L1, List.length_set, Option.map_some, restrict_eq, renS_nil, renS_cons, renB_els, renB_cel, renB_dead, deep_eq, map_ren_enc, ren_agg', ren_tup', ren_fn', ren_int', ren_bool', ren_str', ren_sl', ren_pro', ren_nilp', ren_nilfn', ren_junk', ren_ptr', ren_row', ren_arow', ren_eptr', vm, List.idxOf?_cons, List.idxOf?_nil, beq_self_eq_true, Option.map_none, List.getD_cons_zero, List.getD_cons_succ, ↓wk, ↓wl, nc, evV, wrapBits_eq, ↓reduceIte, Nat.reduceEqDiff, Nat.reduceAdd, Nat.reduceSub, Nat.reduceLeDiff, Nat.reduceLT, Nat.reduceBEq, reduceCtorEq, Int.reduceEq] <;> rfl)))
  · refine AW.exit ?_
    refine seqQ.exit ?_
    refine loopQ.exit H ?_ <;> clear H <;> intro H
    try dsimp only at H
    refine blk0.here ?_
    refine seqQ.norm ?_
    refine AW.rseq ?_
    try simp only [↓wk, ↓wl, nc, evV, wrapBits_eq, ↓reduceIte, Nat.reduceEqDiff, Nat.reduceAdd, Nat.reduceSub, Nat.reduceLeDiff, Nat.reduceLT, Nat.reduceBEq, reduceCtorEq, Int.reduceEq]
    refine AW.ret ?_
    cases H
    exact hQ _ _ _ _ (.inr rfl) (by simp only [resVs, omap, resV, ↓wk, ↓wl, nc, evV, wrapBits_eq, ↓reduceIte, Nat.reduceEqDiff, Nat.reduceAdd, Nat.reduceSub, Nat.reduceLeDiff, Nat.reduceLT, Nat.reduceBEq, reduceCtorEq, Int.reduceEq]; rfl) (hand_plain (by rfl)) (by first | exact Or.inl rfl | exact Or.inr rfl)
def c63_0 : C := .seq (.reg [iI 5 (.mv (.t 0)), iI 6 (.mv (.t 1)), iI 7 (.call (.c (.fn 89 [])) [(.t 5), (.t 6)]), iI 8 (.bin .geq (.t 7) (.c (.int .i64 0))), iI 4 (.mv (.t 8))]) .ret
def ir63 : C := .seq (.reg [iI 4 (.mv (.c (.bool false)))]) c63_0
theorem fd63 : fd? Try.prog 63 = some (9, [.slot 4], ir63) := by kernel_rfl
noncomputable def f63_64 (s_962 : (List NetworkStream)) (f_963 : Int) : Option (Bool) :=
  (f89_64 s_962 f_963).bind fun r_979 => (some (decide (0 ≤ r_979)))
theorem f63_64_ok {s_962 : (List NetworkStream)} {f_963 : Int} {r_ : Bool} (H : f63_64 s_962 f_963 = some r_) : Pure Try.prog 63 [.sl 5 false (s_962.map eNetworkStream), .fn 64 [.pro [.int .i64 f_963]]] (· = .bool r_) := by
  refine Pure.walk3 fd63 none (Nat.le_of_ble_eq_true rfl) (by rfl) fun Q hQ => ?_
  simp only [f63_64] at H
  refine AW.rseq ?_
  try simp only [↓wk, ↓wl, nc, evV, wrapBits_eq, ↓reduceIte, Nat.reduceEqDiff, Nat.reduceAdd, Nat.reduceSub, Nat.reduceLeDiff, Nat.reduceLT, Nat.reduceBEq, reduceCtorEq, Int.reduceEq]
  refine AW.rseq ?_
  try simp only [↓wk, ↓wl, nc, evV, wrapBits_eq, ↓reduceIte, Nat.reduceEqDiff, Nat.reduceAdd, Nat.reduceSub, Nat.reduceLeDiff, Nat.reduceLT, Nat.reduceBEq, reduceCtorEq, Int.reduceEq]
  refine evTs_pure hFn H (fun _ h => f89_64_ok h) (by rfl) (by rfl) (by rfl) (by rfl) (fun _ => rfl) ?_ <;> clear H <;> intro r_979 H
  try simp only [eL, ↓wk, ↓wl, nc, evV, wrapBits_eq, ↓reduceIte, Nat.reduceEqDiff, Nat.reduceAdd, Nat.reduceSub, Nat.reduceLeDiff, Nat.reduceLT, Nat.reduceBEq, reduceCtorEq, Int.reduceEq]
  refine AW.ret ?_
  cases H
  exact hQ _ _ _ _ (.inr rfl) (by simp only [resVs, omap, resV, ↓wk, ↓wl, nc, evV, wrapBits_eq, ↓reduceIte, Nat.reduceEqDiff, Nat.reduceAdd, Nat.reduceSub, Nat.reduceLeDiff, Nat.reduceLT, Nat.reduceBEq, reduceCtorEq, Int.reduceEq]; rfl) (hand_plain (by rfl)) (by first | exact Or.inl rfl | exact Or.inr rfl)
def c41_0 : C := .cond (.t 9) (.seq (.reg [iI 10 (.mv (.t 5)), iI 4 (.mv (.t 10))]) .ret) (.skip)
def c41_1 : C := .seq (.reg [iI 8 (.mv (.t 5)), iI 9 (.bin .neq (.t 8) (.c (.int .i64 0)))]) c41_0
def c41_2 : C := .cond (.t 13) (.seq (.reg [iI 4 (.mv (.c (.int .i64 2)))]) .ret) (.skip)
def c41_3 : C := .cond (.t 17) (.seq (.reg [iI 4 (.mv (.c (.int .i64 9)))]) .ret) (.skip)
def c41_4 : C := .seq (.reg [iI 4 (.mv (.c (.int .i64 0)))]) .ret
def c41_5 : C := .seq (.seq (.reg [iI 14 (.faddr 4 (.t 2)), iI 15 (.load 0 (.t 14)), iI 16 (.mkfn 64 [(.t 3)]), iI 17 (.call (.c (.fn 63 [])) [(.t 15), (.t 16)])]) c41_3) c41_4
def c41_6 : C := .seq (.seq (.reg [iI 11 (.load 0 (.t 3)), iI 12 (.call (.c (.fn 40 [])) [(.t 11), (.c (.int .i64 0)), (.c (.int .i64 10000000))]), iI 13 (.un .not (.t 12))]) c41_2) c41_5
def c41_7 : C := .seq (.seq (.reg [iI 6 (.load 5 (.t 2)), iI 7 (.call (.c (.fn 20 [])) [(.t 6)]), iI 5 (.mv (.t 7))]) c41_1) c41_6
def ir41 : C := .seq (.reg [iI 2 (.box (.t 0)), iI 3 (.box (.t 1)), iI 4 (.mv (.c (.int .i64 0)))]) c41_7
theorem fd41 : fd? Try.prog 41 = some (18, [.slot 4], ir41) := by kernel_rfl
noncomputable def f41 (s_926 : NetworkSender) (t_927 : Int) : Option (Int) :=
  (f20 s_926).bind fun r_960 => (if (decide (r_960 ≠ 0)) = true then (some r_960) else (f40 t_927 0 10000000).bind fun r_961 => (if (!r_961) = true then (some 2) else (f63_64 s_926.fStreams t_927).bind fun r_980 => (if r_980 = true then (some 9) else (some 0))))
theorem f41_ok {s_926 : NetworkSender} {t_927 : Int} {r_ : Int} (H : f41 s_926 t_927 = some r_) : Pure Try.prog 41 [.agg [.int .u64 s_926.fSource, .int .i64 s_926.fPriority, .int .i64 s_926.fSync, .int .i64 s_926.fPulse, .sl 5 false (s_926.fStreams.map eNetworkStream)], .int .i64 t_927] (· = .int .i64 r_) := by
  refine Pure.walk3 fd41 none (Nat.le_of_ble_eq_true rfl) (by rfl) fun Q hQ => ?_
  simp only [f41] at H
  refine AW.rseq ?_
  try simp only [↓wk, ↓wl, nc, evV, wrapBits_eq, ↓reduceIte, Nat.reduceEqDiff, Nat.reduceAdd, Nat.reduceSub, Nat.reduceLeDiff, Nat.reduceLT, Nat.reduceBEq, reduceCtorEq, Int.reduceEq]
  refine AW.sseq ?_
  refine AW.rseq ?_
  try simp only [↓wk, ↓wl, nc, evV, wrapBits_eq, ↓reduceIte, Nat.reduceEqDiff, Nat.reduceAdd, Nat.reduceSub, Nat.reduceLeDiff, Nat.reduceLT, Nat.reduceBEq, reduceCtorEq, Int.reduceEq]
  refine evTs_pure hFn H (fun _ h => f20_ok h) (by rfl) (by rfl) (by rfl) (by rfl) (fun _ => rfl) ?_ <;> clear H <;> intro r_960 H
  try simp only [eL, ↓wk, ↓wl, nc, evV, wrapBits_eq, ↓reduceIte, Nat.reduceEqDiff, Nat.reduceAdd, Nat.reduceSub, Nat.reduceLeDiff, Nat.reduceLT, Nat.reduceBEq, reduceCtorEq, Int.reduceEq]
  refine AW.rseq ?_
  try simp only [↓wk, ↓wl, nc, evV, wrapBits_eq, ↓reduceIte, Nat.reduceEqDiff, Nat.reduceAdd, Nat.reduceSub, Nat.reduceLeDiff, Nat.reduceLT, Nat.reduceBEq, reduceCtorEq, Int.reduceEq]
  refine AW.ifc H (by rfl) ?_ ?_ <;> clear H <;> intro H
  · refine AW.rseq ?_
    try simp only [↓wk, ↓wl, nc, evV, wrapBits_eq, ↓reduceIte, Nat.reduceEqDiff, Nat.reduceAdd, Nat.reduceSub, Nat.reduceLeDiff, Nat.reduceLT, Nat.reduceBEq, reduceCtorEq, Int.reduceEq]
    refine AW.ret ?_
    refine seqQ.ret ?_
    cases H
    exact hQ _ _ _ _ (.inr rfl) (by simp only [resVs, omap, resV, ↓wk, ↓wl, nc, evV, wrapBits_eq, ↓reduceIte, Nat.reduceEqDiff, Nat.reduceAdd, Nat.reduceSub, Nat.reduceLeDiff, Nat.reduceLT, Nat.reduceBEq, reduceCtorEq, Int.reduceEq]; rfl) (hand_plain (by rfl)) (by first | exact Or.inl rfl | exact Or.inr rfl)
  · refine AW.skip ?_
    refine seqQ.norm ?_
    refine AW.sseq ?_
    refine AW.rseq ?_
    try simp only [↓wk, ↓wl, nc, evV, wrapBits_eq, ↓reduceIte, Nat.reduceEqDiff, Nat.reduceAdd, Nat.reduceSub, Nat.reduceLeDiff, Nat.reduceLT, Nat.reduceBEq, reduceCtorEq, Int.reduceEq]
    refine evTs_pure hFn H (fun _ h => f40_ok h) (by rfl) (by rfl) (by rfl) (by rfl) (fun _ => rfl) ?_ <;> clear H <;> intro r_961 H
    try simp only [eL, ↓wk, ↓wl, nc, evV, wrapBits_eq, ↓reduceIte, Nat.reduceEqDiff, Nat.reduceAdd, Nat.reduceSub, Nat.reduceLeDiff, Nat.reduceLT, Nat.reduceBEq, reduceCtorEq, Int.reduceEq]
    refine AW.ifc H (by rfl) ?_ ?_ <;> clear H <;> intro H
    · refine AW.rseq ?_
      try simp only [↓wk, ↓wl, nc, evV, wrapBits_eq, ↓reduceIte, Nat.reduceEqDiff, Nat.reduceAdd, Nat.reduceSub, Nat.reduceLeDiff, Nat.reduceLT, Nat.reduceBEq, reduceCtorEq, Int.reduceEq]
      refine AW.ret ?_
      refine seqQ.ret ?_
      cases H
      exact hQ _ _ _ _ (.inr rfl) (by simp only [resVs, omap, resV, ↓wk, ↓wl, nc, evV, wrapBits_eq, ↓reduceIte, Nat.reduceEqDiff, Nat.reduceAdd, Nat.reduceSub, Nat.reduceLeDiff, Nat.reduceLT, Nat.reduceBEq, reduceCtorEq, Int.reduceEq]; rfl) (hand_plain (by rfl)) (by first | exact Or.inl rfl | exact Or.inr rfl)
    · refine AW.skip ?_
      refine seqQ.norm ?_
      refine AW.sseq ?_
      refine AW.rseq ?_
      try simp only [↓wk, ↓wl, nc, evV, wrapBits_eq, ↓reduceIte, Nat.reduceEqDiff, Nat.reduceAdd, Nat.reduceSub, Nat.reduceLeDiff, Nat.reduceLT, Nat.reduceBEq, reduceCtorEq, Int.reduceEq]
      refine evTs_flat hFn H (fun _ h => f63_64_ok h) (by rfl) (by rfl) (by simp only [deep_eq, imm_simps, imm_rowE, imm_ptrE, imm_enc, omap_simps, take_map_len, take_map_set, take_map_set2, le_refl_true, Nat.zero_add, and_true, true_and, List.drop_zero, Option.map_some, ↓wk, ↓wl, nc, evV, wrapBits_eq, ↓reduceIte, Nat.reduceEqDiff, Nat.reduceAdd, Nat.reduceSub, Nat.reduceLeDiff, Nat.reduceLT, Nat.reduceBEq, reduceCtorEq, Int.reduceEq]; rfl) (by rfl) (fun _ => rfl) (fun _ => rfl) ?_ <;> clear H <;> intro r_980 H
      try simp only [eL, ↓wk, ↓wl, nc, evV, wrapBits_eq, ↓reduceIte, Nat.reduceEqDiff, Nat.reduceAdd, Nat.reduceSub, Nat.reduceLeDiff, Nat.reduceLT, Nat.reduceBEq, reduceCtorEq, Int.reduceEq]
      refine AW.ifc H (by rfl) ?_ ?_ <;> clear H <;> intro H
      · refine AW.rseq ?_
        try simp only [↓wk, ↓wl, nc, evV, wrapBits_eq, ↓reduceIte, Nat.reduceEqDiff, Nat.reduceAdd, Nat.reduceSub, Nat.reduceLeDiff, Nat.reduceLT, Nat.reduceBEq, reduceCtorEq, Int.reduceEq]
        refine AW.ret ?_
        refine seqQ.ret ?_
        cases H
        exact hQ _ _ _ _ (.inr rfl) (by simp only [resVs, omap, resV, ↓wk, ↓wl, nc, evV, wrapBits_eq, ↓reduceIte, Nat.reduceEqDiff, Nat.reduceAdd, Nat.reduceSub, Nat.reduceLeDiff, Nat.reduceLT, Nat.reduceBEq, reduceCtorEq, Int.reduceEq]; rfl) (hand_plain (by rfl)) (by first | exact Or.inl rfl | exact Or.inr rfl)
      · refine AW.skip ?_
        refine seqQ.norm ?_
        refine AW.rseq ?_
        try simp only [↓wk, ↓wl, nc, evV, wrapBits_eq, ↓reduceIte, Nat.reduceEqDiff, Nat.reduceAdd, Nat.reduceSub, Nat.reduceLeDiff, Nat.reduceLT, Nat.reduceBEq, reduceCtorEq, Int.reduceEq]
        refine AW.ret ?_
        cases H
        exact hQ _ _ _ _ (.inr rfl) (by simp only [resVs, omap, resV, ↓wk, ↓wl, nc, evV, wrapBits_eq, ↓reduceIte, Nat.reduceEqDiff, Nat.reduceAdd, Nat.reduceSub, Nat.reduceLeDiff, Nat.reduceLT, Nat.reduceBEq, reduceCtorEq, Int.reduceEq]; rfl) (hand_plain (by rfl)) (by first | exact Or.inl rfl | exact Or.inr rfl)
noncomputable def f42_L1 (l_983 : (List ApiFrame)) : Lp (Int) ((Unit) ⊕ (Int)) where
  body := fun v_989 => (if (decide (v_989 < ((l_983.length : Nat) : Int))) = true then (at? l_983 v_989).bind fun x_993 => (if (decide (x_993.fUniverse < 1)) = true then (some (.brk (Sum.inr 2))) else (if (decide (8 < x_993.fUniverse)) = true then (some (.brk (Sum.inr 2))) else (if (decide (((x_993.fSlots.length : Nat) : Int) ≠ 512)) = true then (some (.brk (Sum.inr 14))) else (if (decide (0 < v_989)) = true then (at? l_983 (IntKind.i64.wrap (v_989 - 1))).bind fun x_994 => (if (decide (x_993.fUniverse ≤ x_994.fUniverse)) = true then (some (.brk (Sum.inr 9))) else (some (.next (IntKind.i64.wrap (v_989 + 1))))) else (some (.next (IntKind.i64.wrap (v_989 + 1)))))))) else (some (.brk (Sum.inl ()))))
  cst := fun v_989 => ⟨put (put (put (put (fun _ => .junk) 10 (.int .i64 v_989)) 9 (.int .i64 ((l_983.length : Nat) : Int))) 8 (.sl 2 false (l_983.map eApiFrame))) 0 (.sl 2 false (l_983.map eApiFrame)), []⟩
def c42_0 : C := .cond (.t 7) (.seq (.reg [iI 2 (.mv (.c (.int .i64 5)))]) .ret) (.skip)
def c42_1 : C := .cond (.t 29) (.seq (.reg [iI 2 (.mv (.c (.int .i64 9)))]) .ret) (.skip)
def c42_2 : C := .cond (.t 24) (.seq (.reg [iI 2 (.mv (.c (.int .i64 14)))]) .ret) (.seq (.reg [iI 30 (.mv (.t 3)), iI 31 (.bin .gtr (.t 30) (.c (.int .i64 0))), iI 32 (.mv (.t 31)), iG (some 33) 32 true (.faddr 0 (.t 4)), iG (some 34) 32 true (.load 0 (.t 33)), iG (some 35) 32 true (.mv (.t 0)), iG (some 36) 32 true (.mv (.t 3)), iG (some 37) 32 true (.bin .sub (.t 36) (.c (.int .i64 1))), iG (some 38) 32 true (.iaddr 2 (.t 35) (.t 37)), iG (some 39) 32 true (.faddr 0 (.t 38)), iG (some 40) 32 true (.load 0 (.t 39)), iG (some 41) 32 true (.bin .leq (.t 34) (.t 40)), iI 42 (.pick (.t 32) (.t 41) (.c (.bool false))), iI 29 (.mv (.t 42))]) c42_1)
def c42_3 : C := .cond (.t 15) (.seq (.reg [iI 2 (.mv (.c (.int .i64 2)))]) .ret) (.seq (.reg [iI 25 (.faddr 1 (.t 4)), iI 26 (.load 0 (.t 25)), iI 27 (.len 1 (.t 26)), iI 28 (.bin .neq (.t 27) (.c (.int .i64 512))), iI 24 (.mv (.t 28))]) c42_2)
def c42_4 : C := .block 2 (.seq (.reg [iI 16 (.faddr 0 (.t 4)), iI 17 (.load 0 (.t 16)), iI 18 (.bin .lss (.t 17) (.c (.int .i64 1))), iI 19 (.mv (.t 18)), iG (some 20) 19 false (.faddr 0 (.t 4)), iG (some 21) 19 false (.load 0 (.t 20)), iG (some 22) 19 false (.bin .gtr (.t 21) (.c (.int .i64 8))), iI 23 (.pick (.t 19) (.c (.bool true)) (.t 22)), iI 15 (.mv (.t 23))]) c42_3)
def c42_5 : C := .reg [iI 43 (.bin .add (.t 10) (.c (.int .i64 1))), iI 10 (.mv (.t 43))]
def c42_6 : C := .seq (.block 1 (.seq (.reg [iI 12 (.mv (.t 10)), iI 13 (.iaddr 2 (.t 8) (.t 10)), iI 14 (.load 2 (.t 13)), iI 4 (.alloc [(1, (.int .i64 0)), (1, (.str []))]), iI 3 (.mv (.t 12)), iN (.store 2 (.t 4) (.t 14))]) c42_4)) c42_5
def c42_7 : C := .seq (.cond (.t 11) (.skip) (.exit 0)) c42_6
def c42_8 : C := .block 0 (.loop (.seq (.reg [iI 11 (.bin .lss (.t 10) (.t 9))]) c42_7))
def c42_9 : C := .seq (.reg [iI 2 (.mv (.c (.int .i64 0)))]) .ret
def c42_10 : C := .seq (.seq (.reg [iI 8 (.mv (.t 0)), iI 9 (.len 0 (.t 8)), iI 10 (.mv (.c (.int .i64 0)))]) c42_8) c42_9
def c42_11 : C := .seq (.seq (.reg [iI 5 (.mv (.t 0)), iI 6 (.len 0 (.t 5)), iI 7 (.bin .gtr (.t 6) (.c (.int .i64 8)))]) c42_0) c42_10
def ir42 : C := .seq (.reg [iI 2 (.mv (.c (.int .i64 0)))]) c42_11
theorem fd42 : fd? Try.prog 42 = some (44, [.slot 2], ir42) := by kernel_rfl
noncomputable def f42 (l_983 : (List ApiFrame)) : Option (Int) :=
  (if (decide (8 < ((l_983.length : Nat) : Int))) = true then (some 5) else ((Lp.run (f42_L1 l_983) 0).bind fun r_ => match r_ with | (Sum.inl _) => (some 0) | (Sum.inr v_992) => (some v_992)))
theorem f42_ok {l_983 : (List ApiFrame)} {r_ : Int} (H : f42 l_983 = some r_) : Pure Try.prog 42 [.sl 2 false (l_983.map eApiFrame)] (· = .int .i64 r_) := by
  refine Pure.walk3 fd42 none (Nat.le_of_ble_eq_true rfl) (by rfl) fun Q hQ => ?_
  simp only [f42] at H
  refine AW.rseq ?_
  try simp only [↓wk, ↓wl, nc, evV, wrapBits_eq, ↓reduceIte, Nat.reduceEqDiff, Nat.reduceAdd, Nat.reduceSub, Nat.reduceLeDiff, Nat.reduceLT, Nat.reduceBEq, reduceCtorEq, Int.reduceEq]
  refine AW.sseq ?_
  refine AW.rseq ?_
  try simp only [↓wk, ↓wl, nc, evV, wrapBits_eq, ↓reduceIte, Nat.reduceEqDiff, Nat.reduceAdd, Nat.reduceSub, Nat.reduceLeDiff, Nat.reduceLT, Nat.reduceBEq, reduceCtorEq, Int.reduceEq]
  refine AW.ifc H (by rfl) ?_ ?_ <;> clear H <;> intro H
  · refine AW.rseq ?_
    try simp only [↓wk, ↓wl, nc, evV, wrapBits_eq, ↓reduceIte, Nat.reduceEqDiff, Nat.reduceAdd, Nat.reduceSub, Nat.reduceLeDiff, Nat.reduceLT, Nat.reduceBEq, reduceCtorEq, Int.reduceEq]
    refine AW.ret ?_
    refine seqQ.ret ?_
    cases H
    exact hQ _ _ _ _ (.inr rfl) (by simp only [resVs, omap, resV, ↓wk, ↓wl, nc, evV, wrapBits_eq, ↓reduceIte, Nat.reduceEqDiff, Nat.reduceAdd, Nat.reduceSub, Nat.reduceLeDiff, Nat.reduceLT, Nat.reduceBEq, reduceCtorEq, Int.reduceEq]; rfl) (hand_plain (by rfl)) (by first | exact Or.inl rfl | exact Or.inr rfl)
  · refine AW.skip ?_
    refine seqQ.norm ?_
    refine AW.sseq ?_
    refine AW.rseq ?_
    try simp only [↓wk, ↓wl, nc, evV, wrapBits_eq, ↓reduceIte, Nat.reduceEqDiff, Nat.reduceAdd, Nat.reduceSub, Nat.reduceLeDiff, Nat.reduceLT, Nat.reduceBEq, reduceCtorEq, Int.reduceEq]
    refine AW.bend ?_
    refine AW.iter H ((Le.none [] [0, 8, 9, 10] (by decide) (by simp only [f42_L1, List.length_set, Option.map_some, restrict_eq, renS_nil, renS_cons, renB_els, renB_cel, renB_dead, deep_eq, map_ren_enc, ren_agg', ren_tup', ren_fn', ren_int', ren_bool', ren_str', ren_sl', ren_pro', ren_nilp', ren_nilfn', ren_junk', ren_ptr', ren_row', ren_arow', ren_eptr', vm, List.idxOf?_cons, List.idxOf?_nil, beq_self_eq_true, Option.map_none, List.getD_cons_zero, List.getD_cons_succ, ↓wk, ↓wl, nc, evV, wrapBits_eq, ↓reduceIte, Nat.reduceEqDiff, Nat.reduceAdd, Nat.reduceSub, Nat.reduceLeDiff, Nat.reduceLT, Nat.reduceBEq, reduceCtorEq, Int.reduceEq] <;> rfl))) ?_ <;> clear H
    rintro v_989 x_ st0_ H hst_
    simp only [f42_L1] at H hst_
    subst hst_
    refine AW.rseq ?_
    try simp only [↓wk, ↓wl, nc, evV, wrapBits_eq, ↓reduceIte, Nat.reduceEqDiff, Nat.reduceAdd, Nat.reduceSub, Nat.reduceLeDiff, Nat.reduceLT, Nat.reduceBEq, reduceCtorEq, Int.reduceEq]
    refine AW.sseq ?_
    refine AW.ifc H (by rfl) ?_ ?_ <;> clear H <;> intro H
    · refine AW.skip ?_
      refine seqQ.norm ?_
      refine AW.bseq ?_
      refine AW.rseq ?_
      try simp only [↓wk, ↓wl, nc, evV, wrapBits_eq, ↓reduceIte, Nat.reduceEqDiff, Nat.reduceAdd, Nat.reduceSub, Nat.reduceLeDiff, Nat.reduceLT, Nat.reduceBEq, reduceCtorEq, Int.reduceEq]
      refine evTs_at (enc := eApiFrame) H (by rfl) (by rfl) ?_ <;> clear H <;> intro x_993 H
      try simp only [eApiFrame, eL, ↓wk, ↓wl, nc, evV, wrapBits_eq, ↓reduceIte, Nat.reduceEqDiff, Nat.reduceAdd, Nat.reduceSub, Nat.reduceLeDiff, Nat.reduceLT, Nat.reduceBEq, reduceCtorEq, Int.reduceEq]
      refine AW.bend ?_
      refine AW.rseq ?_
      try simp only [↓wk, ↓wl, nc, evV, wrapBits_eq, ↓reduceIte, Nat.reduceEqDiff, Nat.reduceAdd, Nat.reduceSub, Nat.reduceLeDiff, Nat.reduceLT, Nat.reduceBEq, reduceCtorEq, Int.reduceEq]
      refine evTs_ifg H (by rfl) ?_ ?_ <;> clear H <;> intro H
      · try simp only [↓wk, ↓wl, nc, evV, wrapBits_eq, ↓reduceIte, Nat.reduceEqDiff, Nat.reduceAdd, Nat.reduceSub, Nat.reduceLeDiff, Nat.reduceLT, Nat.reduceBEq, reduceCtorEq, Int.reduceEq]
        refine AW.ift (by rfl) ?_
        refine AW.rseq ?_
        try simp only [↓wk, ↓wl, nc, evV, wrapBits_eq, ↓reduceIte, Nat.reduceEqDiff, Nat.reduceAdd, Nat.reduceSub, Nat.reduceLeDiff, Nat.reduceLT, Nat.reduceBEq, reduceCtorEq, Int.reduceEq]
        refine AW.ret ?_
        refine blk0.ret ?_
        refine blkQ.ret ?_
        refine loopQ.ret H ?_ <;> clear H <;> intro H
        try dsimp only at H
        refine blk0.ret ?_
        refine seqQ.ret ?_
        cases H
        exact hQ _ _ _ _ (.inr rfl) (by simp only [resVs, omap, resV, ↓wk, ↓wl, nc, evV, wrapBits_eq, ↓reduceIte, Nat.reduceEqDiff, Nat.reduceAdd, Nat.reduceSub, Nat.reduceLeDiff, Nat.reduceLT, Nat.reduceBEq, reduceCtorEq, Int.reduceEq]; rfl) (hand_plain (by rfl)) (by first | exact Or.inl rfl | exact Or.inr rfl)
      · try simp only [↓wk, ↓wl, nc, evV, wrapBits_eq, ↓reduceIte, Nat.reduceEqDiff, Nat.reduceAdd, Nat.reduceSub, Nat.reduceLeDiff, Nat.reduceLT, Nat.reduceBEq, reduceCtorEq, Int.reduceEq]
        refine AW.ifc H (by rfl) ?_ ?_ <;> clear H <;> intro H
        · refine AW.rseq ?_
          try simp only [↓wk, ↓wl, nc, evV, wrapBits_eq, ↓reduceIte, Nat.reduceEqDiff, Nat.reduceAdd, Nat.reduceSub, Nat.reduceLeDiff, Nat.reduceLT, Nat.reduceBEq, reduceCtorEq, Int.reduceEq]
          refine AW.ret ?_
          refine blk0.ret ?_
          refine blkQ.ret ?_
          refine loopQ.ret H ?_ <;> clear H <;> intro H
          try dsimp only at H
          refine blk0.ret ?_
          refine seqQ.ret ?_
          cases H
          exact hQ _ _ _ _ (.inr rfl) (by simp only [resVs, omap, resV, ↓wk, ↓wl, nc, evV, wrapBits_eq, ↓reduceIte, Nat.reduceEqDiff, Nat.reduceAdd, Nat.reduceSub, Nat.reduceLeDiff, Nat.reduceLT, Nat.reduceBEq, reduceCtorEq, Int.reduceEq]; rfl) (hand_plain (by rfl)) (by first | exact Or.inl rfl | exact Or.inr rfl)
        · refine AW.rseq ?_
          try simp only [↓wk, ↓wl, nc, evV, wrapBits_eq, ↓reduceIte, Nat.reduceEqDiff, Nat.reduceAdd, Nat.reduceSub, Nat.reduceLeDiff, Nat.reduceLT, Nat.reduceBEq, reduceCtorEq, Int.reduceEq]
          refine AW.ifc H (by rfl) ?_ ?_ <;> clear H <;> intro H
          · refine AW.rseq ?_
            try simp only [↓wk, ↓wl, nc, evV, wrapBits_eq, ↓reduceIte, Nat.reduceEqDiff, Nat.reduceAdd, Nat.reduceSub, Nat.reduceLeDiff, Nat.reduceLT, Nat.reduceBEq, reduceCtorEq, Int.reduceEq]
            refine AW.ret ?_
            refine blk0.ret ?_
            refine blkQ.ret ?_
            refine loopQ.ret H ?_ <;> clear H <;> intro H
            try dsimp only at H
            refine blk0.ret ?_
            refine seqQ.ret ?_
            cases H
            exact hQ _ _ _ _ (.inr rfl) (by simp only [resVs, omap, resV, ↓wk, ↓wl, nc, evV, wrapBits_eq, ↓reduceIte, Nat.reduceEqDiff, Nat.reduceAdd, Nat.reduceSub, Nat.reduceLeDiff, Nat.reduceLT, Nat.reduceBEq, reduceCtorEq, Int.reduceEq]; rfl) (hand_plain (by rfl)) (by first | exact Or.inl rfl | exact Or.inr rfl)
          · refine AW.rseq ?_
            try simp only [↓wk, ↓wl, nc, evV, wrapBits_eq, ↓reduceIte, Nat.reduceEqDiff, Nat.reduceAdd, Nat.reduceSub, Nat.reduceLeDiff, Nat.reduceLT, Nat.reduceBEq, reduceCtorEq, Int.reduceEq]
            refine evTs_ifg H (by rfl) ?_ ?_ <;> clear H <;> intro H
            · try simp only [↓wk, ↓wl, nc, evV, wrapBits_eq, ↓reduceIte, Nat.reduceEqDiff, Nat.reduceAdd, Nat.reduceSub, Nat.reduceLeDiff, Nat.reduceLT, Nat.reduceBEq, reduceCtorEq, Int.reduceEq]
              refine evTs_at (enc := eApiFrame) H (by rfl) (by rfl) ?_ <;> clear H <;> intro x_994 H
              try simp only [eApiFrame, eL, ↓wk, ↓wl, nc, evV, wrapBits_eq, ↓reduceIte, Nat.reduceEqDiff, Nat.reduceAdd, Nat.reduceSub, Nat.reduceLeDiff, Nat.reduceLT, Nat.reduceBEq, reduceCtorEq, Int.reduceEq]
              refine AW.ifc H (by rfl) ?_ ?_ <;> clear H <;> intro H
              · refine AW.rseq ?_
                try simp only [↓wk, ↓wl, nc, evV, wrapBits_eq, ↓reduceIte, Nat.reduceEqDiff, Nat.reduceAdd, Nat.reduceSub, Nat.reduceLeDiff, Nat.reduceLT, Nat.reduceBEq, reduceCtorEq, Int.reduceEq]
                refine AW.ret ?_
                refine blk0.ret ?_
                refine blkQ.ret ?_
                refine loopQ.ret H ?_ <;> clear H <;> intro H
                try dsimp only at H
                refine blk0.ret ?_
                refine seqQ.ret ?_
                cases H
                exact hQ _ _ _ _ (.inr rfl) (by simp only [resVs, omap, resV, ↓wk, ↓wl, nc, evV, wrapBits_eq, ↓reduceIte, Nat.reduceEqDiff, Nat.reduceAdd, Nat.reduceSub, Nat.reduceLeDiff, Nat.reduceLT, Nat.reduceBEq, reduceCtorEq, Int.reduceEq]; rfl) (hand_plain (by rfl)) (by first | exact Or.inl rfl | exact Or.inr rfl)
              · refine AW.skip ?_
                refine blk0.norm ?_
                refine blkQ.norm ?_
                refine AW.rend ?_
                try simp only [↓wk, ↓wl, nc, evV, wrapBits_eq, ↓reduceIte, Nat.reduceEqDiff, Nat.reduceAdd, Nat.reduceSub, Nat.reduceLeDiff, Nat.reduceLT, Nat.reduceBEq, reduceCtorEq, Int.reduceEq]
                exact loopQ.next H ((Le.none [] [0, 8, 9, 10] (by decide) (by simp only [f42_L1, List.length_set, Option.map_some, restrict_eq, renS_nil, renS_cons, renB_els, renB_cel, renB_dead, deep_eq, map_ren_enc, ren_agg', ren_tup', ren_fn', ren_int', ren_bool', ren_str', ren_sl', ren_pro', ren_nilp', ren_nilfn', ren_junk', ren_ptr', ren_row', ren_arow', ren_eptr', vm, List.idxOf?_cons, List.idxOf?_nil, beq_self_eq_true, Option.map_none, List.getD_cons_zero, List.getD_cons_succ, ↓wk, ↓wl, nc, evV, wrapBits_eq, ↓reduceIte, Nat.reduceEqDiff, Nat.reduceAdd, Nat.reduceSub, Nat.reduceLeDiff, Nat.reduceLT, Nat.reduceBEq, reduceCtorEq, Int.reduceEq] <;> rfl)))
            · try simp only [↓wk, ↓wl, nc, evV, wrapBits_eq, ↓reduceIte, Nat.reduceEqDiff, Nat.reduceAdd, Nat.reduceSub, Nat.reduceLeDiff, Nat.reduceLT, Nat.reduceBEq, reduceCtorEq, Int.reduceEq]
              refine AW.iff (by rfl) ?_
              refine AW.skip ?_
              refine blk0.norm ?_
              refine blkQ.norm ?_
              refine AW.rend ?_
              try simp only [↓wk, ↓wl, nc, evV, wrapBits_eq, ↓reduceIte, Nat.reduceEqDiff, Nat.reduceAdd, Nat.reduceSub, Nat.reduceLeDiff, Nat.reduceLT, Nat.reduceBEq, reduceCtorEq, Int.reduceEq]
              exact loopQ.next H ((Le.none [] [0, 8, 9, 10] (by decide) (by simp only [f42_L1, List.length_set, Option.map_some, restrict_eq, renS_nil, renS_cons, renB_els, renB_cel, renB_dead, deep_eq, map_ren_enc, ren_agg', ren_tup', ren_fn', ren_int', ren_bool', ren_str', ren_sl', ren_pro', ren_nilp', ren_nilfn', ren_junk', ren_ptr', ren_row', ren_arow', ren_eptr', vm, List.idxOf?_cons, List.idxOf?_nil, beq_self_eq_true, Option.map_none, List.getD_cons_zero, List.getD_cons_succ, ↓wk, ↓wl, nc, evV, wrapBits_eq, ↓reduceIte, Nat.reduceEqDiff, Nat.reduceAdd, Nat.reduceSub, Nat.reduceLeDiff, Nat.reduceLT, Nat.reduceBEq, reduceCtorEq, Int.reduceEq] <;> rfl)))
    · refine AW.exit ?_
      refine seqQ.exit ?_
      refine loopQ.exit H ?_ <;> clear H <;> intro H
      try dsimp only at H
      refine blk0.here ?_
      refine seqQ.norm ?_
      refine AW.rseq ?_
      try simp only [↓wk, ↓wl, nc, evV, wrapBits_eq, ↓reduceIte, Nat.reduceEqDiff, Nat.reduceAdd, Nat.reduceSub, Nat.reduceLeDiff, Nat.reduceLT, Nat.reduceBEq, reduceCtorEq, Int.reduceEq]
      refine AW.ret ?_
      cases H
      exact hQ _ _ _ _ (.inr rfl) (by simp only [resVs, omap, resV, ↓wk, ↓wl, nc, evV, wrapBits_eq, ↓reduceIte, Nat.reduceEqDiff, Nat.reduceAdd, Nat.reduceSub, Nat.reduceLeDiff, Nat.reduceLT, Nat.reduceBEq, reduceCtorEq, Int.reduceEq]; rfl) (hand_plain (by rfl)) (by first | exact Or.inl rfl | exact Or.inr rfl)
def c43_0 : C := .cond (.t 4) (.seq (.reg [iI 2 (.mv (.c (.sl 5 true [])))]) .ret) (.skip)
def c43_1 : C := .seq (.reg [iI 5 (.mkslp 5 0 (.agg [(.int .i64 0), (.int .i64 0), (.int .i64 0), (.int .i64 0), (.str [])]) []), iI 6 (.mv (.t 0)), iI 7 (.append 5 48 (.t 5) (.t 6)), iI 2 (.mv (.t 7))]) .ret
def c43_2 : C := .seq (.seq (.reg [iI 3 (.mv (.t 0)), iI 4 (.isnil false (.t 3))]) c43_0) c43_1
def ir43 : C := .seq (.reg [iI 2 (.mv (.c (.sl 5 true [])))]) c43_2
theorem fd43 : fd? Try.prog 43 = some (8, [.slot 2], ir43) := by kernel_rfl
noncomputable def f43 (s_997 : (List NetworkStream)) : Option ((List NetworkStream)) :=
  (nil? (s_997 : List NetworkStream) false fun b_998 => (if b_998 = true then (some []) else (app? 48 [] s_997).bind fun out_999 => (some out_999)))
theorem f43_ok {s_997 : (List NetworkStream)} {r_ : (List NetworkStream)} (H : f43 s_997 = some r_) : Pure Try.prog 43 [.sl 5 false (s_997.map eNetworkStream)] (· = .fr 5 (r_.map eNetworkStream)) := by
  refine Pure.walk3 fd43 (some 0) (Nat.le_of_ble_eq_true rfl) (by rfl) fun Q hQ => ?_
  simp only [f43] at H
  refine AW.rseq ?_
  try simp only [↓wk, ↓wl, nc, evV, wrapBits_eq, ↓reduceIte, Nat.reduceEqDiff, Nat.reduceAdd, Nat.reduceSub, Nat.reduceLeDiff, Nat.reduceLT, Nat.reduceBEq, reduceCtorEq, Int.reduceEq]
  refine AW.sseq ?_
  refine AW.rseq ?_
  try simp only [↓wk, ↓wl, nc, evV, wrapBits_eq, ↓reduceIte, Nat.reduceEqDiff, Nat.reduceAdd, Nat.reduceSub, Nat.reduceLeDiff, Nat.reduceLT, Nat.reduceBEq, reduceCtorEq, Int.reduceEq]
  refine evTs_isnil (enc := eNetworkStream) H (by rfl) ?_ <;> clear H <;> intro b_998 H
  try simp only [↓wk, ↓wl, nc, evV, wrapBits_eq, ↓reduceIte, Nat.reduceEqDiff, Nat.reduceAdd, Nat.reduceSub, Nat.reduceLeDiff, Nat.reduceLT, Nat.reduceBEq, reduceCtorEq, Int.reduceEq]
  refine AW.ifc H (by rfl) ?_ ?_ <;> clear H <;> intro H
  · refine AW.rseq ?_
    try simp only [↓wk, ↓wl, nc, evV, wrapBits_eq, ↓reduceIte, Nat.reduceEqDiff, Nat.reduceAdd, Nat.reduceSub, Nat.reduceLeDiff, Nat.reduceLT, Nat.reduceBEq, reduceCtorEq, Int.reduceEq]
    refine AW.ret ?_
    refine seqQ.ret ?_
    cases H
    exact hQ _ _ _ _ (.inr rfl) (by simp only [resVs, omap, resV, ↓wk, ↓wl, nc, evV, wrapBits_eq, ↓reduceIte, Nat.reduceEqDiff, Nat.reduceAdd, Nat.reduceSub, Nat.reduceLeDiff, Nat.reduceLT, Nat.reduceBEq, reduceCtorEq, Int.reduceEq]; rfl) hand_10 (by first | exact Or.inl rfl | exact Or.inr rfl)
  · refine AW.skip ?_
    refine seqQ.norm ?_
    refine AW.rseq ?_
    try simp only [↓wk, ↓wl, nc, evV, wrapBits_eq, ↓reduceIte, Nat.reduceEqDiff, Nat.reduceAdd, Nat.reduceSub, Nat.reduceLeDiff, Nat.reduceLT, Nat.reduceBEq, reduceCtorEq, Int.reduceEq]
    refine evTs_app0 (enc := eNetworkStream) H (by rfl) (by rfl) ?_ <;> clear H <;> intro out_999 H
    try simp only [↓wk, ↓wl, nc, evV, wrapBits_eq, ↓reduceIte, Nat.reduceEqDiff, Nat.reduceAdd, Nat.reduceSub, Nat.reduceLeDiff, Nat.reduceLT, Nat.reduceBEq, reduceCtorEq, Int.reduceEq]
    refine AW.ret ?_
    cases H
    exact hQ _ _ _ _ (.inr rfl) (by simp only [resVs, omap, resV, ↓wk, ↓wl, nc, evV, wrapBits_eq, ↓reduceIte, Nat.reduceEqDiff, Nat.reduceAdd, Nat.reduceSub, Nat.reduceLeDiff, Nat.reduceLT, Nat.reduceBEq, reduceCtorEq, Int.reduceEq]; rfl) (hand_1 (by rfl) (by simp) (enc_all _)) (by first | exact Or.inl rfl | exact Or.inr rfl)
theorem f43_im {s_997 : (List NetworkStream)} {r_ : (List NetworkStream)} (H : f43 s_997 = some r_) : Pure Try.prog 43 [.sl 5 false (s_997.map eNetworkStream)] (· = .sl 5 false (r_.map eNetworkStream)) := (f43_ok H).unfr (by first | exact enc_fits _ | simp only [frFits, List.all_cons, List.all_nil, enc_fits, Bool.and_self])
def c66_0 : C := .seq (.reg [iI 5 (.faddr 0 (.t 2)), iI 6 (.load 0 (.t 5)), iI 7 (.mv (.t 1)), iI 8 (.bin .sub (.t 6) (.t 7)), iI 4 (.mv (.t 8))]) .ret
def ir66 : C := .seq (.reg [iI 2 (.box (.t 0)), iI 4 (.mv (.c (.int .i64 0)))]) c66_0
theorem fd66 : fd? Try.prog 66 = some (9, [.slot 4], ir66) := by kernel_rfl
noncomputable def f66 (x_1005 : NetworkStream) (u_1006 : Int) : Option (Int) :=
  (some (IntKind.i64.wrap (x_1005.fUniverse - u_1006)))
theorem f66_ok {x_1005 : NetworkStream} {u_1006 : Int} {r_ : Int} (H : f66 x_1005 u_1006 = some r_) : Pure Try.prog 66 [.agg [.int .i64 x_1005.fUniverse, .int .i64 x_1005.fSeq, .int .i64 x_1005.fLast, .int .i64 x_1005.fTimes, .str x_1005.fSlots], .int .i64 u_1006] (· = .int .i64 r_) := by
  refine Pure.walk3 fd66 none (Nat.le_of_ble_eq_true rfl) (by rfl) fun Q hQ => ?_
  simp only [f66] at H
  refine AW.rseq ?_
  try simp only [↓wk, ↓wl, nc, evV, wrapBits_eq, ↓reduceIte, Nat.reduceEqDiff, Nat.reduceAdd, Nat.reduceSub, Nat.reduceLeDiff, Nat.reduceLT, Nat.reduceBEq, reduceCtorEq, Int.reduceEq]
  refine AW.rseq ?_
  try simp only [↓wk, ↓wl, nc, evV, wrapBits_eq, ↓reduceIte, Nat.reduceEqDiff, Nat.reduceAdd, Nat.reduceSub, Nat.reduceLeDiff, Nat.reduceLT, Nat.reduceBEq, reduceCtorEq, Int.reduceEq]
  refine AW.ret ?_
  cases H
  exact hQ _ _ _ _ (.inr rfl) (by simp only [resVs, omap, resV, ↓wk, ↓wl, nc, evV, wrapBits_eq, ↓reduceIte, Nat.reduceEqDiff, Nat.reduceAdd, Nat.reduceSub, Nat.reduceLeDiff, Nat.reduceLT, Nat.reduceBEq, reduceCtorEq, Int.reduceEq]; rfl) (hand_plain (by rfl)) (by first | exact Or.inl rfl | exact Or.inr rfl)
noncomputable def f65_66_L1 (x_1002 : (List NetworkStream)) (target_1003 : Int) : Lp (Int × Int) (Int) where
  body := fun (i_1023, j_1024) => (if (decide (i_1023 < j_1024)) = true then (at? x_1002 (IntKind.i64.wrap (Int.fdiv (IntKind.u64.wrap (IntKind.i64.wrap (i_1023 + j_1024))) (2 ^ (min (Int.toNat 1) (IntKind.bits .u64)))))).bind fun x_1032 => (f66 x_1032 target_1003).bind fun r_1033 => (if (decide (r_1033 < 0)) = true then (some (.next ((IntKind.i64.wrap ((IntKind.i64.wrap (Int.fdiv (IntKind.u64.wrap (IntKind.i64.wrap (i_1023 + j_1024))) (2 ^ (min (Int.toNat 1) (IntKind.bits .u64))))) + 1)), j_1024))) else (some (.next (i_1023, (IntKind.i64.wrap (Int.fdiv (IntKind.u64.wrap (IntKind.i64.wrap (i_1023 + j_1024))) (2 ^ (min (Int.toNat 1) (IntKind.bits .u64))))))))) else (some (.brk i_1023)))
  cst := fun (i_1023, j_1024) => ⟨put (put (put (put (put (put (fun _ => .junk) 10 (.int .i64 j_1024)) 9 (.int .i64 i_1023)) 8 (.int .i64 ((x_1002.length : Nat) : Int))) 2 (.fn 66 [])) 1 (.int .i64 target_1003)) 0 (.sl 5 false (x_1002.map eNetworkStream)), []⟩
def c65_0 : C := .cond (.t 17) (.skip) (.exit 0)
def c65_1 : C := .cond (.t 31) (.reg [iI 32 (.mv (.t 11)), iI 33 (.bin .add (.t 32) (.c (.int .i64 1))), iI 9 (.mv (.t 33))]) (.reg [iI 34 (.mv (.t 11)), iI 10 (.mv (.t 34))])
def c65_2 : C := .seq (.reg [iI 24 (.mv (.t 2)), iI 25 (.mv (.t 0)), iI 26 (.mv (.t 11)), iI 27 (.iaddr 5 (.t 25) (.t 26)), iI 28 (.load 5 (.t 27)), iI 29 (.mv (.t 1)), iI 30 (.call (.t 24) [(.t 28), (.t 29)]), iI 31 (.bin .lss (.t 30) (.c (.int .i64 0)))]) c65_1
def c65_3 : C := .block 1 (.seq (.reg [iI 18 (.mv (.t 9)), iI 19 (.mv (.t 10)), iI 20 (.bin .add (.t 18) (.t 19)), iI 21 (.cint .u64 (.t 20)), iI 22 (.bin .shr (.t 21) (.c (.int .u64 1))), iI 23 (.cint .i64 (.t 22)), iI 11 (.mv (.t 23))]) c65_2)
def c65_4 : C := .seq (.reg [iI 35 (.mv (.t 9)), iI 36 (.mv (.t 9)), iI 37 (.mv (.t 8)), iI 38 (.bin .lss (.t 36) (.t 37)), iI 39 (.mv (.t 38)), iG (some 40) 39 true (.mv (.t 2)), iG (some 41) 39 true (.mv (.t 0)), iG (some 42) 39 true (.mv (.t 9)), iG (some 43) 39 true (.iaddr 5 (.t 41) (.t 42)), iG (some 44) 39 true (.load 5 (.t 43)), iG (some 45) 39 true (.mv (.t 1)), iG (some 46) 39 true (.call (.t 40) [(.t 44), (.t 45)]), iG (some 47) 39 true (.bin .eql (.t 46) (.c (.int .i64 0))), iI 48 (.pick (.t 39) (.t 47) (.c (.bool false))), iI 6 (.mv (.t 35)), iI 7 (.mv (.t 48))]) .ret
def c65_5 : C := .seq (.block 0 (.loop (.seq (.seq (.reg [iI 15 (.mv (.t 9)), iI 16 (.mv (.t 10)), iI 17 (.bin .lss (.t 15) (.t 16))]) c65_0) c65_3))) c65_4
def c65_6 : C := .seq (.reg [iI 14 (.mv (.t 8)), iI 9 (.mv (.c (.int .i64 0))), iI 10 (.mv (.t 14))]) c65_5
def c65_7 : C := .seq (.reg [iI 12 (.mv (.t 0)), iI 13 (.len 0 (.t 12)), iI 8 (.mv (.t 13))]) c65_6
def ir65 : C := .seq (.reg [iI 6 (.mv (.c (.int .i64 0))), iI 7 (.mv (.c (.bool false)))]) c65_7
theorem fd65 : fd? Try.prog 65 = some (49, [.slot 6, .slot 7], ir65) := by kernel_rfl
noncomputable def f65_66 (x_1002 : (List NetworkStream)) (target_1003 : Int) : Option (Int × Bool) :=
  (Lp.run (f65_66_L1 x_1002 target_1003) (0, ((x_1002.length : Nat) : Int))).bind fun i_1027 => (if (decide (i_1027 < ((x_1002.length : Nat) : Int))) = true then (at? x_1002 i_1027).bind fun x_1028 => (f66 x_1028 target_1003).bind fun r_1029 => (some (i_1027, (decide (r_1029 = 0)))) else (some (i_1027, false)))
theorem f65_66_ok {x_1002 : (List NetworkStream)} {target_1003 : Int} {r_ : Int × Bool} (H : f65_66 x_1002 target_1003 = some r_) : Pure Try.prog 65 [.sl 5 false (x_1002.map eNetworkStream), .int .i64 target_1003, .fn 66 []] (· = .tup [.int .i64 r_.1, .bool r_.2]) := by
  refine Pure.walk3 fd65 none (Nat.le_of_ble_eq_true rfl) (by rfl) fun Q hQ => ?_
  simp only [f65_66] at H
  refine AW.rseq ?_
  try simp only [↓wk, ↓wl, nc, evV, wrapBits_eq, ↓reduceIte, Nat.reduceEqDiff, Nat.reduceAdd, Nat.reduceSub, Nat.reduceLeDiff, Nat.reduceLT, Nat.reduceBEq, reduceCtorEq, Int.reduceEq]
  refine AW.rseq ?_
  try simp only [↓wk, ↓wl, nc, evV, wrapBits_eq, ↓reduceIte, Nat.reduceEqDiff, Nat.reduceAdd, Nat.reduceSub, Nat.reduceLeDiff, Nat.reduceLT, Nat.reduceBEq, reduceCtorEq, Int.reduceEq]
  refine AW.rseq ?_
  try simp only [↓wk, ↓wl, nc, evV, wrapBits_eq, ↓reduceIte, Nat.reduceEqDiff, Nat.reduceAdd, Nat.reduceSub, Nat.reduceLeDiff, Nat.reduceLT, Nat.reduceBEq, reduceCtorEq, Int.reduceEq]
  refine AW.bseq ?_
  refine AW.iter H ((Le.none [] [0, 1, 2, 8, 9, 10] (by decide) (by simp only [f65_66_L1, List.length_set, Option.map_some, restrict_eq, renS_nil, renS_cons, renB_els, renB_cel, renB_dead, deep_eq, map_ren_enc, ren_agg', ren_tup', ren_fn', ren_int', ren_bool', ren_str', ren_sl', ren_pro', ren_nilp', ren_nilfn', ren_junk', ren_ptr', ren_row', ren_arow', ren_eptr', vm, List.idxOf?_cons, List.idxOf?_nil, beq_self_eq_true, Option.map_none, List.getD_cons_zero, List.getD_cons_succ, ↓wk, ↓wl, nc, evV, wrapBits_eq, ↓reduceIte, Nat.reduceEqDiff, Nat.reduceAdd, Nat.reduceSub, Nat.reduceLeDiff, Nat.reduceLT, Nat.reduceBEq, reduceCtorEq, Int.reduceEq] <;> rfl))) ?_ <;> clear H
  rintro ⟨i_1023, j_1024⟩ x_ st0_ H hst_
  simp only [f65_66_L1] at H hst_
  subst hst_
  refine AW.sseq ?_
  refine AW.rseq ?_
  try simp only [↓wk, ↓wl, nc, evV, wrapBits_eq, ↓reduceIte, Nat.reduceEqDiff, Nat.reduceAdd, Nat.reduceSub, Nat.reduceLeDiff, Nat.reduceLT, Nat.reduceBEq, reduceCtorEq, Int.reduceEq]
  refine AW.ifc H (by rfl) ?_ ?_ <;> clear H <;> intro H
  · refine AW.skip ?_
    refine seqQ.norm ?_
    refine AW.bend ?_
    refine AW.rseq ?_
    try simp only [↓wk, ↓wl, nc, evV, wrapBits_eq, ↓reduceIte, Nat.reduceEqDiff, Nat.reduceAdd, Nat.reduceSub, Nat.reduceLeDiff, Nat.reduceLT, Nat.reduceBEq, reduceCtorEq, Int.reduceEq]
    refine rest_shr (by decide) ?_
    try simp only [↓wk, ↓wl, nc, evV, wrapBits_eq, ↓reduceIte, Nat.reduceEqDiff, Nat.reduceAdd, Nat.reduceSub, Nat.reduceLeDiff, Nat.reduceLT, Nat.reduceBEq, reduceCtorEq, Int.reduceEq]
    refine AW.rseq ?_
    try simp only [↓wk, ↓wl, nc, evV, wrapBits_eq, ↓reduceIte, Nat.reduceEqDiff, Nat.reduceAdd, Nat.reduceSub, Nat.reduceLeDiff, Nat.reduceLT, Nat.reduceBEq, reduceCtorEq, Int.reduceEq]
    refine evTs_at (enc := eNetworkStream) H (by rfl) (by rfl) ?_ <;> clear H <;> intro x_1032 H
    try simp only [eNetworkStream, eL, ↓wk, ↓wl, nc, evV, wrapBits_eq, ↓reduceIte, Nat.reduceEqDiff, Nat.reduceAdd, Nat.reduceSub, Nat.reduceLeDiff, Nat.reduceLT, Nat.reduceBEq, reduceCtorEq, Int.reduceEq]
    refine evTs_pure hFn H (fun _ h => f66_ok h) (by rfl) (by rfl) (by rfl) (by rfl) (fun _ => rfl) ?_ <;> clear H <;> intro r_1033 H
    try simp only [eL, ↓wk, ↓wl, nc, evV, wrapBits_eq, ↓reduceIte, Nat.reduceEqDiff, Nat.reduceAdd, Nat.reduceSub, Nat.reduceLeDiff, Nat.reduceLT, Nat.reduceBEq, reduceCtorEq, Int.reduceEq]
    refine AW.ifc H (by rfl) ?_ ?_ <;> clear H <;> intro H
    · refine AW.rend ?_
      try simp only [↓wk, ↓wl, nc, evV, wrapBits_eq, ↓reduceIte, Nat.reduceEqDiff, Nat.reduceAdd, Nat.reduceSub, Nat.reduceLeDiff, Nat.reduceLT, Nat.reduceBEq, reduceCtorEq, Int.reduceEq]
      refine blk0.norm ?_
      exact loopQ.next H ((Le.none [] [0, 1, 2, 8, 9, 10] (by decide) (by simp only [f65_66_L1, List.length_set, Option.map_some, restrict_eq, renS_nil, renS_cons, renB_els, renB_cel, renB_dead, deep_eq, map_ren_enc, ren_agg', ren_tup', ren_fn', ren_int', ren_bool', ren_str', ren_sl', ren_pro', ren_nilp', ren_nilfn', ren_junk', ren_ptr', ren_row', ren_arow', ren_eptr', vm, List.idxOf?_cons, List.idxOf?_nil, beq_self_eq_true, Option.map_none, List.getD_cons_zero, List.getD_cons_succ, ↓wk, ↓wl, nc, evV, wrapBits_eq, ↓reduceIte, Nat.reduceEqDiff, Nat.reduceAdd, Nat.reduceSub, Nat.reduceLeDiff, Nat.reduceLT, Nat.reduceBEq, reduceCtorEq, Int.reduceEq] <;> rfl)))
    · refine AW.rend ?_
      try simp only [↓wk, ↓wl, nc, evV, wrapBits_eq, ↓reduceIte, Nat.reduceEqDiff, Nat.reduceAdd, Nat.reduceSub, Nat.reduceLeDiff, Nat.reduceLT, Nat.reduceBEq, reduceCtorEq, Int.reduceEq]
      refine blk0.norm ?_
      exact loopQ.next H ((Le.none [] [0, 1, 2, 8, 9, 10] (by decide) (by simp only [f65_66_L1, List.length_set, Option.map_some, restrict_eq, renS_nil, renS_cons, renB_els, renB_cel, renB_dead, deep_eq, map_ren_enc, ren_agg', ren_tup', ren_fn', ren_int', ren_bool', ren_str', ren_sl', ren_pro', ren_nilp', ren_nilfn', ren_junk', ren_ptr', ren_row', ren_arow', ren_eptr', vm, List.idxOf?_cons, List.idxOf?_nil, beq_self_eq_true, Option.map_none, List.getD_cons_zero, List.getD_cons_succ, ↓wk, ↓wl, nc, evV, wrapBits_eq, ↓reduceIte, Nat.reduceEqDiff, Nat.reduceAdd, Nat.reduceSub, Nat.reduceLeDiff, Nat.reduceLT, Nat.reduceBEq, reduceCtorEq, Int.reduceEq] <;> rfl)))
  · refine AW.exit ?_
    refine seqQ.exit ?_
    refine loopQ.exit H ?_ <;> clear H <;> intro H
    try dsimp only at H
    refine blkQ.here ?_
    refine AW.rseq ?_
    try simp only [↓wk, ↓wl, nc, evV, wrapBits_eq, ↓reduceIte, Nat.reduceEqDiff, Nat.reduceAdd, Nat.reduceSub, Nat.reduceLeDiff, Nat.reduceLT, Nat.reduceBEq, reduceCtorEq, Int.reduceEq]
    refine evTs_ifg H (by rfl) ?_ ?_ <;> clear H <;> intro H
    · try simp only [↓wk, ↓wl, nc, evV, wrapBits_eq, ↓reduceIte, Nat.reduceEqDiff, Nat.reduceAdd, Nat.reduceSub, Nat.reduceLeDiff, Nat.reduceLT, Nat.reduceBEq, reduceCtorEq, Int.reduceEq]
      refine evTs_at (enc := eNetworkStream) H (by rfl) (by rfl) ?_ <;> clear H <;> intro x_1034 H
      try simp only [eNetworkStream, eL, ↓wk, ↓wl, nc, evV, wrapBits_eq, ↓reduceIte, Nat.reduceEqDiff, Nat.reduceAdd, Nat.reduceSub, Nat.reduceLeDiff, Nat.reduceLT, Nat.reduceBEq, reduceCtorEq, Int.reduceEq]
      refine evTs_pure hFn H (fun _ h => f66_ok h) (by rfl) (by rfl) (by rfl) (by rfl) (fun _ => rfl) ?_ <;> clear H <;> intro r_1035 H
      try simp only [eL, ↓wk, ↓wl, nc, evV, wrapBits_eq, ↓reduceIte, Nat.reduceEqDiff, Nat.reduceAdd, Nat.reduceSub, Nat.reduceLeDiff, Nat.reduceLT, Nat.reduceBEq, reduceCtorEq, Int.reduceEq]
      refine AW.ret ?_
      cases H
      exact hQ _ _ _ _ (.inr rfl) (by simp only [resVs, omap, resV, ↓wk, ↓wl, nc, evV, wrapBits_eq, ↓reduceIte, Nat.reduceEqDiff, Nat.reduceAdd, Nat.reduceSub, Nat.reduceLeDiff, Nat.reduceLT, Nat.reduceBEq, reduceCtorEq, Int.reduceEq]; rfl) (hand_plain (by rfl)) (by first | exact Or.inl rfl | exact Or.inr rfl)
    · try simp only [↓wk, ↓wl, nc, evV, wrapBits_eq, ↓reduceIte, Nat.reduceEqDiff, Nat.reduceAdd, Nat.reduceSub, Nat.reduceLeDiff, Nat.reduceLT, Nat.reduceBEq, reduceCtorEq, Int.reduceEq]
      refine AW.ret ?_
      cases H
      exact hQ _ _ _ _ (.inr rfl) (by simp only [resVs, omap, resV, ↓wk, ↓wl, nc, evV, wrapBits_eq, ↓reduceIte, Nat.reduceEqDiff, Nat.reduceAdd, Nat.reduceSub, Nat.reduceLeDiff, Nat.reduceLT, Nat.reduceBEq, reduceCtorEq, Int.reduceEq]; rfl) (hand_plain (by rfl)) (by first | exact Or.inl rfl | exact Or.inr rfl)
theorem ins67 : fd? Try.prog 67 = some (95, [.slot 6], insC 5 48 (.agg [(.int .i64 0), (.int .i64 0), (.int .i64 0), (.int .i64 0), (.str [])]) 91) := by kernel_rfl
def c46_0 : C := .seq (.reg [iI 3 (.mv (.t 0)), iI 4 (.bin .add (.t 3) (.c (.int .i64 1))), iI 5 (.bin .rem (.t 4) (.c (.int .i64 256))), iI 2 (.mv (.t 5))]) .ret
def ir46 : C := .seq (.reg [iI 2 (.mv (.c (.int .i64 0)))]) c46_0
theorem fd46 : fd? Try.prog 46 = some (6, [.slot 2], ir46) := by kernel_rfl
noncomputable def f46 (seq_1046 : Int) : Option (Int) :=
  (some ((IntKind.i64.wrap (seq_1046 + 1)).tmod 256))
theorem f46_ok {seq_1046 : Int} {r_ : Int} (H : f46 seq_1046 = some r_) : Pure Try.prog 46 [.int .i64 seq_1046] (· = .int .i64 r_) := by
  refine Pure.walk3 fd46 none (Nat.le_of_ble_eq_true rfl) (by rfl) fun Q hQ => ?_
  simp only [f46] at H
  refine AW.rseq ?_
  try simp only [↓wk, ↓wl, nc, evV, wrapBits_eq, ↓reduceIte, Nat.reduceEqDiff, Nat.reduceAdd, Nat.reduceSub, Nat.reduceLeDiff, Nat.reduceLT, Nat.reduceBEq, reduceCtorEq, Int.reduceEq]
  refine AW.rseq ?_
  try simp only [↓wk, ↓wl, nc, evV, wrapBits_eq, ↓reduceIte, Nat.reduceEqDiff, Nat.reduceAdd, Nat.reduceSub, Nat.reduceLeDiff, Nat.reduceLT, Nat.reduceBEq, reduceCtorEq, Int.reduceEq]
  refine AW.ret ?_
  cases H
  exact hQ _ _ _ _ (.inr rfl) (by simp only [resVs, omap, resV, ↓wk, ↓wl, nc, evV, wrapBits_eq, ↓reduceIte, Nat.reduceEqDiff, Nat.reduceAdd, Nat.reduceSub, Nat.reduceLeDiff, Nat.reduceLT, Nat.reduceBEq, reduceCtorEq, Int.reduceEq]; rfl) (hand_plain (by rfl)) (by first | exact Or.inl rfl | exact Or.inr rfl)
def c51_0 : C := .seq (.reg [iI 5 (.faddr 0 (.t 2)), iI 6 (.load 0 (.t 5)), iI 7 (.faddr 0 (.t 3)), iI 8 (.load 0 (.t 7)), iI 9 (.faddr 1 (.t 2)), iI 10 (.load 0 (.t 9)), iI 11 (.faddr 1 (.t 3)), iI 12 (.load 0 (.t 11)), iI 13 (.faddr 2 (.t 2)), iI 14 (.load 0 (.t 13)), iI 15 (.faddr 4 (.t 3)), iI 16 (.load 0 (.t 15)), iI 17 (.build [(1, (.int .u64 0)), (1, (.int .i64 0)), (1, (.int .i64 0)), (1, (.int .i64 0)), (1, (.int .i64 0)), (1, (.bool false)), (1, (.str []))] [(0, 0, (.t 6)), (1, 0, (.t 8)), (2, 0, (.t 10)), (3, 0, (.t 12)), (4, 0, (.t 14)), (6, 0, (.t 16))]), iN (.store 7 (.t 4) (.t 17))]) .ret
def ir51 : C := .seq (.reg [iI 2 (.box (.t 0)), iI 3 (.box (.t 1)), iI 4 (.alloc [(1, (.int .u64 0)), (1, (.int .i64 0)), (1, (.int .i64 0)), (1, (.int .i64 0)), (1, (.int .i64 0)), (1, (.bool false)), (1, (.str []))])]) c51_0
theorem fd51 : fd? Try.prog 51 = some (18, [.cell 4 7], ir51) := by kernel_rfl
noncomputable def f51 (s_1050 : NetworkSender) (x_1051 : NetworkStream) : Option (NetworkPacket) :=
  (some (NetworkPacket.mk s_1050.fSource x_1051.fUniverse s_1050.fPriority x_1051.fSeq s_1050.fSync false x_1051.fSlots))
theorem f51_ok {s_1050 : NetworkSender} {x_1051 : NetworkStream} {r_ : NetworkPacket} (H : f51 s_1050 x_1051 = some r_) : Pure Try.prog 51 [.agg [.int .u64 s_1050.fSource, .int .i64 s_1050.fPriority, .int .i64 s_1050.fSync, .int .i64 s_1050.fPulse, .sl 5 false (s_1050.fStreams.map eNetworkStream)], .agg [.int .i64 x_1051.fUniverse, .int .i64 x_1051.fSeq, .int .i64 x_1051.fLast, .int .i64 x_1051.fTimes, .str x_1051.fSlots]] (· = .agg [.int .u64 r_.fSource, .int .i64 r_.fUniverse, .int .i64 r_.fPriority, .int .i64 r_.fSeq, .int .i64 r_.fSync, .bool r_.fEnd, .str r_.fSlots]) := by
  refine Pure.walk3 fd51 none (Nat.le_of_ble_eq_true rfl) (by rfl) fun Q hQ => ?_
  simp only [f51] at H
  refine AW.rseq ?_
  try simp only [↓wk, ↓wl, nc, evV, wrapBits_eq, ↓reduceIte, Nat.reduceEqDiff, Nat.reduceAdd, Nat.reduceSub, Nat.reduceLeDiff, Nat.reduceLT, Nat.reduceBEq, reduceCtorEq, Int.reduceEq]
  refine AW.rseq ?_
  try simp only [↓wk, ↓wl, nc, evV, wrapBits_eq, ↓reduceIte, Nat.reduceEqDiff, Nat.reduceAdd, Nat.reduceSub, Nat.reduceLeDiff, Nat.reduceLT, Nat.reduceBEq, reduceCtorEq, Int.reduceEq]
  refine AW.ret ?_
  cases H
  exact hQ _ _ _ _ (.inr rfl) (by simp only [resVs, omap, resV, ↓wk, ↓wl, nc, evV, wrapBits_eq, ↓reduceIte, Nat.reduceEqDiff, Nat.reduceAdd, Nat.reduceSub, Nat.reduceLeDiff, Nat.reduceLT, Nat.reduceBEq, reduceCtorEq, Int.reduceEq]; rfl) (hand_plain (by rfl)) (by first | exact Or.inl rfl | exact Or.inr rfl)
noncomputable def f23_J3 (s_923 : NetworkSender) (s_1536 : Int) (s_1532 : (List NetworkStream)) (out_1537 : (List NetworkPacket)) : Jn (Unit) (NetworkSender × (List NetworkPacket) × Int) where
  run := fun _ => (some ((NetworkSender.mk s_923.fSource s_923.fPriority s_923.fSync s_1536 s_1532), out_1537, 0))
  cst := fun _ => ⟨put (put (put (fun _ => .junk) 8 (.int .i64 0)) 7 (.row 7 1 0 out_1537.length)) 6 (.ptr 0 0), [.cel [.int .u64 s_923.fSource, .int .i64 s_923.fPriority, .int .i64 s_923.fSync, .int .i64 s_1536, .row 5 2 0 s_1532.length], .els 7 (out_1537.map eNetworkPacket), .els 5 (s_1532.map eNetworkStream)]⟩
noncomputable def f23_J2 (s_923 : NetworkSender) (s_1532 : (List NetworkStream)) : Jn (Int × (List NetworkPacket)) (NetworkSender × (List NetworkPacket) × Int) where
  run := fun (s_1536, out_1537) => ((f23_J3 s_923 s_1536 s_1532 out_1537).run ())
  cst := fun (s_1536, out_1537) => ⟨put (put (put (fun _ => .junk) 11 (.ptr 2 0)) 6 (.ptr 1 0)) 3 (.ptr 0 0), [.cel [.int .u64 s_923.fSource, .int .i64 s_923.fPriority, .int .i64 s_923.fSync, .int .i64 s_1536, .row 5 3 0 s_1532.length], .cel [.int .u64 0, .int .i64 0, .int .i64 0, .int .i64 0, .sl 5 true []], .cel [.row 7 4 0 out_1537.length], .els 5 (s_1532.map eNetworkStream), .els 7 (out_1537.map eNetworkPacket)]⟩
def c44_0 : C := .cond (.t 22) (.reg [iI 23 (.mv (.t 0)), iI 24 (.mv (.t 0)), iI 25 (.nilchk (.t 24)), iI 26 (.faddr 4 (.t 25)), iI 27 (.load 0 (.t 26)), iI 28 (.mv (.t 8)), iI 29 (.faddr 0 (.t 6)), iI 30 (.load 0 (.t 29)), iI 31 (.faddr 1 (.t 6)), iI 32 (.load 0 (.t 31)), iI 33 (.build [(1, (.int .i64 0)), (1, (.int .i64 0)), (1, (.int .i64 0)), (1, (.int .i64 0)), (1, (.str []))] [(0, 0, (.t 30)), (1, 0, (.c (.int .i64 255))), (4, 0, (.t 32))]), iI 34 (.mkslp 5 1 (.agg [(.int .i64 0), (.int .i64 0), (.int .i64 0), (.int .i64 0), (.str [])]) [(0, (.t 33))]), iI 35 (.call (.c (.fn 67 [])) [(.t 27), (.t 28), (.t 34)]), iI 36 (.nilchk (.t 23)), iI 37 (.faddr 4 (.t 36)), iN (.store 0 (.t 37) (.t 35))]) (.skip)
def c44_1 : C := .cond (.t 60) (.reg [iI 75 (.mv (.t 10)), iI 76 (.mv (.t 10)), iI 77 (.nilchk (.t 76)), iI 78 (.faddr 3 (.t 77)), iI 79 (.load 0 (.t 78)), iI 80 (.bin .add (.t 79) (.c (.int .i64 1))), iI 81 (.maxmin false (.t 80) [(.c (.int .i64 3))]), iI 82 (.nilchk (.t 75)), iI 83 (.faddr 3 (.t 82)), iN (.store 0 (.t 83) (.t 81))]) (.ret)
def c44_2 : C := .cond (.t 44) (.reg [iI 52 (.mv (.t 10)), iI 53 (.mv (.t 10)), iI 54 (.faddr 1 (.t 6)), iI 55 (.load 0 (.t 54)), iI 56 (.nilchk (.t 52)), iI 57 (.faddr 4 (.t 56)), iN (.store 0 (.t 57) (.t 55)), iI 58 (.nilchk (.t 53)), iI 59 (.faddr 3 (.t 58)), iN (.store 0 (.t 59) (.c (.int .i64 1)))]) (.seq (.reg [iI 61 (.mv (.t 10)), iI 62 (.nilchk (.t 61)), iI 63 (.faddr 3 (.t 62)), iI 64 (.load 0 (.t 63)), iI 65 (.bin .lss (.t 64) (.c (.int .i64 3))), iI 66 (.mv (.t 65)), iG (some 67) 66 false (.mv (.t 1)), iG (some 68) 66 false (.mv (.t 10)), iG (some 69) 66 false (.nilchk (.t 68)), iG (some 70) 66 false (.faddr 2 (.t 69)), iG (some 71) 66 false (.load 0 (.t 70)), iG (some 72) 66 false (.bin .sub (.t 67) (.t 71)), iG (some 73) 66 false (.bin .geq (.t 72) (.c (.int .i64 1000))), iI 74 (.pick (.t 66) (.c (.bool true)) (.t 73)), iI 60 (.mv (.t 74))]) c44_1)
def c44_3 : C := .reg [iI 96 (.mv (.t 3)), iI 97 (.mv (.t 0)), iI 98 (.nilchk (.t 97)), iI 99 (.load 5 (.t 98)), iI 100 (.mv (.t 10)), iI 101 (.nilchk (.t 100)), iI 102 (.load 5 (.t 101)), iI 103 (.call (.c (.fn 51 [])) [(.t 99), (.t 102)]), iI 104 (.call (.t 96) [(.t 103)])]
def c44_4 : C := .seq (.reg [iI 84 (.mv (.t 10)), iI 85 (.mv (.t 10)), iI 86 (.mv (.t 10)), iI 87 (.nilchk (.t 86)), iI 88 (.faddr 1 (.t 87)), iI 89 (.load 0 (.t 88)), iI 90 (.call (.c (.fn 46 [])) [(.t 89)]), iI 91 (.mv (.t 1)), iI 92 (.nilchk (.t 84)), iI 93 (.faddr 1 (.t 92)), iN (.store 0 (.t 93) (.t 90)), iI 94 (.nilchk (.t 85)), iI 95 (.faddr 2 (.t 94)), iN (.store 0 (.t 95) (.t 91))]) c44_3
def c44_5 : C := .seq (.block 0 (.seq (.reg [iI 45 (.mv (.t 10)), iI 46 (.nilchk (.t 45)), iI 47 (.faddr 4 (.t 46)), iI 48 (.load 0 (.t 47)), iI 49 (.faddr 1 (.t 6)), iI 50 (.load 0 (.t 49)), iI 51 (.bin .neq (.t 48) (.t 50)), iI 44 (.mv (.t 51))]) c44_2)) c44_4
def c44_6 : C := .seq (.reg [iI 38 (.mv (.t 0)), iI 39 (.nilchk (.t 38)), iI 40 (.faddr 4 (.t 39)), iI 41 (.load 0 (.t 40)), iI 42 (.mv (.t 8)), iI 43 (.iaddr 5 (.t 41) (.t 42)), iI 10 (.mv (.t 43))]) c44_5
def c44_7 : C := .seq (.seq (.reg [iI 21 (.mv (.t 9)), iI 22 (.un .not (.t 21))]) c44_0) c44_6
def c44_8 : C := .seq (.reg [iI 12 (.mv (.t 0)), iI 13 (.nilchk (.t 12)), iI 14 (.faddr 4 (.t 13)), iI 15 (.load 0 (.t 14)), iI 16 (.faddr 0 (.t 6)), iI 17 (.load 0 (.t 16)), iI 18 (.call (.c (.fn 65 [])) [(.t 15), (.t 17), (.c (.fn 66 []))]), iI 11 (.mv (.t 18)), iI 19 (.ext (.t 11) 0), iI 20 (.ext (.t 11) 1), iI 8 (.mv (.t 19)), iI 9 (.mv (.t 20))]) c44_7
def ir44 : C := .seq (.reg [iI 6 (.box (.t 2))]) c44_8
theorem fd44 : fd? Try.prog 44 = some (105, [], ir44) := by kernel_rfl
noncomputable def f23_C5 (s_923 : NetworkSender) (x_1603 : NetworkStream) (r_1610 : Int) (x_1540 : ApiFrame) (v_1602 : (List NetworkStream)) (out_1471 : (List NetworkPacket)) (r_1600 : Int × Bool) (t_924 : Int) : Il (Unit) where
  run := (some ())
  res := fun _ => .agg [.int .u64 s_923.fSource, .int .i64 x_1603.fUniverse, .int .i64 s_923.fPriority, .int .i64 r_1610, .int .i64 s_923.fSync, .bool false, .str x_1540.fSlots]
  hp := fun _ => [.cel [.int .u64 s_923.fSource, .int .i64 s_923.fPriority, .int .i64 s_923.fSync, .int .i64 s_923.fPulse, .row 5 7 0 v_1602.length], .cel [.int .u64 0, .int .i64 0, .int .i64 0, .int .i64 0, .sl 5 true []], .cel [.row 7 4 0 out_1471.length], .dead, .els 7 (out_1471.map eNetworkPacket), .cel [.int .i64 x_1540.fUniverse, .str x_1540.fSlots], .cel [.int .i64 x_1540.fUniverse, .str x_1540.fSlots], .els 5 (((((v_1602.set r_1600.1.toNat (NetworkStream.mk x_1603.fUniverse x_1603.fSeq x_1603.fLast x_1603.fTimes x_1540.fSlots)).set r_1600.1.toNat (NetworkStream.mk x_1603.fUniverse x_1603.fSeq x_1603.fLast 1 x_1540.fSlots)).set r_1600.1.toNat (NetworkStream.mk x_1603.fUniverse r_1610 x_1603.fLast 1 x_1540.fSlots)).set r_1600.1.toNat (NetworkStream.mk x_1603.fUniverse r_1610 t_924 1 x_1540.fSlots)).map eNetworkStream), .cel [.int .u64 s_923.fSource, .int .i64 x_1603.fUniverse, .int .i64 s_923.fPriority, .int .i64 r_1610, .int .i64 s_923.fSync, .bool false, .str x_1540.fSlots]]
def c45_0 : C := .reg [iI 3 (.load 0 (.t 1)), iI 4 (.load 7 (.t 2)), iI 5 (.mkslp 7 1 (.agg [(.int .u64 0), (.int .i64 0), (.int .i64 0), (.int .i64 0), (.int .i64 0), (.bool false), (.str [])]) [(0, (.t 4))]), iI 6 (.append 7 64 (.t 3) (.t 5)), iN (.store 0 (.t 1) (.t 6))]
def ir45 : C := .seq (.reg [iI 2 (.box (.t 0))]) c45_0
theorem fd45 : fd? Try.prog 45 = some (7, [], ir45) := by kernel_rfl
noncomputable def f23_C6 (out_1471 : (List NetworkPacket)) (s_923 : NetworkSender) (x_1603 : NetworkStream) (r_1610 : Int) (x_1540 : ApiFrame) (v_1602 : (List NetworkStream)) (r_1600 : Int × Bool) (t_924 : Int) : Il ((List NetworkPacket)) where
  run := (app? 64 out_1471 ([(NetworkPacket.mk s_923.fSource x_1603.fUniverse s_923.fPriority r_1610 s_923.fSync false x_1540.fSlots)])).bind fun out_1616 => (some out_1616)
  res := fun v_1615 => .tup []
  hp := fun v_1615 => [.cel [.int .u64 s_923.fSource, .int .i64 s_923.fPriority, .int .i64 s_923.fSync, .int .i64 s_923.fPulse, .row 5 7 0 v_1602.length], .cel [.int .u64 0, .int .i64 0, .int .i64 0, .int .i64 0, .sl 5 true []], .cel [.row 7 9 0 v_1615.length], .dead, .dead, .cel [.int .i64 x_1540.fUniverse, .str x_1540.fSlots], .cel [.int .i64 x_1540.fUniverse, .str x_1540.fSlots], .els 5 (((((v_1602.set r_1600.1.toNat (NetworkStream.mk x_1603.fUniverse x_1603.fSeq x_1603.fLast x_1603.fTimes x_1540.fSlots)).set r_1600.1.toNat (NetworkStream.mk x_1603.fUniverse x_1603.fSeq x_1603.fLast 1 x_1540.fSlots)).set r_1600.1.toNat (NetworkStream.mk x_1603.fUniverse r_1610 x_1603.fLast 1 x_1540.fSlots)).set r_1600.1.toNat (NetworkStream.mk x_1603.fUniverse r_1610 t_924 1 x_1540.fSlots)).map eNetworkStream), .cel [.int .u64 s_923.fSource, .int .i64 x_1603.fUniverse, .int .i64 s_923.fPriority, .int .i64 r_1610, .int .i64 s_923.fSync, .bool false, .str x_1540.fSlots], .els 7 (v_1615.map eNetworkPacket)]
noncomputable def f23_C7 (s_923 : NetworkSender) (x_1603 : NetworkStream) (r_1618 : Int) (v_1602 : (List NetworkStream)) (out_1471 : (List NetworkPacket)) (x_1540 : ApiFrame) (r_1600 : Int × Bool) (t_924 : Int) : Il (Unit) where
  run := (some ())
  res := fun _ => .agg [.int .u64 s_923.fSource, .int .i64 x_1603.fUniverse, .int .i64 s_923.fPriority, .int .i64 r_1618, .int .i64 s_923.fSync, .bool false, .str x_1603.fSlots]
  hp := fun _ => [.cel [.int .u64 s_923.fSource, .int .i64 s_923.fPriority, .int .i64 s_923.fSync, .int .i64 s_923.fPulse, .row 5 7 0 v_1602.length], .cel [.int .u64 0, .int .i64 0, .int .i64 0, .int .i64 0, .sl 5 true []], .cel [.row 7 4 0 out_1471.length], .dead, .els 7 (out_1471.map eNetworkPacket), .cel [.int .i64 x_1540.fUniverse, .str x_1540.fSlots], .cel [.int .i64 x_1540.fUniverse, .str x_1540.fSlots], .els 5 ((((v_1602.set r_1600.1.toNat (NetworkStream.mk x_1603.fUniverse x_1603.fSeq x_1603.fLast (if 3 < (IntKind.i64.wrap (x_1603.fTimes + 1)) then 3 else (IntKind.i64.wrap (x_1603.fTimes + 1))) x_1603.fSlots)).set r_1600.1.toNat (NetworkStream.mk x_1603.fUniverse r_1618 x_1603.fLast (if 3 < (IntKind.i64.wrap (x_1603.fTimes + 1)) then 3 else (IntKind.i64.wrap (x_1603.fTimes + 1))) x_1603.fSlots)).set r_1600.1.toNat (NetworkStream.mk x_1603.fUniverse r_1618 t_924 (if 3 < (IntKind.i64.wrap (x_1603.fTimes + 1)) then 3 else (IntKind.i64.wrap (x_1603.fTimes + 1))) x_1603.fSlots)).map eNetworkStream), .cel [.int .u64 s_923.fSource, .int .i64 x_1603.fUniverse, .int .i64 s_923.fPriority, .int .i64 r_1618, .int .i64 s_923.fSync, .bool false, .str x_1603.fSlots]]
noncomputable def f23_C8 (out_1471 : (List NetworkPacket)) (s_923 : NetworkSender) (x_1603 : NetworkStream) (r_1618 : Int) (v_1602 : (List NetworkStream)) (x_1540 : ApiFrame) (r_1600 : Int × Bool) (t_924 : Int) : Il ((List NetworkPacket)) where
  run := (app? 64 out_1471 ([(NetworkPacket.mk s_923.fSource x_1603.fUniverse s_923.fPriority r_1618 s_923.fSync false x_1603.fSlots)])).bind fun out_1624 => (some out_1624)
  res := fun v_1623 => .tup []
  hp := fun v_1623 => [.cel [.int .u64 s_923.fSource, .int .i64 s_923.fPriority, .int .i64 s_923.fSync, .int .i64 s_923.fPulse, .row 5 7 0 v_1602.length], .cel [.int .u64 0, .int .i64 0, .int .i64 0, .int .i64 0, .sl 5 true []], .cel [.row 7 9 0 v_1623.length], .dead, .dead, .cel [.int .i64 x_1540.fUniverse, .str x_1540.fSlots], .cel [.int .i64 x_1540.fUniverse, .str x_1540.fSlots], .els 5 ((((v_1602.set r_1600.1.toNat (NetworkStream.mk x_1603.fUniverse x_1603.fSeq x_1603.fLast (if 3 < (IntKind.i64.wrap (x_1603.fTimes + 1)) then 3 else (IntKind.i64.wrap (x_1603.fTimes + 1))) x_1603.fSlots)).set r_1600.1.toNat (NetworkStream.mk x_1603.fUniverse r_1618 x_1603.fLast (if 3 < (IntKind.i64.wrap (x_1603.fTimes + 1)) then 3 else (IntKind.i64.wrap (x_1603.fTimes + 1))) x_1603.fSlots)).set r_1600.1.toNat (NetworkStream.mk x_1603.fUniverse r_1618 t_924 (if 3 < (IntKind.i64.wrap (x_1603.fTimes + 1)) then 3 else (IntKind.i64.wrap (x_1603.fTimes + 1))) x_1603.fSlots)).map eNetworkStream), .cel [.int .u64 s_923.fSource, .int .i64 x_1603.fUniverse, .int .i64 s_923.fPriority, .int .i64 r_1618, .int .i64 s_923.fSync, .bool false, .str x_1603.fSlots], .els 7 (v_1623.map eNetworkPacket)]
noncomputable def f23_C9 (s_923 : NetworkSender) (x_1603 : NetworkStream) (r_1626 : Int) (v_1602 : (List NetworkStream)) (out_1471 : (List NetworkPacket)) (x_1540 : ApiFrame) (r_1600 : Int × Bool) (t_924 : Int) : Il (Unit) where
  run := (some ())
  res := fun _ => .agg [.int .u64 s_923.fSource, .int .i64 x_1603.fUniverse, .int .i64 s_923.fPriority, .int .i64 r_1626, .int .i64 s_923.fSync, .bool false, .str x_1603.fSlots]
  hp := fun _ => [.cel [.int .u64 s_923.fSource, .int .i64 s_923.fPriority, .int .i64 s_923.fSync, .int .i64 s_923.fPulse, .row 5 7 0 v_1602.length], .cel [.int .u64 0, .int .i64 0, .int .i64 0, .int .i64 0, .sl 5 true []], .cel [.row 7 4 0 out_1471.length], .dead, .els 7 (out_1471.map eNetworkPacket), .cel [.int .i64 x_1540.fUniverse, .str x_1540.fSlots], .cel [.int .i64 x_1540.fUniverse, .str x_1540.fSlots], .els 5 ((((v_1602.set r_1600.1.toNat (NetworkStream.mk x_1603.fUniverse x_1603.fSeq x_1603.fLast (if 3 < (IntKind.i64.wrap (x_1603.fTimes + 1)) then 3 else (IntKind.i64.wrap (x_1603.fTimes + 1))) x_1603.fSlots)).set r_1600.1.toNat (NetworkStream.mk x_1603.fUniverse r_1626 x_1603.fLast (if 3 < (IntKind.i64.wrap (x_1603.fTimes + 1)) then 3 else (IntKind.i64.wrap (x_1603.fTimes + 1))) x_1603.fSlots)).set r_1600.1.toNat (NetworkStream.mk x_1603.fUniverse r_1626 t_924 (if 3 < (IntKind.i64.wrap (x_1603.fTimes + 1)) then 3 else (IntKind.i64.wrap (x_1603.fTimes + 1))) x_1603.fSlots)).map eNetworkStream), .cel [.int .u64 s_923.fSource, .int .i64 x_1603.fUniverse, .int .i64 s_923.fPriority, .int .i64 r_1626, .int .i64 s_923.fSync, .bool false, .str x_1603.fSlots]]
noncomputable def f23_C10 (out_1471 : (List NetworkPacket)) (s_923 : NetworkSender) (x_1603 : NetworkStream) (r_1626 : Int) (v_1602 : (List NetworkStream)) (x_1540 : ApiFrame) (r_1600 : Int × Bool) (t_924 : Int) : Il ((List NetworkPacket)) where
  run := (app? 64 out_1471 ([(NetworkPacket.mk s_923.fSource x_1603.fUniverse s_923.fPriority r_1626 s_923.fSync false x_1603.fSlots)])).bind fun out_1632 => (some out_1632)
  res := fun v_1631 => .tup []
  hp := fun v_1631 => [.cel [.int .u64 s_923.fSource, .int .i64 s_923.fPriority, .int .i64 s_923.fSync, .int .i64 s_923.fPulse, .row 5 7 0 v_1602.length], .cel [.int .u64 0, .int .i64 0, .int .i64 0, .int .i64 0, .sl 5 true []], .cel [.row 7 9 0 v_1631.length], .dead, .dead, .cel [.int .i64 x_1540.fUniverse, .str x_1540.fSlots], .cel [.int .i64 x_1540.fUniverse, .str x_1540.fSlots], .els 5 ((((v_1602.set r_1600.1.toNat (NetworkStream.mk x_1603.fUniverse x_1603.fSeq x_1603.fLast (if 3 < (IntKind.i64.wrap (x_1603.fTimes + 1)) then 3 else (IntKind.i64.wrap (x_1603.fTimes + 1))) x_1603.fSlots)).set r_1600.1.toNat (NetworkStream.mk x_1603.fUniverse r_1626 x_1603.fLast (if 3 < (IntKind.i64.wrap (x_1603.fTimes + 1)) then 3 else (IntKind.i64.wrap (x_1603.fTimes + 1))) x_1603.fSlots)).set r_1600.1.toNat (NetworkStream.mk x_1603.fUniverse r_1626 t_924 (if 3 < (IntKind.i64.wrap (x_1603.fTimes + 1)) then 3 else (IntKind.i64.wrap (x_1603.fTimes + 1))) x_1603.fSlots)).map eNetworkStream), .cel [.int .u64 s_923.fSource, .int .i64 x_1603.fUniverse, .int .i64 s_923.fPriority, .int .i64 r_1626, .int .i64 s_923.fSync, .bool false, .str x_1603.fSlots], .els 7 (v_1631.map eNetworkPacket)]
noncomputable def f23_C11 (s_923 : NetworkSender) (x_1633 : NetworkStream) (r_1640 : Int) (x_1540 : ApiFrame) (s_1470 : (List NetworkStream)) (out_1471 : (List NetworkPacket)) (r_1600 : Int × Bool) (t_924 : Int) : Il (Unit) where
  run := (some ())
  res := fun _ => .agg [.int .u64 s_923.fSource, .int .i64 x_1633.fUniverse, .int .i64 s_923.fPriority, .int .i64 r_1640, .int .i64 s_923.fSync, .bool false, .str x_1540.fSlots]
  hp := fun _ => [.cel [.int .u64 s_923.fSource, .int .i64 s_923.fPriority, .int .i64 s_923.fSync, .int .i64 s_923.fPulse, .row 5 3 0 s_1470.length], .cel [.int .u64 0, .int .i64 0, .int .i64 0, .int .i64 0, .sl 5 true []], .cel [.row 7 4 0 out_1471.length], .els 5 (((((s_1470.set r_1600.1.toNat (NetworkStream.mk x_1633.fUniverse x_1633.fSeq x_1633.fLast x_1633.fTimes x_1540.fSlots)).set r_1600.1.toNat (NetworkStream.mk x_1633.fUniverse x_1633.fSeq x_1633.fLast 1 x_1540.fSlots)).set r_1600.1.toNat (NetworkStream.mk x_1633.fUniverse r_1640 x_1633.fLast 1 x_1540.fSlots)).set r_1600.1.toNat (NetworkStream.mk x_1633.fUniverse r_1640 t_924 1 x_1540.fSlots)).map eNetworkStream), .els 7 (out_1471.map eNetworkPacket), .cel [.int .i64 x_1540.fUniverse, .str x_1540.fSlots], .cel [.int .i64 x_1540.fUniverse, .str x_1540.fSlots], .cel [.int .u64 s_923.fSource, .int .i64 x_1633.fUniverse, .int .i64 s_923.fPriority, .int .i64 r_1640, .int .i64 s_923.fSync, .bool false, .str x_1540.fSlots]]
noncomputable def f23_C12 (out_1471 : (List NetworkPacket)) (s_923 : NetworkSender) (x_1633 : NetworkStream) (r_1640 : Int) (x_1540 : ApiFrame) (s_1470 : (List NetworkStream)) (r_1600 : Int × Bool) (t_924 : Int) : Il ((List NetworkPacket)) where
  run := (app? 64 out_1471 ([(NetworkPacket.mk s_923.fSource x_1633.fUniverse s_923.fPriority r_1640 s_923.fSync false x_1540.fSlots)])).bind fun out_1646 => (some out_1646)
  res := fun v_1645 => .tup []
  hp := fun v_1645 => [.cel [.int .u64 s_923.fSource, .int .i64 s_923.fPriority, .int .i64 s_923.fSync, .int .i64 s_923.fPulse, .row 5 3 0 s_1470.length], .cel [.int .u64 0, .int .i64 0, .int .i64 0, .int .i64 0, .sl 5 true []], .cel [.row 7 8 0 v_1645.length], .els 5 (((((s_1470.set r_1600.1.toNat (NetworkStream.mk x_1633.fUniverse x_1633.fSeq x_1633.fLast x_1633.fTimes x_1540.fSlots)).set r_1600.1.toNat (NetworkStream.mk x_1633.fUniverse x_1633.fSeq x_1633.fLast 1 x_1540.fSlots)).set r_1600.1.toNat (NetworkStream.mk x_1633.fUniverse r_1640 x_1633.fLast 1 x_1540.fSlots)).set r_1600.1.toNat (NetworkStream.mk x_1633.fUniverse r_1640 t_924 1 x_1540.fSlots)).map eNetworkStream), .dead, .cel [.int .i64 x_1540.fUniverse, .str x_1540.fSlots], .cel [.int .i64 x_1540.fUniverse, .str x_1540.fSlots], .cel [.int .u64 s_923.fSource, .int .i64 x_1633.fUniverse, .int .i64 s_923.fPriority, .int .i64 r_1640, .int .i64 s_923.fSync, .bool false, .str x_1540.fSlots], .els 7 (v_1645.map eNetworkPacket)]
noncomputable def f23_C13 (s_923 : NetworkSender) (x_1633 : NetworkStream) (r_1648 : Int) (s_1470 : (List NetworkStream)) (out_1471 : (List NetworkPacket)) (r_1600 : Int × Bool) (t_924 : Int) (x_1540 : ApiFrame) : Il (Unit) where
  run := (some ())
  res := fun _ => .agg [.int .u64 s_923.fSource, .int .i64 x_1633.fUniverse, .int .i64 s_923.fPriority, .int .i64 r_1648, .int .i64 s_923.fSync, .bool false, .str x_1633.fSlots]
  hp := fun _ => [.cel [.int .u64 s_923.fSource, .int .i64 s_923.fPriority, .int .i64 s_923.fSync, .int .i64 s_923.fPulse, .row 5 3 0 s_1470.length], .cel [.int .u64 0, .int .i64 0, .int .i64 0, .int .i64 0, .sl 5 true []], .cel [.row 7 4 0 out_1471.length], .els 5 ((((s_1470.set r_1600.1.toNat (NetworkStream.mk x_1633.fUniverse x_1633.fSeq x_1633.fLast (if 3 < (IntKind.i64.wrap (x_1633.fTimes + 1)) then 3 else (IntKind.i64.wrap (x_1633.fTimes + 1))) x_1633.fSlots)).set r_1600.1.toNat (NetworkStream.mk x_1633.fUniverse r_1648 x_1633.fLast (if 3 < (IntKind.i64.wrap (x_1633.fTimes + 1)) then 3 else (IntKind.i64.wrap (x_1633.fTimes + 1))) x_1633.fSlots)).set r_1600.1.toNat (NetworkStream.mk x_1633.fUniverse r_1648 t_924 (if 3 < (IntKind.i64.wrap (x_1633.fTimes + 1)) then 3 else (IntKind.i64.wrap (x_1633.fTimes + 1))) x_1633.fSlots)).map eNetworkStream), .els 7 (out_1471.map eNetworkPacket), .cel [.int .i64 x_1540.fUniverse, .str x_1540.fSlots], .cel [.int .i64 x_1540.fUniverse, .str x_1540.fSlots], .cel [.int .u64 s_923.fSource, .int .i64 x_1633.fUniverse, .int .i64 s_923.fPriority, .int .i64 r_1648, .int .i64 s_923.fSync, .bool false, .str x_1633.fSlots]]
noncomputable def f23_C14 (out_1471 : (List NetworkPacket)) (s_923 : NetworkSender) (x_1633 : NetworkStream) (r_1648 : Int) (s_1470 : (List NetworkStream)) (r_1600 : Int × Bool) (t_924 : Int) (x_1540 : ApiFrame) : Il ((List NetworkPacket)) where
  run := (app? 64 out_1471 ([(NetworkPacket.mk s_923.fSource x_1633.fUniverse s_923.fPriority r_1648 s_923.fSync false x_1633.fSlots)])).bind fun out_1654 => (some out_1654)
  res := fun v_1653 => .tup []
  hp := fun v_1653 => [.cel [.int .u64 s_923.fSource, .int .i64 s_923.fPriority, .int .i64 s_923.fSync, .int .i64 s_923.fPulse, .row 5 3 0 s_1470.length], .cel [.int .u64 0, .int .i64 0, .int .i64 0, .int .i64 0, .sl 5 true []], .cel [.row 7 8 0 v_1653.length], .els 5 ((((s_1470.set r_1600.1.toNat (NetworkStream.mk x_1633.fUniverse x_1633.fSeq x_1633.fLast (if 3 < (IntKind.i64.wrap (x_1633.fTimes + 1)) then 3 else (IntKind.i64.wrap (x_1633.fTimes + 1))) x_1633.fSlots)).set r_1600.1.toNat (NetworkStream.mk x_1633.fUniverse r_1648 x_1633.fLast (if 3 < (IntKind.i64.wrap (x_1633.fTimes + 1)) then 3 else (IntKind.i64.wrap (x_1633.fTimes + 1))) x_1633.fSlots)).set r_1600.1.toNat (NetworkStream.mk x_1633.fUniverse r_1648 t_924 (if 3 < (IntKind.i64.wrap (x_1633.fTimes + 1)) then 3 else (IntKind.i64.wrap (x_1633.fTimes + 1))) x_1633.fSlots)).map eNetworkStream), .dead, .cel [.int .i64 x_1540.fUniverse, .str x_1540.fSlots], .cel [.int .i64 x_1540.fUniverse, .str x_1540.fSlots], .cel [.int .u64 s_923.fSource, .int .i64 x_1633.fUniverse, .int .i64 s_923.fPriority, .int .i64 r_1648, .int .i64 s_923.fSync, .bool false, .str x_1633.fSlots], .els 7 (v_1653.map eNetworkPacket)]
noncomputable def f23_C15 (s_923 : NetworkSender) (x_1633 : NetworkStream) (r_1656 : Int) (s_1470 : (List NetworkStream)) (out_1471 : (List NetworkPacket)) (r_1600 : Int × Bool) (t_924 : Int) (x_1540 : ApiFrame) : Il (Unit) where
  run := (some ())
  res := fun _ => .agg [.int .u64 s_923.fSource, .int .i64 x_1633.fUniverse, .int .i64 s_923.fPriority, .int .i64 r_1656, .int .i64 s_923.fSync, .bool false, .str x_1633.fSlots]
  hp := fun _ => [.cel [.int .u64 s_923.fSource, .int .i64 s_923.fPriority, .int .i64 s_923.fSync, .int .i64 s_923.fPulse, .row 5 3 0 s_1470.length], .cel [.int .u64 0, .int .i64 0, .int .i64 0, .int .i64 0, .sl 5 true []], .cel [.row 7 4 0 out_1471.length], .els 5 ((((s_1470.set r_1600.1.toNat (NetworkStream.mk x_1633.fUniverse x_1633.fSeq x_1633.fLast (if 3 < (IntKind.i64.wrap (x_1633.fTimes + 1)) then 3 else (IntKind.i64.wrap (x_1633.fTimes + 1))) x_1633.fSlots)).set r_1600.1.toNat (NetworkStream.mk x_1633.fUniverse r_1656 x_1633.fLast (if 3 < (IntKind.i64.wrap (x_1633.fTimes + 1)) then 3 else (IntKind.i64.wrap (x_1633.fTimes + 1))) x_1633.fSlots)).set r_1600.1.toNat (NetworkStream.mk x_1633.fUniverse r_1656 t_924 (if 3 < (IntKind.i64.wrap (x_1633.fTimes + 1)) then 3 else (IntKind.i64.wrap (x_1633.fTimes + 1))) x_1633.fSlots)).map eNetworkStream), .els 7 (out_1471.map eNetworkPacket), .cel [.int .i64 x_1540.fUniverse, .str x_1540.fSlots], .cel [.int .i64 x_1540.fUniverse, .str x_1540.fSlots], .cel [.int .u64 s_923.fSource, .int .i64 x_1633.fUniverse, .int .i64 s_923.fPriority, .int .i64 r_1656, .int .i64 s_923.fSync, .bool false, .str x_1633.fSlots]]
noncomputable def f23_C16 (out_1471 : (List NetworkPacket)) (s_923 : NetworkSender) (x_1633 : NetworkStream) (r_1656 : Int) (s_1470 : (List NetworkStream)) (r_1600 : Int × Bool) (t_924 : Int) (x_1540 : ApiFrame) : Il ((List NetworkPacket)) where
  run := (app? 64 out_1471 ([(NetworkPacket.mk s_923.fSource x_1633.fUniverse s_923.fPriority r_1656 s_923.fSync false x_1633.fSlots)])).bind fun out_1662 => (some out_1662)
  res := fun v_1661 => .tup []
  hp := fun v_1661 => [.cel [.int .u64 s_923.fSource, .int .i64 s_923.fPriority, .int .i64 s_923.fSync, .int .i64 s_923.fPulse, .row 5 3 0 s_1470.length], .cel [.int .u64 0, .int .i64 0, .int .i64 0, .int .i64 0, .sl 5 true []], .cel [.row 7 8 0 v_1661.length], .els 5 ((((s_1470.set r_1600.1.toNat (NetworkStream.mk x_1633.fUniverse x_1633.fSeq x_1633.fLast (if 3 < (IntKind.i64.wrap (x_1633.fTimes + 1)) then 3 else (IntKind.i64.wrap (x_1633.fTimes + 1))) x_1633.fSlots)).set r_1600.1.toNat (NetworkStream.mk x_1633.fUniverse r_1656 x_1633.fLast (if 3 < (IntKind.i64.wrap (x_1633.fTimes + 1)) then 3 else (IntKind.i64.wrap (x_1633.fTimes + 1))) x_1633.fSlots)).set r_1600.1.toNat (NetworkStream.mk x_1633.fUniverse r_1656 t_924 (if 3 < (IntKind.i64.wrap (x_1633.fTimes + 1)) then 3 else (IntKind.i64.wrap (x_1633.fTimes + 1))) x_1633.fSlots)).map eNetworkStream), .dead, .cel [.int .i64 x_1540.fUniverse, .str x_1540.fSlots], .cel [.int .i64 x_1540.fUniverse, .str x_1540.fSlots], .cel [.int .u64 s_923.fSource, .int .i64 x_1633.fUniverse, .int .i64 s_923.fPriority, .int .i64 r_1656, .int .i64 s_923.fSync, .bool false, .str x_1633.fSlots], .els 7 (v_1661.map eNetworkPacket)]
noncomputable def f23_C4 (s_1470 : (List NetworkStream)) (x_1540 : ApiFrame) (s_923 : NetworkSender) (out_1471 : (List NetworkPacket)) (t_924 : Int) : Il ((List NetworkStream) × (List NetworkPacket)) where
  run := (f65_66 s_1470 x_1540.fUniverse).bind fun r_1600 => (if (!r_1600.2) = true then (ins? 48 s_1470 r_1600.1 (NetworkStream.mk x_1540.fUniverse 255 0 0 x_1540.fSlots)).bind fun v_1602 => (at? v_1602 r_1600.1).bind fun x_1603 => (if (!(x_1603.fSlots == x_1540.fSlots)) = true then (f46 x_1603.fSeq).bind fun r_1610 => ((f23_C5 s_923 x_1603 r_1610 x_1540 v_1602 out_1471 r_1600 t_924).run.bind fun _ => ((f23_C6 out_1471 s_923 x_1603 r_1610 x_1540 v_1602 r_1600 t_924).run.bind fun v_1615 => (some (((((v_1602.set r_1600.1.toNat (NetworkStream.mk x_1603.fUniverse x_1603.fSeq x_1603.fLast x_1603.fTimes x_1540.fSlots)).set r_1600.1.toNat (NetworkStream.mk x_1603.fUniverse x_1603.fSeq x_1603.fLast 1 x_1540.fSlots)).set r_1600.1.toNat (NetworkStream.mk x_1603.fUniverse r_1610 x_1603.fLast 1 x_1540.fSlots)).set r_1600.1.toNat (NetworkStream.mk x_1603.fUniverse r_1610 t_924 1 x_1540.fSlots)), v_1615)))) else (if (decide (x_1603.fTimes < 3)) = true then (f46 x_1603.fSeq).bind fun r_1618 => ((f23_C7 s_923 x_1603 r_1618 v_1602 out_1471 x_1540 r_1600 t_924).run.bind fun _ => ((f23_C8 out_1471 s_923 x_1603 r_1618 v_1602 x_1540 r_1600 t_924).run.bind fun v_1623 => (some ((((v_1602.set r_1600.1.toNat (NetworkStream.mk x_1603.fUniverse x_1603.fSeq x_1603.fLast (if 3 < (IntKind.i64.wrap (x_1603.fTimes + 1)) then 3 else (IntKind.i64.wrap (x_1603.fTimes + 1))) x_1603.fSlots)).set r_1600.1.toNat (NetworkStream.mk x_1603.fUniverse r_1618 x_1603.fLast (if 3 < (IntKind.i64.wrap (x_1603.fTimes + 1)) then 3 else (IntKind.i64.wrap (x_1603.fTimes + 1))) x_1603.fSlots)).set r_1600.1.toNat (NetworkStream.mk x_1603.fUniverse r_1618 t_924 (if 3 < (IntKind.i64.wrap (x_1603.fTimes + 1)) then 3 else (IntKind.i64.wrap (x_1603.fTimes + 1))) x_1603.fSlots)), v_1623)))) else (if (decide (1000 ≤ (IntKind.i64.wrap (t_924 - x_1603.fLast)))) = true then (f46 x_1603.fSeq).bind fun r_1626 => ((f23_C9 s_923 x_1603 r_1626 v_1602 out_1471 x_1540 r_1600 t_924).run.bind fun _ => ((f23_C10 out_1471 s_923 x_1603 r_1626 v_1602 x_1540 r_1600 t_924).run.bind fun v_1631 => (some ((((v_1602.set r_1600.1.toNat (NetworkStream.mk x_1603.fUniverse x_1603.fSeq x_1603.fLast (if 3 < (IntKind.i64.wrap (x_1603.fTimes + 1)) then 3 else (IntKind.i64.wrap (x_1603.fTimes + 1))) x_1603.fSlots)).set r_1600.1.toNat (NetworkStream.mk x_1603.fUniverse r_1626 x_1603.fLast (if 3 < (IntKind.i64.wrap (x_1603.fTimes + 1)) then 3 else (IntKind.i64.wrap (x_1603.fTimes + 1))) x_1603.fSlots)).set r_1600.1.toNat (NetworkStream.mk x_1603.fUniverse r_1626 t_924 (if 3 < (IntKind.i64.wrap (x_1603.fTimes + 1)) then 3 else (IntKind.i64.wrap (x_1603.fTimes + 1))) x_1603.fSlots)), v_1631)))) else (some (v_1602, out_1471))))) else (at? s_1470 r_1600.1).bind fun x_1633 => (if (!(x_1633.fSlots == x_1540.fSlots)) = true then (f46 x_1633.fSeq).bind fun r_1640 => ((f23_C11 s_923 x_1633 r_1640 x_1540 s_1470 out_1471 r_1600 t_924).run.bind fun _ => ((f23_C12 out_1471 s_923 x_1633 r_1640 x_1540 s_1470 r_1600 t_924).run.bind fun v_1645 => (some (((((s_1470.set r_1600.1.toNat (NetworkStream.mk x_1633.fUniverse x_1633.fSeq x_1633.fLast x_1633.fTimes x_1540.fSlots)).set r_1600.1.toNat (NetworkStream.mk x_1633.fUniverse x_1633.fSeq x_1633.fLast 1 x_1540.fSlots)).set r_1600.1.toNat (NetworkStream.mk x_1633.fUniverse r_1640 x_1633.fLast 1 x_1540.fSlots)).set r_1600.1.toNat (NetworkStream.mk x_1633.fUniverse r_1640 t_924 1 x_1540.fSlots)), v_1645)))) else (if (decide (x_1633.fTimes < 3)) = true then (f46 x_1633.fSeq).bind fun r_1648 => ((f23_C13 s_923 x_1633 r_1648 s_1470 out_1471 r_1600 t_924 x_1540).run.bind fun _ => ((f23_C14 out_1471 s_923 x_1633 r_1648 s_1470 r_1600 t_924 x_1540).run.bind fun v_1653 => (some ((((s_1470.set r_1600.1.toNat (NetworkStream.mk x_1633.fUniverse x_1633.fSeq x_1633.fLast (if 3 < (IntKind.i64.wrap (x_1633.fTimes + 1)) then 3 else (IntKind.i64.wrap (x_1633.fTimes + 1))) x_1633.fSlots)).set r_1600.1.toNat (NetworkStream.mk x_1633.fUniverse r_1648 x_1633.fLast (if 3 < (IntKind.i64.wrap (x_1633.fTimes + 1)) then 3 else (IntKind.i64.wrap (x_1633.fTimes + 1))) x_1633.fSlots)).set r_1600.1.toNat (NetworkStream.mk x_1633.fUniverse r_1648 t_924 (if 3 < (IntKind.i64.wrap (x_1633.fTimes + 1)) then 3 else (IntKind.i64.wrap (x_1633.fTimes + 1))) x_1633.fSlots)), v_1653)))) else (if (decide (1000 ≤ (IntKind.i64.wrap (t_924 - x_1633.fLast)))) = true then (f46 x_1633.fSeq).bind fun r_1656 => ((f23_C15 s_923 x_1633 r_1656 s_1470 out_1471 r_1600 t_924 x_1540).run.bind fun _ => ((f23_C16 out_1471 s_923 x_1633 r_1656 s_1470 r_1600 t_924 x_1540).run.bind fun v_1661 => (some ((((s_1470.set r_1600.1.toNat (NetworkStream.mk x_1633.fUniverse x_1633.fSeq x_1633.fLast (if 3 < (IntKind.i64.wrap (x_1633.fTimes + 1)) then 3 else (IntKind.i64.wrap (x_1633.fTimes + 1))) x_1633.fSlots)).set r_1600.1.toNat (NetworkStream.mk x_1633.fUniverse r_1656 x_1633.fLast (if 3 < (IntKind.i64.wrap (x_1633.fTimes + 1)) then 3 else (IntKind.i64.wrap (x_1633.fTimes + 1))) x_1633.fSlots)).set r_1600.1.toNat (NetworkStream.mk x_1633.fUniverse r_1656 t_924 (if 3 < (IntKind.i64.wrap (x_1633.fTimes + 1)) then 3 else (IntKind.i64.wrap (x_1633.fTimes + 1))) x_1633.fSlots)), v_1661)))) else (some (s_1470, out_1471))))))
  res := fun (v_1598, v_1599) => .tup []
  hp := fun (v_1598, v_1599) => [.cel [.int .u64 s_923.fSource, .int .i64 s_923.fPriority, .int .i64 s_923.fSync, .int .i64 s_923.fPulse, .row 5 6 0 v_1598.length], .cel [.int .u64 0, .int .i64 0, .int .i64 0, .int .i64 0, .sl 5 true []], .cel [.row 7 7 0 v_1599.length], .dead, .dead, .cel [.int .i64 x_1540.fUniverse, .str x_1540.fSlots], .els 5 (v_1598.map eNetworkStream), .els 7 (v_1599.map eNetworkPacket)]
noncomputable def f23_L1 (frames_925 : (List ApiFrame)) (s_923 : NetworkSender) (t_924 : Int) : Lp (Int × (List NetworkStream) × (List NetworkPacket)) ((List NetworkStream) × (List NetworkPacket)) where
  body := fun (v_1469, s_1470, out_1471) => (if (decide (v_1469 < ((frames_925.length : Nat) : Int))) = true then (at? frames_925 v_1469).bind fun x_1540 => ((f23_C4 s_1470 x_1540 s_923 out_1471 t_924).run.bind fun (v_1598, v_1599) => (some (.next ((IntKind.i64.wrap (v_1469 + 1)), v_1598, v_1599)))) else (some (.brk (s_1470, out_1471))))
  cst := fun (v_1469, s_1470, out_1471) => ⟨put (put (put (put (put (put (put (fun _ => .junk) 33 (.int .i64 v_1469)) 32 (.int .i64 ((frames_925.length : Nat) : Int))) 31 (.sl 2 false (frames_925.map eApiFrame))) 11 (.ptr 2 0)) 6 (.ptr 1 0)) 3 (.ptr 0 0)) 1 (.int .i64 t_924), [.cel [.int .u64 s_923.fSource, .int .i64 s_923.fPriority, .int .i64 s_923.fSync, .int .i64 s_923.fPulse, .row 5 3 0 s_1470.length], .cel [.int .u64 0, .int .i64 0, .int .i64 0, .int .i64 0, .sl 5 true []], .cel [.row 7 4 0 out_1471.length], .els 5 (s_1470.map eNetworkStream), .els 7 (out_1471.map eNetworkPacket)]⟩
def c23_0 : C := .cond (.t 18) (.seq (.reg [iI 19 (.build [(1, (.int .u64 0)), (1, (.int .i64 0)), (1, (.int .i64 0)), (1, (.int .i64 0)), (1, (.sl 5 true []))] []), iI 20 (.mv (.t 9)), iN (.store 5 (.t 6) (.t 19)), iI 7 (.mv (.c (.sl 7 true []))), iI 8 (.mv (.t 20))]) .ret) (.skip)
def c23_1 : C := .seq (.reg [iI 17 (.mv (.t 9)), iI 18 (.bin .neq (.t 17) (.c (.int .i64 0)))]) c23_0
def c23_2 : C := .cond (.t 24) (.seq (.reg [iI 25 (.build [(1, (.int .u64 0)), (1, (.int .i64 0)), (1, (.int .i64 0)), (1, (.int .i64 0)), (1, (.sl 5 true []))] []), iI 26 (.mv (.t 10)), iN (.store 5 (.t 6) (.t 25)), iI 7 (.mv (.c (.sl 7 true []))), iI 8 (.mv (.t 26))]) .ret) (.skip)
def c23_3 : C := .seq (.reg [iI 23 (.mv (.t 10)), iI 24 (.bin .neq (.t 23) (.c (.int .i64 0)))]) c23_2
def c23_4 : C := .reg [iI 37 (.mv (.t 1)), iI 38 (.load 2 (.t 13)), iI 39 (.mkfn 45 [(.t 11)]), iI 40 (.call (.c (.fn 44 [])) [(.t 3), (.t 37), (.t 38), (.t 39)])]
def c23_5 : C := .reg [iI 41 (.bin .add (.t 33) (.c (.int .i64 1))), iI 33 (.mv (.t 41))]
def c23_6 : C := .seq (.block 1 (.seq (.reg [iI 35 (.iaddr 2 (.t 31) (.t 33)), iI 36 (.load 2 (.t 35)), iI 13 (.alloc [(1, (.int .i64 0)), (1, (.str []))]), iN (.store 2 (.t 13) (.t 36))]) c23_4)) c23_5
def c23_7 : C := .seq (.cond (.t 34) (.skip) (.exit 0)) c23_6
def c23_8 : C := .block 0 (.loop (.seq (.reg [iI 34 (.bin .lss (.t 33) (.t 32))]) c23_7))
def c23_9 : C := .reg [iI 62 (.faddr 3 (.t 3)), iI 63 (.load 0 (.t 62)), iI 64 (.call (.c (.fn 46 [])) [(.t 63)]), iI 65 (.faddr 3 (.t 3)), iN (.store 0 (.t 65) (.t 64))]
def c23_10 : C := .cond (.t 49) (.seq (.reg [iI 50 (.load 0 (.t 11)), iI 51 (.faddr 0 (.t 3)), iI 52 (.load 0 (.t 51)), iI 53 (.faddr 1 (.t 3)), iI 54 (.load 0 (.t 53)), iI 55 (.faddr 3 (.t 3)), iI 56 (.load 0 (.t 55)), iI 57 (.faddr 2 (.t 3)), iI 58 (.load 0 (.t 57)), iI 59 (.build [(1, (.int .u64 0)), (1, (.int .i64 0)), (1, (.int .i64 0)), (1, (.int .i64 0)), (1, (.int .i64 0)), (1, (.bool false)), (1, (.str []))] [(0, 0, (.t 52)), (2, 0, (.t 54)), (3, 0, (.t 56)), (4, 0, (.t 58))]), iI 60 (.mkslp 7 1 (.agg [(.int .u64 0), (.int .i64 0), (.int .i64 0), (.int .i64 0), (.int .i64 0), (.bool false), (.str [])]) [(0, (.t 59))]), iI 61 (.append 7 64 (.t 50) (.t 60)), iN (.store 0 (.t 11) (.t 61))]) c23_9) (.skip)
def c23_11 : C := .seq (.regt (.fork [iI 66 (.load 5 (.t 3))] (.run [iI 67 (.load 0 (.t 11)), iN (.store 5 (.t 6) (.t 66)), iI 7 (.mv (.t 67)), iI 8 (.mv (.c (.int .i64 0)))]) (.run [iN (.store 5 (.t 6) (.t 66)), iI 67 (.load 0 (.t 11)), iI 7 (.mv (.t 67)), iI 8 (.mv (.c (.int .i64 0)))]))) .ret
def c23_12 : C := .seq (.seq (.reg [iI 42 (.load 0 (.t 11)), iI 43 (.len 0 (.t 42)), iI 44 (.bin .gtr (.t 43) (.c (.int .i64 0))), iI 45 (.mv (.t 44)), iG (some 46) 45 true (.faddr 2 (.t 3)), iG (some 47) 45 true (.load 0 (.t 46)), iG (some 48) 45 true (.bin .neq (.t 47) (.c (.int .i64 0))), iI 49 (.pick (.t 45) (.t 48) (.c (.bool false)))]) c23_10) c23_11
def c23_13 : C := .seq (.seq (.reg [iI 31 (.mv (.t 2)), iI 32 (.len 0 (.t 31)), iI 33 (.mv (.c (.int .i64 0)))]) c23_8) c23_12
def c23_14 : C := .seq (.reg [iI 11 (.alloc [(1, (.sl 7 true []))])]) c23_13
def c23_15 : C := .seq (.reg [iI 27 (.faddr 4 (.t 3)), iI 28 (.load 0 (.t 27)), iI 29 (.call (.c (.fn 43 [])) [(.t 28)]), iI 30 (.faddr 4 (.t 3)), iN (.store 0 (.t 30) (.t 29))]) c23_14
def c23_16 : C := .seq (.seq (.reg [iI 21 (.mv (.t 2)), iI 22 (.call (.c (.fn 42 [])) [(.t 21)]), iI 10 (.mv (.t 22))]) c23_3) c23_15
def c23_17 : C := .seq (.seq (.reg [iI 14 (.load 5 (.t 3)), iI 15 (.mv (.t 1)), iI 16 (.call (.c (.fn 41 [])) [(.t 14), (.t 15)]), iI 9 (.mv (.t 16))]) c23_1) c23_16
def ir23 : C := .seq (.reg [iI 3 (.box (.t 0)), iI 6 (.alloc [(1, (.int .u64 0)), (1, (.int .i64 0)), (1, (.int .i64 0)), (1, (.int .i64 0)), (1, (.sl 5 true []))]), iI 7 (.mv (.c (.sl 7 true []))), iI 8 (.mv (.c (.int .i64 0)))]) c23_17
theorem fd23 : fd? Try.prog 23 = some (68, [.cell 6 5, .slot 7, .slot 8], ir23) := by kernel_rfl
noncomputable def f23 (s_923 : NetworkSender) (t_924 : Int) (frames_925 : (List ApiFrame)) : Option (NetworkSender × (List NetworkPacket) × Int) :=
  (f41 s_923 t_924).bind fun r_982 => (if (decide (r_982 ≠ 0)) = true then (some ((NetworkSender.mk 0 0 0 0 ([])), [], r_982)) else (f42 frames_925).bind fun r_996 => (if (decide (r_996 ≠ 0)) = true then (some ((NetworkSender.mk 0 0 0 0 ([])), [], r_996)) else (f43 s_923.fStreams).bind fun r_1000 => (Lp.run (f23_L1 frames_925 s_923 t_924) (0, r_1000, [])).bind fun (s_1532, out_1533) => (if (decide (0 < ((out_1533.length : Nat) : Int))) = true then (if (decide (s_923.fSync ≠ 0)) = true then (app? 64 out_1533 ([(NetworkPacket.mk s_923.fSource 0 s_923.fPriority s_923.fPulse s_923.fSync false ([]))])).bind fun out_1538 => (f46 s_923.fPulse).bind fun r_1539 => ((f23_J2 s_923 s_1532).run (r_1539, out_1538)) else ((f23_J2 s_923 s_1532).run (s_923.fPulse, out_1533))) else ((f23_J2 s_923 s_1532).run (s_923.fPulse, out_1533)))))
end Go.Proofs.Ytlidbikdeboihaa
