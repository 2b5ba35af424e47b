import Derived.Test.YtlidbikdeboihaaX2
import Derived.Test.YtlidbikdeboihaaProg
import Derived.KernelRfl
namespace Go.Proofs.Ytlidbikdeboihaa
open Go Go.Ab

set_option maxHeartbeats 1000000
set_option linter.unusedSimpArgs false
set_option linter.unusedVariables false
structure RecordEntry where
  fKind : Int
  fData : (List UInt8)
def eRecordEntry (x : RecordEntry) : AV := .agg [.int .i64 x.fKind, .str x.fData]
instance : IsFlat eRecordEntry := ⟨fun _ => rfl⟩
instance : IsEnc 2 eRecordEntry := ⟨fun _ => rfl, fun _ => rfl, fun _ => rfl⟩
structure Ref56Packet where
  fSource : Int
  fUniverse : Int
  fPriority : Int
  fSeq : Int
  fSync : Int
  fEnd : Bool
  fSlots : (List UInt8)
def eRef56Packet (x : Ref56Packet) : AV := .agg [.int .u64 x.fSource, .int .i64 x.fUniverse, .int .i64 x.fPriority, .int .i64 x.fSeq, .int .i64 x.fSync, .bool x.fEnd, .str x.fSlots]
instance : IsFlat eRef56Packet := ⟨fun _ => rfl⟩
instance : IsEnc 7 eRef56Packet := ⟨fun _ => rfl, fun _ => rfl, fun _ => rfl⟩
structure Ref08Entry where
  fKind : Int
  fData : (List UInt8)
def eRef08Entry (x : Ref08Entry) : AV := .agg [.int .i64 x.fKind, .str x.fData]
instance : IsFlat eRef08Entry := ⟨fun _ => rfl⟩
instance : IsEnc 2 eRef08Entry := ⟨fun _ => rfl, fun _ => rfl, fun _ => rfl⟩
def c28_0 : C := .cond (.t 29) (.seq (.reg [iI 2 (.mv (.c (.int .i64 3)))]) .ret) (.skip)
def c28_1 : C := .cond (.t 24) (.seq (.reg [iI 2 (.mv (.c (.int .i64 13)))]) .ret) (.seq (.reg [iI 30 (.faddr 1 (.t 1)), iI 31 (.load 0 (.t 30)), iI 32 (.bin .eql (.t 31) (.c (.int .i64 0))), iI 33 (.mv (.t 32)), iG (some 34) 33 true (.faddr 4 (.t 1)), iG (some 35) 33 true (.load 0 (.t 34)), iG (some 36) 33 true (.bin .eql (.t 35) (.c (.int .i64 0))), iG (some 37) 33 true (.mv (.t 36)), iG (some 38) 37 false (.faddr 5 (.t 1)), iG (some 39) 37 false (.load 0 (.t 38)), iG (some 40) 33 true (.pick (.t 37) (.c (.bool true)) (.t 39)), iG (some 41) 33 true (.mv (.t 40)), iG (some 42) 41 false (.faddr 6 (.t 1)), iG (some 43) 41 false (.load 0 (.t 42)), iG (some 44) 41 false (.bin .neq (.t 43) (.c (.str []))), iG (some 45) 33 true (.pick (.t 41) (.c (.bool true)) (.t 44)), iI 46 (.pick (.t 33) (.t 45) (.c (.bool false))), iI 29 (.mv (.t 46))]) c28_0)
def c28_2 : C := .cond (.t 3) (.seq (.reg [iI 2 (.mv (.c (.int .i64 2)))]) .ret) (.seq (.reg [iI 25 (.faddr 6 (.t 1)), iI 26 (.load 0 (.t 25)), iI 27 (.len 1 (.t 26)), iI 28 (.bin .gtr (.t 27) (.c (.int .i64 512))), iI 24 (.mv (.t 28))]) c28_1)
def c28_3 : C := .seq (.reg [iI 2 (.mv (.c (.int .i64 0)))]) .ret
def c28_4 : C := .seq (.block 0 (.seq (.reg [iI 4 (.faddr 0 (.t 1)), iI 5 (.load 0 (.t 4)), iI 6 (.faddr 2 (.t 1)), iI 7 (.load 0 (.t 6)), iI 8 (.faddr 4 (.t 1)), iI 9 (.load 0 (.t 8)), iI 10 (.call (.c (.fn 38 [])) [(.t 5), (.t 7), (.t 9)]), iI 11 (.un .not (.t 10)), iI 12 (.mv (.t 11)), iG (some 13) 12 false (.faddr 1 (.t 1)), iG (some 14) 12 false (.load 0 (.t 13)), iG (some 15) 12 false (.call (.c (.fn 40 [])) [(.t 14), (.c (.int .i64 0)), (.c (.int .i64 8))]), iG (some 16) 12 false (.un .not (.t 15)), iI 17 (.pick (.t 12) (.c (.bool true)) (.t 16)), iI 18 (.mv (.t 17)), iG (some 19) 18 false (.faddr 3 (.t 1)), iG (some 20) 18 false (.load 0 (.t 19)), iG (some 21) 18 false (.call (.c (.fn 36 [])) [(.t 20)]), iG (some 22) 18 false (.un .not (.t 21)), iI 23 (.pick (.t 18) (.c (.bool true)) (.t 22)), iI 3 (.mv (.t 23))]) c28_2)) c28_3
def ir28 : C := .seq (.reg [iI 1 (.box (.t 0)), iI 2 (.mv (.c (.int .i64 0)))]) c28_4
theorem fd28 : fd? Try.prog 28 = some (47, [.slot 2], ir28) := by kernel_rfl
noncomputable def f28 (p_1741 : NetworkPacket) : Option (Int) :=
  (f38 p_1741.fSource p_1741.fPriority p_1741.fSync).bind fun r_1742 => (if (!r_1742) = true then (some 2) else (f40 p_1741.fUniverse 0 8).bind fun r_1743 => (if (!r_1743) = true then (some 2) else (f36 p_1741.fSeq).bind fun r_1744 => (if (!r_1744) = true then (some 2) else (if (decide (512 < ((p_1741.fSlots.length : Nat) : Int))) = true then (some 13) else (if (decide (p_1741.fUniverse = 0)) = true then (if (decide (p_1741.fSync = 0)) = true then (some 3) else (if p_1741.fEnd = true then (some 3) else (if (!(p_1741.fSlots == ([]))) = true then (some 3) else (some 0)))) else (some 0))))))
theorem f28_ok {p_1741 : NetworkPacket} {r_ : Int} (H : f28 p_1741 = some r_) : Pure Try.prog 28 [.agg [.int .u64 p_1741.fSource, .int .i64 p_1741.fUniverse, .int .i64 p_1741.fPriority, .int .i64 p_1741.fSeq, .int .i64 p_1741.fSync, .bool p_1741.fEnd, .str p_1741.fSlots]] (· = .int .i64 r_) := by
  refine Pure.walk2 fd28 none (Nat.le_of_ble_eq_true rfl) (by rfl) fun Q hQ => ?_
  simp only [f28] at H
  refine AW.rseq ?_
  try simp only [↓wk, ↓wl, nc, evV, wrapBits_eq, ↓reduceIte, Nat.reduceEqDiff, Nat.reduceAdd, Nat.reduceSub, Nat.reduceLeDiff, Nat.reduceLT, Nat.reduceBEq, reduceCtorEq, Int.reduceEq]
  refine AW.bseq ?_
  refine AW.rseq ?_
  try simp only [↓wk, ↓wl, nc, evV, wrapBits_eq, ↓reduceIte, Nat.reduceEqDiff, Nat.reduceAdd, Nat.reduceSub, Nat.reduceLeDiff, Nat.reduceLT, Nat.reduceBEq, reduceCtorEq, Int.reduceEq]
  refine evTs_pure hFn H (fun _ h => f38_ok h) (by rfl) (by rfl) (by rfl) (by rfl) (fun _ => rfl) ?_ <;> clear H <;> intro r_1742 H
  try simp only [eL, ↓wk, ↓wl, nc, evV, wrapBits_eq, ↓reduceIte, Nat.reduceEqDiff, Nat.reduceAdd, Nat.reduceSub, Nat.reduceLeDiff, Nat.reduceLT, Nat.reduceBEq, reduceCtorEq, Int.reduceEq]
  refine evTs_ifg H (by rfl) ?_ ?_ <;> clear H <;> intro H
  · try simp only [↓wk, ↓wl, nc, evV, wrapBits_eq, ↓reduceIte, Nat.reduceEqDiff, Nat.reduceAdd, Nat.reduceSub, Nat.reduceLeDiff, Nat.reduceLT, Nat.reduceBEq, reduceCtorEq, Int.reduceEq]
    refine AW.ift (by rfl) ?_
    refine AW.rseq ?_
    try simp only [↓wk, ↓wl, nc, evV, wrapBits_eq, ↓reduceIte, Nat.reduceEqDiff, Nat.reduceAdd, Nat.reduceSub, Nat.reduceLeDiff, Nat.reduceLT, Nat.reduceBEq, reduceCtorEq, Int.reduceEq]
    refine AW.ret ?_
    refine blkQ.ret ?_
    cases H
    exact hQ _ _ _ _ (.inr rfl) (by simp only [resVs, omap, resV, ↓wk, ↓wl, nc, evV, wrapBits_eq, ↓reduceIte, Nat.reduceEqDiff, Nat.reduceAdd, Nat.reduceSub, Nat.reduceLeDiff, Nat.reduceLT, Nat.reduceBEq, reduceCtorEq, Int.reduceEq]; rfl) (hand_plain (by rfl)) (by rfl)
  · try simp only [↓wk, ↓wl, nc, evV, wrapBits_eq, ↓reduceIte, Nat.reduceEqDiff, Nat.reduceAdd, Nat.reduceSub, Nat.reduceLeDiff, Nat.reduceLT, Nat.reduceBEq, reduceCtorEq, Int.reduceEq]
    refine evTs_pure hFn H (fun _ h => f40_ok h) (by rfl) (by rfl) (by rfl) (by rfl) (fun _ => rfl) ?_ <;> clear H <;> intro r_1743 H
    try simp only [eL, ↓wk, ↓wl, nc, evV, wrapBits_eq, ↓reduceIte, Nat.reduceEqDiff, Nat.reduceAdd, Nat.reduceSub, Nat.reduceLeDiff, Nat.reduceLT, Nat.reduceBEq, reduceCtorEq, Int.reduceEq]
    refine evTs_ifg H (by rfl) ?_ ?_ <;> clear H <;> intro H
    · try simp only [↓wk, ↓wl, nc, evV, wrapBits_eq, ↓reduceIte, Nat.reduceEqDiff, Nat.reduceAdd, Nat.reduceSub, Nat.reduceLeDiff, Nat.reduceLT, Nat.reduceBEq, reduceCtorEq, Int.reduceEq]
      refine AW.ift (by rfl) ?_
      refine AW.rseq ?_
      try simp only [↓wk, ↓wl, nc, evV, wrapBits_eq, ↓reduceIte, Nat.reduceEqDiff, Nat.reduceAdd, Nat.reduceSub, Nat.reduceLeDiff, Nat.reduceLT, Nat.reduceBEq, reduceCtorEq, Int.reduceEq]
      refine AW.ret ?_
      refine blkQ.ret ?_
      cases H
      exact hQ _ _ _ _ (.inr rfl) (by simp only [resVs, omap, resV, ↓wk, ↓wl, nc, evV, wrapBits_eq, ↓reduceIte, Nat.reduceEqDiff, Nat.reduceAdd, Nat.reduceSub, Nat.reduceLeDiff, Nat.reduceLT, Nat.reduceBEq, reduceCtorEq, Int.reduceEq]; rfl) (hand_plain (by rfl)) (by rfl)
    · try simp only [↓wk, ↓wl, nc, evV, wrapBits_eq, ↓reduceIte, Nat.reduceEqDiff, Nat.reduceAdd, Nat.reduceSub, Nat.reduceLeDiff, Nat.reduceLT, Nat.reduceBEq, reduceCtorEq, Int.reduceEq]
      refine evTs_pure hFn H (fun _ h => f36_ok h) (by rfl) (by rfl) (by rfl) (by rfl) (fun _ => rfl) ?_ <;> clear H <;> intro r_1744 H
      try simp only [eL, ↓wk, ↓wl, nc, evV, wrapBits_eq, ↓reduceIte, Nat.reduceEqDiff, Nat.reduceAdd, Nat.reduceSub, Nat.reduceLeDiff, Nat.reduceLT, Nat.reduceBEq, reduceCtorEq, Int.reduceEq]
      refine AW.ifc H (by rfl) ?_ ?_ <;> clear H <;> intro H
      · refine AW.rseq ?_
        try simp only [↓wk, ↓wl, nc, evV, wrapBits_eq, ↓reduceIte, Nat.reduceEqDiff, Nat.reduceAdd, Nat.reduceSub, Nat.reduceLeDiff, Nat.reduceLT, Nat.reduceBEq, reduceCtorEq, Int.reduceEq]
        refine AW.ret ?_
        refine blkQ.ret ?_
        cases H
        exact hQ _ _ _ _ (.inr rfl) (by simp only [resVs, omap, resV, ↓wk, ↓wl, nc, evV, wrapBits_eq, ↓reduceIte, Nat.reduceEqDiff, Nat.reduceAdd, Nat.reduceSub, Nat.reduceLeDiff, Nat.reduceLT, Nat.reduceBEq, reduceCtorEq, Int.reduceEq]; rfl) (hand_plain (by rfl)) (by rfl)
      · refine AW.rseq ?_
        try simp only [↓wk, ↓wl, nc, evV, wrapBits_eq, ↓reduceIte, Nat.reduceEqDiff, Nat.reduceAdd, Nat.reduceSub, Nat.reduceLeDiff, Nat.reduceLT, Nat.reduceBEq, reduceCtorEq, Int.reduceEq]
        refine AW.ifc H (by rfl) ?_ ?_ <;> clear H <;> intro H
        · refine AW.rseq ?_
          try simp only [↓wk, ↓wl, nc, evV, wrapBits_eq, ↓reduceIte, Nat.reduceEqDiff, Nat.reduceAdd, Nat.reduceSub, Nat.reduceLeDiff, Nat.reduceLT, Nat.reduceBEq, reduceCtorEq, Int.reduceEq]
          refine AW.ret ?_
          refine blkQ.ret ?_
          cases H
          exact hQ _ _ _ _ (.inr rfl) (by simp only [resVs, omap, resV, ↓wk, ↓wl, nc, evV, wrapBits_eq, ↓reduceIte, Nat.reduceEqDiff, Nat.reduceAdd, Nat.reduceSub, Nat.reduceLeDiff, Nat.reduceLT, Nat.reduceBEq, reduceCtorEq, Int.reduceEq]; rfl) (hand_plain (by rfl)) (by rfl)
        · refine AW.rseq ?_
          try simp only [↓wk, ↓wl, nc, evV, wrapBits_eq, ↓reduceIte, Nat.reduceEqDiff, Nat.reduceAdd, Nat.reduceSub, Nat.reduceLeDiff, Nat.reduceLT, Nat.reduceBEq, reduceCtorEq, Int.reduceEq]
          refine evTs_ifg H (by rfl) ?_ ?_ <;> clear H <;> intro H
          · try simp only [↓wk, ↓wl, nc, evV, wrapBits_eq, ↓reduceIte, Nat.reduceEqDiff, Nat.reduceAdd, Nat.reduceSub, Nat.reduceLeDiff, Nat.reduceLT, Nat.reduceBEq, reduceCtorEq, Int.reduceEq]
            refine evTs_ifg H (by rfl) ?_ ?_ <;> clear H <;> intro H
            · try simp only [↓wk, ↓wl, nc, evV, wrapBits_eq, ↓reduceIte, Nat.reduceEqDiff, Nat.reduceAdd, Nat.reduceSub, Nat.reduceLeDiff, Nat.reduceLT, Nat.reduceBEq, reduceCtorEq, Int.reduceEq]
              refine AW.ift (by rfl) ?_
              refine AW.rseq ?_
              try simp only [↓wk, ↓wl, nc, evV, wrapBits_eq, ↓reduceIte, Nat.reduceEqDiff, Nat.reduceAdd, Nat.reduceSub, Nat.reduceLeDiff, Nat.reduceLT, Nat.reduceBEq, reduceCtorEq, Int.reduceEq]
              refine AW.ret ?_
              refine blkQ.ret ?_
              cases H
              exact hQ _ _ _ _ (.inr rfl) (by simp only [resVs, omap, resV, ↓wk, ↓wl, nc, evV, wrapBits_eq, ↓reduceIte, Nat.reduceEqDiff, Nat.reduceAdd, Nat.reduceSub, Nat.reduceLeDiff, Nat.reduceLT, Nat.reduceBEq, reduceCtorEq, Int.reduceEq]; rfl) (hand_plain (by rfl)) (by rfl)
            · try simp only [↓wk, ↓wl, nc, evV, wrapBits_eq, ↓reduceIte, Nat.reduceEqDiff, Nat.reduceAdd, Nat.reduceSub, Nat.reduceLeDiff, Nat.reduceLT, Nat.reduceBEq, reduceCtorEq, Int.reduceEq]
              refine evTs_ifg H (by rfl) ?_ ?_ <;> clear H <;> intro H
              · try simp only [↓wk, ↓wl, nc, evV, wrapBits_eq, ↓reduceIte, Nat.reduceEqDiff, Nat.reduceAdd, Nat.reduceSub, Nat.reduceLeDiff, Nat.reduceLT, Nat.reduceBEq, reduceCtorEq, Int.reduceEq]
                refine AW.ift (by rfl) ?_
                refine AW.rseq ?_
                try simp only [↓wk, ↓wl, nc, evV, wrapBits_eq, ↓reduceIte, Nat.reduceEqDiff, Nat.reduceAdd, Nat.reduceSub, Nat.reduceLeDiff, Nat.reduceLT, Nat.reduceBEq, reduceCtorEq, Int.reduceEq]
                refine AW.ret ?_
                refine blkQ.ret ?_
                cases H
                exact hQ _ _ _ _ (.inr rfl) (by simp only [resVs, omap, resV, ↓wk, ↓wl, nc, evV, wrapBits_eq, ↓reduceIte, Nat.reduceEqDiff, Nat.reduceAdd, Nat.reduceSub, Nat.reduceLeDiff, Nat.reduceLT, Nat.reduceBEq, reduceCtorEq, Int.reduceEq]; rfl) (hand_plain (by rfl)) (by rfl)
              · try simp only [↓wk, ↓wl, nc, evV, wrapBits_eq, ↓reduceIte, Nat.reduceEqDiff, Nat.reduceAdd, Nat.reduceSub, Nat.reduceLeDiff, Nat.reduceLT, Nat.reduceBEq, reduceCtorEq, Int.reduceEq]
                refine AW.ifc H (by rfl) ?_ ?_ <;> clear H <;> intro H
                · refine AW.rseq ?_
                  try simp only [↓wk, ↓wl, nc, evV, wrapBits_eq, ↓reduceIte, Nat.reduceEqDiff, Nat.reduceAdd, Nat.reduceSub, Nat.reduceLeDiff, Nat.reduceLT, Nat.reduceBEq, reduceCtorEq, Int.reduceEq]
                  refine AW.ret ?_
                  refine blkQ.ret ?_
                  cases H
                  exact hQ _ _ _ _ (.inr rfl) (by simp only [resVs, omap, resV, ↓wk, ↓wl, nc, evV, wrapBits_eq, ↓reduceIte, Nat.reduceEqDiff, Nat.reduceAdd, Nat.reduceSub, Nat.reduceLeDiff, Nat.reduceLT, Nat.reduceBEq, reduceCtorEq, Int.reduceEq]; rfl) (hand_plain (by rfl)) (by rfl)
                · refine AW.skip ?_
                  refine blkQ.norm ?_
                  refine AW.rseq ?_
                  try simp only [↓wk, ↓wl, nc, evV, wrapBits_eq, ↓reduceIte, Nat.reduceEqDiff, Nat.reduceAdd, Nat.reduceSub, Nat.reduceLeDiff, Nat.reduceLT, Nat.reduceBEq, reduceCtorEq, Int.reduceEq]
                  refine AW.ret ?_
                  cases H
                  exact hQ _ _ _ _ (.inr rfl) (by simp only [resVs, omap, resV, ↓wk, ↓wl, nc, evV, wrapBits_eq, ↓reduceIte, Nat.reduceEqDiff, Nat.reduceAdd, Nat.reduceSub, Nat.reduceLeDiff, Nat.reduceLT, Nat.reduceBEq, reduceCtorEq, Int.reduceEq]; rfl) (hand_plain (by rfl)) (by rfl)
          · try simp only [↓wk, ↓wl, nc, evV, wrapBits_eq, ↓reduceIte, Nat.reduceEqDiff, Nat.reduceAdd, Nat.reduceSub, Nat.reduceLeDiff, Nat.reduceLT, Nat.reduceBEq, reduceCtorEq, Int.reduceEq]
            refine AW.iff (by rfl) ?_
            refine AW.skip ?_
            refine blkQ.norm ?_
            refine AW.rseq ?_
            try simp only [↓wk, ↓wl, nc, evV, wrapBits_eq, ↓reduceIte, Nat.reduceEqDiff, Nat.reduceAdd, Nat.reduceSub, Nat.reduceLeDiff, Nat.reduceLT, Nat.reduceBEq, reduceCtorEq, Int.reduceEq]
            refine AW.ret ?_
            cases H
            exact hQ _ _ _ _ (.inr rfl) (by simp only [resVs, omap, resV, ↓wk, ↓wl, nc, evV, wrapBits_eq, ↓reduceIte, Nat.reduceEqDiff, Nat.reduceAdd, Nat.reduceSub, Nat.reduceLeDiff, Nat.reduceLT, Nat.reduceBEq, reduceCtorEq, Int.reduceEq]; rfl) (hand_plain (by rfl)) (by rfl)
noncomputable def f53_L1 : Lp (Int × (List Int)) (Int × (List Int)) where
  body := fun (z_1754, out_1755) => (if (decide (128 ≤ z_1754)) = true then (app? 1 out_1755 ([(IntKind.u8.wrap ((BitVec.ofInt (IntKind.bits .u8) (IntKind.u8.wrap z_1754) ||| BitVec.ofInt (IntKind.bits .u8) 128).toNat : Int))])).bind fun out_1760 => (some (.next ((Int.fdiv z_1754 (2 ^ (min (Int.toNat 7) (IntKind.bits .u64)))), out_1760))) else (some (.brk (z_1754, out_1755))))
  cst := fun (z_1754, out_1755) => ⟨put (put (fun _ => .junk) 4 (.row 0 0 0 out_1755.length)) 3 (.int .u64 z_1754), [.els 0 (out_1755.map (AV.int .u8))]⟩
def c53_0 : C := .cond (.t 13) (.skip) (.exit 0)
def c53_1 : C := .reg [iI 14 (.mv (.t 3)), iI 15 (.bin .shr (.t 14) (.c (.int .u64 7))), iI 3 (.mv (.t 15))]
def c53_2 : C := .seq (.block 1 (.reg [iI 16 (.mv (.t 4)), iI 17 (.mv (.t 3)), iI 18 (.cint .u8 (.t 17)), iI 19 (.bin .or (.t 18) (.c (.int .u8 128))), iI 20 (.mkslp 0 1 (.int .u8 0) [(0, (.t 19))]), iI 21 (.append 0 1 (.t 16) (.t 20)), iI 4 (.mv (.t 21))])) c53_1
def c53_3 : C := .seq (.reg [iI 22 (.mv (.t 4)), iI 23 (.mv (.t 3)), iI 24 (.cint .u8 (.t 23)), iI 25 (.mkslp 0 1 (.int .u8 0) [(0, (.t 24))]), iI 26 (.append 0 1 (.t 22) (.t 25)), iI 27 (.cstr (.t 26)), iI 2 (.mv (.t 27))]) .ret
def c53_4 : C := .seq (.block 0 (.loop (.seq (.seq (.reg [iI 12 (.mv (.t 3)), iI 13 (.bin .geq (.t 12) (.c (.int .u64 128)))]) c53_0) c53_2))) c53_3
def c53_5 : C := .seq (.reg [iI 4 (.mv (.c (.sl 0 true [])))]) c53_4
def c53_6 : C := .seq (.reg [iI 5 (.mv (.t 0)), iI 6 (.cint .u64 (.t 5)), iI 7 (.bin .shl (.t 6) (.c (.int .u64 1))), iI 8 (.mv (.t 0)), iI 9 (.bin .shr (.t 8) (.c (.int .u64 63))), iI 10 (.cint .u64 (.t 9)), iI 11 (.bin .xor (.t 7) (.t 10)), iI 3 (.mv (.t 11))]) c53_5
def ir53 : C := .seq (.reg [iI 2 (.mv (.c (.str [])))]) c53_6
theorem fd53 : fd? Try.prog 53 = some (28, [.slot 2], ir53) := by kernel_rfl
noncomputable def f53 (n_1748 : Int) : Option ((List UInt8)) :=
  (Lp.run (f53_L1) ((IntKind.u64.wrap ((BitVec.ofInt (IntKind.bits .u64) (IntKind.u64.wrap ((IntKind.u64.wrap n_1748) * 2 ^ (min (Int.toNat 1) (IntKind.bits .u64)))) ^^^ BitVec.ofInt (IntKind.bits .u64) (IntKind.u64.wrap (Int.fdiv n_1748 (2 ^ (min (Int.toNat 63) (IntKind.bits .i64)))))).toNat : Int)), [])).bind fun (z_1757, out_1758) => (app? 1 out_1758 ([(IntKind.u8.wrap z_1757)])).bind fun out_1759 => (some (out_1759.map b8))
theorem f53_ok {n_1748 : Int} {r_ : (List UInt8)} (H : f53 n_1748 = some r_) : Pure Try.prog 53 [.int .i64 n_1748] (· = .str r_) := by
  refine Pure.walk2 fd53 none (Nat.le_of_ble_eq_true rfl) (by rfl) fun Q hQ => ?_
  simp only [f53] at H
  refine AW.rseq ?_
  try simp only [↓wk, ↓wl, nc, evV, wrapBits_eq, ↓reduceIte, Nat.reduceEqDiff, Nat.reduceAdd, Nat.reduceSub, Nat.reduceLeDiff, Nat.reduceLT, Nat.reduceBEq, reduceCtorEq, Int.reduceEq]
  refine AW.rseq ?_
  try simp only [↓wk, ↓wl, nc, evV, wrapBits_eq, ↓reduceIte, Nat.reduceEqDiff, Nat.reduceAdd, Nat.reduceSub, Nat.reduceLeDiff, Nat.reduceLT, Nat.reduceBEq, reduceCtorEq, Int.reduceEq]
  refine rest_shl (by decide) ?_
  try simp only [↓wk, ↓wl, nc, evV, wrapBits_eq, ↓reduceIte, Nat.reduceEqDiff, Nat.reduceAdd, Nat.reduceSub, Nat.reduceLeDiff, Nat.reduceLT, Nat.reduceBEq, reduceCtorEq, Int.reduceEq]
  refine rest_shr (by decide) ?_
  try simp only [↓wk, ↓wl, nc, evV, wrapBits_eq, ↓reduceIte, Nat.reduceEqDiff, Nat.reduceAdd, Nat.reduceSub, Nat.reduceLeDiff, Nat.reduceLT, Nat.reduceBEq, reduceCtorEq, Int.reduceEq]
  refine rest_xor ?_
  try simp only [↓wk, ↓wl, nc, evV, wrapBits_eq, ↓reduceIte, Nat.reduceEqDiff, Nat.reduceAdd, Nat.reduceSub, Nat.reduceLeDiff, Nat.reduceLT, Nat.reduceBEq, reduceCtorEq, Int.reduceEq]
  refine AW.rseq ?_
  try simp only [↓wk, ↓wl, nc, evV, wrapBits_eq, ↓reduceIte, Nat.reduceEqDiff, Nat.reduceAdd, Nat.reduceSub, Nat.reduceLeDiff, Nat.reduceLT, Nat.reduceBEq, reduceCtorEq, Int.reduceEq]
  refine AW.bseq ?_
  refine AW.iter H ((Le.trans (Le.nilRow (i := 4) (e := 0) (by simp only [↓wk, ↓wl, nc, evV, wrapBits_eq, ↓reduceIte, Nat.reduceEqDiff, Nat.reduceAdd, Nat.reduceSub, Nat.reduceLeDiff, Nat.reduceLT, Nat.reduceBEq, reduceCtorEq, Int.reduceEq])) (Le.none [0] [3, 4] (by decide) (by simp only [f53_L1, List.length_set, Option.map_some, restrict_eq, renS_nil, renS_cons, renB_els, renB_cel, renB_dead, deep_eq, map_ren_enc, ren_agg', ren_tup', ren_fn', ren_int', ren_bool', ren_str', ren_sl', ren_pro', ren_nilp', ren_nilfn', ren_junk', ren_ptr', ren_row', ren_arow', ren_eptr', vm, List.idxOf?_cons, List.idxOf?_nil, beq_self_eq_true, Option.map_none, List.getD_cons_zero, List.getD_cons_succ, ↓wk, ↓wl, nc, evV, wrapBits_eq, ↓reduceIte, Nat.reduceEqDiff, Nat.reduceAdd, Nat.reduceSub, Nat.reduceLeDiff, Nat.reduceLT, Nat.reduceBEq, reduceCtorEq, Int.reduceEq])))) ?_ <;> clear H
  rintro ⟨z_1754, out_1755⟩ x_ st0_ H hst_
  simp only [f53_L1] at H hst_
  subst hst_
  refine AW.sseq ?_
  refine AW.rseq ?_
  try simp only [↓wk, ↓wl, nc, evV, wrapBits_eq, ↓reduceIte, Nat.reduceEqDiff, Nat.reduceAdd, Nat.reduceSub, Nat.reduceLeDiff, Nat.reduceLT, Nat.reduceBEq, reduceCtorEq, Int.reduceEq]
  refine AW.ifc H (by rfl) ?_ ?_ <;> clear H <;> intro H
  · refine AW.skip ?_
    refine seqQ.norm ?_
    refine AW.bseq ?_
    refine AW.rend ?_
    try simp only [↓wk, ↓wl, nc, evV, wrapBits_eq, ↓reduceIte, Nat.reduceEqDiff, Nat.reduceAdd, Nat.reduceSub, Nat.reduceLeDiff, Nat.reduceLT, Nat.reduceBEq, reduceCtorEq, Int.reduceEq]
    refine rest_or ?_
    try simp only [↓wk, ↓wl, nc, evV, wrapBits_eq, ↓reduceIte, Nat.reduceEqDiff, Nat.reduceAdd, Nat.reduceSub, Nat.reduceLeDiff, Nat.reduceLT, Nat.reduceBEq, reduceCtorEq, Int.reduceEq]
    refine evTs_app (enc := (AV.int .u8)) H (by rfl) (by first | rfl | simp only [List.length_set]) (by rfl) (by rfl) ?_ <;> clear H <;> intro out_1760 H
    try simp only [↓wk, ↓wl, nc, evV, wrapBits_eq, ↓reduceIte, Nat.reduceEqDiff, Nat.reduceAdd, Nat.reduceSub, Nat.reduceLeDiff, Nat.reduceLT, Nat.reduceBEq, reduceCtorEq, Int.reduceEq]
    refine blkQ.norm ?_
    refine AW.rend ?_
    try simp only [↓wk, ↓wl, nc, evV, wrapBits_eq, ↓reduceIte, Nat.reduceEqDiff, Nat.reduceAdd, Nat.reduceSub, Nat.reduceLeDiff, Nat.reduceLT, Nat.reduceBEq, reduceCtorEq, Int.reduceEq]
    refine rest_shr (by decide) ?_
    try simp only [↓wk, ↓wl, nc, evV, wrapBits_eq, ↓reduceIte, Nat.reduceEqDiff, Nat.reduceAdd, Nat.reduceSub, Nat.reduceLeDiff, Nat.reduceLT, Nat.reduceBEq, reduceCtorEq, Int.reduceEq]
    exact loopQ.next H ((Le.none [1] [3, 4] (by decide) (by simp only [f53_L1, List.length_set, Option.map_some, restrict_eq, renS_nil, renS_cons, renB_els, renB_cel, renB_dead, deep_eq, map_ren_enc, ren_agg', ren_tup', ren_fn', ren_int', ren_bool', ren_str', ren_sl', ren_pro', ren_nilp', ren_nilfn', ren_junk', ren_ptr', ren_row', ren_arow', ren_eptr', vm, List.idxOf?_cons, List.idxOf?_nil, beq_self_eq_true, Option.map_none, List.getD_cons_zero, List.getD_cons_succ, ↓wk, ↓wl, nc, evV, wrapBits_eq, ↓reduceIte, Nat.reduceEqDiff, Nat.reduceAdd, Nat.reduceSub, Nat.reduceLeDiff, Nat.reduceLT, Nat.reduceBEq, reduceCtorEq, Int.reduceEq])))
  · refine AW.exit ?_
    refine seqQ.exit ?_
    refine loopQ.exit H ?_ <;> clear H <;> intro H
    try dsimp only at H
    refine blkQ.here ?_
    refine AW.rseq ?_
    try simp only [↓wk, ↓wl, nc, evV, wrapBits_eq, ↓reduceIte, Nat.reduceEqDiff, Nat.reduceAdd, Nat.reduceSub, Nat.reduceLeDiff, Nat.reduceLT, Nat.reduceBEq, reduceCtorEq, Int.reduceEq]
    refine evTs_app (enc := (AV.int .u8)) H (by rfl) (by first | rfl | simp only [List.length_set]) (by rfl) (by rfl) ?_ <;> clear H <;> intro out_1761 H
    try simp only [↓wk, ↓wl, nc, evV, wrapBits_eq, ↓reduceIte, Nat.reduceEqDiff, Nat.reduceAdd, Nat.reduceSub, Nat.reduceLeDiff, Nat.reduceLT, Nat.reduceBEq, reduceCtorEq, Int.reduceEq]
    refine evTs_cstrr (xs := out_1761) (by rfl) (by rfl) (by rfl) ?_
    try simp only [↓wk, ↓wl, nc, evV, wrapBits_eq, ↓reduceIte, Nat.reduceEqDiff, Nat.reduceAdd, Nat.reduceSub, Nat.reduceLeDiff, Nat.reduceLT, Nat.reduceBEq, reduceCtorEq, Int.reduceEq]
    refine AW.ret ?_
    cases H
    exact hQ _ _ _ _ (.inr rfl) (by simp only [resVs, omap, resV, ↓wk, ↓wl, nc, evV, wrapBits_eq, ↓reduceIte, Nat.reduceEqDiff, Nat.reduceAdd, Nat.reduceSub, Nat.reduceLeDiff, Nat.reduceLT, Nat.reduceBEq, reduceCtorEq, Int.reduceEq]; rfl) (hand_plain (by rfl)) (by rfl)
def c54_0 : C := .cond (.t 6) (.seq (.reg [iI 2 (.mv (.c (.str []))), iI 3 (.mv (.c (.int .i64 13)))]) .ret) (.skip)
def c54_1 : C := .seq (.reg [iI 7 (.mv (.t 0)), iI 8 (.len 1 (.t 7)), iI 9 (.call (.c (.fn 53 [])) [(.t 8)]), iI 10 (.mv (.t 0)), iI 11 (.bin .add (.t 9) (.t 10)), iI 2 (.mv (.t 11)), iI 3 (.mv (.c (.int .i64 0)))]) .ret
def c54_2 : C := .seq (.seq (.reg [iI 4 (.mv (.t 0)), iI 5 (.len 1 (.t 4)), iI 6 (.bin .gtr (.t 5) (.c (.int .i64 65535)))]) c54_0) c54_1
def ir54 : C := .seq (.reg [iI 2 (.mv (.c (.str []))), iI 3 (.mv (.c (.int .i64 0)))]) c54_2
theorem fd54 : fd? Try.prog 54 = some (12, [.slot 2, .slot 3], ir54) := by kernel_rfl
noncomputable def f54 (t_1794 : (List UInt8)) : Option ((List UInt8) × Int) :=
  (if (decide (65535 < ((t_1794.length : Nat) : Int))) = true then (some ([], 13)) else (f53 ((t_1794.length : Nat) : Int)).bind fun r_1795 => (cat? r_1795 t_1794).bind fun v_1796 => (some (v_1796, 0)))
theorem f54_ok {t_1794 : (List UInt8)} {r_ : (List UInt8) × Int} (H : f54 t_1794 = some r_) : Pure Try.prog 54 [.str t_1794] (· = .tup [.str r_.1, .int .i64 r_.2]) := by
  refine Pure.walk2 fd54 none (Nat.le_of_ble_eq_true rfl) (by rfl) fun Q hQ => ?_
  simp only [f54] at H
  refine AW.rseq ?_
  try simp only [↓wk, ↓wl, nc, evV, wrapBits_eq, ↓reduceIte, Nat.reduceEqDiff, Nat.reduceAdd, Nat.reduceSub, Nat.reduceLeDiff, Nat.reduceLT, Nat.reduceBEq, reduceCtorEq, Int.reduceEq]
  refine AW.sseq ?_
  refine AW.rseq ?_
  try simp only [↓wk, ↓wl, nc, evV, wrapBits_eq, ↓reduceIte, Nat.reduceEqDiff, Nat.reduceAdd, Nat.reduceSub, Nat.reduceLeDiff, Nat.reduceLT, Nat.reduceBEq, reduceCtorEq, Int.reduceEq]
  refine AW.ifc H (by rfl) ?_ ?_ <;> clear H <;> intro H
  · refine AW.rseq ?_
    try simp only [↓wk, ↓wl, nc, evV, wrapBits_eq, ↓reduceIte, Nat.reduceEqDiff, Nat.reduceAdd, Nat.reduceSub, Nat.reduceLeDiff, Nat.reduceLT, Nat.reduceBEq, reduceCtorEq, Int.reduceEq]
    refine AW.ret ?_
    refine seqQ.ret ?_
    cases H
    exact hQ _ _ _ _ (.inr rfl) (by simp only [resVs, omap, resV, ↓wk, ↓wl, nc, evV, wrapBits_eq, ↓reduceIte, Nat.reduceEqDiff, Nat.reduceAdd, Nat.reduceSub, Nat.reduceLeDiff, Nat.reduceLT, Nat.reduceBEq, reduceCtorEq, Int.reduceEq]; rfl) (hand_plain (by rfl)) (by rfl)
  · refine AW.skip ?_
    refine seqQ.norm ?_
    refine AW.rseq ?_
    try simp only [↓wk, ↓wl, nc, evV, wrapBits_eq, ↓reduceIte, Nat.reduceEqDiff, Nat.reduceAdd, Nat.reduceSub, Nat.reduceLeDiff, Nat.reduceLT, Nat.reduceBEq, reduceCtorEq, Int.reduceEq]
    refine evTs_pure hFn H (fun _ h => f53_ok h) (by rfl) (by rfl) (by rfl) (by rfl) (fun _ => rfl) ?_ <;> clear H <;> intro r_1795 H
    try simp only [eL, ↓wk, ↓wl, nc, evV, wrapBits_eq, ↓reduceIte, Nat.reduceEqDiff, Nat.reduceAdd, Nat.reduceSub, Nat.reduceLeDiff, Nat.reduceLT, Nat.reduceBEq, reduceCtorEq, Int.reduceEq]
    refine rest_cat H ?_ <;> clear H <;> intro v_1796 H
    try simp only [↓wk, ↓wl, nc, evV, wrapBits_eq, ↓reduceIte, Nat.reduceEqDiff, Nat.reduceAdd, Nat.reduceSub, Nat.reduceLeDiff, Nat.reduceLT, Nat.reduceBEq, reduceCtorEq, Int.reduceEq]
    refine AW.ret ?_
    cases H
    exact hQ _ _ _ _ (.inr rfl) (by simp only [resVs, omap, resV, ↓wk, ↓wl, nc, evV, wrapBits_eq, ↓reduceIte, Nat.reduceEqDiff, Nat.reduceAdd, Nat.reduceSub, Nat.reduceLeDiff, Nat.reduceLT, Nat.reduceBEq, reduceCtorEq, Int.reduceEq]; rfl) (hand_plain (by rfl)) (by rfl)
def c76_0 : C := .seq (.reg [iI 3 (.mv (.t 0)), iI 4 (.bin .shr (.t 3) (.c (.int .u64 8))), iI 5 (.cint .u8 (.t 4)), iI 6 (.mv (.t 0)), iI 7 (.cint .u8 (.t 6)), iI 8 (.mkslp 0 2 (.int .u8 0) [(0, (.t 5)), (1, (.t 7))]), iI 9 (.cstr (.t 8)), iI 2 (.mv (.t 9))]) .ret
def ir76 : C := .seq (.reg [iI 2 (.mv (.c (.str [])))]) c76_0
theorem fd76 : fd? Try.prog 76 = some (10, [.slot 2], ir76) := by kernel_rfl
noncomputable def f76 (n_1800 : Int) : Option ((List UInt8)) :=
  (some (([(IntKind.u8.wrap (Int.fdiv n_1800 (2 ^ (min (Int.toNat 8) (IntKind.bits .i64))))), (IntKind.u8.wrap n_1800)]).map b8))
theorem f76_ok {n_1800 : Int} {r_ : (List UInt8)} (H : f76 n_1800 = some r_) : Pure Try.prog 76 [.int .i64 n_1800] (· = .str r_) := by
  refine Pure.walk2 fd76 none (Nat.le_of_ble_eq_true rfl) (by rfl) fun Q hQ => ?_
  simp only [f76] at H
  refine AW.rseq ?_
  try simp only [↓wk, ↓wl, nc, evV, wrapBits_eq, ↓reduceIte, Nat.reduceEqDiff, Nat.reduceAdd, Nat.reduceSub, Nat.reduceLeDiff, Nat.reduceLT, Nat.reduceBEq, reduceCtorEq, Int.reduceEq]
  refine AW.rseq ?_
  try simp only [↓wk, ↓wl, nc, evV, wrapBits_eq, ↓reduceIte, Nat.reduceEqDiff, Nat.reduceAdd, Nat.reduceSub, Nat.reduceLeDiff, Nat.reduceLT, Nat.reduceBEq, reduceCtorEq, Int.reduceEq]
  refine rest_shr (by decide) ?_
  try simp only [↓wk, ↓wl, nc, evV, wrapBits_eq, ↓reduceIte, Nat.reduceEqDiff, Nat.reduceAdd, Nat.reduceSub, Nat.reduceLeDiff, Nat.reduceLT, Nat.reduceBEq, reduceCtorEq, Int.reduceEq]
  refine evTs_cstr (xs := [(IntKind.u8.wrap (Int.fdiv n_1800 (2 ^ (min (Int.toNat 8) (IntKind.bits .i64))))), (IntKind.u8.wrap n_1800)]) (by rfl) ?_
  try simp only [↓wk, ↓wl, nc, evV, wrapBits_eq, ↓reduceIte, Nat.reduceEqDiff, Nat.reduceAdd, Nat.reduceSub, Nat.reduceLeDiff, Nat.reduceLT, Nat.reduceBEq, reduceCtorEq, Int.reduceEq]
  refine AW.ret ?_
  cases H
  exact hQ _ _ _ _ (.inr rfl) (by simp only [resVs, omap, resV, ↓wk, ↓wl, nc, evV, wrapBits_eq, ↓reduceIte, Nat.reduceEqDiff, Nat.reduceAdd, Nat.reduceSub, Nat.reduceLeDiff, Nat.reduceLT, Nat.reduceBEq, reduceCtorEq, Int.reduceEq]; rfl) (hand_plain (by rfl)) (by rfl)
noncomputable def f77_L1 (s_1804 : (List UInt8)) : Lp (Int × Int × Int) (Int × Int) where
  body := fun (a_1810, b_1811, v_1812) => (if (decide (v_1812 < ((s_1804.length : Nat) : Int))) = true then (at? s_1804 v_1812).bind fun b_1816 => (some (.next (((IntKind.u64.wrap (a_1810 + (IntKind.u64.wrap (b_1816.toNat : Int)))).tmod 255), ((IntKind.u64.wrap (b_1811 + ((IntKind.u64.wrap (a_1810 + (IntKind.u64.wrap (b_1816.toNat : Int)))).tmod 255))).tmod 255), (IntKind.i64.wrap (v_1812 + 1))))) else (some (.brk (a_1810, b_1811))))
  cst := fun (a_1810, b_1811, v_1812) => ⟨put (put (put (put (put (fun _ => .junk) 8 (.int .i64 v_1812)) 7 (.int .i64 ((s_1804.length : Nat) : Int))) 4 (.int .u64 b_1811)) 3 (.int .u64 a_1810)) 0 (.str s_1804), []⟩
def c77_0 : C := .reg [iI 18 (.mv (.t 4)), iI 19 (.mv (.t 3)), iI 20 (.bin .add (.t 18) (.t 19)), iI 21 (.bin .rem (.t 20) (.c (.int .u64 255))), iI 4 (.mv (.t 21))]
def c77_1 : C := .seq (.reg [iI 11 (.mv (.t 3)), iI 12 (.mv (.t 0)), iI 13 (.mv (.t 5)), iI 14 (.sidx (.t 12) (.t 13)), iI 15 (.cint .u64 (.t 14)), iI 16 (.bin .add (.t 11) (.t 15)), iI 17 (.bin .rem (.t 16) (.c (.int .u64 255))), iI 3 (.mv (.t 17))]) c77_0
def c77_2 : C := .reg [iI 22 (.bin .add (.t 8) (.c (.int .i64 1))), iI 8 (.mv (.t 22))]
def c77_3 : C := .seq (.block 1 (.seq (.reg [iI 10 (.mv (.t 8)), iI 5 (.mv (.t 10))]) c77_1)) c77_2
def c77_4 : C := .seq (.cond (.t 9) (.skip) (.exit 0)) c77_3
def c77_5 : C := .block 0 (.loop (.seq (.reg [iI 9 (.bin .lss (.t 8) (.t 7))]) c77_4))
def c77_6 : C := .seq (.reg [iI 23 (.mv (.t 4)), iI 24 (.bin .shl (.t 23) (.c (.int .u64 8))), iI 25 (.mv (.t 3)), iI 26 (.bin .or (.t 24) (.t 25)), iI 27 (.cint .i64 (.t 26)), iI 2 (.mv (.t 27))]) .ret
def c77_7 : C := .seq (.seq (.reg [iI 6 (.mv (.t 0)), iI 7 (.len 1 (.t 6)), iI 8 (.mv (.c (.int .i64 0)))]) c77_5) c77_6
def c77_8 : C := .seq (.reg [iI 3 (.mv (.c (.int .u64 0))), iI 4 (.mv (.c (.int .u64 0)))]) c77_7
def ir77 : C := .seq (.reg [iI 2 (.mv (.c (.int .i64 0)))]) c77_8
theorem fd77 : fd? Try.prog 77 = some (28, [.slot 2], ir77) := by kernel_rfl
noncomputable def f77 (s_1804 : (List UInt8)) : Option (Int) :=
  (Lp.run (f77_L1 s_1804) (0, 0, 0)).bind fun (a_1814, b_1815) => (some (IntKind.i64.wrap (IntKind.u64.wrap ((BitVec.ofInt (IntKind.bits .u64) (IntKind.u64.wrap (b_1815 * 2 ^ (min (Int.toNat 8) (IntKind.bits .u64)))) ||| BitVec.ofInt (IntKind.bits .u64) a_1814).toNat : Int))))
theorem f77_ok {s_1804 : (List UInt8)} {r_ : Int} (H : f77 s_1804 = some r_) : Pure Try.prog 77 [.str s_1804] (· = .int .i64 r_) := by
  refine Pure.walk2 fd77 none (Nat.le_of_ble_eq_true rfl) (by rfl) fun Q hQ => ?_
  simp only [f77] at H
  refine AW.rseq ?_
  try simp only [↓wk, ↓wl, nc, evV, wrapBits_eq, ↓reduceIte, Nat.reduceEqDiff, Nat.reduceAdd, Nat.reduceSub, Nat.reduceLeDiff, Nat.reduceLT, Nat.reduceBEq, reduceCtorEq, Int.reduceEq]
  refine AW.rseq ?_
  try simp only [↓wk, ↓wl, nc, evV, wrapBits_eq, ↓reduceIte, Nat.reduceEqDiff, Nat.reduceAdd, Nat.reduceSub, Nat.reduceLeDiff, Nat.reduceLT, Nat.reduceBEq, reduceCtorEq, Int.reduceEq]
  refine AW.sseq ?_
  refine AW.rseq ?_
  try simp only [↓wk, ↓wl, nc, evV, wrapBits_eq, ↓reduceIte, Nat.reduceEqDiff, Nat.reduceAdd, Nat.reduceSub, Nat.reduceLeDiff, Nat.reduceLT, Nat.reduceBEq, reduceCtorEq, Int.reduceEq]
  refine AW.bend ?_
  refine AW.iter H ((Le.none [] [0, 3, 4, 7, 8] (by decide) (by simp only [f77_L1, List.length_set, Option.map_some, restrict_eq, renS_nil, renS_cons, renB_els, renB_cel, renB_dead, deep_eq, map_ren_enc, ren_agg', ren_tup', ren_fn', ren_int', ren_bool', ren_str', ren_sl', ren_pro', ren_nilp', ren_nilfn', ren_junk', ren_ptr', ren_row', ren_arow', ren_eptr', vm, List.idxOf?_cons, List.idxOf?_nil, beq_self_eq_true, Option.map_none, List.getD_cons_zero, List.getD_cons_succ, ↓wk, ↓wl, nc, evV, wrapBits_eq, ↓reduceIte, Nat.reduceEqDiff, Nat.reduceAdd, Nat.reduceSub, Nat.reduceLeDiff, Nat.reduceLT, Nat.reduceBEq, reduceCtorEq, Int.reduceEq]))) ?_ <;> clear H
  rintro ⟨a_1810, b_1811, v_1812⟩ x_ st0_ H hst_
  simp only [f77_L1] at H hst_
  subst hst_
  refine AW.rseq ?_
  try simp only [↓wk, ↓wl, nc, evV, wrapBits_eq, ↓reduceIte, Nat.reduceEqDiff, Nat.reduceAdd, Nat.reduceSub, Nat.reduceLeDiff, Nat.reduceLT, Nat.reduceBEq, reduceCtorEq, Int.reduceEq]
  refine AW.sseq ?_
  refine AW.ifc H (by rfl) ?_ ?_ <;> clear H <;> intro H
  · refine AW.skip ?_
    refine seqQ.norm ?_
    refine AW.bseq ?_
    refine AW.rseq ?_
    try simp only [↓wk, ↓wl, nc, evV, wrapBits_eq, ↓reduceIte, Nat.reduceEqDiff, Nat.reduceAdd, Nat.reduceSub, Nat.reduceLeDiff, Nat.reduceLT, Nat.reduceBEq, reduceCtorEq, Int.reduceEq]
    refine AW.rseq ?_
    try simp only [↓wk, ↓wl, nc, evV, wrapBits_eq, ↓reduceIte, Nat.reduceEqDiff, Nat.reduceAdd, Nat.reduceSub, Nat.reduceLeDiff, Nat.reduceLT, Nat.reduceBEq, reduceCtorEq, Int.reduceEq]
    refine evTs_sat H (by rfl) (by rfl) ?_ <;> clear H <;> intro b_1816 H
    try simp only [↓wk, ↓wl, nc, evV, wrapBits_eq, ↓reduceIte, Nat.reduceEqDiff, Nat.reduceAdd, Nat.reduceSub, Nat.reduceLeDiff, Nat.reduceLT, Nat.reduceBEq, reduceCtorEq, Int.reduceEq]
    refine AW.rend ?_
    try simp only [↓wk, ↓wl, nc, evV, wrapBits_eq, ↓reduceIte, Nat.reduceEqDiff, Nat.reduceAdd, Nat.reduceSub, Nat.reduceLeDiff, Nat.reduceLT, Nat.reduceBEq, reduceCtorEq, Int.reduceEq]
    refine blkQ.norm ?_
    refine AW.rend ?_
    try simp only [↓wk, ↓wl, nc, evV, wrapBits_eq, ↓reduceIte, Nat.reduceEqDiff, Nat.reduceAdd, Nat.reduceSub, Nat.reduceLeDiff, Nat.reduceLT, Nat.reduceBEq, reduceCtorEq, Int.reduceEq]
    exact loopQ.next H ((Le.none [] [0, 3, 4, 7, 8] (by decide) (by simp only [f77_L1, List.length_set, Option.map_some, restrict_eq, renS_nil, renS_cons, renB_els, renB_cel, renB_dead, deep_eq, map_ren_enc, ren_agg', ren_tup', ren_fn', ren_int', ren_bool', ren_str', ren_sl', ren_pro', ren_nilp', ren_nilfn', ren_junk', ren_ptr', ren_row', ren_arow', ren_eptr', vm, List.idxOf?_cons, List.idxOf?_nil, beq_self_eq_true, Option.map_none, List.getD_cons_zero, List.getD_cons_succ, ↓wk, ↓wl, nc, evV, wrapBits_eq, ↓reduceIte, Nat.reduceEqDiff, Nat.reduceAdd, Nat.reduceSub, Nat.reduceLeDiff, Nat.reduceLT, Nat.reduceBEq, reduceCtorEq, Int.reduceEq])))
  · refine AW.exit ?_
    refine seqQ.exit ?_
    refine loopQ.exit H ?_ <;> clear H <;> intro H
    try dsimp only at H
    refine blk0.here ?_
    refine seqQ.norm ?_
    refine AW.rseq ?_
    try simp only [↓wk, ↓wl, nc, evV, wrapBits_eq, ↓reduceIte, Nat.reduceEqDiff, Nat.reduceAdd, Nat.reduceSub, Nat.reduceLeDiff, Nat.reduceLT, Nat.reduceBEq, reduceCtorEq, Int.reduceEq]
    refine rest_shl (by decide) ?_
    try simp only [↓wk, ↓wl, nc, evV, wrapBits_eq, ↓reduceIte, Nat.reduceEqDiff, Nat.reduceAdd, Nat.reduceSub, Nat.reduceLeDiff, Nat.reduceLT, Nat.reduceBEq, reduceCtorEq, Int.reduceEq]
    refine rest_or ?_
    try simp only [↓wk, ↓wl, nc, evV, wrapBits_eq, ↓reduceIte, Nat.reduceEqDiff, Nat.reduceAdd, Nat.reduceSub, Nat.reduceLeDiff, Nat.reduceLT, Nat.reduceBEq, reduceCtorEq, Int.reduceEq]
    refine AW.ret ?_
    cases H
    exact hQ _ _ _ _ (.inr rfl) (by simp only [resVs, omap, resV, ↓wk, ↓wl, nc, evV, wrapBits_eq, ↓reduceIte, Nat.reduceEqDiff, Nat.reduceAdd, Nat.reduceSub, Nat.reduceLeDiff, Nat.reduceLT, Nat.reduceBEq, reduceCtorEq, Int.reduceEq]; rfl) (hand_plain (by rfl)) (by rfl)
def c55_0 : C := .cond (.t 14) (.seq (.reg [iI 2 (.mv (.c (.str []))), iI 3 (.mv (.c (.int .i64 13)))]) .ret) (.skip)
def c55_1 : C := .cond (.t 5) (.seq (.reg [iI 2 (.mv (.c (.str []))), iI 3 (.mv (.c (.int .i64 2)))]) .ret) (.seq (.reg [iI 15 (.faddr 1 (.t 1)), iI 16 (.load 0 (.t 15)), iI 17 (.len 1 (.t 16)), iI 18 (.bin .gtr (.t 17) (.c (.int .i64 65535))), iI 14 (.mv (.t 18))]) c55_0)
def c55_2 : C := .seq (.reg [iI 32 (.mv (.t 4)), iI 33 (.mv (.t 4)), iI 34 (.call (.c (.fn 77 [])) [(.t 33)]), iI 35 (.call (.c (.fn 76 [])) [(.t 34)]), iI 36 (.bin .add (.t 32) (.t 35)), iI 2 (.mv (.t 36)), iI 3 (.mv (.c (.int .i64 0)))]) .ret
def c55_3 : C := .seq (.regq [iI 19 (.faddr 0 (.t 1)), iI 20 (.load 0 (.t 19)), iI 21 (.cint .u8 (.t 20)), iI 22 (.mkslp 0 1 (.int .u8 0) [(0, (.t 21))]), iI 23 (.cstr (.t 22)), iI 24 (.faddr 1 (.t 1)), iI 25 (.load 0 (.t 24)), iI 26 (.len 1 (.t 25)), iI 27 (.call (.c (.fn 76 [])) [(.t 26)]), iI 28 (.bin .add (.t 23) (.t 27)), iI 29 (.faddr 1 (.t 1)), iI 30 (.load 0 (.t 29)), iI 31 (.bin .add (.t 28) (.t 30)), iI 4 (.mv (.t 31))]) c55_2
def c55_4 : C := .seq (.block 0 (.seq (.reg [iI 6 (.faddr 0 (.t 1)), iI 7 (.load 0 (.t 6)), iI 8 (.bin .lss (.t 7) (.c (.int .i64 0))), iI 9 (.mv (.t 8)), iG (some 10) 9 false (.faddr 0 (.t 1)), iG (some 11) 9 false (.load 0 (.t 10)), iG (some 12) 9 false (.bin .gtr (.t 11) (.c (.int .i64 255))), iI 13 (.pick (.t 9) (.c (.bool true)) (.t 12)), iI 5 (.mv (.t 13))]) c55_1)) c55_3
def ir55 : C := .seq (.reg [iI 1 (.box (.t 0)), iI 2 (.mv (.c (.str []))), iI 3 (.mv (.c (.int .i64 0)))]) c55_4
theorem fd55 : fd? Try.prog 55 = some (37, [.slot 2, .slot 3], ir55) := by kernel_rfl
noncomputable def f55 (x_1799 : RecordEntry) : Option ((List UInt8) × Int) :=
  (if (decide (x_1799.fKind < 0)) = true then (some ([], 2)) else (if (decide (255 < x_1799.fKind)) = true then (some ([], 2)) else (if (decide (65535 < ((x_1799.fData.length : Nat) : Int))) = true then (some ([], 13)) else (f76 ((x_1799.fData.length : Nat) : Int)).bind fun r_1801 => (cat? (([(IntKind.u8.wrap x_1799.fKind)]).map b8) r_1801).bind fun v_1802 => (cat? v_1802 x_1799.fData).bind fun v_1803 => (f77 v_1803).bind fun r_1817 => (f76 r_1817).bind fun r_1818 => (cat? v_1803 r_1818).bind fun v_1819 => (some (v_1819, 0)))))
theorem f55_ok {x_1799 : RecordEntry} {r_ : (List UInt8) × Int} (H : f55 x_1799 = some r_) : Pure Try.prog 55 [.agg [.int .i64 x_1799.fKind, .str x_1799.fData]] (· = .tup [.str r_.1, .int .i64 r_.2]) := by
  refine Pure.walk2 fd55 none (Nat.le_of_ble_eq_true rfl) (by rfl) fun Q hQ => ?_
  simp only [f55] at H
  refine AW.rseq ?_
  try simp only [↓wk, ↓wl, nc, evV, wrapBits_eq, ↓reduceIte, Nat.reduceEqDiff, Nat.reduceAdd, Nat.reduceSub, Nat.reduceLeDiff, Nat.reduceLT, Nat.reduceBEq, reduceCtorEq, Int.reduceEq]
  refine AW.bseq ?_
  refine AW.rseq ?_
  try simp only [↓wk, ↓wl, nc, evV, wrapBits_eq, ↓reduceIte, Nat.reduceEqDiff, Nat.reduceAdd, Nat.reduceSub, Nat.reduceLeDiff, Nat.reduceLT, Nat.reduceBEq, reduceCtorEq, Int.reduceEq]
  refine evTs_ifg H (by rfl) ?_ ?_ <;> clear H <;> intro H
  · try simp only [↓wk, ↓wl, nc, evV, wrapBits_eq, ↓reduceIte, Nat.reduceEqDiff, Nat.reduceAdd, Nat.reduceSub, Nat.reduceLeDiff, Nat.reduceLT, Nat.reduceBEq, reduceCtorEq, Int.reduceEq]
    refine AW.ift (by rfl) ?_
    refine AW.rseq ?_
    try simp only [↓wk, ↓wl, nc, evV, wrapBits_eq, ↓reduceIte, Nat.reduceEqDiff, Nat.reduceAdd, Nat.reduceSub, Nat.reduceLeDiff, Nat.reduceLT, Nat.reduceBEq, reduceCtorEq, Int.reduceEq]
    refine AW.ret ?_
    refine blkQ.ret ?_
    cases H
    exact hQ _ _ _ _ (.inr rfl) (by simp only [resVs, omap, resV, ↓wk, ↓wl, nc, evV, wrapBits_eq, ↓reduceIte, Nat.reduceEqDiff, Nat.reduceAdd, Nat.reduceSub, Nat.reduceLeDiff, Nat.reduceLT, Nat.reduceBEq, reduceCtorEq, Int.reduceEq]; rfl) (hand_plain (by rfl)) (by rfl)
  · try simp only [↓wk, ↓wl, nc, evV, wrapBits_eq, ↓reduceIte, Nat.reduceEqDiff, Nat.reduceAdd, Nat.reduceSub, Nat.reduceLeDiff, Nat.reduceLT, Nat.reduceBEq, reduceCtorEq, Int.reduceEq]
    refine AW.ifc H (by rfl) ?_ ?_ <;> clear H <;> intro H
    · refine AW.rseq ?_
      try simp only [↓wk, ↓wl, nc, evV, wrapBits_eq, ↓reduceIte, Nat.reduceEqDiff, Nat.reduceAdd, Nat.reduceSub, Nat.reduceLeDiff, Nat.reduceLT, Nat.reduceBEq, reduceCtorEq, Int.reduceEq]
      refine AW.ret ?_
      refine blkQ.ret ?_
      cases H
      exact hQ _ _ _ _ (.inr rfl) (by simp only [resVs, omap, resV, ↓wk, ↓wl, nc, evV, wrapBits_eq, ↓reduceIte, Nat.reduceEqDiff, Nat.reduceAdd, Nat.reduceSub, Nat.reduceLeDiff, Nat.reduceLT, Nat.reduceBEq, reduceCtorEq, Int.reduceEq]; rfl) (hand_plain (by rfl)) (by rfl)
    · refine AW.rseq ?_
      try simp only [↓wk, ↓wl, nc, evV, wrapBits_eq, ↓reduceIte, Nat.reduceEqDiff, Nat.reduceAdd, Nat.reduceSub, Nat.reduceLeDiff, Nat.reduceLT, Nat.reduceBEq, reduceCtorEq, Int.reduceEq]
      refine AW.ifc H (by rfl) ?_ ?_ <;> clear H <;> intro H
      · refine AW.rseq ?_
        try simp only [↓wk, ↓wl, nc, evV, wrapBits_eq, ↓reduceIte, Nat.reduceEqDiff, Nat.reduceAdd, Nat.reduceSub, Nat.reduceLeDiff, Nat.reduceLT, Nat.reduceBEq, reduceCtorEq, Int.reduceEq]
        refine AW.ret ?_
        refine blkQ.ret ?_
        cases H
        exact hQ _ _ _ _ (.inr rfl) (by simp only [resVs, omap, resV, ↓wk, ↓wl, nc, evV, wrapBits_eq, ↓reduceIte, Nat.reduceEqDiff, Nat.reduceAdd, Nat.reduceSub, Nat.reduceLeDiff, Nat.reduceLT, Nat.reduceBEq, reduceCtorEq, Int.reduceEq]; rfl) (hand_plain (by rfl)) (by rfl)
      · refine AW.skip ?_
        refine blkQ.norm ?_
        refine AW.rqseq ?_
        try simp only [↓wk, ↓wl, nc, evV, wrapBits_eq, ↓reduceIte, Nat.reduceEqDiff, Nat.reduceAdd, Nat.reduceSub, Nat.reduceLeDiff, Nat.reduceLT, Nat.reduceBEq, reduceCtorEq, Int.reduceEq]
        refine evTs_cstr (xs := [(IntKind.u8.wrap x_1799.fKind)]) (by rfl) ?_
        try simp only [↓wk, ↓wl, nc, evV, wrapBits_eq, ↓reduceIte, Nat.reduceEqDiff, Nat.reduceAdd, Nat.reduceSub, Nat.reduceLeDiff, Nat.reduceLT, Nat.reduceBEq, reduceCtorEq, Int.reduceEq]
        refine evTs_pure hFnq H (fun _ h => f76_ok h) (by rfl) (by rfl) (by rfl) (by rfl) (fun _ => rfl) ?_ <;> clear H <;> intro r_1801 H
        try simp only [eL, ↓wk, ↓wl, nc, evV, wrapBits_eq, ↓reduceIte, Nat.reduceEqDiff, Nat.reduceAdd, Nat.reduceSub, Nat.reduceLeDiff, Nat.reduceLT, Nat.reduceBEq, reduceCtorEq, Int.reduceEq]
        refine rest_cat H ?_ <;> clear H <;> intro v_1802 H
        try simp only [↓wk, ↓wl, nc, evV, wrapBits_eq, ↓reduceIte, Nat.reduceEqDiff, Nat.reduceAdd, Nat.reduceSub, Nat.reduceLeDiff, Nat.reduceLT, Nat.reduceBEq, reduceCtorEq, Int.reduceEq]
        refine rest_cat H ?_ <;> clear H <;> intro v_1803 H
        try simp only [↓wk, ↓wl, nc, evV, wrapBits_eq, ↓reduceIte, Nat.reduceEqDiff, Nat.reduceAdd, Nat.reduceSub, Nat.reduceLeDiff, Nat.reduceLT, Nat.reduceBEq, reduceCtorEq, Int.reduceEq]
        refine AW.rseq ?_
        try simp only [↓wk, ↓wl, nc, evV, wrapBits_eq, ↓reduceIte, Nat.reduceEqDiff, Nat.reduceAdd, Nat.reduceSub, Nat.reduceLeDiff, Nat.reduceLT, Nat.reduceBEq, reduceCtorEq, Int.reduceEq]
        refine evTs_pure hFn H (fun _ h => f77_ok h) (by rfl) (by rfl) (by rfl) (by rfl) (fun _ => rfl) ?_ <;> clear H <;> intro r_1817 H
        try simp only [eL, ↓wk, ↓wl, nc, evV, wrapBits_eq, ↓reduceIte, Nat.reduceEqDiff, Nat.reduceAdd, Nat.reduceSub, Nat.reduceLeDiff, Nat.reduceLT, Nat.reduceBEq, reduceCtorEq, Int.reduceEq]
        refine evTs_pure hFn H (fun _ h => f76_ok h) (by rfl) (by rfl) (by rfl) (by rfl) (fun _ => rfl) ?_ <;> clear H <;> intro r_1818 H
        try simp only [eL, ↓wk, ↓wl, nc, evV, wrapBits_eq, ↓reduceIte, Nat.reduceEqDiff, Nat.reduceAdd, Nat.reduceSub, Nat.reduceLeDiff, Nat.reduceLT, Nat.reduceBEq, reduceCtorEq, Int.reduceEq]
        refine rest_cat H ?_ <;> clear H <;> intro v_1819 H
        try simp only [↓wk, ↓wl, nc, evV, wrapBits_eq, ↓reduceIte, Nat.reduceEqDiff, Nat.reduceAdd, Nat.reduceSub, Nat.reduceLeDiff, Nat.reduceLT, Nat.reduceBEq, reduceCtorEq, Int.reduceEq]
        refine AW.ret ?_
        cases H
        exact hQ _ _ _ _ (.inr rfl) (by simp only [resVs, omap, resV, ↓wk, ↓wl, nc, evV, wrapBits_eq, ↓reduceIte, Nat.reduceEqDiff, Nat.reduceAdd, Nat.reduceSub, Nat.reduceLeDiff, Nat.reduceLT, Nat.reduceBEq, reduceCtorEq, Int.reduceEq]; rfl) (hand_plain (by rfl)) (by rfl)
noncomputable def f31_J1 (p_1740 : NetworkPacket) : Jn (Int) ((List UInt8) × Int) where
  run := fun end_1747 => (f53 (IntKind.i64.wrap p_1740.fSource)).bind fun r_1782 => (cat? ([]) r_1782).bind fun v_1783 => (f53 p_1740.fUniverse).bind fun r_1784 => (cat? v_1783 r_1784).bind fun v_1785 => (f53 p_1740.fPriority).bind fun r_1786 => (cat? v_1785 r_1786).bind fun v_1787 => (f53 p_1740.fSeq).bind fun r_1788 => (cat? v_1787 r_1788).bind fun v_1789 => (f53 p_1740.fSync).bind fun r_1790 => (cat? v_1789 r_1790).bind fun v_1791 => (f53 end_1747).bind fun r_1792 => (cat? v_1791 r_1792).bind fun v_1793 => (f54 p_1740.fSlots).bind fun r_1797 => (if (decide (r_1797.2 ≠ 0)) = true then (some ([], r_1797.2)) else (cat? v_1793 r_1797.1).bind fun v_1798 => (f55 (RecordEntry.mk 85 v_1798)).bind fun r_1820 => (some (r_1820.1, r_1820.2)))
  cst := fun end_1747 => ⟨put (put (fun _ => .junk) 5 (.int .i64 end_1747)) 1 (.ptr 0 0), [.cel [.int .u64 p_1740.fSource, .int .i64 p_1740.fUniverse, .int .i64 p_1740.fPriority, .int .i64 p_1740.fSeq, .int .i64 p_1740.fSync, .bool p_1740.fEnd, .str p_1740.fSlots]]⟩
def c31_0 : C := .cond (.t 14) (.seq (.reg [iI 15 (.mv (.t 4)), iI 2 (.mv (.c (.str []))), iI 3 (.mv (.t 15))]) .ret) (.skip)
def c31_1 : C := .seq (.reg [iI 13 (.mv (.t 4)), iI 14 (.bin .neq (.t 13) (.c (.int .i64 0)))]) c31_0
def c31_2 : C := .cond (.t 17) (.reg [iI 5 (.mv (.c (.int .i64 1)))]) (.skip)
def c31_3 : C := .reg [iI 34 (.mv (.t 6)), iI 35 (.mv (.t 8)), iI 36 (.call (.c (.fn 53 [])) [(.t 35)]), iI 37 (.bin .add (.t 34) (.t 36)), iI 6 (.mv (.t 37))]
def c31_4 : C := .reg [iI 38 (.bin .add (.t 31) (.c (.int .i64 1))), iI 31 (.mv (.t 38))]
def c31_5 : C := .seq (.block 1 (.seq (.reg [iI 33 (.idx 0 6 (.t 30) (.t 31)), iI 8 (.mv (.t 33))]) c31_3)) c31_4
def c31_6 : C := .seq (.cond (.t 32) (.skip) (.exit 0)) c31_5
def c31_7 : C := .block 0 (.loop (.seq (.reg [iI 32 (.bin .lss (.t 31) (.c (.int .i64 6)))]) c31_6))
def c31_8 : C := .cond (.t 46) (.seq (.reg [iI 47 (.mv (.t 10)), iI 2 (.mv (.c (.str []))), iI 3 (.mv (.t 47))]) .ret) (.skip)
def c31_9 : C := .seq (.reg [iI 48 (.mv (.t 6)), iI 49 (.mv (.t 9)), iI 50 (.bin .add (.t 48) (.t 49)), iI 51 (.build [(1, (.int .i64 0)), (1, (.str []))] [(0, 0, (.c (.int .i64 85))), (1, 0, (.t 50))]), iI 52 (.call (.c (.fn 55 [])) [(.t 51)]), iI 53 (.ext (.t 52) 0), iI 54 (.ext (.t 52) 1), iI 2 (.mv (.t 53)), iI 3 (.mv (.t 54))]) .ret
def c31_10 : C := .seq (.seq (.reg [iI 45 (.mv (.t 10)), iI 46 (.bin .neq (.t 45) (.c (.int .i64 0)))]) c31_8) c31_9
def c31_11 : C := .seq (.reg [iI 40 (.faddr 6 (.t 1)), iI 41 (.load 0 (.t 40)), iI 42 (.call (.c (.fn 54 [])) [(.t 41)]), iI 39 (.mv (.t 42)), iI 43 (.ext (.t 39) 0), iI 44 (.ext (.t 39) 1), iI 9 (.mv (.t 43)), iI 10 (.mv (.t 44))]) c31_10
def c31_12 : C := .seq (.seq (.reg [iI 18 (.faddr 0 (.t 1)), iI 19 (.load 0 (.t 18)), iI 20 (.cint .i64 (.t 19)), iI 21 (.faddr 1 (.t 1)), iI 22 (.load 0 (.t 21)), iI 23 (.faddr 2 (.t 1)), iI 24 (.load 0 (.t 23)), iI 25 (.faddr 3 (.t 1)), iI 26 (.load 0 (.t 25)), iI 27 (.faddr 4 (.t 1)), iI 28 (.load 0 (.t 27)), iI 29 (.mv (.t 5)), iI 30 (.build [(6, (.int .i64 0))] [(0, 0, (.t 20)), (1, 0, (.t 22)), (2, 0, (.t 24)), (3, 0, (.t 26)), (4, 0, (.t 28)), (5, 0, (.t 29))]), iI 31 (.mv (.c (.int .i64 0)))]) c31_7) c31_11
def c31_13 : C := .seq (.reg [iI 6 (.mv (.c (.str [])))]) c31_12
def c31_14 : C := .seq (.seq (.reg [iI 16 (.faddr 5 (.t 1)), iI 17 (.load 0 (.t 16))]) c31_2) c31_13
def c31_15 : C := .seq (.reg [iI 5 (.mv (.c (.int .i64 0)))]) c31_14
def c31_16 : C := .seq (.seq (.reg [iI 11 (.load 7 (.t 1)), iI 12 (.call (.c (.fn 28 [])) [(.t 11)]), iI 4 (.mv (.t 12))]) c31_1) c31_15
def ir31 : C := .seq (.reg [iI 1 (.box (.t 0)), iI 2 (.mv (.c (.str []))), iI 3 (.mv (.c (.int .i64 0)))]) c31_16
theorem fd31 : fd? Try.prog 31 = some (55, [.slot 2, .slot 3], ir31) := by kernel_rfl
noncomputable def f31 (p_1740 : NetworkPacket) : Option ((List UInt8) × Int) :=
  (f28 p_1740).bind fun r_1746 => (if (decide (r_1746 ≠ 0)) = true then (some ([], r_1746)) else (if p_1740.fEnd = true then ((f31_J1 p_1740).run 1) else ((f31_J1 p_1740).run 0)))
theorem f31_ok {p_1740 : NetworkPacket} {r_ : (List UInt8) × Int} (H : f31 p_1740 = some r_) : Pure Try.prog 31 [.agg [.int .u64 p_1740.fSource, .int .i64 p_1740.fUniverse, .int .i64 p_1740.fPriority, .int .i64 p_1740.fSeq, .int .i64 p_1740.fSync, .bool p_1740.fEnd, .str p_1740.fSlots]] (· = .tup [.str r_.1, .int .i64 r_.2]) := by
  refine Pure.walk2 fd31 none (Nat.le_of_ble_eq_true rfl) (by rfl) fun Q hQ => ?_
  simp only [f31] at H
  refine AW.rseq ?_
  try simp only [↓wk, ↓wl, nc, evV, wrapBits_eq, ↓reduceIte, Nat.reduceEqDiff, Nat.reduceAdd, Nat.reduceSub, Nat.reduceLeDiff, Nat.reduceLT, Nat.reduceBEq, reduceCtorEq, Int.reduceEq]
  refine AW.sseq ?_
  refine AW.rseq ?_
  try simp only [↓wk, ↓wl, nc, evV, wrapBits_eq, ↓reduceIte, Nat.reduceEqDiff, Nat.reduceAdd, Nat.reduceSub, Nat.reduceLeDiff, Nat.reduceLT, Nat.reduceBEq, reduceCtorEq, Int.reduceEq]
  refine evTs_pure hFn H (fun _ h => f28_ok h) (by rfl) (by rfl) (by rfl) (by rfl) (fun _ => rfl) ?_ <;> clear H <;> intro r_1746 H
  try simp only [eL, ↓wk, ↓wl, nc, evV, wrapBits_eq, ↓reduceIte, Nat.reduceEqDiff, Nat.reduceAdd, Nat.reduceSub, Nat.reduceLeDiff, Nat.reduceLT, Nat.reduceBEq, reduceCtorEq, Int.reduceEq]
  refine AW.rseq ?_
  try simp only [↓wk, ↓wl, nc, evV, wrapBits_eq, ↓reduceIte, Nat.reduceEqDiff, Nat.reduceAdd, Nat.reduceSub, Nat.reduceLeDiff, Nat.reduceLT, Nat.reduceBEq, reduceCtorEq, Int.reduceEq]
  refine AW.ifc H (by rfl) ?_ ?_ <;> clear H <;> intro H
  · refine AW.rseq ?_
    try simp only [↓wk, ↓wl, nc, evV, wrapBits_eq, ↓reduceIte, Nat.reduceEqDiff, Nat.reduceAdd, Nat.reduceSub, Nat.reduceLeDiff, Nat.reduceLT, Nat.reduceBEq, reduceCtorEq, Int.reduceEq]
    refine AW.ret ?_
    refine seqQ.ret ?_
    cases H
    exact hQ _ _ _ _ (.inr rfl) (by simp only [resVs, omap, resV, ↓wk, ↓wl, nc, evV, wrapBits_eq, ↓reduceIte, Nat.reduceEqDiff, Nat.reduceAdd, Nat.reduceSub, Nat.reduceLeDiff, Nat.reduceLT, Nat.reduceBEq, reduceCtorEq, Int.reduceEq]; rfl) (hand_plain (by rfl)) (by rfl)
  · refine AW.skip ?_
    refine seqQ.norm ?_
    refine AW.rseq ?_
    try simp only [↓wk, ↓wl, nc, evV, wrapBits_eq, ↓reduceIte, Nat.reduceEqDiff, Nat.reduceAdd, Nat.reduceSub, Nat.reduceLeDiff, Nat.reduceLT, Nat.reduceBEq, reduceCtorEq, Int.reduceEq]
    refine AW.join (f31_J1 p_1740) H ?_ fun hf31_J1 => ?_
    · clear H
      rintro end_1747 st0_ H hst_
      simp only [f31_J1] at H hst_
      subst hst_
      refine AW.rseq ?_
      try simp only [↓wk, ↓wl, nc, evV, wrapBits_eq, ↓reduceIte, Nat.reduceEqDiff, Nat.reduceAdd, Nat.reduceSub, Nat.reduceLeDiff, Nat.reduceLT, Nat.reduceBEq, reduceCtorEq, Int.reduceEq]
      refine AW.sseq ?_
      refine AW.rseq ?_
      try simp only [↓wk, ↓wl, nc, evV, wrapBits_eq, ↓reduceIte, Nat.reduceEqDiff, Nat.reduceAdd, Nat.reduceSub, Nat.reduceLeDiff, Nat.reduceLT, Nat.reduceBEq, reduceCtorEq, Int.reduceEq]
      refine AW.bend ?_
      refine AW.rounds 40 ?_
      refine Rounds.go ?_
      refine AW.rseq ?_
      try simp only [↓wk, ↓wl, nc, evV, wrapBits_eq, ↓reduceIte, Nat.reduceEqDiff, Nat.reduceAdd, Nat.reduceSub, Nat.reduceLeDiff, Nat.reduceLT, Nat.reduceBEq, reduceCtorEq, Int.reduceEq]
      refine AW.sseq ?_
      refine AW.ift (by rfl) ?_
      refine AW.skip ?_
      refine seqQ.norm ?_
      refine AW.bseq ?_
      refine AW.rseq ?_
      try simp only [↓wk, ↓wl, nc, evV, wrapBits_eq, ↓reduceIte, Nat.reduceEqDiff, Nat.reduceAdd, Nat.reduceSub, Nat.reduceLeDiff, Nat.reduceLT, Nat.reduceBEq, reduceCtorEq, Int.reduceEq]
      refine evTs_any (v := .int .i64 (IntKind.i64.wrap p_1740.fSource)) rfl (by rfl) ?_
      try simp only [↓wk, ↓wl, nc, evV, wrapBits_eq, ↓reduceIte, Nat.reduceEqDiff, Nat.reduceAdd, Nat.reduceSub, Nat.reduceLeDiff, Nat.reduceLT, Nat.reduceBEq, reduceCtorEq, Int.reduceEq]
      refine AW.rend ?_
      try simp only [↓wk, ↓wl, nc, evV, wrapBits_eq, ↓reduceIte, Nat.reduceEqDiff, Nat.reduceAdd, Nat.reduceSub, Nat.reduceLeDiff, Nat.reduceLT, Nat.reduceBEq, reduceCtorEq, Int.reduceEq]
      refine evTs_pure hFn H (fun _ h => f53_ok h) (by rfl) (by rfl) (by rfl) (by rfl) (fun _ => rfl) ?_ <;> clear H <;> intro r_1782 H
      try simp only [eL, ↓wk, ↓wl, nc, evV, wrapBits_eq, ↓reduceIte, Nat.reduceEqDiff, Nat.reduceAdd, Nat.reduceSub, Nat.reduceLeDiff, Nat.reduceLT, Nat.reduceBEq, reduceCtorEq, Int.reduceEq]
      refine rest_cat H ?_ <;> clear H <;> intro v_1783 H
      try simp only [↓wk, ↓wl, nc, evV, wrapBits_eq, ↓reduceIte, Nat.reduceEqDiff, Nat.reduceAdd, Nat.reduceSub, Nat.reduceLeDiff, Nat.reduceLT, Nat.reduceBEq, reduceCtorEq, Int.reduceEq]
      refine blkQ.norm ?_
      refine AW.rend ?_
      try simp only [↓wk, ↓wl, nc, evV, wrapBits_eq, ↓reduceIte, Nat.reduceEqDiff, Nat.reduceAdd, Nat.reduceSub, Nat.reduceLeDiff, Nat.reduceLT, Nat.reduceBEq, reduceCtorEq, Int.reduceEq]
      refine roundQ.next (st2 := ⟨put (put (put (put (fun _ => .junk) 31 (.int .i64 1)) 30 (.agg [.int .i64 (IntKind.i64.wrap p_1740.fSource), .int .i64 p_1740.fUniverse, .int .i64 p_1740.fPriority, .int .i64 p_1740.fSeq, .int .i64 p_1740.fSync, .int .i64 end_1747])) 6 (.str v_1783)) 1 (.ptr 0 0), [.cel [.int .u64 p_1740.fSource, .int .i64 p_1740.fUniverse, .int .i64 p_1740.fPriority, .int .i64 p_1740.fSeq, .int .i64 p_1740.fSync, .bool p_1740.fEnd, .str p_1740.fSlots]]⟩) (Le.none [0] [1, 6, 30, 31] (by decide) (by simp only [List.length_set, Option.map_some, restrict_eq, renS_nil, renS_cons, renB_els, renB_cel, renB_dead, deep_eq, map_ren_enc, ren_agg', ren_tup', ren_fn', ren_int', ren_bool', ren_str', ren_sl', ren_pro', ren_nilp', ren_nilfn', ren_junk', ren_ptr', ren_row', ren_arow', ren_eptr', vm, List.idxOf?_cons, List.idxOf?_nil, beq_self_eq_true, Option.map_none, List.getD_cons_zero, List.getD_cons_succ, ↓wk, ↓wl, nc, evV, wrapBits_eq, ↓reduceIte, Nat.reduceEqDiff, Nat.reduceAdd, Nat.reduceSub, Nat.reduceLeDiff, Nat.reduceLT, Nat.reduceBEq, reduceCtorEq, Int.reduceEq] <;> rfl)) ?_
      refine Rounds.go ?_
      refine AW.rseq ?_
      try simp only [↓wk, ↓wl, nc, evV, wrapBits_eq, ↓reduceIte, Nat.reduceEqDiff, Nat.reduceAdd, Nat.reduceSub, Nat.reduceLeDiff, Nat.reduceLT, Nat.reduceBEq, reduceCtorEq, Int.reduceEq]
      refine AW.sseq ?_
      refine AW.ift (by rfl) ?_
      refine AW.skip ?_
      refine seqQ.norm ?_
      refine AW.bseq ?_
      refine AW.rseq ?_
      try simp only [↓wk, ↓wl, nc, evV, wrapBits_eq, ↓reduceIte, Nat.reduceEqDiff, Nat.reduceAdd, Nat.reduceSub, Nat.reduceLeDiff, Nat.reduceLT, Nat.reduceBEq, reduceCtorEq, Int.reduceEq]
      refine evTs_any (v := .int .i64 p_1740.fUniverse) rfl (by rfl) ?_
      try simp only [↓wk, ↓wl, nc, evV, wrapBits_eq, ↓reduceIte, Nat.reduceEqDiff, Nat.reduceAdd, Nat.reduceSub, Nat.reduceLeDiff, Nat.reduceLT, Nat.reduceBEq, reduceCtorEq, Int.reduceEq]
      refine AW.rend ?_
      try simp only [↓wk, ↓wl, nc, evV, wrapBits_eq, ↓reduceIte, Nat.reduceEqDiff, Nat.reduceAdd, Nat.reduceSub, Nat.reduceLeDiff, Nat.reduceLT, Nat.reduceBEq, reduceCtorEq, Int.reduceEq]
      refine evTs_pure hFn H (fun _ h => f53_ok h) (by rfl) (by rfl) (by rfl) (by rfl) (fun _ => rfl) ?_ <;> clear H <;> intro r_1784 H
      try simp only [eL, ↓wk, ↓wl, nc, evV, wrapBits_eq, ↓reduceIte, Nat.reduceEqDiff, Nat.reduceAdd, Nat.reduceSub, Nat.reduceLeDiff, Nat.reduceLT, Nat.reduceBEq, reduceCtorEq, Int.reduceEq]
      refine rest_cat H ?_ <;> clear H <;> intro v_1785 H
      try simp only [↓wk, ↓wl, nc, evV, wrapBits_eq, ↓reduceIte, Nat.reduceEqDiff, Nat.reduceAdd, Nat.reduceSub, Nat.reduceLeDiff, Nat.reduceLT, Nat.reduceBEq, reduceCtorEq, Int.reduceEq]
      refine blkQ.norm ?_
      refine AW.rend ?_
      try simp only [↓wk, ↓wl, nc, evV, wrapBits_eq, ↓reduceIte, Nat.reduceEqDiff, Nat.reduceAdd, Nat.reduceSub, Nat.reduceLeDiff, Nat.reduceLT, Nat.reduceBEq, reduceCtorEq, Int.reduceEq]
      refine roundQ.next (st2 := ⟨put (put (put (put (fun _ => .junk) 31 (.int .i64 2)) 30 (.agg [.int .i64 (IntKind.i64.wrap p_1740.fSource), .int .i64 p_1740.fUniverse, .int .i64 p_1740.fPriority, .int .i64 p_1740.fSeq, .int .i64 p_1740.fSync, .int .i64 end_1747])) 6 (.str v_1785)) 1 (.ptr 0 0), [.cel [.int .u64 p_1740.fSource, .int .i64 p_1740.fUniverse, .int .i64 p_1740.fPriority, .int .i64 p_1740.fSeq, .int .i64 p_1740.fSync, .bool p_1740.fEnd, .str p_1740.fSlots]]⟩) (Le.none [0] [1, 6, 30, 31] (by decide) (by simp only [List.length_set, Option.map_some, restrict_eq, renS_nil, renS_cons, renB_els, renB_cel, renB_dead, deep_eq, map_ren_enc, ren_agg', ren_tup', ren_fn', ren_int', ren_bool', ren_str', ren_sl', ren_pro', ren_nilp', ren_nilfn', ren_junk', ren_ptr', ren_row', ren_arow', ren_eptr', vm, List.idxOf?_cons, List.idxOf?_nil, beq_self_eq_true, Option.map_none, List.getD_cons_zero, List.getD_cons_succ, ↓wk, ↓wl, nc, evV, wrapBits_eq, ↓reduceIte, Nat.reduceEqDiff, Nat.reduceAdd, Nat.reduceSub, Nat.reduceLeDiff, Nat.reduceLT, Nat.reduceBEq, reduceCtorEq, Int.reduceEq] <;> rfl)) ?_
      refine Rounds.go ?_
      refine AW.rseq ?_
      try simp only [↓wk, ↓wl, nc, evV, wrapBits_eq, ↓reduceIte, Nat.reduceEqDiff, Nat.reduceAdd, Nat.reduceSub, Nat.reduceLeDiff, Nat.reduceLT, Nat.reduceBEq, reduceCtorEq, Int.reduceEq]
      refine AW.sseq ?_
      refine AW.ift (by rfl) ?_
      refine AW.skip ?_
      refine seqQ.norm ?_
      refine AW.bseq ?_
      refine AW.rseq ?_
      try simp only [↓wk, ↓wl, nc, evV, wrapBits_eq, ↓reduceIte, Nat.reduceEqDiff, Nat.reduceAdd, Nat.reduceSub, Nat.reduceLeDiff, Nat.reduceLT, Nat.reduceBEq, reduceCtorEq, Int.reduceEq]
      refine evTs_any (v := .int .i64 p_1740.fPriority) rfl (by rfl) ?_
      try simp only [↓wk, ↓wl, nc, evV, wrapBits_eq, ↓reduceIte, Nat.reduceEqDiff, Nat.reduceAdd, Nat.reduceSub, Nat.reduceLeDiff, Nat.reduceLT, Nat.reduceBEq, reduceCtorEq, Int.reduceEq]
      refine AW.rend ?_
      try simp only [↓wk, ↓wl, nc, evV, wrapBits_eq, ↓reduceIte, Nat.reduceEqDiff, Nat.reduceAdd, Nat.reduceSub, Nat.reduceLeDiff, Nat.reduceLT, Nat.reduceBEq, reduceCtorEq, Int.reduceEq]
      refine evTs_pure hFn H (fun _ h => f53_ok h) (by rfl) (by rfl) (by rfl) (by rfl) (fun _ => rfl) ?_ <;> clear H <;> intro r_1786 H
      try simp only [eL, ↓wk, ↓wl, nc, evV, wrapBits_eq, ↓reduceIte, Nat.reduceEqDiff, Nat.reduceAdd, Nat.reduceSub, Nat.reduceLeDiff, Nat.reduceLT, Nat.reduceBEq, reduceCtorEq, Int.reduceEq]
      refine rest_cat H ?_ <;> clear H <;> intro v_1787 H
      try simp only [↓wk, ↓wl, nc, evV, wrapBits_eq, ↓reduceIte, Nat.reduceEqDiff, Nat.reduceAdd, Nat.reduceSub, Nat.reduceLeDiff, Nat.reduceLT, Nat.reduceBEq, reduceCtorEq, Int.reduceEq]
      refine blkQ.norm ?_
      refine AW.rend ?_
      try simp only [↓wk, ↓wl, nc, evV, wrapBits_eq, ↓reduceIte, Nat.reduceEqDiff, Nat.reduceAdd, Nat.reduceSub, Nat.reduceLeDiff, Nat.reduceLT, Nat.reduceBEq, reduceCtorEq, Int.reduceEq]
      refine roundQ.next (st2 := ⟨put (put (put (put (fun _ => .junk) 31 (.int .i64 3)) 30 (.agg [.int .i64 (IntKind.i64.wrap p_1740.fSource), .int .i64 p_1740.fUniverse, .int .i64 p_1740.fPriority, .int .i64 p_1740.fSeq, .int .i64 p_1740.fSync, .int .i64 end_1747])) 6 (.str v_1787)) 1 (.ptr 0 0), [.cel [.int .u64 p_1740.fSource, .int .i64 p_1740.fUniverse, .int .i64 p_1740.fPriority, .int .i64 p_1740.fSeq, .int .i64 p_1740.fSync, .bool p_1740.fEnd, .str p_1740.fSlots]]⟩) (Le.none [0] [1, 6, 30, 31] (by decide) (by simp only [List.length_set, Option.map_some, restrict_eq, renS_nil, renS_cons, renB_els, renB_cel, renB_dead, deep_eq, map_ren_enc, ren_agg', ren_tup', ren_fn', ren_int', ren_bool', ren_str', ren_sl', ren_pro', ren_nilp', ren_nilfn', ren_junk', ren_ptr', ren_row', ren_arow', ren_eptr', vm, List.idxOf?_cons, List.idxOf?_nil, beq_self_eq_true, Option.map_none, List.getD_cons_zero, List.getD_cons_succ, ↓wk, ↓wl, nc, evV, wrapBits_eq, ↓reduceIte, Nat.reduceEqDiff, Nat.reduceAdd, Nat.reduceSub, Nat.reduceLeDiff, Nat.reduceLT, Nat.reduceBEq, reduceCtorEq, Int.reduceEq] <;> rfl)) ?_
      refine Rounds.go ?_
      refine AW.rseq ?_
      try simp only [↓wk, ↓wl, nc, evV, wrapBits_eq, ↓reduceIte, Nat.reduceEqDiff, Nat.reduceAdd, Nat.reduceSub, Nat.reduceLeDiff, Nat.reduceLT, Nat.reduceBEq, reduceCtorEq, Int.reduceEq]
      refine AW.sseq ?_
      refine AW.ift (by rfl) ?_
      refine AW.skip ?_
      refine seqQ.norm ?_
      refine AW.bseq ?_
      refine AW.rseq ?_
      try simp only [↓wk, ↓wl, nc, evV, wrapBits_eq, ↓reduceIte, Nat.reduceEqDiff, Nat.reduceAdd, Nat.reduceSub, Nat.reduceLeDiff, Nat.reduceLT, Nat.reduceBEq, reduceCtorEq, Int.reduceEq]
      refine evTs_any (v := .int .i64 p_1740.fSeq) rfl (by rfl) ?_
      try simp only [↓wk, ↓wl, nc, evV, wrapBits_eq, ↓reduceIte, Nat.reduceEqDiff, Nat.reduceAdd, Nat.reduceSub, Nat.reduceLeDiff, Nat.reduceLT, Nat.reduceBEq, reduceCtorEq, Int.reduceEq]
      refine AW.rend ?_
      try simp only [↓wk, ↓wl, nc, evV, wrapBits_eq, ↓reduceIte, Nat.reduceEqDiff, Nat.reduceAdd, Nat.reduceSub, Nat.reduceLeDiff, Nat.reduceLT, Nat.reduceBEq, reduceCtorEq, Int.reduceEq]
      refine evTs_pure hFn H (fun _ h => f53_ok h) (by rfl) (by rfl) (by rfl) (by rfl) (fun _ => rfl) ?_ <;> clear H <;> intro r_1788 H
      try simp only [eL, ↓wk, ↓wl, nc, evV, wrapBits_eq, ↓reduceIte, Nat.reduceEqDiff, Nat.reduceAdd, Nat.reduceSub, Nat.reduceLeDiff, Nat.reduceLT, Nat.reduceBEq, reduceCtorEq, Int.reduceEq]
      refine rest_cat H ?_ <;> clear H <;> intro v_1789 H
      try simp only [↓wk, ↓wl, nc, evV, wrapBits_eq, ↓reduceIte, Nat.reduceEqDiff, Nat.reduceAdd, Nat.reduceSub, Nat.reduceLeDiff, Nat.reduceLT, Nat.reduceBEq, reduceCtorEq, Int.reduceEq]
      refine blkQ.norm ?_
      refine AW.rend ?_
      try simp only [↓wk, ↓wl, nc, evV, wrapBits_eq, ↓reduceIte, Nat.reduceEqDiff, Nat.reduceAdd, Nat.reduceSub, Nat.reduceLeDiff, Nat.reduceLT, Nat.reduceBEq, reduceCtorEq, Int.reduceEq]
      refine roundQ.next (st2 := ⟨put (put (put (put (fun _ => .junk) 31 (.int .i64 4)) 30 (.agg [.int .i64 (IntKind.i64.wrap p_1740.fSource), .int .i64 p_1740.fUniverse, .int .i64 p_1740.fPriority, .int .i64 p_1740.fSeq, .int .i64 p_1740.fSync, .int .i64 end_1747])) 6 (.str v_1789)) 1 (.ptr 0 0), [.cel [.int .u64 p_1740.fSource, .int .i64 p_1740.fUniverse, .int .i64 p_1740.fPriority, .int .i64 p_1740.fSeq, .int .i64 p_1740.fSync, .bool p_1740.fEnd, .str p_1740.fSlots]]⟩) (Le.none [0] [1, 6, 30, 31] (by decide) (by simp only [List.length_set, Option.map_some, restrict_eq, renS_nil, renS_cons, renB_els, renB_cel, renB_dead, deep_eq, map_ren_enc, ren_agg', ren_tup', ren_fn', ren_int', ren_bool', ren_str', ren_sl', ren_pro', ren_nilp', ren_nilfn', ren_junk', ren_ptr', ren_row', ren_arow', ren_eptr', vm, List.idxOf?_cons, List.idxOf?_nil, beq_self_eq_true, Option.map_none, List.getD_cons_zero, List.getD_cons_succ, ↓wk, ↓wl, nc, evV, wrapBits_eq, ↓reduceIte, Nat.reduceEqDiff, Nat.reduceAdd, Nat.reduceSub, Nat.reduceLeDiff, Nat.reduceLT, Nat.reduceBEq, reduceCtorEq, Int.reduceEq] <;> rfl)) ?_
      refine Rounds.go ?_
      refine AW.rseq ?_
      try simp only [↓wk, ↓wl, nc, evV, wrapBits_eq, ↓reduceIte, Nat.reduceEqDiff, Nat.reduceAdd, Nat.reduceSub, Nat.reduceLeDiff, Nat.reduceLT, Nat.reduceBEq, reduceCtorEq, Int.reduceEq]
      refine AW.sseq ?_
      refine AW.ift (by rfl) ?_
      refine AW.skip ?_
      refine seqQ.norm ?_
      refine AW.bseq ?_
      refine AW.rseq ?_
      try simp only [↓wk, ↓wl, nc, evV, wrapBits_eq, ↓reduceIte, Nat.reduceEqDiff, Nat.reduceAdd, Nat.reduceSub, Nat.reduceLeDiff, Nat.reduceLT, Nat.reduceBEq, reduceCtorEq, Int.reduceEq]
      refine evTs_any (v := .int .i64 p_1740.fSync) rfl (by rfl) ?_
      try simp only [↓wk, ↓wl, nc, evV, wrapBits_eq, ↓reduceIte, Nat.reduceEqDiff, Nat.reduceAdd, Nat.reduceSub, Nat.reduceLeDiff, Nat.reduceLT, Nat.reduceBEq, reduceCtorEq, Int.reduceEq]
      refine AW.rend ?_
      try simp only [↓wk, ↓wl, nc, evV, wrapBits_eq, ↓reduceIte, Nat.reduceEqDiff, Nat.reduceAdd, Nat.reduceSub, Nat.reduceLeDiff, Nat.reduceLT, Nat.reduceBEq, reduceCtorEq, Int.reduceEq]
      refine evTs_pure hFn H (fun _ h => f53_ok h) (by rfl) (by rfl) (by rfl) (by rfl) (fun _ => rfl) ?_ <;> clear H <;> intro r_1790 H
      try simp only [eL, ↓wk, ↓wl, nc, evV, wrapBits_eq, ↓reduceIte, Nat.reduceEqDiff, Nat.reduceAdd, Nat.reduceSub, Nat.reduceLeDiff, Nat.reduceLT, Nat.reduceBEq, reduceCtorEq, Int.reduceEq]
      refine rest_cat H ?_ <;> clear H <;> intro v_1791 H
      try simp only [↓wk, ↓wl, nc, evV, wrapBits_eq, ↓reduceIte, Nat.reduceEqDiff, Nat.reduceAdd, Nat.reduceSub, Nat.reduceLeDiff, Nat.reduceLT, Nat.reduceBEq, reduceCtorEq, Int.reduceEq]
      refine blkQ.norm ?_
      refine AW.rend ?_
      try simp only [↓wk, ↓wl, nc, evV, wrapBits_eq, ↓reduceIte, Nat.reduceEqDiff, Nat.reduceAdd, Nat.reduceSub, Nat.reduceLeDiff, Nat.reduceLT, Nat.reduceBEq, reduceCtorEq, Int.reduceEq]
      refine roundQ.next (st2 := ⟨put (put (put (put (fun _ => .junk) 31 (.int .i64 5)) 30 (.agg [.int .i64 (IntKind.i64.wrap p_1740.fSource), .int .i64 p_1740.fUniverse, .int .i64 p_1740.fPriority, .int .i64 p_1740.fSeq, .int .i64 p_1740.fSync, .int .i64 end_1747])) 6 (.str v_1791)) 1 (.ptr 0 0), [.cel [.int .u64 p_1740.fSource, .int .i64 p_1740.fUniverse, .int .i64 p_1740.fPriority, .int .i64 p_1740.fSeq, .int .i64 p_1740.fSync, .bool p_1740.fEnd, .str p_1740.fSlots]]⟩) (Le.none [0] [1, 6, 30, 31] (by decide) (by simp only [List.length_set, Option.map_some, restrict_eq, renS_nil, renS_cons, renB_els, renB_cel, renB_dead, deep_eq, map_ren_enc, ren_agg', ren_tup', ren_fn', ren_int', ren_bool', ren_str', ren_sl', ren_pro', ren_nilp', ren_nilfn', ren_junk', ren_ptr', ren_row', ren_arow', ren_eptr', vm, List.idxOf?_cons, List.idxOf?_nil, beq_self_eq_true, Option.map_none, List.getD_cons_zero, List.getD_cons_succ, ↓wk, ↓wl, nc, evV, wrapBits_eq, ↓reduceIte, Nat.reduceEqDiff, Nat.reduceAdd, Nat.reduceSub, Nat.reduceLeDiff, Nat.reduceLT, Nat.reduceBEq, reduceCtorEq, Int.reduceEq] <;> rfl)) ?_
      refine Rounds.go ?_
      refine AW.rseq ?_
      try simp only [↓wk, ↓wl, nc, evV, wrapBits_eq, ↓reduceIte, Nat.reduceEqDiff, Nat.reduceAdd, Nat.reduceSub, Nat.reduceLeDiff, Nat.reduceLT, Nat.reduceBEq, reduceCtorEq, Int.reduceEq]
      refine AW.sseq ?_
      refine AW.ift (by rfl) ?_
      refine AW.skip ?_
      refine seqQ.norm ?_
      refine AW.bseq ?_
      refine AW.rseq ?_
      try simp only [↓wk, ↓wl, nc, evV, wrapBits_eq, ↓reduceIte, Nat.reduceEqDiff, Nat.reduceAdd, Nat.reduceSub, Nat.reduceLeDiff, Nat.reduceLT, Nat.reduceBEq, reduceCtorEq, Int.reduceEq]
      refine evTs_any (v := .int .i64 end_1747) rfl (by rfl) ?_
      try simp only [↓wk, ↓wl, nc, evV, wrapBits_eq, ↓reduceIte, Nat.reduceEqDiff, Nat.reduceAdd, Nat.reduceSub, Nat.reduceLeDiff, Nat.reduceLT, Nat.reduceBEq, reduceCtorEq, Int.reduceEq]
      refine AW.rend ?_
      try simp only [↓wk, ↓wl, nc, evV, wrapBits_eq, ↓reduceIte, Nat.reduceEqDiff, Nat.reduceAdd, Nat.reduceSub, Nat.reduceLeDiff, Nat.reduceLT, Nat.reduceBEq, reduceCtorEq, Int.reduceEq]
      refine evTs_pure hFn H (fun _ h => f53_ok h) (by rfl) (by rfl) (by rfl) (by rfl) (fun _ => rfl) ?_ <;> clear H <;> intro r_1792 H
      try simp only [eL, ↓wk, ↓wl, nc, evV, wrapBits_eq, ↓reduceIte, Nat.reduceEqDiff, Nat.reduceAdd, Nat.reduceSub, Nat.reduceLeDiff, Nat.reduceLT, Nat.reduceBEq, reduceCtorEq, Int.reduceEq]
      refine rest_cat H ?_ <;> clear H <;> intro v_1793 H
      try simp only [↓wk, ↓wl, nc, evV, wrapBits_eq, ↓reduceIte, Nat.reduceEqDiff, Nat.reduceAdd, Nat.reduceSub, Nat.reduceLeDiff, Nat.reduceLT, Nat.reduceBEq, reduceCtorEq, Int.reduceEq]
      refine blkQ.norm ?_
      refine AW.rend ?_
      try simp only [↓wk, ↓wl, nc, evV, wrapBits_eq, ↓reduceIte, Nat.reduceEqDiff, Nat.reduceAdd, Nat.reduceSub, Nat.reduceLeDiff, Nat.reduceLT, Nat.reduceBEq, reduceCtorEq, Int.reduceEq]
      refine roundQ.next (st2 := ⟨put (put (put (put (fun _ => .junk) 31 (.int .i64 6)) 30 (.agg [.int .i64 (IntKind.i64.wrap p_1740.fSource), .int .i64 p_1740.fUniverse, .int .i64 p_1740.fPriority, .int .i64 p_1740.fSeq, .int .i64 p_1740.fSync, .int .i64 end_1747])) 6 (.str v_1793)) 1 (.ptr 0 0), [.cel [.int .u64 p_1740.fSource, .int .i64 p_1740.fUniverse, .int .i64 p_1740.fPriority, .int .i64 p_1740.fSeq, .int .i64 p_1740.fSync, .bool p_1740.fEnd, .str p_1740.fSlots]]⟩) (Le.none [0] [1, 6, 30, 31] (by decide) (by simp only [List.length_set, Option.map_some, restrict_eq, renS_nil, renS_cons, renB_els, renB_cel, renB_dead, deep_eq, map_ren_enc, ren_agg', ren_tup', ren_fn', ren_int', ren_bool', ren_str', ren_sl', ren_pro', ren_nilp', ren_nilfn', ren_junk', ren_ptr', ren_row', ren_arow', ren_eptr', vm, List.idxOf?_cons, List.idxOf?_nil, beq_self_eq_true, Option.map_none, List.getD_cons_zero, List.getD_cons_succ, ↓wk, ↓wl, nc, evV, wrapBits_eq, ↓reduceIte, Nat.reduceEqDiff, Nat.reduceAdd, Nat.reduceSub, Nat.reduceLeDiff, Nat.reduceLT, Nat.reduceBEq, reduceCtorEq, Int.reduceEq] <;> rfl)) ?_
      refine Rounds.go ?_
      refine AW.rseq ?_
      try simp only [↓wk, ↓wl, nc, evV, wrapBits_eq, ↓reduceIte, Nat.reduceEqDiff, Nat.reduceAdd, Nat.reduceSub, Nat.reduceLeDiff, Nat.reduceLT, Nat.reduceBEq, reduceCtorEq, Int.reduceEq]
      refine AW.sseq ?_
      refine AW.iff (by rfl) ?_
      refine AW.exit ?_
      refine seqQ.exit ?_
      refine roundQ.exit ?_
      refine blk0.here ?_
      refine seqQ.norm ?_
      refine AW.rseq ?_
      try simp only [↓wk, ↓wl, nc, evV, wrapBits_eq, ↓reduceIte, Nat.reduceEqDiff, Nat.reduceAdd, Nat.reduceSub, Nat.reduceLeDiff, Nat.reduceLT, Nat.reduceBEq, reduceCtorEq, Int.reduceEq]
      refine evTs_pure hFn H (fun _ h => f54_ok h) (by rfl) (by rfl) (by rfl) (by rfl) (fun _ => rfl) ?_ <;> clear H <;> intro r_1797 H
      try simp only [eL, ↓wk, ↓wl, nc, evV, wrapBits_eq, ↓reduceIte, Nat.reduceEqDiff, Nat.reduceAdd, Nat.reduceSub, Nat.reduceLeDiff, Nat.reduceLT, Nat.reduceBEq, reduceCtorEq, Int.reduceEq]
      refine AW.sseq ?_
      refine AW.rseq ?_
      try simp only [↓wk, ↓wl, nc, evV, wrapBits_eq, ↓reduceIte, Nat.reduceEqDiff, Nat.reduceAdd, Nat.reduceSub, Nat.reduceLeDiff, Nat.reduceLT, Nat.reduceBEq, reduceCtorEq, Int.reduceEq]
      refine AW.ifc H (by rfl) ?_ ?_ <;> clear H <;> intro H
      · refine AW.rseq ?_
        try simp only [↓wk, ↓wl, nc, evV, wrapBits_eq, ↓reduceIte, Nat.reduceEqDiff, Nat.reduceAdd, Nat.reduceSub, Nat.reduceLeDiff, Nat.reduceLT, Nat.reduceBEq, reduceCtorEq, Int.reduceEq]
        refine AW.ret ?_
        refine seqQ.ret ?_
        cases H
        exact hQ _ _ _ _ (.inr rfl) (by simp only [resVs, omap, resV, ↓wk, ↓wl, nc, evV, wrapBits_eq, ↓reduceIte, Nat.reduceEqDiff, Nat.reduceAdd, Nat.reduceSub, Nat.reduceLeDiff, Nat.reduceLT, Nat.reduceBEq, reduceCtorEq, Int.reduceEq]; rfl) (hand_plain (by rfl)) (by rfl)
      · refine AW.skip ?_
        refine seqQ.norm ?_
        refine AW.rseq ?_
        try simp only [↓wk, ↓wl, nc, evV, wrapBits_eq, ↓reduceIte, Nat.reduceEqDiff, Nat.reduceAdd, Nat.reduceSub, Nat.reduceLeDiff, Nat.reduceLT, Nat.reduceBEq, reduceCtorEq, Int.reduceEq]
        refine rest_cat H ?_ <;> clear H <;> intro v_1798 H
        try simp only [↓wk, ↓wl, nc, evV, wrapBits_eq, ↓reduceIte, Nat.reduceEqDiff, Nat.reduceAdd, Nat.reduceSub, Nat.reduceLeDiff, Nat.reduceLT, Nat.reduceBEq, reduceCtorEq, Int.reduceEq]
        refine evTs_pure hFn H (fun _ h => f55_ok h) (by rfl) (by rfl) (by rfl) (by rfl) (fun _ => rfl) ?_ <;> clear H <;> intro r_1820 H
        try simp only [eL, ↓wk, ↓wl, nc, evV, wrapBits_eq, ↓reduceIte, Nat.reduceEqDiff, Nat.reduceAdd, Nat.reduceSub, Nat.reduceLeDiff, Nat.reduceLT, Nat.reduceBEq, reduceCtorEq, Int.reduceEq]
        refine AW.ret ?_
        cases H
        exact hQ _ _ _ _ (.inr rfl) (by simp only [resVs, omap, resV, ↓wk, ↓wl, nc, evV, wrapBits_eq, ↓reduceIte, Nat.reduceEqDiff, Nat.reduceAdd, Nat.reduceSub, Nat.reduceLeDiff, Nat.reduceLT, Nat.reduceBEq, reduceCtorEq, Int.reduceEq]; rfl) (hand_plain (by rfl)) (by rfl)
    · refine AW.rseq ?_
      try simp only [↓wk, ↓wl, nc, evV, wrapBits_eq, ↓reduceIte, Nat.reduceEqDiff, Nat.reduceAdd, Nat.reduceSub, Nat.reduceLeDiff, Nat.reduceLT, Nat.reduceBEq, reduceCtorEq, Int.reduceEq]
      refine AW.ifc H (by rfl) ?_ ?_ <;> clear H <;> intro H
      · refine AW.rend ?_
        try simp only [↓wk, ↓wl, nc, evV, wrapBits_eq, ↓reduceIte, Nat.reduceEqDiff, Nat.reduceAdd, Nat.reduceSub, Nat.reduceLeDiff, Nat.reduceLT, Nat.reduceBEq, reduceCtorEq, Int.reduceEq]
        refine seqQ.norm ?_
        exact hf31_J1 _ _ H ((Le.none [0] [1, 5] (by decide) (by simp only [f31_J1, List.length_set, Option.map_some, restrict_eq, renS_nil, renS_cons, renB_els, renB_cel, renB_dead, deep_eq, map_ren_enc, ren_agg', ren_tup', ren_fn', ren_int', ren_bool', ren_str', ren_sl', ren_pro', ren_nilp', ren_nilfn', ren_junk', ren_ptr', ren_row', ren_arow', ren_eptr', vm, List.idxOf?_cons, List.idxOf?_nil, beq_self_eq_true, Option.map_none, List.getD_cons_zero, List.getD_cons_succ, ↓wk, ↓wl, nc, evV, wrapBits_eq, ↓reduceIte, Nat.reduceEqDiff, Nat.reduceAdd, Nat.reduceSub, Nat.reduceLeDiff, Nat.reduceLT, Nat.reduceBEq, reduceCtorEq, Int.reduceEq])))
      · refine AW.skip ?_
        refine seqQ.norm ?_
        exact hf31_J1 _ _ H ((Le.none [0] [1, 5] (by decide) (by simp only [f31_J1, List.length_set, Option.map_some, restrict_eq, renS_nil, renS_cons, renB_els, renB_cel, renB_dead, deep_eq, map_ren_enc, ren_agg', ren_tup', ren_fn', ren_int', ren_bool', ren_str', ren_sl', ren_pro', ren_nilp', ren_nilfn', ren_junk', ren_ptr', ren_row', ren_arow', ren_eptr', vm, List.idxOf?_cons, List.idxOf?_nil, beq_self_eq_true, Option.map_none, List.getD_cons_zero, List.getD_cons_succ, ↓wk, ↓wl, nc, evV, wrapBits_eq, ↓reduceIte, Nat.reduceEqDiff, Nat.reduceAdd, Nat.reduceSub, Nat.reduceLeDiff, Nat.reduceLT, Nat.reduceBEq, reduceCtorEq, Int.reduceEq])))
def c39_0 : C := .seq (.reg [iI 3 (.mv (.t 0)), iI 4 (.bin .gtr (.t 3) (.c (.int .u64 0))), iI 5 (.mv (.t 4)), iG (some 6) 5 true (.mv (.t 0)), iG (some 7) 5 true (.bin .lss (.t 6) (.c (.int .u64 281474976710655))), iI 8 (.pick (.t 5) (.t 7) (.c (.bool false))), iI 2 (.mv (.t 8))]) .ret
def ir39 : C := .seq (.reg [iI 2 (.mv (.c (.bool false)))]) c39_0
theorem fd39 : fd? Try.prog 39 = some (9, [.slot 2], ir39) := by kernel_rfl
noncomputable def f39 (id_1824 : Int) : Option (Bool) :=
  (if (decide (0 < id_1824)) = true then (some (decide (id_1824 < 281474976710655))) else (some false))
theorem f39_ok {id_1824 : Int} {r_ : Bool} (H : f39 id_1824 = some r_) : Pure Try.prog 39 [.int .u64 id_1824] (· = .bool r_) := by
  refine Pure.walk2 fd39 none (Nat.le_of_ble_eq_true rfl) (by rfl) fun Q hQ => ?_
  simp only [f39] at H
  refine AW.rseq ?_
  try simp only [↓wk, ↓wl, nc, evV, wrapBits_eq, ↓reduceIte, Nat.reduceEqDiff, Nat.reduceAdd, Nat.reduceSub, Nat.reduceLeDiff, Nat.reduceLT, Nat.reduceBEq, reduceCtorEq, Int.reduceEq]
  refine AW.rseq ?_
  try simp only [↓wk, ↓wl, nc, evV, wrapBits_eq, ↓reduceIte, Nat.reduceEqDiff, Nat.reduceAdd, Nat.reduceSub, Nat.reduceLeDiff, Nat.reduceLT, Nat.reduceBEq, reduceCtorEq, Int.reduceEq]
  refine evTs_ifg H (by rfl) ?_ ?_ <;> clear H <;> intro H
  · try simp only [↓wk, ↓wl, nc, evV, wrapBits_eq, ↓reduceIte, Nat.reduceEqDiff, Nat.reduceAdd, Nat.reduceSub, Nat.reduceLeDiff, Nat.reduceLT, Nat.reduceBEq, reduceCtorEq, Int.reduceEq]
    refine AW.ret ?_
    cases H
    exact hQ _ _ _ _ (.inr rfl) (by simp only [resVs, omap, resV, ↓wk, ↓wl, nc, evV, wrapBits_eq, ↓reduceIte, Nat.reduceEqDiff, Nat.reduceAdd, Nat.reduceSub, Nat.reduceLeDiff, Nat.reduceLT, Nat.reduceBEq, reduceCtorEq, Int.reduceEq]; rfl) (hand_plain (by rfl)) (by rfl)
  · try simp only [↓wk, ↓wl, nc, evV, wrapBits_eq, ↓reduceIte, Nat.reduceEqDiff, Nat.reduceAdd, Nat.reduceSub, Nat.reduceLeDiff, Nat.reduceLT, Nat.reduceBEq, reduceCtorEq, Int.reduceEq]
    refine AW.ret ?_
    cases H
    exact hQ _ _ _ _ (.inr rfl) (by simp only [resVs, omap, resV, ↓wk, ↓wl, nc, evV, wrapBits_eq, ↓reduceIte, Nat.reduceEqDiff, Nat.reduceAdd, Nat.reduceSub, Nat.reduceLeDiff, Nat.reduceLT, Nat.reduceBEq, reduceCtorEq, Int.reduceEq]; rfl) (hand_plain (by rfl)) (by rfl)
def c37_0 : C := .seq (.reg [iI 7 (.mv (.t 1)), iI 8 (.mv (.t 0)), iI 9 (.bin .leq (.t 7) (.t 8)), iI 10 (.mv (.t 9)), iG (some 11) 10 true (.mv (.t 0)), iG (some 12) 10 true (.mv (.t 2)), iG (some 13) 10 true (.bin .leq (.t 11) (.t 12)), iI 14 (.pick (.t 10) (.t 13) (.c (.bool false))), iI 6 (.mv (.t 14))]) .ret
def ir37 : C := .seq (.reg [iI 6 (.mv (.c (.bool false)))]) c37_0
theorem fd37 : fd? Try.prog 37 = some (15, [.slot 6], ir37) := by kernel_rfl
noncomputable def f37 (n_1826 : Int) (low_1827 : Int) (high_1828 : Int) : Option (Bool) :=
  (if (decide (low_1827 ≤ n_1826)) = true then (some (decide (n_1826 ≤ high_1828))) else (some false))
theorem f37_ok {n_1826 : Int} {low_1827 : Int} {high_1828 : Int} {r_ : Bool} (H : f37 n_1826 low_1827 high_1828 = some r_) : Pure Try.prog 37 [.int .i64 n_1826, .int .i64 low_1827, .int .i64 high_1828] (· = .bool r_) := by
  refine Pure.walk2 fd37 none (Nat.le_of_ble_eq_true rfl) (by rfl) fun Q hQ => ?_
  simp only [f37] at H
  refine AW.rseq ?_
  try simp only [↓wk, ↓wl, nc, evV, wrapBits_eq, ↓reduceIte, Nat.reduceEqDiff, Nat.reduceAdd, Nat.reduceSub, Nat.reduceLeDiff, Nat.reduceLT, Nat.reduceBEq, reduceCtorEq, Int.reduceEq]
  refine AW.rseq ?_
  try simp only [↓wk, ↓wl, nc, evV, wrapBits_eq, ↓reduceIte, Nat.reduceEqDiff, Nat.reduceAdd, Nat.reduceSub, Nat.reduceLeDiff, Nat.reduceLT, Nat.reduceBEq, reduceCtorEq, Int.reduceEq]
  refine evTs_ifg H (by rfl) ?_ ?_ <;> clear H <;> intro H
  · try simp only [↓wk, ↓wl, nc, evV, wrapBits_eq, ↓reduceIte, Nat.reduceEqDiff, Nat.reduceAdd, Nat.reduceSub, Nat.reduceLeDiff, Nat.reduceLT, Nat.reduceBEq, reduceCtorEq, Int.reduceEq]
    refine AW.ret ?_
    cases H
    exact hQ _ _ _ _ (.inr rfl) (by simp only [resVs, omap, resV, ↓wk, ↓wl, nc, evV, wrapBits_eq, ↓reduceIte, Nat.reduceEqDiff, Nat.reduceAdd, Nat.reduceSub, Nat.reduceLeDiff, Nat.reduceLT, Nat.reduceBEq, reduceCtorEq, Int.reduceEq]; rfl) (hand_plain (by rfl)) (by rfl)
  · try simp only [↓wk, ↓wl, nc, evV, wrapBits_eq, ↓reduceIte, Nat.reduceEqDiff, Nat.reduceAdd, Nat.reduceSub, Nat.reduceLeDiff, Nat.reduceLT, Nat.reduceBEq, reduceCtorEq, Int.reduceEq]
    refine AW.ret ?_
    cases H
    exact hQ _ _ _ _ (.inr rfl) (by simp only [resVs, omap, resV, ↓wk, ↓wl, nc, evV, wrapBits_eq, ↓reduceIte, Nat.reduceEqDiff, Nat.reduceAdd, Nat.reduceSub, Nat.reduceLeDiff, Nat.reduceLT, Nat.reduceBEq, reduceCtorEq, Int.reduceEq]; rfl) (hand_plain (by rfl)) (by rfl)
def c33_0 : C := .cond (.t 30) (.seq (.reg [iI 2 (.mv (.c (.int .i64 2)))]) .ret) (.skip)
def c33_1 : C := .cond (.t 34) (.seq (.reg [iI 2 (.mv (.c (.int .i64 13)))]) .ret) (.skip)
def c33_2 : C := .cond (.t 51) (.seq (.reg [iI 2 (.mv (.c (.int .i64 3)))]) .ret) (.skip)
def c33_3 : C := .seq (.reg [iI 2 (.mv (.c (.int .i64 0)))]) .ret
def c33_4 : C := .seq (.seq (.reg [iI 35 (.faddr 1 (.t 1)), iI 36 (.load 0 (.t 35)), iI 37 (.bin .eql (.t 36) (.c (.int .i64 0))), iI 38 (.mv (.t 37)), iG (some 39) 38 true (.faddr 4 (.t 1)), iG (some 40) 38 true (.load 0 (.t 39)), iG (some 41) 38 true (.bin .eql (.t 40) (.c (.int .i64 0))), iG (some 42) 38 true (.mv (.t 41)), iG (some 43) 42 false (.faddr 5 (.t 1)), iG (some 44) 42 false (.load 0 (.t 43)), iG (some 45) 38 true (.pick (.t 42) (.c (.bool true)) (.t 44)), iG (some 46) 38 true (.mv (.t 45)), iG (some 47) 46 false (.faddr 6 (.t 1)), iG (some 48) 46 false (.load 0 (.t 47)), iG (some 49) 46 false (.bin .neq (.t 48) (.c (.str []))), iG (some 50) 38 true (.pick (.t 46) (.c (.bool true)) (.t 49)), iI 51 (.pick (.t 38) (.t 50) (.c (.bool false)))]) c33_2) c33_3
def c33_5 : C := .seq (.seq (.reg [iI 31 (.faddr 6 (.t 1)), iI 32 (.load 0 (.t 31)), iI 33 (.len 1 (.t 32)), iI 34 (.bin .gtr (.t 33) (.c (.int .i64 512)))]) c33_1) c33_4
def c33_6 : C := .seq (.seq (.reg [iI 3 (.faddr 0 (.t 1)), iI 4 (.load 0 (.t 3)), iI 5 (.call (.c (.fn 39 [])) [(.t 4)]), iI 6 (.un .not (.t 5)), iI 7 (.mv (.t 6)), iG (some 8) 7 false (.faddr 1 (.t 1)), iG (some 9) 7 false (.load 0 (.t 8)), iG (some 10) 7 false (.call (.c (.fn 37 [])) [(.t 9), (.c (.int .i64 0)), (.c (.int .i64 8))]), iG (some 11) 7 false (.un .not (.t 10)), iI 12 (.pick (.t 7) (.c (.bool true)) (.t 11)), iI 13 (.mv (.t 12)), iG (some 14) 13 false (.faddr 2 (.t 1)), iG (some 15) 13 false (.load 0 (.t 14)), iG (some 16) 13 false (.call (.c (.fn 37 [])) [(.t 15), (.c (.int .i64 0)), (.c (.int .i64 200))]), iG (some 17) 13 false (.un .not (.t 16)), iI 18 (.pick (.t 13) (.c (.bool true)) (.t 17)), iI 19 (.mv (.t 18)), iG (some 20) 19 false (.faddr 3 (.t 1)), iG (some 21) 19 false (.load 0 (.t 20)), iG (some 22) 19 false (.call (.c (.fn 37 [])) [(.t 21), (.c (.int .i64 0)), (.c (.int .i64 255))]), iG (some 23) 19 false (.un .not (.t 22)), iI 24 (.pick (.t 19) (.c (.bool true)) (.t 23)), iI 25 (.mv (.t 24)), iG (some 26) 25 false (.faddr 4 (.t 1)), iG (some 27) 25 false (.load 0 (.t 26)), iG (some 28) 25 false (.call (.c (.fn 37 [])) [(.t 27), (.c (.int .i64 0)), (.c (.int .i64 8))]), iG (some 29) 25 false (.un .not (.t 28)), iI 30 (.pick (.t 25) (.c (.bool true)) (.t 29))]) c33_0) c33_5
def ir33 : C := .seq (.reg [iI 1 (.box (.t 0)), iI 2 (.mv (.c (.int .i64 0)))]) c33_6
theorem fd33 : fd? Try.prog 33 = some (52, [.slot 2], ir33) := by kernel_rfl
noncomputable def f33 (p_1823 : Ref56Packet) : Option (Int) :=
  (f39 p_1823.fSource).bind fun r_1833 => (if (!r_1833) = true then (some 2) else (f37 p_1823.fUniverse 0 8).bind fun r_1834 => (if (!r_1834) = true then (some 2) else (f37 p_1823.fPriority 0 200).bind fun r_1835 => (if (!r_1835) = true then (some 2) else (f37 p_1823.fSeq 0 255).bind fun r_1836 => (if (!r_1836) = true then (some 2) else (f37 p_1823.fSync 0 8).bind fun r_1837 => (if (!r_1837) = true then (some 2) else (if (decide (512 < ((p_1823.fSlots.length : Nat) : Int))) = true then (some 13) else (if (decide (p_1823.fUniverse = 0)) = true then (if (decide (p_1823.fSync = 0)) = true then (some 3) else (if p_1823.fEnd = true then (some 3) else (if (!(p_1823.fSlots == ([]))) = true then (some 3) else (some 0)))) else (some 0))))))))
theorem f33_ok {p_1823 : Ref56Packet} {r_ : Int} (H : f33 p_1823 = some r_) : Pure Try.prog 33 [.agg [.int .u64 p_1823.fSource, .int .i64 p_1823.fUniverse, .int .i64 p_1823.fPriority, .int .i64 p_1823.fSeq, .int .i64 p_1823.fSync, .bool p_1823.fEnd, .str p_1823.fSlots]] (· = .int .i64 r_) := by
  refine Pure.walk2 fd33 none (Nat.le_of_ble_eq_true rfl) (by rfl) fun Q hQ => ?_
  simp only [f33] at H
  refine AW.rseq ?_
  try simp only [↓wk, ↓wl, nc, evV, wrapBits_eq, ↓reduceIte, Nat.reduceEqDiff, Nat.reduceAdd, Nat.reduceSub, Nat.reduceLeDiff, Nat.reduceLT, Nat.reduceBEq, reduceCtorEq, Int.reduceEq]
  refine AW.sseq ?_
  refine AW.rseq ?_
  try simp only [↓wk, ↓wl, nc, evV, wrapBits_eq, ↓reduceIte, Nat.reduceEqDiff, Nat.reduceAdd, Nat.reduceSub, Nat.reduceLeDiff, Nat.reduceLT, Nat.reduceBEq, reduceCtorEq, Int.reduceEq]
  refine evTs_pure hFn H (fun _ h => f39_ok h) (by rfl) (by rfl) (by rfl) (by rfl) (fun _ => rfl) ?_ <;> clear H <;> intro r_1833 H
  try simp only [eL, ↓wk, ↓wl, nc, evV, wrapBits_eq, ↓reduceIte, Nat.reduceEqDiff, Nat.reduceAdd, Nat.reduceSub, Nat.reduceLeDiff, Nat.reduceLT, Nat.reduceBEq, reduceCtorEq, Int.reduceEq]
  refine evTs_ifg H (by rfl) ?_ ?_ <;> clear H <;> intro H
  · try simp only [↓wk, ↓wl, nc, evV, wrapBits_eq, ↓reduceIte, Nat.reduceEqDiff, Nat.reduceAdd, Nat.reduceSub, Nat.reduceLeDiff, Nat.reduceLT, Nat.reduceBEq, reduceCtorEq, Int.reduceEq]
    refine AW.ift (by rfl) ?_
    refine AW.rseq ?_
    try simp only [↓wk, ↓wl, nc, evV, wrapBits_eq, ↓reduceIte, Nat.reduceEqDiff, Nat.reduceAdd, Nat.reduceSub, Nat.reduceLeDiff, Nat.reduceLT, Nat.reduceBEq, reduceCtorEq, Int.reduceEq]
    refine AW.ret ?_
    refine seqQ.ret ?_
    cases H
    exact hQ _ _ _ _ (.inr rfl) (by simp only [resVs, omap, resV, ↓wk, ↓wl, nc, evV, wrapBits_eq, ↓reduceIte, Nat.reduceEqDiff, Nat.reduceAdd, Nat.reduceSub, Nat.reduceLeDiff, Nat.reduceLT, Nat.reduceBEq, reduceCtorEq, Int.reduceEq]; rfl) (hand_plain (by rfl)) (by rfl)
  · try simp only [↓wk, ↓wl, nc, evV, wrapBits_eq, ↓reduceIte, Nat.reduceEqDiff, Nat.reduceAdd, Nat.reduceSub, Nat.reduceLeDiff, Nat.reduceLT, Nat.reduceBEq, reduceCtorEq, Int.reduceEq]
    refine evTs_pure hFn H (fun _ h => f37_ok h) (by rfl) (by rfl) (by rfl) (by rfl) (fun _ => rfl) ?_ <;> clear H <;> intro r_1834 H
    try simp only [eL, ↓wk, ↓wl, nc, evV, wrapBits_eq, ↓reduceIte, Nat.reduceEqDiff, Nat.reduceAdd, Nat.reduceSub, Nat.reduceLeDiff, Nat.reduceLT, Nat.reduceBEq, reduceCtorEq, Int.reduceEq]
    refine evTs_ifg H (by rfl) ?_ ?_ <;> clear H <;> intro H
    · try simp only [↓wk, ↓wl, nc, evV, wrapBits_eq, ↓reduceIte, Nat.reduceEqDiff, Nat.reduceAdd, Nat.reduceSub, Nat.reduceLeDiff, Nat.reduceLT, Nat.reduceBEq, reduceCtorEq, Int.reduceEq]
      refine AW.ift (by rfl) ?_
      refine AW.rseq ?_
      try simp only [↓wk, ↓wl, nc, evV, wrapBits_eq, ↓reduceIte, Nat.reduceEqDiff, Nat.reduceAdd, Nat.reduceSub, Nat.reduceLeDiff, Nat.reduceLT, Nat.reduceBEq, reduceCtorEq, Int.reduceEq]
      refine AW.ret ?_
      refine seqQ.ret ?_
      cases H
      exact hQ _ _ _ _ (.inr rfl) (by simp only [resVs, omap, resV, ↓wk, ↓wl, nc, evV, wrapBits_eq, ↓reduceIte, Nat.reduceEqDiff, Nat.reduceAdd, Nat.reduceSub, Nat.reduceLeDiff, Nat.reduceLT, Nat.reduceBEq, reduceCtorEq, Int.reduceEq]; rfl) (hand_plain (by rfl)) (by rfl)
    · try simp only [↓wk, ↓wl, nc, evV, wrapBits_eq, ↓reduceIte, Nat.reduceEqDiff, Nat.reduceAdd, Nat.reduceSub, Nat.reduceLeDiff, Nat.reduceLT, Nat.reduceBEq, reduceCtorEq, Int.reduceEq]
      refine evTs_pure hFn H (fun _ h => f37_ok h) (by rfl) (by rfl) (by rfl) (by rfl) (fun _ => rfl) ?_ <;> clear H <;> intro r_1835 H
      try simp only [eL, ↓wk, ↓wl, nc, evV, wrapBits_eq, ↓reduceIte, Nat.reduceEqDiff, Nat.reduceAdd, Nat.reduceSub, Nat.reduceLeDiff, Nat.reduceLT, Nat.reduceBEq, reduceCtorEq, Int.reduceEq]
      refine evTs_ifg H (by rfl) ?_ ?_ <;> clear H <;> intro H
      · try simp only [↓wk, ↓wl, nc, evV, wrapBits_eq, ↓reduceIte, Nat.reduceEqDiff, Nat.reduceAdd, Nat.reduceSub, Nat.reduceLeDiff, Nat.reduceLT, Nat.reduceBEq, reduceCtorEq, Int.reduceEq]
        refine AW.ift (by rfl) ?_
        refine AW.rseq ?_
        try simp only [↓wk, ↓wl, nc, evV, wrapBits_eq, ↓reduceIte, Nat.reduceEqDiff, Nat.reduceAdd, Nat.reduceSub, Nat.reduceLeDiff, Nat.reduceLT, Nat.reduceBEq, reduceCtorEq, Int.reduceEq]
        refine AW.ret ?_
        refine seqQ.ret ?_
        cases H
        exact hQ _ _ _ _ (.inr rfl) (by simp only [resVs, omap, resV, ↓wk, ↓wl, nc, evV, wrapBits_eq, ↓reduceIte, Nat.reduceEqDiff, Nat.reduceAdd, Nat.reduceSub, Nat.reduceLeDiff, Nat.reduceLT, Nat.reduceBEq, reduceCtorEq, Int.reduceEq]; rfl) (hand_plain (by rfl)) (by rfl)
      · try simp only [↓wk, ↓wl, nc, evV, wrapBits_eq, ↓reduceIte, Nat.reduceEqDiff, Nat.reduceAdd, Nat.reduceSub, Nat.reduceLeDiff, Nat.reduceLT, Nat.reduceBEq, reduceCtorEq, Int.reduceEq]
        refine evTs_pure hFn H (fun _ h => f37_ok h) (by rfl) (by rfl) (by rfl) (by rfl) (fun _ => rfl) ?_ <;> clear H <;> intro r_1836 H
        try simp only [eL, ↓wk, ↓wl, nc, evV, wrapBits_eq, ↓reduceIte, Nat.reduceEqDiff, Nat.reduceAdd, Nat.reduceSub, Nat.reduceLeDiff, Nat.reduceLT, Nat.reduceBEq, reduceCtorEq, Int.reduceEq]
        refine evTs_ifg H (by rfl) ?_ ?_ <;> clear H <;> intro H
        · try simp only [↓wk, ↓wl, nc, evV, wrapBits_eq, ↓reduceIte, Nat.reduceEqDiff, Nat.reduceAdd, Nat.reduceSub, Nat.reduceLeDiff, Nat.reduceLT, Nat.reduceBEq, reduceCtorEq, Int.reduceEq]
          refine AW.ift (by rfl) ?_
          refine AW.rseq ?_
          try simp only [↓wk, ↓wl, nc, evV, wrapBits_eq, ↓reduceIte, Nat.reduceEqDiff, Nat.reduceAdd, Nat.reduceSub, Nat.reduceLeDiff, Nat.reduceLT, Nat.reduceBEq, reduceCtorEq, Int.reduceEq]
          refine AW.ret ?_
          refine seqQ.ret ?_
          cases H
          exact hQ _ _ _ _ (.inr rfl) (by simp only [resVs, omap, resV, ↓wk, ↓wl, nc, evV, wrapBits_eq, ↓reduceIte, Nat.reduceEqDiff, Nat.reduceAdd, Nat.reduceSub, Nat.reduceLeDiff, Nat.reduceLT, Nat.reduceBEq, reduceCtorEq, Int.reduceEq]; rfl) (hand_plain (by rfl)) (by rfl)
        · try simp only [↓wk, ↓wl, nc, evV, wrapBits_eq, ↓reduceIte, Nat.reduceEqDiff, Nat.reduceAdd, Nat.reduceSub, Nat.reduceLeDiff, Nat.reduceLT, Nat.reduceBEq, reduceCtorEq, Int.reduceEq]
          refine evTs_pure hFn H (fun _ h => f37_ok h) (by rfl) (by rfl) (by rfl) (by rfl) (fun _ => rfl) ?_ <;> clear H <;> intro r_1837 H
          try simp only [eL, ↓wk, ↓wl, nc, evV, wrapBits_eq, ↓reduceIte, Nat.reduceEqDiff, Nat.reduceAdd, Nat.reduceSub, Nat.reduceLeDiff, Nat.reduceLT, Nat.reduceBEq, reduceCtorEq, Int.reduceEq]
          refine AW.ifc H (by rfl) ?_ ?_ <;> clear H <;> intro H
          · refine AW.rseq ?_
            try simp only [↓wk, ↓wl, nc, evV, wrapBits_eq, ↓reduceIte, Nat.reduceEqDiff, Nat.reduceAdd, Nat.reduceSub, Nat.reduceLeDiff, Nat.reduceLT, Nat.reduceBEq, reduceCtorEq, Int.reduceEq]
            refine AW.ret ?_
            refine seqQ.ret ?_
            cases H
            exact hQ _ _ _ _ (.inr rfl) (by simp only [resVs, omap, resV, ↓wk, ↓wl, nc, evV, wrapBits_eq, ↓reduceIte, Nat.reduceEqDiff, Nat.reduceAdd, Nat.reduceSub, Nat.reduceLeDiff, Nat.reduceLT, Nat.reduceBEq, reduceCtorEq, Int.reduceEq]; rfl) (hand_plain (by rfl)) (by rfl)
          · refine AW.skip ?_
            refine seqQ.norm ?_
            refine AW.sseq ?_
            refine AW.rseq ?_
            try simp only [↓wk, ↓wl, nc, evV, wrapBits_eq, ↓reduceIte, Nat.reduceEqDiff, Nat.reduceAdd, Nat.reduceSub, Nat.reduceLeDiff, Nat.reduceLT, Nat.reduceBEq, reduceCtorEq, Int.reduceEq]
            refine AW.ifc H (by rfl) ?_ ?_ <;> clear H <;> intro H
            · refine AW.rseq ?_
              try simp only [↓wk, ↓wl, nc, evV, wrapBits_eq, ↓reduceIte, Nat.reduceEqDiff, Nat.reduceAdd, Nat.reduceSub, Nat.reduceLeDiff, Nat.reduceLT, Nat.reduceBEq, reduceCtorEq, Int.reduceEq]
              refine AW.ret ?_
              refine seqQ.ret ?_
              cases H
              exact hQ _ _ _ _ (.inr rfl) (by simp only [resVs, omap, resV, ↓wk, ↓wl, nc, evV, wrapBits_eq, ↓reduceIte, Nat.reduceEqDiff, Nat.reduceAdd, Nat.reduceSub, Nat.reduceLeDiff, Nat.reduceLT, Nat.reduceBEq, reduceCtorEq, Int.reduceEq]; rfl) (hand_plain (by rfl)) (by rfl)
            · refine AW.skip ?_
              refine seqQ.norm ?_
              refine AW.sseq ?_
              refine AW.rseq ?_
              try simp only [↓wk, ↓wl, nc, evV, wrapBits_eq, ↓reduceIte, Nat.reduceEqDiff, Nat.reduceAdd, Nat.reduceSub, Nat.reduceLeDiff, Nat.reduceLT, Nat.reduceBEq, reduceCtorEq, Int.reduceEq]
              refine evTs_ifg H (by rfl) ?_ ?_ <;> clear H <;> intro H
              · try simp only [↓wk, ↓wl, nc, evV, wrapBits_eq, ↓reduceIte, Nat.reduceEqDiff, Nat.reduceAdd, Nat.reduceSub, Nat.reduceLeDiff, Nat.reduceLT, Nat.reduceBEq, reduceCtorEq, Int.reduceEq]
                refine evTs_ifg H (by rfl) ?_ ?_ <;> clear H <;> intro H
                · try simp only [↓wk, ↓wl, nc, evV, wrapBits_eq, ↓reduceIte, Nat.reduceEqDiff, Nat.reduceAdd, Nat.reduceSub, Nat.reduceLeDiff, Nat.reduceLT, Nat.reduceBEq, reduceCtorEq, Int.reduceEq]
                  refine AW.ift (by rfl) ?_
                  refine AW.rseq ?_
                  try simp only [↓wk, ↓wl, nc, evV, wrapBits_eq, ↓reduceIte, Nat.reduceEqDiff, Nat.reduceAdd, Nat.reduceSub, Nat.reduceLeDiff, Nat.reduceLT, Nat.reduceBEq, reduceCtorEq, Int.reduceEq]
                  refine AW.ret ?_
                  refine seqQ.ret ?_
                  cases H
                  exact hQ _ _ _ _ (.inr rfl) (by simp only [resVs, omap, resV, ↓wk, ↓wl, nc, evV, wrapBits_eq, ↓reduceIte, Nat.reduceEqDiff, Nat.reduceAdd, Nat.reduceSub, Nat.reduceLeDiff, Nat.reduceLT, Nat.reduceBEq, reduceCtorEq, Int.reduceEq]; rfl) (hand_plain (by rfl)) (by rfl)
                · try simp only [↓wk, ↓wl, nc, evV, wrapBits_eq, ↓reduceIte, Nat.reduceEqDiff, Nat.reduceAdd, Nat.reduceSub, Nat.reduceLeDiff, Nat.reduceLT, Nat.reduceBEq, reduceCtorEq, Int.reduceEq]
                  refine evTs_ifg H (by rfl) ?_ ?_ <;> clear H <;> intro H
                  · try simp only [↓wk, ↓wl, nc, evV, wrapBits_eq, ↓reduceIte, Nat.reduceEqDiff, Nat.reduceAdd, Nat.reduceSub, Nat.reduceLeDiff, Nat.reduceLT, Nat.reduceBEq, reduceCtorEq, Int.reduceEq]
                    refine AW.ift (by rfl) ?_
                    refine AW.rseq ?_
                    try simp only [↓wk, ↓wl, nc, evV, wrapBits_eq, ↓reduceIte, Nat.reduceEqDiff, Nat.reduceAdd, Nat.reduceSub, Nat.reduceLeDiff, Nat.reduceLT, Nat.reduceBEq, reduceCtorEq, Int.reduceEq]
                    refine AW.ret ?_
                    refine seqQ.ret ?_
                    cases H
                    exact hQ _ _ _ _ (.inr rfl) (by simp only [resVs, omap, resV, ↓wk, ↓wl, nc, evV, wrapBits_eq, ↓reduceIte, Nat.reduceEqDiff, Nat.reduceAdd, Nat.reduceSub, Nat.reduceLeDiff, Nat.reduceLT, Nat.reduceBEq, reduceCtorEq, Int.reduceEq]; rfl) (hand_plain (by rfl)) (by rfl)
                  · try simp only [↓wk, ↓wl, nc, evV, wrapBits_eq, ↓reduceIte, Nat.reduceEqDiff, Nat.reduceAdd, Nat.reduceSub, Nat.reduceLeDiff, Nat.reduceLT, Nat.reduceBEq, reduceCtorEq, Int.reduceEq]
                    refine AW.ifc H (by rfl) ?_ ?_ <;> clear H <;> intro H
                    · refine AW.rseq ?_
                      try simp only [↓wk, ↓wl, nc, evV, wrapBits_eq, ↓reduceIte, Nat.reduceEqDiff, Nat.reduceAdd, Nat.reduceSub, Nat.reduceLeDiff, Nat.reduceLT, Nat.reduceBEq, reduceCtorEq, Int.reduceEq]
                      refine AW.ret ?_
                      refine seqQ.ret ?_
                      cases H
                      exact hQ _ _ _ _ (.inr rfl) (by simp only [resVs, omap, resV, ↓wk, ↓wl, nc, evV, wrapBits_eq, ↓reduceIte, Nat.reduceEqDiff, Nat.reduceAdd, Nat.reduceSub, Nat.reduceLeDiff, Nat.reduceLT, Nat.reduceBEq, reduceCtorEq, Int.reduceEq]; rfl) (hand_plain (by rfl)) (by rfl)
                    · refine AW.skip ?_
                      refine seqQ.norm ?_
                      refine AW.rseq ?_
                      try simp only [↓wk, ↓wl, nc, evV, wrapBits_eq, ↓reduceIte, Nat.reduceEqDiff, Nat.reduceAdd, Nat.reduceSub, Nat.reduceLeDiff, Nat.reduceLT, Nat.reduceBEq, reduceCtorEq, Int.reduceEq]
                      refine AW.ret ?_
                      cases H
                      exact hQ _ _ _ _ (.inr rfl) (by simp only [resVs, omap, resV, ↓wk, ↓wl, nc, evV, wrapBits_eq, ↓reduceIte, Nat.reduceEqDiff, Nat.reduceAdd, Nat.reduceSub, Nat.reduceLeDiff, Nat.reduceLT, Nat.reduceBEq, reduceCtorEq, Int.reduceEq]; rfl) (hand_plain (by rfl)) (by rfl)
              · try simp only [↓wk, ↓wl, nc, evV, wrapBits_eq, ↓reduceIte, Nat.reduceEqDiff, Nat.reduceAdd, Nat.reduceSub, Nat.reduceLeDiff, Nat.reduceLT, Nat.reduceBEq, reduceCtorEq, Int.reduceEq]
                refine AW.iff (by rfl) ?_
                refine AW.skip ?_
                refine seqQ.norm ?_
                refine AW.rseq ?_
                try simp only [↓wk, ↓wl, nc, evV, wrapBits_eq, ↓reduceIte, Nat.reduceEqDiff, Nat.reduceAdd, Nat.reduceSub, Nat.reduceLeDiff, Nat.reduceLT, Nat.reduceBEq, reduceCtorEq, Int.reduceEq]
                refine AW.ret ?_
                cases H
                exact hQ _ _ _ _ (.inr rfl) (by simp only [resVs, omap, resV, ↓wk, ↓wl, nc, evV, wrapBits_eq, ↓reduceIte, Nat.reduceEqDiff, Nat.reduceAdd, Nat.reduceSub, Nat.reduceLeDiff, Nat.reduceLT, Nat.reduceBEq, reduceCtorEq, Int.reduceEq]; rfl) (hand_plain (by rfl)) (by rfl)
def c98_0 : C := .seq (.reg [iI 3 (.mv (.t 0)), iI 4 (.cint .u8 (.t 3)), iI 5 (.mkslp 0 1 (.int .u8 0) [(0, (.t 4))]), iI 6 (.cstr (.t 5)), iI 2 (.mv (.t 6))]) .ret
def ir98 : C := .seq (.reg [iI 2 (.mv (.c (.str [])))]) c98_0
theorem fd98 : fd? Try.prog 98 = some (7, [.slot 2], ir98) := by kernel_rfl
noncomputable def f98 (n_1844 : Int) : Option ((List UInt8)) :=
  (some (([(IntKind.u8.wrap n_1844)]).map b8))
theorem f98_ok {n_1844 : Int} {r_ : (List UInt8)} (H : f98 n_1844 = some r_) : Pure Try.prog 98 [.int .i64 n_1844] (· = .str r_) := by
  refine Pure.walk2 fd98 none (Nat.le_of_ble_eq_true rfl) (by rfl) fun Q hQ => ?_
  simp only [f98] at H
  refine AW.rseq ?_
  try simp only [↓wk, ↓wl, nc, evV, wrapBits_eq, ↓reduceIte, Nat.reduceEqDiff, Nat.reduceAdd, Nat.reduceSub, Nat.reduceLeDiff, Nat.reduceLT, Nat.reduceBEq, reduceCtorEq, Int.reduceEq]
  refine AW.rseq ?_
  try simp only [↓wk, ↓wl, nc, evV, wrapBits_eq, ↓reduceIte, Nat.reduceEqDiff, Nat.reduceAdd, Nat.reduceSub, Nat.reduceLeDiff, Nat.reduceLT, Nat.reduceBEq, reduceCtorEq, Int.reduceEq]
  refine evTs_cstr (xs := [(IntKind.u8.wrap n_1844)]) (by rfl) ?_
  try simp only [↓wk, ↓wl, nc, evV, wrapBits_eq, ↓reduceIte, Nat.reduceEqDiff, Nat.reduceAdd, Nat.reduceSub, Nat.reduceLeDiff, Nat.reduceLT, Nat.reduceBEq, reduceCtorEq, Int.reduceEq]
  refine AW.ret ?_
  cases H
  exact hQ _ _ _ _ (.inr rfl) (by simp only [resVs, omap, resV, ↓wk, ↓wl, nc, evV, wrapBits_eq, ↓reduceIte, Nat.reduceEqDiff, Nat.reduceAdd, Nat.reduceSub, Nat.reduceLeDiff, Nat.reduceLT, Nat.reduceBEq, reduceCtorEq, Int.reduceEq]; rfl) (hand_plain (by rfl)) (by rfl)
noncomputable def f79_L2 : Lp (Int × (List UInt8)) (Int × (List UInt8)) where
  body := fun (z_1851, out_1852) => (if (decide (128 ≤ z_1851)) = true then (f98 (IntKind.i64.wrap ((IntKind.i64.wrap (z_1851.tmod 128)) + 128))).bind fun r_1859 => (cat? out_1852 r_1859).bind fun v_1860 => (some (.next ((IntKind.u64.wrap (z_1851.tdiv 128)), v_1860))) else (some (.brk (z_1851, out_1852))))
  cst := fun (z_1851, out_1852) => ⟨put (put (fun _ => .junk) 4 (.str out_1852)) 3 (.int .u64 z_1851), []⟩
noncomputable def f79_J1 : Jn (Int) ((List UInt8)) where
  run := fun z_1843 => (Lp.run (f79_L2) (z_1843, [])).bind fun (z_1855, out_1856) => (f98 (IntKind.i64.wrap z_1855)).bind fun r_1857 => (cat? out_1856 r_1857).bind fun v_1858 => (some v_1858)
  cst := fun z_1843 => ⟨put (fun _ => .junk) 3 (.int .u64 z_1843), []⟩
def c79_0 : C := .cond (.t 9) (.reg [iI 10 (.mv (.t 3)), iI 11 (.un .xor (.t 10)), iI 3 (.mv (.t 11))]) (.skip)
def c79_1 : C := .cond (.t 13) (.skip) (.exit 0)
def c79_2 : C := .reg [iI 21 (.mv (.t 3)), iI 22 (.bin .quo (.t 21) (.c (.int .u64 128))), iI 3 (.mv (.t 22))]
def c79_3 : C := .block 1 (.seq (.reg [iI 14 (.mv (.t 4)), iI 15 (.mv (.t 3)), iI 16 (.bin .rem (.t 15) (.c (.int .u64 128))), iI 17 (.cint .i64 (.t 16)), iI 18 (.bin .add (.t 17) (.c (.int .i64 128))), iI 19 (.call (.c (.fn 98 [])) [(.t 18)]), iI 20 (.bin .add (.t 14) (.t 19)), iI 4 (.mv (.t 20))]) c79_2)
def c79_4 : C := .seq (.reg [iI 23 (.mv (.t 4)), iI 24 (.mv (.t 3)), iI 25 (.cint .i64 (.t 24)), iI 26 (.call (.c (.fn 98 [])) [(.t 25)]), iI 27 (.bin .add (.t 23) (.t 26)), iI 2 (.mv (.t 27))]) .ret
def c79_5 : C := .seq (.block 0 (.loop (.seq (.seq (.reg [iI 12 (.mv (.t 3)), iI 13 (.bin .geq (.t 12) (.c (.int .u64 128)))]) c79_1) c79_3))) c79_4
def c79_6 : C := .seq (.reg [iI 4 (.mv (.c (.str [])))]) c79_5
def c79_7 : C := .seq (.seq (.reg [iI 8 (.mv (.t 0)), iI 9 (.bin .lss (.t 8) (.c (.int .i64 0)))]) c79_0) c79_6
def c79_8 : C := .seq (.reg [iI 5 (.mv (.t 0)), iI 6 (.cint .u64 (.t 5)), iI 7 (.bin .shl (.t 6) (.c (.int .u64 1))), iI 3 (.mv (.t 7))]) c79_7
def ir79 : C := .seq (.reg [iI 2 (.mv (.c (.str [])))]) c79_8
theorem fd79 : fd? Try.prog 79 = some (28, [.slot 2], ir79) := by kernel_rfl
noncomputable def f79 (n_1842 : Int) : Option ((List UInt8)) :=
  (if (decide (n_1842 < 0)) = true then ((f79_J1).run (IntKind.u64.wrap ((BitVec.ofInt (IntKind.bits .u64) (if IntKind.signed .u64 = true then -1 else IntKind.max .u64) ^^^ BitVec.ofInt (IntKind.bits .u64) (IntKind.u64.wrap ((IntKind.u64.wrap n_1842) * 2 ^ (min (Int.toNat 1) (IntKind.bits .u64))))).toNat : Int))) else ((f79_J1).run (IntKind.u64.wrap ((IntKind.u64.wrap n_1842) * 2 ^ (min (Int.toNat 1) (IntKind.bits .u64))))))
theorem f79_ok {n_1842 : Int} {r_ : (List UInt8)} (H : f79 n_1842 = some r_) : Pure Try.prog 79 [.int .i64 n_1842] (· = .str r_) := by
  refine Pure.walk2 fd79 none (Nat.le_of_ble_eq_true rfl) (by rfl) fun Q hQ => ?_
  simp only [f79] at H
  refine AW.rseq ?_
  try simp only [↓wk, ↓wl, nc, evV, wrapBits_eq, ↓reduceIte, Nat.reduceEqDiff, Nat.reduceAdd, Nat.reduceSub, Nat.reduceLeDiff, Nat.reduceLT, Nat.reduceBEq, reduceCtorEq, Int.reduceEq]
  refine AW.rseq ?_
  try simp only [↓wk, ↓wl, nc, evV, wrapBits_eq, ↓reduceIte, Nat.reduceEqDiff, Nat.reduceAdd, Nat.reduceSub, Nat.reduceLeDiff, Nat.reduceLT, Nat.reduceBEq, reduceCtorEq, Int.reduceEq]
  refine rest_shl (by decide) ?_
  try simp only [↓wk, ↓wl, nc, evV, wrapBits_eq, ↓reduceIte, Nat.reduceEqDiff, Nat.reduceAdd, Nat.reduceSub, Nat.reduceLeDiff, Nat.reduceLT, Nat.reduceBEq, reduceCtorEq, Int.reduceEq]
  refine AW.join (f79_J1) H ?_ fun hf79_J1 => ?_
  · clear H
    rintro z_1843 st0_ H hst_
    simp only [f79_J1] at H hst_
    subst hst_
    refine AW.rseq ?_
    try simp only [↓wk, ↓wl, nc, evV, wrapBits_eq, ↓reduceIte, Nat.reduceEqDiff, Nat.reduceAdd, Nat.reduceSub, Nat.reduceLeDiff, Nat.reduceLT, Nat.reduceBEq, reduceCtorEq, Int.reduceEq]
    refine AW.bseq ?_
    refine AW.iter H ((Le.none [] [3, 4] (by decide) (by simp only [f79_L2, List.length_set, Option.map_some, restrict_eq, renS_nil, renS_cons, renB_els, renB_cel, renB_dead, deep_eq, map_ren_enc, ren_agg', ren_tup', ren_fn', ren_int', ren_bool', ren_str', ren_sl', ren_pro', ren_nilp', ren_nilfn', ren_junk', ren_ptr', ren_row', ren_arow', ren_eptr', vm, List.idxOf?_cons, List.idxOf?_nil, beq_self_eq_true, Option.map_none, List.getD_cons_zero, List.getD_cons_succ, ↓wk, ↓wl, nc, evV, wrapBits_eq, ↓reduceIte, Nat.reduceEqDiff, Nat.reduceAdd, Nat.reduceSub, Nat.reduceLeDiff, Nat.reduceLT, Nat.reduceBEq, reduceCtorEq, Int.reduceEq]))) ?_ <;> clear H
    rintro ⟨z_1851, out_1852⟩ x_ st0_ H hst_
    simp only [f79_L2] at H hst_
    subst hst_
    refine AW.sseq ?_
    refine AW.rseq ?_
    try simp only [↓wk, ↓wl, nc, evV, wrapBits_eq, ↓reduceIte, Nat.reduceEqDiff, Nat.reduceAdd, Nat.reduceSub, Nat.reduceLeDiff, Nat.reduceLT, Nat.reduceBEq, reduceCtorEq, Int.reduceEq]
    refine AW.ifc H (by rfl) ?_ ?_ <;> clear H <;> intro H
    · refine AW.skip ?_
      refine seqQ.norm ?_
      refine AW.bend ?_
      refine AW.rseq ?_
      try simp only [↓wk, ↓wl, nc, evV, wrapBits_eq, ↓reduceIte, Nat.reduceEqDiff, Nat.reduceAdd, Nat.reduceSub, Nat.reduceLeDiff, Nat.reduceLT, Nat.reduceBEq, reduceCtorEq, Int.reduceEq]
      refine evTs_pure hFn H (fun _ h => f98_ok h) (by rfl) (by rfl) (by rfl) (by rfl) (fun _ => rfl) ?_ <;> clear H <;> intro r_1859 H
      try simp only [eL, ↓wk, ↓wl, nc, evV, wrapBits_eq, ↓reduceIte, Nat.reduceEqDiff, Nat.reduceAdd, Nat.reduceSub, Nat.reduceLeDiff, Nat.reduceLT, Nat.reduceBEq, reduceCtorEq, Int.reduceEq]
      refine rest_cat H ?_ <;> clear H <;> intro v_1860 H
      try simp only [↓wk, ↓wl, nc, evV, wrapBits_eq, ↓reduceIte, Nat.reduceEqDiff, Nat.reduceAdd, Nat.reduceSub, Nat.reduceLeDiff, Nat.reduceLT, Nat.reduceBEq, reduceCtorEq, Int.reduceEq]
      refine AW.rend ?_
      try simp only [↓wk, ↓wl, nc, evV, wrapBits_eq, ↓reduceIte, Nat.reduceEqDiff, Nat.reduceAdd, Nat.reduceSub, Nat.reduceLeDiff, Nat.reduceLT, Nat.reduceBEq, reduceCtorEq, Int.reduceEq]
      refine blk0.norm ?_
      exact loopQ.next H ((Le.none [] [3, 4] (by decide) (by simp only [f79_L2, List.length_set, Option.map_some, restrict_eq, renS_nil, renS_cons, renB_els, renB_cel, renB_dead, deep_eq, map_ren_enc, ren_agg', ren_tup', ren_fn', ren_int', ren_bool', ren_str', ren_sl', ren_pro', ren_nilp', ren_nilfn', ren_junk', ren_ptr', ren_row', ren_arow', ren_eptr', vm, List.idxOf?_cons, List.idxOf?_nil, beq_self_eq_true, Option.map_none, List.getD_cons_zero, List.getD_cons_succ, ↓wk, ↓wl, nc, evV, wrapBits_eq, ↓reduceIte, Nat.reduceEqDiff, Nat.reduceAdd, Nat.reduceSub, Nat.reduceLeDiff, Nat.reduceLT, Nat.reduceBEq, reduceCtorEq, Int.reduceEq])))
    · refine AW.exit ?_
      refine seqQ.exit ?_
      refine loopQ.exit H ?_ <;> clear H <;> intro H
      try dsimp only at H
      refine blkQ.here ?_
      refine AW.rseq ?_
      try simp only [↓wk, ↓wl, nc, evV, wrapBits_eq, ↓reduceIte, Nat.reduceEqDiff, Nat.reduceAdd, Nat.reduceSub, Nat.reduceLeDiff, Nat.reduceLT, Nat.reduceBEq, reduceCtorEq, Int.reduceEq]
      refine evTs_pure hFn H (fun _ h => f98_ok h) (by rfl) (by rfl) (by rfl) (by rfl) (fun _ => rfl) ?_ <;> clear H <;> intro r_1861 H
      try simp only [eL, ↓wk, ↓wl, nc, evV, wrapBits_eq, ↓reduceIte, Nat.reduceEqDiff, Nat.reduceAdd, Nat.reduceSub, Nat.reduceLeDiff, Nat.reduceLT, Nat.reduceBEq, reduceCtorEq, Int.reduceEq]
      refine rest_cat H ?_ <;> clear H <;> intro v_1862 H
      try simp only [↓wk, ↓wl, nc, evV, wrapBits_eq, ↓reduceIte, Nat.reduceEqDiff, Nat.reduceAdd, Nat.reduceSub, Nat.reduceLeDiff, Nat.reduceLT, Nat.reduceBEq, reduceCtorEq, Int.reduceEq]
      refine AW.ret ?_
      cases H
      exact hQ _ _ _ _ (.inr rfl) (by simp only [resVs, omap, resV, ↓wk, ↓wl, nc, evV, wrapBits_eq, ↓reduceIte, Nat.reduceEqDiff, Nat.reduceAdd, Nat.reduceSub, Nat.reduceLeDiff, Nat.reduceLT, Nat.reduceBEq, reduceCtorEq, Int.reduceEq]; rfl) (hand_plain (by rfl)) (by rfl)
  · refine AW.rseq ?_
    try simp only [↓wk, ↓wl, nc, evV, wrapBits_eq, ↓reduceIte, Nat.reduceEqDiff, Nat.reduceAdd, Nat.reduceSub, Nat.reduceLeDiff, Nat.reduceLT, Nat.reduceBEq, reduceCtorEq, Int.reduceEq]
    refine AW.ifc H (by rfl) ?_ ?_ <;> clear H <;> intro H
    · refine AW.rend ?_
      try simp only [↓wk, ↓wl, nc, evV, wrapBits_eq, ↓reduceIte, Nat.reduceEqDiff, Nat.reduceAdd, Nat.reduceSub, Nat.reduceLeDiff, Nat.reduceLT, Nat.reduceBEq, reduceCtorEq, Int.reduceEq]
      refine seqQ.norm ?_
      exact hf79_J1 _ _ H ((Le.none [] [3] (by decide) (by simp only [f79_J1, List.length_set, Option.map_some, restrict_eq, renS_nil, renS_cons, renB_els, renB_cel, renB_dead, deep_eq, map_ren_enc, ren_agg', ren_tup', ren_fn', ren_int', ren_bool', ren_str', ren_sl', ren_pro', ren_nilp', ren_nilfn', ren_junk', ren_ptr', ren_row', ren_arow', ren_eptr', vm, List.idxOf?_cons, List.idxOf?_nil, beq_self_eq_true, Option.map_none, List.getD_cons_zero, List.getD_cons_succ, ↓wk, ↓wl, nc, evV, wrapBits_eq, ↓reduceIte, Nat.reduceEqDiff, Nat.reduceAdd, Nat.reduceSub, Nat.reduceLeDiff, Nat.reduceLT, Nat.reduceBEq, reduceCtorEq, Int.reduceEq])))
    · refine AW.skip ?_
      refine seqQ.norm ?_
      exact hf79_J1 _ _ H ((Le.none [] [3] (by decide) (by simp only [f79_J1, List.length_set, Option.map_some, restrict_eq, renS_nil, renS_cons, renB_els, renB_cel, renB_dead, deep_eq, map_ren_enc, ren_agg', ren_tup', ren_fn', ren_int', ren_bool', ren_str', ren_sl', ren_pro', ren_nilp', ren_nilfn', ren_junk', ren_ptr', ren_row', ren_arow', ren_eptr', vm, List.idxOf?_cons, List.idxOf?_nil, beq_self_eq_true, Option.map_none, List.getD_cons_zero, List.getD_cons_succ, ↓wk, ↓wl, nc, evV, wrapBits_eq, ↓reduceIte, Nat.reduceEqDiff, Nat.reduceAdd, Nat.reduceSub, Nat.reduceLeDiff, Nat.reduceLT, Nat.reduceBEq, reduceCtorEq, Int.reduceEq])))
def c78_0 : C := .cond (.t 6) (.seq (.reg [iI 2 (.mv (.c (.str []))), iI 3 (.mv (.c (.int .i64 13)))]) .ret) (.skip)
def c78_1 : C := .seq (.reg [iI 7 (.mv (.t 0)), iI 8 (.len 1 (.t 7)), iI 9 (.call (.c (.fn 79 [])) [(.t 8)]), iI 10 (.mv (.t 0)), iI 11 (.bin .add (.t 9) (.t 10)), iI 2 (.mv (.t 11)), iI 3 (.mv (.c (.int .i64 0)))]) .ret
def c78_2 : C := .seq (.seq (.reg [iI 4 (.mv (.t 0)), iI 5 (.len 1 (.t 4)), iI 6 (.bin .gtr (.t 5) (.c (.int .i64 65535)))]) c78_0) c78_1
def ir78 : C := .seq (.reg [iI 2 (.mv (.c (.str []))), iI 3 (.mv (.c (.int .i64 0)))]) c78_2
theorem fd78 : fd? Try.prog 78 = some (12, [.slot 2, .slot 3], ir78) := by kernel_rfl
noncomputable def f78 (t_1841 : (List UInt8)) : Option ((List UInt8) × Int) :=
  (if (decide (65535 < ((t_1841.length : Nat) : Int))) = true then (some ([], 13)) else (f79 ((t_1841.length : Nat) : Int)).bind fun r_1863 => (cat? r_1863 t_1841).bind fun v_1864 => (some (v_1864, 0)))
theorem f78_ok {t_1841 : (List UInt8)} {r_ : (List UInt8) × Int} (H : f78 t_1841 = some r_) : Pure Try.prog 78 [.str t_1841] (· = .tup [.str r_.1, .int .i64 r_.2]) := by
  refine Pure.walk2 fd78 none (Nat.le_of_ble_eq_true rfl) (by rfl) fun Q hQ => ?_
  simp only [f78] at H
  refine AW.rseq ?_
  try simp only [↓wk, ↓wl, nc, evV, wrapBits_eq, ↓reduceIte, Nat.reduceEqDiff, Nat.reduceAdd, Nat.reduceSub, Nat.reduceLeDiff, Nat.reduceLT, Nat.reduceBEq, reduceCtorEq, Int.reduceEq]
  refine AW.sseq ?_
  refine AW.rseq ?_
  try simp only [↓wk, ↓wl, nc, evV, wrapBits_eq, ↓reduceIte, Nat.reduceEqDiff, Nat.reduceAdd, Nat.reduceSub, Nat.reduceLeDiff, Nat.reduceLT, Nat.reduceBEq, reduceCtorEq, Int.reduceEq]
  refine AW.ifc H (by rfl) ?_ ?_ <;> clear H <;> intro H
  · refine AW.rseq ?_
    try simp only [↓wk, ↓wl, nc, evV, wrapBits_eq, ↓reduceIte, Nat.reduceEqDiff, Nat.reduceAdd, Nat.reduceSub, Nat.reduceLeDiff, Nat.reduceLT, Nat.reduceBEq, reduceCtorEq, Int.reduceEq]
    refine AW.ret ?_
    refine seqQ.ret ?_
    cases H
    exact hQ _ _ _ _ (.inr rfl) (by simp only [resVs, omap, resV, ↓wk, ↓wl, nc, evV, wrapBits_eq, ↓reduceIte, Nat.reduceEqDiff, Nat.reduceAdd, Nat.reduceSub, Nat.reduceLeDiff, Nat.reduceLT, Nat.reduceBEq, reduceCtorEq, Int.reduceEq]; rfl) (hand_plain (by rfl)) (by rfl)
  · refine AW.skip ?_
    refine seqQ.norm ?_
    refine AW.rseq ?_
    try simp only [↓wk, ↓wl, nc, evV, wrapBits_eq, ↓reduceIte, Nat.reduceEqDiff, Nat.reduceAdd, Nat.reduceSub, Nat.reduceLeDiff, Nat.reduceLT, Nat.reduceBEq, reduceCtorEq, Int.reduceEq]
    refine evTs_pure hFn H (fun _ h => f79_ok h) (by rfl) (by rfl) (by rfl) (by rfl) (fun _ => rfl) ?_ <;> clear H <;> intro r_1863 H
    try simp only [eL, ↓wk, ↓wl, nc, evV, wrapBits_eq, ↓reduceIte, Nat.reduceEqDiff, Nat.reduceAdd, Nat.reduceSub, Nat.reduceLeDiff, Nat.reduceLT, Nat.reduceBEq, reduceCtorEq, Int.reduceEq]
    refine rest_cat H ?_ <;> clear H <;> intro v_1864 H
    try simp only [↓wk, ↓wl, nc, evV, wrapBits_eq, ↓reduceIte, Nat.reduceEqDiff, Nat.reduceAdd, Nat.reduceSub, Nat.reduceLeDiff, Nat.reduceLT, Nat.reduceBEq, reduceCtorEq, Int.reduceEq]
    refine AW.ret ?_
    cases H
    exact hQ _ _ _ _ (.inr rfl) (by simp only [resVs, omap, resV, ↓wk, ↓wl, nc, evV, wrapBits_eq, ↓reduceIte, Nat.reduceEqDiff, Nat.reduceAdd, Nat.reduceSub, Nat.reduceLeDiff, Nat.reduceLT, Nat.reduceBEq, reduceCtorEq, Int.reduceEq]; rfl) (hand_plain (by rfl)) (by rfl)
def c87_0 : C := .seq (.reg [iI 3 (.mv (.t 0)), iI 4 (.bin .quo (.t 3) (.c (.int .i64 256))), iI 5 (.call (.c (.fn 98 [])) [(.t 4)]), iI 6 (.mv (.t 0)), iI 7 (.bin .rem (.t 6) (.c (.int .i64 256))), iI 8 (.call (.c (.fn 98 [])) [(.t 7)]), iI 9 (.bin .add (.t 5) (.t 8)), iI 2 (.mv (.t 9))]) .ret
def ir87 : C := .seq (.reg [iI 2 (.mv (.c (.str [])))]) c87_0
theorem fd87 : fd? Try.prog 87 = some (10, [.slot 2], ir87) := by kernel_rfl
noncomputable def f87 (n_1880 : Int) : Option ((List UInt8)) :=
  (f98 (IntKind.i64.wrap (n_1880.tdiv 256))).bind fun r_1881 => (f98 (n_1880.tmod 256)).bind fun r_1882 => (cat? r_1881 r_1882).bind fun v_1883 => (some v_1883)
theorem f87_ok {n_1880 : Int} {r_ : (List UInt8)} (H : f87 n_1880 = some r_) : Pure Try.prog 87 [.int .i64 n_1880] (· = .str r_) := by
  refine Pure.walk2 fd87 none (Nat.le_of_ble_eq_true rfl) (by rfl) fun Q hQ => ?_
  simp only [f87] at H
  refine AW.rseq ?_
  try simp only [↓wk, ↓wl, nc, evV, wrapBits_eq, ↓reduceIte, Nat.reduceEqDiff, Nat.reduceAdd, Nat.reduceSub, Nat.reduceLeDiff, Nat.reduceLT, Nat.reduceBEq, reduceCtorEq, Int.reduceEq]
  refine AW.rseq ?_
  try simp only [↓wk, ↓wl, nc, evV, wrapBits_eq, ↓reduceIte, Nat.reduceEqDiff, Nat.reduceAdd, Nat.reduceSub, Nat.reduceLeDiff, Nat.reduceLT, Nat.reduceBEq, reduceCtorEq, Int.reduceEq]
  refine evTs_pure hFn H (fun _ h => f98_ok h) (by rfl) (by rfl) (by rfl) (by rfl) (fun _ => rfl) ?_ <;> clear H <;> intro r_1881 H
  try simp only [eL, ↓wk, ↓wl, nc, evV, wrapBits_eq, ↓reduceIte, Nat.reduceEqDiff, Nat.reduceAdd, Nat.reduceSub, Nat.reduceLeDiff, Nat.reduceLT, Nat.reduceBEq, reduceCtorEq, Int.reduceEq]
  refine evTs_pure hFn H (fun _ h => f98_ok h) (by rfl) (by rfl) (by rfl) (by rfl) (fun _ => rfl) ?_ <;> clear H <;> intro r_1882 H
  try simp only [eL, ↓wk, ↓wl, nc, evV, wrapBits_eq, ↓reduceIte, Nat.reduceEqDiff, Nat.reduceAdd, Nat.reduceSub, Nat.reduceLeDiff, Nat.reduceLT, Nat.reduceBEq, reduceCtorEq, Int.reduceEq]
  refine rest_cat H ?_ <;> clear H <;> intro v_1883 H
  try simp only [↓wk, ↓wl, nc, evV, wrapBits_eq, ↓reduceIte, Nat.reduceEqDiff, Nat.reduceAdd, Nat.reduceSub, Nat.reduceLeDiff, Nat.reduceLT, Nat.reduceBEq, reduceCtorEq, Int.reduceEq]
  refine AW.ret ?_
  cases H
  exact hQ _ _ _ _ (.inr rfl) (by simp only [resVs, omap, resV, ↓wk, ↓wl, nc, evV, wrapBits_eq, ↓reduceIte, Nat.reduceEqDiff, Nat.reduceAdd, Nat.reduceSub, Nat.reduceLeDiff, Nat.reduceLT, Nat.reduceBEq, reduceCtorEq, Int.reduceEq]; rfl) (hand_plain (by rfl)) (by rfl)
noncomputable def f88_L1 (s_1887 : (List UInt8)) : Lp (Int × Int × Int) (Int × Int) where
  body := fun (a_1893, b_1894, i_1895) => (if (decide (i_1895 < ((s_1887.length : Nat) : Int))) = true then (at? s_1887 i_1895).bind fun b_1899 => (some (.next (((IntKind.i64.wrap (a_1893 + (IntKind.i64.wrap (b_1899.toNat : Int)))).tmod 255), ((IntKind.i64.wrap (b_1894 + ((IntKind.i64.wrap (a_1893 + (IntKind.i64.wrap (b_1899.toNat : Int)))).tmod 255))).tmod 255), (IntKind.i64.wrap (i_1895 + 1))))) else (some (.brk (a_1893, b_1894))))
  cst := fun (a_1893, b_1894, i_1895) => ⟨put (put (put (put (fun _ => .junk) 5 (.int .i64 i_1895)) 4 (.int .i64 b_1894)) 3 (.int .i64 a_1893)) 0 (.str s_1887), []⟩
def c88_0 : C := .cond (.t 9) (.skip) (.exit 0)
def c88_1 : C := .reg [iI 19 (.mv (.t 4)), iI 20 (.mv (.t 3)), iI 21 (.bin .add (.t 19) (.t 20)), iI 22 (.bin .rem (.t 21) (.c (.int .i64 255))), iI 4 (.mv (.t 22))]
def c88_2 : C := .reg [iI 10 (.mv (.t 5)), iI 11 (.bin .add (.t 10) (.c (.int .i64 1))), iI 5 (.mv (.t 11))]
def c88_3 : C := .seq (.block 1 (.seq (.reg [iI 12 (.mv (.t 3)), iI 13 (.mv (.t 0)), iI 14 (.mv (.t 5)), iI 15 (.sidx (.t 13) (.t 14)), iI 16 (.cint .i64 (.t 15)), iI 17 (.bin .add (.t 12) (.t 16)), iI 18 (.bin .rem (.t 17) (.c (.int .i64 255))), iI 3 (.mv (.t 18))]) c88_1)) c88_2
def c88_4 : C := .block 0 (.loop (.seq (.seq (.reg [iI 6 (.mv (.t 5)), iI 7 (.mv (.t 0)), iI 8 (.len 1 (.t 7)), iI 9 (.bin .lss (.t 6) (.t 8))]) c88_0) c88_3))
def c88_5 : C := .seq (.reg [iI 23 (.mv (.t 4)), iI 24 (.bin .mul (.c (.int .i64 256)) (.t 23)), iI 25 (.mv (.t 3)), iI 26 (.bin .add (.t 24) (.t 25)), iI 2 (.mv (.t 26))]) .ret
def c88_6 : C := .seq (.seq (.reg [iI 5 (.mv (.c (.int .i64 0)))]) c88_4) c88_5
def c88_7 : C := .seq (.reg [iI 3 (.mv (.c (.int .i64 0))), iI 4 (.mv (.c (.int .i64 0)))]) c88_6
def ir88 : C := .seq (.reg [iI 2 (.mv (.c (.int .i64 0)))]) c88_7
theorem fd88 : fd? Try.prog 88 = some (27, [.slot 2], ir88) := by kernel_rfl
noncomputable def f88 (s_1887 : (List UInt8)) : Option (Int) :=
  (Lp.run (f88_L1 s_1887) (0, 0, 0)).bind fun (a_1897, b_1898) => (some (IntKind.i64.wrap ((IntKind.i64.wrap (256 * b_1898)) + a_1897)))
theorem f88_ok {s_1887 : (List UInt8)} {r_ : Int} (H : f88 s_1887 = some r_) : Pure Try.prog 88 [.str s_1887] (· = .int .i64 r_) := by
  refine Pure.walk2 fd88 none (Nat.le_of_ble_eq_true rfl) (by rfl) fun Q hQ => ?_
  simp only [f88] at H
  refine AW.rseq ?_
  try simp only [↓wk, ↓wl, nc, evV, wrapBits_eq, ↓reduceIte, Nat.reduceEqDiff, Nat.reduceAdd, Nat.reduceSub, Nat.reduceLeDiff, Nat.reduceLT, Nat.reduceBEq, reduceCtorEq, Int.reduceEq]
  refine AW.rseq ?_
  try simp only [↓wk, ↓wl, nc, evV, wrapBits_eq, ↓reduceIte, Nat.reduceEqDiff, Nat.reduceAdd, Nat.reduceSub, Nat.reduceLeDiff, Nat.reduceLT, Nat.reduceBEq, reduceCtorEq, Int.reduceEq]
  refine AW.sseq ?_
  refine AW.rseq ?_
  try simp only [↓wk, ↓wl, nc, evV, wrapBits_eq, ↓reduceIte, Nat.reduceEqDiff, Nat.reduceAdd, Nat.reduceSub, Nat.reduceLeDiff, Nat.reduceLT, Nat.reduceBEq, reduceCtorEq, Int.reduceEq]
  refine AW.bend ?_
  refine AW.iter H ((Le.none [] [0, 3, 4, 5] (by decide) (by simp only [f88_L1, List.length_set, Option.map_some, restrict_eq, renS_nil, renS_cons, renB_els, renB_cel, renB_dead, deep_eq, map_ren_enc, ren_agg', ren_tup', ren_fn', ren_int', ren_bool', ren_str', ren_sl', ren_pro', ren_nilp', ren_nilfn', ren_junk', ren_ptr', ren_row', ren_arow', ren_eptr', vm, List.idxOf?_cons, List.idxOf?_nil, beq_self_eq_true, Option.map_none, List.getD_cons_zero, List.getD_cons_succ, ↓wk, ↓wl, nc, evV, wrapBits_eq, ↓reduceIte, Nat.reduceEqDiff, Nat.reduceAdd, Nat.reduceSub, Nat.reduceLeDiff, Nat.reduceLT, Nat.reduceBEq, reduceCtorEq, Int.reduceEq]))) ?_ <;> clear H
  rintro ⟨a_1893, b_1894, i_1895⟩ x_ st0_ H hst_
  simp only [f88_L1] at H hst_
  subst hst_
  refine AW.sseq ?_
  refine AW.rseq ?_
  try simp only [↓wk, ↓wl, nc, evV, wrapBits_eq, ↓reduceIte, Nat.reduceEqDiff, Nat.reduceAdd, Nat.reduceSub, Nat.reduceLeDiff, Nat.reduceLT, Nat.reduceBEq, reduceCtorEq, Int.reduceEq]
  refine AW.ifc H (by rfl) ?_ ?_ <;> clear H <;> intro H
  · refine AW.skip ?_
    refine seqQ.norm ?_
    refine AW.bseq ?_
    refine AW.rseq ?_
    try simp only [↓wk, ↓wl, nc, evV, wrapBits_eq, ↓reduceIte, Nat.reduceEqDiff, Nat.reduceAdd, Nat.reduceSub, Nat.reduceLeDiff, Nat.reduceLT, Nat.reduceBEq, reduceCtorEq, Int.reduceEq]
    refine evTs_sat H (by rfl) (by rfl) ?_ <;> clear H <;> intro b_1899 H
    try simp only [↓wk, ↓wl, nc, evV, wrapBits_eq, ↓reduceIte, Nat.reduceEqDiff, Nat.reduceAdd, Nat.reduceSub, Nat.reduceLeDiff, Nat.reduceLT, Nat.reduceBEq, reduceCtorEq, Int.reduceEq]
    refine AW.rend ?_
    try simp only [↓wk, ↓wl, nc, evV, wrapBits_eq, ↓reduceIte, Nat.reduceEqDiff, Nat.reduceAdd, Nat.reduceSub, Nat.reduceLeDiff, Nat.reduceLT, Nat.reduceBEq, reduceCtorEq, Int.reduceEq]
    refine blkQ.norm ?_
    refine AW.rend ?_
    try simp only [↓wk, ↓wl, nc, evV, wrapBits_eq, ↓reduceIte, Nat.reduceEqDiff, Nat.reduceAdd, Nat.reduceSub, Nat.reduceLeDiff, Nat.reduceLT, Nat.reduceBEq, reduceCtorEq, Int.reduceEq]
    exact loopQ.next H ((Le.none [] [0, 3, 4, 5] (by decide) (by simp only [f88_L1, List.length_set, Option.map_some, restrict_eq, renS_nil, renS_cons, renB_els, renB_cel, renB_dead, deep_eq, map_ren_enc, ren_agg', ren_tup', ren_fn', ren_int', ren_bool', ren_str', ren_sl', ren_pro', ren_nilp', ren_nilfn', ren_junk', ren_ptr', ren_row', ren_arow', ren_eptr', vm, List.idxOf?_cons, List.idxOf?_nil, beq_self_eq_true, Option.map_none, List.getD_cons_zero, List.getD_cons_succ, ↓wk, ↓wl, nc, evV, wrapBits_eq, ↓reduceIte, Nat.reduceEqDiff, Nat.reduceAdd, Nat.reduceSub, Nat.reduceLeDiff, Nat.reduceLT, Nat.reduceBEq, reduceCtorEq, Int.reduceEq])))
  · refine AW.exit ?_
    refine seqQ.exit ?_
    refine loopQ.exit H ?_ <;> clear H <;> intro H
    try dsimp only at H
    refine blk0.here ?_
    refine seqQ.norm ?_
    refine AW.rseq ?_
    try simp only [↓wk, ↓wl, nc, evV, wrapBits_eq, ↓reduceIte, Nat.reduceEqDiff, Nat.reduceAdd, Nat.reduceSub, Nat.reduceLeDiff, Nat.reduceLT, Nat.reduceBEq, reduceCtorEq, Int.reduceEq]
    refine AW.ret ?_
    cases H
    exact hQ _ _ _ _ (.inr rfl) (by simp only [resVs, omap, resV, ↓wk, ↓wl, nc, evV, wrapBits_eq, ↓reduceIte, Nat.reduceEqDiff, Nat.reduceAdd, Nat.reduceSub, Nat.reduceLeDiff, Nat.reduceLT, Nat.reduceBEq, reduceCtorEq, Int.reduceEq]; rfl) (hand_plain (by rfl)) (by rfl)
def c80_0 : C := .seq (.reg [iI 15 (.mv (.t 3)), iI 16 (.mv (.t 3)), iI 17 (.call (.c (.fn 88 [])) [(.t 16)]), iI 18 (.call (.c (.fn 87 [])) [(.t 17)]), iI 19 (.bin .add (.t 15) (.t 18)), iI 2 (.mv (.t 19))]) .ret
def c80_1 : C := .seq (.regq [iI 4 (.faddr 0 (.t 1)), iI 5 (.load 0 (.t 4)), iI 6 (.call (.c (.fn 98 [])) [(.t 5)]), iI 7 (.faddr 1 (.t 1)), iI 8 (.load 0 (.t 7)), iI 9 (.len 1 (.t 8)), iI 10 (.call (.c (.fn 87 [])) [(.t 9)]), iI 11 (.bin .add (.t 6) (.t 10)), iI 12 (.faddr 1 (.t 1)), iI 13 (.load 0 (.t 12)), iI 14 (.bin .add (.t 11) (.t 13)), iI 3 (.mv (.t 14))]) c80_0
def ir80 : C := .seq (.reg [iI 1 (.box (.t 0)), iI 2 (.mv (.c (.str [])))]) c80_1
theorem fd80 : fd? Try.prog 80 = some (20, [.slot 2], ir80) := by kernel_rfl
noncomputable def f80 (x_1878 : Ref08Entry) : Option ((List UInt8)) :=
  (f98 x_1878.fKind).bind fun r_1879 => (f87 ((x_1878.fData.length : Nat) : Int)).bind fun r_1884 => (cat? r_1879 r_1884).bind fun v_1885 => (cat? v_1885 x_1878.fData).bind fun v_1886 => (f88 v_1886).bind fun r_1900 => (f87 r_1900).bind fun r_1901 => (cat? v_1886 r_1901).bind fun v_1902 => (some v_1902)
theorem f80_ok {x_1878 : Ref08Entry} {r_ : (List UInt8)} (H : f80 x_1878 = some r_) : Pure Try.prog 80 [.agg [.int .i64 x_1878.fKind, .str x_1878.fData]] (· = .str r_) := by
  refine Pure.walk2 fd80 none (Nat.le_of_ble_eq_true rfl) (by rfl) fun Q hQ => ?_
  simp only [f80] at H
  refine AW.rseq ?_
  try simp only [↓wk, ↓wl, nc, evV, wrapBits_eq, ↓reduceIte, Nat.reduceEqDiff, Nat.reduceAdd, Nat.reduceSub, Nat.reduceLeDiff, Nat.reduceLT, Nat.reduceBEq, reduceCtorEq, Int.reduceEq]
  refine AW.rqseq ?_
  try simp only [↓wk, ↓wl, nc, evV, wrapBits_eq, ↓reduceIte, Nat.reduceEqDiff, Nat.reduceAdd, Nat.reduceSub, Nat.reduceLeDiff, Nat.reduceLT, Nat.reduceBEq, reduceCtorEq, Int.reduceEq]
  refine evTs_pure hFnq H (fun _ h => f98_ok h) (by rfl) (by rfl) (by rfl) (by rfl) (fun _ => rfl) ?_ <;> clear H <;> intro r_1879 H
  try simp only [eL, ↓wk, ↓wl, nc, evV, wrapBits_eq, ↓reduceIte, Nat.reduceEqDiff, Nat.reduceAdd, Nat.reduceSub, Nat.reduceLeDiff, Nat.reduceLT, Nat.reduceBEq, reduceCtorEq, Int.reduceEq]
  refine evTs_pure hFnq H (fun _ h => f87_ok h) (by rfl) (by rfl) (by rfl) (by rfl) (fun _ => rfl) ?_ <;> clear H <;> intro r_1884 H
  try simp only [eL, ↓wk, ↓wl, nc, evV, wrapBits_eq, ↓reduceIte, Nat.reduceEqDiff, Nat.reduceAdd, Nat.reduceSub, Nat.reduceLeDiff, Nat.reduceLT, Nat.reduceBEq, reduceCtorEq, Int.reduceEq]
  refine rest_cat H ?_ <;> clear H <;> intro v_1885 H
  try simp only [↓wk, ↓wl, nc, evV, wrapBits_eq, ↓reduceIte, Nat.reduceEqDiff, Nat.reduceAdd, Nat.reduceSub, Nat.reduceLeDiff, Nat.reduceLT, Nat.reduceBEq, reduceCtorEq, Int.reduceEq]
  refine rest_cat H ?_ <;> clear H <;> intro v_1886 H
  try simp only [↓wk, ↓wl, nc, evV, wrapBits_eq, ↓reduceIte, Nat.reduceEqDiff, Nat.reduceAdd, Nat.reduceSub, Nat.reduceLeDiff, Nat.reduceLT, Nat.reduceBEq, reduceCtorEq, Int.reduceEq]
  refine AW.rseq ?_
  try simp only [↓wk, ↓wl, nc, evV, wrapBits_eq, ↓reduceIte, Nat.reduceEqDiff, Nat.reduceAdd, Nat.reduceSub, Nat.reduceLeDiff, Nat.reduceLT, Nat.reduceBEq, reduceCtorEq, Int.reduceEq]
  refine evTs_pure hFn H (fun _ h => f88_ok h) (by rfl) (by rfl) (by rfl) (by rfl) (fun _ => rfl) ?_ <;> clear H <;> intro r_1900 H
  try simp only [eL, ↓wk, ↓wl, nc, evV, wrapBits_eq, ↓reduceIte, Nat.reduceEqDiff, Nat.reduceAdd, Nat.reduceSub, Nat.reduceLeDiff, Nat.reduceLT, Nat.reduceBEq, reduceCtorEq, Int.reduceEq]
  refine evTs_pure hFn H (fun _ h => f87_ok h) (by rfl) (by rfl) (by rfl) (by rfl) (fun _ => rfl) ?_ <;> clear H <;> intro r_1901 H
  try simp only [eL, ↓wk, ↓wl, nc, evV, wrapBits_eq, ↓reduceIte, Nat.reduceEqDiff, Nat.reduceAdd, Nat.reduceSub, Nat.reduceLeDiff, Nat.reduceLT, Nat.reduceBEq, reduceCtorEq, Int.reduceEq]
  refine rest_cat H ?_ <;> clear H <;> intro v_1902 H
  try simp only [↓wk, ↓wl, nc, evV, wrapBits_eq, ↓reduceIte, Nat.reduceEqDiff, Nat.reduceAdd, Nat.reduceSub, Nat.reduceLeDiff, Nat.reduceLT, Nat.reduceBEq, reduceCtorEq, Int.reduceEq]
  refine AW.ret ?_
  cases H
  exact hQ _ _ _ _ (.inr rfl) (by simp only [resVs, omap, resV, ↓wk, ↓wl, nc, evV, wrapBits_eq, ↓reduceIte, Nat.reduceEqDiff, Nat.reduceAdd, Nat.reduceSub, Nat.reduceLeDiff, Nat.reduceLT, Nat.reduceBEq, reduceCtorEq, Int.reduceEq]; rfl) (hand_plain (by rfl)) (by rfl)
noncomputable def f56_J1 (p_1839 : Ref56Packet) : Jn (Int) ((List UInt8)) where
  run := fun end_1840 => (f78 p_1839.fSlots).bind fun r_1865 => (f79 (IntKind.i64.wrap p_1839.fSource)).bind fun r_1866 => (f79 p_1839.fUniverse).bind fun r_1867 => (cat? r_1866 r_1867).bind fun v_1868 => (f79 p_1839.fPriority).bind fun r_1869 => (cat? v_1868 r_1869).bind fun v_1870 => (f79 p_1839.fSeq).bind fun r_1871 => (cat? v_1870 r_1871).bind fun v_1872 => (f79 p_1839.fSync).bind fun r_1873 => (cat? v_1872 r_1873).bind fun v_1874 => (f79 end_1840).bind fun r_1875 => (cat? v_1874 r_1875).bind fun v_1876 => (cat? v_1876 r_1865.1).bind fun v_1877 => (f80 (Ref08Entry.mk 85 v_1877)).bind fun r_1903 => (some r_1903)
  cst := fun end_1840 => ⟨put (put (fun _ => .junk) 3 (.int .i64 end_1840)) 1 (.ptr 0 0), [.cel [.int .u64 p_1839.fSource, .int .i64 p_1839.fUniverse, .int .i64 p_1839.fPriority, .int .i64 p_1839.fSeq, .int .i64 p_1839.fSync, .bool p_1839.fEnd, .str p_1839.fSlots]]⟩
def c56_0 : C := .cond (.t 8) (.reg [iI 3 (.mv (.c (.int .i64 1)))]) (.skip)
def c56_1 : C := .seq (.reg [iI 40 (.mv (.t 6)), iI 41 (.build [(1, (.int .i64 0)), (1, (.str []))] [(0, 0, (.c (.int .i64 85))), (1, 0, (.t 40))]), iI 42 (.call (.c (.fn 80 [])) [(.t 41)]), iI 2 (.mv (.t 42))]) .ret
def c56_2 : C := .seq (.regq [iI 15 (.faddr 0 (.t 1)), iI 16 (.load 0 (.t 15)), iI 17 (.cint .i64 (.t 16)), iI 18 (.call (.c (.fn 79 [])) [(.t 17)]), iI 19 (.faddr 1 (.t 1)), iI 20 (.load 0 (.t 19)), iI 21 (.call (.c (.fn 79 [])) [(.t 20)]), iI 22 (.bin .add (.t 18) (.t 21)), iI 23 (.faddr 2 (.t 1)), iI 24 (.load 0 (.t 23)), iI 25 (.call (.c (.fn 79 [])) [(.t 24)]), iI 26 (.bin .add (.t 22) (.t 25)), iI 27 (.faddr 3 (.t 1)), iI 28 (.load 0 (.t 27)), iI 29 (.call (.c (.fn 79 [])) [(.t 28)]), iI 30 (.bin .add (.t 26) (.t 29)), iI 31 (.faddr 4 (.t 1)), iI 32 (.load 0 (.t 31)), iI 33 (.call (.c (.fn 79 [])) [(.t 32)]), iI 34 (.bin .add (.t 30) (.t 33)), iI 35 (.mv (.t 3)), iI 36 (.call (.c (.fn 79 [])) [(.t 35)]), iI 37 (.bin .add (.t 34) (.t 36)), iI 38 (.mv (.t 4)), iI 39 (.bin .add (.t 37) (.t 38)), iI 6 (.mv (.t 39))]) c56_1
def c56_3 : C := .seq (.reg [iI 10 (.faddr 6 (.t 1)), iI 11 (.load 0 (.t 10)), iI 12 (.call (.c (.fn 78 [])) [(.t 11)]), iI 9 (.mv (.t 12)), iI 13 (.ext (.t 9) 0), iI 14 (.ext (.t 9) 1), iI 4 (.mv (.t 13)), iI 5 (.mv (.t 14))]) c56_2
def c56_4 : C := .seq (.seq (.reg [iI 7 (.faddr 5 (.t 1)), iI 8 (.load 0 (.t 7))]) c56_0) c56_3
def c56_5 : C := .seq (.reg [iI 3 (.mv (.c (.int .i64 0)))]) c56_4
def ir56 : C := .seq (.reg [iI 1 (.box (.t 0)), iI 2 (.mv (.c (.str [])))]) c56_5
theorem fd56 : fd? Try.prog 56 = some (43, [.slot 2], ir56) := by kernel_rfl
noncomputable def f56 (p_1839 : Ref56Packet) : Option ((List UInt8)) :=
  (if p_1839.fEnd = true then ((f56_J1 p_1839).run 1) else ((f56_J1 p_1839).run 0))
theorem f56_ok {p_1839 : Ref56Packet} {r_ : (List UInt8)} (H : f56 p_1839 = some r_) : Pure Try.prog 56 [.agg [.int .u64 p_1839.fSource, .int .i64 p_1839.fUniverse, .int .i64 p_1839.fPriority, .int .i64 p_1839.fSeq, .int .i64 p_1839.fSync, .bool p_1839.fEnd, .str p_1839.fSlots]] (· = .str r_) := by
  refine Pure.walk2 fd56 none (Nat.le_of_ble_eq_true rfl) (by rfl) fun Q hQ => ?_
  simp only [f56] at H
  refine AW.rseq ?_
  try simp only [↓wk, ↓wl, nc, evV, wrapBits_eq, ↓reduceIte, Nat.reduceEqDiff, Nat.reduceAdd, Nat.reduceSub, Nat.reduceLeDiff, Nat.reduceLT, Nat.reduceBEq, reduceCtorEq, Int.reduceEq]
  refine AW.rseq ?_
  try simp only [↓wk, ↓wl, nc, evV, wrapBits_eq, ↓reduceIte, Nat.reduceEqDiff, Nat.reduceAdd, Nat.reduceSub, Nat.reduceLeDiff, Nat.reduceLT, Nat.reduceBEq, reduceCtorEq, Int.reduceEq]
  refine AW.join (f56_J1 p_1839) H ?_ fun hf56_J1 => ?_
  · clear H
    rintro end_1840 st0_ H hst_
    simp only [f56_J1] at H hst_
    subst hst_
    refine AW.rseq ?_
    try simp only [↓wk, ↓wl, nc, evV, wrapBits_eq, ↓reduceIte, Nat.reduceEqDiff, Nat.reduceAdd, Nat.reduceSub, Nat.reduceLeDiff, Nat.reduceLT, Nat.reduceBEq, reduceCtorEq, Int.reduceEq]
    refine evTs_pure hFn H (fun _ h => f78_ok h) (by rfl) (by rfl) (by rfl) (by rfl) (fun _ => rfl) ?_ <;> clear H <;> intro r_1865 H
    try simp only [eL, ↓wk, ↓wl, nc, evV, wrapBits_eq, ↓reduceIte, Nat.reduceEqDiff, Nat.reduceAdd, Nat.reduceSub, Nat.reduceLeDiff, Nat.reduceLT, Nat.reduceBEq, reduceCtorEq, Int.reduceEq]
    refine AW.rqseq ?_
    try simp only [↓wk, ↓wl, nc, evV, wrapBits_eq, ↓reduceIte, Nat.reduceEqDiff, Nat.reduceAdd, Nat.reduceSub, Nat.reduceLeDiff, Nat.reduceLT, Nat.reduceBEq, reduceCtorEq, Int.reduceEq]
    refine evTs_pure hFnq H (fun _ h => f79_ok h) (by rfl) (by rfl) (by rfl) (by rfl) (fun _ => rfl) ?_ <;> clear H <;> intro r_1866 H
    try simp only [eL, ↓wk, ↓wl, nc, evV, wrapBits_eq, ↓reduceIte, Nat.reduceEqDiff, Nat.reduceAdd, Nat.reduceSub, Nat.reduceLeDiff, Nat.reduceLT, Nat.reduceBEq, reduceCtorEq, Int.reduceEq]
    refine evTs_pure hFnq H (fun _ h => f79_ok h) (by rfl) (by rfl) (by rfl) (by rfl) (fun _ => rfl) ?_ <;> clear H <;> intro r_1867 H
    try simp only [eL, ↓wk, ↓wl, nc, evV, wrapBits_eq, ↓reduceIte, Nat.reduceEqDiff, Nat.reduceAdd, Nat.reduceSub, Nat.reduceLeDiff, Nat.reduceLT, Nat.reduceBEq, reduceCtorEq, Int.reduceEq]
    refine rest_cat H ?_ <;> clear H <;> intro v_1868 H
    try simp only [↓wk, ↓wl, nc, evV, wrapBits_eq, ↓reduceIte, Nat.reduceEqDiff, Nat.reduceAdd, Nat.reduceSub, Nat.reduceLeDiff, Nat.reduceLT, Nat.reduceBEq, reduceCtorEq, Int.reduceEq]
    refine evTs_pure hFnq H (fun _ h => f79_ok h) (by rfl) (by rfl) (by rfl) (by rfl) (fun _ => rfl) ?_ <;> clear H <;> intro r_1869 H
    try simp only [eL, ↓wk, ↓wl, nc, evV, wrapBits_eq, ↓reduceIte, Nat.reduceEqDiff, Nat.reduceAdd, Nat.reduceSub, Nat.reduceLeDiff, Nat.reduceLT, Nat.reduceBEq, reduceCtorEq, Int.reduceEq]
    refine rest_cat H ?_ <;> clear H <;> intro v_1870 H
    try simp only [↓wk, ↓wl, nc, evV, wrapBits_eq, ↓reduceIte, Nat.reduceEqDiff, Nat.reduceAdd, Nat.reduceSub, Nat.reduceLeDiff, Nat.reduceLT, Nat.reduceBEq, reduceCtorEq, Int.reduceEq]
    refine evTs_pure hFnq H (fun _ h => f79_ok h) (by rfl) (by rfl) (by rfl) (by rfl) (fun _ => rfl) ?_ <;> clear H <;> intro r_1871 H
    try simp only [eL, ↓wk, ↓wl, nc, evV, wrapBits_eq, ↓reduceIte, Nat.reduceEqDiff, Nat.reduceAdd, Nat.reduceSub, Nat.reduceLeDiff, Nat.reduceLT, Nat.reduceBEq, reduceCtorEq, Int.reduceEq]
    refine rest_cat H ?_ <;> clear H <;> intro v_1872 H
    try simp only [↓wk, ↓wl, nc, evV, wrapBits_eq, ↓reduceIte, Nat.reduceEqDiff, Nat.reduceAdd, Nat.reduceSub, Nat.reduceLeDiff, Nat.reduceLT, Nat.reduceBEq, reduceCtorEq, Int.reduceEq]
    refine evTs_pure hFnq H (fun _ h => f79_ok h) (by rfl) (by rfl) (by rfl) (by rfl) (fun _ => rfl) ?_ <;> clear H <;> intro r_1873 H
    try simp only [eL, ↓wk, ↓wl, nc, evV, wrapBits_eq, ↓reduceIte, Nat.reduceEqDiff, Nat.reduceAdd, Nat.reduceSub, Nat.reduceLeDiff, Nat.reduceLT, Nat.reduceBEq, reduceCtorEq, Int.reduceEq]
    refine rest_cat H ?_ <;> clear H <;> intro v_1874 H
    try simp only [↓wk, ↓wl, nc, evV, wrapBits_eq, ↓reduceIte, Nat.reduceEqDiff, Nat.reduceAdd, Nat.reduceSub, Nat.reduceLeDiff, Nat.reduceLT, Nat.reduceBEq, reduceCtorEq, Int.reduceEq]
    refine evTs_pure hFnq H (fun _ h => f79_ok h) (by rfl) (by rfl) (by rfl) (by rfl) (fun _ => rfl) ?_ <;> clear H <;> intro r_1875 H
    try simp only [eL, ↓wk, ↓wl, nc, evV, wrapBits_eq, ↓reduceIte, Nat.reduceEqDiff, Nat.reduceAdd, Nat.reduceSub, Nat.reduceLeDiff, Nat.reduceLT, Nat.reduceBEq, reduceCtorEq, Int.reduceEq]
    refine rest_cat H ?_ <;> clear H <;> intro v_1876 H
    try simp only [↓wk, ↓wl, nc, evV, wrapBits_eq, ↓reduceIte, Nat.reduceEqDiff, Nat.reduceAdd, Nat.reduceSub, Nat.reduceLeDiff, Nat.reduceLT, Nat.reduceBEq, reduceCtorEq, Int.reduceEq]
    refine rest_cat H ?_ <;> clear H <;> intro v_1877 H
    try simp only [↓wk, ↓wl, nc, evV, wrapBits_eq, ↓reduceIte, Nat.reduceEqDiff, Nat.reduceAdd, Nat.reduceSub, Nat.reduceLeDiff, Nat.reduceLT, Nat.reduceBEq, reduceCtorEq, Int.reduceEq]
    refine AW.rseq ?_
    try simp only [↓wk, ↓wl, nc, evV, wrapBits_eq, ↓reduceIte, Nat.reduceEqDiff, Nat.reduceAdd, Nat.reduceSub, Nat.reduceLeDiff, Nat.reduceLT, Nat.reduceBEq, reduceCtorEq, Int.reduceEq]
    refine evTs_pure hFn H (fun _ h => f80_ok h) (by rfl) (by rfl) (by rfl) (by rfl) (fun _ => rfl) ?_ <;> clear H <;> intro r_1903 H
    try simp only [eL, ↓wk, ↓wl, nc, evV, wrapBits_eq, ↓reduceIte, Nat.reduceEqDiff, Nat.reduceAdd, Nat.reduceSub, Nat.reduceLeDiff, Nat.reduceLT, Nat.reduceBEq, reduceCtorEq, Int.reduceEq]
    refine AW.ret ?_
    cases H
    exact hQ _ _ _ _ (.inr rfl) (by simp only [resVs, omap, resV, ↓wk, ↓wl, nc, evV, wrapBits_eq, ↓reduceIte, Nat.reduceEqDiff, Nat.reduceAdd, Nat.reduceSub, Nat.reduceLeDiff, Nat.reduceLT, Nat.reduceBEq, reduceCtorEq, Int.reduceEq]; rfl) (hand_plain (by rfl)) (by rfl)
  · refine AW.rseq ?_
    try simp only [↓wk, ↓wl, nc, evV, wrapBits_eq, ↓reduceIte, Nat.reduceEqDiff, Nat.reduceAdd, Nat.reduceSub, Nat.reduceLeDiff, Nat.reduceLT, Nat.reduceBEq, reduceCtorEq, Int.reduceEq]
    refine AW.ifc H (by rfl) ?_ ?_ <;> clear H <;> intro H
    · refine AW.rend ?_
      try simp only [↓wk, ↓wl, nc, evV, wrapBits_eq, ↓reduceIte, Nat.reduceEqDiff, Nat.reduceAdd, Nat.reduceSub, Nat.reduceLeDiff, Nat.reduceLT, Nat.reduceBEq, reduceCtorEq, Int.reduceEq]
      refine seqQ.norm ?_
      exact hf56_J1 _ _ H ((Le.none [0] [1, 3] (by decide) (by simp only [f56_J1, List.length_set, Option.map_some, restrict_eq, renS_nil, renS_cons, renB_els, renB_cel, renB_dead, deep_eq, map_ren_enc, ren_agg', ren_tup', ren_fn', ren_int', ren_bool', ren_str', ren_sl', ren_pro', ren_nilp', ren_nilfn', ren_junk', ren_ptr', ren_row', ren_arow', ren_eptr', vm, List.idxOf?_cons, List.idxOf?_nil, beq_self_eq_true, Option.map_none, List.getD_cons_zero, List.getD_cons_succ, ↓wk, ↓wl, nc, evV, wrapBits_eq, ↓reduceIte, Nat.reduceEqDiff, Nat.reduceAdd, Nat.reduceSub, Nat.reduceLeDiff, Nat.reduceLT, Nat.reduceBEq, reduceCtorEq, Int.reduceEq])))
    · refine AW.skip ?_
      refine seqQ.norm ?_
      exact hf56_J1 _ _ H ((Le.none [0] [1, 3] (by decide) (by simp only [f56_J1, List.length_set, Option.map_some, restrict_eq, renS_nil, renS_cons, renB_els, renB_cel, renB_dead, deep_eq, map_ren_enc, ren_agg', ren_tup', ren_fn', ren_int', ren_bool', ren_str', ren_sl', ren_pro', ren_nilp', ren_nilfn', ren_junk', ren_ptr', ren_row', ren_arow', ren_eptr', vm, List.idxOf?_cons, List.idxOf?_nil, beq_self_eq_true, Option.map_none, List.getD_cons_zero, List.getD_cons_succ, ↓wk, ↓wl, nc, evV, wrapBits_eq, ↓reduceIte, Nat.reduceEqDiff, Nat.reduceAdd, Nat.reduceSub, Nat.reduceLeDiff, Nat.reduceLT, Nat.reduceBEq, reduceCtorEq, Int.reduceEq])))
def c32_0 : C := .cond (.t 8) (.seq (.reg [iI 9 (.mv (.t 4)), iI 2 (.mv (.c (.str []))), iI 3 (.mv (.t 9))]) .ret) (.skip)
def c32_1 : C := .seq (.reg [iI 7 (.mv (.t 4)), iI 8 (.bin .neq (.t 7) (.c (.int .i64 0)))]) c32_0
def c32_2 : C := .seq (.reg [iI 10 (.load 7 (.t 1)), iI 11 (.call (.c (.fn 56 [])) [(.t 10)]), iI 2 (.mv (.t 11)), iI 3 (.mv (.c (.int .i64 0)))]) .ret
def c32_3 : C := .seq (.seq (.reg [iI 5 (.load 7 (.t 1)), iI 6 (.call (.c (.fn 33 [])) [(.t 5)]), iI 4 (.mv (.t 6))]) c32_1) c32_2
def ir32 : C := .seq (.reg [iI 1 (.box (.t 0)), iI 2 (.mv (.c (.str []))), iI 3 (.mv (.c (.int .i64 0)))]) c32_3
theorem fd32 : fd? Try.prog 32 = some (12, [.slot 2, .slot 3], ir32) := by kernel_rfl
noncomputable def f32 (p_1822 : Ref56Packet) : Option ((List UInt8) × Int) :=
  (f33 p_1822).bind fun r_1838 => (if (decide (r_1838 ≠ 0)) = true then (some ([], r_1838)) else (f56 p_1822).bind fun r_1904 => (some (r_1904, 0)))
theorem f32_ok {p_1822 : Ref56Packet} {r_ : (List UInt8) × Int} (H : f32 p_1822 = some r_) : Pure Try.prog 32 [.agg [.int .u64 p_1822.fSource, .int .i64 p_1822.fUniverse, .int .i64 p_1822.fPriority, .int .i64 p_1822.fSeq, .int .i64 p_1822.fSync, .bool p_1822.fEnd, .str p_1822.fSlots]] (· = .tup [.str r_.1, .int .i64 r_.2]) := by
  refine Pure.walk2 fd32 none (Nat.le_of_ble_eq_true rfl) (by rfl) fun Q hQ => ?_
  simp only [f32] at H
  refine AW.rseq ?_
  try simp only [↓wk, ↓wl, nc, evV, wrapBits_eq, ↓reduceIte, Nat.reduceEqDiff, Nat.reduceAdd, Nat.reduceSub, Nat.reduceLeDiff, Nat.reduceLT, Nat.reduceBEq, reduceCtorEq, Int.reduceEq]
  refine AW.sseq ?_
  refine AW.rseq ?_
  try simp only [↓wk, ↓wl, nc, evV, wrapBits_eq, ↓reduceIte, Nat.reduceEqDiff, Nat.reduceAdd, Nat.reduceSub, Nat.reduceLeDiff, Nat.reduceLT, Nat.reduceBEq, reduceCtorEq, Int.reduceEq]
  refine evTs_pure hFn H (fun _ h => f33_ok h) (by rfl) (by rfl) (by rfl) (by rfl) (fun _ => rfl) ?_ <;> clear H <;> intro r_1838 H
  try simp only [eL, ↓wk, ↓wl, nc, evV, wrapBits_eq, ↓reduceIte, Nat.reduceEqDiff, Nat.reduceAdd, Nat.reduceSub, Nat.reduceLeDiff, Nat.reduceLT, Nat.reduceBEq, reduceCtorEq, Int.reduceEq]
  refine AW.rseq ?_
  try simp only [↓wk, ↓wl, nc, evV, wrapBits_eq, ↓reduceIte, Nat.reduceEqDiff, Nat.reduceAdd, Nat.reduceSub, Nat.reduceLeDiff, Nat.reduceLT, Nat.reduceBEq, reduceCtorEq, Int.reduceEq]
  refine AW.ifc H (by rfl) ?_ ?_ <;> clear H <;> intro H
  · refine AW.rseq ?_
    try simp only [↓wk, ↓wl, nc, evV, wrapBits_eq, ↓reduceIte, Nat.reduceEqDiff, Nat.reduceAdd, Nat.reduceSub, Nat.reduceLeDiff, Nat.reduceLT, Nat.reduceBEq, reduceCtorEq, Int.reduceEq]
    refine AW.ret ?_
    refine seqQ.ret ?_
    cases H
    exact hQ _ _ _ _ (.inr rfl) (by simp only [resVs, omap, resV, ↓wk, ↓wl, nc, evV, wrapBits_eq, ↓reduceIte, Nat.reduceEqDiff, Nat.reduceAdd, Nat.reduceSub, Nat.reduceLeDiff, Nat.reduceLT, Nat.reduceBEq, reduceCtorEq, Int.reduceEq]; rfl) (hand_plain (by rfl)) (by rfl)
  · refine AW.skip ?_
    refine seqQ.norm ?_
    refine AW.rseq ?_
    try simp only [↓wk, ↓wl, nc, evV, wrapBits_eq, ↓reduceIte, Nat.reduceEqDiff, Nat.reduceAdd, Nat.reduceSub, Nat.reduceLeDiff, Nat.reduceLT, Nat.reduceBEq, reduceCtorEq, Int.reduceEq]
    refine evTs_pure hFn H (fun _ h => f56_ok h) (by rfl) (by rfl) (by rfl) (by rfl) (fun _ => rfl) ?_ <;> clear H <;> intro r_1904 H
    try simp only [eL, ↓wk, ↓wl, nc, evV, wrapBits_eq, ↓reduceIte, Nat.reduceEqDiff, Nat.reduceAdd, Nat.reduceSub, Nat.reduceLeDiff, Nat.reduceLT, Nat.reduceBEq, reduceCtorEq, Int.reduceEq]
    refine AW.ret ?_
    cases H
    exact hQ _ _ _ _ (.inr rfl) (by simp only [resVs, omap, resV, ↓wk, ↓wl, nc, evV, wrapBits_eq, ↓reduceIte, Nat.reduceEqDiff, Nat.reduceAdd, Nat.reduceSub, Nat.reduceLeDiff, Nat.reduceLT, Nat.reduceBEq, reduceCtorEq, Int.reduceEq]; rfl) (hand_plain (by rfl)) (by rfl)
def c9_0 : C := .cond (.t 10) (.seq (.reg [iI 11 (.call (.c (.fn 14 [])) []), iI 2 (.mv (.t 11))]) .ret) (.skip)
def c9_1 : C := .seq (.regq [iI 22 (.call (.c (.fn 14 [])) []), iI 23 (.mv (.t 22)), iG (some 24) 23 true (.load 7 (.t 1)), iG (some 25) 23 true (.call (.c (.fn 28 [])) [(.t 24)]), iG (some 26) 23 true (.load 7 (.t 1)), iG (some 27) 23 true (.call (.c (.fn 33 [])) [(.t 26)]), iG (some 28) 23 true (.bin .eql (.t 25) (.t 27)), iI 29 (.pick (.t 23) (.t 28) (.c (.bool false))), iI 30 (.mv (.t 29)), iG (some 31) 30 true (.mv (.t 3)), iG (some 32) 30 true (.mv (.t 5)), iG (some 33) 30 true (.bin .eql (.t 31) (.t 32)), iI 34 (.pick (.t 30) (.t 33) (.c (.bool false))), iI 35 (.mv (.t 34)), iG (some 36) 35 true (.mv (.t 4)), iG (some 37) 35 true (.mv (.t 6)), iG (some 38) 35 true (.bin .eql (.t 36) (.t 37)), iI 39 (.pick (.t 35) (.t 38) (.c (.bool false))), iI 2 (.mv (.t 39))]) .ret
def c9_2 : C := .seq (.reg [iI 18 (.load 7 (.t 1)), iI 19 (.call (.c (.fn 32 [])) [(.t 18)]), iI 17 (.mv (.t 19)), iI 20 (.ext (.t 17) 0), iI 21 (.ext (.t 17) 1), iI 5 (.mv (.t 20)), iI 6 (.mv (.t 21))]) c9_1
def c9_3 : C := .seq (.reg [iI 13 (.load 7 (.t 1)), iI 14 (.call (.c (.fn 31 [])) [(.t 13)]), iI 12 (.mv (.t 14)), iI 15 (.ext (.t 12) 0), iI 16 (.ext (.t 12) 1), iI 3 (.mv (.t 15)), iI 4 (.mv (.t 16))]) c9_2
def c9_4 : C := .seq (.seq (.reg [iI 7 (.faddr 6 (.t 1)), iI 8 (.load 0 (.t 7)), iI 9 (.len 1 (.t 8)), iI 10 (.bin .gtr (.t 9) (.c (.int .i64 1100)))]) c9_0) c9_3
def ir9 : C := .seq (.reg [iI 1 (.box (.t 0)), iI 2 (.mv (.c (.bool false)))]) c9_4
theorem fd9 : fd? Try.prog 9 = some (40, [.slot 2], ir9) := by kernel_rfl
noncomputable def f9 (p_1737 : NetworkPacket) : Option (Bool) :=
  (if (decide (1100 < ((p_1737.fSlots.length : Nat) : Int))) = true then (f14).bind fun r_1739 => (some r_1739) else (f31 p_1737).bind fun r_1821 => (f32 (Ref56Packet.mk p_1737.fSource p_1737.fUniverse p_1737.fPriority p_1737.fSeq p_1737.fSync p_1737.fEnd p_1737.fSlots)).bind fun r_1905 => (f14).bind fun r_1906 => (if r_1906 = true then (f28 p_1737).bind fun r_1907 => (f33 (Ref56Packet.mk p_1737.fSource p_1737.fUniverse p_1737.fPriority p_1737.fSeq p_1737.fSync p_1737.fEnd p_1737.fSlots)).bind fun r_1908 => (if (decide (r_1907 = r_1908)) = true then (if (r_1821.1 == r_1905.1) = true then (some (decide (r_1821.2 = r_1905.2))) else (some false)) else (some false)) else (some false)))
theorem f9_ok {p_1737 : NetworkPacket} {r_ : Bool} (H : f9 p_1737 = some r_) : Pure Try.prog 9 [.agg [.int .u64 p_1737.fSource, .int .i64 p_1737.fUniverse, .int .i64 p_1737.fPriority, .int .i64 p_1737.fSeq, .int .i64 p_1737.fSync, .bool p_1737.fEnd, .str p_1737.fSlots]] (· = .bool r_) := by
  refine Pure.walk2 fd9 none (Nat.le_of_ble_eq_true rfl) (by rfl) fun Q hQ => ?_
  simp only [f9] at H
  refine AW.rseq ?_
  try simp only [↓wk, ↓wl, nc, evV, wrapBits_eq, ↓reduceIte, Nat.reduceEqDiff, Nat.reduceAdd, Nat.reduceSub, Nat.reduceLeDiff, Nat.reduceLT, Nat.reduceBEq, reduceCtorEq, Int.reduceEq]
  refine AW.sseq ?_
  refine AW.rseq ?_
  try simp only [↓wk, ↓wl, nc, evV, wrapBits_eq, ↓reduceIte, Nat.reduceEqDiff, Nat.reduceAdd, Nat.reduceSub, Nat.reduceLeDiff, Nat.reduceLT, Nat.reduceBEq, reduceCtorEq, Int.reduceEq]
  refine AW.ifc H (by rfl) ?_ ?_ <;> clear H <;> intro H
  · refine AW.rseq ?_
    try simp only [↓wk, ↓wl, nc, evV, wrapBits_eq, ↓reduceIte, Nat.reduceEqDiff, Nat.reduceAdd, Nat.reduceSub, Nat.reduceLeDiff, Nat.reduceLT, Nat.reduceBEq, reduceCtorEq, Int.reduceEq]
    refine evTs_pure hFn H (fun _ h => f14_ok h) (by rfl) (by rfl) (by rfl) (by rfl) (fun _ => rfl) ?_ <;> clear H <;> intro r_1739 H
    try simp only [eL, ↓wk, ↓wl, nc, evV, wrapBits_eq, ↓reduceIte, Nat.reduceEqDiff, Nat.reduceAdd, Nat.reduceSub, Nat.reduceLeDiff, Nat.reduceLT, Nat.reduceBEq, reduceCtorEq, Int.reduceEq]
    refine AW.ret ?_
    refine seqQ.ret ?_
    cases H
    exact hQ _ _ _ _ (.inr rfl) (by simp only [resVs, omap, resV, ↓wk, ↓wl, nc, evV, wrapBits_eq, ↓reduceIte, Nat.reduceEqDiff, Nat.reduceAdd, Nat.reduceSub, Nat.reduceLeDiff, Nat.reduceLT, Nat.reduceBEq, reduceCtorEq, Int.reduceEq]; rfl) (hand_plain (by rfl)) (by rfl)
  · refine AW.skip ?_
    refine seqQ.norm ?_
    refine AW.rseq ?_
    try simp only [↓wk, ↓wl, nc, evV, wrapBits_eq, ↓reduceIte, Nat.reduceEqDiff, Nat.reduceAdd, Nat.reduceSub, Nat.reduceLeDiff, Nat.reduceLT, Nat.reduceBEq, reduceCtorEq, Int.reduceEq]
    refine evTs_pure hFn H (fun _ h => f31_ok h) (by rfl) (by rfl) (by rfl) (by rfl) (fun _ => rfl) ?_ <;> clear H <;> intro r_1821 H
    try simp only [eL, ↓wk, ↓wl, nc, evV, wrapBits_eq, ↓reduceIte, Nat.reduceEqDiff, Nat.reduceAdd, Nat.reduceSub, Nat.reduceLeDiff, Nat.reduceLT, Nat.reduceBEq, reduceCtorEq, Int.reduceEq]
    refine AW.rseq ?_
    try simp only [↓wk, ↓wl, nc, evV, wrapBits_eq, ↓reduceIte, Nat.reduceEqDiff, Nat.reduceAdd, Nat.reduceSub, Nat.reduceLeDiff, Nat.reduceLT, Nat.reduceBEq, reduceCtorEq, Int.reduceEq]
    refine evTs_pure hFn H (fun _ h => f32_ok h) (by rfl) (by rfl) (by rfl) (by rfl) (fun _ => rfl) ?_ <;> clear H <;> intro r_1905 H
    try simp only [eL, ↓wk, ↓wl, nc, evV, wrapBits_eq, ↓reduceIte, Nat.reduceEqDiff, Nat.reduceAdd, Nat.reduceSub, Nat.reduceLeDiff, Nat.reduceLT, Nat.reduceBEq, reduceCtorEq, Int.reduceEq]
    refine AW.rqseq ?_
    try simp only [↓wk, ↓wl, nc, evV, wrapBits_eq, ↓reduceIte, Nat.reduceEqDiff, Nat.reduceAdd, Nat.reduceSub, Nat.reduceLeDiff, Nat.reduceLT, Nat.reduceBEq, reduceCtorEq, Int.reduceEq]
    refine evTs_pure hFnq H (fun _ h => f14_ok h) (by rfl) (by rfl) (by rfl) (by rfl) (fun _ => rfl) ?_ <;> clear H <;> intro r_1906 H
    try simp only [eL, ↓wk, ↓wl, nc, evV, wrapBits_eq, ↓reduceIte, Nat.reduceEqDiff, Nat.reduceAdd, Nat.reduceSub, Nat.reduceLeDiff, Nat.reduceLT, Nat.reduceBEq, reduceCtorEq, Int.reduceEq]
    refine evTs_ifg H (by rfl) ?_ ?_ <;> clear H <;> intro H
    · try simp only [↓wk, ↓wl, nc, evV, wrapBits_eq, ↓reduceIte, Nat.reduceEqDiff, Nat.reduceAdd, Nat.reduceSub, Nat.reduceLeDiff, Nat.reduceLT, Nat.reduceBEq, reduceCtorEq, Int.reduceEq]
      refine evTs_pure hFnq H (fun _ h => f28_ok h) (by rfl) (by rfl) (by rfl) (by rfl) (fun _ => rfl) ?_ <;> clear H <;> intro r_1907 H
      try simp only [eL, ↓wk, ↓wl, nc, evV, wrapBits_eq, ↓reduceIte, Nat.reduceEqDiff, Nat.reduceAdd, Nat.reduceSub, Nat.reduceLeDiff, Nat.reduceLT, Nat.reduceBEq, reduceCtorEq, Int.reduceEq]
      refine evTs_pure hFnq H (fun _ h => f33_ok h) (by rfl) (by rfl) (by rfl) (by rfl) (fun _ => rfl) ?_ <;> clear H <;> intro r_1908 H
      try simp only [eL, ↓wk, ↓wl, nc, evV, wrapBits_eq, ↓reduceIte, Nat.reduceEqDiff, Nat.reduceAdd, Nat.reduceSub, Nat.reduceLeDiff, Nat.reduceLT, Nat.reduceBEq, reduceCtorEq, Int.reduceEq]
      refine evTs_ifg H (by rfl) ?_ ?_ <;> clear H <;> intro H
      · try simp only [↓wk, ↓wl, nc, evV, wrapBits_eq, ↓reduceIte, Nat.reduceEqDiff, Nat.reduceAdd, Nat.reduceSub, Nat.reduceLeDiff, Nat.reduceLT, Nat.reduceBEq, reduceCtorEq, Int.reduceEq]
        refine evTs_ifg H (by rfl) ?_ ?_ <;> clear H <;> intro H
        · try simp only [↓wk, ↓wl, nc, evV, wrapBits_eq, ↓reduceIte, Nat.reduceEqDiff, Nat.reduceAdd, Nat.reduceSub, Nat.reduceLeDiff, Nat.reduceLT, Nat.reduceBEq, reduceCtorEq, Int.reduceEq]
          refine AW.ret ?_
          cases H
          exact hQ _ _ _ _ (.inr rfl) (by simp only [resVs, omap, resV, ↓wk, ↓wl, nc, evV, wrapBits_eq, ↓reduceIte, Nat.reduceEqDiff, Nat.reduceAdd, Nat.reduceSub, Nat.reduceLeDiff, Nat.reduceLT, Nat.reduceBEq, reduceCtorEq, Int.reduceEq]; rfl) (hand_plain (by rfl)) (by rfl)
        · try simp only [↓wk, ↓wl, nc, evV, wrapBits_eq, ↓reduceIte, Nat.reduceEqDiff, Nat.reduceAdd, Nat.reduceSub, Nat.reduceLeDiff, Nat.reduceLT, Nat.reduceBEq, reduceCtorEq, Int.reduceEq]
          refine AW.ret ?_
          cases H
          exact hQ _ _ _ _ (.inr rfl) (by simp only [resVs, omap, resV, ↓wk, ↓wl, nc, evV, wrapBits_eq, ↓reduceIte, Nat.reduceEqDiff, Nat.reduceAdd, Nat.reduceSub, Nat.reduceLeDiff, Nat.reduceLT, Nat.reduceBEq, reduceCtorEq, Int.reduceEq]; rfl) (hand_plain (by rfl)) (by rfl)
      · try simp only [↓wk, ↓wl, nc, evV, wrapBits_eq, ↓reduceIte, Nat.reduceEqDiff, Nat.reduceAdd, Nat.reduceSub, Nat.reduceLeDiff, Nat.reduceLT, Nat.reduceBEq, reduceCtorEq, Int.reduceEq]
        refine AW.ret ?_
        cases H
        exact hQ _ _ _ _ (.inr rfl) (by simp only [resVs, omap, resV, ↓wk, ↓wl, nc, evV, wrapBits_eq, ↓reduceIte, Nat.reduceEqDiff, Nat.reduceAdd, Nat.reduceSub, Nat.reduceLeDiff, Nat.reduceLT, Nat.reduceBEq, reduceCtorEq, Int.reduceEq]; rfl) (hand_plain (by rfl)) (by rfl)
    · try simp only [↓wk, ↓wl, nc, evV, wrapBits_eq, ↓reduceIte, Nat.reduceEqDiff, Nat.reduceAdd, Nat.reduceSub, Nat.reduceLeDiff, Nat.reduceLT, Nat.reduceBEq, reduceCtorEq, Int.reduceEq]
      refine AW.ret ?_
      cases H
      exact hQ _ _ _ _ (.inr rfl) (by simp only [resVs, omap, resV, ↓wk, ↓wl, nc, evV, wrapBits_eq, ↓reduceIte, Nat.reduceEqDiff, Nat.reduceAdd, Nat.reduceSub, Nat.reduceLeDiff, Nat.reduceLT, Nat.reduceBEq, reduceCtorEq, Int.reduceEq]; rfl) (hand_plain (by rfl)) (by rfl)
end Go.Proofs.Ytlidbikdeboihaa
