import Derived.Test.YtlidbikdeboihaaX2
import Derived.Test.YtlidbikdeboihaaProg
import Derived.KernelRfl
namespace Go.Proofs.Ytlidbikdeboihaa
open Go Go.Ab

set_option maxHeartbeats 1000000
set_option linter.unusedSimpArgs false
set_option linter.unusedVariables false
structure RecordEntry where
  fKind : Int
  fData : (List UInt8)
def eRecordEntry (x : RecordEntry) : AV := .agg [.int .i64 x.fKind, .str x.fData]
instance : IsFlat eRecordEntry := ⟨fun _ => rfl⟩
instance : IsEnc 2 eRecordEntry := ⟨fun _ => rfl, fun _ => rfl, fun _ => rfl⟩
structure RecordReader where
  fS : (List UInt8)
  fAt : Int
def eRecordReader (x : RecordReader) : AV := .agg [.str x.fS, .int .i64 x.fAt]
instance : IsFlat eRecordReader := ⟨fun _ => rfl⟩
instance : IsEnc 2 eRecordReader := ⟨fun _ => rfl, fun _ => rfl, fun _ => rfl⟩
def c28_0 : C := .cond (.t 29) (.seq (.reg [iI 2 (.mv (.c (.int .i64 3)))]) .ret) (.skip)
def c28_1 : C := .cond (.t 24) (.seq (.reg [iI 2 (.mv (.c (.int .i64 13)))]) .ret) (.seq (.reg [iI 30 (.faddr 1 (.t 1)), iI 31 (.load 0 (.t 30)), iI 32 (.bin .eql (.t 31) (.c (.int .i64 0))), iI 33 (.mv (.t 32)), iG (some 34) 33 true (.faddr 4 (.t 1)), iG (some 35) 33 true (.load 0 (.t 34)), iG (some 36) 33 true (.bin .eql (.t 35) (.c (.int .i64 0))), iG (some 37) 33 true (.mv (.t 36)), iG (some 38) 37 false (.faddr 5 (.t 1)), iG (some 39) 37 false (.load 0 (.t 38)), iG (some 40) 33 true (.pick (.t 37) (.c (.bool true)) (.t 39)), iG (some 41) 33 true (.mv (.t 40)), iG (some 42) 41 false (.faddr 6 (.t 1)), iG (some 43) 41 false (.load 0 (.t 42)), iG (some 44) 41 false (.bin .neq (.t 43) (.c (.str []))), iG (some 45) 33 true (.pick (.t 41) (.c (.bool true)) (.t 44)), iI 46 (.pick (.t 33) (.t 45) (.c (.bool false))), iI 29 (.mv (.t 46))]) c28_0)
def c28_2 : C := .cond (.t 3) (.seq (.reg [iI 2 (.mv (.c (.int .i64 2)))]) .ret) (.seq (.reg [iI 25 (.faddr 6 (.t 1)), iI 26 (.load 0 (.t 25)), iI 27 (.len 1 (.t 26)), iI 28 (.bin .gtr (.t 27) (.c (.int .i64 512))), iI 24 (.mv (.t 28))]) c28_1)
def c28_3 : C := .seq (.reg [iI 2 (.mv (.c (.int .i64 0)))]) .ret
def c28_4 : C := .seq (.block 0 (.seq (.reg [iI 4 (.faddr 0 (.t 1)), iI 5 (.load 0 (.t 4)), iI 6 (.faddr 2 (.t 1)), iI 7 (.load 0 (.t 6)), iI 8 (.faddr 4 (.t 1)), iI 9 (.load 0 (.t 8)), iI 10 (.call (.c (.fn 38 [])) [(.t 5), (.t 7), (.t 9)]), iI 11 (.un .not (.t 10)), iI 12 (.mv (.t 11)), iG (some 13) 12 false (.faddr 1 (.t 1)), iG (some 14) 12 false (.load 0 (.t 13)), iG (some 15) 12 false (.call (.c (.fn 40 [])) [(.t 14), (.c (.int .i64 0)), (.c (.int .i64 8))]), iG (some 16) 12 false (.un .not (.t 15)), iI 17 (.pick (.t 12) (.c (.bool true)) (.t 16)), iI 18 (.mv (.t 17)), iG (some 19) 18 false (.faddr 3 (.t 1)), iG (some 20) 18 false (.load 0 (.t 19)), iG (some 21) 18 false (.call (.c (.fn 36 [])) [(.t 20)]), iG (some 22) 18 false (.un .not (.t 21)), iI 23 (.pick (.t 18) (.c (.bool true)) (.t 22)), iI 3 (.mv (.t 23))]) c28_2)) c28_3
def ir28 : C := .seq (.reg [iI 1 (.box (.t 0)), iI 2 (.mv (.c (.int .i64 0)))]) c28_4
theorem fd28 : fd? Try.prog 28 = some (47, [.slot 2], ir28) := by kernel_rfl
noncomputable def f28 (p_1742 : NetworkPacket) : Option (Int) :=
  (f38 p_1742.fSource p_1742.fPriority p_1742.fSync).bind fun r_1743 => (if (!r_1743) = true then (some 2) else (f40 p_1742.fUniverse 0 8).bind fun r_1744 => (if (!r_1744) = true then (some 2) else (f36 p_1742.fSeq).bind fun r_1745 => (if (!r_1745) = true then (some 2) else (if (decide (512 < ((p_1742.fSlots.length : Nat) : Int))) = true then (some 13) else (if (decide (p_1742.fUniverse = 0)) = true then (if (decide (p_1742.fSync = 0)) = true then (some 3) else (if p_1742.fEnd = true then (some 3) else (if (!(p_1742.fSlots == ([]))) = true then (some 3) else (some 0)))) else (some 0))))))
theorem f28_ok {p_1742 : NetworkPacket} {r_ : Int} (H : f28 p_1742 = some r_) : Pure Try.prog 28 [.agg [.int .u64 p_1742.fSource, .int .i64 p_1742.fUniverse, .int .i64 p_1742.fPriority, .int .i64 p_1742.fSeq, .int .i64 p_1742.fSync, .bool p_1742.fEnd, .str p_1742.fSlots]] (· = .int .i64 r_) := by
  refine Pure.walk2 fd28 none (Nat.le_of_ble_eq_true rfl) (by rfl) fun Q hQ => ?_
  simp only [f28] at H
  refine AW.rseq ?_
  try simp only [↓wk, ↓wl, nc, evV, wrapBits_eq, ↓reduceIte, Nat.reduceEqDiff, Nat.reduceAdd, Nat.reduceSub, Nat.reduceLeDiff, Nat.reduceLT, Nat.reduceBEq, reduceCtorEq, Int.reduceEq]
  refine AW.bseq ?_
  refine AW.rseq ?_
  try simp only [↓wk, ↓wl, nc, evV, wrapBits_eq, ↓reduceIte, Nat.reduceEqDiff, Nat.reduceAdd, Nat.reduceSub, Nat.reduceLeDiff, Nat.reduceLT, Nat.reduceBEq, reduceCtorEq, Int.reduceEq]
  refine evTs_pure hFn H (fun _ h => f38_ok h) (by rfl) (by rfl) (by rfl) (by rfl) (fun _ => rfl) ?_ <;> clear H <;> intro r_1743 H
  try simp only [eL, ↓wk, ↓wl, nc, evV, wrapBits_eq, ↓reduceIte, Nat.reduceEqDiff, Nat.reduceAdd, Nat.reduceSub, Nat.reduceLeDiff, Nat.reduceLT, Nat.reduceBEq, reduceCtorEq, Int.reduceEq]
  refine evTs_ifg H (by rfl) ?_ ?_ <;> clear H <;> intro H
  · try simp only [↓wk, ↓wl, nc, evV, wrapBits_eq, ↓reduceIte, Nat.reduceEqDiff, Nat.reduceAdd, Nat.reduceSub, Nat.reduceLeDiff, Nat.reduceLT, Nat.reduceBEq, reduceCtorEq, Int.reduceEq]
    refine AW.ift (by rfl) ?_
    refine AW.rseq ?_
    try simp only [↓wk, ↓wl, nc, evV, wrapBits_eq, ↓reduceIte, Nat.reduceEqDiff, Nat.reduceAdd, Nat.reduceSub, Nat.reduceLeDiff, Nat.reduceLT, Nat.reduceBEq, reduceCtorEq, Int.reduceEq]
    refine AW.ret ?_
    refine blkQ.ret ?_
    cases H
    exact hQ _ _ _ _ (.inr rfl) (by simp only [resVs, omap, resV, ↓wk, ↓wl, nc, evV, wrapBits_eq, ↓reduceIte, Nat.reduceEqDiff, Nat.reduceAdd, Nat.reduceSub, Nat.reduceLeDiff, Nat.reduceLT, Nat.reduceBEq, reduceCtorEq, Int.reduceEq]; rfl) (hand_plain (by rfl)) (by rfl)
  · try simp only [↓wk, ↓wl, nc, evV, wrapBits_eq, ↓reduceIte, Nat.reduceEqDiff, Nat.reduceAdd, Nat.reduceSub, Nat.reduceLeDiff, Nat.reduceLT, Nat.reduceBEq, reduceCtorEq, Int.reduceEq]
    refine evTs_pure hFn H (fun _ h => f40_ok h) (by rfl) (by rfl) (by rfl) (by rfl) (fun _ => rfl) ?_ <;> clear H <;> intro r_1744 H
    try simp only [eL, ↓wk, ↓wl, nc, evV, wrapBits_eq, ↓reduceIte, Nat.reduceEqDiff, Nat.reduceAdd, Nat.reduceSub, Nat.reduceLeDiff, Nat.reduceLT, Nat.reduceBEq, reduceCtorEq, Int.reduceEq]
    refine evTs_ifg H (by rfl) ?_ ?_ <;> clear H <;> intro H
    · try simp only [↓wk, ↓wl, nc, evV, wrapBits_eq, ↓reduceIte, Nat.reduceEqDiff, Nat.reduceAdd, Nat.reduceSub, Nat.reduceLeDiff, Nat.reduceLT, Nat.reduceBEq, reduceCtorEq, Int.reduceEq]
      refine AW.ift (by rfl) ?_
      refine AW.rseq ?_
      try simp only [↓wk, ↓wl, nc, evV, wrapBits_eq, ↓reduceIte, Nat.reduceEqDiff, Nat.reduceAdd, Nat.reduceSub, Nat.reduceLeDiff, Nat.reduceLT, Nat.reduceBEq, reduceCtorEq, Int.reduceEq]
      refine AW.ret ?_
      refine blkQ.ret ?_
      cases H
      exact hQ _ _ _ _ (.inr rfl) (by simp only [resVs, omap, resV, ↓wk, ↓wl, nc, evV, wrapBits_eq, ↓reduceIte, Nat.reduceEqDiff, Nat.reduceAdd, Nat.reduceSub, Nat.reduceLeDiff, Nat.reduceLT, Nat.reduceBEq, reduceCtorEq, Int.reduceEq]; rfl) (hand_plain (by rfl)) (by rfl)
    · try simp only [↓wk, ↓wl, nc, evV, wrapBits_eq, ↓reduceIte, Nat.reduceEqDiff, Nat.reduceAdd, Nat.reduceSub, Nat.reduceLeDiff, Nat.reduceLT, Nat.reduceBEq, reduceCtorEq, Int.reduceEq]
      refine evTs_pure hFn H (fun _ h => f36_ok h) (by rfl) (by rfl) (by rfl) (by rfl) (fun _ => rfl) ?_ <;> clear H <;> intro r_1745 H
      try simp only [eL, ↓wk, ↓wl, nc, evV, wrapBits_eq, ↓reduceIte, Nat.reduceEqDiff, Nat.reduceAdd, Nat.reduceSub, Nat.reduceLeDiff, Nat.reduceLT, Nat.reduceBEq, reduceCtorEq, Int.reduceEq]
      refine AW.ifc H (by rfl) ?_ ?_ <;> clear H <;> intro H
      · refine AW.rseq ?_
        try simp only [↓wk, ↓wl, nc, evV, wrapBits_eq, ↓reduceIte, Nat.reduceEqDiff, Nat.reduceAdd, Nat.reduceSub, Nat.reduceLeDiff, Nat.reduceLT, Nat.reduceBEq, reduceCtorEq, Int.reduceEq]
        refine AW.ret ?_
        refine blkQ.ret ?_
        cases H
        exact hQ _ _ _ _ (.inr rfl) (by simp only [resVs, omap, resV, ↓wk, ↓wl, nc, evV, wrapBits_eq, ↓reduceIte, Nat.reduceEqDiff, Nat.reduceAdd, Nat.reduceSub, Nat.reduceLeDiff, Nat.reduceLT, Nat.reduceBEq, reduceCtorEq, Int.reduceEq]; rfl) (hand_plain (by rfl)) (by rfl)
      · refine AW.rseq ?_
        try simp only [↓wk, ↓wl, nc, evV, wrapBits_eq, ↓reduceIte, Nat.reduceEqDiff, Nat.reduceAdd, Nat.reduceSub, Nat.reduceLeDiff, Nat.reduceLT, Nat.reduceBEq, reduceCtorEq, Int.reduceEq]
        refine AW.ifc H (by rfl) ?_ ?_ <;> clear H <;> intro H
        · refine AW.rseq ?_
          try simp only [↓wk, ↓wl, nc, evV, wrapBits_eq, ↓reduceIte, Nat.reduceEqDiff, Nat.reduceAdd, Nat.reduceSub, Nat.reduceLeDiff, Nat.reduceLT, Nat.reduceBEq, reduceCtorEq, Int.reduceEq]
          refine AW.ret ?_
          refine blkQ.ret ?_
          cases H
          exact hQ _ _ _ _ (.inr rfl) (by simp only [resVs, omap, resV, ↓wk, ↓wl, nc, evV, wrapBits_eq, ↓reduceIte, Nat.reduceEqDiff, Nat.reduceAdd, Nat.reduceSub, Nat.reduceLeDiff, Nat.reduceLT, Nat.reduceBEq, reduceCtorEq, Int.reduceEq]; rfl) (hand_plain (by rfl)) (by rfl)
        · refine AW.rseq ?_
          try simp only [↓wk, ↓wl, nc, evV, wrapBits_eq, ↓reduceIte, Nat.reduceEqDiff, Nat.reduceAdd, Nat.reduceSub, Nat.reduceLeDiff, Nat.reduceLT, Nat.reduceBEq, reduceCtorEq, Int.reduceEq]
          refine evTs_ifg H (by rfl) ?_ ?_ <;> clear H <;> intro H
          · try simp only [↓wk, ↓wl, nc, evV, wrapBits_eq, ↓reduceIte, Nat.reduceEqDiff, Nat.reduceAdd, Nat.reduceSub, Nat.reduceLeDiff, Nat.reduceLT, Nat.reduceBEq, reduceCtorEq, Int.reduceEq]
            refine evTs_ifg H (by rfl) ?_ ?_ <;> clear H <;> intro H
            · try simp only [↓wk, ↓wl, nc, evV, wrapBits_eq, ↓reduceIte, Nat.reduceEqDiff, Nat.reduceAdd, Nat.reduceSub, Nat.reduceLeDiff, Nat.reduceLT, Nat.reduceBEq, reduceCtorEq, Int.reduceEq]
              refine AW.ift (by rfl) ?_
              refine AW.rseq ?_
              try simp only [↓wk, ↓wl, nc, evV, wrapBits_eq, ↓reduceIte, Nat.reduceEqDiff, Nat.reduceAdd, Nat.reduceSub, Nat.reduceLeDiff, Nat.reduceLT, Nat.reduceBEq, reduceCtorEq, Int.reduceEq]
              refine AW.ret ?_
              refine blkQ.ret ?_
              cases H
              exact hQ _ _ _ _ (.inr rfl) (by simp only [resVs, omap, resV, ↓wk, ↓wl, nc, evV, wrapBits_eq, ↓reduceIte, Nat.reduceEqDiff, Nat.reduceAdd, Nat.reduceSub, Nat.reduceLeDiff, Nat.reduceLT, Nat.reduceBEq, reduceCtorEq, Int.reduceEq]; rfl) (hand_plain (by rfl)) (by rfl)
            · try simp only [↓wk, ↓wl, nc, evV, wrapBits_eq, ↓reduceIte, Nat.reduceEqDiff, Nat.reduceAdd, Nat.reduceSub, Nat.reduceLeDiff, Nat.reduceLT, Nat.reduceBEq, reduceCtorEq, Int.reduceEq]
              refine evTs_ifg H (by rfl) ?_ ?_ <;> clear H <;> intro H
              · try simp only [↓wk, ↓wl, nc, evV, wrapBits_eq, ↓reduceIte, Nat.reduceEqDiff, Nat.reduceAdd, Nat.reduceSub, Nat.reduceLeDiff, Nat.reduceLT, Nat.reduceBEq, reduceCtorEq, Int.reduceEq]
                refine AW.ift (by rfl) ?_
                refine AW.rseq ?_
                try simp only [↓wk, ↓wl, nc, evV, wrapBits_eq, ↓reduceIte, Nat.reduceEqDiff, Nat.reduceAdd, Nat.reduceSub, Nat.reduceLeDiff, Nat.reduceLT, Nat.reduceBEq, reduceCtorEq, Int.reduceEq]
                refine AW.ret ?_
                refine blkQ.ret ?_
                cases H
                exact hQ _ _ _ _ (.inr rfl) (by simp only [resVs, omap, resV, ↓wk, ↓wl, nc, evV, wrapBits_eq, ↓reduceIte, Nat.reduceEqDiff, Nat.reduceAdd, Nat.reduceSub, Nat.reduceLeDiff, Nat.reduceLT, Nat.reduceBEq, reduceCtorEq, Int.reduceEq]; rfl) (hand_plain (by rfl)) (by rfl)
              · try simp only [↓wk, ↓wl, nc, evV, wrapBits_eq, ↓reduceIte, Nat.reduceEqDiff, Nat.reduceAdd, Nat.reduceSub, Nat.reduceLeDiff, Nat.reduceLT, Nat.reduceBEq, reduceCtorEq, Int.reduceEq]
                refine AW.ifc H (by rfl) ?_ ?_ <;> clear H <;> intro H
                · refine AW.rseq ?_
                  try simp only [↓wk, ↓wl, nc, evV, wrapBits_eq, ↓reduceIte, Nat.reduceEqDiff, Nat.reduceAdd, Nat.reduceSub, Nat.reduceLeDiff, Nat.reduceLT, Nat.reduceBEq, reduceCtorEq, Int.reduceEq]
                  refine AW.ret ?_
                  refine blkQ.ret ?_
                  cases H
                  exact hQ _ _ _ _ (.inr rfl) (by simp only [resVs, omap, resV, ↓wk, ↓wl, nc, evV, wrapBits_eq, ↓reduceIte, Nat.reduceEqDiff, Nat.reduceAdd, Nat.reduceSub, Nat.reduceLeDiff, Nat.reduceLT, Nat.reduceBEq, reduceCtorEq, Int.reduceEq]; rfl) (hand_plain (by rfl)) (by rfl)
                · refine AW.skip ?_
                  refine blkQ.norm ?_
                  refine AW.rseq ?_
                  try simp only [↓wk, ↓wl, nc, evV, wrapBits_eq, ↓reduceIte, Nat.reduceEqDiff, Nat.reduceAdd, Nat.reduceSub, Nat.reduceLeDiff, Nat.reduceLT, Nat.reduceBEq, reduceCtorEq, Int.reduceEq]
                  refine AW.ret ?_
                  cases H
                  exact hQ _ _ _ _ (.inr rfl) (by simp only [resVs, omap, resV, ↓wk, ↓wl, nc, evV, wrapBits_eq, ↓reduceIte, Nat.reduceEqDiff, Nat.reduceAdd, Nat.reduceSub, Nat.reduceLeDiff, Nat.reduceLT, Nat.reduceBEq, reduceCtorEq, Int.reduceEq]; rfl) (hand_plain (by rfl)) (by rfl)
          · try simp only [↓wk, ↓wl, nc, evV, wrapBits_eq, ↓reduceIte, Nat.reduceEqDiff, Nat.reduceAdd, Nat.reduceSub, Nat.reduceLeDiff, Nat.reduceLT, Nat.reduceBEq, reduceCtorEq, Int.reduceEq]
            refine AW.iff (by rfl) ?_
            refine AW.skip ?_
            refine blkQ.norm ?_
            refine AW.rseq ?_
            try simp only [↓wk, ↓wl, nc, evV, wrapBits_eq, ↓reduceIte, Nat.reduceEqDiff, Nat.reduceAdd, Nat.reduceSub, Nat.reduceLeDiff, Nat.reduceLT, Nat.reduceBEq, reduceCtorEq, Int.reduceEq]
            refine AW.ret ?_
            cases H
            exact hQ _ _ _ _ (.inr rfl) (by simp only [resVs, omap, resV, ↓wk, ↓wl, nc, evV, wrapBits_eq, ↓reduceIte, Nat.reduceEqDiff, Nat.reduceAdd, Nat.reduceSub, Nat.reduceLeDiff, Nat.reduceLT, Nat.reduceBEq, reduceCtorEq, Int.reduceEq]; rfl) (hand_plain (by rfl)) (by rfl)
noncomputable def f53_L1 : Lp (Int × (List Int)) (Int × (List Int)) where
  body := fun (z_1755, out_1756) => (if (decide (128 ≤ z_1755)) = true then (app? 1 out_1756 ([(IntKind.u8.wrap ((BitVec.ofInt (IntKind.bits .u8) (IntKind.u8.wrap z_1755) ||| BitVec.ofInt (IntKind.bits .u8) 128).toNat : Int))])).bind fun out_1761 => (some (.next ((Int.fdiv z_1755 (2 ^ (min (Int.toNat 7) (IntKind.bits .u64)))), out_1761))) else (some (.brk (z_1755, out_1756))))
  cst := fun (z_1755, out_1756) => ⟨put (put (fun _ => .junk) 4 (.row 0 0 0 out_1756.length)) 3 (.int .u64 z_1755), [.els 0 (out_1756.map (AV.int .u8))]⟩
def c53_0 : C := .cond (.t 13) (.skip) (.exit 0)
def c53_1 : C := .reg [iI 14 (.mv (.t 3)), iI 15 (.bin .shr (.t 14) (.c (.int .u64 7))), iI 3 (.mv (.t 15))]
def c53_2 : C := .seq (.block 1 (.reg [iI 16 (.mv (.t 4)), iI 17 (.mv (.t 3)), iI 18 (.cint .u8 (.t 17)), iI 19 (.bin .or (.t 18) (.c (.int .u8 128))), iI 20 (.mkslp 0 1 (.int .u8 0) [(0, (.t 19))]), iI 21 (.append 0 1 (.t 16) (.t 20)), iI 4 (.mv (.t 21))])) c53_1
def c53_3 : C := .seq (.reg [iI 22 (.mv (.t 4)), iI 23 (.mv (.t 3)), iI 24 (.cint .u8 (.t 23)), iI 25 (.mkslp 0 1 (.int .u8 0) [(0, (.t 24))]), iI 26 (.append 0 1 (.t 22) (.t 25)), iI 27 (.cstr (.t 26)), iI 2 (.mv (.t 27))]) .ret
def c53_4 : C := .seq (.block 0 (.loop (.seq (.seq (.reg [iI 12 (.mv (.t 3)), iI 13 (.bin .geq (.t 12) (.c (.int .u64 128)))]) c53_0) c53_2))) c53_3
def c53_5 : C := .seq (.reg [iI 4 (.mv (.c (.sl 0 true [])))]) c53_4
def c53_6 : C := .seq (.reg [iI 5 (.mv (.t 0)), iI 6 (.cint .u64 (.t 5)), iI 7 (.bin .shl (.t 6) (.c (.int .u64 1))), iI 8 (.mv (.t 0)), iI 9 (.bin .shr (.t 8) (.c (.int .u64 63))), iI 10 (.cint .u64 (.t 9)), iI 11 (.bin .xor (.t 7) (.t 10)), iI 3 (.mv (.t 11))]) c53_5
def ir53 : C := .seq (.reg [iI 2 (.mv (.c (.str [])))]) c53_6
theorem fd53 : fd? Try.prog 53 = some (28, [.slot 2], ir53) := by kernel_rfl
noncomputable def f53 (n_1749 : Int) : Option ((List UInt8)) :=
  (Lp.run (f53_L1) ((IntKind.u64.wrap ((BitVec.ofInt (IntKind.bits .u64) (IntKind.u64.wrap ((IntKind.u64.wrap n_1749) * 2 ^ (min (Int.toNat 1) (IntKind.bits .u64)))) ^^^ BitVec.ofInt (IntKind.bits .u64) (IntKind.u64.wrap (Int.fdiv n_1749 (2 ^ (min (Int.toNat 63) (IntKind.bits .i64)))))).toNat : Int)), [])).bind fun (z_1758, out_1759) => (app? 1 out_1759 ([(IntKind.u8.wrap z_1758)])).bind fun out_1760 => (some (out_1760.map b8))
theorem f53_ok {n_1749 : Int} {r_ : (List UInt8)} (H : f53 n_1749 = some r_) : Pure Try.prog 53 [.int .i64 n_1749] (· = .str r_) := by
  refine Pure.walk2 fd53 none (Nat.le_of_ble_eq_true rfl) (by rfl) fun Q hQ => ?_
  simp only [f53] at H
  refine AW.rseq ?_
  try simp only [↓wk, ↓wl, nc, evV, wrapBits_eq, ↓reduceIte, Nat.reduceEqDiff, Nat.reduceAdd, Nat.reduceSub, Nat.reduceLeDiff, Nat.reduceLT, Nat.reduceBEq, reduceCtorEq, Int.reduceEq]
  refine AW.rseq ?_
  try simp only [↓wk, ↓wl, nc, evV, wrapBits_eq, ↓reduceIte, Nat.reduceEqDiff, Nat.reduceAdd, Nat.reduceSub, Nat.reduceLeDiff, Nat.reduceLT, Nat.reduceBEq, reduceCtorEq, Int.reduceEq]
  refine rest_shl (by decide) ?_
  try simp only [↓wk, ↓wl, nc, evV, wrapBits_eq, ↓reduceIte, Nat.reduceEqDiff, Nat.reduceAdd, Nat.reduceSub, Nat.reduceLeDiff, Nat.reduceLT, Nat.reduceBEq, reduceCtorEq, Int.reduceEq]
  refine rest_shr (by decide) ?_
  try simp only [↓wk, ↓wl, nc, evV, wrapBits_eq, ↓reduceIte, Nat.reduceEqDiff, Nat.reduceAdd, Nat.reduceSub, Nat.reduceLeDiff, Nat.reduceLT, Nat.reduceBEq, reduceCtorEq, Int.reduceEq]
  refine rest_xor ?_
  try simp only [↓wk, ↓wl, nc, evV, wrapBits_eq, ↓reduceIte, Nat.reduceEqDiff, Nat.reduceAdd, Nat.reduceSub, Nat.reduceLeDiff, Nat.reduceLT, Nat.reduceBEq, reduceCtorEq, Int.reduceEq]
  refine AW.rseq ?_
  try simp only [↓wk, ↓wl, nc, evV, wrapBits_eq, ↓reduceIte, Nat.reduceEqDiff, Nat.reduceAdd, Nat.reduceSub, Nat.reduceLeDiff, Nat.reduceLT, Nat.reduceBEq, reduceCtorEq, Int.reduceEq]
  refine AW.bseq ?_
  refine AW.iter H ((Le.trans (Le.nilRow (i := 4) (e := 0) (by simp only [↓wk, ↓wl, nc, evV, wrapBits_eq, ↓reduceIte, Nat.reduceEqDiff, Nat.reduceAdd, Nat.reduceSub, Nat.reduceLeDiff, Nat.reduceLT, Nat.reduceBEq, reduceCtorEq, Int.reduceEq])) (Le.none [0] [3, 4] (by decide) (by simp only [f53_L1, List.length_set, Option.map_some, restrict_eq, renS_nil, renS_cons, renB_els, renB_cel, renB_dead, deep_eq, map_ren_enc, ren_agg', ren_tup', ren_fn', ren_int', ren_bool', ren_str', ren_sl', ren_pro', ren_nilp', ren_nilfn', ren_junk', ren_ptr', ren_row', ren_arow', ren_eptr', vm, List.idxOf?_cons, List.idxOf?_nil, beq_self_eq_true, Option.map_none, List.getD_cons_zero, List.getD_cons_succ, ↓wk, ↓wl, nc, evV, wrapBits_eq, ↓reduceIte, Nat.reduceEqDiff, Nat.reduceAdd, Nat.reduceSub, Nat.reduceLeDiff, Nat.reduceLT, Nat.reduceBEq, reduceCtorEq, Int.reduceEq])))) ?_ <;> clear H
  rintro ⟨z_1755, out_1756⟩ x_ st0_ H hst_
  simp only [f53_L1] at H hst_
  subst hst_
  refine AW.sseq ?_
  refine AW.rseq ?_
  try simp only [↓wk, ↓wl, nc, evV, wrapBits_eq, ↓reduceIte, Nat.reduceEqDiff, Nat.reduceAdd, Nat.reduceSub, Nat.reduceLeDiff, Nat.reduceLT, Nat.reduceBEq, reduceCtorEq, Int.reduceEq]
  refine AW.ifc H (by rfl) ?_ ?_ <;> clear H <;> intro H
  · refine AW.skip ?_
    refine seqQ.norm ?_
    refine AW.bseq ?_
    refine AW.rend ?_
    try simp only [↓wk, ↓wl, nc, evV, wrapBits_eq, ↓reduceIte, Nat.reduceEqDiff, Nat.reduceAdd, Nat.reduceSub, Nat.reduceLeDiff, Nat.reduceLT, Nat.reduceBEq, reduceCtorEq, Int.reduceEq]
    refine rest_or ?_
    try simp only [↓wk, ↓wl, nc, evV, wrapBits_eq, ↓reduceIte, Nat.reduceEqDiff, Nat.reduceAdd, Nat.reduceSub, Nat.reduceLeDiff, Nat.reduceLT, Nat.reduceBEq, reduceCtorEq, Int.reduceEq]
    refine evTs_app (enc := (AV.int .u8)) H (by rfl) (by first | rfl | simp only [List.length_set]) (by rfl) (by rfl) ?_ <;> clear H <;> intro out_1761 H
    try simp only [↓wk, ↓wl, nc, evV, wrapBits_eq, ↓reduceIte, Nat.reduceEqDiff, Nat.reduceAdd, Nat.reduceSub, Nat.reduceLeDiff, Nat.reduceLT, Nat.reduceBEq, reduceCtorEq, Int.reduceEq]
    refine blkQ.norm ?_
    refine AW.rend ?_
    try simp only [↓wk, ↓wl, nc, evV, wrapBits_eq, ↓reduceIte, Nat.reduceEqDiff, Nat.reduceAdd, Nat.reduceSub, Nat.reduceLeDiff, Nat.reduceLT, Nat.reduceBEq, reduceCtorEq, Int.reduceEq]
    refine rest_shr (by decide) ?_
    try simp only [↓wk, ↓wl, nc, evV, wrapBits_eq, ↓reduceIte, Nat.reduceEqDiff, Nat.reduceAdd, Nat.reduceSub, Nat.reduceLeDiff, Nat.reduceLT, Nat.reduceBEq, reduceCtorEq, Int.reduceEq]
    exact loopQ.next H ((Le.none [1] [3, 4] (by decide) (by simp only [f53_L1, List.length_set, Option.map_some, restrict_eq, renS_nil, renS_cons, renB_els, renB_cel, renB_dead, deep_eq, map_ren_enc, ren_agg', ren_tup', ren_fn', ren_int', ren_bool', ren_str', ren_sl', ren_pro', ren_nilp', ren_nilfn', ren_junk', ren_ptr', ren_row', ren_arow', ren_eptr', vm, List.idxOf?_cons, List.idxOf?_nil, beq_self_eq_true, Option.map_none, List.getD_cons_zero, List.getD_cons_succ, ↓wk, ↓wl, nc, evV, wrapBits_eq, ↓reduceIte, Nat.reduceEqDiff, Nat.reduceAdd, Nat.reduceSub, Nat.reduceLeDiff, Nat.reduceLT, Nat.reduceBEq, reduceCtorEq, Int.reduceEq])))
  · refine AW.exit ?_
    refine seqQ.exit ?_
    refine loopQ.exit H ?_ <;> clear H <;> intro H
    try dsimp only at H
    refine blkQ.here ?_
    refine AW.rseq ?_
    try simp only [↓wk, ↓wl, nc, evV, wrapBits_eq, ↓reduceIte, Nat.reduceEqDiff, Nat.reduceAdd, Nat.reduceSub, Nat.reduceLeDiff, Nat.reduceLT, Nat.reduceBEq, reduceCtorEq, Int.reduceEq]
    refine evTs_app (enc := (AV.int .u8)) H (by rfl) (by first | rfl | simp only [List.length_set]) (by rfl) (by rfl) ?_ <;> clear H <;> intro out_1762 H
    try simp only [↓wk, ↓wl, nc, evV, wrapBits_eq, ↓reduceIte, Nat.reduceEqDiff, Nat.reduceAdd, Nat.reduceSub, Nat.reduceLeDiff, Nat.reduceLT, Nat.reduceBEq, reduceCtorEq, Int.reduceEq]
    refine evTs_cstrr (xs := out_1762) (by rfl) (by rfl) (by rfl) ?_
    try simp only [↓wk, ↓wl, nc, evV, wrapBits_eq, ↓reduceIte, Nat.reduceEqDiff, Nat.reduceAdd, Nat.reduceSub, Nat.reduceLeDiff, Nat.reduceLT, Nat.reduceBEq, reduceCtorEq, Int.reduceEq]
    refine AW.ret ?_
    cases H
    exact hQ _ _ _ _ (.inr rfl) (by simp only [resVs, omap, resV, ↓wk, ↓wl, nc, evV, wrapBits_eq, ↓reduceIte, Nat.reduceEqDiff, Nat.reduceAdd, Nat.reduceSub, Nat.reduceLeDiff, Nat.reduceLT, Nat.reduceBEq, reduceCtorEq, Int.reduceEq]; rfl) (hand_plain (by rfl)) (by rfl)
def c54_0 : C := .cond (.t 6) (.seq (.reg [iI 2 (.mv (.c (.str []))), iI 3 (.mv (.c (.int .i64 13)))]) .ret) (.skip)
def c54_1 : C := .seq (.reg [iI 7 (.mv (.t 0)), iI 8 (.len 1 (.t 7)), iI 9 (.call (.c (.fn 53 [])) [(.t 8)]), iI 10 (.mv (.t 0)), iI 11 (.bin .add (.t 9) (.t 10)), iI 2 (.mv (.t 11)), iI 3 (.mv (.c (.int .i64 0)))]) .ret
def c54_2 : C := .seq (.seq (.reg [iI 4 (.mv (.t 0)), iI 5 (.len 1 (.t 4)), iI 6 (.bin .gtr (.t 5) (.c (.int .i64 65535)))]) c54_0) c54_1
def ir54 : C := .seq (.reg [iI 2 (.mv (.c (.str []))), iI 3 (.mv (.c (.int .i64 0)))]) c54_2
theorem fd54 : fd? Try.prog 54 = some (12, [.slot 2, .slot 3], ir54) := by kernel_rfl
noncomputable def f54 (t_1795 : (List UInt8)) : Option ((List UInt8) × Int) :=
  (if (decide (65535 < ((t_1795.length : Nat) : Int))) = true then (some ([], 13)) else (f53 ((t_1795.length : Nat) : Int)).bind fun r_1796 => (cat? r_1796 t_1795).bind fun v_1797 => (some (v_1797, 0)))
theorem f54_ok {t_1795 : (List UInt8)} {r_ : (List UInt8) × Int} (H : f54 t_1795 = some r_) : Pure Try.prog 54 [.str t_1795] (· = .tup [.str r_.1, .int .i64 r_.2]) := by
  refine Pure.walk2 fd54 none (Nat.le_of_ble_eq_true rfl) (by rfl) fun Q hQ => ?_
  simp only [f54] at H
  refine AW.rseq ?_
  try simp only [↓wk, ↓wl, nc, evV, wrapBits_eq, ↓reduceIte, Nat.reduceEqDiff, Nat.reduceAdd, Nat.reduceSub, Nat.reduceLeDiff, Nat.reduceLT, Nat.reduceBEq, reduceCtorEq, Int.reduceEq]
  refine AW.sseq ?_
  refine AW.rseq ?_
  try simp only [↓wk, ↓wl, nc, evV, wrapBits_eq, ↓reduceIte, Nat.reduceEqDiff, Nat.reduceAdd, Nat.reduceSub, Nat.reduceLeDiff, Nat.reduceLT, Nat.reduceBEq, reduceCtorEq, Int.reduceEq]
  refine AW.ifc H (by rfl) ?_ ?_ <;> clear H <;> intro H
  · refine AW.rseq ?_
    try simp only [↓wk, ↓wl, nc, evV, wrapBits_eq, ↓reduceIte, Nat.reduceEqDiff, Nat.reduceAdd, Nat.reduceSub, Nat.reduceLeDiff, Nat.reduceLT, Nat.reduceBEq, reduceCtorEq, Int.reduceEq]
    refine AW.ret ?_
    refine seqQ.ret ?_
    cases H
    exact hQ _ _ _ _ (.inr rfl) (by simp only [resVs, omap, resV, ↓wk, ↓wl, nc, evV, wrapBits_eq, ↓reduceIte, Nat.reduceEqDiff, Nat.reduceAdd, Nat.reduceSub, Nat.reduceLeDiff, Nat.reduceLT, Nat.reduceBEq, reduceCtorEq, Int.reduceEq]; rfl) (hand_plain (by rfl)) (by rfl)
  · refine AW.skip ?_
    refine seqQ.norm ?_
    refine AW.rseq ?_
    try simp only [↓wk, ↓wl, nc, evV, wrapBits_eq, ↓reduceIte, Nat.reduceEqDiff, Nat.reduceAdd, Nat.reduceSub, Nat.reduceLeDiff, Nat.reduceLT, Nat.reduceBEq, reduceCtorEq, Int.reduceEq]
    refine evTs_pure hFn H (fun _ h => f53_ok h) (by rfl) (by rfl) (by rfl) (by rfl) (fun _ => rfl) ?_ <;> clear H <;> intro r_1796 H
    try simp only [eL, ↓wk, ↓wl, nc, evV, wrapBits_eq, ↓reduceIte, Nat.reduceEqDiff, Nat.reduceAdd, Nat.reduceSub, Nat.reduceLeDiff, Nat.reduceLT, Nat.reduceBEq, reduceCtorEq, Int.reduceEq]
    refine rest_cat H ?_ <;> clear H <;> intro v_1797 H
    try simp only [↓wk, ↓wl, nc, evV, wrapBits_eq, ↓reduceIte, Nat.reduceEqDiff, Nat.reduceAdd, Nat.reduceSub, Nat.reduceLeDiff, Nat.reduceLT, Nat.reduceBEq, reduceCtorEq, Int.reduceEq]
    refine AW.ret ?_
    cases H
    exact hQ _ _ _ _ (.inr rfl) (by simp only [resVs, omap, resV, ↓wk, ↓wl, nc, evV, wrapBits_eq, ↓reduceIte, Nat.reduceEqDiff, Nat.reduceAdd, Nat.reduceSub, Nat.reduceLeDiff, Nat.reduceLT, Nat.reduceBEq, reduceCtorEq, Int.reduceEq]; rfl) (hand_plain (by rfl)) (by rfl)
def c76_0 : C := .seq (.reg [iI 3 (.mv (.t 0)), iI 4 (.bin .shr (.t 3) (.c (.int .u64 8))), iI 5 (.cint .u8 (.t 4)), iI 6 (.mv (.t 0)), iI 7 (.cint .u8 (.t 6)), iI 8 (.mkslp 0 2 (.int .u8 0) [(0, (.t 5)), (1, (.t 7))]), iI 9 (.cstr (.t 8)), iI 2 (.mv (.t 9))]) .ret
def ir76 : C := .seq (.reg [iI 2 (.mv (.c (.str [])))]) c76_0
theorem fd76 : fd? Try.prog 76 = some (10, [.slot 2], ir76) := by kernel_rfl
noncomputable def f76 (n_1801 : Int) : Option ((List UInt8)) :=
  (some (([(IntKind.u8.wrap (Int.fdiv n_1801 (2 ^ (min (Int.toNat 8) (IntKind.bits .i64))))), (IntKind.u8.wrap n_1801)]).map b8))
theorem f76_ok {n_1801 : Int} {r_ : (List UInt8)} (H : f76 n_1801 = some r_) : Pure Try.prog 76 [.int .i64 n_1801] (· = .str r_) := by
  refine Pure.walk2 fd76 none (Nat.le_of_ble_eq_true rfl) (by rfl) fun Q hQ => ?_
  simp only [f76] at H
  refine AW.rseq ?_
  try simp only [↓wk, ↓wl, nc, evV, wrapBits_eq, ↓reduceIte, Nat.reduceEqDiff, Nat.reduceAdd, Nat.reduceSub, Nat.reduceLeDiff, Nat.reduceLT, Nat.reduceBEq, reduceCtorEq, Int.reduceEq]
  refine AW.rseq ?_
  try simp only [↓wk, ↓wl, nc, evV, wrapBits_eq, ↓reduceIte, Nat.reduceEqDiff, Nat.reduceAdd, Nat.reduceSub, Nat.reduceLeDiff, Nat.reduceLT, Nat.reduceBEq, reduceCtorEq, Int.reduceEq]
  refine rest_shr (by decide) ?_
  try simp only [↓wk, ↓wl, nc, evV, wrapBits_eq, ↓reduceIte, Nat.reduceEqDiff, Nat.reduceAdd, Nat.reduceSub, Nat.reduceLeDiff, Nat.reduceLT, Nat.reduceBEq, reduceCtorEq, Int.reduceEq]
  refine evTs_cstr (xs := [(IntKind.u8.wrap (Int.fdiv n_1801 (2 ^ (min (Int.toNat 8) (IntKind.bits .i64))))), (IntKind.u8.wrap n_1801)]) (by rfl) ?_
  try simp only [↓wk, ↓wl, nc, evV, wrapBits_eq, ↓reduceIte, Nat.reduceEqDiff, Nat.reduceAdd, Nat.reduceSub, Nat.reduceLeDiff, Nat.reduceLT, Nat.reduceBEq, reduceCtorEq, Int.reduceEq]
  refine AW.ret ?_
  cases H
  exact hQ _ _ _ _ (.inr rfl) (by simp only [resVs, omap, resV, ↓wk, ↓wl, nc, evV, wrapBits_eq, ↓reduceIte, Nat.reduceEqDiff, Nat.reduceAdd, Nat.reduceSub, Nat.reduceLeDiff, Nat.reduceLT, Nat.reduceBEq, reduceCtorEq, Int.reduceEq]; rfl) (hand_plain (by rfl)) (by rfl)
noncomputable def f77_L1 (s_1805 : (List UInt8)) : Lp (Int × Int × Int) (Int × Int) where
  body := fun (a_1811, b_1812, v_1813) => (if (decide (v_1813 < ((s_1805.length : Nat) : Int))) = true then (at? s_1805 v_1813).bind fun b_1817 => (some (.next (((IntKind.u64.wrap (a_1811 + (IntKind.u64.wrap (b_1817.toNat : Int)))).tmod 255), ((IntKind.u64.wrap (b_1812 + ((IntKind.u64.wrap (a_1811 + (IntKind.u64.wrap (b_1817.toNat : Int)))).tmod 255))).tmod 255), (IntKind.i64.wrap (v_1813 + 1))))) else (some (.brk (a_1811, b_1812))))
  cst := fun (a_1811, b_1812, v_1813) => ⟨put (put (put (put (put (fun _ => .junk) 8 (.int .i64 v_1813)) 7 (.int .i64 ((s_1805.length : Nat) : Int))) 4 (.int .u64 b_1812)) 3 (.int .u64 a_1811)) 0 (.str s_1805), []⟩
def c77_0 : C := .reg [iI 18 (.mv (.t 4)), iI 19 (.mv (.t 3)), iI 20 (.bin .add (.t 18) (.t 19)), iI 21 (.bin .rem (.t 20) (.c (.int .u64 255))), iI 4 (.mv (.t 21))]
def c77_1 : C := .seq (.reg [iI 11 (.mv (.t 3)), iI 12 (.mv (.t 0)), iI 13 (.mv (.t 5)), iI 14 (.sidx (.t 12) (.t 13)), iI 15 (.cint .u64 (.t 14)), iI 16 (.bin .add (.t 11) (.t 15)), iI 17 (.bin .rem (.t 16) (.c (.int .u64 255))), iI 3 (.mv (.t 17))]) c77_0
def c77_2 : C := .reg [iI 22 (.bin .add (.t 8) (.c (.int .i64 1))), iI 8 (.mv (.t 22))]
def c77_3 : C := .seq (.block 1 (.seq (.reg [iI 10 (.mv (.t 8)), iI 5 (.mv (.t 10))]) c77_1)) c77_2
def c77_4 : C := .seq (.cond (.t 9) (.skip) (.exit 0)) c77_3
def c77_5 : C := .block 0 (.loop (.seq (.reg [iI 9 (.bin .lss (.t 8) (.t 7))]) c77_4))
def c77_6 : C := .seq (.reg [iI 23 (.mv (.t 4)), iI 24 (.bin .shl (.t 23) (.c (.int .u64 8))), iI 25 (.mv (.t 3)), iI 26 (.bin .or (.t 24) (.t 25)), iI 27 (.cint .i64 (.t 26)), iI 2 (.mv (.t 27))]) .ret
def c77_7 : C := .seq (.seq (.reg [iI 6 (.mv (.t 0)), iI 7 (.len 1 (.t 6)), iI 8 (.mv (.c (.int .i64 0)))]) c77_5) c77_6
def c77_8 : C := .seq (.reg [iI 3 (.mv (.c (.int .u64 0))), iI 4 (.mv (.c (.int .u64 0)))]) c77_7
def ir77 : C := .seq (.reg [iI 2 (.mv (.c (.int .i64 0)))]) c77_8
theorem fd77 : fd? Try.prog 77 = some (28, [.slot 2], ir77) := by kernel_rfl
noncomputable def f77 (s_1805 : (List UInt8)) : Option (Int) :=
  (Lp.run (f77_L1 s_1805) (0, 0, 0)).bind fun (a_1815, b_1816) => (some (IntKind.i64.wrap (IntKind.u64.wrap ((BitVec.ofInt (IntKind.bits .u64) (IntKind.u64.wrap (b_1816 * 2 ^ (min (Int.toNat 8) (IntKind.bits .u64)))) ||| BitVec.ofInt (IntKind.bits .u64) a_1815).toNat : Int))))
theorem f77_ok {s_1805 : (List UInt8)} {r_ : Int} (H : f77 s_1805 = some r_) : Pure Try.prog 77 [.str s_1805] (· = .int .i64 r_) := by
  refine Pure.walk2 fd77 none (Nat.le_of_ble_eq_true rfl) (by rfl) fun Q hQ => ?_
  simp only [f77] at H
  refine AW.rseq ?_
  try simp only [↓wk, ↓wl, nc, evV, wrapBits_eq, ↓reduceIte, Nat.reduceEqDiff, Nat.reduceAdd, Nat.reduceSub, Nat.reduceLeDiff, Nat.reduceLT, Nat.reduceBEq, reduceCtorEq, Int.reduceEq]
  refine AW.rseq ?_
  try simp only [↓wk, ↓wl, nc, evV, wrapBits_eq, ↓reduceIte, Nat.reduceEqDiff, Nat.reduceAdd, Nat.reduceSub, Nat.reduceLeDiff, Nat.reduceLT, Nat.reduceBEq, reduceCtorEq, Int.reduceEq]
  refine AW.sseq ?_
  refine AW.rseq ?_
  try simp only [↓wk, ↓wl, nc, evV, wrapBits_eq, ↓reduceIte, Nat.reduceEqDiff, Nat.reduceAdd, Nat.reduceSub, Nat.reduceLeDiff, Nat.reduceLT, Nat.reduceBEq, reduceCtorEq, Int.reduceEq]
  refine AW.bend ?_
  refine AW.iter H ((Le.none [] [0, 3, 4, 7, 8] (by decide) (by simp only [f77_L1, List.length_set, Option.map_some, restrict_eq, renS_nil, renS_cons, renB_els, renB_cel, renB_dead, deep_eq, map_ren_enc, ren_agg', ren_tup', ren_fn', ren_int', ren_bool', ren_str', ren_sl', ren_pro', ren_nilp', ren_nilfn', ren_junk', ren_ptr', ren_row', ren_arow', ren_eptr', vm, List.idxOf?_cons, List.idxOf?_nil, beq_self_eq_true, Option.map_none, List.getD_cons_zero, List.getD_cons_succ, ↓wk, ↓wl, nc, evV, wrapBits_eq, ↓reduceIte, Nat.reduceEqDiff, Nat.reduceAdd, Nat.reduceSub, Nat.reduceLeDiff, Nat.reduceLT, Nat.reduceBEq, reduceCtorEq, Int.reduceEq]))) ?_ <;> clear H
  rintro ⟨a_1811, b_1812, v_1813⟩ x_ st0_ H hst_
  simp only [f77_L1] at H hst_
  subst hst_
  refine AW.rseq ?_
  try simp only [↓wk, ↓wl, nc, evV, wrapBits_eq, ↓reduceIte, Nat.reduceEqDiff, Nat.reduceAdd, Nat.reduceSub, Nat.reduceLeDiff, Nat.reduceLT, Nat.reduceBEq, reduceCtorEq, Int.reduceEq]
  refine AW.sseq ?_
  refine AW.ifc H (by rfl) ?_ ?_ <;> clear H <;> intro H
  · refine AW.skip ?_
    refine seqQ.norm ?_
    refine AW.bseq ?_
    refine AW.rseq ?_
    try simp only [↓wk, ↓wl, nc, evV, wrapBits_eq, ↓reduceIte, Nat.reduceEqDiff, Nat.reduceAdd, Nat.reduceSub, Nat.reduceLeDiff, Nat.reduceLT, Nat.reduceBEq, reduceCtorEq, Int.reduceEq]
    refine AW.rseq ?_
    try simp only [↓wk, ↓wl, nc, evV, wrapBits_eq, ↓reduceIte, Nat.reduceEqDiff, Nat.reduceAdd, Nat.reduceSub, Nat.reduceLeDiff, Nat.reduceLT, Nat.reduceBEq, reduceCtorEq, Int.reduceEq]
    refine evTs_sat H (by rfl) (by rfl) ?_ <;> clear H <;> intro b_1817 H
    try simp only [↓wk, ↓wl, nc, evV, wrapBits_eq, ↓reduceIte, Nat.reduceEqDiff, Nat.reduceAdd, Nat.reduceSub, Nat.reduceLeDiff, Nat.reduceLT, Nat.reduceBEq, reduceCtorEq, Int.reduceEq]
    refine AW.rend ?_
    try simp only [↓wk, ↓wl, nc, evV, wrapBits_eq, ↓reduceIte, Nat.reduceEqDiff, Nat.reduceAdd, Nat.reduceSub, Nat.reduceLeDiff, Nat.reduceLT, Nat.reduceBEq, reduceCtorEq, Int.reduceEq]
    refine blkQ.norm ?_
    refine AW.rend ?_
    try simp only [↓wk, ↓wl, nc, evV, wrapBits_eq, ↓reduceIte, Nat.reduceEqDiff, Nat.reduceAdd, Nat.reduceSub, Nat.reduceLeDiff, Nat.reduceLT, Nat.reduceBEq, reduceCtorEq, Int.reduceEq]
    exact loopQ.next H ((Le.none [] [0, 3, 4, 7, 8] (by decide) (by simp only [f77_L1, List.length_set, Option.map_some, restrict_eq, renS_nil, renS_cons, renB_els, renB_cel, renB_dead, deep_eq, map_ren_enc, ren_agg', ren_tup', ren_fn', ren_int', ren_bool', ren_str', ren_sl', ren_pro', ren_nilp', ren_nilfn', ren_junk', ren_ptr', ren_row', ren_arow', ren_eptr', vm, List.idxOf?_cons, List.idxOf?_nil, beq_self_eq_true, Option.map_none, List.getD_cons_zero, List.getD_cons_succ, ↓wk, ↓wl, nc, evV, wrapBits_eq, ↓reduceIte, Nat.reduceEqDiff, Nat.reduceAdd, Nat.reduceSub, Nat.reduceLeDiff, Nat.reduceLT, Nat.reduceBEq, reduceCtorEq, Int.reduceEq])))
  · refine AW.exit ?_
    refine seqQ.exit ?_
    refine loopQ.exit H ?_ <;> clear H <;> intro H
    try dsimp only at H
    refine blk0.here ?_
    refine seqQ.norm ?_
    refine AW.rseq ?_
    try simp only [↓wk, ↓wl, nc, evV, wrapBits_eq, ↓reduceIte, Nat.reduceEqDiff, Nat.reduceAdd, Nat.reduceSub, Nat.reduceLeDiff, Nat.reduceLT, Nat.reduceBEq, reduceCtorEq, Int.reduceEq]
    refine rest_shl (by decide) ?_
    try simp only [↓wk, ↓wl, nc, evV, wrapBits_eq, ↓reduceIte, Nat.reduceEqDiff, Nat.reduceAdd, Nat.reduceSub, Nat.reduceLeDiff, Nat.reduceLT, Nat.reduceBEq, reduceCtorEq, Int.reduceEq]
    refine rest_or ?_
    try simp only [↓wk, ↓wl, nc, evV, wrapBits_eq, ↓reduceIte, Nat.reduceEqDiff, Nat.reduceAdd, Nat.reduceSub, Nat.reduceLeDiff, Nat.reduceLT, Nat.reduceBEq, reduceCtorEq, Int.reduceEq]
    refine AW.ret ?_
    cases H
    exact hQ _ _ _ _ (.inr rfl) (by simp only [resVs, omap, resV, ↓wk, ↓wl, nc, evV, wrapBits_eq, ↓reduceIte, Nat.reduceEqDiff, Nat.reduceAdd, Nat.reduceSub, Nat.reduceLeDiff, Nat.reduceLT, Nat.reduceBEq, reduceCtorEq, Int.reduceEq]; rfl) (hand_plain (by rfl)) (by rfl)
def c55_0 : C := .cond (.t 14) (.seq (.reg [iI 2 (.mv (.c (.str []))), iI 3 (.mv (.c (.int .i64 13)))]) .ret) (.skip)
def c55_1 : C := .cond (.t 5) (.seq (.reg [iI 2 (.mv (.c (.str []))), iI 3 (.mv (.c (.int .i64 2)))]) .ret) (.seq (.reg [iI 15 (.faddr 1 (.t 1)), iI 16 (.load 0 (.t 15)), iI 17 (.len 1 (.t 16)), iI 18 (.bin .gtr (.t 17) (.c (.int .i64 65535))), iI 14 (.mv (.t 18))]) c55_0)
def c55_2 : C := .seq (.reg [iI 32 (.mv (.t 4)), iI 33 (.mv (.t 4)), iI 34 (.call (.c (.fn 77 [])) [(.t 33)]), iI 35 (.call (.c (.fn 76 [])) [(.t 34)]), iI 36 (.bin .add (.t 32) (.t 35)), iI 2 (.mv (.t 36)), iI 3 (.mv (.c (.int .i64 0)))]) .ret
def c55_3 : C := .seq (.regq [iI 19 (.faddr 0 (.t 1)), iI 20 (.load 0 (.t 19)), iI 21 (.cint .u8 (.t 20)), iI 22 (.mkslp 0 1 (.int .u8 0) [(0, (.t 21))]), iI 23 (.cstr (.t 22)), iI 24 (.faddr 1 (.t 1)), iI 25 (.load 0 (.t 24)), iI 26 (.len 1 (.t 25)), iI 27 (.call (.c (.fn 76 [])) [(.t 26)]), iI 28 (.bin .add (.t 23) (.t 27)), iI 29 (.faddr 1 (.t 1)), iI 30 (.load 0 (.t 29)), iI 31 (.bin .add (.t 28) (.t 30)), iI 4 (.mv (.t 31))]) c55_2
def c55_4 : C := .seq (.block 0 (.seq (.reg [iI 6 (.faddr 0 (.t 1)), iI 7 (.load 0 (.t 6)), iI 8 (.bin .lss (.t 7) (.c (.int .i64 0))), iI 9 (.mv (.t 8)), iG (some 10) 9 false (.faddr 0 (.t 1)), iG (some 11) 9 false (.load 0 (.t 10)), iG (some 12) 9 false (.bin .gtr (.t 11) (.c (.int .i64 255))), iI 13 (.pick (.t 9) (.c (.bool true)) (.t 12)), iI 5 (.mv (.t 13))]) c55_1)) c55_3
def ir55 : C := .seq (.reg [iI 1 (.box (.t 0)), iI 2 (.mv (.c (.str []))), iI 3 (.mv (.c (.int .i64 0)))]) c55_4
theorem fd55 : fd? Try.prog 55 = some (37, [.slot 2, .slot 3], ir55) := by kernel_rfl
noncomputable def f55 (x_1800 : RecordEntry) : Option ((List UInt8) × Int) :=
  (if (decide (x_1800.fKind < 0)) = true then (some ([], 2)) else (if (decide (255 < x_1800.fKind)) = true then (some ([], 2)) else (if (decide (65535 < ((x_1800.fData.length : Nat) : Int))) = true then (some ([], 13)) else (f76 ((x_1800.fData.length : Nat) : Int)).bind fun r_1802 => (cat? (([(IntKind.u8.wrap x_1800.fKind)]).map b8) r_1802).bind fun v_1803 => (cat? v_1803 x_1800.fData).bind fun v_1804 => (f77 v_1804).bind fun r_1818 => (f76 r_1818).bind fun r_1819 => (cat? v_1804 r_1819).bind fun v_1820 => (some (v_1820, 0)))))
theorem f55_ok {x_1800 : RecordEntry} {r_ : (List UInt8) × Int} (H : f55 x_1800 = some r_) : Pure Try.prog 55 [.agg [.int .i64 x_1800.fKind, .str x_1800.fData]] (· = .tup [.str r_.1, .int .i64 r_.2]) := by
  refine Pure.walk2 fd55 none (Nat.le_of_ble_eq_true rfl) (by rfl) fun Q hQ => ?_
  simp only [f55] at H
  refine AW.rseq ?_
  try simp only [↓wk, ↓wl, nc, evV, wrapBits_eq, ↓reduceIte, Nat.reduceEqDiff, Nat.reduceAdd, Nat.reduceSub, Nat.reduceLeDiff, Nat.reduceLT, Nat.reduceBEq, reduceCtorEq, Int.reduceEq]
  refine AW.bseq ?_
  refine AW.rseq ?_
  try simp only [↓wk, ↓wl, nc, evV, wrapBits_eq, ↓reduceIte, Nat.reduceEqDiff, Nat.reduceAdd, Nat.reduceSub, Nat.reduceLeDiff, Nat.reduceLT, Nat.reduceBEq, reduceCtorEq, Int.reduceEq]
  refine evTs_ifg H (by rfl) ?_ ?_ <;> clear H <;> intro H
  · try simp only [↓wk, ↓wl, nc, evV, wrapBits_eq, ↓reduceIte, Nat.reduceEqDiff, Nat.reduceAdd, Nat.reduceSub, Nat.reduceLeDiff, Nat.reduceLT, Nat.reduceBEq, reduceCtorEq, Int.reduceEq]
    refine AW.ift (by rfl) ?_
    refine AW.rseq ?_
    try simp only [↓wk, ↓wl, nc, evV, wrapBits_eq, ↓reduceIte, Nat.reduceEqDiff, Nat.reduceAdd, Nat.reduceSub, Nat.reduceLeDiff, Nat.reduceLT, Nat.reduceBEq, reduceCtorEq, Int.reduceEq]
    refine AW.ret ?_
    refine blkQ.ret ?_
    cases H
    exact hQ _ _ _ _ (.inr rfl) (by simp only [resVs, omap, resV, ↓wk, ↓wl, nc, evV, wrapBits_eq, ↓reduceIte, Nat.reduceEqDiff, Nat.reduceAdd, Nat.reduceSub, Nat.reduceLeDiff, Nat.reduceLT, Nat.reduceBEq, reduceCtorEq, Int.reduceEq]; rfl) (hand_plain (by rfl)) (by rfl)
  · try simp only [↓wk, ↓wl, nc, evV, wrapBits_eq, ↓reduceIte, Nat.reduceEqDiff, Nat.reduceAdd, Nat.reduceSub, Nat.reduceLeDiff, Nat.reduceLT, Nat.reduceBEq, reduceCtorEq, Int.reduceEq]
    refine AW.ifc H (by rfl) ?_ ?_ <;> clear H <;> intro H
    · refine AW.rseq ?_
      try simp only [↓wk, ↓wl, nc, evV, wrapBits_eq, ↓reduceIte, Nat.reduceEqDiff, Nat.reduceAdd, Nat.reduceSub, Nat.reduceLeDiff, Nat.reduceLT, Nat.reduceBEq, reduceCtorEq, Int.reduceEq]
      refine AW.ret ?_
      refine blkQ.ret ?_
      cases H
      exact hQ _ _ _ _ (.inr rfl) (by simp only [resVs, omap, resV, ↓wk, ↓wl, nc, evV, wrapBits_eq, ↓reduceIte, Nat.reduceEqDiff, Nat.reduceAdd, Nat.reduceSub, Nat.reduceLeDiff, Nat.reduceLT, Nat.reduceBEq, reduceCtorEq, Int.reduceEq]; rfl) (hand_plain (by rfl)) (by rfl)
    · refine AW.rseq ?_
      try simp only [↓wk, ↓wl, nc, evV, wrapBits_eq, ↓reduceIte, Nat.reduceEqDiff, Nat.reduceAdd, Nat.reduceSub, Nat.reduceLeDiff, Nat.reduceLT, Nat.reduceBEq, reduceCtorEq, Int.reduceEq]
      refine AW.ifc H (by rfl) ?_ ?_ <;> clear H <;> intro H
      · refine AW.rseq ?_
        try simp only [↓wk, ↓wl, nc, evV, wrapBits_eq, ↓reduceIte, Nat.reduceEqDiff, Nat.reduceAdd, Nat.reduceSub, Nat.reduceLeDiff, Nat.reduceLT, Nat.reduceBEq, reduceCtorEq, Int.reduceEq]
        refine AW.ret ?_
        refine blkQ.ret ?_
        cases H
        exact hQ _ _ _ _ (.inr rfl) (by simp only [resVs, omap, resV, ↓wk, ↓wl, nc, evV, wrapBits_eq, ↓reduceIte, Nat.reduceEqDiff, Nat.reduceAdd, Nat.reduceSub, Nat.reduceLeDiff, Nat.reduceLT, Nat.reduceBEq, reduceCtorEq, Int.reduceEq]; rfl) (hand_plain (by rfl)) (by rfl)
      · refine AW.skip ?_
        refine blkQ.norm ?_
        refine AW.rqseq ?_
        try simp only [↓wk, ↓wl, nc, evV, wrapBits_eq, ↓reduceIte, Nat.reduceEqDiff, Nat.reduceAdd, Nat.reduceSub, Nat.reduceLeDiff, Nat.reduceLT, Nat.reduceBEq, reduceCtorEq, Int.reduceEq]
        refine evTs_cstr (xs := [(IntKind.u8.wrap x_1800.fKind)]) (by rfl) ?_
        try simp only [↓wk, ↓wl, nc, evV, wrapBits_eq, ↓reduceIte, Nat.reduceEqDiff, Nat.reduceAdd, Nat.reduceSub, Nat.reduceLeDiff, Nat.reduceLT, Nat.reduceBEq, reduceCtorEq, Int.reduceEq]
        refine evTs_pure hFnq H (fun _ h => f76_ok h) (by rfl) (by rfl) (by rfl) (by rfl) (fun _ => rfl) ?_ <;> clear H <;> intro r_1802 H
        try simp only [eL, ↓wk, ↓wl, nc, evV, wrapBits_eq, ↓reduceIte, Nat.reduceEqDiff, Nat.reduceAdd, Nat.reduceSub, Nat.reduceLeDiff, Nat.reduceLT, Nat.reduceBEq, reduceCtorEq, Int.reduceEq]
        refine rest_cat H ?_ <;> clear H <;> intro v_1803 H
        try simp only [↓wk, ↓wl, nc, evV, wrapBits_eq, ↓reduceIte, Nat.reduceEqDiff, Nat.reduceAdd, Nat.reduceSub, Nat.reduceLeDiff, Nat.reduceLT, Nat.reduceBEq, reduceCtorEq, Int.reduceEq]
        refine rest_cat H ?_ <;> clear H <;> intro v_1804 H
        try simp only [↓wk, ↓wl, nc, evV, wrapBits_eq, ↓reduceIte, Nat.reduceEqDiff, Nat.reduceAdd, Nat.reduceSub, Nat.reduceLeDiff, Nat.reduceLT, Nat.reduceBEq, reduceCtorEq, Int.reduceEq]
        refine AW.rseq ?_
        try simp only [↓wk, ↓wl, nc, evV, wrapBits_eq, ↓reduceIte, Nat.reduceEqDiff, Nat.reduceAdd, Nat.reduceSub, Nat.reduceLeDiff, Nat.reduceLT, Nat.reduceBEq, reduceCtorEq, Int.reduceEq]
        refine evTs_pure hFn H (fun _ h => f77_ok h) (by rfl) (by rfl) (by rfl) (by rfl) (fun _ => rfl) ?_ <;> clear H <;> intro r_1818 H
        try simp only [eL, ↓wk, ↓wl, nc, evV, wrapBits_eq, ↓reduceIte, Nat.reduceEqDiff, Nat.reduceAdd, Nat.reduceSub, Nat.reduceLeDiff, Nat.reduceLT, Nat.reduceBEq, reduceCtorEq, Int.reduceEq]
        refine evTs_pure hFn H (fun _ h => f76_ok h) (by rfl) (by rfl) (by rfl) (by rfl) (fun _ => rfl) ?_ <;> clear H <;> intro r_1819 H
        try simp only [eL, ↓wk, ↓wl, nc, evV, wrapBits_eq, ↓reduceIte, Nat.reduceEqDiff, Nat.reduceAdd, Nat.reduceSub, Nat.reduceLeDiff, Nat.reduceLT, Nat.reduceBEq, reduceCtorEq, Int.reduceEq]
        refine rest_cat H ?_ <;> clear H <;> intro v_1820 H
        try simp only [↓wk, ↓wl, nc, evV, wrapBits_eq, ↓reduceIte, Nat.reduceEqDiff, Nat.reduceAdd, Nat.reduceSub, Nat.reduceLeDiff, Nat.reduceLT, Nat.reduceBEq, reduceCtorEq, Int.reduceEq]
        refine AW.ret ?_
        cases H
        exact hQ _ _ _ _ (.inr rfl) (by simp only [resVs, omap, resV, ↓wk, ↓wl, nc, evV, wrapBits_eq, ↓reduceIte, Nat.reduceEqDiff, Nat.reduceAdd, Nat.reduceSub, Nat.reduceLeDiff, Nat.reduceLT, Nat.reduceBEq, reduceCtorEq, Int.reduceEq]; rfl) (hand_plain (by rfl)) (by rfl)
noncomputable def f31_J1 (p_1741 : NetworkPacket) : Jn (Int) ((List UInt8) × Int) where
  run := fun end_1748 => (f53 (IntKind.i64.wrap p_1741.fSource)).bind fun r_1783 => (cat? ([]) r_1783).bind fun v_1784 => (f53 p_1741.fUniverse).bind fun r_1785 => (cat? v_1784 r_1785).bind fun v_1786 => (f53 p_1741.fPriority).bind fun r_1787 => (cat? v_1786 r_1787).bind fun v_1788 => (f53 p_1741.fSeq).bind fun r_1789 => (cat? v_1788 r_1789).bind fun v_1790 => (f53 p_1741.fSync).bind fun r_1791 => (cat? v_1790 r_1791).bind fun v_1792 => (f53 end_1748).bind fun r_1793 => (cat? v_1792 r_1793).bind fun v_1794 => (f54 p_1741.fSlots).bind fun r_1798 => (if (decide (r_1798.2 ≠ 0)) = true then (some ([], r_1798.2)) else (cat? v_1794 r_1798.1).bind fun v_1799 => (f55 (RecordEntry.mk 85 v_1799)).bind fun r_1821 => (some (r_1821.1, r_1821.2)))
  cst := fun end_1748 => ⟨put (put (fun _ => .junk) 5 (.int .i64 end_1748)) 1 (.ptr 0 0), [.cel [.int .u64 p_1741.fSource, .int .i64 p_1741.fUniverse, .int .i64 p_1741.fPriority, .int .i64 p_1741.fSeq, .int .i64 p_1741.fSync, .bool p_1741.fEnd, .str p_1741.fSlots]]⟩
def c31_0 : C := .cond (.t 14) (.seq (.reg [iI 15 (.mv (.t 4)), iI 2 (.mv (.c (.str []))), iI 3 (.mv (.t 15))]) .ret) (.skip)
def c31_1 : C := .seq (.reg [iI 13 (.mv (.t 4)), iI 14 (.bin .neq (.t 13) (.c (.int .i64 0)))]) c31_0
def c31_2 : C := .cond (.t 17) (.reg [iI 5 (.mv (.c (.int .i64 1)))]) (.skip)
def c31_3 : C := .reg [iI 34 (.mv (.t 6)), iI 35 (.mv (.t 8)), iI 36 (.call (.c (.fn 53 [])) [(.t 35)]), iI 37 (.bin .add (.t 34) (.t 36)), iI 6 (.mv (.t 37))]
def c31_4 : C := .reg [iI 38 (.bin .add (.t 31) (.c (.int .i64 1))), iI 31 (.mv (.t 38))]
def c31_5 : C := .seq (.block 1 (.seq (.reg [iI 33 (.idx 0 6 (.t 30) (.t 31)), iI 8 (.mv (.t 33))]) c31_3)) c31_4
def c31_6 : C := .seq (.cond (.t 32) (.skip) (.exit 0)) c31_5
def c31_7 : C := .block 0 (.loop (.seq (.reg [iI 32 (.bin .lss (.t 31) (.c (.int .i64 6)))]) c31_6))
def c31_8 : C := .cond (.t 46) (.seq (.reg [iI 47 (.mv (.t 10)), iI 2 (.mv (.c (.str []))), iI 3 (.mv (.t 47))]) .ret) (.skip)
def c31_9 : C := .seq (.reg [iI 48 (.mv (.t 6)), iI 49 (.mv (.t 9)), iI 50 (.bin .add (.t 48) (.t 49)), iI 51 (.build [(1, (.int .i64 0)), (1, (.str []))] [(0, 0, (.c (.int .i64 85))), (1, 0, (.t 50))]), iI 52 (.call (.c (.fn 55 [])) [(.t 51)]), iI 53 (.ext (.t 52) 0), iI 54 (.ext (.t 52) 1), iI 2 (.mv (.t 53)), iI 3 (.mv (.t 54))]) .ret
def c31_10 : C := .seq (.seq (.reg [iI 45 (.mv (.t 10)), iI 46 (.bin .neq (.t 45) (.c (.int .i64 0)))]) c31_8) c31_9
def c31_11 : C := .seq (.reg [iI 40 (.faddr 6 (.t 1)), iI 41 (.load 0 (.t 40)), iI 42 (.call (.c (.fn 54 [])) [(.t 41)]), iI 39 (.mv (.t 42)), iI 43 (.ext (.t 39) 0), iI 44 (.ext (.t 39) 1), iI 9 (.mv (.t 43)), iI 10 (.mv (.t 44))]) c31_10
def c31_12 : C := .seq (.seq (.reg [iI 18 (.faddr 0 (.t 1)), iI 19 (.load 0 (.t 18)), iI 20 (.cint .i64 (.t 19)), iI 21 (.faddr 1 (.t 1)), iI 22 (.load 0 (.t 21)), iI 23 (.faddr 2 (.t 1)), iI 24 (.load 0 (.t 23)), iI 25 (.faddr 3 (.t 1)), iI 26 (.load 0 (.t 25)), iI 27 (.faddr 4 (.t 1)), iI 28 (.load 0 (.t 27)), iI 29 (.mv (.t 5)), iI 30 (.build [(6, (.int .i64 0))] [(0, 0, (.t 20)), (1, 0, (.t 22)), (2, 0, (.t 24)), (3, 0, (.t 26)), (4, 0, (.t 28)), (5, 0, (.t 29))]), iI 31 (.mv (.c (.int .i64 0)))]) c31_7) c31_11
def c31_13 : C := .seq (.reg [iI 6 (.mv (.c (.str [])))]) c31_12
def c31_14 : C := .seq (.seq (.reg [iI 16 (.faddr 5 (.t 1)), iI 17 (.load 0 (.t 16))]) c31_2) c31_13
def c31_15 : C := .seq (.reg [iI 5 (.mv (.c (.int .i64 0)))]) c31_14
def c31_16 : C := .seq (.seq (.reg [iI 11 (.load 7 (.t 1)), iI 12 (.call (.c (.fn 28 [])) [(.t 11)]), iI 4 (.mv (.t 12))]) c31_1) c31_15
def ir31 : C := .seq (.reg [iI 1 (.box (.t 0)), iI 2 (.mv (.c (.str []))), iI 3 (.mv (.c (.int .i64 0)))]) c31_16
theorem fd31 : fd? Try.prog 31 = some (55, [.slot 2, .slot 3], ir31) := by kernel_rfl
noncomputable def f31 (p_1741 : NetworkPacket) : Option ((List UInt8) × Int) :=
  (f28 p_1741).bind fun r_1747 => (if (decide (r_1747 ≠ 0)) = true then (some ([], r_1747)) else (if p_1741.fEnd = true then ((f31_J1 p_1741).run 1) else ((f31_J1 p_1741).run 0)))
theorem f31_ok {p_1741 : NetworkPacket} {r_ : (List UInt8) × Int} (H : f31 p_1741 = some r_) : Pure Try.prog 31 [.agg [.int .u64 p_1741.fSource, .int .i64 p_1741.fUniverse, .int .i64 p_1741.fPriority, .int .i64 p_1741.fSeq, .int .i64 p_1741.fSync, .bool p_1741.fEnd, .str p_1741.fSlots]] (· = .tup [.str r_.1, .int .i64 r_.2]) := by
  refine Pure.walk2 fd31 none (Nat.le_of_ble_eq_true rfl) (by rfl) fun Q hQ => ?_
  simp only [f31] at H
  refine AW.rseq ?_
  try simp only [↓wk, ↓wl, nc, evV, wrapBits_eq, ↓reduceIte, Nat.reduceEqDiff, Nat.reduceAdd, Nat.reduceSub, Nat.reduceLeDiff, Nat.reduceLT, Nat.reduceBEq, reduceCtorEq, Int.reduceEq]
  refine AW.sseq ?_
  refine AW.rseq ?_
  try simp only [↓wk, ↓wl, nc, evV, wrapBits_eq, ↓reduceIte, Nat.reduceEqDiff, Nat.reduceAdd, Nat.reduceSub, Nat.reduceLeDiff, Nat.reduceLT, Nat.reduceBEq, reduceCtorEq, Int.reduceEq]
  refine evTs_pure hFn H (fun _ h => f28_ok h) (by rfl) (by rfl) (by rfl) (by rfl) (fun _ => rfl) ?_ <;> clear H <;> intro r_1747 H
  try simp only [eL, ↓wk, ↓wl, nc, evV, wrapBits_eq, ↓reduceIte, Nat.reduceEqDiff, Nat.reduceAdd, Nat.reduceSub, Nat.reduceLeDiff, Nat.reduceLT, Nat.reduceBEq, reduceCtorEq, Int.reduceEq]
  refine AW.rseq ?_
  try simp only [↓wk, ↓wl, nc, evV, wrapBits_eq, ↓reduceIte, Nat.reduceEqDiff, Nat.reduceAdd, Nat.reduceSub, Nat.reduceLeDiff, Nat.reduceLT, Nat.reduceBEq, reduceCtorEq, Int.reduceEq]
  refine AW.ifc H (by rfl) ?_ ?_ <;> clear H <;> intro H
  · refine AW.rseq ?_
    try simp only [↓wk, ↓wl, nc, evV, wrapBits_eq, ↓reduceIte, Nat.reduceEqDiff, Nat.reduceAdd, Nat.reduceSub, Nat.reduceLeDiff, Nat.reduceLT, Nat.reduceBEq, reduceCtorEq, Int.reduceEq]
    refine AW.ret ?_
    refine seqQ.ret ?_
    cases H
    exact hQ _ _ _ _ (.inr rfl) (by simp only [resVs, omap, resV, ↓wk, ↓wl, nc, evV, wrapBits_eq, ↓reduceIte, Nat.reduceEqDiff, Nat.reduceAdd, Nat.reduceSub, Nat.reduceLeDiff, Nat.reduceLT, Nat.reduceBEq, reduceCtorEq, Int.reduceEq]; rfl) (hand_plain (by rfl)) (by rfl)
  · refine AW.skip ?_
    refine seqQ.norm ?_
    refine AW.rseq ?_
    try simp only [↓wk, ↓wl, nc, evV, wrapBits_eq, ↓reduceIte, Nat.reduceEqDiff, Nat.reduceAdd, Nat.reduceSub, Nat.reduceLeDiff, Nat.reduceLT, Nat.reduceBEq, reduceCtorEq, Int.reduceEq]
    refine AW.join (f31_J1 p_1741) H ?_ fun hf31_J1 => ?_
    · clear H
      rintro end_1748 st0_ H hst_
      simp only [f31_J1] at H hst_
      subst hst_
      refine AW.rseq ?_
      try simp only [↓wk, ↓wl, nc, evV, wrapBits_eq, ↓reduceIte, Nat.reduceEqDiff, Nat.reduceAdd, Nat.reduceSub, Nat.reduceLeDiff, Nat.reduceLT, Nat.reduceBEq, reduceCtorEq, Int.reduceEq]
      refine AW.sseq ?_
      refine AW.rseq ?_
      try simp only [↓wk, ↓wl, nc, evV, wrapBits_eq, ↓reduceIte, Nat.reduceEqDiff, Nat.reduceAdd, Nat.reduceSub, Nat.reduceLeDiff, Nat.reduceLT, Nat.reduceBEq, reduceCtorEq, Int.reduceEq]
      refine AW.bend ?_
      refine AW.rounds 40 ?_
      refine Rounds.go ?_
      refine AW.rseq ?_
      try simp only [↓wk, ↓wl, nc, evV, wrapBits_eq, ↓reduceIte, Nat.reduceEqDiff, Nat.reduceAdd, Nat.reduceSub, Nat.reduceLeDiff, Nat.reduceLT, Nat.reduceBEq, reduceCtorEq, Int.reduceEq]
      refine AW.sseq ?_
      refine AW.ift (by rfl) ?_
      refine AW.skip ?_
      refine seqQ.norm ?_
      refine AW.bseq ?_
      refine AW.rseq ?_
      try simp only [↓wk, ↓wl, nc, evV, wrapBits_eq, ↓reduceIte, Nat.reduceEqDiff, Nat.reduceAdd, Nat.reduceSub, Nat.reduceLeDiff, Nat.reduceLT, Nat.reduceBEq, reduceCtorEq, Int.reduceEq]
      refine evTs_any (v := .int .i64 (IntKind.i64.wrap p_1741.fSource)) rfl (by rfl) ?_
      try simp only [↓wk, ↓wl, nc, evV, wrapBits_eq, ↓reduceIte, Nat.reduceEqDiff, Nat.reduceAdd, Nat.reduceSub, Nat.reduceLeDiff, Nat.reduceLT, Nat.reduceBEq, reduceCtorEq, Int.reduceEq]
      refine AW.rend ?_
      try simp only [↓wk, ↓wl, nc, evV, wrapBits_eq, ↓reduceIte, Nat.reduceEqDiff, Nat.reduceAdd, Nat.reduceSub, Nat.reduceLeDiff, Nat.reduceLT, Nat.reduceBEq, reduceCtorEq, Int.reduceEq]
      refine evTs_pure hFn H (fun _ h => f53_ok h) (by rfl) (by rfl) (by rfl) (by rfl) (fun _ => rfl) ?_ <;> clear H <;> intro r_1783 H
      try simp only [eL, ↓wk, ↓wl, nc, evV, wrapBits_eq, ↓reduceIte, Nat.reduceEqDiff, Nat.reduceAdd, Nat.reduceSub, Nat.reduceLeDiff, Nat.reduceLT, Nat.reduceBEq, reduceCtorEq, Int.reduceEq]
      refine rest_cat H ?_ <;> clear H <;> intro v_1784 H
      try simp only [↓wk, ↓wl, nc, evV, wrapBits_eq, ↓reduceIte, Nat.reduceEqDiff, Nat.reduceAdd, Nat.reduceSub, Nat.reduceLeDiff, Nat.reduceLT, Nat.reduceBEq, reduceCtorEq, Int.reduceEq]
      refine blkQ.norm ?_
      refine AW.rend ?_
      try simp only [↓wk, ↓wl, nc, evV, wrapBits_eq, ↓reduceIte, Nat.reduceEqDiff, Nat.reduceAdd, Nat.reduceSub, Nat.reduceLeDiff, Nat.reduceLT, Nat.reduceBEq, reduceCtorEq, Int.reduceEq]
      refine roundQ.next (st2 := ⟨put (put (put (put (fun _ => .junk) 31 (.int .i64 1)) 30 (.agg [.int .i64 (IntKind.i64.wrap p_1741.fSource), .int .i64 p_1741.fUniverse, .int .i64 p_1741.fPriority, .int .i64 p_1741.fSeq, .int .i64 p_1741.fSync, .int .i64 end_1748])) 6 (.str v_1784)) 1 (.ptr 0 0), [.cel [.int .u64 p_1741.fSource, .int .i64 p_1741.fUniverse, .int .i64 p_1741.fPriority, .int .i64 p_1741.fSeq, .int .i64 p_1741.fSync, .bool p_1741.fEnd, .str p_1741.fSlots]]⟩) (Le.none [0] [1, 6, 30, 31] (by decide) (by simp only [List.length_set, Option.map_some, restrict_eq, renS_nil, renS_cons, renB_els, renB_cel, renB_dead, deep_eq, map_ren_enc, ren_agg', ren_tup', ren_fn', ren_int', ren_bool', ren_str', ren_sl', ren_pro', ren_nilp', ren_nilfn', ren_junk', ren_ptr', ren_row', ren_arow', ren_eptr', vm, List.idxOf?_cons, List.idxOf?_nil, beq_self_eq_true, Option.map_none, List.getD_cons_zero, List.getD_cons_succ, ↓wk, ↓wl, nc, evV, wrapBits_eq, ↓reduceIte, Nat.reduceEqDiff, Nat.reduceAdd, Nat.reduceSub, Nat.reduceLeDiff, Nat.reduceLT, Nat.reduceBEq, reduceCtorEq, Int.reduceEq] <;> rfl)) ?_
      refine Rounds.go ?_
      refine AW.rseq ?_
      try simp only [↓wk, ↓wl, nc, evV, wrapBits_eq, ↓reduceIte, Nat.reduceEqDiff, Nat.reduceAdd, Nat.reduceSub, Nat.reduceLeDiff, Nat.reduceLT, Nat.reduceBEq, reduceCtorEq, Int.reduceEq]
      refine AW.sseq ?_
      refine AW.ift (by rfl) ?_
      refine AW.skip ?_
      refine seqQ.norm ?_
      refine AW.bseq ?_
      refine AW.rseq ?_
      try simp only [↓wk, ↓wl, nc, evV, wrapBits_eq, ↓reduceIte, Nat.reduceEqDiff, Nat.reduceAdd, Nat.reduceSub, Nat.reduceLeDiff, Nat.reduceLT, Nat.reduceBEq, reduceCtorEq, Int.reduceEq]
      refine evTs_any (v := .int .i64 p_1741.fUniverse) rfl (by rfl) ?_
      try simp only [↓wk, ↓wl, nc, evV, wrapBits_eq, ↓reduceIte, Nat.reduceEqDiff, Nat.reduceAdd, Nat.reduceSub, Nat.reduceLeDiff, Nat.reduceLT, Nat.reduceBEq, reduceCtorEq, Int.reduceEq]
      refine AW.rend ?_
      try simp only [↓wk, ↓wl, nc, evV, wrapBits_eq, ↓reduceIte, Nat.reduceEqDiff, Nat.reduceAdd, Nat.reduceSub, Nat.reduceLeDiff, Nat.reduceLT, Nat.reduceBEq, reduceCtorEq, Int.reduceEq]
      refine evTs_pure hFn H (fun _ h => f53_ok h) (by rfl) (by rfl) (by rfl) (by rfl) (fun _ => rfl) ?_ <;> clear H <;> intro r_1785 H
      try simp only [eL, ↓wk, ↓wl, nc, evV, wrapBits_eq, ↓reduceIte, Nat.reduceEqDiff, Nat.reduceAdd, Nat.reduceSub, Nat.reduceLeDiff, Nat.reduceLT, Nat.reduceBEq, reduceCtorEq, Int.reduceEq]
      refine rest_cat H ?_ <;> clear H <;> intro v_1786 H
      try simp only [↓wk, ↓wl, nc, evV, wrapBits_eq, ↓reduceIte, Nat.reduceEqDiff, Nat.reduceAdd, Nat.reduceSub, Nat.reduceLeDiff, Nat.reduceLT, Nat.reduceBEq, reduceCtorEq, Int.reduceEq]
      refine blkQ.norm ?_
      refine AW.rend ?_
      try simp only [↓wk, ↓wl, nc, evV, wrapBits_eq, ↓reduceIte, Nat.reduceEqDiff, Nat.reduceAdd, Nat.reduceSub, Nat.reduceLeDiff, Nat.reduceLT, Nat.reduceBEq, reduceCtorEq, Int.reduceEq]
      refine roundQ.next (st2 := ⟨put (put (put (put (fun _ => .junk) 31 (.int .i64 2)) 30 (.agg [.int .i64 (IntKind.i64.wrap p_1741.fSource), .int .i64 p_1741.fUniverse, .int .i64 p_1741.fPriority, .int .i64 p_1741.fSeq, .int .i64 p_1741.fSync, .int .i64 end_1748])) 6 (.str v_1786)) 1 (.ptr 0 0), [.cel [.int .u64 p_1741.fSource, .int .i64 p_1741.fUniverse, .int .i64 p_1741.fPriority, .int .i64 p_1741.fSeq, .int .i64 p_1741.fSync, .bool p_1741.fEnd, .str p_1741.fSlots]]⟩) (Le.none [0] [1, 6, 30, 31] (by decide) (by simp only [List.length_set, Option.map_some, restrict_eq, renS_nil, renS_cons, renB_els, renB_cel, renB_dead, deep_eq, map_ren_enc, ren_agg', ren_tup', ren_fn', ren_int', ren_bool', ren_str', ren_sl', ren_pro', ren_nilp', ren_nilfn', ren_junk', ren_ptr', ren_row', ren_arow', ren_eptr', vm, List.idxOf?_cons, List.idxOf?_nil, beq_self_eq_true, Option.map_none, List.getD_cons_zero, List.getD_cons_succ, ↓wk, ↓wl, nc, evV, wrapBits_eq, ↓reduceIte, Nat.reduceEqDiff, Nat.reduceAdd, Nat.reduceSub, Nat.reduceLeDiff, Nat.reduceLT, Nat.reduceBEq, reduceCtorEq, Int.reduceEq] <;> rfl)) ?_
      refine Rounds.go ?_
      refine AW.rseq ?_
      try simp only [↓wk, ↓wl, nc, evV, wrapBits_eq, ↓reduceIte, Nat.reduceEqDiff, Nat.reduceAdd, Nat.reduceSub, Nat.reduceLeDiff, Nat.reduceLT, Nat.reduceBEq, reduceCtorEq, Int.reduceEq]
      refine AW.sseq ?_
      refine AW.ift (by rfl) ?_
      refine AW.skip ?_
      refine seqQ.norm ?_
      refine AW.bseq ?_
      refine AW.rseq ?_
      try simp only [↓wk, ↓wl, nc, evV, wrapBits_eq, ↓reduceIte, Nat.reduceEqDiff, Nat.reduceAdd, Nat.reduceSub, Nat.reduceLeDiff, Nat.reduceLT, Nat.reduceBEq, reduceCtorEq, Int.reduceEq]
      refine evTs_any (v := .int .i64 p_1741.fPriority) rfl (by rfl) ?_
      try simp only [↓wk, ↓wl, nc, evV, wrapBits_eq, ↓reduceIte, Nat.reduceEqDiff, Nat.reduceAdd, Nat.reduceSub, Nat.reduceLeDiff, Nat.reduceLT, Nat.reduceBEq, reduceCtorEq, Int.reduceEq]
      refine AW.rend ?_
      try simp only [↓wk, ↓wl, nc, evV, wrapBits_eq, ↓reduceIte, Nat.reduceEqDiff, Nat.reduceAdd, Nat.reduceSub, Nat.reduceLeDiff, Nat.reduceLT, Nat.reduceBEq, reduceCtorEq, Int.reduceEq]
      refine evTs_pure hFn H (fun _ h => f53_ok h) (by rfl) (by rfl) (by rfl) (by rfl) (fun _ => rfl) ?_ <;> clear H <;> intro r_1787 H
      try simp only [eL, ↓wk, ↓wl, nc, evV, wrapBits_eq, ↓reduceIte, Nat.reduceEqDiff, Nat.reduceAdd, Nat.reduceSub, Nat.reduceLeDiff, Nat.reduceLT, Nat.reduceBEq, reduceCtorEq, Int.reduceEq]
      refine rest_cat H ?_ <;> clear H <;> intro v_1788 H
      try simp only [↓wk, ↓wl, nc, evV, wrapBits_eq, ↓reduceIte, Nat.reduceEqDiff, Nat.reduceAdd, Nat.reduceSub, Nat.reduceLeDiff, Nat.reduceLT, Nat.reduceBEq, reduceCtorEq, Int.reduceEq]
      refine blkQ.norm ?_
      refine AW.rend ?_
      try simp only [↓wk, ↓wl, nc, evV, wrapBits_eq, ↓reduceIte, Nat.reduceEqDiff, Nat.reduceAdd, Nat.reduceSub, Nat.reduceLeDiff, Nat.reduceLT, Nat.reduceBEq, reduceCtorEq, Int.reduceEq]
      refine roundQ.next (st2 := ⟨put (put (put (put (fun _ => .junk) 31 (.int .i64 3)) 30 (.agg [.int .i64 (IntKind.i64.wrap p_1741.fSource), .int .i64 p_1741.fUniverse, .int .i64 p_1741.fPriority, .int .i64 p_1741.fSeq, .int .i64 p_1741.fSync, .int .i64 end_1748])) 6 (.str v_1788)) 1 (.ptr 0 0), [.cel [.int .u64 p_1741.fSource, .int .i64 p_1741.fUniverse, .int .i64 p_1741.fPriority, .int .i64 p_1741.fSeq, .int .i64 p_1741.fSync, .bool p_1741.fEnd, .str p_1741.fSlots]]⟩) (Le.none [0] [1, 6, 30, 31] (by decide) (by simp only [List.length_set, Option.map_some, restrict_eq, renS_nil, renS_cons, renB_els, renB_cel, renB_dead, deep_eq, map_ren_enc, ren_agg', ren_tup', ren_fn', ren_int', ren_bool', ren_str', ren_sl', ren_pro', ren_nilp', ren_nilfn', ren_junk', ren_ptr', ren_row', ren_arow', ren_eptr', vm, List.idxOf?_cons, List.idxOf?_nil, beq_self_eq_true, Option.map_none, List.getD_cons_zero, List.getD_cons_succ, ↓wk, ↓wl, nc, evV, wrapBits_eq, ↓reduceIte, Nat.reduceEqDiff, Nat.reduceAdd, Nat.reduceSub, Nat.reduceLeDiff, Nat.reduceLT, Nat.reduceBEq, reduceCtorEq, Int.reduceEq] <;> rfl)) ?_
      refine Rounds.go ?_
      refine AW.rseq ?_
      try simp only [↓wk, ↓wl, nc, evV, wrapBits_eq, ↓reduceIte, Nat.reduceEqDiff, Nat.reduceAdd, Nat.reduceSub, Nat.reduceLeDiff, Nat.reduceLT, Nat.reduceBEq, reduceCtorEq, Int.reduceEq]
      refine AW.sseq ?_
      refine AW.ift (by rfl) ?_
      refine AW.skip ?_
      refine seqQ.norm ?_
      refine AW.bseq ?_
      refine AW.rseq ?_
      try simp only [↓wk, ↓wl, nc, evV, wrapBits_eq, ↓reduceIte, Nat.reduceEqDiff, Nat.reduceAdd, Nat.reduceSub, Nat.reduceLeDiff, Nat.reduceLT, Nat.reduceBEq, reduceCtorEq, Int.reduceEq]
      refine evTs_any (v := .int .i64 p_1741.fSeq) rfl (by rfl) ?_
      try simp only [↓wk, ↓wl, nc, evV, wrapBits_eq, ↓reduceIte, Nat.reduceEqDiff, Nat.reduceAdd, Nat.reduceSub, Nat.reduceLeDiff, Nat.reduceLT, Nat.reduceBEq, reduceCtorEq, Int.reduceEq]
      refine AW.rend ?_
      try simp only [↓wk, ↓wl, nc, evV, wrapBits_eq, ↓reduceIte, Nat.reduceEqDiff, Nat.reduceAdd, Nat.reduceSub, Nat.reduceLeDiff, Nat.reduceLT, Nat.reduceBEq, reduceCtorEq, Int.reduceEq]
      refine evTs_pure hFn H (fun _ h => f53_ok h) (by rfl) (by rfl) (by rfl) (by rfl) (fun _ => rfl) ?_ <;> clear H <;> intro r_1789 H
      try simp only [eL, ↓wk, ↓wl, nc, evV, wrapBits_eq, ↓reduceIte, Nat.reduceEqDiff, Nat.reduceAdd, Nat.reduceSub, Nat.reduceLeDiff, Nat.reduceLT, Nat.reduceBEq, reduceCtorEq, Int.reduceEq]
      refine rest_cat H ?_ <;> clear H <;> intro v_1790 H
      try simp only [↓wk, ↓wl, nc, evV, wrapBits_eq, ↓reduceIte, Nat.reduceEqDiff, Nat.reduceAdd, Nat.reduceSub, Nat.reduceLeDiff, Nat.reduceLT, Nat.reduceBEq, reduceCtorEq, Int.reduceEq]
      refine blkQ.norm ?_
      refine AW.rend ?_
      try simp only [↓wk, ↓wl, nc, evV, wrapBits_eq, ↓reduceIte, Nat.reduceEqDiff, Nat.reduceAdd, Nat.reduceSub, Nat.reduceLeDiff, Nat.reduceLT, Nat.reduceBEq, reduceCtorEq, Int.reduceEq]
      refine roundQ.next (st2 := ⟨put (put (put (put (fun _ => .junk) 31 (.int .i64 4)) 30 (.agg [.int .i64 (IntKind.i64.wrap p_1741.fSource), .int .i64 p_1741.fUniverse, .int .i64 p_1741.fPriority, .int .i64 p_1741.fSeq, .int .i64 p_1741.fSync, .int .i64 end_1748])) 6 (.str v_1790)) 1 (.ptr 0 0), [.cel [.int .u64 p_1741.fSource, .int .i64 p_1741.fUniverse, .int .i64 p_1741.fPriority, .int .i64 p_1741.fSeq, .int .i64 p_1741.fSync, .bool p_1741.fEnd, .str p_1741.fSlots]]⟩) (Le.none [0] [1, 6, 30, 31] (by decide) (by simp only [List.length_set, Option.map_some, restrict_eq, renS_nil, renS_cons, renB_els, renB_cel, renB_dead, deep_eq, map_ren_enc, ren_agg', ren_tup', ren_fn', ren_int', ren_bool', ren_str', ren_sl', ren_pro', ren_nilp', ren_nilfn', ren_junk', ren_ptr', ren_row', ren_arow', ren_eptr', vm, List.idxOf?_cons, List.idxOf?_nil, beq_self_eq_true, Option.map_none, List.getD_cons_zero, List.getD_cons_succ, ↓wk, ↓wl, nc, evV, wrapBits_eq, ↓reduceIte, Nat.reduceEqDiff, Nat.reduceAdd, Nat.reduceSub, Nat.reduceLeDiff, Nat.reduceLT, Nat.reduceBEq, reduceCtorEq, Int.reduceEq] <;> rfl)) ?_
      refine Rounds.go ?_
      refine AW.rseq ?_
      try simp only [↓wk, ↓wl, nc, evV, wrapBits_eq, ↓reduceIte, Nat.reduceEqDiff, Nat.reduceAdd, Nat.reduceSub, Nat.reduceLeDiff, Nat.reduceLT, Nat.reduceBEq, reduceCtorEq, Int.reduceEq]
      refine AW.sseq ?_
      refine AW.ift (by rfl) ?_
      refine AW.skip ?_
      refine seqQ.norm ?_
      refine AW.bseq ?_
      refine AW.rseq ?_
      try simp only [↓wk, ↓wl, nc, evV, wrapBits_eq, ↓reduceIte, Nat.reduceEqDiff, Nat.reduceAdd, Nat.reduceSub, Nat.reduceLeDiff, Nat.reduceLT, Nat.reduceBEq, reduceCtorEq, Int.reduceEq]
      refine evTs_any (v := .int .i64 p_1741.fSync) rfl (by rfl) ?_
      try simp only [↓wk, ↓wl, nc, evV, wrapBits_eq, ↓reduceIte, Nat.reduceEqDiff, Nat.reduceAdd, Nat.reduceSub, Nat.reduceLeDiff, Nat.reduceLT, Nat.reduceBEq, reduceCtorEq, Int.reduceEq]
      refine AW.rend ?_
      try simp only [↓wk, ↓wl, nc, evV, wrapBits_eq, ↓reduceIte, Nat.reduceEqDiff, Nat.reduceAdd, Nat.reduceSub, Nat.reduceLeDiff, Nat.reduceLT, Nat.reduceBEq, reduceCtorEq, Int.reduceEq]
      refine evTs_pure hFn H (fun _ h => f53_ok h) (by rfl) (by rfl) (by rfl) (by rfl) (fun _ => rfl) ?_ <;> clear H <;> intro r_1791 H
      try simp only [eL, ↓wk, ↓wl, nc, evV, wrapBits_eq, ↓reduceIte, Nat.reduceEqDiff, Nat.reduceAdd, Nat.reduceSub, Nat.reduceLeDiff, Nat.reduceLT, Nat.reduceBEq, reduceCtorEq, Int.reduceEq]
      refine rest_cat H ?_ <;> clear H <;> intro v_1792 H
      try simp only [↓wk, ↓wl, nc, evV, wrapBits_eq, ↓reduceIte, Nat.reduceEqDiff, Nat.reduceAdd, Nat.reduceSub, Nat.reduceLeDiff, Nat.reduceLT, Nat.reduceBEq, reduceCtorEq, Int.reduceEq]
      refine blkQ.norm ?_
      refine AW.rend ?_
      try simp only [↓wk, ↓wl, nc, evV, wrapBits_eq, ↓reduceIte, Nat.reduceEqDiff, Nat.reduceAdd, Nat.reduceSub, Nat.reduceLeDiff, Nat.reduceLT, Nat.reduceBEq, reduceCtorEq, Int.reduceEq]
      refine roundQ.next (st2 := ⟨put (put (put (put (fun _ => .junk) 31 (.int .i64 5)) 30 (.agg [.int .i64 (IntKind.i64.wrap p_1741.fSource), .int .i64 p_1741.fUniverse, .int .i64 p_1741.fPriority, .int .i64 p_1741.fSeq, .int .i64 p_1741.fSync, .int .i64 end_1748])) 6 (.str v_1792)) 1 (.ptr 0 0), [.cel [.int .u64 p_1741.fSource, .int .i64 p_1741.fUniverse, .int .i64 p_1741.fPriority, .int .i64 p_1741.fSeq, .int .i64 p_1741.fSync, .bool p_1741.fEnd, .str p_1741.fSlots]]⟩) (Le.none [0] [1, 6, 30, 31] (by decide) (by simp only [List.length_set, Option.map_some, restrict_eq, renS_nil, renS_cons, renB_els, renB_cel, renB_dead, deep_eq, map_ren_enc, ren_agg', ren_tup', ren_fn', ren_int', ren_bool', ren_str', ren_sl', ren_pro', ren_nilp', ren_nilfn', ren_junk', ren_ptr', ren_row', ren_arow', ren_eptr', vm, List.idxOf?_cons, List.idxOf?_nil, beq_self_eq_true, Option.map_none, List.getD_cons_zero, List.getD_cons_succ, ↓wk, ↓wl, nc, evV, wrapBits_eq, ↓reduceIte, Nat.reduceEqDiff, Nat.reduceAdd, Nat.reduceSub, Nat.reduceLeDiff, Nat.reduceLT, Nat.reduceBEq, reduceCtorEq, Int.reduceEq] <;> rfl)) ?_
      refine Rounds.go ?_
      refine AW.rseq ?_
      try simp only [↓wk, ↓wl, nc, evV, wrapBits_eq, ↓reduceIte, Nat.reduceEqDiff, Nat.reduceAdd, Nat.reduceSub, Nat.reduceLeDiff, Nat.reduceLT, Nat.reduceBEq, reduceCtorEq, Int.reduceEq]
      refine AW.sseq ?_
      refine AW.ift (by rfl) ?_
      refine AW.skip ?_
      refine seqQ.norm ?_
      refine AW.bseq ?_
      refine AW.rseq ?_
      try simp only [↓wk, ↓wl, nc, evV, wrapBits_eq, ↓reduceIte, Nat.reduceEqDiff, Nat.reduceAdd, Nat.reduceSub, Nat.reduceLeDiff, Nat.reduceLT, Nat.reduceBEq, reduceCtorEq, Int.reduceEq]
      refine evTs_any (v := .int .i64 end_1748) rfl (by rfl) ?_
      try simp only [↓wk, ↓wl, nc, evV, wrapBits_eq, ↓reduceIte, Nat.reduceEqDiff, Nat.reduceAdd, Nat.reduceSub, Nat.reduceLeDiff, Nat.reduceLT, Nat.reduceBEq, reduceCtorEq, Int.reduceEq]
      refine AW.rend ?_
      try simp only [↓wk, ↓wl, nc, evV, wrapBits_eq, ↓reduceIte, Nat.reduceEqDiff, Nat.reduceAdd, Nat.reduceSub, Nat.reduceLeDiff, Nat.reduceLT, Nat.reduceBEq, reduceCtorEq, Int.reduceEq]
      refine evTs_pure hFn H (fun _ h => f53_ok h) (by rfl) (by rfl) (by rfl) (by rfl) (fun _ => rfl) ?_ <;> clear H <;> intro r_1793 H
      try simp only [eL, ↓wk, ↓wl, nc, evV, wrapBits_eq, ↓reduceIte, Nat.reduceEqDiff, Nat.reduceAdd, Nat.reduceSub, Nat.reduceLeDiff, Nat.reduceLT, Nat.reduceBEq, reduceCtorEq, Int.reduceEq]
      refine rest_cat H ?_ <;> clear H <;> intro v_1794 H
      try simp only [↓wk, ↓wl, nc, evV, wrapBits_eq, ↓reduceIte, Nat.reduceEqDiff, Nat.reduceAdd, Nat.reduceSub, Nat.reduceLeDiff, Nat.reduceLT, Nat.reduceBEq, reduceCtorEq, Int.reduceEq]
      refine blkQ.norm ?_
      refine AW.rend ?_
      try simp only [↓wk, ↓wl, nc, evV, wrapBits_eq, ↓reduceIte, Nat.reduceEqDiff, Nat.reduceAdd, Nat.reduceSub, Nat.reduceLeDiff, Nat.reduceLT, Nat.reduceBEq, reduceCtorEq, Int.reduceEq]
      refine roundQ.next (st2 := ⟨put (put (put (put (fun _ => .junk) 31 (.int .i64 6)) 30 (.agg [.int .i64 (IntKind.i64.wrap p_1741.fSource), .int .i64 p_1741.fUniverse, .int .i64 p_1741.fPriority, .int .i64 p_1741.fSeq, .int .i64 p_1741.fSync, .int .i64 end_1748])) 6 (.str v_1794)) 1 (.ptr 0 0), [.cel [.int .u64 p_1741.fSource, .int .i64 p_1741.fUniverse, .int .i64 p_1741.fPriority, .int .i64 p_1741.fSeq, .int .i64 p_1741.fSync, .bool p_1741.fEnd, .str p_1741.fSlots]]⟩) (Le.none [0] [1, 6, 30, 31] (by decide) (by simp only [List.length_set, Option.map_some, restrict_eq, renS_nil, renS_cons, renB_els, renB_cel, renB_dead, deep_eq, map_ren_enc, ren_agg', ren_tup', ren_fn', ren_int', ren_bool', ren_str', ren_sl', ren_pro', ren_nilp', ren_nilfn', ren_junk', ren_ptr', ren_row', ren_arow', ren_eptr', vm, List.idxOf?_cons, List.idxOf?_nil, beq_self_eq_true, Option.map_none, List.getD_cons_zero, List.getD_cons_succ, ↓wk, ↓wl, nc, evV, wrapBits_eq, ↓reduceIte, Nat.reduceEqDiff, Nat.reduceAdd, Nat.reduceSub, Nat.reduceLeDiff, Nat.reduceLT, Nat.reduceBEq, reduceCtorEq, Int.reduceEq] <;> rfl)) ?_
      refine Rounds.go ?_
      refine AW.rseq ?_
      try simp only [↓wk, ↓wl, nc, evV, wrapBits_eq, ↓reduceIte, Nat.reduceEqDiff, Nat.reduceAdd, Nat.reduceSub, Nat.reduceLeDiff, Nat.reduceLT, Nat.reduceBEq, reduceCtorEq, Int.reduceEq]
      refine AW.sseq ?_
      refine AW.iff (by rfl) ?_
      refine AW.exit ?_
      refine seqQ.exit ?_
      refine roundQ.exit ?_
      refine blk0.here ?_
      refine seqQ.norm ?_
      refine AW.rseq ?_
      try simp only [↓wk, ↓wl, nc, evV, wrapBits_eq, ↓reduceIte, Nat.reduceEqDiff, Nat.reduceAdd, Nat.reduceSub, Nat.reduceLeDiff, Nat.reduceLT, Nat.reduceBEq, reduceCtorEq, Int.reduceEq]
      refine evTs_pure hFn H (fun _ h => f54_ok h) (by rfl) (by rfl) (by rfl) (by rfl) (fun _ => rfl) ?_ <;> clear H <;> intro r_1798 H
      try simp only [eL, ↓wk, ↓wl, nc, evV, wrapBits_eq, ↓reduceIte, Nat.reduceEqDiff, Nat.reduceAdd, Nat.reduceSub, Nat.reduceLeDiff, Nat.reduceLT, Nat.reduceBEq, reduceCtorEq, Int.reduceEq]
      refine AW.sseq ?_
      refine AW.rseq ?_
      try simp only [↓wk, ↓wl, nc, evV, wrapBits_eq, ↓reduceIte, Nat.reduceEqDiff, Nat.reduceAdd, Nat.reduceSub, Nat.reduceLeDiff, Nat.reduceLT, Nat.reduceBEq, reduceCtorEq, Int.reduceEq]
      refine AW.ifc H (by rfl) ?_ ?_ <;> clear H <;> intro H
      · refine AW.rseq ?_
        try simp only [↓wk, ↓wl, nc, evV, wrapBits_eq, ↓reduceIte, Nat.reduceEqDiff, Nat.reduceAdd, Nat.reduceSub, Nat.reduceLeDiff, Nat.reduceLT, Nat.reduceBEq, reduceCtorEq, Int.reduceEq]
        refine AW.ret ?_
        refine seqQ.ret ?_
        cases H
        exact hQ _ _ _ _ (.inr rfl) (by simp only [resVs, omap, resV, ↓wk, ↓wl, nc, evV, wrapBits_eq, ↓reduceIte, Nat.reduceEqDiff, Nat.reduceAdd, Nat.reduceSub, Nat.reduceLeDiff, Nat.reduceLT, Nat.reduceBEq, reduceCtorEq, Int.reduceEq]; rfl) (hand_plain (by rfl)) (by rfl)
      · refine AW.skip ?_
        refine seqQ.norm ?_
        refine AW.rseq ?_
        try simp only [↓wk, ↓wl, nc, evV, wrapBits_eq, ↓reduceIte, Nat.reduceEqDiff, Nat.reduceAdd, Nat.reduceSub, Nat.reduceLeDiff, Nat.reduceLT, Nat.reduceBEq, reduceCtorEq, Int.reduceEq]
        refine rest_cat H ?_ <;> clear H <;> intro v_1799 H
        try simp only [↓wk, ↓wl, nc, evV, wrapBits_eq, ↓reduceIte, Nat.reduceEqDiff, Nat.reduceAdd, Nat.reduceSub, Nat.reduceLeDiff, Nat.reduceLT, Nat.reduceBEq, reduceCtorEq, Int.reduceEq]
        refine evTs_pure hFn H (fun _ h => f55_ok h) (by rfl) (by rfl) (by rfl) (by rfl) (fun _ => rfl) ?_ <;> clear H <;> intro r_1821 H
        try simp only [eL, ↓wk, ↓wl, nc, evV, wrapBits_eq, ↓reduceIte, Nat.reduceEqDiff, Nat.reduceAdd, Nat.reduceSub, Nat.reduceLeDiff, Nat.reduceLT, Nat.reduceBEq, reduceCtorEq, Int.reduceEq]
        refine AW.ret ?_
        cases H
        exact hQ _ _ _ _ (.inr rfl) (by simp only [resVs, omap, resV, ↓wk, ↓wl, nc, evV, wrapBits_eq, ↓reduceIte, Nat.reduceEqDiff, Nat.reduceAdd, Nat.reduceSub, Nat.reduceLeDiff, Nat.reduceLT, Nat.reduceBEq, reduceCtorEq, Int.reduceEq]; rfl) (hand_plain (by rfl)) (by rfl)
    · refine AW.rseq ?_
      try simp only [↓wk, ↓wl, nc, evV, wrapBits_eq, ↓reduceIte, Nat.reduceEqDiff, Nat.reduceAdd, Nat.reduceSub, Nat.reduceLeDiff, Nat.reduceLT, Nat.reduceBEq, reduceCtorEq, Int.reduceEq]
      refine AW.ifc H (by rfl) ?_ ?_ <;> clear H <;> intro H
      · refine AW.rend ?_
        try simp only [↓wk, ↓wl, nc, evV, wrapBits_eq, ↓reduceIte, Nat.reduceEqDiff, Nat.reduceAdd, Nat.reduceSub, Nat.reduceLeDiff, Nat.reduceLT, Nat.reduceBEq, reduceCtorEq, Int.reduceEq]
        refine seqQ.norm ?_
        exact hf31_J1 _ _ H ((Le.none [0] [1, 5] (by decide) (by simp only [f31_J1, List.length_set, Option.map_some, restrict_eq, renS_nil, renS_cons, renB_els, renB_cel, renB_dead, deep_eq, map_ren_enc, ren_agg', ren_tup', ren_fn', ren_int', ren_bool', ren_str', ren_sl', ren_pro', ren_nilp', ren_nilfn', ren_junk', ren_ptr', ren_row', ren_arow', ren_eptr', vm, List.idxOf?_cons, List.idxOf?_nil, beq_self_eq_true, Option.map_none, List.getD_cons_zero, List.getD_cons_succ, ↓wk, ↓wl, nc, evV, wrapBits_eq, ↓reduceIte, Nat.reduceEqDiff, Nat.reduceAdd, Nat.reduceSub, Nat.reduceLeDiff, Nat.reduceLT, Nat.reduceBEq, reduceCtorEq, Int.reduceEq])))
      · refine AW.skip ?_
        refine seqQ.norm ?_
        exact hf31_J1 _ _ H ((Le.none [0] [1, 5] (by decide) (by simp only [f31_J1, List.length_set, Option.map_some, restrict_eq, renS_nil, renS_cons, renB_els, renB_cel, renB_dead, deep_eq, map_ren_enc, ren_agg', ren_tup', ren_fn', ren_int', ren_bool', ren_str', ren_sl', ren_pro', ren_nilp', ren_nilfn', ren_junk', ren_ptr', ren_row', ren_arow', ren_eptr', vm, List.idxOf?_cons, List.idxOf?_nil, beq_self_eq_true, Option.map_none, List.getD_cons_zero, List.getD_cons_succ, ↓wk, ↓wl, nc, evV, wrapBits_eq, ↓reduceIte, Nat.reduceEqDiff, Nat.reduceAdd, Nat.reduceSub, Nat.reduceLeDiff, Nat.reduceLT, Nat.reduceBEq, reduceCtorEq, Int.reduceEq])))
def c81_0 : C := .cond (.t 19) (.seq (.reg [iI 2 (.mv (.c (.int .i64 2)))]) .ret) (.skip)
def c81_1 : C := .seq (.reg [iI 2 (.mv (.c (.int .i64 0)))]) .ret
def c81_2 : C := .seq (.seq (.reg [iI 3 (.mv (.t 0)), iI 4 (.nilchk (.t 3)), iI 5 (.faddr 1 (.t 4)), iI 6 (.load 0 (.t 5)), iI 7 (.bin .lss (.t 6) (.c (.int .i64 0))), iI 8 (.mv (.t 7)), iG (some 9) 8 false (.mv (.t 0)), iG (some 10) 8 false (.nilchk (.t 9)), iG (some 11) 8 false (.faddr 1 (.t 10)), iG (some 12) 8 false (.load 0 (.t 11)), iG (some 13) 8 false (.mv (.t 0)), iG (some 14) 8 false (.nilchk (.t 13)), iG (some 15) 8 false (.faddr 0 (.t 14)), iG (some 16) 8 false (.load 0 (.t 15)), iG (some 17) 8 false (.len 1 (.t 16)), iG (some 18) 8 false (.bin .gtr (.t 12) (.t 17)), iI 19 (.pick (.t 8) (.c (.bool true)) (.t 18))]) c81_0) c81_1
def ir81 : C := .seq (.reg [iI 2 (.mv (.c (.int .i64 0)))]) c81_2
theorem fd81 : fd? Try.prog 81 = some (20, [.slot 2], ir81) := by kernel_rfl
noncomputable def f81p (r_1828 : (List UInt8)) (r_1829 : Int) : Option (Int) :=
  (if (decide (r_1829 < 0)) = true then (some 2) else (if (decide (((r_1828.length : Nat) : Int) < r_1829)) = true then (some 2) else (some 0)))
theorem f81p_ok {r_1828 : (List UInt8)} {r_1829 : Int} {r_ : Int} (H : f81p r_1828 r_1829 = some r_) : Pure Try.prog 81 [.pro [.str r_1828, .int .i64 r_1829]] (· = .int .i64 r_) := by
  refine Pure.walk2 fd81 none (Nat.le_of_ble_eq_true rfl) (by rfl) fun Q hQ => ?_
  simp only [f81p] at H
  refine AW.rseq ?_
  try simp only [↓wk, ↓wl, nc, evV, wrapBits_eq, ↓reduceIte, Nat.reduceEqDiff, Nat.reduceAdd, Nat.reduceSub, Nat.reduceLeDiff, Nat.reduceLT, Nat.reduceBEq, reduceCtorEq, Int.reduceEq]
  refine AW.sseq ?_
  refine AW.rseq ?_
  try simp only [↓wk, ↓wl, nc, evV, wrapBits_eq, ↓reduceIte, Nat.reduceEqDiff, Nat.reduceAdd, Nat.reduceSub, Nat.reduceLeDiff, Nat.reduceLT, Nat.reduceBEq, reduceCtorEq, Int.reduceEq]
  refine evTs_ifg H (by rfl) ?_ ?_ <;> clear H <;> intro H
  · try simp only [↓wk, ↓wl, nc, evV, wrapBits_eq, ↓reduceIte, Nat.reduceEqDiff, Nat.reduceAdd, Nat.reduceSub, Nat.reduceLeDiff, Nat.reduceLT, Nat.reduceBEq, reduceCtorEq, Int.reduceEq]
    refine AW.ift (by rfl) ?_
    refine AW.rseq ?_
    try simp only [↓wk, ↓wl, nc, evV, wrapBits_eq, ↓reduceIte, Nat.reduceEqDiff, Nat.reduceAdd, Nat.reduceSub, Nat.reduceLeDiff, Nat.reduceLT, Nat.reduceBEq, reduceCtorEq, Int.reduceEq]
    refine AW.ret ?_
    refine seqQ.ret ?_
    cases H
    exact hQ _ _ _ _ (.inr rfl) (by simp only [resVs, omap, resV, ↓wk, ↓wl, nc, evV, wrapBits_eq, ↓reduceIte, Nat.reduceEqDiff, Nat.reduceAdd, Nat.reduceSub, Nat.reduceLeDiff, Nat.reduceLT, Nat.reduceBEq, reduceCtorEq, Int.reduceEq]; rfl) (hand_plain (by rfl)) (by rfl)
  · try simp only [↓wk, ↓wl, nc, evV, wrapBits_eq, ↓reduceIte, Nat.reduceEqDiff, Nat.reduceAdd, Nat.reduceSub, Nat.reduceLeDiff, Nat.reduceLT, Nat.reduceBEq, reduceCtorEq, Int.reduceEq]
    refine AW.ifc H (by rfl) ?_ ?_ <;> clear H <;> intro H
    · refine AW.rseq ?_
      try simp only [↓wk, ↓wl, nc, evV, wrapBits_eq, ↓reduceIte, Nat.reduceEqDiff, Nat.reduceAdd, Nat.reduceSub, Nat.reduceLeDiff, Nat.reduceLT, Nat.reduceBEq, reduceCtorEq, Int.reduceEq]
      refine AW.ret ?_
      refine seqQ.ret ?_
      cases H
      exact hQ _ _ _ _ (.inr rfl) (by simp only [resVs, omap, resV, ↓wk, ↓wl, nc, evV, wrapBits_eq, ↓reduceIte, Nat.reduceEqDiff, Nat.reduceAdd, Nat.reduceSub, Nat.reduceLeDiff, Nat.reduceLT, Nat.reduceBEq, reduceCtorEq, Int.reduceEq]; rfl) (hand_plain (by rfl)) (by rfl)
    · refine AW.skip ?_
      refine seqQ.norm ?_
      refine AW.rseq ?_
      try simp only [↓wk, ↓wl, nc, evV, wrapBits_eq, ↓reduceIte, Nat.reduceEqDiff, Nat.reduceAdd, Nat.reduceSub, Nat.reduceLeDiff, Nat.reduceLT, Nat.reduceBEq, reduceCtorEq, Int.reduceEq]
      refine AW.ret ?_
      cases H
      exact hQ _ _ _ _ (.inr rfl) (by simp only [resVs, omap, resV, ↓wk, ↓wl, nc, evV, wrapBits_eq, ↓reduceIte, Nat.reduceEqDiff, Nat.reduceAdd, Nat.reduceSub, Nat.reduceLeDiff, Nat.reduceLT, Nat.reduceBEq, reduceCtorEq, Int.reduceEq]; rfl) (hand_plain (by rfl)) (by rfl)
def c82_0 : C := .seq (.reg [iI 5 (.mv (.t 1)), iI 6 (.mv (.t 0)), iI 7 (.nilchk (.t 6)), iI 8 (.faddr 0 (.t 7)), iI 9 (.load 0 (.t 8)), iI 10 (.len 1 (.t 9)), iI 11 (.mv (.t 0)), iI 12 (.nilchk (.t 11)), iI 13 (.faddr 1 (.t 12)), iI 14 (.load 0 (.t 13)), iI 15 (.bin .sub (.t 10) (.t 14)), iI 16 (.bin .leq (.t 5) (.t 15)), iI 4 (.mv (.t 16))]) .ret
def ir82 : C := .seq (.reg [iI 4 (.mv (.c (.bool false)))]) c82_0
theorem fd82 : fd? Try.prog 82 = some (17, [.slot 4], ir82) := by kernel_rfl
noncomputable def f82p (r_1832 : (List UInt8)) (r_1833 : Int) (n_1834 : Int) : Option (Bool) :=
  (some (decide (n_1834 ≤ (IntKind.i64.wrap (((r_1832.length : Nat) : Int) - r_1833)))))
theorem f82p_ok {r_1832 : (List UInt8)} {r_1833 : Int} {n_1834 : Int} {r_ : Bool} (H : f82p r_1832 r_1833 n_1834 = some r_) : Pure Try.prog 82 [.pro [.str r_1832, .int .i64 r_1833], .int .i64 n_1834] (· = .bool r_) := by
  refine Pure.walk2 fd82 none (Nat.le_of_ble_eq_true rfl) (by rfl) fun Q hQ => ?_
  simp only [f82p] at H
  refine AW.rseq ?_
  try simp only [↓wk, ↓wl, nc, evV, wrapBits_eq, ↓reduceIte, Nat.reduceEqDiff, Nat.reduceAdd, Nat.reduceSub, Nat.reduceLeDiff, Nat.reduceLT, Nat.reduceBEq, reduceCtorEq, Int.reduceEq]
  refine AW.rseq ?_
  try simp only [↓wk, ↓wl, nc, evV, wrapBits_eq, ↓reduceIte, Nat.reduceEqDiff, Nat.reduceAdd, Nat.reduceSub, Nat.reduceLeDiff, Nat.reduceLT, Nat.reduceBEq, reduceCtorEq, Int.reduceEq]
  refine AW.ret ?_
  cases H
  exact hQ _ _ _ _ (.inr rfl) (by simp only [resVs, omap, resV, ↓wk, ↓wl, nc, evV, wrapBits_eq, ↓reduceIte, Nat.reduceEqDiff, Nat.reduceAdd, Nat.reduceSub, Nat.reduceLeDiff, Nat.reduceLT, Nat.reduceBEq, reduceCtorEq, Int.reduceEq]; rfl) (hand_plain (by rfl)) (by rfl)
def c83_0 : C := .seq (.reg [iI 13 (.mv (.t 0)), iI 14 (.nilchk (.t 13)), iI 15 (.faddr 0 (.t 14)), iI 16 (.load 0 (.t 15)), iI 17 (.mv (.t 0)), iI 18 (.nilchk (.t 17)), iI 19 (.faddr 1 (.t 18)), iI 20 (.load 0 (.t 19)), iI 21 (.mv (.t 1)), iI 22 (.bin .sub (.t 20) (.t 21)), iI 23 (.mv (.t 0)), iI 24 (.nilchk (.t 23)), iI 25 (.faddr 1 (.t 24)), iI 26 (.load 0 (.t 25)), iI 27 (.sslice (.t 16) (some (.t 22)) (some (.t 26))), iI 4 (.mv (.t 27))]) .ret
def c83_1 : C := .seq (.reg [iI 5 (.mv (.t 0)), iI 6 (.nilchk (.t 5)), iI 7 (.faddr 1 (.t 6)), iI 8 (.load 0 (.t 7)), iI 9 (.mv (.t 1)), iI 10 (.bin .add (.t 8) (.t 9)), iI 11 (.nilchk (.t 5)), iI 12 (.faddr 1 (.t 11)), iN (.store 0 (.t 12) (.t 10))]) c83_0
def ir83 : C := .seq (.reg [iI 4 (.mv (.c (.str [])))]) c83_1
theorem fd83 : fd? Try.prog 83 = some (28, [.slot 4], ir83) := by kernel_rfl
noncomputable def f57_C1 (s_1826 : (List UInt8)) (at_1827 : Int) : Il ((List UInt8) × Int) where
  run := (slc? s_1826 (IntKind.i64.wrap ((IntKind.i64.wrap (at_1827 + 3)) - 3)) (IntKind.i64.wrap (at_1827 + 3))).bind fun s_1843 => (some (s_1843, (IntKind.i64.wrap (at_1827 + 3))))
  res := fun (v_1841, v_1842) => .str v_1841
  hp := fun (v_1841, v_1842) => [.cel [.int .i64 0, .str ([])], .cel [.str s_1826, .int .i64 v_1842]]
noncomputable def f57_C2 (s_1826 : (List UInt8)) (v_1842 : Int) (b_1844 : UInt8) (b_1845 : UInt8) : Il ((List UInt8) × Int) where
  run := (slc? s_1826 (IntKind.i64.wrap ((IntKind.i64.wrap (v_1842 + (IntKind.i64.wrap ((BitVec.ofInt (IntKind.bits .i64) (IntKind.i64.wrap ((IntKind.i64.wrap (b_1844.toNat : Int)) * 2 ^ (min (Int.toNat 8) (IntKind.bits .i64)))) ||| BitVec.ofInt (IntKind.bits .i64) (IntKind.i64.wrap (b_1845.toNat : Int))).toNat : Int)))) - (IntKind.i64.wrap ((BitVec.ofInt (IntKind.bits .i64) (IntKind.i64.wrap ((IntKind.i64.wrap (b_1844.toNat : Int)) * 2 ^ (min (Int.toNat 8) (IntKind.bits .i64)))) ||| BitVec.ofInt (IntKind.bits .i64) (IntKind.i64.wrap (b_1845.toNat : Int))).toNat : Int)))) (IntKind.i64.wrap (v_1842 + (IntKind.i64.wrap ((BitVec.ofInt (IntKind.bits .i64) (IntKind.i64.wrap ((IntKind.i64.wrap (b_1844.toNat : Int)) * 2 ^ (min (Int.toNat 8) (IntKind.bits .i64)))) ||| BitVec.ofInt (IntKind.bits .i64) (IntKind.i64.wrap (b_1845.toNat : Int))).toNat : Int))))).bind fun s_1851 => (some (s_1851, (IntKind.i64.wrap (v_1842 + (IntKind.i64.wrap ((BitVec.ofInt (IntKind.bits .i64) (IntKind.i64.wrap ((IntKind.i64.wrap (b_1844.toNat : Int)) * 2 ^ (min (Int.toNat 8) (IntKind.bits .i64)))) ||| BitVec.ofInt (IntKind.bits .i64) (IntKind.i64.wrap (b_1845.toNat : Int))).toNat : Int))))))
  res := fun (v_1849, v_1850) => .str v_1849
  hp := fun (v_1849, v_1850) => [.cel [.int .i64 0, .str ([])], .cel [.str s_1826, .int .i64 v_1850]]
noncomputable def f57_C3 (s_1826 : (List UInt8)) (v_1850 : Int) : Il ((List UInt8) × Int) where
  run := (slc? s_1826 (IntKind.i64.wrap ((IntKind.i64.wrap (v_1850 + 2)) - 2)) (IntKind.i64.wrap (v_1850 + 2))).bind fun s_1861 => (some (s_1861, (IntKind.i64.wrap (v_1850 + 2))))
  res := fun (v_1859, v_1860) => .str v_1859
  hp := fun (v_1859, v_1860) => [.cel [.int .i64 0, .str ([])], .cel [.str s_1826, .int .i64 v_1860]]
noncomputable def f57_J4 (v_1849 : (List UInt8)) (v_1860 : Int) : Jn (Int) (RecordEntry × Int × Int) where
  run := fun v_1866 => (some ((RecordEntry.mk v_1866 v_1849), v_1860, 0))
  cst := fun v_1866 => ⟨put (put (put (fun _ => .junk) 6 (.int .i64 0)) 5 (.int .i64 v_1860)) 4 (.ptr 0 0), [.cel [.int .i64 v_1866, .str v_1849]]⟩
def c57_0 : C := .cond (.t 19) (.seq (.reg [iI 20 (.build [(1, (.int .i64 0)), (1, (.str []))] []), iI 21 (.mv (.t 8)), iN (.store 2 (.t 4) (.t 20)), iI 5 (.mv (.c (.int .i64 0))), iI 6 (.mv (.t 21))]) .ret) (.skip)
def c57_1 : C := .seq (.reg [iI 18 (.mv (.t 8)), iI 19 (.bin .neq (.t 18) (.c (.int .i64 0)))]) c57_0
def c57_2 : C := .cond (.t 24) (.seq (.reg [iI 25 (.build [(1, (.int .i64 0)), (1, (.str []))] []), iN (.store 2 (.t 4) (.t 25)), iI 5 (.mv (.c (.int .i64 0))), iI 6 (.mv (.c (.int .i64 20)))]) .ret) (.skip)
def c57_3 : C := .cond (.t 40) (.seq (.reg [iI 41 (.build [(1, (.int .i64 0)), (1, (.str []))] []), iN (.store 2 (.t 4) (.t 41)), iI 5 (.mv (.c (.int .i64 0))), iI 6 (.mv (.c (.int .i64 20)))]) .ret) (.skip)
def c57_4 : C := .cond (.t 52) (.seq (.reg [iI 53 (.build [(1, (.int .i64 0)), (1, (.str []))] []), iN (.store 2 (.t 4) (.t 53)), iI 5 (.mv (.c (.int .i64 0))), iI 6 (.mv (.c (.int .i64 17)))]) .ret) (.skip)
def c57_5 : C := .seq (.regt (.fork [iI 54 (.mv (.t 9)), iI 55 (.sidx (.t 54) (.c (.int .i64 0))), iI 56 (.cint .i64 (.t 55)), iI 57 (.mv (.t 11)), iI 58 (.build [(1, (.int .i64 0)), (1, (.str []))] [(0, 0, (.t 56)), (1, 0, (.t 57))]), iI 59 (.mv (.t 7)), iI 60 (.nilchk (.t 59)), iI 61 (.faddr 1 (.t 60))] (.run [iI 62 (.load 0 (.t 61)), iN (.store 2 (.t 4) (.t 58)), iI 5 (.mv (.t 62)), iI 6 (.mv (.c (.int .i64 0)))]) (.run [iN (.store 2 (.t 4) (.t 58)), iI 62 (.load 0 (.t 61)), iI 5 (.mv (.t 62)), iI 6 (.mv (.c (.int .i64 0)))]))) .ret
def c57_6 : C := .seq (.seq (.reg [iI 45 (.mv (.t 7)), iI 46 (.call (.c (.fn 83 [])) [(.t 45), (.c (.int .i64 2))]), iI 47 (.mv (.t 9)), iI 48 (.mv (.t 11)), iI 49 (.bin .add (.t 47) (.t 48)), iI 50 (.call (.c (.fn 77 [])) [(.t 49)]), iI 51 (.call (.c (.fn 76 [])) [(.t 50)]), iI 52 (.bin .neq (.t 46) (.t 51))]) c57_4) c57_5
def c57_7 : C := .seq (.reg [iI 42 (.mv (.t 7)), iI 43 (.mv (.t 10)), iI 44 (.call (.c (.fn 83 [])) [(.t 42), (.t 43)]), iI 11 (.mv (.t 44))]) c57_6
def c57_8 : C := .seq (.seq (.reg [iI 36 (.mv (.t 7)), iI 37 (.mv (.t 10)), iI 38 (.bin .add (.t 37) (.c (.int .i64 2))), iI 39 (.call (.c (.fn 82 [])) [(.t 36), (.t 38)]), iI 40 (.un .not (.t 39))]) c57_3) c57_7
def c57_9 : C := .seq (.reg [iI 28 (.mv (.t 9)), iI 29 (.sidx (.t 28) (.c (.int .i64 1))), iI 30 (.cint .i64 (.t 29)), iI 31 (.bin .shl (.t 30) (.c (.int .u64 8))), iI 32 (.mv (.t 9)), iI 33 (.sidx (.t 32) (.c (.int .i64 2))), iI 34 (.cint .i64 (.t 33)), iI 35 (.bin .or (.t 31) (.t 34)), iI 10 (.mv (.t 35))]) c57_8
def c57_10 : C := .seq (.reg [iI 26 (.mv (.t 7)), iI 27 (.call (.c (.fn 83 [])) [(.t 26), (.c (.int .i64 3))]), iI 9 (.mv (.t 27))]) c57_9
def c57_11 : C := .seq (.seq (.reg [iI 22 (.mv (.t 7)), iI 23 (.call (.c (.fn 82 [])) [(.t 22), (.c (.int .i64 5))]), iI 24 (.un .not (.t 23))]) c57_2) c57_10
def c57_12 : C := .seq (.seq (.reg [iI 16 (.mv (.t 7)), iI 17 (.call (.c (.fn 81 [])) [(.t 16)]), iI 8 (.mv (.t 17))]) c57_1) c57_11
def c57_13 : C := .seq (.reg [iI 12 (.mv (.t 0)), iI 13 (.mv (.t 1)), iI 14 (.build [(1, (.str [])), (1, (.int .i64 0))] [(0, 0, (.t 12)), (1, 0, (.t 13))]), iI 15 (.box (.t 14)), iI 7 (.mv (.t 15))]) c57_12
def ir57 : C := .seq (.reg [iI 4 (.alloc [(1, (.int .i64 0)), (1, (.str []))]), iI 5 (.mv (.c (.int .i64 0))), iI 6 (.mv (.c (.int .i64 0)))]) c57_13
theorem fd57 : fd? Try.prog 57 = some (63, [.cell 4 2, .slot 5, .slot 6], ir57) := by kernel_rfl
noncomputable def f57 (s_1826 : (List UInt8)) (at_1827 : Int) : Option (RecordEntry × Int × Int) :=
  (f81p s_1826 at_1827).bind fun r_1831 => (if (decide (r_1831 ≠ 0)) = true then (some ((RecordEntry.mk 0 ([])), 0, r_1831)) else (f82p s_1826 at_1827 5).bind fun r_1836 => (if (!r_1836) = true then (some ((RecordEntry.mk 0 ([])), 0, 20)) else ((f57_C1 s_1826 at_1827).run.bind fun (v_1841, v_1842) => (at? v_1841 1).bind fun b_1844 => (at? v_1841 2).bind fun b_1845 => (f82p s_1826 v_1842 (IntKind.i64.wrap ((IntKind.i64.wrap ((BitVec.ofInt (IntKind.bits .i64) (IntKind.i64.wrap ((IntKind.i64.wrap (b_1844.toNat : Int)) * 2 ^ (min (Int.toNat 8) (IntKind.bits .i64)))) ||| BitVec.ofInt (IntKind.bits .i64) (IntKind.i64.wrap (b_1845.toNat : Int))).toNat : Int)) + 2))).bind fun r_1847 => (if (!r_1847) = true then (some ((RecordEntry.mk 0 ([])), 0, 20)) else ((f57_C2 s_1826 v_1842 b_1844 b_1845).run.bind fun (v_1849, v_1850) => ((f57_C3 s_1826 v_1850).run.bind fun (v_1859, v_1860) => (cat? v_1841 v_1849).bind fun v_1862 => (f77 v_1862).bind fun r_1863 => (f76 r_1863).bind fun r_1864 => (if (!(v_1859 == r_1864)) = true then (some ((RecordEntry.mk 0 ([])), 0, 17)) else (at? v_1841 0).bind fun b_1867 => ((f57_J4 v_1849 v_1860).run (IntKind.i64.wrap (b_1867.toNat : Int))))))))))
theorem f57_ok {s_1826 : (List UInt8)} {at_1827 : Int} {r_ : RecordEntry × Int × Int} (H : f57 s_1826 at_1827 = some r_) : Pure Try.prog 57 [.str s_1826, .int .i64 at_1827] (· = .tup [.agg [.int .i64 r_.1.fKind, .str r_.1.fData], .int .i64 r_.2.1, .int .i64 r_.2.2]) := by
  refine Pure.walk2 fd57 none (Nat.le_of_ble_eq_true rfl) (by rfl) fun Q hQ => ?_
  simp only [f57] at H
  refine AW.rseq ?_
  try simp only [↓wk, ↓wl, nc, evV, wrapBits_eq, ↓reduceIte, Nat.reduceEqDiff, Nat.reduceAdd, Nat.reduceSub, Nat.reduceLeDiff, Nat.reduceLT, Nat.reduceBEq, reduceCtorEq, Int.reduceEq]
  refine AW.rseq ?_
  try simp only [↓wk, ↓wl, nc, evV, wrapBits_eq, ↓reduceIte, Nat.reduceEqDiff, Nat.reduceAdd, Nat.reduceSub, Nat.reduceLeDiff, Nat.reduceLT, Nat.reduceBEq, reduceCtorEq, Int.reduceEq]
  refine AW.sseq ?_
  refine AW.rseq ?_
  try simp only [↓wk, ↓wl, nc, evV, wrapBits_eq, ↓reduceIte, Nat.reduceEqDiff, Nat.reduceAdd, Nat.reduceSub, Nat.reduceLeDiff, Nat.reduceLT, Nat.reduceBEq, reduceCtorEq, Int.reduceEq]
  refine evTs_flat hFn H (fun _ h => f81p_ok h) (by rfl) (by rfl) (by simp only [deep_eq, imm_simps, imm_rowE, imm_ptrE, imm_enc, omap_simps, take_map_len, take_map_set, take_map_set2, le_refl_true, Nat.zero_add, and_true, true_and, List.drop_zero, Option.map_some, ↓wk, ↓wl, nc, evV, wrapBits_eq, ↓reduceIte, Nat.reduceEqDiff, Nat.reduceAdd, Nat.reduceSub, Nat.reduceLeDiff, Nat.reduceLT, Nat.reduceBEq, reduceCtorEq, Int.reduceEq]; rfl) (by rfl) (fun _ => rfl) (fun _ => rfl) ?_ <;> clear H <;> intro r_1831 H
  try simp only [eL, ↓wk, ↓wl, nc, evV, wrapBits_eq, ↓reduceIte, Nat.reduceEqDiff, Nat.reduceAdd, Nat.reduceSub, Nat.reduceLeDiff, Nat.reduceLT, Nat.reduceBEq, reduceCtorEq, Int.reduceEq]
  refine AW.rseq ?_
  try simp only [↓wk, ↓wl, nc, evV, wrapBits_eq, ↓reduceIte, Nat.reduceEqDiff, Nat.reduceAdd, Nat.reduceSub, Nat.reduceLeDiff, Nat.reduceLT, Nat.reduceBEq, reduceCtorEq, Int.reduceEq]
  refine AW.ifc H (by rfl) ?_ ?_ <;> clear H <;> intro H
  · refine AW.rseq ?_
    try simp only [↓wk, ↓wl, nc, evV, wrapBits_eq, ↓reduceIte, Nat.reduceEqDiff, Nat.reduceAdd, Nat.reduceSub, Nat.reduceLeDiff, Nat.reduceLT, Nat.reduceBEq, reduceCtorEq, Int.reduceEq]
    refine AW.ret ?_
    refine seqQ.ret ?_
    cases H
    exact hQ _ _ _ _ (.inr rfl) (by simp only [resVs, omap, resV, ↓wk, ↓wl, nc, evV, wrapBits_eq, ↓reduceIte, Nat.reduceEqDiff, Nat.reduceAdd, Nat.reduceSub, Nat.reduceLeDiff, Nat.reduceLT, Nat.reduceBEq, reduceCtorEq, Int.reduceEq]; rfl) (hand_plain (by rfl)) (by rfl)
  · refine AW.skip ?_
    refine seqQ.norm ?_
    refine AW.sseq ?_
    refine AW.rseq ?_
    try simp only [↓wk, ↓wl, nc, evV, wrapBits_eq, ↓reduceIte, Nat.reduceEqDiff, Nat.reduceAdd, Nat.reduceSub, Nat.reduceLeDiff, Nat.reduceLT, Nat.reduceBEq, reduceCtorEq, Int.reduceEq]
    refine evTs_flat hFn H (fun _ h => f82p_ok h) (by rfl) (by rfl) (by simp only [deep_eq, imm_simps, imm_rowE, imm_ptrE, imm_enc, omap_simps, take_map_len, take_map_set, take_map_set2, le_refl_true, Nat.zero_add, and_true, true_and, List.drop_zero, Option.map_some, ↓wk, ↓wl, nc, evV, wrapBits_eq, ↓reduceIte, Nat.reduceEqDiff, Nat.reduceAdd, Nat.reduceSub, Nat.reduceLeDiff, Nat.reduceLT, Nat.reduceBEq, reduceCtorEq, Int.reduceEq]; rfl) (by rfl) (fun _ => rfl) (fun _ => rfl) ?_ <;> clear H <;> intro r_1836 H
    try simp only [eL, ↓wk, ↓wl, nc, evV, wrapBits_eq, ↓reduceIte, Nat.reduceEqDiff, Nat.reduceAdd, Nat.reduceSub, Nat.reduceLeDiff, Nat.reduceLT, Nat.reduceBEq, reduceCtorEq, Int.reduceEq]
    refine AW.ifc H (by rfl) ?_ ?_ <;> clear H <;> intro H
    · refine AW.rseq ?_
      try simp only [↓wk, ↓wl, nc, evV, wrapBits_eq, ↓reduceIte, Nat.reduceEqDiff, Nat.reduceAdd, Nat.reduceSub, Nat.reduceLeDiff, Nat.reduceLT, Nat.reduceBEq, reduceCtorEq, Int.reduceEq]
      refine AW.ret ?_
      refine seqQ.ret ?_
      cases H
      exact hQ _ _ _ _ (.inr rfl) (by simp only [resVs, omap, resV, ↓wk, ↓wl, nc, evV, wrapBits_eq, ↓reduceIte, Nat.reduceEqDiff, Nat.reduceAdd, Nat.reduceSub, Nat.reduceLeDiff, Nat.reduceLT, Nat.reduceBEq, reduceCtorEq, Int.reduceEq]; rfl) (hand_plain (by rfl)) (by rfl)
    · refine AW.skip ?_
      refine seqQ.norm ?_
      refine AW.rseq ?_
      try simp only [↓wk, ↓wl, nc, evV, wrapBits_eq, ↓reduceIte, Nat.reduceEqDiff, Nat.reduceAdd, Nat.reduceSub, Nat.reduceLeDiff, Nat.reduceLT, Nat.reduceBEq, reduceCtorEq, Int.reduceEq]
      refine evTs_inl (I := f57_C1 s_1826 at_1827) (args := [.ptr 1 0, .int .i64 3]) H (by rfl) fd83 (by rfl) (Nat.le_of_ble_eq_true rfl) ?_ ?_ <;> clear H
      · rintro v_ Q_ H hqf57_C1
        simp only [f57_C1] at H
        dsimp only [List.length_cons, List.length_nil]
        refine AW.rseq ?_
        try simp only [↓wk, ↓wl, nc, evV, wrapBits_eq, ↓reduceIte, Nat.reduceEqDiff, Nat.reduceAdd, Nat.reduceSub, Nat.reduceLeDiff, Nat.reduceLT, Nat.reduceBEq, reduceCtorEq, Int.reduceEq]
        refine AW.rseq ?_
        try simp only [↓wk, ↓wl, nc, evV, wrapBits_eq, ↓reduceIte, Nat.reduceEqDiff, Nat.reduceAdd, Nat.reduceSub, Nat.reduceLeDiff, Nat.reduceLT, Nat.reduceBEq, reduceCtorEq, Int.reduceEq]
        refine AW.rseq ?_
        try simp only [↓wk, ↓wl, nc, evV, wrapBits_eq, ↓reduceIte, Nat.reduceEqDiff, Nat.reduceAdd, Nat.reduceSub, Nat.reduceLeDiff, Nat.reduceLT, Nat.reduceBEq, reduceCtorEq, Int.reduceEq]
        refine evTs_sslc H (by rfl) (by simp only [loI, hiI, ↓wk, ↓wl, nc, evV, wrapBits_eq, ↓reduceIte, Nat.reduceEqDiff, Nat.reduceAdd, Nat.reduceSub, Nat.reduceLeDiff, Nat.reduceLT, Nat.reduceBEq, reduceCtorEq, Int.reduceEq]; rfl) (by simp only [loI, hiI, ↓wk, ↓wl, nc, evV, wrapBits_eq, ↓reduceIte, Nat.reduceEqDiff, Nat.reduceAdd, Nat.reduceSub, Nat.reduceLeDiff, Nat.reduceLT, Nat.reduceBEq, reduceCtorEq, Int.reduceEq]; rfl) ?_ <;> clear H <;> intro s_1843 H
        try simp only [↓wk, ↓wl, nc, evV, wrapBits_eq, ↓reduceIte, Nat.reduceEqDiff, Nat.reduceAdd, Nat.reduceSub, Nat.reduceLeDiff, Nat.reduceLT, Nat.reduceBEq, reduceCtorEq, Int.reduceEq]
        refine AW.ret ?_
        cases H
        exact hqf57_C1 _ _ _ (.inr rfl) (Le.toL 2 (by rfl) [0, 1] [4] (by decide) (by decide) rfl) (by simp only [resVs, omap, resV, f57_C1, List.length_set, Option.map_some, restrict_eq, renS_nil, renS_cons, renB_els, renB_cel, renB_dead, deep_eq, map_ren_enc, ren_agg', ren_tup', ren_fn', ren_int', ren_bool', ren_str', ren_sl', ren_pro', ren_nilp', ren_nilfn', ren_junk', ren_ptr', ren_row', ren_arow', ren_eptr', vm, List.idxOf?_cons, List.idxOf?_nil, beq_self_eq_true, Option.map_none, List.getD_cons_zero, List.getD_cons_succ, ↓wk, ↓wl, nc, evV, wrapBits_eq, ↓reduceIte, Nat.reduceEqDiff, Nat.reduceAdd, Nat.reduceSub, Nat.reduceLeDiff, Nat.reduceLT, Nat.reduceBEq, reduceCtorEq, Int.reduceEq]) (by simp only [f57_C1, List.length_set, Option.map_some, restrict_eq, renS_nil, renS_cons, renB_els, renB_cel, renB_dead, deep_eq, map_ren_enc, ren_agg', ren_tup', ren_fn', ren_int', ren_bool', ren_str', ren_sl', ren_pro', ren_nilp', ren_nilfn', ren_junk', ren_ptr', ren_row', ren_arow', ren_eptr', vm, List.idxOf?_cons, List.idxOf?_nil, beq_self_eq_true, Option.map_none, List.getD_cons_zero, List.getD_cons_succ, ↓wk, ↓wl, nc, evV, wrapBits_eq, ↓reduceIte, Nat.reduceEqDiff, Nat.reduceAdd, Nat.reduceSub, Nat.reduceLeDiff, Nat.reduceLT, Nat.reduceBEq, reduceCtorEq, Int.reduceEq])
      · rintro ⟨v_1841, v_1842⟩ s_ h_ H hs_ hh_
        simp only [f57_C1] at H hs_ hh_
        subst hs_
        subst hh_
        try simp only [↓wk, ↓wl, nc, evV, wrapBits_eq, ↓reduceIte, Nat.reduceEqDiff, Nat.reduceAdd, Nat.reduceSub, Nat.reduceLeDiff, Nat.reduceLT, Nat.reduceBEq, reduceCtorEq, Int.reduceEq]
        refine AW.rseq ?_
        try simp only [↓wk, ↓wl, nc, evV, wrapBits_eq, ↓reduceIte, Nat.reduceEqDiff, Nat.reduceAdd, Nat.reduceSub, Nat.reduceLeDiff, Nat.reduceLT, Nat.reduceBEq, reduceCtorEq, Int.reduceEq]
        refine evTs_sat H (by rfl) (by rfl) ?_ <;> clear H <;> intro b_1844 H
        try simp only [↓wk, ↓wl, nc, evV, wrapBits_eq, ↓reduceIte, Nat.reduceEqDiff, Nat.reduceAdd, Nat.reduceSub, Nat.reduceLeDiff, Nat.reduceLT, Nat.reduceBEq, reduceCtorEq, Int.reduceEq]
        refine rest_shl (by decide) ?_
        try simp only [↓wk, ↓wl, nc, evV, wrapBits_eq, ↓reduceIte, Nat.reduceEqDiff, Nat.reduceAdd, Nat.reduceSub, Nat.reduceLeDiff, Nat.reduceLT, Nat.reduceBEq, reduceCtorEq, Int.reduceEq]
        refine evTs_sat H (by rfl) (by rfl) ?_ <;> clear H <;> intro b_1845 H
        try simp only [↓wk, ↓wl, nc, evV, wrapBits_eq, ↓reduceIte, Nat.reduceEqDiff, Nat.reduceAdd, Nat.reduceSub, Nat.reduceLeDiff, Nat.reduceLT, Nat.reduceBEq, reduceCtorEq, Int.reduceEq]
        refine rest_or ?_
        try simp only [↓wk, ↓wl, nc, evV, wrapBits_eq, ↓reduceIte, Nat.reduceEqDiff, Nat.reduceAdd, Nat.reduceSub, Nat.reduceLeDiff, Nat.reduceLT, Nat.reduceBEq, reduceCtorEq, Int.reduceEq]
        refine AW.sseq ?_
        refine AW.rseq ?_
        try simp only [↓wk, ↓wl, nc, evV, wrapBits_eq, ↓reduceIte, Nat.reduceEqDiff, Nat.reduceAdd, Nat.reduceSub, Nat.reduceLeDiff, Nat.reduceLT, Nat.reduceBEq, reduceCtorEq, Int.reduceEq]
        refine evTs_flat hFn H (fun _ h => f82p_ok h) (by rfl) (by rfl) (by simp only [deep_eq, imm_simps, imm_rowE, imm_ptrE, imm_enc, omap_simps, take_map_len, take_map_set, take_map_set2, le_refl_true, Nat.zero_add, and_true, true_and, List.drop_zero, Option.map_some, ↓wk, ↓wl, nc, evV, wrapBits_eq, ↓reduceIte, Nat.reduceEqDiff, Nat.reduceAdd, Nat.reduceSub, Nat.reduceLeDiff, Nat.reduceLT, Nat.reduceBEq, reduceCtorEq, Int.reduceEq]; rfl) (by rfl) (fun _ => rfl) (fun _ => rfl) ?_ <;> clear H <;> intro r_1847 H
        try simp only [eL, ↓wk, ↓wl, nc, evV, wrapBits_eq, ↓reduceIte, Nat.reduceEqDiff, Nat.reduceAdd, Nat.reduceSub, Nat.reduceLeDiff, Nat.reduceLT, Nat.reduceBEq, reduceCtorEq, Int.reduceEq]
        refine AW.ifc H (by rfl) ?_ ?_ <;> clear H <;> intro H
        · refine AW.rseq ?_
          try simp only [↓wk, ↓wl, nc, evV, wrapBits_eq, ↓reduceIte, Nat.reduceEqDiff, Nat.reduceAdd, Nat.reduceSub, Nat.reduceLeDiff, Nat.reduceLT, Nat.reduceBEq, reduceCtorEq, Int.reduceEq]
          refine AW.ret ?_
          refine seqQ.ret ?_
          cases H
          exact hQ _ _ _ _ (.inr rfl) (by simp only [resVs, omap, resV, ↓wk, ↓wl, nc, evV, wrapBits_eq, ↓reduceIte, Nat.reduceEqDiff, Nat.reduceAdd, Nat.reduceSub, Nat.reduceLeDiff, Nat.reduceLT, Nat.reduceBEq, reduceCtorEq, Int.reduceEq]; rfl) (hand_plain (by rfl)) (by rfl)
        · refine AW.skip ?_
          refine seqQ.norm ?_
          refine AW.rseq ?_
          try simp only [↓wk, ↓wl, nc, evV, wrapBits_eq, ↓reduceIte, Nat.reduceEqDiff, Nat.reduceAdd, Nat.reduceSub, Nat.reduceLeDiff, Nat.reduceLT, Nat.reduceBEq, reduceCtorEq, Int.reduceEq]
          refine evTs_inl (I := f57_C2 s_1826 v_1842 b_1844 b_1845) (args := [.ptr 1 0, .int .i64 (IntKind.i64.wrap ((BitVec.ofInt (IntKind.bits .i64) (IntKind.i64.wrap ((IntKind.i64.wrap (b_1844.toNat : Int)) * 2 ^ (min (Int.toNat 8) (IntKind.bits .i64)))) ||| BitVec.ofInt (IntKind.bits .i64) (IntKind.i64.wrap (b_1845.toNat : Int))).toNat : Int))]) H (by rfl) fd83 (by rfl) (Nat.le_of_ble_eq_true rfl) ?_ ?_ <;> clear H
          · rintro v_ Q_ H hqf57_C2
            simp only [f57_C2] at H
            dsimp only [List.length_cons, List.length_nil]
            refine AW.rseq ?_
            try simp only [↓wk, ↓wl, nc, evV, wrapBits_eq, ↓reduceIte, Nat.reduceEqDiff, Nat.reduceAdd, Nat.reduceSub, Nat.reduceLeDiff, Nat.reduceLT, Nat.reduceBEq, reduceCtorEq, Int.reduceEq]
            refine AW.rseq ?_
            try simp only [↓wk, ↓wl, nc, evV, wrapBits_eq, ↓reduceIte, Nat.reduceEqDiff, Nat.reduceAdd, Nat.reduceSub, Nat.reduceLeDiff, Nat.reduceLT, Nat.reduceBEq, reduceCtorEq, Int.reduceEq]
            refine AW.rseq ?_
            try simp only [↓wk, ↓wl, nc, evV, wrapBits_eq, ↓reduceIte, Nat.reduceEqDiff, Nat.reduceAdd, Nat.reduceSub, Nat.reduceLeDiff, Nat.reduceLT, Nat.reduceBEq, reduceCtorEq, Int.reduceEq]
            refine evTs_sslc H (by rfl) (by simp only [loI, hiI, ↓wk, ↓wl, nc, evV, wrapBits_eq, ↓reduceIte, Nat.reduceEqDiff, Nat.reduceAdd, Nat.reduceSub, Nat.reduceLeDiff, Nat.reduceLT, Nat.reduceBEq, reduceCtorEq, Int.reduceEq]; rfl) (by simp only [loI, hiI, ↓wk, ↓wl, nc, evV, wrapBits_eq, ↓reduceIte, Nat.reduceEqDiff, Nat.reduceAdd, Nat.reduceSub, Nat.reduceLeDiff, Nat.reduceLT, Nat.reduceBEq, reduceCtorEq, Int.reduceEq]; rfl) ?_ <;> clear H <;> intro s_1851 H
            try simp only [↓wk, ↓wl, nc, evV, wrapBits_eq, ↓reduceIte, Nat.reduceEqDiff, Nat.reduceAdd, Nat.reduceSub, Nat.reduceLeDiff, Nat.reduceLT, Nat.reduceBEq, reduceCtorEq, Int.reduceEq]
            refine AW.ret ?_
            cases H
            exact hqf57_C2 _ _ _ (.inr rfl) (Le.toL 2 (by rfl) [0, 1] [4] (by decide) (by decide) rfl) (by simp only [resVs, omap, resV, f57_C2, List.length_set, Option.map_some, restrict_eq, renS_nil, renS_cons, renB_els, renB_cel, renB_dead, deep_eq, map_ren_enc, ren_agg', ren_tup', ren_fn', ren_int', ren_bool', ren_str', ren_sl', ren_pro', ren_nilp', ren_nilfn', ren_junk', ren_ptr', ren_row', ren_arow', ren_eptr', vm, List.idxOf?_cons, List.idxOf?_nil, beq_self_eq_true, Option.map_none, List.getD_cons_zero, List.getD_cons_succ, ↓wk, ↓wl, nc, evV, wrapBits_eq, ↓reduceIte, Nat.reduceEqDiff, Nat.reduceAdd, Nat.reduceSub, Nat.reduceLeDiff, Nat.reduceLT, Nat.reduceBEq, reduceCtorEq, Int.reduceEq]) (by simp only [f57_C2, List.length_set, Option.map_some, restrict_eq, renS_nil, renS_cons, renB_els, renB_cel, renB_dead, deep_eq, map_ren_enc, ren_agg', ren_tup', ren_fn', ren_int', ren_bool', ren_str', ren_sl', ren_pro', ren_nilp', ren_nilfn', ren_junk', ren_ptr', ren_row', ren_arow', ren_eptr', vm, List.idxOf?_cons, List.idxOf?_nil, beq_self_eq_true, Option.map_none, List.getD_cons_zero, List.getD_cons_succ, ↓wk, ↓wl, nc, evV, wrapBits_eq, ↓reduceIte, Nat.reduceEqDiff, Nat.reduceAdd, Nat.reduceSub, Nat.reduceLeDiff, Nat.reduceLT, Nat.reduceBEq, reduceCtorEq, Int.reduceEq])
          · rintro ⟨v_1849, v_1850⟩ s_ h_ H hs_ hh_
            simp only [f57_C2] at H hs_ hh_
            subst hs_
            subst hh_
            try simp only [↓wk, ↓wl, nc, evV, wrapBits_eq, ↓reduceIte, Nat.reduceEqDiff, Nat.reduceAdd, Nat.reduceSub, Nat.reduceLeDiff, Nat.reduceLT, Nat.reduceBEq, reduceCtorEq, Int.reduceEq]
            refine AW.sseq ?_
            refine AW.rseq ?_
            try simp only [↓wk, ↓wl, nc, evV, wrapBits_eq, ↓reduceIte, Nat.reduceEqDiff, Nat.reduceAdd, Nat.reduceSub, Nat.reduceLeDiff, Nat.reduceLT, Nat.reduceBEq, reduceCtorEq, Int.reduceEq]
            refine evTs_inl (I := f57_C3 s_1826 v_1850) (args := [.ptr 1 0, .int .i64 2]) H (by rfl) fd83 (by rfl) (Nat.le_of_ble_eq_true rfl) ?_ ?_ <;> clear H
            · rintro v_ Q_ H hqf57_C3
              simp only [f57_C3] at H
              dsimp only [List.length_cons, List.length_nil]
              refine AW.rseq ?_
              try simp only [↓wk, ↓wl, nc, evV, wrapBits_eq, ↓reduceIte, Nat.reduceEqDiff, Nat.reduceAdd, Nat.reduceSub, Nat.reduceLeDiff, Nat.reduceLT, Nat.reduceBEq, reduceCtorEq, Int.reduceEq]
              refine AW.rseq ?_
              try simp only [↓wk, ↓wl, nc, evV, wrapBits_eq, ↓reduceIte, Nat.reduceEqDiff, Nat.reduceAdd, Nat.reduceSub, Nat.reduceLeDiff, Nat.reduceLT, Nat.reduceBEq, reduceCtorEq, Int.reduceEq]
              refine AW.rseq ?_
              try simp only [↓wk, ↓wl, nc, evV, wrapBits_eq, ↓reduceIte, Nat.reduceEqDiff, Nat.reduceAdd, Nat.reduceSub, Nat.reduceLeDiff, Nat.reduceLT, Nat.reduceBEq, reduceCtorEq, Int.reduceEq]
              refine evTs_sslc H (by rfl) (by simp only [loI, hiI, ↓wk, ↓wl, nc, evV, wrapBits_eq, ↓reduceIte, Nat.reduceEqDiff, Nat.reduceAdd, Nat.reduceSub, Nat.reduceLeDiff, Nat.reduceLT, Nat.reduceBEq, reduceCtorEq, Int.reduceEq]; rfl) (by simp only [loI, hiI, ↓wk, ↓wl, nc, evV, wrapBits_eq, ↓reduceIte, Nat.reduceEqDiff, Nat.reduceAdd, Nat.reduceSub, Nat.reduceLeDiff, Nat.reduceLT, Nat.reduceBEq, reduceCtorEq, Int.reduceEq]; rfl) ?_ <;> clear H <;> intro s_1861 H
              try simp only [↓wk, ↓wl, nc, evV, wrapBits_eq, ↓reduceIte, Nat.reduceEqDiff, Nat.reduceAdd, Nat.reduceSub, Nat.reduceLeDiff, Nat.reduceLT, Nat.reduceBEq, reduceCtorEq, Int.reduceEq]
              refine AW.ret ?_
              cases H
              exact hqf57_C3 _ _ _ (.inr rfl) (Le.toL 2 (by rfl) [0, 1] [4] (by decide) (by decide) rfl) (by simp only [resVs, omap, resV, f57_C3, List.length_set, Option.map_some, restrict_eq, renS_nil, renS_cons, renB_els, renB_cel, renB_dead, deep_eq, map_ren_enc, ren_agg', ren_tup', ren_fn', ren_int', ren_bool', ren_str', ren_sl', ren_pro', ren_nilp', ren_nilfn', ren_junk', ren_ptr', ren_row', ren_arow', ren_eptr', vm, List.idxOf?_cons, List.idxOf?_nil, beq_self_eq_true, Option.map_none, List.getD_cons_zero, List.getD_cons_succ, ↓wk, ↓wl, nc, evV, wrapBits_eq, ↓reduceIte, Nat.reduceEqDiff, Nat.reduceAdd, Nat.reduceSub, Nat.reduceLeDiff, Nat.reduceLT, Nat.reduceBEq, reduceCtorEq, Int.reduceEq]) (by simp only [f57_C3, List.length_set, Option.map_some, restrict_eq, renS_nil, renS_cons, renB_els, renB_cel, renB_dead, deep_eq, map_ren_enc, ren_agg', ren_tup', ren_fn', ren_int', ren_bool', ren_str', ren_sl', ren_pro', ren_nilp', ren_nilfn', ren_junk', ren_ptr', ren_row', ren_arow', ren_eptr', vm, List.idxOf?_cons, List.idxOf?_nil, beq_self_eq_true, Option.map_none, List.getD_cons_zero, List.getD_cons_succ, ↓wk, ↓wl, nc, evV, wrapBits_eq, ↓reduceIte, Nat.reduceEqDiff, Nat.reduceAdd, Nat.reduceSub, Nat.reduceLeDiff, Nat.reduceLT, Nat.reduceBEq, reduceCtorEq, Int.reduceEq])
            · rintro ⟨v_1859, v_1860⟩ s_ h_ H hs_ hh_
              simp only [f57_C3] at H hs_ hh_
              subst hs_
              subst hh_
              try simp only [↓wk, ↓wl, nc, evV, wrapBits_eq, ↓reduceIte, Nat.reduceEqDiff, Nat.reduceAdd, Nat.reduceSub, Nat.reduceLeDiff, Nat.reduceLT, Nat.reduceBEq, reduceCtorEq, Int.reduceEq]
              refine rest_cat H ?_ <;> clear H <;> intro v_1862 H
              try simp only [↓wk, ↓wl, nc, evV, wrapBits_eq, ↓reduceIte, Nat.reduceEqDiff, Nat.reduceAdd, Nat.reduceSub, Nat.reduceLeDiff, Nat.reduceLT, Nat.reduceBEq, reduceCtorEq, Int.reduceEq]
              refine evTs_pure hFn H (fun _ h => f77_ok h) (by rfl) (by rfl) (by rfl) (by rfl) (fun _ => rfl) ?_ <;> clear H <;> intro r_1863 H
              try simp only [eL, ↓wk, ↓wl, nc, evV, wrapBits_eq, ↓reduceIte, Nat.reduceEqDiff, Nat.reduceAdd, Nat.reduceSub, Nat.reduceLeDiff, Nat.reduceLT, Nat.reduceBEq, reduceCtorEq, Int.reduceEq]
              refine evTs_pure hFn H (fun _ h => f76_ok h) (by rfl) (by rfl) (by rfl) (by rfl) (fun _ => rfl) ?_ <;> clear H <;> intro r_1864 H
              try simp only [eL, ↓wk, ↓wl, nc, evV, wrapBits_eq, ↓reduceIte, Nat.reduceEqDiff, Nat.reduceAdd, Nat.reduceSub, Nat.reduceLeDiff, Nat.reduceLT, Nat.reduceBEq, reduceCtorEq, Int.reduceEq]
              refine AW.ifc H (by rfl) ?_ ?_ <;> clear H <;> intro H
              · refine AW.rseq ?_
                try simp only [↓wk, ↓wl, nc, evV, wrapBits_eq, ↓reduceIte, Nat.reduceEqDiff, Nat.reduceAdd, Nat.reduceSub, Nat.reduceLeDiff, Nat.reduceLT, Nat.reduceBEq, reduceCtorEq, Int.reduceEq]
                refine AW.ret ?_
                refine seqQ.ret ?_
                cases H
                exact hQ _ _ _ _ (.inr rfl) (by simp only [resVs, omap, resV, ↓wk, ↓wl, nc, evV, wrapBits_eq, ↓reduceIte, Nat.reduceEqDiff, Nat.reduceAdd, Nat.reduceSub, Nat.reduceLeDiff, Nat.reduceLT, Nat.reduceBEq, reduceCtorEq, Int.reduceEq]; rfl) (hand_plain (by rfl)) (by rfl)
              · refine AW.skip ?_
                refine seqQ.norm ?_
                refine AW.join (f57_J4 v_1849 v_1860) H ?_ fun hf57_J4 => ?_
                · clear H
                  rintro v_1866 st0_ H hst_
                  simp only [f57_J4] at H hst_
                  subst hst_
                  refine AW.ret ?_
                  cases H
                  exact hQ _ _ _ _ (.inr rfl) (by simp only [resVs, omap, resV, ↓wk, ↓wl, nc, evV, wrapBits_eq, ↓reduceIte, Nat.reduceEqDiff, Nat.reduceAdd, Nat.reduceSub, Nat.reduceLeDiff, Nat.reduceLT, Nat.reduceBEq, reduceCtorEq, Int.reduceEq]; rfl) (hand_plain (by rfl)) (by rfl)
                · refine AW.regt ?_
                  refine evR.fork ?_
                  try simp only [↓wk, ↓wl, nc, evV, wrapBits_eq, ↓reduceIte, Nat.reduceEqDiff, Nat.reduceAdd, Nat.reduceSub, Nat.reduceLeDiff, Nat.reduceLT, Nat.reduceBEq, reduceCtorEq, Int.reduceEq]
                  refine evTs_sat H (by rfl) (by rfl) ?_ <;> clear H <;> intro b_1867 H
                  try simp only [↓wk, ↓wl, nc, evV, wrapBits_eq, ↓reduceIte, Nat.reduceEqDiff, Nat.reduceAdd, Nat.reduceSub, Nat.reduceLeDiff, Nat.reduceLT, Nat.reduceBEq, reduceCtorEq, Int.reduceEq]
                  refine evR.both ?_ ?_
                  · refine evR.run ?_
                    try simp only [↓wk, ↓wl, nc, evV, wrapBits_eq, ↓reduceIte, Nat.reduceEqDiff, Nat.reduceAdd, Nat.reduceSub, Nat.reduceLeDiff, Nat.reduceLT, Nat.reduceBEq, reduceCtorEq, Int.reduceEq]
                    refine seqQ.norm ?_
                    exact hf57_J4 _ _ H ((Le.none [0] [4, 5, 6] (by decide) (by simp only [f57_J4, List.length_set, Option.map_some, restrict_eq, renS_nil, renS_cons, renB_els, renB_cel, renB_dead, deep_eq, map_ren_enc, ren_agg', ren_tup', ren_fn', ren_int', ren_bool', ren_str', ren_sl', ren_pro', ren_nilp', ren_nilfn', ren_junk', ren_ptr', ren_row', ren_arow', ren_eptr', vm, List.idxOf?_cons, List.idxOf?_nil, beq_self_eq_true, Option.map_none, List.getD_cons_zero, List.getD_cons_succ, ↓wk, ↓wl, nc, evV, wrapBits_eq, ↓reduceIte, Nat.reduceEqDiff, Nat.reduceAdd, Nat.reduceSub, Nat.reduceLeDiff, Nat.reduceLT, Nat.reduceBEq, reduceCtorEq, Int.reduceEq])))
                  · refine evR.run ?_
                    try simp only [↓wk, ↓wl, nc, evV, wrapBits_eq, ↓reduceIte, Nat.reduceEqDiff, Nat.reduceAdd, Nat.reduceSub, Nat.reduceLeDiff, Nat.reduceLT, Nat.reduceBEq, reduceCtorEq, Int.reduceEq]
                    refine seqQ.norm ?_
                    exact hf57_J4 _ _ H ((Le.none [0] [4, 5, 6] (by decide) (by simp only [f57_J4, List.length_set, Option.map_some, restrict_eq, renS_nil, renS_cons, renB_els, renB_cel, renB_dead, deep_eq, map_ren_enc, ren_agg', ren_tup', ren_fn', ren_int', ren_bool', ren_str', ren_sl', ren_pro', ren_nilp', ren_nilfn', ren_junk', ren_ptr', ren_row', ren_arow', ren_eptr', vm, List.idxOf?_cons, List.idxOf?_nil, beq_self_eq_true, Option.map_none, List.getD_cons_zero, List.getD_cons_succ, ↓wk, ↓wl, nc, evV, wrapBits_eq, ↓reduceIte, Nat.reduceEqDiff, Nat.reduceAdd, Nat.reduceSub, Nat.reduceLeDiff, Nat.reduceLT, Nat.reduceBEq, reduceCtorEq, Int.reduceEq])))
def c84_0 : C := .cond (.t 11) (.seq (.reg [iI 2 (.mv (.c (.int .i64 0))), iI 3 (.mv (.c (.int .i64 20)))]) .ret) (.skip)
def c84_1 : C := .cond (.t 22) (.skip) (.reg [iI 29 (.mv (.t 6)), iI 30 (.bin .eql (.t 29) (.c (.int .u8 0))), iI 31 (.mv (.t 30)), iG (some 32) 31 true (.mv (.t 5)), iG (some 33) 31 true (.bin .gtr (.t 32) (.c (.int .i64 0))), iI 34 (.pick (.t 31) (.t 33) (.c (.bool false))), iI 22 (.mv (.t 34))])
def c84_2 : C := .cond (.t 35) (.exit 0) (.skip)
def c84_3 : C := .cond (.t 22) (.seq (.reg [iI 2 (.mv (.c (.int .i64 0))), iI 3 (.mv (.c (.int .i64 3)))]) .ret) (.seq (.reg [iI 36 (.mv (.t 6)), iI 37 (.bin .lss (.t 36) (.c (.int .u8 128))), iI 35 (.mv (.t 37))]) c84_2)
def c84_4 : C := .block 2 (.seq (.seq (.reg [iI 23 (.mv (.t 5)), iI 24 (.bin .eql (.t 23) (.c (.int .i64 63))), iI 25 (.mv (.t 24)), iG (some 26) 25 true (.mv (.t 6)), iG (some 27) 25 true (.bin .gtr (.t 26) (.c (.int .u8 1))), iI 28 (.pick (.t 25) (.t 27) (.c (.bool false))), iI 22 (.mv (.t 28))]) c84_1) c84_3)
def c84_5 : C := .seq (.reg [iI 15 (.mv (.t 4)), iI 16 (.mv (.t 6)), iI 17 (.bin .and (.t 16) (.c (.int .u8 127))), iI 18 (.cint .u64 (.t 17)), iI 19 (.mv (.t 5)), iI 20 (.bin .shl (.t 18) (.t 19)), iI 21 (.bin .or (.t 15) (.t 20)), iI 4 (.mv (.t 21))]) c84_4
def c84_6 : C := .seq (.reg [iI 12 (.mv (.t 0)), iI 13 (.call (.c (.fn 83 [])) [(.t 12), (.c (.int .i64 1))]), iI 14 (.sidx (.t 13) (.c (.int .i64 0))), iI 6 (.mv (.t 14))]) c84_5
def c84_7 : C := .reg [iI 7 (.mv (.t 5)), iI 8 (.bin .add (.t 7) (.c (.int .i64 7))), iI 5 (.mv (.t 8))]
def c84_8 : C := .block 0 (.loop (.seq (.block 1 (.seq (.seq (.reg [iI 9 (.mv (.t 0)), iI 10 (.call (.c (.fn 82 [])) [(.t 9), (.c (.int .i64 1))]), iI 11 (.un .not (.t 10))]) c84_0) c84_6)) c84_7))
def c84_9 : C := .seq (.reg [iI 38 (.mv (.t 4)), iI 39 (.bin .shr (.t 38) (.c (.int .u64 1))), iI 40 (.cint .i64 (.t 39)), iI 41 (.mv (.t 4)), iI 42 (.bin .and (.t 41) (.c (.int .u64 1))), iI 43 (.cint .i64 (.t 42)), iI 44 (.un .neg (.t 43)), iI 45 (.bin .xor (.t 40) (.t 44)), iI 2 (.mv (.t 45)), iI 3 (.mv (.c (.int .i64 0)))]) .ret
def c84_10 : C := .seq (.seq (.reg [iI 5 (.mv (.c (.int .i64 0)))]) c84_8) c84_9
def c84_11 : C := .seq (.skip) c84_10
def c84_12 : C := .scope (.seq (.reg [iI 4 (.mv (.c (.int .u64 0)))]) c84_11)
def ir84 : C := .seq (.reg [iI 2 (.mv (.c (.int .i64 0))), iI 3 (.mv (.c (.int .i64 0)))]) c84_12
theorem fd84 : fd? Try.prog 84 = some (46, [.slot 2, .slot 3], ir84) := by kernel_rfl
noncomputable def f58_C3 (s_1869 : (List UInt8)) (v_1925 : Int) : Il ((List UInt8) × Int) where
  run := (slc? s_1869 (IntKind.i64.wrap ((IntKind.i64.wrap (v_1925 + 1)) - 1)) (IntKind.i64.wrap (v_1925 + 1))).bind fun s_1941 => (some (s_1941, (IntKind.i64.wrap (v_1925 + 1))))
  res := fun (v_1939, v_1940) => .str v_1939
  hp := fun (v_1939, v_1940) => [.cel [.str s_1869, .int .i64 v_1940]]
noncomputable def f58_L2 (s_1869 : (List UInt8)) : Lp (Int × Int × Int) ((Int × Int) ⊕ (Int × Int)) where
  body := fun (z_1923, shift_1924, v_1925) => (f82p s_1869 v_1925 1).bind fun r_1937 => (if (!r_1937) = true then (some (.brk (Sum.inr (v_1925, 20)))) else ((f58_C3 s_1869 v_1925).run.bind fun (v_1939, v_1940) => (at? v_1939 0).bind fun b_1942 => (must? (0 ≤ shift_1924)).bind fun _ => (if (decide (shift_1924 = 63)) = true then (if (decide (1 < (b_1942.toNat : Int))) = true then (if (decide (1 < (b_1942.toNat : Int))) = true then (some (.brk (Sum.inr (v_1940, 3)))) else (if (decide ((b_1942.toNat : Int) < 128)) = true then (some (.brk (Sum.inl ((IntKind.u64.wrap ((BitVec.ofInt (IntKind.bits .u64) z_1923 ||| BitVec.ofInt (IntKind.bits .u64) (IntKind.u64.wrap ((IntKind.u64.wrap (IntKind.u8.wrap ((BitVec.ofInt (IntKind.bits .u8) (b_1942.toNat : Int) &&& BitVec.ofInt (IntKind.bits .u8) 127).toNat : Int))) * 2 ^ (min (Int.toNat shift_1924) (IntKind.bits .u64))))).toNat : Int)), v_1940)))) else (some (.next ((IntKind.u64.wrap ((BitVec.ofInt (IntKind.bits .u64) z_1923 ||| BitVec.ofInt (IntKind.bits .u64) (IntKind.u64.wrap ((IntKind.u64.wrap (IntKind.u8.wrap ((BitVec.ofInt (IntKind.bits .u8) (b_1942.toNat : Int) &&& BitVec.ofInt (IntKind.bits .u8) 127).toNat : Int))) * 2 ^ (min (Int.toNat shift_1924) (IntKind.bits .u64))))).toNat : Int)), (IntKind.i64.wrap (shift_1924 + 7)), v_1940))))) else (if (decide ((b_1942.toNat : Int) = 0)) = true then (if (decide (0 < shift_1924)) = true then (some (.brk (Sum.inr (v_1940, 3)))) else (if (decide ((b_1942.toNat : Int) < 128)) = true then (some (.brk (Sum.inl ((IntKind.u64.wrap ((BitVec.ofInt (IntKind.bits .u64) z_1923 ||| BitVec.ofInt (IntKind.bits .u64) (IntKind.u64.wrap ((IntKind.u64.wrap (IntKind.u8.wrap ((BitVec.ofInt (IntKind.bits .u8) (b_1942.toNat : Int) &&& BitVec.ofInt (IntKind.bits .u8) 127).toNat : Int))) * 2 ^ (min (Int.toNat shift_1924) (IntKind.bits .u64))))).toNat : Int)), v_1940)))) else (some (.next ((IntKind.u64.wrap ((BitVec.ofInt (IntKind.bits .u64) z_1923 ||| BitVec.ofInt (IntKind.bits .u64) (IntKind.u64.wrap ((IntKind.u64.wrap (IntKind.u8.wrap ((BitVec.ofInt (IntKind.bits .u8) (b_1942.toNat : Int) &&& BitVec.ofInt (IntKind.bits .u8) 127).toNat : Int))) * 2 ^ (min (Int.toNat shift_1924) (IntKind.bits .u64))))).toNat : Int)), (IntKind.i64.wrap (shift_1924 + 7)), v_1940))))) else (if (decide ((b_1942.toNat : Int) < 128)) = true then (some (.brk (Sum.inl ((IntKind.u64.wrap ((BitVec.ofInt (IntKind.bits .u64) z_1923 ||| BitVec.ofInt (IntKind.bits .u64) (IntKind.u64.wrap ((IntKind.u64.wrap (IntKind.u8.wrap ((BitVec.ofInt (IntKind.bits .u8) (b_1942.toNat : Int) &&& BitVec.ofInt (IntKind.bits .u8) 127).toNat : Int))) * 2 ^ (min (Int.toNat shift_1924) (IntKind.bits .u64))))).toNat : Int)), v_1940)))) else (some (.next ((IntKind.u64.wrap ((BitVec.ofInt (IntKind.bits .u64) z_1923 ||| BitVec.ofInt (IntKind.bits .u64) (IntKind.u64.wrap ((IntKind.u64.wrap (IntKind.u8.wrap ((BitVec.ofInt (IntKind.bits .u8) (b_1942.toNat : Int) &&& BitVec.ofInt (IntKind.bits .u8) 127).toNat : Int))) * 2 ^ (min (Int.toNat shift_1924) (IntKind.bits .u64))))).toNat : Int)), (IntKind.i64.wrap (shift_1924 + 7)), v_1940)))))) else (if (decide ((b_1942.toNat : Int) = 0)) = true then (if (decide (0 < shift_1924)) = true then (some (.brk (Sum.inr (v_1940, 3)))) else (if (decide ((b_1942.toNat : Int) < 128)) = true then (some (.brk (Sum.inl ((IntKind.u64.wrap ((BitVec.ofInt (IntKind.bits .u64) z_1923 ||| BitVec.ofInt (IntKind.bits .u64) (IntKind.u64.wrap ((IntKind.u64.wrap (IntKind.u8.wrap ((BitVec.ofInt (IntKind.bits .u8) (b_1942.toNat : Int) &&& BitVec.ofInt (IntKind.bits .u8) 127).toNat : Int))) * 2 ^ (min (Int.toNat shift_1924) (IntKind.bits .u64))))).toNat : Int)), v_1940)))) else (some (.next ((IntKind.u64.wrap ((BitVec.ofInt (IntKind.bits .u64) z_1923 ||| BitVec.ofInt (IntKind.bits .u64) (IntKind.u64.wrap ((IntKind.u64.wrap (IntKind.u8.wrap ((BitVec.ofInt (IntKind.bits .u8) (b_1942.toNat : Int) &&& BitVec.ofInt (IntKind.bits .u8) 127).toNat : Int))) * 2 ^ (min (Int.toNat shift_1924) (IntKind.bits .u64))))).toNat : Int)), (IntKind.i64.wrap (shift_1924 + 7)), v_1940))))) else (if (decide ((b_1942.toNat : Int) < 128)) = true then (some (.brk (Sum.inl ((IntKind.u64.wrap ((BitVec.ofInt (IntKind.bits .u64) z_1923 ||| BitVec.ofInt (IntKind.bits .u64) (IntKind.u64.wrap ((IntKind.u64.wrap (IntKind.u8.wrap ((BitVec.ofInt (IntKind.bits .u8) (b_1942.toNat : Int) &&& BitVec.ofInt (IntKind.bits .u8) 127).toNat : Int))) * 2 ^ (min (Int.toNat shift_1924) (IntKind.bits .u64))))).toNat : Int)), v_1940)))) else (some (.next ((IntKind.u64.wrap ((BitVec.ofInt (IntKind.bits .u64) z_1923 ||| BitVec.ofInt (IntKind.bits .u64) (IntKind.u64.wrap ((IntKind.u64.wrap (IntKind.u8.wrap ((BitVec.ofInt (IntKind.bits .u8) (b_1942.toNat : Int) &&& BitVec.ofInt (IntKind.bits .u8) 127).toNat : Int))) * 2 ^ (min (Int.toNat shift_1924) (IntKind.bits .u64))))).toNat : Int)), (IntKind.i64.wrap (shift_1924 + 7)), v_1940))))))))
  cst := fun (z_1923, shift_1924, v_1925) => ⟨put (put (put (fun _ => .junk) 5 (.int .i64 shift_1924)) 4 (.int .u64 z_1923)) 0 (.ptr 0 0), [.cel [.str s_1869, .int .i64 v_1925]]⟩
noncomputable def f58_C1 (s_1869 : (List UInt8)) (at_1870 : Int) : Il (Int × Int × Int) where
  run := ((Lp.run (f58_L2 s_1869) (0, 0, at_1870)).bind fun r_ => match r_ with | (Sum.inl (z_1932, v_1933)) => (some ((IntKind.i64.wrap ((BitVec.ofInt (IntKind.bits .i64) (IntKind.i64.wrap (Int.fdiv z_1932 (2 ^ (min (Int.toNat 1) (IntKind.bits .u64))))) ^^^ BitVec.ofInt (IntKind.bits .i64) (IntKind.i64.wrap (0 - (IntKind.i64.wrap (IntKind.u64.wrap ((BitVec.ofInt (IntKind.bits .u64) z_1932 &&& BitVec.ofInt (IntKind.bits .u64) 1).toNat : Int)))))).toNat : Int)), 0, v_1933)) | (Sum.inr (v_1934, v_1935)) => (some (0, v_1935, v_1934)))
  res := fun (v_1905, v_1906, v_1907) => .tup [.int .i64 v_1905, .int .i64 v_1906]
  hp := fun (v_1905, v_1906, v_1907) => [.cel [.str s_1869, .int .i64 v_1907]]
def c58_0 : C := .cond (.t 18) (.seq (.reg [iI 19 (.mv (.t 8)), iI 4 (.mv (.c (.int .i64 0))), iI 5 (.mv (.c (.int .i64 0))), iI 6 (.mv (.t 19))]) .ret) (.skip)
def c58_1 : C := .seq (.reg [iI 17 (.mv (.t 8)), iI 18 (.bin .neq (.t 17) (.c (.int .i64 0)))]) c58_0
def c58_2 : C := .cond (.t 26) (.seq (.reg [iI 27 (.mv (.t 10)), iI 4 (.mv (.c (.int .i64 0))), iI 5 (.mv (.c (.int .i64 0))), iI 6 (.mv (.t 27))]) .ret) (.skip)
def c58_3 : C := .seq (.reg [iI 28 (.mv (.t 9)), iI 29 (.mv (.t 7)), iI 30 (.nilchk (.t 29)), iI 31 (.faddr 1 (.t 30)), iI 32 (.load 0 (.t 31)), iI 4 (.mv (.t 28)), iI 5 (.mv (.t 32)), iI 6 (.mv (.c (.int .i64 0)))]) .ret
def c58_4 : C := .seq (.seq (.reg [iI 25 (.mv (.t 10)), iI 26 (.bin .neq (.t 25) (.c (.int .i64 0)))]) c58_2) c58_3
def c58_5 : C := .seq (.reg [iI 21 (.mv (.t 7)), iI 22 (.call (.c (.fn 84 [])) [(.t 21)]), iI 20 (.mv (.t 22)), iI 23 (.ext (.t 20) 0), iI 24 (.ext (.t 20) 1), iI 9 (.mv (.t 23)), iI 10 (.mv (.t 24))]) c58_4
def c58_6 : C := .seq (.seq (.reg [iI 15 (.mv (.t 7)), iI 16 (.call (.c (.fn 81 [])) [(.t 15)]), iI 8 (.mv (.t 16))]) c58_1) c58_5
def c58_7 : C := .seq (.reg [iI 11 (.mv (.t 0)), iI 12 (.mv (.t 1)), iI 13 (.build [(1, (.str [])), (1, (.int .i64 0))] [(0, 0, (.t 11)), (1, 0, (.t 12))]), iI 14 (.box (.t 13)), iI 7 (.mv (.t 14))]) c58_6
def ir58 : C := .seq (.reg [iI 4 (.mv (.c (.int .i64 0))), iI 5 (.mv (.c (.int .i64 0))), iI 6 (.mv (.c (.int .i64 0)))]) c58_7
theorem fd58 : fd? Try.prog 58 = some (33, [.slot 4, .slot 5, .slot 6], ir58) := by kernel_rfl
noncomputable def f58 (s_1869 : (List UInt8)) (at_1870 : Int) : Option (Int × Int × Int) :=
  (f81p s_1869 at_1870).bind fun r_1872 => (if (decide (r_1872 ≠ 0)) = true then (some (0, 0, r_1872)) else ((f58_C1 s_1869 at_1870).run.bind fun (v_1905, v_1906, v_1907) => (if (decide (v_1906 ≠ 0)) = true then (some (0, 0, v_1906)) else (some (v_1905, v_1907, 0)))))
theorem f58_ok {s_1869 : (List UInt8)} {at_1870 : Int} {r_ : Int × Int × Int} (H : f58 s_1869 at_1870 = some r_) : Pure Try.prog 58 [.str s_1869, .int .i64 at_1870] (· = .tup [.int .i64 r_.1, .int .i64 r_.2.1, .int .i64 r_.2.2]) := by
  refine Pure.walk2 fd58 none (Nat.le_of_ble_eq_true rfl) (by rfl) fun Q hQ => ?_
  simp only [f58] at H
  refine AW.rseq ?_
  try simp only [↓wk, ↓wl, nc, evV, wrapBits_eq, ↓reduceIte, Nat.reduceEqDiff, Nat.reduceAdd, Nat.reduceSub, Nat.reduceLeDiff, Nat.reduceLT, Nat.reduceBEq, reduceCtorEq, Int.reduceEq]
  refine AW.rseq ?_
  try simp only [↓wk, ↓wl, nc, evV, wrapBits_eq, ↓reduceIte, Nat.reduceEqDiff, Nat.reduceAdd, Nat.reduceSub, Nat.reduceLeDiff, Nat.reduceLT, Nat.reduceBEq, reduceCtorEq, Int.reduceEq]
  refine AW.sseq ?_
  refine AW.rseq ?_
  try simp only [↓wk, ↓wl, nc, evV, wrapBits_eq, ↓reduceIte, Nat.reduceEqDiff, Nat.reduceAdd, Nat.reduceSub, Nat.reduceLeDiff, Nat.reduceLT, Nat.reduceBEq, reduceCtorEq, Int.reduceEq]
  refine evTs_flat hFn H (fun _ h => f81p_ok h) (by rfl) (by rfl) (by simp only [deep_eq, imm_simps, imm_rowE, imm_ptrE, imm_enc, omap_simps, take_map_len, take_map_set, take_map_set2, le_refl_true, Nat.zero_add, and_true, true_and, List.drop_zero, Option.map_some, ↓wk, ↓wl, nc, evV, wrapBits_eq, ↓reduceIte, Nat.reduceEqDiff, Nat.reduceAdd, Nat.reduceSub, Nat.reduceLeDiff, Nat.reduceLT, Nat.reduceBEq, reduceCtorEq, Int.reduceEq]; rfl) (by rfl) (fun _ => rfl) (fun _ => rfl) ?_ <;> clear H <;> intro r_1872 H
  try simp only [eL, ↓wk, ↓wl, nc, evV, wrapBits_eq, ↓reduceIte, Nat.reduceEqDiff, Nat.reduceAdd, Nat.reduceSub, Nat.reduceLeDiff, Nat.reduceLT, Nat.reduceBEq, reduceCtorEq, Int.reduceEq]
  refine AW.rseq ?_
  try simp only [↓wk, ↓wl, nc, evV, wrapBits_eq, ↓reduceIte, Nat.reduceEqDiff, Nat.reduceAdd, Nat.reduceSub, Nat.reduceLeDiff, Nat.reduceLT, Nat.reduceBEq, reduceCtorEq, Int.reduceEq]
  refine AW.ifc H (by rfl) ?_ ?_ <;> clear H <;> intro H
  · refine AW.rseq ?_
    try simp only [↓wk, ↓wl, nc, evV, wrapBits_eq, ↓reduceIte, Nat.reduceEqDiff, Nat.reduceAdd, Nat.reduceSub, Nat.reduceLeDiff, Nat.reduceLT, Nat.reduceBEq, reduceCtorEq, Int.reduceEq]
    refine AW.ret ?_
    refine seqQ.ret ?_
    cases H
    exact hQ _ _ _ _ (.inr rfl) (by simp only [resVs, omap, resV, ↓wk, ↓wl, nc, evV, wrapBits_eq, ↓reduceIte, Nat.reduceEqDiff, Nat.reduceAdd, Nat.reduceSub, Nat.reduceLeDiff, Nat.reduceLT, Nat.reduceBEq, reduceCtorEq, Int.reduceEq]; rfl) (hand_plain (by rfl)) (by rfl)
  · refine AW.skip ?_
    refine seqQ.norm ?_
    refine AW.rseq ?_
    try simp only [↓wk, ↓wl, nc, evV, wrapBits_eq, ↓reduceIte, Nat.reduceEqDiff, Nat.reduceAdd, Nat.reduceSub, Nat.reduceLeDiff, Nat.reduceLT, Nat.reduceBEq, reduceCtorEq, Int.reduceEq]
    refine evTs_inl (I := f58_C1 s_1869 at_1870) (args := [.ptr 0 0]) H (by rfl) fd84 (by rfl) (Nat.le_of_ble_eq_true rfl) ?_ ?_ <;> clear H
    · rintro v_ Q_ H hqf58_C1
      simp only [f58_C1] at H
      dsimp only [List.length_cons, List.length_nil]
      refine AW.rseq ?_
      try simp only [↓wk, ↓wl, nc, evV, wrapBits_eq, ↓reduceIte, Nat.reduceEqDiff, Nat.reduceAdd, Nat.reduceSub, Nat.reduceLeDiff, Nat.reduceLT, Nat.reduceBEq, reduceCtorEq, Int.reduceEq]
      refine AW.scope ?_
      refine AW.rseq ?_
      try simp only [↓wk, ↓wl, nc, evV, wrapBits_eq, ↓reduceIte, Nat.reduceEqDiff, Nat.reduceAdd, Nat.reduceSub, Nat.reduceLeDiff, Nat.reduceLT, Nat.reduceBEq, reduceCtorEq, Int.reduceEq]
      refine AW.skseq ?_
      refine AW.sseq ?_
      refine AW.rseq ?_
      try simp only [↓wk, ↓wl, nc, evV, wrapBits_eq, ↓reduceIte, Nat.reduceEqDiff, Nat.reduceAdd, Nat.reduceSub, Nat.reduceLeDiff, Nat.reduceLT, Nat.reduceBEq, reduceCtorEq, Int.reduceEq]
      refine AW.bend ?_
      refine AW.iter H ((Le.toL 1 (by rfl) [0] [0, 4, 5] (by decide) (by decide) (by simp only [f58_L2, List.length_set, Option.map_some, restrict_eq, renS_nil, renS_cons, renB_els, renB_cel, renB_dead, deep_eq, map_ren_enc, ren_agg', ren_tup', ren_fn', ren_int', ren_bool', ren_str', ren_sl', ren_pro', ren_nilp', ren_nilfn', ren_junk', ren_ptr', ren_row', ren_arow', ren_eptr', vm, List.idxOf?_cons, List.idxOf?_nil, beq_self_eq_true, Option.map_none, List.getD_cons_zero, List.getD_cons_succ, ↓wk, ↓wl, nc, evV, wrapBits_eq, ↓reduceIte, Nat.reduceEqDiff, Nat.reduceAdd, Nat.reduceSub, Nat.reduceLeDiff, Nat.reduceLT, Nat.reduceBEq, reduceCtorEq, Int.reduceEq]))) ?_ <;> clear H
      rintro ⟨z_1923, shift_1924, v_1925⟩ x_ st0_ H hst_
      simp only [f58_L2] at H hst_
      subst hst_
      refine AW.bseq ?_
      refine AW.sseq ?_
      refine AW.rseq ?_
      try simp only [↓wk, ↓wl, nc, evV, wrapBits_eq, ↓reduceIte, Nat.reduceEqDiff, Nat.reduceAdd, Nat.reduceSub, Nat.reduceLeDiff, Nat.reduceLT, Nat.reduceBEq, reduceCtorEq, Int.reduceEq]
      refine evTs_flat hFn H (fun _ h => f82p_ok h) (by rfl) (by rfl) (by simp only [deep_eq, imm_simps, imm_rowE, imm_ptrE, imm_enc, omap_simps, take_map_len, take_map_set, take_map_set2, le_refl_true, Nat.zero_add, and_true, true_and, List.drop_zero, Option.map_some, ↓wk, ↓wl, nc, evV, wrapBits_eq, ↓reduceIte, Nat.reduceEqDiff, Nat.reduceAdd, Nat.reduceSub, Nat.reduceLeDiff, Nat.reduceLT, Nat.reduceBEq, reduceCtorEq, Int.reduceEq]; rfl) (by rfl) (fun _ => rfl) (fun _ => rfl) ?_ <;> clear H <;> intro r_1937 H
      try simp only [eL, ↓wk, ↓wl, nc, evV, wrapBits_eq, ↓reduceIte, Nat.reduceEqDiff, Nat.reduceAdd, Nat.reduceSub, Nat.reduceLeDiff, Nat.reduceLT, Nat.reduceBEq, reduceCtorEq, Int.reduceEq]
      refine AW.ifc H (by rfl) ?_ ?_ <;> clear H <;> intro H
      · refine AW.rseq ?_
        try simp only [↓wk, ↓wl, nc, evV, wrapBits_eq, ↓reduceIte, Nat.reduceEqDiff, Nat.reduceAdd, Nat.reduceSub, Nat.reduceLeDiff, Nat.reduceLT, Nat.reduceBEq, reduceCtorEq, Int.reduceEq]
        refine AW.ret ?_
        refine seqQ.ret ?_
        refine blkQ.ret ?_
        refine loopQ.ret H ?_ <;> clear H <;> intro H
        try dsimp only at H
        refine blk0.ret ?_
        refine seqQ.ret ?_
        cases H
        exact hqf58_C1 _ _ _ (.inr rfl) (Le.toL 1 (by rfl) [0] [2, 3] (by decide) (by decide) rfl) (by simp only [resVs, omap, resV, f58_C1, List.length_set, Option.map_some, restrict_eq, renS_nil, renS_cons, renB_els, renB_cel, renB_dead, deep_eq, map_ren_enc, ren_agg', ren_tup', ren_fn', ren_int', ren_bool', ren_str', ren_sl', ren_pro', ren_nilp', ren_nilfn', ren_junk', ren_ptr', ren_row', ren_arow', ren_eptr', vm, List.idxOf?_cons, List.idxOf?_nil, beq_self_eq_true, Option.map_none, List.getD_cons_zero, List.getD_cons_succ, ↓wk, ↓wl, nc, evV, wrapBits_eq, ↓reduceIte, Nat.reduceEqDiff, Nat.reduceAdd, Nat.reduceSub, Nat.reduceLeDiff, Nat.reduceLT, Nat.reduceBEq, reduceCtorEq, Int.reduceEq]) (by simp only [f58_C1, List.length_set, Option.map_some, restrict_eq, renS_nil, renS_cons, renB_els, renB_cel, renB_dead, deep_eq, map_ren_enc, ren_agg', ren_tup', ren_fn', ren_int', ren_bool', ren_str', ren_sl', ren_pro', ren_nilp', ren_nilfn', ren_junk', ren_ptr', ren_row', ren_arow', ren_eptr', vm, List.idxOf?_cons, List.idxOf?_nil, beq_self_eq_true, Option.map_none, List.getD_cons_zero, List.getD_cons_succ, ↓wk, ↓wl, nc, evV, wrapBits_eq, ↓reduceIte, Nat.reduceEqDiff, Nat.reduceAdd, Nat.reduceSub, Nat.reduceLeDiff, Nat.reduceLT, Nat.reduceBEq, reduceCtorEq, Int.reduceEq])
      · refine AW.skip ?_
        refine seqQ.norm ?_
        refine AW.rseq ?_
        try simp only [↓wk, ↓wl, nc, evV, wrapBits_eq, ↓reduceIte, Nat.reduceEqDiff, Nat.reduceAdd, Nat.reduceSub, Nat.reduceLeDiff, Nat.reduceLT, Nat.reduceBEq, reduceCtorEq, Int.reduceEq]
        refine evTs_inl (I := f58_C3 s_1869 v_1925) (args := [.ptr 0 0, .int .i64 1]) H (by rfl) fd83 (by rfl) (Nat.le_of_ble_eq_true rfl) ?_ ?_ <;> clear H
        · rintro v_ Q_ H hqf58_C3
          simp only [f58_C3] at H
          dsimp only [List.length_cons, List.length_nil]
          refine AW.rseq ?_
          try simp only [↓wk, ↓wl, nc, evV, wrapBits_eq, ↓reduceIte, Nat.reduceEqDiff, Nat.reduceAdd, Nat.reduceSub, Nat.reduceLeDiff, Nat.reduceLT, Nat.reduceBEq, reduceCtorEq, Int.reduceEq]
          refine AW.rseq ?_
          try simp only [↓wk, ↓wl, nc, evV, wrapBits_eq, ↓reduceIte, Nat.reduceEqDiff, Nat.reduceAdd, Nat.reduceSub, Nat.reduceLeDiff, Nat.reduceLT, Nat.reduceBEq, reduceCtorEq, Int.reduceEq]
          refine AW.rseq ?_
          try simp only [↓wk, ↓wl, nc, evV, wrapBits_eq, ↓reduceIte, Nat.reduceEqDiff, Nat.reduceAdd, Nat.reduceSub, Nat.reduceLeDiff, Nat.reduceLT, Nat.reduceBEq, reduceCtorEq, Int.reduceEq]
          refine evTs_sslc H (by rfl) (by simp only [loI, hiI, ↓wk, ↓wl, nc, evV, wrapBits_eq, ↓reduceIte, Nat.reduceEqDiff, Nat.reduceAdd, Nat.reduceSub, Nat.reduceLeDiff, Nat.reduceLT, Nat.reduceBEq, reduceCtorEq, Int.reduceEq]; rfl) (by simp only [loI, hiI, ↓wk, ↓wl, nc, evV, wrapBits_eq, ↓reduceIte, Nat.reduceEqDiff, Nat.reduceAdd, Nat.reduceSub, Nat.reduceLeDiff, Nat.reduceLT, Nat.reduceBEq, reduceCtorEq, Int.reduceEq]; rfl) ?_ <;> clear H <;> intro s_1941 H
          try simp only [↓wk, ↓wl, nc, evV, wrapBits_eq, ↓reduceIte, Nat.reduceEqDiff, Nat.reduceAdd, Nat.reduceSub, Nat.reduceLeDiff, Nat.reduceLT, Nat.reduceBEq, reduceCtorEq, Int.reduceEq]
          refine AW.ret ?_
          cases H
          exact hqf58_C3 _ _ _ (.inr rfl) (Le.toL 1 (by rfl) [0] [4] (by decide) (by decide) rfl) (by simp only [resVs, omap, resV, f58_C3, List.length_set, Option.map_some, restrict_eq, renS_nil, renS_cons, renB_els, renB_cel, renB_dead, deep_eq, map_ren_enc, ren_agg', ren_tup', ren_fn', ren_int', ren_bool', ren_str', ren_sl', ren_pro', ren_nilp', ren_nilfn', ren_junk', ren_ptr', ren_row', ren_arow', ren_eptr', vm, List.idxOf?_cons, List.idxOf?_nil, beq_self_eq_true, Option.map_none, List.getD_cons_zero, List.getD_cons_succ, ↓wk, ↓wl, nc, evV, wrapBits_eq, ↓reduceIte, Nat.reduceEqDiff, Nat.reduceAdd, Nat.reduceSub, Nat.reduceLeDiff, Nat.reduceLT, Nat.reduceBEq, reduceCtorEq, Int.reduceEq]) (by simp only [f58_C3, List.length_set, Option.map_some, restrict_eq, renS_nil, renS_cons, renB_els, renB_cel, renB_dead, deep_eq, map_ren_enc, ren_agg', ren_tup', ren_fn', ren_int', ren_bool', ren_str', ren_sl', ren_pro', ren_nilp', ren_nilfn', ren_junk', ren_ptr', ren_row', ren_arow', ren_eptr', vm, List.idxOf?_cons, List.idxOf?_nil, beq_self_eq_true, Option.map_none, List.getD_cons_zero, List.getD_cons_succ, ↓wk, ↓wl, nc, evV, wrapBits_eq, ↓reduceIte, Nat.reduceEqDiff, Nat.reduceAdd, Nat.reduceSub, Nat.reduceLeDiff, Nat.reduceLT, Nat.reduceBEq, reduceCtorEq, Int.reduceEq])
        · rintro ⟨v_1939, v_1940⟩ s_ h_ H hs_ hh_
          simp only [f58_C3] at H hs_ hh_
          subst hs_
          subst hh_
          try simp only [↓wk, ↓wl, nc, evV, wrapBits_eq, ↓reduceIte, Nat.reduceEqDiff, Nat.reduceAdd, Nat.reduceSub, Nat.reduceLeDiff, Nat.reduceLT, Nat.reduceBEq, reduceCtorEq, Int.reduceEq]
          refine evTs_sat H (by rfl) (by rfl) ?_ <;> clear H <;> intro b_1942 H
          try simp only [↓wk, ↓wl, nc, evV, wrapBits_eq, ↓reduceIte, Nat.reduceEqDiff, Nat.reduceAdd, Nat.reduceSub, Nat.reduceLeDiff, Nat.reduceLT, Nat.reduceBEq, reduceCtorEq, Int.reduceEq]
          refine AW.rseq ?_
          try simp only [↓wk, ↓wl, nc, evV, wrapBits_eq, ↓reduceIte, Nat.reduceEqDiff, Nat.reduceAdd, Nat.reduceSub, Nat.reduceLeDiff, Nat.reduceLT, Nat.reduceBEq, reduceCtorEq, Int.reduceEq]
          refine rest_and ?_
          try simp only [↓wk, ↓wl, nc, evV, wrapBits_eq, ↓reduceIte, Nat.reduceEqDiff, Nat.reduceAdd, Nat.reduceSub, Nat.reduceLeDiff, Nat.reduceLT, Nat.reduceBEq, reduceCtorEq, Int.reduceEq]
          refine rest_shlv H ?_ <;> clear H <;> intro H
          try simp only [↓wk, ↓wl, nc, evV, wrapBits_eq, ↓reduceIte, Nat.reduceEqDiff, Nat.reduceAdd, Nat.reduceSub, Nat.reduceLeDiff, Nat.reduceLT, Nat.reduceBEq, reduceCtorEq, Int.reduceEq]
          refine rest_or ?_
          try simp only [↓wk, ↓wl, nc, evV, wrapBits_eq, ↓reduceIte, Nat.reduceEqDiff, Nat.reduceAdd, Nat.reduceSub, Nat.reduceLeDiff, Nat.reduceLT, Nat.reduceBEq, reduceCtorEq, Int.reduceEq]
          refine AW.bend ?_
          refine AW.sseq ?_
          refine AW.rseq ?_
          try simp only [↓wk, ↓wl, nc, evV, wrapBits_eq, ↓reduceIte, Nat.reduceEqDiff, Nat.reduceAdd, Nat.reduceSub, Nat.reduceLeDiff, Nat.reduceLT, Nat.reduceBEq, reduceCtorEq, Int.reduceEq]
          refine evTs_ifg H (by rfl) ?_ ?_ <;> clear H <;> intro H
          · try simp only [↓wk, ↓wl, nc, evV, wrapBits_eq, ↓reduceIte, Nat.reduceEqDiff, Nat.reduceAdd, Nat.reduceSub, Nat.reduceLeDiff, Nat.reduceLT, Nat.reduceBEq, reduceCtorEq, Int.reduceEq]
            refine AW.ifc H (by rfl) ?_ ?_ <;> clear H <;> intro H
            · refine AW.skip ?_
              refine seqQ.norm ?_
              refine AW.ifc H (by rfl) ?_ ?_ <;> clear H <;> intro H
              · refine AW.rseq ?_
                try simp only [↓wk, ↓wl, nc, evV, wrapBits_eq, ↓reduceIte, Nat.reduceEqDiff, Nat.reduceAdd, Nat.reduceSub, Nat.reduceLeDiff, Nat.reduceLT, Nat.reduceBEq, reduceCtorEq, Int.reduceEq]
                refine AW.ret ?_
                refine blk0.ret ?_
                refine blkQ.ret ?_
                refine loopQ.ret H ?_ <;> clear H <;> intro H
                try dsimp only at H
                refine blk0.ret ?_
                refine seqQ.ret ?_
                cases H
                exact hqf58_C1 _ _ _ (.inr rfl) (Le.toL 1 (by rfl) [0] [2, 3] (by decide) (by decide) rfl) (by simp only [resVs, omap, resV, f58_C1, List.length_set, Option.map_some, restrict_eq, renS_nil, renS_cons, renB_els, renB_cel, renB_dead, deep_eq, map_ren_enc, ren_agg', ren_tup', ren_fn', ren_int', ren_bool', ren_str', ren_sl', ren_pro', ren_nilp', ren_nilfn', ren_junk', ren_ptr', ren_row', ren_arow', ren_eptr', vm, List.idxOf?_cons, List.idxOf?_nil, beq_self_eq_true, Option.map_none, List.getD_cons_zero, List.getD_cons_succ, ↓wk, ↓wl, nc, evV, wrapBits_eq, ↓reduceIte, Nat.reduceEqDiff, Nat.reduceAdd, Nat.reduceSub, Nat.reduceLeDiff, Nat.reduceLT, Nat.reduceBEq, reduceCtorEq, Int.reduceEq]) (by simp only [f58_C1, List.length_set, Option.map_some, restrict_eq, renS_nil, renS_cons, renB_els, renB_cel, renB_dead, deep_eq, map_ren_enc, ren_agg', ren_tup', ren_fn', ren_int', ren_bool', ren_str', ren_sl', ren_pro', ren_nilp', ren_nilfn', ren_junk', ren_ptr', ren_row', ren_arow', ren_eptr', vm, List.idxOf?_cons, List.idxOf?_nil, beq_self_eq_true, Option.map_none, List.getD_cons_zero, List.getD_cons_succ, ↓wk, ↓wl, nc, evV, wrapBits_eq, ↓reduceIte, Nat.reduceEqDiff, Nat.reduceAdd, Nat.reduceSub, Nat.reduceLeDiff, Nat.reduceLT, Nat.reduceBEq, reduceCtorEq, Int.reduceEq])
              · refine AW.rseq ?_
                try simp only [↓wk, ↓wl, nc, evV, wrapBits_eq, ↓reduceIte, Nat.reduceEqDiff, Nat.reduceAdd, Nat.reduceSub, Nat.reduceLeDiff, Nat.reduceLT, Nat.reduceBEq, reduceCtorEq, Int.reduceEq]
                refine AW.ifc H (by rfl) ?_ ?_ <;> clear H <;> intro H
                · refine AW.exit ?_
                  refine blk0.out (by rfl) ?_
                  refine blkQ.out (by rfl) ?_
                  refine loopQ.exit H ?_ <;> clear H <;> intro H
                  try dsimp only at H
                  refine blk0.here ?_
                  refine seqQ.norm ?_
                  refine AW.rseq ?_
                  try simp only [↓wk, ↓wl, nc, evV, wrapBits_eq, ↓reduceIte, Nat.reduceEqDiff, Nat.reduceAdd, Nat.reduceSub, Nat.reduceLeDiff, Nat.reduceLT, Nat.reduceBEq, reduceCtorEq, Int.reduceEq]
                  refine rest_shr (by decide) ?_
                  try simp only [↓wk, ↓wl, nc, evV, wrapBits_eq, ↓reduceIte, Nat.reduceEqDiff, Nat.reduceAdd, Nat.reduceSub, Nat.reduceLeDiff, Nat.reduceLT, Nat.reduceBEq, reduceCtorEq, Int.reduceEq]
                  refine rest_and ?_
                  try simp only [↓wk, ↓wl, nc, evV, wrapBits_eq, ↓reduceIte, Nat.reduceEqDiff, Nat.reduceAdd, Nat.reduceSub, Nat.reduceLeDiff, Nat.reduceLT, Nat.reduceBEq, reduceCtorEq, Int.reduceEq]
                  refine rest_xor ?_
                  try simp only [↓wk, ↓wl, nc, evV, wrapBits_eq, ↓reduceIte, Nat.reduceEqDiff, Nat.reduceAdd, Nat.reduceSub, Nat.reduceLeDiff, Nat.reduceLT, Nat.reduceBEq, reduceCtorEq, Int.reduceEq]
                  refine AW.ret ?_
                  cases H
                  exact hqf58_C1 _ _ _ (.inr rfl) (Le.toL 1 (by rfl) [0] [2, 3] (by decide) (by decide) rfl) (by simp only [resVs, omap, resV, f58_C1, List.length_set, Option.map_some, restrict_eq, renS_nil, renS_cons, renB_els, renB_cel, renB_dead, deep_eq, map_ren_enc, ren_agg', ren_tup', ren_fn', ren_int', ren_bool', ren_str', ren_sl', ren_pro', ren_nilp', ren_nilfn', ren_junk', ren_ptr', ren_row', ren_arow', ren_eptr', vm, List.idxOf?_cons, List.idxOf?_nil, beq_self_eq_true, Option.map_none, List.getD_cons_zero, List.getD_cons_succ, ↓wk, ↓wl, nc, evV, wrapBits_eq, ↓reduceIte, Nat.reduceEqDiff, Nat.reduceAdd, Nat.reduceSub, Nat.reduceLeDiff, Nat.reduceLT, Nat.reduceBEq, reduceCtorEq, Int.reduceEq]) (by simp only [f58_C1, List.length_set, Option.map_some, restrict_eq, renS_nil, renS_cons, renB_els, renB_cel, renB_dead, deep_eq, map_ren_enc, ren_agg', ren_tup', ren_fn', ren_int', ren_bool', ren_str', ren_sl', ren_pro', ren_nilp', ren_nilfn', ren_junk', ren_ptr', ren_row', ren_arow', ren_eptr', vm, List.idxOf?_cons, List.idxOf?_nil, beq_self_eq_true, Option.map_none, List.getD_cons_zero, List.getD_cons_succ, ↓wk, ↓wl, nc, evV, wrapBits_eq, ↓reduceIte, Nat.reduceEqDiff, Nat.reduceAdd, Nat.reduceSub, Nat.reduceLeDiff, Nat.reduceLT, Nat.reduceBEq, reduceCtorEq, Int.reduceEq])
                · refine AW.skip ?_
                  refine blk0.norm ?_
                  refine blkQ.norm ?_
                  refine AW.rend ?_
                  try simp only [↓wk, ↓wl, nc, evV, wrapBits_eq, ↓reduceIte, Nat.reduceEqDiff, Nat.reduceAdd, Nat.reduceSub, Nat.reduceLeDiff, Nat.reduceLT, Nat.reduceBEq, reduceCtorEq, Int.reduceEq]
                  exact loopQ.next H ((Le.toL 1 (by rfl) [0] [0, 4, 5] (by decide) (by decide) (by simp only [f58_L2, List.length_set, Option.map_some, restrict_eq, renS_nil, renS_cons, renB_els, renB_cel, renB_dead, deep_eq, map_ren_enc, ren_agg', ren_tup', ren_fn', ren_int', ren_bool', ren_str', ren_sl', ren_pro', ren_nilp', ren_nilfn', ren_junk', ren_ptr', ren_row', ren_arow', ren_eptr', vm, List.idxOf?_cons, List.idxOf?_nil, beq_self_eq_true, Option.map_none, List.getD_cons_zero, List.getD_cons_succ, ↓wk, ↓wl, nc, evV, wrapBits_eq, ↓reduceIte, Nat.reduceEqDiff, Nat.reduceAdd, Nat.reduceSub, Nat.reduceLeDiff, Nat.reduceLT, Nat.reduceBEq, reduceCtorEq, Int.reduceEq])))
            · refine AW.rend ?_
              try simp only [↓wk, ↓wl, nc, evV, wrapBits_eq, ↓reduceIte, Nat.reduceEqDiff, Nat.reduceAdd, Nat.reduceSub, Nat.reduceLeDiff, Nat.reduceLT, Nat.reduceBEq, reduceCtorEq, Int.reduceEq]
              refine evTs_ifg H (by rfl) ?_ ?_ <;> clear H <;> intro H
              · try simp only [↓wk, ↓wl, nc, evV, wrapBits_eq, ↓reduceIte, Nat.reduceEqDiff, Nat.reduceAdd, Nat.reduceSub, Nat.reduceLeDiff, Nat.reduceLT, Nat.reduceBEq, reduceCtorEq, Int.reduceEq]
                refine seqQ.norm ?_
                refine AW.ifc H (by rfl) ?_ ?_ <;> clear H <;> intro H
                · refine AW.rseq ?_
                  try simp only [↓wk, ↓wl, nc, evV, wrapBits_eq, ↓reduceIte, Nat.reduceEqDiff, Nat.reduceAdd, Nat.reduceSub, Nat.reduceLeDiff, Nat.reduceLT, Nat.reduceBEq, reduceCtorEq, Int.reduceEq]
                  refine AW.ret ?_
                  refine blk0.ret ?_
                  refine blkQ.ret ?_
                  refine loopQ.ret H ?_ <;> clear H <;> intro H
                  try dsimp only at H
                  refine blk0.ret ?_
                  refine seqQ.ret ?_
                  cases H
                  exact hqf58_C1 _ _ _ (.inr rfl) (Le.toL 1 (by rfl) [0] [2, 3] (by decide) (by decide) rfl) (by simp only [resVs, omap, resV, f58_C1, List.length_set, Option.map_some, restrict_eq, renS_nil, renS_cons, renB_els, renB_cel, renB_dead, deep_eq, map_ren_enc, ren_agg', ren_tup', ren_fn', ren_int', ren_bool', ren_str', ren_sl', ren_pro', ren_nilp', ren_nilfn', ren_junk', ren_ptr', ren_row', ren_arow', ren_eptr', vm, List.idxOf?_cons, List.idxOf?_nil, beq_self_eq_true, Option.map_none, List.getD_cons_zero, List.getD_cons_succ, ↓wk, ↓wl, nc, evV, wrapBits_eq, ↓reduceIte, Nat.reduceEqDiff, Nat.reduceAdd, Nat.reduceSub, Nat.reduceLeDiff, Nat.reduceLT, Nat.reduceBEq, reduceCtorEq, Int.reduceEq]) (by simp only [f58_C1, List.length_set, Option.map_some, restrict_eq, renS_nil, renS_cons, renB_els, renB_cel, renB_dead, deep_eq, map_ren_enc, ren_agg', ren_tup', ren_fn', ren_int', ren_bool', ren_str', ren_sl', ren_pro', ren_nilp', ren_nilfn', ren_junk', ren_ptr', ren_row', ren_arow', ren_eptr', vm, List.idxOf?_cons, List.idxOf?_nil, beq_self_eq_true, Option.map_none, List.getD_cons_zero, List.getD_cons_succ, ↓wk, ↓wl, nc, evV, wrapBits_eq, ↓reduceIte, Nat.reduceEqDiff, Nat.reduceAdd, Nat.reduceSub, Nat.reduceLeDiff, Nat.reduceLT, Nat.reduceBEq, reduceCtorEq, Int.reduceEq])
                · refine AW.rseq ?_
                  try simp only [↓wk, ↓wl, nc, evV, wrapBits_eq, ↓reduceIte, Nat.reduceEqDiff, Nat.reduceAdd, Nat.reduceSub, Nat.reduceLeDiff, Nat.reduceLT, Nat.reduceBEq, reduceCtorEq, Int.reduceEq]
                  refine AW.ifc H (by rfl) ?_ ?_ <;> clear H <;> intro H
                  · refine AW.exit ?_
                    refine blk0.out (by rfl) ?_
                    refine blkQ.out (by rfl) ?_
                    refine loopQ.exit H ?_ <;> clear H <;> intro H
                    try dsimp only at H
                    refine blk0.here ?_
                    refine seqQ.norm ?_
                    refine AW.rseq ?_
                    try simp only [↓wk, ↓wl, nc, evV, wrapBits_eq, ↓reduceIte, Nat.reduceEqDiff, Nat.reduceAdd, Nat.reduceSub, Nat.reduceLeDiff, Nat.reduceLT, Nat.reduceBEq, reduceCtorEq, Int.reduceEq]
                    refine rest_shr (by decide) ?_
                    try simp only [↓wk, ↓wl, nc, evV, wrapBits_eq, ↓reduceIte, Nat.reduceEqDiff, Nat.reduceAdd, Nat.reduceSub, Nat.reduceLeDiff, Nat.reduceLT, Nat.reduceBEq, reduceCtorEq, Int.reduceEq]
                    refine rest_and ?_
                    try simp only [↓wk, ↓wl, nc, evV, wrapBits_eq, ↓reduceIte, Nat.reduceEqDiff, Nat.reduceAdd, Nat.reduceSub, Nat.reduceLeDiff, Nat.reduceLT, Nat.reduceBEq, reduceCtorEq, Int.reduceEq]
                    refine rest_xor ?_
                    try simp only [↓wk, ↓wl, nc, evV, wrapBits_eq, ↓reduceIte, Nat.reduceEqDiff, Nat.reduceAdd, Nat.reduceSub, Nat.reduceLeDiff, Nat.reduceLT, Nat.reduceBEq, reduceCtorEq, Int.reduceEq]
                    refine AW.ret ?_
                    cases H
                    exact hqf58_C1 _ _ _ (.inr rfl) (Le.toL 1 (by rfl) [0] [2, 3] (by decide) (by decide) rfl) (by simp only [resVs, omap, resV, f58_C1, List.length_set, Option.map_some, restrict_eq, renS_nil, renS_cons, renB_els, renB_cel, renB_dead, deep_eq, map_ren_enc, ren_agg', ren_tup', ren_fn', ren_int', ren_bool', ren_str', ren_sl', ren_pro', ren_nilp', ren_nilfn', ren_junk', ren_ptr', ren_row', ren_arow', ren_eptr', vm, List.idxOf?_cons, List.idxOf?_nil, beq_self_eq_true, Option.map_none, List.getD_cons_zero, List.getD_cons_succ, ↓wk, ↓wl, nc, evV, wrapBits_eq, ↓reduceIte, Nat.reduceEqDiff, Nat.reduceAdd, Nat.reduceSub, Nat.reduceLeDiff, Nat.reduceLT, Nat.reduceBEq, reduceCtorEq, Int.reduceEq]) (by simp only [f58_C1, List.length_set, Option.map_some, restrict_eq, renS_nil, renS_cons, renB_els, renB_cel, renB_dead, deep_eq, map_ren_enc, ren_agg', ren_tup', ren_fn', ren_int', ren_bool', ren_str', ren_sl', ren_pro', ren_nilp', ren_nilfn', ren_junk', ren_ptr', ren_row', ren_arow', ren_eptr', vm, List.idxOf?_cons, List.idxOf?_nil, beq_self_eq_true, Option.map_none, List.getD_cons_zero, List.getD_cons_succ, ↓wk, ↓wl, nc, evV, wrapBits_eq, ↓reduceIte, Nat.reduceEqDiff, Nat.reduceAdd, Nat.reduceSub, Nat.reduceLeDiff, Nat.reduceLT, Nat.reduceBEq, reduceCtorEq, Int.reduceEq])
                  · refine AW.skip ?_
                    refine blk0.norm ?_
                    refine blkQ.norm ?_
                    refine AW.rend ?_
                    try simp only [↓wk, ↓wl, nc, evV, wrapBits_eq, ↓reduceIte, Nat.reduceEqDiff, Nat.reduceAdd, Nat.reduceSub, Nat.reduceLeDiff, Nat.reduceLT, Nat.reduceBEq, reduceCtorEq, Int.reduceEq]
                    exact loopQ.next H ((Le.toL 1 (by rfl) [0] [0, 4, 5] (by decide) (by decide) (by simp only [f58_L2, List.length_set, Option.map_some, restrict_eq, renS_nil, renS_cons, renB_els, renB_cel, renB_dead, deep_eq, map_ren_enc, ren_agg', ren_tup', ren_fn', ren_int', ren_bool', ren_str', ren_sl', ren_pro', ren_nilp', ren_nilfn', ren_junk', ren_ptr', ren_row', ren_arow', ren_eptr', vm, List.idxOf?_cons, List.idxOf?_nil, beq_self_eq_true, Option.map_none, List.getD_cons_zero, List.getD_cons_succ, ↓wk, ↓wl, nc, evV, wrapBits_eq, ↓reduceIte, Nat.reduceEqDiff, Nat.reduceAdd, Nat.reduceSub, Nat.reduceLeDiff, Nat.reduceLT, Nat.reduceBEq, reduceCtorEq, Int.reduceEq])))
              · try simp only [↓wk, ↓wl, nc, evV, wrapBits_eq, ↓reduceIte, Nat.reduceEqDiff, Nat.reduceAdd, Nat.reduceSub, Nat.reduceLeDiff, Nat.reduceLT, Nat.reduceBEq, reduceCtorEq, Int.reduceEq]
                refine seqQ.norm ?_
                refine AW.iff (by rfl) ?_
                refine AW.rseq ?_
                try simp only [↓wk, ↓wl, nc, evV, wrapBits_eq, ↓reduceIte, Nat.reduceEqDiff, Nat.reduceAdd, Nat.reduceSub, Nat.reduceLeDiff, Nat.reduceLT, Nat.reduceBEq, reduceCtorEq, Int.reduceEq]
                refine AW.ifc H (by rfl) ?_ ?_ <;> clear H <;> intro H
                · refine AW.exit ?_
                  refine blk0.out (by rfl) ?_
                  refine blkQ.out (by rfl) ?_
                  refine loopQ.exit H ?_ <;> clear H <;> intro H
                  try dsimp only at H
                  refine blk0.here ?_
                  refine seqQ.norm ?_
                  refine AW.rseq ?_
                  try simp only [↓wk, ↓wl, nc, evV, wrapBits_eq, ↓reduceIte, Nat.reduceEqDiff, Nat.reduceAdd, Nat.reduceSub, Nat.reduceLeDiff, Nat.reduceLT, Nat.reduceBEq, reduceCtorEq, Int.reduceEq]
                  refine rest_shr (by decide) ?_
                  try simp only [↓wk, ↓wl, nc, evV, wrapBits_eq, ↓reduceIte, Nat.reduceEqDiff, Nat.reduceAdd, Nat.reduceSub, Nat.reduceLeDiff, Nat.reduceLT, Nat.reduceBEq, reduceCtorEq, Int.reduceEq]
                  refine rest_and ?_
                  try simp only [↓wk, ↓wl, nc, evV, wrapBits_eq, ↓reduceIte, Nat.reduceEqDiff, Nat.reduceAdd, Nat.reduceSub, Nat.reduceLeDiff, Nat.reduceLT, Nat.reduceBEq, reduceCtorEq, Int.reduceEq]
                  refine rest_xor ?_
                  try simp only [↓wk, ↓wl, nc, evV, wrapBits_eq, ↓reduceIte, Nat.reduceEqDiff, Nat.reduceAdd, Nat.reduceSub, Nat.reduceLeDiff, Nat.reduceLT, Nat.reduceBEq, reduceCtorEq, Int.reduceEq]
                  refine AW.ret ?_
                  cases H
                  exact hqf58_C1 _ _ _ (.inr rfl) (Le.toL 1 (by rfl) [0] [2, 3] (by decide) (by decide) rfl) (by simp only [resVs, omap, resV, f58_C1, List.length_set, Option.map_some, restrict_eq, renS_nil, renS_cons, renB_els, renB_cel, renB_dead, deep_eq, map_ren_enc, ren_agg', ren_tup', ren_fn', ren_int', ren_bool', ren_str', ren_sl', ren_pro', ren_nilp', ren_nilfn', ren_junk', ren_ptr', ren_row', ren_arow', ren_eptr', vm, List.idxOf?_cons, List.idxOf?_nil, beq_self_eq_true, Option.map_none, List.getD_cons_zero, List.getD_cons_succ, ↓wk, ↓wl, nc, evV, wrapBits_eq, ↓reduceIte, Nat.reduceEqDiff, Nat.reduceAdd, Nat.reduceSub, Nat.reduceLeDiff, Nat.reduceLT, Nat.reduceBEq, reduceCtorEq, Int.reduceEq]) (by simp only [f58_C1, List.length_set, Option.map_some, restrict_eq, renS_nil, renS_cons, renB_els, renB_cel, renB_dead, deep_eq, map_ren_enc, ren_agg', ren_tup', ren_fn', ren_int', ren_bool', ren_str', ren_sl', ren_pro', ren_nilp', ren_nilfn', ren_junk', ren_ptr', ren_row', ren_arow', ren_eptr', vm, List.idxOf?_cons, List.idxOf?_nil, beq_self_eq_true, Option.map_none, List.getD_cons_zero, List.getD_cons_succ, ↓wk, ↓wl, nc, evV, wrapBits_eq, ↓reduceIte, Nat.reduceEqDiff, Nat.reduceAdd, Nat.reduceSub, Nat.reduceLeDiff, Nat.reduceLT, Nat.reduceBEq, reduceCtorEq, Int.reduceEq])
                · refine AW.skip ?_
                  refine blk0.norm ?_
                  refine blkQ.norm ?_
                  refine AW.rend ?_
                  try simp only [↓wk, ↓wl, nc, evV, wrapBits_eq, ↓reduceIte, Nat.reduceEqDiff, Nat.reduceAdd, Nat.reduceSub, Nat.reduceLeDiff, Nat.reduceLT, Nat.reduceBEq, reduceCtorEq, Int.reduceEq]
                  exact loopQ.next H ((Le.toL 1 (by rfl) [0] [0, 4, 5] (by decide) (by decide) (by simp only [f58_L2, List.length_set, Option.map_some, restrict_eq, renS_nil, renS_cons, renB_els, renB_cel, renB_dead, deep_eq, map_ren_enc, ren_agg', ren_tup', ren_fn', ren_int', ren_bool', ren_str', ren_sl', ren_pro', ren_nilp', ren_nilfn', ren_junk', ren_ptr', ren_row', ren_arow', ren_eptr', vm, List.idxOf?_cons, List.idxOf?_nil, beq_self_eq_true, Option.map_none, List.getD_cons_zero, List.getD_cons_succ, ↓wk, ↓wl, nc, evV, wrapBits_eq, ↓reduceIte, Nat.reduceEqDiff, Nat.reduceAdd, Nat.reduceSub, Nat.reduceLeDiff, Nat.reduceLT, Nat.reduceBEq, reduceCtorEq, Int.reduceEq])))
          · try simp only [↓wk, ↓wl, nc, evV, wrapBits_eq, ↓reduceIte, Nat.reduceEqDiff, Nat.reduceAdd, Nat.reduceSub, Nat.reduceLeDiff, Nat.reduceLT, Nat.reduceBEq, reduceCtorEq, Int.reduceEq]
            refine AW.iff (by rfl) ?_
            refine AW.rend ?_
            try simp only [↓wk, ↓wl, nc, evV, wrapBits_eq, ↓reduceIte, Nat.reduceEqDiff, Nat.reduceAdd, Nat.reduceSub, Nat.reduceLeDiff, Nat.reduceLT, Nat.reduceBEq, reduceCtorEq, Int.reduceEq]
            refine evTs_ifg H (by rfl) ?_ ?_ <;> clear H <;> intro H
            · try simp only [↓wk, ↓wl, nc, evV, wrapBits_eq, ↓reduceIte, Nat.reduceEqDiff, Nat.reduceAdd, Nat.reduceSub, Nat.reduceLeDiff, Nat.reduceLT, Nat.reduceBEq, reduceCtorEq, Int.reduceEq]
              refine seqQ.norm ?_
              refine AW.ifc H (by rfl) ?_ ?_ <;> clear H <;> intro H
              · refine AW.rseq ?_
                try simp only [↓wk, ↓wl, nc, evV, wrapBits_eq, ↓reduceIte, Nat.reduceEqDiff, Nat.reduceAdd, Nat.reduceSub, Nat.reduceLeDiff, Nat.reduceLT, Nat.reduceBEq, reduceCtorEq, Int.reduceEq]
                refine AW.ret ?_
                refine blk0.ret ?_
                refine blkQ.ret ?_
                refine loopQ.ret H ?_ <;> clear H <;> intro H
                try dsimp only at H
                refine blk0.ret ?_
                refine seqQ.ret ?_
                cases H
                exact hqf58_C1 _ _ _ (.inr rfl) (Le.toL 1 (by rfl) [0] [2, 3] (by decide) (by decide) rfl) (by simp only [resVs, omap, resV, f58_C1, List.length_set, Option.map_some, restrict_eq, renS_nil, renS_cons, renB_els, renB_cel, renB_dead, deep_eq, map_ren_enc, ren_agg', ren_tup', ren_fn', ren_int', ren_bool', ren_str', ren_sl', ren_pro', ren_nilp', ren_nilfn', ren_junk', ren_ptr', ren_row', ren_arow', ren_eptr', vm, List.idxOf?_cons, List.idxOf?_nil, beq_self_eq_true, Option.map_none, List.getD_cons_zero, List.getD_cons_succ, ↓wk, ↓wl, nc, evV, wrapBits_eq, ↓reduceIte, Nat.reduceEqDiff, Nat.reduceAdd, Nat.reduceSub, Nat.reduceLeDiff, Nat.reduceLT, Nat.reduceBEq, reduceCtorEq, Int.reduceEq]) (by simp only [f58_C1, List.length_set, Option.map_some, restrict_eq, renS_nil, renS_cons, renB_els, renB_cel, renB_dead, deep_eq, map_ren_enc, ren_agg', ren_tup', ren_fn', ren_int', ren_bool', ren_str', ren_sl', ren_pro', ren_nilp', ren_nilfn', ren_junk', ren_ptr', ren_row', ren_arow', ren_eptr', vm, List.idxOf?_cons, List.idxOf?_nil, beq_self_eq_true, Option.map_none, List.getD_cons_zero, List.getD_cons_succ, ↓wk, ↓wl, nc, evV, wrapBits_eq, ↓reduceIte, Nat.reduceEqDiff, Nat.reduceAdd, Nat.reduceSub, Nat.reduceLeDiff, Nat.reduceLT, Nat.reduceBEq, reduceCtorEq, Int.reduceEq])
              · refine AW.rseq ?_
                try simp only [↓wk, ↓wl, nc, evV, wrapBits_eq, ↓reduceIte, Nat.reduceEqDiff, Nat.reduceAdd, Nat.reduceSub, Nat.reduceLeDiff, Nat.reduceLT, Nat.reduceBEq, reduceCtorEq, Int.reduceEq]
                refine AW.ifc H (by rfl) ?_ ?_ <;> clear H <;> intro H
                · refine AW.exit ?_
                  refine blk0.out (by rfl) ?_
                  refine blkQ.out (by rfl) ?_
                  refine loopQ.exit H ?_ <;> clear H <;> intro H
                  try dsimp only at H
                  refine blk0.here ?_
                  refine seqQ.norm ?_
                  refine AW.rseq ?_
                  try simp only [↓wk, ↓wl, nc, evV, wrapBits_eq, ↓reduceIte, Nat.reduceEqDiff, Nat.reduceAdd, Nat.reduceSub, Nat.reduceLeDiff, Nat.reduceLT, Nat.reduceBEq, reduceCtorEq, Int.reduceEq]
                  refine rest_shr (by decide) ?_
                  try simp only [↓wk, ↓wl, nc, evV, wrapBits_eq, ↓reduceIte, Nat.reduceEqDiff, Nat.reduceAdd, Nat.reduceSub, Nat.reduceLeDiff, Nat.reduceLT, Nat.reduceBEq, reduceCtorEq, Int.reduceEq]
                  refine rest_and ?_
                  try simp only [↓wk, ↓wl, nc, evV, wrapBits_eq, ↓reduceIte, Nat.reduceEqDiff, Nat.reduceAdd, Nat.reduceSub, Nat.reduceLeDiff, Nat.reduceLT, Nat.reduceBEq, reduceCtorEq, Int.reduceEq]
                  refine rest_xor ?_
                  try simp only [↓wk, ↓wl, nc, evV, wrapBits_eq, ↓reduceIte, Nat.reduceEqDiff, Nat.reduceAdd, Nat.reduceSub, Nat.reduceLeDiff, Nat.reduceLT, Nat.reduceBEq, reduceCtorEq, Int.reduceEq]
                  refine AW.ret ?_
                  cases H
                  exact hqf58_C1 _ _ _ (.inr rfl) (Le.toL 1 (by rfl) [0] [2, 3] (by decide) (by decide) rfl) (by simp only [resVs, omap, resV, f58_C1, List.length_set, Option.map_some, restrict_eq, renS_nil, renS_cons, renB_els, renB_cel, renB_dead, deep_eq, map_ren_enc, ren_agg', ren_tup', ren_fn', ren_int', ren_bool', ren_str', ren_sl', ren_pro', ren_nilp', ren_nilfn', ren_junk', ren_ptr', ren_row', ren_arow', ren_eptr', vm, List.idxOf?_cons, List.idxOf?_nil, beq_self_eq_true, Option.map_none, List.getD_cons_zero, List.getD_cons_succ, ↓wk, ↓wl, nc, evV, wrapBits_eq, ↓reduceIte, Nat.reduceEqDiff, Nat.reduceAdd, Nat.reduceSub, Nat.reduceLeDiff, Nat.reduceLT, Nat.reduceBEq, reduceCtorEq, Int.reduceEq]) (by simp only [f58_C1, List.length_set, Option.map_some, restrict_eq, renS_nil, renS_cons, renB_els, renB_cel, renB_dead, deep_eq, map_ren_enc, ren_agg', ren_tup', ren_fn', ren_int', ren_bool', ren_str', ren_sl', ren_pro', ren_nilp', ren_nilfn', ren_junk', ren_ptr', ren_row', ren_arow', ren_eptr', vm, List.idxOf?_cons, List.idxOf?_nil, beq_self_eq_true, Option.map_none, List.getD_cons_zero, List.getD_cons_succ, ↓wk, ↓wl, nc, evV, wrapBits_eq, ↓reduceIte, Nat.reduceEqDiff, Nat.reduceAdd, Nat.reduceSub, Nat.reduceLeDiff, Nat.reduceLT, Nat.reduceBEq, reduceCtorEq, Int.reduceEq])
                · refine AW.skip ?_
                  refine blk0.norm ?_
                  refine blkQ.norm ?_
                  refine AW.rend ?_
                  try simp only [↓wk, ↓wl, nc, evV, wrapBits_eq, ↓reduceIte, Nat.reduceEqDiff, Nat.reduceAdd, Nat.reduceSub, Nat.reduceLeDiff, Nat.reduceLT, Nat.reduceBEq, reduceCtorEq, Int.reduceEq]
                  exact loopQ.next H ((Le.toL 1 (by rfl) [0] [0, 4, 5] (by decide) (by decide) (by simp only [f58_L2, List.length_set, Option.map_some, restrict_eq, renS_nil, renS_cons, renB_els, renB_cel, renB_dead, deep_eq, map_ren_enc, ren_agg', ren_tup', ren_fn', ren_int', ren_bool', ren_str', ren_sl', ren_pro', ren_nilp', ren_nilfn', ren_junk', ren_ptr', ren_row', ren_arow', ren_eptr', vm, List.idxOf?_cons, List.idxOf?_nil, beq_self_eq_true, Option.map_none, List.getD_cons_zero, List.getD_cons_succ, ↓wk, ↓wl, nc, evV, wrapBits_eq, ↓reduceIte, Nat.reduceEqDiff, Nat.reduceAdd, Nat.reduceSub, Nat.reduceLeDiff, Nat.reduceLT, Nat.reduceBEq, reduceCtorEq, Int.reduceEq])))
            · try simp only [↓wk, ↓wl, nc, evV, wrapBits_eq, ↓reduceIte, Nat.reduceEqDiff, Nat.reduceAdd, Nat.reduceSub, Nat.reduceLeDiff, Nat.reduceLT, Nat.reduceBEq, reduceCtorEq, Int.reduceEq]
              refine seqQ.norm ?_
              refine AW.iff (by rfl) ?_
              refine AW.rseq ?_
              try simp only [↓wk, ↓wl, nc, evV, wrapBits_eq, ↓reduceIte, Nat.reduceEqDiff, Nat.reduceAdd, Nat.reduceSub, Nat.reduceLeDiff, Nat.reduceLT, Nat.reduceBEq, reduceCtorEq, Int.reduceEq]
              refine AW.ifc H (by rfl) ?_ ?_ <;> clear H <;> intro H
              · refine AW.exit ?_
                refine blk0.out (by rfl) ?_
                refine blkQ.out (by rfl) ?_
                refine loopQ.exit H ?_ <;> clear H <;> intro H
                try dsimp only at H
                refine blk0.here ?_
                refine seqQ.norm ?_
                refine AW.rseq ?_
                try simp only [↓wk, ↓wl, nc, evV, wrapBits_eq, ↓reduceIte, Nat.reduceEqDiff, Nat.reduceAdd, Nat.reduceSub, Nat.reduceLeDiff, Nat.reduceLT, Nat.reduceBEq, reduceCtorEq, Int.reduceEq]
                refine rest_shr (by decide) ?_
                try simp only [↓wk, ↓wl, nc, evV, wrapBits_eq, ↓reduceIte, Nat.reduceEqDiff, Nat.reduceAdd, Nat.reduceSub, Nat.reduceLeDiff, Nat.reduceLT, Nat.reduceBEq, reduceCtorEq, Int.reduceEq]
                refine rest_and ?_
                try simp only [↓wk, ↓wl, nc, evV, wrapBits_eq, ↓reduceIte, Nat.reduceEqDiff, Nat.reduceAdd, Nat.reduceSub, Nat.reduceLeDiff, Nat.reduceLT, Nat.reduceBEq, reduceCtorEq, Int.reduceEq]
                refine rest_xor ?_
                try simp only [↓wk, ↓wl, nc, evV, wrapBits_eq, ↓reduceIte, Nat.reduceEqDiff, Nat.reduceAdd, Nat.reduceSub, Nat.reduceLeDiff, Nat.reduceLT, Nat.reduceBEq, reduceCtorEq, Int.reduceEq]
                refine AW.ret ?_
                cases H
                exact hqf58_C1 _ _ _ (.inr rfl) (Le.toL 1 (by rfl) [0] [2, 3] (by decide) (by decide) rfl) (by simp only [resVs, omap, resV, f58_C1, List.length_set, Option.map_some, restrict_eq, renS_nil, renS_cons, renB_els, renB_cel, renB_dead, deep_eq, map_ren_enc, ren_agg', ren_tup', ren_fn', ren_int', ren_bool', ren_str', ren_sl', ren_pro', ren_nilp', ren_nilfn', ren_junk', ren_ptr', ren_row', ren_arow', ren_eptr', vm, List.idxOf?_cons, List.idxOf?_nil, beq_self_eq_true, Option.map_none, List.getD_cons_zero, List.getD_cons_succ, ↓wk, ↓wl, nc, evV, wrapBits_eq, ↓reduceIte, Nat.reduceEqDiff, Nat.reduceAdd, Nat.reduceSub, Nat.reduceLeDiff, Nat.reduceLT, Nat.reduceBEq, reduceCtorEq, Int.reduceEq]) (by simp only [f58_C1, List.length_set, Option.map_some, restrict_eq, renS_nil, renS_cons, renB_els, renB_cel, renB_dead, deep_eq, map_ren_enc, ren_agg', ren_tup', ren_fn', ren_int', ren_bool', ren_str', ren_sl', ren_pro', ren_nilp', ren_nilfn', ren_junk', ren_ptr', ren_row', ren_arow', ren_eptr', vm, List.idxOf?_cons, List.idxOf?_nil, beq_self_eq_true, Option.map_none, List.getD_cons_zero, List.getD_cons_succ, ↓wk, ↓wl, nc, evV, wrapBits_eq, ↓reduceIte, Nat.reduceEqDiff, Nat.reduceAdd, Nat.reduceSub, Nat.reduceLeDiff, Nat.reduceLT, Nat.reduceBEq, reduceCtorEq, Int.reduceEq])
              · refine AW.skip ?_
                refine blk0.norm ?_
                refine blkQ.norm ?_
                refine AW.rend ?_
                try simp only [↓wk, ↓wl, nc, evV, wrapBits_eq, ↓reduceIte, Nat.reduceEqDiff, Nat.reduceAdd, Nat.reduceSub, Nat.reduceLeDiff, Nat.reduceLT, Nat.reduceBEq, reduceCtorEq, Int.reduceEq]
                exact loopQ.next H ((Le.toL 1 (by rfl) [0] [0, 4, 5] (by decide) (by decide) (by simp only [f58_L2, List.length_set, Option.map_some, restrict_eq, renS_nil, renS_cons, renB_els, renB_cel, renB_dead, deep_eq, map_ren_enc, ren_agg', ren_tup', ren_fn', ren_int', ren_bool', ren_str', ren_sl', ren_pro', ren_nilp', ren_nilfn', ren_junk', ren_ptr', ren_row', ren_arow', ren_eptr', vm, List.idxOf?_cons, List.idxOf?_nil, beq_self_eq_true, Option.map_none, List.getD_cons_zero, List.getD_cons_succ, ↓wk, ↓wl, nc, evV, wrapBits_eq, ↓reduceIte, Nat.reduceEqDiff, Nat.reduceAdd, Nat.reduceSub, Nat.reduceLeDiff, Nat.reduceLT, Nat.reduceBEq, reduceCtorEq, Int.reduceEq])))
    · rintro ⟨v_1905, v_1906, v_1907⟩ s_ h_ H hs_ hh_
      simp only [f58_C1] at H hs_ hh_
      subst hs_
      subst hh_
      try simp only [↓wk, ↓wl, nc, evV, wrapBits_eq, ↓reduceIte, Nat.reduceEqDiff, Nat.reduceAdd, Nat.reduceSub, Nat.reduceLeDiff, Nat.reduceLT, Nat.reduceBEq, reduceCtorEq, Int.reduceEq]
      refine AW.sseq ?_
      refine AW.rseq ?_
      try simp only [↓wk, ↓wl, nc, evV, wrapBits_eq, ↓reduceIte, Nat.reduceEqDiff, Nat.reduceAdd, Nat.reduceSub, Nat.reduceLeDiff, Nat.reduceLT, Nat.reduceBEq, reduceCtorEq, Int.reduceEq]
      refine AW.ifc H (by rfl) ?_ ?_ <;> clear H <;> intro H
      · refine AW.rseq ?_
        try simp only [↓wk, ↓wl, nc, evV, wrapBits_eq, ↓reduceIte, Nat.reduceEqDiff, Nat.reduceAdd, Nat.reduceSub, Nat.reduceLeDiff, Nat.reduceLT, Nat.reduceBEq, reduceCtorEq, Int.reduceEq]
        refine AW.ret ?_
        refine seqQ.ret ?_
        cases H
        exact hQ _ _ _ _ (.inr rfl) (by simp only [resVs, omap, resV, ↓wk, ↓wl, nc, evV, wrapBits_eq, ↓reduceIte, Nat.reduceEqDiff, Nat.reduceAdd, Nat.reduceSub, Nat.reduceLeDiff, Nat.reduceLT, Nat.reduceBEq, reduceCtorEq, Int.reduceEq]; rfl) (hand_plain (by rfl)) (by rfl)
      · refine AW.skip ?_
        refine seqQ.norm ?_
        refine AW.rseq ?_
        try simp only [↓wk, ↓wl, nc, evV, wrapBits_eq, ↓reduceIte, Nat.reduceEqDiff, Nat.reduceAdd, Nat.reduceSub, Nat.reduceLeDiff, Nat.reduceLT, Nat.reduceBEq, reduceCtorEq, Int.reduceEq]
        refine AW.ret ?_
        cases H
        exact hQ _ _ _ _ (.inr rfl) (by simp only [resVs, omap, resV, ↓wk, ↓wl, nc, evV, wrapBits_eq, ↓reduceIte, Nat.reduceEqDiff, Nat.reduceAdd, Nat.reduceSub, Nat.reduceLeDiff, Nat.reduceLT, Nat.reduceBEq, reduceCtorEq, Int.reduceEq]; rfl) (hand_plain (by rfl)) (by rfl)
def c85_0 : C := .cond (.t 22) (.seq (.reg [iI 2 (.mv (.c (.str []))), iI 3 (.mv (.c (.int .i64 20)))]) .ret) (.skip)
def c85_1 : C := .cond (.t 15) (.seq (.reg [iI 2 (.mv (.c (.str []))), iI 3 (.mv (.c (.int .i64 3)))]) .ret) (.seq (.reg [iI 23 (.mv (.t 0)), iI 24 (.mv (.t 4)), iI 25 (.call (.c (.fn 82 [])) [(.t 23), (.t 24)]), iI 26 (.un .not (.t 25)), iI 22 (.mv (.t 26))]) c85_0)
def c85_2 : C := .cond (.t 11) (.seq (.reg [iI 14 (.mv (.t 5)), iI 2 (.mv (.c (.str []))), iI 3 (.mv (.t 14))]) .ret) (.seq (.reg [iI 16 (.mv (.t 4)), iI 17 (.bin .lss (.t 16) (.c (.int .i64 0))), iI 18 (.mv (.t 17)), iG (some 19) 18 false (.mv (.t 4)), iG (some 20) 18 false (.bin .gtr (.t 19) (.c (.int .i64 65535))), iI 21 (.pick (.t 18) (.c (.bool true)) (.t 20)), iI 15 (.mv (.t 21))]) c85_1)
def c85_3 : C := .seq (.reg [iI 27 (.mv (.t 0)), iI 28 (.mv (.t 4)), iI 29 (.call (.c (.fn 83 [])) [(.t 27), (.t 28)]), iI 2 (.mv (.t 29)), iI 3 (.mv (.c (.int .i64 0)))]) .ret
def c85_4 : C := .seq (.block 0 (.seq (.reg [iI 12 (.mv (.t 5)), iI 13 (.bin .neq (.t 12) (.c (.int .i64 0))), iI 11 (.mv (.t 13))]) c85_2)) c85_3
def c85_5 : C := .seq (.reg [iI 7 (.mv (.t 0)), iI 8 (.call (.c (.fn 84 [])) [(.t 7)]), iI 6 (.mv (.t 8)), iI 9 (.ext (.t 6) 0), iI 10 (.ext (.t 6) 1), iI 4 (.mv (.t 9)), iI 5 (.mv (.t 10))]) c85_4
def ir85 : C := .seq (.reg [iI 2 (.mv (.c (.str []))), iI 3 (.mv (.c (.int .i64 0)))]) c85_5
theorem fd85 : fd? Try.prog 85 = some (30, [.slot 2, .slot 3], ir85) := by kernel_rfl
noncomputable def f59_C4 (s_1960 : (List UInt8)) (v_2052 : Int) : Il ((List UInt8) × Int) where
  run := (slc? s_1960 (IntKind.i64.wrap ((IntKind.i64.wrap (v_2052 + 1)) - 1)) (IntKind.i64.wrap (v_2052 + 1))).bind fun s_2068 => (some (s_2068, (IntKind.i64.wrap (v_2052 + 1))))
  res := fun (v_2066, v_2067) => .str v_2066
  hp := fun (v_2066, v_2067) => [.cel [.str s_1960, .int .i64 v_2067]]
noncomputable def f59_L3 (s_1960 : (List UInt8)) : Lp (Int × Int × Int) ((Int × Int) ⊕ (Int × Int)) where
  body := fun (z_2050, shift_2051, v_2052) => (f82p s_1960 v_2052 1).bind fun r_2064 => (if (!r_2064) = true then (some (.brk (Sum.inr (v_2052, 20)))) else ((f59_C4 s_1960 v_2052).run.bind fun (v_2066, v_2067) => (at? v_2066 0).bind fun b_2069 => (must? (0 ≤ shift_2051)).bind fun _ => (if (decide (shift_2051 = 63)) = true then (if (decide (1 < (b_2069.toNat : Int))) = true then (if (decide (1 < (b_2069.toNat : Int))) = true then (some (.brk (Sum.inr (v_2067, 3)))) else (if (decide ((b_2069.toNat : Int) < 128)) = true then (some (.brk (Sum.inl ((IntKind.u64.wrap ((BitVec.ofInt (IntKind.bits .u64) z_2050 ||| BitVec.ofInt (IntKind.bits .u64) (IntKind.u64.wrap ((IntKind.u64.wrap (IntKind.u8.wrap ((BitVec.ofInt (IntKind.bits .u8) (b_2069.toNat : Int) &&& BitVec.ofInt (IntKind.bits .u8) 127).toNat : Int))) * 2 ^ (min (Int.toNat shift_2051) (IntKind.bits .u64))))).toNat : Int)), v_2067)))) else (some (.next ((IntKind.u64.wrap ((BitVec.ofInt (IntKind.bits .u64) z_2050 ||| BitVec.ofInt (IntKind.bits .u64) (IntKind.u64.wrap ((IntKind.u64.wrap (IntKind.u8.wrap ((BitVec.ofInt (IntKind.bits .u8) (b_2069.toNat : Int) &&& BitVec.ofInt (IntKind.bits .u8) 127).toNat : Int))) * 2 ^ (min (Int.toNat shift_2051) (IntKind.bits .u64))))).toNat : Int)), (IntKind.i64.wrap (shift_2051 + 7)), v_2067))))) else (if (decide ((b_2069.toNat : Int) = 0)) = true then (if (decide (0 < shift_2051)) = true then (some (.brk (Sum.inr (v_2067, 3)))) else (if (decide ((b_2069.toNat : Int) < 128)) = true then (some (.brk (Sum.inl ((IntKind.u64.wrap ((BitVec.ofInt (IntKind.bits .u64) z_2050 ||| BitVec.ofInt (IntKind.bits .u64) (IntKind.u64.wrap ((IntKind.u64.wrap (IntKind.u8.wrap ((BitVec.ofInt (IntKind.bits .u8) (b_2069.toNat : Int) &&& BitVec.ofInt (IntKind.bits .u8) 127).toNat : Int))) * 2 ^ (min (Int.toNat shift_2051) (IntKind.bits .u64))))).toNat : Int)), v_2067)))) else (some (.next ((IntKind.u64.wrap ((BitVec.ofInt (IntKind.bits .u64) z_2050 ||| BitVec.ofInt (IntKind.bits .u64) (IntKind.u64.wrap ((IntKind.u64.wrap (IntKind.u8.wrap ((BitVec.ofInt (IntKind.bits .u8) (b_2069.toNat : Int) &&& BitVec.ofInt (IntKind.bits .u8) 127).toNat : Int))) * 2 ^ (min (Int.toNat shift_2051) (IntKind.bits .u64))))).toNat : Int)), (IntKind.i64.wrap (shift_2051 + 7)), v_2067))))) else (if (decide ((b_2069.toNat : Int) < 128)) = true then (some (.brk (Sum.inl ((IntKind.u64.wrap ((BitVec.ofInt (IntKind.bits .u64) z_2050 ||| BitVec.ofInt (IntKind.bits .u64) (IntKind.u64.wrap ((IntKind.u64.wrap (IntKind.u8.wrap ((BitVec.ofInt (IntKind.bits .u8) (b_2069.toNat : Int) &&& BitVec.ofInt (IntKind.bits .u8) 127).toNat : Int))) * 2 ^ (min (Int.toNat shift_2051) (IntKind.bits .u64))))).toNat : Int)), v_2067)))) else (some (.next ((IntKind.u64.wrap ((BitVec.ofInt (IntKind.bits .u64) z_2050 ||| BitVec.ofInt (IntKind.bits .u64) (IntKind.u64.wrap ((IntKind.u64.wrap (IntKind.u8.wrap ((BitVec.ofInt (IntKind.bits .u8) (b_2069.toNat : Int) &&& BitVec.ofInt (IntKind.bits .u8) 127).toNat : Int))) * 2 ^ (min (Int.toNat shift_2051) (IntKind.bits .u64))))).toNat : Int)), (IntKind.i64.wrap (shift_2051 + 7)), v_2067)))))) else (if (decide ((b_2069.toNat : Int) = 0)) = true then (if (decide (0 < shift_2051)) = true then (some (.brk (Sum.inr (v_2067, 3)))) else (if (decide ((b_2069.toNat : Int) < 128)) = true then (some (.brk (Sum.inl ((IntKind.u64.wrap ((BitVec.ofInt (IntKind.bits .u64) z_2050 ||| BitVec.ofInt (IntKind.bits .u64) (IntKind.u64.wrap ((IntKind.u64.wrap (IntKind.u8.wrap ((BitVec.ofInt (IntKind.bits .u8) (b_2069.toNat : Int) &&& BitVec.ofInt (IntKind.bits .u8) 127).toNat : Int))) * 2 ^ (min (Int.toNat shift_2051) (IntKind.bits .u64))))).toNat : Int)), v_2067)))) else (some (.next ((IntKind.u64.wrap ((BitVec.ofInt (IntKind.bits .u64) z_2050 ||| BitVec.ofInt (IntKind.bits .u64) (IntKind.u64.wrap ((IntKind.u64.wrap (IntKind.u8.wrap ((BitVec.ofInt (IntKind.bits .u8) (b_2069.toNat : Int) &&& BitVec.ofInt (IntKind.bits .u8) 127).toNat : Int))) * 2 ^ (min (Int.toNat shift_2051) (IntKind.bits .u64))))).toNat : Int)), (IntKind.i64.wrap (shift_2051 + 7)), v_2067))))) else (if (decide ((b_2069.toNat : Int) < 128)) = true then (some (.brk (Sum.inl ((IntKind.u64.wrap ((BitVec.ofInt (IntKind.bits .u64) z_2050 ||| BitVec.ofInt (IntKind.bits .u64) (IntKind.u64.wrap ((IntKind.u64.wrap (IntKind.u8.wrap ((BitVec.ofInt (IntKind.bits .u8) (b_2069.toNat : Int) &&& BitVec.ofInt (IntKind.bits .u8) 127).toNat : Int))) * 2 ^ (min (Int.toNat shift_2051) (IntKind.bits .u64))))).toNat : Int)), v_2067)))) else (some (.next ((IntKind.u64.wrap ((BitVec.ofInt (IntKind.bits .u64) z_2050 ||| BitVec.ofInt (IntKind.bits .u64) (IntKind.u64.wrap ((IntKind.u64.wrap (IntKind.u8.wrap ((BitVec.ofInt (IntKind.bits .u8) (b_2069.toNat : Int) &&& BitVec.ofInt (IntKind.bits .u8) 127).toNat : Int))) * 2 ^ (min (Int.toNat shift_2051) (IntKind.bits .u64))))).toNat : Int)), (IntKind.i64.wrap (shift_2051 + 7)), v_2067))))))))
  cst := fun (z_2050, shift_2051, v_2052) => ⟨put (put (put (fun _ => .junk) 5 (.int .i64 shift_2051)) 4 (.int .u64 z_2050)) 0 (.ptr 0 0), [.cel [.str s_1960, .int .i64 v_2052]]⟩
noncomputable def f59_C2 (s_1960 : (List UInt8)) (at_1961 : Int) : Il (Int × Int × Int) where
  run := ((Lp.run (f59_L3 s_1960) (0, 0, at_1961)).bind fun r_ => match r_ with | (Sum.inl (z_2059, v_2060)) => (some ((IntKind.i64.wrap ((BitVec.ofInt (IntKind.bits .i64) (IntKind.i64.wrap (Int.fdiv z_2059 (2 ^ (min (Int.toNat 1) (IntKind.bits .u64))))) ^^^ BitVec.ofInt (IntKind.bits .i64) (IntKind.i64.wrap (0 - (IntKind.i64.wrap (IntKind.u64.wrap ((BitVec.ofInt (IntKind.bits .u64) z_2059 &&& BitVec.ofInt (IntKind.bits .u64) 1).toNat : Int)))))).toNat : Int)), 0, v_2060)) | (Sum.inr (v_2061, v_2062)) => (some (0, v_2062, v_2061)))
  res := fun (v_2032, v_2033, v_2034) => .tup [.int .i64 v_2032, .int .i64 v_2033]
  hp := fun (v_2032, v_2033, v_2034) => [.cel [.str s_1960, .int .i64 v_2034]]
noncomputable def f59_C5 (s_1960 : (List UInt8)) (v_2034 : Int) (v_2032 : Int) : Il ((List UInt8) × Int) where
  run := (slc? s_1960 (IntKind.i64.wrap ((IntKind.i64.wrap (v_2034 + v_2032)) - v_2032)) (IntKind.i64.wrap (v_2034 + v_2032))).bind fun s_2074 => (some (s_2074, (IntKind.i64.wrap (v_2034 + v_2032))))
  res := fun (v_2072, v_2073) => .str v_2072
  hp := fun (v_2072, v_2073) => [.cel [.str s_1960, .int .i64 v_2073]]
noncomputable def f59_C1 (s_1960 : (List UInt8)) (at_1961 : Int) : Il ((List UInt8) × Int × Int) where
  run := ((f59_C2 s_1960 at_1961).run.bind fun (v_2032, v_2033, v_2034) => (if (decide (v_2033 ≠ 0)) = true then (some ([], v_2033, v_2034)) else (if (decide (v_2032 < 0)) = true then (some ([], 3, v_2034)) else (if (decide (65535 < v_2032)) = true then (some ([], 3, v_2034)) else (f82p s_1960 v_2034 v_2032).bind fun r_2070 => (if (!r_2070) = true then (some ([], 20, v_2034)) else ((f59_C5 s_1960 v_2034 v_2032).run.bind fun (v_2072, v_2073) => (some (v_2072, 0, v_2073))))))))
  res := fun (v_2001, v_2002, v_2003) => .tup [.str v_2001, .int .i64 v_2002]
  hp := fun (v_2001, v_2002, v_2003) => [.cel [.str s_1960, .int .i64 v_2003]]
def c59_0 : C := .cond (.t 18) (.seq (.reg [iI 19 (.mv (.t 8)), iI 4 (.mv (.c (.str []))), iI 5 (.mv (.c (.int .i64 0))), iI 6 (.mv (.t 19))]) .ret) (.skip)
def c59_1 : C := .seq (.reg [iI 17 (.mv (.t 8)), iI 18 (.bin .neq (.t 17) (.c (.int .i64 0)))]) c59_0
def c59_2 : C := .cond (.t 26) (.seq (.reg [iI 27 (.mv (.t 10)), iI 4 (.mv (.c (.str []))), iI 5 (.mv (.c (.int .i64 0))), iI 6 (.mv (.t 27))]) .ret) (.skip)
def c59_3 : C := .seq (.reg [iI 28 (.mv (.t 9)), iI 29 (.mv (.t 7)), iI 30 (.nilchk (.t 29)), iI 31 (.faddr 1 (.t 30)), iI 32 (.load 0 (.t 31)), iI 4 (.mv (.t 28)), iI 5 (.mv (.t 32)), iI 6 (.mv (.c (.int .i64 0)))]) .ret
def c59_4 : C := .seq (.seq (.reg [iI 25 (.mv (.t 10)), iI 26 (.bin .neq (.t 25) (.c (.int .i64 0)))]) c59_2) c59_3
def c59_5 : C := .seq (.reg [iI 21 (.mv (.t 7)), iI 22 (.call (.c (.fn 85 [])) [(.t 21)]), iI 20 (.mv (.t 22)), iI 23 (.ext (.t 20) 0), iI 24 (.ext (.t 20) 1), iI 9 (.mv (.t 23)), iI 10 (.mv (.t 24))]) c59_4
def c59_6 : C := .seq (.seq (.reg [iI 15 (.mv (.t 7)), iI 16 (.call (.c (.fn 81 [])) [(.t 15)]), iI 8 (.mv (.t 16))]) c59_1) c59_5
def c59_7 : C := .seq (.reg [iI 11 (.mv (.t 0)), iI 12 (.mv (.t 1)), iI 13 (.build [(1, (.str [])), (1, (.int .i64 0))] [(0, 0, (.t 11)), (1, 0, (.t 12))]), iI 14 (.box (.t 13)), iI 7 (.mv (.t 14))]) c59_6
def ir59 : C := .seq (.reg [iI 4 (.mv (.c (.str []))), iI 5 (.mv (.c (.int .i64 0))), iI 6 (.mv (.c (.int .i64 0)))]) c59_7
theorem fd59 : fd? Try.prog 59 = some (33, [.slot 4, .slot 5, .slot 6], ir59) := by kernel_rfl
noncomputable def f59 (s_1960 : (List UInt8)) (at_1961 : Int) : Option ((List UInt8) × Int × Int) :=
  (f81p s_1960 at_1961).bind fun r_1963 => (if (decide (r_1963 ≠ 0)) = true then (some ([], 0, r_1963)) else ((f59_C1 s_1960 at_1961).run.bind fun (v_2001, v_2002, v_2003) => (if (decide (v_2002 ≠ 0)) = true then (some ([], 0, v_2002)) else (some (v_2001, v_2003, 0)))))
theorem f59_ok {s_1960 : (List UInt8)} {at_1961 : Int} {r_ : (List UInt8) × Int × Int} (H : f59 s_1960 at_1961 = some r_) : Pure Try.prog 59 [.str s_1960, .int .i64 at_1961] (· = .tup [.str r_.1, .int .i64 r_.2.1, .int .i64 r_.2.2]) := by
  refine Pure.walk2 fd59 none (Nat.le_of_ble_eq_true rfl) (by rfl) fun Q hQ => ?_
  simp only [f59] at H
  refine AW.rseq ?_
  try simp only [↓wk, ↓wl, nc, evV, wrapBits_eq, ↓reduceIte, Nat.reduceEqDiff, Nat.reduceAdd, Nat.reduceSub, Nat.reduceLeDiff, Nat.reduceLT, Nat.reduceBEq, reduceCtorEq, Int.reduceEq]
  refine AW.rseq ?_
  try simp only [↓wk, ↓wl, nc, evV, wrapBits_eq, ↓reduceIte, Nat.reduceEqDiff, Nat.reduceAdd, Nat.reduceSub, Nat.reduceLeDiff, Nat.reduceLT, Nat.reduceBEq, reduceCtorEq, Int.reduceEq]
  refine AW.sseq ?_
  refine AW.rseq ?_
  try simp only [↓wk, ↓wl, nc, evV, wrapBits_eq, ↓reduceIte, Nat.reduceEqDiff, Nat.reduceAdd, Nat.reduceSub, Nat.reduceLeDiff, Nat.reduceLT, Nat.reduceBEq, reduceCtorEq, Int.reduceEq]
  refine evTs_flat hFn H (fun _ h => f81p_ok h) (by rfl) (by rfl) (by simp only [deep_eq, imm_simps, imm_rowE, imm_ptrE, imm_enc, omap_simps, take_map_len, take_map_set, take_map_set2, le_refl_true, Nat.zero_add, and_true, true_and, List.drop_zero, Option.map_some, ↓wk, ↓wl, nc, evV, wrapBits_eq, ↓reduceIte, Nat.reduceEqDiff, Nat.reduceAdd, Nat.reduceSub, Nat.reduceLeDiff, Nat.reduceLT, Nat.reduceBEq, reduceCtorEq, Int.reduceEq]; rfl) (by rfl) (fun _ => rfl) (fun _ => rfl) ?_ <;> clear H <;> intro r_1963 H
  try simp only [eL, ↓wk, ↓wl, nc, evV, wrapBits_eq, ↓reduceIte, Nat.reduceEqDiff, Nat.reduceAdd, Nat.reduceSub, Nat.reduceLeDiff, Nat.reduceLT, Nat.reduceBEq, reduceCtorEq, Int.reduceEq]
  refine AW.rseq ?_
  try simp only [↓wk, ↓wl, nc, evV, wrapBits_eq, ↓reduceIte, Nat.reduceEqDiff, Nat.reduceAdd, Nat.reduceSub, Nat.reduceLeDiff, Nat.reduceLT, Nat.reduceBEq, reduceCtorEq, Int.reduceEq]
  refine AW.ifc H (by rfl) ?_ ?_ <;> clear H <;> intro H
  · refine AW.rseq ?_
    try simp only [↓wk, ↓wl, nc, evV, wrapBits_eq, ↓reduceIte, Nat.reduceEqDiff, Nat.reduceAdd, Nat.reduceSub, Nat.reduceLeDiff, Nat.reduceLT, Nat.reduceBEq, reduceCtorEq, Int.reduceEq]
    refine AW.ret ?_
    refine seqQ.ret ?_
    cases H
    exact hQ _ _ _ _ (.inr rfl) (by simp only [resVs, omap, resV, ↓wk, ↓wl, nc, evV, wrapBits_eq, ↓reduceIte, Nat.reduceEqDiff, Nat.reduceAdd, Nat.reduceSub, Nat.reduceLeDiff, Nat.reduceLT, Nat.reduceBEq, reduceCtorEq, Int.reduceEq]; rfl) (hand_plain (by rfl)) (by rfl)
  · refine AW.skip ?_
    refine seqQ.norm ?_
    refine AW.rseq ?_
    try simp only [↓wk, ↓wl, nc, evV, wrapBits_eq, ↓reduceIte, Nat.reduceEqDiff, Nat.reduceAdd, Nat.reduceSub, Nat.reduceLeDiff, Nat.reduceLT, Nat.reduceBEq, reduceCtorEq, Int.reduceEq]
    refine evTs_inl (I := f59_C1 s_1960 at_1961) (args := [.ptr 0 0]) H (by rfl) fd85 (by rfl) (Nat.le_of_ble_eq_true rfl) ?_ ?_ <;> clear H
    · rintro v_ Q_ H hqf59_C1
      simp only [f59_C1] at H
      dsimp only [List.length_cons, List.length_nil]
      refine AW.rseq ?_
      try simp only [↓wk, ↓wl, nc, evV, wrapBits_eq, ↓reduceIte, Nat.reduceEqDiff, Nat.reduceAdd, Nat.reduceSub, Nat.reduceLeDiff, Nat.reduceLT, Nat.reduceBEq, reduceCtorEq, Int.reduceEq]
      refine AW.rseq ?_
      try simp only [↓wk, ↓wl, nc, evV, wrapBits_eq, ↓reduceIte, Nat.reduceEqDiff, Nat.reduceAdd, Nat.reduceSub, Nat.reduceLeDiff, Nat.reduceLT, Nat.reduceBEq, reduceCtorEq, Int.reduceEq]
      refine evTs_inl (I := f59_C2 s_1960 at_1961) (args := [.ptr 0 0]) H (by rfl) fd84 (by rfl) (Nat.le_of_ble_eq_true rfl) ?_ ?_ <;> clear H
      · rintro v_ Q_ H hqf59_C2
        simp only [f59_C2] at H
        dsimp only [List.length_cons, List.length_nil]
        refine AW.rseq ?_
        try simp only [↓wk, ↓wl, nc, evV, wrapBits_eq, ↓reduceIte, Nat.reduceEqDiff, Nat.reduceAdd, Nat.reduceSub, Nat.reduceLeDiff, Nat.reduceLT, Nat.reduceBEq, reduceCtorEq, Int.reduceEq]
        refine AW.scope ?_
        refine AW.rseq ?_
        try simp only [↓wk, ↓wl, nc, evV, wrapBits_eq, ↓reduceIte, Nat.reduceEqDiff, Nat.reduceAdd, Nat.reduceSub, Nat.reduceLeDiff, Nat.reduceLT, Nat.reduceBEq, reduceCtorEq, Int.reduceEq]
        refine AW.skseq ?_
        refine AW.sseq ?_
        refine AW.rseq ?_
        try simp only [↓wk, ↓wl, nc, evV, wrapBits_eq, ↓reduceIte, Nat.reduceEqDiff, Nat.reduceAdd, Nat.reduceSub, Nat.reduceLeDiff, Nat.reduceLT, Nat.reduceBEq, reduceCtorEq, Int.reduceEq]
        refine AW.bend ?_
        refine AW.iter H ((Le.toL 1 (by rfl) [0] [0, 4, 5] (by decide) (by decide) (by simp only [f59_L3, List.length_set, Option.map_some, restrict_eq, renS_nil, renS_cons, renB_els, renB_cel, renB_dead, deep_eq, map_ren_enc, ren_agg', ren_tup', ren_fn', ren_int', ren_bool', ren_str', ren_sl', ren_pro', ren_nilp', ren_nilfn', ren_junk', ren_ptr', ren_row', ren_arow', ren_eptr', vm, List.idxOf?_cons, List.idxOf?_nil, beq_self_eq_true, Option.map_none, List.getD_cons_zero, List.getD_cons_succ, ↓wk, ↓wl, nc, evV, wrapBits_eq, ↓reduceIte, Nat.reduceEqDiff, Nat.reduceAdd, Nat.reduceSub, Nat.reduceLeDiff, Nat.reduceLT, Nat.reduceBEq, reduceCtorEq, Int.reduceEq]))) ?_ <;> clear H
        rintro ⟨z_2050, shift_2051, v_2052⟩ x_ st0_ H hst_
        simp only [f59_L3] at H hst_
        subst hst_
        refine AW.bseq ?_
        refine AW.sseq ?_
        refine AW.rseq ?_
        try simp only [↓wk, ↓wl, nc, evV, wrapBits_eq, ↓reduceIte, Nat.reduceEqDiff, Nat.reduceAdd, Nat.reduceSub, Nat.reduceLeDiff, Nat.reduceLT, Nat.reduceBEq, reduceCtorEq, Int.reduceEq]
        refine evTs_flat hFn H (fun _ h => f82p_ok h) (by rfl) (by rfl) (by simp only [deep_eq, imm_simps, imm_rowE, imm_ptrE, imm_enc, omap_simps, take_map_len, take_map_set, take_map_set2, le_refl_true, Nat.zero_add, and_true, true_and, List.drop_zero, Option.map_some, ↓wk, ↓wl, nc, evV, wrapBits_eq, ↓reduceIte, Nat.reduceEqDiff, Nat.reduceAdd, Nat.reduceSub, Nat.reduceLeDiff, Nat.reduceLT, Nat.reduceBEq, reduceCtorEq, Int.reduceEq]; rfl) (by rfl) (fun _ => rfl) (fun _ => rfl) ?_ <;> clear H <;> intro r_2064 H
        try simp only [eL, ↓wk, ↓wl, nc, evV, wrapBits_eq, ↓reduceIte, Nat.reduceEqDiff, Nat.reduceAdd, Nat.reduceSub, Nat.reduceLeDiff, Nat.reduceLT, Nat.reduceBEq, reduceCtorEq, Int.reduceEq]
        refine AW.ifc H (by rfl) ?_ ?_ <;> clear H <;> intro H
        · refine AW.rseq ?_
          try simp only [↓wk, ↓wl, nc, evV, wrapBits_eq, ↓reduceIte, Nat.reduceEqDiff, Nat.reduceAdd, Nat.reduceSub, Nat.reduceLeDiff, Nat.reduceLT, Nat.reduceBEq, reduceCtorEq, Int.reduceEq]
          refine AW.ret ?_
          refine seqQ.ret ?_
          refine blkQ.ret ?_
          refine loopQ.ret H ?_ <;> clear H <;> intro H
          try dsimp only at H
          refine blk0.ret ?_
          refine seqQ.ret ?_
          cases H
          exact hqf59_C2 _ _ _ (.inr rfl) (Le.toL 1 (by rfl) [0] [2, 3] (by decide) (by decide) rfl) (by simp only [resVs, omap, resV, f59_C2, List.length_set, Option.map_some, restrict_eq, renS_nil, renS_cons, renB_els, renB_cel, renB_dead, deep_eq, map_ren_enc, ren_agg', ren_tup', ren_fn', ren_int', ren_bool', ren_str', ren_sl', ren_pro', ren_nilp', ren_nilfn', ren_junk', ren_ptr', ren_row', ren_arow', ren_eptr', vm, List.idxOf?_cons, List.idxOf?_nil, beq_self_eq_true, Option.map_none, List.getD_cons_zero, List.getD_cons_succ, ↓wk, ↓wl, nc, evV, wrapBits_eq, ↓reduceIte, Nat.reduceEqDiff, Nat.reduceAdd, Nat.reduceSub, Nat.reduceLeDiff, Nat.reduceLT, Nat.reduceBEq, reduceCtorEq, Int.reduceEq]) (by simp only [f59_C2, List.length_set, Option.map_some, restrict_eq, renS_nil, renS_cons, renB_els, renB_cel, renB_dead, deep_eq, map_ren_enc, ren_agg', ren_tup', ren_fn', ren_int', ren_bool', ren_str', ren_sl', ren_pro', ren_nilp', ren_nilfn', ren_junk', ren_ptr', ren_row', ren_arow', ren_eptr', vm, List.idxOf?_cons, List.idxOf?_nil, beq_self_eq_true, Option.map_none, List.getD_cons_zero, List.getD_cons_succ, ↓wk, ↓wl, nc, evV, wrapBits_eq, ↓reduceIte, Nat.reduceEqDiff, Nat.reduceAdd, Nat.reduceSub, Nat.reduceLeDiff, Nat.reduceLT, Nat.reduceBEq, reduceCtorEq, Int.reduceEq])
        · refine AW.skip ?_
          refine seqQ.norm ?_
          refine AW.rseq ?_
          try simp only [↓wk, ↓wl, nc, evV, wrapBits_eq, ↓reduceIte, Nat.reduceEqDiff, Nat.reduceAdd, Nat.reduceSub, Nat.reduceLeDiff, Nat.reduceLT, Nat.reduceBEq, reduceCtorEq, Int.reduceEq]
          refine evTs_inl (I := f59_C4 s_1960 v_2052) (args := [.ptr 0 0, .int .i64 1]) H (by rfl) fd83 (by rfl) (Nat.le_of_ble_eq_true rfl) ?_ ?_ <;> clear H
          · rintro v_ Q_ H hqf59_C4
            simp only [f59_C4] at H
            dsimp only [List.length_cons, List.length_nil]
            refine AW.rseq ?_
            try simp only [↓wk, ↓wl, nc, evV, wrapBits_eq, ↓reduceIte, Nat.reduceEqDiff, Nat.reduceAdd, Nat.reduceSub, Nat.reduceLeDiff, Nat.reduceLT, Nat.reduceBEq, reduceCtorEq, Int.reduceEq]
            refine AW.rseq ?_
            try simp only [↓wk, ↓wl, nc, evV, wrapBits_eq, ↓reduceIte, Nat.reduceEqDiff, Nat.reduceAdd, Nat.reduceSub, Nat.reduceLeDiff, Nat.reduceLT, Nat.reduceBEq, reduceCtorEq, Int.reduceEq]
            refine AW.rseq ?_
            try simp only [↓wk, ↓wl, nc, evV, wrapBits_eq, ↓reduceIte, Nat.reduceEqDiff, Nat.reduceAdd, Nat.reduceSub, Nat.reduceLeDiff, Nat.reduceLT, Nat.reduceBEq, reduceCtorEq, Int.reduceEq]
            refine evTs_sslc H (by rfl) (by simp only [loI, hiI, ↓wk, ↓wl, nc, evV, wrapBits_eq, ↓reduceIte, Nat.reduceEqDiff, Nat.reduceAdd, Nat.reduceSub, Nat.reduceLeDiff, Nat.reduceLT, Nat.reduceBEq, reduceCtorEq, Int.reduceEq]; rfl) (by simp only [loI, hiI, ↓wk, ↓wl, nc, evV, wrapBits_eq, ↓reduceIte, Nat.reduceEqDiff, Nat.reduceAdd, Nat.reduceSub, Nat.reduceLeDiff, Nat.reduceLT, Nat.reduceBEq, reduceCtorEq, Int.reduceEq]; rfl) ?_ <;> clear H <;> intro s_2068 H
            try simp only [↓wk, ↓wl, nc, evV, wrapBits_eq, ↓reduceIte, Nat.reduceEqDiff, Nat.reduceAdd, Nat.reduceSub, Nat.reduceLeDiff, Nat.reduceLT, Nat.reduceBEq, reduceCtorEq, Int.reduceEq]
            refine AW.ret ?_
            cases H
            exact hqf59_C4 _ _ _ (.inr rfl) (Le.toL 1 (by rfl) [0] [4] (by decide) (by decide) rfl) (by simp only [resVs, omap, resV, f59_C4, List.length_set, Option.map_some, restrict_eq, renS_nil, renS_cons, renB_els, renB_cel, renB_dead, deep_eq, map_ren_enc, ren_agg', ren_tup', ren_fn', ren_int', ren_bool', ren_str', ren_sl', ren_pro', ren_nilp', ren_nilfn', ren_junk', ren_ptr', ren_row', ren_arow', ren_eptr', vm, List.idxOf?_cons, List.idxOf?_nil, beq_self_eq_true, Option.map_none, List.getD_cons_zero, List.getD_cons_succ, ↓wk, ↓wl, nc, evV, wrapBits_eq, ↓reduceIte, Nat.reduceEqDiff, Nat.reduceAdd, Nat.reduceSub, Nat.reduceLeDiff, Nat.reduceLT, Nat.reduceBEq, reduceCtorEq, Int.reduceEq]) (by simp only [f59_C4, List.length_set, Option.map_some, restrict_eq, renS_nil, renS_cons, renB_els, renB_cel, renB_dead, deep_eq, map_ren_enc, ren_agg', ren_tup', ren_fn', ren_int', ren_bool', ren_str', ren_sl', ren_pro', ren_nilp', ren_nilfn', ren_junk', ren_ptr', ren_row', ren_arow', ren_eptr', vm, List.idxOf?_cons, List.idxOf?_nil, beq_self_eq_true, Option.map_none, List.getD_cons_zero, List.getD_cons_succ, ↓wk, ↓wl, nc, evV, wrapBits_eq, ↓reduceIte, Nat.reduceEqDiff, Nat.reduceAdd, Nat.reduceSub, Nat.reduceLeDiff, Nat.reduceLT, Nat.reduceBEq, reduceCtorEq, Int.reduceEq])
          · rintro ⟨v_2066, v_2067⟩ s_ h_ H hs_ hh_
            simp only [f59_C4] at H hs_ hh_
            subst hs_
            subst hh_
            try simp only [↓wk, ↓wl, nc, evV, wrapBits_eq, ↓reduceIte, Nat.reduceEqDiff, Nat.reduceAdd, Nat.reduceSub, Nat.reduceLeDiff, Nat.reduceLT, Nat.reduceBEq, reduceCtorEq, Int.reduceEq]
            refine evTs_sat H (by rfl) (by rfl) ?_ <;> clear H <;> intro b_2069 H
            try simp only [↓wk, ↓wl, nc, evV, wrapBits_eq, ↓reduceIte, Nat.reduceEqDiff, Nat.reduceAdd, Nat.reduceSub, Nat.reduceLeDiff, Nat.reduceLT, Nat.reduceBEq, reduceCtorEq, Int.reduceEq]
            refine AW.rseq ?_
            try simp only [↓wk, ↓wl, nc, evV, wrapBits_eq, ↓reduceIte, Nat.reduceEqDiff, Nat.reduceAdd, Nat.reduceSub, Nat.reduceLeDiff, Nat.reduceLT, Nat.reduceBEq, reduceCtorEq, Int.reduceEq]
            refine rest_and ?_
            try simp only [↓wk, ↓wl, nc, evV, wrapBits_eq, ↓reduceIte, Nat.reduceEqDiff, Nat.reduceAdd, Nat.reduceSub, Nat.reduceLeDiff, Nat.reduceLT, Nat.reduceBEq, reduceCtorEq, Int.reduceEq]
            refine rest_shlv H ?_ <;> clear H <;> intro H
            try simp only [↓wk, ↓wl, nc, evV, wrapBits_eq, ↓reduceIte, Nat.reduceEqDiff, Nat.reduceAdd, Nat.reduceSub, Nat.reduceLeDiff, Nat.reduceLT, Nat.reduceBEq, reduceCtorEq, Int.reduceEq]
            refine rest_or ?_
            try simp only [↓wk, ↓wl, nc, evV, wrapBits_eq, ↓reduceIte, Nat.reduceEqDiff, Nat.reduceAdd, Nat.reduceSub, Nat.reduceLeDiff, Nat.reduceLT, Nat.reduceBEq, reduceCtorEq, Int.reduceEq]
            refine AW.bend ?_
            refine AW.sseq ?_
            refine AW.rseq ?_
            try simp only [↓wk, ↓wl, nc, evV, wrapBits_eq, ↓reduceIte, Nat.reduceEqDiff, Nat.reduceAdd, Nat.reduceSub, Nat.reduceLeDiff, Nat.reduceLT, Nat.reduceBEq, reduceCtorEq, Int.reduceEq]
            refine evTs_ifg H (by rfl) ?_ ?_ <;> clear H <;> intro H
            · try simp only [↓wk, ↓wl, nc, evV, wrapBits_eq, ↓reduceIte, Nat.reduceEqDiff, Nat.reduceAdd, Nat.reduceSub, Nat.reduceLeDiff, Nat.reduceLT, Nat.reduceBEq, reduceCtorEq, Int.reduceEq]
              refine AW.ifc H (by rfl) ?_ ?_ <;> clear H <;> intro H
              · refine AW.skip ?_
                refine seqQ.norm ?_
                refine AW.ifc H (by rfl) ?_ ?_ <;> clear H <;> intro H
                · refine AW.rseq ?_
                  try simp only [↓wk, ↓wl, nc, evV, wrapBits_eq, ↓reduceIte, Nat.reduceEqDiff, Nat.reduceAdd, Nat.reduceSub, Nat.reduceLeDiff, Nat.reduceLT, Nat.reduceBEq, reduceCtorEq, Int.reduceEq]
                  refine AW.ret ?_
                  refine blk0.ret ?_
                  refine blkQ.ret ?_
                  refine loopQ.ret H ?_ <;> clear H <;> intro H
                  try dsimp only at H
                  refine blk0.ret ?_
                  refine seqQ.ret ?_
                  cases H
                  exact hqf59_C2 _ _ _ (.inr rfl) (Le.toL 1 (by rfl) [0] [2, 3] (by decide) (by decide) rfl) (by simp only [resVs, omap, resV, f59_C2, List.length_set, Option.map_some, restrict_eq, renS_nil, renS_cons, renB_els, renB_cel, renB_dead, deep_eq, map_ren_enc, ren_agg', ren_tup', ren_fn', ren_int', ren_bool', ren_str', ren_sl', ren_pro', ren_nilp', ren_nilfn', ren_junk', ren_ptr', ren_row', ren_arow', ren_eptr', vm, List.idxOf?_cons, List.idxOf?_nil, beq_self_eq_true, Option.map_none, List.getD_cons_zero, List.getD_cons_succ, ↓wk, ↓wl, nc, evV, wrapBits_eq, ↓reduceIte, Nat.reduceEqDiff, Nat.reduceAdd, Nat.reduceSub, Nat.reduceLeDiff, Nat.reduceLT, Nat.reduceBEq, reduceCtorEq, Int.reduceEq]) (by simp only [f59_C2, List.length_set, Option.map_some, restrict_eq, renS_nil, renS_cons, renB_els, renB_cel, renB_dead, deep_eq, map_ren_enc, ren_agg', ren_tup', ren_fn', ren_int', ren_bool', ren_str', ren_sl', ren_pro', ren_nilp', ren_nilfn', ren_junk', ren_ptr', ren_row', ren_arow', ren_eptr', vm, List.idxOf?_cons, List.idxOf?_nil, beq_self_eq_true, Option.map_none, List.getD_cons_zero, List.getD_cons_succ, ↓wk, ↓wl, nc, evV, wrapBits_eq, ↓reduceIte, Nat.reduceEqDiff, Nat.reduceAdd, Nat.reduceSub, Nat.reduceLeDiff, Nat.reduceLT, Nat.reduceBEq, reduceCtorEq, Int.reduceEq])
                · refine AW.rseq ?_
                  try simp only [↓wk, ↓wl, nc, evV, wrapBits_eq, ↓reduceIte, Nat.reduceEqDiff, Nat.reduceAdd, Nat.reduceSub, Nat.reduceLeDiff, Nat.reduceLT, Nat.reduceBEq, reduceCtorEq, Int.reduceEq]
                  refine AW.ifc H (by rfl) ?_ ?_ <;> clear H <;> intro H
                  · refine AW.exit ?_
                    refine blk0.out (by rfl) ?_
                    refine blkQ.out (by rfl) ?_
                    refine loopQ.exit H ?_ <;> clear H <;> intro H
                    try dsimp only at H
                    refine blk0.here ?_
                    refine seqQ.norm ?_
                    refine AW.rseq ?_
                    try simp only [↓wk, ↓wl, nc, evV, wrapBits_eq, ↓reduceIte, Nat.reduceEqDiff, Nat.reduceAdd, Nat.reduceSub, Nat.reduceLeDiff, Nat.reduceLT, Nat.reduceBEq, reduceCtorEq, Int.reduceEq]
                    refine rest_shr (by decide) ?_
                    try simp only [↓wk, ↓wl, nc, evV, wrapBits_eq, ↓reduceIte, Nat.reduceEqDiff, Nat.reduceAdd, Nat.reduceSub, Nat.reduceLeDiff, Nat.reduceLT, Nat.reduceBEq, reduceCtorEq, Int.reduceEq]
                    refine rest_and ?_
                    try simp only [↓wk, ↓wl, nc, evV, wrapBits_eq, ↓reduceIte, Nat.reduceEqDiff, Nat.reduceAdd, Nat.reduceSub, Nat.reduceLeDiff, Nat.reduceLT, Nat.reduceBEq, reduceCtorEq, Int.reduceEq]
                    refine rest_xor ?_
                    try simp only [↓wk, ↓wl, nc, evV, wrapBits_eq, ↓reduceIte, Nat.reduceEqDiff, Nat.reduceAdd, Nat.reduceSub, Nat.reduceLeDiff, Nat.reduceLT, Nat.reduceBEq, reduceCtorEq, Int.reduceEq]
                    refine AW.ret ?_
                    cases H
                    exact hqf59_C2 _ _ _ (.inr rfl) (Le.toL 1 (by rfl) [0] [2, 3] (by decide) (by decide) rfl) (by simp only [resVs, omap, resV, f59_C2, List.length_set, Option.map_some, restrict_eq, renS_nil, renS_cons, renB_els, renB_cel, renB_dead, deep_eq, map_ren_enc, ren_agg', ren_tup', ren_fn', ren_int', ren_bool', ren_str', ren_sl', ren_pro', ren_nilp', ren_nilfn', ren_junk', ren_ptr', ren_row', ren_arow', ren_eptr', vm, List.idxOf?_cons, List.idxOf?_nil, beq_self_eq_true, Option.map_none, List.getD_cons_zero, List.getD_cons_succ, ↓wk, ↓wl, nc, evV, wrapBits_eq, ↓reduceIte, Nat.reduceEqDiff, Nat.reduceAdd, Nat.reduceSub, Nat.reduceLeDiff, Nat.reduceLT, Nat.reduceBEq, reduceCtorEq, Int.reduceEq]) (by simp only [f59_C2, List.length_set, Option.map_some, restrict_eq, renS_nil, renS_cons, renB_els, renB_cel, renB_dead, deep_eq, map_ren_enc, ren_agg', ren_tup', ren_fn', ren_int', ren_bool', ren_str', ren_sl', ren_pro', ren_nilp', ren_nilfn', ren_junk', ren_ptr', ren_row', ren_arow', ren_eptr', vm, List.idxOf?_cons, List.idxOf?_nil, beq_self_eq_true, Option.map_none, List.getD_cons_zero, List.getD_cons_succ, ↓wk, ↓wl, nc, evV, wrapBits_eq, ↓reduceIte, Nat.reduceEqDiff, Nat.reduceAdd, Nat.reduceSub, Nat.reduceLeDiff, Nat.reduceLT, Nat.reduceBEq, reduceCtorEq, Int.reduceEq])
                  · refine AW.skip ?_
                    refine blk0.norm ?_
                    refine blkQ.norm ?_
                    refine AW.rend ?_
                    try simp only [↓wk, ↓wl, nc, evV, wrapBits_eq, ↓reduceIte, Nat.reduceEqDiff, Nat.reduceAdd, Nat.reduceSub, Nat.reduceLeDiff, Nat.reduceLT, Nat.reduceBEq, reduceCtorEq, Int.reduceEq]
                    exact loopQ.next H ((Le.toL 1 (by rfl) [0] [0, 4, 5] (by decide) (by decide) (by simp only [f59_L3, List.length_set, Option.map_some, restrict_eq, renS_nil, renS_cons, renB_els, renB_cel, renB_dead, deep_eq, map_ren_enc, ren_agg', ren_tup', ren_fn', ren_int', ren_bool', ren_str', ren_sl', ren_pro', ren_nilp', ren_nilfn', ren_junk', ren_ptr', ren_row', ren_arow', ren_eptr', vm, List.idxOf?_cons, List.idxOf?_nil, beq_self_eq_true, Option.map_none, List.getD_cons_zero, List.getD_cons_succ, ↓wk, ↓wl, nc, evV, wrapBits_eq, ↓reduceIte, Nat.reduceEqDiff, Nat.reduceAdd, Nat.reduceSub, Nat.reduceLeDiff, Nat.reduceLT, Nat.reduceBEq, reduceCtorEq, Int.reduceEq])))
              · refine AW.rend ?_
                try simp only [↓wk, ↓wl, nc, evV, wrapBits_eq, ↓reduceIte, Nat.reduceEqDiff, Nat.reduceAdd, Nat.reduceSub, Nat.reduceLeDiff, Nat.reduceLT, Nat.reduceBEq, reduceCtorEq, Int.reduceEq]
                refine evTs_ifg H (by rfl) ?_ ?_ <;> clear H <;> intro H
                · try simp only [↓wk, ↓wl, nc, evV, wrapBits_eq, ↓reduceIte, Nat.reduceEqDiff, Nat.reduceAdd, Nat.reduceSub, Nat.reduceLeDiff, Nat.reduceLT, Nat.reduceBEq, reduceCtorEq, Int.reduceEq]
                  refine seqQ.norm ?_
                  refine AW.ifc H (by rfl) ?_ ?_ <;> clear H <;> intro H
                  · refine AW.rseq ?_
                    try simp only [↓wk, ↓wl, nc, evV, wrapBits_eq, ↓reduceIte, Nat.reduceEqDiff, Nat.reduceAdd, Nat.reduceSub, Nat.reduceLeDiff, Nat.reduceLT, Nat.reduceBEq, reduceCtorEq, Int.reduceEq]
                    refine AW.ret ?_
                    refine blk0.ret ?_
                    refine blkQ.ret ?_
                    refine loopQ.ret H ?_ <;> clear H <;> intro H
                    try dsimp only at H
                    refine blk0.ret ?_
                    refine seqQ.ret ?_
                    cases H
                    exact hqf59_C2 _ _ _ (.inr rfl) (Le.toL 1 (by rfl) [0] [2, 3] (by decide) (by decide) rfl) (by simp only [resVs, omap, resV, f59_C2, List.length_set, Option.map_some, restrict_eq, renS_nil, renS_cons, renB_els, renB_cel, renB_dead, deep_eq, map_ren_enc, ren_agg', ren_tup', ren_fn', ren_int', ren_bool', ren_str', ren_sl', ren_pro', ren_nilp', ren_nilfn', ren_junk', ren_ptr', ren_row', ren_arow', ren_eptr', vm, List.idxOf?_cons, List.idxOf?_nil, beq_self_eq_true, Option.map_none, List.getD_cons_zero, List.getD_cons_succ, ↓wk, ↓wl, nc, evV, wrapBits_eq, ↓reduceIte, Nat.reduceEqDiff, Nat.reduceAdd, Nat.reduceSub, Nat.reduceLeDiff, Nat.reduceLT, Nat.reduceBEq, reduceCtorEq, Int.reduceEq]) (by simp only [f59_C2, List.length_set, Option.map_some, restrict_eq, renS_nil, renS_cons, renB_els, renB_cel, renB_dead, deep_eq, map_ren_enc, ren_agg', ren_tup', ren_fn', ren_int', ren_bool', ren_str', ren_sl', ren_pro', ren_nilp', ren_nilfn', ren_junk', ren_ptr', ren_row', ren_arow', ren_eptr', vm, List.idxOf?_cons, List.idxOf?_nil, beq_self_eq_true, Option.map_none, List.getD_cons_zero, List.getD_cons_succ, ↓wk, ↓wl, nc, evV, wrapBits_eq, ↓reduceIte, Nat.reduceEqDiff, Nat.reduceAdd, Nat.reduceSub, Nat.reduceLeDiff, Nat.reduceLT, Nat.reduceBEq, reduceCtorEq, Int.reduceEq])
                  · refine AW.rseq ?_
                    try simp only [↓wk, ↓wl, nc, evV, wrapBits_eq, ↓reduceIte, Nat.reduceEqDiff, Nat.reduceAdd, Nat.reduceSub, Nat.reduceLeDiff, Nat.reduceLT, Nat.reduceBEq, reduceCtorEq, Int.reduceEq]
                    refine AW.ifc H (by rfl) ?_ ?_ <;> clear H <;> intro H
                    · refine AW.exit ?_
                      refine blk0.out (by rfl) ?_
                      refine blkQ.out (by rfl) ?_
                      refine loopQ.exit H ?_ <;> clear H <;> intro H
                      try dsimp only at H
                      refine blk0.here ?_
                      refine seqQ.norm ?_
                      refine AW.rseq ?_
                      try simp only [↓wk, ↓wl, nc, evV, wrapBits_eq, ↓reduceIte, Nat.reduceEqDiff, Nat.reduceAdd, Nat.reduceSub, Nat.reduceLeDiff, Nat.reduceLT, Nat.reduceBEq, reduceCtorEq, Int.reduceEq]
                      refine rest_shr (by decide) ?_
                      try simp only [↓wk, ↓wl, nc, evV, wrapBits_eq, ↓reduceIte, Nat.reduceEqDiff, Nat.reduceAdd, Nat.reduceSub, Nat.reduceLeDiff, Nat.reduceLT, Nat.reduceBEq, reduceCtorEq, Int.reduceEq]
                      refine rest_and ?_
                      try simp only [↓wk, ↓wl, nc, evV, wrapBits_eq, ↓reduceIte, Nat.reduceEqDiff, Nat.reduceAdd, Nat.reduceSub, Nat.reduceLeDiff, Nat.reduceLT, Nat.reduceBEq, reduceCtorEq, Int.reduceEq]
                      refine rest_xor ?_
                      try simp only [↓wk, ↓wl, nc, evV, wrapBits_eq, ↓reduceIte, Nat.reduceEqDiff, Nat.reduceAdd, Nat.reduceSub, Nat.reduceLeDiff, Nat.reduceLT, Nat.reduceBEq, reduceCtorEq, Int.reduceEq]
                      refine AW.ret ?_
                      cases H
                      exact hqf59_C2 _ _ _ (.inr rfl) (Le.toL 1 (by rfl) [0] [2, 3] (by decide) (by decide) rfl) (by simp only [resVs, omap, resV, f59_C2, List.length_set, Option.map_some, restrict_eq, renS_nil, renS_cons, renB_els, renB_cel, renB_dead, deep_eq, map_ren_enc, ren_agg', ren_tup', ren_fn', ren_int', ren_bool', ren_str', ren_sl', ren_pro', ren_nilp', ren_nilfn', ren_junk', ren_ptr', ren_row', ren_arow', ren_eptr', vm, List.idxOf?_cons, List.idxOf?_nil, beq_self_eq_true, Option.map_none, List.getD_cons_zero, List.getD_cons_succ, ↓wk, ↓wl, nc, evV, wrapBits_eq, ↓reduceIte, Nat.reduceEqDiff, Nat.reduceAdd, Nat.reduceSub, Nat.reduceLeDiff, Nat.reduceLT, Nat.reduceBEq, reduceCtorEq, Int.reduceEq]) (by simp only [f59_C2, List.length_set, Option.map_some, restrict_eq, renS_nil, renS_cons, renB_els, renB_cel, renB_dead, deep_eq, map_ren_enc, ren_agg', ren_tup', ren_fn', ren_int', ren_bool', ren_str', ren_sl', ren_pro', ren_nilp', ren_nilfn', ren_junk', ren_ptr', ren_row', ren_arow', ren_eptr', vm, List.idxOf?_cons, List.idxOf?_nil, beq_self_eq_true, Option.map_none, List.getD_cons_zero, List.getD_cons_succ, ↓wk, ↓wl, nc, evV, wrapBits_eq, ↓reduceIte, Nat.reduceEqDiff, Nat.reduceAdd, Nat.reduceSub, Nat.reduceLeDiff, Nat.reduceLT, Nat.reduceBEq, reduceCtorEq, Int.reduceEq])
                    · refine AW.skip ?_
                      refine blk0.norm ?_
                      refine blkQ.norm ?_
                      refine AW.rend ?_
                      try simp only [↓wk, ↓wl, nc, evV, wrapBits_eq, ↓reduceIte, Nat.reduceEqDiff, Nat.reduceAdd, Nat.reduceSub, Nat.reduceLeDiff, Nat.reduceLT, Nat.reduceBEq, reduceCtorEq, Int.reduceEq]
                      exact loopQ.next H ((Le.toL 1 (by rfl) [0] [0, 4, 5] (by decide) (by decide) (by simp only [f59_L3, List.length_set, Option.map_some, restrict_eq, renS_nil, renS_cons, renB_els, renB_cel, renB_dead, deep_eq, map_ren_enc, ren_agg', ren_tup', ren_fn', ren_int', ren_bool', ren_str', ren_sl', ren_pro', ren_nilp', ren_nilfn', ren_junk', ren_ptr', ren_row', ren_arow', ren_eptr', vm, List.idxOf?_cons, List.idxOf?_nil, beq_self_eq_true, Option.map_none, List.getD_cons_zero, List.getD_cons_succ, ↓wk, ↓wl, nc, evV, wrapBits_eq, ↓reduceIte, Nat.reduceEqDiff, Nat.reduceAdd, Nat.reduceSub, Nat.reduceLeDiff, Nat.reduceLT, Nat.reduceBEq, reduceCtorEq, Int.reduceEq])))
                · try simp only [↓wk, ↓wl, nc, evV, wrapBits_eq, ↓reduceIte, Nat.reduceEqDiff, Nat.reduceAdd, Nat.reduceSub, Nat.reduceLeDiff, Nat.reduceLT, Nat.reduceBEq, reduceCtorEq, Int.reduceEq]
                  refine seqQ.norm ?_
                  refine AW.iff (by rfl) ?_
                  refine AW.rseq ?_
                  try simp only [↓wk, ↓wl, nc, evV, wrapBits_eq, ↓reduceIte, Nat.reduceEqDiff, Nat.reduceAdd, Nat.reduceSub, Nat.reduceLeDiff, Nat.reduceLT, Nat.reduceBEq, reduceCtorEq, Int.reduceEq]
                  refine AW.ifc H (by rfl) ?_ ?_ <;> clear H <;> intro H
                  · refine AW.exit ?_
                    refine blk0.out (by rfl) ?_
                    refine blkQ.out (by rfl) ?_
                    refine loopQ.exit H ?_ <;> clear H <;> intro H
                    try dsimp only at H
                    refine blk0.here ?_
                    refine seqQ.norm ?_
                    refine AW.rseq ?_
                    try simp only [↓wk, ↓wl, nc, evV, wrapBits_eq, ↓reduceIte, Nat.reduceEqDiff, Nat.reduceAdd, Nat.reduceSub, Nat.reduceLeDiff, Nat.reduceLT, Nat.reduceBEq, reduceCtorEq, Int.reduceEq]
                    refine rest_shr (by decide) ?_
                    try simp only [↓wk, ↓wl, nc, evV, wrapBits_eq, ↓reduceIte, Nat.reduceEqDiff, Nat.reduceAdd, Nat.reduceSub, Nat.reduceLeDiff, Nat.reduceLT, Nat.reduceBEq, reduceCtorEq, Int.reduceEq]
                    refine rest_and ?_
                    try simp only [↓wk, ↓wl, nc, evV, wrapBits_eq, ↓reduceIte, Nat.reduceEqDiff, Nat.reduceAdd, Nat.reduceSub, Nat.reduceLeDiff, Nat.reduceLT, Nat.reduceBEq, reduceCtorEq, Int.reduceEq]
                    refine rest_xor ?_
                    try simp only [↓wk, ↓wl, nc, evV, wrapBits_eq, ↓reduceIte, Nat.reduceEqDiff, Nat.reduceAdd, Nat.reduceSub, Nat.reduceLeDiff, Nat.reduceLT, Nat.reduceBEq, reduceCtorEq, Int.reduceEq]
                    refine AW.ret ?_
                    cases H
                    exact hqf59_C2 _ _ _ (.inr rfl) (Le.toL 1 (by rfl) [0] [2, 3] (by decide) (by decide) rfl) (by simp only [resVs, omap, resV, f59_C2, List.length_set, Option.map_some, restrict_eq, renS_nil, renS_cons, renB_els, renB_cel, renB_dead, deep_eq, map_ren_enc, ren_agg', ren_tup', ren_fn', ren_int', ren_bool', ren_str', ren_sl', ren_pro', ren_nilp', ren_nilfn', ren_junk', ren_ptr', ren_row', ren_arow', ren_eptr', vm, List.idxOf?_cons, List.idxOf?_nil, beq_self_eq_true, Option.map_none, List.getD_cons_zero, List.getD_cons_succ, ↓wk, ↓wl, nc, evV, wrapBits_eq, ↓reduceIte, Nat.reduceEqDiff, Nat.reduceAdd, Nat.reduceSub, Nat.reduceLeDiff, Nat.reduceLT, Nat.reduceBEq, reduceCtorEq, Int.reduceEq]) (by simp only [f59_C2, List.length_set, Option.map_some, restrict_eq, renS_nil, renS_cons, renB_els, renB_cel, renB_dead, deep_eq, map_ren_enc, ren_agg', ren_tup', ren_fn', ren_int', ren_bool', ren_str', ren_sl', ren_pro', ren_nilp', ren_nilfn', ren_junk', ren_ptr', ren_row', ren_arow', ren_eptr', vm, List.idxOf?_cons, List.idxOf?_nil, beq_self_eq_true, Option.map_none, List.getD_cons_zero, List.getD_cons_succ, ↓wk, ↓wl, nc, evV, wrapBits_eq, ↓reduceIte, Nat.reduceEqDiff, Nat.reduceAdd, Nat.reduceSub, Nat.reduceLeDiff, Nat.reduceLT, Nat.reduceBEq, reduceCtorEq, Int.reduceEq])
                  · refine AW.skip ?_
                    refine blk0.norm ?_
                    refine blkQ.norm ?_
                    refine AW.rend ?_
                    try simp only [↓wk, ↓wl, nc, evV, wrapBits_eq, ↓reduceIte, Nat.reduceEqDiff, Nat.reduceAdd, Nat.reduceSub, Nat.reduceLeDiff, Nat.reduceLT, Nat.reduceBEq, reduceCtorEq, Int.reduceEq]
                    exact loopQ.next H ((Le.toL 1 (by rfl) [0] [0, 4, 5] (by decide) (by decide) (by simp only [f59_L3, List.length_set, Option.map_some, restrict_eq, renS_nil, renS_cons, renB_els, renB_cel, renB_dead, deep_eq, map_ren_enc, ren_agg', ren_tup', ren_fn', ren_int', ren_bool', ren_str', ren_sl', ren_pro', ren_nilp', ren_nilfn', ren_junk', ren_ptr', ren_row', ren_arow', ren_eptr', vm, List.idxOf?_cons, List.idxOf?_nil, beq_self_eq_true, Option.map_none, List.getD_cons_zero, List.getD_cons_succ, ↓wk, ↓wl, nc, evV, wrapBits_eq, ↓reduceIte, Nat.reduceEqDiff, Nat.reduceAdd, Nat.reduceSub, Nat.reduceLeDiff, Nat.reduceLT, Nat.reduceBEq, reduceCtorEq, Int.reduceEq])))
            · try simp only [↓wk, ↓wl, nc, evV, wrapBits_eq, ↓reduceIte, Nat.reduceEqDiff, Nat.reduceAdd, Nat.reduceSub, Nat.reduceLeDiff, Nat.reduceLT, Nat.reduceBEq, reduceCtorEq, Int.reduceEq]
              refine AW.iff (by rfl) ?_
              refine AW.rend ?_
              try simp only [↓wk, ↓wl, nc, evV, wrapBits_eq, ↓reduceIte, Nat.reduceEqDiff, Nat.reduceAdd, Nat.reduceSub, Nat.reduceLeDiff, Nat.reduceLT, Nat.reduceBEq, reduceCtorEq, Int.reduceEq]
              refine evTs_ifg H (by rfl) ?_ ?_ <;> clear H <;> intro H
              · try simp only [↓wk, ↓wl, nc, evV, wrapBits_eq, ↓reduceIte, Nat.reduceEqDiff, Nat.reduceAdd, Nat.reduceSub, Nat.reduceLeDiff, Nat.reduceLT, Nat.reduceBEq, reduceCtorEq, Int.reduceEq]
                refine seqQ.norm ?_
                refine AW.ifc H (by rfl) ?_ ?_ <;> clear H <;> intro H
                · refine AW.rseq ?_
                  try simp only [↓wk, ↓wl, nc, evV, wrapBits_eq, ↓reduceIte, Nat.reduceEqDiff, Nat.reduceAdd, Nat.reduceSub, Nat.reduceLeDiff, Nat.reduceLT, Nat.reduceBEq, reduceCtorEq, Int.reduceEq]
                  refine AW.ret ?_
                  refine blk0.ret ?_
                  refine blkQ.ret ?_
                  refine loopQ.ret H ?_ <;> clear H <;> intro H
                  try dsimp only at H
                  refine blk0.ret ?_
                  refine seqQ.ret ?_
                  cases H
                  exact hqf59_C2 _ _ _ (.inr rfl) (Le.toL 1 (by rfl) [0] [2, 3] (by decide) (by decide) rfl) (by simp only [resVs, omap, resV, f59_C2, List.length_set, Option.map_some, restrict_eq, renS_nil, renS_cons, renB_els, renB_cel, renB_dead, deep_eq, map_ren_enc, ren_agg', ren_tup', ren_fn', ren_int', ren_bool', ren_str', ren_sl', ren_pro', ren_nilp', ren_nilfn', ren_junk', ren_ptr', ren_row', ren_arow', ren_eptr', vm, List.idxOf?_cons, List.idxOf?_nil, beq_self_eq_true, Option.map_none, List.getD_cons_zero, List.getD_cons_succ, ↓wk, ↓wl, nc, evV, wrapBits_eq, ↓reduceIte, Nat.reduceEqDiff, Nat.reduceAdd, Nat.reduceSub, Nat.reduceLeDiff, Nat.reduceLT, Nat.reduceBEq, reduceCtorEq, Int.reduceEq]) (by simp only [f59_C2, List.length_set, Option.map_some, restrict_eq, renS_nil, renS_cons, renB_els, renB_cel, renB_dead, deep_eq, map_ren_enc, ren_agg', ren_tup', ren_fn', ren_int', ren_bool', ren_str', ren_sl', ren_pro', ren_nilp', ren_nilfn', ren_junk', ren_ptr', ren_row', ren_arow', ren_eptr', vm, List.idxOf?_cons, List.idxOf?_nil, beq_self_eq_true, Option.map_none, List.getD_cons_zero, List.getD_cons_succ, ↓wk, ↓wl, nc, evV, wrapBits_eq, ↓reduceIte, Nat.reduceEqDiff, Nat.reduceAdd, Nat.reduceSub, Nat.reduceLeDiff, Nat.reduceLT, Nat.reduceBEq, reduceCtorEq, Int.reduceEq])
                · refine AW.rseq ?_
                  try simp only [↓wk, ↓wl, nc, evV, wrapBits_eq, ↓reduceIte, Nat.reduceEqDiff, Nat.reduceAdd, Nat.reduceSub, Nat.reduceLeDiff, Nat.reduceLT, Nat.reduceBEq, reduceCtorEq, Int.reduceEq]
                  refine AW.ifc H (by rfl) ?_ ?_ <;> clear H <;> intro H
                  · refine AW.exit ?_
                    refine blk0.out (by rfl) ?_
                    refine blkQ.out (by rfl) ?_
                    refine loopQ.exit H ?_ <;> clear H <;> intro H
                    try dsimp only at H
                    refine blk0.here ?_
                    refine seqQ.norm ?_
                    refine AW.rseq ?_
                    try simp only [↓wk, ↓wl, nc, evV, wrapBits_eq, ↓reduceIte, Nat.reduceEqDiff, Nat.reduceAdd, Nat.reduceSub, Nat.reduceLeDiff, Nat.reduceLT, Nat.reduceBEq, reduceCtorEq, Int.reduceEq]
                    refine rest_shr (by decide) ?_
                    try simp only [↓wk, ↓wl, nc, evV, wrapBits_eq, ↓reduceIte, Nat.reduceEqDiff, Nat.reduceAdd, Nat.reduceSub, Nat.reduceLeDiff, Nat.reduceLT, Nat.reduceBEq, reduceCtorEq, Int.reduceEq]
                    refine rest_and ?_
                    try simp only [↓wk, ↓wl, nc, evV, wrapBits_eq, ↓reduceIte, Nat.reduceEqDiff, Nat.reduceAdd, Nat.reduceSub, Nat.reduceLeDiff, Nat.reduceLT, Nat.reduceBEq, reduceCtorEq, Int.reduceEq]
                    refine rest_xor ?_
                    try simp only [↓wk, ↓wl, nc, evV, wrapBits_eq, ↓reduceIte, Nat.reduceEqDiff, Nat.reduceAdd, Nat.reduceSub, Nat.reduceLeDiff, Nat.reduceLT, Nat.reduceBEq, reduceCtorEq, Int.reduceEq]
                    refine AW.ret ?_
                    cases H
                    exact hqf59_C2 _ _ _ (.inr rfl) (Le.toL 1 (by rfl) [0] [2, 3] (by decide) (by decide) rfl) (by simp only [resVs, omap, resV, f59_C2, List.length_set, Option.map_some, restrict_eq, renS_nil, renS_cons, renB_els, renB_cel, renB_dead, deep_eq, map_ren_enc, ren_agg', ren_tup', ren_fn', ren_int', ren_bool', ren_str', ren_sl', ren_pro', ren_nilp', ren_nilfn', ren_junk', ren_ptr', ren_row', ren_arow', ren_eptr', vm, List.idxOf?_cons, List.idxOf?_nil, beq_self_eq_true, Option.map_none, List.getD_cons_zero, List.getD_cons_succ, ↓wk, ↓wl, nc, evV, wrapBits_eq, ↓reduceIte, Nat.reduceEqDiff, Nat.reduceAdd, Nat.reduceSub, Nat.reduceLeDiff, Nat.reduceLT, Nat.reduceBEq, reduceCtorEq, Int.reduceEq]) (by simp only [f59_C2, List.length_set, Option.map_some, restrict_eq, renS_nil, renS_cons, renB_els, renB_cel, renB_dead, deep_eq, map_ren_enc, ren_agg', ren_tup', ren_fn', ren_int', ren_bool', ren_str', ren_sl', ren_pro', ren_nilp', ren_nilfn', ren_junk', ren_ptr', ren_row', ren_arow', ren_eptr', vm, List.idxOf?_cons, List.idxOf?_nil, beq_self_eq_true, Option.map_none, List.getD_cons_zero, List.getD_cons_succ, ↓wk, ↓wl, nc, evV, wrapBits_eq, ↓reduceIte, Nat.reduceEqDiff, Nat.reduceAdd, Nat.reduceSub, Nat.reduceLeDiff, Nat.reduceLT, Nat.reduceBEq, reduceCtorEq, Int.reduceEq])
                  · refine AW.skip ?_
                    refine blk0.norm ?_
                    refine blkQ.norm ?_
                    refine AW.rend ?_
                    try simp only [↓wk, ↓wl, nc, evV, wrapBits_eq, ↓reduceIte, Nat.reduceEqDiff, Nat.reduceAdd, Nat.reduceSub, Nat.reduceLeDiff, Nat.reduceLT, Nat.reduceBEq, reduceCtorEq, Int.reduceEq]
                    exact loopQ.next H ((Le.toL 1 (by rfl) [0] [0, 4, 5] (by decide) (by decide) (by simp only [f59_L3, List.length_set, Option.map_some, restrict_eq, renS_nil, renS_cons, renB_els, renB_cel, renB_dead, deep_eq, map_ren_enc, ren_agg', ren_tup', ren_fn', ren_int', ren_bool', ren_str', ren_sl', ren_pro', ren_nilp', ren_nilfn', ren_junk', ren_ptr', ren_row', ren_arow', ren_eptr', vm, List.idxOf?_cons, List.idxOf?_nil, beq_self_eq_true, Option.map_none, List.getD_cons_zero, List.getD_cons_succ, ↓wk, ↓wl, nc, evV, wrapBits_eq, ↓reduceIte, Nat.reduceEqDiff, Nat.reduceAdd, Nat.reduceSub, Nat.reduceLeDiff, Nat.reduceLT, Nat.reduceBEq, reduceCtorEq, Int.reduceEq])))
              · try simp only [↓wk, ↓wl, nc, evV, wrapBits_eq, ↓reduceIte, Nat.reduceEqDiff, Nat.reduceAdd, Nat.reduceSub, Nat.reduceLeDiff, Nat.reduceLT, Nat.reduceBEq, reduceCtorEq, Int.reduceEq]
                refine seqQ.norm ?_
                refine AW.iff (by rfl) ?_
                refine AW.rseq ?_
                try simp only [↓wk, ↓wl, nc, evV, wrapBits_eq, ↓reduceIte, Nat.reduceEqDiff, Nat.reduceAdd, Nat.reduceSub, Nat.reduceLeDiff, Nat.reduceLT, Nat.reduceBEq, reduceCtorEq, Int.reduceEq]
                refine AW.ifc H (by rfl) ?_ ?_ <;> clear H <;> intro H
                · refine AW.exit ?_
                  refine blk0.out (by rfl) ?_
                  refine blkQ.out (by rfl) ?_
                  refine loopQ.exit H ?_ <;> clear H <;> intro H
                  try dsimp only at H
                  refine blk0.here ?_
                  refine seqQ.norm ?_
                  refine AW.rseq ?_
                  try simp only [↓wk, ↓wl, nc, evV, wrapBits_eq, ↓reduceIte, Nat.reduceEqDiff, Nat.reduceAdd, Nat.reduceSub, Nat.reduceLeDiff, Nat.reduceLT, Nat.reduceBEq, reduceCtorEq, Int.reduceEq]
                  refine rest_shr (by decide) ?_
                  try simp only [↓wk, ↓wl, nc, evV, wrapBits_eq, ↓reduceIte, Nat.reduceEqDiff, Nat.reduceAdd, Nat.reduceSub, Nat.reduceLeDiff, Nat.reduceLT, Nat.reduceBEq, reduceCtorEq, Int.reduceEq]
                  refine rest_and ?_
                  try simp only [↓wk, ↓wl, nc, evV, wrapBits_eq, ↓reduceIte, Nat.reduceEqDiff, Nat.reduceAdd, Nat.reduceSub, Nat.reduceLeDiff, Nat.reduceLT, Nat.reduceBEq, reduceCtorEq, Int.reduceEq]
                  refine rest_xor ?_
                  try simp only [↓wk, ↓wl, nc, evV, wrapBits_eq, ↓reduceIte, Nat.reduceEqDiff, Nat.reduceAdd, Nat.reduceSub, Nat.reduceLeDiff, Nat.reduceLT, Nat.reduceBEq, reduceCtorEq, Int.reduceEq]
                  refine AW.ret ?_
                  cases H
                  exact hqf59_C2 _ _ _ (.inr rfl) (Le.toL 1 (by rfl) [0] [2, 3] (by decide) (by decide) rfl) (by simp only [resVs, omap, resV, f59_C2, List.length_set, Option.map_some, restrict_eq, renS_nil, renS_cons, renB_els, renB_cel, renB_dead, deep_eq, map_ren_enc, ren_agg', ren_tup', ren_fn', ren_int', ren_bool', ren_str', ren_sl', ren_pro', ren_nilp', ren_nilfn', ren_junk', ren_ptr', ren_row', ren_arow', ren_eptr', vm, List.idxOf?_cons, List.idxOf?_nil, beq_self_eq_true, Option.map_none, List.getD_cons_zero, List.getD_cons_succ, ↓wk, ↓wl, nc, evV, wrapBits_eq, ↓reduceIte, Nat.reduceEqDiff, Nat.reduceAdd, Nat.reduceSub, Nat.reduceLeDiff, Nat.reduceLT, Nat.reduceBEq, reduceCtorEq, Int.reduceEq]) (by simp only [f59_C2, List.length_set, Option.map_some, restrict_eq, renS_nil, renS_cons, renB_els, renB_cel, renB_dead, deep_eq, map_ren_enc, ren_agg', ren_tup', ren_fn', ren_int', ren_bool', ren_str', ren_sl', ren_pro', ren_nilp', ren_nilfn', ren_junk', ren_ptr', ren_row', ren_arow', ren_eptr', vm, List.idxOf?_cons, List.idxOf?_nil, beq_self_eq_true, Option.map_none, List.getD_cons_zero, List.getD_cons_succ, ↓wk, ↓wl, nc, evV, wrapBits_eq, ↓reduceIte, Nat.reduceEqDiff, Nat.reduceAdd, Nat.reduceSub, Nat.reduceLeDiff, Nat.reduceLT, Nat.reduceBEq, reduceCtorEq, Int.reduceEq])
                · refine AW.skip ?_
                  refine blk0.norm ?_
                  refine blkQ.norm ?_
                  refine AW.rend ?_
                  try simp only [↓wk, ↓wl, nc, evV, wrapBits_eq, ↓reduceIte, Nat.reduceEqDiff, Nat.reduceAdd, Nat.reduceSub, Nat.reduceLeDiff, Nat.reduceLT, Nat.reduceBEq, reduceCtorEq, Int.reduceEq]
                  exact loopQ.next H ((Le.toL 1 (by rfl) [0] [0, 4, 5] (by decide) (by decide) (by simp only [f59_L3, List.length_set, Option.map_some, restrict_eq, renS_nil, renS_cons, renB_els, renB_cel, renB_dead, deep_eq, map_ren_enc, ren_agg', ren_tup', ren_fn', ren_int', ren_bool', ren_str', ren_sl', ren_pro', ren_nilp', ren_nilfn', ren_junk', ren_ptr', ren_row', ren_arow', ren_eptr', vm, List.idxOf?_cons, List.idxOf?_nil, beq_self_eq_true, Option.map_none, List.getD_cons_zero, List.getD_cons_succ, ↓wk, ↓wl, nc, evV, wrapBits_eq, ↓reduceIte, Nat.reduceEqDiff, Nat.reduceAdd, Nat.reduceSub, Nat.reduceLeDiff, Nat.reduceLT, Nat.reduceBEq, reduceCtorEq, Int.reduceEq])))
      · rintro ⟨v_2032, v_2033, v_2034⟩ s_ h_ H hs_ hh_
        simp only [f59_C2] at H hs_ hh_
        subst hs_
        subst hh_
        try simp only [↓wk, ↓wl, nc, evV, wrapBits_eq, ↓reduceIte, Nat.reduceEqDiff, Nat.reduceAdd, Nat.reduceSub, Nat.reduceLeDiff, Nat.reduceLT, Nat.reduceBEq, reduceCtorEq, Int.reduceEq]
        refine AW.bseq ?_
        refine AW.rseq ?_
        try simp only [↓wk, ↓wl, nc, evV, wrapBits_eq, ↓reduceIte, Nat.reduceEqDiff, Nat.reduceAdd, Nat.reduceSub, Nat.reduceLeDiff, Nat.reduceLT, Nat.reduceBEq, reduceCtorEq, Int.reduceEq]
        refine AW.ifc H (by rfl) ?_ ?_ <;> clear H <;> intro H
        · refine AW.rseq ?_
          try simp only [↓wk, ↓wl, nc, evV, wrapBits_eq, ↓reduceIte, Nat.reduceEqDiff, Nat.reduceAdd, Nat.reduceSub, Nat.reduceLeDiff, Nat.reduceLT, Nat.reduceBEq, reduceCtorEq, Int.reduceEq]
          refine AW.ret ?_
          refine blkQ.ret ?_
          cases H
          exact hqf59_C1 _ _ _ (.inr rfl) (Le.toL 1 (by rfl) [0] [2, 3] (by decide) (by decide) rfl) (by simp only [resVs, omap, resV, f59_C1, List.length_set, Option.map_some, restrict_eq, renS_nil, renS_cons, renB_els, renB_cel, renB_dead, deep_eq, map_ren_enc, ren_agg', ren_tup', ren_fn', ren_int', ren_bool', ren_str', ren_sl', ren_pro', ren_nilp', ren_nilfn', ren_junk', ren_ptr', ren_row', ren_arow', ren_eptr', vm, List.idxOf?_cons, List.idxOf?_nil, beq_self_eq_true, Option.map_none, List.getD_cons_zero, List.getD_cons_succ, ↓wk, ↓wl, nc, evV, wrapBits_eq, ↓reduceIte, Nat.reduceEqDiff, Nat.reduceAdd, Nat.reduceSub, Nat.reduceLeDiff, Nat.reduceLT, Nat.reduceBEq, reduceCtorEq, Int.reduceEq]) (by simp only [f59_C1, List.length_set, Option.map_some, restrict_eq, renS_nil, renS_cons, renB_els, renB_cel, renB_dead, deep_eq, map_ren_enc, ren_agg', ren_tup', ren_fn', ren_int', ren_bool', ren_str', ren_sl', ren_pro', ren_nilp', ren_nilfn', ren_junk', ren_ptr', ren_row', ren_arow', ren_eptr', vm, List.idxOf?_cons, List.idxOf?_nil, beq_self_eq_true, Option.map_none, List.getD_cons_zero, List.getD_cons_succ, ↓wk, ↓wl, nc, evV, wrapBits_eq, ↓reduceIte, Nat.reduceEqDiff, Nat.reduceAdd, Nat.reduceSub, Nat.reduceLeDiff, Nat.reduceLT, Nat.reduceBEq, reduceCtorEq, Int.reduceEq])
        · refine AW.rseq ?_
          try simp only [↓wk, ↓wl, nc, evV, wrapBits_eq, ↓reduceIte, Nat.reduceEqDiff, Nat.reduceAdd, Nat.reduceSub, Nat.reduceLeDiff, Nat.reduceLT, Nat.reduceBEq, reduceCtorEq, Int.reduceEq]
          refine evTs_ifg H (by rfl) ?_ ?_ <;> clear H <;> intro H
          · try simp only [↓wk, ↓wl, nc, evV, wrapBits_eq, ↓reduceIte, Nat.reduceEqDiff, Nat.reduceAdd, Nat.reduceSub, Nat.reduceLeDiff, Nat.reduceLT, Nat.reduceBEq, reduceCtorEq, Int.reduceEq]
            refine AW.ift (by rfl) ?_
            refine AW.rseq ?_
            try simp only [↓wk, ↓wl, nc, evV, wrapBits_eq, ↓reduceIte, Nat.reduceEqDiff, Nat.reduceAdd, Nat.reduceSub, Nat.reduceLeDiff, Nat.reduceLT, Nat.reduceBEq, reduceCtorEq, Int.reduceEq]
            refine AW.ret ?_
            refine blkQ.ret ?_
            cases H
            exact hqf59_C1 _ _ _ (.inr rfl) (Le.toL 1 (by rfl) [0] [2, 3] (by decide) (by decide) rfl) (by simp only [resVs, omap, resV, f59_C1, List.length_set, Option.map_some, restrict_eq, renS_nil, renS_cons, renB_els, renB_cel, renB_dead, deep_eq, map_ren_enc, ren_agg', ren_tup', ren_fn', ren_int', ren_bool', ren_str', ren_sl', ren_pro', ren_nilp', ren_nilfn', ren_junk', ren_ptr', ren_row', ren_arow', ren_eptr', vm, List.idxOf?_cons, List.idxOf?_nil, beq_self_eq_true, Option.map_none, List.getD_cons_zero, List.getD_cons_succ, ↓wk, ↓wl, nc, evV, wrapBits_eq, ↓reduceIte, Nat.reduceEqDiff, Nat.reduceAdd, Nat.reduceSub, Nat.reduceLeDiff, Nat.reduceLT, Nat.reduceBEq, reduceCtorEq, Int.reduceEq]) (by simp only [f59_C1, List.length_set, Option.map_some, restrict_eq, renS_nil, renS_cons, renB_els, renB_cel, renB_dead, deep_eq, map_ren_enc, ren_agg', ren_tup', ren_fn', ren_int', ren_bool', ren_str', ren_sl', ren_pro', ren_nilp', ren_nilfn', ren_junk', ren_ptr', ren_row', ren_arow', ren_eptr', vm, List.idxOf?_cons, List.idxOf?_nil, beq_self_eq_true, Option.map_none, List.getD_cons_zero, List.getD_cons_succ, ↓wk, ↓wl, nc, evV, wrapBits_eq, ↓reduceIte, Nat.reduceEqDiff, Nat.reduceAdd, Nat.reduceSub, Nat.reduceLeDiff, Nat.reduceLT, Nat.reduceBEq, reduceCtorEq, Int.reduceEq])
          · try simp only [↓wk, ↓wl, nc, evV, wrapBits_eq, ↓reduceIte, Nat.reduceEqDiff, Nat.reduceAdd, Nat.reduceSub, Nat.reduceLeDiff, Nat.reduceLT, Nat.reduceBEq, reduceCtorEq, Int.reduceEq]
            refine AW.ifc H (by rfl) ?_ ?_ <;> clear H <;> intro H
            · refine AW.rseq ?_
              try simp only [↓wk, ↓wl, nc, evV, wrapBits_eq, ↓reduceIte, Nat.reduceEqDiff, Nat.reduceAdd, Nat.reduceSub, Nat.reduceLeDiff, Nat.reduceLT, Nat.reduceBEq, reduceCtorEq, Int.reduceEq]
              refine AW.ret ?_
              refine blkQ.ret ?_
              cases H
              exact hqf59_C1 _ _ _ (.inr rfl) (Le.toL 1 (by rfl) [0] [2, 3] (by decide) (by decide) rfl) (by simp only [resVs, omap, resV, f59_C1, List.length_set, Option.map_some, restrict_eq, renS_nil, renS_cons, renB_els, renB_cel, renB_dead, deep_eq, map_ren_enc, ren_agg', ren_tup', ren_fn', ren_int', ren_bool', ren_str', ren_sl', ren_pro', ren_nilp', ren_nilfn', ren_junk', ren_ptr', ren_row', ren_arow', ren_eptr', vm, List.idxOf?_cons, List.idxOf?_nil, beq_self_eq_true, Option.map_none, List.getD_cons_zero, List.getD_cons_succ, ↓wk, ↓wl, nc, evV, wrapBits_eq, ↓reduceIte, Nat.reduceEqDiff, Nat.reduceAdd, Nat.reduceSub, Nat.reduceLeDiff, Nat.reduceLT, Nat.reduceBEq, reduceCtorEq, Int.reduceEq]) (by simp only [f59_C1, List.length_set, Option.map_some, restrict_eq, renS_nil, renS_cons, renB_els, renB_cel, renB_dead, deep_eq, map_ren_enc, ren_agg', ren_tup', ren_fn', ren_int', ren_bool', ren_str', ren_sl', ren_pro', ren_nilp', ren_nilfn', ren_junk', ren_ptr', ren_row', ren_arow', ren_eptr', vm, List.idxOf?_cons, List.idxOf?_nil, beq_self_eq_true, Option.map_none, List.getD_cons_zero, List.getD_cons_succ, ↓wk, ↓wl, nc, evV, wrapBits_eq, ↓reduceIte, Nat.reduceEqDiff, Nat.reduceAdd, Nat.reduceSub, Nat.reduceLeDiff, Nat.reduceLT, Nat.reduceBEq, reduceCtorEq, Int.reduceEq])
            · refine AW.rseq ?_
              try simp only [↓wk, ↓wl, nc, evV, wrapBits_eq, ↓reduceIte, Nat.reduceEqDiff, Nat.reduceAdd, Nat.reduceSub, Nat.reduceLeDiff, Nat.reduceLT, Nat.reduceBEq, reduceCtorEq, Int.reduceEq]
              refine evTs_flat hFn H (fun _ h => f82p_ok h) (by rfl) (by rfl) (by simp only [deep_eq, imm_simps, imm_rowE, imm_ptrE, imm_enc, omap_simps, take_map_len, take_map_set, take_map_set2, le_refl_true, Nat.zero_add, and_true, true_and, List.drop_zero, Option.map_some, ↓wk, ↓wl, nc, evV, wrapBits_eq, ↓reduceIte, Nat.reduceEqDiff, Nat.reduceAdd, Nat.reduceSub, Nat.reduceLeDiff, Nat.reduceLT, Nat.reduceBEq, reduceCtorEq, Int.reduceEq]; rfl) (by rfl) (fun _ => rfl) (fun _ => rfl) ?_ <;> clear H <;> intro r_2070 H
              try simp only [eL, ↓wk, ↓wl, nc, evV, wrapBits_eq, ↓reduceIte, Nat.reduceEqDiff, Nat.reduceAdd, Nat.reduceSub, Nat.reduceLeDiff, Nat.reduceLT, Nat.reduceBEq, reduceCtorEq, Int.reduceEq]
              refine AW.ifc H (by rfl) ?_ ?_ <;> clear H <;> intro H
              · refine AW.rseq ?_
                try simp only [↓wk, ↓wl, nc, evV, wrapBits_eq, ↓reduceIte, Nat.reduceEqDiff, Nat.reduceAdd, Nat.reduceSub, Nat.reduceLeDiff, Nat.reduceLT, Nat.reduceBEq, reduceCtorEq, Int.reduceEq]
                refine AW.ret ?_
                refine blkQ.ret ?_
                cases H
                exact hqf59_C1 _ _ _ (.inr rfl) (Le.toL 1 (by rfl) [0] [2, 3] (by decide) (by decide) rfl) (by simp only [resVs, omap, resV, f59_C1, List.length_set, Option.map_some, restrict_eq, renS_nil, renS_cons, renB_els, renB_cel, renB_dead, deep_eq, map_ren_enc, ren_agg', ren_tup', ren_fn', ren_int', ren_bool', ren_str', ren_sl', ren_pro', ren_nilp', ren_nilfn', ren_junk', ren_ptr', ren_row', ren_arow', ren_eptr', vm, List.idxOf?_cons, List.idxOf?_nil, beq_self_eq_true, Option.map_none, List.getD_cons_zero, List.getD_cons_succ, ↓wk, ↓wl, nc, evV, wrapBits_eq, ↓reduceIte, Nat.reduceEqDiff, Nat.reduceAdd, Nat.reduceSub, Nat.reduceLeDiff, Nat.reduceLT, Nat.reduceBEq, reduceCtorEq, Int.reduceEq]) (by simp only [f59_C1, List.length_set, Option.map_some, restrict_eq, renS_nil, renS_cons, renB_els, renB_cel, renB_dead, deep_eq, map_ren_enc, ren_agg', ren_tup', ren_fn', ren_int', ren_bool', ren_str', ren_sl', ren_pro', ren_nilp', ren_nilfn', ren_junk', ren_ptr', ren_row', ren_arow', ren_eptr', vm, List.idxOf?_cons, List.idxOf?_nil, beq_self_eq_true, Option.map_none, List.getD_cons_zero, List.getD_cons_succ, ↓wk, ↓wl, nc, evV, wrapBits_eq, ↓reduceIte, Nat.reduceEqDiff, Nat.reduceAdd, Nat.reduceSub, Nat.reduceLeDiff, Nat.reduceLT, Nat.reduceBEq, reduceCtorEq, Int.reduceEq])
              · refine AW.skip ?_
                refine blkQ.norm ?_
                refine AW.rseq ?_
                try simp only [↓wk, ↓wl, nc, evV, wrapBits_eq, ↓reduceIte, Nat.reduceEqDiff, Nat.reduceAdd, Nat.reduceSub, Nat.reduceLeDiff, Nat.reduceLT, Nat.reduceBEq, reduceCtorEq, Int.reduceEq]
                refine evTs_inl (I := f59_C5 s_1960 v_2034 v_2032) (args := [.ptr 0 0, .int .i64 v_2032]) H (by rfl) fd83 (by rfl) (Nat.le_of_ble_eq_true rfl) ?_ ?_ <;> clear H
                · rintro v_ Q_ H hqf59_C5
                  simp only [f59_C5] at H
                  dsimp only [List.length_cons, List.length_nil]
                  refine AW.rseq ?_
                  try simp only [↓wk, ↓wl, nc, evV, wrapBits_eq, ↓reduceIte, Nat.reduceEqDiff, Nat.reduceAdd, Nat.reduceSub, Nat.reduceLeDiff, Nat.reduceLT, Nat.reduceBEq, reduceCtorEq, Int.reduceEq]
                  refine AW.rseq ?_
                  try simp only [↓wk, ↓wl, nc, evV, wrapBits_eq, ↓reduceIte, Nat.reduceEqDiff, Nat.reduceAdd, Nat.reduceSub, Nat.reduceLeDiff, Nat.reduceLT, Nat.reduceBEq, reduceCtorEq, Int.reduceEq]
                  refine AW.rseq ?_
                  try simp only [↓wk, ↓wl, nc, evV, wrapBits_eq, ↓reduceIte, Nat.reduceEqDiff, Nat.reduceAdd, Nat.reduceSub, Nat.reduceLeDiff, Nat.reduceLT, Nat.reduceBEq, reduceCtorEq, Int.reduceEq]
                  refine evTs_sslc H (by rfl) (by simp only [loI, hiI, ↓wk, ↓wl, nc, evV, wrapBits_eq, ↓reduceIte, Nat.reduceEqDiff, Nat.reduceAdd, Nat.reduceSub, Nat.reduceLeDiff, Nat.reduceLT, Nat.reduceBEq, reduceCtorEq, Int.reduceEq]; rfl) (by simp only [loI, hiI, ↓wk, ↓wl, nc, evV, wrapBits_eq, ↓reduceIte, Nat.reduceEqDiff, Nat.reduceAdd, Nat.reduceSub, Nat.reduceLeDiff, Nat.reduceLT, Nat.reduceBEq, reduceCtorEq, Int.reduceEq]; rfl) ?_ <;> clear H <;> intro s_2074 H
                  try simp only [↓wk, ↓wl, nc, evV, wrapBits_eq, ↓reduceIte, Nat.reduceEqDiff, Nat.reduceAdd, Nat.reduceSub, Nat.reduceLeDiff, Nat.reduceLT, Nat.reduceBEq, reduceCtorEq, Int.reduceEq]
                  refine AW.ret ?_
                  cases H
                  exact hqf59_C5 _ _ _ (.inr rfl) (Le.toL 1 (by rfl) [0] [4] (by decide) (by decide) rfl) (by simp only [resVs, omap, resV, f59_C5, List.length_set, Option.map_some, restrict_eq, renS_nil, renS_cons, renB_els, renB_cel, renB_dead, deep_eq, map_ren_enc, ren_agg', ren_tup', ren_fn', ren_int', ren_bool', ren_str', ren_sl', ren_pro', ren_nilp', ren_nilfn', ren_junk', ren_ptr', ren_row', ren_arow', ren_eptr', vm, List.idxOf?_cons, List.idxOf?_nil, beq_self_eq_true, Option.map_none, List.getD_cons_zero, List.getD_cons_succ, ↓wk, ↓wl, nc, evV, wrapBits_eq, ↓reduceIte, Nat.reduceEqDiff, Nat.reduceAdd, Nat.reduceSub, Nat.reduceLeDiff, Nat.reduceLT, Nat.reduceBEq, reduceCtorEq, Int.reduceEq]) (by simp only [f59_C5, List.length_set, Option.map_some, restrict_eq, renS_nil, renS_cons, renB_els, renB_cel, renB_dead, deep_eq, map_ren_enc, ren_agg', ren_tup', ren_fn', ren_int', ren_bool', ren_str', ren_sl', ren_pro', ren_nilp', ren_nilfn', ren_junk', ren_ptr', ren_row', ren_arow', ren_eptr', vm, List.idxOf?_cons, List.idxOf?_nil, beq_self_eq_true, Option.map_none, List.getD_cons_zero, List.getD_cons_succ, ↓wk, ↓wl, nc, evV, wrapBits_eq, ↓reduceIte, Nat.reduceEqDiff, Nat.reduceAdd, Nat.reduceSub, Nat.reduceLeDiff, Nat.reduceLT, Nat.reduceBEq, reduceCtorEq, Int.reduceEq])
                · rintro ⟨v_2072, v_2073⟩ s_ h_ H hs_ hh_
                  simp only [f59_C5] at H hs_ hh_
                  subst hs_
                  subst hh_
                  try simp only [↓wk, ↓wl, nc, evV, wrapBits_eq, ↓reduceIte, Nat.reduceEqDiff, Nat.reduceAdd, Nat.reduceSub, Nat.reduceLeDiff, Nat.reduceLT, Nat.reduceBEq, reduceCtorEq, Int.reduceEq]
                  refine AW.ret ?_
                  cases H
                  exact hqf59_C1 _ _ _ (.inr rfl) (Le.toL 1 (by rfl) [0] [2, 3] (by decide) (by decide) rfl) (by simp only [resVs, omap, resV, f59_C1, List.length_set, Option.map_some, restrict_eq, renS_nil, renS_cons, renB_els, renB_cel, renB_dead, deep_eq, map_ren_enc, ren_agg', ren_tup', ren_fn', ren_int', ren_bool', ren_str', ren_sl', ren_pro', ren_nilp', ren_nilfn', ren_junk', ren_ptr', ren_row', ren_arow', ren_eptr', vm, List.idxOf?_cons, List.idxOf?_nil, beq_self_eq_true, Option.map_none, List.getD_cons_zero, List.getD_cons_succ, ↓wk, ↓wl, nc, evV, wrapBits_eq, ↓reduceIte, Nat.reduceEqDiff, Nat.reduceAdd, Nat.reduceSub, Nat.reduceLeDiff, Nat.reduceLT, Nat.reduceBEq, reduceCtorEq, Int.reduceEq]) (by simp only [f59_C1, List.length_set, Option.map_some, restrict_eq, renS_nil, renS_cons, renB_els, renB_cel, renB_dead, deep_eq, map_ren_enc, ren_agg', ren_tup', ren_fn', ren_int', ren_bool', ren_str', ren_sl', ren_pro', ren_nilp', ren_nilfn', ren_junk', ren_ptr', ren_row', ren_arow', ren_eptr', vm, List.idxOf?_cons, List.idxOf?_nil, beq_self_eq_true, Option.map_none, List.getD_cons_zero, List.getD_cons_succ, ↓wk, ↓wl, nc, evV, wrapBits_eq, ↓reduceIte, Nat.reduceEqDiff, Nat.reduceAdd, Nat.reduceSub, Nat.reduceLeDiff, Nat.reduceLT, Nat.reduceBEq, reduceCtorEq, Int.reduceEq])
    · rintro ⟨v_2001, v_2002, v_2003⟩ s_ h_ H hs_ hh_
      simp only [f59_C1] at H hs_ hh_
      subst hs_
      subst hh_
      try simp only [↓wk, ↓wl, nc, evV, wrapBits_eq, ↓reduceIte, Nat.reduceEqDiff, Nat.reduceAdd, Nat.reduceSub, Nat.reduceLeDiff, Nat.reduceLT, Nat.reduceBEq, reduceCtorEq, Int.reduceEq]
      refine AW.sseq ?_
      refine AW.rseq ?_
      try simp only [↓wk, ↓wl, nc, evV, wrapBits_eq, ↓reduceIte, Nat.reduceEqDiff, Nat.reduceAdd, Nat.reduceSub, Nat.reduceLeDiff, Nat.reduceLT, Nat.reduceBEq, reduceCtorEq, Int.reduceEq]
      refine AW.ifc H (by rfl) ?_ ?_ <;> clear H <;> intro H
      · refine AW.rseq ?_
        try simp only [↓wk, ↓wl, nc, evV, wrapBits_eq, ↓reduceIte, Nat.reduceEqDiff, Nat.reduceAdd, Nat.reduceSub, Nat.reduceLeDiff, Nat.reduceLT, Nat.reduceBEq, reduceCtorEq, Int.reduceEq]
        refine AW.ret ?_
        refine seqQ.ret ?_
        cases H
        exact hQ _ _ _ _ (.inr rfl) (by simp only [resVs, omap, resV, ↓wk, ↓wl, nc, evV, wrapBits_eq, ↓reduceIte, Nat.reduceEqDiff, Nat.reduceAdd, Nat.reduceSub, Nat.reduceLeDiff, Nat.reduceLT, Nat.reduceBEq, reduceCtorEq, Int.reduceEq]; rfl) (hand_plain (by rfl)) (by rfl)
      · refine AW.skip ?_
        refine seqQ.norm ?_
        refine AW.rseq ?_
        try simp only [↓wk, ↓wl, nc, evV, wrapBits_eq, ↓reduceIte, Nat.reduceEqDiff, Nat.reduceAdd, Nat.reduceSub, Nat.reduceLeDiff, Nat.reduceLT, Nat.reduceBEq, reduceCtorEq, Int.reduceEq]
        refine AW.ret ?_
        cases H
        exact hQ _ _ _ _ (.inr rfl) (by simp only [resVs, omap, resV, ↓wk, ↓wl, nc, evV, wrapBits_eq, ↓reduceIte, Nat.reduceEqDiff, Nat.reduceAdd, Nat.reduceSub, Nat.reduceLeDiff, Nat.reduceLT, Nat.reduceBEq, reduceCtorEq, Int.reduceEq]; rfl) (hand_plain (by rfl)) (by rfl)
noncomputable def f34_J1 (r_1868 : RecordEntry × Int × Int) : Jn (Int × Int × Int × Int × Int × Int × Int) (NetworkPacket × Int) where
  run := fun (at_1953, p_1954, p_1955, p_1956, p_1957, source_1958, end_1959) => (f59 r_1868.1.fData at_1953).bind fun r_2075 => (if (decide (r_2075.2.2 ≠ 0)) = true then (some ((NetworkPacket.mk 0 0 0 0 0 false ([])), 3)) else (if (decide (r_2075.2.1 < ((r_1868.1.fData.length : Nat) : Int))) = true then (some ((NetworkPacket.mk 0 0 0 0 0 false ([])), 3)) else (if (decide (source_1958 < 0)) = true then (some ((NetworkPacket.mk 0 0 0 0 0 false ([])), 3)) else (f40 end_1959 0 1).bind fun r_2077 => (if (!r_2077) = true then (some ((NetworkPacket.mk 0 0 0 0 0 false ([])), 3)) else (f28 (NetworkPacket.mk (IntKind.u64.wrap source_1958) p_1954 p_1955 p_1956 p_1957 (decide (end_1959 = 1)) r_2075.1)).bind fun r_2078 => (if (decide (r_2078 ≠ 0)) = true then (some ((NetworkPacket.mk 0 0 0 0 0 false ([])), r_2078)) else (some ((NetworkPacket.mk (IntKind.u64.wrap source_1958) p_1954 p_1955 p_1956 p_1957 (decide (end_1959 = 1)) r_2075.1), 0)))))))
  cst := fun (at_1953, p_1954, p_1955, p_1956, p_1957, source_1958, end_1959) => ⟨put (put (put (put (put (put (fun _ => .junk) 10 (.int .i64 at_1953)) 9 (.ptr 4 0)) 8 (.ptr 3 0)) 7 (.ptr 2 0)) 4 (.ptr 1 0)) 2 (.ptr 0 0), [.cel [.int .u64 0, .int .i64 0, .int .i64 0, .int .i64 0, .int .i64 0, .bool false, .str ([])], .cel [.int .i64 r_1868.1.fKind, .str r_1868.1.fData], .cel [.int .u64 0, .int .i64 p_1954, .int .i64 p_1955, .int .i64 p_1956, .int .i64 p_1957, .bool false, .str ([])], .cel [.int .i64 source_1958], .cel [.int .i64 end_1959]]⟩
def c34_0 : C := .cond (.t 31) (.seq (.reg [iI 35 (.build [(1, (.int .u64 0)), (1, (.int .i64 0)), (1, (.int .i64 0)), (1, (.int .i64 0)), (1, (.int .i64 0)), (1, (.bool false)), (1, (.str []))] []), iN (.store 7 (.t 2) (.t 35)), iI 3 (.mv (.c (.int .i64 1)))]) .ret) (.skip)
def c34_1 : C := .cond (.t 25) (.seq (.reg [iI 30 (.build [(1, (.int .u64 0)), (1, (.int .i64 0)), (1, (.int .i64 0)), (1, (.int .i64 0)), (1, (.int .i64 0)), (1, (.bool false)), (1, (.str []))] []), iN (.store 7 (.t 2) (.t 30)), iI 3 (.mv (.c (.int .i64 13)))]) .ret) (.seq (.reg [iI 32 (.faddr 0 (.t 4)), iI 33 (.load 0 (.t 32)), iI 34 (.bin .neq (.t 33) (.c (.int .i64 85))), iI 31 (.mv (.t 34))]) c34_0)
def c34_2 : C := .cond (.t 20) (.seq (.reg [iI 23 (.build [(1, (.int .u64 0)), (1, (.int .i64 0)), (1, (.int .i64 0)), (1, (.int .i64 0)), (1, (.int .i64 0)), (1, (.bool false)), (1, (.str []))] []), iI 24 (.mv (.t 6)), iN (.store 7 (.t 2) (.t 23)), iI 3 (.mv (.t 24))]) .ret) (.seq (.reg [iI 26 (.mv (.t 5)), iI 27 (.mv (.t 0)), iI 28 (.len 1 (.t 27)), iI 29 (.bin .lss (.t 26) (.t 28)), iI 25 (.mv (.t 29))]) c34_1)
def c34_3 : C := .cond (.t 55) (.seq (.reg [iI 56 (.build [(1, (.int .u64 0)), (1, (.int .i64 0)), (1, (.int .i64 0)), (1, (.int .i64 0)), (1, (.int .i64 0)), (1, (.bool false)), (1, (.str []))] []), iN (.store 7 (.t 2) (.t 56)), iI 3 (.mv (.c (.int .i64 3)))]) .ret) (.skip)
def c34_4 : C := .seq (.reg [iI 54 (.mv (.t 6)), iI 55 (.bin .neq (.t 54) (.c (.int .i64 0)))]) c34_3
def c34_5 : C := .seq (.reg [iI 45 (.mv (.t 12)), iI 46 (.faddr 1 (.t 4)), iI 47 (.load 0 (.t 46)), iI 48 (.mv (.t 10)), iI 49 (.call (.c (.fn 58 [])) [(.t 47), (.t 48)]), iI 44 (.mv (.t 49)), iI 50 (.ext (.t 44) 0), iI 51 (.ext (.t 44) 1), iI 52 (.ext (.t 44) 2), iI 53 (.nilchk (.t 45)), iN (.store 0 (.t 53) (.t 50)), iI 10 (.mv (.t 51)), iI 6 (.mv (.t 52))]) c34_4
def c34_6 : C := .reg [iI 57 (.bin .add (.t 41) (.c (.int .i64 1))), iI 41 (.mv (.t 57))]
def c34_7 : C := .seq (.block 2 (.seq (.reg [iI 43 (.idx 0 6 (.t 40) (.t 41)), iI 12 (.mv (.t 43))]) c34_5)) c34_6
def c34_8 : C := .seq (.cond (.t 42) (.skip) (.exit 1)) c34_7
def c34_9 : C := .block 1 (.loop (.seq (.reg [iI 42 (.bin .lss (.t 41) (.c (.int .i64 6)))]) c34_8))
def c34_10 : C := .cond (.t 84) (.seq (.reg [iI 85 (.build [(1, (.int .u64 0)), (1, (.int .i64 0)), (1, (.int .i64 0)), (1, (.int .i64 0)), (1, (.int .i64 0)), (1, (.bool false)), (1, (.str []))] []), iN (.store 7 (.t 2) (.t 85)), iI 3 (.mv (.c (.int .i64 3)))]) .ret) (.skip)
def c34_11 : C := .cond (.t 95) (.seq (.reg [iI 96 (.build [(1, (.int .u64 0)), (1, (.int .i64 0)), (1, (.int .i64 0)), (1, (.int .i64 0)), (1, (.int .i64 0)), (1, (.bool false)), (1, (.str []))] []), iI 97 (.mv (.t 13)), iN (.store 7 (.t 2) (.t 96)), iI 3 (.mv (.t 97))]) .ret) (.skip)
def c34_12 : C := .seq (.reg [iI 94 (.mv (.t 13)), iI 95 (.bin .neq (.t 94) (.c (.int .i64 0)))]) c34_11
def c34_13 : C := .seq (.reg [iI 98 (.load 7 (.t 7)), iN (.store 7 (.t 2) (.t 98)), iI 3 (.mv (.c (.int .i64 0)))]) .ret
def c34_14 : C := .seq (.seq (.reg [iI 92 (.load 7 (.t 7)), iI 93 (.call (.c (.fn 28 [])) [(.t 92)]), iI 13 (.mv (.t 93))]) c34_12) c34_13
def c34_15 : C := .seq (.reg [iI 86 (.load 0 (.t 8)), iI 87 (.cint .u64 (.t 86)), iI 88 (.load 0 (.t 9)), iI 89 (.bin .eql (.t 88) (.c (.int .i64 1))), iI 90 (.faddr 0 (.t 7)), iN (.store 0 (.t 90) (.t 87)), iI 91 (.faddr 5 (.t 7)), iN (.store 0 (.t 91) (.t 89))]) c34_14
def c34_16 : C := .seq (.seq (.reg [iI 67 (.mv (.t 6)), iI 68 (.bin .neq (.t 67) (.c (.int .i64 0))), iI 69 (.mv (.t 68)), iG (some 70) 69 false (.mv (.t 10)), iG (some 71) 69 false (.faddr 1 (.t 4)), iG (some 72) 69 false (.load 0 (.t 71)), iG (some 73) 69 false (.len 1 (.t 72)), iG (some 74) 69 false (.bin .lss (.t 70) (.t 73)), iI 75 (.pick (.t 69) (.c (.bool true)) (.t 74)), iI 76 (.mv (.t 75)), iG (some 77) 76 false (.load 0 (.t 8)), iG (some 78) 76 false (.bin .lss (.t 77) (.c (.int .i64 0))), iI 79 (.pick (.t 76) (.c (.bool true)) (.t 78)), iI 80 (.mv (.t 79)), iG (some 81) 80 false (.load 0 (.t 9)), iG (some 82) 80 false (.call (.c (.fn 40 [])) [(.t 81), (.c (.int .i64 0)), (.c (.int .i64 1))]), iG (some 83) 80 false (.un .not (.t 82)), iI 84 (.pick (.t 80) (.c (.bool true)) (.t 83))]) c34_10) c34_15
def c34_17 : C := .seq (.reg [iI 59 (.faddr 1 (.t 4)), iI 60 (.load 0 (.t 59)), iI 61 (.mv (.t 10)), iI 62 (.call (.c (.fn 59 [])) [(.t 60), (.t 61)]), iI 58 (.mv (.t 62)), iI 63 (.ext (.t 58) 0), iI 64 (.ext (.t 58) 1), iI 65 (.ext (.t 58) 2), iI 66 (.faddr 6 (.t 7)), iN (.store 0 (.t 66) (.t 63)), iI 10 (.mv (.t 64)), iI 6 (.mv (.t 65))]) c34_16
def c34_18 : C := .seq (.seq (.reg [iI 36 (.faddr 1 (.t 7)), iI 37 (.faddr 2 (.t 7)), iI 38 (.faddr 3 (.t 7)), iI 39 (.faddr 4 (.t 7)), iI 40 (.build [(6, .nilp)] [(0, 0, (.t 8)), (1, 0, (.t 36)), (2, 0, (.t 37)), (3, 0, (.t 38)), (4, 0, (.t 39)), (5, 0, (.t 9))]), iI 41 (.mv (.c (.int .i64 0)))]) c34_9) c34_17
def c34_19 : C := .seq (.reg [iI 8 (.alloc [(1, (.int .i64 0))]), iI 9 (.alloc [(1, (.int .i64 0))]), iN (.store 0 (.t 8) (.c (.int .i64 0))), iN (.store 0 (.t 9) (.c (.int .i64 0))), iI 10 (.mv (.c (.int .i64 0)))]) c34_18
def c34_20 : C := .seq (.reg [iI 7 (.alloc [(1, (.int .u64 0)), (1, (.int .i64 0)), (1, (.int .i64 0)), (1, (.int .i64 0)), (1, (.int .i64 0)), (1, (.bool false)), (1, (.str []))])]) c34_19
def c34_21 : C := .seq (.block 0 (.seq (.reg [iI 21 (.mv (.t 6)), iI 22 (.bin .neq (.t 21) (.c (.int .i64 0))), iI 20 (.mv (.t 22))]) c34_2)) c34_20
def c34_22 : C := .seq (.reg [iI 15 (.mv (.t 0)), iI 16 (.call (.c (.fn 57 [])) [(.t 15), (.c (.int .i64 0))]), iI 14 (.mv (.t 16)), iI 17 (.ext (.t 14) 0), iI 18 (.ext (.t 14) 1), iI 19 (.ext (.t 14) 2), iI 4 (.alloc [(1, (.int .i64 0)), (1, (.str []))]), iN (.store 2 (.t 4) (.t 17)), iI 5 (.mv (.t 18)), iI 6 (.mv (.t 19))]) c34_21
end Go.Proofs.Ytlidbikdeboihaa
