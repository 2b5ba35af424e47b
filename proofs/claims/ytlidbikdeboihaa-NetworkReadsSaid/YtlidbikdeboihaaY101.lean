import Derived.Test.YtlidbikdeboihaaX2
import Derived.Test.YtlidbikdeboihaaProg
import Derived.KernelRfl
namespace Go.Proofs.Ytlidbikdeboihaa
open Go Go.Ab

set_option maxHeartbeats 1000000
set_option linter.unusedSimpArgs false
set_option linter.unusedVariables false
structure RecordEntry where
  fKind : Int
  fData : (List UInt8)
def eRecordEntry (x : RecordEntry) : AV := .agg [.int .i64 x.fKind, .str x.fData]
instance : IsFlat eRecordEntry := ⟨fun _ => rfl⟩
instance : IsEnc 2 eRecordEntry := ⟨fun _ => rfl, fun _ => rfl, fun _ => rfl⟩
structure RecordReader where
  fS : (List UInt8)
  fAt : Int
def eRecordReader (x : RecordReader) : AV := .agg [.str x.fS, .int .i64 x.fAt]
instance : IsFlat eRecordReader := ⟨fun _ => rfl⟩
instance : IsEnc 2 eRecordReader := ⟨fun _ => rfl, fun _ => rfl, fun _ => rfl⟩
structure Ref56Packet where
  fSource : Int
  fUniverse : Int
  fPriority : Int
  fSeq : Int
  fSync : Int
  fEnd : Bool
  fSlots : (List UInt8)
def eRef56Packet (x : Ref56Packet) : AV := .agg [.int .u64 x.fSource, .int .i64 x.fUniverse, .int .i64 x.fPriority, .int .i64 x.fSeq, .int .i64 x.fSync, .bool x.fEnd, .str x.fSlots]
instance : IsFlat eRef56Packet := ⟨fun _ => rfl⟩
instance : IsEnc 7 eRef56Packet := ⟨fun _ => rfl, fun _ => rfl, fun _ => rfl⟩
structure Ref08Entry where
  fKind : Int
  fData : (List UInt8)
def eRef08Entry (x : Ref08Entry) : AV := .agg [.int .i64 x.fKind, .str x.fData]
instance : IsFlat eRef08Entry := ⟨fun _ => rfl⟩
instance : IsEnc 2 eRef08Entry := ⟨fun _ => rfl, fun _ => rfl, fun _ => rfl⟩
def c81_0 : C := .cond (.t 19) (.seq (.reg [iI 2 (.mv (.c (.int .i64 2)))]) .ret) (.skip)
def c81_1 : C := .seq (.reg [iI 2 (.mv (.c (.int .i64 0)))]) .ret
def c81_2 : C := .seq (.seq (.reg [iI 3 (.mv (.t 0)), iI 4 (.nilchk (.t 3)), iI 5 (.faddr 1 (.t 4)), iI 6 (.load 0 (.t 5)), iI 7 (.bin .lss (.t 6) (.c (.int .i64 0))), iI 8 (.mv (.t 7)), iG (some 9) 8 false (.mv (.t 0)), iG (some 10) 8 false (.nilchk (.t 9)), iG (some 11) 8 false (.faddr 1 (.t 10)), iG (some 12) 8 false (.load 0 (.t 11)), iG (some 13) 8 false (.mv (.t 0)), iG (some 14) 8 false (.nilchk (.t 13)), iG (some 15) 8 false (.faddr 0 (.t 14)), iG (some 16) 8 false (.load 0 (.t 15)), iG (some 17) 8 false (.len 1 (.t 16)), iG (some 18) 8 false (.bin .gtr (.t 12) (.t 17)), iI 19 (.pick (.t 8) (.c (.bool true)) (.t 18))]) c81_0) c81_1
def ir81 : C := .seq (.reg [iI 2 (.mv (.c (.int .i64 0)))]) c81_2
theorem fd81 : fd? Try.prog 81 = some (20, [.slot 2], ir81) := by kernel_rfl
noncomputable def f81p (r_1743 : (List UInt8)) (r_1744 : Int) : Option (Int) :=
  (if (decide (r_1744 < 0)) = true then (some 2) else (if (decide (((r_1743.length : Nat) : Int) < r_1744)) = true then (some 2) else (some 0)))
theorem f81p_ok {r_1743 : (List UInt8)} {r_1744 : Int} {r_ : Int} (H : f81p r_1743 r_1744 = some r_) : Pure Try.prog 81 [.pro [.str r_1743, .int .i64 r_1744]] (· = .int .i64 r_) := by
  refine Pure.walk2 fd81 none (Nat.le_of_ble_eq_true rfl) (by rfl) fun Q hQ => ?_
  simp only [f81p] at H
  refine AW.rseq ?_
  try simp only [↓wk, ↓wl, nc, evV, wrapBits_eq, ↓reduceIte, Nat.reduceEqDiff, Nat.reduceAdd, Nat.reduceSub, Nat.reduceLeDiff, Nat.reduceLT, Nat.reduceBEq, reduceCtorEq, Int.reduceEq]
  refine AW.sseq ?_
  refine AW.rseq ?_
  try simp only [↓wk, ↓wl, nc, evV, wrapBits_eq, ↓reduceIte, Nat.reduceEqDiff, Nat.reduceAdd, Nat.reduceSub, Nat.reduceLeDiff, Nat.reduceLT, Nat.reduceBEq, reduceCtorEq, Int.reduceEq]
  refine evTs_ifg H (by rfl) ?_ ?_ <;> clear H <;> intro H
  · try simp only [↓wk, ↓wl, nc, evV, wrapBits_eq, ↓reduceIte, Nat.reduceEqDiff, Nat.reduceAdd, Nat.reduceSub, Nat.reduceLeDiff, Nat.reduceLT, Nat.reduceBEq, reduceCtorEq, Int.reduceEq]
    refine AW.ift (by rfl) ?_
    refine AW.rseq ?_
    try simp only [↓wk, ↓wl, nc, evV, wrapBits_eq, ↓reduceIte, Nat.reduceEqDiff, Nat.reduceAdd, Nat.reduceSub, Nat.reduceLeDiff, Nat.reduceLT, Nat.reduceBEq, reduceCtorEq, Int.reduceEq]
    refine AW.ret ?_
    refine seqQ.ret ?_
    cases H
    exact hQ _ _ _ _ (.inr rfl) (by simp only [resVs, omap, resV, ↓wk, ↓wl, nc, evV, wrapBits_eq, ↓reduceIte, Nat.reduceEqDiff, Nat.reduceAdd, Nat.reduceSub, Nat.reduceLeDiff, Nat.reduceLT, Nat.reduceBEq, reduceCtorEq, Int.reduceEq]; rfl) (hand_plain (by rfl)) (by rfl)
  · try simp only [↓wk, ↓wl, nc, evV, wrapBits_eq, ↓reduceIte, Nat.reduceEqDiff, Nat.reduceAdd, Nat.reduceSub, Nat.reduceLeDiff, Nat.reduceLT, Nat.reduceBEq, reduceCtorEq, Int.reduceEq]
    refine AW.ifc H (by rfl) ?_ ?_ <;> clear H <;> intro H
    · refine AW.rseq ?_
      try simp only [↓wk, ↓wl, nc, evV, wrapBits_eq, ↓reduceIte, Nat.reduceEqDiff, Nat.reduceAdd, Nat.reduceSub, Nat.reduceLeDiff, Nat.reduceLT, Nat.reduceBEq, reduceCtorEq, Int.reduceEq]
      refine AW.ret ?_
      refine seqQ.ret ?_
      cases H
      exact hQ _ _ _ _ (.inr rfl) (by simp only [resVs, omap, resV, ↓wk, ↓wl, nc, evV, wrapBits_eq, ↓reduceIte, Nat.reduceEqDiff, Nat.reduceAdd, Nat.reduceSub, Nat.reduceLeDiff, Nat.reduceLT, Nat.reduceBEq, reduceCtorEq, Int.reduceEq]; rfl) (hand_plain (by rfl)) (by rfl)
    · refine AW.skip ?_
      refine seqQ.norm ?_
      refine AW.rseq ?_
      try simp only [↓wk, ↓wl, nc, evV, wrapBits_eq, ↓reduceIte, Nat.reduceEqDiff, Nat.reduceAdd, Nat.reduceSub, Nat.reduceLeDiff, Nat.reduceLT, Nat.reduceBEq, reduceCtorEq, Int.reduceEq]
      refine AW.ret ?_
      cases H
      exact hQ _ _ _ _ (.inr rfl) (by simp only [resVs, omap, resV, ↓wk, ↓wl, nc, evV, wrapBits_eq, ↓reduceIte, Nat.reduceEqDiff, Nat.reduceAdd, Nat.reduceSub, Nat.reduceLeDiff, Nat.reduceLT, Nat.reduceBEq, reduceCtorEq, Int.reduceEq]; rfl) (hand_plain (by rfl)) (by rfl)
def c82_0 : C := .seq (.reg [iI 5 (.mv (.t 1)), iI 6 (.mv (.t 0)), iI 7 (.nilchk (.t 6)), iI 8 (.faddr 0 (.t 7)), iI 9 (.load 0 (.t 8)), iI 10 (.len 1 (.t 9)), iI 11 (.mv (.t 0)), iI 12 (.nilchk (.t 11)), iI 13 (.faddr 1 (.t 12)), iI 14 (.load 0 (.t 13)), iI 15 (.bin .sub (.t 10) (.t 14)), iI 16 (.bin .leq (.t 5) (.t 15)), iI 4 (.mv (.t 16))]) .ret
def ir82 : C := .seq (.reg [iI 4 (.mv (.c (.bool false)))]) c82_0
theorem fd82 : fd? Try.prog 82 = some (17, [.slot 4], ir82) := by kernel_rfl
noncomputable def f82p (r_1747 : (List UInt8)) (r_1748 : Int) (n_1749 : Int) : Option (Bool) :=
  (some (decide (n_1749 ≤ (IntKind.i64.wrap (((r_1747.length : Nat) : Int) - r_1748)))))
theorem f82p_ok {r_1747 : (List UInt8)} {r_1748 : Int} {n_1749 : Int} {r_ : Bool} (H : f82p r_1747 r_1748 n_1749 = some r_) : Pure Try.prog 82 [.pro [.str r_1747, .int .i64 r_1748], .int .i64 n_1749] (· = .bool r_) := by
  refine Pure.walk2 fd82 none (Nat.le_of_ble_eq_true rfl) (by rfl) fun Q hQ => ?_
  simp only [f82p] at H
  refine AW.rseq ?_
  try simp only [↓wk, ↓wl, nc, evV, wrapBits_eq, ↓reduceIte, Nat.reduceEqDiff, Nat.reduceAdd, Nat.reduceSub, Nat.reduceLeDiff, Nat.reduceLT, Nat.reduceBEq, reduceCtorEq, Int.reduceEq]
  refine AW.rseq ?_
  try simp only [↓wk, ↓wl, nc, evV, wrapBits_eq, ↓reduceIte, Nat.reduceEqDiff, Nat.reduceAdd, Nat.reduceSub, Nat.reduceLeDiff, Nat.reduceLT, Nat.reduceBEq, reduceCtorEq, Int.reduceEq]
  refine AW.ret ?_
  cases H
  exact hQ _ _ _ _ (.inr rfl) (by simp only [resVs, omap, resV, ↓wk, ↓wl, nc, evV, wrapBits_eq, ↓reduceIte, Nat.reduceEqDiff, Nat.reduceAdd, Nat.reduceSub, Nat.reduceLeDiff, Nat.reduceLT, Nat.reduceBEq, reduceCtorEq, Int.reduceEq]; rfl) (hand_plain (by rfl)) (by rfl)
def c83_0 : C := .seq (.reg [iI 13 (.mv (.t 0)), iI 14 (.nilchk (.t 13)), iI 15 (.faddr 0 (.t 14)), iI 16 (.load 0 (.t 15)), iI 17 (.mv (.t 0)), iI 18 (.nilchk (.t 17)), iI 19 (.faddr 1 (.t 18)), iI 20 (.load 0 (.t 19)), iI 21 (.mv (.t 1)), iI 22 (.bin .sub (.t 20) (.t 21)), iI 23 (.mv (.t 0)), iI 24 (.nilchk (.t 23)), iI 25 (.faddr 1 (.t 24)), iI 26 (.load 0 (.t 25)), iI 27 (.sslice (.t 16) (some (.t 22)) (some (.t 26))), iI 4 (.mv (.t 27))]) .ret
def c83_1 : C := .seq (.reg [iI 5 (.mv (.t 0)), iI 6 (.nilchk (.t 5)), iI 7 (.faddr 1 (.t 6)), iI 8 (.load 0 (.t 7)), iI 9 (.mv (.t 1)), iI 10 (.bin .add (.t 8) (.t 9)), iI 11 (.nilchk (.t 5)), iI 12 (.faddr 1 (.t 11)), iN (.store 0 (.t 12) (.t 10))]) c83_0
def ir83 : C := .seq (.reg [iI 4 (.mv (.c (.str [])))]) c83_1
theorem fd83 : fd? Try.prog 83 = some (28, [.slot 4], ir83) := by kernel_rfl
noncomputable def f57_C1 (s_1741 : (List UInt8)) (at_1742 : Int) : Il ((List UInt8) × Int) where
  run := (slc? s_1741 (IntKind.i64.wrap ((IntKind.i64.wrap (at_1742 + 3)) - 3)) (IntKind.i64.wrap (at_1742 + 3))).bind fun s_1758 => (some (s_1758, (IntKind.i64.wrap (at_1742 + 3))))
  res := fun (v_1756, v_1757) => .str v_1756
  hp := fun (v_1756, v_1757) => [.cel [.int .i64 0, .str ([])], .cel [.str s_1741, .int .i64 v_1757]]
noncomputable def f57_C2 (s_1741 : (List UInt8)) (v_1757 : Int) (b_1759 : UInt8) (b_1760 : UInt8) : Il ((List UInt8) × Int) where
  run := (slc? s_1741 (IntKind.i64.wrap ((IntKind.i64.wrap (v_1757 + (IntKind.i64.wrap ((BitVec.ofInt (IntKind.bits .i64) (IntKind.i64.wrap ((IntKind.i64.wrap (b_1759.toNat : Int)) * 2 ^ (min (Int.toNat 8) (IntKind.bits .i64)))) ||| BitVec.ofInt (IntKind.bits .i64) (IntKind.i64.wrap (b_1760.toNat : Int))).toNat : Int)))) - (IntKind.i64.wrap ((BitVec.ofInt (IntKind.bits .i64) (IntKind.i64.wrap ((IntKind.i64.wrap (b_1759.toNat : Int)) * 2 ^ (min (Int.toNat 8) (IntKind.bits .i64)))) ||| BitVec.ofInt (IntKind.bits .i64) (IntKind.i64.wrap (b_1760.toNat : Int))).toNat : Int)))) (IntKind.i64.wrap (v_1757 + (IntKind.i64.wrap ((BitVec.ofInt (IntKind.bits .i64) (IntKind.i64.wrap ((IntKind.i64.wrap (b_1759.toNat : Int)) * 2 ^ (min (Int.toNat 8) (IntKind.bits .i64)))) ||| BitVec.ofInt (IntKind.bits .i64) (IntKind.i64.wrap (b_1760.toNat : Int))).toNat : Int))))).bind fun s_1766 => (some (s_1766, (IntKind.i64.wrap (v_1757 + (IntKind.i64.wrap ((BitVec.ofInt (IntKind.bits .i64) (IntKind.i64.wrap ((IntKind.i64.wrap (b_1759.toNat : Int)) * 2 ^ (min (Int.toNat 8) (IntKind.bits .i64)))) ||| BitVec.ofInt (IntKind.bits .i64) (IntKind.i64.wrap (b_1760.toNat : Int))).toNat : Int))))))
  res := fun (v_1764, v_1765) => .str v_1764
  hp := fun (v_1764, v_1765) => [.cel [.int .i64 0, .str ([])], .cel [.str s_1741, .int .i64 v_1765]]
noncomputable def f77_L1 (s_1771 : (List UInt8)) : Lp (Int × Int × Int) (Int × Int) where
  body := fun (a_1777, b_1778, v_1779) => (if (decide (v_1779 < ((s_1771.length : Nat) : Int))) = true then (at? s_1771 v_1779).bind fun b_1783 => (some (.next (((IntKind.u64.wrap (a_1777 + (IntKind.u64.wrap (b_1783.toNat : Int)))).tmod 255), ((IntKind.u64.wrap (b_1778 + ((IntKind.u64.wrap (a_1777 + (IntKind.u64.wrap (b_1783.toNat : Int)))).tmod 255))).tmod 255), (IntKind.i64.wrap (v_1779 + 1))))) else (some (.brk (a_1777, b_1778))))
  cst := fun (a_1777, b_1778, v_1779) => ⟨put (put (put (put (put (fun _ => .junk) 8 (.int .i64 v_1779)) 7 (.int .i64 ((s_1771.length : Nat) : Int))) 4 (.int .u64 b_1778)) 3 (.int .u64 a_1777)) 0 (.str s_1771), []⟩
def c77_0 : C := .reg [iI 18 (.mv (.t 4)), iI 19 (.mv (.t 3)), iI 20 (.bin .add (.t 18) (.t 19)), iI 21 (.bin .rem (.t 20) (.c (.int .u64 255))), iI 4 (.mv (.t 21))]
def c77_1 : C := .seq (.reg [iI 11 (.mv (.t 3)), iI 12 (.mv (.t 0)), iI 13 (.mv (.t 5)), iI 14 (.sidx (.t 12) (.t 13)), iI 15 (.cint .u64 (.t 14)), iI 16 (.bin .add (.t 11) (.t 15)), iI 17 (.bin .rem (.t 16) (.c (.int .u64 255))), iI 3 (.mv (.t 17))]) c77_0
def c77_2 : C := .reg [iI 22 (.bin .add (.t 8) (.c (.int .i64 1))), iI 8 (.mv (.t 22))]
def c77_3 : C := .seq (.block 1 (.seq (.reg [iI 10 (.mv (.t 8)), iI 5 (.mv (.t 10))]) c77_1)) c77_2
def c77_4 : C := .seq (.cond (.t 9) (.skip) (.exit 0)) c77_3
def c77_5 : C := .block 0 (.loop (.seq (.reg [iI 9 (.bin .lss (.t 8) (.t 7))]) c77_4))
def c77_6 : C := .seq (.reg [iI 23 (.mv (.t 4)), iI 24 (.bin .shl (.t 23) (.c (.int .u64 8))), iI 25 (.mv (.t 3)), iI 26 (.bin .or (.t 24) (.t 25)), iI 27 (.cint .i64 (.t 26)), iI 2 (.mv (.t 27))]) .ret
def c77_7 : C := .seq (.seq (.reg [iI 6 (.mv (.t 0)), iI 7 (.len 1 (.t 6)), iI 8 (.mv (.c (.int .i64 0)))]) c77_5) c77_6
def c77_8 : C := .seq (.reg [iI 3 (.mv (.c (.int .u64 0))), iI 4 (.mv (.c (.int .u64 0)))]) c77_7
def ir77 : C := .seq (.reg [iI 2 (.mv (.c (.int .i64 0)))]) c77_8
theorem fd77 : fd? Try.prog 77 = some (28, [.slot 2], ir77) := by kernel_rfl
noncomputable def f77 (s_1771 : (List UInt8)) : Option (Int) :=
  (Lp.run (f77_L1 s_1771) (0, 0, 0)).bind fun (a_1781, b_1782) => (some (IntKind.i64.wrap (IntKind.u64.wrap ((BitVec.ofInt (IntKind.bits .u64) (IntKind.u64.wrap (b_1782 * 2 ^ (min (Int.toNat 8) (IntKind.bits .u64)))) ||| BitVec.ofInt (IntKind.bits .u64) a_1781).toNat : Int))))
theorem f77_ok {s_1771 : (List UInt8)} {r_ : Int} (H : f77 s_1771 = some r_) : Pure Try.prog 77 [.str s_1771] (· = .int .i64 r_) := by
  refine Pure.walk2 fd77 none (Nat.le_of_ble_eq_true rfl) (by rfl) fun Q hQ => ?_
  simp only [f77] at H
  refine AW.rseq ?_
  try simp only [↓wk, ↓wl, nc, evV, wrapBits_eq, ↓reduceIte, Nat.reduceEqDiff, Nat.reduceAdd, Nat.reduceSub, Nat.reduceLeDiff, Nat.reduceLT, Nat.reduceBEq, reduceCtorEq, Int.reduceEq]
  refine AW.rseq ?_
  try simp only [↓wk, ↓wl, nc, evV, wrapBits_eq, ↓reduceIte, Nat.reduceEqDiff, Nat.reduceAdd, Nat.reduceSub, Nat.reduceLeDiff, Nat.reduceLT, Nat.reduceBEq, reduceCtorEq, Int.reduceEq]
  refine AW.sseq ?_
  refine AW.rseq ?_
  try simp only [↓wk, ↓wl, nc, evV, wrapBits_eq, ↓reduceIte, Nat.reduceEqDiff, Nat.reduceAdd, Nat.reduceSub, Nat.reduceLeDiff, Nat.reduceLT, Nat.reduceBEq, reduceCtorEq, Int.reduceEq]
  refine AW.bend ?_
  refine AW.iter H ((Le.none [] [0, 3, 4, 7, 8] (by decide) (by simp only [f77_L1, List.length_set, Option.map_some, restrict_eq, renS_nil, renS_cons, renB_els, renB_cel, renB_dead, deep_eq, map_ren_enc, ren_agg', ren_tup', ren_fn', ren_int', ren_bool', ren_str', ren_sl', ren_pro', ren_nilp', ren_nilfn', ren_junk', ren_ptr', ren_row', ren_arow', ren_eptr', vm, List.idxOf?_cons, List.idxOf?_nil, beq_self_eq_true, Option.map_none, List.getD_cons_zero, List.getD_cons_succ, ↓wk, ↓wl, nc, evV, wrapBits_eq, ↓reduceIte, Nat.reduceEqDiff, Nat.reduceAdd, Nat.reduceSub, Nat.reduceLeDiff, Nat.reduceLT, Nat.reduceBEq, reduceCtorEq, Int.reduceEq]))) ?_ <;> clear H
  rintro ⟨a_1777, b_1778, v_1779⟩ x_ st0_ H hst_
  simp only [f77_L1] at H hst_
  subst hst_
  refine AW.rseq ?_
  try simp only [↓wk, ↓wl, nc, evV, wrapBits_eq, ↓reduceIte, Nat.reduceEqDiff, Nat.reduceAdd, Nat.reduceSub, Nat.reduceLeDiff, Nat.reduceLT, Nat.reduceBEq, reduceCtorEq, Int.reduceEq]
  refine AW.sseq ?_
  refine AW.ifc H (by rfl) ?_ ?_ <;> clear H <;> intro H
  · refine AW.skip ?_
    refine seqQ.norm ?_
    refine AW.bseq ?_
    refine AW.rseq ?_
    try simp only [↓wk, ↓wl, nc, evV, wrapBits_eq, ↓reduceIte, Nat.reduceEqDiff, Nat.reduceAdd, Nat.reduceSub, Nat.reduceLeDiff, Nat.reduceLT, Nat.reduceBEq, reduceCtorEq, Int.reduceEq]
    refine AW.rseq ?_
    try simp only [↓wk, ↓wl, nc, evV, wrapBits_eq, ↓reduceIte, Nat.reduceEqDiff, Nat.reduceAdd, Nat.reduceSub, Nat.reduceLeDiff, Nat.reduceLT, Nat.reduceBEq, reduceCtorEq, Int.reduceEq]
    refine evTs_sat H (by rfl) (by rfl) ?_ <;> clear H <;> intro b_1783 H
    try simp only [↓wk, ↓wl, nc, evV, wrapBits_eq, ↓reduceIte, Nat.reduceEqDiff, Nat.reduceAdd, Nat.reduceSub, Nat.reduceLeDiff, Nat.reduceLT, Nat.reduceBEq, reduceCtorEq, Int.reduceEq]
    refine AW.rend ?_
    try simp only [↓wk, ↓wl, nc, evV, wrapBits_eq, ↓reduceIte, Nat.reduceEqDiff, Nat.reduceAdd, Nat.reduceSub, Nat.reduceLeDiff, Nat.reduceLT, Nat.reduceBEq, reduceCtorEq, Int.reduceEq]
    refine blkQ.norm ?_
    refine AW.rend ?_
    try simp only [↓wk, ↓wl, nc, evV, wrapBits_eq, ↓reduceIte, Nat.reduceEqDiff, Nat.reduceAdd, Nat.reduceSub, Nat.reduceLeDiff, Nat.reduceLT, Nat.reduceBEq, reduceCtorEq, Int.reduceEq]
    exact loopQ.next H ((Le.none [] [0, 3, 4, 7, 8] (by decide) (by simp only [f77_L1, List.length_set, Option.map_some, restrict_eq, renS_nil, renS_cons, renB_els, renB_cel, renB_dead, deep_eq, map_ren_enc, ren_agg', ren_tup', ren_fn', ren_int', ren_bool', ren_str', ren_sl', ren_pro', ren_nilp', ren_nilfn', ren_junk', ren_ptr', ren_row', ren_arow', ren_eptr', vm, List.idxOf?_cons, List.idxOf?_nil, beq_self_eq_true, Option.map_none, List.getD_cons_zero, List.getD_cons_succ, ↓wk, ↓wl, nc, evV, wrapBits_eq, ↓reduceIte, Nat.reduceEqDiff, Nat.reduceAdd, Nat.reduceSub, Nat.reduceLeDiff, Nat.reduceLT, Nat.reduceBEq, reduceCtorEq, Int.reduceEq])))
  · refine AW.exit ?_
    refine seqQ.exit ?_
    refine loopQ.exit H ?_ <;> clear H <;> intro H
    try dsimp only at H
    refine blk0.here ?_
    refine seqQ.norm ?_
    refine AW.rseq ?_
    try simp only [↓wk, ↓wl, nc, evV, wrapBits_eq, ↓reduceIte, Nat.reduceEqDiff, Nat.reduceAdd, Nat.reduceSub, Nat.reduceLeDiff, Nat.reduceLT, Nat.reduceBEq, reduceCtorEq, Int.reduceEq]
    refine rest_shl (by decide) ?_
    try simp only [↓wk, ↓wl, nc, evV, wrapBits_eq, ↓reduceIte, Nat.reduceEqDiff, Nat.reduceAdd, Nat.reduceSub, Nat.reduceLeDiff, Nat.reduceLT, Nat.reduceBEq, reduceCtorEq, Int.reduceEq]
    refine rest_or ?_
    try simp only [↓wk, ↓wl, nc, evV, wrapBits_eq, ↓reduceIte, Nat.reduceEqDiff, Nat.reduceAdd, Nat.reduceSub, Nat.reduceLeDiff, Nat.reduceLT, Nat.reduceBEq, reduceCtorEq, Int.reduceEq]
    refine AW.ret ?_
    cases H
    exact hQ _ _ _ _ (.inr rfl) (by simp only [resVs, omap, resV, ↓wk, ↓wl, nc, evV, wrapBits_eq, ↓reduceIte, Nat.reduceEqDiff, Nat.reduceAdd, Nat.reduceSub, Nat.reduceLeDiff, Nat.reduceLT, Nat.reduceBEq, reduceCtorEq, Int.reduceEq]; rfl) (hand_plain (by rfl)) (by rfl)
def c76_0 : C := .seq (.reg [iI 3 (.mv (.t 0)), iI 4 (.bin .shr (.t 3) (.c (.int .u64 8))), iI 5 (.cint .u8 (.t 4)), iI 6 (.mv (.t 0)), iI 7 (.cint .u8 (.t 6)), iI 8 (.mkslp 0 2 (.int .u8 0) [(0, (.t 5)), (1, (.t 7))]), iI 9 (.cstr (.t 8)), iI 2 (.mv (.t 9))]) .ret
def ir76 : C := .seq (.reg [iI 2 (.mv (.c (.str [])))]) c76_0
theorem fd76 : fd? Try.prog 76 = some (10, [.slot 2], ir76) := by kernel_rfl
noncomputable def f76 (n_1785 : Int) : Option ((List UInt8)) :=
  (some (([(IntKind.u8.wrap (Int.fdiv n_1785 (2 ^ (min (Int.toNat 8) (IntKind.bits .i64))))), (IntKind.u8.wrap n_1785)]).map b8))
theorem f76_ok {n_1785 : Int} {r_ : (List UInt8)} (H : f76 n_1785 = some r_) : Pure Try.prog 76 [.int .i64 n_1785] (· = .str r_) := by
  refine Pure.walk2 fd76 none (Nat.le_of_ble_eq_true rfl) (by rfl) fun Q hQ => ?_
  simp only [f76] at H
  refine AW.rseq ?_
  try simp only [↓wk, ↓wl, nc, evV, wrapBits_eq, ↓reduceIte, Nat.reduceEqDiff, Nat.reduceAdd, Nat.reduceSub, Nat.reduceLeDiff, Nat.reduceLT, Nat.reduceBEq, reduceCtorEq, Int.reduceEq]
  refine AW.rseq ?_
  try simp only [↓wk, ↓wl, nc, evV, wrapBits_eq, ↓reduceIte, Nat.reduceEqDiff, Nat.reduceAdd, Nat.reduceSub, Nat.reduceLeDiff, Nat.reduceLT, Nat.reduceBEq, reduceCtorEq, Int.reduceEq]
  refine rest_shr (by decide) ?_
  try simp only [↓wk, ↓wl, nc, evV, wrapBits_eq, ↓reduceIte, Nat.reduceEqDiff, Nat.reduceAdd, Nat.reduceSub, Nat.reduceLeDiff, Nat.reduceLT, Nat.reduceBEq, reduceCtorEq, Int.reduceEq]
  refine evTs_cstr (xs := [(IntKind.u8.wrap (Int.fdiv n_1785 (2 ^ (min (Int.toNat 8) (IntKind.bits .i64))))), (IntKind.u8.wrap n_1785)]) (by rfl) ?_
  try simp only [↓wk, ↓wl, nc, evV, wrapBits_eq, ↓reduceIte, Nat.reduceEqDiff, Nat.reduceAdd, Nat.reduceSub, Nat.reduceLeDiff, Nat.reduceLT, Nat.reduceBEq, reduceCtorEq, Int.reduceEq]
  refine AW.ret ?_
  cases H
  exact hQ _ _ _ _ (.inr rfl) (by simp only [resVs, omap, resV, ↓wk, ↓wl, nc, evV, wrapBits_eq, ↓reduceIte, Nat.reduceEqDiff, Nat.reduceAdd, Nat.reduceSub, Nat.reduceLeDiff, Nat.reduceLT, Nat.reduceBEq, reduceCtorEq, Int.reduceEq]; rfl) (hand_plain (by rfl)) (by rfl)
noncomputable def f57_C3 (s_1741 : (List UInt8)) (v_1765 : Int) : Il ((List UInt8) × Int) where
  run := (slc? s_1741 (IntKind.i64.wrap ((IntKind.i64.wrap (v_1765 + 2)) - 2)) (IntKind.i64.wrap (v_1765 + 2))).bind fun s_1790 => (some (s_1790, (IntKind.i64.wrap (v_1765 + 2))))
  res := fun (v_1788, v_1789) => .str v_1788
  hp := fun (v_1788, v_1789) => [.cel [.int .i64 0, .str ([])], .cel [.str s_1741, .int .i64 v_1789]]
noncomputable def f57_J4 (v_1764 : (List UInt8)) (v_1789 : Int) : Jn (Int) (RecordEntry × Int × Int) where
  run := fun v_1795 => (some ((RecordEntry.mk v_1795 v_1764), v_1789, 0))
  cst := fun v_1795 => ⟨put (put (put (fun _ => .junk) 6 (.int .i64 0)) 5 (.int .i64 v_1789)) 4 (.ptr 0 0), [.cel [.int .i64 v_1795, .str v_1764]]⟩
def c57_0 : C := .cond (.t 19) (.seq (.reg [iI 20 (.build [(1, (.int .i64 0)), (1, (.str []))] []), iI 21 (.mv (.t 8)), iN (.store 2 (.t 4) (.t 20)), iI 5 (.mv (.c (.int .i64 0))), iI 6 (.mv (.t 21))]) .ret) (.skip)
def c57_1 : C := .seq (.reg [iI 18 (.mv (.t 8)), iI 19 (.bin .neq (.t 18) (.c (.int .i64 0)))]) c57_0
def c57_2 : C := .cond (.t 24) (.seq (.reg [iI 25 (.build [(1, (.int .i64 0)), (1, (.str []))] []), iN (.store 2 (.t 4) (.t 25)), iI 5 (.mv (.c (.int .i64 0))), iI 6 (.mv (.c (.int .i64 20)))]) .ret) (.skip)
def c57_3 : C := .cond (.t 40) (.seq (.reg [iI 41 (.build [(1, (.int .i64 0)), (1, (.str []))] []), iN (.store 2 (.t 4) (.t 41)), iI 5 (.mv (.c (.int .i64 0))), iI 6 (.mv (.c (.int .i64 20)))]) .ret) (.skip)
def c57_4 : C := .cond (.t 52) (.seq (.reg [iI 53 (.build [(1, (.int .i64 0)), (1, (.str []))] []), iN (.store 2 (.t 4) (.t 53)), iI 5 (.mv (.c (.int .i64 0))), iI 6 (.mv (.c (.int .i64 17)))]) .ret) (.skip)
def c57_5 : C := .seq (.regt (.fork [iI 54 (.mv (.t 9)), iI 55 (.sidx (.t 54) (.c (.int .i64 0))), iI 56 (.cint .i64 (.t 55)), iI 57 (.mv (.t 11)), iI 58 (.build [(1, (.int .i64 0)), (1, (.str []))] [(0, 0, (.t 56)), (1, 0, (.t 57))]), iI 59 (.mv (.t 7)), iI 60 (.nilchk (.t 59)), iI 61 (.faddr 1 (.t 60))] (.run [iI 62 (.load 0 (.t 61)), iN (.store 2 (.t 4) (.t 58)), iI 5 (.mv (.t 62)), iI 6 (.mv (.c (.int .i64 0)))]) (.run [iN (.store 2 (.t 4) (.t 58)), iI 62 (.load 0 (.t 61)), iI 5 (.mv (.t 62)), iI 6 (.mv (.c (.int .i64 0)))]))) .ret
def c57_6 : C := .seq (.seq (.reg [iI 45 (.mv (.t 7)), iI 46 (.call (.c (.fn 83 [])) [(.t 45), (.c (.int .i64 2))]), iI 47 (.mv (.t 9)), iI 48 (.mv (.t 11)), iI 49 (.bin .add (.t 47) (.t 48)), iI 50 (.call (.c (.fn 77 [])) [(.t 49)]), iI 51 (.call (.c (.fn 76 [])) [(.t 50)]), iI 52 (.bin .neq (.t 46) (.t 51))]) c57_4) c57_5
def c57_7 : C := .seq (.reg [iI 42 (.mv (.t 7)), iI 43 (.mv (.t 10)), iI 44 (.call (.c (.fn 83 [])) [(.t 42), (.t 43)]), iI 11 (.mv (.t 44))]) c57_6
def c57_8 : C := .seq (.seq (.reg [iI 36 (.mv (.t 7)), iI 37 (.mv (.t 10)), iI 38 (.bin .add (.t 37) (.c (.int .i64 2))), iI 39 (.call (.c (.fn 82 [])) [(.t 36), (.t 38)]), iI 40 (.un .not (.t 39))]) c57_3) c57_7
def c57_9 : C := .seq (.reg [iI 28 (.mv (.t 9)), iI 29 (.sidx (.t 28) (.c (.int .i64 1))), iI 30 (.cint .i64 (.t 29)), iI 31 (.bin .shl (.t 30) (.c (.int .u64 8))), iI 32 (.mv (.t 9)), iI 33 (.sidx (.t 32) (.c (.int .i64 2))), iI 34 (.cint .i64 (.t 33)), iI 35 (.bin .or (.t 31) (.t 34)), iI 10 (.mv (.t 35))]) c57_8
def c57_10 : C := .seq (.reg [iI 26 (.mv (.t 7)), iI 27 (.call (.c (.fn 83 [])) [(.t 26), (.c (.int .i64 3))]), iI 9 (.mv (.t 27))]) c57_9
def c57_11 : C := .seq (.seq (.reg [iI 22 (.mv (.t 7)), iI 23 (.call (.c (.fn 82 [])) [(.t 22), (.c (.int .i64 5))]), iI 24 (.un .not (.t 23))]) c57_2) c57_10
def c57_12 : C := .seq (.seq (.reg [iI 16 (.mv (.t 7)), iI 17 (.call (.c (.fn 81 [])) [(.t 16)]), iI 8 (.mv (.t 17))]) c57_1) c57_11
def c57_13 : C := .seq (.reg [iI 12 (.mv (.t 0)), iI 13 (.mv (.t 1)), iI 14 (.build [(1, (.str [])), (1, (.int .i64 0))] [(0, 0, (.t 12)), (1, 0, (.t 13))]), iI 15 (.box (.t 14)), iI 7 (.mv (.t 15))]) c57_12
def ir57 : C := .seq (.reg [iI 4 (.alloc [(1, (.int .i64 0)), (1, (.str []))]), iI 5 (.mv (.c (.int .i64 0))), iI 6 (.mv (.c (.int .i64 0)))]) c57_13
theorem fd57 : fd? Try.prog 57 = some (63, [.cell 4 2, .slot 5, .slot 6], ir57) := by kernel_rfl
noncomputable def f57 (s_1741 : (List UInt8)) (at_1742 : Int) : Option (RecordEntry × Int × Int) :=
  (f81p s_1741 at_1742).bind fun r_1746 => (if (decide (r_1746 ≠ 0)) = true then (some ((RecordEntry.mk 0 ([])), 0, r_1746)) else (f82p s_1741 at_1742 5).bind fun r_1751 => (if (!r_1751) = true then (some ((RecordEntry.mk 0 ([])), 0, 20)) else ((f57_C1 s_1741 at_1742).run.bind fun (v_1756, v_1757) => (at? v_1756 1).bind fun b_1759 => (at? v_1756 2).bind fun b_1760 => (f82p s_1741 v_1757 (IntKind.i64.wrap ((IntKind.i64.wrap ((BitVec.ofInt (IntKind.bits .i64) (IntKind.i64.wrap ((IntKind.i64.wrap (b_1759.toNat : Int)) * 2 ^ (min (Int.toNat 8) (IntKind.bits .i64)))) ||| BitVec.ofInt (IntKind.bits .i64) (IntKind.i64.wrap (b_1760.toNat : Int))).toNat : Int)) + 2))).bind fun r_1762 => (if (!r_1762) = true then (some ((RecordEntry.mk 0 ([])), 0, 20)) else ((f57_C2 s_1741 v_1757 b_1759 b_1760).run.bind fun (v_1764, v_1765) => ((f57_C3 s_1741 v_1765).run.bind fun (v_1788, v_1789) => (cat? v_1756 v_1764).bind fun v_1791 => (f77 v_1791).bind fun r_1792 => (f76 r_1792).bind fun r_1793 => (if (!(v_1788 == r_1793)) = true then (some ((RecordEntry.mk 0 ([])), 0, 17)) else (at? v_1756 0).bind fun b_1796 => ((f57_J4 v_1764 v_1789).run (IntKind.i64.wrap (b_1796.toNat : Int))))))))))
theorem f57_ok {s_1741 : (List UInt8)} {at_1742 : Int} {r_ : RecordEntry × Int × Int} (H : f57 s_1741 at_1742 = some r_) : Pure Try.prog 57 [.str s_1741, .int .i64 at_1742] (· = .tup [.agg [.int .i64 r_.1.fKind, .str r_.1.fData], .int .i64 r_.2.1, .int .i64 r_.2.2]) := by
  refine Pure.walk2 fd57 none (Nat.le_of_ble_eq_true rfl) (by rfl) fun Q hQ => ?_
  simp only [f57] at H
  refine AW.rseq ?_
  try simp only [↓wk, ↓wl, nc, evV, wrapBits_eq, ↓reduceIte, Nat.reduceEqDiff, Nat.reduceAdd, Nat.reduceSub, Nat.reduceLeDiff, Nat.reduceLT, Nat.reduceBEq, reduceCtorEq, Int.reduceEq]
  refine AW.rseq ?_
  try simp only [↓wk, ↓wl, nc, evV, wrapBits_eq, ↓reduceIte, Nat.reduceEqDiff, Nat.reduceAdd, Nat.reduceSub, Nat.reduceLeDiff, Nat.reduceLT, Nat.reduceBEq, reduceCtorEq, Int.reduceEq]
  refine AW.sseq ?_
  refine AW.rseq ?_
  try simp only [↓wk, ↓wl, nc, evV, wrapBits_eq, ↓reduceIte, Nat.reduceEqDiff, Nat.reduceAdd, Nat.reduceSub, Nat.reduceLeDiff, Nat.reduceLT, Nat.reduceBEq, reduceCtorEq, Int.reduceEq]
  refine evTs_flat hFn H (fun _ h => f81p_ok h) (by rfl) (by rfl) (by simp only [deep_eq, imm_simps, imm_rowE, imm_ptrE, imm_enc, omap_simps, take_map_len, take_map_set, take_map_set2, le_refl_true, Nat.zero_add, and_true, true_and, List.drop_zero, Option.map_some, ↓wk, ↓wl, nc, evV, wrapBits_eq, ↓reduceIte, Nat.reduceEqDiff, Nat.reduceAdd, Nat.reduceSub, Nat.reduceLeDiff, Nat.reduceLT, Nat.reduceBEq, reduceCtorEq, Int.reduceEq]; rfl) (by rfl) (fun _ => rfl) (fun _ => rfl) ?_ <;> clear H <;> intro r_1746 H
  try simp only [eL, ↓wk, ↓wl, nc, evV, wrapBits_eq, ↓reduceIte, Nat.reduceEqDiff, Nat.reduceAdd, Nat.reduceSub, Nat.reduceLeDiff, Nat.reduceLT, Nat.reduceBEq, reduceCtorEq, Int.reduceEq]
  refine AW.rseq ?_
  try simp only [↓wk, ↓wl, nc, evV, wrapBits_eq, ↓reduceIte, Nat.reduceEqDiff, Nat.reduceAdd, Nat.reduceSub, Nat.reduceLeDiff, Nat.reduceLT, Nat.reduceBEq, reduceCtorEq, Int.reduceEq]
  refine AW.ifc H (by rfl) ?_ ?_ <;> clear H <;> intro H
  · refine AW.rseq ?_
    try simp only [↓wk, ↓wl, nc, evV, wrapBits_eq, ↓reduceIte, Nat.reduceEqDiff, Nat.reduceAdd, Nat.reduceSub, Nat.reduceLeDiff, Nat.reduceLT, Nat.reduceBEq, reduceCtorEq, Int.reduceEq]
    refine AW.ret ?_
    refine seqQ.ret ?_
    cases H
    exact hQ _ _ _ _ (.inr rfl) (by simp only [resVs, omap, resV, ↓wk, ↓wl, nc, evV, wrapBits_eq, ↓reduceIte, Nat.reduceEqDiff, Nat.reduceAdd, Nat.reduceSub, Nat.reduceLeDiff, Nat.reduceLT, Nat.reduceBEq, reduceCtorEq, Int.reduceEq]; rfl) (hand_plain (by rfl)) (by rfl)
  · refine AW.skip ?_
    refine seqQ.norm ?_
    refine AW.sseq ?_
    refine AW.rseq ?_
    try simp only [↓wk, ↓wl, nc, evV, wrapBits_eq, ↓reduceIte, Nat.reduceEqDiff, Nat.reduceAdd, Nat.reduceSub, Nat.reduceLeDiff, Nat.reduceLT, Nat.reduceBEq, reduceCtorEq, Int.reduceEq]
    refine evTs_flat hFn H (fun _ h => f82p_ok h) (by rfl) (by rfl) (by simp only [deep_eq, imm_simps, imm_rowE, imm_ptrE, imm_enc, omap_simps, take_map_len, take_map_set, take_map_set2, le_refl_true, Nat.zero_add, and_true, true_and, List.drop_zero, Option.map_some, ↓wk, ↓wl, nc, evV, wrapBits_eq, ↓reduceIte, Nat.reduceEqDiff, Nat.reduceAdd, Nat.reduceSub, Nat.reduceLeDiff, Nat.reduceLT, Nat.reduceBEq, reduceCtorEq, Int.reduceEq]; rfl) (by rfl) (fun _ => rfl) (fun _ => rfl) ?_ <;> clear H <;> intro r_1751 H
    try simp only [eL, ↓wk, ↓wl, nc, evV, wrapBits_eq, ↓reduceIte, Nat.reduceEqDiff, Nat.reduceAdd, Nat.reduceSub, Nat.reduceLeDiff, Nat.reduceLT, Nat.reduceBEq, reduceCtorEq, Int.reduceEq]
    refine AW.ifc H (by rfl) ?_ ?_ <;> clear H <;> intro H
    · refine AW.rseq ?_
      try simp only [↓wk, ↓wl, nc, evV, wrapBits_eq, ↓reduceIte, Nat.reduceEqDiff, Nat.reduceAdd, Nat.reduceSub, Nat.reduceLeDiff, Nat.reduceLT, Nat.reduceBEq, reduceCtorEq, Int.reduceEq]
      refine AW.ret ?_
      refine seqQ.ret ?_
      cases H
      exact hQ _ _ _ _ (.inr rfl) (by simp only [resVs, omap, resV, ↓wk, ↓wl, nc, evV, wrapBits_eq, ↓reduceIte, Nat.reduceEqDiff, Nat.reduceAdd, Nat.reduceSub, Nat.reduceLeDiff, Nat.reduceLT, Nat.reduceBEq, reduceCtorEq, Int.reduceEq]; rfl) (hand_plain (by rfl)) (by rfl)
    · refine AW.skip ?_
      refine seqQ.norm ?_
      refine AW.rseq ?_
      try simp only [↓wk, ↓wl, nc, evV, wrapBits_eq, ↓reduceIte, Nat.reduceEqDiff, Nat.reduceAdd, Nat.reduceSub, Nat.reduceLeDiff, Nat.reduceLT, Nat.reduceBEq, reduceCtorEq, Int.reduceEq]
      refine evTs_inl (I := f57_C1 s_1741 at_1742) (args := [.ptr 1 0, .int .i64 3]) H (by rfl) fd83 (by rfl) (Nat.le_of_ble_eq_true rfl) ?_ ?_ <;> clear H
      · rintro v_ Q_ H hqf57_C1
        simp only [f57_C1] at H
        dsimp only [List.length_cons, List.length_nil]
        refine AW.rseq ?_
        try simp only [↓wk, ↓wl, nc, evV, wrapBits_eq, ↓reduceIte, Nat.reduceEqDiff, Nat.reduceAdd, Nat.reduceSub, Nat.reduceLeDiff, Nat.reduceLT, Nat.reduceBEq, reduceCtorEq, Int.reduceEq]
        refine AW.rseq ?_
        try simp only [↓wk, ↓wl, nc, evV, wrapBits_eq, ↓reduceIte, Nat.reduceEqDiff, Nat.reduceAdd, Nat.reduceSub, Nat.reduceLeDiff, Nat.reduceLT, Nat.reduceBEq, reduceCtorEq, Int.reduceEq]
        refine AW.rseq ?_
        try simp only [↓wk, ↓wl, nc, evV, wrapBits_eq, ↓reduceIte, Nat.reduceEqDiff, Nat.reduceAdd, Nat.reduceSub, Nat.reduceLeDiff, Nat.reduceLT, Nat.reduceBEq, reduceCtorEq, Int.reduceEq]
        refine evTs_sslc H (by rfl) (by simp only [loI, hiI, ↓wk, ↓wl, nc, evV, wrapBits_eq, ↓reduceIte, Nat.reduceEqDiff, Nat.reduceAdd, Nat.reduceSub, Nat.reduceLeDiff, Nat.reduceLT, Nat.reduceBEq, reduceCtorEq, Int.reduceEq]; rfl) (by simp only [loI, hiI, ↓wk, ↓wl, nc, evV, wrapBits_eq, ↓reduceIte, Nat.reduceEqDiff, Nat.reduceAdd, Nat.reduceSub, Nat.reduceLeDiff, Nat.reduceLT, Nat.reduceBEq, reduceCtorEq, Int.reduceEq]; rfl) ?_ <;> clear H <;> intro s_1758 H
        try simp only [↓wk, ↓wl, nc, evV, wrapBits_eq, ↓reduceIte, Nat.reduceEqDiff, Nat.reduceAdd, Nat.reduceSub, Nat.reduceLeDiff, Nat.reduceLT, Nat.reduceBEq, reduceCtorEq, Int.reduceEq]
        refine AW.ret ?_
        cases H
        exact hqf57_C1 _ _ _ (.inr rfl) (Le.toL 2 (by rfl) [0, 1] [4] (by decide) (by decide) rfl) (by simp only [resVs, omap, resV, f57_C1, List.length_set, Option.map_some, restrict_eq, renS_nil, renS_cons, renB_els, renB_cel, renB_dead, deep_eq, map_ren_enc, ren_agg', ren_tup', ren_fn', ren_int', ren_bool', ren_str', ren_sl', ren_pro', ren_nilp', ren_nilfn', ren_junk', ren_ptr', ren_row', ren_arow', ren_eptr', vm, List.idxOf?_cons, List.idxOf?_nil, beq_self_eq_true, Option.map_none, List.getD_cons_zero, List.getD_cons_succ, ↓wk, ↓wl, nc, evV, wrapBits_eq, ↓reduceIte, Nat.reduceEqDiff, Nat.reduceAdd, Nat.reduceSub, Nat.reduceLeDiff, Nat.reduceLT, Nat.reduceBEq, reduceCtorEq, Int.reduceEq]) (by simp only [f57_C1, List.length_set, Option.map_some, restrict_eq, renS_nil, renS_cons, renB_els, renB_cel, renB_dead, deep_eq, map_ren_enc, ren_agg', ren_tup', ren_fn', ren_int', ren_bool', ren_str', ren_sl', ren_pro', ren_nilp', ren_nilfn', ren_junk', ren_ptr', ren_row', ren_arow', ren_eptr', vm, List.idxOf?_cons, List.idxOf?_nil, beq_self_eq_true, Option.map_none, List.getD_cons_zero, List.getD_cons_succ, ↓wk, ↓wl, nc, evV, wrapBits_eq, ↓reduceIte, Nat.reduceEqDiff, Nat.reduceAdd, Nat.reduceSub, Nat.reduceLeDiff, Nat.reduceLT, Nat.reduceBEq, reduceCtorEq, Int.reduceEq])
      · rintro ⟨v_1756, v_1757⟩ s_ h_ H hs_ hh_
        simp only [f57_C1] at H hs_ hh_
        subst hs_
        subst hh_
        try simp only [↓wk, ↓wl, nc, evV, wrapBits_eq, ↓reduceIte, Nat.reduceEqDiff, Nat.reduceAdd, Nat.reduceSub, Nat.reduceLeDiff, Nat.reduceLT, Nat.reduceBEq, reduceCtorEq, Int.reduceEq]
        refine AW.rseq ?_
        try simp only [↓wk, ↓wl, nc, evV, wrapBits_eq, ↓reduceIte, Nat.reduceEqDiff, Nat.reduceAdd, Nat.reduceSub, Nat.reduceLeDiff, Nat.reduceLT, Nat.reduceBEq, reduceCtorEq, Int.reduceEq]
        refine evTs_sat H (by rfl) (by rfl) ?_ <;> clear H <;> intro b_1759 H
        try simp only [↓wk, ↓wl, nc, evV, wrapBits_eq, ↓reduceIte, Nat.reduceEqDiff, Nat.reduceAdd, Nat.reduceSub, Nat.reduceLeDiff, Nat.reduceLT, Nat.reduceBEq, reduceCtorEq, Int.reduceEq]
        refine rest_shl (by decide) ?_
        try simp only [↓wk, ↓wl, nc, evV, wrapBits_eq, ↓reduceIte, Nat.reduceEqDiff, Nat.reduceAdd, Nat.reduceSub, Nat.reduceLeDiff, Nat.reduceLT, Nat.reduceBEq, reduceCtorEq, Int.reduceEq]
        refine evTs_sat H (by rfl) (by rfl) ?_ <;> clear H <;> intro b_1760 H
        try simp only [↓wk, ↓wl, nc, evV, wrapBits_eq, ↓reduceIte, Nat.reduceEqDiff, Nat.reduceAdd, Nat.reduceSub, Nat.reduceLeDiff, Nat.reduceLT, Nat.reduceBEq, reduceCtorEq, Int.reduceEq]
        refine rest_or ?_
        try simp only [↓wk, ↓wl, nc, evV, wrapBits_eq, ↓reduceIte, Nat.reduceEqDiff, Nat.reduceAdd, Nat.reduceSub, Nat.reduceLeDiff, Nat.reduceLT, Nat.reduceBEq, reduceCtorEq, Int.reduceEq]
        refine AW.sseq ?_
        refine AW.rseq ?_
        try simp only [↓wk, ↓wl, nc, evV, wrapBits_eq, ↓reduceIte, Nat.reduceEqDiff, Nat.reduceAdd, Nat.reduceSub, Nat.reduceLeDiff, Nat.reduceLT, Nat.reduceBEq, reduceCtorEq, Int.reduceEq]
        refine evTs_flat hFn H (fun _ h => f82p_ok h) (by rfl) (by rfl) (by simp only [deep_eq, imm_simps, imm_rowE, imm_ptrE, imm_enc, omap_simps, take_map_len, take_map_set, take_map_set2, le_refl_true, Nat.zero_add, and_true, true_and, List.drop_zero, Option.map_some, ↓wk, ↓wl, nc, evV, wrapBits_eq, ↓reduceIte, Nat.reduceEqDiff, Nat.reduceAdd, Nat.reduceSub, Nat.reduceLeDiff, Nat.reduceLT, Nat.reduceBEq, reduceCtorEq, Int.reduceEq]; rfl) (by rfl) (fun _ => rfl) (fun _ => rfl) ?_ <;> clear H <;> intro r_1762 H
        try simp only [eL, ↓wk, ↓wl, nc, evV, wrapBits_eq, ↓reduceIte, Nat.reduceEqDiff, Nat.reduceAdd, Nat.reduceSub, Nat.reduceLeDiff, Nat.reduceLT, Nat.reduceBEq, reduceCtorEq, Int.reduceEq]
        refine AW.ifc H (by rfl) ?_ ?_ <;> clear H <;> intro H
        · refine AW.rseq ?_
          try simp only [↓wk, ↓wl, nc, evV, wrapBits_eq, ↓reduceIte, Nat.reduceEqDiff, Nat.reduceAdd, Nat.reduceSub, Nat.reduceLeDiff, Nat.reduceLT, Nat.reduceBEq, reduceCtorEq, Int.reduceEq]
          refine AW.ret ?_
          refine seqQ.ret ?_
          cases H
          exact hQ _ _ _ _ (.inr rfl) (by simp only [resVs, omap, resV, ↓wk, ↓wl, nc, evV, wrapBits_eq, ↓reduceIte, Nat.reduceEqDiff, Nat.reduceAdd, Nat.reduceSub, Nat.reduceLeDiff, Nat.reduceLT, Nat.reduceBEq, reduceCtorEq, Int.reduceEq]; rfl) (hand_plain (by rfl)) (by rfl)
        · refine AW.skip ?_
          refine seqQ.norm ?_
          refine AW.rseq ?_
          try simp only [↓wk, ↓wl, nc, evV, wrapBits_eq, ↓reduceIte, Nat.reduceEqDiff, Nat.reduceAdd, Nat.reduceSub, Nat.reduceLeDiff, Nat.reduceLT, Nat.reduceBEq, reduceCtorEq, Int.reduceEq]
          refine evTs_inl (I := f57_C2 s_1741 v_1757 b_1759 b_1760) (args := [.ptr 1 0, .int .i64 (IntKind.i64.wrap ((BitVec.ofInt (IntKind.bits .i64) (IntKind.i64.wrap ((IntKind.i64.wrap (b_1759.toNat : Int)) * 2 ^ (min (Int.toNat 8) (IntKind.bits .i64)))) ||| BitVec.ofInt (IntKind.bits .i64) (IntKind.i64.wrap (b_1760.toNat : Int))).toNat : Int))]) H (by rfl) fd83 (by rfl) (Nat.le_of_ble_eq_true rfl) ?_ ?_ <;> clear H
          · rintro v_ Q_ H hqf57_C2
            simp only [f57_C2] at H
            dsimp only [List.length_cons, List.length_nil]
            refine AW.rseq ?_
            try simp only [↓wk, ↓wl, nc, evV, wrapBits_eq, ↓reduceIte, Nat.reduceEqDiff, Nat.reduceAdd, Nat.reduceSub, Nat.reduceLeDiff, Nat.reduceLT, Nat.reduceBEq, reduceCtorEq, Int.reduceEq]
            refine AW.rseq ?_
            try simp only [↓wk, ↓wl, nc, evV, wrapBits_eq, ↓reduceIte, Nat.reduceEqDiff, Nat.reduceAdd, Nat.reduceSub, Nat.reduceLeDiff, Nat.reduceLT, Nat.reduceBEq, reduceCtorEq, Int.reduceEq]
            refine AW.rseq ?_
            try simp only [↓wk, ↓wl, nc, evV, wrapBits_eq, ↓reduceIte, Nat.reduceEqDiff, Nat.reduceAdd, Nat.reduceSub, Nat.reduceLeDiff, Nat.reduceLT, Nat.reduceBEq, reduceCtorEq, Int.reduceEq]
            refine evTs_sslc H (by rfl) (by simp only [loI, hiI, ↓wk, ↓wl, nc, evV, wrapBits_eq, ↓reduceIte, Nat.reduceEqDiff, Nat.reduceAdd, Nat.reduceSub, Nat.reduceLeDiff, Nat.reduceLT, Nat.reduceBEq, reduceCtorEq, Int.reduceEq]; rfl) (by simp only [loI, hiI, ↓wk, ↓wl, nc, evV, wrapBits_eq, ↓reduceIte, Nat.reduceEqDiff, Nat.reduceAdd, Nat.reduceSub, Nat.reduceLeDiff, Nat.reduceLT, Nat.reduceBEq, reduceCtorEq, Int.reduceEq]; rfl) ?_ <;> clear H <;> intro s_1766 H
            try simp only [↓wk, ↓wl, nc, evV, wrapBits_eq, ↓reduceIte, Nat.reduceEqDiff, Nat.reduceAdd, Nat.reduceSub, Nat.reduceLeDiff, Nat.reduceLT, Nat.reduceBEq, reduceCtorEq, Int.reduceEq]
            refine AW.ret ?_
            cases H
            exact hqf57_C2 _ _ _ (.inr rfl) (Le.toL 2 (by rfl) [0, 1] [4] (by decide) (by decide) rfl) (by simp only [resVs, omap, resV, f57_C2, List.length_set, Option.map_some, restrict_eq, renS_nil, renS_cons, renB_els, renB_cel, renB_dead, deep_eq, map_ren_enc, ren_agg', ren_tup', ren_fn', ren_int', ren_bool', ren_str', ren_sl', ren_pro', ren_nilp', ren_nilfn', ren_junk', ren_ptr', ren_row', ren_arow', ren_eptr', vm, List.idxOf?_cons, List.idxOf?_nil, beq_self_eq_true, Option.map_none, List.getD_cons_zero, List.getD_cons_succ, ↓wk, ↓wl, nc, evV, wrapBits_eq, ↓reduceIte, Nat.reduceEqDiff, Nat.reduceAdd, Nat.reduceSub, Nat.reduceLeDiff, Nat.reduceLT, Nat.reduceBEq, reduceCtorEq, Int.reduceEq]) (by simp only [f57_C2, List.length_set, Option.map_some, restrict_eq, renS_nil, renS_cons, renB_els, renB_cel, renB_dead, deep_eq, map_ren_enc, ren_agg', ren_tup', ren_fn', ren_int', ren_bool', ren_str', ren_sl', ren_pro', ren_nilp', ren_nilfn', ren_junk', ren_ptr', ren_row', ren_arow', ren_eptr', vm, List.idxOf?_cons, List.idxOf?_nil, beq_self_eq_true, Option.map_none, List.getD_cons_zero, List.getD_cons_succ, ↓wk, ↓wl, nc, evV, wrapBits_eq, ↓reduceIte, Nat.reduceEqDiff, Nat.reduceAdd, Nat.reduceSub, Nat.reduceLeDiff, Nat.reduceLT, Nat.reduceBEq, reduceCtorEq, Int.reduceEq])
          · rintro ⟨v_1764, v_1765⟩ s_ h_ H hs_ hh_
            simp only [f57_C2] at H hs_ hh_
            subst hs_
            subst hh_
            try simp only [↓wk, ↓wl, nc, evV, wrapBits_eq, ↓reduceIte, Nat.reduceEqDiff, Nat.reduceAdd, Nat.reduceSub, Nat.reduceLeDiff, Nat.reduceLT, Nat.reduceBEq, reduceCtorEq, Int.reduceEq]
            refine AW.sseq ?_
            refine AW.rseq ?_
            try simp only [↓wk, ↓wl, nc, evV, wrapBits_eq, ↓reduceIte, Nat.reduceEqDiff, Nat.reduceAdd, Nat.reduceSub, Nat.reduceLeDiff, Nat.reduceLT, Nat.reduceBEq, reduceCtorEq, Int.reduceEq]
            refine evTs_inl (I := f57_C3 s_1741 v_1765) (args := [.ptr 1 0, .int .i64 2]) H (by rfl) fd83 (by rfl) (Nat.le_of_ble_eq_true rfl) ?_ ?_ <;> clear H
            · rintro v_ Q_ H hqf57_C3
              simp only [f57_C3] at H
              dsimp only [List.length_cons, List.length_nil]
              refine AW.rseq ?_
              try simp only [↓wk, ↓wl, nc, evV, wrapBits_eq, ↓reduceIte, Nat.reduceEqDiff, Nat.reduceAdd, Nat.reduceSub, Nat.reduceLeDiff, Nat.reduceLT, Nat.reduceBEq, reduceCtorEq, Int.reduceEq]
              refine AW.rseq ?_
              try simp only [↓wk, ↓wl, nc, evV, wrapBits_eq, ↓reduceIte, Nat.reduceEqDiff, Nat.reduceAdd, Nat.reduceSub, Nat.reduceLeDiff, Nat.reduceLT, Nat.reduceBEq, reduceCtorEq, Int.reduceEq]
              refine AW.rseq ?_
              try simp only [↓wk, ↓wl, nc, evV, wrapBits_eq, ↓reduceIte, Nat.reduceEqDiff, Nat.reduceAdd, Nat.reduceSub, Nat.reduceLeDiff, Nat.reduceLT, Nat.reduceBEq, reduceCtorEq, Int.reduceEq]
              refine evTs_sslc H (by rfl) (by simp only [loI, hiI, ↓wk, ↓wl, nc, evV, wrapBits_eq, ↓reduceIte, Nat.reduceEqDiff, Nat.reduceAdd, Nat.reduceSub, Nat.reduceLeDiff, Nat.reduceLT, Nat.reduceBEq, reduceCtorEq, Int.reduceEq]; rfl) (by simp only [loI, hiI, ↓wk, ↓wl, nc, evV, wrapBits_eq, ↓reduceIte, Nat.reduceEqDiff, Nat.reduceAdd, Nat.reduceSub, Nat.reduceLeDiff, Nat.reduceLT, Nat.reduceBEq, reduceCtorEq, Int.reduceEq]; rfl) ?_ <;> clear H <;> intro s_1790 H
              try simp only [↓wk, ↓wl, nc, evV, wrapBits_eq, ↓reduceIte, Nat.reduceEqDiff, Nat.reduceAdd, Nat.reduceSub, Nat.reduceLeDiff, Nat.reduceLT, Nat.reduceBEq, reduceCtorEq, Int.reduceEq]
              refine AW.ret ?_
              cases H
              exact hqf57_C3 _ _ _ (.inr rfl) (Le.toL 2 (by rfl) [0, 1] [4] (by decide) (by decide) rfl) (by simp only [resVs, omap, resV, f57_C3, List.length_set, Option.map_some, restrict_eq, renS_nil, renS_cons, renB_els, renB_cel, renB_dead, deep_eq, map_ren_enc, ren_agg', ren_tup', ren_fn', ren_int', ren_bool', ren_str', ren_sl', ren_pro', ren_nilp', ren_nilfn', ren_junk', ren_ptr', ren_row', ren_arow', ren_eptr', vm, List.idxOf?_cons, List.idxOf?_nil, beq_self_eq_true, Option.map_none, List.getD_cons_zero, List.getD_cons_succ, ↓wk, ↓wl, nc, evV, wrapBits_eq, ↓reduceIte, Nat.reduceEqDiff, Nat.reduceAdd, Nat.reduceSub, Nat.reduceLeDiff, Nat.reduceLT, Nat.reduceBEq, reduceCtorEq, Int.reduceEq]) (by simp only [f57_C3, List.length_set, Option.map_some, restrict_eq, renS_nil, renS_cons, renB_els, renB_cel, renB_dead, deep_eq, map_ren_enc, ren_agg', ren_tup', ren_fn', ren_int', ren_bool', ren_str', ren_sl', ren_pro', ren_nilp', ren_nilfn', ren_junk', ren_ptr', ren_row', ren_arow', ren_eptr', vm, List.idxOf?_cons, List.idxOf?_nil, beq_self_eq_true, Option.map_none, List.getD_cons_zero, List.getD_cons_succ, ↓wk, ↓wl, nc, evV, wrapBits_eq, ↓reduceIte, Nat.reduceEqDiff, Nat.reduceAdd, Nat.reduceSub, Nat.reduceLeDiff, Nat.reduceLT, Nat.reduceBEq, reduceCtorEq, Int.reduceEq])
            · rintro ⟨v_1788, v_1789⟩ s_ h_ H hs_ hh_
              simp only [f57_C3] at H hs_ hh_
              subst hs_
              subst hh_
              try simp only [↓wk, ↓wl, nc, evV, wrapBits_eq, ↓reduceIte, Nat.reduceEqDiff, Nat.reduceAdd, Nat.reduceSub, Nat.reduceLeDiff, Nat.reduceLT, Nat.reduceBEq, reduceCtorEq, Int.reduceEq]
              refine rest_cat H ?_ <;> clear H <;> intro v_1791 H
              try simp only [↓wk, ↓wl, nc, evV, wrapBits_eq, ↓reduceIte, Nat.reduceEqDiff, Nat.reduceAdd, Nat.reduceSub, Nat.reduceLeDiff, Nat.reduceLT, Nat.reduceBEq, reduceCtorEq, Int.reduceEq]
              refine evTs_pure hFn H (fun _ h => f77_ok h) (by rfl) (by rfl) (by rfl) (by rfl) (fun _ => rfl) ?_ <;> clear H <;> intro r_1792 H
              try simp only [eL, ↓wk, ↓wl, nc, evV, wrapBits_eq, ↓reduceIte, Nat.reduceEqDiff, Nat.reduceAdd, Nat.reduceSub, Nat.reduceLeDiff, Nat.reduceLT, Nat.reduceBEq, reduceCtorEq, Int.reduceEq]
              refine evTs_pure hFn H (fun _ h => f76_ok h) (by rfl) (by rfl) (by rfl) (by rfl) (fun _ => rfl) ?_ <;> clear H <;> intro r_1793 H
              try simp only [eL, ↓wk, ↓wl, nc, evV, wrapBits_eq, ↓reduceIte, Nat.reduceEqDiff, Nat.reduceAdd, Nat.reduceSub, Nat.reduceLeDiff, Nat.reduceLT, Nat.reduceBEq, reduceCtorEq, Int.reduceEq]
              refine AW.ifc H (by rfl) ?_ ?_ <;> clear H <;> intro H
              · refine AW.rseq ?_
                try simp only [↓wk, ↓wl, nc, evV, wrapBits_eq, ↓reduceIte, Nat.reduceEqDiff, Nat.reduceAdd, Nat.reduceSub, Nat.reduceLeDiff, Nat.reduceLT, Nat.reduceBEq, reduceCtorEq, Int.reduceEq]
                refine AW.ret ?_
                refine seqQ.ret ?_
                cases H
                exact hQ _ _ _ _ (.inr rfl) (by simp only [resVs, omap, resV, ↓wk, ↓wl, nc, evV, wrapBits_eq, ↓reduceIte, Nat.reduceEqDiff, Nat.reduceAdd, Nat.reduceSub, Nat.reduceLeDiff, Nat.reduceLT, Nat.reduceBEq, reduceCtorEq, Int.reduceEq]; rfl) (hand_plain (by rfl)) (by rfl)
              · refine AW.skip ?_
                refine seqQ.norm ?_
                refine AW.join (f57_J4 v_1764 v_1789) H ?_ fun hf57_J4 => ?_
                · clear H
                  rintro v_1795 st0_ H hst_
                  simp only [f57_J4] at H hst_
                  subst hst_
                  refine AW.ret ?_
                  cases H
                  exact hQ _ _ _ _ (.inr rfl) (by simp only [resVs, omap, resV, ↓wk, ↓wl, nc, evV, wrapBits_eq, ↓reduceIte, Nat.reduceEqDiff, Nat.reduceAdd, Nat.reduceSub, Nat.reduceLeDiff, Nat.reduceLT, Nat.reduceBEq, reduceCtorEq, Int.reduceEq]; rfl) (hand_plain (by rfl)) (by rfl)
                · refine AW.regt ?_
                  refine evR.fork ?_
                  try simp only [↓wk, ↓wl, nc, evV, wrapBits_eq, ↓reduceIte, Nat.reduceEqDiff, Nat.reduceAdd, Nat.reduceSub, Nat.reduceLeDiff, Nat.reduceLT, Nat.reduceBEq, reduceCtorEq, Int.reduceEq]
                  refine evTs_sat H (by rfl) (by rfl) ?_ <;> clear H <;> intro b_1796 H
                  try simp only [↓wk, ↓wl, nc, evV, wrapBits_eq, ↓reduceIte, Nat.reduceEqDiff, Nat.reduceAdd, Nat.reduceSub, Nat.reduceLeDiff, Nat.reduceLT, Nat.reduceBEq, reduceCtorEq, Int.reduceEq]
                  refine evR.both ?_ ?_
                  · refine evR.run ?_
                    try simp only [↓wk, ↓wl, nc, evV, wrapBits_eq, ↓reduceIte, Nat.reduceEqDiff, Nat.reduceAdd, Nat.reduceSub, Nat.reduceLeDiff, Nat.reduceLT, Nat.reduceBEq, reduceCtorEq, Int.reduceEq]
                    refine seqQ.norm ?_
                    exact hf57_J4 _ _ H ((Le.none [0] [4, 5, 6] (by decide) (by simp only [f57_J4, List.length_set, Option.map_some, restrict_eq, renS_nil, renS_cons, renB_els, renB_cel, renB_dead, deep_eq, map_ren_enc, ren_agg', ren_tup', ren_fn', ren_int', ren_bool', ren_str', ren_sl', ren_pro', ren_nilp', ren_nilfn', ren_junk', ren_ptr', ren_row', ren_arow', ren_eptr', vm, List.idxOf?_cons, List.idxOf?_nil, beq_self_eq_true, Option.map_none, List.getD_cons_zero, List.getD_cons_succ, ↓wk, ↓wl, nc, evV, wrapBits_eq, ↓reduceIte, Nat.reduceEqDiff, Nat.reduceAdd, Nat.reduceSub, Nat.reduceLeDiff, Nat.reduceLT, Nat.reduceBEq, reduceCtorEq, Int.reduceEq])))
                  · refine evR.run ?_
                    try simp only [↓wk, ↓wl, nc, evV, wrapBits_eq, ↓reduceIte, Nat.reduceEqDiff, Nat.reduceAdd, Nat.reduceSub, Nat.reduceLeDiff, Nat.reduceLT, Nat.reduceBEq, reduceCtorEq, Int.reduceEq]
                    refine seqQ.norm ?_
                    exact hf57_J4 _ _ H ((Le.none [0] [4, 5, 6] (by decide) (by simp only [f57_J4, List.length_set, Option.map_some, restrict_eq, renS_nil, renS_cons, renB_els, renB_cel, renB_dead, deep_eq, map_ren_enc, ren_agg', ren_tup', ren_fn', ren_int', ren_bool', ren_str', ren_sl', ren_pro', ren_nilp', ren_nilfn', ren_junk', ren_ptr', ren_row', ren_arow', ren_eptr', vm, List.idxOf?_cons, List.idxOf?_nil, beq_self_eq_true, Option.map_none, List.getD_cons_zero, List.getD_cons_succ, ↓wk, ↓wl, nc, evV, wrapBits_eq, ↓reduceIte, Nat.reduceEqDiff, Nat.reduceAdd, Nat.reduceSub, Nat.reduceLeDiff, Nat.reduceLT, Nat.reduceBEq, reduceCtorEq, Int.reduceEq])))
def c84_0 : C := .cond (.t 11) (.seq (.reg [iI 2 (.mv (.c (.int .i64 0))), iI 3 (.mv (.c (.int .i64 20)))]) .ret) (.skip)
def c84_1 : C := .cond (.t 22) (.skip) (.reg [iI 29 (.mv (.t 6)), iI 30 (.bin .eql (.t 29) (.c (.int .u8 0))), iI 31 (.mv (.t 30)), iG (some 32) 31 true (.mv (.t 5)), iG (some 33) 31 true (.bin .gtr (.t 32) (.c (.int .i64 0))), iI 34 (.pick (.t 31) (.t 33) (.c (.bool false))), iI 22 (.mv (.t 34))])
def c84_2 : C := .cond (.t 35) (.exit 0) (.skip)
def c84_3 : C := .cond (.t 22) (.seq (.reg [iI 2 (.mv (.c (.int .i64 0))), iI 3 (.mv (.c (.int .i64 3)))]) .ret) (.seq (.reg [iI 36 (.mv (.t 6)), iI 37 (.bin .lss (.t 36) (.c (.int .u8 128))), iI 35 (.mv (.t 37))]) c84_2)
def c84_4 : C := .block 2 (.seq (.seq (.reg [iI 23 (.mv (.t 5)), iI 24 (.bin .eql (.t 23) (.c (.int .i64 63))), iI 25 (.mv (.t 24)), iG (some 26) 25 true (.mv (.t 6)), iG (some 27) 25 true (.bin .gtr (.t 26) (.c (.int .u8 1))), iI 28 (.pick (.t 25) (.t 27) (.c (.bool false))), iI 22 (.mv (.t 28))]) c84_1) c84_3)
def c84_5 : C := .seq (.reg [iI 15 (.mv (.t 4)), iI 16 (.mv (.t 6)), iI 17 (.bin .and (.t 16) (.c (.int .u8 127))), iI 18 (.cint .u64 (.t 17)), iI 19 (.mv (.t 5)), iI 20 (.bin .shl (.t 18) (.t 19)), iI 21 (.bin .or (.t 15) (.t 20)), iI 4 (.mv (.t 21))]) c84_4
def c84_6 : C := .seq (.reg [iI 12 (.mv (.t 0)), iI 13 (.call (.c (.fn 83 [])) [(.t 12), (.c (.int .i64 1))]), iI 14 (.sidx (.t 13) (.c (.int .i64 0))), iI 6 (.mv (.t 14))]) c84_5
def c84_7 : C := .reg [iI 7 (.mv (.t 5)), iI 8 (.bin .add (.t 7) (.c (.int .i64 7))), iI 5 (.mv (.t 8))]
def c84_8 : C := .block 0 (.loop (.seq (.block 1 (.seq (.seq (.reg [iI 9 (.mv (.t 0)), iI 10 (.call (.c (.fn 82 [])) [(.t 9), (.c (.int .i64 1))]), iI 11 (.un .not (.t 10))]) c84_0) c84_6)) c84_7))
def c84_9 : C := .seq (.reg [iI 38 (.mv (.t 4)), iI 39 (.bin .shr (.t 38) (.c (.int .u64 1))), iI 40 (.cint .i64 (.t 39)), iI 41 (.mv (.t 4)), iI 42 (.bin .and (.t 41) (.c (.int .u64 1))), iI 43 (.cint .i64 (.t 42)), iI 44 (.un .neg (.t 43)), iI 45 (.bin .xor (.t 40) (.t 44)), iI 2 (.mv (.t 45)), iI 3 (.mv (.c (.int .i64 0)))]) .ret
def c84_10 : C := .seq (.seq (.reg [iI 5 (.mv (.c (.int .i64 0)))]) c84_8) c84_9
def c84_11 : C := .seq (.skip) c84_10
def c84_12 : C := .scope (.seq (.reg [iI 4 (.mv (.c (.int .u64 0)))]) c84_11)
def ir84 : C := .seq (.reg [iI 2 (.mv (.c (.int .i64 0))), iI 3 (.mv (.c (.int .i64 0)))]) c84_12
theorem fd84 : fd? Try.prog 84 = some (46, [.slot 2, .slot 3], ir84) := by kernel_rfl
noncomputable def f58_C3 (s_1798 : (List UInt8)) (v_1854 : Int) : Il ((List UInt8) × Int) where
  run := (slc? s_1798 (IntKind.i64.wrap ((IntKind.i64.wrap (v_1854 + 1)) - 1)) (IntKind.i64.wrap (v_1854 + 1))).bind fun s_1870 => (some (s_1870, (IntKind.i64.wrap (v_1854 + 1))))
  res := fun (v_1868, v_1869) => .str v_1868
  hp := fun (v_1868, v_1869) => [.cel [.str s_1798, .int .i64 v_1869]]
noncomputable def f58_L2 (s_1798 : (List UInt8)) : Lp (Int × Int × Int) ((Int × Int) ⊕ (Int × Int)) where
  body := fun (z_1852, shift_1853, v_1854) => (f82p s_1798 v_1854 1).bind fun r_1866 => (if (!r_1866) = true then (some (.brk (Sum.inr (v_1854, 20)))) else ((f58_C3 s_1798 v_1854).run.bind fun (v_1868, v_1869) => (at? v_1868 0).bind fun b_1871 => (must? (0 ≤ shift_1853)).bind fun _ => (if (decide (shift_1853 = 63)) = true then (if (decide (1 < (b_1871.toNat : Int))) = true then (if (decide (1 < (b_1871.toNat : Int))) = true then (some (.brk (Sum.inr (v_1869, 3)))) else (if (decide ((b_1871.toNat : Int) < 128)) = true then (some (.brk (Sum.inl ((IntKind.u64.wrap ((BitVec.ofInt (IntKind.bits .u64) z_1852 ||| BitVec.ofInt (IntKind.bits .u64) (IntKind.u64.wrap ((IntKind.u64.wrap (IntKind.u8.wrap ((BitVec.ofInt (IntKind.bits .u8) (b_1871.toNat : Int) &&& BitVec.ofInt (IntKind.bits .u8) 127).toNat : Int))) * 2 ^ (min (Int.toNat shift_1853) (IntKind.bits .u64))))).toNat : Int)), v_1869)))) else (some (.next ((IntKind.u64.wrap ((BitVec.ofInt (IntKind.bits .u64) z_1852 ||| BitVec.ofInt (IntKind.bits .u64) (IntKind.u64.wrap ((IntKind.u64.wrap (IntKind.u8.wrap ((BitVec.ofInt (IntKind.bits .u8) (b_1871.toNat : Int) &&& BitVec.ofInt (IntKind.bits .u8) 127).toNat : Int))) * 2 ^ (min (Int.toNat shift_1853) (IntKind.bits .u64))))).toNat : Int)), (IntKind.i64.wrap (shift_1853 + 7)), v_1869))))) else (if (decide ((b_1871.toNat : Int) = 0)) = true then (if (decide (0 < shift_1853)) = true then (some (.brk (Sum.inr (v_1869, 3)))) else (if (decide ((b_1871.toNat : Int) < 128)) = true then (some (.brk (Sum.inl ((IntKind.u64.wrap ((BitVec.ofInt (IntKind.bits .u64) z_1852 ||| BitVec.ofInt (IntKind.bits .u64) (IntKind.u64.wrap ((IntKind.u64.wrap (IntKind.u8.wrap ((BitVec.ofInt (IntKind.bits .u8) (b_1871.toNat : Int) &&& BitVec.ofInt (IntKind.bits .u8) 127).toNat : Int))) * 2 ^ (min (Int.toNat shift_1853) (IntKind.bits .u64))))).toNat : Int)), v_1869)))) else (some (.next ((IntKind.u64.wrap ((BitVec.ofInt (IntKind.bits .u64) z_1852 ||| BitVec.ofInt (IntKind.bits .u64) (IntKind.u64.wrap ((IntKind.u64.wrap (IntKind.u8.wrap ((BitVec.ofInt (IntKind.bits .u8) (b_1871.toNat : Int) &&& BitVec.ofInt (IntKind.bits .u8) 127).toNat : Int))) * 2 ^ (min (Int.toNat shift_1853) (IntKind.bits .u64))))).toNat : Int)), (IntKind.i64.wrap (shift_1853 + 7)), v_1869))))) else (if (decide ((b_1871.toNat : Int) < 128)) = true then (some (.brk (Sum.inl ((IntKind.u64.wrap ((BitVec.ofInt (IntKind.bits .u64) z_1852 ||| BitVec.ofInt (IntKind.bits .u64) (IntKind.u64.wrap ((IntKind.u64.wrap (IntKind.u8.wrap ((BitVec.ofInt (IntKind.bits .u8) (b_1871.toNat : Int) &&& BitVec.ofInt (IntKind.bits .u8) 127).toNat : Int))) * 2 ^ (min (Int.toNat shift_1853) (IntKind.bits .u64))))).toNat : Int)), v_1869)))) else (some (.next ((IntKind.u64.wrap ((BitVec.ofInt (IntKind.bits .u64) z_1852 ||| BitVec.ofInt (IntKind.bits .u64) (IntKind.u64.wrap ((IntKind.u64.wrap (IntKind.u8.wrap ((BitVec.ofInt (IntKind.bits .u8) (b_1871.toNat : Int) &&& BitVec.ofInt (IntKind.bits .u8) 127).toNat : Int))) * 2 ^ (min (Int.toNat shift_1853) (IntKind.bits .u64))))).toNat : Int)), (IntKind.i64.wrap (shift_1853 + 7)), v_1869)))))) else (if (decide ((b_1871.toNat : Int) = 0)) = true then (if (decide (0 < shift_1853)) = true then (some (.brk (Sum.inr (v_1869, 3)))) else (if (decide ((b_1871.toNat : Int) < 128)) = true then (some (.brk (Sum.inl ((IntKind.u64.wrap ((BitVec.ofInt (IntKind.bits .u64) z_1852 ||| BitVec.ofInt (IntKind.bits .u64) (IntKind.u64.wrap ((IntKind.u64.wrap (IntKind.u8.wrap ((BitVec.ofInt (IntKind.bits .u8) (b_1871.toNat : Int) &&& BitVec.ofInt (IntKind.bits .u8) 127).toNat : Int))) * 2 ^ (min (Int.toNat shift_1853) (IntKind.bits .u64))))).toNat : Int)), v_1869)))) else (some (.next ((IntKind.u64.wrap ((BitVec.ofInt (IntKind.bits .u64) z_1852 ||| BitVec.ofInt (IntKind.bits .u64) (IntKind.u64.wrap ((IntKind.u64.wrap (IntKind.u8.wrap ((BitVec.ofInt (IntKind.bits .u8) (b_1871.toNat : Int) &&& BitVec.ofInt (IntKind.bits .u8) 127).toNat : Int))) * 2 ^ (min (Int.toNat shift_1853) (IntKind.bits .u64))))).toNat : Int)), (IntKind.i64.wrap (shift_1853 + 7)), v_1869))))) else (if (decide ((b_1871.toNat : Int) < 128)) = true then (some (.brk (Sum.inl ((IntKind.u64.wrap ((BitVec.ofInt (IntKind.bits .u64) z_1852 ||| BitVec.ofInt (IntKind.bits .u64) (IntKind.u64.wrap ((IntKind.u64.wrap (IntKind.u8.wrap ((BitVec.ofInt (IntKind.bits .u8) (b_1871.toNat : Int) &&& BitVec.ofInt (IntKind.bits .u8) 127).toNat : Int))) * 2 ^ (min (Int.toNat shift_1853) (IntKind.bits .u64))))).toNat : Int)), v_1869)))) else (some (.next ((IntKind.u64.wrap ((BitVec.ofInt (IntKind.bits .u64) z_1852 ||| BitVec.ofInt (IntKind.bits .u64) (IntKind.u64.wrap ((IntKind.u64.wrap (IntKind.u8.wrap ((BitVec.ofInt (IntKind.bits .u8) (b_1871.toNat : Int) &&& BitVec.ofInt (IntKind.bits .u8) 127).toNat : Int))) * 2 ^ (min (Int.toNat shift_1853) (IntKind.bits .u64))))).toNat : Int)), (IntKind.i64.wrap (shift_1853 + 7)), v_1869))))))))
  cst := fun (z_1852, shift_1853, v_1854) => ⟨put (put (put (fun _ => .junk) 5 (.int .i64 shift_1853)) 4 (.int .u64 z_1852)) 0 (.ptr 0 0), [.cel [.str s_1798, .int .i64 v_1854]]⟩
noncomputable def f58_C1 (s_1798 : (List UInt8)) (at_1799 : Int) : Il (Int × Int × Int) where
  run := ((Lp.run (f58_L2 s_1798) (0, 0, at_1799)).bind fun r_ => match r_ with | (Sum.inl (z_1861, v_1862)) => (some ((IntKind.i64.wrap ((BitVec.ofInt (IntKind.bits .i64) (IntKind.i64.wrap (Int.fdiv z_1861 (2 ^ (min (Int.toNat 1) (IntKind.bits .u64))))) ^^^ BitVec.ofInt (IntKind.bits .i64) (IntKind.i64.wrap (0 - (IntKind.i64.wrap (IntKind.u64.wrap ((BitVec.ofInt (IntKind.bits .u64) z_1861 &&& BitVec.ofInt (IntKind.bits .u64) 1).toNat : Int)))))).toNat : Int)), 0, v_1862)) | (Sum.inr (v_1863, v_1864)) => (some (0, v_1864, v_1863)))
  res := fun (v_1834, v_1835, v_1836) => .tup [.int .i64 v_1834, .int .i64 v_1835]
  hp := fun (v_1834, v_1835, v_1836) => [.cel [.str s_1798, .int .i64 v_1836]]
def c58_0 : C := .cond (.t 18) (.seq (.reg [iI 19 (.mv (.t 8)), iI 4 (.mv (.c (.int .i64 0))), iI 5 (.mv (.c (.int .i64 0))), iI 6 (.mv (.t 19))]) .ret) (.skip)
def c58_1 : C := .seq (.reg [iI 17 (.mv (.t 8)), iI 18 (.bin .neq (.t 17) (.c (.int .i64 0)))]) c58_0
def c58_2 : C := .cond (.t 26) (.seq (.reg [iI 27 (.mv (.t 10)), iI 4 (.mv (.c (.int .i64 0))), iI 5 (.mv (.c (.int .i64 0))), iI 6 (.mv (.t 27))]) .ret) (.skip)
def c58_3 : C := .seq (.reg [iI 28 (.mv (.t 9)), iI 29 (.mv (.t 7)), iI 30 (.nilchk (.t 29)), iI 31 (.faddr 1 (.t 30)), iI 32 (.load 0 (.t 31)), iI 4 (.mv (.t 28)), iI 5 (.mv (.t 32)), iI 6 (.mv (.c (.int .i64 0)))]) .ret
def c58_4 : C := .seq (.seq (.reg [iI 25 (.mv (.t 10)), iI 26 (.bin .neq (.t 25) (.c (.int .i64 0)))]) c58_2) c58_3
def c58_5 : C := .seq (.reg [iI 21 (.mv (.t 7)), iI 22 (.call (.c (.fn 84 [])) [(.t 21)]), iI 20 (.mv (.t 22)), iI 23 (.ext (.t 20) 0), iI 24 (.ext (.t 20) 1), iI 9 (.mv (.t 23)), iI 10 (.mv (.t 24))]) c58_4
def c58_6 : C := .seq (.seq (.reg [iI 15 (.mv (.t 7)), iI 16 (.call (.c (.fn 81 [])) [(.t 15)]), iI 8 (.mv (.t 16))]) c58_1) c58_5
def c58_7 : C := .seq (.reg [iI 11 (.mv (.t 0)), iI 12 (.mv (.t 1)), iI 13 (.build [(1, (.str [])), (1, (.int .i64 0))] [(0, 0, (.t 11)), (1, 0, (.t 12))]), iI 14 (.box (.t 13)), iI 7 (.mv (.t 14))]) c58_6
def ir58 : C := .seq (.reg [iI 4 (.mv (.c (.int .i64 0))), iI 5 (.mv (.c (.int .i64 0))), iI 6 (.mv (.c (.int .i64 0)))]) c58_7
theorem fd58 : fd? Try.prog 58 = some (33, [.slot 4, .slot 5, .slot 6], ir58) := by kernel_rfl
noncomputable def f58 (s_1798 : (List UInt8)) (at_1799 : Int) : Option (Int × Int × Int) :=
  (f81p s_1798 at_1799).bind fun r_1801 => (if (decide (r_1801 ≠ 0)) = true then (some (0, 0, r_1801)) else ((f58_C1 s_1798 at_1799).run.bind fun (v_1834, v_1835, v_1836) => (if (decide (v_1835 ≠ 0)) = true then (some (0, 0, v_1835)) else (some (v_1834, v_1836, 0)))))
theorem f58_ok {s_1798 : (List UInt8)} {at_1799 : Int} {r_ : Int × Int × Int} (H : f58 s_1798 at_1799 = some r_) : Pure Try.prog 58 [.str s_1798, .int .i64 at_1799] (· = .tup [.int .i64 r_.1, .int .i64 r_.2.1, .int .i64 r_.2.2]) := by
  refine Pure.walk2 fd58 none (Nat.le_of_ble_eq_true rfl) (by rfl) fun Q hQ => ?_
  simp only [f58] at H
  refine AW.rseq ?_
  try simp only [↓wk, ↓wl, nc, evV, wrapBits_eq, ↓reduceIte, Nat.reduceEqDiff, Nat.reduceAdd, Nat.reduceSub, Nat.reduceLeDiff, Nat.reduceLT, Nat.reduceBEq, reduceCtorEq, Int.reduceEq]
  refine AW.rseq ?_
  try simp only [↓wk, ↓wl, nc, evV, wrapBits_eq, ↓reduceIte, Nat.reduceEqDiff, Nat.reduceAdd, Nat.reduceSub, Nat.reduceLeDiff, Nat.reduceLT, Nat.reduceBEq, reduceCtorEq, Int.reduceEq]
  refine AW.sseq ?_
  refine AW.rseq ?_
  try simp only [↓wk, ↓wl, nc, evV, wrapBits_eq, ↓reduceIte, Nat.reduceEqDiff, Nat.reduceAdd, Nat.reduceSub, Nat.reduceLeDiff, Nat.reduceLT, Nat.reduceBEq, reduceCtorEq, Int.reduceEq]
  refine evTs_flat hFn H (fun _ h => f81p_ok h) (by rfl) (by rfl) (by simp only [deep_eq, imm_simps, imm_rowE, imm_ptrE, imm_enc, omap_simps, take_map_len, take_map_set, take_map_set2, le_refl_true, Nat.zero_add, and_true, true_and, List.drop_zero, Option.map_some, ↓wk, ↓wl, nc, evV, wrapBits_eq, ↓reduceIte, Nat.reduceEqDiff, Nat.reduceAdd, Nat.reduceSub, Nat.reduceLeDiff, Nat.reduceLT, Nat.reduceBEq, reduceCtorEq, Int.reduceEq]; rfl) (by rfl) (fun _ => rfl) (fun _ => rfl) ?_ <;> clear H <;> intro r_1801 H
  try simp only [eL, ↓wk, ↓wl, nc, evV, wrapBits_eq, ↓reduceIte, Nat.reduceEqDiff, Nat.reduceAdd, Nat.reduceSub, Nat.reduceLeDiff, Nat.reduceLT, Nat.reduceBEq, reduceCtorEq, Int.reduceEq]
  refine AW.rseq ?_
  try simp only [↓wk, ↓wl, nc, evV, wrapBits_eq, ↓reduceIte, Nat.reduceEqDiff, Nat.reduceAdd, Nat.reduceSub, Nat.reduceLeDiff, Nat.reduceLT, Nat.reduceBEq, reduceCtorEq, Int.reduceEq]
  refine AW.ifc H (by rfl) ?_ ?_ <;> clear H <;> intro H
  · refine AW.rseq ?_
    try simp only [↓wk, ↓wl, nc, evV, wrapBits_eq, ↓reduceIte, Nat.reduceEqDiff, Nat.reduceAdd, Nat.reduceSub, Nat.reduceLeDiff, Nat.reduceLT, Nat.reduceBEq, reduceCtorEq, Int.reduceEq]
    refine AW.ret ?_
    refine seqQ.ret ?_
    cases H
    exact hQ _ _ _ _ (.inr rfl) (by simp only [resVs, omap, resV, ↓wk, ↓wl, nc, evV, wrapBits_eq, ↓reduceIte, Nat.reduceEqDiff, Nat.reduceAdd, Nat.reduceSub, Nat.reduceLeDiff, Nat.reduceLT, Nat.reduceBEq, reduceCtorEq, Int.reduceEq]; rfl) (hand_plain (by rfl)) (by rfl)
  · refine AW.skip ?_
    refine seqQ.norm ?_
    refine AW.rseq ?_
    try simp only [↓wk, ↓wl, nc, evV, wrapBits_eq, ↓reduceIte, Nat.reduceEqDiff, Nat.reduceAdd, Nat.reduceSub, Nat.reduceLeDiff, Nat.reduceLT, Nat.reduceBEq, reduceCtorEq, Int.reduceEq]
    refine evTs_inl (I := f58_C1 s_1798 at_1799) (args := [.ptr 0 0]) H (by rfl) fd84 (by rfl) (Nat.le_of_ble_eq_true rfl) ?_ ?_ <;> clear H
    · rintro v_ Q_ H hqf58_C1
      simp only [f58_C1] at H
      dsimp only [List.length_cons, List.length_nil]
      refine AW.rseq ?_
      try simp only [↓wk, ↓wl, nc, evV, wrapBits_eq, ↓reduceIte, Nat.reduceEqDiff, Nat.reduceAdd, Nat.reduceSub, Nat.reduceLeDiff, Nat.reduceLT, Nat.reduceBEq, reduceCtorEq, Int.reduceEq]
      refine AW.scope ?_
      refine AW.rseq ?_
      try simp only [↓wk, ↓wl, nc, evV, wrapBits_eq, ↓reduceIte, Nat.reduceEqDiff, Nat.reduceAdd, Nat.reduceSub, Nat.reduceLeDiff, Nat.reduceLT, Nat.reduceBEq, reduceCtorEq, Int.reduceEq]
      refine AW.skseq ?_
      refine AW.sseq ?_
      refine AW.rseq ?_
      try simp only [↓wk, ↓wl, nc, evV, wrapBits_eq, ↓reduceIte, Nat.reduceEqDiff, Nat.reduceAdd, Nat.reduceSub, Nat.reduceLeDiff, Nat.reduceLT, Nat.reduceBEq, reduceCtorEq, Int.reduceEq]
      refine AW.bend ?_
      refine AW.iter H ((Le.toL 1 (by rfl) [0] [0, 4, 5] (by decide) (by decide) (by simp only [f58_L2, List.length_set, Option.map_some, restrict_eq, renS_nil, renS_cons, renB_els, renB_cel, renB_dead, deep_eq, map_ren_enc, ren_agg', ren_tup', ren_fn', ren_int', ren_bool', ren_str', ren_sl', ren_pro', ren_nilp', ren_nilfn', ren_junk', ren_ptr', ren_row', ren_arow', ren_eptr', vm, List.idxOf?_cons, List.idxOf?_nil, beq_self_eq_true, Option.map_none, List.getD_cons_zero, List.getD_cons_succ, ↓wk, ↓wl, nc, evV, wrapBits_eq, ↓reduceIte, Nat.reduceEqDiff, Nat.reduceAdd, Nat.reduceSub, Nat.reduceLeDiff, Nat.reduceLT, Nat.reduceBEq, reduceCtorEq, Int.reduceEq]))) ?_ <;> clear H
      rintro ⟨z_1852, shift_1853, v_1854⟩ x_ st0_ H hst_
      simp only [f58_L2] at H hst_
      subst hst_
      refine AW.bseq ?_
      refine AW.sseq ?_
      refine AW.rseq ?_
      try simp only [↓wk, ↓wl, nc, evV, wrapBits_eq, ↓reduceIte, Nat.reduceEqDiff, Nat.reduceAdd, Nat.reduceSub, Nat.reduceLeDiff, Nat.reduceLT, Nat.reduceBEq, reduceCtorEq, Int.reduceEq]
      refine evTs_flat hFn H (fun _ h => f82p_ok h) (by rfl) (by rfl) (by simp only [deep_eq, imm_simps, imm_rowE, imm_ptrE, imm_enc, omap_simps, take_map_len, take_map_set, take_map_set2, le_refl_true, Nat.zero_add, and_true, true_and, List.drop_zero, Option.map_some, ↓wk, ↓wl, nc, evV, wrapBits_eq, ↓reduceIte, Nat.reduceEqDiff, Nat.reduceAdd, Nat.reduceSub, Nat.reduceLeDiff, Nat.reduceLT, Nat.reduceBEq, reduceCtorEq, Int.reduceEq]; rfl) (by rfl) (fun _ => rfl) (fun _ => rfl) ?_ <;> clear H <;> intro r_1866 H
      try simp only [eL, ↓wk, ↓wl, nc, evV, wrapBits_eq, ↓reduceIte, Nat.reduceEqDiff, Nat.reduceAdd, Nat.reduceSub, Nat.reduceLeDiff, Nat.reduceLT, Nat.reduceBEq, reduceCtorEq, Int.reduceEq]
      refine AW.ifc H (by rfl) ?_ ?_ <;> clear H <;> intro H
      · refine AW.rseq ?_
        try simp only [↓wk, ↓wl, nc, evV, wrapBits_eq, ↓reduceIte, Nat.reduceEqDiff, Nat.reduceAdd, Nat.reduceSub, Nat.reduceLeDiff, Nat.reduceLT, Nat.reduceBEq, reduceCtorEq, Int.reduceEq]
        refine AW.ret ?_
        refine seqQ.ret ?_
        refine blkQ.ret ?_
        refine loopQ.ret H ?_ <;> clear H <;> intro H
        try dsimp only at H
        refine blk0.ret ?_
        refine seqQ.ret ?_
        cases H
        exact hqf58_C1 _ _ _ (.inr rfl) (Le.toL 1 (by rfl) [0] [2, 3] (by decide) (by decide) rfl) (by simp only [resVs, omap, resV, f58_C1, List.length_set, Option.map_some, restrict_eq, renS_nil, renS_cons, renB_els, renB_cel, renB_dead, deep_eq, map_ren_enc, ren_agg', ren_tup', ren_fn', ren_int', ren_bool', ren_str', ren_sl', ren_pro', ren_nilp', ren_nilfn', ren_junk', ren_ptr', ren_row', ren_arow', ren_eptr', vm, List.idxOf?_cons, List.idxOf?_nil, beq_self_eq_true, Option.map_none, List.getD_cons_zero, List.getD_cons_succ, ↓wk, ↓wl, nc, evV, wrapBits_eq, ↓reduceIte, Nat.reduceEqDiff, Nat.reduceAdd, Nat.reduceSub, Nat.reduceLeDiff, Nat.reduceLT, Nat.reduceBEq, reduceCtorEq, Int.reduceEq]) (by simp only [f58_C1, List.length_set, Option.map_some, restrict_eq, renS_nil, renS_cons, renB_els, renB_cel, renB_dead, deep_eq, map_ren_enc, ren_agg', ren_tup', ren_fn', ren_int', ren_bool', ren_str', ren_sl', ren_pro', ren_nilp', ren_nilfn', ren_junk', ren_ptr', ren_row', ren_arow', ren_eptr', vm, List.idxOf?_cons, List.idxOf?_nil, beq_self_eq_true, Option.map_none, List.getD_cons_zero, List.getD_cons_succ, ↓wk, ↓wl, nc, evV, wrapBits_eq, ↓reduceIte, Nat.reduceEqDiff, Nat.reduceAdd, Nat.reduceSub, Nat.reduceLeDiff, Nat.reduceLT, Nat.reduceBEq, reduceCtorEq, Int.reduceEq])
      · refine AW.skip ?_
        refine seqQ.norm ?_
        refine AW.rseq ?_
        try simp only [↓wk, ↓wl, nc, evV, wrapBits_eq, ↓reduceIte, Nat.reduceEqDiff, Nat.reduceAdd, Nat.reduceSub, Nat.reduceLeDiff, Nat.reduceLT, Nat.reduceBEq, reduceCtorEq, Int.reduceEq]
        refine evTs_inl (I := f58_C3 s_1798 v_1854) (args := [.ptr 0 0, .int .i64 1]) H (by rfl) fd83 (by rfl) (Nat.le_of_ble_eq_true rfl) ?_ ?_ <;> clear H
        · rintro v_ Q_ H hqf58_C3
          simp only [f58_C3] at H
          dsimp only [List.length_cons, List.length_nil]
          refine AW.rseq ?_
          try simp only [↓wk, ↓wl, nc, evV, wrapBits_eq, ↓reduceIte, Nat.reduceEqDiff, Nat.reduceAdd, Nat.reduceSub, Nat.reduceLeDiff, Nat.reduceLT, Nat.reduceBEq, reduceCtorEq, Int.reduceEq]
          refine AW.rseq ?_
          try simp only [↓wk, ↓wl, nc, evV, wrapBits_eq, ↓reduceIte, Nat.reduceEqDiff, Nat.reduceAdd, Nat.reduceSub, Nat.reduceLeDiff, Nat.reduceLT, Nat.reduceBEq, reduceCtorEq, Int.reduceEq]
          refine AW.rseq ?_
          try simp only [↓wk, ↓wl, nc, evV, wrapBits_eq, ↓reduceIte, Nat.reduceEqDiff, Nat.reduceAdd, Nat.reduceSub, Nat.reduceLeDiff, Nat.reduceLT, Nat.reduceBEq, reduceCtorEq, Int.reduceEq]
          refine evTs_sslc H (by rfl) (by simp only [loI, hiI, ↓wk, ↓wl, nc, evV, wrapBits_eq, ↓reduceIte, Nat.reduceEqDiff, Nat.reduceAdd, Nat.reduceSub, Nat.reduceLeDiff, Nat.reduceLT, Nat.reduceBEq, reduceCtorEq, Int.reduceEq]; rfl) (by simp only [loI, hiI, ↓wk, ↓wl, nc, evV, wrapBits_eq, ↓reduceIte, Nat.reduceEqDiff, Nat.reduceAdd, Nat.reduceSub, Nat.reduceLeDiff, Nat.reduceLT, Nat.reduceBEq, reduceCtorEq, Int.reduceEq]; rfl) ?_ <;> clear H <;> intro s_1870 H
          try simp only [↓wk, ↓wl, nc, evV, wrapBits_eq, ↓reduceIte, Nat.reduceEqDiff, Nat.reduceAdd, Nat.reduceSub, Nat.reduceLeDiff, Nat.reduceLT, Nat.reduceBEq, reduceCtorEq, Int.reduceEq]
          refine AW.ret ?_
          cases H
          exact hqf58_C3 _ _ _ (.inr rfl) (Le.toL 1 (by rfl) [0] [4] (by decide) (by decide) rfl) (by simp only [resVs, omap, resV, f58_C3, List.length_set, Option.map_some, restrict_eq, renS_nil, renS_cons, renB_els, renB_cel, renB_dead, deep_eq, map_ren_enc, ren_agg', ren_tup', ren_fn', ren_int', ren_bool', ren_str', ren_sl', ren_pro', ren_nilp', ren_nilfn', ren_junk', ren_ptr', ren_row', ren_arow', ren_eptr', vm, List.idxOf?_cons, List.idxOf?_nil, beq_self_eq_true, Option.map_none, List.getD_cons_zero, List.getD_cons_succ, ↓wk, ↓wl, nc, evV, wrapBits_eq, ↓reduceIte, Nat.reduceEqDiff, Nat.reduceAdd, Nat.reduceSub, Nat.reduceLeDiff, Nat.reduceLT, Nat.reduceBEq, reduceCtorEq, Int.reduceEq]) (by simp only [f58_C3, List.length_set, Option.map_some, restrict_eq, renS_nil, renS_cons, renB_els, renB_cel, renB_dead, deep_eq, map_ren_enc, ren_agg', ren_tup', ren_fn', ren_int', ren_bool', ren_str', ren_sl', ren_pro', ren_nilp', ren_nilfn', ren_junk', ren_ptr', ren_row', ren_arow', ren_eptr', vm, List.idxOf?_cons, List.idxOf?_nil, beq_self_eq_true, Option.map_none, List.getD_cons_zero, List.getD_cons_succ, ↓wk, ↓wl, nc, evV, wrapBits_eq, ↓reduceIte, Nat.reduceEqDiff, Nat.reduceAdd, Nat.reduceSub, Nat.reduceLeDiff, Nat.reduceLT, Nat.reduceBEq, reduceCtorEq, Int.reduceEq])
        · rintro ⟨v_1868, v_1869⟩ s_ h_ H hs_ hh_
          simp only [f58_C3] at H hs_ hh_
          subst hs_
          subst hh_
          try simp only [↓wk, ↓wl, nc, evV, wrapBits_eq, ↓reduceIte, Nat.reduceEqDiff, Nat.reduceAdd, Nat.reduceSub, Nat.reduceLeDiff, Nat.reduceLT, Nat.reduceBEq, reduceCtorEq, Int.reduceEq]
          refine evTs_sat H (by rfl) (by rfl) ?_ <;> clear H <;> intro b_1871 H
          try simp only [↓wk, ↓wl, nc, evV, wrapBits_eq, ↓reduceIte, Nat.reduceEqDiff, Nat.reduceAdd, Nat.reduceSub, Nat.reduceLeDiff, Nat.reduceLT, Nat.reduceBEq, reduceCtorEq, Int.reduceEq]
          refine AW.rseq ?_
          try simp only [↓wk, ↓wl, nc, evV, wrapBits_eq, ↓reduceIte, Nat.reduceEqDiff, Nat.reduceAdd, Nat.reduceSub, Nat.reduceLeDiff, Nat.reduceLT, Nat.reduceBEq, reduceCtorEq, Int.reduceEq]
          refine rest_and ?_
          try simp only [↓wk, ↓wl, nc, evV, wrapBits_eq, ↓reduceIte, Nat.reduceEqDiff, Nat.reduceAdd, Nat.reduceSub, Nat.reduceLeDiff, Nat.reduceLT, Nat.reduceBEq, reduceCtorEq, Int.reduceEq]
          refine rest_shlv H ?_ <;> clear H <;> intro H
          try simp only [↓wk, ↓wl, nc, evV, wrapBits_eq, ↓reduceIte, Nat.reduceEqDiff, Nat.reduceAdd, Nat.reduceSub, Nat.reduceLeDiff, Nat.reduceLT, Nat.reduceBEq, reduceCtorEq, Int.reduceEq]
          refine rest_or ?_
          try simp only [↓wk, ↓wl, nc, evV, wrapBits_eq, ↓reduceIte, Nat.reduceEqDiff, Nat.reduceAdd, Nat.reduceSub, Nat.reduceLeDiff, Nat.reduceLT, Nat.reduceBEq, reduceCtorEq, Int.reduceEq]
          refine AW.bend ?_
          refine AW.sseq ?_
          refine AW.rseq ?_
          try simp only [↓wk, ↓wl, nc, evV, wrapBits_eq, ↓reduceIte, Nat.reduceEqDiff, Nat.reduceAdd, Nat.reduceSub, Nat.reduceLeDiff, Nat.reduceLT, Nat.reduceBEq, reduceCtorEq, Int.reduceEq]
          refine evTs_ifg H (by rfl) ?_ ?_ <;> clear H <;> intro H
          · try simp only [↓wk, ↓wl, nc, evV, wrapBits_eq, ↓reduceIte, Nat.reduceEqDiff, Nat.reduceAdd, Nat.reduceSub, Nat.reduceLeDiff, Nat.reduceLT, Nat.reduceBEq, reduceCtorEq, Int.reduceEq]
            refine AW.ifc H (by rfl) ?_ ?_ <;> clear H <;> intro H
            · refine AW.skip ?_
              refine seqQ.norm ?_
              refine AW.ifc H (by rfl) ?_ ?_ <;> clear H <;> intro H
              · refine AW.rseq ?_
                try simp only [↓wk, ↓wl, nc, evV, wrapBits_eq, ↓reduceIte, Nat.reduceEqDiff, Nat.reduceAdd, Nat.reduceSub, Nat.reduceLeDiff, Nat.reduceLT, Nat.reduceBEq, reduceCtorEq, Int.reduceEq]
                refine AW.ret ?_
                refine blk0.ret ?_
                refine blkQ.ret ?_
                refine loopQ.ret H ?_ <;> clear H <;> intro H
                try dsimp only at H
                refine blk0.ret ?_
                refine seqQ.ret ?_
                cases H
                exact hqf58_C1 _ _ _ (.inr rfl) (Le.toL 1 (by rfl) [0] [2, 3] (by decide) (by decide) rfl) (by simp only [resVs, omap, resV, f58_C1, List.length_set, Option.map_some, restrict_eq, renS_nil, renS_cons, renB_els, renB_cel, renB_dead, deep_eq, map_ren_enc, ren_agg', ren_tup', ren_fn', ren_int', ren_bool', ren_str', ren_sl', ren_pro', ren_nilp', ren_nilfn', ren_junk', ren_ptr', ren_row', ren_arow', ren_eptr', vm, List.idxOf?_cons, List.idxOf?_nil, beq_self_eq_true, Option.map_none, List.getD_cons_zero, List.getD_cons_succ, ↓wk, ↓wl, nc, evV, wrapBits_eq, ↓reduceIte, Nat.reduceEqDiff, Nat.reduceAdd, Nat.reduceSub, Nat.reduceLeDiff, Nat.reduceLT, Nat.reduceBEq, reduceCtorEq, Int.reduceEq]) (by simp only [f58_C1, List.length_set, Option.map_some, restrict_eq, renS_nil, renS_cons, renB_els, renB_cel, renB_dead, deep_eq, map_ren_enc, ren_agg', ren_tup', ren_fn', ren_int', ren_bool', ren_str', ren_sl', ren_pro', ren_nilp', ren_nilfn', ren_junk', ren_ptr', ren_row', ren_arow', ren_eptr', vm, List.idxOf?_cons, List.idxOf?_nil, beq_self_eq_true, Option.map_none, List.getD_cons_zero, List.getD_cons_succ, ↓wk, ↓wl, nc, evV, wrapBits_eq, ↓reduceIte, Nat.reduceEqDiff, Nat.reduceAdd, Nat.reduceSub, Nat.reduceLeDiff, Nat.reduceLT, Nat.reduceBEq, reduceCtorEq, Int.reduceEq])
              · refine AW.rseq ?_
                try simp only [↓wk, ↓wl, nc, evV, wrapBits_eq, ↓reduceIte, Nat.reduceEqDiff, Nat.reduceAdd, Nat.reduceSub, Nat.reduceLeDiff, Nat.reduceLT, Nat.reduceBEq, reduceCtorEq, Int.reduceEq]
                refine AW.ifc H (by rfl) ?_ ?_ <;> clear H <;> intro H
                · refine AW.exit ?_
                  refine blk0.out (by rfl) ?_
                  refine blkQ.out (by rfl) ?_
                  refine loopQ.exit H ?_ <;> clear H <;> intro H
                  try dsimp only at H
                  refine blk0.here ?_
                  refine seqQ.norm ?_
                  refine AW.rseq ?_
                  try simp only [↓wk, ↓wl, nc, evV, wrapBits_eq, ↓reduceIte, Nat.reduceEqDiff, Nat.reduceAdd, Nat.reduceSub, Nat.reduceLeDiff, Nat.reduceLT, Nat.reduceBEq, reduceCtorEq, Int.reduceEq]
                  refine rest_shr (by decide) ?_
                  try simp only [↓wk, ↓wl, nc, evV, wrapBits_eq, ↓reduceIte, Nat.reduceEqDiff, Nat.reduceAdd, Nat.reduceSub, Nat.reduceLeDiff, Nat.reduceLT, Nat.reduceBEq, reduceCtorEq, Int.reduceEq]
                  refine rest_and ?_
                  try simp only [↓wk, ↓wl, nc, evV, wrapBits_eq, ↓reduceIte, Nat.reduceEqDiff, Nat.reduceAdd, Nat.reduceSub, Nat.reduceLeDiff, Nat.reduceLT, Nat.reduceBEq, reduceCtorEq, Int.reduceEq]
                  refine rest_xor ?_
                  try simp only [↓wk, ↓wl, nc, evV, wrapBits_eq, ↓reduceIte, Nat.reduceEqDiff, Nat.reduceAdd, Nat.reduceSub, Nat.reduceLeDiff, Nat.reduceLT, Nat.reduceBEq, reduceCtorEq, Int.reduceEq]
                  refine AW.ret ?_
                  cases H
                  exact hqf58_C1 _ _ _ (.inr rfl) (Le.toL 1 (by rfl) [0] [2, 3] (by decide) (by decide) rfl) (by simp only [resVs, omap, resV, f58_C1, List.length_set, Option.map_some, restrict_eq, renS_nil, renS_cons, renB_els, renB_cel, renB_dead, deep_eq, map_ren_enc, ren_agg', ren_tup', ren_fn', ren_int', ren_bool', ren_str', ren_sl', ren_pro', ren_nilp', ren_nilfn', ren_junk', ren_ptr', ren_row', ren_arow', ren_eptr', vm, List.idxOf?_cons, List.idxOf?_nil, beq_self_eq_true, Option.map_none, List.getD_cons_zero, List.getD_cons_succ, ↓wk, ↓wl, nc, evV, wrapBits_eq, ↓reduceIte, Nat.reduceEqDiff, Nat.reduceAdd, Nat.reduceSub, Nat.reduceLeDiff, Nat.reduceLT, Nat.reduceBEq, reduceCtorEq, Int.reduceEq]) (by simp only [f58_C1, List.length_set, Option.map_some, restrict_eq, renS_nil, renS_cons, renB_els, renB_cel, renB_dead, deep_eq, map_ren_enc, ren_agg', ren_tup', ren_fn', ren_int', ren_bool', ren_str', ren_sl', ren_pro', ren_nilp', ren_nilfn', ren_junk', ren_ptr', ren_row', ren_arow', ren_eptr', vm, List.idxOf?_cons, List.idxOf?_nil, beq_self_eq_true, Option.map_none, List.getD_cons_zero, List.getD_cons_succ, ↓wk, ↓wl, nc, evV, wrapBits_eq, ↓reduceIte, Nat.reduceEqDiff, Nat.reduceAdd, Nat.reduceSub, Nat.reduceLeDiff, Nat.reduceLT, Nat.reduceBEq, reduceCtorEq, Int.reduceEq])
                · refine AW.skip ?_
                  refine blk0.norm ?_
                  refine blkQ.norm ?_
                  refine AW.rend ?_
                  try simp only [↓wk, ↓wl, nc, evV, wrapBits_eq, ↓reduceIte, Nat.reduceEqDiff, Nat.reduceAdd, Nat.reduceSub, Nat.reduceLeDiff, Nat.reduceLT, Nat.reduceBEq, reduceCtorEq, Int.reduceEq]
                  exact loopQ.next H ((Le.toL 1 (by rfl) [0] [0, 4, 5] (by decide) (by decide) (by simp only [f58_L2, List.length_set, Option.map_some, restrict_eq, renS_nil, renS_cons, renB_els, renB_cel, renB_dead, deep_eq, map_ren_enc, ren_agg', ren_tup', ren_fn', ren_int', ren_bool', ren_str', ren_sl', ren_pro', ren_nilp', ren_nilfn', ren_junk', ren_ptr', ren_row', ren_arow', ren_eptr', vm, List.idxOf?_cons, List.idxOf?_nil, beq_self_eq_true, Option.map_none, List.getD_cons_zero, List.getD_cons_succ, ↓wk, ↓wl, nc, evV, wrapBits_eq, ↓reduceIte, Nat.reduceEqDiff, Nat.reduceAdd, Nat.reduceSub, Nat.reduceLeDiff, Nat.reduceLT, Nat.reduceBEq, reduceCtorEq, Int.reduceEq])))
            · refine AW.rend ?_
              try simp only [↓wk, ↓wl, nc, evV, wrapBits_eq, ↓reduceIte, Nat.reduceEqDiff, Nat.reduceAdd, Nat.reduceSub, Nat.reduceLeDiff, Nat.reduceLT, Nat.reduceBEq, reduceCtorEq, Int.reduceEq]
              refine evTs_ifg H (by rfl) ?_ ?_ <;> clear H <;> intro H
              · try simp only [↓wk, ↓wl, nc, evV, wrapBits_eq, ↓reduceIte, Nat.reduceEqDiff, Nat.reduceAdd, Nat.reduceSub, Nat.reduceLeDiff, Nat.reduceLT, Nat.reduceBEq, reduceCtorEq, Int.reduceEq]
                refine seqQ.norm ?_
                refine AW.ifc H (by rfl) ?_ ?_ <;> clear H <;> intro H
                · refine AW.rseq ?_
                  try simp only [↓wk, ↓wl, nc, evV, wrapBits_eq, ↓reduceIte, Nat.reduceEqDiff, Nat.reduceAdd, Nat.reduceSub, Nat.reduceLeDiff, Nat.reduceLT, Nat.reduceBEq, reduceCtorEq, Int.reduceEq]
                  refine AW.ret ?_
                  refine blk0.ret ?_
                  refine blkQ.ret ?_
                  refine loopQ.ret H ?_ <;> clear H <;> intro H
                  try dsimp only at H
                  refine blk0.ret ?_
                  refine seqQ.ret ?_
                  cases H
                  exact hqf58_C1 _ _ _ (.inr rfl) (Le.toL 1 (by rfl) [0] [2, 3] (by decide) (by decide) rfl) (by simp only [resVs, omap, resV, f58_C1, List.length_set, Option.map_some, restrict_eq, renS_nil, renS_cons, renB_els, renB_cel, renB_dead, deep_eq, map_ren_enc, ren_agg', ren_tup', ren_fn', ren_int', ren_bool', ren_str', ren_sl', ren_pro', ren_nilp', ren_nilfn', ren_junk', ren_ptr', ren_row', ren_arow', ren_eptr', vm, List.idxOf?_cons, List.idxOf?_nil, beq_self_eq_true, Option.map_none, List.getD_cons_zero, List.getD_cons_succ, ↓wk, ↓wl, nc, evV, wrapBits_eq, ↓reduceIte, Nat.reduceEqDiff, Nat.reduceAdd, Nat.reduceSub, Nat.reduceLeDiff, Nat.reduceLT, Nat.reduceBEq, reduceCtorEq, Int.reduceEq]) (by simp only [f58_C1, List.length_set, Option.map_some, restrict_eq, renS_nil, renS_cons, renB_els, renB_cel, renB_dead, deep_eq, map_ren_enc, ren_agg', ren_tup', ren_fn', ren_int', ren_bool', ren_str', ren_sl', ren_pro', ren_nilp', ren_nilfn', ren_junk', ren_ptr', ren_row', ren_arow', ren_eptr', vm, List.idxOf?_cons, List.idxOf?_nil, beq_self_eq_true, Option.map_none, List.getD_cons_zero, List.getD_cons_succ, ↓wk, ↓wl, nc, evV, wrapBits_eq, ↓reduceIte, Nat.reduceEqDiff, Nat.reduceAdd, Nat.reduceSub, Nat.reduceLeDiff, Nat.reduceLT, Nat.reduceBEq, reduceCtorEq, Int.reduceEq])
                · refine AW.rseq ?_
                  try simp only [↓wk, ↓wl, nc, evV, wrapBits_eq, ↓reduceIte, Nat.reduceEqDiff, Nat.reduceAdd, Nat.reduceSub, Nat.reduceLeDiff, Nat.reduceLT, Nat.reduceBEq, reduceCtorEq, Int.reduceEq]
                  refine AW.ifc H (by rfl) ?_ ?_ <;> clear H <;> intro H
                  · refine AW.exit ?_
                    refine blk0.out (by rfl) ?_
                    refine blkQ.out (by rfl) ?_
                    refine loopQ.exit H ?_ <;> clear H <;> intro H
                    try dsimp only at H
                    refine blk0.here ?_
                    refine seqQ.norm ?_
                    refine AW.rseq ?_
                    try simp only [↓wk, ↓wl, nc, evV, wrapBits_eq, ↓reduceIte, Nat.reduceEqDiff, Nat.reduceAdd, Nat.reduceSub, Nat.reduceLeDiff, Nat.reduceLT, Nat.reduceBEq, reduceCtorEq, Int.reduceEq]
                    refine rest_shr (by decide) ?_
                    try simp only [↓wk, ↓wl, nc, evV, wrapBits_eq, ↓reduceIte, Nat.reduceEqDiff, Nat.reduceAdd, Nat.reduceSub, Nat.reduceLeDiff, Nat.reduceLT, Nat.reduceBEq, reduceCtorEq, Int.reduceEq]
                    refine rest_and ?_
                    try simp only [↓wk, ↓wl, nc, evV, wrapBits_eq, ↓reduceIte, Nat.reduceEqDiff, Nat.reduceAdd, Nat.reduceSub, Nat.reduceLeDiff, Nat.reduceLT, Nat.reduceBEq, reduceCtorEq, Int.reduceEq]
                    refine rest_xor ?_
                    try simp only [↓wk, ↓wl, nc, evV, wrapBits_eq, ↓reduceIte, Nat.reduceEqDiff, Nat.reduceAdd, Nat.reduceSub, Nat.reduceLeDiff, Nat.reduceLT, Nat.reduceBEq, reduceCtorEq, Int.reduceEq]
                    refine AW.ret ?_
                    cases H
                    exact hqf58_C1 _ _ _ (.inr rfl) (Le.toL 1 (by rfl) [0] [2, 3] (by decide) (by decide) rfl) (by simp only [resVs, omap, resV, f58_C1, List.length_set, Option.map_some, restrict_eq, renS_nil, renS_cons, renB_els, renB_cel, renB_dead, deep_eq, map_ren_enc, ren_agg', ren_tup', ren_fn', ren_int', ren_bool', ren_str', ren_sl', ren_pro', ren_nilp', ren_nilfn', ren_junk', ren_ptr', ren_row', ren_arow', ren_eptr', vm, List.idxOf?_cons, List.idxOf?_nil, beq_self_eq_true, Option.map_none, List.getD_cons_zero, List.getD_cons_succ, ↓wk, ↓wl, nc, evV, wrapBits_eq, ↓reduceIte, Nat.reduceEqDiff, Nat.reduceAdd, Nat.reduceSub, Nat.reduceLeDiff, Nat.reduceLT, Nat.reduceBEq, reduceCtorEq, Int.reduceEq]) (by simp only [f58_C1, List.length_set, Option.map_some, restrict_eq, renS_nil, renS_cons, renB_els, renB_cel, renB_dead, deep_eq, map_ren_enc, ren_agg', ren_tup', ren_fn', ren_int', ren_bool', ren_str', ren_sl', ren_pro', ren_nilp', ren_nilfn', ren_junk', ren_ptr', ren_row', ren_arow', ren_eptr', vm, List.idxOf?_cons, List.idxOf?_nil, beq_self_eq_true, Option.map_none, List.getD_cons_zero, List.getD_cons_succ, ↓wk, ↓wl, nc, evV, wrapBits_eq, ↓reduceIte, Nat.reduceEqDiff, Nat.reduceAdd, Nat.reduceSub, Nat.reduceLeDiff, Nat.reduceLT, Nat.reduceBEq, reduceCtorEq, Int.reduceEq])
                  · refine AW.skip ?_
                    refine blk0.norm ?_
                    refine blkQ.norm ?_
                    refine AW.rend ?_
                    try simp only [↓wk, ↓wl, nc, evV, wrapBits_eq, ↓reduceIte, Nat.reduceEqDiff, Nat.reduceAdd, Nat.reduceSub, Nat.reduceLeDiff, Nat.reduceLT, Nat.reduceBEq, reduceCtorEq, Int.reduceEq]
                    exact loopQ.next H ((Le.toL 1 (by rfl) [0] [0, 4, 5] (by decide) (by decide) (by simp only [f58_L2, List.length_set, Option.map_some, restrict_eq, renS_nil, renS_cons, renB_els, renB_cel, renB_dead, deep_eq, map_ren_enc, ren_agg', ren_tup', ren_fn', ren_int', ren_bool', ren_str', ren_sl', ren_pro', ren_nilp', ren_nilfn', ren_junk', ren_ptr', ren_row', ren_arow', ren_eptr', vm, List.idxOf?_cons, List.idxOf?_nil, beq_self_eq_true, Option.map_none, List.getD_cons_zero, List.getD_cons_succ, ↓wk, ↓wl, nc, evV, wrapBits_eq, ↓reduceIte, Nat.reduceEqDiff, Nat.reduceAdd, Nat.reduceSub, Nat.reduceLeDiff, Nat.reduceLT, Nat.reduceBEq, reduceCtorEq, Int.reduceEq])))
              · try simp only [↓wk, ↓wl, nc, evV, wrapBits_eq, ↓reduceIte, Nat.reduceEqDiff, Nat.reduceAdd, Nat.reduceSub, Nat.reduceLeDiff, Nat.reduceLT, Nat.reduceBEq, reduceCtorEq, Int.reduceEq]
                refine seqQ.norm ?_
                refine AW.iff (by rfl) ?_
                refine AW.rseq ?_
                try simp only [↓wk, ↓wl, nc, evV, wrapBits_eq, ↓reduceIte, Nat.reduceEqDiff, Nat.reduceAdd, Nat.reduceSub, Nat.reduceLeDiff, Nat.reduceLT, Nat.reduceBEq, reduceCtorEq, Int.reduceEq]
                refine AW.ifc H (by rfl) ?_ ?_ <;> clear H <;> intro H
                · refine AW.exit ?_
                  refine blk0.out (by rfl) ?_
                  refine blkQ.out (by rfl) ?_
                  refine loopQ.exit H ?_ <;> clear H <;> intro H
                  try dsimp only at H
                  refine blk0.here ?_
                  refine seqQ.norm ?_
                  refine AW.rseq ?_
                  try simp only [↓wk, ↓wl, nc, evV, wrapBits_eq, ↓reduceIte, Nat.reduceEqDiff, Nat.reduceAdd, Nat.reduceSub, Nat.reduceLeDiff, Nat.reduceLT, Nat.reduceBEq, reduceCtorEq, Int.reduceEq]
                  refine rest_shr (by decide) ?_
                  try simp only [↓wk, ↓wl, nc, evV, wrapBits_eq, ↓reduceIte, Nat.reduceEqDiff, Nat.reduceAdd, Nat.reduceSub, Nat.reduceLeDiff, Nat.reduceLT, Nat.reduceBEq, reduceCtorEq, Int.reduceEq]
                  refine rest_and ?_
                  try simp only [↓wk, ↓wl, nc, evV, wrapBits_eq, ↓reduceIte, Nat.reduceEqDiff, Nat.reduceAdd, Nat.reduceSub, Nat.reduceLeDiff, Nat.reduceLT, Nat.reduceBEq, reduceCtorEq, Int.reduceEq]
                  refine rest_xor ?_
                  try simp only [↓wk, ↓wl, nc, evV, wrapBits_eq, ↓reduceIte, Nat.reduceEqDiff, Nat.reduceAdd, Nat.reduceSub, Nat.reduceLeDiff, Nat.reduceLT, Nat.reduceBEq, reduceCtorEq, Int.reduceEq]
                  refine AW.ret ?_
                  cases H
                  exact hqf58_C1 _ _ _ (.inr rfl) (Le.toL 1 (by rfl) [0] [2, 3] (by decide) (by decide) rfl) (by simp only [resVs, omap, resV, f58_C1, List.length_set, Option.map_some, restrict_eq, renS_nil, renS_cons, renB_els, renB_cel, renB_dead, deep_eq, map_ren_enc, ren_agg', ren_tup', ren_fn', ren_int', ren_bool', ren_str', ren_sl', ren_pro', ren_nilp', ren_nilfn', ren_junk', ren_ptr', ren_row', ren_arow', ren_eptr', vm, List.idxOf?_cons, List.idxOf?_nil, beq_self_eq_true, Option.map_none, List.getD_cons_zero, List.getD_cons_succ, ↓wk, ↓wl, nc, evV, wrapBits_eq, ↓reduceIte, Nat.reduceEqDiff, Nat.reduceAdd, Nat.reduceSub, Nat.reduceLeDiff, Nat.reduceLT, Nat.reduceBEq, reduceCtorEq, Int.reduceEq]) (by simp only [f58_C1, List.length_set, Option.map_some, restrict_eq, renS_nil, renS_cons, renB_els, renB_cel, renB_dead, deep_eq, map_ren_enc, ren_agg', ren_tup', ren_fn', ren_int', ren_bool', ren_str', ren_sl', ren_pro', ren_nilp', ren_nilfn', ren_junk', ren_ptr', ren_row', ren_arow', ren_eptr', vm, List.idxOf?_cons, List.idxOf?_nil, beq_self_eq_true, Option.map_none, List.getD_cons_zero, List.getD_cons_succ, ↓wk, ↓wl, nc, evV, wrapBits_eq, ↓reduceIte, Nat.reduceEqDiff, Nat.reduceAdd, Nat.reduceSub, Nat.reduceLeDiff, Nat.reduceLT, Nat.reduceBEq, reduceCtorEq, Int.reduceEq])
                · refine AW.skip ?_
                  refine blk0.norm ?_
                  refine blkQ.norm ?_
                  refine AW.rend ?_
                  try simp only [↓wk, ↓wl, nc, evV, wrapBits_eq, ↓reduceIte, Nat.reduceEqDiff, Nat.reduceAdd, Nat.reduceSub, Nat.reduceLeDiff, Nat.reduceLT, Nat.reduceBEq, reduceCtorEq, Int.reduceEq]
                  exact loopQ.next H ((Le.toL 1 (by rfl) [0] [0, 4, 5] (by decide) (by decide) (by simp only [f58_L2, List.length_set, Option.map_some, restrict_eq, renS_nil, renS_cons, renB_els, renB_cel, renB_dead, deep_eq, map_ren_enc, ren_agg', ren_tup', ren_fn', ren_int', ren_bool', ren_str', ren_sl', ren_pro', ren_nilp', ren_nilfn', ren_junk', ren_ptr', ren_row', ren_arow', ren_eptr', vm, List.idxOf?_cons, List.idxOf?_nil, beq_self_eq_true, Option.map_none, List.getD_cons_zero, List.getD_cons_succ, ↓wk, ↓wl, nc, evV, wrapBits_eq, ↓reduceIte, Nat.reduceEqDiff, Nat.reduceAdd, Nat.reduceSub, Nat.reduceLeDiff, Nat.reduceLT, Nat.reduceBEq, reduceCtorEq, Int.reduceEq])))
          · try simp only [↓wk, ↓wl, nc, evV, wrapBits_eq, ↓reduceIte, Nat.reduceEqDiff, Nat.reduceAdd, Nat.reduceSub, Nat.reduceLeDiff, Nat.reduceLT, Nat.reduceBEq, reduceCtorEq, Int.reduceEq]
            refine AW.iff (by rfl) ?_
            refine AW.rend ?_
            try simp only [↓wk, ↓wl, nc, evV, wrapBits_eq, ↓reduceIte, Nat.reduceEqDiff, Nat.reduceAdd, Nat.reduceSub, Nat.reduceLeDiff, Nat.reduceLT, Nat.reduceBEq, reduceCtorEq, Int.reduceEq]
            refine evTs_ifg H (by rfl) ?_ ?_ <;> clear H <;> intro H
            · try simp only [↓wk, ↓wl, nc, evV, wrapBits_eq, ↓reduceIte, Nat.reduceEqDiff, Nat.reduceAdd, Nat.reduceSub, Nat.reduceLeDiff, Nat.reduceLT, Nat.reduceBEq, reduceCtorEq, Int.reduceEq]
              refine seqQ.norm ?_
              refine AW.ifc H (by rfl) ?_ ?_ <;> clear H <;> intro H
              · refine AW.rseq ?_
                try simp only [↓wk, ↓wl, nc, evV, wrapBits_eq, ↓reduceIte, Nat.reduceEqDiff, Nat.reduceAdd, Nat.reduceSub, Nat.reduceLeDiff, Nat.reduceLT, Nat.reduceBEq, reduceCtorEq, Int.reduceEq]
                refine AW.ret ?_
                refine blk0.ret ?_
                refine blkQ.ret ?_
                refine loopQ.ret H ?_ <;> clear H <;> intro H
                try dsimp only at H
                refine blk0.ret ?_
                refine seqQ.ret ?_
                cases H
                exact hqf58_C1 _ _ _ (.inr rfl) (Le.toL 1 (by rfl) [0] [2, 3] (by decide) (by decide) rfl) (by simp only [resVs, omap, resV, f58_C1, List.length_set, Option.map_some, restrict_eq, renS_nil, renS_cons, renB_els, renB_cel, renB_dead, deep_eq, map_ren_enc, ren_agg', ren_tup', ren_fn', ren_int', ren_bool', ren_str', ren_sl', ren_pro', ren_nilp', ren_nilfn', ren_junk', ren_ptr', ren_row', ren_arow', ren_eptr', vm, List.idxOf?_cons, List.idxOf?_nil, beq_self_eq_true, Option.map_none, List.getD_cons_zero, List.getD_cons_succ, ↓wk, ↓wl, nc, evV, wrapBits_eq, ↓reduceIte, Nat.reduceEqDiff, Nat.reduceAdd, Nat.reduceSub, Nat.reduceLeDiff, Nat.reduceLT, Nat.reduceBEq, reduceCtorEq, Int.reduceEq]) (by simp only [f58_C1, List.length_set, Option.map_some, restrict_eq, renS_nil, renS_cons, renB_els, renB_cel, renB_dead, deep_eq, map_ren_enc, ren_agg', ren_tup', ren_fn', ren_int', ren_bool', ren_str', ren_sl', ren_pro', ren_nilp', ren_nilfn', ren_junk', ren_ptr', ren_row', ren_arow', ren_eptr', vm, List.idxOf?_cons, List.idxOf?_nil, beq_self_eq_true, Option.map_none, List.getD_cons_zero, List.getD_cons_succ, ↓wk, ↓wl, nc, evV, wrapBits_eq, ↓reduceIte, Nat.reduceEqDiff, Nat.reduceAdd, Nat.reduceSub, Nat.reduceLeDiff, Nat.reduceLT, Nat.reduceBEq, reduceCtorEq, Int.reduceEq])
              · refine AW.rseq ?_
                try simp only [↓wk, ↓wl, nc, evV, wrapBits_eq, ↓reduceIte, Nat.reduceEqDiff, Nat.reduceAdd, Nat.reduceSub, Nat.reduceLeDiff, Nat.reduceLT, Nat.reduceBEq, reduceCtorEq, Int.reduceEq]
                refine AW.ifc H (by rfl) ?_ ?_ <;> clear H <;> intro H
                · refine AW.exit ?_
                  refine blk0.out (by rfl) ?_
                  refine blkQ.out (by rfl) ?_
                  refine loopQ.exit H ?_ <;> clear H <;> intro H
                  try dsimp only at H
                  refine blk0.here ?_
                  refine seqQ.norm ?_
                  refine AW.rseq ?_
                  try simp only [↓wk, ↓wl, nc, evV, wrapBits_eq, ↓reduceIte, Nat.reduceEqDiff, Nat.reduceAdd, Nat.reduceSub, Nat.reduceLeDiff, Nat.reduceLT, Nat.reduceBEq, reduceCtorEq, Int.reduceEq]
                  refine rest_shr (by decide) ?_
                  try simp only [↓wk, ↓wl, nc, evV, wrapBits_eq, ↓reduceIte, Nat.reduceEqDiff, Nat.reduceAdd, Nat.reduceSub, Nat.reduceLeDiff, Nat.reduceLT, Nat.reduceBEq, reduceCtorEq, Int.reduceEq]
                  refine rest_and ?_
                  try simp only [↓wk, ↓wl, nc, evV, wrapBits_eq, ↓reduceIte, Nat.reduceEqDiff, Nat.reduceAdd, Nat.reduceSub, Nat.reduceLeDiff, Nat.reduceLT, Nat.reduceBEq, reduceCtorEq, Int.reduceEq]
                  refine rest_xor ?_
                  try simp only [↓wk, ↓wl, nc, evV, wrapBits_eq, ↓reduceIte, Nat.reduceEqDiff, Nat.reduceAdd, Nat.reduceSub, Nat.reduceLeDiff, Nat.reduceLT, Nat.reduceBEq, reduceCtorEq, Int.reduceEq]
                  refine AW.ret ?_
                  cases H
                  exact hqf58_C1 _ _ _ (.inr rfl) (Le.toL 1 (by rfl) [0] [2, 3] (by decide) (by decide) rfl) (by simp only [resVs, omap, resV, f58_C1, List.length_set, Option.map_some, restrict_eq, renS_nil, renS_cons, renB_els, renB_cel, renB_dead, deep_eq, map_ren_enc, ren_agg', ren_tup', ren_fn', ren_int', ren_bool', ren_str', ren_sl', ren_pro', ren_nilp', ren_nilfn', ren_junk', ren_ptr', ren_row', ren_arow', ren_eptr', vm, List.idxOf?_cons, List.idxOf?_nil, beq_self_eq_true, Option.map_none, List.getD_cons_zero, List.getD_cons_succ, ↓wk, ↓wl, nc, evV, wrapBits_eq, ↓reduceIte, Nat.reduceEqDiff, Nat.reduceAdd, Nat.reduceSub, Nat.reduceLeDiff, Nat.reduceLT, Nat.reduceBEq, reduceCtorEq, Int.reduceEq]) (by simp only [f58_C1, List.length_set, Option.map_some, restrict_eq, renS_nil, renS_cons, renB_els, renB_cel, renB_dead, deep_eq, map_ren_enc, ren_agg', ren_tup', ren_fn', ren_int', ren_bool', ren_str', ren_sl', ren_pro', ren_nilp', ren_nilfn', ren_junk', ren_ptr', ren_row', ren_arow', ren_eptr', vm, List.idxOf?_cons, List.idxOf?_nil, beq_self_eq_true, Option.map_none, List.getD_cons_zero, List.getD_cons_succ, ↓wk, ↓wl, nc, evV, wrapBits_eq, ↓reduceIte, Nat.reduceEqDiff, Nat.reduceAdd, Nat.reduceSub, Nat.reduceLeDiff, Nat.reduceLT, Nat.reduceBEq, reduceCtorEq, Int.reduceEq])
                · refine AW.skip ?_
                  refine blk0.norm ?_
                  refine blkQ.norm ?_
                  refine AW.rend ?_
                  try simp only [↓wk, ↓wl, nc, evV, wrapBits_eq, ↓reduceIte, Nat.reduceEqDiff, Nat.reduceAdd, Nat.reduceSub, Nat.reduceLeDiff, Nat.reduceLT, Nat.reduceBEq, reduceCtorEq, Int.reduceEq]
                  exact loopQ.next H ((Le.toL 1 (by rfl) [0] [0, 4, 5] (by decide) (by decide) (by simp only [f58_L2, List.length_set, Option.map_some, restrict_eq, renS_nil, renS_cons, renB_els, renB_cel, renB_dead, deep_eq, map_ren_enc, ren_agg', ren_tup', ren_fn', ren_int', ren_bool', ren_str', ren_sl', ren_pro', ren_nilp', ren_nilfn', ren_junk', ren_ptr', ren_row', ren_arow', ren_eptr', vm, List.idxOf?_cons, List.idxOf?_nil, beq_self_eq_true, Option.map_none, List.getD_cons_zero, List.getD_cons_succ, ↓wk, ↓wl, nc, evV, wrapBits_eq, ↓reduceIte, Nat.reduceEqDiff, Nat.reduceAdd, Nat.reduceSub, Nat.reduceLeDiff, Nat.reduceLT, Nat.reduceBEq, reduceCtorEq, Int.reduceEq])))
            · try simp only [↓wk, ↓wl, nc, evV, wrapBits_eq, ↓reduceIte, Nat.reduceEqDiff, Nat.reduceAdd, Nat.reduceSub, Nat.reduceLeDiff, Nat.reduceLT, Nat.reduceBEq, reduceCtorEq, Int.reduceEq]
              refine seqQ.norm ?_
              refine AW.iff (by rfl) ?_
              refine AW.rseq ?_
              try simp only [↓wk, ↓wl, nc, evV, wrapBits_eq, ↓reduceIte, Nat.reduceEqDiff, Nat.reduceAdd, Nat.reduceSub, Nat.reduceLeDiff, Nat.reduceLT, Nat.reduceBEq, reduceCtorEq, Int.reduceEq]
              refine AW.ifc H (by rfl) ?_ ?_ <;> clear H <;> intro H
              · refine AW.exit ?_
                refine blk0.out (by rfl) ?_
                refine blkQ.out (by rfl) ?_
                refine loopQ.exit H ?_ <;> clear H <;> intro H
                try dsimp only at H
                refine blk0.here ?_
                refine seqQ.norm ?_
                refine AW.rseq ?_
                try simp only [↓wk, ↓wl, nc, evV, wrapBits_eq, ↓reduceIte, Nat.reduceEqDiff, Nat.reduceAdd, Nat.reduceSub, Nat.reduceLeDiff, Nat.reduceLT, Nat.reduceBEq, reduceCtorEq, Int.reduceEq]
                refine rest_shr (by decide) ?_
                try simp only [↓wk, ↓wl, nc, evV, wrapBits_eq, ↓reduceIte, Nat.reduceEqDiff, Nat.reduceAdd, Nat.reduceSub, Nat.reduceLeDiff, Nat.reduceLT, Nat.reduceBEq, reduceCtorEq, Int.reduceEq]
                refine rest_and ?_
                try simp only [↓wk, ↓wl, nc, evV, wrapBits_eq, ↓reduceIte, Nat.reduceEqDiff, Nat.reduceAdd, Nat.reduceSub, Nat.reduceLeDiff, Nat.reduceLT, Nat.reduceBEq, reduceCtorEq, Int.reduceEq]
                refine rest_xor ?_
                try simp only [↓wk, ↓wl, nc, evV, wrapBits_eq, ↓reduceIte, Nat.reduceEqDiff, Nat.reduceAdd, Nat.reduceSub, Nat.reduceLeDiff, Nat.reduceLT, Nat.reduceBEq, reduceCtorEq, Int.reduceEq]
                refine AW.ret ?_
                cases H
                exact hqf58_C1 _ _ _ (.inr rfl) (Le.toL 1 (by rfl) [0] [2, 3] (by decide) (by decide) rfl) (by simp only [resVs, omap, resV, f58_C1, List.length_set, Option.map_some, restrict_eq, renS_nil, renS_cons, renB_els, renB_cel, renB_dead, deep_eq, map_ren_enc, ren_agg', ren_tup', ren_fn', ren_int', ren_bool', ren_str', ren_sl', ren_pro', ren_nilp', ren_nilfn', ren_junk', ren_ptr', ren_row', ren_arow', ren_eptr', vm, List.idxOf?_cons, List.idxOf?_nil, beq_self_eq_true, Option.map_none, List.getD_cons_zero, List.getD_cons_succ, ↓wk, ↓wl, nc, evV, wrapBits_eq, ↓reduceIte, Nat.reduceEqDiff, Nat.reduceAdd, Nat.reduceSub, Nat.reduceLeDiff, Nat.reduceLT, Nat.reduceBEq, reduceCtorEq, Int.reduceEq]) (by simp only [f58_C1, List.length_set, Option.map_some, restrict_eq, renS_nil, renS_cons, renB_els, renB_cel, renB_dead, deep_eq, map_ren_enc, ren_agg', ren_tup', ren_fn', ren_int', ren_bool', ren_str', ren_sl', ren_pro', ren_nilp', ren_nilfn', ren_junk', ren_ptr', ren_row', ren_arow', ren_eptr', vm, List.idxOf?_cons, List.idxOf?_nil, beq_self_eq_true, Option.map_none, List.getD_cons_zero, List.getD_cons_succ, ↓wk, ↓wl, nc, evV, wrapBits_eq, ↓reduceIte, Nat.reduceEqDiff, Nat.reduceAdd, Nat.reduceSub, Nat.reduceLeDiff, Nat.reduceLT, Nat.reduceBEq, reduceCtorEq, Int.reduceEq])
              · refine AW.skip ?_
                refine blk0.norm ?_
                refine blkQ.norm ?_
                refine AW.rend ?_
                try simp only [↓wk, ↓wl, nc, evV, wrapBits_eq, ↓reduceIte, Nat.reduceEqDiff, Nat.reduceAdd, Nat.reduceSub, Nat.reduceLeDiff, Nat.reduceLT, Nat.reduceBEq, reduceCtorEq, Int.reduceEq]
                exact loopQ.next H ((Le.toL 1 (by rfl) [0] [0, 4, 5] (by decide) (by decide) (by simp only [f58_L2, List.length_set, Option.map_some, restrict_eq, renS_nil, renS_cons, renB_els, renB_cel, renB_dead, deep_eq, map_ren_enc, ren_agg', ren_tup', ren_fn', ren_int', ren_bool', ren_str', ren_sl', ren_pro', ren_nilp', ren_nilfn', ren_junk', ren_ptr', ren_row', ren_arow', ren_eptr', vm, List.idxOf?_cons, List.idxOf?_nil, beq_self_eq_true, Option.map_none, List.getD_cons_zero, List.getD_cons_succ, ↓wk, ↓wl, nc, evV, wrapBits_eq, ↓reduceIte, Nat.reduceEqDiff, Nat.reduceAdd, Nat.reduceSub, Nat.reduceLeDiff, Nat.reduceLT, Nat.reduceBEq, reduceCtorEq, Int.reduceEq])))
    · rintro ⟨v_1834, v_1835, v_1836⟩ s_ h_ H hs_ hh_
      simp only [f58_C1] at H hs_ hh_
      subst hs_
      subst hh_
      try simp only [↓wk, ↓wl, nc, evV, wrapBits_eq, ↓reduceIte, Nat.reduceEqDiff, Nat.reduceAdd, Nat.reduceSub, Nat.reduceLeDiff, Nat.reduceLT, Nat.reduceBEq, reduceCtorEq, Int.reduceEq]
      refine AW.sseq ?_
      refine AW.rseq ?_
      try simp only [↓wk, ↓wl, nc, evV, wrapBits_eq, ↓reduceIte, Nat.reduceEqDiff, Nat.reduceAdd, Nat.reduceSub, Nat.reduceLeDiff, Nat.reduceLT, Nat.reduceBEq, reduceCtorEq, Int.reduceEq]
      refine AW.ifc H (by rfl) ?_ ?_ <;> clear H <;> intro H
      · refine AW.rseq ?_
        try simp only [↓wk, ↓wl, nc, evV, wrapBits_eq, ↓reduceIte, Nat.reduceEqDiff, Nat.reduceAdd, Nat.reduceSub, Nat.reduceLeDiff, Nat.reduceLT, Nat.reduceBEq, reduceCtorEq, Int.reduceEq]
        refine AW.ret ?_
        refine seqQ.ret ?_
        cases H
        exact hQ _ _ _ _ (.inr rfl) (by simp only [resVs, omap, resV, ↓wk, ↓wl, nc, evV, wrapBits_eq, ↓reduceIte, Nat.reduceEqDiff, Nat.reduceAdd, Nat.reduceSub, Nat.reduceLeDiff, Nat.reduceLT, Nat.reduceBEq, reduceCtorEq, Int.reduceEq]; rfl) (hand_plain (by rfl)) (by rfl)
      · refine AW.skip ?_
        refine seqQ.norm ?_
        refine AW.rseq ?_
        try simp only [↓wk, ↓wl, nc, evV, wrapBits_eq, ↓reduceIte, Nat.reduceEqDiff, Nat.reduceAdd, Nat.reduceSub, Nat.reduceLeDiff, Nat.reduceLT, Nat.reduceBEq, reduceCtorEq, Int.reduceEq]
        refine AW.ret ?_
        cases H
        exact hQ _ _ _ _ (.inr rfl) (by simp only [resVs, omap, resV, ↓wk, ↓wl, nc, evV, wrapBits_eq, ↓reduceIte, Nat.reduceEqDiff, Nat.reduceAdd, Nat.reduceSub, Nat.reduceLeDiff, Nat.reduceLT, Nat.reduceBEq, reduceCtorEq, Int.reduceEq]; rfl) (hand_plain (by rfl)) (by rfl)
def c85_0 : C := .cond (.t 22) (.seq (.reg [iI 2 (.mv (.c (.str []))), iI 3 (.mv (.c (.int .i64 20)))]) .ret) (.skip)
def c85_1 : C := .cond (.t 15) (.seq (.reg [iI 2 (.mv (.c (.str []))), iI 3 (.mv (.c (.int .i64 3)))]) .ret) (.seq (.reg [iI 23 (.mv (.t 0)), iI 24 (.mv (.t 4)), iI 25 (.call (.c (.fn 82 [])) [(.t 23), (.t 24)]), iI 26 (.un .not (.t 25)), iI 22 (.mv (.t 26))]) c85_0)
def c85_2 : C := .cond (.t 11) (.seq (.reg [iI 14 (.mv (.t 5)), iI 2 (.mv (.c (.str []))), iI 3 (.mv (.t 14))]) .ret) (.seq (.reg [iI 16 (.mv (.t 4)), iI 17 (.bin .lss (.t 16) (.c (.int .i64 0))), iI 18 (.mv (.t 17)), iG (some 19) 18 false (.mv (.t 4)), iG (some 20) 18 false (.bin .gtr (.t 19) (.c (.int .i64 65535))), iI 21 (.pick (.t 18) (.c (.bool true)) (.t 20)), iI 15 (.mv (.t 21))]) c85_1)
def c85_3 : C := .seq (.reg [iI 27 (.mv (.t 0)), iI 28 (.mv (.t 4)), iI 29 (.call (.c (.fn 83 [])) [(.t 27), (.t 28)]), iI 2 (.mv (.t 29)), iI 3 (.mv (.c (.int .i64 0)))]) .ret
def c85_4 : C := .seq (.block 0 (.seq (.reg [iI 12 (.mv (.t 5)), iI 13 (.bin .neq (.t 12) (.c (.int .i64 0))), iI 11 (.mv (.t 13))]) c85_2)) c85_3
def c85_5 : C := .seq (.reg [iI 7 (.mv (.t 0)), iI 8 (.call (.c (.fn 84 [])) [(.t 7)]), iI 6 (.mv (.t 8)), iI 9 (.ext (.t 6) 0), iI 10 (.ext (.t 6) 1), iI 4 (.mv (.t 9)), iI 5 (.mv (.t 10))]) c85_4
def ir85 : C := .seq (.reg [iI 2 (.mv (.c (.str []))), iI 3 (.mv (.c (.int .i64 0)))]) c85_5
theorem fd85 : fd? Try.prog 85 = some (30, [.slot 2, .slot 3], ir85) := by kernel_rfl
noncomputable def f59_C4 (s_1889 : (List UInt8)) (v_1981 : Int) : Il ((List UInt8) × Int) where
  run := (slc? s_1889 (IntKind.i64.wrap ((IntKind.i64.wrap (v_1981 + 1)) - 1)) (IntKind.i64.wrap (v_1981 + 1))).bind fun s_1997 => (some (s_1997, (IntKind.i64.wrap (v_1981 + 1))))
  res := fun (v_1995, v_1996) => .str v_1995
  hp := fun (v_1995, v_1996) => [.cel [.str s_1889, .int .i64 v_1996]]
noncomputable def f59_L3 (s_1889 : (List UInt8)) : Lp (Int × Int × Int) ((Int × Int) ⊕ (Int × Int)) where
  body := fun (z_1979, shift_1980, v_1981) => (f82p s_1889 v_1981 1).bind fun r_1993 => (if (!r_1993) = true then (some (.brk (Sum.inr (v_1981, 20)))) else ((f59_C4 s_1889 v_1981).run.bind fun (v_1995, v_1996) => (at? v_1995 0).bind fun b_1998 => (must? (0 ≤ shift_1980)).bind fun _ => (if (decide (shift_1980 = 63)) = true then (if (decide (1 < (b_1998.toNat : Int))) = true then (if (decide (1 < (b_1998.toNat : Int))) = true then (some (.brk (Sum.inr (v_1996, 3)))) else (if (decide ((b_1998.toNat : Int) < 128)) = true then (some (.brk (Sum.inl ((IntKind.u64.wrap ((BitVec.ofInt (IntKind.bits .u64) z_1979 ||| BitVec.ofInt (IntKind.bits .u64) (IntKind.u64.wrap ((IntKind.u64.wrap (IntKind.u8.wrap ((BitVec.ofInt (IntKind.bits .u8) (b_1998.toNat : Int) &&& BitVec.ofInt (IntKind.bits .u8) 127).toNat : Int))) * 2 ^ (min (Int.toNat shift_1980) (IntKind.bits .u64))))).toNat : Int)), v_1996)))) else (some (.next ((IntKind.u64.wrap ((BitVec.ofInt (IntKind.bits .u64) z_1979 ||| BitVec.ofInt (IntKind.bits .u64) (IntKind.u64.wrap ((IntKind.u64.wrap (IntKind.u8.wrap ((BitVec.ofInt (IntKind.bits .u8) (b_1998.toNat : Int) &&& BitVec.ofInt (IntKind.bits .u8) 127).toNat : Int))) * 2 ^ (min (Int.toNat shift_1980) (IntKind.bits .u64))))).toNat : Int)), (IntKind.i64.wrap (shift_1980 + 7)), v_1996))))) else (if (decide ((b_1998.toNat : Int) = 0)) = true then (if (decide (0 < shift_1980)) = true then (some (.brk (Sum.inr (v_1996, 3)))) else (if (decide ((b_1998.toNat : Int) < 128)) = true then (some (.brk (Sum.inl ((IntKind.u64.wrap ((BitVec.ofInt (IntKind.bits .u64) z_1979 ||| BitVec.ofInt (IntKind.bits .u64) (IntKind.u64.wrap ((IntKind.u64.wrap (IntKind.u8.wrap ((BitVec.ofInt (IntKind.bits .u8) (b_1998.toNat : Int) &&& BitVec.ofInt (IntKind.bits .u8) 127).toNat : Int))) * 2 ^ (min (Int.toNat shift_1980) (IntKind.bits .u64))))).toNat : Int)), v_1996)))) else (some (.next ((IntKind.u64.wrap ((BitVec.ofInt (IntKind.bits .u64) z_1979 ||| BitVec.ofInt (IntKind.bits .u64) (IntKind.u64.wrap ((IntKind.u64.wrap (IntKind.u8.wrap ((BitVec.ofInt (IntKind.bits .u8) (b_1998.toNat : Int) &&& BitVec.ofInt (IntKind.bits .u8) 127).toNat : Int))) * 2 ^ (min (Int.toNat shift_1980) (IntKind.bits .u64))))).toNat : Int)), (IntKind.i64.wrap (shift_1980 + 7)), v_1996))))) else (if (decide ((b_1998.toNat : Int) < 128)) = true then (some (.brk (Sum.inl ((IntKind.u64.wrap ((BitVec.ofInt (IntKind.bits .u64) z_1979 ||| BitVec.ofInt (IntKind.bits .u64) (IntKind.u64.wrap ((IntKind.u64.wrap (IntKind.u8.wrap ((BitVec.ofInt (IntKind.bits .u8) (b_1998.toNat : Int) &&& BitVec.ofInt (IntKind.bits .u8) 127).toNat : Int))) * 2 ^ (min (Int.toNat shift_1980) (IntKind.bits .u64))))).toNat : Int)), v_1996)))) else (some (.next ((IntKind.u64.wrap ((BitVec.ofInt (IntKind.bits .u64) z_1979 ||| BitVec.ofInt (IntKind.bits .u64) (IntKind.u64.wrap ((IntKind.u64.wrap (IntKind.u8.wrap ((BitVec.ofInt (IntKind.bits .u8) (b_1998.toNat : Int) &&& BitVec.ofInt (IntKind.bits .u8) 127).toNat : Int))) * 2 ^ (min (Int.toNat shift_1980) (IntKind.bits .u64))))).toNat : Int)), (IntKind.i64.wrap (shift_1980 + 7)), v_1996)))))) else (if (decide ((b_1998.toNat : Int) = 0)) = true then (if (decide (0 < shift_1980)) = true then (some (.brk (Sum.inr (v_1996, 3)))) else (if (decide ((b_1998.toNat : Int) < 128)) = true then (some (.brk (Sum.inl ((IntKind.u64.wrap ((BitVec.ofInt (IntKind.bits .u64) z_1979 ||| BitVec.ofInt (IntKind.bits .u64) (IntKind.u64.wrap ((IntKind.u64.wrap (IntKind.u8.wrap ((BitVec.ofInt (IntKind.bits .u8) (b_1998.toNat : Int) &&& BitVec.ofInt (IntKind.bits .u8) 127).toNat : Int))) * 2 ^ (min (Int.toNat shift_1980) (IntKind.bits .u64))))).toNat : Int)), v_1996)))) else (some (.next ((IntKind.u64.wrap ((BitVec.ofInt (IntKind.bits .u64) z_1979 ||| BitVec.ofInt (IntKind.bits .u64) (IntKind.u64.wrap ((IntKind.u64.wrap (IntKind.u8.wrap ((BitVec.ofInt (IntKind.bits .u8) (b_1998.toNat : Int) &&& BitVec.ofInt (IntKind.bits .u8) 127).toNat : Int))) * 2 ^ (min (Int.toNat shift_1980) (IntKind.bits .u64))))).toNat : Int)), (IntKind.i64.wrap (shift_1980 + 7)), v_1996))))) else (if (decide ((b_1998.toNat : Int) < 128)) = true then (some (.brk (Sum.inl ((IntKind.u64.wrap ((BitVec.ofInt (IntKind.bits .u64) z_1979 ||| BitVec.ofInt (IntKind.bits .u64) (IntKind.u64.wrap ((IntKind.u64.wrap (IntKind.u8.wrap ((BitVec.ofInt (IntKind.bits .u8) (b_1998.toNat : Int) &&& BitVec.ofInt (IntKind.bits .u8) 127).toNat : Int))) * 2 ^ (min (Int.toNat shift_1980) (IntKind.bits .u64))))).toNat : Int)), v_1996)))) else (some (.next ((IntKind.u64.wrap ((BitVec.ofInt (IntKind.bits .u64) z_1979 ||| BitVec.ofInt (IntKind.bits .u64) (IntKind.u64.wrap ((IntKind.u64.wrap (IntKind.u8.wrap ((BitVec.ofInt (IntKind.bits .u8) (b_1998.toNat : Int) &&& BitVec.ofInt (IntKind.bits .u8) 127).toNat : Int))) * 2 ^ (min (Int.toNat shift_1980) (IntKind.bits .u64))))).toNat : Int)), (IntKind.i64.wrap (shift_1980 + 7)), v_1996))))))))
  cst := fun (z_1979, shift_1980, v_1981) => ⟨put (put (put (fun _ => .junk) 5 (.int .i64 shift_1980)) 4 (.int .u64 z_1979)) 0 (.ptr 0 0), [.cel [.str s_1889, .int .i64 v_1981]]⟩
noncomputable def f59_C2 (s_1889 : (List UInt8)) (at_1890 : Int) : Il (Int × Int × Int) where
  run := ((Lp.run (f59_L3 s_1889) (0, 0, at_1890)).bind fun r_ => match r_ with | (Sum.inl (z_1988, v_1989)) => (some ((IntKind.i64.wrap ((BitVec.ofInt (IntKind.bits .i64) (IntKind.i64.wrap (Int.fdiv z_1988 (2 ^ (min (Int.toNat 1) (IntKind.bits .u64))))) ^^^ BitVec.ofInt (IntKind.bits .i64) (IntKind.i64.wrap (0 - (IntKind.i64.wrap (IntKind.u64.wrap ((BitVec.ofInt (IntKind.bits .u64) z_1988 &&& BitVec.ofInt (IntKind.bits .u64) 1).toNat : Int)))))).toNat : Int)), 0, v_1989)) | (Sum.inr (v_1990, v_1991)) => (some (0, v_1991, v_1990)))
  res := fun (v_1961, v_1962, v_1963) => .tup [.int .i64 v_1961, .int .i64 v_1962]
  hp := fun (v_1961, v_1962, v_1963) => [.cel [.str s_1889, .int .i64 v_1963]]
noncomputable def f59_C5 (s_1889 : (List UInt8)) (v_1963 : Int) (v_1961 : Int) : Il ((List UInt8) × Int) where
  run := (slc? s_1889 (IntKind.i64.wrap ((IntKind.i64.wrap (v_1963 + v_1961)) - v_1961)) (IntKind.i64.wrap (v_1963 + v_1961))).bind fun s_2003 => (some (s_2003, (IntKind.i64.wrap (v_1963 + v_1961))))
  res := fun (v_2001, v_2002) => .str v_2001
  hp := fun (v_2001, v_2002) => [.cel [.str s_1889, .int .i64 v_2002]]
noncomputable def f59_C1 (s_1889 : (List UInt8)) (at_1890 : Int) : Il ((List UInt8) × Int × Int) where
  run := ((f59_C2 s_1889 at_1890).run.bind fun (v_1961, v_1962, v_1963) => (if (decide (v_1962 ≠ 0)) = true then (some ([], v_1962, v_1963)) else (if (decide (v_1961 < 0)) = true then (some ([], 3, v_1963)) else (if (decide (65535 < v_1961)) = true then (some ([], 3, v_1963)) else (f82p s_1889 v_1963 v_1961).bind fun r_1999 => (if (!r_1999) = true then (some ([], 20, v_1963)) else ((f59_C5 s_1889 v_1963 v_1961).run.bind fun (v_2001, v_2002) => (some (v_2001, 0, v_2002))))))))
  res := fun (v_1930, v_1931, v_1932) => .tup [.str v_1930, .int .i64 v_1931]
  hp := fun (v_1930, v_1931, v_1932) => [.cel [.str s_1889, .int .i64 v_1932]]
def c59_0 : C := .cond (.t 18) (.seq (.reg [iI 19 (.mv (.t 8)), iI 4 (.mv (.c (.str []))), iI 5 (.mv (.c (.int .i64 0))), iI 6 (.mv (.t 19))]) .ret) (.skip)
def c59_1 : C := .seq (.reg [iI 17 (.mv (.t 8)), iI 18 (.bin .neq (.t 17) (.c (.int .i64 0)))]) c59_0
def c59_2 : C := .cond (.t 26) (.seq (.reg [iI 27 (.mv (.t 10)), iI 4 (.mv (.c (.str []))), iI 5 (.mv (.c (.int .i64 0))), iI 6 (.mv (.t 27))]) .ret) (.skip)
def c59_3 : C := .seq (.reg [iI 28 (.mv (.t 9)), iI 29 (.mv (.t 7)), iI 30 (.nilchk (.t 29)), iI 31 (.faddr 1 (.t 30)), iI 32 (.load 0 (.t 31)), iI 4 (.mv (.t 28)), iI 5 (.mv (.t 32)), iI 6 (.mv (.c (.int .i64 0)))]) .ret
def c59_4 : C := .seq (.seq (.reg [iI 25 (.mv (.t 10)), iI 26 (.bin .neq (.t 25) (.c (.int .i64 0)))]) c59_2) c59_3
def c59_5 : C := .seq (.reg [iI 21 (.mv (.t 7)), iI 22 (.call (.c (.fn 85 [])) [(.t 21)]), iI 20 (.mv (.t 22)), iI 23 (.ext (.t 20) 0), iI 24 (.ext (.t 20) 1), iI 9 (.mv (.t 23)), iI 10 (.mv (.t 24))]) c59_4
def c59_6 : C := .seq (.seq (.reg [iI 15 (.mv (.t 7)), iI 16 (.call (.c (.fn 81 [])) [(.t 15)]), iI 8 (.mv (.t 16))]) c59_1) c59_5
def c59_7 : C := .seq (.reg [iI 11 (.mv (.t 0)), iI 12 (.mv (.t 1)), iI 13 (.build [(1, (.str [])), (1, (.int .i64 0))] [(0, 0, (.t 11)), (1, 0, (.t 12))]), iI 14 (.box (.t 13)), iI 7 (.mv (.t 14))]) c59_6
def ir59 : C := .seq (.reg [iI 4 (.mv (.c (.str []))), iI 5 (.mv (.c (.int .i64 0))), iI 6 (.mv (.c (.int .i64 0)))]) c59_7
theorem fd59 : fd? Try.prog 59 = some (33, [.slot 4, .slot 5, .slot 6], ir59) := by kernel_rfl
noncomputable def f59 (s_1889 : (List UInt8)) (at_1890 : Int) : Option ((List UInt8) × Int × Int) :=
  (f81p s_1889 at_1890).bind fun r_1892 => (if (decide (r_1892 ≠ 0)) = true then (some ([], 0, r_1892)) else ((f59_C1 s_1889 at_1890).run.bind fun (v_1930, v_1931, v_1932) => (if (decide (v_1931 ≠ 0)) = true then (some ([], 0, v_1931)) else (some (v_1930, v_1932, 0)))))
theorem f59_ok {s_1889 : (List UInt8)} {at_1890 : Int} {r_ : (List UInt8) × Int × Int} (H : f59 s_1889 at_1890 = some r_) : Pure Try.prog 59 [.str s_1889, .int .i64 at_1890] (· = .tup [.str r_.1, .int .i64 r_.2.1, .int .i64 r_.2.2]) := by
  refine Pure.walk2 fd59 none (Nat.le_of_ble_eq_true rfl) (by rfl) fun Q hQ => ?_
  simp only [f59] at H
  refine AW.rseq ?_
  try simp only [↓wk, ↓wl, nc, evV, wrapBits_eq, ↓reduceIte, Nat.reduceEqDiff, Nat.reduceAdd, Nat.reduceSub, Nat.reduceLeDiff, Nat.reduceLT, Nat.reduceBEq, reduceCtorEq, Int.reduceEq]
  refine AW.rseq ?_
  try simp only [↓wk, ↓wl, nc, evV, wrapBits_eq, ↓reduceIte, Nat.reduceEqDiff, Nat.reduceAdd, Nat.reduceSub, Nat.reduceLeDiff, Nat.reduceLT, Nat.reduceBEq, reduceCtorEq, Int.reduceEq]
  refine AW.sseq ?_
  refine AW.rseq ?_
  try simp only [↓wk, ↓wl, nc, evV, wrapBits_eq, ↓reduceIte, Nat.reduceEqDiff, Nat.reduceAdd, Nat.reduceSub, Nat.reduceLeDiff, Nat.reduceLT, Nat.reduceBEq, reduceCtorEq, Int.reduceEq]
  refine evTs_flat hFn H (fun _ h => f81p_ok h) (by rfl) (by rfl) (by simp only [deep_eq, imm_simps, imm_rowE, imm_ptrE, imm_enc, omap_simps, take_map_len, take_map_set, take_map_set2, le_refl_true, Nat.zero_add, and_true, true_and, List.drop_zero, Option.map_some, ↓wk, ↓wl, nc, evV, wrapBits_eq, ↓reduceIte, Nat.reduceEqDiff, Nat.reduceAdd, Nat.reduceSub, Nat.reduceLeDiff, Nat.reduceLT, Nat.reduceBEq, reduceCtorEq, Int.reduceEq]; rfl) (by rfl) (fun _ => rfl) (fun _ => rfl) ?_ <;> clear H <;> intro r_1892 H
  try simp only [eL, ↓wk, ↓wl, nc, evV, wrapBits_eq, ↓reduceIte, Nat.reduceEqDiff, Nat.reduceAdd, Nat.reduceSub, Nat.reduceLeDiff, Nat.reduceLT, Nat.reduceBEq, reduceCtorEq, Int.reduceEq]
  refine AW.rseq ?_
  try simp only [↓wk, ↓wl, nc, evV, wrapBits_eq, ↓reduceIte, Nat.reduceEqDiff, Nat.reduceAdd, Nat.reduceSub, Nat.reduceLeDiff, Nat.reduceLT, Nat.reduceBEq, reduceCtorEq, Int.reduceEq]
  refine AW.ifc H (by rfl) ?_ ?_ <;> clear H <;> intro H
  · refine AW.rseq ?_
    try simp only [↓wk, ↓wl, nc, evV, wrapBits_eq, ↓reduceIte, Nat.reduceEqDiff, Nat.reduceAdd, Nat.reduceSub, Nat.reduceLeDiff, Nat.reduceLT, Nat.reduceBEq, reduceCtorEq, Int.reduceEq]
    refine AW.ret ?_
    refine seqQ.ret ?_
    cases H
    exact hQ _ _ _ _ (.inr rfl) (by simp only [resVs, omap, resV, ↓wk, ↓wl, nc, evV, wrapBits_eq, ↓reduceIte, Nat.reduceEqDiff, Nat.reduceAdd, Nat.reduceSub, Nat.reduceLeDiff, Nat.reduceLT, Nat.reduceBEq, reduceCtorEq, Int.reduceEq]; rfl) (hand_plain (by rfl)) (by rfl)
  · refine AW.skip ?_
    refine seqQ.norm ?_
    refine AW.rseq ?_
    try simp only [↓wk, ↓wl, nc, evV, wrapBits_eq, ↓reduceIte, Nat.reduceEqDiff, Nat.reduceAdd, Nat.reduceSub, Nat.reduceLeDiff, Nat.reduceLT, Nat.reduceBEq, reduceCtorEq, Int.reduceEq]
    refine evTs_inl (I := f59_C1 s_1889 at_1890) (args := [.ptr 0 0]) H (by rfl) fd85 (by rfl) (Nat.le_of_ble_eq_true rfl) ?_ ?_ <;> clear H
    · rintro v_ Q_ H hqf59_C1
      simp only [f59_C1] at H
      dsimp only [List.length_cons, List.length_nil]
      refine AW.rseq ?_
      try simp only [↓wk, ↓wl, nc, evV, wrapBits_eq, ↓reduceIte, Nat.reduceEqDiff, Nat.reduceAdd, Nat.reduceSub, Nat.reduceLeDiff, Nat.reduceLT, Nat.reduceBEq, reduceCtorEq, Int.reduceEq]
      refine AW.rseq ?_
      try simp only [↓wk, ↓wl, nc, evV, wrapBits_eq, ↓reduceIte, Nat.reduceEqDiff, Nat.reduceAdd, Nat.reduceSub, Nat.reduceLeDiff, Nat.reduceLT, Nat.reduceBEq, reduceCtorEq, Int.reduceEq]
      refine evTs_inl (I := f59_C2 s_1889 at_1890) (args := [.ptr 0 0]) H (by rfl) fd84 (by rfl) (Nat.le_of_ble_eq_true rfl) ?_ ?_ <;> clear H
      · rintro v_ Q_ H hqf59_C2
        simp only [f59_C2] at H
        dsimp only [List.length_cons, List.length_nil]
        refine AW.rseq ?_
        try simp only [↓wk, ↓wl, nc, evV, wrapBits_eq, ↓reduceIte, Nat.reduceEqDiff, Nat.reduceAdd, Nat.reduceSub, Nat.reduceLeDiff, Nat.reduceLT, Nat.reduceBEq, reduceCtorEq, Int.reduceEq]
        refine AW.scope ?_
        refine AW.rseq ?_
        try simp only [↓wk, ↓wl, nc, evV, wrapBits_eq, ↓reduceIte, Nat.reduceEqDiff, Nat.reduceAdd, Nat.reduceSub, Nat.reduceLeDiff, Nat.reduceLT, Nat.reduceBEq, reduceCtorEq, Int.reduceEq]
        refine AW.skseq ?_
        refine AW.sseq ?_
        refine AW.rseq ?_
        try simp only [↓wk, ↓wl, nc, evV, wrapBits_eq, ↓reduceIte, Nat.reduceEqDiff, Nat.reduceAdd, Nat.reduceSub, Nat.reduceLeDiff, Nat.reduceLT, Nat.reduceBEq, reduceCtorEq, Int.reduceEq]
        refine AW.bend ?_
        refine AW.iter H ((Le.toL 1 (by rfl) [0] [0, 4, 5] (by decide) (by decide) (by simp only [f59_L3, List.length_set, Option.map_some, restrict_eq, renS_nil, renS_cons, renB_els, renB_cel, renB_dead, deep_eq, map_ren_enc, ren_agg', ren_tup', ren_fn', ren_int', ren_bool', ren_str', ren_sl', ren_pro', ren_nilp', ren_nilfn', ren_junk', ren_ptr', ren_row', ren_arow', ren_eptr', vm, List.idxOf?_cons, List.idxOf?_nil, beq_self_eq_true, Option.map_none, List.getD_cons_zero, List.getD_cons_succ, ↓wk, ↓wl, nc, evV, wrapBits_eq, ↓reduceIte, Nat.reduceEqDiff, Nat.reduceAdd, Nat.reduceSub, Nat.reduceLeDiff, Nat.reduceLT, Nat.reduceBEq, reduceCtorEq, Int.reduceEq]))) ?_ <;> clear H
        rintro ⟨z_1979, shift_1980, v_1981⟩ x_ st0_ H hst_
        simp only [f59_L3] at H hst_
        subst hst_
        refine AW.bseq ?_
        refine AW.sseq ?_
        refine AW.rseq ?_
        try simp only [↓wk, ↓wl, nc, evV, wrapBits_eq, ↓reduceIte, Nat.reduceEqDiff, Nat.reduceAdd, Nat.reduceSub, Nat.reduceLeDiff, Nat.reduceLT, Nat.reduceBEq, reduceCtorEq, Int.reduceEq]
        refine evTs_flat hFn H (fun _ h => f82p_ok h) (by rfl) (by rfl) (by simp only [deep_eq, imm_simps, imm_rowE, imm_ptrE, imm_enc, omap_simps, take_map_len, take_map_set, take_map_set2, le_refl_true, Nat.zero_add, and_true, true_and, List.drop_zero, Option.map_some, ↓wk, ↓wl, nc, evV, wrapBits_eq, ↓reduceIte, Nat.reduceEqDiff, Nat.reduceAdd, Nat.reduceSub, Nat.reduceLeDiff, Nat.reduceLT, Nat.reduceBEq, reduceCtorEq, Int.reduceEq]; rfl) (by rfl) (fun _ => rfl) (fun _ => rfl) ?_ <;> clear H <;> intro r_1993 H
        try simp only [eL, ↓wk, ↓wl, nc, evV, wrapBits_eq, ↓reduceIte, Nat.reduceEqDiff, Nat.reduceAdd, Nat.reduceSub, Nat.reduceLeDiff, Nat.reduceLT, Nat.reduceBEq, reduceCtorEq, Int.reduceEq]
        refine AW.ifc H (by rfl) ?_ ?_ <;> clear H <;> intro H
        · refine AW.rseq ?_
          try simp only [↓wk, ↓wl, nc, evV, wrapBits_eq, ↓reduceIte, Nat.reduceEqDiff, Nat.reduceAdd, Nat.reduceSub, Nat.reduceLeDiff, Nat.reduceLT, Nat.reduceBEq, reduceCtorEq, Int.reduceEq]
          refine AW.ret ?_
          refine seqQ.ret ?_
          refine blkQ.ret ?_
          refine loopQ.ret H ?_ <;> clear H <;> intro H
          try dsimp only at H
          refine blk0.ret ?_
          refine seqQ.ret ?_
          cases H
          exact hqf59_C2 _ _ _ (.inr rfl) (Le.toL 1 (by rfl) [0] [2, 3] (by decide) (by decide) rfl) (by simp only [resVs, omap, resV, f59_C2, List.length_set, Option.map_some, restrict_eq, renS_nil, renS_cons, renB_els, renB_cel, renB_dead, deep_eq, map_ren_enc, ren_agg', ren_tup', ren_fn', ren_int', ren_bool', ren_str', ren_sl', ren_pro', ren_nilp', ren_nilfn', ren_junk', ren_ptr', ren_row', ren_arow', ren_eptr', vm, List.idxOf?_cons, List.idxOf?_nil, beq_self_eq_true, Option.map_none, List.getD_cons_zero, List.getD_cons_succ, ↓wk, ↓wl, nc, evV, wrapBits_eq, ↓reduceIte, Nat.reduceEqDiff, Nat.reduceAdd, Nat.reduceSub, Nat.reduceLeDiff, Nat.reduceLT, Nat.reduceBEq, reduceCtorEq, Int.reduceEq]) (by simp only [f59_C2, List.length_set, Option.map_some, restrict_eq, renS_nil, renS_cons, renB_els, renB_cel, renB_dead, deep_eq, map_ren_enc, ren_agg', ren_tup', ren_fn', ren_int', ren_bool', ren_str', ren_sl', ren_pro', ren_nilp', ren_nilfn', ren_junk', ren_ptr', ren_row', ren_arow', ren_eptr', vm, List.idxOf?_cons, List.idxOf?_nil, beq_self_eq_true, Option.map_none, List.getD_cons_zero, List.getD_cons_succ, ↓wk, ↓wl, nc, evV, wrapBits_eq, ↓reduceIte, Nat.reduceEqDiff, Nat.reduceAdd, Nat.reduceSub, Nat.reduceLeDiff, Nat.reduceLT, Nat.reduceBEq, reduceCtorEq, Int.reduceEq])
        · refine AW.skip ?_
          refine seqQ.norm ?_
          refine AW.rseq ?_
          try simp only [↓wk, ↓wl, nc, evV, wrapBits_eq, ↓reduceIte, Nat.reduceEqDiff, Nat.reduceAdd, Nat.reduceSub, Nat.reduceLeDiff, Nat.reduceLT, Nat.reduceBEq, reduceCtorEq, Int.reduceEq]
          refine evTs_inl (I := f59_C4 s_1889 v_1981) (args := [.ptr 0 0, .int .i64 1]) H (by rfl) fd83 (by rfl) (Nat.le_of_ble_eq_true rfl) ?_ ?_ <;> clear H
          · rintro v_ Q_ H hqf59_C4
            simp only [f59_C4] at H
            dsimp only [List.length_cons, List.length_nil]
            refine AW.rseq ?_
            try simp only [↓wk, ↓wl, nc, evV, wrapBits_eq, ↓reduceIte, Nat.reduceEqDiff, Nat.reduceAdd, Nat.reduceSub, Nat.reduceLeDiff, Nat.reduceLT, Nat.reduceBEq, reduceCtorEq, Int.reduceEq]
            refine AW.rseq ?_
            try simp only [↓wk, ↓wl, nc, evV, wrapBits_eq, ↓reduceIte, Nat.reduceEqDiff, Nat.reduceAdd, Nat.reduceSub, Nat.reduceLeDiff, Nat.reduceLT, Nat.reduceBEq, reduceCtorEq, Int.reduceEq]
            refine AW.rseq ?_
            try simp only [↓wk, ↓wl, nc, evV, wrapBits_eq, ↓reduceIte, Nat.reduceEqDiff, Nat.reduceAdd, Nat.reduceSub, Nat.reduceLeDiff, Nat.reduceLT, Nat.reduceBEq, reduceCtorEq, Int.reduceEq]
            refine evTs_sslc H (by rfl) (by simp only [loI, hiI, ↓wk, ↓wl, nc, evV, wrapBits_eq, ↓reduceIte, Nat.reduceEqDiff, Nat.reduceAdd, Nat.reduceSub, Nat.reduceLeDiff, Nat.reduceLT, Nat.reduceBEq, reduceCtorEq, Int.reduceEq]; rfl) (by simp only [loI, hiI, ↓wk, ↓wl, nc, evV, wrapBits_eq, ↓reduceIte, Nat.reduceEqDiff, Nat.reduceAdd, Nat.reduceSub, Nat.reduceLeDiff, Nat.reduceLT, Nat.reduceBEq, reduceCtorEq, Int.reduceEq]; rfl) ?_ <;> clear H <;> intro s_1997 H
            try simp only [↓wk, ↓wl, nc, evV, wrapBits_eq, ↓reduceIte, Nat.reduceEqDiff, Nat.reduceAdd, Nat.reduceSub, Nat.reduceLeDiff, Nat.reduceLT, Nat.reduceBEq, reduceCtorEq, Int.reduceEq]
            refine AW.ret ?_
            cases H
            exact hqf59_C4 _ _ _ (.inr rfl) (Le.toL 1 (by rfl) [0] [4] (by decide) (by decide) rfl) (by simp only [resVs, omap, resV, f59_C4, List.length_set, Option.map_some, restrict_eq, renS_nil, renS_cons, renB_els, renB_cel, renB_dead, deep_eq, map_ren_enc, ren_agg', ren_tup', ren_fn', ren_int', ren_bool', ren_str', ren_sl', ren_pro', ren_nilp', ren_nilfn', ren_junk', ren_ptr', ren_row', ren_arow', ren_eptr', vm, List.idxOf?_cons, List.idxOf?_nil, beq_self_eq_true, Option.map_none, List.getD_cons_zero, List.getD_cons_succ, ↓wk, ↓wl, nc, evV, wrapBits_eq, ↓reduceIte, Nat.reduceEqDiff, Nat.reduceAdd, Nat.reduceSub, Nat.reduceLeDiff, Nat.reduceLT, Nat.reduceBEq, reduceCtorEq, Int.reduceEq]) (by simp only [f59_C4, List.length_set, Option.map_some, restrict_eq, renS_nil, renS_cons, renB_els, renB_cel, renB_dead, deep_eq, map_ren_enc, ren_agg', ren_tup', ren_fn', ren_int', ren_bool', ren_str', ren_sl', ren_pro', ren_nilp', ren_nilfn', ren_junk', ren_ptr', ren_row', ren_arow', ren_eptr', vm, List.idxOf?_cons, List.idxOf?_nil, beq_self_eq_true, Option.map_none, List.getD_cons_zero, List.getD_cons_succ, ↓wk, ↓wl, nc, evV, wrapBits_eq, ↓reduceIte, Nat.reduceEqDiff, Nat.reduceAdd, Nat.reduceSub, Nat.reduceLeDiff, Nat.reduceLT, Nat.reduceBEq, reduceCtorEq, Int.reduceEq])
          · rintro ⟨v_1995, v_1996⟩ s_ h_ H hs_ hh_
            simp only [f59_C4] at H hs_ hh_
            subst hs_
            subst hh_
            try simp only [↓wk, ↓wl, nc, evV, wrapBits_eq, ↓reduceIte, Nat.reduceEqDiff, Nat.reduceAdd, Nat.reduceSub, Nat.reduceLeDiff, Nat.reduceLT, Nat.reduceBEq, reduceCtorEq, Int.reduceEq]
            refine evTs_sat H (by rfl) (by rfl) ?_ <;> clear H <;> intro b_1998 H
            try simp only [↓wk, ↓wl, nc, evV, wrapBits_eq, ↓reduceIte, Nat.reduceEqDiff, Nat.reduceAdd, Nat.reduceSub, Nat.reduceLeDiff, Nat.reduceLT, Nat.reduceBEq, reduceCtorEq, Int.reduceEq]
            refine AW.rseq ?_
            try simp only [↓wk, ↓wl, nc, evV, wrapBits_eq, ↓reduceIte, Nat.reduceEqDiff, Nat.reduceAdd, Nat.reduceSub, Nat.reduceLeDiff, Nat.reduceLT, Nat.reduceBEq, reduceCtorEq, Int.reduceEq]
            refine rest_and ?_
            try simp only [↓wk, ↓wl, nc, evV, wrapBits_eq, ↓reduceIte, Nat.reduceEqDiff, Nat.reduceAdd, Nat.reduceSub, Nat.reduceLeDiff, Nat.reduceLT, Nat.reduceBEq, reduceCtorEq, Int.reduceEq]
            refine rest_shlv H ?_ <;> clear H <;> intro H
            try simp only [↓wk, ↓wl, nc, evV, wrapBits_eq, ↓reduceIte, Nat.reduceEqDiff, Nat.reduceAdd, Nat.reduceSub, Nat.reduceLeDiff, Nat.reduceLT, Nat.reduceBEq, reduceCtorEq, Int.reduceEq]
            refine rest_or ?_
            try simp only [↓wk, ↓wl, nc, evV, wrapBits_eq, ↓reduceIte, Nat.reduceEqDiff, Nat.reduceAdd, Nat.reduceSub, Nat.reduceLeDiff, Nat.reduceLT, Nat.reduceBEq, reduceCtorEq, Int.reduceEq]
            refine AW.bend ?_
            refine AW.sseq ?_
            refine AW.rseq ?_
            try simp only [↓wk, ↓wl, nc, evV, wrapBits_eq, ↓reduceIte, Nat.reduceEqDiff, Nat.reduceAdd, Nat.reduceSub, Nat.reduceLeDiff, Nat.reduceLT, Nat.reduceBEq, reduceCtorEq, Int.reduceEq]
            refine evTs_ifg H (by rfl) ?_ ?_ <;> clear H <;> intro H
            · try simp only [↓wk, ↓wl, nc, evV, wrapBits_eq, ↓reduceIte, Nat.reduceEqDiff, Nat.reduceAdd, Nat.reduceSub, Nat.reduceLeDiff, Nat.reduceLT, Nat.reduceBEq, reduceCtorEq, Int.reduceEq]
              refine AW.ifc H (by rfl) ?_ ?_ <;> clear H <;> intro H
              · refine AW.skip ?_
                refine seqQ.norm ?_
                refine AW.ifc H (by rfl) ?_ ?_ <;> clear H <;> intro H
                · refine AW.rseq ?_
                  try simp only [↓wk, ↓wl, nc, evV, wrapBits_eq, ↓reduceIte, Nat.reduceEqDiff, Nat.reduceAdd, Nat.reduceSub, Nat.reduceLeDiff, Nat.reduceLT, Nat.reduceBEq, reduceCtorEq, Int.reduceEq]
                  refine AW.ret ?_
                  refine blk0.ret ?_
                  refine blkQ.ret ?_
                  refine loopQ.ret H ?_ <;> clear H <;> intro H
                  try dsimp only at H
                  refine blk0.ret ?_
                  refine seqQ.ret ?_
                  cases H
                  exact hqf59_C2 _ _ _ (.inr rfl) (Le.toL 1 (by rfl) [0] [2, 3] (by decide) (by decide) rfl) (by simp only [resVs, omap, resV, f59_C2, List.length_set, Option.map_some, restrict_eq, renS_nil, renS_cons, renB_els, renB_cel, renB_dead, deep_eq, map_ren_enc, ren_agg', ren_tup', ren_fn', ren_int', ren_bool', ren_str', ren_sl', ren_pro', ren_nilp', ren_nilfn', ren_junk', ren_ptr', ren_row', ren_arow', ren_eptr', vm, List.idxOf?_cons, List.idxOf?_nil, beq_self_eq_true, Option.map_none, List.getD_cons_zero, List.getD_cons_succ, ↓wk, ↓wl, nc, evV, wrapBits_eq, ↓reduceIte, Nat.reduceEqDiff, Nat.reduceAdd, Nat.reduceSub, Nat.reduceLeDiff, Nat.reduceLT, Nat.reduceBEq, reduceCtorEq, Int.reduceEq]) (by simp only [f59_C2, List.length_set, Option.map_some, restrict_eq, renS_nil, renS_cons, renB_els, renB_cel, renB_dead, deep_eq, map_ren_enc, ren_agg', ren_tup', ren_fn', ren_int', ren_bool', ren_str', ren_sl', ren_pro', ren_nilp', ren_nilfn', ren_junk', ren_ptr', ren_row', ren_arow', ren_eptr', vm, List.idxOf?_cons, List.idxOf?_nil, beq_self_eq_true, Option.map_none, List.getD_cons_zero, List.getD_cons_succ, ↓wk, ↓wl, nc, evV, wrapBits_eq, ↓reduceIte, Nat.reduceEqDiff, Nat.reduceAdd, Nat.reduceSub, Nat.reduceLeDiff, Nat.reduceLT, Nat.reduceBEq, reduceCtorEq, Int.reduceEq])
                · refine AW.rseq ?_
                  try simp only [↓wk, ↓wl, nc, evV, wrapBits_eq, ↓reduceIte, Nat.reduceEqDiff, Nat.reduceAdd, Nat.reduceSub, Nat.reduceLeDiff, Nat.reduceLT, Nat.reduceBEq, reduceCtorEq, Int.reduceEq]
                  refine AW.ifc H (by rfl) ?_ ?_ <;> clear H <;> intro H
                  · refine AW.exit ?_
                    refine blk0.out (by rfl) ?_
                    refine blkQ.out (by rfl) ?_
                    refine loopQ.exit H ?_ <;> clear H <;> intro H
                    try dsimp only at H
                    refine blk0.here ?_
                    refine seqQ.norm ?_
                    refine AW.rseq ?_
                    try simp only [↓wk, ↓wl, nc, evV, wrapBits_eq, ↓reduceIte, Nat.reduceEqDiff, Nat.reduceAdd, Nat.reduceSub, Nat.reduceLeDiff, Nat.reduceLT, Nat.reduceBEq, reduceCtorEq, Int.reduceEq]
                    refine rest_shr (by decide) ?_
                    try simp only [↓wk, ↓wl, nc, evV, wrapBits_eq, ↓reduceIte, Nat.reduceEqDiff, Nat.reduceAdd, Nat.reduceSub, Nat.reduceLeDiff, Nat.reduceLT, Nat.reduceBEq, reduceCtorEq, Int.reduceEq]
                    refine rest_and ?_
                    try simp only [↓wk, ↓wl, nc, evV, wrapBits_eq, ↓reduceIte, Nat.reduceEqDiff, Nat.reduceAdd, Nat.reduceSub, Nat.reduceLeDiff, Nat.reduceLT, Nat.reduceBEq, reduceCtorEq, Int.reduceEq]
                    refine rest_xor ?_
                    try simp only [↓wk, ↓wl, nc, evV, wrapBits_eq, ↓reduceIte, Nat.reduceEqDiff, Nat.reduceAdd, Nat.reduceSub, Nat.reduceLeDiff, Nat.reduceLT, Nat.reduceBEq, reduceCtorEq, Int.reduceEq]
                    refine AW.ret ?_
                    cases H
                    exact hqf59_C2 _ _ _ (.inr rfl) (Le.toL 1 (by rfl) [0] [2, 3] (by decide) (by decide) rfl) (by simp only [resVs, omap, resV, f59_C2, List.length_set, Option.map_some, restrict_eq, renS_nil, renS_cons, renB_els, renB_cel, renB_dead, deep_eq, map_ren_enc, ren_agg', ren_tup', ren_fn', ren_int', ren_bool', ren_str', ren_sl', ren_pro', ren_nilp', ren_nilfn', ren_junk', ren_ptr', ren_row', ren_arow', ren_eptr', vm, List.idxOf?_cons, List.idxOf?_nil, beq_self_eq_true, Option.map_none, List.getD_cons_zero, List.getD_cons_succ, ↓wk, ↓wl, nc, evV, wrapBits_eq, ↓reduceIte, Nat.reduceEqDiff, Nat.reduceAdd, Nat.reduceSub, Nat.reduceLeDiff, Nat.reduceLT, Nat.reduceBEq, reduceCtorEq, Int.reduceEq]) (by simp only [f59_C2, List.length_set, Option.map_some, restrict_eq, renS_nil, renS_cons, renB_els, renB_cel, renB_dead, deep_eq, map_ren_enc, ren_agg', ren_tup', ren_fn', ren_int', ren_bool', ren_str', ren_sl', ren_pro', ren_nilp', ren_nilfn', ren_junk', ren_ptr', ren_row', ren_arow', ren_eptr', vm, List.idxOf?_cons, List.idxOf?_nil, beq_self_eq_true, Option.map_none, List.getD_cons_zero, List.getD_cons_succ, ↓wk, ↓wl, nc, evV, wrapBits_eq, ↓reduceIte, Nat.reduceEqDiff, Nat.reduceAdd, Nat.reduceSub, Nat.reduceLeDiff, Nat.reduceLT, Nat.reduceBEq, reduceCtorEq, Int.reduceEq])
                  · refine AW.skip ?_
                    refine blk0.norm ?_
                    refine blkQ.norm ?_
                    refine AW.rend ?_
                    try simp only [↓wk, ↓wl, nc, evV, wrapBits_eq, ↓reduceIte, Nat.reduceEqDiff, Nat.reduceAdd, Nat.reduceSub, Nat.reduceLeDiff, Nat.reduceLT, Nat.reduceBEq, reduceCtorEq, Int.reduceEq]
                    exact loopQ.next H ((Le.toL 1 (by rfl) [0] [0, 4, 5] (by decide) (by decide) (by simp only [f59_L3, List.length_set, Option.map_some, restrict_eq, renS_nil, renS_cons, renB_els, renB_cel, renB_dead, deep_eq, map_ren_enc, ren_agg', ren_tup', ren_fn', ren_int', ren_bool', ren_str', ren_sl', ren_pro', ren_nilp', ren_nilfn', ren_junk', ren_ptr', ren_row', ren_arow', ren_eptr', vm, List.idxOf?_cons, List.idxOf?_nil, beq_self_eq_true, Option.map_none, List.getD_cons_zero, List.getD_cons_succ, ↓wk, ↓wl, nc, evV, wrapBits_eq, ↓reduceIte, Nat.reduceEqDiff, Nat.reduceAdd, Nat.reduceSub, Nat.reduceLeDiff, Nat.reduceLT, Nat.reduceBEq, reduceCtorEq, Int.reduceEq])))
              · refine AW.rend ?_
                try simp only [↓wk, ↓wl, nc, evV, wrapBits_eq, ↓reduceIte, Nat.reduceEqDiff, Nat.reduceAdd, Nat.reduceSub, Nat.reduceLeDiff, Nat.reduceLT, Nat.reduceBEq, reduceCtorEq, Int.reduceEq]
                refine evTs_ifg H (by rfl) ?_ ?_ <;> clear H <;> intro H
                · try simp only [↓wk, ↓wl, nc, evV, wrapBits_eq, ↓reduceIte, Nat.reduceEqDiff, Nat.reduceAdd, Nat.reduceSub, Nat.reduceLeDiff, Nat.reduceLT, Nat.reduceBEq, reduceCtorEq, Int.reduceEq]
                  refine seqQ.norm ?_
                  refine AW.ifc H (by rfl) ?_ ?_ <;> clear H <;> intro H
                  · refine AW.rseq ?_
                    try simp only [↓wk, ↓wl, nc, evV, wrapBits_eq, ↓reduceIte, Nat.reduceEqDiff, Nat.reduceAdd, Nat.reduceSub, Nat.reduceLeDiff, Nat.reduceLT, Nat.reduceBEq, reduceCtorEq, Int.reduceEq]
                    refine AW.ret ?_
                    refine blk0.ret ?_
                    refine blkQ.ret ?_
                    refine loopQ.ret H ?_ <;> clear H <;> intro H
                    try dsimp only at H
                    refine blk0.ret ?_
                    refine seqQ.ret ?_
                    cases H
                    exact hqf59_C2 _ _ _ (.inr rfl) (Le.toL 1 (by rfl) [0] [2, 3] (by decide) (by decide) rfl) (by simp only [resVs, omap, resV, f59_C2, List.length_set, Option.map_some, restrict_eq, renS_nil, renS_cons, renB_els, renB_cel, renB_dead, deep_eq, map_ren_enc, ren_agg', ren_tup', ren_fn', ren_int', ren_bool', ren_str', ren_sl', ren_pro', ren_nilp', ren_nilfn', ren_junk', ren_ptr', ren_row', ren_arow', ren_eptr', vm, List.idxOf?_cons, List.idxOf?_nil, beq_self_eq_true, Option.map_none, List.getD_cons_zero, List.getD_cons_succ, ↓wk, ↓wl, nc, evV, wrapBits_eq, ↓reduceIte, Nat.reduceEqDiff, Nat.reduceAdd, Nat.reduceSub, Nat.reduceLeDiff, Nat.reduceLT, Nat.reduceBEq, reduceCtorEq, Int.reduceEq]) (by simp only [f59_C2, List.length_set, Option.map_some, restrict_eq, renS_nil, renS_cons, renB_els, renB_cel, renB_dead, deep_eq, map_ren_enc, ren_agg', ren_tup', ren_fn', ren_int', ren_bool', ren_str', ren_sl', ren_pro', ren_nilp', ren_nilfn', ren_junk', ren_ptr', ren_row', ren_arow', ren_eptr', vm, List.idxOf?_cons, List.idxOf?_nil, beq_self_eq_true, Option.map_none, List.getD_cons_zero, List.getD_cons_succ, ↓wk, ↓wl, nc, evV, wrapBits_eq, ↓reduceIte, Nat.reduceEqDiff, Nat.reduceAdd, Nat.reduceSub, Nat.reduceLeDiff, Nat.reduceLT, Nat.reduceBEq, reduceCtorEq, Int.reduceEq])
                  · refine AW.rseq ?_
                    try simp only [↓wk, ↓wl, nc, evV, wrapBits_eq, ↓reduceIte, Nat.reduceEqDiff, Nat.reduceAdd, Nat.reduceSub, Nat.reduceLeDiff, Nat.reduceLT, Nat.reduceBEq, reduceCtorEq, Int.reduceEq]
                    refine AW.ifc H (by rfl) ?_ ?_ <;> clear H <;> intro H
                    · refine AW.exit ?_
                      refine blk0.out (by rfl) ?_
                      refine blkQ.out (by rfl) ?_
                      refine loopQ.exit H ?_ <;> clear H <;> intro H
                      try dsimp only at H
                      refine blk0.here ?_
                      refine seqQ.norm ?_
                      refine AW.rseq ?_
                      try simp only [↓wk, ↓wl, nc, evV, wrapBits_eq, ↓reduceIte, Nat.reduceEqDiff, Nat.reduceAdd, Nat.reduceSub, Nat.reduceLeDiff, Nat.reduceLT, Nat.reduceBEq, reduceCtorEq, Int.reduceEq]
                      refine rest_shr (by decide) ?_
                      try simp only [↓wk, ↓wl, nc, evV, wrapBits_eq, ↓reduceIte, Nat.reduceEqDiff, Nat.reduceAdd, Nat.reduceSub, Nat.reduceLeDiff, Nat.reduceLT, Nat.reduceBEq, reduceCtorEq, Int.reduceEq]
                      refine rest_and ?_
                      try simp only [↓wk, ↓wl, nc, evV, wrapBits_eq, ↓reduceIte, Nat.reduceEqDiff, Nat.reduceAdd, Nat.reduceSub, Nat.reduceLeDiff, Nat.reduceLT, Nat.reduceBEq, reduceCtorEq, Int.reduceEq]
                      refine rest_xor ?_
                      try simp only [↓wk, ↓wl, nc, evV, wrapBits_eq, ↓reduceIte, Nat.reduceEqDiff, Nat.reduceAdd, Nat.reduceSub, Nat.reduceLeDiff, Nat.reduceLT, Nat.reduceBEq, reduceCtorEq, Int.reduceEq]
                      refine AW.ret ?_
                      cases H
                      exact hqf59_C2 _ _ _ (.inr rfl) (Le.toL 1 (by rfl) [0] [2, 3] (by decide) (by decide) rfl) (by simp only [resVs, omap, resV, f59_C2, List.length_set, Option.map_some, restrict_eq, renS_nil, renS_cons, renB_els, renB_cel, renB_dead, deep_eq, map_ren_enc, ren_agg', ren_tup', ren_fn', ren_int', ren_bool', ren_str', ren_sl', ren_pro', ren_nilp', ren_nilfn', ren_junk', ren_ptr', ren_row', ren_arow', ren_eptr', vm, List.idxOf?_cons, List.idxOf?_nil, beq_self_eq_true, Option.map_none, List.getD_cons_zero, List.getD_cons_succ, ↓wk, ↓wl, nc, evV, wrapBits_eq, ↓reduceIte, Nat.reduceEqDiff, Nat.reduceAdd, Nat.reduceSub, Nat.reduceLeDiff, Nat.reduceLT, Nat.reduceBEq, reduceCtorEq, Int.reduceEq]) (by simp only [f59_C2, List.length_set, Option.map_some, restrict_eq, renS_nil, renS_cons, renB_els, renB_cel, renB_dead, deep_eq, map_ren_enc, ren_agg', ren_tup', ren_fn', ren_int', ren_bool', ren_str', ren_sl', ren_pro', ren_nilp', ren_nilfn', ren_junk', ren_ptr', ren_row', ren_arow', ren_eptr', vm, List.idxOf?_cons, List.idxOf?_nil, beq_self_eq_true, Option.map_none, List.getD_cons_zero, List.getD_cons_succ, ↓wk, ↓wl, nc, evV, wrapBits_eq, ↓reduceIte, Nat.reduceEqDiff, Nat.reduceAdd, Nat.reduceSub, Nat.reduceLeDiff, Nat.reduceLT, Nat.reduceBEq, reduceCtorEq, Int.reduceEq])
                    · refine AW.skip ?_
                      refine blk0.norm ?_
                      refine blkQ.norm ?_
                      refine AW.rend ?_
                      try simp only [↓wk, ↓wl, nc, evV, wrapBits_eq, ↓reduceIte, Nat.reduceEqDiff, Nat.reduceAdd, Nat.reduceSub, Nat.reduceLeDiff, Nat.reduceLT, Nat.reduceBEq, reduceCtorEq, Int.reduceEq]
                      exact loopQ.next H ((Le.toL 1 (by rfl) [0] [0, 4, 5] (by decide) (by decide) (by simp only [f59_L3, List.length_set, Option.map_some, restrict_eq, renS_nil, renS_cons, renB_els, renB_cel, renB_dead, deep_eq, map_ren_enc, ren_agg', ren_tup', ren_fn', ren_int', ren_bool', ren_str', ren_sl', ren_pro', ren_nilp', ren_nilfn', ren_junk', ren_ptr', ren_row', ren_arow', ren_eptr', vm, List.idxOf?_cons, List.idxOf?_nil, beq_self_eq_true, Option.map_none, List.getD_cons_zero, List.getD_cons_succ, ↓wk, ↓wl, nc, evV, wrapBits_eq, ↓reduceIte, Nat.reduceEqDiff, Nat.reduceAdd, Nat.reduceSub, Nat.reduceLeDiff, Nat.reduceLT, Nat.reduceBEq, reduceCtorEq, Int.reduceEq])))
                · try simp only [↓wk, ↓wl, nc, evV, wrapBits_eq, ↓reduceIte, Nat.reduceEqDiff, Nat.reduceAdd, Nat.reduceSub, Nat.reduceLeDiff, Nat.reduceLT, Nat.reduceBEq, reduceCtorEq, Int.reduceEq]
                  refine seqQ.norm ?_
                  refine AW.iff (by rfl) ?_
                  refine AW.rseq ?_
                  try simp only [↓wk, ↓wl, nc, evV, wrapBits_eq, ↓reduceIte, Nat.reduceEqDiff, Nat.reduceAdd, Nat.reduceSub, Nat.reduceLeDiff, Nat.reduceLT, Nat.reduceBEq, reduceCtorEq, Int.reduceEq]
                  refine AW.ifc H (by rfl) ?_ ?_ <;> clear H <;> intro H
                  · refine AW.exit ?_
                    refine blk0.out (by rfl) ?_
                    refine blkQ.out (by rfl) ?_
                    refine loopQ.exit H ?_ <;> clear H <;> intro H
                    try dsimp only at H
                    refine blk0.here ?_
                    refine seqQ.norm ?_
                    refine AW.rseq ?_
                    try simp only [↓wk, ↓wl, nc, evV, wrapBits_eq, ↓reduceIte, Nat.reduceEqDiff, Nat.reduceAdd, Nat.reduceSub, Nat.reduceLeDiff, Nat.reduceLT, Nat.reduceBEq, reduceCtorEq, Int.reduceEq]
                    refine rest_shr (by decide) ?_
                    try simp only [↓wk, ↓wl, nc, evV, wrapBits_eq, ↓reduceIte, Nat.reduceEqDiff, Nat.reduceAdd, Nat.reduceSub, Nat.reduceLeDiff, Nat.reduceLT, Nat.reduceBEq, reduceCtorEq, Int.reduceEq]
                    refine rest_and ?_
                    try simp only [↓wk, ↓wl, nc, evV, wrapBits_eq, ↓reduceIte, Nat.reduceEqDiff, Nat.reduceAdd, Nat.reduceSub, Nat.reduceLeDiff, Nat.reduceLT, Nat.reduceBEq, reduceCtorEq, Int.reduceEq]
                    refine rest_xor ?_
                    try simp only [↓wk, ↓wl, nc, evV, wrapBits_eq, ↓reduceIte, Nat.reduceEqDiff, Nat.reduceAdd, Nat.reduceSub, Nat.reduceLeDiff, Nat.reduceLT, Nat.reduceBEq, reduceCtorEq, Int.reduceEq]
                    refine AW.ret ?_
                    cases H
                    exact hqf59_C2 _ _ _ (.inr rfl) (Le.toL 1 (by rfl) [0] [2, 3] (by decide) (by decide) rfl) (by simp only [resVs, omap, resV, f59_C2, List.length_set, Option.map_some, restrict_eq, renS_nil, renS_cons, renB_els, renB_cel, renB_dead, deep_eq, map_ren_enc, ren_agg', ren_tup', ren_fn', ren_int', ren_bool', ren_str', ren_sl', ren_pro', ren_nilp', ren_nilfn', ren_junk', ren_ptr', ren_row', ren_arow', ren_eptr', vm, List.idxOf?_cons, List.idxOf?_nil, beq_self_eq_true, Option.map_none, List.getD_cons_zero, List.getD_cons_succ, ↓wk, ↓wl, nc, evV, wrapBits_eq, ↓reduceIte, Nat.reduceEqDiff, Nat.reduceAdd, Nat.reduceSub, Nat.reduceLeDiff, Nat.reduceLT, Nat.reduceBEq, reduceCtorEq, Int.reduceEq]) (by simp only [f59_C2, List.length_set, Option.map_some, restrict_eq, renS_nil, renS_cons, renB_els, renB_cel, renB_dead, deep_eq, map_ren_enc, ren_agg', ren_tup', ren_fn', ren_int', ren_bool', ren_str', ren_sl', ren_pro', ren_nilp', ren_nilfn', ren_junk', ren_ptr', ren_row', ren_arow', ren_eptr', vm, List.idxOf?_cons, List.idxOf?_nil, beq_self_eq_true, Option.map_none, List.getD_cons_zero, List.getD_cons_succ, ↓wk, ↓wl, nc, evV, wrapBits_eq, ↓reduceIte, Nat.reduceEqDiff, Nat.reduceAdd, Nat.reduceSub, Nat.reduceLeDiff, Nat.reduceLT, Nat.reduceBEq, reduceCtorEq, Int.reduceEq])
                  · refine AW.skip ?_
                    refine blk0.norm ?_
                    refine blkQ.norm ?_
                    refine AW.rend ?_
                    try simp only [↓wk, ↓wl, nc, evV, wrapBits_eq, ↓reduceIte, Nat.reduceEqDiff, Nat.reduceAdd, Nat.reduceSub, Nat.reduceLeDiff, Nat.reduceLT, Nat.reduceBEq, reduceCtorEq, Int.reduceEq]
                    exact loopQ.next H ((Le.toL 1 (by rfl) [0] [0, 4, 5] (by decide) (by decide) (by simp only [f59_L3, List.length_set, Option.map_some, restrict_eq, renS_nil, renS_cons, renB_els, renB_cel, renB_dead, deep_eq, map_ren_enc, ren_agg', ren_tup', ren_fn', ren_int', ren_bool', ren_str', ren_sl', ren_pro', ren_nilp', ren_nilfn', ren_junk', ren_ptr', ren_row', ren_arow', ren_eptr', vm, List.idxOf?_cons, List.idxOf?_nil, beq_self_eq_true, Option.map_none, List.getD_cons_zero, List.getD_cons_succ, ↓wk, ↓wl, nc, evV, wrapBits_eq, ↓reduceIte, Nat.reduceEqDiff, Nat.reduceAdd, Nat.reduceSub, Nat.reduceLeDiff, Nat.reduceLT, Nat.reduceBEq, reduceCtorEq, Int.reduceEq])))
            · try simp only [↓wk, ↓wl, nc, evV, wrapBits_eq, ↓reduceIte, Nat.reduceEqDiff, Nat.reduceAdd, Nat.reduceSub, Nat.reduceLeDiff, Nat.reduceLT, Nat.reduceBEq, reduceCtorEq, Int.reduceEq]
              refine AW.iff (by rfl) ?_
              refine AW.rend ?_
              try simp only [↓wk, ↓wl, nc, evV, wrapBits_eq, ↓reduceIte, Nat.reduceEqDiff, Nat.reduceAdd, Nat.reduceSub, Nat.reduceLeDiff, Nat.reduceLT, Nat.reduceBEq, reduceCtorEq, Int.reduceEq]
              refine evTs_ifg H (by rfl) ?_ ?_ <;> clear H <;> intro H
              · try simp only [↓wk, ↓wl, nc, evV, wrapBits_eq, ↓reduceIte, Nat.reduceEqDiff, Nat.reduceAdd, Nat.reduceSub, Nat.reduceLeDiff, Nat.reduceLT, Nat.reduceBEq, reduceCtorEq, Int.reduceEq]
                refine seqQ.norm ?_
                refine AW.ifc H (by rfl) ?_ ?_ <;> clear H <;> intro H
                · refine AW.rseq ?_
                  try simp only [↓wk, ↓wl, nc, evV, wrapBits_eq, ↓reduceIte, Nat.reduceEqDiff, Nat.reduceAdd, Nat.reduceSub, Nat.reduceLeDiff, Nat.reduceLT, Nat.reduceBEq, reduceCtorEq, Int.reduceEq]
                  refine AW.ret ?_
                  refine blk0.ret ?_
                  refine blkQ.ret ?_
                  refine loopQ.ret H ?_ <;> clear H <;> intro H
                  try dsimp only at H
                  refine blk0.ret ?_
                  refine seqQ.ret ?_
                  cases H
                  exact hqf59_C2 _ _ _ (.inr rfl) (Le.toL 1 (by rfl) [0] [2, 3] (by decide) (by decide) rfl) (by simp only [resVs, omap, resV, f59_C2, List.length_set, Option.map_some, restrict_eq, renS_nil, renS_cons, renB_els, renB_cel, renB_dead, deep_eq, map_ren_enc, ren_agg', ren_tup', ren_fn', ren_int', ren_bool', ren_str', ren_sl', ren_pro', ren_nilp', ren_nilfn', ren_junk', ren_ptr', ren_row', ren_arow', ren_eptr', vm, List.idxOf?_cons, List.idxOf?_nil, beq_self_eq_true, Option.map_none, List.getD_cons_zero, List.getD_cons_succ, ↓wk, ↓wl, nc, evV, wrapBits_eq, ↓reduceIte, Nat.reduceEqDiff, Nat.reduceAdd, Nat.reduceSub, Nat.reduceLeDiff, Nat.reduceLT, Nat.reduceBEq, reduceCtorEq, Int.reduceEq]) (by simp only [f59_C2, List.length_set, Option.map_some, restrict_eq, renS_nil, renS_cons, renB_els, renB_cel, renB_dead, deep_eq, map_ren_enc, ren_agg', ren_tup', ren_fn', ren_int', ren_bool', ren_str', ren_sl', ren_pro', ren_nilp', ren_nilfn', ren_junk', ren_ptr', ren_row', ren_arow', ren_eptr', vm, List.idxOf?_cons, List.idxOf?_nil, beq_self_eq_true, Option.map_none, List.getD_cons_zero, List.getD_cons_succ, ↓wk, ↓wl, nc, evV, wrapBits_eq, ↓reduceIte, Nat.reduceEqDiff, Nat.reduceAdd, Nat.reduceSub, Nat.reduceLeDiff, Nat.reduceLT, Nat.reduceBEq, reduceCtorEq, Int.reduceEq])
                · refine AW.rseq ?_
                  try simp only [↓wk, ↓wl, nc, evV, wrapBits_eq, ↓reduceIte, Nat.reduceEqDiff, Nat.reduceAdd, Nat.reduceSub, Nat.reduceLeDiff, Nat.reduceLT, Nat.reduceBEq, reduceCtorEq, Int.reduceEq]
                  refine AW.ifc H (by rfl) ?_ ?_ <;> clear H <;> intro H
                  · refine AW.exit ?_
                    refine blk0.out (by rfl) ?_
                    refine blkQ.out (by rfl) ?_
                    refine loopQ.exit H ?_ <;> clear H <;> intro H
                    try dsimp only at H
                    refine blk0.here ?_
                    refine seqQ.norm ?_
                    refine AW.rseq ?_
                    try simp only [↓wk, ↓wl, nc, evV, wrapBits_eq, ↓reduceIte, Nat.reduceEqDiff, Nat.reduceAdd, Nat.reduceSub, Nat.reduceLeDiff, Nat.reduceLT, Nat.reduceBEq, reduceCtorEq, Int.reduceEq]
                    refine rest_shr (by decide) ?_
                    try simp only [↓wk, ↓wl, nc, evV, wrapBits_eq, ↓reduceIte, Nat.reduceEqDiff, Nat.reduceAdd, Nat.reduceSub, Nat.reduceLeDiff, Nat.reduceLT, Nat.reduceBEq, reduceCtorEq, Int.reduceEq]
                    refine rest_and ?_
                    try simp only [↓wk, ↓wl, nc, evV, wrapBits_eq, ↓reduceIte, Nat.reduceEqDiff, Nat.reduceAdd, Nat.reduceSub, Nat.reduceLeDiff, Nat.reduceLT, Nat.reduceBEq, reduceCtorEq, Int.reduceEq]
                    refine rest_xor ?_
                    try simp only [↓wk, ↓wl, nc, evV, wrapBits_eq, ↓reduceIte, Nat.reduceEqDiff, Nat.reduceAdd, Nat.reduceSub, Nat.reduceLeDiff, Nat.reduceLT, Nat.reduceBEq, reduceCtorEq, Int.reduceEq]
                    refine AW.ret ?_
                    cases H
                    exact hqf59_C2 _ _ _ (.inr rfl) (Le.toL 1 (by rfl) [0] [2, 3] (by decide) (by decide) rfl) (by simp only [resVs, omap, resV, f59_C2, List.length_set, Option.map_some, restrict_eq, renS_nil, renS_cons, renB_els, renB_cel, renB_dead, deep_eq, map_ren_enc, ren_agg', ren_tup', ren_fn', ren_int', ren_bool', ren_str', ren_sl', ren_pro', ren_nilp', ren_nilfn', ren_junk', ren_ptr', ren_row', ren_arow', ren_eptr', vm, List.idxOf?_cons, List.idxOf?_nil, beq_self_eq_true, Option.map_none, List.getD_cons_zero, List.getD_cons_succ, ↓wk, ↓wl, nc, evV, wrapBits_eq, ↓reduceIte, Nat.reduceEqDiff, Nat.reduceAdd, Nat.reduceSub, Nat.reduceLeDiff, Nat.reduceLT, Nat.reduceBEq, reduceCtorEq, Int.reduceEq]) (by simp only [f59_C2, List.length_set, Option.map_some, restrict_eq, renS_nil, renS_cons, renB_els, renB_cel, renB_dead, deep_eq, map_ren_enc, ren_agg', ren_tup', ren_fn', ren_int', ren_bool', ren_str', ren_sl', ren_pro', ren_nilp', ren_nilfn', ren_junk', ren_ptr', ren_row', ren_arow', ren_eptr', vm, List.idxOf?_cons, List.idxOf?_nil, beq_self_eq_true, Option.map_none, List.getD_cons_zero, List.getD_cons_succ, ↓wk, ↓wl, nc, evV, wrapBits_eq, ↓reduceIte, Nat.reduceEqDiff, Nat.reduceAdd, Nat.reduceSub, Nat.reduceLeDiff, Nat.reduceLT, Nat.reduceBEq, reduceCtorEq, Int.reduceEq])
                  · refine AW.skip ?_
                    refine blk0.norm ?_
                    refine blkQ.norm ?_
                    refine AW.rend ?_
                    try simp only [↓wk, ↓wl, nc, evV, wrapBits_eq, ↓reduceIte, Nat.reduceEqDiff, Nat.reduceAdd, Nat.reduceSub, Nat.reduceLeDiff, Nat.reduceLT, Nat.reduceBEq, reduceCtorEq, Int.reduceEq]
                    exact loopQ.next H ((Le.toL 1 (by rfl) [0] [0, 4, 5] (by decide) (by decide) (by simp only [f59_L3, List.length_set, Option.map_some, restrict_eq, renS_nil, renS_cons, renB_els, renB_cel, renB_dead, deep_eq, map_ren_enc, ren_agg', ren_tup', ren_fn', ren_int', ren_bool', ren_str', ren_sl', ren_pro', ren_nilp', ren_nilfn', ren_junk', ren_ptr', ren_row', ren_arow', ren_eptr', vm, List.idxOf?_cons, List.idxOf?_nil, beq_self_eq_true, Option.map_none, List.getD_cons_zero, List.getD_cons_succ, ↓wk, ↓wl, nc, evV, wrapBits_eq, ↓reduceIte, Nat.reduceEqDiff, Nat.reduceAdd, Nat.reduceSub, Nat.reduceLeDiff, Nat.reduceLT, Nat.reduceBEq, reduceCtorEq, Int.reduceEq])))
              · try simp only [↓wk, ↓wl, nc, evV, wrapBits_eq, ↓reduceIte, Nat.reduceEqDiff, Nat.reduceAdd, Nat.reduceSub, Nat.reduceLeDiff, Nat.reduceLT, Nat.reduceBEq, reduceCtorEq, Int.reduceEq]
                refine seqQ.norm ?_
                refine AW.iff (by rfl) ?_
                refine AW.rseq ?_
                try simp only [↓wk, ↓wl, nc, evV, wrapBits_eq, ↓reduceIte, Nat.reduceEqDiff, Nat.reduceAdd, Nat.reduceSub, Nat.reduceLeDiff, Nat.reduceLT, Nat.reduceBEq, reduceCtorEq, Int.reduceEq]
                refine AW.ifc H (by rfl) ?_ ?_ <;> clear H <;> intro H
                · refine AW.exit ?_
                  refine blk0.out (by rfl) ?_
                  refine blkQ.out (by rfl) ?_
                  refine loopQ.exit H ?_ <;> clear H <;> intro H
                  try dsimp only at H
                  refine blk0.here ?_
                  refine seqQ.norm ?_
                  refine AW.rseq ?_
                  try simp only [↓wk, ↓wl, nc, evV, wrapBits_eq, ↓reduceIte, Nat.reduceEqDiff, Nat.reduceAdd, Nat.reduceSub, Nat.reduceLeDiff, Nat.reduceLT, Nat.reduceBEq, reduceCtorEq, Int.reduceEq]
                  refine rest_shr (by decide) ?_
                  try simp only [↓wk, ↓wl, nc, evV, wrapBits_eq, ↓reduceIte, Nat.reduceEqDiff, Nat.reduceAdd, Nat.reduceSub, Nat.reduceLeDiff, Nat.reduceLT, Nat.reduceBEq, reduceCtorEq, Int.reduceEq]
                  refine rest_and ?_
                  try simp only [↓wk, ↓wl, nc, evV, wrapBits_eq, ↓reduceIte, Nat.reduceEqDiff, Nat.reduceAdd, Nat.reduceSub, Nat.reduceLeDiff, Nat.reduceLT, Nat.reduceBEq, reduceCtorEq, Int.reduceEq]
                  refine rest_xor ?_
                  try simp only [↓wk, ↓wl, nc, evV, wrapBits_eq, ↓reduceIte, Nat.reduceEqDiff, Nat.reduceAdd, Nat.reduceSub, Nat.reduceLeDiff, Nat.reduceLT, Nat.reduceBEq, reduceCtorEq, Int.reduceEq]
                  refine AW.ret ?_
                  cases H
                  exact hqf59_C2 _ _ _ (.inr rfl) (Le.toL 1 (by rfl) [0] [2, 3] (by decide) (by decide) rfl) (by simp only [resVs, omap, resV, f59_C2, List.length_set, Option.map_some, restrict_eq, renS_nil, renS_cons, renB_els, renB_cel, renB_dead, deep_eq, map_ren_enc, ren_agg', ren_tup', ren_fn', ren_int', ren_bool', ren_str', ren_sl', ren_pro', ren_nilp', ren_nilfn', ren_junk', ren_ptr', ren_row', ren_arow', ren_eptr', vm, List.idxOf?_cons, List.idxOf?_nil, beq_self_eq_true, Option.map_none, List.getD_cons_zero, List.getD_cons_succ, ↓wk, ↓wl, nc, evV, wrapBits_eq, ↓reduceIte, Nat.reduceEqDiff, Nat.reduceAdd, Nat.reduceSub, Nat.reduceLeDiff, Nat.reduceLT, Nat.reduceBEq, reduceCtorEq, Int.reduceEq]) (by simp only [f59_C2, List.length_set, Option.map_some, restrict_eq, renS_nil, renS_cons, renB_els, renB_cel, renB_dead, deep_eq, map_ren_enc, ren_agg', ren_tup', ren_fn', ren_int', ren_bool', ren_str', ren_sl', ren_pro', ren_nilp', ren_nilfn', ren_junk', ren_ptr', ren_row', ren_arow', ren_eptr', vm, List.idxOf?_cons, List.idxOf?_nil, beq_self_eq_true, Option.map_none, List.getD_cons_zero, List.getD_cons_succ, ↓wk, ↓wl, nc, evV, wrapBits_eq, ↓reduceIte, Nat.reduceEqDiff, Nat.reduceAdd, Nat.reduceSub, Nat.reduceLeDiff, Nat.reduceLT, Nat.reduceBEq, reduceCtorEq, Int.reduceEq])
                · refine AW.skip ?_
                  refine blk0.norm ?_
                  refine blkQ.norm ?_
                  refine AW.rend ?_
                  try simp only [↓wk, ↓wl, nc, evV, wrapBits_eq, ↓reduceIte, Nat.reduceEqDiff, Nat.reduceAdd, Nat.reduceSub, Nat.reduceLeDiff, Nat.reduceLT, Nat.reduceBEq, reduceCtorEq, Int.reduceEq]
                  exact loopQ.next H ((Le.toL 1 (by rfl) [0] [0, 4, 5] (by decide) (by decide) (by simp only [f59_L3, List.length_set, Option.map_some, restrict_eq, renS_nil, renS_cons, renB_els, renB_cel, renB_dead, deep_eq, map_ren_enc, ren_agg', ren_tup', ren_fn', ren_int', ren_bool', ren_str', ren_sl', ren_pro', ren_nilp', ren_nilfn', ren_junk', ren_ptr', ren_row', ren_arow', ren_eptr', vm, List.idxOf?_cons, List.idxOf?_nil, beq_self_eq_true, Option.map_none, List.getD_cons_zero, List.getD_cons_succ, ↓wk, ↓wl, nc, evV, wrapBits_eq, ↓reduceIte, Nat.reduceEqDiff, Nat.reduceAdd, Nat.reduceSub, Nat.reduceLeDiff, Nat.reduceLT, Nat.reduceBEq, reduceCtorEq, Int.reduceEq])))
      · rintro ⟨v_1961, v_1962, v_1963⟩ s_ h_ H hs_ hh_
        simp only [f59_C2] at H hs_ hh_
        subst hs_
        subst hh_
        try simp only [↓wk, ↓wl, nc, evV, wrapBits_eq, ↓reduceIte, Nat.reduceEqDiff, Nat.reduceAdd, Nat.reduceSub, Nat.reduceLeDiff, Nat.reduceLT, Nat.reduceBEq, reduceCtorEq, Int.reduceEq]
        refine AW.bseq ?_
        refine AW.rseq ?_
        try simp only [↓wk, ↓wl, nc, evV, wrapBits_eq, ↓reduceIte, Nat.reduceEqDiff, Nat.reduceAdd, Nat.reduceSub, Nat.reduceLeDiff, Nat.reduceLT, Nat.reduceBEq, reduceCtorEq, Int.reduceEq]
        refine AW.ifc H (by rfl) ?_ ?_ <;> clear H <;> intro H
        · refine AW.rseq ?_
          try simp only [↓wk, ↓wl, nc, evV, wrapBits_eq, ↓reduceIte, Nat.reduceEqDiff, Nat.reduceAdd, Nat.reduceSub, Nat.reduceLeDiff, Nat.reduceLT, Nat.reduceBEq, reduceCtorEq, Int.reduceEq]
          refine AW.ret ?_
          refine blkQ.ret ?_
          cases H
          exact hqf59_C1 _ _ _ (.inr rfl) (Le.toL 1 (by rfl) [0] [2, 3] (by decide) (by decide) rfl) (by simp only [resVs, omap, resV, f59_C1, List.length_set, Option.map_some, restrict_eq, renS_nil, renS_cons, renB_els, renB_cel, renB_dead, deep_eq, map_ren_enc, ren_agg', ren_tup', ren_fn', ren_int', ren_bool', ren_str', ren_sl', ren_pro', ren_nilp', ren_nilfn', ren_junk', ren_ptr', ren_row', ren_arow', ren_eptr', vm, List.idxOf?_cons, List.idxOf?_nil, beq_self_eq_true, Option.map_none, List.getD_cons_zero, List.getD_cons_succ, ↓wk, ↓wl, nc, evV, wrapBits_eq, ↓reduceIte, Nat.reduceEqDiff, Nat.reduceAdd, Nat.reduceSub, Nat.reduceLeDiff, Nat.reduceLT, Nat.reduceBEq, reduceCtorEq, Int.reduceEq]) (by simp only [f59_C1, List.length_set, Option.map_some, restrict_eq, renS_nil, renS_cons, renB_els, renB_cel, renB_dead, deep_eq, map_ren_enc, ren_agg', ren_tup', ren_fn', ren_int', ren_bool', ren_str', ren_sl', ren_pro', ren_nilp', ren_nilfn', ren_junk', ren_ptr', ren_row', ren_arow', ren_eptr', vm, List.idxOf?_cons, List.idxOf?_nil, beq_self_eq_true, Option.map_none, List.getD_cons_zero, List.getD_cons_succ, ↓wk, ↓wl, nc, evV, wrapBits_eq, ↓reduceIte, Nat.reduceEqDiff, Nat.reduceAdd, Nat.reduceSub, Nat.reduceLeDiff, Nat.reduceLT, Nat.reduceBEq, reduceCtorEq, Int.reduceEq])
        · refine AW.rseq ?_
          try simp only [↓wk, ↓wl, nc, evV, wrapBits_eq, ↓reduceIte, Nat.reduceEqDiff, Nat.reduceAdd, Nat.reduceSub, Nat.reduceLeDiff, Nat.reduceLT, Nat.reduceBEq, reduceCtorEq, Int.reduceEq]
          refine evTs_ifg H (by rfl) ?_ ?_ <;> clear H <;> intro H
          · try simp only [↓wk, ↓wl, nc, evV, wrapBits_eq, ↓reduceIte, Nat.reduceEqDiff, Nat.reduceAdd, Nat.reduceSub, Nat.reduceLeDiff, Nat.reduceLT, Nat.reduceBEq, reduceCtorEq, Int.reduceEq]
            refine AW.ift (by rfl) ?_
            refine AW.rseq ?_
            try simp only [↓wk, ↓wl, nc, evV, wrapBits_eq, ↓reduceIte, Nat.reduceEqDiff, Nat.reduceAdd, Nat.reduceSub, Nat.reduceLeDiff, Nat.reduceLT, Nat.reduceBEq, reduceCtorEq, Int.reduceEq]
            refine AW.ret ?_
            refine blkQ.ret ?_
            cases H
            exact hqf59_C1 _ _ _ (.inr rfl) (Le.toL 1 (by rfl) [0] [2, 3] (by decide) (by decide) rfl) (by simp only [resVs, omap, resV, f59_C1, List.length_set, Option.map_some, restrict_eq, renS_nil, renS_cons, renB_els, renB_cel, renB_dead, deep_eq, map_ren_enc, ren_agg', ren_tup', ren_fn', ren_int', ren_bool', ren_str', ren_sl', ren_pro', ren_nilp', ren_nilfn', ren_junk', ren_ptr', ren_row', ren_arow', ren_eptr', vm, List.idxOf?_cons, List.idxOf?_nil, beq_self_eq_true, Option.map_none, List.getD_cons_zero, List.getD_cons_succ, ↓wk, ↓wl, nc, evV, wrapBits_eq, ↓reduceIte, Nat.reduceEqDiff, Nat.reduceAdd, Nat.reduceSub, Nat.reduceLeDiff, Nat.reduceLT, Nat.reduceBEq, reduceCtorEq, Int.reduceEq]) (by simp only [f59_C1, List.length_set, Option.map_some, restrict_eq, renS_nil, renS_cons, renB_els, renB_cel, renB_dead, deep_eq, map_ren_enc, ren_agg', ren_tup', ren_fn', ren_int', ren_bool', ren_str', ren_sl', ren_pro', ren_nilp', ren_nilfn', ren_junk', ren_ptr', ren_row', ren_arow', ren_eptr', vm, List.idxOf?_cons, List.idxOf?_nil, beq_self_eq_true, Option.map_none, List.getD_cons_zero, List.getD_cons_succ, ↓wk, ↓wl, nc, evV, wrapBits_eq, ↓reduceIte, Nat.reduceEqDiff, Nat.reduceAdd, Nat.reduceSub, Nat.reduceLeDiff, Nat.reduceLT, Nat.reduceBEq, reduceCtorEq, Int.reduceEq])
          · try simp only [↓wk, ↓wl, nc, evV, wrapBits_eq, ↓reduceIte, Nat.reduceEqDiff, Nat.reduceAdd, Nat.reduceSub, Nat.reduceLeDiff, Nat.reduceLT, Nat.reduceBEq, reduceCtorEq, Int.reduceEq]
            refine AW.ifc H (by rfl) ?_ ?_ <;> clear H <;> intro H
            · refine AW.rseq ?_
              try simp only [↓wk, ↓wl, nc, evV, wrapBits_eq, ↓reduceIte, Nat.reduceEqDiff, Nat.reduceAdd, Nat.reduceSub, Nat.reduceLeDiff, Nat.reduceLT, Nat.reduceBEq, reduceCtorEq, Int.reduceEq]
              refine AW.ret ?_
              refine blkQ.ret ?_
              cases H
              exact hqf59_C1 _ _ _ (.inr rfl) (Le.toL 1 (by rfl) [0] [2, 3] (by decide) (by decide) rfl) (by simp only [resVs, omap, resV, f59_C1, List.length_set, Option.map_some, restrict_eq, renS_nil, renS_cons, renB_els, renB_cel, renB_dead, deep_eq, map_ren_enc, ren_agg', ren_tup', ren_fn', ren_int', ren_bool', ren_str', ren_sl', ren_pro', ren_nilp', ren_nilfn', ren_junk', ren_ptr', ren_row', ren_arow', ren_eptr', vm, List.idxOf?_cons, List.idxOf?_nil, beq_self_eq_true, Option.map_none, List.getD_cons_zero, List.getD_cons_succ, ↓wk, ↓wl, nc, evV, wrapBits_eq, ↓reduceIte, Nat.reduceEqDiff, Nat.reduceAdd, Nat.reduceSub, Nat.reduceLeDiff, Nat.reduceLT, Nat.reduceBEq, reduceCtorEq, Int.reduceEq]) (by simp only [f59_C1, List.length_set, Option.map_some, restrict_eq, renS_nil, renS_cons, renB_els, renB_cel, renB_dead, deep_eq, map_ren_enc, ren_agg', ren_tup', ren_fn', ren_int', ren_bool', ren_str', ren_sl', ren_pro', ren_nilp', ren_nilfn', ren_junk', ren_ptr', ren_row', ren_arow', ren_eptr', vm, List.idxOf?_cons, List.idxOf?_nil, beq_self_eq_true, Option.map_none, List.getD_cons_zero, List.getD_cons_succ, ↓wk, ↓wl, nc, evV, wrapBits_eq, ↓reduceIte, Nat.reduceEqDiff, Nat.reduceAdd, Nat.reduceSub, Nat.reduceLeDiff, Nat.reduceLT, Nat.reduceBEq, reduceCtorEq, Int.reduceEq])
            · refine AW.rseq ?_
              try simp only [↓wk, ↓wl, nc, evV, wrapBits_eq, ↓reduceIte, Nat.reduceEqDiff, Nat.reduceAdd, Nat.reduceSub, Nat.reduceLeDiff, Nat.reduceLT, Nat.reduceBEq, reduceCtorEq, Int.reduceEq]
              refine evTs_flat hFn H (fun _ h => f82p_ok h) (by rfl) (by rfl) (by simp only [deep_eq, imm_simps, imm_rowE, imm_ptrE, imm_enc, omap_simps, take_map_len, take_map_set, take_map_set2, le_refl_true, Nat.zero_add, and_true, true_and, List.drop_zero, Option.map_some, ↓wk, ↓wl, nc, evV, wrapBits_eq, ↓reduceIte, Nat.reduceEqDiff, Nat.reduceAdd, Nat.reduceSub, Nat.reduceLeDiff, Nat.reduceLT, Nat.reduceBEq, reduceCtorEq, Int.reduceEq]; rfl) (by rfl) (fun _ => rfl) (fun _ => rfl) ?_ <;> clear H <;> intro r_1999 H
              try simp only [eL, ↓wk, ↓wl, nc, evV, wrapBits_eq, ↓reduceIte, Nat.reduceEqDiff, Nat.reduceAdd, Nat.reduceSub, Nat.reduceLeDiff, Nat.reduceLT, Nat.reduceBEq, reduceCtorEq, Int.reduceEq]
              refine AW.ifc H (by rfl) ?_ ?_ <;> clear H <;> intro H
              · refine AW.rseq ?_
                try simp only [↓wk, ↓wl, nc, evV, wrapBits_eq, ↓reduceIte, Nat.reduceEqDiff, Nat.reduceAdd, Nat.reduceSub, Nat.reduceLeDiff, Nat.reduceLT, Nat.reduceBEq, reduceCtorEq, Int.reduceEq]
                refine AW.ret ?_
                refine blkQ.ret ?_
                cases H
                exact hqf59_C1 _ _ _ (.inr rfl) (Le.toL 1 (by rfl) [0] [2, 3] (by decide) (by decide) rfl) (by simp only [resVs, omap, resV, f59_C1, List.length_set, Option.map_some, restrict_eq, renS_nil, renS_cons, renB_els, renB_cel, renB_dead, deep_eq, map_ren_enc, ren_agg', ren_tup', ren_fn', ren_int', ren_bool', ren_str', ren_sl', ren_pro', ren_nilp', ren_nilfn', ren_junk', ren_ptr', ren_row', ren_arow', ren_eptr', vm, List.idxOf?_cons, List.idxOf?_nil, beq_self_eq_true, Option.map_none, List.getD_cons_zero, List.getD_cons_succ, ↓wk, ↓wl, nc, evV, wrapBits_eq, ↓reduceIte, Nat.reduceEqDiff, Nat.reduceAdd, Nat.reduceSub, Nat.reduceLeDiff, Nat.reduceLT, Nat.reduceBEq, reduceCtorEq, Int.reduceEq]) (by simp only [f59_C1, List.length_set, Option.map_some, restrict_eq, renS_nil, renS_cons, renB_els, renB_cel, renB_dead, deep_eq, map_ren_enc, ren_agg', ren_tup', ren_fn', ren_int', ren_bool', ren_str', ren_sl', ren_pro', ren_nilp', ren_nilfn', ren_junk', ren_ptr', ren_row', ren_arow', ren_eptr', vm, List.idxOf?_cons, List.idxOf?_nil, beq_self_eq_true, Option.map_none, List.getD_cons_zero, List.getD_cons_succ, ↓wk, ↓wl, nc, evV, wrapBits_eq, ↓reduceIte, Nat.reduceEqDiff, Nat.reduceAdd, Nat.reduceSub, Nat.reduceLeDiff, Nat.reduceLT, Nat.reduceBEq, reduceCtorEq, Int.reduceEq])
              · refine AW.skip ?_
                refine blkQ.norm ?_
                refine AW.rseq ?_
                try simp only [↓wk, ↓wl, nc, evV, wrapBits_eq, ↓reduceIte, Nat.reduceEqDiff, Nat.reduceAdd, Nat.reduceSub, Nat.reduceLeDiff, Nat.reduceLT, Nat.reduceBEq, reduceCtorEq, Int.reduceEq]
                refine evTs_inl (I := f59_C5 s_1889 v_1963 v_1961) (args := [.ptr 0 0, .int .i64 v_1961]) H (by rfl) fd83 (by rfl) (Nat.le_of_ble_eq_true rfl) ?_ ?_ <;> clear H
                · rintro v_ Q_ H hqf59_C5
                  simp only [f59_C5] at H
                  dsimp only [List.length_cons, List.length_nil]
                  refine AW.rseq ?_
                  try simp only [↓wk, ↓wl, nc, evV, wrapBits_eq, ↓reduceIte, Nat.reduceEqDiff, Nat.reduceAdd, Nat.reduceSub, Nat.reduceLeDiff, Nat.reduceLT, Nat.reduceBEq, reduceCtorEq, Int.reduceEq]
                  refine AW.rseq ?_
                  try simp only [↓wk, ↓wl, nc, evV, wrapBits_eq, ↓reduceIte, Nat.reduceEqDiff, Nat.reduceAdd, Nat.reduceSub, Nat.reduceLeDiff, Nat.reduceLT, Nat.reduceBEq, reduceCtorEq, Int.reduceEq]
                  refine AW.rseq ?_
                  try simp only [↓wk, ↓wl, nc, evV, wrapBits_eq, ↓reduceIte, Nat.reduceEqDiff, Nat.reduceAdd, Nat.reduceSub, Nat.reduceLeDiff, Nat.reduceLT, Nat.reduceBEq, reduceCtorEq, Int.reduceEq]
                  refine evTs_sslc H (by rfl) (by simp only [loI, hiI, ↓wk, ↓wl, nc, evV, wrapBits_eq, ↓reduceIte, Nat.reduceEqDiff, Nat.reduceAdd, Nat.reduceSub, Nat.reduceLeDiff, Nat.reduceLT, Nat.reduceBEq, reduceCtorEq, Int.reduceEq]; rfl) (by simp only [loI, hiI, ↓wk, ↓wl, nc, evV, wrapBits_eq, ↓reduceIte, Nat.reduceEqDiff, Nat.reduceAdd, Nat.reduceSub, Nat.reduceLeDiff, Nat.reduceLT, Nat.reduceBEq, reduceCtorEq, Int.reduceEq]; rfl) ?_ <;> clear H <;> intro s_2003 H
                  try simp only [↓wk, ↓wl, nc, evV, wrapBits_eq, ↓reduceIte, Nat.reduceEqDiff, Nat.reduceAdd, Nat.reduceSub, Nat.reduceLeDiff, Nat.reduceLT, Nat.reduceBEq, reduceCtorEq, Int.reduceEq]
                  refine AW.ret ?_
                  cases H
                  exact hqf59_C5 _ _ _ (.inr rfl) (Le.toL 1 (by rfl) [0] [4] (by decide) (by decide) rfl) (by simp only [resVs, omap, resV, f59_C5, List.length_set, Option.map_some, restrict_eq, renS_nil, renS_cons, renB_els, renB_cel, renB_dead, deep_eq, map_ren_enc, ren_agg', ren_tup', ren_fn', ren_int', ren_bool', ren_str', ren_sl', ren_pro', ren_nilp', ren_nilfn', ren_junk', ren_ptr', ren_row', ren_arow', ren_eptr', vm, List.idxOf?_cons, List.idxOf?_nil, beq_self_eq_true, Option.map_none, List.getD_cons_zero, List.getD_cons_succ, ↓wk, ↓wl, nc, evV, wrapBits_eq, ↓reduceIte, Nat.reduceEqDiff, Nat.reduceAdd, Nat.reduceSub, Nat.reduceLeDiff, Nat.reduceLT, Nat.reduceBEq, reduceCtorEq, Int.reduceEq]) (by simp only [f59_C5, List.length_set, Option.map_some, restrict_eq, renS_nil, renS_cons, renB_els, renB_cel, renB_dead, deep_eq, map_ren_enc, ren_agg', ren_tup', ren_fn', ren_int', ren_bool', ren_str', ren_sl', ren_pro', ren_nilp', ren_nilfn', ren_junk', ren_ptr', ren_row', ren_arow', ren_eptr', vm, List.idxOf?_cons, List.idxOf?_nil, beq_self_eq_true, Option.map_none, List.getD_cons_zero, List.getD_cons_succ, ↓wk, ↓wl, nc, evV, wrapBits_eq, ↓reduceIte, Nat.reduceEqDiff, Nat.reduceAdd, Nat.reduceSub, Nat.reduceLeDiff, Nat.reduceLT, Nat.reduceBEq, reduceCtorEq, Int.reduceEq])
                · rintro ⟨v_2001, v_2002⟩ s_ h_ H hs_ hh_
                  simp only [f59_C5] at H hs_ hh_
                  subst hs_
                  subst hh_
                  try simp only [↓wk, ↓wl, nc, evV, wrapBits_eq, ↓reduceIte, Nat.reduceEqDiff, Nat.reduceAdd, Nat.reduceSub, Nat.reduceLeDiff, Nat.reduceLT, Nat.reduceBEq, reduceCtorEq, Int.reduceEq]
                  refine AW.ret ?_
                  cases H
                  exact hqf59_C1 _ _ _ (.inr rfl) (Le.toL 1 (by rfl) [0] [2, 3] (by decide) (by decide) rfl) (by simp only [resVs, omap, resV, f59_C1, List.length_set, Option.map_some, restrict_eq, renS_nil, renS_cons, renB_els, renB_cel, renB_dead, deep_eq, map_ren_enc, ren_agg', ren_tup', ren_fn', ren_int', ren_bool', ren_str', ren_sl', ren_pro', ren_nilp', ren_nilfn', ren_junk', ren_ptr', ren_row', ren_arow', ren_eptr', vm, List.idxOf?_cons, List.idxOf?_nil, beq_self_eq_true, Option.map_none, List.getD_cons_zero, List.getD_cons_succ, ↓wk, ↓wl, nc, evV, wrapBits_eq, ↓reduceIte, Nat.reduceEqDiff, Nat.reduceAdd, Nat.reduceSub, Nat.reduceLeDiff, Nat.reduceLT, Nat.reduceBEq, reduceCtorEq, Int.reduceEq]) (by simp only [f59_C1, List.length_set, Option.map_some, restrict_eq, renS_nil, renS_cons, renB_els, renB_cel, renB_dead, deep_eq, map_ren_enc, ren_agg', ren_tup', ren_fn', ren_int', ren_bool', ren_str', ren_sl', ren_pro', ren_nilp', ren_nilfn', ren_junk', ren_ptr', ren_row', ren_arow', ren_eptr', vm, List.idxOf?_cons, List.idxOf?_nil, beq_self_eq_true, Option.map_none, List.getD_cons_zero, List.getD_cons_succ, ↓wk, ↓wl, nc, evV, wrapBits_eq, ↓reduceIte, Nat.reduceEqDiff, Nat.reduceAdd, Nat.reduceSub, Nat.reduceLeDiff, Nat.reduceLT, Nat.reduceBEq, reduceCtorEq, Int.reduceEq])
    · rintro ⟨v_1930, v_1931, v_1932⟩ s_ h_ H hs_ hh_
      simp only [f59_C1] at H hs_ hh_
      subst hs_
      subst hh_
      try simp only [↓wk, ↓wl, nc, evV, wrapBits_eq, ↓reduceIte, Nat.reduceEqDiff, Nat.reduceAdd, Nat.reduceSub, Nat.reduceLeDiff, Nat.reduceLT, Nat.reduceBEq, reduceCtorEq, Int.reduceEq]
      refine AW.sseq ?_
      refine AW.rseq ?_
      try simp only [↓wk, ↓wl, nc, evV, wrapBits_eq, ↓reduceIte, Nat.reduceEqDiff, Nat.reduceAdd, Nat.reduceSub, Nat.reduceLeDiff, Nat.reduceLT, Nat.reduceBEq, reduceCtorEq, Int.reduceEq]
      refine AW.ifc H (by rfl) ?_ ?_ <;> clear H <;> intro H
      · refine AW.rseq ?_
        try simp only [↓wk, ↓wl, nc, evV, wrapBits_eq, ↓reduceIte, Nat.reduceEqDiff, Nat.reduceAdd, Nat.reduceSub, Nat.reduceLeDiff, Nat.reduceLT, Nat.reduceBEq, reduceCtorEq, Int.reduceEq]
        refine AW.ret ?_
        refine seqQ.ret ?_
        cases H
        exact hQ _ _ _ _ (.inr rfl) (by simp only [resVs, omap, resV, ↓wk, ↓wl, nc, evV, wrapBits_eq, ↓reduceIte, Nat.reduceEqDiff, Nat.reduceAdd, Nat.reduceSub, Nat.reduceLeDiff, Nat.reduceLT, Nat.reduceBEq, reduceCtorEq, Int.reduceEq]; rfl) (hand_plain (by rfl)) (by rfl)
      · refine AW.skip ?_
        refine seqQ.norm ?_
        refine AW.rseq ?_
        try simp only [↓wk, ↓wl, nc, evV, wrapBits_eq, ↓reduceIte, Nat.reduceEqDiff, Nat.reduceAdd, Nat.reduceSub, Nat.reduceLeDiff, Nat.reduceLT, Nat.reduceBEq, reduceCtorEq, Int.reduceEq]
        refine AW.ret ?_
        cases H
        exact hQ _ _ _ _ (.inr rfl) (by simp only [resVs, omap, resV, ↓wk, ↓wl, nc, evV, wrapBits_eq, ↓reduceIte, Nat.reduceEqDiff, Nat.reduceAdd, Nat.reduceSub, Nat.reduceLeDiff, Nat.reduceLT, Nat.reduceBEq, reduceCtorEq, Int.reduceEq]; rfl) (hand_plain (by rfl)) (by rfl)
def c28_0 : C := .cond (.t 29) (.seq (.reg [iI 2 (.mv (.c (.int .i64 3)))]) .ret) (.skip)
def c28_1 : C := .cond (.t 24) (.seq (.reg [iI 2 (.mv (.c (.int .i64 13)))]) .ret) (.seq (.reg [iI 30 (.faddr 1 (.t 1)), iI 31 (.load 0 (.t 30)), iI 32 (.bin .eql (.t 31) (.c (.int .i64 0))), iI 33 (.mv (.t 32)), iG (some 34) 33 true (.faddr 4 (.t 1)), iG (some 35) 33 true (.load 0 (.t 34)), iG (some 36) 33 true (.bin .eql (.t 35) (.c (.int .i64 0))), iG (some 37) 33 true (.mv (.t 36)), iG (some 38) 37 false (.faddr 5 (.t 1)), iG (some 39) 37 false (.load 0 (.t 38)), iG (some 40) 33 true (.pick (.t 37) (.c (.bool true)) (.t 39)), iG (some 41) 33 true (.mv (.t 40)), iG (some 42) 41 false (.faddr 6 (.t 1)), iG (some 43) 41 false (.load 0 (.t 42)), iG (some 44) 41 false (.bin .neq (.t 43) (.c (.str []))), iG (some 45) 33 true (.pick (.t 41) (.c (.bool true)) (.t 44)), iI 46 (.pick (.t 33) (.t 45) (.c (.bool false))), iI 29 (.mv (.t 46))]) c28_0)
def c28_2 : C := .cond (.t 3) (.seq (.reg [iI 2 (.mv (.c (.int .i64 2)))]) .ret) (.seq (.reg [iI 25 (.faddr 6 (.t 1)), iI 26 (.load 0 (.t 25)), iI 27 (.len 1 (.t 26)), iI 28 (.bin .gtr (.t 27) (.c (.int .i64 512))), iI 24 (.mv (.t 28))]) c28_1)
def c28_3 : C := .seq (.reg [iI 2 (.mv (.c (.int .i64 0)))]) .ret
def c28_4 : C := .seq (.block 0 (.seq (.reg [iI 4 (.faddr 0 (.t 1)), iI 5 (.load 0 (.t 4)), iI 6 (.faddr 2 (.t 1)), iI 7 (.load 0 (.t 6)), iI 8 (.faddr 4 (.t 1)), iI 9 (.load 0 (.t 8)), iI 10 (.call (.c (.fn 38 [])) [(.t 5), (.t 7), (.t 9)]), iI 11 (.un .not (.t 10)), iI 12 (.mv (.t 11)), iG (some 13) 12 false (.faddr 1 (.t 1)), iG (some 14) 12 false (.load 0 (.t 13)), iG (some 15) 12 false (.call (.c (.fn 40 [])) [(.t 14), (.c (.int .i64 0)), (.c (.int .i64 8))]), iG (some 16) 12 false (.un .not (.t 15)), iI 17 (.pick (.t 12) (.c (.bool true)) (.t 16)), iI 18 (.mv (.t 17)), iG (some 19) 18 false (.faddr 3 (.t 1)), iG (some 20) 18 false (.load 0 (.t 19)), iG (some 21) 18 false (.call (.c (.fn 36 [])) [(.t 20)]), iG (some 22) 18 false (.un .not (.t 21)), iI 23 (.pick (.t 18) (.c (.bool true)) (.t 22)), iI 3 (.mv (.t 23))]) c28_2)) c28_3
def ir28 : C := .seq (.reg [iI 1 (.box (.t 0)), iI 2 (.mv (.c (.int .i64 0)))]) c28_4
theorem fd28 : fd? Try.prog 28 = some (47, [.slot 2], ir28) := by kernel_rfl
noncomputable def f28 (p_2007 : NetworkPacket) : Option (Int) :=
  (f38 p_2007.fSource p_2007.fPriority p_2007.fSync).bind fun r_2008 => (if (!r_2008) = true then (some 2) else (f40 p_2007.fUniverse 0 8).bind fun r_2009 => (if (!r_2009) = true then (some 2) else (f36 p_2007.fSeq).bind fun r_2010 => (if (!r_2010) = true then (some 2) else (if (decide (512 < ((p_2007.fSlots.length : Nat) : Int))) = true then (some 13) else (if (decide (p_2007.fUniverse = 0)) = true then (if (decide (p_2007.fSync = 0)) = true then (some 3) else (if p_2007.fEnd = true then (some 3) else (if (!(p_2007.fSlots == ([]))) = true then (some 3) else (some 0)))) else (some 0))))))
theorem f28_ok {p_2007 : NetworkPacket} {r_ : Int} (H : f28 p_2007 = some r_) : Pure Try.prog 28 [.agg [.int .u64 p_2007.fSource, .int .i64 p_2007.fUniverse, .int .i64 p_2007.fPriority, .int .i64 p_2007.fSeq, .int .i64 p_2007.fSync, .bool p_2007.fEnd, .str p_2007.fSlots]] (· = .int .i64 r_) := by
  refine Pure.walk2 fd28 none (Nat.le_of_ble_eq_true rfl) (by rfl) fun Q hQ => ?_
  simp only [f28] at H
  refine AW.rseq ?_
  try simp only [↓wk, ↓wl, nc, evV, wrapBits_eq, ↓reduceIte, Nat.reduceEqDiff, Nat.reduceAdd, Nat.reduceSub, Nat.reduceLeDiff, Nat.reduceLT, Nat.reduceBEq, reduceCtorEq, Int.reduceEq]
  refine AW.bseq ?_
  refine AW.rseq ?_
  try simp only [↓wk, ↓wl, nc, evV, wrapBits_eq, ↓reduceIte, Nat.reduceEqDiff, Nat.reduceAdd, Nat.reduceSub, Nat.reduceLeDiff, Nat.reduceLT, Nat.reduceBEq, reduceCtorEq, Int.reduceEq]
  refine evTs_pure hFn H (fun _ h => f38_ok h) (by rfl) (by rfl) (by rfl) (by rfl) (fun _ => rfl) ?_ <;> clear H <;> intro r_2008 H
  try simp only [eL, ↓wk, ↓wl, nc, evV, wrapBits_eq, ↓reduceIte, Nat.reduceEqDiff, Nat.reduceAdd, Nat.reduceSub, Nat.reduceLeDiff, Nat.reduceLT, Nat.reduceBEq, reduceCtorEq, Int.reduceEq]
  refine evTs_ifg H (by rfl) ?_ ?_ <;> clear H <;> intro H
  · try simp only [↓wk, ↓wl, nc, evV, wrapBits_eq, ↓reduceIte, Nat.reduceEqDiff, Nat.reduceAdd, Nat.reduceSub, Nat.reduceLeDiff, Nat.reduceLT, Nat.reduceBEq, reduceCtorEq, Int.reduceEq]
    refine AW.ift (by rfl) ?_
    refine AW.rseq ?_
    try simp only [↓wk, ↓wl, nc, evV, wrapBits_eq, ↓reduceIte, Nat.reduceEqDiff, Nat.reduceAdd, Nat.reduceSub, Nat.reduceLeDiff, Nat.reduceLT, Nat.reduceBEq, reduceCtorEq, Int.reduceEq]
    refine AW.ret ?_
    refine blkQ.ret ?_
    cases H
    exact hQ _ _ _ _ (.inr rfl) (by simp only [resVs, omap, resV, ↓wk, ↓wl, nc, evV, wrapBits_eq, ↓reduceIte, Nat.reduceEqDiff, Nat.reduceAdd, Nat.reduceSub, Nat.reduceLeDiff, Nat.reduceLT, Nat.reduceBEq, reduceCtorEq, Int.reduceEq]; rfl) (hand_plain (by rfl)) (by rfl)
  · try simp only [↓wk, ↓wl, nc, evV, wrapBits_eq, ↓reduceIte, Nat.reduceEqDiff, Nat.reduceAdd, Nat.reduceSub, Nat.reduceLeDiff, Nat.reduceLT, Nat.reduceBEq, reduceCtorEq, Int.reduceEq]
    refine evTs_pure hFn H (fun _ h => f40_ok h) (by rfl) (by rfl) (by rfl) (by rfl) (fun _ => rfl) ?_ <;> clear H <;> intro r_2009 H
    try simp only [eL, ↓wk, ↓wl, nc, evV, wrapBits_eq, ↓reduceIte, Nat.reduceEqDiff, Nat.reduceAdd, Nat.reduceSub, Nat.reduceLeDiff, Nat.reduceLT, Nat.reduceBEq, reduceCtorEq, Int.reduceEq]
    refine evTs_ifg H (by rfl) ?_ ?_ <;> clear H <;> intro H
    · try simp only [↓wk, ↓wl, nc, evV, wrapBits_eq, ↓reduceIte, Nat.reduceEqDiff, Nat.reduceAdd, Nat.reduceSub, Nat.reduceLeDiff, Nat.reduceLT, Nat.reduceBEq, reduceCtorEq, Int.reduceEq]
      refine AW.ift (by rfl) ?_
      refine AW.rseq ?_
      try simp only [↓wk, ↓wl, nc, evV, wrapBits_eq, ↓reduceIte, Nat.reduceEqDiff, Nat.reduceAdd, Nat.reduceSub, Nat.reduceLeDiff, Nat.reduceLT, Nat.reduceBEq, reduceCtorEq, Int.reduceEq]
      refine AW.ret ?_
      refine blkQ.ret ?_
      cases H
      exact hQ _ _ _ _ (.inr rfl) (by simp only [resVs, omap, resV, ↓wk, ↓wl, nc, evV, wrapBits_eq, ↓reduceIte, Nat.reduceEqDiff, Nat.reduceAdd, Nat.reduceSub, Nat.reduceLeDiff, Nat.reduceLT, Nat.reduceBEq, reduceCtorEq, Int.reduceEq]; rfl) (hand_plain (by rfl)) (by rfl)
    · try simp only [↓wk, ↓wl, nc, evV, wrapBits_eq, ↓reduceIte, Nat.reduceEqDiff, Nat.reduceAdd, Nat.reduceSub, Nat.reduceLeDiff, Nat.reduceLT, Nat.reduceBEq, reduceCtorEq, Int.reduceEq]
      refine evTs_pure hFn H (fun _ h => f36_ok h) (by rfl) (by rfl) (by rfl) (by rfl) (fun _ => rfl) ?_ <;> clear H <;> intro r_2010 H
      try simp only [eL, ↓wk, ↓wl, nc, evV, wrapBits_eq, ↓reduceIte, Nat.reduceEqDiff, Nat.reduceAdd, Nat.reduceSub, Nat.reduceLeDiff, Nat.reduceLT, Nat.reduceBEq, reduceCtorEq, Int.reduceEq]
      refine AW.ifc H (by rfl) ?_ ?_ <;> clear H <;> intro H
      · refine AW.rseq ?_
        try simp only [↓wk, ↓wl, nc, evV, wrapBits_eq, ↓reduceIte, Nat.reduceEqDiff, Nat.reduceAdd, Nat.reduceSub, Nat.reduceLeDiff, Nat.reduceLT, Nat.reduceBEq, reduceCtorEq, Int.reduceEq]
        refine AW.ret ?_
        refine blkQ.ret ?_
        cases H
        exact hQ _ _ _ _ (.inr rfl) (by simp only [resVs, omap, resV, ↓wk, ↓wl, nc, evV, wrapBits_eq, ↓reduceIte, Nat.reduceEqDiff, Nat.reduceAdd, Nat.reduceSub, Nat.reduceLeDiff, Nat.reduceLT, Nat.reduceBEq, reduceCtorEq, Int.reduceEq]; rfl) (hand_plain (by rfl)) (by rfl)
      · refine AW.rseq ?_
        try simp only [↓wk, ↓wl, nc, evV, wrapBits_eq, ↓reduceIte, Nat.reduceEqDiff, Nat.reduceAdd, Nat.reduceSub, Nat.reduceLeDiff, Nat.reduceLT, Nat.reduceBEq, reduceCtorEq, Int.reduceEq]
        refine AW.ifc H (by rfl) ?_ ?_ <;> clear H <;> intro H
        · refine AW.rseq ?_
          try simp only [↓wk, ↓wl, nc, evV, wrapBits_eq, ↓reduceIte, Nat.reduceEqDiff, Nat.reduceAdd, Nat.reduceSub, Nat.reduceLeDiff, Nat.reduceLT, Nat.reduceBEq, reduceCtorEq, Int.reduceEq]
          refine AW.ret ?_
          refine blkQ.ret ?_
          cases H
          exact hQ _ _ _ _ (.inr rfl) (by simp only [resVs, omap, resV, ↓wk, ↓wl, nc, evV, wrapBits_eq, ↓reduceIte, Nat.reduceEqDiff, Nat.reduceAdd, Nat.reduceSub, Nat.reduceLeDiff, Nat.reduceLT, Nat.reduceBEq, reduceCtorEq, Int.reduceEq]; rfl) (hand_plain (by rfl)) (by rfl)
        · refine AW.rseq ?_
          try simp only [↓wk, ↓wl, nc, evV, wrapBits_eq, ↓reduceIte, Nat.reduceEqDiff, Nat.reduceAdd, Nat.reduceSub, Nat.reduceLeDiff, Nat.reduceLT, Nat.reduceBEq, reduceCtorEq, Int.reduceEq]
          refine evTs_ifg H (by rfl) ?_ ?_ <;> clear H <;> intro H
          · try simp only [↓wk, ↓wl, nc, evV, wrapBits_eq, ↓reduceIte, Nat.reduceEqDiff, Nat.reduceAdd, Nat.reduceSub, Nat.reduceLeDiff, Nat.reduceLT, Nat.reduceBEq, reduceCtorEq, Int.reduceEq]
            refine evTs_ifg H (by rfl) ?_ ?_ <;> clear H <;> intro H
            · try simp only [↓wk, ↓wl, nc, evV, wrapBits_eq, ↓reduceIte, Nat.reduceEqDiff, Nat.reduceAdd, Nat.reduceSub, Nat.reduceLeDiff, Nat.reduceLT, Nat.reduceBEq, reduceCtorEq, Int.reduceEq]
              refine AW.ift (by rfl) ?_
              refine AW.rseq ?_
              try simp only [↓wk, ↓wl, nc, evV, wrapBits_eq, ↓reduceIte, Nat.reduceEqDiff, Nat.reduceAdd, Nat.reduceSub, Nat.reduceLeDiff, Nat.reduceLT, Nat.reduceBEq, reduceCtorEq, Int.reduceEq]
              refine AW.ret ?_
              refine blkQ.ret ?_
              cases H
              exact hQ _ _ _ _ (.inr rfl) (by simp only [resVs, omap, resV, ↓wk, ↓wl, nc, evV, wrapBits_eq, ↓reduceIte, Nat.reduceEqDiff, Nat.reduceAdd, Nat.reduceSub, Nat.reduceLeDiff, Nat.reduceLT, Nat.reduceBEq, reduceCtorEq, Int.reduceEq]; rfl) (hand_plain (by rfl)) (by rfl)
            · try simp only [↓wk, ↓wl, nc, evV, wrapBits_eq, ↓reduceIte, Nat.reduceEqDiff, Nat.reduceAdd, Nat.reduceSub, Nat.reduceLeDiff, Nat.reduceLT, Nat.reduceBEq, reduceCtorEq, Int.reduceEq]
              refine evTs_ifg H (by rfl) ?_ ?_ <;> clear H <;> intro H
              · try simp only [↓wk, ↓wl, nc, evV, wrapBits_eq, ↓reduceIte, Nat.reduceEqDiff, Nat.reduceAdd, Nat.reduceSub, Nat.reduceLeDiff, Nat.reduceLT, Nat.reduceBEq, reduceCtorEq, Int.reduceEq]
                refine AW.ift (by rfl) ?_
                refine AW.rseq ?_
                try simp only [↓wk, ↓wl, nc, evV, wrapBits_eq, ↓reduceIte, Nat.reduceEqDiff, Nat.reduceAdd, Nat.reduceSub, Nat.reduceLeDiff, Nat.reduceLT, Nat.reduceBEq, reduceCtorEq, Int.reduceEq]
                refine AW.ret ?_
                refine blkQ.ret ?_
                cases H
                exact hQ _ _ _ _ (.inr rfl) (by simp only [resVs, omap, resV, ↓wk, ↓wl, nc, evV, wrapBits_eq, ↓reduceIte, Nat.reduceEqDiff, Nat.reduceAdd, Nat.reduceSub, Nat.reduceLeDiff, Nat.reduceLT, Nat.reduceBEq, reduceCtorEq, Int.reduceEq]; rfl) (hand_plain (by rfl)) (by rfl)
              · try simp only [↓wk, ↓wl, nc, evV, wrapBits_eq, ↓reduceIte, Nat.reduceEqDiff, Nat.reduceAdd, Nat.reduceSub, Nat.reduceLeDiff, Nat.reduceLT, Nat.reduceBEq, reduceCtorEq, Int.reduceEq]
                refine AW.ifc H (by rfl) ?_ ?_ <;> clear H <;> intro H
                · refine AW.rseq ?_
                  try simp only [↓wk, ↓wl, nc, evV, wrapBits_eq, ↓reduceIte, Nat.reduceEqDiff, Nat.reduceAdd, Nat.reduceSub, Nat.reduceLeDiff, Nat.reduceLT, Nat.reduceBEq, reduceCtorEq, Int.reduceEq]
                  refine AW.ret ?_
                  refine blkQ.ret ?_
                  cases H
                  exact hQ _ _ _ _ (.inr rfl) (by simp only [resVs, omap, resV, ↓wk, ↓wl, nc, evV, wrapBits_eq, ↓reduceIte, Nat.reduceEqDiff, Nat.reduceAdd, Nat.reduceSub, Nat.reduceLeDiff, Nat.reduceLT, Nat.reduceBEq, reduceCtorEq, Int.reduceEq]; rfl) (hand_plain (by rfl)) (by rfl)
                · refine AW.skip ?_
                  refine blkQ.norm ?_
                  refine AW.rseq ?_
                  try simp only [↓wk, ↓wl, nc, evV, wrapBits_eq, ↓reduceIte, Nat.reduceEqDiff, Nat.reduceAdd, Nat.reduceSub, Nat.reduceLeDiff, Nat.reduceLT, Nat.reduceBEq, reduceCtorEq, Int.reduceEq]
                  refine AW.ret ?_
                  cases H
                  exact hQ _ _ _ _ (.inr rfl) (by simp only [resVs, omap, resV, ↓wk, ↓wl, nc, evV, wrapBits_eq, ↓reduceIte, Nat.reduceEqDiff, Nat.reduceAdd, Nat.reduceSub, Nat.reduceLeDiff, Nat.reduceLT, Nat.reduceBEq, reduceCtorEq, Int.reduceEq]; rfl) (hand_plain (by rfl)) (by rfl)
          · try simp only [↓wk, ↓wl, nc, evV, wrapBits_eq, ↓reduceIte, Nat.reduceEqDiff, Nat.reduceAdd, Nat.reduceSub, Nat.reduceLeDiff, Nat.reduceLT, Nat.reduceBEq, reduceCtorEq, Int.reduceEq]
            refine AW.iff (by rfl) ?_
            refine AW.skip ?_
            refine blkQ.norm ?_
            refine AW.rseq ?_
            try simp only [↓wk, ↓wl, nc, evV, wrapBits_eq, ↓reduceIte, Nat.reduceEqDiff, Nat.reduceAdd, Nat.reduceSub, Nat.reduceLeDiff, Nat.reduceLT, Nat.reduceBEq, reduceCtorEq, Int.reduceEq]
            refine AW.ret ?_
            cases H
            exact hQ _ _ _ _ (.inr rfl) (by simp only [resVs, omap, resV, ↓wk, ↓wl, nc, evV, wrapBits_eq, ↓reduceIte, Nat.reduceEqDiff, Nat.reduceAdd, Nat.reduceSub, Nat.reduceLeDiff, Nat.reduceLT, Nat.reduceBEq, reduceCtorEq, Int.reduceEq]; rfl) (hand_plain (by rfl)) (by rfl)
noncomputable def f34_J1 (r_1797 : RecordEntry × Int × Int) : Jn (Int × Int × Int × Int × Int × Int × Int) (NetworkPacket × Int) where
  run := fun (at_1882, p_1883, p_1884, p_1885, p_1886, source_1887, end_1888) => (f59 r_1797.1.fData at_1882).bind fun r_2004 => (if (decide (r_2004.2.2 ≠ 0)) = true then (some ((NetworkPacket.mk 0 0 0 0 0 false ([])), 3)) else (if (decide (r_2004.2.1 < ((r_1797.1.fData.length : Nat) : Int))) = true then (some ((NetworkPacket.mk 0 0 0 0 0 false ([])), 3)) else (if (decide (source_1887 < 0)) = true then (some ((NetworkPacket.mk 0 0 0 0 0 false ([])), 3)) else (f40 end_1888 0 1).bind fun r_2006 => (if (!r_2006) = true then (some ((NetworkPacket.mk 0 0 0 0 0 false ([])), 3)) else (f28 (NetworkPacket.mk (IntKind.u64.wrap source_1887) p_1883 p_1884 p_1885 p_1886 (decide (end_1888 = 1)) r_2004.1)).bind fun r_2011 => (if (decide (r_2011 ≠ 0)) = true then (some ((NetworkPacket.mk 0 0 0 0 0 false ([])), r_2011)) else (some ((NetworkPacket.mk (IntKind.u64.wrap source_1887) p_1883 p_1884 p_1885 p_1886 (decide (end_1888 = 1)) r_2004.1), 0)))))))
  cst := fun (at_1882, p_1883, p_1884, p_1885, p_1886, source_1887, end_1888) => ⟨put (put (put (put (put (put (fun _ => .junk) 10 (.int .i64 at_1882)) 9 (.ptr 4 0)) 8 (.ptr 3 0)) 7 (.ptr 2 0)) 4 (.ptr 1 0)) 2 (.ptr 0 0), [.cel [.int .u64 0, .int .i64 0, .int .i64 0, .int .i64 0, .int .i64 0, .bool false, .str ([])], .cel [.int .i64 r_1797.1.fKind, .str r_1797.1.fData], .cel [.int .u64 0, .int .i64 p_1883, .int .i64 p_1884, .int .i64 p_1885, .int .i64 p_1886, .bool false, .str ([])], .cel [.int .i64 source_1887], .cel [.int .i64 end_1888]]⟩
def c34_0 : C := .cond (.t 31) (.seq (.reg [iI 35 (.build [(1, (.int .u64 0)), (1, (.int .i64 0)), (1, (.int .i64 0)), (1, (.int .i64 0)), (1, (.int .i64 0)), (1, (.bool false)), (1, (.str []))] []), iN (.store 7 (.t 2) (.t 35)), iI 3 (.mv (.c (.int .i64 1)))]) .ret) (.skip)
def c34_1 : C := .cond (.t 25) (.seq (.reg [iI 30 (.build [(1, (.int .u64 0)), (1, (.int .i64 0)), (1, (.int .i64 0)), (1, (.int .i64 0)), (1, (.int .i64 0)), (1, (.bool false)), (1, (.str []))] []), iN (.store 7 (.t 2) (.t 30)), iI 3 (.mv (.c (.int .i64 13)))]) .ret) (.seq (.reg [iI 32 (.faddr 0 (.t 4)), iI 33 (.load 0 (.t 32)), iI 34 (.bin .neq (.t 33) (.c (.int .i64 85))), iI 31 (.mv (.t 34))]) c34_0)
def c34_2 : C := .cond (.t 20) (.seq (.reg [iI 23 (.build [(1, (.int .u64 0)), (1, (.int .i64 0)), (1, (.int .i64 0)), (1, (.int .i64 0)), (1, (.int .i64 0)), (1, (.bool false)), (1, (.str []))] []), iI 24 (.mv (.t 6)), iN (.store 7 (.t 2) (.t 23)), iI 3 (.mv (.t 24))]) .ret) (.seq (.reg [iI 26 (.mv (.t 5)), iI 27 (.mv (.t 0)), iI 28 (.len 1 (.t 27)), iI 29 (.bin .lss (.t 26) (.t 28)), iI 25 (.mv (.t 29))]) c34_1)
def c34_3 : C := .cond (.t 55) (.seq (.reg [iI 56 (.build [(1, (.int .u64 0)), (1, (.int .i64 0)), (1, (.int .i64 0)), (1, (.int .i64 0)), (1, (.int .i64 0)), (1, (.bool false)), (1, (.str []))] []), iN (.store 7 (.t 2) (.t 56)), iI 3 (.mv (.c (.int .i64 3)))]) .ret) (.skip)
def c34_4 : C := .seq (.reg [iI 54 (.mv (.t 6)), iI 55 (.bin .neq (.t 54) (.c (.int .i64 0)))]) c34_3
def c34_5 : C := .seq (.reg [iI 45 (.mv (.t 12)), iI 46 (.faddr 1 (.t 4)), iI 47 (.load 0 (.t 46)), iI 48 (.mv (.t 10)), iI 49 (.call (.c (.fn 58 [])) [(.t 47), (.t 48)]), iI 44 (.mv (.t 49)), iI 50 (.ext (.t 44) 0), iI 51 (.ext (.t 44) 1), iI 52 (.ext (.t 44) 2), iI 53 (.nilchk (.t 45)), iN (.store 0 (.t 53) (.t 50)), iI 10 (.mv (.t 51)), iI 6 (.mv (.t 52))]) c34_4
def c34_6 : C := .reg [iI 57 (.bin .add (.t 41) (.c (.int .i64 1))), iI 41 (.mv (.t 57))]
def c34_7 : C := .seq (.block 2 (.seq (.reg [iI 43 (.idx 0 6 (.t 40) (.t 41)), iI 12 (.mv (.t 43))]) c34_5)) c34_6
def c34_8 : C := .seq (.cond (.t 42) (.skip) (.exit 1)) c34_7
def c34_9 : C := .block 1 (.loop (.seq (.reg [iI 42 (.bin .lss (.t 41) (.c (.int .i64 6)))]) c34_8))
def c34_10 : C := .cond (.t 84) (.seq (.reg [iI 85 (.build [(1, (.int .u64 0)), (1, (.int .i64 0)), (1, (.int .i64 0)), (1, (.int .i64 0)), (1, (.int .i64 0)), (1, (.bool false)), (1, (.str []))] []), iN (.store 7 (.t 2) (.t 85)), iI 3 (.mv (.c (.int .i64 3)))]) .ret) (.skip)
def c34_11 : C := .cond (.t 95) (.seq (.reg [iI 96 (.build [(1, (.int .u64 0)), (1, (.int .i64 0)), (1, (.int .i64 0)), (1, (.int .i64 0)), (1, (.int .i64 0)), (1, (.bool false)), (1, (.str []))] []), iI 97 (.mv (.t 13)), iN (.store 7 (.t 2) (.t 96)), iI 3 (.mv (.t 97))]) .ret) (.skip)
def c34_12 : C := .seq (.reg [iI 94 (.mv (.t 13)), iI 95 (.bin .neq (.t 94) (.c (.int .i64 0)))]) c34_11
def c34_13 : C := .seq (.reg [iI 98 (.load 7 (.t 7)), iN (.store 7 (.t 2) (.t 98)), iI 3 (.mv (.c (.int .i64 0)))]) .ret
def c34_14 : C := .seq (.seq (.reg [iI 92 (.load 7 (.t 7)), iI 93 (.call (.c (.fn 28 [])) [(.t 92)]), iI 13 (.mv (.t 93))]) c34_12) c34_13
def c34_15 : C := .seq (.reg [iI 86 (.load 0 (.t 8)), iI 87 (.cint .u64 (.t 86)), iI 88 (.load 0 (.t 9)), iI 89 (.bin .eql (.t 88) (.c (.int .i64 1))), iI 90 (.faddr 0 (.t 7)), iN (.store 0 (.t 90) (.t 87)), iI 91 (.faddr 5 (.t 7)), iN (.store 0 (.t 91) (.t 89))]) c34_14
def c34_16 : C := .seq (.seq (.reg [iI 67 (.mv (.t 6)), iI 68 (.bin .neq (.t 67) (.c (.int .i64 0))), iI 69 (.mv (.t 68)), iG (some 70) 69 false (.mv (.t 10)), iG (some 71) 69 false (.faddr 1 (.t 4)), iG (some 72) 69 false (.load 0 (.t 71)), iG (some 73) 69 false (.len 1 (.t 72)), iG (some 74) 69 false (.bin .lss (.t 70) (.t 73)), iI 75 (.pick (.t 69) (.c (.bool true)) (.t 74)), iI 76 (.mv (.t 75)), iG (some 77) 76 false (.load 0 (.t 8)), iG (some 78) 76 false (.bin .lss (.t 77) (.c (.int .i64 0))), iI 79 (.pick (.t 76) (.c (.bool true)) (.t 78)), iI 80 (.mv (.t 79)), iG (some 81) 80 false (.load 0 (.t 9)), iG (some 82) 80 false (.call (.c (.fn 40 [])) [(.t 81), (.c (.int .i64 0)), (.c (.int .i64 1))]), iG (some 83) 80 false (.un .not (.t 82)), iI 84 (.pick (.t 80) (.c (.bool true)) (.t 83))]) c34_10) c34_15
def c34_17 : C := .seq (.reg [iI 59 (.faddr 1 (.t 4)), iI 60 (.load 0 (.t 59)), iI 61 (.mv (.t 10)), iI 62 (.call (.c (.fn 59 [])) [(.t 60), (.t 61)]), iI 58 (.mv (.t 62)), iI 63 (.ext (.t 58) 0), iI 64 (.ext (.t 58) 1), iI 65 (.ext (.t 58) 2), iI 66 (.faddr 6 (.t 7)), iN (.store 0 (.t 66) (.t 63)), iI 10 (.mv (.t 64)), iI 6 (.mv (.t 65))]) c34_16
def c34_18 : C := .seq (.seq (.reg [iI 36 (.faddr 1 (.t 7)), iI 37 (.faddr 2 (.t 7)), iI 38 (.faddr 3 (.t 7)), iI 39 (.faddr 4 (.t 7)), iI 40 (.build [(6, .nilp)] [(0, 0, (.t 8)), (1, 0, (.t 36)), (2, 0, (.t 37)), (3, 0, (.t 38)), (4, 0, (.t 39)), (5, 0, (.t 9))]), iI 41 (.mv (.c (.int .i64 0)))]) c34_9) c34_17
def c34_19 : C := .seq (.reg [iI 8 (.alloc [(1, (.int .i64 0))]), iI 9 (.alloc [(1, (.int .i64 0))]), iN (.store 0 (.t 8) (.c (.int .i64 0))), iN (.store 0 (.t 9) (.c (.int .i64 0))), iI 10 (.mv (.c (.int .i64 0)))]) c34_18
def c34_20 : C := .seq (.reg [iI 7 (.alloc [(1, (.int .u64 0)), (1, (.int .i64 0)), (1, (.int .i64 0)), (1, (.int .i64 0)), (1, (.int .i64 0)), (1, (.bool false)), (1, (.str []))])]) c34_19
def c34_21 : C := .seq (.block 0 (.seq (.reg [iI 21 (.mv (.t 6)), iI 22 (.bin .neq (.t 21) (.c (.int .i64 0))), iI 20 (.mv (.t 22))]) c34_2)) c34_20
def c34_22 : C := .seq (.reg [iI 15 (.mv (.t 0)), iI 16 (.call (.c (.fn 57 [])) [(.t 15), (.c (.int .i64 0))]), iI 14 (.mv (.t 16)), iI 17 (.ext (.t 14) 0), iI 18 (.ext (.t 14) 1), iI 19 (.ext (.t 14) 2), iI 4 (.alloc [(1, (.int .i64 0)), (1, (.str []))]), iN (.store 2 (.t 4) (.t 17)), iI 5 (.mv (.t 18)), iI 6 (.mv (.t 19))]) c34_21
def ir34 : C := .seq (.reg [iI 2 (.alloc [(1, (.int .u64 0)), (1, (.int .i64 0)), (1, (.int .i64 0)), (1, (.int .i64 0)), (1, (.int .i64 0)), (1, (.bool false)), (1, (.str []))]), iI 3 (.mv (.c (.int .i64 0)))]) c34_22
theorem fd34 : fd? Try.prog 34 = some (99, [.cell 2 7, .slot 3], ir34) := by kernel_rfl
noncomputable def f34 (s_1740 : (List UInt8)) : Option (NetworkPacket × Int) :=
  (f57 s_1740 0).bind fun r_1797 => (if (decide (r_1797.2.2 ≠ 0)) = true then (some ((NetworkPacket.mk 0 0 0 0 0 false ([])), r_1797.2.2)) else (if (decide (r_1797.2.1 < ((s_1740.length : Nat) : Int))) = true then (some ((NetworkPacket.mk 0 0 0 0 0 false ([])), 13)) else (if (decide (r_1797.1.fKind ≠ 85)) = true then (some ((NetworkPacket.mk 0 0 0 0 0 false ([])), 1)) else (f58 r_1797.1.fData 0).bind fun r_2016 => (if (decide (r_2016.2.2 ≠ 0)) = true then (some ((NetworkPacket.mk 0 0 0 0 0 false ([])), 3)) else (f58 r_1797.1.fData r_2016.2.1).bind fun r_2017 => (if (decide (r_2017.2.2 ≠ 0)) = true then (some ((NetworkPacket.mk 0 0 0 0 0 false ([])), 3)) else (f58 r_1797.1.fData r_2017.2.1).bind fun r_2018 => (if (decide (r_2018.2.2 ≠ 0)) = true then (some ((NetworkPacket.mk 0 0 0 0 0 false ([])), 3)) else (f58 r_1797.1.fData r_2018.2.1).bind fun r_2019 => (if (decide (r_2019.2.2 ≠ 0)) = true then (some ((NetworkPacket.mk 0 0 0 0 0 false ([])), 3)) else (f58 r_1797.1.fData r_2019.2.1).bind fun r_2020 => (if (decide (r_2020.2.2 ≠ 0)) = true then (some ((NetworkPacket.mk 0 0 0 0 0 false ([])), 3)) else (f58 r_1797.1.fData r_2020.2.1).bind fun r_2021 => (if (decide (r_2021.2.2 ≠ 0)) = true then (some ((NetworkPacket.mk 0 0 0 0 0 false ([])), 3)) else ((f34_J1 r_1797).run (r_2021.2.1, r_2017.1, r_2018.1, r_2019.1, r_2020.1, r_2016.1, r_2021.1)))))))))))
theorem f34_ok {s_1740 : (List UInt8)} {r_ : NetworkPacket × Int} (H : f34 s_1740 = some r_) : Pure Try.prog 34 [.str s_1740] (· = .tup [.agg [.int .u64 r_.1.fSource, .int .i64 r_.1.fUniverse, .int .i64 r_.1.fPriority, .int .i64 r_.1.fSeq, .int .i64 r_.1.fSync, .bool r_.1.fEnd, .str r_.1.fSlots], .int .i64 r_.2]) := by
  refine Pure.walk2 fd34 none (Nat.le_of_ble_eq_true rfl) (by rfl) fun Q hQ => ?_
  simp only [f34] at H
  refine AW.rseq ?_
  try simp only [↓wk, ↓wl, nc, evV, wrapBits_eq, ↓reduceIte, Nat.reduceEqDiff, Nat.reduceAdd, Nat.reduceSub, Nat.reduceLeDiff, Nat.reduceLT, Nat.reduceBEq, reduceCtorEq, Int.reduceEq]
  refine AW.rseq ?_
  try simp only [↓wk, ↓wl, nc, evV, wrapBits_eq, ↓reduceIte, Nat.reduceEqDiff, Nat.reduceAdd, Nat.reduceSub, Nat.reduceLeDiff, Nat.reduceLT, Nat.reduceBEq, reduceCtorEq, Int.reduceEq]
  refine evTs_pure hFn H (fun _ h => f57_ok h) (by rfl) (by rfl) (by rfl) (by rfl) (fun _ => rfl) ?_ <;> clear H <;> intro r_1797 H
  try simp only [eL, eRecordEntry, ↓wk, ↓wl, nc, evV, wrapBits_eq, ↓reduceIte, Nat.reduceEqDiff, Nat.reduceAdd, Nat.reduceSub, Nat.reduceLeDiff, Nat.reduceLT, Nat.reduceBEq, reduceCtorEq, Int.reduceEq]
  refine AW.bseq ?_
  refine AW.rseq ?_
  try simp only [↓wk, ↓wl, nc, evV, wrapBits_eq, ↓reduceIte, Nat.reduceEqDiff, Nat.reduceAdd, Nat.reduceSub, Nat.reduceLeDiff, Nat.reduceLT, Nat.reduceBEq, reduceCtorEq, Int.reduceEq]
  refine AW.ifc H (by rfl) ?_ ?_ <;> clear H <;> intro H
  · refine AW.rseq ?_
    try simp only [↓wk, ↓wl, nc, evV, wrapBits_eq, ↓reduceIte, Nat.reduceEqDiff, Nat.reduceAdd, Nat.reduceSub, Nat.reduceLeDiff, Nat.reduceLT, Nat.reduceBEq, reduceCtorEq, Int.reduceEq]
    refine AW.ret ?_
    refine blkQ.ret ?_
    cases H
    exact hQ _ _ _ _ (.inr rfl) (by simp only [resVs, omap, resV, ↓wk, ↓wl, nc, evV, wrapBits_eq, ↓reduceIte, Nat.reduceEqDiff, Nat.reduceAdd, Nat.reduceSub, Nat.reduceLeDiff, Nat.reduceLT, Nat.reduceBEq, reduceCtorEq, Int.reduceEq]; rfl) (hand_plain (by rfl)) (by rfl)
  · refine AW.rseq ?_
    try simp only [↓wk, ↓wl, nc, evV, wrapBits_eq, ↓reduceIte, Nat.reduceEqDiff, Nat.reduceAdd, Nat.reduceSub, Nat.reduceLeDiff, Nat.reduceLT, Nat.reduceBEq, reduceCtorEq, Int.reduceEq]
    refine AW.ifc H (by rfl) ?_ ?_ <;> clear H <;> intro H
    · refine AW.rseq ?_
      try simp only [↓wk, ↓wl, nc, evV, wrapBits_eq, ↓reduceIte, Nat.reduceEqDiff, Nat.reduceAdd, Nat.reduceSub, Nat.reduceLeDiff, Nat.reduceLT, Nat.reduceBEq, reduceCtorEq, Int.reduceEq]
      refine AW.ret ?_
      refine blkQ.ret ?_
      cases H
      exact hQ _ _ _ _ (.inr rfl) (by simp only [resVs, omap, resV, ↓wk, ↓wl, nc, evV, wrapBits_eq, ↓reduceIte, Nat.reduceEqDiff, Nat.reduceAdd, Nat.reduceSub, Nat.reduceLeDiff, Nat.reduceLT, Nat.reduceBEq, reduceCtorEq, Int.reduceEq]; rfl) (hand_plain (by rfl)) (by rfl)
    · refine AW.rseq ?_
      try simp only [↓wk, ↓wl, nc, evV, wrapBits_eq, ↓reduceIte, Nat.reduceEqDiff, Nat.reduceAdd, Nat.reduceSub, Nat.reduceLeDiff, Nat.reduceLT, Nat.reduceBEq, reduceCtorEq, Int.reduceEq]
      refine AW.ifc H (by rfl) ?_ ?_ <;> clear H <;> intro H
      · refine AW.rseq ?_
        try simp only [↓wk, ↓wl, nc, evV, wrapBits_eq, ↓reduceIte, Nat.reduceEqDiff, Nat.reduceAdd, Nat.reduceSub, Nat.reduceLeDiff, Nat.reduceLT, Nat.reduceBEq, reduceCtorEq, Int.reduceEq]
        refine AW.ret ?_
        refine blkQ.ret ?_
        cases H
        exact hQ _ _ _ _ (.inr rfl) (by simp only [resVs, omap, resV, ↓wk, ↓wl, nc, evV, wrapBits_eq, ↓reduceIte, Nat.reduceEqDiff, Nat.reduceAdd, Nat.reduceSub, Nat.reduceLeDiff, Nat.reduceLT, Nat.reduceBEq, reduceCtorEq, Int.reduceEq]; rfl) (hand_plain (by rfl)) (by rfl)
      · refine AW.skip ?_
        refine blkQ.norm ?_
        refine AW.rseq ?_
        try simp only [↓wk, ↓wl, nc, evV, wrapBits_eq, ↓reduceIte, Nat.reduceEqDiff, Nat.reduceAdd, Nat.reduceSub, Nat.reduceLeDiff, Nat.reduceLT, Nat.reduceBEq, reduceCtorEq, Int.reduceEq]
        refine AW.rseq ?_
        try simp only [↓wk, ↓wl, nc, evV, wrapBits_eq, ↓reduceIte, Nat.reduceEqDiff, Nat.reduceAdd, Nat.reduceSub, Nat.reduceLeDiff, Nat.reduceLT, Nat.reduceBEq, reduceCtorEq, Int.reduceEq]
        refine AW.join (f34_J1 r_1797) H ?_ fun hf34_J1 => ?_
        · clear H
          rintro ⟨at_1882, p_1883, p_1884, p_1885, p_1886, source_1887, end_1888⟩ st0_ H hst_
          simp only [f34_J1] at H hst_
          subst hst_
          refine AW.rseq ?_
          try simp only [↓wk, ↓wl, nc, evV, wrapBits_eq, ↓reduceIte, Nat.reduceEqDiff, Nat.reduceAdd, Nat.reduceSub, Nat.reduceLeDiff, Nat.reduceLT, Nat.reduceBEq, reduceCtorEq, Int.reduceEq]
          refine evTs_pure hFn H (fun _ h => f59_ok h) (by rfl) (by rfl) (by rfl) (by rfl) (fun _ => rfl) ?_ <;> clear H <;> intro r_2004 H
          try simp only [eL, ↓wk, ↓wl, nc, evV, wrapBits_eq, ↓reduceIte, Nat.reduceEqDiff, Nat.reduceAdd, Nat.reduceSub, Nat.reduceLeDiff, Nat.reduceLT, Nat.reduceBEq, reduceCtorEq, Int.reduceEq]
          refine AW.sseq ?_
          refine AW.rseq ?_
          try simp only [↓wk, ↓wl, nc, evV, wrapBits_eq, ↓reduceIte, Nat.reduceEqDiff, Nat.reduceAdd, Nat.reduceSub, Nat.reduceLeDiff, Nat.reduceLT, Nat.reduceBEq, reduceCtorEq, Int.reduceEq]
          refine evTs_ifg H (by rfl) ?_ ?_ <;> clear H <;> intro H
          · try simp only [↓wk, ↓wl, nc, evV, wrapBits_eq, ↓reduceIte, Nat.reduceEqDiff, Nat.reduceAdd, Nat.reduceSub, Nat.reduceLeDiff, Nat.reduceLT, Nat.reduceBEq, reduceCtorEq, Int.reduceEq]
            refine AW.ift (by rfl) ?_
            refine AW.rseq ?_
            try simp only [↓wk, ↓wl, nc, evV, wrapBits_eq, ↓reduceIte, Nat.reduceEqDiff, Nat.reduceAdd, Nat.reduceSub, Nat.reduceLeDiff, Nat.reduceLT, Nat.reduceBEq, reduceCtorEq, Int.reduceEq]
            refine AW.ret ?_
            refine seqQ.ret ?_
            cases H
            exact hQ _ _ _ _ (.inr rfl) (by simp only [resVs, omap, resV, ↓wk, ↓wl, nc, evV, wrapBits_eq, ↓reduceIte, Nat.reduceEqDiff, Nat.reduceAdd, Nat.reduceSub, Nat.reduceLeDiff, Nat.reduceLT, Nat.reduceBEq, reduceCtorEq, Int.reduceEq]; rfl) (hand_plain (by rfl)) (by rfl)
          · try simp only [↓wk, ↓wl, nc, evV, wrapBits_eq, ↓reduceIte, Nat.reduceEqDiff, Nat.reduceAdd, Nat.reduceSub, Nat.reduceLeDiff, Nat.reduceLT, Nat.reduceBEq, reduceCtorEq, Int.reduceEq]
            refine evTs_ifg H (by rfl) ?_ ?_ <;> clear H <;> intro H
            · try simp only [↓wk, ↓wl, nc, evV, wrapBits_eq, ↓reduceIte, Nat.reduceEqDiff, Nat.reduceAdd, Nat.reduceSub, Nat.reduceLeDiff, Nat.reduceLT, Nat.reduceBEq, reduceCtorEq, Int.reduceEq]
              refine AW.ift (by rfl) ?_
              refine AW.rseq ?_
              try simp only [↓wk, ↓wl, nc, evV, wrapBits_eq, ↓reduceIte, Nat.reduceEqDiff, Nat.reduceAdd, Nat.reduceSub, Nat.reduceLeDiff, Nat.reduceLT, Nat.reduceBEq, reduceCtorEq, Int.reduceEq]
              refine AW.ret ?_
              refine seqQ.ret ?_
              cases H
              exact hQ _ _ _ _ (.inr rfl) (by simp only [resVs, omap, resV, ↓wk, ↓wl, nc, evV, wrapBits_eq, ↓reduceIte, Nat.reduceEqDiff, Nat.reduceAdd, Nat.reduceSub, Nat.reduceLeDiff, Nat.reduceLT, Nat.reduceBEq, reduceCtorEq, Int.reduceEq]; rfl) (hand_plain (by rfl)) (by rfl)
            · try simp only [↓wk, ↓wl, nc, evV, wrapBits_eq, ↓reduceIte, Nat.reduceEqDiff, Nat.reduceAdd, Nat.reduceSub, Nat.reduceLeDiff, Nat.reduceLT, Nat.reduceBEq, reduceCtorEq, Int.reduceEq]
              refine evTs_ifg H (by rfl) ?_ ?_ <;> clear H <;> intro H
              · try simp only [↓wk, ↓wl, nc, evV, wrapBits_eq, ↓reduceIte, Nat.reduceEqDiff, Nat.reduceAdd, Nat.reduceSub, Nat.reduceLeDiff, Nat.reduceLT, Nat.reduceBEq, reduceCtorEq, Int.reduceEq]
                refine AW.ift (by rfl) ?_
                refine AW.rseq ?_
                try simp only [↓wk, ↓wl, nc, evV, wrapBits_eq, ↓reduceIte, Nat.reduceEqDiff, Nat.reduceAdd, Nat.reduceSub, Nat.reduceLeDiff, Nat.reduceLT, Nat.reduceBEq, reduceCtorEq, Int.reduceEq]
                refine AW.ret ?_
                refine seqQ.ret ?_
                cases H
                exact hQ _ _ _ _ (.inr rfl) (by simp only [resVs, omap, resV, ↓wk, ↓wl, nc, evV, wrapBits_eq, ↓reduceIte, Nat.reduceEqDiff, Nat.reduceAdd, Nat.reduceSub, Nat.reduceLeDiff, Nat.reduceLT, Nat.reduceBEq, reduceCtorEq, Int.reduceEq]; rfl) (hand_plain (by rfl)) (by rfl)
              · try simp only [↓wk, ↓wl, nc, evV, wrapBits_eq, ↓reduceIte, Nat.reduceEqDiff, Nat.reduceAdd, Nat.reduceSub, Nat.reduceLeDiff, Nat.reduceLT, Nat.reduceBEq, reduceCtorEq, Int.reduceEq]
                refine evTs_pure hFn H (fun _ h => f40_ok h) (by rfl) (by rfl) (by rfl) (by rfl) (fun _ => rfl) ?_ <;> clear H <;> intro r_2006 H
                try simp only [eL, ↓wk, ↓wl, nc, evV, wrapBits_eq, ↓reduceIte, Nat.reduceEqDiff, Nat.reduceAdd, Nat.reduceSub, Nat.reduceLeDiff, Nat.reduceLT, Nat.reduceBEq, reduceCtorEq, Int.reduceEq]
                refine AW.ifc H (by rfl) ?_ ?_ <;> clear H <;> intro H
                · refine AW.rseq ?_
                  try simp only [↓wk, ↓wl, nc, evV, wrapBits_eq, ↓reduceIte, Nat.reduceEqDiff, Nat.reduceAdd, Nat.reduceSub, Nat.reduceLeDiff, Nat.reduceLT, Nat.reduceBEq, reduceCtorEq, Int.reduceEq]
                  refine AW.ret ?_
                  refine seqQ.ret ?_
                  cases H
                  exact hQ _ _ _ _ (.inr rfl) (by simp only [resVs, omap, resV, ↓wk, ↓wl, nc, evV, wrapBits_eq, ↓reduceIte, Nat.reduceEqDiff, Nat.reduceAdd, Nat.reduceSub, Nat.reduceLeDiff, Nat.reduceLT, Nat.reduceBEq, reduceCtorEq, Int.reduceEq]; rfl) (hand_plain (by rfl)) (by rfl)
                · refine AW.skip ?_
                  refine seqQ.norm ?_
                  refine AW.rseq ?_
                  try simp only [↓wk, ↓wl, nc, evV, wrapBits_eq, ↓reduceIte, Nat.reduceEqDiff, Nat.reduceAdd, Nat.reduceSub, Nat.reduceLeDiff, Nat.reduceLT, Nat.reduceBEq, reduceCtorEq, Int.reduceEq]
                  refine AW.sseq ?_
                  refine AW.rseq ?_
                  try simp only [↓wk, ↓wl, nc, evV, wrapBits_eq, ↓reduceIte, Nat.reduceEqDiff, Nat.reduceAdd, Nat.reduceSub, Nat.reduceLeDiff, Nat.reduceLT, Nat.reduceBEq, reduceCtorEq, Int.reduceEq]
                  refine evTs_pure hFn H (fun _ h => f28_ok h) (by rfl) (by rfl) (by rfl) (by rfl) (fun _ => rfl) ?_ <;> clear H <;> intro r_2011 H
                  try simp only [eL, ↓wk, ↓wl, nc, evV, wrapBits_eq, ↓reduceIte, Nat.reduceEqDiff, Nat.reduceAdd, Nat.reduceSub, Nat.reduceLeDiff, Nat.reduceLT, Nat.reduceBEq, reduceCtorEq, Int.reduceEq]
                  refine AW.rseq ?_
                  try simp only [↓wk, ↓wl, nc, evV, wrapBits_eq, ↓reduceIte, Nat.reduceEqDiff, Nat.reduceAdd, Nat.reduceSub, Nat.reduceLeDiff, Nat.reduceLT, Nat.reduceBEq, reduceCtorEq, Int.reduceEq]
                  refine AW.ifc H (by rfl) ?_ ?_ <;> clear H <;> intro H
                  · refine AW.rseq ?_
                    try simp only [↓wk, ↓wl, nc, evV, wrapBits_eq, ↓reduceIte, Nat.reduceEqDiff, Nat.reduceAdd, Nat.reduceSub, Nat.reduceLeDiff, Nat.reduceLT, Nat.reduceBEq, reduceCtorEq, Int.reduceEq]
                    refine AW.ret ?_
                    refine seqQ.ret ?_
                    cases H
                    exact hQ _ _ _ _ (.inr rfl) (by simp only [resVs, omap, resV, ↓wk, ↓wl, nc, evV, wrapBits_eq, ↓reduceIte, Nat.reduceEqDiff, Nat.reduceAdd, Nat.reduceSub, Nat.reduceLeDiff, Nat.reduceLT, Nat.reduceBEq, reduceCtorEq, Int.reduceEq]; rfl) (hand_plain (by rfl)) (by rfl)
                  · refine AW.skip ?_
                    refine seqQ.norm ?_
                    refine AW.rseq ?_
                    try simp only [↓wk, ↓wl, nc, evV, wrapBits_eq, ↓reduceIte, Nat.reduceEqDiff, Nat.reduceAdd, Nat.reduceSub, Nat.reduceLeDiff, Nat.reduceLT, Nat.reduceBEq, reduceCtorEq, Int.reduceEq]
                    refine AW.ret ?_
                    cases H
                    exact hQ _ _ _ _ (.inr rfl) (by simp only [resVs, omap, resV, ↓wk, ↓wl, nc, evV, wrapBits_eq, ↓reduceIte, Nat.reduceEqDiff, Nat.reduceAdd, Nat.reduceSub, Nat.reduceLeDiff, Nat.reduceLT, Nat.reduceBEq, reduceCtorEq, Int.reduceEq]; rfl) (hand_plain (by rfl)) (by rfl)
        · refine AW.rseq ?_
          try simp only [↓wk, ↓wl, nc, evV, wrapBits_eq, ↓reduceIte, Nat.reduceEqDiff, Nat.reduceAdd, Nat.reduceSub, Nat.reduceLeDiff, Nat.reduceLT, Nat.reduceBEq, reduceCtorEq, Int.reduceEq]
          refine AW.bend ?_
          refine AW.rounds 40 ?_
          refine Rounds.go ?_
          refine AW.rseq ?_
          try simp only [↓wk, ↓wl, nc, evV, wrapBits_eq, ↓reduceIte, Nat.reduceEqDiff, Nat.reduceAdd, Nat.reduceSub, Nat.reduceLeDiff, Nat.reduceLT, Nat.reduceBEq, reduceCtorEq, Int.reduceEq]
          refine AW.sseq ?_
          refine AW.ift (by rfl) ?_
          refine AW.skip ?_
          refine seqQ.norm ?_
          refine AW.bseq ?_
          refine AW.rseq ?_
          try simp only [↓wk, ↓wl, nc, evV, wrapBits_eq, ↓reduceIte, Nat.reduceEqDiff, Nat.reduceAdd, Nat.reduceSub, Nat.reduceLeDiff, Nat.reduceLT, Nat.reduceBEq, reduceCtorEq, Int.reduceEq]
          refine evTs_any (v := .ptr 3 0) rfl (by rfl) ?_
          try simp only [↓wk, ↓wl, nc, evV, wrapBits_eq, ↓reduceIte, Nat.reduceEqDiff, Nat.reduceAdd, Nat.reduceSub, Nat.reduceLeDiff, Nat.reduceLT, Nat.reduceBEq, reduceCtorEq, Int.reduceEq]
          refine AW.rseq ?_
          try simp only [↓wk, ↓wl, nc, evV, wrapBits_eq, ↓reduceIte, Nat.reduceEqDiff, Nat.reduceAdd, Nat.reduceSub, Nat.reduceLeDiff, Nat.reduceLT, Nat.reduceBEq, reduceCtorEq, Int.reduceEq]
          refine evTs_pure hFn H (fun _ h => f58_ok h) (by rfl) (by rfl) (by rfl) (by rfl) (fun _ => rfl) ?_ <;> clear H <;> intro r_2016 H
          try simp only [eL, ↓wk, ↓wl, nc, evV, wrapBits_eq, ↓reduceIte, Nat.reduceEqDiff, Nat.reduceAdd, Nat.reduceSub, Nat.reduceLeDiff, Nat.reduceLT, Nat.reduceBEq, reduceCtorEq, Int.reduceEq]
          refine AW.rseq ?_
          try simp only [↓wk, ↓wl, nc, evV, wrapBits_eq, ↓reduceIte, Nat.reduceEqDiff, Nat.reduceAdd, Nat.reduceSub, Nat.reduceLeDiff, Nat.reduceLT, Nat.reduceBEq, reduceCtorEq, Int.reduceEq]
          refine AW.ifc H (by rfl) ?_ ?_ <;> clear H <;> intro H
          · refine AW.rseq ?_
            try simp only [↓wk, ↓wl, nc, evV, wrapBits_eq, ↓reduceIte, Nat.reduceEqDiff, Nat.reduceAdd, Nat.reduceSub, Nat.reduceLeDiff, Nat.reduceLT, Nat.reduceBEq, reduceCtorEq, Int.reduceEq]
            refine AW.ret ?_
            refine blkQ.ret ?_
            refine roundQ.ret ?_
            refine blk0.ret ?_
            refine seqQ.ret ?_
            cases H
            exact hQ _ _ _ _ (.inr rfl) (by simp only [resVs, omap, resV, ↓wk, ↓wl, nc, evV, wrapBits_eq, ↓reduceIte, Nat.reduceEqDiff, Nat.reduceAdd, Nat.reduceSub, Nat.reduceLeDiff, Nat.reduceLT, Nat.reduceBEq, reduceCtorEq, Int.reduceEq]; rfl) (hand_plain (by rfl)) (by rfl)
          · refine AW.skip ?_
            refine blkQ.norm ?_
            refine AW.rend ?_
            try simp only [↓wk, ↓wl, nc, evV, wrapBits_eq, ↓reduceIte, Nat.reduceEqDiff, Nat.reduceAdd, Nat.reduceSub, Nat.reduceLeDiff, Nat.reduceLT, Nat.reduceBEq, reduceCtorEq, Int.reduceEq]
            refine roundQ.next (st2 := ⟨put (put (put (put (put (put (put (put (fun _ => .junk) 41 (.int .i64 1)) 40 (.agg [.ptr 3 0, .ptr 2 1, .ptr 2 2, .ptr 2 3, .ptr 2 4, .ptr 4 0])) 10 (.int .i64 r_2016.2.1)) 9 (.ptr 4 0)) 8 (.ptr 3 0)) 7 (.ptr 2 0)) 4 (.ptr 1 0)) 2 (.ptr 0 0), [.cel [.int .u64 0, .int .i64 0, .int .i64 0, .int .i64 0, .int .i64 0, .bool false, .str ([])], .cel [.int .i64 r_1797.1.fKind, .str r_1797.1.fData], .cel [.int .u64 0, .int .i64 0, .int .i64 0, .int .i64 0, .int .i64 0, .bool false, .str ([])], .cel [.int .i64 r_2016.1], .cel [.int .i64 0]]⟩) (Le.none [0, 1, 2, 3, 4] [2, 4, 7, 8, 9, 10, 40, 41] (by decide) (by simp only [List.length_set, Option.map_some, restrict_eq, renS_nil, renS_cons, renB_els, renB_cel, renB_dead, deep_eq, map_ren_enc, ren_agg', ren_tup', ren_fn', ren_int', ren_bool', ren_str', ren_sl', ren_pro', ren_nilp', ren_nilfn', ren_junk', ren_ptr', ren_row', ren_arow', ren_eptr', vm, List.idxOf?_cons, List.idxOf?_nil, beq_self_eq_true, Option.map_none, List.getD_cons_zero, List.getD_cons_succ, ↓wk, ↓wl, nc, evV, wrapBits_eq, ↓reduceIte, Nat.reduceEqDiff, Nat.reduceAdd, Nat.reduceSub, Nat.reduceLeDiff, Nat.reduceLT, Nat.reduceBEq, reduceCtorEq, Int.reduceEq] <;> rfl)) ?_
            refine Rounds.go ?_
            refine AW.rseq ?_
            try simp only [↓wk, ↓wl, nc, evV, wrapBits_eq, ↓reduceIte, Nat.reduceEqDiff, Nat.reduceAdd, Nat.reduceSub, Nat.reduceLeDiff, Nat.reduceLT, Nat.reduceBEq, reduceCtorEq, Int.reduceEq]
            refine AW.sseq ?_
            refine AW.ift (by rfl) ?_
            refine AW.skip ?_
            refine seqQ.norm ?_
            refine AW.bseq ?_
            refine AW.rseq ?_
            try simp only [↓wk, ↓wl, nc, evV, wrapBits_eq, ↓reduceIte, Nat.reduceEqDiff, Nat.reduceAdd, Nat.reduceSub, Nat.reduceLeDiff, Nat.reduceLT, Nat.reduceBEq, reduceCtorEq, Int.reduceEq]
            refine evTs_any (v := .ptr 2 1) rfl (by rfl) ?_
            try simp only [↓wk, ↓wl, nc, evV, wrapBits_eq, ↓reduceIte, Nat.reduceEqDiff, Nat.reduceAdd, Nat.reduceSub, Nat.reduceLeDiff, Nat.reduceLT, Nat.reduceBEq, reduceCtorEq, Int.reduceEq]
            refine AW.rseq ?_
            try simp only [↓wk, ↓wl, nc, evV, wrapBits_eq, ↓reduceIte, Nat.reduceEqDiff, Nat.reduceAdd, Nat.reduceSub, Nat.reduceLeDiff, Nat.reduceLT, Nat.reduceBEq, reduceCtorEq, Int.reduceEq]
            refine evTs_pure hFn H (fun _ h => f58_ok h) (by rfl) (by rfl) (by rfl) (by rfl) (fun _ => rfl) ?_ <;> clear H <;> intro r_2017 H
            try simp only [eL, ↓wk, ↓wl, nc, evV, wrapBits_eq, ↓reduceIte, Nat.reduceEqDiff, Nat.reduceAdd, Nat.reduceSub, Nat.reduceLeDiff, Nat.reduceLT, Nat.reduceBEq, reduceCtorEq, Int.reduceEq]
            refine AW.rseq ?_
            try simp only [↓wk, ↓wl, nc, evV, wrapBits_eq, ↓reduceIte, Nat.reduceEqDiff, Nat.reduceAdd, Nat.reduceSub, Nat.reduceLeDiff, Nat.reduceLT, Nat.reduceBEq, reduceCtorEq, Int.reduceEq]
            refine AW.ifc H (by rfl) ?_ ?_ <;> clear H <;> intro H
            · refine AW.rseq ?_
              try simp only [↓wk, ↓wl, nc, evV, wrapBits_eq, ↓reduceIte, Nat.reduceEqDiff, Nat.reduceAdd, Nat.reduceSub, Nat.reduceLeDiff, Nat.reduceLT, Nat.reduceBEq, reduceCtorEq, Int.reduceEq]
              refine AW.ret ?_
              refine blkQ.ret ?_
              refine roundQ.ret ?_
              refine blk0.ret ?_
              refine seqQ.ret ?_
              cases H
              exact hQ _ _ _ _ (.inr rfl) (by simp only [resVs, omap, resV, ↓wk, ↓wl, nc, evV, wrapBits_eq, ↓reduceIte, Nat.reduceEqDiff, Nat.reduceAdd, Nat.reduceSub, Nat.reduceLeDiff, Nat.reduceLT, Nat.reduceBEq, reduceCtorEq, Int.reduceEq]; rfl) (hand_plain (by rfl)) (by rfl)
            · refine AW.skip ?_
              refine blkQ.norm ?_
              refine AW.rend ?_
              try simp only [↓wk, ↓wl, nc, evV, wrapBits_eq, ↓reduceIte, Nat.reduceEqDiff, Nat.reduceAdd, Nat.reduceSub, Nat.reduceLeDiff, Nat.reduceLT, Nat.reduceBEq, reduceCtorEq, Int.reduceEq]
              refine roundQ.next (st2 := ⟨put (put (put (put (put (put (put (put (fun _ => .junk) 41 (.int .i64 2)) 40 (.agg [.ptr 3 0, .ptr 2 1, .ptr 2 2, .ptr 2 3, .ptr 2 4, .ptr 4 0])) 10 (.int .i64 r_2017.2.1)) 9 (.ptr 4 0)) 8 (.ptr 3 0)) 7 (.ptr 2 0)) 4 (.ptr 1 0)) 2 (.ptr 0 0), [.cel [.int .u64 0, .int .i64 0, .int .i64 0, .int .i64 0, .int .i64 0, .bool false, .str ([])], .cel [.int .i64 r_1797.1.fKind, .str r_1797.1.fData], .cel [.int .u64 0, .int .i64 r_2017.1, .int .i64 0, .int .i64 0, .int .i64 0, .bool false, .str ([])], .cel [.int .i64 r_2016.1], .cel [.int .i64 0]]⟩) (Le.none [0, 1, 2, 3, 4] [2, 4, 7, 8, 9, 10, 40, 41] (by decide) (by simp only [List.length_set, Option.map_some, restrict_eq, renS_nil, renS_cons, renB_els, renB_cel, renB_dead, deep_eq, map_ren_enc, ren_agg', ren_tup', ren_fn', ren_int', ren_bool', ren_str', ren_sl', ren_pro', ren_nilp', ren_nilfn', ren_junk', ren_ptr', ren_row', ren_arow', ren_eptr', vm, List.idxOf?_cons, List.idxOf?_nil, beq_self_eq_true, Option.map_none, List.getD_cons_zero, List.getD_cons_succ, ↓wk, ↓wl, nc, evV, wrapBits_eq, ↓reduceIte, Nat.reduceEqDiff, Nat.reduceAdd, Nat.reduceSub, Nat.reduceLeDiff, Nat.reduceLT, Nat.reduceBEq, reduceCtorEq, Int.reduceEq] <;> rfl)) ?_
              refine Rounds.go ?_
              refine AW.rseq ?_
              try simp only [↓wk, ↓wl, nc, evV, wrapBits_eq, ↓reduceIte, Nat.reduceEqDiff, Nat.reduceAdd, Nat.reduceSub, Nat.reduceLeDiff, Nat.reduceLT, Nat.reduceBEq, reduceCtorEq, Int.reduceEq]
              refine AW.sseq ?_
              refine AW.ift (by rfl) ?_
              refine AW.skip ?_
              refine seqQ.norm ?_
              refine AW.bseq ?_
              refine AW.rseq ?_
              try simp only [↓wk, ↓wl, nc, evV, wrapBits_eq, ↓reduceIte, Nat.reduceEqDiff, Nat.reduceAdd, Nat.reduceSub, Nat.reduceLeDiff, Nat.reduceLT, Nat.reduceBEq, reduceCtorEq, Int.reduceEq]
              refine evTs_any (v := .ptr 2 2) rfl (by rfl) ?_
              try simp only [↓wk, ↓wl, nc, evV, wrapBits_eq, ↓reduceIte, Nat.reduceEqDiff, Nat.reduceAdd, Nat.reduceSub, Nat.reduceLeDiff, Nat.reduceLT, Nat.reduceBEq, reduceCtorEq, Int.reduceEq]
              refine AW.rseq ?_
              try simp only [↓wk, ↓wl, nc, evV, wrapBits_eq, ↓reduceIte, Nat.reduceEqDiff, Nat.reduceAdd, Nat.reduceSub, Nat.reduceLeDiff, Nat.reduceLT, Nat.reduceBEq, reduceCtorEq, Int.reduceEq]
              refine evTs_pure hFn H (fun _ h => f58_ok h) (by rfl) (by rfl) (by rfl) (by rfl) (fun _ => rfl) ?_ <;> clear H <;> intro r_2018 H
              try simp only [eL, ↓wk, ↓wl, nc, evV, wrapBits_eq, ↓reduceIte, Nat.reduceEqDiff, Nat.reduceAdd, Nat.reduceSub, Nat.reduceLeDiff, Nat.reduceLT, Nat.reduceBEq, reduceCtorEq, Int.reduceEq]
              refine AW.rseq ?_
              try simp only [↓wk, ↓wl, nc, evV, wrapBits_eq, ↓reduceIte, Nat.reduceEqDiff, Nat.reduceAdd, Nat.reduceSub, Nat.reduceLeDiff, Nat.reduceLT, Nat.reduceBEq, reduceCtorEq, Int.reduceEq]
              refine AW.ifc H (by rfl) ?_ ?_ <;> clear H <;> intro H
              · refine AW.rseq ?_
                try simp only [↓wk, ↓wl, nc, evV, wrapBits_eq, ↓reduceIte, Nat.reduceEqDiff, Nat.reduceAdd, Nat.reduceSub, Nat.reduceLeDiff, Nat.reduceLT, Nat.reduceBEq, reduceCtorEq, Int.reduceEq]
                refine AW.ret ?_
                refine blkQ.ret ?_
                refine roundQ.ret ?_
                refine blk0.ret ?_
                refine seqQ.ret ?_
                cases H
                exact hQ _ _ _ _ (.inr rfl) (by simp only [resVs, omap, resV, ↓wk, ↓wl, nc, evV, wrapBits_eq, ↓reduceIte, Nat.reduceEqDiff, Nat.reduceAdd, Nat.reduceSub, Nat.reduceLeDiff, Nat.reduceLT, Nat.reduceBEq, reduceCtorEq, Int.reduceEq]; rfl) (hand_plain (by rfl)) (by rfl)
              · refine AW.skip ?_
                refine blkQ.norm ?_
                refine AW.rend ?_
                try simp only [↓wk, ↓wl, nc, evV, wrapBits_eq, ↓reduceIte, Nat.reduceEqDiff, Nat.reduceAdd, Nat.reduceSub, Nat.reduceLeDiff, Nat.reduceLT, Nat.reduceBEq, reduceCtorEq, Int.reduceEq]
                refine roundQ.next (st2 := ⟨put (put (put (put (put (put (put (put (fun _ => .junk) 41 (.int .i64 3)) 40 (.agg [.ptr 3 0, .ptr 2 1, .ptr 2 2, .ptr 2 3, .ptr 2 4, .ptr 4 0])) 10 (.int .i64 r_2018.2.1)) 9 (.ptr 4 0)) 8 (.ptr 3 0)) 7 (.ptr 2 0)) 4 (.ptr 1 0)) 2 (.ptr 0 0), [.cel [.int .u64 0, .int .i64 0, .int .i64 0, .int .i64 0, .int .i64 0, .bool false, .str ([])], .cel [.int .i64 r_1797.1.fKind, .str r_1797.1.fData], .cel [.int .u64 0, .int .i64 r_2017.1, .int .i64 r_2018.1, .int .i64 0, .int .i64 0, .bool false, .str ([])], .cel [.int .i64 r_2016.1], .cel [.int .i64 0]]⟩) (Le.none [0, 1, 2, 3, 4] [2, 4, 7, 8, 9, 10, 40, 41] (by decide) (by simp only [List.length_set, Option.map_some, restrict_eq, renS_nil, renS_cons, renB_els, renB_cel, renB_dead, deep_eq, map_ren_enc, ren_agg', ren_tup', ren_fn', ren_int', ren_bool', ren_str', ren_sl', ren_pro', ren_nilp', ren_nilfn', ren_junk', ren_ptr', ren_row', ren_arow', ren_eptr', vm, List.idxOf?_cons, List.idxOf?_nil, beq_self_eq_true, Option.map_none, List.getD_cons_zero, List.getD_cons_succ, ↓wk, ↓wl, nc, evV, wrapBits_eq, ↓reduceIte, Nat.reduceEqDiff, Nat.reduceAdd, Nat.reduceSub, Nat.reduceLeDiff, Nat.reduceLT, Nat.reduceBEq, reduceCtorEq, Int.reduceEq] <;> rfl)) ?_
                refine Rounds.go ?_
                refine AW.rseq ?_
                try simp only [↓wk, ↓wl, nc, evV, wrapBits_eq, ↓reduceIte, Nat.reduceEqDiff, Nat.reduceAdd, Nat.reduceSub, Nat.reduceLeDiff, Nat.reduceLT, Nat.reduceBEq, reduceCtorEq, Int.reduceEq]
                refine AW.sseq ?_
                refine AW.ift (by rfl) ?_
                refine AW.skip ?_
                refine seqQ.norm ?_
                refine AW.bseq ?_
                refine AW.rseq ?_
                try simp only [↓wk, ↓wl, nc, evV, wrapBits_eq, ↓reduceIte, Nat.reduceEqDiff, Nat.reduceAdd, Nat.reduceSub, Nat.reduceLeDiff, Nat.reduceLT, Nat.reduceBEq, reduceCtorEq, Int.reduceEq]
                refine evTs_any (v := .ptr 2 3) rfl (by rfl) ?_
                try simp only [↓wk, ↓wl, nc, evV, wrapBits_eq, ↓reduceIte, Nat.reduceEqDiff, Nat.reduceAdd, Nat.reduceSub, Nat.reduceLeDiff, Nat.reduceLT, Nat.reduceBEq, reduceCtorEq, Int.reduceEq]
                refine AW.rseq ?_
                try simp only [↓wk, ↓wl, nc, evV, wrapBits_eq, ↓reduceIte, Nat.reduceEqDiff, Nat.reduceAdd, Nat.reduceSub, Nat.reduceLeDiff, Nat.reduceLT, Nat.reduceBEq, reduceCtorEq, Int.reduceEq]
                refine evTs_pure hFn H (fun _ h => f58_ok h) (by rfl) (by rfl) (by rfl) (by rfl) (fun _ => rfl) ?_ <;> clear H <;> intro r_2019 H
                try simp only [eL, ↓wk, ↓wl, nc, evV, wrapBits_eq, ↓reduceIte, Nat.reduceEqDiff, Nat.reduceAdd, Nat.reduceSub, Nat.reduceLeDiff, Nat.reduceLT, Nat.reduceBEq, reduceCtorEq, Int.reduceEq]
                refine AW.rseq ?_
                try simp only [↓wk, ↓wl, nc, evV, wrapBits_eq, ↓reduceIte, Nat.reduceEqDiff, Nat.reduceAdd, Nat.reduceSub, Nat.reduceLeDiff, Nat.reduceLT, Nat.reduceBEq, reduceCtorEq, Int.reduceEq]
                refine AW.ifc H (by rfl) ?_ ?_ <;> clear H <;> intro H
                · refine AW.rseq ?_
                  try simp only [↓wk, ↓wl, nc, evV, wrapBits_eq, ↓reduceIte, Nat.reduceEqDiff, Nat.reduceAdd, Nat.reduceSub, Nat.reduceLeDiff, Nat.reduceLT, Nat.reduceBEq, reduceCtorEq, Int.reduceEq]
                  refine AW.ret ?_
                  refine blkQ.ret ?_
                  refine roundQ.ret ?_
                  refine blk0.ret ?_
                  refine seqQ.ret ?_
                  cases H
                  exact hQ _ _ _ _ (.inr rfl) (by simp only [resVs, omap, resV, ↓wk, ↓wl, nc, evV, wrapBits_eq, ↓reduceIte, Nat.reduceEqDiff, Nat.reduceAdd, Nat.reduceSub, Nat.reduceLeDiff, Nat.reduceLT, Nat.reduceBEq, reduceCtorEq, Int.reduceEq]; rfl) (hand_plain (by rfl)) (by rfl)
                · refine AW.skip ?_
                  refine blkQ.norm ?_
                  refine AW.rend ?_
                  try simp only [↓wk, ↓wl, nc, evV, wrapBits_eq, ↓reduceIte, Nat.reduceEqDiff, Nat.reduceAdd, Nat.reduceSub, Nat.reduceLeDiff, Nat.reduceLT, Nat.reduceBEq, reduceCtorEq, Int.reduceEq]
                  refine roundQ.next (st2 := ⟨put (put (put (put (put (put (put (put (fun _ => .junk) 41 (.int .i64 4)) 40 (.agg [.ptr 3 0, .ptr 2 1, .ptr 2 2, .ptr 2 3, .ptr 2 4, .ptr 4 0])) 10 (.int .i64 r_2019.2.1)) 9 (.ptr 4 0)) 8 (.ptr 3 0)) 7 (.ptr 2 0)) 4 (.ptr 1 0)) 2 (.ptr 0 0), [.cel [.int .u64 0, .int .i64 0, .int .i64 0, .int .i64 0, .int .i64 0, .bool false, .str ([])], .cel [.int .i64 r_1797.1.fKind, .str r_1797.1.fData], .cel [.int .u64 0, .int .i64 r_2017.1, .int .i64 r_2018.1, .int .i64 r_2019.1, .int .i64 0, .bool false, .str ([])], .cel [.int .i64 r_2016.1], .cel [.int .i64 0]]⟩) (Le.none [0, 1, 2, 3, 4] [2, 4, 7, 8, 9, 10, 40, 41] (by decide) (by simp only [List.length_set, Option.map_some, restrict_eq, renS_nil, renS_cons, renB_els, renB_cel, renB_dead, deep_eq, map_ren_enc, ren_agg', ren_tup', ren_fn', ren_int', ren_bool', ren_str', ren_sl', ren_pro', ren_nilp', ren_nilfn', ren_junk', ren_ptr', ren_row', ren_arow', ren_eptr', vm, List.idxOf?_cons, List.idxOf?_nil, beq_self_eq_true, Option.map_none, List.getD_cons_zero, List.getD_cons_succ, ↓wk, ↓wl, nc, evV, wrapBits_eq, ↓reduceIte, Nat.reduceEqDiff, Nat.reduceAdd, Nat.reduceSub, Nat.reduceLeDiff, Nat.reduceLT, Nat.reduceBEq, reduceCtorEq, Int.reduceEq] <;> rfl)) ?_
                  refine Rounds.go ?_
                  refine AW.rseq ?_
                  try simp only [↓wk, ↓wl, nc, evV, wrapBits_eq, ↓reduceIte, Nat.reduceEqDiff, Nat.reduceAdd, Nat.reduceSub, Nat.reduceLeDiff, Nat.reduceLT, Nat.reduceBEq, reduceCtorEq, Int.reduceEq]
                  refine AW.sseq ?_
                  refine AW.ift (by rfl) ?_
                  refine AW.skip ?_
                  refine seqQ.norm ?_
                  refine AW.bseq ?_
                  refine AW.rseq ?_
                  try simp only [↓wk, ↓wl, nc, evV, wrapBits_eq, ↓reduceIte, Nat.reduceEqDiff, Nat.reduceAdd, Nat.reduceSub, Nat.reduceLeDiff, Nat.reduceLT, Nat.reduceBEq, reduceCtorEq, Int.reduceEq]
                  refine evTs_any (v := .ptr 2 4) rfl (by rfl) ?_
                  try simp only [↓wk, ↓wl, nc, evV, wrapBits_eq, ↓reduceIte, Nat.reduceEqDiff, Nat.reduceAdd, Nat.reduceSub, Nat.reduceLeDiff, Nat.reduceLT, Nat.reduceBEq, reduceCtorEq, Int.reduceEq]
                  refine AW.rseq ?_
                  try simp only [↓wk, ↓wl, nc, evV, wrapBits_eq, ↓reduceIte, Nat.reduceEqDiff, Nat.reduceAdd, Nat.reduceSub, Nat.reduceLeDiff, Nat.reduceLT, Nat.reduceBEq, reduceCtorEq, Int.reduceEq]
                  refine evTs_pure hFn H (fun _ h => f58_ok h) (by rfl) (by rfl) (by rfl) (by rfl) (fun _ => rfl) ?_ <;> clear H <;> intro r_2020 H
                  try simp only [eL, ↓wk, ↓wl, nc, evV, wrapBits_eq, ↓reduceIte, Nat.reduceEqDiff, Nat.reduceAdd, Nat.reduceSub, Nat.reduceLeDiff, Nat.reduceLT, Nat.reduceBEq, reduceCtorEq, Int.reduceEq]
                  refine AW.rseq ?_
                  try simp only [↓wk, ↓wl, nc, evV, wrapBits_eq, ↓reduceIte, Nat.reduceEqDiff, Nat.reduceAdd, Nat.reduceSub, Nat.reduceLeDiff, Nat.reduceLT, Nat.reduceBEq, reduceCtorEq, Int.reduceEq]
                  refine AW.ifc H (by rfl) ?_ ?_ <;> clear H <;> intro H
                  · refine AW.rseq ?_
                    try simp only [↓wk, ↓wl, nc, evV, wrapBits_eq, ↓reduceIte, Nat.reduceEqDiff, Nat.reduceAdd, Nat.reduceSub, Nat.reduceLeDiff, Nat.reduceLT, Nat.reduceBEq, reduceCtorEq, Int.reduceEq]
                    refine AW.ret ?_
                    refine blkQ.ret ?_
                    refine roundQ.ret ?_
                    refine blk0.ret ?_
                    refine seqQ.ret ?_
                    cases H
                    exact hQ _ _ _ _ (.inr rfl) (by simp only [resVs, omap, resV, ↓wk, ↓wl, nc, evV, wrapBits_eq, ↓reduceIte, Nat.reduceEqDiff, Nat.reduceAdd, Nat.reduceSub, Nat.reduceLeDiff, Nat.reduceLT, Nat.reduceBEq, reduceCtorEq, Int.reduceEq]; rfl) (hand_plain (by rfl)) (by rfl)
                  · refine AW.skip ?_
                    refine blkQ.norm ?_
                    refine AW.rend ?_
                    try simp only [↓wk, ↓wl, nc, evV, wrapBits_eq, ↓reduceIte, Nat.reduceEqDiff, Nat.reduceAdd, Nat.reduceSub, Nat.reduceLeDiff, Nat.reduceLT, Nat.reduceBEq, reduceCtorEq, Int.reduceEq]
                    refine roundQ.next (st2 := ⟨put (put (put (put (put (put (put (put (fun _ => .junk) 41 (.int .i64 5)) 40 (.agg [.ptr 3 0, .ptr 2 1, .ptr 2 2, .ptr 2 3, .ptr 2 4, .ptr 4 0])) 10 (.int .i64 r_2020.2.1)) 9 (.ptr 4 0)) 8 (.ptr 3 0)) 7 (.ptr 2 0)) 4 (.ptr 1 0)) 2 (.ptr 0 0), [.cel [.int .u64 0, .int .i64 0, .int .i64 0, .int .i64 0, .int .i64 0, .bool false, .str ([])], .cel [.int .i64 r_1797.1.fKind, .str r_1797.1.fData], .cel [.int .u64 0, .int .i64 r_2017.1, .int .i64 r_2018.1, .int .i64 r_2019.1, .int .i64 r_2020.1, .bool false, .str ([])], .cel [.int .i64 r_2016.1], .cel [.int .i64 0]]⟩) (Le.none [0, 1, 2, 3, 4] [2, 4, 7, 8, 9, 10, 40, 41] (by decide) (by simp only [List.length_set, Option.map_some, restrict_eq, renS_nil, renS_cons, renB_els, renB_cel, renB_dead, deep_eq, map_ren_enc, ren_agg', ren_tup', ren_fn', ren_int', ren_bool', ren_str', ren_sl', ren_pro', ren_nilp', ren_nilfn', ren_junk', ren_ptr', ren_row', ren_arow', ren_eptr', vm, List.idxOf?_cons, List.idxOf?_nil, beq_self_eq_true, Option.map_none, List.getD_cons_zero, List.getD_cons_succ, ↓wk, ↓wl, nc, evV, wrapBits_eq, ↓reduceIte, Nat.reduceEqDiff, Nat.reduceAdd, Nat.reduceSub, Nat.reduceLeDiff, Nat.reduceLT, Nat.reduceBEq, reduceCtorEq, Int.reduceEq] <;> rfl)) ?_
                    refine Rounds.go ?_
                    refine AW.rseq ?_
                    try simp only [↓wk, ↓wl, nc, evV, wrapBits_eq, ↓reduceIte, Nat.reduceEqDiff, Nat.reduceAdd, Nat.reduceSub, Nat.reduceLeDiff, Nat.reduceLT, Nat.reduceBEq, reduceCtorEq, Int.reduceEq]
                    refine AW.sseq ?_
                    refine AW.ift (by rfl) ?_
                    refine AW.skip ?_
                    refine seqQ.norm ?_
                    refine AW.bseq ?_
                    refine AW.rseq ?_
                    try simp only [↓wk, ↓wl, nc, evV, wrapBits_eq, ↓reduceIte, Nat.reduceEqDiff, Nat.reduceAdd, Nat.reduceSub, Nat.reduceLeDiff, Nat.reduceLT, Nat.reduceBEq, reduceCtorEq, Int.reduceEq]
                    refine evTs_any (v := .ptr 4 0) rfl (by rfl) ?_
                    try simp only [↓wk, ↓wl, nc, evV, wrapBits_eq, ↓reduceIte, Nat.reduceEqDiff, Nat.reduceAdd, Nat.reduceSub, Nat.reduceLeDiff, Nat.reduceLT, Nat.reduceBEq, reduceCtorEq, Int.reduceEq]
                    refine AW.rseq ?_
                    try simp only [↓wk, ↓wl, nc, evV, wrapBits_eq, ↓reduceIte, Nat.reduceEqDiff, Nat.reduceAdd, Nat.reduceSub, Nat.reduceLeDiff, Nat.reduceLT, Nat.reduceBEq, reduceCtorEq, Int.reduceEq]
                    refine evTs_pure hFn H (fun _ h => f58_ok h) (by rfl) (by rfl) (by rfl) (by rfl) (fun _ => rfl) ?_ <;> clear H <;> intro r_2021 H
                    try simp only [eL, ↓wk, ↓wl, nc, evV, wrapBits_eq, ↓reduceIte, Nat.reduceEqDiff, Nat.reduceAdd, Nat.reduceSub, Nat.reduceLeDiff, Nat.reduceLT, Nat.reduceBEq, reduceCtorEq, Int.reduceEq]
                    refine AW.rseq ?_
                    try simp only [↓wk, ↓wl, nc, evV, wrapBits_eq, ↓reduceIte, Nat.reduceEqDiff, Nat.reduceAdd, Nat.reduceSub, Nat.reduceLeDiff, Nat.reduceLT, Nat.reduceBEq, reduceCtorEq, Int.reduceEq]
                    refine AW.ifc H (by rfl) ?_ ?_ <;> clear H <;> intro H
                    · refine AW.rseq ?_
                      try simp only [↓wk, ↓wl, nc, evV, wrapBits_eq, ↓reduceIte, Nat.reduceEqDiff, Nat.reduceAdd, Nat.reduceSub, Nat.reduceLeDiff, Nat.reduceLT, Nat.reduceBEq, reduceCtorEq, Int.reduceEq]
                      refine AW.ret ?_
                      refine blkQ.ret ?_
                      refine roundQ.ret ?_
                      refine blk0.ret ?_
                      refine seqQ.ret ?_
                      cases H
                      exact hQ _ _ _ _ (.inr rfl) (by simp only [resVs, omap, resV, ↓wk, ↓wl, nc, evV, wrapBits_eq, ↓reduceIte, Nat.reduceEqDiff, Nat.reduceAdd, Nat.reduceSub, Nat.reduceLeDiff, Nat.reduceLT, Nat.reduceBEq, reduceCtorEq, Int.reduceEq]; rfl) (hand_plain (by rfl)) (by rfl)
                    · refine AW.skip ?_
                      refine blkQ.norm ?_
                      refine AW.rend ?_
                      try simp only [↓wk, ↓wl, nc, evV, wrapBits_eq, ↓reduceIte, Nat.reduceEqDiff, Nat.reduceAdd, Nat.reduceSub, Nat.reduceLeDiff, Nat.reduceLT, Nat.reduceBEq, reduceCtorEq, Int.reduceEq]
                      refine roundQ.next (st2 := ⟨put (put (put (put (put (put (put (put (fun _ => .junk) 41 (.int .i64 6)) 40 (.agg [.ptr 3 0, .ptr 2 1, .ptr 2 2, .ptr 2 3, .ptr 2 4, .ptr 4 0])) 10 (.int .i64 r_2021.2.1)) 9 (.ptr 4 0)) 8 (.ptr 3 0)) 7 (.ptr 2 0)) 4 (.ptr 1 0)) 2 (.ptr 0 0), [.cel [.int .u64 0, .int .i64 0, .int .i64 0, .int .i64 0, .int .i64 0, .bool false, .str ([])], .cel [.int .i64 r_1797.1.fKind, .str r_1797.1.fData], .cel [.int .u64 0, .int .i64 r_2017.1, .int .i64 r_2018.1, .int .i64 r_2019.1, .int .i64 r_2020.1, .bool false, .str ([])], .cel [.int .i64 r_2016.1], .cel [.int .i64 r_2021.1]]⟩) (Le.none [0, 1, 2, 3, 4] [2, 4, 7, 8, 9, 10, 40, 41] (by decide) (by simp only [List.length_set, Option.map_some, restrict_eq, renS_nil, renS_cons, renB_els, renB_cel, renB_dead, deep_eq, map_ren_enc, ren_agg', ren_tup', ren_fn', ren_int', ren_bool', ren_str', ren_sl', ren_pro', ren_nilp', ren_nilfn', ren_junk', ren_ptr', ren_row', ren_arow', ren_eptr', vm, List.idxOf?_cons, List.idxOf?_nil, beq_self_eq_true, Option.map_none, List.getD_cons_zero, List.getD_cons_succ, ↓wk, ↓wl, nc, evV, wrapBits_eq, ↓reduceIte, Nat.reduceEqDiff, Nat.reduceAdd, Nat.reduceSub, Nat.reduceLeDiff, Nat.reduceLT, Nat.reduceBEq, reduceCtorEq, Int.reduceEq] <;> rfl)) ?_
                      refine Rounds.go ?_
                      refine AW.rseq ?_
                      try simp only [↓wk, ↓wl, nc, evV, wrapBits_eq, ↓reduceIte, Nat.reduceEqDiff, Nat.reduceAdd, Nat.reduceSub, Nat.reduceLeDiff, Nat.reduceLT, Nat.reduceBEq, reduceCtorEq, Int.reduceEq]
                      refine AW.sseq ?_
                      refine AW.iff (by rfl) ?_
                      refine AW.exit ?_
                      refine seqQ.exit ?_
                      refine roundQ.exit ?_
                      refine blk0.here ?_
                      refine seqQ.norm ?_
                      exact hf34_J1 _ _ H ((Le.none [0, 1, 2, 3, 4] [2, 4, 7, 8, 9, 10] (by decide) (by simp only [f34_J1, List.length_set, Option.map_some, restrict_eq, renS_nil, renS_cons, renB_els, renB_cel, renB_dead, deep_eq, map_ren_enc, ren_agg', ren_tup', ren_fn', ren_int', ren_bool', ren_str', ren_sl', ren_pro', ren_nilp', ren_nilfn', ren_junk', ren_ptr', ren_row', ren_arow', ren_eptr', vm, List.idxOf?_cons, List.idxOf?_nil, beq_self_eq_true, Option.map_none, List.getD_cons_zero, List.getD_cons_succ, ↓wk, ↓wl, nc, evV, wrapBits_eq, ↓reduceIte, Nat.reduceEqDiff, Nat.reduceAdd, Nat.reduceSub, Nat.reduceLeDiff, Nat.reduceLT, Nat.reduceBEq, reduceCtorEq, Int.reduceEq])))
def c86_0 : C := .seq (.reg [iI 5 (.mv (.t 1)), iI 6 (.bin .geq (.t 5) (.c (.int .i64 0))), iI 7 (.mv (.t 6)), iG (some 8) 7 true (.mv (.t 1)), iG (some 9) 7 true (.mv (.t 0)), iG (some 10) 7 true (.len 1 (.t 9)), iG (some 11) 7 true (.bin .leq (.t 8) (.t 10)), iI 12 (.pick (.t 7) (.t 11) (.c (.bool false))), iI 4 (.mv (.t 12))]) .ret
def ir86 : C := .seq (.reg [iI 4 (.mv (.c (.bool false)))]) c86_0
theorem fd86 : fd? Try.prog 86 = some (13, [.slot 4], ir86) := by kernel_rfl
noncomputable def f86 (s_2026 : (List UInt8)) (at_2027 : Int) : Option (Bool) :=
  (if (decide (0 ≤ at_2027)) = true then (some (decide (at_2027 ≤ ((s_2026.length : Nat) : Int)))) else (some false))
theorem f86_ok {s_2026 : (List UInt8)} {at_2027 : Int} {r_ : Bool} (H : f86 s_2026 at_2027 = some r_) : Pure Try.prog 86 [.str s_2026, .int .i64 at_2027] (· = .bool r_) := by
  refine Pure.walk2 fd86 none (Nat.le_of_ble_eq_true rfl) (by rfl) fun Q hQ => ?_
  simp only [f86] at H
  refine AW.rseq ?_
  try simp only [↓wk, ↓wl, nc, evV, wrapBits_eq, ↓reduceIte, Nat.reduceEqDiff, Nat.reduceAdd, Nat.reduceSub, Nat.reduceLeDiff, Nat.reduceLT, Nat.reduceBEq, reduceCtorEq, Int.reduceEq]
  refine AW.rseq ?_
  try simp only [↓wk, ↓wl, nc, evV, wrapBits_eq, ↓reduceIte, Nat.reduceEqDiff, Nat.reduceAdd, Nat.reduceSub, Nat.reduceLeDiff, Nat.reduceLT, Nat.reduceBEq, reduceCtorEq, Int.reduceEq]
  refine evTs_ifg H (by rfl) ?_ ?_ <;> clear H <;> intro H
  · try simp only [↓wk, ↓wl, nc, evV, wrapBits_eq, ↓reduceIte, Nat.reduceEqDiff, Nat.reduceAdd, Nat.reduceSub, Nat.reduceLeDiff, Nat.reduceLT, Nat.reduceBEq, reduceCtorEq, Int.reduceEq]
    refine AW.ret ?_
    cases H
    exact hQ _ _ _ _ (.inr rfl) (by simp only [resVs, omap, resV, ↓wk, ↓wl, nc, evV, wrapBits_eq, ↓reduceIte, Nat.reduceEqDiff, Nat.reduceAdd, Nat.reduceSub, Nat.reduceLeDiff, Nat.reduceLT, Nat.reduceBEq, reduceCtorEq, Int.reduceEq]; rfl) (hand_plain (by rfl)) (by rfl)
  · try simp only [↓wk, ↓wl, nc, evV, wrapBits_eq, ↓reduceIte, Nat.reduceEqDiff, Nat.reduceAdd, Nat.reduceSub, Nat.reduceLeDiff, Nat.reduceLT, Nat.reduceBEq, reduceCtorEq, Int.reduceEq]
    refine AW.ret ?_
    cases H
    exact hQ _ _ _ _ (.inr rfl) (by simp only [resVs, omap, resV, ↓wk, ↓wl, nc, evV, wrapBits_eq, ↓reduceIte, Nat.reduceEqDiff, Nat.reduceAdd, Nat.reduceSub, Nat.reduceLeDiff, Nat.reduceLT, Nat.reduceBEq, reduceCtorEq, Int.reduceEq]; rfl) (hand_plain (by rfl)) (by rfl)
noncomputable def f88_L1 (s_2034 : (List UInt8)) : Lp (Int × Int × Int) (Int × Int) where
  body := fun (a_2040, b_2041, i_2042) => (if (decide (i_2042 < ((s_2034.length : Nat) : Int))) = true then (at? s_2034 i_2042).bind fun b_2046 => (some (.next (((IntKind.i64.wrap (a_2040 + (IntKind.i64.wrap (b_2046.toNat : Int)))).tmod 255), ((IntKind.i64.wrap (b_2041 + ((IntKind.i64.wrap (a_2040 + (IntKind.i64.wrap (b_2046.toNat : Int)))).tmod 255))).tmod 255), (IntKind.i64.wrap (i_2042 + 1))))) else (some (.brk (a_2040, b_2041))))
  cst := fun (a_2040, b_2041, i_2042) => ⟨put (put (put (put (fun _ => .junk) 5 (.int .i64 i_2042)) 4 (.int .i64 b_2041)) 3 (.int .i64 a_2040)) 0 (.str s_2034), []⟩
def c88_0 : C := .cond (.t 9) (.skip) (.exit 0)
def c88_1 : C := .reg [iI 19 (.mv (.t 4)), iI 20 (.mv (.t 3)), iI 21 (.bin .add (.t 19) (.t 20)), iI 22 (.bin .rem (.t 21) (.c (.int .i64 255))), iI 4 (.mv (.t 22))]
def c88_2 : C := .reg [iI 10 (.mv (.t 5)), iI 11 (.bin .add (.t 10) (.c (.int .i64 1))), iI 5 (.mv (.t 11))]
def c88_3 : C := .seq (.block 1 (.seq (.reg [iI 12 (.mv (.t 3)), iI 13 (.mv (.t 0)), iI 14 (.mv (.t 5)), iI 15 (.sidx (.t 13) (.t 14)), iI 16 (.cint .i64 (.t 15)), iI 17 (.bin .add (.t 12) (.t 16)), iI 18 (.bin .rem (.t 17) (.c (.int .i64 255))), iI 3 (.mv (.t 18))]) c88_1)) c88_2
def c88_4 : C := .block 0 (.loop (.seq (.seq (.reg [iI 6 (.mv (.t 5)), iI 7 (.mv (.t 0)), iI 8 (.len 1 (.t 7)), iI 9 (.bin .lss (.t 6) (.t 8))]) c88_0) c88_3))
def c88_5 : C := .seq (.reg [iI 23 (.mv (.t 4)), iI 24 (.bin .mul (.c (.int .i64 256)) (.t 23)), iI 25 (.mv (.t 3)), iI 26 (.bin .add (.t 24) (.t 25)), iI 2 (.mv (.t 26))]) .ret
def c88_6 : C := .seq (.seq (.reg [iI 5 (.mv (.c (.int .i64 0)))]) c88_4) c88_5
def c88_7 : C := .seq (.reg [iI 3 (.mv (.c (.int .i64 0))), iI 4 (.mv (.c (.int .i64 0)))]) c88_6
def ir88 : C := .seq (.reg [iI 2 (.mv (.c (.int .i64 0)))]) c88_7
theorem fd88 : fd? Try.prog 88 = some (27, [.slot 2], ir88) := by kernel_rfl
noncomputable def f88 (s_2034 : (List UInt8)) : Option (Int) :=
  (Lp.run (f88_L1 s_2034) (0, 0, 0)).bind fun (a_2044, b_2045) => (some (IntKind.i64.wrap ((IntKind.i64.wrap (256 * b_2045)) + a_2044)))
theorem f88_ok {s_2034 : (List UInt8)} {r_ : Int} (H : f88 s_2034 = some r_) : Pure Try.prog 88 [.str s_2034] (· = .int .i64 r_) := by
  refine Pure.walk2 fd88 none (Nat.le_of_ble_eq_true rfl) (by rfl) fun Q hQ => ?_
  simp only [f88] at H
  refine AW.rseq ?_
  try simp only [↓wk, ↓wl, nc, evV, wrapBits_eq, ↓reduceIte, Nat.reduceEqDiff, Nat.reduceAdd, Nat.reduceSub, Nat.reduceLeDiff, Nat.reduceLT, Nat.reduceBEq, reduceCtorEq, Int.reduceEq]
  refine AW.rseq ?_
  try simp only [↓wk, ↓wl, nc, evV, wrapBits_eq, ↓reduceIte, Nat.reduceEqDiff, Nat.reduceAdd, Nat.reduceSub, Nat.reduceLeDiff, Nat.reduceLT, Nat.reduceBEq, reduceCtorEq, Int.reduceEq]
  refine AW.sseq ?_
  refine AW.rseq ?_
  try simp only [↓wk, ↓wl, nc, evV, wrapBits_eq, ↓reduceIte, Nat.reduceEqDiff, Nat.reduceAdd, Nat.reduceSub, Nat.reduceLeDiff, Nat.reduceLT, Nat.reduceBEq, reduceCtorEq, Int.reduceEq]
  refine AW.bend ?_
  refine AW.iter H ((Le.none [] [0, 3, 4, 5] (by decide) (by simp only [f88_L1, List.length_set, Option.map_some, restrict_eq, renS_nil, renS_cons, renB_els, renB_cel, renB_dead, deep_eq, map_ren_enc, ren_agg', ren_tup', ren_fn', ren_int', ren_bool', ren_str', ren_sl', ren_pro', ren_nilp', ren_nilfn', ren_junk', ren_ptr', ren_row', ren_arow', ren_eptr', vm, List.idxOf?_cons, List.idxOf?_nil, beq_self_eq_true, Option.map_none, List.getD_cons_zero, List.getD_cons_succ, ↓wk, ↓wl, nc, evV, wrapBits_eq, ↓reduceIte, Nat.reduceEqDiff, Nat.reduceAdd, Nat.reduceSub, Nat.reduceLeDiff, Nat.reduceLT, Nat.reduceBEq, reduceCtorEq, Int.reduceEq]))) ?_ <;> clear H
  rintro ⟨a_2040, b_2041, i_2042⟩ x_ st0_ H hst_
  simp only [f88_L1] at H hst_
  subst hst_
  refine AW.sseq ?_
  refine AW.rseq ?_
  try simp only [↓wk, ↓wl, nc, evV, wrapBits_eq, ↓reduceIte, Nat.reduceEqDiff, Nat.reduceAdd, Nat.reduceSub, Nat.reduceLeDiff, Nat.reduceLT, Nat.reduceBEq, reduceCtorEq, Int.reduceEq]
  refine AW.ifc H (by rfl) ?_ ?_ <;> clear H <;> intro H
  · refine AW.skip ?_
    refine seqQ.norm ?_
    refine AW.bseq ?_
    refine AW.rseq ?_
    try simp only [↓wk, ↓wl, nc, evV, wrapBits_eq, ↓reduceIte, Nat.reduceEqDiff, Nat.reduceAdd, Nat.reduceSub, Nat.reduceLeDiff, Nat.reduceLT, Nat.reduceBEq, reduceCtorEq, Int.reduceEq]
    refine evTs_sat H (by rfl) (by rfl) ?_ <;> clear H <;> intro b_2046 H
    try simp only [↓wk, ↓wl, nc, evV, wrapBits_eq, ↓reduceIte, Nat.reduceEqDiff, Nat.reduceAdd, Nat.reduceSub, Nat.reduceLeDiff, Nat.reduceLT, Nat.reduceBEq, reduceCtorEq, Int.reduceEq]
    refine AW.rend ?_
    try simp only [↓wk, ↓wl, nc, evV, wrapBits_eq, ↓reduceIte, Nat.reduceEqDiff, Nat.reduceAdd, Nat.reduceSub, Nat.reduceLeDiff, Nat.reduceLT, Nat.reduceBEq, reduceCtorEq, Int.reduceEq]
    refine blkQ.norm ?_
    refine AW.rend ?_
    try simp only [↓wk, ↓wl, nc, evV, wrapBits_eq, ↓reduceIte, Nat.reduceEqDiff, Nat.reduceAdd, Nat.reduceSub, Nat.reduceLeDiff, Nat.reduceLT, Nat.reduceBEq, reduceCtorEq, Int.reduceEq]
    exact loopQ.next H ((Le.none [] [0, 3, 4, 5] (by decide) (by simp only [f88_L1, List.length_set, Option.map_some, restrict_eq, renS_nil, renS_cons, renB_els, renB_cel, renB_dead, deep_eq, map_ren_enc, ren_agg', ren_tup', ren_fn', ren_int', ren_bool', ren_str', ren_sl', ren_pro', ren_nilp', ren_nilfn', ren_junk', ren_ptr', ren_row', ren_arow', ren_eptr', vm, List.idxOf?_cons, List.idxOf?_nil, beq_self_eq_true, Option.map_none, List.getD_cons_zero, List.getD_cons_succ, ↓wk, ↓wl, nc, evV, wrapBits_eq, ↓reduceIte, Nat.reduceEqDiff, Nat.reduceAdd, Nat.reduceSub, Nat.reduceLeDiff, Nat.reduceLT, Nat.reduceBEq, reduceCtorEq, Int.reduceEq])))
  · refine AW.exit ?_
    refine seqQ.exit ?_
    refine loopQ.exit H ?_ <;> clear H <;> intro H
    try dsimp only at H
    refine blk0.here ?_
    refine seqQ.norm ?_
    refine AW.rseq ?_
    try simp only [↓wk, ↓wl, nc, evV, wrapBits_eq, ↓reduceIte, Nat.reduceEqDiff, Nat.reduceAdd, Nat.reduceSub, Nat.reduceLeDiff, Nat.reduceLT, Nat.reduceBEq, reduceCtorEq, Int.reduceEq]
    refine AW.ret ?_
    cases H
    exact hQ _ _ _ _ (.inr rfl) (by simp only [resVs, omap, resV, ↓wk, ↓wl, nc, evV, wrapBits_eq, ↓reduceIte, Nat.reduceEqDiff, Nat.reduceAdd, Nat.reduceSub, Nat.reduceLeDiff, Nat.reduceLT, Nat.reduceBEq, reduceCtorEq, Int.reduceEq]; rfl) (hand_plain (by rfl)) (by rfl)
def c98_0 : C := .seq (.reg [iI 3 (.mv (.t 0)), iI 4 (.cint .u8 (.t 3)), iI 5 (.mkslp 0 1 (.int .u8 0) [(0, (.t 4))]), iI 6 (.cstr (.t 5)), iI 2 (.mv (.t 6))]) .ret
def ir98 : C := .seq (.reg [iI 2 (.mv (.c (.str [])))]) c98_0
theorem fd98 : fd? Try.prog 98 = some (7, [.slot 2], ir98) := by kernel_rfl
end Go.Proofs.Ytlidbikdeboihaa
