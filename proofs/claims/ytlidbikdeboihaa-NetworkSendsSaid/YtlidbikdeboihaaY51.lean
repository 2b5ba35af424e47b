import Derived.Test.YtlidbikdeboihaaX2
import Derived.Test.YtlidbikdeboihaaProg
import Derived.KernelRfl
namespace Go.Proofs.Ytlidbikdeboihaa
open Go Go.Ab

set_option maxHeartbeats 1000000
set_option linter.unusedSimpArgs false
set_option linter.unusedVariables false
structure Ref56Stream where
  fUniverse : Int
  fSeq : Int
  fLast : Int
  fTimes : Int
  fSlots : (List UInt8)
def eRef56Stream (x : Ref56Stream) : AV := .agg [.int .i64 x.fUniverse, .int .i64 x.fSeq, .int .i64 x.fLast, .int .i64 x.fTimes, .str x.fSlots]
instance : IsFlat eRef56Stream := ⟨fun _ => rfl⟩
instance : IsEnc 5 eRef56Stream := ⟨fun _ => rfl, fun _ => rfl, fun _ => rfl⟩
structure Ref56Sender where
  fSource : Int
  fPriority : Int
  fSync : Int
  fPulse : Int
  fStreams : (List Ref56Stream)
def eRef56Sender (x : Ref56Sender) : AV := .agg [.int .u64 x.fSource, .int .i64 x.fPriority, .int .i64 x.fSync, .int .i64 x.fPulse, .sl 5 false (x.fStreams.map eRef56Stream)]
instance : IsEnc 5 eRef56Sender := ⟨fun _ => rfl, fun _ => rfl, fun _ => rfl⟩
structure Ref56Packet where
  fSource : Int
  fUniverse : Int
  fPriority : Int
  fSeq : Int
  fSync : Int
  fEnd : Bool
  fSlots : (List UInt8)
def eRef56Packet (x : Ref56Packet) : AV := .agg [.int .u64 x.fSource, .int .i64 x.fUniverse, .int .i64 x.fPriority, .int .i64 x.fSeq, .int .i64 x.fSync, .bool x.fEnd, .str x.fSlots]
instance : IsFlat eRef56Packet := ⟨fun _ => rfl⟩
instance : IsEnc 7 eRef56Packet := ⟨fun _ => rfl, fun _ => rfl, fun _ => rfl⟩
noncomputable def f16_L1 (s_1740 : NetworkSender) : Lp (Int × (List Ref56Stream)) ((List Ref56Stream)) where
  body := fun (v_1749, out_1750) => (if (decide (v_1749 < ((s_1740.fStreams.length : Nat) : Int))) = true then (at? s_1740.fStreams v_1749).bind fun x_1754 => (app? 48 out_1750 ([(Ref56Stream.mk x_1754.fUniverse x_1754.fSeq x_1754.fLast x_1754.fTimes x_1754.fSlots)])).bind fun out_1755 => (some (.next ((IntKind.i64.wrap (v_1749 + 1)), out_1755))) else (some (.brk out_1750)))
  cst := fun (v_1749, out_1750) => ⟨put (put (put (put (put (fun _ => .junk) 18 (.int .i64 v_1749)) 17 (.int .i64 ((s_1740.fStreams.length : Nat) : Int))) 16 (.sl 5 false (s_1740.fStreams.map eNetworkStream))) 3 (.ptr 1 0)) 2 (.ptr 0 0), [.cel [.int .u64 0, .int .i64 0, .int .i64 0, .int .i64 0, .sl 5 true []], .cel [.int .u64 s_1740.fSource, .int .i64 s_1740.fPriority, .int .i64 s_1740.fSync, .int .i64 s_1740.fPulse, .row 5 2 0 out_1750.length], .els 5 (out_1750.map eRef56Stream)]⟩
def c16_0 : C := .reg [iI 22 (.faddr 4 (.t 3)), iI 23 (.load 0 (.t 22)), iI 24 (.load 5 (.t 5)), iI 25 (.mkslp 5 1 (.agg [(.int .i64 0), (.int .i64 0), (.int .i64 0), (.int .i64 0), (.str [])]) [(0, (.t 24))]), iI 26 (.append 5 48 (.t 23) (.t 25)), iI 27 (.faddr 4 (.t 3)), iN (.store 0 (.t 27) (.t 26))]
def c16_1 : C := .reg [iI 28 (.bin .add (.t 18) (.c (.int .i64 1))), iI 18 (.mv (.t 28))]
def c16_2 : C := .seq (.block 1 (.seq (.reg [iI 20 (.iaddr 5 (.t 16) (.t 18)), iI 21 (.load 5 (.t 20)), iI 5 (.alloc [(1, (.int .i64 0)), (1, (.int .i64 0)), (1, (.int .i64 0)), (1, (.int .i64 0)), (1, (.str []))]), iN (.store 5 (.t 5) (.t 21))]) c16_0)) c16_1
def c16_3 : C := .seq (.cond (.t 19) (.skip) (.exit 0)) c16_2
def c16_4 : C := .block 0 (.loop (.seq (.reg [iI 19 (.bin .lss (.t 18) (.t 17))]) c16_3))
def c16_5 : C := .seq (.reg [iI 29 (.load 5 (.t 3)), iN (.store 5 (.t 2) (.t 29))]) .ret
def c16_6 : C := .seq (.seq (.reg [iI 15 (.faddr 4 (.t 1)), iI 16 (.load 0 (.t 15)), iI 17 (.len 0 (.t 16)), iI 18 (.mv (.c (.int .i64 0)))]) c16_4) c16_5
def c16_7 : C := .seq (.reg [iI 6 (.faddr 0 (.t 1)), iI 7 (.load 0 (.t 6)), iI 8 (.faddr 1 (.t 1)), iI 9 (.load 0 (.t 8)), iI 10 (.faddr 2 (.t 1)), iI 11 (.load 0 (.t 10)), iI 12 (.faddr 3 (.t 1)), iI 13 (.load 0 (.t 12)), iI 14 (.build [(1, (.int .u64 0)), (1, (.int .i64 0)), (1, (.int .i64 0)), (1, (.int .i64 0)), (1, (.sl 5 true []))] [(0, 0, (.t 7)), (1, 0, (.t 9)), (2, 0, (.t 11)), (3, 0, (.t 13))]), iI 3 (.alloc [(1, (.int .u64 0)), (1, (.int .i64 0)), (1, (.int .i64 0)), (1, (.int .i64 0)), (1, (.sl 5 true []))]), iN (.store 5 (.t 3) (.t 14))]) c16_6
def ir16 : C := .seq (.reg [iI 1 (.box (.t 0)), iI 2 (.alloc [(1, (.int .u64 0)), (1, (.int .i64 0)), (1, (.int .i64 0)), (1, (.int .i64 0)), (1, (.sl 5 true []))])]) c16_7
theorem fd16 : fd? Try.prog 16 = some (30, [.cell 2 5], ir16) := by kernel_rfl
noncomputable def f16 (s_1740 : NetworkSender) : Option (Ref56Sender) :=
  (Lp.run (f16_L1 s_1740) (0, [])).bind fun out_1753 => (some (Ref56Sender.mk s_1740.fSource s_1740.fPriority s_1740.fSync s_1740.fPulse out_1753))
theorem f16_ok {s_1740 : NetworkSender} {r_ : Ref56Sender} (H : f16 s_1740 = some r_) : Pure Try.prog 16 [.agg [.int .u64 s_1740.fSource, .int .i64 s_1740.fPriority, .int .i64 s_1740.fSync, .int .i64 s_1740.fPulse, .sl 5 false (s_1740.fStreams.map eNetworkStream)]] (· = .agg [.int .u64 r_.fSource, .int .i64 r_.fPriority, .int .i64 r_.fSync, .int .i64 r_.fPulse, .sl 5 false (r_.fStreams.map eRef56Stream)]) := by
  refine Pure.walk2 fd16 none (Nat.le_of_ble_eq_true rfl) (by rfl) fun Q hQ => ?_
  simp only [f16] at H
  refine AW.rseq ?_
  try simp only [↓wk, ↓wl, nc, evV, wrapBits_eq, ↓reduceIte, Nat.reduceEqDiff, Nat.reduceAdd, Nat.reduceSub, Nat.reduceLeDiff, Nat.reduceLT, Nat.reduceBEq, reduceCtorEq, Int.reduceEq]
  refine AW.rseq ?_
  try simp only [↓wk, ↓wl, nc, evV, wrapBits_eq, ↓reduceIte, Nat.reduceEqDiff, Nat.reduceAdd, Nat.reduceSub, Nat.reduceLeDiff, Nat.reduceLT, Nat.reduceBEq, reduceCtorEq, Int.reduceEq]
  refine AW.sseq ?_
  refine AW.rseq ?_
  try simp only [↓wk, ↓wl, nc, evV, wrapBits_eq, ↓reduceIte, Nat.reduceEqDiff, Nat.reduceAdd, Nat.reduceSub, Nat.reduceLeDiff, Nat.reduceLT, Nat.reduceBEq, reduceCtorEq, Int.reduceEq]
  refine AW.bend ?_
  refine AW.iter H ((Le.trans (Le.nilCell (b := 2) (o := 4) (e := 5) (by rfl) (by rfl)) (Le.none [1, 2, 3] [2, 3, 16, 17, 18] (by decide) (by simp only [f16_L1, List.length_set, Option.map_some, restrict_eq, renS_nil, renS_cons, renB_els, renB_cel, renB_dead, deep_eq, map_ren_enc, ren_agg', ren_tup', ren_fn', ren_int', ren_bool', ren_str', ren_sl', ren_pro', ren_nilp', ren_nilfn', ren_junk', ren_ptr', ren_row', ren_arow', ren_eptr', vm, List.idxOf?_cons, List.idxOf?_nil, beq_self_eq_true, Option.map_none, List.getD_cons_zero, List.getD_cons_succ, ↓wk, ↓wl, nc, evV, wrapBits_eq, ↓reduceIte, Nat.reduceEqDiff, Nat.reduceAdd, Nat.reduceSub, Nat.reduceLeDiff, Nat.reduceLT, Nat.reduceBEq, reduceCtorEq, Int.reduceEq])))) ?_ <;> clear H
  rintro ⟨v_1749, out_1750⟩ x_ st0_ H hst_
  simp only [f16_L1] at H hst_
  subst hst_
  refine AW.rseq ?_
  try simp only [↓wk, ↓wl, nc, evV, wrapBits_eq, ↓reduceIte, Nat.reduceEqDiff, Nat.reduceAdd, Nat.reduceSub, Nat.reduceLeDiff, Nat.reduceLT, Nat.reduceBEq, reduceCtorEq, Int.reduceEq]
  refine AW.sseq ?_
  refine AW.ifc H (by rfl) ?_ ?_ <;> clear H <;> intro H
  · refine AW.skip ?_
    refine seqQ.norm ?_
    refine AW.bseq ?_
    refine AW.rseq ?_
    try simp only [↓wk, ↓wl, nc, evV, wrapBits_eq, ↓reduceIte, Nat.reduceEqDiff, Nat.reduceAdd, Nat.reduceSub, Nat.reduceLeDiff, Nat.reduceLT, Nat.reduceBEq, reduceCtorEq, Int.reduceEq]
    refine evTs_at (enc := eNetworkStream) H (by rfl) (by rfl) ?_ <;> clear H <;> intro x_1754 H
    try simp only [eNetworkStream, eL, ↓wk, ↓wl, nc, evV, wrapBits_eq, ↓reduceIte, Nat.reduceEqDiff, Nat.reduceAdd, Nat.reduceSub, Nat.reduceLeDiff, Nat.reduceLT, Nat.reduceBEq, reduceCtorEq, Int.reduceEq]
    refine AW.rend ?_
    try simp only [↓wk, ↓wl, nc, evV, wrapBits_eq, ↓reduceIte, Nat.reduceEqDiff, Nat.reduceAdd, Nat.reduceSub, Nat.reduceLeDiff, Nat.reduceLT, Nat.reduceBEq, reduceCtorEq, Int.reduceEq]
    refine evTs_app (enc := eRef56Stream) H (by rfl) (by first | rfl | simp only [List.length_set]) (by rfl) (by rfl) ?_ <;> clear H <;> intro out_1755 H
    try simp only [↓wk, ↓wl, nc, evV, wrapBits_eq, ↓reduceIte, Nat.reduceEqDiff, Nat.reduceAdd, Nat.reduceSub, Nat.reduceLeDiff, Nat.reduceLT, Nat.reduceBEq, reduceCtorEq, Int.reduceEq]
    refine blkQ.norm ?_
    refine AW.rend ?_
    try simp only [↓wk, ↓wl, nc, evV, wrapBits_eq, ↓reduceIte, Nat.reduceEqDiff, Nat.reduceAdd, Nat.reduceSub, Nat.reduceLeDiff, Nat.reduceLT, Nat.reduceBEq, reduceCtorEq, Int.reduceEq]
    exact loopQ.next H ((Le.none [0, 1, 4] [2, 3, 16, 17, 18] (by decide) (by simp only [f16_L1, List.length_set, Option.map_some, restrict_eq, renS_nil, renS_cons, renB_els, renB_cel, renB_dead, deep_eq, map_ren_enc, ren_agg', ren_tup', ren_fn', ren_int', ren_bool', ren_str', ren_sl', ren_pro', ren_nilp', ren_nilfn', ren_junk', ren_ptr', ren_row', ren_arow', ren_eptr', vm, List.idxOf?_cons, List.idxOf?_nil, beq_self_eq_true, Option.map_none, List.getD_cons_zero, List.getD_cons_succ, ↓wk, ↓wl, nc, evV, wrapBits_eq, ↓reduceIte, Nat.reduceEqDiff, Nat.reduceAdd, Nat.reduceSub, Nat.reduceLeDiff, Nat.reduceLT, Nat.reduceBEq, reduceCtorEq, Int.reduceEq])))
  · refine AW.exit ?_
    refine seqQ.exit ?_
    refine loopQ.exit H ?_ <;> clear H <;> intro H
    try dsimp only at H
    refine blk0.here ?_
    refine seqQ.norm ?_
    refine AW.rseq ?_
    try simp only [↓wk, ↓wl, nc, evV, wrapBits_eq, ↓reduceIte, Nat.reduceEqDiff, Nat.reduceAdd, Nat.reduceSub, Nat.reduceLeDiff, Nat.reduceLT, Nat.reduceBEq, reduceCtorEq, Int.reduceEq]
    refine AW.ret ?_
    cases H
    exact hQ _ _ _ _ (.inr rfl) (by simp only [resVs, omap, resV, ↓wk, ↓wl, nc, evV, wrapBits_eq, ↓reduceIte, Nat.reduceEqDiff, Nat.reduceAdd, Nat.reduceSub, Nat.reduceLeDiff, Nat.reduceLT, Nat.reduceBEq, reduceCtorEq, Int.reduceEq]; rfl) (by simp only [handOver, deep_eq, imm_simps, imm_rowE, imm_ptrE, imm_enc, omap_simps, take_map_len, take_map_set, take_map_set2, le_refl_true, Nat.zero_add, and_true, true_and, List.drop_zero, Option.map_some, ↓wk, ↓wl, nc, evV, wrapBits_eq, ↓reduceIte, Nat.reduceEqDiff, Nat.reduceAdd, Nat.reduceSub, Nat.reduceLeDiff, Nat.reduceLT, Nat.reduceBEq, reduceCtorEq, Int.reduceEq]; rfl) (by rfl)
noncomputable def f15_L1 (s_1757 : Ref56Sender) : Lp (Int) ((Unit) ⊕ (Unit)) where
  body := fun i_1761 => (if (decide (i_1761 < ((s_1757.fStreams.length : Nat) : Int))) = true then (if (decide (i_1761 < 20)) = true then (at? s_1757.fStreams i_1761).bind fun x_1763 => (if (decide (1024 < ((x_1763.fSlots.length : Nat) : Int))) = true then (some (.brk (Sum.inr ()))) else (some (.next (IntKind.i64.wrap (i_1761 + 1))))) else (some (.brk (Sum.inl ())))) else (some (.brk (Sum.inl ()))))
  cst := fun i_1761 => ⟨put (put (fun _ => .junk) 3 (.int .i64 i_1761)) 1 (.ptr 0 0), [.cel [.int .u64 s_1757.fSource, .int .i64 s_1757.fPriority, .int .i64 s_1757.fSync, .int .i64 s_1757.fPulse, .sl 5 false (s_1757.fStreams.map eRef56Stream)]]⟩
def c15_0 : C := .cond (.t 12) (.skip) (.exit 0)
def c15_1 : C := .cond (.t 22) (.seq (.reg [iI 2 (.mv (.c (.bool false)))]) .ret) (.skip)
def c15_2 : C := .reg [iI 13 (.mv (.t 3)), iI 14 (.bin .add (.t 13) (.c (.int .i64 1))), iI 3 (.mv (.t 14))]
def c15_3 : C := .seq (.block 1 (.seq (.reg [iI 15 (.faddr 4 (.t 1)), iI 16 (.load 0 (.t 15)), iI 17 (.mv (.t 3)), iI 18 (.iaddr 5 (.t 16) (.t 17)), iI 19 (.faddr 4 (.t 18)), iI 20 (.load 0 (.t 19)), iI 21 (.len 1 (.t 20)), iI 22 (.bin .gtr (.t 21) (.c (.int .i64 1024)))]) c15_1)) c15_2
def c15_4 : C := .block 0 (.loop (.seq (.seq (.reg [iI 4 (.mv (.t 3)), iI 5 (.faddr 4 (.t 1)), iI 6 (.load 0 (.t 5)), iI 7 (.len 0 (.t 6)), iI 8 (.bin .lss (.t 4) (.t 7)), iI 9 (.mv (.t 8)), iG (some 10) 9 true (.mv (.t 3)), iG (some 11) 9 true (.bin .lss (.t 10) (.c (.int .i64 20))), iI 12 (.pick (.t 9) (.t 11) (.c (.bool false)))]) c15_0) c15_3))
def c15_5 : C := .seq (.reg [iI 23 (.faddr 4 (.t 1)), iI 24 (.load 0 (.t 23)), iI 25 (.len 0 (.t 24)), iI 26 (.bin .leq (.t 25) (.c (.int .i64 20))), iI 2 (.mv (.t 26))]) .ret
def c15_6 : C := .seq (.seq (.reg [iI 3 (.mv (.c (.int .i64 0)))]) c15_4) c15_5
def ir15 : C := .seq (.reg [iI 1 (.box (.t 0)), iI 2 (.mv (.c (.bool false)))]) c15_6
theorem fd15 : fd? Try.prog 15 = some (27, [.slot 2], ir15) := by kernel_rfl
noncomputable def f15 (s_1757 : Ref56Sender) : Option (Bool) :=
  ((Lp.run (f15_L1 s_1757) 0).bind fun r_ => match r_ with | (Sum.inl _) => (some (decide (((s_1757.fStreams.length : Nat) : Int) ≤ 20))) | (Sum.inr _) => (some false))
theorem f15_ok {s_1757 : Ref56Sender} {r_ : Bool} (H : f15 s_1757 = some r_) : Pure Try.prog 15 [.agg [.int .u64 s_1757.fSource, .int .i64 s_1757.fPriority, .int .i64 s_1757.fSync, .int .i64 s_1757.fPulse, .sl 5 false (s_1757.fStreams.map eRef56Stream)]] (· = .bool r_) := by
  refine Pure.walk2 fd15 none (Nat.le_of_ble_eq_true rfl) (by rfl) fun Q hQ => ?_
  simp only [f15] at H
  refine AW.rseq ?_
  try simp only [↓wk, ↓wl, nc, evV, wrapBits_eq, ↓reduceIte, Nat.reduceEqDiff, Nat.reduceAdd, Nat.reduceSub, Nat.reduceLeDiff, Nat.reduceLT, Nat.reduceBEq, reduceCtorEq, Int.reduceEq]
  refine AW.sseq ?_
  refine AW.rseq ?_
  try simp only [↓wk, ↓wl, nc, evV, wrapBits_eq, ↓reduceIte, Nat.reduceEqDiff, Nat.reduceAdd, Nat.reduceSub, Nat.reduceLeDiff, Nat.reduceLT, Nat.reduceBEq, reduceCtorEq, Int.reduceEq]
  refine AW.bend ?_
  refine AW.iter H ((Le.none [0] [1, 3] (by decide) (by simp only [f15_L1, List.length_set, Option.map_some, restrict_eq, renS_nil, renS_cons, renB_els, renB_cel, renB_dead, deep_eq, map_ren_enc, ren_agg', ren_tup', ren_fn', ren_int', ren_bool', ren_str', ren_sl', ren_pro', ren_nilp', ren_nilfn', ren_junk', ren_ptr', ren_row', ren_arow', ren_eptr', vm, List.idxOf?_cons, List.idxOf?_nil, beq_self_eq_true, Option.map_none, List.getD_cons_zero, List.getD_cons_succ, ↓wk, ↓wl, nc, evV, wrapBits_eq, ↓reduceIte, Nat.reduceEqDiff, Nat.reduceAdd, Nat.reduceSub, Nat.reduceLeDiff, Nat.reduceLT, Nat.reduceBEq, reduceCtorEq, Int.reduceEq]))) ?_ <;> clear H
  rintro i_1761 x_ st0_ H hst_
  simp only [f15_L1] at H hst_
  subst hst_
  refine AW.sseq ?_
  refine AW.rseq ?_
  try simp only [↓wk, ↓wl, nc, evV, wrapBits_eq, ↓reduceIte, Nat.reduceEqDiff, Nat.reduceAdd, Nat.reduceSub, Nat.reduceLeDiff, Nat.reduceLT, Nat.reduceBEq, reduceCtorEq, Int.reduceEq]
  refine evTs_ifg H (by rfl) ?_ ?_ <;> clear H <;> intro H
  · try simp only [↓wk, ↓wl, nc, evV, wrapBits_eq, ↓reduceIte, Nat.reduceEqDiff, Nat.reduceAdd, Nat.reduceSub, Nat.reduceLeDiff, Nat.reduceLT, Nat.reduceBEq, reduceCtorEq, Int.reduceEq]
    refine AW.ifc H (by rfl) ?_ ?_ <;> clear H <;> intro H
    · refine AW.skip ?_
      refine seqQ.norm ?_
      refine AW.bseq ?_
      refine AW.rseq ?_
      try simp only [↓wk, ↓wl, nc, evV, wrapBits_eq, ↓reduceIte, Nat.reduceEqDiff, Nat.reduceAdd, Nat.reduceSub, Nat.reduceLeDiff, Nat.reduceLT, Nat.reduceBEq, reduceCtorEq, Int.reduceEq]
      refine evTs_at (enc := eRef56Stream) H (by rfl) (by rfl) ?_ <;> clear H <;> intro x_1763 H
      try simp only [eRef56Stream, eL, ↓wk, ↓wl, nc, evV, wrapBits_eq, ↓reduceIte, Nat.reduceEqDiff, Nat.reduceAdd, Nat.reduceSub, Nat.reduceLeDiff, Nat.reduceLT, Nat.reduceBEq, reduceCtorEq, Int.reduceEq]
      refine AW.ifc H (by rfl) ?_ ?_ <;> clear H <;> intro H
      · refine AW.rseq ?_
        try simp only [↓wk, ↓wl, nc, evV, wrapBits_eq, ↓reduceIte, Nat.reduceEqDiff, Nat.reduceAdd, Nat.reduceSub, Nat.reduceLeDiff, Nat.reduceLT, Nat.reduceBEq, reduceCtorEq, Int.reduceEq]
        refine AW.ret ?_
        refine blkQ.ret ?_
        refine loopQ.ret H ?_ <;> clear H <;> intro H
        try dsimp only at H
        refine blk0.ret ?_
        refine seqQ.ret ?_
        cases H
        exact hQ _ _ _ _ (.inr rfl) (by simp only [resVs, omap, resV, ↓wk, ↓wl, nc, evV, wrapBits_eq, ↓reduceIte, Nat.reduceEqDiff, Nat.reduceAdd, Nat.reduceSub, Nat.reduceLeDiff, Nat.reduceLT, Nat.reduceBEq, reduceCtorEq, Int.reduceEq]; rfl) (hand_plain (by rfl)) (by rfl)
      · refine AW.skip ?_
        refine blkQ.norm ?_
        refine AW.rend ?_
        try simp only [↓wk, ↓wl, nc, evV, wrapBits_eq, ↓reduceIte, Nat.reduceEqDiff, Nat.reduceAdd, Nat.reduceSub, Nat.reduceLeDiff, Nat.reduceLT, Nat.reduceBEq, reduceCtorEq, Int.reduceEq]
        exact loopQ.next H ((Le.none [0] [1, 3] (by decide) (by simp only [f15_L1, List.length_set, Option.map_some, restrict_eq, renS_nil, renS_cons, renB_els, renB_cel, renB_dead, deep_eq, map_ren_enc, ren_agg', ren_tup', ren_fn', ren_int', ren_bool', ren_str', ren_sl', ren_pro', ren_nilp', ren_nilfn', ren_junk', ren_ptr', ren_row', ren_arow', ren_eptr', vm, List.idxOf?_cons, List.idxOf?_nil, beq_self_eq_true, Option.map_none, List.getD_cons_zero, List.getD_cons_succ, ↓wk, ↓wl, nc, evV, wrapBits_eq, ↓reduceIte, Nat.reduceEqDiff, Nat.reduceAdd, Nat.reduceSub, Nat.reduceLeDiff, Nat.reduceLT, Nat.reduceBEq, reduceCtorEq, Int.reduceEq])))
    · refine AW.exit ?_
      refine seqQ.exit ?_
      refine loopQ.exit H ?_ <;> clear H <;> intro H
      try dsimp only at H
      refine blk0.here ?_
      refine seqQ.norm ?_
      refine AW.rseq ?_
      try simp only [↓wk, ↓wl, nc, evV, wrapBits_eq, ↓reduceIte, Nat.reduceEqDiff, Nat.reduceAdd, Nat.reduceSub, Nat.reduceLeDiff, Nat.reduceLT, Nat.reduceBEq, reduceCtorEq, Int.reduceEq]
      refine AW.ret ?_
      cases H
      exact hQ _ _ _ _ (.inr rfl) (by simp only [resVs, omap, resV, ↓wk, ↓wl, nc, evV, wrapBits_eq, ↓reduceIte, Nat.reduceEqDiff, Nat.reduceAdd, Nat.reduceSub, Nat.reduceLeDiff, Nat.reduceLT, Nat.reduceBEq, reduceCtorEq, Int.reduceEq]; rfl) (hand_plain (by rfl)) (by rfl)
  · try simp only [↓wk, ↓wl, nc, evV, wrapBits_eq, ↓reduceIte, Nat.reduceEqDiff, Nat.reduceAdd, Nat.reduceSub, Nat.reduceLeDiff, Nat.reduceLT, Nat.reduceBEq, reduceCtorEq, Int.reduceEq]
    refine AW.iff (by rfl) ?_
    refine AW.exit ?_
    refine seqQ.exit ?_
    refine loopQ.exit H ?_ <;> clear H <;> intro H
    try dsimp only at H
    refine blk0.here ?_
    refine seqQ.norm ?_
    refine AW.rseq ?_
    try simp only [↓wk, ↓wl, nc, evV, wrapBits_eq, ↓reduceIte, Nat.reduceEqDiff, Nat.reduceAdd, Nat.reduceSub, Nat.reduceLeDiff, Nat.reduceLT, Nat.reduceBEq, reduceCtorEq, Int.reduceEq]
    refine AW.ret ?_
    cases H
    exact hQ _ _ _ _ (.inr rfl) (by simp only [resVs, omap, resV, ↓wk, ↓wl, nc, evV, wrapBits_eq, ↓reduceIte, Nat.reduceEqDiff, Nat.reduceAdd, Nat.reduceSub, Nat.reduceLeDiff, Nat.reduceLT, Nat.reduceBEq, reduceCtorEq, Int.reduceEq]; rfl) (hand_plain (by rfl)) (by rfl)
noncomputable def f22_L1 (l_1766 : (List ApiFrame)) : Lp (Int) ((Unit) ⊕ (Unit)) where
  body := fun i_1770 => (if (decide (i_1770 < ((l_1766.length : Nat) : Int))) = true then (if (decide (i_1770 < 12)) = true then (at? l_1766 i_1770).bind fun x_1772 => (if (decide (1024 < ((x_1772.fSlots.length : Nat) : Int))) = true then (some (.brk (Sum.inr ()))) else (some (.next (IntKind.i64.wrap (i_1770 + 1))))) else (some (.brk (Sum.inl ())))) else (some (.brk (Sum.inl ()))))
  cst := fun i_1770 => ⟨put (put (fun _ => .junk) 3 (.int .i64 i_1770)) 0 (.sl 2 false (l_1766.map eApiFrame)), []⟩
def c22_0 : C := .cond (.t 11) (.skip) (.exit 0)
def c22_1 : C := .cond (.t 20) (.seq (.reg [iI 2 (.mv (.c (.bool false)))]) .ret) (.skip)
def c22_2 : C := .reg [iI 12 (.mv (.t 3)), iI 13 (.bin .add (.t 12) (.c (.int .i64 1))), iI 3 (.mv (.t 13))]
def c22_3 : C := .seq (.block 1 (.seq (.reg [iI 14 (.mv (.t 0)), iI 15 (.mv (.t 3)), iI 16 (.iaddr 2 (.t 14) (.t 15)), iI 17 (.faddr 1 (.t 16)), iI 18 (.load 0 (.t 17)), iI 19 (.len 1 (.t 18)), iI 20 (.bin .gtr (.t 19) (.c (.int .i64 1024)))]) c22_1)) c22_2
def c22_4 : C := .block 0 (.loop (.seq (.seq (.reg [iI 4 (.mv (.t 3)), iI 5 (.mv (.t 0)), iI 6 (.len 0 (.t 5)), iI 7 (.bin .lss (.t 4) (.t 6)), iI 8 (.mv (.t 7)), iG (some 9) 8 true (.mv (.t 3)), iG (some 10) 8 true (.bin .lss (.t 9) (.c (.int .i64 12))), iI 11 (.pick (.t 8) (.t 10) (.c (.bool false)))]) c22_0) c22_3))
def c22_5 : C := .seq (.reg [iI 21 (.mv (.t 0)), iI 22 (.len 0 (.t 21)), iI 23 (.bin .leq (.t 22) (.c (.int .i64 12))), iI 2 (.mv (.t 23))]) .ret
def c22_6 : C := .seq (.seq (.reg [iI 3 (.mv (.c (.int .i64 0)))]) c22_4) c22_5
def ir22 : C := .seq (.reg [iI 2 (.mv (.c (.bool false)))]) c22_6
theorem fd22 : fd? Try.prog 22 = some (24, [.slot 2], ir22) := by kernel_rfl
noncomputable def f22 (l_1766 : (List ApiFrame)) : Option (Bool) :=
  ((Lp.run (f22_L1 l_1766) 0).bind fun r_ => match r_ with | (Sum.inl _) => (some (decide (((l_1766.length : Nat) : Int) ≤ 12))) | (Sum.inr _) => (some false))
theorem f22_ok {l_1766 : (List ApiFrame)} {r_ : Bool} (H : f22 l_1766 = some r_) : Pure Try.prog 22 [.sl 2 false (l_1766.map eApiFrame)] (· = .bool r_) := by
  refine Pure.walk2 fd22 none (Nat.le_of_ble_eq_true rfl) (by rfl) fun Q hQ => ?_
  simp only [f22] at H
  refine AW.rseq ?_
  try simp only [↓wk, ↓wl, nc, evV, wrapBits_eq, ↓reduceIte, Nat.reduceEqDiff, Nat.reduceAdd, Nat.reduceSub, Nat.reduceLeDiff, Nat.reduceLT, Nat.reduceBEq, reduceCtorEq, Int.reduceEq]
  refine AW.sseq ?_
  refine AW.rseq ?_
  try simp only [↓wk, ↓wl, nc, evV, wrapBits_eq, ↓reduceIte, Nat.reduceEqDiff, Nat.reduceAdd, Nat.reduceSub, Nat.reduceLeDiff, Nat.reduceLT, Nat.reduceBEq, reduceCtorEq, Int.reduceEq]
  refine AW.bend ?_
  refine AW.iter H ((Le.none [] [0, 3] (by decide) (by simp only [f22_L1, List.length_set, Option.map_some, restrict_eq, renS_nil, renS_cons, renB_els, renB_cel, renB_dead, deep_eq, map_ren_enc, ren_agg', ren_tup', ren_fn', ren_int', ren_bool', ren_str', ren_sl', ren_pro', ren_nilp', ren_nilfn', ren_junk', ren_ptr', ren_row', ren_arow', ren_eptr', vm, List.idxOf?_cons, List.idxOf?_nil, beq_self_eq_true, Option.map_none, List.getD_cons_zero, List.getD_cons_succ, ↓wk, ↓wl, nc, evV, wrapBits_eq, ↓reduceIte, Nat.reduceEqDiff, Nat.reduceAdd, Nat.reduceSub, Nat.reduceLeDiff, Nat.reduceLT, Nat.reduceBEq, reduceCtorEq, Int.reduceEq]))) ?_ <;> clear H
  rintro i_1770 x_ st0_ H hst_
  simp only [f22_L1] at H hst_
  subst hst_
  refine AW.sseq ?_
  refine AW.rseq ?_
  try simp only [↓wk, ↓wl, nc, evV, wrapBits_eq, ↓reduceIte, Nat.reduceEqDiff, Nat.reduceAdd, Nat.reduceSub, Nat.reduceLeDiff, Nat.reduceLT, Nat.reduceBEq, reduceCtorEq, Int.reduceEq]
  refine evTs_ifg H (by rfl) ?_ ?_ <;> clear H <;> intro H
  · try simp only [↓wk, ↓wl, nc, evV, wrapBits_eq, ↓reduceIte, Nat.reduceEqDiff, Nat.reduceAdd, Nat.reduceSub, Nat.reduceLeDiff, Nat.reduceLT, Nat.reduceBEq, reduceCtorEq, Int.reduceEq]
    refine AW.ifc H (by rfl) ?_ ?_ <;> clear H <;> intro H
    · refine AW.skip ?_
      refine seqQ.norm ?_
      refine AW.bseq ?_
      refine AW.rseq ?_
      try simp only [↓wk, ↓wl, nc, evV, wrapBits_eq, ↓reduceIte, Nat.reduceEqDiff, Nat.reduceAdd, Nat.reduceSub, Nat.reduceLeDiff, Nat.reduceLT, Nat.reduceBEq, reduceCtorEq, Int.reduceEq]
      refine evTs_at (enc := eApiFrame) H (by rfl) (by rfl) ?_ <;> clear H <;> intro x_1772 H
      try simp only [eApiFrame, eL, ↓wk, ↓wl, nc, evV, wrapBits_eq, ↓reduceIte, Nat.reduceEqDiff, Nat.reduceAdd, Nat.reduceSub, Nat.reduceLeDiff, Nat.reduceLT, Nat.reduceBEq, reduceCtorEq, Int.reduceEq]
      refine AW.ifc H (by rfl) ?_ ?_ <;> clear H <;> intro H
      · refine AW.rseq ?_
        try simp only [↓wk, ↓wl, nc, evV, wrapBits_eq, ↓reduceIte, Nat.reduceEqDiff, Nat.reduceAdd, Nat.reduceSub, Nat.reduceLeDiff, Nat.reduceLT, Nat.reduceBEq, reduceCtorEq, Int.reduceEq]
        refine AW.ret ?_
        refine blkQ.ret ?_
        refine loopQ.ret H ?_ <;> clear H <;> intro H
        try dsimp only at H
        refine blk0.ret ?_
        refine seqQ.ret ?_
        cases H
        exact hQ _ _ _ _ (.inr rfl) (by simp only [resVs, omap, resV, ↓wk, ↓wl, nc, evV, wrapBits_eq, ↓reduceIte, Nat.reduceEqDiff, Nat.reduceAdd, Nat.reduceSub, Nat.reduceLeDiff, Nat.reduceLT, Nat.reduceBEq, reduceCtorEq, Int.reduceEq]; rfl) (hand_plain (by rfl)) (by rfl)
      · refine AW.skip ?_
        refine blkQ.norm ?_
        refine AW.rend ?_
        try simp only [↓wk, ↓wl, nc, evV, wrapBits_eq, ↓reduceIte, Nat.reduceEqDiff, Nat.reduceAdd, Nat.reduceSub, Nat.reduceLeDiff, Nat.reduceLT, Nat.reduceBEq, reduceCtorEq, Int.reduceEq]
        exact loopQ.next H ((Le.none [] [0, 3] (by decide) (by simp only [f22_L1, List.length_set, Option.map_some, restrict_eq, renS_nil, renS_cons, renB_els, renB_cel, renB_dead, deep_eq, map_ren_enc, ren_agg', ren_tup', ren_fn', ren_int', ren_bool', ren_str', ren_sl', ren_pro', ren_nilp', ren_nilfn', ren_junk', ren_ptr', ren_row', ren_arow', ren_eptr', vm, List.idxOf?_cons, List.idxOf?_nil, beq_self_eq_true, Option.map_none, List.getD_cons_zero, List.getD_cons_succ, ↓wk, ↓wl, nc, evV, wrapBits_eq, ↓reduceIte, Nat.reduceEqDiff, Nat.reduceAdd, Nat.reduceSub, Nat.reduceLeDiff, Nat.reduceLT, Nat.reduceBEq, reduceCtorEq, Int.reduceEq])))
    · refine AW.exit ?_
      refine seqQ.exit ?_
      refine loopQ.exit H ?_ <;> clear H <;> intro H
      try dsimp only at H
      refine blk0.here ?_
      refine seqQ.norm ?_
      refine AW.rseq ?_
      try simp only [↓wk, ↓wl, nc, evV, wrapBits_eq, ↓reduceIte, Nat.reduceEqDiff, Nat.reduceAdd, Nat.reduceSub, Nat.reduceLeDiff, Nat.reduceLT, Nat.reduceBEq, reduceCtorEq, Int.reduceEq]
      refine AW.ret ?_
      cases H
      exact hQ _ _ _ _ (.inr rfl) (by simp only [resVs, omap, resV, ↓wk, ↓wl, nc, evV, wrapBits_eq, ↓reduceIte, Nat.reduceEqDiff, Nat.reduceAdd, Nat.reduceSub, Nat.reduceLeDiff, Nat.reduceLT, Nat.reduceBEq, reduceCtorEq, Int.reduceEq]; rfl) (hand_plain (by rfl)) (by rfl)
  · try simp only [↓wk, ↓wl, nc, evV, wrapBits_eq, ↓reduceIte, Nat.reduceEqDiff, Nat.reduceAdd, Nat.reduceSub, Nat.reduceLeDiff, Nat.reduceLT, Nat.reduceBEq, reduceCtorEq, Int.reduceEq]
    refine AW.iff (by rfl) ?_
    refine AW.exit ?_
    refine seqQ.exit ?_
    refine loopQ.exit H ?_ <;> clear H <;> intro H
    try dsimp only at H
    refine blk0.here ?_
    refine seqQ.norm ?_
    refine AW.rseq ?_
    try simp only [↓wk, ↓wl, nc, evV, wrapBits_eq, ↓reduceIte, Nat.reduceEqDiff, Nat.reduceAdd, Nat.reduceSub, Nat.reduceLeDiff, Nat.reduceLT, Nat.reduceBEq, reduceCtorEq, Int.reduceEq]
    refine AW.ret ?_
    cases H
    exact hQ _ _ _ _ (.inr rfl) (by simp only [resVs, omap, resV, ↓wk, ↓wl, nc, evV, wrapBits_eq, ↓reduceIte, Nat.reduceEqDiff, Nat.reduceAdd, Nat.reduceSub, Nat.reduceLeDiff, Nat.reduceLT, Nat.reduceBEq, reduceCtorEq, Int.reduceEq]; rfl) (hand_plain (by rfl)) (by rfl)
def c39_0 : C := .seq (.reg [iI 3 (.mv (.t 0)), iI 4 (.bin .gtr (.t 3) (.c (.int .u64 0))), iI 5 (.mv (.t 4)), iG (some 6) 5 true (.mv (.t 0)), iG (some 7) 5 true (.bin .lss (.t 6) (.c (.int .u64 281474976710655))), iI 8 (.pick (.t 5) (.t 7) (.c (.bool false))), iI 2 (.mv (.t 8))]) .ret
def ir39 : C := .seq (.reg [iI 2 (.mv (.c (.bool false)))]) c39_0
theorem fd39 : fd? Try.prog 39 = some (9, [.slot 2], ir39) := by kernel_rfl
noncomputable def f39 (id_2097 : Int) : Option (Bool) :=
  (if (decide (0 < id_2097)) = true then (some (decide (id_2097 < 281474976710655))) else (some false))
theorem f39_ok {id_2097 : Int} {r_ : Bool} (H : f39 id_2097 = some r_) : Pure Try.prog 39 [.int .u64 id_2097] (· = .bool r_) := by
  refine Pure.walk2 fd39 none (Nat.le_of_ble_eq_true rfl) (by rfl) fun Q hQ => ?_
  simp only [f39] at H
  refine AW.rseq ?_
  try simp only [↓wk, ↓wl, nc, evV, wrapBits_eq, ↓reduceIte, Nat.reduceEqDiff, Nat.reduceAdd, Nat.reduceSub, Nat.reduceLeDiff, Nat.reduceLT, Nat.reduceBEq, reduceCtorEq, Int.reduceEq]
  refine AW.rseq ?_
  try simp only [↓wk, ↓wl, nc, evV, wrapBits_eq, ↓reduceIte, Nat.reduceEqDiff, Nat.reduceAdd, Nat.reduceSub, Nat.reduceLeDiff, Nat.reduceLT, Nat.reduceBEq, reduceCtorEq, Int.reduceEq]
  refine evTs_ifg H (by rfl) ?_ ?_ <;> clear H <;> intro H
  · try simp only [↓wk, ↓wl, nc, evV, wrapBits_eq, ↓reduceIte, Nat.reduceEqDiff, Nat.reduceAdd, Nat.reduceSub, Nat.reduceLeDiff, Nat.reduceLT, Nat.reduceBEq, reduceCtorEq, Int.reduceEq]
    refine AW.ret ?_
    cases H
    exact hQ _ _ _ _ (.inr rfl) (by simp only [resVs, omap, resV, ↓wk, ↓wl, nc, evV, wrapBits_eq, ↓reduceIte, Nat.reduceEqDiff, Nat.reduceAdd, Nat.reduceSub, Nat.reduceLeDiff, Nat.reduceLT, Nat.reduceBEq, reduceCtorEq, Int.reduceEq]; rfl) (hand_plain (by rfl)) (by rfl)
  · try simp only [↓wk, ↓wl, nc, evV, wrapBits_eq, ↓reduceIte, Nat.reduceEqDiff, Nat.reduceAdd, Nat.reduceSub, Nat.reduceLeDiff, Nat.reduceLT, Nat.reduceBEq, reduceCtorEq, Int.reduceEq]
    refine AW.ret ?_
    cases H
    exact hQ _ _ _ _ (.inr rfl) (by simp only [resVs, omap, resV, ↓wk, ↓wl, nc, evV, wrapBits_eq, ↓reduceIte, Nat.reduceEqDiff, Nat.reduceAdd, Nat.reduceSub, Nat.reduceLeDiff, Nat.reduceLT, Nat.reduceBEq, reduceCtorEq, Int.reduceEq]; rfl) (hand_plain (by rfl)) (by rfl)
def c37_0 : C := .seq (.reg [iI 7 (.mv (.t 1)), iI 8 (.mv (.t 0)), iI 9 (.bin .leq (.t 7) (.t 8)), iI 10 (.mv (.t 9)), iG (some 11) 10 true (.mv (.t 0)), iG (some 12) 10 true (.mv (.t 2)), iG (some 13) 10 true (.bin .leq (.t 11) (.t 12)), iI 14 (.pick (.t 10) (.t 13) (.c (.bool false))), iI 6 (.mv (.t 14))]) .ret
def ir37 : C := .seq (.reg [iI 6 (.mv (.c (.bool false)))]) c37_0
theorem fd37 : fd? Try.prog 37 = some (15, [.slot 6], ir37) := by kernel_rfl
noncomputable def f37 (n_2099 : Int) (low_2100 : Int) (high_2101 : Int) : Option (Bool) :=
  (if (decide (low_2100 ≤ n_2099)) = true then (some (decide (n_2099 ≤ high_2101))) else (some false))
theorem f37_ok {n_2099 : Int} {low_2100 : Int} {high_2101 : Int} {r_ : Bool} (H : f37 n_2099 low_2100 high_2101 = some r_) : Pure Try.prog 37 [.int .i64 n_2099, .int .i64 low_2100, .int .i64 high_2101] (· = .bool r_) := by
  refine Pure.walk2 fd37 none (Nat.le_of_ble_eq_true rfl) (by rfl) fun Q hQ => ?_
  simp only [f37] at H
  refine AW.rseq ?_
  try simp only [↓wk, ↓wl, nc, evV, wrapBits_eq, ↓reduceIte, Nat.reduceEqDiff, Nat.reduceAdd, Nat.reduceSub, Nat.reduceLeDiff, Nat.reduceLT, Nat.reduceBEq, reduceCtorEq, Int.reduceEq]
  refine AW.rseq ?_
  try simp only [↓wk, ↓wl, nc, evV, wrapBits_eq, ↓reduceIte, Nat.reduceEqDiff, Nat.reduceAdd, Nat.reduceSub, Nat.reduceLeDiff, Nat.reduceLT, Nat.reduceBEq, reduceCtorEq, Int.reduceEq]
  refine evTs_ifg H (by rfl) ?_ ?_ <;> clear H <;> intro H
  · try simp only [↓wk, ↓wl, nc, evV, wrapBits_eq, ↓reduceIte, Nat.reduceEqDiff, Nat.reduceAdd, Nat.reduceSub, Nat.reduceLeDiff, Nat.reduceLT, Nat.reduceBEq, reduceCtorEq, Int.reduceEq]
    refine AW.ret ?_
    cases H
    exact hQ _ _ _ _ (.inr rfl) (by simp only [resVs, omap, resV, ↓wk, ↓wl, nc, evV, wrapBits_eq, ↓reduceIte, Nat.reduceEqDiff, Nat.reduceAdd, Nat.reduceSub, Nat.reduceLeDiff, Nat.reduceLT, Nat.reduceBEq, reduceCtorEq, Int.reduceEq]; rfl) (hand_plain (by rfl)) (by rfl)
  · try simp only [↓wk, ↓wl, nc, evV, wrapBits_eq, ↓reduceIte, Nat.reduceEqDiff, Nat.reduceAdd, Nat.reduceSub, Nat.reduceLeDiff, Nat.reduceLT, Nat.reduceBEq, reduceCtorEq, Int.reduceEq]
    refine AW.ret ?_
    cases H
    exact hQ _ _ _ _ (.inr rfl) (by simp only [resVs, omap, resV, ↓wk, ↓wl, nc, evV, wrapBits_eq, ↓reduceIte, Nat.reduceEqDiff, Nat.reduceAdd, Nat.reduceSub, Nat.reduceLeDiff, Nat.reduceLT, Nat.reduceBEq, reduceCtorEq, Int.reduceEq]; rfl) (hand_plain (by rfl)) (by rfl)
def c18_0 : C := .cond (.t 20) (.seq (.reg [iI 21 (.build [(1, (.int .u64 0)), (1, (.int .i64 0)), (1, (.int .i64 0)), (1, (.int .i64 0)), (1, (.sl 5 true []))] []), iN (.store 5 (.t 6) (.t 21)), iI 7 (.mv (.c (.int .i64 2)))]) .ret) (.skip)
def c18_1 : C := .seq (.reg [iI 22 (.mv (.t 0)), iI 23 (.mv (.t 1)), iI 24 (.mv (.t 2)), iI 25 (.build [(1, (.int .u64 0)), (1, (.int .i64 0)), (1, (.int .i64 0)), (1, (.int .i64 0)), (1, (.sl 5 true []))] [(0, 0, (.t 22)), (1, 0, (.t 23)), (2, 0, (.t 24))]), iN (.store 5 (.t 6) (.t 25)), iI 7 (.mv (.c (.int .i64 0)))]) .ret
def c18_2 : C := .seq (.seq (.reg [iI 8 (.mv (.t 0)), iI 9 (.call (.c (.fn 39 [])) [(.t 8)]), iI 10 (.un .not (.t 9)), iI 11 (.mv (.t 10)), iG (some 12) 11 false (.mv (.t 1)), iG (some 13) 11 false (.call (.c (.fn 37 [])) [(.t 12), (.c (.int .i64 0)), (.c (.int .i64 200))]), iG (some 14) 11 false (.un .not (.t 13)), iI 15 (.pick (.t 11) (.c (.bool true)) (.t 14)), iI 16 (.mv (.t 15)), iG (some 17) 16 false (.mv (.t 2)), iG (some 18) 16 false (.call (.c (.fn 37 [])) [(.t 17), (.c (.int .i64 0)), (.c (.int .i64 8))]), iG (some 19) 16 false (.un .not (.t 18)), iI 20 (.pick (.t 16) (.c (.bool true)) (.t 19))]) c18_0) c18_1
def ir18 : C := .seq (.reg [iI 6 (.alloc [(1, (.int .u64 0)), (1, (.int .i64 0)), (1, (.int .i64 0)), (1, (.int .i64 0)), (1, (.sl 5 true []))]), iI 7 (.mv (.c (.int .i64 0)))]) c18_2
theorem fd18 : fd? Try.prog 18 = some (26, [.cell 6 5, .slot 7], ir18) := by kernel_rfl
noncomputable def f18 (source_2094 : Int) (priority_2095 : Int) (sync_2096 : Int) : Option (Ref56Sender × Int) :=
  (f39 source_2094).bind fun r_2098 => (if (!r_2098) = true then (some ((Ref56Sender.mk 0 0 0 0 ([])), 2)) else (f37 priority_2095 0 200).bind fun r_2102 => (if (!r_2102) = true then (some ((Ref56Sender.mk 0 0 0 0 ([])), 2)) else (f37 sync_2096 0 8).bind fun r_2103 => (if (!r_2103) = true then (some ((Ref56Sender.mk 0 0 0 0 ([])), 2)) else (some ((Ref56Sender.mk source_2094 priority_2095 sync_2096 0 ([])), 0)))))
theorem f18_ok {source_2094 : Int} {priority_2095 : Int} {sync_2096 : Int} {r_ : Ref56Sender × Int} (H : f18 source_2094 priority_2095 sync_2096 = some r_) : Pure Try.prog 18 [.int .u64 source_2094, .int .i64 priority_2095, .int .i64 sync_2096] (· = .tup [.agg [.int .u64 r_.1.fSource, .int .i64 r_.1.fPriority, .int .i64 r_.1.fSync, .int .i64 r_.1.fPulse, .sl 5 false (r_.1.fStreams.map eRef56Stream)], .int .i64 r_.2]) := by
  refine Pure.walk2 fd18 none (Nat.le_of_ble_eq_true rfl) (by rfl) fun Q hQ => ?_
  simp only [f18] at H
  refine AW.rseq ?_
  try simp only [↓wk, ↓wl, nc, evV, wrapBits_eq, ↓reduceIte, Nat.reduceEqDiff, Nat.reduceAdd, Nat.reduceSub, Nat.reduceLeDiff, Nat.reduceLT, Nat.reduceBEq, reduceCtorEq, Int.reduceEq]
  refine AW.sseq ?_
  refine AW.rseq ?_
  try simp only [↓wk, ↓wl, nc, evV, wrapBits_eq, ↓reduceIte, Nat.reduceEqDiff, Nat.reduceAdd, Nat.reduceSub, Nat.reduceLeDiff, Nat.reduceLT, Nat.reduceBEq, reduceCtorEq, Int.reduceEq]
  refine evTs_pure hFn H (fun _ h => f39_ok h) (by rfl) (by rfl) (by rfl) (by rfl) (fun _ => rfl) ?_ <;> clear H <;> intro r_2098 H
  try simp only [eL, ↓wk, ↓wl, nc, evV, wrapBits_eq, ↓reduceIte, Nat.reduceEqDiff, Nat.reduceAdd, Nat.reduceSub, Nat.reduceLeDiff, Nat.reduceLT, Nat.reduceBEq, reduceCtorEq, Int.reduceEq]
  refine evTs_ifg H (by rfl) ?_ ?_ <;> clear H <;> intro H
  · try simp only [↓wk, ↓wl, nc, evV, wrapBits_eq, ↓reduceIte, Nat.reduceEqDiff, Nat.reduceAdd, Nat.reduceSub, Nat.reduceLeDiff, Nat.reduceLT, Nat.reduceBEq, reduceCtorEq, Int.reduceEq]
    refine AW.ift (by rfl) ?_
    refine AW.rseq ?_
    try simp only [↓wk, ↓wl, nc, evV, wrapBits_eq, ↓reduceIte, Nat.reduceEqDiff, Nat.reduceAdd, Nat.reduceSub, Nat.reduceLeDiff, Nat.reduceLT, Nat.reduceBEq, reduceCtorEq, Int.reduceEq]
    refine AW.ret ?_
    refine seqQ.ret ?_
    cases H
    exact hQ _ _ _ _ (.inr rfl) (by simp only [resVs, omap, resV, ↓wk, ↓wl, nc, evV, wrapBits_eq, ↓reduceIte, Nat.reduceEqDiff, Nat.reduceAdd, Nat.reduceSub, Nat.reduceLeDiff, Nat.reduceLT, Nat.reduceBEq, reduceCtorEq, Int.reduceEq]; rfl) (hand_plain (by rfl)) (by rfl)
  · try simp only [↓wk, ↓wl, nc, evV, wrapBits_eq, ↓reduceIte, Nat.reduceEqDiff, Nat.reduceAdd, Nat.reduceSub, Nat.reduceLeDiff, Nat.reduceLT, Nat.reduceBEq, reduceCtorEq, Int.reduceEq]
    refine evTs_pure hFn H (fun _ h => f37_ok h) (by rfl) (by rfl) (by rfl) (by rfl) (fun _ => rfl) ?_ <;> clear H <;> intro r_2102 H
    try simp only [eL, ↓wk, ↓wl, nc, evV, wrapBits_eq, ↓reduceIte, Nat.reduceEqDiff, Nat.reduceAdd, Nat.reduceSub, Nat.reduceLeDiff, Nat.reduceLT, Nat.reduceBEq, reduceCtorEq, Int.reduceEq]
    refine evTs_ifg H (by rfl) ?_ ?_ <;> clear H <;> intro H
    · try simp only [↓wk, ↓wl, nc, evV, wrapBits_eq, ↓reduceIte, Nat.reduceEqDiff, Nat.reduceAdd, Nat.reduceSub, Nat.reduceLeDiff, Nat.reduceLT, Nat.reduceBEq, reduceCtorEq, Int.reduceEq]
      refine AW.ift (by rfl) ?_
      refine AW.rseq ?_
      try simp only [↓wk, ↓wl, nc, evV, wrapBits_eq, ↓reduceIte, Nat.reduceEqDiff, Nat.reduceAdd, Nat.reduceSub, Nat.reduceLeDiff, Nat.reduceLT, Nat.reduceBEq, reduceCtorEq, Int.reduceEq]
      refine AW.ret ?_
      refine seqQ.ret ?_
      cases H
      exact hQ _ _ _ _ (.inr rfl) (by simp only [resVs, omap, resV, ↓wk, ↓wl, nc, evV, wrapBits_eq, ↓reduceIte, Nat.reduceEqDiff, Nat.reduceAdd, Nat.reduceSub, Nat.reduceLeDiff, Nat.reduceLT, Nat.reduceBEq, reduceCtorEq, Int.reduceEq]; rfl) (hand_plain (by rfl)) (by rfl)
    · try simp only [↓wk, ↓wl, nc, evV, wrapBits_eq, ↓reduceIte, Nat.reduceEqDiff, Nat.reduceAdd, Nat.reduceSub, Nat.reduceLeDiff, Nat.reduceLT, Nat.reduceBEq, reduceCtorEq, Int.reduceEq]
      refine evTs_pure hFn H (fun _ h => f37_ok h) (by rfl) (by rfl) (by rfl) (by rfl) (fun _ => rfl) ?_ <;> clear H <;> intro r_2103 H
      try simp only [eL, ↓wk, ↓wl, nc, evV, wrapBits_eq, ↓reduceIte, Nat.reduceEqDiff, Nat.reduceAdd, Nat.reduceSub, Nat.reduceLeDiff, Nat.reduceLT, Nat.reduceBEq, reduceCtorEq, Int.reduceEq]
      refine AW.ifc H (by rfl) ?_ ?_ <;> clear H <;> intro H
      · refine AW.rseq ?_
        try simp only [↓wk, ↓wl, nc, evV, wrapBits_eq, ↓reduceIte, Nat.reduceEqDiff, Nat.reduceAdd, Nat.reduceSub, Nat.reduceLeDiff, Nat.reduceLT, Nat.reduceBEq, reduceCtorEq, Int.reduceEq]
        refine AW.ret ?_
        refine seqQ.ret ?_
        cases H
        exact hQ _ _ _ _ (.inr rfl) (by simp only [resVs, omap, resV, ↓wk, ↓wl, nc, evV, wrapBits_eq, ↓reduceIte, Nat.reduceEqDiff, Nat.reduceAdd, Nat.reduceSub, Nat.reduceLeDiff, Nat.reduceLT, Nat.reduceBEq, reduceCtorEq, Int.reduceEq]; rfl) (hand_plain (by rfl)) (by rfl)
      · refine AW.skip ?_
        refine seqQ.norm ?_
        refine AW.rseq ?_
        try simp only [↓wk, ↓wl, nc, evV, wrapBits_eq, ↓reduceIte, Nat.reduceEqDiff, Nat.reduceAdd, Nat.reduceSub, Nat.reduceLeDiff, Nat.reduceLT, Nat.reduceBEq, reduceCtorEq, Int.reduceEq]
        refine AW.ret ?_
        cases H
        exact hQ _ _ _ _ (.inr rfl) (by simp only [resVs, omap, resV, ↓wk, ↓wl, nc, evV, wrapBits_eq, ↓reduceIte, Nat.reduceEqDiff, Nat.reduceAdd, Nat.reduceSub, Nat.reduceLeDiff, Nat.reduceLT, Nat.reduceBEq, reduceCtorEq, Int.reduceEq]; rfl) (hand_plain (by rfl)) (by rfl)
noncomputable def f21_L1 (s_2093 : Ref56Sender) : Lp (Int) ((Unit) ⊕ (Int)) where
  body := fun i_2129 => (if (decide (i_2129 < ((s_2093.fStreams.length : Nat) : Int))) = true then (at? s_2093.fStreams i_2129).bind fun x_2141 => (f37 x_2141.fUniverse 1 8).bind fun r_2146 => (if (!r_2146) = true then (some (.brk (Sum.inr 2))) else (f37 x_2141.fSeq 0 255).bind fun r_2147 => (if (!r_2147) = true then (some (.brk (Sum.inr 2))) else (f37 x_2141.fLast 0 10000000).bind fun r_2148 => (if (!r_2148) = true then (some (.brk (Sum.inr 2))) else (f37 x_2141.fTimes 1 3).bind fun r_2149 => (if (!r_2149) = true then (some (.brk (Sum.inr 2))) else (if (decide (((x_2141.fSlots.length : Nat) : Int) ≠ 512)) = true then (some (.brk (Sum.inr 14))) else (if (decide (0 < i_2129)) = true then (at? s_2093.fStreams (IntKind.i64.wrap (i_2129 - 1))).bind fun x_2150 => (if (decide (x_2141.fUniverse ≤ x_2150.fUniverse)) = true then (some (.brk (Sum.inr 9))) else (some (.next (IntKind.i64.wrap (i_2129 + 1))))) else (some (.next (IntKind.i64.wrap (i_2129 + 1)))))))))) else (some (.brk (Sum.inl ()))))
  cst := fun i_2129 => ⟨put (put (fun _ => .junk) 5 (.int .i64 i_2129)) 1 (.ptr 0 0), [.cel [.int .u64 s_2093.fSource, .int .i64 s_2093.fPriority, .int .i64 s_2093.fSync, .int .i64 s_2093.fPulse, .sl 5 false (s_2093.fStreams.map eRef56Stream)]]⟩
def c21_0 : C := .cond (.t 24) (.seq (.reg [iI 2 (.mv (.c (.int .i64 2)))]) .ret) (.skip)
def c21_1 : C := .seq (.reg [iI 17 (.mv (.t 4)), iI 18 (.bin .neq (.t 17) (.c (.int .i64 0))), iI 19 (.mv (.t 18)), iG (some 20) 19 false (.faddr 3 (.t 1)), iG (some 21) 19 false (.load 0 (.t 20)), iG (some 22) 19 false (.call (.c (.fn 37 [])) [(.t 21), (.c (.int .i64 0)), (.c (.int .i64 255))]), iG (some 23) 19 false (.un .not (.t 22)), iI 24 (.pick (.t 19) (.c (.bool true)) (.t 23))]) c21_0
def c21_2 : C := .cond (.t 28) (.seq (.reg [iI 2 (.mv (.c (.int .i64 5)))]) .ret) (.skip)
def c21_3 : C := .cond (.t 33) (.skip) (.exit 0)
def c21_4 : C := .cond (.t 62) (.seq (.reg [iI 2 (.mv (.c (.int .i64 2)))]) .ret) (.skip)
def c21_5 : C := .cond (.t 66) (.seq (.reg [iI 2 (.mv (.c (.int .i64 14)))]) .ret) (.skip)
def c21_6 : C := .cond (.t 80) (.seq (.reg [iI 2 (.mv (.c (.int .i64 9)))]) .ret) (.skip)
def c21_7 : C := .seq (.reg [iI 67 (.mv (.t 5)), iI 68 (.bin .gtr (.t 67) (.c (.int .i64 0))), iI 69 (.mv (.t 68)), iG (some 70) 69 true (.faddr 0 (.t 6)), iG (some 71) 69 true (.load 0 (.t 70)), iG (some 72) 69 true (.faddr 4 (.t 1)), iG (some 73) 69 true (.load 0 (.t 72)), iG (some 74) 69 true (.mv (.t 5)), iG (some 75) 69 true (.bin .sub (.t 74) (.c (.int .i64 1))), iG (some 76) 69 true (.iaddr 5 (.t 73) (.t 75)), iG (some 77) 69 true (.faddr 0 (.t 76)), iG (some 78) 69 true (.load 0 (.t 77)), iG (some 79) 69 true (.bin .leq (.t 71) (.t 78)), iI 80 (.pick (.t 69) (.t 79) (.c (.bool false)))]) c21_6
def c21_8 : C := .seq (.seq (.reg [iI 63 (.faddr 4 (.t 6)), iI 64 (.load 0 (.t 63)), iI 65 (.len 1 (.t 64)), iI 66 (.bin .neq (.t 65) (.c (.int .i64 512)))]) c21_5) c21_7
def c21_9 : C := .seq (.seq (.reg [iI 41 (.faddr 0 (.t 6)), iI 42 (.load 0 (.t 41)), iI 43 (.call (.c (.fn 37 [])) [(.t 42), (.c (.int .i64 1)), (.c (.int .i64 8))]), iI 44 (.un .not (.t 43)), iI 45 (.mv (.t 44)), iG (some 46) 45 false (.faddr 1 (.t 6)), iG (some 47) 45 false (.load 0 (.t 46)), iG (some 48) 45 false (.call (.c (.fn 37 [])) [(.t 47), (.c (.int .i64 0)), (.c (.int .i64 255))]), iG (some 49) 45 false (.un .not (.t 48)), iI 50 (.pick (.t 45) (.c (.bool true)) (.t 49)), iI 51 (.mv (.t 50)), iG (some 52) 51 false (.faddr 2 (.t 6)), iG (some 53) 51 false (.load 0 (.t 52)), iG (some 54) 51 false (.call (.c (.fn 37 [])) [(.t 53), (.c (.int .i64 0)), (.c (.int .i64 10000000))]), iG (some 55) 51 false (.un .not (.t 54)), iI 56 (.pick (.t 51) (.c (.bool true)) (.t 55)), iI 57 (.mv (.t 56)), iG (some 58) 57 false (.faddr 3 (.t 6)), iG (some 59) 57 false (.load 0 (.t 58)), iG (some 60) 57 false (.call (.c (.fn 37 [])) [(.t 59), (.c (.int .i64 1)), (.c (.int .i64 3))]), iG (some 61) 57 false (.un .not (.t 60)), iI 62 (.pick (.t 57) (.c (.bool true)) (.t 61))]) c21_4) c21_8
def c21_10 : C := .reg [iI 34 (.mv (.t 5)), iI 35 (.bin .add (.t 34) (.c (.int .i64 1))), iI 5 (.mv (.t 35))]
def c21_11 : C := .seq (.block 1 (.seq (.reg [iI 36 (.faddr 4 (.t 1)), iI 37 (.load 0 (.t 36)), iI 38 (.mv (.t 5)), iI 39 (.iaddr 5 (.t 37) (.t 38)), iI 40 (.load 5 (.t 39)), iI 6 (.alloc [(1, (.int .i64 0)), (1, (.int .i64 0)), (1, (.int .i64 0)), (1, (.int .i64 0)), (1, (.str []))]), iN (.store 5 (.t 6) (.t 40))]) c21_9)) c21_10
def c21_12 : C := .block 0 (.loop (.seq (.seq (.reg [iI 29 (.mv (.t 5)), iI 30 (.faddr 4 (.t 1)), iI 31 (.load 0 (.t 30)), iI 32 (.len 0 (.t 31)), iI 33 (.bin .lss (.t 29) (.t 32))]) c21_3) c21_11))
def c21_13 : C := .seq (.reg [iI 2 (.mv (.c (.int .i64 0)))]) .ret
def c21_14 : C := .seq (.seq (.reg [iI 5 (.mv (.c (.int .i64 0)))]) c21_12) c21_13
def c21_15 : C := .seq (.seq (.reg [iI 25 (.faddr 4 (.t 1)), iI 26 (.load 0 (.t 25)), iI 27 (.len 0 (.t 26)), iI 28 (.bin .gtr (.t 27) (.c (.int .i64 8)))]) c21_2) c21_14
def c21_16 : C := .seq (.seq (.reg [iI 8 (.faddr 0 (.t 1)), iI 9 (.load 0 (.t 8)), iI 10 (.faddr 1 (.t 1)), iI 11 (.load 0 (.t 10)), iI 12 (.faddr 2 (.t 1)), iI 13 (.load 0 (.t 12)), iI 14 (.call (.c (.fn 18 [])) [(.t 9), (.t 11), (.t 13)]), iI 7 (.mv (.t 14)), iI 15 (.ext (.t 7) 0), iI 16 (.ext (.t 7) 1), iI 3 (.alloc [(1, (.int .u64 0)), (1, (.int .i64 0)), (1, (.int .i64 0)), (1, (.int .i64 0)), (1, (.sl 5 true []))]), iN (.store 5 (.t 3) (.t 15)), iI 4 (.mv (.t 16))]) c21_1) c21_15
def ir21 : C := .seq (.reg [iI 1 (.box (.t 0)), iI 2 (.mv (.c (.int .i64 0)))]) c21_16
theorem fd21 : fd? Try.prog 21 = some (81, [.slot 2], ir21) := by kernel_rfl
noncomputable def f21 (s_2093 : Ref56Sender) : Option (Int) :=
  (f18 s_2093.fSource s_2093.fPriority s_2093.fSync).bind fun r_2106 => (if (decide (r_2106.2 ≠ 0)) = true then (some 2) else (f37 s_2093.fPulse 0 255).bind fun r_2107 => (if (!r_2107) = true then (some 2) else (if (decide (8 < ((s_2093.fStreams.length : Nat) : Int))) = true then (some 5) else ((Lp.run (f21_L1 s_2093) 0).bind fun r_ => match r_ with | (Sum.inl _) => (some 0) | (Sum.inr v_2140) => (some v_2140)))))
theorem f21_ok {s_2093 : Ref56Sender} {r_ : Int} (H : f21 s_2093 = some r_) : Pure Try.prog 21 [.agg [.int .u64 s_2093.fSource, .int .i64 s_2093.fPriority, .int .i64 s_2093.fSync, .int .i64 s_2093.fPulse, .sl 5 false (s_2093.fStreams.map eRef56Stream)]] (· = .int .i64 r_) := by
  refine Pure.walk2 fd21 none (Nat.le_of_ble_eq_true rfl) (by rfl) fun Q hQ => ?_
  simp only [f21] at H
  refine AW.rseq ?_
  try simp only [↓wk, ↓wl, nc, evV, wrapBits_eq, ↓reduceIte, Nat.reduceEqDiff, Nat.reduceAdd, Nat.reduceSub, Nat.reduceLeDiff, Nat.reduceLT, Nat.reduceBEq, reduceCtorEq, Int.reduceEq]
  refine AW.sseq ?_
  refine AW.rseq ?_
  try simp only [↓wk, ↓wl, nc, evV, wrapBits_eq, ↓reduceIte, Nat.reduceEqDiff, Nat.reduceAdd, Nat.reduceSub, Nat.reduceLeDiff, Nat.reduceLT, Nat.reduceBEq, reduceCtorEq, Int.reduceEq]
  refine evTs_pure hFn H (fun _ h => f18_ok h) (by rfl) (by rfl) (by rfl) (by rfl) (fun _ => rfl) ?_ <;> clear H <;> intro r_2106 H
  try simp only [eL, eRef56Sender, ↓wk, ↓wl, nc, evV, wrapBits_eq, ↓reduceIte, Nat.reduceEqDiff, Nat.reduceAdd, Nat.reduceSub, Nat.reduceLeDiff, Nat.reduceLT, Nat.reduceBEq, reduceCtorEq, Int.reduceEq]
  refine AW.rseq ?_
  try simp only [↓wk, ↓wl, nc, evV, wrapBits_eq, ↓reduceIte, Nat.reduceEqDiff, Nat.reduceAdd, Nat.reduceSub, Nat.reduceLeDiff, Nat.reduceLT, Nat.reduceBEq, reduceCtorEq, Int.reduceEq]
  refine evTs_ifg H (by rfl) ?_ ?_ <;> clear H <;> intro H
  · try simp only [↓wk, ↓wl, nc, evV, wrapBits_eq, ↓reduceIte, Nat.reduceEqDiff, Nat.reduceAdd, Nat.reduceSub, Nat.reduceLeDiff, Nat.reduceLT, Nat.reduceBEq, reduceCtorEq, Int.reduceEq]
    refine AW.ift (by rfl) ?_
    refine AW.rseq ?_
    try simp only [↓wk, ↓wl, nc, evV, wrapBits_eq, ↓reduceIte, Nat.reduceEqDiff, Nat.reduceAdd, Nat.reduceSub, Nat.reduceLeDiff, Nat.reduceLT, Nat.reduceBEq, reduceCtorEq, Int.reduceEq]
    refine AW.ret ?_
    refine seqQ.ret ?_
    cases H
    exact hQ _ _ _ _ (.inr rfl) (by simp only [resVs, omap, resV, ↓wk, ↓wl, nc, evV, wrapBits_eq, ↓reduceIte, Nat.reduceEqDiff, Nat.reduceAdd, Nat.reduceSub, Nat.reduceLeDiff, Nat.reduceLT, Nat.reduceBEq, reduceCtorEq, Int.reduceEq]; rfl) (hand_plain (by rfl)) (by rfl)
  · try simp only [↓wk, ↓wl, nc, evV, wrapBits_eq, ↓reduceIte, Nat.reduceEqDiff, Nat.reduceAdd, Nat.reduceSub, Nat.reduceLeDiff, Nat.reduceLT, Nat.reduceBEq, reduceCtorEq, Int.reduceEq]
    refine evTs_pure hFn H (fun _ h => f37_ok h) (by rfl) (by rfl) (by rfl) (by rfl) (fun _ => rfl) ?_ <;> clear H <;> intro r_2107 H
    try simp only [eL, ↓wk, ↓wl, nc, evV, wrapBits_eq, ↓reduceIte, Nat.reduceEqDiff, Nat.reduceAdd, Nat.reduceSub, Nat.reduceLeDiff, Nat.reduceLT, Nat.reduceBEq, reduceCtorEq, Int.reduceEq]
    refine AW.ifc H (by rfl) ?_ ?_ <;> clear H <;> intro H
    · refine AW.rseq ?_
      try simp only [↓wk, ↓wl, nc, evV, wrapBits_eq, ↓reduceIte, Nat.reduceEqDiff, Nat.reduceAdd, Nat.reduceSub, Nat.reduceLeDiff, Nat.reduceLT, Nat.reduceBEq, reduceCtorEq, Int.reduceEq]
      refine AW.ret ?_
      refine seqQ.ret ?_
      cases H
      exact hQ _ _ _ _ (.inr rfl) (by simp only [resVs, omap, resV, ↓wk, ↓wl, nc, evV, wrapBits_eq, ↓reduceIte, Nat.reduceEqDiff, Nat.reduceAdd, Nat.reduceSub, Nat.reduceLeDiff, Nat.reduceLT, Nat.reduceBEq, reduceCtorEq, Int.reduceEq]; rfl) (hand_plain (by rfl)) (by rfl)
    · refine AW.skip ?_
      refine seqQ.norm ?_
      refine AW.sseq ?_
      refine AW.rseq ?_
      try simp only [↓wk, ↓wl, nc, evV, wrapBits_eq, ↓reduceIte, Nat.reduceEqDiff, Nat.reduceAdd, Nat.reduceSub, Nat.reduceLeDiff, Nat.reduceLT, Nat.reduceBEq, reduceCtorEq, Int.reduceEq]
      refine AW.ifc H (by rfl) ?_ ?_ <;> clear H <;> intro H
      · refine AW.rseq ?_
        try simp only [↓wk, ↓wl, nc, evV, wrapBits_eq, ↓reduceIte, Nat.reduceEqDiff, Nat.reduceAdd, Nat.reduceSub, Nat.reduceLeDiff, Nat.reduceLT, Nat.reduceBEq, reduceCtorEq, Int.reduceEq]
        refine AW.ret ?_
        refine seqQ.ret ?_
        cases H
        exact hQ _ _ _ _ (.inr rfl) (by simp only [resVs, omap, resV, ↓wk, ↓wl, nc, evV, wrapBits_eq, ↓reduceIte, Nat.reduceEqDiff, Nat.reduceAdd, Nat.reduceSub, Nat.reduceLeDiff, Nat.reduceLT, Nat.reduceBEq, reduceCtorEq, Int.reduceEq]; rfl) (hand_plain (by rfl)) (by rfl)
      · refine AW.skip ?_
        refine seqQ.norm ?_
        refine AW.sseq ?_
        refine AW.rseq ?_
        try simp only [↓wk, ↓wl, nc, evV, wrapBits_eq, ↓reduceIte, Nat.reduceEqDiff, Nat.reduceAdd, Nat.reduceSub, Nat.reduceLeDiff, Nat.reduceLT, Nat.reduceBEq, reduceCtorEq, Int.reduceEq]
        refine AW.bend ?_
        refine AW.iter H ((Le.none [0] [1, 5] (by decide) (by simp only [f21_L1, List.length_set, Option.map_some, restrict_eq, renS_nil, renS_cons, renB_els, renB_cel, renB_dead, deep_eq, map_ren_enc, ren_agg', ren_tup', ren_fn', ren_int', ren_bool', ren_str', ren_sl', ren_pro', ren_nilp', ren_nilfn', ren_junk', ren_ptr', ren_row', ren_arow', ren_eptr', vm, List.idxOf?_cons, List.idxOf?_nil, beq_self_eq_true, Option.map_none, List.getD_cons_zero, List.getD_cons_succ, ↓wk, ↓wl, nc, evV, wrapBits_eq, ↓reduceIte, Nat.reduceEqDiff, Nat.reduceAdd, Nat.reduceSub, Nat.reduceLeDiff, Nat.reduceLT, Nat.reduceBEq, reduceCtorEq, Int.reduceEq]))) ?_ <;> clear H
        rintro i_2129 x_ st0_ H hst_
        simp only [f21_L1] at H hst_
        subst hst_
        refine AW.sseq ?_
        refine AW.rseq ?_
        try simp only [↓wk, ↓wl, nc, evV, wrapBits_eq, ↓reduceIte, Nat.reduceEqDiff, Nat.reduceAdd, Nat.reduceSub, Nat.reduceLeDiff, Nat.reduceLT, Nat.reduceBEq, reduceCtorEq, Int.reduceEq]
        refine AW.ifc H (by rfl) ?_ ?_ <;> clear H <;> intro H
        · refine AW.skip ?_
          refine seqQ.norm ?_
          refine AW.bseq ?_
          refine AW.rseq ?_
          try simp only [↓wk, ↓wl, nc, evV, wrapBits_eq, ↓reduceIte, Nat.reduceEqDiff, Nat.reduceAdd, Nat.reduceSub, Nat.reduceLeDiff, Nat.reduceLT, Nat.reduceBEq, reduceCtorEq, Int.reduceEq]
          refine evTs_at (enc := eRef56Stream) H (by rfl) (by rfl) ?_ <;> clear H <;> intro x_2141 H
          try simp only [eRef56Stream, eL, ↓wk, ↓wl, nc, evV, wrapBits_eq, ↓reduceIte, Nat.reduceEqDiff, Nat.reduceAdd, Nat.reduceSub, Nat.reduceLeDiff, Nat.reduceLT, Nat.reduceBEq, reduceCtorEq, Int.reduceEq]
          refine AW.sseq ?_
          refine AW.rseq ?_
          try simp only [↓wk, ↓wl, nc, evV, wrapBits_eq, ↓reduceIte, Nat.reduceEqDiff, Nat.reduceAdd, Nat.reduceSub, Nat.reduceLeDiff, Nat.reduceLT, Nat.reduceBEq, reduceCtorEq, Int.reduceEq]
          refine evTs_pure hFn H (fun _ h => f37_ok h) (by rfl) (by rfl) (by rfl) (by rfl) (fun _ => rfl) ?_ <;> clear H <;> intro r_2146 H
          try simp only [eL, ↓wk, ↓wl, nc, evV, wrapBits_eq, ↓reduceIte, Nat.reduceEqDiff, Nat.reduceAdd, Nat.reduceSub, Nat.reduceLeDiff, Nat.reduceLT, Nat.reduceBEq, reduceCtorEq, Int.reduceEq]
          refine evTs_ifg H (by rfl) ?_ ?_ <;> clear H <;> intro H
          · try simp only [↓wk, ↓wl, nc, evV, wrapBits_eq, ↓reduceIte, Nat.reduceEqDiff, Nat.reduceAdd, Nat.reduceSub, Nat.reduceLeDiff, Nat.reduceLT, Nat.reduceBEq, reduceCtorEq, Int.reduceEq]
            refine AW.ift (by rfl) ?_
            refine AW.rseq ?_
            try simp only [↓wk, ↓wl, nc, evV, wrapBits_eq, ↓reduceIte, Nat.reduceEqDiff, Nat.reduceAdd, Nat.reduceSub, Nat.reduceLeDiff, Nat.reduceLT, Nat.reduceBEq, reduceCtorEq, Int.reduceEq]
            refine AW.ret ?_
            refine seqQ.ret ?_
            refine blkQ.ret ?_
            refine loopQ.ret H ?_ <;> clear H <;> intro H
            try dsimp only at H
            refine blk0.ret ?_
            refine seqQ.ret ?_
            cases H
            exact hQ _ _ _ _ (.inr rfl) (by simp only [resVs, omap, resV, ↓wk, ↓wl, nc, evV, wrapBits_eq, ↓reduceIte, Nat.reduceEqDiff, Nat.reduceAdd, Nat.reduceSub, Nat.reduceLeDiff, Nat.reduceLT, Nat.reduceBEq, reduceCtorEq, Int.reduceEq]; rfl) (hand_plain (by rfl)) (by rfl)
          · try simp only [↓wk, ↓wl, nc, evV, wrapBits_eq, ↓reduceIte, Nat.reduceEqDiff, Nat.reduceAdd, Nat.reduceSub, Nat.reduceLeDiff, Nat.reduceLT, Nat.reduceBEq, reduceCtorEq, Int.reduceEq]
            refine evTs_pure hFn H (fun _ h => f37_ok h) (by rfl) (by rfl) (by rfl) (by rfl) (fun _ => rfl) ?_ <;> clear H <;> intro r_2147 H
            try simp only [eL, ↓wk, ↓wl, nc, evV, wrapBits_eq, ↓reduceIte, Nat.reduceEqDiff, Nat.reduceAdd, Nat.reduceSub, Nat.reduceLeDiff, Nat.reduceLT, Nat.reduceBEq, reduceCtorEq, Int.reduceEq]
            refine evTs_ifg H (by rfl) ?_ ?_ <;> clear H <;> intro H
            · try simp only [↓wk, ↓wl, nc, evV, wrapBits_eq, ↓reduceIte, Nat.reduceEqDiff, Nat.reduceAdd, Nat.reduceSub, Nat.reduceLeDiff, Nat.reduceLT, Nat.reduceBEq, reduceCtorEq, Int.reduceEq]
              refine AW.ift (by rfl) ?_
              refine AW.rseq ?_
              try simp only [↓wk, ↓wl, nc, evV, wrapBits_eq, ↓reduceIte, Nat.reduceEqDiff, Nat.reduceAdd, Nat.reduceSub, Nat.reduceLeDiff, Nat.reduceLT, Nat.reduceBEq, reduceCtorEq, Int.reduceEq]
              refine AW.ret ?_
              refine seqQ.ret ?_
              refine blkQ.ret ?_
              refine loopQ.ret H ?_ <;> clear H <;> intro H
              try dsimp only at H
              refine blk0.ret ?_
              refine seqQ.ret ?_
              cases H
              exact hQ _ _ _ _ (.inr rfl) (by simp only [resVs, omap, resV, ↓wk, ↓wl, nc, evV, wrapBits_eq, ↓reduceIte, Nat.reduceEqDiff, Nat.reduceAdd, Nat.reduceSub, Nat.reduceLeDiff, Nat.reduceLT, Nat.reduceBEq, reduceCtorEq, Int.reduceEq]; rfl) (hand_plain (by rfl)) (by rfl)
            · try simp only [↓wk, ↓wl, nc, evV, wrapBits_eq, ↓reduceIte, Nat.reduceEqDiff, Nat.reduceAdd, Nat.reduceSub, Nat.reduceLeDiff, Nat.reduceLT, Nat.reduceBEq, reduceCtorEq, Int.reduceEq]
              refine evTs_pure hFn H (fun _ h => f37_ok h) (by rfl) (by rfl) (by rfl) (by rfl) (fun _ => rfl) ?_ <;> clear H <;> intro r_2148 H
              try simp only [eL, ↓wk, ↓wl, nc, evV, wrapBits_eq, ↓reduceIte, Nat.reduceEqDiff, Nat.reduceAdd, Nat.reduceSub, Nat.reduceLeDiff, Nat.reduceLT, Nat.reduceBEq, reduceCtorEq, Int.reduceEq]
              refine evTs_ifg H (by rfl) ?_ ?_ <;> clear H <;> intro H
              · try simp only [↓wk, ↓wl, nc, evV, wrapBits_eq, ↓reduceIte, Nat.reduceEqDiff, Nat.reduceAdd, Nat.reduceSub, Nat.reduceLeDiff, Nat.reduceLT, Nat.reduceBEq, reduceCtorEq, Int.reduceEq]
                refine AW.ift (by rfl) ?_
                refine AW.rseq ?_
                try simp only [↓wk, ↓wl, nc, evV, wrapBits_eq, ↓reduceIte, Nat.reduceEqDiff, Nat.reduceAdd, Nat.reduceSub, Nat.reduceLeDiff, Nat.reduceLT, Nat.reduceBEq, reduceCtorEq, Int.reduceEq]
                refine AW.ret ?_
                refine seqQ.ret ?_
                refine blkQ.ret ?_
                refine loopQ.ret H ?_ <;> clear H <;> intro H
                try dsimp only at H
                refine blk0.ret ?_
                refine seqQ.ret ?_
                cases H
                exact hQ _ _ _ _ (.inr rfl) (by simp only [resVs, omap, resV, ↓wk, ↓wl, nc, evV, wrapBits_eq, ↓reduceIte, Nat.reduceEqDiff, Nat.reduceAdd, Nat.reduceSub, Nat.reduceLeDiff, Nat.reduceLT, Nat.reduceBEq, reduceCtorEq, Int.reduceEq]; rfl) (hand_plain (by rfl)) (by rfl)
              · try simp only [↓wk, ↓wl, nc, evV, wrapBits_eq, ↓reduceIte, Nat.reduceEqDiff, Nat.reduceAdd, Nat.reduceSub, Nat.reduceLeDiff, Nat.reduceLT, Nat.reduceBEq, reduceCtorEq, Int.reduceEq]
                refine evTs_pure hFn H (fun _ h => f37_ok h) (by rfl) (by rfl) (by rfl) (by rfl) (fun _ => rfl) ?_ <;> clear H <;> intro r_2149 H
                try simp only [eL, ↓wk, ↓wl, nc, evV, wrapBits_eq, ↓reduceIte, Nat.reduceEqDiff, Nat.reduceAdd, Nat.reduceSub, Nat.reduceLeDiff, Nat.reduceLT, Nat.reduceBEq, reduceCtorEq, Int.reduceEq]
                refine AW.ifc H (by rfl) ?_ ?_ <;> clear H <;> intro H
                · refine AW.rseq ?_
                  try simp only [↓wk, ↓wl, nc, evV, wrapBits_eq, ↓reduceIte, Nat.reduceEqDiff, Nat.reduceAdd, Nat.reduceSub, Nat.reduceLeDiff, Nat.reduceLT, Nat.reduceBEq, reduceCtorEq, Int.reduceEq]
                  refine AW.ret ?_
                  refine seqQ.ret ?_
                  refine blkQ.ret ?_
                  refine loopQ.ret H ?_ <;> clear H <;> intro H
                  try dsimp only at H
                  refine blk0.ret ?_
                  refine seqQ.ret ?_
                  cases H
                  exact hQ _ _ _ _ (.inr rfl) (by simp only [resVs, omap, resV, ↓wk, ↓wl, nc, evV, wrapBits_eq, ↓reduceIte, Nat.reduceEqDiff, Nat.reduceAdd, Nat.reduceSub, Nat.reduceLeDiff, Nat.reduceLT, Nat.reduceBEq, reduceCtorEq, Int.reduceEq]; rfl) (hand_plain (by rfl)) (by rfl)
                · refine AW.skip ?_
                  refine seqQ.norm ?_
                  refine AW.sseq ?_
                  refine AW.rseq ?_
                  try simp only [↓wk, ↓wl, nc, evV, wrapBits_eq, ↓reduceIte, Nat.reduceEqDiff, Nat.reduceAdd, Nat.reduceSub, Nat.reduceLeDiff, Nat.reduceLT, Nat.reduceBEq, reduceCtorEq, Int.reduceEq]
                  refine AW.ifc H (by rfl) ?_ ?_ <;> clear H <;> intro H
                  · refine AW.rseq ?_
                    try simp only [↓wk, ↓wl, nc, evV, wrapBits_eq, ↓reduceIte, Nat.reduceEqDiff, Nat.reduceAdd, Nat.reduceSub, Nat.reduceLeDiff, Nat.reduceLT, Nat.reduceBEq, reduceCtorEq, Int.reduceEq]
                    refine AW.ret ?_
                    refine seqQ.ret ?_
                    refine blkQ.ret ?_
                    refine loopQ.ret H ?_ <;> clear H <;> intro H
                    try dsimp only at H
                    refine blk0.ret ?_
                    refine seqQ.ret ?_
                    cases H
                    exact hQ _ _ _ _ (.inr rfl) (by simp only [resVs, omap, resV, ↓wk, ↓wl, nc, evV, wrapBits_eq, ↓reduceIte, Nat.reduceEqDiff, Nat.reduceAdd, Nat.reduceSub, Nat.reduceLeDiff, Nat.reduceLT, Nat.reduceBEq, reduceCtorEq, Int.reduceEq]; rfl) (hand_plain (by rfl)) (by rfl)
                  · refine AW.skip ?_
                    refine seqQ.norm ?_
                    refine AW.rseq ?_
                    try simp only [↓wk, ↓wl, nc, evV, wrapBits_eq, ↓reduceIte, Nat.reduceEqDiff, Nat.reduceAdd, Nat.reduceSub, Nat.reduceLeDiff, Nat.reduceLT, Nat.reduceBEq, reduceCtorEq, Int.reduceEq]
                    refine evTs_ifg H (by rfl) ?_ ?_ <;> clear H <;> intro H
                    · try simp only [↓wk, ↓wl, nc, evV, wrapBits_eq, ↓reduceIte, Nat.reduceEqDiff, Nat.reduceAdd, Nat.reduceSub, Nat.reduceLeDiff, Nat.reduceLT, Nat.reduceBEq, reduceCtorEq, Int.reduceEq]
                      refine evTs_at (enc := eRef56Stream) H (by rfl) (by rfl) ?_ <;> clear H <;> intro x_2150 H
                      try simp only [eRef56Stream, eL, ↓wk, ↓wl, nc, evV, wrapBits_eq, ↓reduceIte, Nat.reduceEqDiff, Nat.reduceAdd, Nat.reduceSub, Nat.reduceLeDiff, Nat.reduceLT, Nat.reduceBEq, reduceCtorEq, Int.reduceEq]
                      refine AW.ifc H (by rfl) ?_ ?_ <;> clear H <;> intro H
                      · refine AW.rseq ?_
                        try simp only [↓wk, ↓wl, nc, evV, wrapBits_eq, ↓reduceIte, Nat.reduceEqDiff, Nat.reduceAdd, Nat.reduceSub, Nat.reduceLeDiff, Nat.reduceLT, Nat.reduceBEq, reduceCtorEq, Int.reduceEq]
                        refine AW.ret ?_
                        refine blkQ.ret ?_
                        refine loopQ.ret H ?_ <;> clear H <;> intro H
                        try dsimp only at H
                        refine blk0.ret ?_
                        refine seqQ.ret ?_
                        cases H
                        exact hQ _ _ _ _ (.inr rfl) (by simp only [resVs, omap, resV, ↓wk, ↓wl, nc, evV, wrapBits_eq, ↓reduceIte, Nat.reduceEqDiff, Nat.reduceAdd, Nat.reduceSub, Nat.reduceLeDiff, Nat.reduceLT, Nat.reduceBEq, reduceCtorEq, Int.reduceEq]; rfl) (hand_plain (by rfl)) (by rfl)
                      · refine AW.skip ?_
                        refine blkQ.norm ?_
                        refine AW.rend ?_
                        try simp only [↓wk, ↓wl, nc, evV, wrapBits_eq, ↓reduceIte, Nat.reduceEqDiff, Nat.reduceAdd, Nat.reduceSub, Nat.reduceLeDiff, Nat.reduceLT, Nat.reduceBEq, reduceCtorEq, Int.reduceEq]
                        exact loopQ.next H ((Le.none [0] [1, 5] (by decide) (by simp only [f21_L1, List.length_set, Option.map_some, restrict_eq, renS_nil, renS_cons, renB_els, renB_cel, renB_dead, deep_eq, map_ren_enc, ren_agg', ren_tup', ren_fn', ren_int', ren_bool', ren_str', ren_sl', ren_pro', ren_nilp', ren_nilfn', ren_junk', ren_ptr', ren_row', ren_arow', ren_eptr', vm, List.idxOf?_cons, List.idxOf?_nil, beq_self_eq_true, Option.map_none, List.getD_cons_zero, List.getD_cons_succ, ↓wk, ↓wl, nc, evV, wrapBits_eq, ↓reduceIte, Nat.reduceEqDiff, Nat.reduceAdd, Nat.reduceSub, Nat.reduceLeDiff, Nat.reduceLT, Nat.reduceBEq, reduceCtorEq, Int.reduceEq])))
                    · try simp only [↓wk, ↓wl, nc, evV, wrapBits_eq, ↓reduceIte, Nat.reduceEqDiff, Nat.reduceAdd, Nat.reduceSub, Nat.reduceLeDiff, Nat.reduceLT, Nat.reduceBEq, reduceCtorEq, Int.reduceEq]
                      refine AW.iff (by rfl) ?_
                      refine AW.skip ?_
                      refine blkQ.norm ?_
                      refine AW.rend ?_
                      try simp only [↓wk, ↓wl, nc, evV, wrapBits_eq, ↓reduceIte, Nat.reduceEqDiff, Nat.reduceAdd, Nat.reduceSub, Nat.reduceLeDiff, Nat.reduceLT, Nat.reduceBEq, reduceCtorEq, Int.reduceEq]
                      exact loopQ.next H ((Le.none [0] [1, 5] (by decide) (by simp only [f21_L1, List.length_set, Option.map_some, restrict_eq, renS_nil, renS_cons, renB_els, renB_cel, renB_dead, deep_eq, map_ren_enc, ren_agg', ren_tup', ren_fn', ren_int', ren_bool', ren_str', ren_sl', ren_pro', ren_nilp', ren_nilfn', ren_junk', ren_ptr', ren_row', ren_arow', ren_eptr', vm, List.idxOf?_cons, List.idxOf?_nil, beq_self_eq_true, Option.map_none, List.getD_cons_zero, List.getD_cons_succ, ↓wk, ↓wl, nc, evV, wrapBits_eq, ↓reduceIte, Nat.reduceEqDiff, Nat.reduceAdd, Nat.reduceSub, Nat.reduceLeDiff, Nat.reduceLT, Nat.reduceBEq, reduceCtorEq, Int.reduceEq])))
        · refine AW.exit ?_
          refine seqQ.exit ?_
          refine loopQ.exit H ?_ <;> clear H <;> intro H
          try dsimp only at H
          refine blk0.here ?_
          refine seqQ.norm ?_
          refine AW.rseq ?_
          try simp only [↓wk, ↓wl, nc, evV, wrapBits_eq, ↓reduceIte, Nat.reduceEqDiff, Nat.reduceAdd, Nat.reduceSub, Nat.reduceLeDiff, Nat.reduceLT, Nat.reduceBEq, reduceCtorEq, Int.reduceEq]
          refine AW.ret ?_
          cases H
          exact hQ _ _ _ _ (.inr rfl) (by simp only [resVs, omap, resV, ↓wk, ↓wl, nc, evV, wrapBits_eq, ↓reduceIte, Nat.reduceEqDiff, Nat.reduceAdd, Nat.reduceSub, Nat.reduceLeDiff, Nat.reduceLT, Nat.reduceBEq, reduceCtorEq, Int.reduceEq]; rfl) (hand_plain (by rfl)) (by rfl)
noncomputable def f47_L1 (s_2091 : Ref56Sender) (t_2092 : Int) : Lp (Int) ((Unit) ⊕ (Unit)) where
  body := fun i_2158 => (if (decide (i_2158 < ((s_2091.fStreams.length : Nat) : Int))) = true then (at? s_2091.fStreams i_2158).bind fun x_2160 => (if (decide (t_2092 < x_2160.fLast)) = true then (some (.brk (Sum.inr ()))) else (some (.next (IntKind.i64.wrap (i_2158 + 1))))) else (some (.brk (Sum.inl ()))))
  cst := fun i_2158 => ⟨put (put (put (fun _ => .junk) 6 (.int .i64 i_2158)) 2 (.ptr 0 0)) 1 (.int .i64 t_2092), [.cel [.int .u64 s_2091.fSource, .int .i64 s_2091.fPriority, .int .i64 s_2091.fSync, .int .i64 s_2091.fPulse, .sl 5 false (s_2091.fStreams.map eRef56Stream)]]⟩
def c47_0 : C := .cond (.t 10) (.seq (.reg [iI 11 (.mv (.t 5)), iI 4 (.mv (.t 11))]) .ret) (.skip)
def c47_1 : C := .seq (.reg [iI 9 (.mv (.t 5)), iI 10 (.bin .neq (.t 9) (.c (.int .i64 0)))]) c47_0
def c47_2 : C := .cond (.t 14) (.seq (.reg [iI 4 (.mv (.c (.int .i64 2)))]) .ret) (.skip)
def c47_3 : C := .cond (.t 19) (.skip) (.exit 0)
def c47_4 : C := .cond (.t 29) (.seq (.reg [iI 4 (.mv (.c (.int .i64 9)))]) .ret) (.skip)
def c47_5 : C := .reg [iI 20 (.mv (.t 6)), iI 21 (.bin .add (.t 20) (.c (.int .i64 1))), iI 6 (.mv (.t 21))]
def c47_6 : C := .seq (.block 1 (.seq (.reg [iI 22 (.mv (.t 1)), iI 23 (.faddr 4 (.t 2)), iI 24 (.load 0 (.t 23)), iI 25 (.mv (.t 6)), iI 26 (.iaddr 5 (.t 24) (.t 25)), iI 27 (.faddr 2 (.t 26)), iI 28 (.load 0 (.t 27)), iI 29 (.bin .lss (.t 22) (.t 28))]) c47_4)) c47_5
def c47_7 : C := .block 0 (.loop (.seq (.seq (.reg [iI 15 (.mv (.t 6)), iI 16 (.faddr 4 (.t 2)), iI 17 (.load 0 (.t 16)), iI 18 (.len 0 (.t 17)), iI 19 (.bin .lss (.t 15) (.t 18))]) c47_3) c47_6))
def c47_8 : C := .seq (.reg [iI 4 (.mv (.c (.int .i64 0)))]) .ret
def c47_9 : C := .seq (.seq (.reg [iI 6 (.mv (.c (.int .i64 0)))]) c47_7) c47_8
def c47_10 : C := .seq (.seq (.reg [iI 12 (.mv (.t 1)), iI 13 (.call (.c (.fn 37 [])) [(.t 12), (.c (.int .i64 0)), (.c (.int .i64 10000000))]), iI 14 (.un .not (.t 13))]) c47_2) c47_9
def c47_11 : C := .seq (.seq (.reg [iI 7 (.load 5 (.t 2)), iI 8 (.call (.c (.fn 21 [])) [(.t 7)]), iI 5 (.mv (.t 8))]) c47_1) c47_10
def ir47 : C := .seq (.reg [iI 2 (.box (.t 0)), iI 4 (.mv (.c (.int .i64 0)))]) c47_11
theorem fd47 : fd? Try.prog 47 = some (30, [.slot 4], ir47) := by kernel_rfl
noncomputable def f47 (s_2091 : Ref56Sender) (t_2092 : Int) : Option (Int) :=
  (f21 s_2091).bind fun r_2152 => (if (decide (r_2152 ≠ 0)) = true then (some r_2152) else (f37 t_2092 0 10000000).bind fun r_2154 => (if (!r_2154) = true then (some 2) else ((Lp.run (f47_L1 s_2091 t_2092) 0).bind fun r_ => match r_ with | (Sum.inl _) => (some 0) | (Sum.inr _) => (some 9))))
theorem f47_ok {s_2091 : Ref56Sender} {t_2092 : Int} {r_ : Int} (H : f47 s_2091 t_2092 = some r_) : Pure Try.prog 47 [.agg [.int .u64 s_2091.fSource, .int .i64 s_2091.fPriority, .int .i64 s_2091.fSync, .int .i64 s_2091.fPulse, .sl 5 false (s_2091.fStreams.map eRef56Stream)], .int .i64 t_2092] (· = .int .i64 r_) := by
  refine Pure.walk2 fd47 none (Nat.le_of_ble_eq_true rfl) (by rfl) fun Q hQ => ?_
  simp only [f47] at H
  refine AW.rseq ?_
  try simp only [↓wk, ↓wl, nc, evV, wrapBits_eq, ↓reduceIte, Nat.reduceEqDiff, Nat.reduceAdd, Nat.reduceSub, Nat.reduceLeDiff, Nat.reduceLT, Nat.reduceBEq, reduceCtorEq, Int.reduceEq]
  refine AW.sseq ?_
  refine AW.rseq ?_
  try simp only [↓wk, ↓wl, nc, evV, wrapBits_eq, ↓reduceIte, Nat.reduceEqDiff, Nat.reduceAdd, Nat.reduceSub, Nat.reduceLeDiff, Nat.reduceLT, Nat.reduceBEq, reduceCtorEq, Int.reduceEq]
  refine evTs_pure hFn H (fun _ h => f21_ok h) (by rfl) (by rfl) (by rfl) (by rfl) (fun _ => rfl) ?_ <;> clear H <;> intro r_2152 H
  try simp only [eL, ↓wk, ↓wl, nc, evV, wrapBits_eq, ↓reduceIte, Nat.reduceEqDiff, Nat.reduceAdd, Nat.reduceSub, Nat.reduceLeDiff, Nat.reduceLT, Nat.reduceBEq, reduceCtorEq, Int.reduceEq]
  refine AW.rseq ?_
  try simp only [↓wk, ↓wl, nc, evV, wrapBits_eq, ↓reduceIte, Nat.reduceEqDiff, Nat.reduceAdd, Nat.reduceSub, Nat.reduceLeDiff, Nat.reduceLT, Nat.reduceBEq, reduceCtorEq, Int.reduceEq]
  refine AW.ifc H (by rfl) ?_ ?_ <;> clear H <;> intro H
  · refine AW.rseq ?_
    try simp only [↓wk, ↓wl, nc, evV, wrapBits_eq, ↓reduceIte, Nat.reduceEqDiff, Nat.reduceAdd, Nat.reduceSub, Nat.reduceLeDiff, Nat.reduceLT, Nat.reduceBEq, reduceCtorEq, Int.reduceEq]
    refine AW.ret ?_
    refine seqQ.ret ?_
    cases H
    exact hQ _ _ _ _ (.inr rfl) (by simp only [resVs, omap, resV, ↓wk, ↓wl, nc, evV, wrapBits_eq, ↓reduceIte, Nat.reduceEqDiff, Nat.reduceAdd, Nat.reduceSub, Nat.reduceLeDiff, Nat.reduceLT, Nat.reduceBEq, reduceCtorEq, Int.reduceEq]; rfl) (hand_plain (by rfl)) (by rfl)
  · refine AW.skip ?_
    refine seqQ.norm ?_
    refine AW.sseq ?_
    refine AW.rseq ?_
    try simp only [↓wk, ↓wl, nc, evV, wrapBits_eq, ↓reduceIte, Nat.reduceEqDiff, Nat.reduceAdd, Nat.reduceSub, Nat.reduceLeDiff, Nat.reduceLT, Nat.reduceBEq, reduceCtorEq, Int.reduceEq]
    refine evTs_pure hFn H (fun _ h => f37_ok h) (by rfl) (by rfl) (by rfl) (by rfl) (fun _ => rfl) ?_ <;> clear H <;> intro r_2154 H
    try simp only [eL, ↓wk, ↓wl, nc, evV, wrapBits_eq, ↓reduceIte, Nat.reduceEqDiff, Nat.reduceAdd, Nat.reduceSub, Nat.reduceLeDiff, Nat.reduceLT, Nat.reduceBEq, reduceCtorEq, Int.reduceEq]
    refine AW.ifc H (by rfl) ?_ ?_ <;> clear H <;> intro H
    · refine AW.rseq ?_
      try simp only [↓wk, ↓wl, nc, evV, wrapBits_eq, ↓reduceIte, Nat.reduceEqDiff, Nat.reduceAdd, Nat.reduceSub, Nat.reduceLeDiff, Nat.reduceLT, Nat.reduceBEq, reduceCtorEq, Int.reduceEq]
      refine AW.ret ?_
      refine seqQ.ret ?_
      cases H
      exact hQ _ _ _ _ (.inr rfl) (by simp only [resVs, omap, resV, ↓wk, ↓wl, nc, evV, wrapBits_eq, ↓reduceIte, Nat.reduceEqDiff, Nat.reduceAdd, Nat.reduceSub, Nat.reduceLeDiff, Nat.reduceLT, Nat.reduceBEq, reduceCtorEq, Int.reduceEq]; rfl) (hand_plain (by rfl)) (by rfl)
    · refine AW.skip ?_
      refine seqQ.norm ?_
      refine AW.sseq ?_
      refine AW.rseq ?_
      try simp only [↓wk, ↓wl, nc, evV, wrapBits_eq, ↓reduceIte, Nat.reduceEqDiff, Nat.reduceAdd, Nat.reduceSub, Nat.reduceLeDiff, Nat.reduceLT, Nat.reduceBEq, reduceCtorEq, Int.reduceEq]
      refine AW.bend ?_
      refine AW.iter H ((Le.none [0] [1, 2, 6] (by decide) (by simp only [f47_L1, List.length_set, Option.map_some, restrict_eq, renS_nil, renS_cons, renB_els, renB_cel, renB_dead, deep_eq, map_ren_enc, ren_agg', ren_tup', ren_fn', ren_int', ren_bool', ren_str', ren_sl', ren_pro', ren_nilp', ren_nilfn', ren_junk', ren_ptr', ren_row', ren_arow', ren_eptr', vm, List.idxOf?_cons, List.idxOf?_nil, beq_self_eq_true, Option.map_none, List.getD_cons_zero, List.getD_cons_succ, ↓wk, ↓wl, nc, evV, wrapBits_eq, ↓reduceIte, Nat.reduceEqDiff, Nat.reduceAdd, Nat.reduceSub, Nat.reduceLeDiff, Nat.reduceLT, Nat.reduceBEq, reduceCtorEq, Int.reduceEq]))) ?_ <;> clear H
      rintro i_2158 x_ st0_ H hst_
      simp only [f47_L1] at H hst_
      subst hst_
      refine AW.sseq ?_
      refine AW.rseq ?_
      try simp only [↓wk, ↓wl, nc, evV, wrapBits_eq, ↓reduceIte, Nat.reduceEqDiff, Nat.reduceAdd, Nat.reduceSub, Nat.reduceLeDiff, Nat.reduceLT, Nat.reduceBEq, reduceCtorEq, Int.reduceEq]
      refine AW.ifc H (by rfl) ?_ ?_ <;> clear H <;> intro H
      · refine AW.skip ?_
        refine seqQ.norm ?_
        refine AW.bseq ?_
        refine AW.rseq ?_
        try simp only [↓wk, ↓wl, nc, evV, wrapBits_eq, ↓reduceIte, Nat.reduceEqDiff, Nat.reduceAdd, Nat.reduceSub, Nat.reduceLeDiff, Nat.reduceLT, Nat.reduceBEq, reduceCtorEq, Int.reduceEq]
        refine evTs_at (enc := eRef56Stream) H (by rfl) (by rfl) ?_ <;> clear H <;> intro x_2160 H
        try simp only [eRef56Stream, eL, ↓wk, ↓wl, nc, evV, wrapBits_eq, ↓reduceIte, Nat.reduceEqDiff, Nat.reduceAdd, Nat.reduceSub, Nat.reduceLeDiff, Nat.reduceLT, Nat.reduceBEq, reduceCtorEq, Int.reduceEq]
        refine AW.ifc H (by rfl) ?_ ?_ <;> clear H <;> intro H
        · refine AW.rseq ?_
          try simp only [↓wk, ↓wl, nc, evV, wrapBits_eq, ↓reduceIte, Nat.reduceEqDiff, Nat.reduceAdd, Nat.reduceSub, Nat.reduceLeDiff, Nat.reduceLT, Nat.reduceBEq, reduceCtorEq, Int.reduceEq]
          refine AW.ret ?_
          refine blkQ.ret ?_
          refine loopQ.ret H ?_ <;> clear H <;> intro H
          try dsimp only at H
          refine blk0.ret ?_
          refine seqQ.ret ?_
          cases H
          exact hQ _ _ _ _ (.inr rfl) (by simp only [resVs, omap, resV, ↓wk, ↓wl, nc, evV, wrapBits_eq, ↓reduceIte, Nat.reduceEqDiff, Nat.reduceAdd, Nat.reduceSub, Nat.reduceLeDiff, Nat.reduceLT, Nat.reduceBEq, reduceCtorEq, Int.reduceEq]; rfl) (hand_plain (by rfl)) (by rfl)
        · refine AW.skip ?_
          refine blkQ.norm ?_
          refine AW.rend ?_
          try simp only [↓wk, ↓wl, nc, evV, wrapBits_eq, ↓reduceIte, Nat.reduceEqDiff, Nat.reduceAdd, Nat.reduceSub, Nat.reduceLeDiff, Nat.reduceLT, Nat.reduceBEq, reduceCtorEq, Int.reduceEq]
          exact loopQ.next H ((Le.none [0] [1, 2, 6] (by decide) (by simp only [f47_L1, List.length_set, Option.map_some, restrict_eq, renS_nil, renS_cons, renB_els, renB_cel, renB_dead, deep_eq, map_ren_enc, ren_agg', ren_tup', ren_fn', ren_int', ren_bool', ren_str', ren_sl', ren_pro', ren_nilp', ren_nilfn', ren_junk', ren_ptr', ren_row', ren_arow', ren_eptr', vm, List.idxOf?_cons, List.idxOf?_nil, beq_self_eq_true, Option.map_none, List.getD_cons_zero, List.getD_cons_succ, ↓wk, ↓wl, nc, evV, wrapBits_eq, ↓reduceIte, Nat.reduceEqDiff, Nat.reduceAdd, Nat.reduceSub, Nat.reduceLeDiff, Nat.reduceLT, Nat.reduceBEq, reduceCtorEq, Int.reduceEq])))
      · refine AW.exit ?_
        refine seqQ.exit ?_
        refine loopQ.exit H ?_ <;> clear H <;> intro H
        try dsimp only at H
        refine blk0.here ?_
        refine seqQ.norm ?_
        refine AW.rseq ?_
        try simp only [↓wk, ↓wl, nc, evV, wrapBits_eq, ↓reduceIte, Nat.reduceEqDiff, Nat.reduceAdd, Nat.reduceSub, Nat.reduceLeDiff, Nat.reduceLT, Nat.reduceBEq, reduceCtorEq, Int.reduceEq]
        refine AW.ret ?_
        cases H
        exact hQ _ _ _ _ (.inr rfl) (by simp only [resVs, omap, resV, ↓wk, ↓wl, nc, evV, wrapBits_eq, ↓reduceIte, Nat.reduceEqDiff, Nat.reduceAdd, Nat.reduceSub, Nat.reduceLeDiff, Nat.reduceLT, Nat.reduceBEq, reduceCtorEq, Int.reduceEq]; rfl) (hand_plain (by rfl)) (by rfl)
noncomputable def f48_L1 (l_2163 : (List ApiFrame)) : Lp (Int) ((Unit) ⊕ (Int)) where
  body := fun i_2181 => (if (decide (i_2181 < ((l_2163.length : Nat) : Int))) = true then (at? l_2163 i_2181).bind fun x_2193 => (if (decide (x_2193.fUniverse < 1)) = true then (some (.brk (Sum.inr 2))) else (at? l_2163 i_2181).bind fun x_2194 => (if (decide (8 < x_2194.fUniverse)) = true then (some (.brk (Sum.inr 2))) else (at? l_2163 i_2181).bind fun x_2196 => (if (decide (((x_2196.fSlots.length : Nat) : Int) ≠ 512)) = true then (some (.brk (Sum.inr 14))) else (if (decide (0 < i_2181)) = true then (at? l_2163 i_2181).bind fun x_2197 => (at? l_2163 (IntKind.i64.wrap (i_2181 - 1))).bind fun x_2198 => (if (decide (x_2197.fUniverse ≤ x_2198.fUniverse)) = true then (some (.brk (Sum.inr 9))) else (some (.next (IntKind.i64.wrap (i_2181 + 1))))) else (some (.next (IntKind.i64.wrap (i_2181 + 1)))))))) else (some (.brk (Sum.inl ()))))
  cst := fun i_2181 => ⟨put (put (fun _ => .junk) 3 (.int .i64 i_2181)) 0 (.sl 2 false (l_2163.map eApiFrame)), []⟩
def c48_0 : C := .cond (.t 6) (.seq (.reg [iI 2 (.mv (.c (.int .i64 5)))]) .ret) (.skip)
def c48_1 : C := .cond (.t 10) (.skip) (.exit 0)
def c48_2 : C := .cond (.t 26) (.seq (.reg [iI 2 (.mv (.c (.int .i64 2)))]) .ret) (.skip)
def c48_3 : C := .cond (.t 33) (.seq (.reg [iI 2 (.mv (.c (.int .i64 14)))]) .ret) (.skip)
def c48_4 : C := .cond (.t 49) (.seq (.reg [iI 2 (.mv (.c (.int .i64 9)))]) .ret) (.skip)
def c48_5 : C := .seq (.reg [iI 34 (.mv (.t 3)), iI 35 (.bin .gtr (.t 34) (.c (.int .i64 0))), iI 36 (.mv (.t 35)), iG (some 37) 36 true (.mv (.t 0)), iG (some 38) 36 true (.mv (.t 3)), iG (some 39) 36 true (.iaddr 2 (.t 37) (.t 38)), iG (some 40) 36 true (.faddr 0 (.t 39)), iG (some 41) 36 true (.load 0 (.t 40)), iG (some 42) 36 true (.mv (.t 0)), iG (some 43) 36 true (.mv (.t 3)), iG (some 44) 36 true (.bin .sub (.t 43) (.c (.int .i64 1))), iG (some 45) 36 true (.iaddr 2 (.t 42) (.t 44)), iG (some 46) 36 true (.faddr 0 (.t 45)), iG (some 47) 36 true (.load 0 (.t 46)), iG (some 48) 36 true (.bin .leq (.t 41) (.t 47)), iI 49 (.pick (.t 36) (.t 48) (.c (.bool false)))]) c48_4
def c48_6 : C := .seq (.seq (.reg [iI 27 (.mv (.t 0)), iI 28 (.mv (.t 3)), iI 29 (.iaddr 2 (.t 27) (.t 28)), iI 30 (.faddr 1 (.t 29)), iI 31 (.load 0 (.t 30)), iI 32 (.len 1 (.t 31)), iI 33 (.bin .neq (.t 32) (.c (.int .i64 512)))]) c48_3) c48_5
def c48_7 : C := .reg [iI 11 (.mv (.t 3)), iI 12 (.bin .add (.t 11) (.c (.int .i64 1))), iI 3 (.mv (.t 12))]
def c48_8 : C := .seq (.block 1 (.seq (.seq (.reg [iI 13 (.mv (.t 0)), iI 14 (.mv (.t 3)), iI 15 (.iaddr 2 (.t 13) (.t 14)), iI 16 (.faddr 0 (.t 15)), iI 17 (.load 0 (.t 16)), iI 18 (.bin .lss (.t 17) (.c (.int .i64 1))), iI 19 (.mv (.t 18)), iG (some 20) 19 false (.mv (.t 0)), iG (some 21) 19 false (.mv (.t 3)), iG (some 22) 19 false (.iaddr 2 (.t 20) (.t 21)), iG (some 23) 19 false (.faddr 0 (.t 22)), iG (some 24) 19 false (.load 0 (.t 23)), iG (some 25) 19 false (.bin .gtr (.t 24) (.c (.int .i64 8))), iI 26 (.pick (.t 19) (.c (.bool true)) (.t 25))]) c48_2) c48_6)) c48_7
def c48_9 : C := .block 0 (.loop (.seq (.seq (.reg [iI 7 (.mv (.t 3)), iI 8 (.mv (.t 0)), iI 9 (.len 0 (.t 8)), iI 10 (.bin .lss (.t 7) (.t 9))]) c48_1) c48_8))
def c48_10 : C := .seq (.reg [iI 2 (.mv (.c (.int .i64 0)))]) .ret
def c48_11 : C := .seq (.seq (.reg [iI 3 (.mv (.c (.int .i64 0)))]) c48_9) c48_10
def c48_12 : C := .seq (.seq (.reg [iI 4 (.mv (.t 0)), iI 5 (.len 0 (.t 4)), iI 6 (.bin .gtr (.t 5) (.c (.int .i64 8)))]) c48_0) c48_11
def ir48 : C := .seq (.reg [iI 2 (.mv (.c (.int .i64 0)))]) c48_12
theorem fd48 : fd? Try.prog 48 = some (50, [.slot 2], ir48) := by kernel_rfl
noncomputable def f48 (l_2163 : (List ApiFrame)) : Option (Int) :=
  (if (decide (8 < ((l_2163.length : Nat) : Int))) = true then (some 5) else ((Lp.run (f48_L1 l_2163) 0).bind fun r_ => match r_ with | (Sum.inl _) => (some 0) | (Sum.inr v_2190) => (some v_2190)))
theorem f48_ok {l_2163 : (List ApiFrame)} {r_ : Int} (H : f48 l_2163 = some r_) : Pure Try.prog 48 [.sl 2 false (l_2163.map eApiFrame)] (· = .int .i64 r_) := by
  refine Pure.walk2 fd48 none (Nat.le_of_ble_eq_true rfl) (by rfl) fun Q hQ => ?_
  simp only [f48] at H
  refine AW.rseq ?_
  try simp only [↓wk, ↓wl, nc, evV, wrapBits_eq, ↓reduceIte, Nat.reduceEqDiff, Nat.reduceAdd, Nat.reduceSub, Nat.reduceLeDiff, Nat.reduceLT, Nat.reduceBEq, reduceCtorEq, Int.reduceEq]
  refine AW.sseq ?_
  refine AW.rseq ?_
  try simp only [↓wk, ↓wl, nc, evV, wrapBits_eq, ↓reduceIte, Nat.reduceEqDiff, Nat.reduceAdd, Nat.reduceSub, Nat.reduceLeDiff, Nat.reduceLT, Nat.reduceBEq, reduceCtorEq, Int.reduceEq]
  refine AW.ifc H (by rfl) ?_ ?_ <;> clear H <;> intro H
  · refine AW.rseq ?_
    try simp only [↓wk, ↓wl, nc, evV, wrapBits_eq, ↓reduceIte, Nat.reduceEqDiff, Nat.reduceAdd, Nat.reduceSub, Nat.reduceLeDiff, Nat.reduceLT, Nat.reduceBEq, reduceCtorEq, Int.reduceEq]
    refine AW.ret ?_
    refine seqQ.ret ?_
    cases H
    exact hQ _ _ _ _ (.inr rfl) (by simp only [resVs, omap, resV, ↓wk, ↓wl, nc, evV, wrapBits_eq, ↓reduceIte, Nat.reduceEqDiff, Nat.reduceAdd, Nat.reduceSub, Nat.reduceLeDiff, Nat.reduceLT, Nat.reduceBEq, reduceCtorEq, Int.reduceEq]; rfl) (hand_plain (by rfl)) (by rfl)
  · refine AW.skip ?_
    refine seqQ.norm ?_
    refine AW.sseq ?_
    refine AW.rseq ?_
    try simp only [↓wk, ↓wl, nc, evV, wrapBits_eq, ↓reduceIte, Nat.reduceEqDiff, Nat.reduceAdd, Nat.reduceSub, Nat.reduceLeDiff, Nat.reduceLT, Nat.reduceBEq, reduceCtorEq, Int.reduceEq]
    refine AW.bend ?_
    refine AW.iter H ((Le.none [] [0, 3] (by decide) (by simp only [f48_L1, List.length_set, Option.map_some, restrict_eq, renS_nil, renS_cons, renB_els, renB_cel, renB_dead, deep_eq, map_ren_enc, ren_agg', ren_tup', ren_fn', ren_int', ren_bool', ren_str', ren_sl', ren_pro', ren_nilp', ren_nilfn', ren_junk', ren_ptr', ren_row', ren_arow', ren_eptr', vm, List.idxOf?_cons, List.idxOf?_nil, beq_self_eq_true, Option.map_none, List.getD_cons_zero, List.getD_cons_succ, ↓wk, ↓wl, nc, evV, wrapBits_eq, ↓reduceIte, Nat.reduceEqDiff, Nat.reduceAdd, Nat.reduceSub, Nat.reduceLeDiff, Nat.reduceLT, Nat.reduceBEq, reduceCtorEq, Int.reduceEq]))) ?_ <;> clear H
    rintro i_2181 x_ st0_ H hst_
    simp only [f48_L1] at H hst_
    subst hst_
    refine AW.sseq ?_
    refine AW.rseq ?_
    try simp only [↓wk, ↓wl, nc, evV, wrapBits_eq, ↓reduceIte, Nat.reduceEqDiff, Nat.reduceAdd, Nat.reduceSub, Nat.reduceLeDiff, Nat.reduceLT, Nat.reduceBEq, reduceCtorEq, Int.reduceEq]
    refine AW.ifc H (by rfl) ?_ ?_ <;> clear H <;> intro H
    · refine AW.skip ?_
      refine seqQ.norm ?_
      refine AW.bseq ?_
      refine AW.sseq ?_
      refine AW.rseq ?_
      try simp only [↓wk, ↓wl, nc, evV, wrapBits_eq, ↓reduceIte, Nat.reduceEqDiff, Nat.reduceAdd, Nat.reduceSub, Nat.reduceLeDiff, Nat.reduceLT, Nat.reduceBEq, reduceCtorEq, Int.reduceEq]
      refine evTs_at (enc := eApiFrame) H (by rfl) (by rfl) ?_ <;> clear H <;> intro x_2193 H
      try simp only [eApiFrame, eL, ↓wk, ↓wl, nc, evV, wrapBits_eq, ↓reduceIte, Nat.reduceEqDiff, Nat.reduceAdd, Nat.reduceSub, Nat.reduceLeDiff, Nat.reduceLT, Nat.reduceBEq, reduceCtorEq, Int.reduceEq]
      refine evTs_ifg H (by rfl) ?_ ?_ <;> clear H <;> intro H
      · try simp only [↓wk, ↓wl, nc, evV, wrapBits_eq, ↓reduceIte, Nat.reduceEqDiff, Nat.reduceAdd, Nat.reduceSub, Nat.reduceLeDiff, Nat.reduceLT, Nat.reduceBEq, reduceCtorEq, Int.reduceEq]
        refine AW.ift (by rfl) ?_
        refine AW.rseq ?_
        try simp only [↓wk, ↓wl, nc, evV, wrapBits_eq, ↓reduceIte, Nat.reduceEqDiff, Nat.reduceAdd, Nat.reduceSub, Nat.reduceLeDiff, Nat.reduceLT, Nat.reduceBEq, reduceCtorEq, Int.reduceEq]
        refine AW.ret ?_
        refine seqQ.ret ?_
        refine blkQ.ret ?_
        refine loopQ.ret H ?_ <;> clear H <;> intro H
        try dsimp only at H
        refine blk0.ret ?_
        refine seqQ.ret ?_
        cases H
        exact hQ _ _ _ _ (.inr rfl) (by simp only [resVs, omap, resV, ↓wk, ↓wl, nc, evV, wrapBits_eq, ↓reduceIte, Nat.reduceEqDiff, Nat.reduceAdd, Nat.reduceSub, Nat.reduceLeDiff, Nat.reduceLT, Nat.reduceBEq, reduceCtorEq, Int.reduceEq]; rfl) (hand_plain (by rfl)) (by rfl)
      · try simp only [↓wk, ↓wl, nc, evV, wrapBits_eq, ↓reduceIte, Nat.reduceEqDiff, Nat.reduceAdd, Nat.reduceSub, Nat.reduceLeDiff, Nat.reduceLT, Nat.reduceBEq, reduceCtorEq, Int.reduceEq]
        refine evTs_at (enc := eApiFrame) H (by rfl) (by rfl) ?_ <;> clear H <;> intro x_2194 H
        try simp only [eApiFrame, eL, ↓wk, ↓wl, nc, evV, wrapBits_eq, ↓reduceIte, Nat.reduceEqDiff, Nat.reduceAdd, Nat.reduceSub, Nat.reduceLeDiff, Nat.reduceLT, Nat.reduceBEq, reduceCtorEq, Int.reduceEq]
        refine AW.ifc H (by rfl) ?_ ?_ <;> clear H <;> intro H
        · refine AW.rseq ?_
          try simp only [↓wk, ↓wl, nc, evV, wrapBits_eq, ↓reduceIte, Nat.reduceEqDiff, Nat.reduceAdd, Nat.reduceSub, Nat.reduceLeDiff, Nat.reduceLT, Nat.reduceBEq, reduceCtorEq, Int.reduceEq]
          refine AW.ret ?_
          refine seqQ.ret ?_
          refine blkQ.ret ?_
          refine loopQ.ret H ?_ <;> clear H <;> intro H
          try dsimp only at H
          refine blk0.ret ?_
          refine seqQ.ret ?_
          cases H
          exact hQ _ _ _ _ (.inr rfl) (by simp only [resVs, omap, resV, ↓wk, ↓wl, nc, evV, wrapBits_eq, ↓reduceIte, Nat.reduceEqDiff, Nat.reduceAdd, Nat.reduceSub, Nat.reduceLeDiff, Nat.reduceLT, Nat.reduceBEq, reduceCtorEq, Int.reduceEq]; rfl) (hand_plain (by rfl)) (by rfl)
        · refine AW.skip ?_
          refine seqQ.norm ?_
          refine AW.sseq ?_
          refine AW.rseq ?_
          try simp only [↓wk, ↓wl, nc, evV, wrapBits_eq, ↓reduceIte, Nat.reduceEqDiff, Nat.reduceAdd, Nat.reduceSub, Nat.reduceLeDiff, Nat.reduceLT, Nat.reduceBEq, reduceCtorEq, Int.reduceEq]
          refine evTs_at (enc := eApiFrame) H (by rfl) (by rfl) ?_ <;> clear H <;> intro x_2196 H
          try simp only [eApiFrame, eL, ↓wk, ↓wl, nc, evV, wrapBits_eq, ↓reduceIte, Nat.reduceEqDiff, Nat.reduceAdd, Nat.reduceSub, Nat.reduceLeDiff, Nat.reduceLT, Nat.reduceBEq, reduceCtorEq, Int.reduceEq]
          refine AW.ifc H (by rfl) ?_ ?_ <;> clear H <;> intro H
          · refine AW.rseq ?_
            try simp only [↓wk, ↓wl, nc, evV, wrapBits_eq, ↓reduceIte, Nat.reduceEqDiff, Nat.reduceAdd, Nat.reduceSub, Nat.reduceLeDiff, Nat.reduceLT, Nat.reduceBEq, reduceCtorEq, Int.reduceEq]
            refine AW.ret ?_
            refine seqQ.ret ?_
            refine blkQ.ret ?_
            refine loopQ.ret H ?_ <;> clear H <;> intro H
            try dsimp only at H
            refine blk0.ret ?_
            refine seqQ.ret ?_
            cases H
            exact hQ _ _ _ _ (.inr rfl) (by simp only [resVs, omap, resV, ↓wk, ↓wl, nc, evV, wrapBits_eq, ↓reduceIte, Nat.reduceEqDiff, Nat.reduceAdd, Nat.reduceSub, Nat.reduceLeDiff, Nat.reduceLT, Nat.reduceBEq, reduceCtorEq, Int.reduceEq]; rfl) (hand_plain (by rfl)) (by rfl)
          · refine AW.skip ?_
            refine seqQ.norm ?_
            refine AW.rseq ?_
            try simp only [↓wk, ↓wl, nc, evV, wrapBits_eq, ↓reduceIte, Nat.reduceEqDiff, Nat.reduceAdd, Nat.reduceSub, Nat.reduceLeDiff, Nat.reduceLT, Nat.reduceBEq, reduceCtorEq, Int.reduceEq]
            refine evTs_ifg H (by rfl) ?_ ?_ <;> clear H <;> intro H
            · try simp only [↓wk, ↓wl, nc, evV, wrapBits_eq, ↓reduceIte, Nat.reduceEqDiff, Nat.reduceAdd, Nat.reduceSub, Nat.reduceLeDiff, Nat.reduceLT, Nat.reduceBEq, reduceCtorEq, Int.reduceEq]
              refine evTs_at (enc := eApiFrame) H (by rfl) (by rfl) ?_ <;> clear H <;> intro x_2197 H
              try simp only [eApiFrame, eL, ↓wk, ↓wl, nc, evV, wrapBits_eq, ↓reduceIte, Nat.reduceEqDiff, Nat.reduceAdd, Nat.reduceSub, Nat.reduceLeDiff, Nat.reduceLT, Nat.reduceBEq, reduceCtorEq, Int.reduceEq]
              refine evTs_at (enc := eApiFrame) H (by rfl) (by rfl) ?_ <;> clear H <;> intro x_2198 H
              try simp only [eApiFrame, eL, ↓wk, ↓wl, nc, evV, wrapBits_eq, ↓reduceIte, Nat.reduceEqDiff, Nat.reduceAdd, Nat.reduceSub, Nat.reduceLeDiff, Nat.reduceLT, Nat.reduceBEq, reduceCtorEq, Int.reduceEq]
              refine AW.ifc H (by rfl) ?_ ?_ <;> clear H <;> intro H
              · refine AW.rseq ?_
                try simp only [↓wk, ↓wl, nc, evV, wrapBits_eq, ↓reduceIte, Nat.reduceEqDiff, Nat.reduceAdd, Nat.reduceSub, Nat.reduceLeDiff, Nat.reduceLT, Nat.reduceBEq, reduceCtorEq, Int.reduceEq]
                refine AW.ret ?_
                refine blkQ.ret ?_
                refine loopQ.ret H ?_ <;> clear H <;> intro H
                try dsimp only at H
                refine blk0.ret ?_
                refine seqQ.ret ?_
                cases H
                exact hQ _ _ _ _ (.inr rfl) (by simp only [resVs, omap, resV, ↓wk, ↓wl, nc, evV, wrapBits_eq, ↓reduceIte, Nat.reduceEqDiff, Nat.reduceAdd, Nat.reduceSub, Nat.reduceLeDiff, Nat.reduceLT, Nat.reduceBEq, reduceCtorEq, Int.reduceEq]; rfl) (hand_plain (by rfl)) (by rfl)
              · refine AW.skip ?_
                refine blkQ.norm ?_
                refine AW.rend ?_
                try simp only [↓wk, ↓wl, nc, evV, wrapBits_eq, ↓reduceIte, Nat.reduceEqDiff, Nat.reduceAdd, Nat.reduceSub, Nat.reduceLeDiff, Nat.reduceLT, Nat.reduceBEq, reduceCtorEq, Int.reduceEq]
                exact loopQ.next H ((Le.none [] [0, 3] (by decide) (by simp only [f48_L1, List.length_set, Option.map_some, restrict_eq, renS_nil, renS_cons, renB_els, renB_cel, renB_dead, deep_eq, map_ren_enc, ren_agg', ren_tup', ren_fn', ren_int', ren_bool', ren_str', ren_sl', ren_pro', ren_nilp', ren_nilfn', ren_junk', ren_ptr', ren_row', ren_arow', ren_eptr', vm, List.idxOf?_cons, List.idxOf?_nil, beq_self_eq_true, Option.map_none, List.getD_cons_zero, List.getD_cons_succ, ↓wk, ↓wl, nc, evV, wrapBits_eq, ↓reduceIte, Nat.reduceEqDiff, Nat.reduceAdd, Nat.reduceSub, Nat.reduceLeDiff, Nat.reduceLT, Nat.reduceBEq, reduceCtorEq, Int.reduceEq])))
            · try simp only [↓wk, ↓wl, nc, evV, wrapBits_eq, ↓reduceIte, Nat.reduceEqDiff, Nat.reduceAdd, Nat.reduceSub, Nat.reduceLeDiff, Nat.reduceLT, Nat.reduceBEq, reduceCtorEq, Int.reduceEq]
              refine AW.iff (by rfl) ?_
              refine AW.skip ?_
              refine blkQ.norm ?_
              refine AW.rend ?_
              try simp only [↓wk, ↓wl, nc, evV, wrapBits_eq, ↓reduceIte, Nat.reduceEqDiff, Nat.reduceAdd, Nat.reduceSub, Nat.reduceLeDiff, Nat.reduceLT, Nat.reduceBEq, reduceCtorEq, Int.reduceEq]
              exact loopQ.next H ((Le.none [] [0, 3] (by decide) (by simp only [f48_L1, List.length_set, Option.map_some, restrict_eq, renS_nil, renS_cons, renB_els, renB_cel, renB_dead, deep_eq, map_ren_enc, ren_agg', ren_tup', ren_fn', ren_int', ren_bool', ren_str', ren_sl', ren_pro', ren_nilp', ren_nilfn', ren_junk', ren_ptr', ren_row', ren_arow', ren_eptr', vm, List.idxOf?_cons, List.idxOf?_nil, beq_self_eq_true, Option.map_none, List.getD_cons_zero, List.getD_cons_succ, ↓wk, ↓wl, nc, evV, wrapBits_eq, ↓reduceIte, Nat.reduceEqDiff, Nat.reduceAdd, Nat.reduceSub, Nat.reduceLeDiff, Nat.reduceLT, Nat.reduceBEq, reduceCtorEq, Int.reduceEq])))
    · refine AW.exit ?_
      refine seqQ.exit ?_
      refine loopQ.exit H ?_ <;> clear H <;> intro H
      try dsimp only at H
      refine blk0.here ?_
      refine seqQ.norm ?_
      refine AW.rseq ?_
      try simp only [↓wk, ↓wl, nc, evV, wrapBits_eq, ↓reduceIte, Nat.reduceEqDiff, Nat.reduceAdd, Nat.reduceSub, Nat.reduceLeDiff, Nat.reduceLT, Nat.reduceBEq, reduceCtorEq, Int.reduceEq]
      refine AW.ret ?_
      cases H
      exact hQ _ _ _ _ (.inr rfl) (by simp only [resVs, omap, resV, ↓wk, ↓wl, nc, evV, wrapBits_eq, ↓reduceIte, Nat.reduceEqDiff, Nat.reduceAdd, Nat.reduceSub, Nat.reduceLeDiff, Nat.reduceLT, Nat.reduceBEq, reduceCtorEq, Int.reduceEq]; rfl) (hand_plain (by rfl)) (by rfl)
noncomputable def f92_L1 (s_2208 : Ref56Sender) (universe_2209 : Int) : Lp (Int) ((Unit) ⊕ (Int)) where
  body := fun i_2213 => (if (decide (i_2213 < ((s_2208.fStreams.length : Nat) : Int))) = true then (at? s_2208.fStreams i_2213).bind fun x_2216 => (if (decide (x_2216.fUniverse = universe_2209)) = true then (some (.brk (Sum.inr i_2213))) else (some (.next (IntKind.i64.wrap (i_2213 + 1))))) else (some (.brk (Sum.inl ()))))
  cst := fun i_2213 => ⟨put (put (put (fun _ => .junk) 5 (.int .i64 i_2213)) 2 (.ptr 0 0)) 1 (.int .i64 universe_2209), [.cel [.int .u64 s_2208.fSource, .int .i64 s_2208.fPriority, .int .i64 s_2208.fSync, .int .i64 s_2208.fPulse, .sl 5 false (s_2208.fStreams.map eRef56Stream)]]⟩
def c92_0 : C := .cond (.t 10) (.skip) (.exit 0)
def c92_1 : C := .cond (.t 20) (.seq (.reg [iI 21 (.mv (.t 5)), iI 4 (.mv (.t 21))]) .ret) (.skip)
def c92_2 : C := .reg [iI 11 (.mv (.t 5)), iI 12 (.bin .add (.t 11) (.c (.int .i64 1))), iI 5 (.mv (.t 12))]
def c92_3 : C := .seq (.block 1 (.seq (.reg [iI 13 (.faddr 4 (.t 2)), iI 14 (.load 0 (.t 13)), iI 15 (.mv (.t 5)), iI 16 (.iaddr 5 (.t 14) (.t 15)), iI 17 (.faddr 0 (.t 16)), iI 18 (.load 0 (.t 17)), iI 19 (.mv (.t 1)), iI 20 (.bin .eql (.t 18) (.t 19))]) c92_1)) c92_2
def c92_4 : C := .block 0 (.loop (.seq (.seq (.reg [iI 6 (.mv (.t 5)), iI 7 (.faddr 4 (.t 2)), iI 8 (.load 0 (.t 7)), iI 9 (.len 0 (.t 8)), iI 10 (.bin .lss (.t 6) (.t 9))]) c92_0) c92_3))
def c92_5 : C := .seq (.reg [iI 4 (.mv (.c (.int .i64 (-1))))]) .ret
def c92_6 : C := .seq (.seq (.reg [iI 5 (.mv (.c (.int .i64 0)))]) c92_4) c92_5
def ir92 : C := .seq (.reg [iI 2 (.box (.t 0)), iI 4 (.mv (.c (.int .i64 0)))]) c92_6
theorem fd92 : fd? Try.prog 92 = some (22, [.slot 4], ir92) := by kernel_rfl
noncomputable def f92 (s_2208 : Ref56Sender) (universe_2209 : Int) : Option (Int) :=
  ((Lp.run (f92_L1 s_2208 universe_2209) 0).bind fun r_ => match r_ with | (Sum.inl _) => (some (-1)) | (Sum.inr v_2215) => (some v_2215))
theorem f92_ok {s_2208 : Ref56Sender} {universe_2209 : Int} {r_ : Int} (H : f92 s_2208 universe_2209 = some r_) : Pure Try.prog 92 [.agg [.int .u64 s_2208.fSource, .int .i64 s_2208.fPriority, .int .i64 s_2208.fSync, .int .i64 s_2208.fPulse, .sl 5 false (s_2208.fStreams.map eRef56Stream)], .int .i64 universe_2209] (· = .int .i64 r_) := by
  refine Pure.walk2 fd92 none (Nat.le_of_ble_eq_true rfl) (by rfl) fun Q hQ => ?_
  simp only [f92] at H
  refine AW.rseq ?_
  try simp only [↓wk, ↓wl, nc, evV, wrapBits_eq, ↓reduceIte, Nat.reduceEqDiff, Nat.reduceAdd, Nat.reduceSub, Nat.reduceLeDiff, Nat.reduceLT, Nat.reduceBEq, reduceCtorEq, Int.reduceEq]
  refine AW.sseq ?_
  refine AW.rseq ?_
  try simp only [↓wk, ↓wl, nc, evV, wrapBits_eq, ↓reduceIte, Nat.reduceEqDiff, Nat.reduceAdd, Nat.reduceSub, Nat.reduceLeDiff, Nat.reduceLT, Nat.reduceBEq, reduceCtorEq, Int.reduceEq]
  refine AW.bend ?_
  refine AW.iter H ((Le.none [0] [1, 2, 5] (by decide) (by simp only [f92_L1, List.length_set, Option.map_some, restrict_eq, renS_nil, renS_cons, renB_els, renB_cel, renB_dead, deep_eq, map_ren_enc, ren_agg', ren_tup', ren_fn', ren_int', ren_bool', ren_str', ren_sl', ren_pro', ren_nilp', ren_nilfn', ren_junk', ren_ptr', ren_row', ren_arow', ren_eptr', vm, List.idxOf?_cons, List.idxOf?_nil, beq_self_eq_true, Option.map_none, List.getD_cons_zero, List.getD_cons_succ, ↓wk, ↓wl, nc, evV, wrapBits_eq, ↓reduceIte, Nat.reduceEqDiff, Nat.reduceAdd, Nat.reduceSub, Nat.reduceLeDiff, Nat.reduceLT, Nat.reduceBEq, reduceCtorEq, Int.reduceEq]))) ?_ <;> clear H
  rintro i_2213 x_ st0_ H hst_
  simp only [f92_L1] at H hst_
  subst hst_
  refine AW.sseq ?_
  refine AW.rseq ?_
  try simp only [↓wk, ↓wl, nc, evV, wrapBits_eq, ↓reduceIte, Nat.reduceEqDiff, Nat.reduceAdd, Nat.reduceSub, Nat.reduceLeDiff, Nat.reduceLT, Nat.reduceBEq, reduceCtorEq, Int.reduceEq]
  refine AW.ifc H (by rfl) ?_ ?_ <;> clear H <;> intro H
  · refine AW.skip ?_
    refine seqQ.norm ?_
    refine AW.bseq ?_
    refine AW.rseq ?_
    try simp only [↓wk, ↓wl, nc, evV, wrapBits_eq, ↓reduceIte, Nat.reduceEqDiff, Nat.reduceAdd, Nat.reduceSub, Nat.reduceLeDiff, Nat.reduceLT, Nat.reduceBEq, reduceCtorEq, Int.reduceEq]
    refine evTs_at (enc := eRef56Stream) H (by rfl) (by rfl) ?_ <;> clear H <;> intro x_2216 H
    try simp only [eRef56Stream, eL, ↓wk, ↓wl, nc, evV, wrapBits_eq, ↓reduceIte, Nat.reduceEqDiff, Nat.reduceAdd, Nat.reduceSub, Nat.reduceLeDiff, Nat.reduceLT, Nat.reduceBEq, reduceCtorEq, Int.reduceEq]
    refine AW.ifc H (by rfl) ?_ ?_ <;> clear H <;> intro H
    · refine AW.rseq ?_
      try simp only [↓wk, ↓wl, nc, evV, wrapBits_eq, ↓reduceIte, Nat.reduceEqDiff, Nat.reduceAdd, Nat.reduceSub, Nat.reduceLeDiff, Nat.reduceLT, Nat.reduceBEq, reduceCtorEq, Int.reduceEq]
      refine AW.ret ?_
      refine blkQ.ret ?_
      refine loopQ.ret H ?_ <;> clear H <;> intro H
      try dsimp only at H
      refine blk0.ret ?_
      refine seqQ.ret ?_
      cases H
      exact hQ _ _ _ _ (.inr rfl) (by simp only [resVs, omap, resV, ↓wk, ↓wl, nc, evV, wrapBits_eq, ↓reduceIte, Nat.reduceEqDiff, Nat.reduceAdd, Nat.reduceSub, Nat.reduceLeDiff, Nat.reduceLT, Nat.reduceBEq, reduceCtorEq, Int.reduceEq]; rfl) (hand_plain (by rfl)) (by rfl)
    · refine AW.skip ?_
      refine blkQ.norm ?_
      refine AW.rend ?_
      try simp only [↓wk, ↓wl, nc, evV, wrapBits_eq, ↓reduceIte, Nat.reduceEqDiff, Nat.reduceAdd, Nat.reduceSub, Nat.reduceLeDiff, Nat.reduceLT, Nat.reduceBEq, reduceCtorEq, Int.reduceEq]
      exact loopQ.next H ((Le.none [0] [1, 2, 5] (by decide) (by simp only [f92_L1, List.length_set, Option.map_some, restrict_eq, renS_nil, renS_cons, renB_els, renB_cel, renB_dead, deep_eq, map_ren_enc, ren_agg', ren_tup', ren_fn', ren_int', ren_bool', ren_str', ren_sl', ren_pro', ren_nilp', ren_nilfn', ren_junk', ren_ptr', ren_row', ren_arow', ren_eptr', vm, List.idxOf?_cons, List.idxOf?_nil, beq_self_eq_true, Option.map_none, List.getD_cons_zero, List.getD_cons_succ, ↓wk, ↓wl, nc, evV, wrapBits_eq, ↓reduceIte, Nat.reduceEqDiff, Nat.reduceAdd, Nat.reduceSub, Nat.reduceLeDiff, Nat.reduceLT, Nat.reduceBEq, reduceCtorEq, Int.reduceEq])))
  · refine AW.exit ?_
    refine seqQ.exit ?_
    refine loopQ.exit H ?_ <;> clear H <;> intro H
    try dsimp only at H
    refine blk0.here ?_
    refine seqQ.norm ?_
    refine AW.rseq ?_
    try simp only [↓wk, ↓wl, nc, evV, wrapBits_eq, ↓reduceIte, Nat.reduceEqDiff, Nat.reduceAdd, Nat.reduceSub, Nat.reduceLeDiff, Nat.reduceLT, Nat.reduceBEq, reduceCtorEq, Int.reduceEq]
    refine AW.ret ?_
    cases H
    exact hQ _ _ _ _ (.inr rfl) (by simp only [resVs, omap, resV, ↓wk, ↓wl, nc, evV, wrapBits_eq, ↓reduceIte, Nat.reduceEqDiff, Nat.reduceAdd, Nat.reduceSub, Nat.reduceLeDiff, Nat.reduceLT, Nat.reduceBEq, reduceCtorEq, Int.reduceEq]; rfl) (hand_plain (by rfl)) (by rfl)
noncomputable def f68_J1 (x_2218 : Ref56Stream) (f_2207 : ApiFrame) (t_2206 : Int) : Jn (Unit) (Ref56Stream × Bool) where
  run := fun _ => (if (!(x_2218.fSlots == f_2207.fSlots)) = true then (some ((Ref56Stream.mk x_2218.fUniverse ((IntKind.i64.wrap (x_2218.fSeq + 1)).tmod 256) t_2206 1 f_2207.fSlots), true)) else (some ((Ref56Stream.mk x_2218.fUniverse ((IntKind.i64.wrap (x_2218.fSeq + 1)).tmod 256) t_2206 (if (IntKind.i64.wrap (x_2218.fTimes + 1)) < 3 then (IntKind.i64.wrap (x_2218.fTimes + 1)) else 3) f_2207.fSlots), true)))
  cst := fun _ => ⟨put (put (put (put (fun _ => .junk) 9 (.ptr 2 0)) 6 (.ptr 1 0)) 5 (.ptr 0 0)) 1 (.int .i64 t_2206), [.cel [.int .i64 f_2207.fUniverse, .str f_2207.fSlots], .cel [.int .i64 0, .int .i64 0, .int .i64 0, .int .i64 0, .str ([])], .cel [.int .i64 x_2218.fUniverse, .int .i64 x_2218.fSeq, .int .i64 x_2218.fLast, .int .i64 x_2218.fTimes, .str x_2218.fSlots]]⟩
def c68_0 : C := .cond (.t 15) (.seq (.reg [iI 16 (.faddr 0 (.t 5)), iI 17 (.load 0 (.t 16)), iI 18 (.mv (.t 1)), iI 19 (.faddr 1 (.t 5)), iI 20 (.load 0 (.t 19)), iI 21 (.build [(1, (.int .i64 0)), (1, (.int .i64 0)), (1, (.int .i64 0)), (1, (.int .i64 0)), (1, (.str []))] [(0, 0, (.t 17)), (2, 0, (.t 18)), (3, 0, (.c (.int .i64 1))), (4, 0, (.t 20))]), iN (.store 5 (.t 6) (.t 21)), iI 7 (.mv (.c (.bool true)))]) .ret) (.skip)
def c68_1 : C := .cond (.t 43) (.seq (.reg [iI 44 (.load 5 (.t 9)), iN (.store 5 (.t 6) (.t 44)), iI 7 (.mv (.c (.bool false)))]) .ret) (.skip)
def c68_2 : C := .cond (.t 54) (.reg [iI 55 (.faddr 3 (.t 9)), iN (.store 0 (.t 55) (.c (.int .i64 1)))]) (.skip)
def c68_3 : C := .seq (.reg [iI 56 (.faddr 0 (.t 9)), iI 57 (.load 0 (.t 56)), iI 58 (.faddr 1 (.t 9)), iI 59 (.load 0 (.t 58)), iI 60 (.bin .add (.t 59) (.c (.int .i64 1))), iI 61 (.bin .rem (.t 60) (.c (.int .i64 256))), iI 62 (.mv (.t 1)), iI 63 (.faddr 3 (.t 9)), iI 64 (.load 0 (.t 63)), iI 65 (.faddr 1 (.t 5)), iI 66 (.load 0 (.t 65)), iI 67 (.build [(1, (.int .i64 0)), (1, (.int .i64 0)), (1, (.int .i64 0)), (1, (.int .i64 0)), (1, (.str []))] [(0, 0, (.t 57)), (1, 0, (.t 61)), (2, 0, (.t 62)), (3, 0, (.t 64)), (4, 0, (.t 66))]), iN (.store 5 (.t 6) (.t 67)), iI 7 (.mv (.c (.bool true)))]) .ret
def c68_4 : C := .seq (.seq (.reg [iI 50 (.faddr 4 (.t 9)), iI 51 (.load 0 (.t 50)), iI 52 (.faddr 1 (.t 5)), iI 53 (.load 0 (.t 52)), iI 54 (.bin .neq (.t 51) (.t 53))]) c68_2) c68_3
def c68_5 : C := .seq (.reg [iI 45 (.faddr 3 (.t 9)), iI 46 (.load 0 (.t 45)), iI 47 (.bin .add (.t 46) (.c (.int .i64 1))), iI 48 (.maxmin false (.c (.int .i64 3)) [(.t 47)]), iI 49 (.faddr 3 (.t 9)), iN (.store 0 (.t 49) (.t 48))]) c68_4
def c68_6 : C := .seq (.seq (.reg [iI 27 (.faddr 4 (.t 9)), iI 28 (.load 0 (.t 27)), iI 29 (.faddr 1 (.t 5)), iI 30 (.load 0 (.t 29)), iI 31 (.bin .eql (.t 28) (.t 30)), iI 32 (.mv (.t 31)), iG (some 33) 32 true (.faddr 3 (.t 9)), iG (some 34) 32 true (.load 0 (.t 33)), iG (some 35) 32 true (.bin .eql (.t 34) (.c (.int .i64 3))), iI 36 (.pick (.t 32) (.t 35) (.c (.bool false))), iI 37 (.mv (.t 36)), iG (some 38) 37 true (.mv (.t 1)), iG (some 39) 37 true (.faddr 2 (.t 9)), iG (some 40) 37 true (.load 0 (.t 39)), iG (some 41) 37 true (.bin .sub (.t 38) (.t 40)), iG (some 42) 37 true (.bin .lss (.t 41) (.c (.int .i64 1000))), iI 43 (.pick (.t 37) (.t 42) (.c (.bool false)))]) c68_1) c68_5
def c68_7 : C := .seq (.reg [iI 22 (.faddr 4 (.t 3)), iI 23 (.load 0 (.t 22)), iI 24 (.mv (.t 8)), iI 25 (.iaddr 5 (.t 23) (.t 24)), iI 26 (.load 5 (.t 25)), iI 9 (.alloc [(1, (.int .i64 0)), (1, (.int .i64 0)), (1, (.int .i64 0)), (1, (.int .i64 0)), (1, (.str []))]), iN (.store 5 (.t 9) (.t 26))]) c68_6
def c68_8 : C := .seq (.seq (.reg [iI 14 (.mv (.t 8)), iI 15 (.bin .lss (.t 14) (.c (.int .i64 0)))]) c68_0) c68_7
def c68_9 : C := .seq (.reg [iI 10 (.load 5 (.t 3)), iI 11 (.faddr 0 (.t 5)), iI 12 (.load 0 (.t 11)), iI 13 (.call (.c (.fn 92 [])) [(.t 10), (.t 12)]), iI 8 (.mv (.t 13))]) c68_8
def ir68 : C := .seq (.reg [iI 3 (.box (.t 0)), iI 5 (.box (.t 2)), iI 6 (.alloc [(1, (.int .i64 0)), (1, (.int .i64 0)), (1, (.int .i64 0)), (1, (.int .i64 0)), (1, (.str []))]), iI 7 (.mv (.c (.bool false)))]) c68_9
theorem fd68 : fd? Try.prog 68 = some (68, [.cell 6 5, .slot 7], ir68) := by kernel_rfl
noncomputable def f68 (s_2205 : Ref56Sender) (t_2206 : Int) (f_2207 : ApiFrame) : Option (Ref56Stream × Bool) :=
  (f92 s_2205 f_2207.fUniverse).bind fun r_2217 => (if (decide (r_2217 < 0)) = true then (some ((Ref56Stream.mk f_2207.fUniverse 0 t_2206 1 f_2207.fSlots), true)) else (at? s_2205.fStreams r_2217).bind fun x_2218 => (if (x_2218.fSlots == f_2207.fSlots) = true then (if (decide (x_2218.fTimes = 3)) = true then (if (decide ((IntKind.i64.wrap (t_2206 - x_2218.fLast)) < 1000)) = true then (some (x_2218, false)) else ((f68_J1 x_2218 f_2207 t_2206).run ())) else ((f68_J1 x_2218 f_2207 t_2206).run ())) else ((f68_J1 x_2218 f_2207 t_2206).run ())))
theorem f68_ok {s_2205 : Ref56Sender} {t_2206 : Int} {f_2207 : ApiFrame} {r_ : Ref56Stream × Bool} (H : f68 s_2205 t_2206 f_2207 = some r_) : Pure Try.prog 68 [.agg [.int .u64 s_2205.fSource, .int .i64 s_2205.fPriority, .int .i64 s_2205.fSync, .int .i64 s_2205.fPulse, .sl 5 false (s_2205.fStreams.map eRef56Stream)], .int .i64 t_2206, .agg [.int .i64 f_2207.fUniverse, .str f_2207.fSlots]] (· = .tup [.agg [.int .i64 r_.1.fUniverse, .int .i64 r_.1.fSeq, .int .i64 r_.1.fLast, .int .i64 r_.1.fTimes, .str r_.1.fSlots], .bool r_.2]) := by
  refine Pure.walk2 fd68 none (Nat.le_of_ble_eq_true rfl) (by rfl) fun Q hQ => ?_
  simp only [f68] at H
  refine AW.rseq ?_
  try simp only [↓wk, ↓wl, nc, evV, wrapBits_eq, ↓reduceIte, Nat.reduceEqDiff, Nat.reduceAdd, Nat.reduceSub, Nat.reduceLeDiff, Nat.reduceLT, Nat.reduceBEq, reduceCtorEq, Int.reduceEq]
  refine AW.rseq ?_
  try simp only [↓wk, ↓wl, nc, evV, wrapBits_eq, ↓reduceIte, Nat.reduceEqDiff, Nat.reduceAdd, Nat.reduceSub, Nat.reduceLeDiff, Nat.reduceLT, Nat.reduceBEq, reduceCtorEq, Int.reduceEq]
  refine evTs_pure hFn H (fun _ h => f92_ok h) (by rfl) (by rfl) (by rfl) (by rfl) (fun _ => rfl) ?_ <;> clear H <;> intro r_2217 H
  try simp only [eL, ↓wk, ↓wl, nc, evV, wrapBits_eq, ↓reduceIte, Nat.reduceEqDiff, Nat.reduceAdd, Nat.reduceSub, Nat.reduceLeDiff, Nat.reduceLT, Nat.reduceBEq, reduceCtorEq, Int.reduceEq]
  refine AW.sseq ?_
  refine AW.rseq ?_
  try simp only [↓wk, ↓wl, nc, evV, wrapBits_eq, ↓reduceIte, Nat.reduceEqDiff, Nat.reduceAdd, Nat.reduceSub, Nat.reduceLeDiff, Nat.reduceLT, Nat.reduceBEq, reduceCtorEq, Int.reduceEq]
  refine AW.ifc H (by rfl) ?_ ?_ <;> clear H <;> intro H
  · refine AW.rseq ?_
    try simp only [↓wk, ↓wl, nc, evV, wrapBits_eq, ↓reduceIte, Nat.reduceEqDiff, Nat.reduceAdd, Nat.reduceSub, Nat.reduceLeDiff, Nat.reduceLT, Nat.reduceBEq, reduceCtorEq, Int.reduceEq]
    refine AW.ret ?_
    refine seqQ.ret ?_
    cases H
    exact hQ _ _ _ _ (.inr rfl) (by simp only [resVs, omap, resV, ↓wk, ↓wl, nc, evV, wrapBits_eq, ↓reduceIte, Nat.reduceEqDiff, Nat.reduceAdd, Nat.reduceSub, Nat.reduceLeDiff, Nat.reduceLT, Nat.reduceBEq, reduceCtorEq, Int.reduceEq]; rfl) (hand_plain (by rfl)) (by rfl)
  · refine AW.skip ?_
    refine seqQ.norm ?_
    refine AW.rseq ?_
    try simp only [↓wk, ↓wl, nc, evV, wrapBits_eq, ↓reduceIte, Nat.reduceEqDiff, Nat.reduceAdd, Nat.reduceSub, Nat.reduceLeDiff, Nat.reduceLT, Nat.reduceBEq, reduceCtorEq, Int.reduceEq]
    refine evTs_at (enc := eRef56Stream) H (by rfl) (by rfl) ?_ <;> clear H <;> intro x_2218 H
    try simp only [eRef56Stream, eL, ↓wk, ↓wl, nc, evV, wrapBits_eq, ↓reduceIte, Nat.reduceEqDiff, Nat.reduceAdd, Nat.reduceSub, Nat.reduceLeDiff, Nat.reduceLT, Nat.reduceBEq, reduceCtorEq, Int.reduceEq]
    refine AW.join (f68_J1 x_2218 f_2207 t_2206) H ?_ fun hf68_J1 => ?_
    · clear H
      rintro _ st0_ H hst_
      simp only [f68_J1] at H hst_
      subst hst_
      refine AW.rseq ?_
      try simp only [↓wk, ↓wl, nc, evV, wrapBits_eq, ↓reduceIte, Nat.reduceEqDiff, Nat.reduceAdd, Nat.reduceSub, Nat.reduceLeDiff, Nat.reduceLT, Nat.reduceBEq, reduceCtorEq, Int.reduceEq]
      refine AW.sseq ?_
      refine AW.rseq ?_
      try simp only [↓wk, ↓wl, nc, evV, wrapBits_eq, ↓reduceIte, Nat.reduceEqDiff, Nat.reduceAdd, Nat.reduceSub, Nat.reduceLeDiff, Nat.reduceLT, Nat.reduceBEq, reduceCtorEq, Int.reduceEq]
      refine AW.ifc H (by rfl) ?_ ?_ <;> clear H <;> intro H
      · refine AW.rend ?_
        try simp only [↓wk, ↓wl, nc, evV, wrapBits_eq, ↓reduceIte, Nat.reduceEqDiff, Nat.reduceAdd, Nat.reduceSub, Nat.reduceLeDiff, Nat.reduceLT, Nat.reduceBEq, reduceCtorEq, Int.reduceEq]
        refine seqQ.norm ?_
        refine AW.rseq ?_
        try simp only [↓wk, ↓wl, nc, evV, wrapBits_eq, ↓reduceIte, Nat.reduceEqDiff, Nat.reduceAdd, Nat.reduceSub, Nat.reduceLeDiff, Nat.reduceLT, Nat.reduceBEq, reduceCtorEq, Int.reduceEq]
        refine AW.ret ?_
        cases H
        exact hQ _ _ _ _ (.inr rfl) (by simp only [resVs, omap, resV, ↓wk, ↓wl, nc, evV, wrapBits_eq, ↓reduceIte, Nat.reduceEqDiff, Nat.reduceAdd, Nat.reduceSub, Nat.reduceLeDiff, Nat.reduceLT, Nat.reduceBEq, reduceCtorEq, Int.reduceEq]; rfl) (hand_plain (by rfl)) (by rfl)
      · refine AW.skip ?_
        refine seqQ.norm ?_
        refine AW.rseq ?_
        try simp only [↓wk, ↓wl, nc, evV, wrapBits_eq, ↓reduceIte, Nat.reduceEqDiff, Nat.reduceAdd, Nat.reduceSub, Nat.reduceLeDiff, Nat.reduceLT, Nat.reduceBEq, reduceCtorEq, Int.reduceEq]
        refine AW.ret ?_
        cases H
        exact hQ _ _ _ _ (.inr rfl) (by simp only [resVs, omap, resV, ↓wk, ↓wl, nc, evV, wrapBits_eq, ↓reduceIte, Nat.reduceEqDiff, Nat.reduceAdd, Nat.reduceSub, Nat.reduceLeDiff, Nat.reduceLT, Nat.reduceBEq, reduceCtorEq, Int.reduceEq]; rfl) (hand_plain (by rfl)) (by rfl)
    · refine AW.rseq ?_
      try simp only [↓wk, ↓wl, nc, evV, wrapBits_eq, ↓reduceIte, Nat.reduceEqDiff, Nat.reduceAdd, Nat.reduceSub, Nat.reduceLeDiff, Nat.reduceLT, Nat.reduceBEq, reduceCtorEq, Int.reduceEq]
      refine evTs_ifg H (by rfl) ?_ ?_ <;> clear H <;> intro H
      · try simp only [↓wk, ↓wl, nc, evV, wrapBits_eq, ↓reduceIte, Nat.reduceEqDiff, Nat.reduceAdd, Nat.reduceSub, Nat.reduceLeDiff, Nat.reduceLT, Nat.reduceBEq, reduceCtorEq, Int.reduceEq]
        refine evTs_ifg H (by rfl) ?_ ?_ <;> clear H <;> intro H
        · try simp only [↓wk, ↓wl, nc, evV, wrapBits_eq, ↓reduceIte, Nat.reduceEqDiff, Nat.reduceAdd, Nat.reduceSub, Nat.reduceLeDiff, Nat.reduceLT, Nat.reduceBEq, reduceCtorEq, Int.reduceEq]
          refine AW.ifc H (by rfl) ?_ ?_ <;> clear H <;> intro H
          · refine AW.rseq ?_
            try simp only [↓wk, ↓wl, nc, evV, wrapBits_eq, ↓reduceIte, Nat.reduceEqDiff, Nat.reduceAdd, Nat.reduceSub, Nat.reduceLeDiff, Nat.reduceLT, Nat.reduceBEq, reduceCtorEq, Int.reduceEq]
            refine AW.ret ?_
            refine seqQ.ret ?_
            cases H
            exact hQ _ _ _ _ (.inr rfl) (by simp only [resVs, omap, resV, ↓wk, ↓wl, nc, evV, wrapBits_eq, ↓reduceIte, Nat.reduceEqDiff, Nat.reduceAdd, Nat.reduceSub, Nat.reduceLeDiff, Nat.reduceLT, Nat.reduceBEq, reduceCtorEq, Int.reduceEq]; rfl) (hand_plain (by rfl)) (by rfl)
          · refine AW.skip ?_
            refine seqQ.norm ?_
            exact hf68_J1 _ _ H ((Le.none [1, 2, 3] [1, 5, 6, 9] (by decide) (by simp only [f68_J1, List.length_set, Option.map_some, restrict_eq, renS_nil, renS_cons, renB_els, renB_cel, renB_dead, deep_eq, map_ren_enc, ren_agg', ren_tup', ren_fn', ren_int', ren_bool', ren_str', ren_sl', ren_pro', ren_nilp', ren_nilfn', ren_junk', ren_ptr', ren_row', ren_arow', ren_eptr', vm, List.idxOf?_cons, List.idxOf?_nil, beq_self_eq_true, Option.map_none, List.getD_cons_zero, List.getD_cons_succ, ↓wk, ↓wl, nc, evV, wrapBits_eq, ↓reduceIte, Nat.reduceEqDiff, Nat.reduceAdd, Nat.reduceSub, Nat.reduceLeDiff, Nat.reduceLT, Nat.reduceBEq, reduceCtorEq, Int.reduceEq])))
        · try simp only [↓wk, ↓wl, nc, evV, wrapBits_eq, ↓reduceIte, Nat.reduceEqDiff, Nat.reduceAdd, Nat.reduceSub, Nat.reduceLeDiff, Nat.reduceLT, Nat.reduceBEq, reduceCtorEq, Int.reduceEq]
          refine AW.iff (by rfl) ?_
          refine AW.skip ?_
          refine seqQ.norm ?_
          exact hf68_J1 _ _ H ((Le.none [1, 2, 3] [1, 5, 6, 9] (by decide) (by simp only [f68_J1, List.length_set, Option.map_some, restrict_eq, renS_nil, renS_cons, renB_els, renB_cel, renB_dead, deep_eq, map_ren_enc, ren_agg', ren_tup', ren_fn', ren_int', ren_bool', ren_str', ren_sl', ren_pro', ren_nilp', ren_nilfn', ren_junk', ren_ptr', ren_row', ren_arow', ren_eptr', vm, List.idxOf?_cons, List.idxOf?_nil, beq_self_eq_true, Option.map_none, List.getD_cons_zero, List.getD_cons_succ, ↓wk, ↓wl, nc, evV, wrapBits_eq, ↓reduceIte, Nat.reduceEqDiff, Nat.reduceAdd, Nat.reduceSub, Nat.reduceLeDiff, Nat.reduceLT, Nat.reduceBEq, reduceCtorEq, Int.reduceEq])))
      · try simp only [↓wk, ↓wl, nc, evV, wrapBits_eq, ↓reduceIte, Nat.reduceEqDiff, Nat.reduceAdd, Nat.reduceSub, Nat.reduceLeDiff, Nat.reduceLT, Nat.reduceBEq, reduceCtorEq, Int.reduceEq]
        refine AW.iff (by rfl) ?_
        refine AW.skip ?_
        refine seqQ.norm ?_
        exact hf68_J1 _ _ H ((Le.none [1, 2, 3] [1, 5, 6, 9] (by decide) (by simp only [f68_J1, List.length_set, Option.map_some, restrict_eq, renS_nil, renS_cons, renB_els, renB_cel, renB_dead, deep_eq, map_ren_enc, ren_agg', ren_tup', ren_fn', ren_int', ren_bool', ren_str', ren_sl', ren_pro', ren_nilp', ren_nilfn', ren_junk', ren_ptr', ren_row', ren_arow', ren_eptr', vm, List.idxOf?_cons, List.idxOf?_nil, beq_self_eq_true, Option.map_none, List.getD_cons_zero, List.getD_cons_succ, ↓wk, ↓wl, nc, evV, wrapBits_eq, ↓reduceIte, Nat.reduceEqDiff, Nat.reduceAdd, Nat.reduceSub, Nat.reduceLeDiff, Nat.reduceLT, Nat.reduceBEq, reduceCtorEq, Int.reduceEq])))
noncomputable def f69_J2 (l_2226 : (List Ref56Stream)) (i_2256 : Int) (x_2227 : Ref56Stream) : Jn (Bool × (List Ref56Stream)) (Ctl (Bool × Int × (List Ref56Stream)) (Bool × (List Ref56Stream))) where
  run := fun (done_2271, out_2272) => (at? l_2226 i_2256).bind fun x_2273 => (if (decide (x_2273.fUniverse ≠ x_2227.fUniverse)) = true then (at? l_2226 i_2256).bind fun x_2274 => (app? 48 out_2272 ([x_2274])).bind fun out_2275 => (some (.next (done_2271, (IntKind.i64.wrap (i_2256 + 1)), out_2275))) else (some (.next (done_2271, (IntKind.i64.wrap (i_2256 + 1)), out_2272))))
  cst := fun (done_2271, out_2272) => ⟨put (put (put (put (put (fun _ => .junk) 7 (.int .i64 i_2256)) 6 (.bool done_2271)) 5 (.row 5 1 0 out_2272.length)) 3 (.ptr 0 0)) 0 (.sl 5 false (l_2226.map eRef56Stream)), [.cel [.int .i64 x_2227.fUniverse, .int .i64 x_2227.fSeq, .int .i64 x_2227.fLast, .int .i64 x_2227.fTimes, .str x_2227.fSlots], .els 5 (out_2272.map eRef56Stream)]⟩
noncomputable def f69_L1 (l_2226 : (List Ref56Stream)) (x_2227 : Ref56Stream) : Lp (Bool × Int × (List Ref56Stream)) (Bool × (List Ref56Stream)) where
  body := fun (done_2255, i_2256, out_2257) => (if (decide (i_2256 < ((l_2226.length : Nat) : Int))) = true then (if (!done_2255) = true then (at? l_2226 i_2256).bind fun x_2276 => (if (decide (x_2227.fUniverse ≤ x_2276.fUniverse)) = true then (app? 48 out_2257 ([x_2227])).bind fun out_2277 => ((f69_J2 l_2226 i_2256 x_2227).run (true, out_2277)) else ((f69_J2 l_2226 i_2256 x_2227).run (done_2255, out_2257))) else ((f69_J2 l_2226 i_2256 x_2227).run (done_2255, out_2257))) else (some (.brk (done_2255, out_2257))))
  cst := fun (done_2255, i_2256, out_2257) => ⟨put (put (put (put (put (fun _ => .junk) 7 (.int .i64 i_2256)) 6 (.bool done_2255)) 5 (.row 5 1 0 out_2257.length)) 3 (.ptr 0 0)) 0 (.sl 5 false (l_2226.map eRef56Stream)), [.cel [.int .i64 x_2227.fUniverse, .int .i64 x_2227.fSeq, .int .i64 x_2227.fLast, .int .i64 x_2227.fTimes, .str x_2227.fSlots], .els 5 (out_2257.map eRef56Stream)]⟩
def c69_0 : C := .cond (.t 11) (.skip) (.exit 0)
def c69_1 : C := .reg [iI 6 (.mv (.c (.bool true)))]
def c69_2 : C := .cond (.t 25) (.seq (.reg [iI 26 (.mv (.t 5)), iI 27 (.load 5 (.t 3)), iI 28 (.mkslp 5 1 (.agg [(.int .i64 0), (.int .i64 0), (.int .i64 0), (.int .i64 0), (.str [])]) [(0, (.t 27))]), iI 29 (.append 5 48 (.t 26) (.t 28)), iI 5 (.mv (.t 29))]) c69_1) (.skip)
def c69_3 : C := .cond (.t 37) (.reg [iI 38 (.mv (.t 5)), iI 39 (.mv (.t 0)), iI 40 (.mv (.t 7)), iI 41 (.iaddr 5 (.t 39) (.t 40)), iI 42 (.load 5 (.t 41)), iI 43 (.mkslp 5 1 (.agg [(.int .i64 0), (.int .i64 0), (.int .i64 0), (.int .i64 0), (.str [])]) [(0, (.t 42))]), iI 44 (.append 5 48 (.t 38) (.t 43)), iI 5 (.mv (.t 44))]) (.skip)
def c69_4 : C := .seq (.reg [iI 30 (.mv (.t 0)), iI 31 (.mv (.t 7)), iI 32 (.iaddr 5 (.t 30) (.t 31)), iI 33 (.faddr 0 (.t 32)), iI 34 (.load 0 (.t 33)), iI 35 (.faddr 0 (.t 3)), iI 36 (.load 0 (.t 35)), iI 37 (.bin .neq (.t 34) (.t 36))]) c69_3
def c69_5 : C := .reg [iI 12 (.mv (.t 7)), iI 13 (.bin .add (.t 12) (.c (.int .i64 1))), iI 7 (.mv (.t 13))]
def c69_6 : C := .seq (.block 1 (.seq (.seq (.reg [iI 14 (.mv (.t 6)), iI 15 (.un .not (.t 14)), iI 16 (.mv (.t 15)), iG (some 17) 16 true (.mv (.t 0)), iG (some 18) 16 true (.mv (.t 7)), iG (some 19) 16 true (.iaddr 5 (.t 17) (.t 18)), iG (some 20) 16 true (.faddr 0 (.t 19)), iG (some 21) 16 true (.load 0 (.t 20)), iG (some 22) 16 true (.faddr 0 (.t 3)), iG (some 23) 16 true (.load 0 (.t 22)), iG (some 24) 16 true (.bin .geq (.t 21) (.t 23)), iI 25 (.pick (.t 16) (.t 24) (.c (.bool false)))]) c69_2) c69_4)) c69_5
def c69_7 : C := .block 0 (.loop (.seq (.seq (.reg [iI 8 (.mv (.t 7)), iI 9 (.mv (.t 0)), iI 10 (.len 0 (.t 9)), iI 11 (.bin .lss (.t 8) (.t 10))]) c69_0) c69_6))
def c69_8 : C := .cond (.t 46) (.reg [iI 47 (.mv (.t 5)), iI 48 (.load 5 (.t 3)), iI 49 (.mkslp 5 1 (.agg [(.int .i64 0), (.int .i64 0), (.int .i64 0), (.int .i64 0), (.str [])]) [(0, (.t 48))]), iI 50 (.append 5 48 (.t 47) (.t 49)), iI 5 (.mv (.t 50))]) (.skip)
def c69_9 : C := .seq (.reg [iI 51 (.mv (.t 5)), iI 4 (.mv (.t 51))]) .ret
def c69_10 : C := .seq (.seq (.reg [iI 45 (.mv (.t 6)), iI 46 (.un .not (.t 45))]) c69_8) c69_9
def c69_11 : C := .seq (.seq (.reg [iI 7 (.mv (.c (.int .i64 0)))]) c69_7) c69_10
def c69_12 : C := .seq (.reg [iI 6 (.mv (.c (.bool false)))]) c69_11
def c69_13 : C := .seq (.reg [iI 5 (.mv (.c (.sl 5 true [])))]) c69_12
def ir69 : C := .seq (.reg [iI 3 (.box (.t 1)), iI 4 (.mv (.c (.sl 5 true [])))]) c69_13
theorem fd69 : fd? Try.prog 69 = some (52, [.slot 4], ir69) := by kernel_rfl
noncomputable def f69 (l_2226 : (List Ref56Stream)) (x_2227 : Ref56Stream) : Option ((List Ref56Stream)) :=
  (Lp.run (f69_L1 l_2226 x_2227) (false, 0, [])).bind fun (done_2265, out_2266) => (if (!done_2265) = true then (app? 48 out_2266 ([x_2227])).bind fun out_2267 => (some out_2267) else (some out_2266))
theorem f69_ok {l_2226 : (List Ref56Stream)} {x_2227 : Ref56Stream} {r_ : (List Ref56Stream)} (H : f69 l_2226 x_2227 = some r_) : Pure Try.prog 69 [.sl 5 false (l_2226.map eRef56Stream), .agg [.int .i64 x_2227.fUniverse, .int .i64 x_2227.fSeq, .int .i64 x_2227.fLast, .int .i64 x_2227.fTimes, .str x_2227.fSlots]] (· = .fr 5 (r_.map eRef56Stream)) := by
  refine Pure.walk2 fd69 (some 0) (Nat.le_of_ble_eq_true rfl) (by rfl) fun Q hQ => ?_
  simp only [f69] at H
  refine AW.rseq ?_
  try simp only [↓wk, ↓wl, nc, evV, wrapBits_eq, ↓reduceIte, Nat.reduceEqDiff, Nat.reduceAdd, Nat.reduceSub, Nat.reduceLeDiff, Nat.reduceLT, Nat.reduceBEq, reduceCtorEq, Int.reduceEq]
  refine AW.rseq ?_
  try simp only [↓wk, ↓wl, nc, evV, wrapBits_eq, ↓reduceIte, Nat.reduceEqDiff, Nat.reduceAdd, Nat.reduceSub, Nat.reduceLeDiff, Nat.reduceLT, Nat.reduceBEq, reduceCtorEq, Int.reduceEq]
  refine AW.rseq ?_
  try simp only [↓wk, ↓wl, nc, evV, wrapBits_eq, ↓reduceIte, Nat.reduceEqDiff, Nat.reduceAdd, Nat.reduceSub, Nat.reduceLeDiff, Nat.reduceLT, Nat.reduceBEq, reduceCtorEq, Int.reduceEq]
  refine AW.sseq ?_
  refine AW.rseq ?_
  try simp only [↓wk, ↓wl, nc, evV, wrapBits_eq, ↓reduceIte, Nat.reduceEqDiff, Nat.reduceAdd, Nat.reduceSub, Nat.reduceLeDiff, Nat.reduceLT, Nat.reduceBEq, reduceCtorEq, Int.reduceEq]
  refine AW.bend ?_
  refine AW.iter H ((Le.trans (Le.nilRow (i := 5) (e := 5) (by simp only [↓wk, ↓wl, nc, evV, wrapBits_eq, ↓reduceIte, Nat.reduceEqDiff, Nat.reduceAdd, Nat.reduceSub, Nat.reduceLeDiff, Nat.reduceLT, Nat.reduceBEq, reduceCtorEq, Int.reduceEq])) (Le.none [0, 1] [0, 3, 5, 6, 7] (by decide) (by simp only [f69_L1, List.length_set, Option.map_some, restrict_eq, renS_nil, renS_cons, renB_els, renB_cel, renB_dead, deep_eq, map_ren_enc, ren_agg', ren_tup', ren_fn', ren_int', ren_bool', ren_str', ren_sl', ren_pro', ren_nilp', ren_nilfn', ren_junk', ren_ptr', ren_row', ren_arow', ren_eptr', vm, List.idxOf?_cons, List.idxOf?_nil, beq_self_eq_true, Option.map_none, List.getD_cons_zero, List.getD_cons_succ, ↓wk, ↓wl, nc, evV, wrapBits_eq, ↓reduceIte, Nat.reduceEqDiff, Nat.reduceAdd, Nat.reduceSub, Nat.reduceLeDiff, Nat.reduceLT, Nat.reduceBEq, reduceCtorEq, Int.reduceEq])))) ?_ <;> clear H
  rintro ⟨done_2255, i_2256, out_2257⟩ x_ st0_ H hst_
  simp only [f69_L1] at H hst_
  subst hst_
  refine AW.sseq ?_
  refine AW.rseq ?_
  try simp only [↓wk, ↓wl, nc, evV, wrapBits_eq, ↓reduceIte, Nat.reduceEqDiff, Nat.reduceAdd, Nat.reduceSub, Nat.reduceLeDiff, Nat.reduceLT, Nat.reduceBEq, reduceCtorEq, Int.reduceEq]
  refine AW.ifc H (by rfl) ?_ ?_ <;> clear H <;> intro H
  · refine AW.skip ?_
    refine seqQ.norm ?_
    refine AW.bseq ?_
    refine AW.join (f69_J2 l_2226 i_2256 x_2227) H ?_ fun hf69_J2 => ?_
    · clear H
      rintro ⟨done_2271, out_2272⟩ st0_ H hst_
      simp only [f69_J2] at H hst_
      subst hst_
      refine AW.rseq ?_
      try simp only [↓wk, ↓wl, nc, evV, wrapBits_eq, ↓reduceIte, Nat.reduceEqDiff, Nat.reduceAdd, Nat.reduceSub, Nat.reduceLeDiff, Nat.reduceLT, Nat.reduceBEq, reduceCtorEq, Int.reduceEq]
      refine evTs_at (enc := eRef56Stream) H (by rfl) (by rfl) ?_ <;> clear H <;> intro x_2273 H
      try simp only [eRef56Stream, eL, ↓wk, ↓wl, nc, evV, wrapBits_eq, ↓reduceIte, Nat.reduceEqDiff, Nat.reduceAdd, Nat.reduceSub, Nat.reduceLeDiff, Nat.reduceLT, Nat.reduceBEq, reduceCtorEq, Int.reduceEq]
      refine AW.ifc H (by rfl) ?_ ?_ <;> clear H <;> intro H
      · refine AW.rend ?_
        try simp only [↓wk, ↓wl, nc, evV, wrapBits_eq, ↓reduceIte, Nat.reduceEqDiff, Nat.reduceAdd, Nat.reduceSub, Nat.reduceLeDiff, Nat.reduceLT, Nat.reduceBEq, reduceCtorEq, Int.reduceEq]
        refine evTs_at (enc := eRef56Stream) H (by rfl) (by rfl) ?_ <;> clear H <;> intro x_2274 H
        try simp only [eRef56Stream, eL, ↓wk, ↓wl, nc, evV, wrapBits_eq, ↓reduceIte, Nat.reduceEqDiff, Nat.reduceAdd, Nat.reduceSub, Nat.reduceLeDiff, Nat.reduceLT, Nat.reduceBEq, reduceCtorEq, Int.reduceEq]
        refine evTs_app (enc := eRef56Stream) H (by rfl) (by first | rfl | simp only [List.length_set]) (by rfl) (by rfl) ?_ <;> clear H <;> intro out_2275 H
        try simp only [↓wk, ↓wl, nc, evV, wrapBits_eq, ↓reduceIte, Nat.reduceEqDiff, Nat.reduceAdd, Nat.reduceSub, Nat.reduceLeDiff, Nat.reduceLT, Nat.reduceBEq, reduceCtorEq, Int.reduceEq]
        refine blkQ.norm ?_
        refine AW.rend ?_
        try simp only [↓wk, ↓wl, nc, evV, wrapBits_eq, ↓reduceIte, Nat.reduceEqDiff, Nat.reduceAdd, Nat.reduceSub, Nat.reduceLeDiff, Nat.reduceLT, Nat.reduceBEq, reduceCtorEq, Int.reduceEq]
        exact loopQ.next H ((Le.none [0, 2] [0, 3, 5, 6, 7] (by decide) (by simp only [f69_L1, List.length_set, Option.map_some, restrict_eq, renS_nil, renS_cons, renB_els, renB_cel, renB_dead, deep_eq, map_ren_enc, ren_agg', ren_tup', ren_fn', ren_int', ren_bool', ren_str', ren_sl', ren_pro', ren_nilp', ren_nilfn', ren_junk', ren_ptr', ren_row', ren_arow', ren_eptr', vm, List.idxOf?_cons, List.idxOf?_nil, beq_self_eq_true, Option.map_none, List.getD_cons_zero, List.getD_cons_succ, ↓wk, ↓wl, nc, evV, wrapBits_eq, ↓reduceIte, Nat.reduceEqDiff, Nat.reduceAdd, Nat.reduceSub, Nat.reduceLeDiff, Nat.reduceLT, Nat.reduceBEq, reduceCtorEq, Int.reduceEq])))
      · refine AW.skip ?_
        refine blkQ.norm ?_
        refine AW.rend ?_
        try simp only [↓wk, ↓wl, nc, evV, wrapBits_eq, ↓reduceIte, Nat.reduceEqDiff, Nat.reduceAdd, Nat.reduceSub, Nat.reduceLeDiff, Nat.reduceLT, Nat.reduceBEq, reduceCtorEq, Int.reduceEq]
        exact loopQ.next H ((Le.none [0, 1] [0, 3, 5, 6, 7] (by decide) (by simp only [f69_L1, List.length_set, Option.map_some, restrict_eq, renS_nil, renS_cons, renB_els, renB_cel, renB_dead, deep_eq, map_ren_enc, ren_agg', ren_tup', ren_fn', ren_int', ren_bool', ren_str', ren_sl', ren_pro', ren_nilp', ren_nilfn', ren_junk', ren_ptr', ren_row', ren_arow', ren_eptr', vm, List.idxOf?_cons, List.idxOf?_nil, beq_self_eq_true, Option.map_none, List.getD_cons_zero, List.getD_cons_succ, ↓wk, ↓wl, nc, evV, wrapBits_eq, ↓reduceIte, Nat.reduceEqDiff, Nat.reduceAdd, Nat.reduceSub, Nat.reduceLeDiff, Nat.reduceLT, Nat.reduceBEq, reduceCtorEq, Int.reduceEq])))
    · refine AW.rseq ?_
      try simp only [↓wk, ↓wl, nc, evV, wrapBits_eq, ↓reduceIte, Nat.reduceEqDiff, Nat.reduceAdd, Nat.reduceSub, Nat.reduceLeDiff, Nat.reduceLT, Nat.reduceBEq, reduceCtorEq, Int.reduceEq]
      refine evTs_ifg H (by rfl) ?_ ?_ <;> clear H <;> intro H
      · try simp only [↓wk, ↓wl, nc, evV, wrapBits_eq, ↓reduceIte, Nat.reduceEqDiff, Nat.reduceAdd, Nat.reduceSub, Nat.reduceLeDiff, Nat.reduceLT, Nat.reduceBEq, reduceCtorEq, Int.reduceEq]
        refine evTs_at (enc := eRef56Stream) H (by rfl) (by rfl) ?_ <;> clear H <;> intro x_2276 H
        try simp only [eRef56Stream, eL, ↓wk, ↓wl, nc, evV, wrapBits_eq, ↓reduceIte, Nat.reduceEqDiff, Nat.reduceAdd, Nat.reduceSub, Nat.reduceLeDiff, Nat.reduceLT, Nat.reduceBEq, reduceCtorEq, Int.reduceEq]
        refine AW.ifc H (by rfl) ?_ ?_ <;> clear H <;> intro H
        · refine AW.rseq ?_
          try simp only [↓wk, ↓wl, nc, evV, wrapBits_eq, ↓reduceIte, Nat.reduceEqDiff, Nat.reduceAdd, Nat.reduceSub, Nat.reduceLeDiff, Nat.reduceLT, Nat.reduceBEq, reduceCtorEq, Int.reduceEq]
          refine evTs_app (enc := eRef56Stream) H (by rfl) (by first | rfl | simp only [List.length_set]) (by rfl) (by rfl) ?_ <;> clear H <;> intro out_2277 H
          try simp only [↓wk, ↓wl, nc, evV, wrapBits_eq, ↓reduceIte, Nat.reduceEqDiff, Nat.reduceAdd, Nat.reduceSub, Nat.reduceLeDiff, Nat.reduceLT, Nat.reduceBEq, reduceCtorEq, Int.reduceEq]
          refine AW.rend ?_
          try simp only [↓wk, ↓wl, nc, evV, wrapBits_eq, ↓reduceIte, Nat.reduceEqDiff, Nat.reduceAdd, Nat.reduceSub, Nat.reduceLeDiff, Nat.reduceLT, Nat.reduceBEq, reduceCtorEq, Int.reduceEq]
          refine seqQ.norm ?_
          exact hf69_J2 _ _ H ((Le.none [0, 2] [0, 3, 5, 6, 7] (by decide) (by simp only [f69_J2, List.length_set, Option.map_some, restrict_eq, renS_nil, renS_cons, renB_els, renB_cel, renB_dead, deep_eq, map_ren_enc, ren_agg', ren_tup', ren_fn', ren_int', ren_bool', ren_str', ren_sl', ren_pro', ren_nilp', ren_nilfn', ren_junk', ren_ptr', ren_row', ren_arow', ren_eptr', vm, List.idxOf?_cons, List.idxOf?_nil, beq_self_eq_true, Option.map_none, List.getD_cons_zero, List.getD_cons_succ, ↓wk, ↓wl, nc, evV, wrapBits_eq, ↓reduceIte, Nat.reduceEqDiff, Nat.reduceAdd, Nat.reduceSub, Nat.reduceLeDiff, Nat.reduceLT, Nat.reduceBEq, reduceCtorEq, Int.reduceEq])))
        · refine AW.skip ?_
          refine seqQ.norm ?_
          exact hf69_J2 _ _ H ((Le.none [0, 1] [0, 3, 5, 6, 7] (by decide) (by simp only [f69_J2, List.length_set, Option.map_some, restrict_eq, renS_nil, renS_cons, renB_els, renB_cel, renB_dead, deep_eq, map_ren_enc, ren_agg', ren_tup', ren_fn', ren_int', ren_bool', ren_str', ren_sl', ren_pro', ren_nilp', ren_nilfn', ren_junk', ren_ptr', ren_row', ren_arow', ren_eptr', vm, List.idxOf?_cons, List.idxOf?_nil, beq_self_eq_true, Option.map_none, List.getD_cons_zero, List.getD_cons_succ, ↓wk, ↓wl, nc, evV, wrapBits_eq, ↓reduceIte, Nat.reduceEqDiff, Nat.reduceAdd, Nat.reduceSub, Nat.reduceLeDiff, Nat.reduceLT, Nat.reduceBEq, reduceCtorEq, Int.reduceEq])))
      · try simp only [↓wk, ↓wl, nc, evV, wrapBits_eq, ↓reduceIte, Nat.reduceEqDiff, Nat.reduceAdd, Nat.reduceSub, Nat.reduceLeDiff, Nat.reduceLT, Nat.reduceBEq, reduceCtorEq, Int.reduceEq]
        refine AW.iff (by rfl) ?_
        refine AW.skip ?_
        refine seqQ.norm ?_
        exact hf69_J2 _ _ H ((Le.none [0, 1] [0, 3, 5, 6, 7] (by decide) (by simp only [f69_J2, List.length_set, Option.map_some, restrict_eq, renS_nil, renS_cons, renB_els, renB_cel, renB_dead, deep_eq, map_ren_enc, ren_agg', ren_tup', ren_fn', ren_int', ren_bool', ren_str', ren_sl', ren_pro', ren_nilp', ren_nilfn', ren_junk', ren_ptr', ren_row', ren_arow', ren_eptr', vm, List.idxOf?_cons, List.idxOf?_nil, beq_self_eq_true, Option.map_none, List.getD_cons_zero, List.getD_cons_succ, ↓wk, ↓wl, nc, evV, wrapBits_eq, ↓reduceIte, Nat.reduceEqDiff, Nat.reduceAdd, Nat.reduceSub, Nat.reduceLeDiff, Nat.reduceLT, Nat.reduceBEq, reduceCtorEq, Int.reduceEq])))
  · refine AW.exit ?_
    refine seqQ.exit ?_
    refine loopQ.exit H ?_ <;> clear H <;> intro H
    try dsimp only at H
    refine blk0.here ?_
    refine seqQ.norm ?_
    refine AW.sseq ?_
    refine AW.rseq ?_
    try simp only [↓wk, ↓wl, nc, evV, wrapBits_eq, ↓reduceIte, Nat.reduceEqDiff, Nat.reduceAdd, Nat.reduceSub, Nat.reduceLeDiff, Nat.reduceLT, Nat.reduceBEq, reduceCtorEq, Int.reduceEq]
    refine AW.ifc H (by rfl) ?_ ?_ <;> clear H <;> intro H
    · refine AW.rend ?_
      try simp only [↓wk, ↓wl, nc, evV, wrapBits_eq, ↓reduceIte, Nat.reduceEqDiff, Nat.reduceAdd, Nat.reduceSub, Nat.reduceLeDiff, Nat.reduceLT, Nat.reduceBEq, reduceCtorEq, Int.reduceEq]
      refine evTs_app (enc := eRef56Stream) H (by rfl) (by first | rfl | simp only [List.length_set]) (by rfl) (by rfl) ?_ <;> clear H <;> intro out_2278 H
      try simp only [↓wk, ↓wl, nc, evV, wrapBits_eq, ↓reduceIte, Nat.reduceEqDiff, Nat.reduceAdd, Nat.reduceSub, Nat.reduceLeDiff, Nat.reduceLT, Nat.reduceBEq, reduceCtorEq, Int.reduceEq]
      refine seqQ.norm ?_
      refine AW.rseq ?_
      try simp only [↓wk, ↓wl, nc, evV, wrapBits_eq, ↓reduceIte, Nat.reduceEqDiff, Nat.reduceAdd, Nat.reduceSub, Nat.reduceLeDiff, Nat.reduceLT, Nat.reduceBEq, reduceCtorEq, Int.reduceEq]
      refine AW.ret ?_
      cases H
      exact hQ _ _ _ _ (.inr rfl) (by simp only [resVs, omap, resV, ↓wk, ↓wl, nc, evV, wrapBits_eq, ↓reduceIte, Nat.reduceEqDiff, Nat.reduceAdd, Nat.reduceSub, Nat.reduceLeDiff, Nat.reduceLT, Nat.reduceBEq, reduceCtorEq, Int.reduceEq]; rfl) (hand_1 (by rfl) (by simp) (enc_all _)) (by rfl)
    · refine AW.skip ?_
      refine seqQ.norm ?_
      refine AW.rseq ?_
      try simp only [↓wk, ↓wl, nc, evV, wrapBits_eq, ↓reduceIte, Nat.reduceEqDiff, Nat.reduceAdd, Nat.reduceSub, Nat.reduceLeDiff, Nat.reduceLT, Nat.reduceBEq, reduceCtorEq, Int.reduceEq]
      refine AW.ret ?_
      cases H
      exact hQ _ _ _ _ (.inr rfl) (by simp only [resVs, omap, resV, ↓wk, ↓wl, nc, evV, wrapBits_eq, ↓reduceIte, Nat.reduceEqDiff, Nat.reduceAdd, Nat.reduceSub, Nat.reduceLeDiff, Nat.reduceLT, Nat.reduceBEq, reduceCtorEq, Int.reduceEq]; rfl) (hand_1 (by rfl) (by simp) (enc_all _)) (by rfl)
theorem f69_im {l_2226 : (List Ref56Stream)} {x_2227 : Ref56Stream} {r_ : (List Ref56Stream)} (H : f69 l_2226 x_2227 = some r_) : Pure Try.prog 69 [.sl 5 false (l_2226.map eRef56Stream), .agg [.int .i64 x_2227.fUniverse, .int .i64 x_2227.fSeq, .int .i64 x_2227.fLast, .int .i64 x_2227.fTimes, .str x_2227.fSlots]] (· = .sl 5 false (r_.map eRef56Stream)) := (f69_ok H).unfr (by first | exact enc_fits _ | simp only [frFits, List.all_cons, List.all_nil, enc_fits, Bool.and_self])
def c52_0 : C := .seq (.reg [iI 5 (.faddr 0 (.t 2)), iI 6 (.load 0 (.t 5)), iI 7 (.faddr 0 (.t 3)), iI 8 (.load 0 (.t 7)), iI 9 (.faddr 1 (.t 2)), iI 10 (.load 0 (.t 9)), iI 11 (.faddr 1 (.t 3)), iI 12 (.load 0 (.t 11)), iI 13 (.faddr 2 (.t 2)), iI 14 (.load 0 (.t 13)), iI 15 (.faddr 4 (.t 3)), iI 16 (.load 0 (.t 15)), iI 17 (.build [(1, (.int .u64 0)), (1, (.int .i64 0)), (1, (.int .i64 0)), (1, (.int .i64 0)), (1, (.int .i64 0)), (1, (.bool false)), (1, (.str []))] [(0, 0, (.t 6)), (1, 0, (.t 8)), (2, 0, (.t 10)), (3, 0, (.t 12)), (4, 0, (.t 14)), (6, 0, (.t 16))]), iN (.store 7 (.t 4) (.t 17))]) .ret
def ir52 : C := .seq (.reg [iI 2 (.box (.t 0)), iI 3 (.box (.t 1)), iI 4 (.alloc [(1, (.int .u64 0)), (1, (.int .i64 0)), (1, (.int .i64 0)), (1, (.int .i64 0)), (1, (.int .i64 0)), (1, (.bool false)), (1, (.str []))])]) c52_0
theorem fd52 : fd? Try.prog 52 = some (18, [.cell 4 7], ir52) := by kernel_rfl
noncomputable def f52 (s_2280 : Ref56Sender) (x_2281 : Ref56Stream) : Option (Ref56Packet) :=
  (some (Ref56Packet.mk s_2280.fSource x_2281.fUniverse s_2280.fPriority x_2281.fSeq s_2280.fSync false x_2281.fSlots))
theorem f52_ok {s_2280 : Ref56Sender} {x_2281 : Ref56Stream} {r_ : Ref56Packet} (H : f52 s_2280 x_2281 = some r_) : Pure Try.prog 52 [.agg [.int .u64 s_2280.fSource, .int .i64 s_2280.fPriority, .int .i64 s_2280.fSync, .int .i64 s_2280.fPulse, .sl 5 false (s_2280.fStreams.map eRef56Stream)], .agg [.int .i64 x_2281.fUniverse, .int .i64 x_2281.fSeq, .int .i64 x_2281.fLast, .int .i64 x_2281.fTimes, .str x_2281.fSlots]] (· = .agg [.int .u64 r_.fSource, .int .i64 r_.fUniverse, .int .i64 r_.fPriority, .int .i64 r_.fSeq, .int .i64 r_.fSync, .bool r_.fEnd, .str r_.fSlots]) := by
  refine Pure.walk2 fd52 none (Nat.le_of_ble_eq_true rfl) (by rfl) fun Q hQ => ?_
  simp only [f52] at H
  refine AW.rseq ?_
  try simp only [↓wk, ↓wl, nc, evV, wrapBits_eq, ↓reduceIte, Nat.reduceEqDiff, Nat.reduceAdd, Nat.reduceSub, Nat.reduceLeDiff, Nat.reduceLT, Nat.reduceBEq, reduceCtorEq, Int.reduceEq]
  refine AW.rseq ?_
  try simp only [↓wk, ↓wl, nc, evV, wrapBits_eq, ↓reduceIte, Nat.reduceEqDiff, Nat.reduceAdd, Nat.reduceSub, Nat.reduceLeDiff, Nat.reduceLT, Nat.reduceBEq, reduceCtorEq, Int.reduceEq]
  refine AW.ret ?_
  cases H
  exact hQ _ _ _ _ (.inr rfl) (by simp only [resVs, omap, resV, ↓wk, ↓wl, nc, evV, wrapBits_eq, ↓reduceIte, Nat.reduceEqDiff, Nat.reduceAdd, Nat.reduceSub, Nat.reduceLeDiff, Nat.reduceLT, Nat.reduceBEq, reduceCtorEq, Int.reduceEq]; rfl) (hand_plain (by rfl)) (by rfl)
noncomputable def f49_J2 (s_2362 : (List Ref56Stream)) (s_2201 : Ref56Sender) (out_2363 : (List Ref56Packet)) (i_2361 : Int) (frames_2203 : (List ApiFrame)) (t_2202 : Int) : Jn (Bool × Int × Int × Int × Int × (List UInt8)) (Ctl (Int × (List Ref56Stream) × (List Ref56Packet)) ((List Ref56Stream) × (List Ref56Packet))) where
  run := fun (sent_2381, x_2382, x_2383, x_2384, x_2385, x_2386) => (if sent_2381 = true then (f69 s_2362 (Ref56Stream.mk x_2382 x_2383 x_2384 x_2385 x_2386)).bind fun r_2387 => (f52 (Ref56Sender.mk s_2201.fSource s_2201.fPriority s_2201.fSync s_2201.fPulse r_2387) (Ref56Stream.mk x_2382 x_2383 x_2384 x_2385 x_2386)).bind fun r_2388 => (app? 64 out_2363 ([r_2388])).bind fun out_2389 => (some (.next ((IntKind.i64.wrap (i_2361 + 1)), r_2387, out_2389))) else (some (.next ((IntKind.i64.wrap (i_2361 + 1)), s_2362, out_2363))))
  cst := fun (sent_2381, x_2382, x_2383, x_2384, x_2385, x_2386) => ⟨put (put (put (put (put (put (put (put (fun _ => .junk) 11 (.bool sent_2381)) 10 (.ptr 3 0)) 9 (.int .i64 i_2361)) 8 (.row 7 2 0 out_2363.length)) 6 (.ptr 1 0)) 3 (.ptr 0 0)) 2 (.sl 2 false (frames_2203.map eApiFrame))) 1 (.int .i64 t_2202), [.cel [.int .u64 s_2201.fSource, .int .i64 s_2201.fPriority, .int .i64 s_2201.fSync, .int .i64 s_2201.fPulse, .sl 5 false (s_2362.map eRef56Stream)], .cel [.int .u64 0, .int .i64 0, .int .i64 0, .int .i64 0, .sl 5 true []], .els 7 (out_2363.map eRef56Packet), .cel [.int .i64 x_2382, .int .i64 x_2383, .int .i64 x_2384, .int .i64 x_2385, .str x_2386]]⟩
noncomputable def f49_L1 (frames_2203 : (List ApiFrame)) (s_2201 : Ref56Sender) (t_2202 : Int) : Lp (Int × (List Ref56Stream) × (List Ref56Packet)) ((List Ref56Stream) × (List Ref56Packet)) where
  body := fun (i_2361, s_2362, out_2363) => (if (decide (i_2361 < ((frames_2203.length : Nat) : Int))) = true then (at? frames_2203 i_2361).bind fun x_2390 => (f68 (Ref56Sender.mk s_2201.fSource s_2201.fPriority s_2201.fSync s_2201.fPulse s_2362) t_2202 x_2390).bind fun r_2391 => ((f49_J2 s_2362 s_2201 out_2363 i_2361 frames_2203 t_2202).run (r_2391.2, r_2391.1.fUniverse, r_2391.1.fSeq, r_2391.1.fLast, r_2391.1.fTimes, r_2391.1.fSlots)) else (some (.brk (s_2362, out_2363))))
  cst := fun (i_2361, s_2362, out_2363) => ⟨put (put (put (put (put (put (fun _ => .junk) 9 (.int .i64 i_2361)) 8 (.row 7 2 0 out_2363.length)) 6 (.ptr 1 0)) 3 (.ptr 0 0)) 2 (.sl 2 false (frames_2203.map eApiFrame))) 1 (.int .i64 t_2202), [.cel [.int .u64 s_2201.fSource, .int .i64 s_2201.fPriority, .int .i64 s_2201.fSync, .int .i64 s_2201.fPulse, .sl 5 false (s_2362.map eRef56Stream)], .cel [.int .u64 0, .int .i64 0, .int .i64 0, .int .i64 0, .sl 5 true []], .els 7 (out_2363.map eRef56Packet)]⟩
def c49_0 : C := .cond (.t 15) (.skip) (.exit 0)
def c49_1 : C := .reg [iI 34 (.mv (.t 8)), iI 35 (.load 5 (.t 3)), iI 36 (.load 5 (.t 10)), iI 37 (.call (.c (.fn 52 [])) [(.t 35), (.t 36)]), iI 38 (.mkslp 7 1 (.agg [(.int .u64 0), (.int .i64 0), (.int .i64 0), (.int .i64 0), (.int .i64 0), (.bool false), (.str [])]) [(0, (.t 37))]), iI 39 (.append 7 64 (.t 34) (.t 38)), iI 8 (.mv (.t 39))]
def c49_2 : C := .cond (.t 28) (.seq (.reg [iI 29 (.faddr 4 (.t 3)), iI 30 (.load 0 (.t 29)), iI 31 (.load 5 (.t 10)), iI 32 (.call (.c (.fn 69 [])) [(.t 30), (.t 31)]), iI 33 (.faddr 4 (.t 3)), iN (.store 0 (.t 33) (.t 32))]) c49_1) (.skip)
def c49_3 : C := .seq (.reg [iI 28 (.mv (.t 11))]) c49_2
def c49_4 : C := .reg [iI 16 (.mv (.t 9)), iI 17 (.bin .add (.t 16) (.c (.int .i64 1))), iI 9 (.mv (.t 17))]
def c49_5 : C := .seq (.block 1 (.seq (.regt (.fork [iI 19 (.load 5 (.t 3)), iI 20 (.mv (.t 1)), iI 21 (.mv (.t 2)), iI 22 (.mv (.t 9)), iI 23 (.iaddr 2 (.t 21) (.t 22)), iI 24 (.load 2 (.t 23))] (.run [iI 25 (.call (.c (.fn 68 [])) [(.t 19), (.t 20), (.t 24)]), iI 18 (.mv (.t 25)), iI 26 (.ext (.t 18) 0), iI 27 (.ext (.t 18) 1), iI 10 (.alloc [(1, (.int .i64 0)), (1, (.int .i64 0)), (1, (.int .i64 0)), (1, (.int .i64 0)), (1, (.str []))]), iN (.store 5 (.t 10) (.t 26)), iI 11 (.mv (.t 27))]) (.run [iI 10 (.alloc [(1, (.int .i64 0)), (1, (.int .i64 0)), (1, (.int .i64 0)), (1, (.int .i64 0)), (1, (.str []))]), iI 25 (.call (.c (.fn 68 [])) [(.t 19), (.t 20), (.t 24)]), iI 18 (.mv (.t 25)), iI 26 (.ext (.t 18) 0), iI 27 (.ext (.t 18) 1), iN (.store 5 (.t 10) (.t 26)), iI 11 (.mv (.t 27))]))) c49_3)) c49_4
def c49_6 : C := .block 0 (.loop (.seq (.seq (.reg [iI 12 (.mv (.t 9)), iI 13 (.mv (.t 2)), iI 14 (.len 0 (.t 13)), iI 15 (.bin .lss (.t 12) (.t 14))]) c49_0) c49_5))
def c49_7 : C := .reg [iI 60 (.faddr 3 (.t 3)), iI 61 (.load 0 (.t 60)), iI 62 (.bin .add (.t 61) (.c (.int .i64 1))), iI 63 (.bin .rem (.t 62) (.c (.int .i64 256))), iI 64 (.faddr 3 (.t 3)), iN (.store 0 (.t 64) (.t 63))]
def c49_8 : C := .cond (.t 47) (.seq (.reg [iI 48 (.mv (.t 8)), iI 49 (.faddr 0 (.t 3)), iI 50 (.load 0 (.t 49)), iI 51 (.faddr 1 (.t 3)), iI 52 (.load 0 (.t 51)), iI 53 (.faddr 3 (.t 3)), iI 54 (.load 0 (.t 53)), iI 55 (.faddr 2 (.t 3)), iI 56 (.load 0 (.t 55)), iI 57 (.build [(1, (.int .u64 0)), (1, (.int .i64 0)), (1, (.int .i64 0)), (1, (.int .i64 0)), (1, (.int .i64 0)), (1, (.bool false)), (1, (.str []))] [(0, 0, (.t 50)), (2, 0, (.t 52)), (3, 0, (.t 54)), (4, 0, (.t 56))]), iI 58 (.mkslp 7 1 (.agg [(.int .u64 0), (.int .i64 0), (.int .i64 0), (.int .i64 0), (.int .i64 0), (.bool false), (.str [])]) [(0, (.t 57))]), iI 59 (.append 7 64 (.t 48) (.t 58)), iI 8 (.mv (.t 59))]) c49_7) (.skip)
def c49_9 : C := .seq (.reg [iI 65 (.load 5 (.t 3)), iI 66 (.mv (.t 8)), iN (.store 5 (.t 6) (.t 65)), iI 7 (.mv (.t 66))]) .ret
def c49_10 : C := .seq (.seq (.reg [iI 40 (.mv (.t 8)), iI 41 (.len 0 (.t 40)), iI 42 (.bin .gtr (.t 41) (.c (.int .i64 0))), iI 43 (.mv (.t 42)), iG (some 44) 43 true (.faddr 2 (.t 3)), iG (some 45) 43 true (.load 0 (.t 44)), iG (some 46) 43 true (.bin .neq (.t 45) (.c (.int .i64 0))), iI 47 (.pick (.t 43) (.t 46) (.c (.bool false)))]) c49_8) c49_9
def c49_11 : C := .seq (.seq (.reg [iI 9 (.mv (.c (.int .i64 0)))]) c49_6) c49_10
def c49_12 : C := .seq (.reg [iI 8 (.mv (.c (.sl 7 true [])))]) c49_11
def ir49 : C := .seq (.reg [iI 3 (.box (.t 0)), iI 6 (.alloc [(1, (.int .u64 0)), (1, (.int .i64 0)), (1, (.int .i64 0)), (1, (.int .i64 0)), (1, (.sl 5 true []))]), iI 7 (.mv (.c (.sl 7 true [])))]) c49_12
theorem fd49 : fd? Try.prog 49 = some (67, [.cell 6 5, .slot 7], ir49) := by kernel_rfl
noncomputable def f49 (s_2201 : Ref56Sender) (t_2202 : Int) (frames_2203 : (List ApiFrame)) : Option (Ref56Sender × (List Ref56Packet)) :=
  (Lp.run (f49_L1 frames_2203 s_2201 t_2202) (0, s_2201.fStreams, [])).bind fun (s_2375, out_2376) => (if (decide (0 < ((out_2376.length : Nat) : Int))) = true then (if (decide (s_2201.fSync ≠ 0)) = true then (app? 64 out_2376 ([(Ref56Packet.mk s_2201.fSource 0 s_2201.fPriority s_2201.fPulse s_2201.fSync false ([]))])).bind fun out_2377 => (some ((Ref56Sender.mk s_2201.fSource s_2201.fPriority s_2201.fSync ((IntKind.i64.wrap (s_2201.fPulse + 1)).tmod 256) s_2375), out_2377)) else (some ((Ref56Sender.mk s_2201.fSource s_2201.fPriority s_2201.fSync s_2201.fPulse s_2375), out_2376))) else (some ((Ref56Sender.mk s_2201.fSource s_2201.fPriority s_2201.fSync s_2201.fPulse s_2375), out_2376)))
theorem f49_ok {s_2201 : Ref56Sender} {t_2202 : Int} {frames_2203 : (List ApiFrame)} {r_ : Ref56Sender × (List Ref56Packet)} (H : f49 s_2201 t_2202 frames_2203 = some r_) : Pure Try.prog 49 [.agg [.int .u64 s_2201.fSource, .int .i64 s_2201.fPriority, .int .i64 s_2201.fSync, .int .i64 s_2201.fPulse, .sl 5 false (s_2201.fStreams.map eRef56Stream)], .int .i64 t_2202, .sl 2 false (frames_2203.map eApiFrame)] (· = .tup [.agg [.int .u64 r_.1.fSource, .int .i64 r_.1.fPriority, .int .i64 r_.1.fSync, .int .i64 r_.1.fPulse, .sl 5 false (r_.1.fStreams.map eRef56Stream)], .fr 7 (r_.2.map eRef56Packet)]) := by
  refine Pure.walk2 fd49 (some 1) (Nat.le_of_ble_eq_true rfl) (by rfl) fun Q hQ => ?_
  simp only [f49] at H
  refine AW.rseq ?_
  try simp only [↓wk, ↓wl, nc, evV, wrapBits_eq, ↓reduceIte, Nat.reduceEqDiff, Nat.reduceAdd, Nat.reduceSub, Nat.reduceLeDiff, Nat.reduceLT, Nat.reduceBEq, reduceCtorEq, Int.reduceEq]
  refine AW.rseq ?_
  try simp only [↓wk, ↓wl, nc, evV, wrapBits_eq, ↓reduceIte, Nat.reduceEqDiff, Nat.reduceAdd, Nat.reduceSub, Nat.reduceLeDiff, Nat.reduceLT, Nat.reduceBEq, reduceCtorEq, Int.reduceEq]
  refine AW.sseq ?_
  refine AW.rseq ?_
  try simp only [↓wk, ↓wl, nc, evV, wrapBits_eq, ↓reduceIte, Nat.reduceEqDiff, Nat.reduceAdd, Nat.reduceSub, Nat.reduceLeDiff, Nat.reduceLT, Nat.reduceBEq, reduceCtorEq, Int.reduceEq]
  refine AW.bend ?_
  refine AW.iter H ((Le.trans (Le.nilRow (i := 8) (e := 7) (by simp only [↓wk, ↓wl, nc, evV, wrapBits_eq, ↓reduceIte, Nat.reduceEqDiff, Nat.reduceAdd, Nat.reduceSub, Nat.reduceLeDiff, Nat.reduceLT, Nat.reduceBEq, reduceCtorEq, Int.reduceEq])) (Le.none [0, 1, 2] [1, 2, 3, 6, 8, 9] (by decide) (by simp only [f49_L1, List.length_set, Option.map_some, restrict_eq, renS_nil, renS_cons, renB_els, renB_cel, renB_dead, deep_eq, map_ren_enc, ren_agg', ren_tup', ren_fn', ren_int', ren_bool', ren_str', ren_sl', ren_pro', ren_nilp', ren_nilfn', ren_junk', ren_ptr', ren_row', ren_arow', ren_eptr', vm, List.idxOf?_cons, List.idxOf?_nil, beq_self_eq_true, Option.map_none, List.getD_cons_zero, List.getD_cons_succ, ↓wk, ↓wl, nc, evV, wrapBits_eq, ↓reduceIte, Nat.reduceEqDiff, Nat.reduceAdd, Nat.reduceSub, Nat.reduceLeDiff, Nat.reduceLT, Nat.reduceBEq, reduceCtorEq, Int.reduceEq])))) ?_ <;> clear H
  rintro ⟨i_2361, s_2362, out_2363⟩ x_ st0_ H hst_
  simp only [f49_L1] at H hst_
  subst hst_
  refine AW.sseq ?_
  refine AW.rseq ?_
  try simp only [↓wk, ↓wl, nc, evV, wrapBits_eq, ↓reduceIte, Nat.reduceEqDiff, Nat.reduceAdd, Nat.reduceSub, Nat.reduceLeDiff, Nat.reduceLT, Nat.reduceBEq, reduceCtorEq, Int.reduceEq]
  refine AW.ifc H (by rfl) ?_ ?_ <;> clear H <;> intro H
  · refine AW.skip ?_
    refine seqQ.norm ?_
    refine AW.bseq ?_
    refine AW.join (f49_J2 s_2362 s_2201 out_2363 i_2361 frames_2203 t_2202) H ?_ fun hf49_J2 => ?_
    · clear H
      rintro ⟨sent_2381, x_2382, x_2383, x_2384, x_2385, x_2386⟩ st0_ H hst_
      simp only [f49_J2] at H hst_
      subst hst_
      refine AW.rseq ?_
      try simp only [↓wk, ↓wl, nc, evV, wrapBits_eq, ↓reduceIte, Nat.reduceEqDiff, Nat.reduceAdd, Nat.reduceSub, Nat.reduceLeDiff, Nat.reduceLT, Nat.reduceBEq, reduceCtorEq, Int.reduceEq]
      refine AW.ifc H (by rfl) ?_ ?_ <;> clear H <;> intro H
      · refine AW.rseq ?_
        try simp only [↓wk, ↓wl, nc, evV, wrapBits_eq, ↓reduceIte, Nat.reduceEqDiff, Nat.reduceAdd, Nat.reduceSub, Nat.reduceLeDiff, Nat.reduceLT, Nat.reduceBEq, reduceCtorEq, Int.reduceEq]
        refine evTs_pure hFn H (fun _ h => f69_im h) (by rfl) (by rfl) (by rfl) (by rfl) (fun _ => rfl) ?_ <;> clear H <;> intro r_2387 H
        try simp only [eL, ↓wk, ↓wl, nc, evV, wrapBits_eq, ↓reduceIte, Nat.reduceEqDiff, Nat.reduceAdd, Nat.reduceSub, Nat.reduceLeDiff, Nat.reduceLT, Nat.reduceBEq, reduceCtorEq, Int.reduceEq]
        refine AW.rend ?_
        try simp only [↓wk, ↓wl, nc, evV, wrapBits_eq, ↓reduceIte, Nat.reduceEqDiff, Nat.reduceAdd, Nat.reduceSub, Nat.reduceLeDiff, Nat.reduceLT, Nat.reduceBEq, reduceCtorEq, Int.reduceEq]
        refine evTs_pure hFn H (fun _ h => f52_ok h) (by rfl) (by rfl) (by rfl) (by rfl) (fun _ => rfl) ?_ <;> clear H <;> intro r_2388 H
        try simp only [eL, eRef56Packet, ↓wk, ↓wl, nc, evV, wrapBits_eq, ↓reduceIte, Nat.reduceEqDiff, Nat.reduceAdd, Nat.reduceSub, Nat.reduceLeDiff, Nat.reduceLT, Nat.reduceBEq, reduceCtorEq, Int.reduceEq]
        refine evTs_app (enc := eRef56Packet) H (by rfl) (by first | rfl | simp only [List.length_set]) (by rfl) (by rfl) ?_ <;> clear H <;> intro out_2389 H
        try simp only [↓wk, ↓wl, nc, evV, wrapBits_eq, ↓reduceIte, Nat.reduceEqDiff, Nat.reduceAdd, Nat.reduceSub, Nat.reduceLeDiff, Nat.reduceLT, Nat.reduceBEq, reduceCtorEq, Int.reduceEq]
        refine blkQ.norm ?_
        refine AW.rend ?_
        try simp only [↓wk, ↓wl, nc, evV, wrapBits_eq, ↓reduceIte, Nat.reduceEqDiff, Nat.reduceAdd, Nat.reduceSub, Nat.reduceLeDiff, Nat.reduceLT, Nat.reduceBEq, reduceCtorEq, Int.reduceEq]
        exact loopQ.next H ((Le.none [0, 1, 4] [1, 2, 3, 6, 8, 9] (by decide) (by simp only [f49_L1, List.length_set, Option.map_some, restrict_eq, renS_nil, renS_cons, renB_els, renB_cel, renB_dead, deep_eq, map_ren_enc, ren_agg', ren_tup', ren_fn', ren_int', ren_bool', ren_str', ren_sl', ren_pro', ren_nilp', ren_nilfn', ren_junk', ren_ptr', ren_row', ren_arow', ren_eptr', vm, List.idxOf?_cons, List.idxOf?_nil, beq_self_eq_true, Option.map_none, List.getD_cons_zero, List.getD_cons_succ, ↓wk, ↓wl, nc, evV, wrapBits_eq, ↓reduceIte, Nat.reduceEqDiff, Nat.reduceAdd, Nat.reduceSub, Nat.reduceLeDiff, Nat.reduceLT, Nat.reduceBEq, reduceCtorEq, Int.reduceEq])))
      · refine AW.skip ?_
        refine blkQ.norm ?_
        refine AW.rend ?_
        try simp only [↓wk, ↓wl, nc, evV, wrapBits_eq, ↓reduceIte, Nat.reduceEqDiff, Nat.reduceAdd, Nat.reduceSub, Nat.reduceLeDiff, Nat.reduceLT, Nat.reduceBEq, reduceCtorEq, Int.reduceEq]
        exact loopQ.next H ((Le.none [0, 1, 2] [1, 2, 3, 6, 8, 9] (by decide) (by simp only [f49_L1, List.length_set, Option.map_some, restrict_eq, renS_nil, renS_cons, renB_els, renB_cel, renB_dead, deep_eq, map_ren_enc, ren_agg', ren_tup', ren_fn', ren_int', ren_bool', ren_str', ren_sl', ren_pro', ren_nilp', ren_nilfn', ren_junk', ren_ptr', ren_row', ren_arow', ren_eptr', vm, List.idxOf?_cons, List.idxOf?_nil, beq_self_eq_true, Option.map_none, List.getD_cons_zero, List.getD_cons_succ, ↓wk, ↓wl, nc, evV, wrapBits_eq, ↓reduceIte, Nat.reduceEqDiff, Nat.reduceAdd, Nat.reduceSub, Nat.reduceLeDiff, Nat.reduceLT, Nat.reduceBEq, reduceCtorEq, Int.reduceEq])))
    · refine AW.regt ?_
      refine evR.fork ?_
      try simp only [↓wk, ↓wl, nc, evV, wrapBits_eq, ↓reduceIte, Nat.reduceEqDiff, Nat.reduceAdd, Nat.reduceSub, Nat.reduceLeDiff, Nat.reduceLT, Nat.reduceBEq, reduceCtorEq, Int.reduceEq]
      refine evTs_at (enc := eApiFrame) H (by rfl) (by rfl) ?_ <;> clear H <;> intro x_2390 H
      try simp only [eApiFrame, eL, ↓wk, ↓wl, nc, evV, wrapBits_eq, ↓reduceIte, Nat.reduceEqDiff, Nat.reduceAdd, Nat.reduceSub, Nat.reduceLeDiff, Nat.reduceLT, Nat.reduceBEq, reduceCtorEq, Int.reduceEq]
      refine evR.both ?_ ?_
      · refine evR.run ?_
        try simp only [↓wk, ↓wl, nc, evV, wrapBits_eq, ↓reduceIte, Nat.reduceEqDiff, Nat.reduceAdd, Nat.reduceSub, Nat.reduceLeDiff, Nat.reduceLT, Nat.reduceBEq, reduceCtorEq, Int.reduceEq]
        refine evTs_pure hFnq H (fun _ h => f68_ok h) (by rfl) (by rfl) (by rfl) (by rfl) (fun _ => rfl) ?_ <;> clear H <;> intro r_2391 H
        try simp only [eL, eRef56Stream, ↓wk, ↓wl, nc, evV, wrapBits_eq, ↓reduceIte, Nat.reduceEqDiff, Nat.reduceAdd, Nat.reduceSub, Nat.reduceLeDiff, Nat.reduceLT, Nat.reduceBEq, reduceCtorEq, Int.reduceEq]
        refine seqQ.norm ?_
        exact hf49_J2 _ _ H ((Le.none [0, 1, 2, 3] [1, 2, 3, 6, 8, 9, 10, 11] (by decide) (by simp only [f49_J2, List.length_set, Option.map_some, restrict_eq, renS_nil, renS_cons, renB_els, renB_cel, renB_dead, deep_eq, map_ren_enc, ren_agg', ren_tup', ren_fn', ren_int', ren_bool', ren_str', ren_sl', ren_pro', ren_nilp', ren_nilfn', ren_junk', ren_ptr', ren_row', ren_arow', ren_eptr', vm, List.idxOf?_cons, List.idxOf?_nil, beq_self_eq_true, Option.map_none, List.getD_cons_zero, List.getD_cons_succ, ↓wk, ↓wl, nc, evV, wrapBits_eq, ↓reduceIte, Nat.reduceEqDiff, Nat.reduceAdd, Nat.reduceSub, Nat.reduceLeDiff, Nat.reduceLT, Nat.reduceBEq, reduceCtorEq, Int.reduceEq])))
      · refine evR.run ?_
        try simp only [↓wk, ↓wl, nc, evV, wrapBits_eq, ↓reduceIte, Nat.reduceEqDiff, Nat.reduceAdd, Nat.reduceSub, Nat.reduceLeDiff, Nat.reduceLT, Nat.reduceBEq, reduceCtorEq, Int.reduceEq]
        refine evTs_pure hFnq H (fun _ h => f68_ok h) (by rfl) (by rfl) (by rfl) (by rfl) (fun _ => rfl) ?_ <;> clear H <;> intro r_2391 H
        try simp only [eL, eRef56Stream, ↓wk, ↓wl, nc, evV, wrapBits_eq, ↓reduceIte, Nat.reduceEqDiff, Nat.reduceAdd, Nat.reduceSub, Nat.reduceLeDiff, Nat.reduceLT, Nat.reduceBEq, reduceCtorEq, Int.reduceEq]
        refine seqQ.norm ?_
        exact hf49_J2 _ _ H ((Le.none [0, 1, 2, 3] [1, 2, 3, 6, 8, 9, 10, 11] (by decide) (by simp only [f49_J2, List.length_set, Option.map_some, restrict_eq, renS_nil, renS_cons, renB_els, renB_cel, renB_dead, deep_eq, map_ren_enc, ren_agg', ren_tup', ren_fn', ren_int', ren_bool', ren_str', ren_sl', ren_pro', ren_nilp', ren_nilfn', ren_junk', ren_ptr', ren_row', ren_arow', ren_eptr', vm, List.idxOf?_cons, List.idxOf?_nil, beq_self_eq_true, Option.map_none, List.getD_cons_zero, List.getD_cons_succ, ↓wk, ↓wl, nc, evV, wrapBits_eq, ↓reduceIte, Nat.reduceEqDiff, Nat.reduceAdd, Nat.reduceSub, Nat.reduceLeDiff, Nat.reduceLT, Nat.reduceBEq, reduceCtorEq, Int.reduceEq])))
  · refine AW.exit ?_
    refine seqQ.exit ?_
    refine loopQ.exit H ?_ <;> clear H <;> intro H
    try dsimp only at H
    refine blk0.here ?_
    refine seqQ.norm ?_
    refine AW.sseq ?_
    refine AW.rseq ?_
    try simp only [↓wk, ↓wl, nc, evV, wrapBits_eq, ↓reduceIte, Nat.reduceEqDiff, Nat.reduceAdd, Nat.reduceSub, Nat.reduceLeDiff, Nat.reduceLT, Nat.reduceBEq, reduceCtorEq, Int.reduceEq]
    refine evTs_ifg H (by rfl) ?_ ?_ <;> clear H <;> intro H
    · try simp only [↓wk, ↓wl, nc, evV, wrapBits_eq, ↓reduceIte, Nat.reduceEqDiff, Nat.reduceAdd, Nat.reduceSub, Nat.reduceLeDiff, Nat.reduceLT, Nat.reduceBEq, reduceCtorEq, Int.reduceEq]
      refine AW.ifc H (by rfl) ?_ ?_ <;> clear H <;> intro H
      · refine AW.rseq ?_
        try simp only [↓wk, ↓wl, nc, evV, wrapBits_eq, ↓reduceIte, Nat.reduceEqDiff, Nat.reduceAdd, Nat.reduceSub, Nat.reduceLeDiff, Nat.reduceLT, Nat.reduceBEq, reduceCtorEq, Int.reduceEq]
        refine evTs_app (enc := eRef56Packet) H (by rfl) (by first | rfl | simp only [List.length_set]) (by rfl) (by rfl) ?_ <;> clear H <;> intro out_2392 H
        try simp only [↓wk, ↓wl, nc, evV, wrapBits_eq, ↓reduceIte, Nat.reduceEqDiff, Nat.reduceAdd, Nat.reduceSub, Nat.reduceLeDiff, Nat.reduceLT, Nat.reduceBEq, reduceCtorEq, Int.reduceEq]
        refine AW.rend ?_
        try simp only [↓wk, ↓wl, nc, evV, wrapBits_eq, ↓reduceIte, Nat.reduceEqDiff, Nat.reduceAdd, Nat.reduceSub, Nat.reduceLeDiff, Nat.reduceLT, Nat.reduceBEq, reduceCtorEq, Int.reduceEq]
        refine seqQ.norm ?_
        refine AW.rseq ?_
        try simp only [↓wk, ↓wl, nc, evV, wrapBits_eq, ↓reduceIte, Nat.reduceEqDiff, Nat.reduceAdd, Nat.reduceSub, Nat.reduceLeDiff, Nat.reduceLT, Nat.reduceBEq, reduceCtorEq, Int.reduceEq]
        refine AW.ret ?_
        cases H
        exact hQ _ _ _ _ (.inr rfl) (by simp only [resVs, omap, resV, ↓wk, ↓wl, nc, evV, wrapBits_eq, ↓reduceIte, Nat.reduceEqDiff, Nat.reduceAdd, Nat.reduceSub, Nat.reduceLeDiff, Nat.reduceLT, Nat.reduceBEq, reduceCtorEq, Int.reduceEq]; rfl) (hand_k (by rfl) (by rfl) (by simp) (enc_all _) (by rfl)) (by rfl)
      · refine AW.skip ?_
        refine seqQ.norm ?_
        refine AW.rseq ?_
        try simp only [↓wk, ↓wl, nc, evV, wrapBits_eq, ↓reduceIte, Nat.reduceEqDiff, Nat.reduceAdd, Nat.reduceSub, Nat.reduceLeDiff, Nat.reduceLT, Nat.reduceBEq, reduceCtorEq, Int.reduceEq]
        refine AW.ret ?_
        cases H
        exact hQ _ _ _ _ (.inr rfl) (by simp only [resVs, omap, resV, ↓wk, ↓wl, nc, evV, wrapBits_eq, ↓reduceIte, Nat.reduceEqDiff, Nat.reduceAdd, Nat.reduceSub, Nat.reduceLeDiff, Nat.reduceLT, Nat.reduceBEq, reduceCtorEq, Int.reduceEq]; rfl) (hand_k (by rfl) (by rfl) (by simp) (enc_all _) (by rfl)) (by rfl)
    · try simp only [↓wk, ↓wl, nc, evV, wrapBits_eq, ↓reduceIte, Nat.reduceEqDiff, Nat.reduceAdd, Nat.reduceSub, Nat.reduceLeDiff, Nat.reduceLT, Nat.reduceBEq, reduceCtorEq, Int.reduceEq]
      refine AW.iff (by rfl) ?_
      refine AW.skip ?_
      refine seqQ.norm ?_
      refine AW.rseq ?_
      try simp only [↓wk, ↓wl, nc, evV, wrapBits_eq, ↓reduceIte, Nat.reduceEqDiff, Nat.reduceAdd, Nat.reduceSub, Nat.reduceLeDiff, Nat.reduceLT, Nat.reduceBEq, reduceCtorEq, Int.reduceEq]
      refine AW.ret ?_
      cases H
      exact hQ _ _ _ _ (.inr rfl) (by simp only [resVs, omap, resV, ↓wk, ↓wl, nc, evV, wrapBits_eq, ↓reduceIte, Nat.reduceEqDiff, Nat.reduceAdd, Nat.reduceSub, Nat.reduceLeDiff, Nat.reduceLT, Nat.reduceBEq, reduceCtorEq, Int.reduceEq]; rfl) (hand_k (by rfl) (by rfl) (by simp) (enc_all _) (by rfl)) (by rfl)
theorem f49_im {s_2201 : Ref56Sender} {t_2202 : Int} {frames_2203 : (List ApiFrame)} {r_ : Ref56Sender × (List Ref56Packet)} (H : f49 s_2201 t_2202 frames_2203 = some r_) : Pure Try.prog 49 [.agg [.int .u64 s_2201.fSource, .int .i64 s_2201.fPriority, .int .i64 s_2201.fSync, .int .i64 s_2201.fPulse, .sl 5 false (s_2201.fStreams.map eRef56Stream)], .int .i64 t_2202, .sl 2 false (frames_2203.map eApiFrame)] (· = .tup [.agg [.int .u64 r_.1.fSource, .int .i64 r_.1.fPriority, .int .i64 r_.1.fSync, .int .i64 r_.1.fPulse, .sl 5 false (r_.1.fStreams.map eRef56Stream)], .sl 7 false (r_.2.map eRef56Packet)]) := (f49_ok H).unfr (by first | exact enc_fits _ | simp only [frFits, List.all_cons, List.all_nil, enc_fits, Bool.and_self])
def c24_0 : C := .cond (.t 17) (.seq (.reg [iI 18 (.build [(1, (.int .u64 0)), (1, (.int .i64 0)), (1, (.int .i64 0)), (1, (.int .i64 0)), (1, (.sl 5 true []))] []), iI 19 (.mv (.t 9)), iN (.store 5 (.t 6) (.t 18)), iI 7 (.mv (.c (.sl 7 true []))), iI 8 (.mv (.t 19))]) .ret) (.skip)
def c24_1 : C := .seq (.reg [iI 16 (.mv (.t 9)), iI 17 (.bin .neq (.t 16) (.c (.int .i64 0)))]) c24_0
def c24_2 : C := .cond (.t 23) (.seq (.reg [iI 24 (.build [(1, (.int .u64 0)), (1, (.int .i64 0)), (1, (.int .i64 0)), (1, (.int .i64 0)), (1, (.sl 5 true []))] []), iI 25 (.mv (.t 10)), iN (.store 5 (.t 6) (.t 24)), iI 7 (.mv (.c (.sl 7 true []))), iI 8 (.mv (.t 25))]) .ret) (.skip)
def c24_3 : C := .seq (.reg [iI 22 (.mv (.t 10)), iI 23 (.bin .neq (.t 22) (.c (.int .i64 0)))]) c24_2
def c24_4 : C := .seq (.reg [iI 33 (.load 5 (.t 11)), iI 34 (.mv (.t 12)), iN (.store 5 (.t 6) (.t 33)), iI 7 (.mv (.t 34)), iI 8 (.mv (.c (.int .i64 0)))]) .ret
def c24_5 : C := .seq (.reg [iI 27 (.load 5 (.t 3)), iI 28 (.mv (.t 1)), iI 29 (.mv (.t 2)), iI 30 (.call (.c (.fn 49 [])) [(.t 27), (.t 28), (.t 29)]), iI 26 (.mv (.t 30)), iI 31 (.ext (.t 26) 0), iI 32 (.ext (.t 26) 1), iI 11 (.alloc [(1, (.int .u64 0)), (1, (.int .i64 0)), (1, (.int .i64 0)), (1, (.int .i64 0)), (1, (.sl 5 true []))]), iN (.store 5 (.t 11) (.t 31)), iI 12 (.mv (.t 32))]) c24_4
def c24_6 : C := .seq (.seq (.reg [iI 20 (.mv (.t 2)), iI 21 (.call (.c (.fn 48 [])) [(.t 20)]), iI 10 (.mv (.t 21))]) c24_3) c24_5
def c24_7 : C := .seq (.seq (.reg [iI 13 (.load 5 (.t 3)), iI 14 (.mv (.t 1)), iI 15 (.call (.c (.fn 47 [])) [(.t 13), (.t 14)]), iI 9 (.mv (.t 15))]) c24_1) c24_6
def ir24 : C := .seq (.reg [iI 3 (.box (.t 0)), iI 6 (.alloc [(1, (.int .u64 0)), (1, (.int .i64 0)), (1, (.int .i64 0)), (1, (.int .i64 0)), (1, (.sl 5 true []))]), iI 7 (.mv (.c (.sl 7 true []))), iI 8 (.mv (.c (.int .i64 0)))]) c24_7
theorem fd24 : fd? Try.prog 24 = some (35, [.cell 6 5, .slot 7, .slot 8], ir24) := by kernel_rfl
noncomputable def f24 (s_2088 : Ref56Sender) (t_2089 : Int) (frames_2090 : (List ApiFrame)) : Option (Ref56Sender × (List Ref56Packet) × Int) :=
  (f47 s_2088 t_2089).bind fun r_2162 => (if (decide (r_2162 ≠ 0)) = true then (some ((Ref56Sender.mk 0 0 0 0 ([])), [], r_2162)) else (f48 frames_2090).bind fun r_2200 => (if (decide (r_2200 ≠ 0)) = true then (some ((Ref56Sender.mk 0 0 0 0 ([])), [], r_2200)) else (f49 s_2088 t_2089 frames_2090).bind fun r_2393 => (some (r_2393.1, r_2393.2, 0))))
theorem f24_ok {s_2088 : Ref56Sender} {t_2089 : Int} {frames_2090 : (List ApiFrame)} {r_ : Ref56Sender × (List Ref56Packet) × Int} (H : f24 s_2088 t_2089 frames_2090 = some r_) : Pure Try.prog 24 [.agg [.int .u64 s_2088.fSource, .int .i64 s_2088.fPriority, .int .i64 s_2088.fSync, .int .i64 s_2088.fPulse, .sl 5 false (s_2088.fStreams.map eRef56Stream)], .int .i64 t_2089, .sl 2 false (frames_2090.map eApiFrame)] (· = .tup [.agg [.int .u64 r_.1.fSource, .int .i64 r_.1.fPriority, .int .i64 r_.1.fSync, .int .i64 r_.1.fPulse, .sl 5 false (r_.1.fStreams.map eRef56Stream)], .sl 7 false (r_.2.1.map eRef56Packet), .int .i64 r_.2.2]) := by
  refine Pure.walk2 fd24 none (Nat.le_of_ble_eq_true rfl) (by rfl) fun Q hQ => ?_
  simp only [f24] at H
  refine AW.rseq ?_
  try simp only [↓wk, ↓wl, nc, evV, wrapBits_eq, ↓reduceIte, Nat.reduceEqDiff, Nat.reduceAdd, Nat.reduceSub, Nat.reduceLeDiff, Nat.reduceLT, Nat.reduceBEq, reduceCtorEq, Int.reduceEq]
  refine AW.sseq ?_
  refine AW.rseq ?_
  try simp only [↓wk, ↓wl, nc, evV, wrapBits_eq, ↓reduceIte, Nat.reduceEqDiff, Nat.reduceAdd, Nat.reduceSub, Nat.reduceLeDiff, Nat.reduceLT, Nat.reduceBEq, reduceCtorEq, Int.reduceEq]
  refine evTs_pure hFn H (fun _ h => f47_ok h) (by rfl) (by rfl) (by rfl) (by rfl) (fun _ => rfl) ?_ <;> clear H <;> intro r_2162 H
  try simp only [eL, ↓wk, ↓wl, nc, evV, wrapBits_eq, ↓reduceIte, Nat.reduceEqDiff, Nat.reduceAdd, Nat.reduceSub, Nat.reduceLeDiff, Nat.reduceLT, Nat.reduceBEq, reduceCtorEq, Int.reduceEq]
  refine AW.rseq ?_
  try simp only [↓wk, ↓wl, nc, evV, wrapBits_eq, ↓reduceIte, Nat.reduceEqDiff, Nat.reduceAdd, Nat.reduceSub, Nat.reduceLeDiff, Nat.reduceLT, Nat.reduceBEq, reduceCtorEq, Int.reduceEq]
  refine AW.ifc H (by rfl) ?_ ?_ <;> clear H <;> intro H
  · refine AW.rseq ?_
    try simp only [↓wk, ↓wl, nc, evV, wrapBits_eq, ↓reduceIte, Nat.reduceEqDiff, Nat.reduceAdd, Nat.reduceSub, Nat.reduceLeDiff, Nat.reduceLT, Nat.reduceBEq, reduceCtorEq, Int.reduceEq]
    refine AW.ret ?_
    refine seqQ.ret ?_
    cases H
    exact hQ _ _ _ _ (.inr rfl) (by simp only [resVs, omap, resV, ↓wk, ↓wl, nc, evV, wrapBits_eq, ↓reduceIte, Nat.reduceEqDiff, Nat.reduceAdd, Nat.reduceSub, Nat.reduceLeDiff, Nat.reduceLT, Nat.reduceBEq, reduceCtorEq, Int.reduceEq]; rfl) (hand_plain (by rfl)) (by rfl)
  · refine AW.skip ?_
    refine seqQ.norm ?_
    refine AW.sseq ?_
    refine AW.rseq ?_
    try simp only [↓wk, ↓wl, nc, evV, wrapBits_eq, ↓reduceIte, Nat.reduceEqDiff, Nat.reduceAdd, Nat.reduceSub, Nat.reduceLeDiff, Nat.reduceLT, Nat.reduceBEq, reduceCtorEq, Int.reduceEq]
    refine evTs_pure hFn H (fun _ h => f48_ok h) (by rfl) (by rfl) (by rfl) (by rfl) (fun _ => rfl) ?_ <;> clear H <;> intro r_2200 H
    try simp only [eL, ↓wk, ↓wl, nc, evV, wrapBits_eq, ↓reduceIte, Nat.reduceEqDiff, Nat.reduceAdd, Nat.reduceSub, Nat.reduceLeDiff, Nat.reduceLT, Nat.reduceBEq, reduceCtorEq, Int.reduceEq]
    refine AW.rseq ?_
    try simp only [↓wk, ↓wl, nc, evV, wrapBits_eq, ↓reduceIte, Nat.reduceEqDiff, Nat.reduceAdd, Nat.reduceSub, Nat.reduceLeDiff, Nat.reduceLT, Nat.reduceBEq, reduceCtorEq, Int.reduceEq]
    refine AW.ifc H (by rfl) ?_ ?_ <;> clear H <;> intro H
    · refine AW.rseq ?_
      try simp only [↓wk, ↓wl, nc, evV, wrapBits_eq, ↓reduceIte, Nat.reduceEqDiff, Nat.reduceAdd, Nat.reduceSub, Nat.reduceLeDiff, Nat.reduceLT, Nat.reduceBEq, reduceCtorEq, Int.reduceEq]
      refine AW.ret ?_
      refine seqQ.ret ?_
      cases H
      exact hQ _ _ _ _ (.inr rfl) (by simp only [resVs, omap, resV, ↓wk, ↓wl, nc, evV, wrapBits_eq, ↓reduceIte, Nat.reduceEqDiff, Nat.reduceAdd, Nat.reduceSub, Nat.reduceLeDiff, Nat.reduceLT, Nat.reduceBEq, reduceCtorEq, Int.reduceEq]; rfl) (hand_plain (by rfl)) (by rfl)
    · refine AW.skip ?_
      refine seqQ.norm ?_
      refine AW.rseq ?_
      try simp only [↓wk, ↓wl, nc, evV, wrapBits_eq, ↓reduceIte, Nat.reduceEqDiff, Nat.reduceAdd, Nat.reduceSub, Nat.reduceLeDiff, Nat.reduceLT, Nat.reduceBEq, reduceCtorEq, Int.reduceEq]
      refine evTs_pure hFn H (fun _ h => f49_im h) (by rfl) (by rfl) (by rfl) (by rfl) (fun _ => rfl) ?_ <;> clear H <;> intro r_2393 H
      try simp only [eL, eRef56Sender, ↓wk, ↓wl, nc, evV, wrapBits_eq, ↓reduceIte, Nat.reduceEqDiff, Nat.reduceAdd, Nat.reduceSub, Nat.reduceLeDiff, Nat.reduceLT, Nat.reduceBEq, reduceCtorEq, Int.reduceEq]
      refine AW.rseq ?_
      try simp only [↓wk, ↓wl, nc, evV, wrapBits_eq, ↓reduceIte, Nat.reduceEqDiff, Nat.reduceAdd, Nat.reduceSub, Nat.reduceLeDiff, Nat.reduceLT, Nat.reduceBEq, reduceCtorEq, Int.reduceEq]
      refine AW.ret ?_
      cases H
      exact hQ _ _ _ _ (.inr rfl) (by simp only [resVs, omap, resV, ↓wk, ↓wl, nc, evV, wrapBits_eq, ↓reduceIte, Nat.reduceEqDiff, Nat.reduceAdd, Nat.reduceSub, Nat.reduceLeDiff, Nat.reduceLT, Nat.reduceBEq, reduceCtorEq, Int.reduceEq]; rfl) (hand_plain (by rfl)) (by rfl)
noncomputable def f19_L1 (a_2397 : Ref56Sender) (b_2398 : Ref56Sender) : Lp (Int) ((Unit) ⊕ (Unit)) where
  body := fun i_2404 => (if (decide (i_2404 < ((a_2397.fStreams.length : Nat) : Int))) = true then (at? a_2397.fStreams i_2404).bind fun x_2407 => (at? b_2398.fStreams i_2404).bind fun x_2408 => (if (!((x_2407.fUniverse == x_2408.fUniverse) && ((x_2407.fSeq == x_2408.fSeq) && ((x_2407.fLast == x_2408.fLast) && ((x_2407.fTimes == x_2408.fTimes) && ((x_2407.fSlots == x_2408.fSlots) && true)))))) = true then (some (.brk (Sum.inr ()))) else (some (.next (IntKind.i64.wrap (i_2404 + 1))))) else (some (.brk (Sum.inl ()))))
  cst := fun i_2404 => ⟨put (put (put (fun _ => .junk) 5 (.int .i64 i_2404)) 3 (.ptr 1 0)) 2 (.ptr 0 0), [.cel [.int .u64 a_2397.fSource, .int .i64 a_2397.fPriority, .int .i64 a_2397.fSync, .int .i64 a_2397.fPulse, .sl 5 false (a_2397.fStreams.map eRef56Stream)], .cel [.int .u64 b_2398.fSource, .int .i64 b_2398.fPriority, .int .i64 b_2398.fSync, .int .i64 b_2398.fPulse, .sl 5 false (b_2398.fStreams.map eRef56Stream)]]⟩
def c19_0 : C := .cond (.t 40) (.seq (.reg [iI 4 (.mv (.c (.bool false)))]) .ret) (.skip)
def c19_1 : C := .cond (.t 45) (.skip) (.exit 0)
def c19_2 : C := .cond (.t 58) (.seq (.reg [iI 4 (.mv (.c (.bool false)))]) .ret) (.skip)
def c19_3 : C := .reg [iI 46 (.mv (.t 5)), iI 47 (.bin .add (.t 46) (.c (.int .i64 1))), iI 5 (.mv (.t 47))]
def c19_4 : C := .seq (.block 1 (.seq (.reg [iI 48 (.faddr 4 (.t 2)), iI 49 (.load 0 (.t 48)), iI 50 (.mv (.t 5)), iI 51 (.iaddr 5 (.t 49) (.t 50)), iI 52 (.load 5 (.t 51)), iI 53 (.faddr 4 (.t 3)), iI 54 (.load 0 (.t 53)), iI 55 (.mv (.t 5)), iI 56 (.iaddr 5 (.t 54) (.t 55)), iI 57 (.load 5 (.t 56)), iI 58 (.eqs true [0, 0, 0, 0, 1] (.t 52) (.t 57))]) c19_2)) c19_3
def c19_5 : C := .block 0 (.loop (.seq (.seq (.reg [iI 41 (.mv (.t 5)), iI 42 (.faddr 4 (.t 2)), iI 43 (.load 0 (.t 42)), iI 44 (.len 0 (.t 43)), iI 45 (.bin .lss (.t 41) (.t 44))]) c19_1) c19_4))
def c19_6 : C := .seq (.reg [iI 4 (.mv (.c (.bool true)))]) .ret
def c19_7 : C := .seq (.seq (.reg [iI 5 (.mv (.c (.int .i64 0)))]) c19_5) c19_6
def c19_8 : C := .seq (.seq (.reg [iI 6 (.faddr 0 (.t 2)), iI 7 (.load 0 (.t 6)), iI 8 (.faddr 0 (.t 3)), iI 9 (.load 0 (.t 8)), iI 10 (.bin .neq (.t 7) (.t 9)), iI 11 (.mv (.t 10)), iG (some 12) 11 false (.faddr 1 (.t 2)), iG (some 13) 11 false (.load 0 (.t 12)), iG (some 14) 11 false (.faddr 1 (.t 3)), iG (some 15) 11 false (.load 0 (.t 14)), iG (some 16) 11 false (.bin .neq (.t 13) (.t 15)), iI 17 (.pick (.t 11) (.c (.bool true)) (.t 16)), iI 18 (.mv (.t 17)), iG (some 19) 18 false (.faddr 2 (.t 2)), iG (some 20) 18 false (.load 0 (.t 19)), iG (some 21) 18 false (.faddr 2 (.t 3)), iG (some 22) 18 false (.load 0 (.t 21)), iG (some 23) 18 false (.bin .neq (.t 20) (.t 22)), iI 24 (.pick (.t 18) (.c (.bool true)) (.t 23)), iI 25 (.mv (.t 24)), iG (some 26) 25 false (.faddr 3 (.t 2)), iG (some 27) 25 false (.load 0 (.t 26)), iG (some 28) 25 false (.faddr 3 (.t 3)), iG (some 29) 25 false (.load 0 (.t 28)), iG (some 30) 25 false (.bin .neq (.t 27) (.t 29)), iI 31 (.pick (.t 25) (.c (.bool true)) (.t 30)), iI 32 (.mv (.t 31)), iG (some 33) 32 false (.faddr 4 (.t 2)), iG (some 34) 32 false (.load 0 (.t 33)), iG (some 35) 32 false (.len 0 (.t 34)), iG (some 36) 32 false (.faddr 4 (.t 3)), iG (some 37) 32 false (.load 0 (.t 36)), iG (some 38) 32 false (.len 0 (.t 37)), iG (some 39) 32 false (.bin .neq (.t 35) (.t 38)), iI 40 (.pick (.t 32) (.c (.bool true)) (.t 39))]) c19_0) c19_7
def ir19 : C := .seq (.reg [iI 2 (.box (.t 0)), iI 3 (.box (.t 1)), iI 4 (.mv (.c (.bool false)))]) c19_8
theorem fd19 : fd? Try.prog 19 = some (59, [.slot 4], ir19) := by kernel_rfl
noncomputable def f19 (a_2397 : Ref56Sender) (b_2398 : Ref56Sender) : Option (Bool) :=
  (if (decide (a_2397.fSource ≠ b_2398.fSource)) = true then (some false) else (if (decide (a_2397.fPriority ≠ b_2398.fPriority)) = true then (some false) else (if (decide (a_2397.fSync ≠ b_2398.fSync)) = true then (some false) else (if (decide (a_2397.fPulse ≠ b_2398.fPulse)) = true then (some false) else (if (decide (((a_2397.fStreams.length : Nat) : Int) ≠ ((b_2398.fStreams.length : Nat) : Int))) = true then (some false) else ((Lp.run (f19_L1 a_2397 b_2398) 0).bind fun r_ => match r_ with | (Sum.inl _) => (some true) | (Sum.inr _) => (some false)))))))
theorem f19_ok {a_2397 : Ref56Sender} {b_2398 : Ref56Sender} {r_ : Bool} (H : f19 a_2397 b_2398 = some r_) : Pure Try.prog 19 [.agg [.int .u64 a_2397.fSource, .int .i64 a_2397.fPriority, .int .i64 a_2397.fSync, .int .i64 a_2397.fPulse, .sl 5 false (a_2397.fStreams.map eRef56Stream)], .agg [.int .u64 b_2398.fSource, .int .i64 b_2398.fPriority, .int .i64 b_2398.fSync, .int .i64 b_2398.fPulse, .sl 5 false (b_2398.fStreams.map eRef56Stream)]] (· = .bool r_) := by
  refine Pure.walk2 fd19 none (Nat.le_of_ble_eq_true rfl) (by rfl) fun Q hQ => ?_
  simp only [f19] at H
  refine AW.rseq ?_
  try simp only [↓wk, ↓wl, nc, evV, wrapBits_eq, ↓reduceIte, Nat.reduceEqDiff, Nat.reduceAdd, Nat.reduceSub, Nat.reduceLeDiff, Nat.reduceLT, Nat.reduceBEq, reduceCtorEq, Int.reduceEq]
  refine AW.sseq ?_
  refine AW.rseq ?_
  try simp only [↓wk, ↓wl, nc, evV, wrapBits_eq, ↓reduceIte, Nat.reduceEqDiff, Nat.reduceAdd, Nat.reduceSub, Nat.reduceLeDiff, Nat.reduceLT, Nat.reduceBEq, reduceCtorEq, Int.reduceEq]
  refine evTs_ifg H (by rfl) ?_ ?_ <;> clear H <;> intro H
  · try simp only [↓wk, ↓wl, nc, evV, wrapBits_eq, ↓reduceIte, Nat.reduceEqDiff, Nat.reduceAdd, Nat.reduceSub, Nat.reduceLeDiff, Nat.reduceLT, Nat.reduceBEq, reduceCtorEq, Int.reduceEq]
    refine AW.ift (by rfl) ?_
    refine AW.rseq ?_
    try simp only [↓wk, ↓wl, nc, evV, wrapBits_eq, ↓reduceIte, Nat.reduceEqDiff, Nat.reduceAdd, Nat.reduceSub, Nat.reduceLeDiff, Nat.reduceLT, Nat.reduceBEq, reduceCtorEq, Int.reduceEq]
    refine AW.ret ?_
    refine seqQ.ret ?_
    cases H
    exact hQ _ _ _ _ (.inr rfl) (by simp only [resVs, omap, resV, ↓wk, ↓wl, nc, evV, wrapBits_eq, ↓reduceIte, Nat.reduceEqDiff, Nat.reduceAdd, Nat.reduceSub, Nat.reduceLeDiff, Nat.reduceLT, Nat.reduceBEq, reduceCtorEq, Int.reduceEq]; rfl) (hand_plain (by rfl)) (by rfl)
  · try simp only [↓wk, ↓wl, nc, evV, wrapBits_eq, ↓reduceIte, Nat.reduceEqDiff, Nat.reduceAdd, Nat.reduceSub, Nat.reduceLeDiff, Nat.reduceLT, Nat.reduceBEq, reduceCtorEq, Int.reduceEq]
    refine evTs_ifg H (by rfl) ?_ ?_ <;> clear H <;> intro H
    · try simp only [↓wk, ↓wl, nc, evV, wrapBits_eq, ↓reduceIte, Nat.reduceEqDiff, Nat.reduceAdd, Nat.reduceSub, Nat.reduceLeDiff, Nat.reduceLT, Nat.reduceBEq, reduceCtorEq, Int.reduceEq]
      refine AW.ift (by rfl) ?_
      refine AW.rseq ?_
      try simp only [↓wk, ↓wl, nc, evV, wrapBits_eq, ↓reduceIte, Nat.reduceEqDiff, Nat.reduceAdd, Nat.reduceSub, Nat.reduceLeDiff, Nat.reduceLT, Nat.reduceBEq, reduceCtorEq, Int.reduceEq]
      refine AW.ret ?_
      refine seqQ.ret ?_
      cases H
      exact hQ _ _ _ _ (.inr rfl) (by simp only [resVs, omap, resV, ↓wk, ↓wl, nc, evV, wrapBits_eq, ↓reduceIte, Nat.reduceEqDiff, Nat.reduceAdd, Nat.reduceSub, Nat.reduceLeDiff, Nat.reduceLT, Nat.reduceBEq, reduceCtorEq, Int.reduceEq]; rfl) (hand_plain (by rfl)) (by rfl)
    · try simp only [↓wk, ↓wl, nc, evV, wrapBits_eq, ↓reduceIte, Nat.reduceEqDiff, Nat.reduceAdd, Nat.reduceSub, Nat.reduceLeDiff, Nat.reduceLT, Nat.reduceBEq, reduceCtorEq, Int.reduceEq]
      refine evTs_ifg H (by rfl) ?_ ?_ <;> clear H <;> intro H
      · try simp only [↓wk, ↓wl, nc, evV, wrapBits_eq, ↓reduceIte, Nat.reduceEqDiff, Nat.reduceAdd, Nat.reduceSub, Nat.reduceLeDiff, Nat.reduceLT, Nat.reduceBEq, reduceCtorEq, Int.reduceEq]
        refine AW.ift (by rfl) ?_
        refine AW.rseq ?_
        try simp only [↓wk, ↓wl, nc, evV, wrapBits_eq, ↓reduceIte, Nat.reduceEqDiff, Nat.reduceAdd, Nat.reduceSub, Nat.reduceLeDiff, Nat.reduceLT, Nat.reduceBEq, reduceCtorEq, Int.reduceEq]
        refine AW.ret ?_
        refine seqQ.ret ?_
        cases H
        exact hQ _ _ _ _ (.inr rfl) (by simp only [resVs, omap, resV, ↓wk, ↓wl, nc, evV, wrapBits_eq, ↓reduceIte, Nat.reduceEqDiff, Nat.reduceAdd, Nat.reduceSub, Nat.reduceLeDiff, Nat.reduceLT, Nat.reduceBEq, reduceCtorEq, Int.reduceEq]; rfl) (hand_plain (by rfl)) (by rfl)
      · try simp only [↓wk, ↓wl, nc, evV, wrapBits_eq, ↓reduceIte, Nat.reduceEqDiff, Nat.reduceAdd, Nat.reduceSub, Nat.reduceLeDiff, Nat.reduceLT, Nat.reduceBEq, reduceCtorEq, Int.reduceEq]
        refine evTs_ifg H (by rfl) ?_ ?_ <;> clear H <;> intro H
        · try simp only [↓wk, ↓wl, nc, evV, wrapBits_eq, ↓reduceIte, Nat.reduceEqDiff, Nat.reduceAdd, Nat.reduceSub, Nat.reduceLeDiff, Nat.reduceLT, Nat.reduceBEq, reduceCtorEq, Int.reduceEq]
          refine AW.ift (by rfl) ?_
          refine AW.rseq ?_
          try simp only [↓wk, ↓wl, nc, evV, wrapBits_eq, ↓reduceIte, Nat.reduceEqDiff, Nat.reduceAdd, Nat.reduceSub, Nat.reduceLeDiff, Nat.reduceLT, Nat.reduceBEq, reduceCtorEq, Int.reduceEq]
          refine AW.ret ?_
          refine seqQ.ret ?_
          cases H
          exact hQ _ _ _ _ (.inr rfl) (by simp only [resVs, omap, resV, ↓wk, ↓wl, nc, evV, wrapBits_eq, ↓reduceIte, Nat.reduceEqDiff, Nat.reduceAdd, Nat.reduceSub, Nat.reduceLeDiff, Nat.reduceLT, Nat.reduceBEq, reduceCtorEq, Int.reduceEq]; rfl) (hand_plain (by rfl)) (by rfl)
        · try simp only [↓wk, ↓wl, nc, evV, wrapBits_eq, ↓reduceIte, Nat.reduceEqDiff, Nat.reduceAdd, Nat.reduceSub, Nat.reduceLeDiff, Nat.reduceLT, Nat.reduceBEq, reduceCtorEq, Int.reduceEq]
          refine AW.ifc H (by rfl) ?_ ?_ <;> clear H <;> intro H
          · refine AW.rseq ?_
            try simp only [↓wk, ↓wl, nc, evV, wrapBits_eq, ↓reduceIte, Nat.reduceEqDiff, Nat.reduceAdd, Nat.reduceSub, Nat.reduceLeDiff, Nat.reduceLT, Nat.reduceBEq, reduceCtorEq, Int.reduceEq]
            refine AW.ret ?_
            refine seqQ.ret ?_
            cases H
            exact hQ _ _ _ _ (.inr rfl) (by simp only [resVs, omap, resV, ↓wk, ↓wl, nc, evV, wrapBits_eq, ↓reduceIte, Nat.reduceEqDiff, Nat.reduceAdd, Nat.reduceSub, Nat.reduceLeDiff, Nat.reduceLT, Nat.reduceBEq, reduceCtorEq, Int.reduceEq]; rfl) (hand_plain (by rfl)) (by rfl)
          · refine AW.skip ?_
            refine seqQ.norm ?_
            refine AW.sseq ?_
            refine AW.rseq ?_
            try simp only [↓wk, ↓wl, nc, evV, wrapBits_eq, ↓reduceIte, Nat.reduceEqDiff, Nat.reduceAdd, Nat.reduceSub, Nat.reduceLeDiff, Nat.reduceLT, Nat.reduceBEq, reduceCtorEq, Int.reduceEq]
            refine AW.bend ?_
            refine AW.iter H ((Le.none [0, 1] [2, 3, 5] (by decide) (by simp only [f19_L1, List.length_set, Option.map_some, restrict_eq, renS_nil, renS_cons, renB_els, renB_cel, renB_dead, deep_eq, map_ren_enc, ren_agg', ren_tup', ren_fn', ren_int', ren_bool', ren_str', ren_sl', ren_pro', ren_nilp', ren_nilfn', ren_junk', ren_ptr', ren_row', ren_arow', ren_eptr', vm, List.idxOf?_cons, List.idxOf?_nil, beq_self_eq_true, Option.map_none, List.getD_cons_zero, List.getD_cons_succ, ↓wk, ↓wl, nc, evV, wrapBits_eq, ↓reduceIte, Nat.reduceEqDiff, Nat.reduceAdd, Nat.reduceSub, Nat.reduceLeDiff, Nat.reduceLT, Nat.reduceBEq, reduceCtorEq, Int.reduceEq]))) ?_ <;> clear H
            rintro i_2404 x_ st0_ H hst_
            simp only [f19_L1] at H hst_
            subst hst_
            refine AW.sseq ?_
            refine AW.rseq ?_
            try simp only [↓wk, ↓wl, nc, evV, wrapBits_eq, ↓reduceIte, Nat.reduceEqDiff, Nat.reduceAdd, Nat.reduceSub, Nat.reduceLeDiff, Nat.reduceLT, Nat.reduceBEq, reduceCtorEq, Int.reduceEq]
            refine AW.ifc H (by rfl) ?_ ?_ <;> clear H <;> intro H
            · refine AW.skip ?_
              refine seqQ.norm ?_
              refine AW.bseq ?_
              refine AW.rseq ?_
              try simp only [↓wk, ↓wl, nc, evV, wrapBits_eq, ↓reduceIte, Nat.reduceEqDiff, Nat.reduceAdd, Nat.reduceSub, Nat.reduceLeDiff, Nat.reduceLT, Nat.reduceBEq, reduceCtorEq, Int.reduceEq]
              refine evTs_at (enc := eRef56Stream) H (by rfl) (by rfl) ?_ <;> clear H <;> intro x_2407 H
              try simp only [eRef56Stream, eL, ↓wk, ↓wl, nc, evV, wrapBits_eq, ↓reduceIte, Nat.reduceEqDiff, Nat.reduceAdd, Nat.reduceSub, Nat.reduceLeDiff, Nat.reduceLT, Nat.reduceBEq, reduceCtorEq, Int.reduceEq]
              refine evTs_at (enc := eRef56Stream) H (by rfl) (by rfl) ?_ <;> clear H <;> intro x_2408 H
              try simp only [eRef56Stream, eL, ↓wk, ↓wl, nc, evV, wrapBits_eq, ↓reduceIte, Nat.reduceEqDiff, Nat.reduceAdd, Nat.reduceSub, Nat.reduceLeDiff, Nat.reduceLT, Nat.reduceBEq, reduceCtorEq, Int.reduceEq]
              refine rest_neqs (by rfl) ?_
              try simp only [↓wk, ↓wl, nc, evV, wrapBits_eq, ↓reduceIte, Nat.reduceEqDiff, Nat.reduceAdd, Nat.reduceSub, Nat.reduceLeDiff, Nat.reduceLT, Nat.reduceBEq, reduceCtorEq, Int.reduceEq]
              refine AW.ifc H (by rfl) ?_ ?_ <;> clear H <;> intro H
              · refine AW.rseq ?_
                try simp only [↓wk, ↓wl, nc, evV, wrapBits_eq, ↓reduceIte, Nat.reduceEqDiff, Nat.reduceAdd, Nat.reduceSub, Nat.reduceLeDiff, Nat.reduceLT, Nat.reduceBEq, reduceCtorEq, Int.reduceEq]
                refine AW.ret ?_
                refine blkQ.ret ?_
                refine loopQ.ret H ?_ <;> clear H <;> intro H
                try dsimp only at H
                refine blk0.ret ?_
                refine seqQ.ret ?_
                cases H
                exact hQ _ _ _ _ (.inr rfl) (by simp only [resVs, omap, resV, ↓wk, ↓wl, nc, evV, wrapBits_eq, ↓reduceIte, Nat.reduceEqDiff, Nat.reduceAdd, Nat.reduceSub, Nat.reduceLeDiff, Nat.reduceLT, Nat.reduceBEq, reduceCtorEq, Int.reduceEq]; rfl) (hand_plain (by rfl)) (by rfl)
              · refine AW.skip ?_
                refine blkQ.norm ?_
                refine AW.rend ?_
                try simp only [↓wk, ↓wl, nc, evV, wrapBits_eq, ↓reduceIte, Nat.reduceEqDiff, Nat.reduceAdd, Nat.reduceSub, Nat.reduceLeDiff, Nat.reduceLT, Nat.reduceBEq, reduceCtorEq, Int.reduceEq]
                exact loopQ.next H ((Le.none [0, 1] [2, 3, 5] (by decide) (by simp only [f19_L1, List.length_set, Option.map_some, restrict_eq, renS_nil, renS_cons, renB_els, renB_cel, renB_dead, deep_eq, map_ren_enc, ren_agg', ren_tup', ren_fn', ren_int', ren_bool', ren_str', ren_sl', ren_pro', ren_nilp', ren_nilfn', ren_junk', ren_ptr', ren_row', ren_arow', ren_eptr', vm, List.idxOf?_cons, List.idxOf?_nil, beq_self_eq_true, Option.map_none, List.getD_cons_zero, List.getD_cons_succ, ↓wk, ↓wl, nc, evV, wrapBits_eq, ↓reduceIte, Nat.reduceEqDiff, Nat.reduceAdd, Nat.reduceSub, Nat.reduceLeDiff, Nat.reduceLT, Nat.reduceBEq, reduceCtorEq, Int.reduceEq])))
            · refine AW.exit ?_
              refine seqQ.exit ?_
              refine loopQ.exit H ?_ <;> clear H <;> intro H
              try dsimp only at H
              refine blk0.here ?_
              refine seqQ.norm ?_
              refine AW.rseq ?_
              try simp only [↓wk, ↓wl, nc, evV, wrapBits_eq, ↓reduceIte, Nat.reduceEqDiff, Nat.reduceAdd, Nat.reduceSub, Nat.reduceLeDiff, Nat.reduceLT, Nat.reduceBEq, reduceCtorEq, Int.reduceEq]
              refine AW.ret ?_
              cases H
              exact hQ _ _ _ _ (.inr rfl) (by simp only [resVs, omap, resV, ↓wk, ↓wl, nc, evV, wrapBits_eq, ↓reduceIte, Nat.reduceEqDiff, Nat.reduceAdd, Nat.reduceSub, Nat.reduceLeDiff, Nat.reduceLT, Nat.reduceBEq, reduceCtorEq, Int.reduceEq]; rfl) (hand_plain (by rfl)) (by rfl)
noncomputable def f26_L1 (l_2410 : (List NetworkPacket)) : Lp (Int × (List Ref56Packet)) ((List Ref56Packet)) where
  body := fun (v_2419, out_2420) => (if (decide (v_2419 < ((l_2410.length : Nat) : Int))) = true then (at? l_2410 v_2419).bind fun x_2424 => (app? 64 out_2420 ([(Ref56Packet.mk x_2424.fSource x_2424.fUniverse x_2424.fPriority x_2424.fSeq x_2424.fSync x_2424.fEnd x_2424.fSlots)])).bind fun out_2425 => (some (.next ((IntKind.i64.wrap (v_2419 + 1)), out_2425))) else (some (.brk out_2420)))
  cst := fun (v_2419, out_2420) => ⟨put (put (put (put (fun _ => .junk) 8 (.int .i64 v_2419)) 7 (.int .i64 ((l_2410.length : Nat) : Int))) 6 (.sl 7 false (l_2410.map eNetworkPacket))) 3 (.row 7 0 0 out_2420.length), [.els 7 (out_2420.map eRef56Packet)]⟩
def c26_0 : C := .reg [iI 12 (.mv (.t 3)), iI 13 (.load 7 (.t 5)), iI 14 (.mkslp 7 1 (.agg [(.int .u64 0), (.int .i64 0), (.int .i64 0), (.int .i64 0), (.int .i64 0), (.bool false), (.str [])]) [(0, (.t 13))]), iI 15 (.append 7 64 (.t 12) (.t 14)), iI 3 (.mv (.t 15))]
def c26_1 : C := .reg [iI 16 (.bin .add (.t 8) (.c (.int .i64 1))), iI 8 (.mv (.t 16))]
def c26_2 : C := .seq (.block 1 (.seq (.reg [iI 10 (.iaddr 7 (.t 6) (.t 8)), iI 11 (.load 7 (.t 10)), iI 5 (.alloc [(1, (.int .u64 0)), (1, (.int .i64 0)), (1, (.int .i64 0)), (1, (.int .i64 0)), (1, (.int .i64 0)), (1, (.bool false)), (1, (.str []))]), iN (.store 7 (.t 5) (.t 11))]) c26_0)) c26_1
def c26_3 : C := .seq (.cond (.t 9) (.skip) (.exit 0)) c26_2
def c26_4 : C := .block 0 (.loop (.seq (.reg [iI 9 (.bin .lss (.t 8) (.t 7))]) c26_3))
def c26_5 : C := .seq (.reg [iI 17 (.mv (.t 3)), iI 2 (.mv (.t 17))]) .ret
def c26_6 : C := .seq (.seq (.reg [iI 6 (.mv (.t 0)), iI 7 (.len 0 (.t 6)), iI 8 (.mv (.c (.int .i64 0)))]) c26_4) c26_5
def c26_7 : C := .seq (.reg [iI 3 (.mv (.c (.sl 7 true [])))]) c26_6
def ir26 : C := .seq (.reg [iI 2 (.mv (.c (.sl 7 true [])))]) c26_7
theorem fd26 : fd? Try.prog 26 = some (18, [.slot 2], ir26) := by kernel_rfl
noncomputable def f26 (l_2410 : (List NetworkPacket)) : Option ((List Ref56Packet)) :=
  (Lp.run (f26_L1 l_2410) (0, [])).bind fun out_2423 => (some out_2423)
theorem f26_ok {l_2410 : (List NetworkPacket)} {r_ : (List Ref56Packet)} (H : f26 l_2410 = some r_) : Pure Try.prog 26 [.sl 7 false (l_2410.map eNetworkPacket)] (· = .fr 7 (r_.map eRef56Packet)) := by
  refine Pure.walk2 fd26 (some 0) (Nat.le_of_ble_eq_true rfl) (by rfl) fun Q hQ => ?_
  simp only [f26] at H
  refine AW.rseq ?_
  try simp only [↓wk, ↓wl, nc, evV, wrapBits_eq, ↓reduceIte, Nat.reduceEqDiff, Nat.reduceAdd, Nat.reduceSub, Nat.reduceLeDiff, Nat.reduceLT, Nat.reduceBEq, reduceCtorEq, Int.reduceEq]
  refine AW.rseq ?_
  try simp only [↓wk, ↓wl, nc, evV, wrapBits_eq, ↓reduceIte, Nat.reduceEqDiff, Nat.reduceAdd, Nat.reduceSub, Nat.reduceLeDiff, Nat.reduceLT, Nat.reduceBEq, reduceCtorEq, Int.reduceEq]
  refine AW.sseq ?_
  refine AW.rseq ?_
  try simp only [↓wk, ↓wl, nc, evV, wrapBits_eq, ↓reduceIte, Nat.reduceEqDiff, Nat.reduceAdd, Nat.reduceSub, Nat.reduceLeDiff, Nat.reduceLT, Nat.reduceBEq, reduceCtorEq, Int.reduceEq]
  refine AW.bend ?_
  refine AW.iter H ((Le.trans (Le.nilRow (i := 3) (e := 7) (by simp only [↓wk, ↓wl, nc, evV, wrapBits_eq, ↓reduceIte, Nat.reduceEqDiff, Nat.reduceAdd, Nat.reduceSub, Nat.reduceLeDiff, Nat.reduceLT, Nat.reduceBEq, reduceCtorEq, Int.reduceEq])) (Le.none [0] [3, 6, 7, 8] (by decide) (by simp only [f26_L1, List.length_set, Option.map_some, restrict_eq, renS_nil, renS_cons, renB_els, renB_cel, renB_dead, deep_eq, map_ren_enc, ren_agg', ren_tup', ren_fn', ren_int', ren_bool', ren_str', ren_sl', ren_pro', ren_nilp', ren_nilfn', ren_junk', ren_ptr', ren_row', ren_arow', ren_eptr', vm, List.idxOf?_cons, List.idxOf?_nil, beq_self_eq_true, Option.map_none, List.getD_cons_zero, List.getD_cons_succ, ↓wk, ↓wl, nc, evV, wrapBits_eq, ↓reduceIte, Nat.reduceEqDiff, Nat.reduceAdd, Nat.reduceSub, Nat.reduceLeDiff, Nat.reduceLT, Nat.reduceBEq, reduceCtorEq, Int.reduceEq])))) ?_ <;> clear H
  rintro ⟨v_2419, out_2420⟩ x_ st0_ H hst_
  simp only [f26_L1] at H hst_
  subst hst_
  refine AW.rseq ?_
  try simp only [↓wk, ↓wl, nc, evV, wrapBits_eq, ↓reduceIte, Nat.reduceEqDiff, Nat.reduceAdd, Nat.reduceSub, Nat.reduceLeDiff, Nat.reduceLT, Nat.reduceBEq, reduceCtorEq, Int.reduceEq]
  refine AW.sseq ?_
  refine AW.ifc H (by rfl) ?_ ?_ <;> clear H <;> intro H
  · refine AW.skip ?_
    refine seqQ.norm ?_
    refine AW.bseq ?_
    refine AW.rseq ?_
    try simp only [↓wk, ↓wl, nc, evV, wrapBits_eq, ↓reduceIte, Nat.reduceEqDiff, Nat.reduceAdd, Nat.reduceSub, Nat.reduceLeDiff, Nat.reduceLT, Nat.reduceBEq, reduceCtorEq, Int.reduceEq]
    refine evTs_at (enc := eNetworkPacket) H (by rfl) (by rfl) ?_ <;> clear H <;> intro x_2424 H
    try simp only [eNetworkPacket, eL, ↓wk, ↓wl, nc, evV, wrapBits_eq, ↓reduceIte, Nat.reduceEqDiff, Nat.reduceAdd, Nat.reduceSub, Nat.reduceLeDiff, Nat.reduceLT, Nat.reduceBEq, reduceCtorEq, Int.reduceEq]
    refine AW.rend ?_
    try simp only [↓wk, ↓wl, nc, evV, wrapBits_eq, ↓reduceIte, Nat.reduceEqDiff, Nat.reduceAdd, Nat.reduceSub, Nat.reduceLeDiff, Nat.reduceLT, Nat.reduceBEq, reduceCtorEq, Int.reduceEq]
    refine evTs_app (enc := eRef56Packet) H (by rfl) (by first | rfl | simp only [List.length_set]) (by rfl) (by rfl) ?_ <;> clear H <;> intro out_2425 H
    try simp only [↓wk, ↓wl, nc, evV, wrapBits_eq, ↓reduceIte, Nat.reduceEqDiff, Nat.reduceAdd, Nat.reduceSub, Nat.reduceLeDiff, Nat.reduceLT, Nat.reduceBEq, reduceCtorEq, Int.reduceEq]
    refine blkQ.norm ?_
    refine AW.rend ?_
    try simp only [↓wk, ↓wl, nc, evV, wrapBits_eq, ↓reduceIte, Nat.reduceEqDiff, Nat.reduceAdd, Nat.reduceSub, Nat.reduceLeDiff, Nat.reduceLT, Nat.reduceBEq, reduceCtorEq, Int.reduceEq]
    exact loopQ.next H ((Le.none [2] [3, 6, 7, 8] (by decide) (by simp only [f26_L1, List.length_set, Option.map_some, restrict_eq, renS_nil, renS_cons, renB_els, renB_cel, renB_dead, deep_eq, map_ren_enc, ren_agg', ren_tup', ren_fn', ren_int', ren_bool', ren_str', ren_sl', ren_pro', ren_nilp', ren_nilfn', ren_junk', ren_ptr', ren_row', ren_arow', ren_eptr', vm, List.idxOf?_cons, List.idxOf?_nil, beq_self_eq_true, Option.map_none, List.getD_cons_zero, List.getD_cons_succ, ↓wk, ↓wl, nc, evV, wrapBits_eq, ↓reduceIte, Nat.reduceEqDiff, Nat.reduceAdd, Nat.reduceSub, Nat.reduceLeDiff, Nat.reduceLT, Nat.reduceBEq, reduceCtorEq, Int.reduceEq])))
  · refine AW.exit ?_
    refine seqQ.exit ?_
    refine loopQ.exit H ?_ <;> clear H <;> intro H
    try dsimp only at H
    refine blk0.here ?_
    refine seqQ.norm ?_
    refine AW.rseq ?_
    try simp only [↓wk, ↓wl, nc, evV, wrapBits_eq, ↓reduceIte, Nat.reduceEqDiff, Nat.reduceAdd, Nat.reduceSub, Nat.reduceLeDiff, Nat.reduceLT, Nat.reduceBEq, reduceCtorEq, Int.reduceEq]
    refine AW.ret ?_
    cases H
    exact hQ _ _ _ _ (.inr rfl) (by simp only [resVs, omap, resV, ↓wk, ↓wl, nc, evV, wrapBits_eq, ↓reduceIte, Nat.reduceEqDiff, Nat.reduceAdd, Nat.reduceSub, Nat.reduceLeDiff, Nat.reduceLT, Nat.reduceBEq, reduceCtorEq, Int.reduceEq]; rfl) (hand_1 (by rfl) (by simp) (enc_all _)) (by rfl)
theorem f26_im {l_2410 : (List NetworkPacket)} {r_ : (List Ref56Packet)} (H : f26 l_2410 = some r_) : Pure Try.prog 26 [.sl 7 false (l_2410.map eNetworkPacket)] (· = .sl 7 false (r_.map eRef56Packet)) := (f26_ok H).unfr (by first | exact enc_fits _ | simp only [frFits, List.all_cons, List.all_nil, enc_fits, Bool.and_self])
noncomputable def f25_L1 (a_2427 : (List Ref56Packet)) (b_2428 : (List Ref56Packet)) : Lp (Int) ((Unit) ⊕ (Unit)) where
  body := fun i_2434 => (if (decide (i_2434 < ((a_2427.length : Nat) : Int))) = true then (at? a_2427 i_2434).bind fun x_2437 => (at? b_2428 i_2434).bind fun x_2438 => (if (!((x_2437.fSource == x_2438.fSource) && ((x_2437.fUniverse == x_2438.fUniverse) && ((x_2437.fPriority == x_2438.fPriority) && ((x_2437.fSeq == x_2438.fSeq) && ((x_2437.fSync == x_2438.fSync) && ((x_2437.fEnd == x_2438.fEnd) && ((x_2437.fSlots == x_2438.fSlots) && true)))))))) = true then (some (.brk (Sum.inr ()))) else (some (.next (IntKind.i64.wrap (i_2434 + 1))))) else (some (.brk (Sum.inl ()))))
  cst := fun i_2434 => ⟨put (put (put (fun _ => .junk) 5 (.int .i64 i_2434)) 1 (.sl 7 false (b_2428.map eRef56Packet))) 0 (.sl 7 false (a_2427.map eRef56Packet)), []⟩
def c25_0 : C := .cond (.t 10) (.seq (.reg [iI 4 (.mv (.c (.bool false)))]) .ret) (.skip)
def c25_1 : C := .cond (.t 14) (.skip) (.exit 0)
def c25_2 : C := .cond (.t 25) (.seq (.reg [iI 4 (.mv (.c (.bool false)))]) .ret) (.skip)
def c25_3 : C := .reg [iI 15 (.mv (.t 5)), iI 16 (.bin .add (.t 15) (.c (.int .i64 1))), iI 5 (.mv (.t 16))]
def c25_4 : C := .seq (.block 1 (.seq (.reg [iI 17 (.mv (.t 0)), iI 18 (.mv (.t 5)), iI 19 (.iaddr 7 (.t 17) (.t 18)), iI 20 (.load 7 (.t 19)), iI 21 (.mv (.t 1)), iI 22 (.mv (.t 5)), iI 23 (.iaddr 7 (.t 21) (.t 22)), iI 24 (.load 7 (.t 23)), iI 25 (.eqs true [0, 0, 0, 0, 0, 2, 1] (.t 20) (.t 24))]) c25_2)) c25_3
def c25_5 : C := .block 0 (.loop (.seq (.seq (.reg [iI 11 (.mv (.t 5)), iI 12 (.mv (.t 0)), iI 13 (.len 0 (.t 12)), iI 14 (.bin .lss (.t 11) (.t 13))]) c25_1) c25_4))
def c25_6 : C := .seq (.reg [iI 4 (.mv (.c (.bool true)))]) .ret
def c25_7 : C := .seq (.seq (.reg [iI 5 (.mv (.c (.int .i64 0)))]) c25_5) c25_6
def c25_8 : C := .seq (.seq (.reg [iI 6 (.mv (.t 0)), iI 7 (.len 0 (.t 6)), iI 8 (.mv (.t 1)), iI 9 (.len 0 (.t 8)), iI 10 (.bin .neq (.t 7) (.t 9))]) c25_0) c25_7
def ir25 : C := .seq (.reg [iI 4 (.mv (.c (.bool false)))]) c25_8
theorem fd25 : fd? Try.prog 25 = some (26, [.slot 4], ir25) := by kernel_rfl
noncomputable def f25 (a_2427 : (List Ref56Packet)) (b_2428 : (List Ref56Packet)) : Option (Bool) :=
  (if (decide (((a_2427.length : Nat) : Int) ≠ ((b_2428.length : Nat) : Int))) = true then (some false) else ((Lp.run (f25_L1 a_2427 b_2428) 0).bind fun r_ => match r_ with | (Sum.inl _) => (some true) | (Sum.inr _) => (some false)))
theorem f25_ok {a_2427 : (List Ref56Packet)} {b_2428 : (List Ref56Packet)} {r_ : Bool} (H : f25 a_2427 b_2428 = some r_) : Pure Try.prog 25 [.sl 7 false (a_2427.map eRef56Packet), .sl 7 false (b_2428.map eRef56Packet)] (· = .bool r_) := by
  refine Pure.walk2 fd25 none (Nat.le_of_ble_eq_true rfl) (by rfl) fun Q hQ => ?_
  simp only [f25] at H
  refine AW.rseq ?_
  try simp only [↓wk, ↓wl, nc, evV, wrapBits_eq, ↓reduceIte, Nat.reduceEqDiff, Nat.reduceAdd, Nat.reduceSub, Nat.reduceLeDiff, Nat.reduceLT, Nat.reduceBEq, reduceCtorEq, Int.reduceEq]
  refine AW.sseq ?_
  refine AW.rseq ?_
  try simp only [↓wk, ↓wl, nc, evV, wrapBits_eq, ↓reduceIte, Nat.reduceEqDiff, Nat.reduceAdd, Nat.reduceSub, Nat.reduceLeDiff, Nat.reduceLT, Nat.reduceBEq, reduceCtorEq, Int.reduceEq]
  refine AW.ifc H (by rfl) ?_ ?_ <;> clear H <;> intro H
  · refine AW.rseq ?_
    try simp only [↓wk, ↓wl, nc, evV, wrapBits_eq, ↓reduceIte, Nat.reduceEqDiff, Nat.reduceAdd, Nat.reduceSub, Nat.reduceLeDiff, Nat.reduceLT, Nat.reduceBEq, reduceCtorEq, Int.reduceEq]
    refine AW.ret ?_
    refine seqQ.ret ?_
    cases H
    exact hQ _ _ _ _ (.inr rfl) (by simp only [resVs, omap, resV, ↓wk, ↓wl, nc, evV, wrapBits_eq, ↓reduceIte, Nat.reduceEqDiff, Nat.reduceAdd, Nat.reduceSub, Nat.reduceLeDiff, Nat.reduceLT, Nat.reduceBEq, reduceCtorEq, Int.reduceEq]; rfl) (hand_plain (by rfl)) (by rfl)
  · refine AW.skip ?_
    refine seqQ.norm ?_
    refine AW.sseq ?_
    refine AW.rseq ?_
    try simp only [↓wk, ↓wl, nc, evV, wrapBits_eq, ↓reduceIte, Nat.reduceEqDiff, Nat.reduceAdd, Nat.reduceSub, Nat.reduceLeDiff, Nat.reduceLT, Nat.reduceBEq, reduceCtorEq, Int.reduceEq]
    refine AW.bend ?_
    refine AW.iter H ((Le.none [] [0, 1, 5] (by decide) (by simp only [f25_L1, List.length_set, Option.map_some, restrict_eq, renS_nil, renS_cons, renB_els, renB_cel, renB_dead, deep_eq, map_ren_enc, ren_agg', ren_tup', ren_fn', ren_int', ren_bool', ren_str', ren_sl', ren_pro', ren_nilp', ren_nilfn', ren_junk', ren_ptr', ren_row', ren_arow', ren_eptr', vm, List.idxOf?_cons, List.idxOf?_nil, beq_self_eq_true, Option.map_none, List.getD_cons_zero, List.getD_cons_succ, ↓wk, ↓wl, nc, evV, wrapBits_eq, ↓reduceIte, Nat.reduceEqDiff, Nat.reduceAdd, Nat.reduceSub, Nat.reduceLeDiff, Nat.reduceLT, Nat.reduceBEq, reduceCtorEq, Int.reduceEq]))) ?_ <;> clear H
    rintro i_2434 x_ st0_ H hst_
    simp only [f25_L1] at H hst_
    subst hst_
    refine AW.sseq ?_
    refine AW.rseq ?_
    try simp only [↓wk, ↓wl, nc, evV, wrapBits_eq, ↓reduceIte, Nat.reduceEqDiff, Nat.reduceAdd, Nat.reduceSub, Nat.reduceLeDiff, Nat.reduceLT, Nat.reduceBEq, reduceCtorEq, Int.reduceEq]
    refine AW.ifc H (by rfl) ?_ ?_ <;> clear H <;> intro H
    · refine AW.skip ?_
      refine seqQ.norm ?_
      refine AW.bseq ?_
      refine AW.rseq ?_
      try simp only [↓wk, ↓wl, nc, evV, wrapBits_eq, ↓reduceIte, Nat.reduceEqDiff, Nat.reduceAdd, Nat.reduceSub, Nat.reduceLeDiff, Nat.reduceLT, Nat.reduceBEq, reduceCtorEq, Int.reduceEq]
      refine evTs_at (enc := eRef56Packet) H (by rfl) (by rfl) ?_ <;> clear H <;> intro x_2437 H
      try simp only [eRef56Packet, eL, ↓wk, ↓wl, nc, evV, wrapBits_eq, ↓reduceIte, Nat.reduceEqDiff, Nat.reduceAdd, Nat.reduceSub, Nat.reduceLeDiff, Nat.reduceLT, Nat.reduceBEq, reduceCtorEq, Int.reduceEq]
      refine evTs_at (enc := eRef56Packet) H (by rfl) (by rfl) ?_ <;> clear H <;> intro x_2438 H
      try simp only [eRef56Packet, eL, ↓wk, ↓wl, nc, evV, wrapBits_eq, ↓reduceIte, Nat.reduceEqDiff, Nat.reduceAdd, Nat.reduceSub, Nat.reduceLeDiff, Nat.reduceLT, Nat.reduceBEq, reduceCtorEq, Int.reduceEq]
      refine rest_neqs (by rfl) ?_
      try simp only [↓wk, ↓wl, nc, evV, wrapBits_eq, ↓reduceIte, Nat.reduceEqDiff, Nat.reduceAdd, Nat.reduceSub, Nat.reduceLeDiff, Nat.reduceLT, Nat.reduceBEq, reduceCtorEq, Int.reduceEq]
      refine AW.ifc H (by rfl) ?_ ?_ <;> clear H <;> intro H
      · refine AW.rseq ?_
        try simp only [↓wk, ↓wl, nc, evV, wrapBits_eq, ↓reduceIte, Nat.reduceEqDiff, Nat.reduceAdd, Nat.reduceSub, Nat.reduceLeDiff, Nat.reduceLT, Nat.reduceBEq, reduceCtorEq, Int.reduceEq]
        refine AW.ret ?_
        refine blkQ.ret ?_
        refine loopQ.ret H ?_ <;> clear H <;> intro H
        try dsimp only at H
        refine blk0.ret ?_
        refine seqQ.ret ?_
        cases H
        exact hQ _ _ _ _ (.inr rfl) (by simp only [resVs, omap, resV, ↓wk, ↓wl, nc, evV, wrapBits_eq, ↓reduceIte, Nat.reduceEqDiff, Nat.reduceAdd, Nat.reduceSub, Nat.reduceLeDiff, Nat.reduceLT, Nat.reduceBEq, reduceCtorEq, Int.reduceEq]; rfl) (hand_plain (by rfl)) (by rfl)
      · refine AW.skip ?_
        refine blkQ.norm ?_
        refine AW.rend ?_
        try simp only [↓wk, ↓wl, nc, evV, wrapBits_eq, ↓reduceIte, Nat.reduceEqDiff, Nat.reduceAdd, Nat.reduceSub, Nat.reduceLeDiff, Nat.reduceLT, Nat.reduceBEq, reduceCtorEq, Int.reduceEq]
        exact loopQ.next H ((Le.none [] [0, 1, 5] (by decide) (by simp only [f25_L1, List.length_set, Option.map_some, restrict_eq, renS_nil, renS_cons, renB_els, renB_cel, renB_dead, deep_eq, map_ren_enc, ren_agg', ren_tup', ren_fn', ren_int', ren_bool', ren_str', ren_sl', ren_pro', ren_nilp', ren_nilfn', ren_junk', ren_ptr', ren_row', ren_arow', ren_eptr', vm, List.idxOf?_cons, List.idxOf?_nil, beq_self_eq_true, Option.map_none, List.getD_cons_zero, List.getD_cons_succ, ↓wk, ↓wl, nc, evV, wrapBits_eq, ↓reduceIte, Nat.reduceEqDiff, Nat.reduceAdd, Nat.reduceSub, Nat.reduceLeDiff, Nat.reduceLT, Nat.reduceBEq, reduceCtorEq, Int.reduceEq])))
    · refine AW.exit ?_
      refine seqQ.exit ?_
      refine loopQ.exit H ?_ <;> clear H <;> intro H
      try dsimp only at H
      refine blk0.here ?_
      refine seqQ.norm ?_
      refine AW.rseq ?_
      try simp only [↓wk, ↓wl, nc, evV, wrapBits_eq, ↓reduceIte, Nat.reduceEqDiff, Nat.reduceAdd, Nat.reduceSub, Nat.reduceLeDiff, Nat.reduceLT, Nat.reduceBEq, reduceCtorEq, Int.reduceEq]
      refine AW.ret ?_
      cases H
      exact hQ _ _ _ _ (.inr rfl) (by simp only [resVs, omap, resV, ↓wk, ↓wl, nc, evV, wrapBits_eq, ↓reduceIte, Nat.reduceEqDiff, Nat.reduceAdd, Nat.reduceSub, Nat.reduceLeDiff, Nat.reduceLT, Nat.reduceBEq, reduceCtorEq, Int.reduceEq]; rfl) (hand_plain (by rfl)) (by rfl)
def c5_0 : C := .cond (.t 21) (.seq (.reg [iI 22 (.call (.c (.fn 14 [])) []), iI 6 (.mv (.t 22))]) .ret) (.skip)
def c5_1 : C := .seq (.regq [iI 40 (.call (.c (.fn 14 [])) []), iI 41 (.mv (.t 40)), iG (some 42) 41 true (.load 5 (.t 7)), iG (some 43) 41 true (.call (.c (.fn 16 [])) [(.t 42)]), iG (some 44) 41 true (.load 5 (.t 10)), iG (some 45) 41 true (.call (.c (.fn 19 [])) [(.t 43), (.t 44)]), iI 46 (.pick (.t 41) (.t 45) (.c (.bool false))), iI 47 (.mv (.t 46)), iG (some 48) 47 true (.mv (.t 8)), iG (some 49) 47 true (.call (.c (.fn 26 [])) [(.t 48)]), iG (some 50) 47 true (.mv (.t 11)), iG (some 51) 47 true (.call (.c (.fn 25 [])) [(.t 49), (.t 50)]), iI 52 (.pick (.t 47) (.t 51) (.c (.bool false))), iI 53 (.mv (.t 52)), iG (some 54) 53 true (.mv (.t 9)), iG (some 55) 53 true (.mv (.t 12)), iG (some 56) 53 true (.bin .eql (.t 54) (.t 55)), iI 57 (.pick (.t 53) (.t 56) (.c (.bool false))), iI 6 (.mv (.t 57))]) .ret
def c5_2 : C := .seq (.reg [iI 32 (.load 5 (.t 3)), iI 33 (.call (.c (.fn 16 [])) [(.t 32)]), iI 34 (.mv (.t 1)), iI 35 (.mv (.t 2)), iI 36 (.call (.c (.fn 24 [])) [(.t 33), (.t 34), (.t 35)]), iI 31 (.mv (.t 36)), iI 37 (.ext (.t 31) 0), iI 38 (.ext (.t 31) 1), iI 39 (.ext (.t 31) 2), iI 10 (.alloc [(1, (.int .u64 0)), (1, (.int .i64 0)), (1, (.int .i64 0)), (1, (.int .i64 0)), (1, (.sl 5 true []))]), iN (.store 5 (.t 10) (.t 37)), iI 11 (.mv (.t 38)), iI 12 (.mv (.t 39))]) c5_1
def c5_3 : C := .seq (.reg [iI 24 (.load 5 (.t 3)), iI 25 (.mv (.t 1)), iI 26 (.mv (.t 2)), iI 27 (.call (.c (.fn 23 [])) [(.t 24), (.t 25), (.t 26)]), iI 23 (.mv (.t 27)), iI 28 (.ext (.t 23) 0), iI 29 (.ext (.t 23) 1), iI 30 (.ext (.t 23) 2), iI 7 (.alloc [(1, (.int .u64 0)), (1, (.int .i64 0)), (1, (.int .i64 0)), (1, (.int .i64 0)), (1, (.sl 5 true []))]), iN (.store 5 (.t 7) (.t 28)), iI 8 (.mv (.t 29)), iI 9 (.mv (.t 30))]) c5_2
def c5_4 : C := .seq (.seq (.reg [iI 13 (.load 5 (.t 3)), iI 14 (.call (.c (.fn 16 [])) [(.t 13)]), iI 15 (.call (.c (.fn 15 [])) [(.t 14)]), iI 16 (.un .not (.t 15)), iI 17 (.mv (.t 16)), iG (some 18) 17 false (.mv (.t 2)), iG (some 19) 17 false (.call (.c (.fn 22 [])) [(.t 18)]), iG (some 20) 17 false (.un .not (.t 19)), iI 21 (.pick (.t 17) (.c (.bool true)) (.t 20))]) c5_0) c5_3
def ir5 : C := .seq (.reg [iI 3 (.box (.t 0)), iI 6 (.mv (.c (.bool false)))]) c5_4
theorem fd5 : fd? Try.prog 5 = some (58, [.slot 6], ir5) := by kernel_rfl
noncomputable def f5 (s_1737 : NetworkSender) (t_1738 : Int) (frames_1739 : (List ApiFrame)) : Option (Bool) :=
  (f16 s_1737).bind fun r_1775 => (f15 r_1775).bind fun r_1776 => (if (!r_1776) = true then (f14).bind fun r_1777 => (some r_1777) else (f22 frames_1739).bind fun r_1778 => (if (!r_1778) = true then (f14).bind fun r_1779 => (some r_1779) else (f23 s_1737 t_1738 frames_1739).bind fun r_1780 => (f16 s_1737).bind fun r_1781 => (f24 r_1781 t_1738 frames_1739).bind fun r_2394 => (f14).bind fun r_2395 => (if r_2395 = true then (f16 r_1780.1).bind fun r_2396 => (f19 r_2396 r_2394.1).bind fun r_2409 => (if r_2409 = true then (f26 r_1780.2.1).bind fun r_2426 => (f25 r_2426 r_2394.2.1).bind fun r_2439 => (if r_2439 = true then (some (decide (r_1780.2.2 = r_2394.2.2))) else (some false)) else (some false)) else (some false))))
theorem f5_ok {s_1737 : NetworkSender} {t_1738 : Int} {frames_1739 : (List ApiFrame)} {r_ : Bool} (H : f5 s_1737 t_1738 frames_1739 = some r_) : Pure Try.prog 5 [.agg [.int .u64 s_1737.fSource, .int .i64 s_1737.fPriority, .int .i64 s_1737.fSync, .int .i64 s_1737.fPulse, .sl 5 false (s_1737.fStreams.map eNetworkStream)], .int .i64 t_1738, .sl 2 false (frames_1739.map eApiFrame)] (· = .bool r_) := by
  refine Pure.walk2 fd5 none (Nat.le_of_ble_eq_true rfl) (by rfl) fun Q hQ => ?_
  simp only [f5] at H
  refine AW.rseq ?_
  try simp only [↓wk, ↓wl, nc, evV, wrapBits_eq, ↓reduceIte, Nat.reduceEqDiff, Nat.reduceAdd, Nat.reduceSub, Nat.reduceLeDiff, Nat.reduceLT, Nat.reduceBEq, reduceCtorEq, Int.reduceEq]
  refine AW.sseq ?_
  refine AW.rseq ?_
  try simp only [↓wk, ↓wl, nc, evV, wrapBits_eq, ↓reduceIte, Nat.reduceEqDiff, Nat.reduceAdd, Nat.reduceSub, Nat.reduceLeDiff, Nat.reduceLT, Nat.reduceBEq, reduceCtorEq, Int.reduceEq]
  refine evTs_pure hFn H (fun _ h => f16_ok h) (by rfl) (by rfl) (by rfl) (by rfl) (fun _ => rfl) ?_ <;> clear H <;> intro r_1775 H
  try simp only [eL, eRef56Sender, ↓wk, ↓wl, nc, evV, wrapBits_eq, ↓reduceIte, Nat.reduceEqDiff, Nat.reduceAdd, Nat.reduceSub, Nat.reduceLeDiff, Nat.reduceLT, Nat.reduceBEq, reduceCtorEq, Int.reduceEq]
  refine evTs_pure hFn H (fun _ h => f15_ok h) (by rfl) (by rfl) (by rfl) (by rfl) (fun _ => rfl) ?_ <;> clear H <;> intro r_1776 H
  try simp only [eL, ↓wk, ↓wl, nc, evV, wrapBits_eq, ↓reduceIte, Nat.reduceEqDiff, Nat.reduceAdd, Nat.reduceSub, Nat.reduceLeDiff, Nat.reduceLT, Nat.reduceBEq, reduceCtorEq, Int.reduceEq]
  refine evTs_ifg H (by rfl) ?_ ?_ <;> clear H <;> intro H
  · try simp only [↓wk, ↓wl, nc, evV, wrapBits_eq, ↓reduceIte, Nat.reduceEqDiff, Nat.reduceAdd, Nat.reduceSub, Nat.reduceLeDiff, Nat.reduceLT, Nat.reduceBEq, reduceCtorEq, Int.reduceEq]
    refine AW.ift (by rfl) ?_
    refine AW.rseq ?_
    try simp only [↓wk, ↓wl, nc, evV, wrapBits_eq, ↓reduceIte, Nat.reduceEqDiff, Nat.reduceAdd, Nat.reduceSub, Nat.reduceLeDiff, Nat.reduceLT, Nat.reduceBEq, reduceCtorEq, Int.reduceEq]
    refine evTs_pure hFn H (fun _ h => f14_ok h) (by rfl) (by rfl) (by rfl) (by rfl) (fun _ => rfl) ?_ <;> clear H <;> intro r_1777 H
    try simp only [eL, ↓wk, ↓wl, nc, evV, wrapBits_eq, ↓reduceIte, Nat.reduceEqDiff, Nat.reduceAdd, Nat.reduceSub, Nat.reduceLeDiff, Nat.reduceLT, Nat.reduceBEq, reduceCtorEq, Int.reduceEq]
    refine AW.ret ?_
    refine seqQ.ret ?_
    cases H
    exact hQ _ _ _ _ (.inr rfl) (by simp only [resVs, omap, resV, ↓wk, ↓wl, nc, evV, wrapBits_eq, ↓reduceIte, Nat.reduceEqDiff, Nat.reduceAdd, Nat.reduceSub, Nat.reduceLeDiff, Nat.reduceLT, Nat.reduceBEq, reduceCtorEq, Int.reduceEq]; rfl) (hand_plain (by rfl)) (by rfl)
  · try simp only [↓wk, ↓wl, nc, evV, wrapBits_eq, ↓reduceIte, Nat.reduceEqDiff, Nat.reduceAdd, Nat.reduceSub, Nat.reduceLeDiff, Nat.reduceLT, Nat.reduceBEq, reduceCtorEq, Int.reduceEq]
    refine evTs_pure hFn H (fun _ h => f22_ok h) (by rfl) (by rfl) (by rfl) (by rfl) (fun _ => rfl) ?_ <;> clear H <;> intro r_1778 H
    try simp only [eL, ↓wk, ↓wl, nc, evV, wrapBits_eq, ↓reduceIte, Nat.reduceEqDiff, Nat.reduceAdd, Nat.reduceSub, Nat.reduceLeDiff, Nat.reduceLT, Nat.reduceBEq, reduceCtorEq, Int.reduceEq]
    refine AW.ifc H (by rfl) ?_ ?_ <;> clear H <;> intro H
    · refine AW.rseq ?_
      try simp only [↓wk, ↓wl, nc, evV, wrapBits_eq, ↓reduceIte, Nat.reduceEqDiff, Nat.reduceAdd, Nat.reduceSub, Nat.reduceLeDiff, Nat.reduceLT, Nat.reduceBEq, reduceCtorEq, Int.reduceEq]
      refine evTs_pure hFn H (fun _ h => f14_ok h) (by rfl) (by rfl) (by rfl) (by rfl) (fun _ => rfl) ?_ <;> clear H <;> intro r_1779 H
      try simp only [eL, ↓wk, ↓wl, nc, evV, wrapBits_eq, ↓reduceIte, Nat.reduceEqDiff, Nat.reduceAdd, Nat.reduceSub, Nat.reduceLeDiff, Nat.reduceLT, Nat.reduceBEq, reduceCtorEq, Int.reduceEq]
      refine AW.ret ?_
      refine seqQ.ret ?_
      cases H
      exact hQ _ _ _ _ (.inr rfl) (by simp only [resVs, omap, resV, ↓wk, ↓wl, nc, evV, wrapBits_eq, ↓reduceIte, Nat.reduceEqDiff, Nat.reduceAdd, Nat.reduceSub, Nat.reduceLeDiff, Nat.reduceLT, Nat.reduceBEq, reduceCtorEq, Int.reduceEq]; rfl) (hand_plain (by rfl)) (by rfl)
    · refine AW.skip ?_
      refine seqQ.norm ?_
      refine AW.rseq ?_
      try simp only [↓wk, ↓wl, nc, evV, wrapBits_eq, ↓reduceIte, Nat.reduceEqDiff, Nat.reduceAdd, Nat.reduceSub, Nat.reduceLeDiff, Nat.reduceLT, Nat.reduceBEq, reduceCtorEq, Int.reduceEq]
      refine evTs_pure hFn H (fun _ h => f23_ok h) (by rfl) (by rfl) (by rfl) (by rfl) (fun _ => rfl) ?_ <;> clear H <;> intro r_1780 H
      try simp only [eL, eNetworkSender, ↓wk, ↓wl, nc, evV, wrapBits_eq, ↓reduceIte, Nat.reduceEqDiff, Nat.reduceAdd, Nat.reduceSub, Nat.reduceLeDiff, Nat.reduceLT, Nat.reduceBEq, reduceCtorEq, Int.reduceEq]
      refine AW.rseq ?_
      try simp only [↓wk, ↓wl, nc, evV, wrapBits_eq, ↓reduceIte, Nat.reduceEqDiff, Nat.reduceAdd, Nat.reduceSub, Nat.reduceLeDiff, Nat.reduceLT, Nat.reduceBEq, reduceCtorEq, Int.reduceEq]
      refine evTs_pure hFn H (fun _ h => f16_ok h) (by rfl) (by rfl) (by rfl) (by rfl) (fun _ => rfl) ?_ <;> clear H <;> intro r_1781 H
      try simp only [eL, eRef56Sender, ↓wk, ↓wl, nc, evV, wrapBits_eq, ↓reduceIte, Nat.reduceEqDiff, Nat.reduceAdd, Nat.reduceSub, Nat.reduceLeDiff, Nat.reduceLT, Nat.reduceBEq, reduceCtorEq, Int.reduceEq]
      refine evTs_pure hFn H (fun _ h => f24_ok h) (by rfl) (by rfl) (by rfl) (by rfl) (fun _ => rfl) ?_ <;> clear H <;> intro r_2394 H
      try simp only [eL, eRef56Sender, ↓wk, ↓wl, nc, evV, wrapBits_eq, ↓reduceIte, Nat.reduceEqDiff, Nat.reduceAdd, Nat.reduceSub, Nat.reduceLeDiff, Nat.reduceLT, Nat.reduceBEq, reduceCtorEq, Int.reduceEq]
      refine AW.rqseq ?_
      try simp only [↓wk, ↓wl, nc, evV, wrapBits_eq, ↓reduceIte, Nat.reduceEqDiff, Nat.reduceAdd, Nat.reduceSub, Nat.reduceLeDiff, Nat.reduceLT, Nat.reduceBEq, reduceCtorEq, Int.reduceEq]
      refine evTs_pure hFnq H (fun _ h => f14_ok h) (by rfl) (by rfl) (by rfl) (by rfl) (fun _ => rfl) ?_ <;> clear H <;> intro r_2395 H
      try simp only [eL, ↓wk, ↓wl, nc, evV, wrapBits_eq, ↓reduceIte, Nat.reduceEqDiff, Nat.reduceAdd, Nat.reduceSub, Nat.reduceLeDiff, Nat.reduceLT, Nat.reduceBEq, reduceCtorEq, Int.reduceEq]
      refine evTs_ifg H (by rfl) ?_ ?_ <;> clear H <;> intro H
      · try simp only [↓wk, ↓wl, nc, evV, wrapBits_eq, ↓reduceIte, Nat.reduceEqDiff, Nat.reduceAdd, Nat.reduceSub, Nat.reduceLeDiff, Nat.reduceLT, Nat.reduceBEq, reduceCtorEq, Int.reduceEq]
        refine evTs_pure hFnq H (fun _ h => f16_ok h) (by rfl) (by rfl) (by rfl) (by rfl) (fun _ => rfl) ?_ <;> clear H <;> intro r_2396 H
        try simp only [eL, eRef56Sender, ↓wk, ↓wl, nc, evV, wrapBits_eq, ↓reduceIte, Nat.reduceEqDiff, Nat.reduceAdd, Nat.reduceSub, Nat.reduceLeDiff, Nat.reduceLT, Nat.reduceBEq, reduceCtorEq, Int.reduceEq]
        refine evTs_pure hFnq H (fun _ h => f19_ok h) (by rfl) (by rfl) (by rfl) (by rfl) (fun _ => rfl) ?_ <;> clear H <;> intro r_2409 H
        try simp only [eL, ↓wk, ↓wl, nc, evV, wrapBits_eq, ↓reduceIte, Nat.reduceEqDiff, Nat.reduceAdd, Nat.reduceSub, Nat.reduceLeDiff, Nat.reduceLT, Nat.reduceBEq, reduceCtorEq, Int.reduceEq]
        refine evTs_ifg H (by rfl) ?_ ?_ <;> clear H <;> intro H
        · try simp only [↓wk, ↓wl, nc, evV, wrapBits_eq, ↓reduceIte, Nat.reduceEqDiff, Nat.reduceAdd, Nat.reduceSub, Nat.reduceLeDiff, Nat.reduceLT, Nat.reduceBEq, reduceCtorEq, Int.reduceEq]
          refine evTs_pure hFnq H (fun _ h => f26_im h) (by rfl) (by rfl) (by rfl) (by rfl) (fun _ => rfl) ?_ <;> clear H <;> intro r_2426 H
          try simp only [eL, ↓wk, ↓wl, nc, evV, wrapBits_eq, ↓reduceIte, Nat.reduceEqDiff, Nat.reduceAdd, Nat.reduceSub, Nat.reduceLeDiff, Nat.reduceLT, Nat.reduceBEq, reduceCtorEq, Int.reduceEq]
          refine evTs_pure hFnq H (fun _ h => f25_ok h) (by rfl) (by rfl) (by rfl) (by rfl) (fun _ => rfl) ?_ <;> clear H <;> intro r_2439 H
          try simp only [eL, ↓wk, ↓wl, nc, evV, wrapBits_eq, ↓reduceIte, Nat.reduceEqDiff, Nat.reduceAdd, Nat.reduceSub, Nat.reduceLeDiff, Nat.reduceLT, Nat.reduceBEq, reduceCtorEq, Int.reduceEq]
          refine evTs_ifg H (by rfl) ?_ ?_ <;> clear H <;> intro H
          · try simp only [↓wk, ↓wl, nc, evV, wrapBits_eq, ↓reduceIte, Nat.reduceEqDiff, Nat.reduceAdd, Nat.reduceSub, Nat.reduceLeDiff, Nat.reduceLT, Nat.reduceBEq, reduceCtorEq, Int.reduceEq]
            refine AW.ret ?_
            cases H
            exact hQ _ _ _ _ (.inr rfl) (by simp only [resVs, omap, resV, ↓wk, ↓wl, nc, evV, wrapBits_eq, ↓reduceIte, Nat.reduceEqDiff, Nat.reduceAdd, Nat.reduceSub, Nat.reduceLeDiff, Nat.reduceLT, Nat.reduceBEq, reduceCtorEq, Int.reduceEq]; rfl) (hand_plain (by rfl)) (by rfl)
          · try simp only [↓wk, ↓wl, nc, evV, wrapBits_eq, ↓reduceIte, Nat.reduceEqDiff, Nat.reduceAdd, Nat.reduceSub, Nat.reduceLeDiff, Nat.reduceLT, Nat.reduceBEq, reduceCtorEq, Int.reduceEq]
            refine AW.ret ?_
            cases H
            exact hQ _ _ _ _ (.inr rfl) (by simp only [resVs, omap, resV, ↓wk, ↓wl, nc, evV, wrapBits_eq, ↓reduceIte, Nat.reduceEqDiff, Nat.reduceAdd, Nat.reduceSub, Nat.reduceLeDiff, Nat.reduceLT, Nat.reduceBEq, reduceCtorEq, Int.reduceEq]; rfl) (hand_plain (by rfl)) (by rfl)
        · try simp only [↓wk, ↓wl, nc, evV, wrapBits_eq, ↓reduceIte, Nat.reduceEqDiff, Nat.reduceAdd, Nat.reduceSub, Nat.reduceLeDiff, Nat.reduceLT, Nat.reduceBEq, reduceCtorEq, Int.reduceEq]
          refine AW.ret ?_
          cases H
          exact hQ _ _ _ _ (.inr rfl) (by simp only [resVs, omap, resV, ↓wk, ↓wl, nc, evV, wrapBits_eq, ↓reduceIte, Nat.reduceEqDiff, Nat.reduceAdd, Nat.reduceSub, Nat.reduceLeDiff, Nat.reduceLT, Nat.reduceBEq, reduceCtorEq, Int.reduceEq]; rfl) (hand_plain (by rfl)) (by rfl)
      · try simp only [↓wk, ↓wl, nc, evV, wrapBits_eq, ↓reduceIte, Nat.reduceEqDiff, Nat.reduceAdd, Nat.reduceSub, Nat.reduceLeDiff, Nat.reduceLT, Nat.reduceBEq, reduceCtorEq, Int.reduceEq]
        refine AW.ret ?_
        cases H
        exact hQ _ _ _ _ (.inr rfl) (by simp only [resVs, omap, resV, ↓wk, ↓wl, nc, evV, wrapBits_eq, ↓reduceIte, Nat.reduceEqDiff, Nat.reduceAdd, Nat.reduceSub, Nat.reduceLeDiff, Nat.reduceLT, Nat.reduceBEq, reduceCtorEq, Int.reduceEq]; rfl) (hand_plain (by rfl)) (by rfl)
end Go.Proofs.Ytlidbikdeboihaa
