import Derived.Test.YtlidbikdeboihaaX2
import Derived.Test.YtlidbikdeboihaaProg
import Derived.KernelRfl
namespace Go.Proofs.Ytlidbikdeboihaa
open Go Go.Ab

set_option maxHeartbeats 1000000
set_option linter.unusedSimpArgs false
set_option linter.unusedVariables false
structure Ref56Stream where
  fUniverse : Int
  fSeq : Int
  fLast : Int
  fTimes : Int
  fSlots : (List UInt8)
def eRef56Stream (x : Ref56Stream) : AV := .agg [.int .i64 x.fUniverse, .int .i64 x.fSeq, .int .i64 x.fLast, .int .i64 x.fTimes, .str x.fSlots]
instance : IsFlat eRef56Stream := ⟨fun _ => rfl⟩
instance : IsEnc 5 eRef56Stream := ⟨fun _ => rfl, fun _ => rfl, fun _ => rfl⟩
structure Ref56Sender where
  fSource : Int
  fPriority : Int
  fSync : Int
  fPulse : Int
  fStreams : (List Ref56Stream)
def eRef56Sender (x : Ref56Sender) : AV := .agg [.int .u64 x.fSource, .int .i64 x.fPriority, .int .i64 x.fSync, .int .i64 x.fPulse, .sl 5 false (x.fStreams.map eRef56Stream)]
instance : IsEnc 5 eRef56Sender := ⟨fun _ => rfl, fun _ => rfl, fun _ => rfl⟩
structure Ref56Packet where
  fSource : Int
  fUniverse : Int
  fPriority : Int
  fSeq : Int
  fSync : Int
  fEnd : Bool
  fSlots : (List UInt8)
def eRef56Packet (x : Ref56Packet) : AV := .agg [.int .u64 x.fSource, .int .i64 x.fUniverse, .int .i64 x.fPriority, .int .i64 x.fSeq, .int .i64 x.fSync, .bool x.fEnd, .str x.fSlots]
instance : IsFlat eRef56Packet := ⟨fun _ => rfl⟩
instance : IsEnc 7 eRef56Packet := ⟨fun _ => rfl, fun _ => rfl, fun _ => rfl⟩
noncomputable def f16_L1 (s_1739 : NetworkSender) : Lp (Int × (List Ref56Stream)) ((List Ref56Stream)) where
  body := fun (v_1748, out_1749) => (if (decide (v_1748 < ((s_1739.fStreams.length : Nat) : Int))) = true then (at? s_1739.fStreams v_1748).bind fun x_1753 => (app? 48 out_1749 ([(Ref56Stream.mk x_1753.fUniverse x_1753.fSeq x_1753.fLast x_1753.fTimes x_1753.fSlots)])).bind fun out_1754 => (some (.next ((IntKind.i64.wrap (v_1748 + 1)), out_1754))) else (some (.brk out_1749)))
  cst := fun (v_1748, out_1749) => ⟨put (put (put (put (put (fun _ => .junk) 18 (.int .i64 v_1748)) 17 (.int .i64 ((s_1739.fStreams.length : Nat) : Int))) 16 (.sl 5 false (s_1739.fStreams.map eNetworkStream))) 3 (.ptr 1 0)) 2 (.ptr 0 0), [.cel [.int .u64 0, .int .i64 0, .int .i64 0, .int .i64 0, .sl 5 true []], .cel [.int .u64 s_1739.fSource, .int .i64 s_1739.fPriority, .int .i64 s_1739.fSync, .int .i64 s_1739.fPulse, .row 5 2 0 out_1749.length], .els 5 (out_1749.map eRef56Stream)]⟩
def c16_0 : C := .reg [iI 22 (.faddr 4 (.t 3)), iI 23 (.load 0 (.t 22)), iI 24 (.load 5 (.t 5)), iI 25 (.mkslp 5 1 (.agg [(.int .i64 0), (.int .i64 0), (.int .i64 0), (.int .i64 0), (.str [])]) [(0, (.t 24))]), iI 26 (.append 5 48 (.t 23) (.t 25)), iI 27 (.faddr 4 (.t 3)), iN (.store 0 (.t 27) (.t 26))]
def c16_1 : C := .reg [iI 28 (.bin .add (.t 18) (.c (.int .i64 1))), iI 18 (.mv (.t 28))]
def c16_2 : C := .seq (.block 1 (.seq (.reg [iI 20 (.iaddr 5 (.t 16) (.t 18)), iI 21 (.load 5 (.t 20)), iI 5 (.alloc [(1, (.int .i64 0)), (1, (.int .i64 0)), (1, (.int .i64 0)), (1, (.int .i64 0)), (1, (.str []))]), iN (.store 5 (.t 5) (.t 21))]) c16_0)) c16_1
def c16_3 : C := .seq (.cond (.t 19) (.skip) (.exit 0)) c16_2
def c16_4 : C := .block 0 (.loop (.seq (.reg [iI 19 (.bin .lss (.t 18) (.t 17))]) c16_3))
def c16_5 : C := .seq (.reg [iI 29 (.load 5 (.t 3)), iN (.store 5 (.t 2) (.t 29))]) .ret
def c16_6 : C := .seq (.seq (.reg [iI 15 (.faddr 4 (.t 1)), iI 16 (.load 0 (.t 15)), iI 17 (.len 0 (.t 16)), iI 18 (.mv (.c (.int .i64 0)))]) c16_4) c16_5
def c16_7 : C := .seq (.reg [iI 6 (.faddr 0 (.t 1)), iI 7 (.load 0 (.t 6)), iI 8 (.faddr 1 (.t 1)), iI 9 (.load 0 (.t 8)), iI 10 (.faddr 2 (.t 1)), iI 11 (.load 0 (.t 10)), iI 12 (.faddr 3 (.t 1)), iI 13 (.load 0 (.t 12)), iI 14 (.build [(1, (.int .u64 0)), (1, (.int .i64 0)), (1, (.int .i64 0)), (1, (.int .i64 0)), (1, (.sl 5 true []))] [(0, 0, (.t 7)), (1, 0, (.t 9)), (2, 0, (.t 11)), (3, 0, (.t 13))]), iI 3 (.alloc [(1, (.int .u64 0)), (1, (.int .i64 0)), (1, (.int .i64 0)), (1, (.int .i64 0)), (1, (.sl 5 true []))]), iN (.store 5 (.t 3) (.t 14))]) c16_6
def ir16 : C := .seq (.reg [iI 1 (.box (.t 0)), iI 2 (.alloc [(1, (.int .u64 0)), (1, (.int .i64 0)), (1, (.int .i64 0)), (1, (.int .i64 0)), (1, (.sl 5 true []))])]) c16_7
theorem fd16 : fd? Try.prog 16 = some (30, [.cell 2 5], ir16) := by kernel_rfl
noncomputable def f16 (s_1739 : NetworkSender) : Option (Ref56Sender) :=
  (Lp.run (f16_L1 s_1739) (0, [])).bind fun out_1752 => (some (Ref56Sender.mk s_1739.fSource s_1739.fPriority s_1739.fSync s_1739.fPulse out_1752))
theorem f16_ok {s_1739 : NetworkSender} {r_ : Ref56Sender} (H : f16 s_1739 = some r_) : Pure Try.prog 16 [.agg [.int .u64 s_1739.fSource, .int .i64 s_1739.fPriority, .int .i64 s_1739.fSync, .int .i64 s_1739.fPulse, .sl 5 false (s_1739.fStreams.map eNetworkStream)]] (· = .agg [.int .u64 r_.fSource, .int .i64 r_.fPriority, .int .i64 r_.fSync, .int .i64 r_.fPulse, .sl 5 false (r_.fStreams.map eRef56Stream)]) := by
  refine Pure.walk2 fd16 none (Nat.le_of_ble_eq_true rfl) (by rfl) fun Q hQ => ?_
  simp only [f16] at H
  refine AW.rseq ?_
  try simp only [↓wk, ↓wl, nc, evV, wrapBits_eq, ↓reduceIte, Nat.reduceEqDiff, Nat.reduceAdd, Nat.reduceSub, Nat.reduceLeDiff, Nat.reduceLT, Nat.reduceBEq, reduceCtorEq, Int.reduceEq]
  refine AW.rseq ?_
  try simp only [↓wk, ↓wl, nc, evV, wrapBits_eq, ↓reduceIte, Nat.reduceEqDiff, Nat.reduceAdd, Nat.reduceSub, Nat.reduceLeDiff, Nat.reduceLT, Nat.reduceBEq, reduceCtorEq, Int.reduceEq]
  refine AW.sseq ?_
  refine AW.rseq ?_
  try simp only [↓wk, ↓wl, nc, evV, wrapBits_eq, ↓reduceIte, Nat.reduceEqDiff, Nat.reduceAdd, Nat.reduceSub, Nat.reduceLeDiff, Nat.reduceLT, Nat.reduceBEq, reduceCtorEq, Int.reduceEq]
  refine AW.bend ?_
  refine AW.iter H ((Le.trans (Le.nilCell (b := 2) (o := 4) (e := 5) (by rfl) (by rfl)) (Le.none [1, 2, 3] [2, 3, 16, 17, 18] (by decide) (by simp only [f16_L1, List.length_set, Option.map_some, restrict_eq, renS_nil, renS_cons, renB_els, renB_cel, renB_dead, deep_eq, map_ren_enc, ren_agg', ren_tup', ren_fn', ren_int', ren_bool', ren_str', ren_sl', ren_pro', ren_nilp', ren_nilfn', ren_junk', ren_ptr', ren_row', ren_arow', ren_eptr', vm, List.idxOf?_cons, List.idxOf?_nil, beq_self_eq_true, Option.map_none, List.getD_cons_zero, List.getD_cons_succ, ↓wk, ↓wl, nc, evV, wrapBits_eq, ↓reduceIte, Nat.reduceEqDiff, Nat.reduceAdd, Nat.reduceSub, Nat.reduceLeDiff, Nat.reduceLT, Nat.reduceBEq, reduceCtorEq, Int.reduceEq])))) ?_ <;> clear H
  rintro ⟨v_1748, out_1749⟩ x_ st0_ H hst_
  simp only [f16_L1] at H hst_
  subst hst_
  refine AW.rseq ?_
  try simp only [↓wk, ↓wl, nc, evV, wrapBits_eq, ↓reduceIte, Nat.reduceEqDiff, Nat.reduceAdd, Nat.reduceSub, Nat.reduceLeDiff, Nat.reduceLT, Nat.reduceBEq, reduceCtorEq, Int.reduceEq]
  refine AW.sseq ?_
  refine AW.ifc H (by rfl) ?_ ?_ <;> clear H <;> intro H
  · refine AW.skip ?_
    refine seqQ.norm ?_
    refine AW.bseq ?_
    refine AW.rseq ?_
    try simp only [↓wk, ↓wl, nc, evV, wrapBits_eq, ↓reduceIte, Nat.reduceEqDiff, Nat.reduceAdd, Nat.reduceSub, Nat.reduceLeDiff, Nat.reduceLT, Nat.reduceBEq, reduceCtorEq, Int.reduceEq]
    refine evTs_at (enc := eNetworkStream) H (by rfl) (by rfl) ?_ <;> clear H <;> intro x_1753 H
    try simp only [eNetworkStream, eL, ↓wk, ↓wl, nc, evV, wrapBits_eq, ↓reduceIte, Nat.reduceEqDiff, Nat.reduceAdd, Nat.reduceSub, Nat.reduceLeDiff, Nat.reduceLT, Nat.reduceBEq, reduceCtorEq, Int.reduceEq]
    refine AW.rend ?_
    try simp only [↓wk, ↓wl, nc, evV, wrapBits_eq, ↓reduceIte, Nat.reduceEqDiff, Nat.reduceAdd, Nat.reduceSub, Nat.reduceLeDiff, Nat.reduceLT, Nat.reduceBEq, reduceCtorEq, Int.reduceEq]
    refine evTs_app (enc := eRef56Stream) H (by rfl) (by first | rfl | simp only [List.length_set]) (by rfl) (by rfl) ?_ <;> clear H <;> intro out_1754 H
    try simp only [↓wk, ↓wl, nc, evV, wrapBits_eq, ↓reduceIte, Nat.reduceEqDiff, Nat.reduceAdd, Nat.reduceSub, Nat.reduceLeDiff, Nat.reduceLT, Nat.reduceBEq, reduceCtorEq, Int.reduceEq]
    refine blkQ.norm ?_
    refine AW.rend ?_
    try simp only [↓wk, ↓wl, nc, evV, wrapBits_eq, ↓reduceIte, Nat.reduceEqDiff, Nat.reduceAdd, Nat.reduceSub, Nat.reduceLeDiff, Nat.reduceLT, Nat.reduceBEq, reduceCtorEq, Int.reduceEq]
    exact loopQ.next H ((Le.none [0, 1, 4] [2, 3, 16, 17, 18] (by decide) (by simp only [f16_L1, List.length_set, Option.map_some, restrict_eq, renS_nil, renS_cons, renB_els, renB_cel, renB_dead, deep_eq, map_ren_enc, ren_agg', ren_tup', ren_fn', ren_int', ren_bool', ren_str', ren_sl', ren_pro', ren_nilp', ren_nilfn', ren_junk', ren_ptr', ren_row', ren_arow', ren_eptr', vm, List.idxOf?_cons, List.idxOf?_nil, beq_self_eq_true, Option.map_none, List.getD_cons_zero, List.getD_cons_succ, ↓wk, ↓wl, nc, evV, wrapBits_eq, ↓reduceIte, Nat.reduceEqDiff, Nat.reduceAdd, Nat.reduceSub, Nat.reduceLeDiff, Nat.reduceLT, Nat.reduceBEq, reduceCtorEq, Int.reduceEq])))
  · refine AW.exit ?_
    refine seqQ.exit ?_
    refine loopQ.exit H ?_ <;> clear H <;> intro H
    try dsimp only at H
    refine blk0.here ?_
    refine seqQ.norm ?_
    refine AW.rseq ?_
    try simp only [↓wk, ↓wl, nc, evV, wrapBits_eq, ↓reduceIte, Nat.reduceEqDiff, Nat.reduceAdd, Nat.reduceSub, Nat.reduceLeDiff, Nat.reduceLT, Nat.reduceBEq, reduceCtorEq, Int.reduceEq]
    refine AW.ret ?_
    cases H
    exact hQ _ _ _ _ (.inr rfl) (by simp only [resVs, omap, resV, ↓wk, ↓wl, nc, evV, wrapBits_eq, ↓reduceIte, Nat.reduceEqDiff, Nat.reduceAdd, Nat.reduceSub, Nat.reduceLeDiff, Nat.reduceLT, Nat.reduceBEq, reduceCtorEq, Int.reduceEq]; rfl) (by simp only [handOver, deep_eq, imm_simps, imm_rowE, imm_ptrE, imm_enc, omap_simps, take_map_len, take_map_set, take_map_set2, le_refl_true, Nat.zero_add, and_true, true_and, List.drop_zero, Option.map_some, ↓wk, ↓wl, nc, evV, wrapBits_eq, ↓reduceIte, Nat.reduceEqDiff, Nat.reduceAdd, Nat.reduceSub, Nat.reduceLeDiff, Nat.reduceLT, Nat.reduceBEq, reduceCtorEq, Int.reduceEq]; rfl) (by rfl)
noncomputable def f15_L1 (s_1756 : Ref56Sender) : Lp (Int) ((Unit) ⊕ (Unit)) where
  body := fun i_1760 => (if (decide (i_1760 < ((s_1756.fStreams.length : Nat) : Int))) = true then (if (decide (i_1760 < 20)) = true then (at? s_1756.fStreams i_1760).bind fun x_1762 => (if (decide (1024 < ((x_1762.fSlots.length : Nat) : Int))) = true then (some (.brk (Sum.inr ()))) else (some (.next (IntKind.i64.wrap (i_1760 + 1))))) else (some (.brk (Sum.inl ())))) else (some (.brk (Sum.inl ()))))
  cst := fun i_1760 => ⟨put (put (fun _ => .junk) 3 (.int .i64 i_1760)) 1 (.ptr 0 0), [.cel [.int .u64 s_1756.fSource, .int .i64 s_1756.fPriority, .int .i64 s_1756.fSync, .int .i64 s_1756.fPulse, .sl 5 false (s_1756.fStreams.map eRef56Stream)]]⟩
def c15_0 : C := .cond (.t 12) (.skip) (.exit 0)
def c15_1 : C := .cond (.t 22) (.seq (.reg [iI 2 (.mv (.c (.bool false)))]) .ret) (.skip)
def c15_2 : C := .reg [iI 13 (.mv (.t 3)), iI 14 (.bin .add (.t 13) (.c (.int .i64 1))), iI 3 (.mv (.t 14))]
def c15_3 : C := .seq (.block 1 (.seq (.reg [iI 15 (.faddr 4 (.t 1)), iI 16 (.load 0 (.t 15)), iI 17 (.mv (.t 3)), iI 18 (.iaddr 5 (.t 16) (.t 17)), iI 19 (.faddr 4 (.t 18)), iI 20 (.load 0 (.t 19)), iI 21 (.len 1 (.t 20)), iI 22 (.bin .gtr (.t 21) (.c (.int .i64 1024)))]) c15_1)) c15_2
def c15_4 : C := .block 0 (.loop (.seq (.seq (.reg [iI 4 (.mv (.t 3)), iI 5 (.faddr 4 (.t 1)), iI 6 (.load 0 (.t 5)), iI 7 (.len 0 (.t 6)), iI 8 (.bin .lss (.t 4) (.t 7)), iI 9 (.mv (.t 8)), iG (some 10) 9 true (.mv (.t 3)), iG (some 11) 9 true (.bin .lss (.t 10) (.c (.int .i64 20))), iI 12 (.pick (.t 9) (.t 11) (.c (.bool false)))]) c15_0) c15_3))
def c15_5 : C := .seq (.reg [iI 23 (.faddr 4 (.t 1)), iI 24 (.load 0 (.t 23)), iI 25 (.len 0 (.t 24)), iI 26 (.bin .leq (.t 25) (.c (.int .i64 20))), iI 2 (.mv (.t 26))]) .ret
def c15_6 : C := .seq (.seq (.reg [iI 3 (.mv (.c (.int .i64 0)))]) c15_4) c15_5
def ir15 : C := .seq (.reg [iI 1 (.box (.t 0)), iI 2 (.mv (.c (.bool false)))]) c15_6
theorem fd15 : fd? Try.prog 15 = some (27, [.slot 2], ir15) := by kernel_rfl
noncomputable def f15 (s_1756 : Ref56Sender) : Option (Bool) :=
  ((Lp.run (f15_L1 s_1756) 0).bind fun r_ => match r_ with | (Sum.inl _) => (some (decide (((s_1756.fStreams.length : Nat) : Int) ≤ 20))) | (Sum.inr _) => (some false))
theorem f15_ok {s_1756 : Ref56Sender} {r_ : Bool} (H : f15 s_1756 = some r_) : Pure Try.prog 15 [.agg [.int .u64 s_1756.fSource, .int .i64 s_1756.fPriority, .int .i64 s_1756.fSync, .int .i64 s_1756.fPulse, .sl 5 false (s_1756.fStreams.map eRef56Stream)]] (· = .bool r_) := by
  refine Pure.walk2 fd15 none (Nat.le_of_ble_eq_true rfl) (by rfl) fun Q hQ => ?_
  simp only [f15] at H
  refine AW.rseq ?_
  try simp only [↓wk, ↓wl, nc, evV, wrapBits_eq, ↓reduceIte, Nat.reduceEqDiff, Nat.reduceAdd, Nat.reduceSub, Nat.reduceLeDiff, Nat.reduceLT, Nat.reduceBEq, reduceCtorEq, Int.reduceEq]
  refine AW.sseq ?_
  refine AW.rseq ?_
  try simp only [↓wk, ↓wl, nc, evV, wrapBits_eq, ↓reduceIte, Nat.reduceEqDiff, Nat.reduceAdd, Nat.reduceSub, Nat.reduceLeDiff, Nat.reduceLT, Nat.reduceBEq, reduceCtorEq, Int.reduceEq]
  refine AW.bend ?_
  refine AW.iter H ((Le.none [0] [1, 3] (by decide) (by simp only [f15_L1, List.length_set, Option.map_some, restrict_eq, renS_nil, renS_cons, renB_els, renB_cel, renB_dead, deep_eq, map_ren_enc, ren_agg', ren_tup', ren_fn', ren_int', ren_bool', ren_str', ren_sl', ren_pro', ren_nilp', ren_nilfn', ren_junk', ren_ptr', ren_row', ren_arow', ren_eptr', vm, List.idxOf?_cons, List.idxOf?_nil, beq_self_eq_true, Option.map_none, List.getD_cons_zero, List.getD_cons_succ, ↓wk, ↓wl, nc, evV, wrapBits_eq, ↓reduceIte, Nat.reduceEqDiff, Nat.reduceAdd, Nat.reduceSub, Nat.reduceLeDiff, Nat.reduceLT, Nat.reduceBEq, reduceCtorEq, Int.reduceEq]))) ?_ <;> clear H
  rintro i_1760 x_ st0_ H hst_
  simp only [f15_L1] at H hst_
  subst hst_
  refine AW.sseq ?_
  refine AW.rseq ?_
  try simp only [↓wk, ↓wl, nc, evV, wrapBits_eq, ↓reduceIte, Nat.reduceEqDiff, Nat.reduceAdd, Nat.reduceSub, Nat.reduceLeDiff, Nat.reduceLT, Nat.reduceBEq, reduceCtorEq, Int.reduceEq]
  refine evTs_ifg H (by rfl) ?_ ?_ <;> clear H <;> intro H
  · try simp only [↓wk, ↓wl, nc, evV, wrapBits_eq, ↓reduceIte, Nat.reduceEqDiff, Nat.reduceAdd, Nat.reduceSub, Nat.reduceLeDiff, Nat.reduceLT, Nat.reduceBEq, reduceCtorEq, Int.reduceEq]
    refine AW.ifc H (by rfl) ?_ ?_ <;> clear H <;> intro H
    · refine AW.skip ?_
      refine seqQ.norm ?_
      refine AW.bseq ?_
      refine AW.rseq ?_
      try simp only [↓wk, ↓wl, nc, evV, wrapBits_eq, ↓reduceIte, Nat.reduceEqDiff, Nat.reduceAdd, Nat.reduceSub, Nat.reduceLeDiff, Nat.reduceLT, Nat.reduceBEq, reduceCtorEq, Int.reduceEq]
      refine evTs_at (enc := eRef56Stream) H (by rfl) (by rfl) ?_ <;> clear H <;> intro x_1762 H
      try simp only [eRef56Stream, eL, ↓wk, ↓wl, nc, evV, wrapBits_eq, ↓reduceIte, Nat.reduceEqDiff, Nat.reduceAdd, Nat.reduceSub, Nat.reduceLeDiff, Nat.reduceLT, Nat.reduceBEq, reduceCtorEq, Int.reduceEq]
      refine AW.ifc H (by rfl) ?_ ?_ <;> clear H <;> intro H
      · refine AW.rseq ?_
        try simp only [↓wk, ↓wl, nc, evV, wrapBits_eq, ↓reduceIte, Nat.reduceEqDiff, Nat.reduceAdd, Nat.reduceSub, Nat.reduceLeDiff, Nat.reduceLT, Nat.reduceBEq, reduceCtorEq, Int.reduceEq]
        refine AW.ret ?_
        refine blkQ.ret ?_
        refine loopQ.ret H ?_ <;> clear H <;> intro H
        try dsimp only at H
        refine blk0.ret ?_
        refine seqQ.ret ?_
        cases H
        exact hQ _ _ _ _ (.inr rfl) (by simp only [resVs, omap, resV, ↓wk, ↓wl, nc, evV, wrapBits_eq, ↓reduceIte, Nat.reduceEqDiff, Nat.reduceAdd, Nat.reduceSub, Nat.reduceLeDiff, Nat.reduceLT, Nat.reduceBEq, reduceCtorEq, Int.reduceEq]; rfl) (hand_plain (by rfl)) (by rfl)
      · refine AW.skip ?_
        refine blkQ.norm ?_
        refine AW.rend ?_
        try simp only [↓wk, ↓wl, nc, evV, wrapBits_eq, ↓reduceIte, Nat.reduceEqDiff, Nat.reduceAdd, Nat.reduceSub, Nat.reduceLeDiff, Nat.reduceLT, Nat.reduceBEq, reduceCtorEq, Int.reduceEq]
        exact loopQ.next H ((Le.none [0] [1, 3] (by decide) (by simp only [f15_L1, List.length_set, Option.map_some, restrict_eq, renS_nil, renS_cons, renB_els, renB_cel, renB_dead, deep_eq, map_ren_enc, ren_agg', ren_tup', ren_fn', ren_int', ren_bool', ren_str', ren_sl', ren_pro', ren_nilp', ren_nilfn', ren_junk', ren_ptr', ren_row', ren_arow', ren_eptr', vm, List.idxOf?_cons, List.idxOf?_nil, beq_self_eq_true, Option.map_none, List.getD_cons_zero, List.getD_cons_succ, ↓wk, ↓wl, nc, evV, wrapBits_eq, ↓reduceIte, Nat.reduceEqDiff, Nat.reduceAdd, Nat.reduceSub, Nat.reduceLeDiff, Nat.reduceLT, Nat.reduceBEq, reduceCtorEq, Int.reduceEq])))
    · refine AW.exit ?_
      refine seqQ.exit ?_
      refine loopQ.exit H ?_ <;> clear H <;> intro H
      try dsimp only at H
      refine blk0.here ?_
      refine seqQ.norm ?_
      refine AW.rseq ?_
      try simp only [↓wk, ↓wl, nc, evV, wrapBits_eq, ↓reduceIte, Nat.reduceEqDiff, Nat.reduceAdd, Nat.reduceSub, Nat.reduceLeDiff, Nat.reduceLT, Nat.reduceBEq, reduceCtorEq, Int.reduceEq]
      refine AW.ret ?_
      cases H
      exact hQ _ _ _ _ (.inr rfl) (by simp only [resVs, omap, resV, ↓wk, ↓wl, nc, evV, wrapBits_eq, ↓reduceIte, Nat.reduceEqDiff, Nat.reduceAdd, Nat.reduceSub, Nat.reduceLeDiff, Nat.reduceLT, Nat.reduceBEq, reduceCtorEq, Int.reduceEq]; rfl) (hand_plain (by rfl)) (by rfl)
  · try simp only [↓wk, ↓wl, nc, evV, wrapBits_eq, ↓reduceIte, Nat.reduceEqDiff, Nat.reduceAdd, Nat.reduceSub, Nat.reduceLeDiff, Nat.reduceLT, Nat.reduceBEq, reduceCtorEq, Int.reduceEq]
    refine AW.iff (by rfl) ?_
    refine AW.exit ?_
    refine seqQ.exit ?_
    refine loopQ.exit H ?_ <;> clear H <;> intro H
    try dsimp only at H
    refine blk0.here ?_
    refine seqQ.norm ?_
    refine AW.rseq ?_
    try simp only [↓wk, ↓wl, nc, evV, wrapBits_eq, ↓reduceIte, Nat.reduceEqDiff, Nat.reduceAdd, Nat.reduceSub, Nat.reduceLeDiff, Nat.reduceLT, Nat.reduceBEq, reduceCtorEq, Int.reduceEq]
    refine AW.ret ?_
    cases H
    exact hQ _ _ _ _ (.inr rfl) (by simp only [resVs, omap, resV, ↓wk, ↓wl, nc, evV, wrapBits_eq, ↓reduceIte, Nat.reduceEqDiff, Nat.reduceAdd, Nat.reduceSub, Nat.reduceLeDiff, Nat.reduceLT, Nat.reduceBEq, reduceCtorEq, Int.reduceEq]; rfl) (hand_plain (by rfl)) (by rfl)
noncomputable def f29_L2 (s_1768 : NetworkSender) (x_1848 : NetworkStream) (v_1828 : Int) : Lp (Int × (List NetworkPacket) × Int) ((List NetworkPacket)) where
  body := fun (v_1858, out_1859, x_1860) => (if (decide (v_1858 < 3)) = true then (f46 x_1860).bind fun r_1865 => (f51 s_1768 (NetworkStream.mk x_1848.fUniverse r_1865 x_1848.fLast x_1848.fTimes x_1848.fSlots)).bind fun r_1866 => (app? 64 out_1859 ([(NetworkPacket.mk r_1866.fSource r_1866.fUniverse r_1866.fPriority r_1866.fSeq r_1866.fSync true r_1866.fSlots)])).bind fun out_1867 => (some (.next ((IntKind.i64.wrap (v_1858 + 1)), out_1867, r_1865))) else (some (.brk out_1859)))
  cst := fun (v_1858, out_1859, x_1860) => ⟨put (put (put (put (put (put (put (put (fun _ => .junk) 26 (.int .i64 v_1858)) 22 (.int .i64 v_1828)) 21 (.int .i64 ((s_1768.fStreams.length : Nat) : Int))) 20 (.sl 5 false (s_1768.fStreams.map eNetworkStream))) 10 (.ptr 3 0)) 8 (.row 7 2 0 out_1859.length)) 4 (.ptr 1 0)) 2 (.ptr 0 0), [.cel [.int .u64 s_1768.fSource, .int .i64 s_1768.fPriority, .int .i64 s_1768.fSync, .int .i64 s_1768.fPulse, .sl 5 false (s_1768.fStreams.map eNetworkStream)], .cel [.int .u64 0, .int .i64 0, .int .i64 0, .int .i64 0, .sl 5 true []], .els 7 (out_1859.map eNetworkPacket), .cel [.int .i64 x_1848.fUniverse, .int .i64 x_1860, .int .i64 x_1848.fLast, .int .i64 x_1848.fTimes, .str x_1848.fSlots]]⟩
noncomputable def f29_L1 (s_1768 : NetworkSender) : Lp (Int × (List NetworkPacket)) ((List NetworkPacket)) where
  body := fun (v_1828, out_1829) => (if (decide (v_1828 < ((s_1768.fStreams.length : Nat) : Int))) = true then (at? s_1768.fStreams v_1828).bind fun x_1848 => (Lp.run (f29_L2 s_1768 x_1848 v_1828) (0, out_1829, x_1848.fSeq)).bind fun out_1864 => (some (.next ((IntKind.i64.wrap (v_1828 + 1)), out_1864))) else (some (.brk out_1829)))
  cst := fun (v_1828, out_1829) => ⟨put (put (put (put (put (put (fun _ => .junk) 22 (.int .i64 v_1828)) 21 (.int .i64 ((s_1768.fStreams.length : Nat) : Int))) 20 (.sl 5 false (s_1768.fStreams.map eNetworkStream))) 8 (.row 7 2 0 out_1829.length)) 4 (.ptr 1 0)) 2 (.ptr 0 0), [.cel [.int .u64 s_1768.fSource, .int .i64 s_1768.fPriority, .int .i64 s_1768.fSync, .int .i64 s_1768.fPulse, .sl 5 false (s_1768.fStreams.map eNetworkStream)], .cel [.int .u64 0, .int .i64 0, .int .i64 0, .int .i64 0, .sl 5 true []], .els 7 (out_1829.map eNetworkPacket)]⟩
def c29_0 : C := .cond (.t 16) (.seq (.reg [iI 17 (.build [(1, (.int .u64 0)), (1, (.int .i64 0)), (1, (.int .i64 0)), (1, (.int .i64 0)), (1, (.sl 5 true []))] []), iI 18 (.mv (.t 7)), iN (.store 5 (.t 4) (.t 17)), iI 5 (.mv (.c (.sl 7 true []))), iI 6 (.mv (.t 18))]) .ret) (.skip)
def c29_1 : C := .seq (.reg [iI 15 (.mv (.t 7)), iI 16 (.bin .neq (.t 15) (.c (.int .i64 0)))]) c29_0
def c29_2 : C := .reg [iI 36 (.mv (.t 8)), iI 37 (.load 7 (.t 11)), iI 38 (.mkslp 7 1 (.agg [(.int .u64 0), (.int .i64 0), (.int .i64 0), (.int .i64 0), (.int .i64 0), (.bool false), (.str [])]) [(0, (.t 37))]), iI 39 (.append 7 64 (.t 36) (.t 38)), iI 8 (.mv (.t 39))]
def c29_3 : C := .seq (.reg [iI 35 (.faddr 5 (.t 11)), iN (.store 0 (.t 35) (.c (.bool true)))]) c29_2
def c29_4 : C := .seq (.reg [iI 32 (.load 5 (.t 2)), iI 33 (.load 5 (.t 10)), iI 34 (.call (.c (.fn 51 [])) [(.t 32), (.t 33)]), iI 11 (.alloc [(1, (.int .u64 0)), (1, (.int .i64 0)), (1, (.int .i64 0)), (1, (.int .i64 0)), (1, (.int .i64 0)), (1, (.bool false)), (1, (.str []))]), iN (.store 7 (.t 11) (.t 34))]) c29_3
def c29_5 : C := .reg [iI 40 (.bin .add (.t 26) (.c (.int .i64 1))), iI 26 (.mv (.t 40))]
def c29_6 : C := .seq (.block 3 (.seq (.reg [iI 28 (.faddr 1 (.t 10)), iI 29 (.load 0 (.t 28)), iI 30 (.call (.c (.fn 46 [])) [(.t 29)]), iI 31 (.faddr 1 (.t 10)), iN (.store 0 (.t 31) (.t 30))]) c29_4)) c29_5
def c29_7 : C := .seq (.cond (.t 27) (.skip) (.exit 2)) c29_6
def c29_8 : C := .block 2 (.loop (.seq (.reg [iI 27 (.bin .lss (.t 26) (.c (.int .i64 3)))]) c29_7))
def c29_9 : C := .seq (.reg [iI 26 (.mv (.c (.int .i64 0)))]) c29_8
def c29_10 : C := .reg [iI 41 (.bin .add (.t 22) (.c (.int .i64 1))), iI 22 (.mv (.t 41))]
def c29_11 : C := .seq (.block 1 (.seq (.reg [iI 24 (.iaddr 5 (.t 20) (.t 22)), iI 25 (.load 5 (.t 24)), iI 10 (.alloc [(1, (.int .i64 0)), (1, (.int .i64 0)), (1, (.int .i64 0)), (1, (.int .i64 0)), (1, (.str []))]), iN (.store 5 (.t 10) (.t 25))]) c29_9)) c29_10
def c29_12 : C := .seq (.cond (.t 23) (.skip) (.exit 0)) c29_11
def c29_13 : C := .block 0 (.loop (.seq (.reg [iI 23 (.bin .lss (.t 22) (.t 21))]) c29_12))
def c29_14 : C := .seq (.reg [iI 43 (.load 5 (.t 2)), iI 44 (.mv (.t 8)), iN (.store 5 (.t 4) (.t 43)), iI 5 (.mv (.t 44)), iI 6 (.mv (.c (.int .i64 0)))]) .ret
def c29_15 : C := .seq (.reg [iI 42 (.faddr 4 (.t 2)), iN (.store 0 (.t 42) (.c (.sl 5 true [])))]) c29_14
def c29_16 : C := .seq (.seq (.reg [iI 19 (.faddr 4 (.t 2)), iI 20 (.load 0 (.t 19)), iI 21 (.len 0 (.t 20)), iI 22 (.mv (.c (.int .i64 0)))]) c29_13) c29_15
def c29_17 : C := .seq (.reg [iI 8 (.mv (.c (.sl 7 true [])))]) c29_16
def c29_18 : C := .seq (.seq (.reg [iI 12 (.load 5 (.t 2)), iI 13 (.mv (.t 1)), iI 14 (.call (.c (.fn 41 [])) [(.t 12), (.t 13)]), iI 7 (.mv (.t 14))]) c29_1) c29_17
def ir29 : C := .seq (.reg [iI 2 (.box (.t 0)), iI 4 (.alloc [(1, (.int .u64 0)), (1, (.int .i64 0)), (1, (.int .i64 0)), (1, (.int .i64 0)), (1, (.sl 5 true []))]), iI 5 (.mv (.c (.sl 7 true []))), iI 6 (.mv (.c (.int .i64 0)))]) c29_18
theorem fd29 : fd? Try.prog 29 = some (45, [.cell 4 5, .slot 5, .slot 6], ir29) := by kernel_rfl
noncomputable def f29 (s_1768 : NetworkSender) (t_1769 : Int) : Option (NetworkSender × (List NetworkPacket) × Int) :=
  (f41 s_1768 t_1769).bind fun r_1771 => (if (decide (r_1771 ≠ 0)) = true then (some ((NetworkSender.mk 0 0 0 0 ([])), [], r_1771)) else (Lp.run (f29_L1 s_1768) (0, [])).bind fun out_1847 => (some ((NetworkSender.mk s_1768.fSource s_1768.fPriority s_1768.fSync s_1768.fPulse ([])), out_1847, 0)))
theorem f29_ok {s_1768 : NetworkSender} {t_1769 : Int} {r_ : NetworkSender × (List NetworkPacket) × Int} (H : f29 s_1768 t_1769 = some r_) : Pure Try.prog 29 [.agg [.int .u64 s_1768.fSource, .int .i64 s_1768.fPriority, .int .i64 s_1768.fSync, .int .i64 s_1768.fPulse, .sl 5 false (s_1768.fStreams.map eNetworkStream)], .int .i64 t_1769] (· = .tup [.agg [.int .u64 r_.1.fSource, .int .i64 r_.1.fPriority, .int .i64 r_.1.fSync, .int .i64 r_.1.fPulse, .sl 5 false (r_.1.fStreams.map eNetworkStream)], .fr 7 (r_.2.1.map eNetworkPacket), .int .i64 r_.2.2]) := by
  refine Pure.walk2 fd29 (some 1) (Nat.le_of_ble_eq_true rfl) (by rfl) fun Q hQ => ?_
  simp only [f29] at H
  refine AW.rseq ?_
  try simp only [↓wk, ↓wl, nc, evV, wrapBits_eq, ↓reduceIte, Nat.reduceEqDiff, Nat.reduceAdd, Nat.reduceSub, Nat.reduceLeDiff, Nat.reduceLT, Nat.reduceBEq, reduceCtorEq, Int.reduceEq]
  refine AW.sseq ?_
  refine AW.rseq ?_
  try simp only [↓wk, ↓wl, nc, evV, wrapBits_eq, ↓reduceIte, Nat.reduceEqDiff, Nat.reduceAdd, Nat.reduceSub, Nat.reduceLeDiff, Nat.reduceLT, Nat.reduceBEq, reduceCtorEq, Int.reduceEq]
  refine evTs_pure hFn H (fun _ h => f41_ok h) (by rfl) (by rfl) (by rfl) (by rfl) (fun _ => rfl) ?_ <;> clear H <;> intro r_1771 H
  try simp only [eL, ↓wk, ↓wl, nc, evV, wrapBits_eq, ↓reduceIte, Nat.reduceEqDiff, Nat.reduceAdd, Nat.reduceSub, Nat.reduceLeDiff, Nat.reduceLT, Nat.reduceBEq, reduceCtorEq, Int.reduceEq]
  refine AW.rseq ?_
  try simp only [↓wk, ↓wl, nc, evV, wrapBits_eq, ↓reduceIte, Nat.reduceEqDiff, Nat.reduceAdd, Nat.reduceSub, Nat.reduceLeDiff, Nat.reduceLT, Nat.reduceBEq, reduceCtorEq, Int.reduceEq]
  refine AW.ifc H (by rfl) ?_ ?_ <;> clear H <;> intro H
  · refine AW.rseq ?_
    try simp only [↓wk, ↓wl, nc, evV, wrapBits_eq, ↓reduceIte, Nat.reduceEqDiff, Nat.reduceAdd, Nat.reduceSub, Nat.reduceLeDiff, Nat.reduceLT, Nat.reduceBEq, reduceCtorEq, Int.reduceEq]
    refine AW.ret ?_
    refine seqQ.ret ?_
    cases H
    exact hQ _ _ _ _ (.inr rfl) (by simp only [resVs, omap, resV, ↓wk, ↓wl, nc, evV, wrapBits_eq, ↓reduceIte, Nat.reduceEqDiff, Nat.reduceAdd, Nat.reduceSub, Nat.reduceLeDiff, Nat.reduceLT, Nat.reduceBEq, reduceCtorEq, Int.reduceEq]; rfl) (hand_k0 (by rfl) (by rfl)) (by rfl)
  · refine AW.skip ?_
    refine seqQ.norm ?_
    refine AW.rseq ?_
    try simp only [↓wk, ↓wl, nc, evV, wrapBits_eq, ↓reduceIte, Nat.reduceEqDiff, Nat.reduceAdd, Nat.reduceSub, Nat.reduceLeDiff, Nat.reduceLT, Nat.reduceBEq, reduceCtorEq, Int.reduceEq]
    refine AW.sseq ?_
    refine AW.rseq ?_
    try simp only [↓wk, ↓wl, nc, evV, wrapBits_eq, ↓reduceIte, Nat.reduceEqDiff, Nat.reduceAdd, Nat.reduceSub, Nat.reduceLeDiff, Nat.reduceLT, Nat.reduceBEq, reduceCtorEq, Int.reduceEq]
    refine AW.bend ?_
    refine AW.iter H ((Le.trans (Le.nilRow (i := 8) (e := 7) (by simp only [↓wk, ↓wl, nc, evV, wrapBits_eq, ↓reduceIte, Nat.reduceEqDiff, Nat.reduceAdd, Nat.reduceSub, Nat.reduceLeDiff, Nat.reduceLT, Nat.reduceBEq, reduceCtorEq, Int.reduceEq])) (Le.none [0, 1, 2] [2, 4, 8, 20, 21, 22] (by decide) (by simp only [f29_L1, List.length_set, Option.map_some, restrict_eq, renS_nil, renS_cons, renB_els, renB_cel, renB_dead, deep_eq, map_ren_enc, ren_agg', ren_tup', ren_fn', ren_int', ren_bool', ren_str', ren_sl', ren_pro', ren_nilp', ren_nilfn', ren_junk', ren_ptr', ren_row', ren_arow', ren_eptr', vm, List.idxOf?_cons, List.idxOf?_nil, beq_self_eq_true, Option.map_none, List.getD_cons_zero, List.getD_cons_succ, ↓wk, ↓wl, nc, evV, wrapBits_eq, ↓reduceIte, Nat.reduceEqDiff, Nat.reduceAdd, Nat.reduceSub, Nat.reduceLeDiff, Nat.reduceLT, Nat.reduceBEq, reduceCtorEq, Int.reduceEq])))) ?_ <;> clear H
    rintro ⟨v_1828, out_1829⟩ x_ st0_ H hst_
    simp only [f29_L1] at H hst_
    subst hst_
    refine AW.rseq ?_
    try simp only [↓wk, ↓wl, nc, evV, wrapBits_eq, ↓reduceIte, Nat.reduceEqDiff, Nat.reduceAdd, Nat.reduceSub, Nat.reduceLeDiff, Nat.reduceLT, Nat.reduceBEq, reduceCtorEq, Int.reduceEq]
    refine AW.sseq ?_
    refine AW.ifc H (by rfl) ?_ ?_ <;> clear H <;> intro H
    · refine AW.skip ?_
      refine seqQ.norm ?_
      refine AW.bseq ?_
      refine AW.rseq ?_
      try simp only [↓wk, ↓wl, nc, evV, wrapBits_eq, ↓reduceIte, Nat.reduceEqDiff, Nat.reduceAdd, Nat.reduceSub, Nat.reduceLeDiff, Nat.reduceLT, Nat.reduceBEq, reduceCtorEq, Int.reduceEq]
      refine evTs_at (enc := eNetworkStream) H (by rfl) (by rfl) ?_ <;> clear H <;> intro x_1848 H
      try simp only [eNetworkStream, eL, ↓wk, ↓wl, nc, evV, wrapBits_eq, ↓reduceIte, Nat.reduceEqDiff, Nat.reduceAdd, Nat.reduceSub, Nat.reduceLeDiff, Nat.reduceLT, Nat.reduceBEq, reduceCtorEq, Int.reduceEq]
      refine AW.rseq ?_
      try simp only [↓wk, ↓wl, nc, evV, wrapBits_eq, ↓reduceIte, Nat.reduceEqDiff, Nat.reduceAdd, Nat.reduceSub, Nat.reduceLeDiff, Nat.reduceLT, Nat.reduceBEq, reduceCtorEq, Int.reduceEq]
      refine AW.bend ?_
      refine AW.iter H ((Le.none [0, 1, 2, 3] [2, 4, 8, 10, 20, 21, 22, 26] (by decide) (by simp only [f29_L2, List.length_set, Option.map_some, restrict_eq, renS_nil, renS_cons, renB_els, renB_cel, renB_dead, deep_eq, map_ren_enc, ren_agg', ren_tup', ren_fn', ren_int', ren_bool', ren_str', ren_sl', ren_pro', ren_nilp', ren_nilfn', ren_junk', ren_ptr', ren_row', ren_arow', ren_eptr', vm, List.idxOf?_cons, List.idxOf?_nil, beq_self_eq_true, Option.map_none, List.getD_cons_zero, List.getD_cons_succ, ↓wk, ↓wl, nc, evV, wrapBits_eq, ↓reduceIte, Nat.reduceEqDiff, Nat.reduceAdd, Nat.reduceSub, Nat.reduceLeDiff, Nat.reduceLT, Nat.reduceBEq, reduceCtorEq, Int.reduceEq]))) ?_ <;> clear H
      rintro ⟨v_1858, out_1859, x_1860⟩ x_ st0_ H hst_
      simp only [f29_L2] at H hst_
      subst hst_
      refine AW.rseq ?_
      try simp only [↓wk, ↓wl, nc, evV, wrapBits_eq, ↓reduceIte, Nat.reduceEqDiff, Nat.reduceAdd, Nat.reduceSub, Nat.reduceLeDiff, Nat.reduceLT, Nat.reduceBEq, reduceCtorEq, Int.reduceEq]
      refine AW.sseq ?_
      refine AW.ifc H (by rfl) ?_ ?_ <;> clear H <;> intro H
      · refine AW.skip ?_
        refine seqQ.norm ?_
        refine AW.bseq ?_
        refine AW.rseq ?_
        try simp only [↓wk, ↓wl, nc, evV, wrapBits_eq, ↓reduceIte, Nat.reduceEqDiff, Nat.reduceAdd, Nat.reduceSub, Nat.reduceLeDiff, Nat.reduceLT, Nat.reduceBEq, reduceCtorEq, Int.reduceEq]
        refine evTs_pure hFn H (fun _ h => f46_ok h) (by rfl) (by rfl) (by rfl) (by rfl) (fun _ => rfl) ?_ <;> clear H <;> intro r_1865 H
        try simp only [eL, ↓wk, ↓wl, nc, evV, wrapBits_eq, ↓reduceIte, Nat.reduceEqDiff, Nat.reduceAdd, Nat.reduceSub, Nat.reduceLeDiff, Nat.reduceLT, Nat.reduceBEq, reduceCtorEq, Int.reduceEq]
        refine AW.rseq ?_
        try simp only [↓wk, ↓wl, nc, evV, wrapBits_eq, ↓reduceIte, Nat.reduceEqDiff, Nat.reduceAdd, Nat.reduceSub, Nat.reduceLeDiff, Nat.reduceLT, Nat.reduceBEq, reduceCtorEq, Int.reduceEq]
        refine evTs_pure hFn H (fun _ h => f51_ok h) (by rfl) (by rfl) (by rfl) (by rfl) (fun _ => rfl) ?_ <;> clear H <;> intro r_1866 H
        try simp only [eL, eNetworkPacket, ↓wk, ↓wl, nc, evV, wrapBits_eq, ↓reduceIte, Nat.reduceEqDiff, Nat.reduceAdd, Nat.reduceSub, Nat.reduceLeDiff, Nat.reduceLT, Nat.reduceBEq, reduceCtorEq, Int.reduceEq]
        refine AW.rseq ?_
        try simp only [↓wk, ↓wl, nc, evV, wrapBits_eq, ↓reduceIte, Nat.reduceEqDiff, Nat.reduceAdd, Nat.reduceSub, Nat.reduceLeDiff, Nat.reduceLT, Nat.reduceBEq, reduceCtorEq, Int.reduceEq]
        refine AW.rend ?_
        try simp only [↓wk, ↓wl, nc, evV, wrapBits_eq, ↓reduceIte, Nat.reduceEqDiff, Nat.reduceAdd, Nat.reduceSub, Nat.reduceLeDiff, Nat.reduceLT, Nat.reduceBEq, reduceCtorEq, Int.reduceEq]
        refine evTs_app (enc := eNetworkPacket) H (by rfl) (by first | rfl | simp only [List.length_set]) (by rfl) (by rfl) ?_ <;> clear H <;> intro out_1867 H
        try simp only [↓wk, ↓wl, nc, evV, wrapBits_eq, ↓reduceIte, Nat.reduceEqDiff, Nat.reduceAdd, Nat.reduceSub, Nat.reduceLeDiff, Nat.reduceLT, Nat.reduceBEq, reduceCtorEq, Int.reduceEq]
        refine blkQ.norm ?_
        refine AW.rend ?_
        try simp only [↓wk, ↓wl, nc, evV, wrapBits_eq, ↓reduceIte, Nat.reduceEqDiff, Nat.reduceAdd, Nat.reduceSub, Nat.reduceLeDiff, Nat.reduceLT, Nat.reduceBEq, reduceCtorEq, Int.reduceEq]
        exact loopQ.next H ((Le.none [0, 1, 5, 3] [2, 4, 8, 10, 20, 21, 22, 26] (by decide) (by simp only [f29_L2, List.length_set, Option.map_some, restrict_eq, renS_nil, renS_cons, renB_els, renB_cel, renB_dead, deep_eq, map_ren_enc, ren_agg', ren_tup', ren_fn', ren_int', ren_bool', ren_str', ren_sl', ren_pro', ren_nilp', ren_nilfn', ren_junk', ren_ptr', ren_row', ren_arow', ren_eptr', vm, List.idxOf?_cons, List.idxOf?_nil, beq_self_eq_true, Option.map_none, List.getD_cons_zero, List.getD_cons_succ, ↓wk, ↓wl, nc, evV, wrapBits_eq, ↓reduceIte, Nat.reduceEqDiff, Nat.reduceAdd, Nat.reduceSub, Nat.reduceLeDiff, Nat.reduceLT, Nat.reduceBEq, reduceCtorEq, Int.reduceEq])))
      · refine AW.exit ?_
        refine seqQ.exit ?_
        refine loopQ.exit H ?_ <;> clear H <;> intro H
        try dsimp only at H
        refine blk0.here ?_
        refine blkQ.norm ?_
        refine AW.rend ?_
        try simp only [↓wk, ↓wl, nc, evV, wrapBits_eq, ↓reduceIte, Nat.reduceEqDiff, Nat.reduceAdd, Nat.reduceSub, Nat.reduceLeDiff, Nat.reduceLT, Nat.reduceBEq, reduceCtorEq, Int.reduceEq]
        exact loopQ.next H ((Le.none [0, 1, 2] [2, 4, 8, 20, 21, 22] (by decide) (by simp only [f29_L1, List.length_set, Option.map_some, restrict_eq, renS_nil, renS_cons, renB_els, renB_cel, renB_dead, deep_eq, map_ren_enc, ren_agg', ren_tup', ren_fn', ren_int', ren_bool', ren_str', ren_sl', ren_pro', ren_nilp', ren_nilfn', ren_junk', ren_ptr', ren_row', ren_arow', ren_eptr', vm, List.idxOf?_cons, List.idxOf?_nil, beq_self_eq_true, Option.map_none, List.getD_cons_zero, List.getD_cons_succ, ↓wk, ↓wl, nc, evV, wrapBits_eq, ↓reduceIte, Nat.reduceEqDiff, Nat.reduceAdd, Nat.reduceSub, Nat.reduceLeDiff, Nat.reduceLT, Nat.reduceBEq, reduceCtorEq, Int.reduceEq])))
    · refine AW.exit ?_
      refine seqQ.exit ?_
      refine loopQ.exit H ?_ <;> clear H <;> intro H
      try dsimp only at H
      refine blk0.here ?_
      refine seqQ.norm ?_
      refine AW.rseq ?_
      try simp only [↓wk, ↓wl, nc, evV, wrapBits_eq, ↓reduceIte, Nat.reduceEqDiff, Nat.reduceAdd, Nat.reduceSub, Nat.reduceLeDiff, Nat.reduceLT, Nat.reduceBEq, reduceCtorEq, Int.reduceEq]
      refine AW.rseq ?_
      try simp only [↓wk, ↓wl, nc, evV, wrapBits_eq, ↓reduceIte, Nat.reduceEqDiff, Nat.reduceAdd, Nat.reduceSub, Nat.reduceLeDiff, Nat.reduceLT, Nat.reduceBEq, reduceCtorEq, Int.reduceEq]
      refine AW.ret ?_
      cases H
      exact hQ _ _ _ _ (.inr rfl) (by simp only [resVs, omap, resV, ↓wk, ↓wl, nc, evV, wrapBits_eq, ↓reduceIte, Nat.reduceEqDiff, Nat.reduceAdd, Nat.reduceSub, Nat.reduceLeDiff, Nat.reduceLT, Nat.reduceBEq, reduceCtorEq, Int.reduceEq]; rfl) (hand_k (by rfl) (by rfl) (by simp) (enc_all _) (by rfl)) (by rfl)
theorem f29_im {s_1768 : NetworkSender} {t_1769 : Int} {r_ : NetworkSender × (List NetworkPacket) × Int} (H : f29 s_1768 t_1769 = some r_) : Pure Try.prog 29 [.agg [.int .u64 s_1768.fSource, .int .i64 s_1768.fPriority, .int .i64 s_1768.fSync, .int .i64 s_1768.fPulse, .sl 5 false (s_1768.fStreams.map eNetworkStream)], .int .i64 t_1769] (· = .tup [.agg [.int .u64 r_.1.fSource, .int .i64 r_.1.fPriority, .int .i64 r_.1.fSync, .int .i64 r_.1.fPulse, .sl 5 false (r_.1.fStreams.map eNetworkStream)], .sl 7 false (r_.2.1.map eNetworkPacket), .int .i64 r_.2.2]) := (f29_ok H).unfr (by first | exact enc_fits _ | simp only [frFits, List.all_cons, List.all_nil, enc_fits, Bool.and_self])
def c39_0 : C := .seq (.reg [iI 3 (.mv (.t 0)), iI 4 (.bin .gtr (.t 3) (.c (.int .u64 0))), iI 5 (.mv (.t 4)), iG (some 6) 5 true (.mv (.t 0)), iG (some 7) 5 true (.bin .lss (.t 6) (.c (.int .u64 281474976710655))), iI 8 (.pick (.t 5) (.t 7) (.c (.bool false))), iI 2 (.mv (.t 8))]) .ret
def ir39 : C := .seq (.reg [iI 2 (.mv (.c (.bool false)))]) c39_0
theorem fd39 : fd? Try.prog 39 = some (9, [.slot 2], ir39) := by kernel_rfl
noncomputable def f39 (id_1878 : Int) : Option (Bool) :=
  (if (decide (0 < id_1878)) = true then (some (decide (id_1878 < 281474976710655))) else (some false))
theorem f39_ok {id_1878 : Int} {r_ : Bool} (H : f39 id_1878 = some r_) : Pure Try.prog 39 [.int .u64 id_1878] (· = .bool r_) := by
  refine Pure.walk2 fd39 none (Nat.le_of_ble_eq_true rfl) (by rfl) fun Q hQ => ?_
  simp only [f39] at H
  refine AW.rseq ?_
  try simp only [↓wk, ↓wl, nc, evV, wrapBits_eq, ↓reduceIte, Nat.reduceEqDiff, Nat.reduceAdd, Nat.reduceSub, Nat.reduceLeDiff, Nat.reduceLT, Nat.reduceBEq, reduceCtorEq, Int.reduceEq]
  refine AW.rseq ?_
  try simp only [↓wk, ↓wl, nc, evV, wrapBits_eq, ↓reduceIte, Nat.reduceEqDiff, Nat.reduceAdd, Nat.reduceSub, Nat.reduceLeDiff, Nat.reduceLT, Nat.reduceBEq, reduceCtorEq, Int.reduceEq]
  refine evTs_ifg H (by rfl) ?_ ?_ <;> clear H <;> intro H
  · try simp only [↓wk, ↓wl, nc, evV, wrapBits_eq, ↓reduceIte, Nat.reduceEqDiff, Nat.reduceAdd, Nat.reduceSub, Nat.reduceLeDiff, Nat.reduceLT, Nat.reduceBEq, reduceCtorEq, Int.reduceEq]
    refine AW.ret ?_
    cases H
    exact hQ _ _ _ _ (.inr rfl) (by simp only [resVs, omap, resV, ↓wk, ↓wl, nc, evV, wrapBits_eq, ↓reduceIte, Nat.reduceEqDiff, Nat.reduceAdd, Nat.reduceSub, Nat.reduceLeDiff, Nat.reduceLT, Nat.reduceBEq, reduceCtorEq, Int.reduceEq]; rfl) (hand_plain (by rfl)) (by rfl)
  · try simp only [↓wk, ↓wl, nc, evV, wrapBits_eq, ↓reduceIte, Nat.reduceEqDiff, Nat.reduceAdd, Nat.reduceSub, Nat.reduceLeDiff, Nat.reduceLT, Nat.reduceBEq, reduceCtorEq, Int.reduceEq]
    refine AW.ret ?_
    cases H
    exact hQ _ _ _ _ (.inr rfl) (by simp only [resVs, omap, resV, ↓wk, ↓wl, nc, evV, wrapBits_eq, ↓reduceIte, Nat.reduceEqDiff, Nat.reduceAdd, Nat.reduceSub, Nat.reduceLeDiff, Nat.reduceLT, Nat.reduceBEq, reduceCtorEq, Int.reduceEq]; rfl) (hand_plain (by rfl)) (by rfl)
def c37_0 : C := .seq (.reg [iI 7 (.mv (.t 1)), iI 8 (.mv (.t 0)), iI 9 (.bin .leq (.t 7) (.t 8)), iI 10 (.mv (.t 9)), iG (some 11) 10 true (.mv (.t 0)), iG (some 12) 10 true (.mv (.t 2)), iG (some 13) 10 true (.bin .leq (.t 11) (.t 12)), iI 14 (.pick (.t 10) (.t 13) (.c (.bool false))), iI 6 (.mv (.t 14))]) .ret
def ir37 : C := .seq (.reg [iI 6 (.mv (.c (.bool false)))]) c37_0
theorem fd37 : fd? Try.prog 37 = some (15, [.slot 6], ir37) := by kernel_rfl
noncomputable def f37 (n_1880 : Int) (low_1881 : Int) (high_1882 : Int) : Option (Bool) :=
  (if (decide (low_1881 ≤ n_1880)) = true then (some (decide (n_1880 ≤ high_1882))) else (some false))
theorem f37_ok {n_1880 : Int} {low_1881 : Int} {high_1882 : Int} {r_ : Bool} (H : f37 n_1880 low_1881 high_1882 = some r_) : Pure Try.prog 37 [.int .i64 n_1880, .int .i64 low_1881, .int .i64 high_1882] (· = .bool r_) := by
  refine Pure.walk2 fd37 none (Nat.le_of_ble_eq_true rfl) (by rfl) fun Q hQ => ?_
  simp only [f37] at H
  refine AW.rseq ?_
  try simp only [↓wk, ↓wl, nc, evV, wrapBits_eq, ↓reduceIte, Nat.reduceEqDiff, Nat.reduceAdd, Nat.reduceSub, Nat.reduceLeDiff, Nat.reduceLT, Nat.reduceBEq, reduceCtorEq, Int.reduceEq]
  refine AW.rseq ?_
  try simp only [↓wk, ↓wl, nc, evV, wrapBits_eq, ↓reduceIte, Nat.reduceEqDiff, Nat.reduceAdd, Nat.reduceSub, Nat.reduceLeDiff, Nat.reduceLT, Nat.reduceBEq, reduceCtorEq, Int.reduceEq]
  refine evTs_ifg H (by rfl) ?_ ?_ <;> clear H <;> intro H
  · try simp only [↓wk, ↓wl, nc, evV, wrapBits_eq, ↓reduceIte, Nat.reduceEqDiff, Nat.reduceAdd, Nat.reduceSub, Nat.reduceLeDiff, Nat.reduceLT, Nat.reduceBEq, reduceCtorEq, Int.reduceEq]
    refine AW.ret ?_
    cases H
    exact hQ _ _ _ _ (.inr rfl) (by simp only [resVs, omap, resV, ↓wk, ↓wl, nc, evV, wrapBits_eq, ↓reduceIte, Nat.reduceEqDiff, Nat.reduceAdd, Nat.reduceSub, Nat.reduceLeDiff, Nat.reduceLT, Nat.reduceBEq, reduceCtorEq, Int.reduceEq]; rfl) (hand_plain (by rfl)) (by rfl)
  · try simp only [↓wk, ↓wl, nc, evV, wrapBits_eq, ↓reduceIte, Nat.reduceEqDiff, Nat.reduceAdd, Nat.reduceSub, Nat.reduceLeDiff, Nat.reduceLT, Nat.reduceBEq, reduceCtorEq, Int.reduceEq]
    refine AW.ret ?_
    cases H
    exact hQ _ _ _ _ (.inr rfl) (by simp only [resVs, omap, resV, ↓wk, ↓wl, nc, evV, wrapBits_eq, ↓reduceIte, Nat.reduceEqDiff, Nat.reduceAdd, Nat.reduceSub, Nat.reduceLeDiff, Nat.reduceLT, Nat.reduceBEq, reduceCtorEq, Int.reduceEq]; rfl) (hand_plain (by rfl)) (by rfl)
def c18_0 : C := .cond (.t 20) (.seq (.reg [iI 21 (.build [(1, (.int .u64 0)), (1, (.int .i64 0)), (1, (.int .i64 0)), (1, (.int .i64 0)), (1, (.sl 5 true []))] []), iN (.store 5 (.t 6) (.t 21)), iI 7 (.mv (.c (.int .i64 2)))]) .ret) (.skip)
def c18_1 : C := .seq (.reg [iI 22 (.mv (.t 0)), iI 23 (.mv (.t 1)), iI 24 (.mv (.t 2)), iI 25 (.build [(1, (.int .u64 0)), (1, (.int .i64 0)), (1, (.int .i64 0)), (1, (.int .i64 0)), (1, (.sl 5 true []))] [(0, 0, (.t 22)), (1, 0, (.t 23)), (2, 0, (.t 24))]), iN (.store 5 (.t 6) (.t 25)), iI 7 (.mv (.c (.int .i64 0)))]) .ret
def c18_2 : C := .seq (.seq (.reg [iI 8 (.mv (.t 0)), iI 9 (.call (.c (.fn 39 [])) [(.t 8)]), iI 10 (.un .not (.t 9)), iI 11 (.mv (.t 10)), iG (some 12) 11 false (.mv (.t 1)), iG (some 13) 11 false (.call (.c (.fn 37 [])) [(.t 12), (.c (.int .i64 0)), (.c (.int .i64 200))]), iG (some 14) 11 false (.un .not (.t 13)), iI 15 (.pick (.t 11) (.c (.bool true)) (.t 14)), iI 16 (.mv (.t 15)), iG (some 17) 16 false (.mv (.t 2)), iG (some 18) 16 false (.call (.c (.fn 37 [])) [(.t 17), (.c (.int .i64 0)), (.c (.int .i64 8))]), iG (some 19) 16 false (.un .not (.t 18)), iI 20 (.pick (.t 16) (.c (.bool true)) (.t 19))]) c18_0) c18_1
def ir18 : C := .seq (.reg [iI 6 (.alloc [(1, (.int .u64 0)), (1, (.int .i64 0)), (1, (.int .i64 0)), (1, (.int .i64 0)), (1, (.sl 5 true []))]), iI 7 (.mv (.c (.int .i64 0)))]) c18_2
theorem fd18 : fd? Try.prog 18 = some (26, [.cell 6 5, .slot 7], ir18) := by kernel_rfl
noncomputable def f18 (source_1875 : Int) (priority_1876 : Int) (sync_1877 : Int) : Option (Ref56Sender × Int) :=
  (f39 source_1875).bind fun r_1879 => (if (!r_1879) = true then (some ((Ref56Sender.mk 0 0 0 0 ([])), 2)) else (f37 priority_1876 0 200).bind fun r_1883 => (if (!r_1883) = true then (some ((Ref56Sender.mk 0 0 0 0 ([])), 2)) else (f37 sync_1877 0 8).bind fun r_1884 => (if (!r_1884) = true then (some ((Ref56Sender.mk 0 0 0 0 ([])), 2)) else (some ((Ref56Sender.mk source_1875 priority_1876 sync_1877 0 ([])), 0)))))
theorem f18_ok {source_1875 : Int} {priority_1876 : Int} {sync_1877 : Int} {r_ : Ref56Sender × Int} (H : f18 source_1875 priority_1876 sync_1877 = some r_) : Pure Try.prog 18 [.int .u64 source_1875, .int .i64 priority_1876, .int .i64 sync_1877] (· = .tup [.agg [.int .u64 r_.1.fSource, .int .i64 r_.1.fPriority, .int .i64 r_.1.fSync, .int .i64 r_.1.fPulse, .sl 5 false (r_.1.fStreams.map eRef56Stream)], .int .i64 r_.2]) := by
  refine Pure.walk2 fd18 none (Nat.le_of_ble_eq_true rfl) (by rfl) fun Q hQ => ?_
  simp only [f18] at H
  refine AW.rseq ?_
  try simp only [↓wk, ↓wl, nc, evV, wrapBits_eq, ↓reduceIte, Nat.reduceEqDiff, Nat.reduceAdd, Nat.reduceSub, Nat.reduceLeDiff, Nat.reduceLT, Nat.reduceBEq, reduceCtorEq, Int.reduceEq]
  refine AW.sseq ?_
  refine AW.rseq ?_
  try simp only [↓wk, ↓wl, nc, evV, wrapBits_eq, ↓reduceIte, Nat.reduceEqDiff, Nat.reduceAdd, Nat.reduceSub, Nat.reduceLeDiff, Nat.reduceLT, Nat.reduceBEq, reduceCtorEq, Int.reduceEq]
  refine evTs_pure hFn H (fun _ h => f39_ok h) (by rfl) (by rfl) (by rfl) (by rfl) (fun _ => rfl) ?_ <;> clear H <;> intro r_1879 H
  try simp only [eL, ↓wk, ↓wl, nc, evV, wrapBits_eq, ↓reduceIte, Nat.reduceEqDiff, Nat.reduceAdd, Nat.reduceSub, Nat.reduceLeDiff, Nat.reduceLT, Nat.reduceBEq, reduceCtorEq, Int.reduceEq]
  refine evTs_ifg H (by rfl) ?_ ?_ <;> clear H <;> intro H
  · try simp only [↓wk, ↓wl, nc, evV, wrapBits_eq, ↓reduceIte, Nat.reduceEqDiff, Nat.reduceAdd, Nat.reduceSub, Nat.reduceLeDiff, Nat.reduceLT, Nat.reduceBEq, reduceCtorEq, Int.reduceEq]
    refine AW.ift (by rfl) ?_
    refine AW.rseq ?_
    try simp only [↓wk, ↓wl, nc, evV, wrapBits_eq, ↓reduceIte, Nat.reduceEqDiff, Nat.reduceAdd, Nat.reduceSub, Nat.reduceLeDiff, Nat.reduceLT, Nat.reduceBEq, reduceCtorEq, Int.reduceEq]
    refine AW.ret ?_
    refine seqQ.ret ?_
    cases H
    exact hQ _ _ _ _ (.inr rfl) (by simp only [resVs, omap, resV, ↓wk, ↓wl, nc, evV, wrapBits_eq, ↓reduceIte, Nat.reduceEqDiff, Nat.reduceAdd, Nat.reduceSub, Nat.reduceLeDiff, Nat.reduceLT, Nat.reduceBEq, reduceCtorEq, Int.reduceEq]; rfl) (hand_plain (by rfl)) (by rfl)
  · try simp only [↓wk, ↓wl, nc, evV, wrapBits_eq, ↓reduceIte, Nat.reduceEqDiff, Nat.reduceAdd, Nat.reduceSub, Nat.reduceLeDiff, Nat.reduceLT, Nat.reduceBEq, reduceCtorEq, Int.reduceEq]
    refine evTs_pure hFn H (fun _ h => f37_ok h) (by rfl) (by rfl) (by rfl) (by rfl) (fun _ => rfl) ?_ <;> clear H <;> intro r_1883 H
    try simp only [eL, ↓wk, ↓wl, nc, evV, wrapBits_eq, ↓reduceIte, Nat.reduceEqDiff, Nat.reduceAdd, Nat.reduceSub, Nat.reduceLeDiff, Nat.reduceLT, Nat.reduceBEq, reduceCtorEq, Int.reduceEq]
    refine evTs_ifg H (by rfl) ?_ ?_ <;> clear H <;> intro H
    · try simp only [↓wk, ↓wl, nc, evV, wrapBits_eq, ↓reduceIte, Nat.reduceEqDiff, Nat.reduceAdd, Nat.reduceSub, Nat.reduceLeDiff, Nat.reduceLT, Nat.reduceBEq, reduceCtorEq, Int.reduceEq]
      refine AW.ift (by rfl) ?_
      refine AW.rseq ?_
      try simp only [↓wk, ↓wl, nc, evV, wrapBits_eq, ↓reduceIte, Nat.reduceEqDiff, Nat.reduceAdd, Nat.reduceSub, Nat.reduceLeDiff, Nat.reduceLT, Nat.reduceBEq, reduceCtorEq, Int.reduceEq]
      refine AW.ret ?_
      refine seqQ.ret ?_
      cases H
      exact hQ _ _ _ _ (.inr rfl) (by simp only [resVs, omap, resV, ↓wk, ↓wl, nc, evV, wrapBits_eq, ↓reduceIte, Nat.reduceEqDiff, Nat.reduceAdd, Nat.reduceSub, Nat.reduceLeDiff, Nat.reduceLT, Nat.reduceBEq, reduceCtorEq, Int.reduceEq]; rfl) (hand_plain (by rfl)) (by rfl)
    · try simp only [↓wk, ↓wl, nc, evV, wrapBits_eq, ↓reduceIte, Nat.reduceEqDiff, Nat.reduceAdd, Nat.reduceSub, Nat.reduceLeDiff, Nat.reduceLT, Nat.reduceBEq, reduceCtorEq, Int.reduceEq]
      refine evTs_pure hFn H (fun _ h => f37_ok h) (by rfl) (by rfl) (by rfl) (by rfl) (fun _ => rfl) ?_ <;> clear H <;> intro r_1884 H
      try simp only [eL, ↓wk, ↓wl, nc, evV, wrapBits_eq, ↓reduceIte, Nat.reduceEqDiff, Nat.reduceAdd, Nat.reduceSub, Nat.reduceLeDiff, Nat.reduceLT, Nat.reduceBEq, reduceCtorEq, Int.reduceEq]
      refine AW.ifc H (by rfl) ?_ ?_ <;> clear H <;> intro H
      · refine AW.rseq ?_
        try simp only [↓wk, ↓wl, nc, evV, wrapBits_eq, ↓reduceIte, Nat.reduceEqDiff, Nat.reduceAdd, Nat.reduceSub, Nat.reduceLeDiff, Nat.reduceLT, Nat.reduceBEq, reduceCtorEq, Int.reduceEq]
        refine AW.ret ?_
        refine seqQ.ret ?_
        cases H
        exact hQ _ _ _ _ (.inr rfl) (by simp only [resVs, omap, resV, ↓wk, ↓wl, nc, evV, wrapBits_eq, ↓reduceIte, Nat.reduceEqDiff, Nat.reduceAdd, Nat.reduceSub, Nat.reduceLeDiff, Nat.reduceLT, Nat.reduceBEq, reduceCtorEq, Int.reduceEq]; rfl) (hand_plain (by rfl)) (by rfl)
      · refine AW.skip ?_
        refine seqQ.norm ?_
        refine AW.rseq ?_
        try simp only [↓wk, ↓wl, nc, evV, wrapBits_eq, ↓reduceIte, Nat.reduceEqDiff, Nat.reduceAdd, Nat.reduceSub, Nat.reduceLeDiff, Nat.reduceLT, Nat.reduceBEq, reduceCtorEq, Int.reduceEq]
        refine AW.ret ?_
        cases H
        exact hQ _ _ _ _ (.inr rfl) (by simp only [resVs, omap, resV, ↓wk, ↓wl, nc, evV, wrapBits_eq, ↓reduceIte, Nat.reduceEqDiff, Nat.reduceAdd, Nat.reduceSub, Nat.reduceLeDiff, Nat.reduceLT, Nat.reduceBEq, reduceCtorEq, Int.reduceEq]; rfl) (hand_plain (by rfl)) (by rfl)
noncomputable def f21_L1 (s_1874 : Ref56Sender) : Lp (Int) ((Unit) ⊕ (Int)) where
  body := fun i_1910 => (if (decide (i_1910 < ((s_1874.fStreams.length : Nat) : Int))) = true then (at? s_1874.fStreams i_1910).bind fun x_1922 => (f37 x_1922.fUniverse 1 8).bind fun r_1927 => (if (!r_1927) = true then (some (.brk (Sum.inr 2))) else (f37 x_1922.fSeq 0 255).bind fun r_1928 => (if (!r_1928) = true then (some (.brk (Sum.inr 2))) else (f37 x_1922.fLast 0 10000000).bind fun r_1929 => (if (!r_1929) = true then (some (.brk (Sum.inr 2))) else (f37 x_1922.fTimes 1 3).bind fun r_1930 => (if (!r_1930) = true then (some (.brk (Sum.inr 2))) else (if (decide (((x_1922.fSlots.length : Nat) : Int) ≠ 512)) = true then (some (.brk (Sum.inr 14))) else (if (decide (0 < i_1910)) = true then (at? s_1874.fStreams (IntKind.i64.wrap (i_1910 - 1))).bind fun x_1931 => (if (decide (x_1922.fUniverse ≤ x_1931.fUniverse)) = true then (some (.brk (Sum.inr 9))) else (some (.next (IntKind.i64.wrap (i_1910 + 1))))) else (some (.next (IntKind.i64.wrap (i_1910 + 1)))))))))) else (some (.brk (Sum.inl ()))))
  cst := fun i_1910 => ⟨put (put (fun _ => .junk) 5 (.int .i64 i_1910)) 1 (.ptr 0 0), [.cel [.int .u64 s_1874.fSource, .int .i64 s_1874.fPriority, .int .i64 s_1874.fSync, .int .i64 s_1874.fPulse, .sl 5 false (s_1874.fStreams.map eRef56Stream)]]⟩
def c21_0 : C := .cond (.t 24) (.seq (.reg [iI 2 (.mv (.c (.int .i64 2)))]) .ret) (.skip)
def c21_1 : C := .seq (.reg [iI 17 (.mv (.t 4)), iI 18 (.bin .neq (.t 17) (.c (.int .i64 0))), iI 19 (.mv (.t 18)), iG (some 20) 19 false (.faddr 3 (.t 1)), iG (some 21) 19 false (.load 0 (.t 20)), iG (some 22) 19 false (.call (.c (.fn 37 [])) [(.t 21), (.c (.int .i64 0)), (.c (.int .i64 255))]), iG (some 23) 19 false (.un .not (.t 22)), iI 24 (.pick (.t 19) (.c (.bool true)) (.t 23))]) c21_0
def c21_2 : C := .cond (.t 28) (.seq (.reg [iI 2 (.mv (.c (.int .i64 5)))]) .ret) (.skip)
def c21_3 : C := .cond (.t 33) (.skip) (.exit 0)
def c21_4 : C := .cond (.t 62) (.seq (.reg [iI 2 (.mv (.c (.int .i64 2)))]) .ret) (.skip)
def c21_5 : C := .cond (.t 66) (.seq (.reg [iI 2 (.mv (.c (.int .i64 14)))]) .ret) (.skip)
def c21_6 : C := .cond (.t 80) (.seq (.reg [iI 2 (.mv (.c (.int .i64 9)))]) .ret) (.skip)
def c21_7 : C := .seq (.reg [iI 67 (.mv (.t 5)), iI 68 (.bin .gtr (.t 67) (.c (.int .i64 0))), iI 69 (.mv (.t 68)), iG (some 70) 69 true (.faddr 0 (.t 6)), iG (some 71) 69 true (.load 0 (.t 70)), iG (some 72) 69 true (.faddr 4 (.t 1)), iG (some 73) 69 true (.load 0 (.t 72)), iG (some 74) 69 true (.mv (.t 5)), iG (some 75) 69 true (.bin .sub (.t 74) (.c (.int .i64 1))), iG (some 76) 69 true (.iaddr 5 (.t 73) (.t 75)), iG (some 77) 69 true (.faddr 0 (.t 76)), iG (some 78) 69 true (.load 0 (.t 77)), iG (some 79) 69 true (.bin .leq (.t 71) (.t 78)), iI 80 (.pick (.t 69) (.t 79) (.c (.bool false)))]) c21_6
def c21_8 : C := .seq (.seq (.reg [iI 63 (.faddr 4 (.t 6)), iI 64 (.load 0 (.t 63)), iI 65 (.len 1 (.t 64)), iI 66 (.bin .neq (.t 65) (.c (.int .i64 512)))]) c21_5) c21_7
def c21_9 : C := .seq (.seq (.reg [iI 41 (.faddr 0 (.t 6)), iI 42 (.load 0 (.t 41)), iI 43 (.call (.c (.fn 37 [])) [(.t 42), (.c (.int .i64 1)), (.c (.int .i64 8))]), iI 44 (.un .not (.t 43)), iI 45 (.mv (.t 44)), iG (some 46) 45 false (.faddr 1 (.t 6)), iG (some 47) 45 false (.load 0 (.t 46)), iG (some 48) 45 false (.call (.c (.fn 37 [])) [(.t 47), (.c (.int .i64 0)), (.c (.int .i64 255))]), iG (some 49) 45 false (.un .not (.t 48)), iI 50 (.pick (.t 45) (.c (.bool true)) (.t 49)), iI 51 (.mv (.t 50)), iG (some 52) 51 false (.faddr 2 (.t 6)), iG (some 53) 51 false (.load 0 (.t 52)), iG (some 54) 51 false (.call (.c (.fn 37 [])) [(.t 53), (.c (.int .i64 0)), (.c (.int .i64 10000000))]), iG (some 55) 51 false (.un .not (.t 54)), iI 56 (.pick (.t 51) (.c (.bool true)) (.t 55)), iI 57 (.mv (.t 56)), iG (some 58) 57 false (.faddr 3 (.t 6)), iG (some 59) 57 false (.load 0 (.t 58)), iG (some 60) 57 false (.call (.c (.fn 37 [])) [(.t 59), (.c (.int .i64 1)), (.c (.int .i64 3))]), iG (some 61) 57 false (.un .not (.t 60)), iI 62 (.pick (.t 57) (.c (.bool true)) (.t 61))]) c21_4) c21_8
def c21_10 : C := .reg [iI 34 (.mv (.t 5)), iI 35 (.bin .add (.t 34) (.c (.int .i64 1))), iI 5 (.mv (.t 35))]
def c21_11 : C := .seq (.block 1 (.seq (.reg [iI 36 (.faddr 4 (.t 1)), iI 37 (.load 0 (.t 36)), iI 38 (.mv (.t 5)), iI 39 (.iaddr 5 (.t 37) (.t 38)), iI 40 (.load 5 (.t 39)), iI 6 (.alloc [(1, (.int .i64 0)), (1, (.int .i64 0)), (1, (.int .i64 0)), (1, (.int .i64 0)), (1, (.str []))]), iN (.store 5 (.t 6) (.t 40))]) c21_9)) c21_10
def c21_12 : C := .block 0 (.loop (.seq (.seq (.reg [iI 29 (.mv (.t 5)), iI 30 (.faddr 4 (.t 1)), iI 31 (.load 0 (.t 30)), iI 32 (.len 0 (.t 31)), iI 33 (.bin .lss (.t 29) (.t 32))]) c21_3) c21_11))
def c21_13 : C := .seq (.reg [iI 2 (.mv (.c (.int .i64 0)))]) .ret
def c21_14 : C := .seq (.seq (.reg [iI 5 (.mv (.c (.int .i64 0)))]) c21_12) c21_13
def c21_15 : C := .seq (.seq (.reg [iI 25 (.faddr 4 (.t 1)), iI 26 (.load 0 (.t 25)), iI 27 (.len 0 (.t 26)), iI 28 (.bin .gtr (.t 27) (.c (.int .i64 8)))]) c21_2) c21_14
def c21_16 : C := .seq (.seq (.reg [iI 8 (.faddr 0 (.t 1)), iI 9 (.load 0 (.t 8)), iI 10 (.faddr 1 (.t 1)), iI 11 (.load 0 (.t 10)), iI 12 (.faddr 2 (.t 1)), iI 13 (.load 0 (.t 12)), iI 14 (.call (.c (.fn 18 [])) [(.t 9), (.t 11), (.t 13)]), iI 7 (.mv (.t 14)), iI 15 (.ext (.t 7) 0), iI 16 (.ext (.t 7) 1), iI 3 (.alloc [(1, (.int .u64 0)), (1, (.int .i64 0)), (1, (.int .i64 0)), (1, (.int .i64 0)), (1, (.sl 5 true []))]), iN (.store 5 (.t 3) (.t 15)), iI 4 (.mv (.t 16))]) c21_1) c21_15
def ir21 : C := .seq (.reg [iI 1 (.box (.t 0)), iI 2 (.mv (.c (.int .i64 0)))]) c21_16
theorem fd21 : fd? Try.prog 21 = some (81, [.slot 2], ir21) := by kernel_rfl
noncomputable def f21 (s_1874 : Ref56Sender) : Option (Int) :=
  (f18 s_1874.fSource s_1874.fPriority s_1874.fSync).bind fun r_1887 => (if (decide (r_1887.2 ≠ 0)) = true then (some 2) else (f37 s_1874.fPulse 0 255).bind fun r_1888 => (if (!r_1888) = true then (some 2) else (if (decide (8 < ((s_1874.fStreams.length : Nat) : Int))) = true then (some 5) else ((Lp.run (f21_L1 s_1874) 0).bind fun r_ => match r_ with | (Sum.inl _) => (some 0) | (Sum.inr v_1921) => (some v_1921)))))
theorem f21_ok {s_1874 : Ref56Sender} {r_ : Int} (H : f21 s_1874 = some r_) : Pure Try.prog 21 [.agg [.int .u64 s_1874.fSource, .int .i64 s_1874.fPriority, .int .i64 s_1874.fSync, .int .i64 s_1874.fPulse, .sl 5 false (s_1874.fStreams.map eRef56Stream)]] (· = .int .i64 r_) := by
  refine Pure.walk2 fd21 none (Nat.le_of_ble_eq_true rfl) (by rfl) fun Q hQ => ?_
  simp only [f21] at H
  refine AW.rseq ?_
  try simp only [↓wk, ↓wl, nc, evV, wrapBits_eq, ↓reduceIte, Nat.reduceEqDiff, Nat.reduceAdd, Nat.reduceSub, Nat.reduceLeDiff, Nat.reduceLT, Nat.reduceBEq, reduceCtorEq, Int.reduceEq]
  refine AW.sseq ?_
  refine AW.rseq ?_
  try simp only [↓wk, ↓wl, nc, evV, wrapBits_eq, ↓reduceIte, Nat.reduceEqDiff, Nat.reduceAdd, Nat.reduceSub, Nat.reduceLeDiff, Nat.reduceLT, Nat.reduceBEq, reduceCtorEq, Int.reduceEq]
  refine evTs_pure hFn H (fun _ h => f18_ok h) (by rfl) (by rfl) (by rfl) (by rfl) (fun _ => rfl) ?_ <;> clear H <;> intro r_1887 H
  try simp only [eL, eRef56Sender, ↓wk, ↓wl, nc, evV, wrapBits_eq, ↓reduceIte, Nat.reduceEqDiff, Nat.reduceAdd, Nat.reduceSub, Nat.reduceLeDiff, Nat.reduceLT, Nat.reduceBEq, reduceCtorEq, Int.reduceEq]
  refine AW.rseq ?_
  try simp only [↓wk, ↓wl, nc, evV, wrapBits_eq, ↓reduceIte, Nat.reduceEqDiff, Nat.reduceAdd, Nat.reduceSub, Nat.reduceLeDiff, Nat.reduceLT, Nat.reduceBEq, reduceCtorEq, Int.reduceEq]
  refine evTs_ifg H (by rfl) ?_ ?_ <;> clear H <;> intro H
  · try simp only [↓wk, ↓wl, nc, evV, wrapBits_eq, ↓reduceIte, Nat.reduceEqDiff, Nat.reduceAdd, Nat.reduceSub, Nat.reduceLeDiff, Nat.reduceLT, Nat.reduceBEq, reduceCtorEq, Int.reduceEq]
    refine AW.ift (by rfl) ?_
    refine AW.rseq ?_
    try simp only [↓wk, ↓wl, nc, evV, wrapBits_eq, ↓reduceIte, Nat.reduceEqDiff, Nat.reduceAdd, Nat.reduceSub, Nat.reduceLeDiff, Nat.reduceLT, Nat.reduceBEq, reduceCtorEq, Int.reduceEq]
    refine AW.ret ?_
    refine seqQ.ret ?_
    cases H
    exact hQ _ _ _ _ (.inr rfl) (by simp only [resVs, omap, resV, ↓wk, ↓wl, nc, evV, wrapBits_eq, ↓reduceIte, Nat.reduceEqDiff, Nat.reduceAdd, Nat.reduceSub, Nat.reduceLeDiff, Nat.reduceLT, Nat.reduceBEq, reduceCtorEq, Int.reduceEq]; rfl) (hand_plain (by rfl)) (by rfl)
  · try simp only [↓wk, ↓wl, nc, evV, wrapBits_eq, ↓reduceIte, Nat.reduceEqDiff, Nat.reduceAdd, Nat.reduceSub, Nat.reduceLeDiff, Nat.reduceLT, Nat.reduceBEq, reduceCtorEq, Int.reduceEq]
    refine evTs_pure hFn H (fun _ h => f37_ok h) (by rfl) (by rfl) (by rfl) (by rfl) (fun _ => rfl) ?_ <;> clear H <;> intro r_1888 H
    try simp only [eL, ↓wk, ↓wl, nc, evV, wrapBits_eq, ↓reduceIte, Nat.reduceEqDiff, Nat.reduceAdd, Nat.reduceSub, Nat.reduceLeDiff, Nat.reduceLT, Nat.reduceBEq, reduceCtorEq, Int.reduceEq]
    refine AW.ifc H (by rfl) ?_ ?_ <;> clear H <;> intro H
    · refine AW.rseq ?_
      try simp only [↓wk, ↓wl, nc, evV, wrapBits_eq, ↓reduceIte, Nat.reduceEqDiff, Nat.reduceAdd, Nat.reduceSub, Nat.reduceLeDiff, Nat.reduceLT, Nat.reduceBEq, reduceCtorEq, Int.reduceEq]
      refine AW.ret ?_
      refine seqQ.ret ?_
      cases H
      exact hQ _ _ _ _ (.inr rfl) (by simp only [resVs, omap, resV, ↓wk, ↓wl, nc, evV, wrapBits_eq, ↓reduceIte, Nat.reduceEqDiff, Nat.reduceAdd, Nat.reduceSub, Nat.reduceLeDiff, Nat.reduceLT, Nat.reduceBEq, reduceCtorEq, Int.reduceEq]; rfl) (hand_plain (by rfl)) (by rfl)
    · refine AW.skip ?_
      refine seqQ.norm ?_
      refine AW.sseq ?_
      refine AW.rseq ?_
      try simp only [↓wk, ↓wl, nc, evV, wrapBits_eq, ↓reduceIte, Nat.reduceEqDiff, Nat.reduceAdd, Nat.reduceSub, Nat.reduceLeDiff, Nat.reduceLT, Nat.reduceBEq, reduceCtorEq, Int.reduceEq]
      refine AW.ifc H (by rfl) ?_ ?_ <;> clear H <;> intro H
      · refine AW.rseq ?_
        try simp only [↓wk, ↓wl, nc, evV, wrapBits_eq, ↓reduceIte, Nat.reduceEqDiff, Nat.reduceAdd, Nat.reduceSub, Nat.reduceLeDiff, Nat.reduceLT, Nat.reduceBEq, reduceCtorEq, Int.reduceEq]
        refine AW.ret ?_
        refine seqQ.ret ?_
        cases H
        exact hQ _ _ _ _ (.inr rfl) (by simp only [resVs, omap, resV, ↓wk, ↓wl, nc, evV, wrapBits_eq, ↓reduceIte, Nat.reduceEqDiff, Nat.reduceAdd, Nat.reduceSub, Nat.reduceLeDiff, Nat.reduceLT, Nat.reduceBEq, reduceCtorEq, Int.reduceEq]; rfl) (hand_plain (by rfl)) (by rfl)
      · refine AW.skip ?_
        refine seqQ.norm ?_
        refine AW.sseq ?_
        refine AW.rseq ?_
        try simp only [↓wk, ↓wl, nc, evV, wrapBits_eq, ↓reduceIte, Nat.reduceEqDiff, Nat.reduceAdd, Nat.reduceSub, Nat.reduceLeDiff, Nat.reduceLT, Nat.reduceBEq, reduceCtorEq, Int.reduceEq]
        refine AW.bend ?_
        refine AW.iter H ((Le.none [0] [1, 5] (by decide) (by simp only [f21_L1, List.length_set, Option.map_some, restrict_eq, renS_nil, renS_cons, renB_els, renB_cel, renB_dead, deep_eq, map_ren_enc, ren_agg', ren_tup', ren_fn', ren_int', ren_bool', ren_str', ren_sl', ren_pro', ren_nilp', ren_nilfn', ren_junk', ren_ptr', ren_row', ren_arow', ren_eptr', vm, List.idxOf?_cons, List.idxOf?_nil, beq_self_eq_true, Option.map_none, List.getD_cons_zero, List.getD_cons_succ, ↓wk, ↓wl, nc, evV, wrapBits_eq, ↓reduceIte, Nat.reduceEqDiff, Nat.reduceAdd, Nat.reduceSub, Nat.reduceLeDiff, Nat.reduceLT, Nat.reduceBEq, reduceCtorEq, Int.reduceEq]))) ?_ <;> clear H
        rintro i_1910 x_ st0_ H hst_
        simp only [f21_L1] at H hst_
        subst hst_
        refine AW.sseq ?_
        refine AW.rseq ?_
        try simp only [↓wk, ↓wl, nc, evV, wrapBits_eq, ↓reduceIte, Nat.reduceEqDiff, Nat.reduceAdd, Nat.reduceSub, Nat.reduceLeDiff, Nat.reduceLT, Nat.reduceBEq, reduceCtorEq, Int.reduceEq]
        refine AW.ifc H (by rfl) ?_ ?_ <;> clear H <;> intro H
        · refine AW.skip ?_
          refine seqQ.norm ?_
          refine AW.bseq ?_
          refine AW.rseq ?_
          try simp only [↓wk, ↓wl, nc, evV, wrapBits_eq, ↓reduceIte, Nat.reduceEqDiff, Nat.reduceAdd, Nat.reduceSub, Nat.reduceLeDiff, Nat.reduceLT, Nat.reduceBEq, reduceCtorEq, Int.reduceEq]
          refine evTs_at (enc := eRef56Stream) H (by rfl) (by rfl) ?_ <;> clear H <;> intro x_1922 H
          try simp only [eRef56Stream, eL, ↓wk, ↓wl, nc, evV, wrapBits_eq, ↓reduceIte, Nat.reduceEqDiff, Nat.reduceAdd, Nat.reduceSub, Nat.reduceLeDiff, Nat.reduceLT, Nat.reduceBEq, reduceCtorEq, Int.reduceEq]
          refine AW.sseq ?_
          refine AW.rseq ?_
          try simp only [↓wk, ↓wl, nc, evV, wrapBits_eq, ↓reduceIte, Nat.reduceEqDiff, Nat.reduceAdd, Nat.reduceSub, Nat.reduceLeDiff, Nat.reduceLT, Nat.reduceBEq, reduceCtorEq, Int.reduceEq]
          refine evTs_pure hFn H (fun _ h => f37_ok h) (by rfl) (by rfl) (by rfl) (by rfl) (fun _ => rfl) ?_ <;> clear H <;> intro r_1927 H
          try simp only [eL, ↓wk, ↓wl, nc, evV, wrapBits_eq, ↓reduceIte, Nat.reduceEqDiff, Nat.reduceAdd, Nat.reduceSub, Nat.reduceLeDiff, Nat.reduceLT, Nat.reduceBEq, reduceCtorEq, Int.reduceEq]
          refine evTs_ifg H (by rfl) ?_ ?_ <;> clear H <;> intro H
          · try simp only [↓wk, ↓wl, nc, evV, wrapBits_eq, ↓reduceIte, Nat.reduceEqDiff, Nat.reduceAdd, Nat.reduceSub, Nat.reduceLeDiff, Nat.reduceLT, Nat.reduceBEq, reduceCtorEq, Int.reduceEq]
            refine AW.ift (by rfl) ?_
            refine AW.rseq ?_
            try simp only [↓wk, ↓wl, nc, evV, wrapBits_eq, ↓reduceIte, Nat.reduceEqDiff, Nat.reduceAdd, Nat.reduceSub, Nat.reduceLeDiff, Nat.reduceLT, Nat.reduceBEq, reduceCtorEq, Int.reduceEq]
            refine AW.ret ?_
            refine seqQ.ret ?_
            refine blkQ.ret ?_
            refine loopQ.ret H ?_ <;> clear H <;> intro H
            try dsimp only at H
            refine blk0.ret ?_
            refine seqQ.ret ?_
            cases H
            exact hQ _ _ _ _ (.inr rfl) (by simp only [resVs, omap, resV, ↓wk, ↓wl, nc, evV, wrapBits_eq, ↓reduceIte, Nat.reduceEqDiff, Nat.reduceAdd, Nat.reduceSub, Nat.reduceLeDiff, Nat.reduceLT, Nat.reduceBEq, reduceCtorEq, Int.reduceEq]; rfl) (hand_plain (by rfl)) (by rfl)
          · try simp only [↓wk, ↓wl, nc, evV, wrapBits_eq, ↓reduceIte, Nat.reduceEqDiff, Nat.reduceAdd, Nat.reduceSub, Nat.reduceLeDiff, Nat.reduceLT, Nat.reduceBEq, reduceCtorEq, Int.reduceEq]
            refine evTs_pure hFn H (fun _ h => f37_ok h) (by rfl) (by rfl) (by rfl) (by rfl) (fun _ => rfl) ?_ <;> clear H <;> intro r_1928 H
            try simp only [eL, ↓wk, ↓wl, nc, evV, wrapBits_eq, ↓reduceIte, Nat.reduceEqDiff, Nat.reduceAdd, Nat.reduceSub, Nat.reduceLeDiff, Nat.reduceLT, Nat.reduceBEq, reduceCtorEq, Int.reduceEq]
            refine evTs_ifg H (by rfl) ?_ ?_ <;> clear H <;> intro H
            · try simp only [↓wk, ↓wl, nc, evV, wrapBits_eq, ↓reduceIte, Nat.reduceEqDiff, Nat.reduceAdd, Nat.reduceSub, Nat.reduceLeDiff, Nat.reduceLT, Nat.reduceBEq, reduceCtorEq, Int.reduceEq]
              refine AW.ift (by rfl) ?_
              refine AW.rseq ?_
              try simp only [↓wk, ↓wl, nc, evV, wrapBits_eq, ↓reduceIte, Nat.reduceEqDiff, Nat.reduceAdd, Nat.reduceSub, Nat.reduceLeDiff, Nat.reduceLT, Nat.reduceBEq, reduceCtorEq, Int.reduceEq]
              refine AW.ret ?_
              refine seqQ.ret ?_
              refine blkQ.ret ?_
              refine loopQ.ret H ?_ <;> clear H <;> intro H
              try dsimp only at H
              refine blk0.ret ?_
              refine seqQ.ret ?_
              cases H
              exact hQ _ _ _ _ (.inr rfl) (by simp only [resVs, omap, resV, ↓wk, ↓wl, nc, evV, wrapBits_eq, ↓reduceIte, Nat.reduceEqDiff, Nat.reduceAdd, Nat.reduceSub, Nat.reduceLeDiff, Nat.reduceLT, Nat.reduceBEq, reduceCtorEq, Int.reduceEq]; rfl) (hand_plain (by rfl)) (by rfl)
            · try simp only [↓wk, ↓wl, nc, evV, wrapBits_eq, ↓reduceIte, Nat.reduceEqDiff, Nat.reduceAdd, Nat.reduceSub, Nat.reduceLeDiff, Nat.reduceLT, Nat.reduceBEq, reduceCtorEq, Int.reduceEq]
              refine evTs_pure hFn H (fun _ h => f37_ok h) (by rfl) (by rfl) (by rfl) (by rfl) (fun _ => rfl) ?_ <;> clear H <;> intro r_1929 H
              try simp only [eL, ↓wk, ↓wl, nc, evV, wrapBits_eq, ↓reduceIte, Nat.reduceEqDiff, Nat.reduceAdd, Nat.reduceSub, Nat.reduceLeDiff, Nat.reduceLT, Nat.reduceBEq, reduceCtorEq, Int.reduceEq]
              refine evTs_ifg H (by rfl) ?_ ?_ <;> clear H <;> intro H
              · try simp only [↓wk, ↓wl, nc, evV, wrapBits_eq, ↓reduceIte, Nat.reduceEqDiff, Nat.reduceAdd, Nat.reduceSub, Nat.reduceLeDiff, Nat.reduceLT, Nat.reduceBEq, reduceCtorEq, Int.reduceEq]
                refine AW.ift (by rfl) ?_
                refine AW.rseq ?_
                try simp only [↓wk, ↓wl, nc, evV, wrapBits_eq, ↓reduceIte, Nat.reduceEqDiff, Nat.reduceAdd, Nat.reduceSub, Nat.reduceLeDiff, Nat.reduceLT, Nat.reduceBEq, reduceCtorEq, Int.reduceEq]
                refine AW.ret ?_
                refine seqQ.ret ?_
                refine blkQ.ret ?_
                refine loopQ.ret H ?_ <;> clear H <;> intro H
                try dsimp only at H
                refine blk0.ret ?_
                refine seqQ.ret ?_
                cases H
                exact hQ _ _ _ _ (.inr rfl) (by simp only [resVs, omap, resV, ↓wk, ↓wl, nc, evV, wrapBits_eq, ↓reduceIte, Nat.reduceEqDiff, Nat.reduceAdd, Nat.reduceSub, Nat.reduceLeDiff, Nat.reduceLT, Nat.reduceBEq, reduceCtorEq, Int.reduceEq]; rfl) (hand_plain (by rfl)) (by rfl)
              · try simp only [↓wk, ↓wl, nc, evV, wrapBits_eq, ↓reduceIte, Nat.reduceEqDiff, Nat.reduceAdd, Nat.reduceSub, Nat.reduceLeDiff, Nat.reduceLT, Nat.reduceBEq, reduceCtorEq, Int.reduceEq]
                refine evTs_pure hFn H (fun _ h => f37_ok h) (by rfl) (by rfl) (by rfl) (by rfl) (fun _ => rfl) ?_ <;> clear H <;> intro r_1930 H
                try simp only [eL, ↓wk, ↓wl, nc, evV, wrapBits_eq, ↓reduceIte, Nat.reduceEqDiff, Nat.reduceAdd, Nat.reduceSub, Nat.reduceLeDiff, Nat.reduceLT, Nat.reduceBEq, reduceCtorEq, Int.reduceEq]
                refine AW.ifc H (by rfl) ?_ ?_ <;> clear H <;> intro H
                · refine AW.rseq ?_
                  try simp only [↓wk, ↓wl, nc, evV, wrapBits_eq, ↓reduceIte, Nat.reduceEqDiff, Nat.reduceAdd, Nat.reduceSub, Nat.reduceLeDiff, Nat.reduceLT, Nat.reduceBEq, reduceCtorEq, Int.reduceEq]
                  refine AW.ret ?_
                  refine seqQ.ret ?_
                  refine blkQ.ret ?_
                  refine loopQ.ret H ?_ <;> clear H <;> intro H
                  try dsimp only at H
                  refine blk0.ret ?_
                  refine seqQ.ret ?_
                  cases H
                  exact hQ _ _ _ _ (.inr rfl) (by simp only [resVs, omap, resV, ↓wk, ↓wl, nc, evV, wrapBits_eq, ↓reduceIte, Nat.reduceEqDiff, Nat.reduceAdd, Nat.reduceSub, Nat.reduceLeDiff, Nat.reduceLT, Nat.reduceBEq, reduceCtorEq, Int.reduceEq]; rfl) (hand_plain (by rfl)) (by rfl)
                · refine AW.skip ?_
                  refine seqQ.norm ?_
                  refine AW.sseq ?_
                  refine AW.rseq ?_
                  try simp only [↓wk, ↓wl, nc, evV, wrapBits_eq, ↓reduceIte, Nat.reduceEqDiff, Nat.reduceAdd, Nat.reduceSub, Nat.reduceLeDiff, Nat.reduceLT, Nat.reduceBEq, reduceCtorEq, Int.reduceEq]
                  refine AW.ifc H (by rfl) ?_ ?_ <;> clear H <;> intro H
                  · refine AW.rseq ?_
                    try simp only [↓wk, ↓wl, nc, evV, wrapBits_eq, ↓reduceIte, Nat.reduceEqDiff, Nat.reduceAdd, Nat.reduceSub, Nat.reduceLeDiff, Nat.reduceLT, Nat.reduceBEq, reduceCtorEq, Int.reduceEq]
                    refine AW.ret ?_
                    refine seqQ.ret ?_
                    refine blkQ.ret ?_
                    refine loopQ.ret H ?_ <;> clear H <;> intro H
                    try dsimp only at H
                    refine blk0.ret ?_
                    refine seqQ.ret ?_
                    cases H
                    exact hQ _ _ _ _ (.inr rfl) (by simp only [resVs, omap, resV, ↓wk, ↓wl, nc, evV, wrapBits_eq, ↓reduceIte, Nat.reduceEqDiff, Nat.reduceAdd, Nat.reduceSub, Nat.reduceLeDiff, Nat.reduceLT, Nat.reduceBEq, reduceCtorEq, Int.reduceEq]; rfl) (hand_plain (by rfl)) (by rfl)
                  · refine AW.skip ?_
                    refine seqQ.norm ?_
                    refine AW.rseq ?_
                    try simp only [↓wk, ↓wl, nc, evV, wrapBits_eq, ↓reduceIte, Nat.reduceEqDiff, Nat.reduceAdd, Nat.reduceSub, Nat.reduceLeDiff, Nat.reduceLT, Nat.reduceBEq, reduceCtorEq, Int.reduceEq]
                    refine evTs_ifg H (by rfl) ?_ ?_ <;> clear H <;> intro H
                    · try simp only [↓wk, ↓wl, nc, evV, wrapBits_eq, ↓reduceIte, Nat.reduceEqDiff, Nat.reduceAdd, Nat.reduceSub, Nat.reduceLeDiff, Nat.reduceLT, Nat.reduceBEq, reduceCtorEq, Int.reduceEq]
                      refine evTs_at (enc := eRef56Stream) H (by rfl) (by rfl) ?_ <;> clear H <;> intro x_1931 H
                      try simp only [eRef56Stream, eL, ↓wk, ↓wl, nc, evV, wrapBits_eq, ↓reduceIte, Nat.reduceEqDiff, Nat.reduceAdd, Nat.reduceSub, Nat.reduceLeDiff, Nat.reduceLT, Nat.reduceBEq, reduceCtorEq, Int.reduceEq]
                      refine AW.ifc H (by rfl) ?_ ?_ <;> clear H <;> intro H
                      · refine AW.rseq ?_
                        try simp only [↓wk, ↓wl, nc, evV, wrapBits_eq, ↓reduceIte, Nat.reduceEqDiff, Nat.reduceAdd, Nat.reduceSub, Nat.reduceLeDiff, Nat.reduceLT, Nat.reduceBEq, reduceCtorEq, Int.reduceEq]
                        refine AW.ret ?_
                        refine blkQ.ret ?_
                        refine loopQ.ret H ?_ <;> clear H <;> intro H
                        try dsimp only at H
                        refine blk0.ret ?_
                        refine seqQ.ret ?_
                        cases H
                        exact hQ _ _ _ _ (.inr rfl) (by simp only [resVs, omap, resV, ↓wk, ↓wl, nc, evV, wrapBits_eq, ↓reduceIte, Nat.reduceEqDiff, Nat.reduceAdd, Nat.reduceSub, Nat.reduceLeDiff, Nat.reduceLT, Nat.reduceBEq, reduceCtorEq, Int.reduceEq]; rfl) (hand_plain (by rfl)) (by rfl)
                      · refine AW.skip ?_
                        refine blkQ.norm ?_
                        refine AW.rend ?_
                        try simp only [↓wk, ↓wl, nc, evV, wrapBits_eq, ↓reduceIte, Nat.reduceEqDiff, Nat.reduceAdd, Nat.reduceSub, Nat.reduceLeDiff, Nat.reduceLT, Nat.reduceBEq, reduceCtorEq, Int.reduceEq]
                        exact loopQ.next H ((Le.none [0] [1, 5] (by decide) (by simp only [f21_L1, List.length_set, Option.map_some, restrict_eq, renS_nil, renS_cons, renB_els, renB_cel, renB_dead, deep_eq, map_ren_enc, ren_agg', ren_tup', ren_fn', ren_int', ren_bool', ren_str', ren_sl', ren_pro', ren_nilp', ren_nilfn', ren_junk', ren_ptr', ren_row', ren_arow', ren_eptr', vm, List.idxOf?_cons, List.idxOf?_nil, beq_self_eq_true, Option.map_none, List.getD_cons_zero, List.getD_cons_succ, ↓wk, ↓wl, nc, evV, wrapBits_eq, ↓reduceIte, Nat.reduceEqDiff, Nat.reduceAdd, Nat.reduceSub, Nat.reduceLeDiff, Nat.reduceLT, Nat.reduceBEq, reduceCtorEq, Int.reduceEq])))
                    · try simp only [↓wk, ↓wl, nc, evV, wrapBits_eq, ↓reduceIte, Nat.reduceEqDiff, Nat.reduceAdd, Nat.reduceSub, Nat.reduceLeDiff, Nat.reduceLT, Nat.reduceBEq, reduceCtorEq, Int.reduceEq]
                      refine AW.iff (by rfl) ?_
                      refine AW.skip ?_
                      refine blkQ.norm ?_
                      refine AW.rend ?_
                      try simp only [↓wk, ↓wl, nc, evV, wrapBits_eq, ↓reduceIte, Nat.reduceEqDiff, Nat.reduceAdd, Nat.reduceSub, Nat.reduceLeDiff, Nat.reduceLT, Nat.reduceBEq, reduceCtorEq, Int.reduceEq]
                      exact loopQ.next H ((Le.none [0] [1, 5] (by decide) (by simp only [f21_L1, List.length_set, Option.map_some, restrict_eq, renS_nil, renS_cons, renB_els, renB_cel, renB_dead, deep_eq, map_ren_enc, ren_agg', ren_tup', ren_fn', ren_int', ren_bool', ren_str', ren_sl', ren_pro', ren_nilp', ren_nilfn', ren_junk', ren_ptr', ren_row', ren_arow', ren_eptr', vm, List.idxOf?_cons, List.idxOf?_nil, beq_self_eq_true, Option.map_none, List.getD_cons_zero, List.getD_cons_succ, ↓wk, ↓wl, nc, evV, wrapBits_eq, ↓reduceIte, Nat.reduceEqDiff, Nat.reduceAdd, Nat.reduceSub, Nat.reduceLeDiff, Nat.reduceLT, Nat.reduceBEq, reduceCtorEq, Int.reduceEq])))
        · refine AW.exit ?_
          refine seqQ.exit ?_
          refine loopQ.exit H ?_ <;> clear H <;> intro H
          try dsimp only at H
          refine blk0.here ?_
          refine seqQ.norm ?_
          refine AW.rseq ?_
          try simp only [↓wk, ↓wl, nc, evV, wrapBits_eq, ↓reduceIte, Nat.reduceEqDiff, Nat.reduceAdd, Nat.reduceSub, Nat.reduceLeDiff, Nat.reduceLT, Nat.reduceBEq, reduceCtorEq, Int.reduceEq]
          refine AW.ret ?_
          cases H
          exact hQ _ _ _ _ (.inr rfl) (by simp only [resVs, omap, resV, ↓wk, ↓wl, nc, evV, wrapBits_eq, ↓reduceIte, Nat.reduceEqDiff, Nat.reduceAdd, Nat.reduceSub, Nat.reduceLeDiff, Nat.reduceLT, Nat.reduceBEq, reduceCtorEq, Int.reduceEq]; rfl) (hand_plain (by rfl)) (by rfl)
noncomputable def f47_L1 (s_1872 : Ref56Sender) (t_1873 : Int) : Lp (Int) ((Unit) ⊕ (Unit)) where
  body := fun i_1939 => (if (decide (i_1939 < ((s_1872.fStreams.length : Nat) : Int))) = true then (at? s_1872.fStreams i_1939).bind fun x_1941 => (if (decide (t_1873 < x_1941.fLast)) = true then (some (.brk (Sum.inr ()))) else (some (.next (IntKind.i64.wrap (i_1939 + 1))))) else (some (.brk (Sum.inl ()))))
  cst := fun i_1939 => ⟨put (put (put (fun _ => .junk) 6 (.int .i64 i_1939)) 2 (.ptr 0 0)) 1 (.int .i64 t_1873), [.cel [.int .u64 s_1872.fSource, .int .i64 s_1872.fPriority, .int .i64 s_1872.fSync, .int .i64 s_1872.fPulse, .sl 5 false (s_1872.fStreams.map eRef56Stream)]]⟩
def c47_0 : C := .cond (.t 10) (.seq (.reg [iI 11 (.mv (.t 5)), iI 4 (.mv (.t 11))]) .ret) (.skip)
def c47_1 : C := .seq (.reg [iI 9 (.mv (.t 5)), iI 10 (.bin .neq (.t 9) (.c (.int .i64 0)))]) c47_0
def c47_2 : C := .cond (.t 14) (.seq (.reg [iI 4 (.mv (.c (.int .i64 2)))]) .ret) (.skip)
def c47_3 : C := .cond (.t 19) (.skip) (.exit 0)
def c47_4 : C := .cond (.t 29) (.seq (.reg [iI 4 (.mv (.c (.int .i64 9)))]) .ret) (.skip)
def c47_5 : C := .reg [iI 20 (.mv (.t 6)), iI 21 (.bin .add (.t 20) (.c (.int .i64 1))), iI 6 (.mv (.t 21))]
def c47_6 : C := .seq (.block 1 (.seq (.reg [iI 22 (.mv (.t 1)), iI 23 (.faddr 4 (.t 2)), iI 24 (.load 0 (.t 23)), iI 25 (.mv (.t 6)), iI 26 (.iaddr 5 (.t 24) (.t 25)), iI 27 (.faddr 2 (.t 26)), iI 28 (.load 0 (.t 27)), iI 29 (.bin .lss (.t 22) (.t 28))]) c47_4)) c47_5
def c47_7 : C := .block 0 (.loop (.seq (.seq (.reg [iI 15 (.mv (.t 6)), iI 16 (.faddr 4 (.t 2)), iI 17 (.load 0 (.t 16)), iI 18 (.len 0 (.t 17)), iI 19 (.bin .lss (.t 15) (.t 18))]) c47_3) c47_6))
def c47_8 : C := .seq (.reg [iI 4 (.mv (.c (.int .i64 0)))]) .ret
def c47_9 : C := .seq (.seq (.reg [iI 6 (.mv (.c (.int .i64 0)))]) c47_7) c47_8
def c47_10 : C := .seq (.seq (.reg [iI 12 (.mv (.t 1)), iI 13 (.call (.c (.fn 37 [])) [(.t 12), (.c (.int .i64 0)), (.c (.int .i64 10000000))]), iI 14 (.un .not (.t 13))]) c47_2) c47_9
def c47_11 : C := .seq (.seq (.reg [iI 7 (.load 5 (.t 2)), iI 8 (.call (.c (.fn 21 [])) [(.t 7)]), iI 5 (.mv (.t 8))]) c47_1) c47_10
def ir47 : C := .seq (.reg [iI 2 (.box (.t 0)), iI 4 (.mv (.c (.int .i64 0)))]) c47_11
theorem fd47 : fd? Try.prog 47 = some (30, [.slot 4], ir47) := by kernel_rfl
noncomputable def f47 (s_1872 : Ref56Sender) (t_1873 : Int) : Option (Int) :=
  (f21 s_1872).bind fun r_1933 => (if (decide (r_1933 ≠ 0)) = true then (some r_1933) else (f37 t_1873 0 10000000).bind fun r_1935 => (if (!r_1935) = true then (some 2) else ((Lp.run (f47_L1 s_1872 t_1873) 0).bind fun r_ => match r_ with | (Sum.inl _) => (some 0) | (Sum.inr _) => (some 9))))
theorem f47_ok {s_1872 : Ref56Sender} {t_1873 : Int} {r_ : Int} (H : f47 s_1872 t_1873 = some r_) : Pure Try.prog 47 [.agg [.int .u64 s_1872.fSource, .int .i64 s_1872.fPriority, .int .i64 s_1872.fSync, .int .i64 s_1872.fPulse, .sl 5 false (s_1872.fStreams.map eRef56Stream)], .int .i64 t_1873] (· = .int .i64 r_) := by
  refine Pure.walk2 fd47 none (Nat.le_of_ble_eq_true rfl) (by rfl) fun Q hQ => ?_
  simp only [f47] at H
  refine AW.rseq ?_
  try simp only [↓wk, ↓wl, nc, evV, wrapBits_eq, ↓reduceIte, Nat.reduceEqDiff, Nat.reduceAdd, Nat.reduceSub, Nat.reduceLeDiff, Nat.reduceLT, Nat.reduceBEq, reduceCtorEq, Int.reduceEq]
  refine AW.sseq ?_
  refine AW.rseq ?_
  try simp only [↓wk, ↓wl, nc, evV, wrapBits_eq, ↓reduceIte, Nat.reduceEqDiff, Nat.reduceAdd, Nat.reduceSub, Nat.reduceLeDiff, Nat.reduceLT, Nat.reduceBEq, reduceCtorEq, Int.reduceEq]
  refine evTs_pure hFn H (fun _ h => f21_ok h) (by rfl) (by rfl) (by rfl) (by rfl) (fun _ => rfl) ?_ <;> clear H <;> intro r_1933 H
  try simp only [eL, ↓wk, ↓wl, nc, evV, wrapBits_eq, ↓reduceIte, Nat.reduceEqDiff, Nat.reduceAdd, Nat.reduceSub, Nat.reduceLeDiff, Nat.reduceLT, Nat.reduceBEq, reduceCtorEq, Int.reduceEq]
  refine AW.rseq ?_
  try simp only [↓wk, ↓wl, nc, evV, wrapBits_eq, ↓reduceIte, Nat.reduceEqDiff, Nat.reduceAdd, Nat.reduceSub, Nat.reduceLeDiff, Nat.reduceLT, Nat.reduceBEq, reduceCtorEq, Int.reduceEq]
  refine AW.ifc H (by rfl) ?_ ?_ <;> clear H <;> intro H
  · refine AW.rseq ?_
    try simp only [↓wk, ↓wl, nc, evV, wrapBits_eq, ↓reduceIte, Nat.reduceEqDiff, Nat.reduceAdd, Nat.reduceSub, Nat.reduceLeDiff, Nat.reduceLT, Nat.reduceBEq, reduceCtorEq, Int.reduceEq]
    refine AW.ret ?_
    refine seqQ.ret ?_
    cases H
    exact hQ _ _ _ _ (.inr rfl) (by simp only [resVs, omap, resV, ↓wk, ↓wl, nc, evV, wrapBits_eq, ↓reduceIte, Nat.reduceEqDiff, Nat.reduceAdd, Nat.reduceSub, Nat.reduceLeDiff, Nat.reduceLT, Nat.reduceBEq, reduceCtorEq, Int.reduceEq]; rfl) (hand_plain (by rfl)) (by rfl)
  · refine AW.skip ?_
    refine seqQ.norm ?_
    refine AW.sseq ?_
    refine AW.rseq ?_
    try simp only [↓wk, ↓wl, nc, evV, wrapBits_eq, ↓reduceIte, Nat.reduceEqDiff, Nat.reduceAdd, Nat.reduceSub, Nat.reduceLeDiff, Nat.reduceLT, Nat.reduceBEq, reduceCtorEq, Int.reduceEq]
    refine evTs_pure hFn H (fun _ h => f37_ok h) (by rfl) (by rfl) (by rfl) (by rfl) (fun _ => rfl) ?_ <;> clear H <;> intro r_1935 H
    try simp only [eL, ↓wk, ↓wl, nc, evV, wrapBits_eq, ↓reduceIte, Nat.reduceEqDiff, Nat.reduceAdd, Nat.reduceSub, Nat.reduceLeDiff, Nat.reduceLT, Nat.reduceBEq, reduceCtorEq, Int.reduceEq]
    refine AW.ifc H (by rfl) ?_ ?_ <;> clear H <;> intro H
    · refine AW.rseq ?_
      try simp only [↓wk, ↓wl, nc, evV, wrapBits_eq, ↓reduceIte, Nat.reduceEqDiff, Nat.reduceAdd, Nat.reduceSub, Nat.reduceLeDiff, Nat.reduceLT, Nat.reduceBEq, reduceCtorEq, Int.reduceEq]
      refine AW.ret ?_
      refine seqQ.ret ?_
      cases H
      exact hQ _ _ _ _ (.inr rfl) (by simp only [resVs, omap, resV, ↓wk, ↓wl, nc, evV, wrapBits_eq, ↓reduceIte, Nat.reduceEqDiff, Nat.reduceAdd, Nat.reduceSub, Nat.reduceLeDiff, Nat.reduceLT, Nat.reduceBEq, reduceCtorEq, Int.reduceEq]; rfl) (hand_plain (by rfl)) (by rfl)
    · refine AW.skip ?_
      refine seqQ.norm ?_
      refine AW.sseq ?_
      refine AW.rseq ?_
      try simp only [↓wk, ↓wl, nc, evV, wrapBits_eq, ↓reduceIte, Nat.reduceEqDiff, Nat.reduceAdd, Nat.reduceSub, Nat.reduceLeDiff, Nat.reduceLT, Nat.reduceBEq, reduceCtorEq, Int.reduceEq]
      refine AW.bend ?_
      refine AW.iter H ((Le.none [0] [1, 2, 6] (by decide) (by simp only [f47_L1, List.length_set, Option.map_some, restrict_eq, renS_nil, renS_cons, renB_els, renB_cel, renB_dead, deep_eq, map_ren_enc, ren_agg', ren_tup', ren_fn', ren_int', ren_bool', ren_str', ren_sl', ren_pro', ren_nilp', ren_nilfn', ren_junk', ren_ptr', ren_row', ren_arow', ren_eptr', vm, List.idxOf?_cons, List.idxOf?_nil, beq_self_eq_true, Option.map_none, List.getD_cons_zero, List.getD_cons_succ, ↓wk, ↓wl, nc, evV, wrapBits_eq, ↓reduceIte, Nat.reduceEqDiff, Nat.reduceAdd, Nat.reduceSub, Nat.reduceLeDiff, Nat.reduceLT, Nat.reduceBEq, reduceCtorEq, Int.reduceEq]))) ?_ <;> clear H
      rintro i_1939 x_ st0_ H hst_
      simp only [f47_L1] at H hst_
      subst hst_
      refine AW.sseq ?_
      refine AW.rseq ?_
      try simp only [↓wk, ↓wl, nc, evV, wrapBits_eq, ↓reduceIte, Nat.reduceEqDiff, Nat.reduceAdd, Nat.reduceSub, Nat.reduceLeDiff, Nat.reduceLT, Nat.reduceBEq, reduceCtorEq, Int.reduceEq]
      refine AW.ifc H (by rfl) ?_ ?_ <;> clear H <;> intro H
      · refine AW.skip ?_
        refine seqQ.norm ?_
        refine AW.bseq ?_
        refine AW.rseq ?_
        try simp only [↓wk, ↓wl, nc, evV, wrapBits_eq, ↓reduceIte, Nat.reduceEqDiff, Nat.reduceAdd, Nat.reduceSub, Nat.reduceLeDiff, Nat.reduceLT, Nat.reduceBEq, reduceCtorEq, Int.reduceEq]
        refine evTs_at (enc := eRef56Stream) H (by rfl) (by rfl) ?_ <;> clear H <;> intro x_1941 H
        try simp only [eRef56Stream, eL, ↓wk, ↓wl, nc, evV, wrapBits_eq, ↓reduceIte, Nat.reduceEqDiff, Nat.reduceAdd, Nat.reduceSub, Nat.reduceLeDiff, Nat.reduceLT, Nat.reduceBEq, reduceCtorEq, Int.reduceEq]
        refine AW.ifc H (by rfl) ?_ ?_ <;> clear H <;> intro H
        · refine AW.rseq ?_
          try simp only [↓wk, ↓wl, nc, evV, wrapBits_eq, ↓reduceIte, Nat.reduceEqDiff, Nat.reduceAdd, Nat.reduceSub, Nat.reduceLeDiff, Nat.reduceLT, Nat.reduceBEq, reduceCtorEq, Int.reduceEq]
          refine AW.ret ?_
          refine blkQ.ret ?_
          refine loopQ.ret H ?_ <;> clear H <;> intro H
          try dsimp only at H
          refine blk0.ret ?_
          refine seqQ.ret ?_
          cases H
          exact hQ _ _ _ _ (.inr rfl) (by simp only [resVs, omap, resV, ↓wk, ↓wl, nc, evV, wrapBits_eq, ↓reduceIte, Nat.reduceEqDiff, Nat.reduceAdd, Nat.reduceSub, Nat.reduceLeDiff, Nat.reduceLT, Nat.reduceBEq, reduceCtorEq, Int.reduceEq]; rfl) (hand_plain (by rfl)) (by rfl)
        · refine AW.skip ?_
          refine blkQ.norm ?_
          refine AW.rend ?_
          try simp only [↓wk, ↓wl, nc, evV, wrapBits_eq, ↓reduceIte, Nat.reduceEqDiff, Nat.reduceAdd, Nat.reduceSub, Nat.reduceLeDiff, Nat.reduceLT, Nat.reduceBEq, reduceCtorEq, Int.reduceEq]
          exact loopQ.next H ((Le.none [0] [1, 2, 6] (by decide) (by simp only [f47_L1, List.length_set, Option.map_some, restrict_eq, renS_nil, renS_cons, renB_els, renB_cel, renB_dead, deep_eq, map_ren_enc, ren_agg', ren_tup', ren_fn', ren_int', ren_bool', ren_str', ren_sl', ren_pro', ren_nilp', ren_nilfn', ren_junk', ren_ptr', ren_row', ren_arow', ren_eptr', vm, List.idxOf?_cons, List.idxOf?_nil, beq_self_eq_true, Option.map_none, List.getD_cons_zero, List.getD_cons_succ, ↓wk, ↓wl, nc, evV, wrapBits_eq, ↓reduceIte, Nat.reduceEqDiff, Nat.reduceAdd, Nat.reduceSub, Nat.reduceLeDiff, Nat.reduceLT, Nat.reduceBEq, reduceCtorEq, Int.reduceEq])))
      · refine AW.exit ?_
        refine seqQ.exit ?_
        refine loopQ.exit H ?_ <;> clear H <;> intro H
        try dsimp only at H
        refine blk0.here ?_
        refine seqQ.norm ?_
        refine AW.rseq ?_
        try simp only [↓wk, ↓wl, nc, evV, wrapBits_eq, ↓reduceIte, Nat.reduceEqDiff, Nat.reduceAdd, Nat.reduceSub, Nat.reduceLeDiff, Nat.reduceLT, Nat.reduceBEq, reduceCtorEq, Int.reduceEq]
        refine AW.ret ?_
        cases H
        exact hQ _ _ _ _ (.inr rfl) (by simp only [resVs, omap, resV, ↓wk, ↓wl, nc, evV, wrapBits_eq, ↓reduceIte, Nat.reduceEqDiff, Nat.reduceAdd, Nat.reduceSub, Nat.reduceLeDiff, Nat.reduceLT, Nat.reduceBEq, reduceCtorEq, Int.reduceEq]; rfl) (hand_plain (by rfl)) (by rfl)
def c52_0 : C := .seq (.reg [iI 5 (.faddr 0 (.t 2)), iI 6 (.load 0 (.t 5)), iI 7 (.faddr 0 (.t 3)), iI 8 (.load 0 (.t 7)), iI 9 (.faddr 1 (.t 2)), iI 10 (.load 0 (.t 9)), iI 11 (.faddr 1 (.t 3)), iI 12 (.load 0 (.t 11)), iI 13 (.faddr 2 (.t 2)), iI 14 (.load 0 (.t 13)), iI 15 (.faddr 4 (.t 3)), iI 16 (.load 0 (.t 15)), iI 17 (.build [(1, (.int .u64 0)), (1, (.int .i64 0)), (1, (.int .i64 0)), (1, (.int .i64 0)), (1, (.int .i64 0)), (1, (.bool false)), (1, (.str []))] [(0, 0, (.t 6)), (1, 0, (.t 8)), (2, 0, (.t 10)), (3, 0, (.t 12)), (4, 0, (.t 14)), (6, 0, (.t 16))]), iN (.store 7 (.t 4) (.t 17))]) .ret
def ir52 : C := .seq (.reg [iI 2 (.box (.t 0)), iI 3 (.box (.t 1)), iI 4 (.alloc [(1, (.int .u64 0)), (1, (.int .i64 0)), (1, (.int .i64 0)), (1, (.int .i64 0)), (1, (.int .i64 0)), (1, (.bool false)), (1, (.str []))])]) c52_0
theorem fd52 : fd? Try.prog 52 = some (18, [.cell 4 7], ir52) := by kernel_rfl
noncomputable def f52 (s_1945 : Ref56Sender) (x_1946 : Ref56Stream) : Option (Ref56Packet) :=
  (some (Ref56Packet.mk s_1945.fSource x_1946.fUniverse s_1945.fPriority x_1946.fSeq s_1945.fSync false x_1946.fSlots))
theorem f52_ok {s_1945 : Ref56Sender} {x_1946 : Ref56Stream} {r_ : Ref56Packet} (H : f52 s_1945 x_1946 = some r_) : Pure Try.prog 52 [.agg [.int .u64 s_1945.fSource, .int .i64 s_1945.fPriority, .int .i64 s_1945.fSync, .int .i64 s_1945.fPulse, .sl 5 false (s_1945.fStreams.map eRef56Stream)], .agg [.int .i64 x_1946.fUniverse, .int .i64 x_1946.fSeq, .int .i64 x_1946.fLast, .int .i64 x_1946.fTimes, .str x_1946.fSlots]] (· = .agg [.int .u64 r_.fSource, .int .i64 r_.fUniverse, .int .i64 r_.fPriority, .int .i64 r_.fSeq, .int .i64 r_.fSync, .bool r_.fEnd, .str r_.fSlots]) := by
  refine Pure.walk2 fd52 none (Nat.le_of_ble_eq_true rfl) (by rfl) fun Q hQ => ?_
  simp only [f52] at H
  refine AW.rseq ?_
  try simp only [↓wk, ↓wl, nc, evV, wrapBits_eq, ↓reduceIte, Nat.reduceEqDiff, Nat.reduceAdd, Nat.reduceSub, Nat.reduceLeDiff, Nat.reduceLT, Nat.reduceBEq, reduceCtorEq, Int.reduceEq]
  refine AW.rseq ?_
  try simp only [↓wk, ↓wl, nc, evV, wrapBits_eq, ↓reduceIte, Nat.reduceEqDiff, Nat.reduceAdd, Nat.reduceSub, Nat.reduceLeDiff, Nat.reduceLT, Nat.reduceBEq, reduceCtorEq, Int.reduceEq]
  refine AW.ret ?_
  cases H
  exact hQ _ _ _ _ (.inr rfl) (by simp only [resVs, omap, resV, ↓wk, ↓wl, nc, evV, wrapBits_eq, ↓reduceIte, Nat.reduceEqDiff, Nat.reduceAdd, Nat.reduceSub, Nat.reduceLeDiff, Nat.reduceLT, Nat.reduceBEq, reduceCtorEq, Int.reduceEq]; rfl) (hand_plain (by rfl)) (by rfl)
noncomputable def f30_L2 (s_1870 : Ref56Sender) (i_1993 : Int) : Lp (Int × (List Ref56Packet)) ((List Ref56Packet)) where
  body := fun (k_2018, out_2019) => (if (decide (k_2018 ≤ 3)) = true then (at? s_1870.fStreams i_1993).bind fun x_2024 => (f52 s_1870 (Ref56Stream.mk x_2024.fUniverse ((IntKind.i64.wrap (x_2024.fSeq + k_2018)).tmod 256) x_2024.fLast x_2024.fTimes x_2024.fSlots)).bind fun r_2025 => (app? 64 out_2019 ([(Ref56Packet.mk r_2025.fSource r_2025.fUniverse r_2025.fPriority r_2025.fSeq r_2025.fSync true r_2025.fSlots)])).bind fun out_2026 => (some (.next ((IntKind.i64.wrap (k_2018 + 1)), out_2026))) else (some (.brk out_2019)))
  cst := fun (k_2018, out_2019) => ⟨put (put (put (put (put (fun _ => .junk) 10 (.int .i64 k_2018)) 9 (.int .i64 i_1993)) 8 (.row 7 2 0 out_2019.length)) 4 (.ptr 1 0)) 2 (.ptr 0 0), [.cel [.int .u64 s_1870.fSource, .int .i64 s_1870.fPriority, .int .i64 s_1870.fSync, .int .i64 s_1870.fPulse, .sl 5 false (s_1870.fStreams.map eRef56Stream)], .cel [.int .u64 0, .int .i64 0, .int .i64 0, .int .i64 0, .sl 5 true []], .els 7 (out_2019.map eRef56Packet)]⟩
noncomputable def f30_L1 (s_1870 : Ref56Sender) : Lp (Int × (List Ref56Packet)) ((List Ref56Packet)) where
  body := fun (i_1993, out_1994) => (if (decide (i_1993 < ((s_1870.fStreams.length : Nat) : Int))) = true then (Lp.run (f30_L2 s_1870 i_1993) (1, out_1994)).bind fun out_2023 => (some (.next ((IntKind.i64.wrap (i_1993 + 1)), out_2023))) else (some (.brk out_1994)))
  cst := fun (i_1993, out_1994) => ⟨put (put (put (put (fun _ => .junk) 9 (.int .i64 i_1993)) 8 (.row 7 2 0 out_1994.length)) 4 (.ptr 1 0)) 2 (.ptr 0 0), [.cel [.int .u64 s_1870.fSource, .int .i64 s_1870.fPriority, .int .i64 s_1870.fSync, .int .i64 s_1870.fPulse, .sl 5 false (s_1870.fStreams.map eRef56Stream)], .cel [.int .u64 0, .int .i64 0, .int .i64 0, .int .i64 0, .sl 5 true []], .els 7 (out_1994.map eRef56Packet)]⟩
def c30_0 : C := .cond (.t 17) (.seq (.reg [iI 18 (.build [(1, (.int .u64 0)), (1, (.int .i64 0)), (1, (.int .i64 0)), (1, (.int .i64 0)), (1, (.sl 5 true []))] []), iI 19 (.mv (.t 7)), iN (.store 5 (.t 4) (.t 18)), iI 5 (.mv (.c (.sl 7 true []))), iI 6 (.mv (.t 19))]) .ret) (.skip)
def c30_1 : C := .seq (.reg [iI 16 (.mv (.t 7)), iI 17 (.bin .neq (.t 16) (.c (.int .i64 0)))]) c30_0
def c30_2 : C := .cond (.t 24) (.skip) (.exit 0)
def c30_3 : C := .cond (.t 28) (.skip) (.exit 2)
def c30_4 : C := .reg [iI 46 (.mv (.t 8)), iI 47 (.load 7 (.t 12)), iI 48 (.mkslp 7 1 (.agg [(.int .u64 0), (.int .i64 0), (.int .i64 0), (.int .i64 0), (.int .i64 0), (.bool false), (.str [])]) [(0, (.t 47))]), iI 49 (.append 7 64 (.t 46) (.t 48)), iI 8 (.mv (.t 49))]
def c30_5 : C := .seq (.reg [iI 45 (.faddr 5 (.t 12)), iN (.store 0 (.t 45) (.c (.bool true)))]) c30_4
def c30_6 : C := .seq (.reg [iI 42 (.load 5 (.t 2)), iI 43 (.load 5 (.t 11)), iI 44 (.call (.c (.fn 52 [])) [(.t 42), (.t 43)]), iI 12 (.alloc [(1, (.int .u64 0)), (1, (.int .i64 0)), (1, (.int .i64 0)), (1, (.int .i64 0)), (1, (.int .i64 0)), (1, (.bool false)), (1, (.str []))]), iN (.store 7 (.t 12) (.t 44))]) c30_5
def c30_7 : C := .seq (.reg [iI 36 (.faddr 1 (.t 11)), iI 37 (.load 0 (.t 36)), iI 38 (.mv (.t 10)), iI 39 (.bin .add (.t 37) (.t 38)), iI 40 (.bin .rem (.t 39) (.c (.int .i64 256))), iI 41 (.faddr 1 (.t 11)), iN (.store 0 (.t 41) (.t 40))]) c30_6
def c30_8 : C := .reg [iI 29 (.mv (.t 10)), iI 30 (.bin .add (.t 29) (.c (.int .i64 1))), iI 10 (.mv (.t 30))]
def c30_9 : C := .seq (.block 3 (.seq (.reg [iI 31 (.faddr 4 (.t 2)), iI 32 (.load 0 (.t 31)), iI 33 (.mv (.t 9)), iI 34 (.iaddr 5 (.t 32) (.t 33)), iI 35 (.load 5 (.t 34)), iI 11 (.alloc [(1, (.int .i64 0)), (1, (.int .i64 0)), (1, (.int .i64 0)), (1, (.int .i64 0)), (1, (.str []))]), iN (.store 5 (.t 11) (.t 35))]) c30_7)) c30_8
def c30_10 : C := .block 2 (.loop (.seq (.seq (.reg [iI 27 (.mv (.t 10)), iI 28 (.bin .leq (.t 27) (.c (.int .i64 3)))]) c30_3) c30_9))
def c30_11 : C := .reg [iI 25 (.mv (.t 9)), iI 26 (.bin .add (.t 25) (.c (.int .i64 1))), iI 9 (.mv (.t 26))]
def c30_12 : C := .seq (.block 1 (.seq (.reg [iI 10 (.mv (.c (.int .i64 1)))]) c30_10)) c30_11
def c30_13 : C := .block 0 (.loop (.seq (.seq (.reg [iI 20 (.mv (.t 9)), iI 21 (.faddr 4 (.t 2)), iI 22 (.load 0 (.t 21)), iI 23 (.len 0 (.t 22)), iI 24 (.bin .lss (.t 20) (.t 23))]) c30_2) c30_12))
def c30_14 : C := .seq (.reg [iI 51 (.load 5 (.t 2)), iI 52 (.mv (.t 8)), iN (.store 5 (.t 4) (.t 51)), iI 5 (.mv (.t 52)), iI 6 (.mv (.c (.int .i64 0)))]) .ret
def c30_15 : C := .seq (.reg [iI 50 (.faddr 4 (.t 2)), iN (.store 0 (.t 50) (.c (.sl 5 true [])))]) c30_14
def c30_16 : C := .seq (.seq (.reg [iI 9 (.mv (.c (.int .i64 0)))]) c30_13) c30_15
def c30_17 : C := .seq (.reg [iI 8 (.mv (.c (.sl 7 true [])))]) c30_16
def c30_18 : C := .seq (.seq (.reg [iI 13 (.load 5 (.t 2)), iI 14 (.mv (.t 1)), iI 15 (.call (.c (.fn 47 [])) [(.t 13), (.t 14)]), iI 7 (.mv (.t 15))]) c30_1) c30_17
def ir30 : C := .seq (.reg [iI 2 (.box (.t 0)), iI 4 (.alloc [(1, (.int .u64 0)), (1, (.int .i64 0)), (1, (.int .i64 0)), (1, (.int .i64 0)), (1, (.sl 5 true []))]), iI 5 (.mv (.c (.sl 7 true []))), iI 6 (.mv (.c (.int .i64 0)))]) c30_18
theorem fd30 : fd? Try.prog 30 = some (53, [.cell 4 5, .slot 5, .slot 6], ir30) := by kernel_rfl
noncomputable def f30 (s_1870 : Ref56Sender) (t_1871 : Int) : Option (Ref56Sender × (List Ref56Packet) × Int) :=
  (f47 s_1870 t_1871).bind fun r_1943 => (if (decide (r_1943 ≠ 0)) = true then (some ((Ref56Sender.mk 0 0 0 0 ([])), [], r_1943)) else (Lp.run (f30_L1 s_1870) (0, [])).bind fun out_2009 => (some ((Ref56Sender.mk s_1870.fSource s_1870.fPriority s_1870.fSync s_1870.fPulse ([])), out_2009, 0)))
theorem f30_ok {s_1870 : Ref56Sender} {t_1871 : Int} {r_ : Ref56Sender × (List Ref56Packet) × Int} (H : f30 s_1870 t_1871 = some r_) : Pure Try.prog 30 [.agg [.int .u64 s_1870.fSource, .int .i64 s_1870.fPriority, .int .i64 s_1870.fSync, .int .i64 s_1870.fPulse, .sl 5 false (s_1870.fStreams.map eRef56Stream)], .int .i64 t_1871] (· = .tup [.agg [.int .u64 r_.1.fSource, .int .i64 r_.1.fPriority, .int .i64 r_.1.fSync, .int .i64 r_.1.fPulse, .sl 5 false (r_.1.fStreams.map eRef56Stream)], .fr 7 (r_.2.1.map eRef56Packet), .int .i64 r_.2.2]) := by
  refine Pure.walk2 fd30 (some 1) (Nat.le_of_ble_eq_true rfl) (by rfl) fun Q hQ => ?_
  simp only [f30] at H
  refine AW.rseq ?_
  try simp only [↓wk, ↓wl, nc, evV, wrapBits_eq, ↓reduceIte, Nat.reduceEqDiff, Nat.reduceAdd, Nat.reduceSub, Nat.reduceLeDiff, Nat.reduceLT, Nat.reduceBEq, reduceCtorEq, Int.reduceEq]
  refine AW.sseq ?_
  refine AW.rseq ?_
  try simp only [↓wk, ↓wl, nc, evV, wrapBits_eq, ↓reduceIte, Nat.reduceEqDiff, Nat.reduceAdd, Nat.reduceSub, Nat.reduceLeDiff, Nat.reduceLT, Nat.reduceBEq, reduceCtorEq, Int.reduceEq]
  refine evTs_pure hFn H (fun _ h => f47_ok h) (by rfl) (by rfl) (by rfl) (by rfl) (fun _ => rfl) ?_ <;> clear H <;> intro r_1943 H
  try simp only [eL, ↓wk, ↓wl, nc, evV, wrapBits_eq, ↓reduceIte, Nat.reduceEqDiff, Nat.reduceAdd, Nat.reduceSub, Nat.reduceLeDiff, Nat.reduceLT, Nat.reduceBEq, reduceCtorEq, Int.reduceEq]
  refine AW.rseq ?_
  try simp only [↓wk, ↓wl, nc, evV, wrapBits_eq, ↓reduceIte, Nat.reduceEqDiff, Nat.reduceAdd, Nat.reduceSub, Nat.reduceLeDiff, Nat.reduceLT, Nat.reduceBEq, reduceCtorEq, Int.reduceEq]
  refine AW.ifc H (by rfl) ?_ ?_ <;> clear H <;> intro H
  · refine AW.rseq ?_
    try simp only [↓wk, ↓wl, nc, evV, wrapBits_eq, ↓reduceIte, Nat.reduceEqDiff, Nat.reduceAdd, Nat.reduceSub, Nat.reduceLeDiff, Nat.reduceLT, Nat.reduceBEq, reduceCtorEq, Int.reduceEq]
    refine AW.ret ?_
    refine seqQ.ret ?_
    cases H
    exact hQ _ _ _ _ (.inr rfl) (by simp only [resVs, omap, resV, ↓wk, ↓wl, nc, evV, wrapBits_eq, ↓reduceIte, Nat.reduceEqDiff, Nat.reduceAdd, Nat.reduceSub, Nat.reduceLeDiff, Nat.reduceLT, Nat.reduceBEq, reduceCtorEq, Int.reduceEq]; rfl) (hand_k0 (by rfl) (by rfl)) (by rfl)
  · refine AW.skip ?_
    refine seqQ.norm ?_
    refine AW.rseq ?_
    try simp only [↓wk, ↓wl, nc, evV, wrapBits_eq, ↓reduceIte, Nat.reduceEqDiff, Nat.reduceAdd, Nat.reduceSub, Nat.reduceLeDiff, Nat.reduceLT, Nat.reduceBEq, reduceCtorEq, Int.reduceEq]
    refine AW.sseq ?_
    refine AW.rseq ?_
    try simp only [↓wk, ↓wl, nc, evV, wrapBits_eq, ↓reduceIte, Nat.reduceEqDiff, Nat.reduceAdd, Nat.reduceSub, Nat.reduceLeDiff, Nat.reduceLT, Nat.reduceBEq, reduceCtorEq, Int.reduceEq]
    refine AW.bend ?_
    refine AW.iter H ((Le.trans (Le.nilRow (i := 8) (e := 7) (by simp only [↓wk, ↓wl, nc, evV, wrapBits_eq, ↓reduceIte, Nat.reduceEqDiff, Nat.reduceAdd, Nat.reduceSub, Nat.reduceLeDiff, Nat.reduceLT, Nat.reduceBEq, reduceCtorEq, Int.reduceEq])) (Le.none [0, 1, 2] [2, 4, 8, 9] (by decide) (by simp only [f30_L1, List.length_set, Option.map_some, restrict_eq, renS_nil, renS_cons, renB_els, renB_cel, renB_dead, deep_eq, map_ren_enc, ren_agg', ren_tup', ren_fn', ren_int', ren_bool', ren_str', ren_sl', ren_pro', ren_nilp', ren_nilfn', ren_junk', ren_ptr', ren_row', ren_arow', ren_eptr', vm, List.idxOf?_cons, List.idxOf?_nil, beq_self_eq_true, Option.map_none, List.getD_cons_zero, List.getD_cons_succ, ↓wk, ↓wl, nc, evV, wrapBits_eq, ↓reduceIte, Nat.reduceEqDiff, Nat.reduceAdd, Nat.reduceSub, Nat.reduceLeDiff, Nat.reduceLT, Nat.reduceBEq, reduceCtorEq, Int.reduceEq])))) ?_ <;> clear H
    rintro ⟨i_1993, out_1994⟩ x_ st0_ H hst_
    simp only [f30_L1] at H hst_
    subst hst_
    refine AW.sseq ?_
    refine AW.rseq ?_
    try simp only [↓wk, ↓wl, nc, evV, wrapBits_eq, ↓reduceIte, Nat.reduceEqDiff, Nat.reduceAdd, Nat.reduceSub, Nat.reduceLeDiff, Nat.reduceLT, Nat.reduceBEq, reduceCtorEq, Int.reduceEq]
    refine AW.ifc H (by rfl) ?_ ?_ <;> clear H <;> intro H
    · refine AW.skip ?_
      refine seqQ.norm ?_
      refine AW.bseq ?_
      refine AW.rseq ?_
      try simp only [↓wk, ↓wl, nc, evV, wrapBits_eq, ↓reduceIte, Nat.reduceEqDiff, Nat.reduceAdd, Nat.reduceSub, Nat.reduceLeDiff, Nat.reduceLT, Nat.reduceBEq, reduceCtorEq, Int.reduceEq]
      refine AW.bend ?_
      refine AW.iter H ((Le.none [0, 1, 2] [2, 4, 8, 9, 10] (by decide) (by simp only [f30_L2, List.length_set, Option.map_some, restrict_eq, renS_nil, renS_cons, renB_els, renB_cel, renB_dead, deep_eq, map_ren_enc, ren_agg', ren_tup', ren_fn', ren_int', ren_bool', ren_str', ren_sl', ren_pro', ren_nilp', ren_nilfn', ren_junk', ren_ptr', ren_row', ren_arow', ren_eptr', vm, List.idxOf?_cons, List.idxOf?_nil, beq_self_eq_true, Option.map_none, List.getD_cons_zero, List.getD_cons_succ, ↓wk, ↓wl, nc, evV, wrapBits_eq, ↓reduceIte, Nat.reduceEqDiff, Nat.reduceAdd, Nat.reduceSub, Nat.reduceLeDiff, Nat.reduceLT, Nat.reduceBEq, reduceCtorEq, Int.reduceEq]))) ?_ <;> clear H
      rintro ⟨k_2018, out_2019⟩ x_ st0_ H hst_
      simp only [f30_L2] at H hst_
      subst hst_
      refine AW.sseq ?_
      refine AW.rseq ?_
      try simp only [↓wk, ↓wl, nc, evV, wrapBits_eq, ↓reduceIte, Nat.reduceEqDiff, Nat.reduceAdd, Nat.reduceSub, Nat.reduceLeDiff, Nat.reduceLT, Nat.reduceBEq, reduceCtorEq, Int.reduceEq]
      refine AW.ifc H (by rfl) ?_ ?_ <;> clear H <;> intro H
      · refine AW.skip ?_
        refine seqQ.norm ?_
        refine AW.bseq ?_
        refine AW.rseq ?_
        try simp only [↓wk, ↓wl, nc, evV, wrapBits_eq, ↓reduceIte, Nat.reduceEqDiff, Nat.reduceAdd, Nat.reduceSub, Nat.reduceLeDiff, Nat.reduceLT, Nat.reduceBEq, reduceCtorEq, Int.reduceEq]
        refine evTs_at (enc := eRef56Stream) H (by rfl) (by rfl) ?_ <;> clear H <;> intro x_2024 H
        try simp only [eRef56Stream, eL, ↓wk, ↓wl, nc, evV, wrapBits_eq, ↓reduceIte, Nat.reduceEqDiff, Nat.reduceAdd, Nat.reduceSub, Nat.reduceLeDiff, Nat.reduceLT, Nat.reduceBEq, reduceCtorEq, Int.reduceEq]
        refine AW.rseq ?_
        try simp only [↓wk, ↓wl, nc, evV, wrapBits_eq, ↓reduceIte, Nat.reduceEqDiff, Nat.reduceAdd, Nat.reduceSub, Nat.reduceLeDiff, Nat.reduceLT, Nat.reduceBEq, reduceCtorEq, Int.reduceEq]
        refine AW.rseq ?_
        try simp only [↓wk, ↓wl, nc, evV, wrapBits_eq, ↓reduceIte, Nat.reduceEqDiff, Nat.reduceAdd, Nat.reduceSub, Nat.reduceLeDiff, Nat.reduceLT, Nat.reduceBEq, reduceCtorEq, Int.reduceEq]
        refine evTs_pure hFn H (fun _ h => f52_ok h) (by rfl) (by rfl) (by rfl) (by rfl) (fun _ => rfl) ?_ <;> clear H <;> intro r_2025 H
        try simp only [eL, eRef56Packet, ↓wk, ↓wl, nc, evV, wrapBits_eq, ↓reduceIte, Nat.reduceEqDiff, Nat.reduceAdd, Nat.reduceSub, Nat.reduceLeDiff, Nat.reduceLT, Nat.reduceBEq, reduceCtorEq, Int.reduceEq]
        refine AW.rseq ?_
        try simp only [↓wk, ↓wl, nc, evV, wrapBits_eq, ↓reduceIte, Nat.reduceEqDiff, Nat.reduceAdd, Nat.reduceSub, Nat.reduceLeDiff, Nat.reduceLT, Nat.reduceBEq, reduceCtorEq, Int.reduceEq]
        refine AW.rend ?_
        try simp only [↓wk, ↓wl, nc, evV, wrapBits_eq, ↓reduceIte, Nat.reduceEqDiff, Nat.reduceAdd, Nat.reduceSub, Nat.reduceLeDiff, Nat.reduceLT, Nat.reduceBEq, reduceCtorEq, Int.reduceEq]
        refine evTs_app (enc := eRef56Packet) H (by rfl) (by first | rfl | simp only [List.length_set]) (by rfl) (by rfl) ?_ <;> clear H <;> intro out_2026 H
        try simp only [↓wk, ↓wl, nc, evV, wrapBits_eq, ↓reduceIte, Nat.reduceEqDiff, Nat.reduceAdd, Nat.reduceSub, Nat.reduceLeDiff, Nat.reduceLT, Nat.reduceBEq, reduceCtorEq, Int.reduceEq]
        refine blkQ.norm ?_
        refine AW.rend ?_
        try simp only [↓wk, ↓wl, nc, evV, wrapBits_eq, ↓reduceIte, Nat.reduceEqDiff, Nat.reduceAdd, Nat.reduceSub, Nat.reduceLeDiff, Nat.reduceLT, Nat.reduceBEq, reduceCtorEq, Int.reduceEq]
        exact loopQ.next H ((Le.none [0, 1, 5] [2, 4, 8, 9, 10] (by decide) (by simp only [f30_L2, List.length_set, Option.map_some, restrict_eq, renS_nil, renS_cons, renB_els, renB_cel, renB_dead, deep_eq, map_ren_enc, ren_agg', ren_tup', ren_fn', ren_int', ren_bool', ren_str', ren_sl', ren_pro', ren_nilp', ren_nilfn', ren_junk', ren_ptr', ren_row', ren_arow', ren_eptr', vm, List.idxOf?_cons, List.idxOf?_nil, beq_self_eq_true, Option.map_none, List.getD_cons_zero, List.getD_cons_succ, ↓wk, ↓wl, nc, evV, wrapBits_eq, ↓reduceIte, Nat.reduceEqDiff, Nat.reduceAdd, Nat.reduceSub, Nat.reduceLeDiff, Nat.reduceLT, Nat.reduceBEq, reduceCtorEq, Int.reduceEq])))
      · refine AW.exit ?_
        refine seqQ.exit ?_
        refine loopQ.exit H ?_ <;> clear H <;> intro H
        try dsimp only at H
        refine blk0.here ?_
        refine blkQ.norm ?_
        refine AW.rend ?_
        try simp only [↓wk, ↓wl, nc, evV, wrapBits_eq, ↓reduceIte, Nat.reduceEqDiff, Nat.reduceAdd, Nat.reduceSub, Nat.reduceLeDiff, Nat.reduceLT, Nat.reduceBEq, reduceCtorEq, Int.reduceEq]
        exact loopQ.next H ((Le.none [0, 1, 2] [2, 4, 8, 9] (by decide) (by simp only [f30_L1, List.length_set, Option.map_some, restrict_eq, renS_nil, renS_cons, renB_els, renB_cel, renB_dead, deep_eq, map_ren_enc, ren_agg', ren_tup', ren_fn', ren_int', ren_bool', ren_str', ren_sl', ren_pro', ren_nilp', ren_nilfn', ren_junk', ren_ptr', ren_row', ren_arow', ren_eptr', vm, List.idxOf?_cons, List.idxOf?_nil, beq_self_eq_true, Option.map_none, List.getD_cons_zero, List.getD_cons_succ, ↓wk, ↓wl, nc, evV, wrapBits_eq, ↓reduceIte, Nat.reduceEqDiff, Nat.reduceAdd, Nat.reduceSub, Nat.reduceLeDiff, Nat.reduceLT, Nat.reduceBEq, reduceCtorEq, Int.reduceEq])))
    · refine AW.exit ?_
      refine seqQ.exit ?_
      refine loopQ.exit H ?_ <;> clear H <;> intro H
      try dsimp only at H
      refine blk0.here ?_
      refine seqQ.norm ?_
      refine AW.rseq ?_
      try simp only [↓wk, ↓wl, nc, evV, wrapBits_eq, ↓reduceIte, Nat.reduceEqDiff, Nat.reduceAdd, Nat.reduceSub, Nat.reduceLeDiff, Nat.reduceLT, Nat.reduceBEq, reduceCtorEq, Int.reduceEq]
      refine AW.rseq ?_
      try simp only [↓wk, ↓wl, nc, evV, wrapBits_eq, ↓reduceIte, Nat.reduceEqDiff, Nat.reduceAdd, Nat.reduceSub, Nat.reduceLeDiff, Nat.reduceLT, Nat.reduceBEq, reduceCtorEq, Int.reduceEq]
      refine AW.ret ?_
      cases H
      exact hQ _ _ _ _ (.inr rfl) (by simp only [resVs, omap, resV, ↓wk, ↓wl, nc, evV, wrapBits_eq, ↓reduceIte, Nat.reduceEqDiff, Nat.reduceAdd, Nat.reduceSub, Nat.reduceLeDiff, Nat.reduceLT, Nat.reduceBEq, reduceCtorEq, Int.reduceEq]; rfl) (hand_k (by rfl) (by rfl) (by simp) (enc_all _) (by rfl)) (by rfl)
theorem f30_im {s_1870 : Ref56Sender} {t_1871 : Int} {r_ : Ref56Sender × (List Ref56Packet) × Int} (H : f30 s_1870 t_1871 = some r_) : Pure Try.prog 30 [.agg [.int .u64 s_1870.fSource, .int .i64 s_1870.fPriority, .int .i64 s_1870.fSync, .int .i64 s_1870.fPulse, .sl 5 false (s_1870.fStreams.map eRef56Stream)], .int .i64 t_1871] (· = .tup [.agg [.int .u64 r_.1.fSource, .int .i64 r_.1.fPriority, .int .i64 r_.1.fSync, .int .i64 r_.1.fPulse, .sl 5 false (r_.1.fStreams.map eRef56Stream)], .sl 7 false (r_.2.1.map eRef56Packet), .int .i64 r_.2.2]) := (f30_ok H).unfr (by first | exact enc_fits _ | simp only [frFits, List.all_cons, List.all_nil, enc_fits, Bool.and_self])
noncomputable def f19_L1 (a_2030 : Ref56Sender) (b_2031 : Ref56Sender) : Lp (Int) ((Unit) ⊕ (Unit)) where
  body := fun i_2037 => (if (decide (i_2037 < ((a_2030.fStreams.length : Nat) : Int))) = true then (at? a_2030.fStreams i_2037).bind fun x_2040 => (at? b_2031.fStreams i_2037).bind fun x_2041 => (if (!((x_2040.fUniverse == x_2041.fUniverse) && ((x_2040.fSeq == x_2041.fSeq) && ((x_2040.fLast == x_2041.fLast) && ((x_2040.fTimes == x_2041.fTimes) && ((x_2040.fSlots == x_2041.fSlots) && true)))))) = true then (some (.brk (Sum.inr ()))) else (some (.next (IntKind.i64.wrap (i_2037 + 1))))) else (some (.brk (Sum.inl ()))))
  cst := fun i_2037 => ⟨put (put (put (fun _ => .junk) 5 (.int .i64 i_2037)) 3 (.ptr 1 0)) 2 (.ptr 0 0), [.cel [.int .u64 a_2030.fSource, .int .i64 a_2030.fPriority, .int .i64 a_2030.fSync, .int .i64 a_2030.fPulse, .sl 5 false (a_2030.fStreams.map eRef56Stream)], .cel [.int .u64 b_2031.fSource, .int .i64 b_2031.fPriority, .int .i64 b_2031.fSync, .int .i64 b_2031.fPulse, .sl 5 false (b_2031.fStreams.map eRef56Stream)]]⟩
def c19_0 : C := .cond (.t 40) (.seq (.reg [iI 4 (.mv (.c (.bool false)))]) .ret) (.skip)
def c19_1 : C := .cond (.t 45) (.skip) (.exit 0)
def c19_2 : C := .cond (.t 58) (.seq (.reg [iI 4 (.mv (.c (.bool false)))]) .ret) (.skip)
def c19_3 : C := .reg [iI 46 (.mv (.t 5)), iI 47 (.bin .add (.t 46) (.c (.int .i64 1))), iI 5 (.mv (.t 47))]
def c19_4 : C := .seq (.block 1 (.seq (.reg [iI 48 (.faddr 4 (.t 2)), iI 49 (.load 0 (.t 48)), iI 50 (.mv (.t 5)), iI 51 (.iaddr 5 (.t 49) (.t 50)), iI 52 (.load 5 (.t 51)), iI 53 (.faddr 4 (.t 3)), iI 54 (.load 0 (.t 53)), iI 55 (.mv (.t 5)), iI 56 (.iaddr 5 (.t 54) (.t 55)), iI 57 (.load 5 (.t 56)), iI 58 (.eqs true [0, 0, 0, 0, 1] (.t 52) (.t 57))]) c19_2)) c19_3
def c19_5 : C := .block 0 (.loop (.seq (.seq (.reg [iI 41 (.mv (.t 5)), iI 42 (.faddr 4 (.t 2)), iI 43 (.load 0 (.t 42)), iI 44 (.len 0 (.t 43)), iI 45 (.bin .lss (.t 41) (.t 44))]) c19_1) c19_4))
def c19_6 : C := .seq (.reg [iI 4 (.mv (.c (.bool true)))]) .ret
def c19_7 : C := .seq (.seq (.reg [iI 5 (.mv (.c (.int .i64 0)))]) c19_5) c19_6
def c19_8 : C := .seq (.seq (.reg [iI 6 (.faddr 0 (.t 2)), iI 7 (.load 0 (.t 6)), iI 8 (.faddr 0 (.t 3)), iI 9 (.load 0 (.t 8)), iI 10 (.bin .neq (.t 7) (.t 9)), iI 11 (.mv (.t 10)), iG (some 12) 11 false (.faddr 1 (.t 2)), iG (some 13) 11 false (.load 0 (.t 12)), iG (some 14) 11 false (.faddr 1 (.t 3)), iG (some 15) 11 false (.load 0 (.t 14)), iG (some 16) 11 false (.bin .neq (.t 13) (.t 15)), iI 17 (.pick (.t 11) (.c (.bool true)) (.t 16)), iI 18 (.mv (.t 17)), iG (some 19) 18 false (.faddr 2 (.t 2)), iG (some 20) 18 false (.load 0 (.t 19)), iG (some 21) 18 false (.faddr 2 (.t 3)), iG (some 22) 18 false (.load 0 (.t 21)), iG (some 23) 18 false (.bin .neq (.t 20) (.t 22)), iI 24 (.pick (.t 18) (.c (.bool true)) (.t 23)), iI 25 (.mv (.t 24)), iG (some 26) 25 false (.faddr 3 (.t 2)), iG (some 27) 25 false (.load 0 (.t 26)), iG (some 28) 25 false (.faddr 3 (.t 3)), iG (some 29) 25 false (.load 0 (.t 28)), iG (some 30) 25 false (.bin .neq (.t 27) (.t 29)), iI 31 (.pick (.t 25) (.c (.bool true)) (.t 30)), iI 32 (.mv (.t 31)), iG (some 33) 32 false (.faddr 4 (.t 2)), iG (some 34) 32 false (.load 0 (.t 33)), iG (some 35) 32 false (.len 0 (.t 34)), iG (some 36) 32 false (.faddr 4 (.t 3)), iG (some 37) 32 false (.load 0 (.t 36)), iG (some 38) 32 false (.len 0 (.t 37)), iG (some 39) 32 false (.bin .neq (.t 35) (.t 38)), iI 40 (.pick (.t 32) (.c (.bool true)) (.t 39))]) c19_0) c19_7
def ir19 : C := .seq (.reg [iI 2 (.box (.t 0)), iI 3 (.box (.t 1)), iI 4 (.mv (.c (.bool false)))]) c19_8
theorem fd19 : fd? Try.prog 19 = some (59, [.slot 4], ir19) := by kernel_rfl
noncomputable def f19 (a_2030 : Ref56Sender) (b_2031 : Ref56Sender) : Option (Bool) :=
  (if (decide (a_2030.fSource ≠ b_2031.fSource)) = true then (some false) else (if (decide (a_2030.fPriority ≠ b_2031.fPriority)) = true then (some false) else (if (decide (a_2030.fSync ≠ b_2031.fSync)) = true then (some false) else (if (decide (a_2030.fPulse ≠ b_2031.fPulse)) = true then (some false) else (if (decide (((a_2030.fStreams.length : Nat) : Int) ≠ ((b_2031.fStreams.length : Nat) : Int))) = true then (some false) else ((Lp.run (f19_L1 a_2030 b_2031) 0).bind fun r_ => match r_ with | (Sum.inl _) => (some true) | (Sum.inr _) => (some false)))))))
theorem f19_ok {a_2030 : Ref56Sender} {b_2031 : Ref56Sender} {r_ : Bool} (H : f19 a_2030 b_2031 = some r_) : Pure Try.prog 19 [.agg [.int .u64 a_2030.fSource, .int .i64 a_2030.fPriority, .int .i64 a_2030.fSync, .int .i64 a_2030.fPulse, .sl 5 false (a_2030.fStreams.map eRef56Stream)], .agg [.int .u64 b_2031.fSource, .int .i64 b_2031.fPriority, .int .i64 b_2031.fSync, .int .i64 b_2031.fPulse, .sl 5 false (b_2031.fStreams.map eRef56Stream)]] (· = .bool r_) := by
  refine Pure.walk2 fd19 none (Nat.le_of_ble_eq_true rfl) (by rfl) fun Q hQ => ?_
  simp only [f19] at H
  refine AW.rseq ?_
  try simp only [↓wk, ↓wl, nc, evV, wrapBits_eq, ↓reduceIte, Nat.reduceEqDiff, Nat.reduceAdd, Nat.reduceSub, Nat.reduceLeDiff, Nat.reduceLT, Nat.reduceBEq, reduceCtorEq, Int.reduceEq]
  refine AW.sseq ?_
  refine AW.rseq ?_
  try simp only [↓wk, ↓wl, nc, evV, wrapBits_eq, ↓reduceIte, Nat.reduceEqDiff, Nat.reduceAdd, Nat.reduceSub, Nat.reduceLeDiff, Nat.reduceLT, Nat.reduceBEq, reduceCtorEq, Int.reduceEq]
  refine evTs_ifg H (by rfl) ?_ ?_ <;> clear H <;> intro H
  · try simp only [↓wk, ↓wl, nc, evV, wrapBits_eq, ↓reduceIte, Nat.reduceEqDiff, Nat.reduceAdd, Nat.reduceSub, Nat.reduceLeDiff, Nat.reduceLT, Nat.reduceBEq, reduceCtorEq, Int.reduceEq]
    refine AW.ift (by rfl) ?_
    refine AW.rseq ?_
    try simp only [↓wk, ↓wl, nc, evV, wrapBits_eq, ↓reduceIte, Nat.reduceEqDiff, Nat.reduceAdd, Nat.reduceSub, Nat.reduceLeDiff, Nat.reduceLT, Nat.reduceBEq, reduceCtorEq, Int.reduceEq]
    refine AW.ret ?_
    refine seqQ.ret ?_
    cases H
    exact hQ _ _ _ _ (.inr rfl) (by simp only [resVs, omap, resV, ↓wk, ↓wl, nc, evV, wrapBits_eq, ↓reduceIte, Nat.reduceEqDiff, Nat.reduceAdd, Nat.reduceSub, Nat.reduceLeDiff, Nat.reduceLT, Nat.reduceBEq, reduceCtorEq, Int.reduceEq]; rfl) (hand_plain (by rfl)) (by rfl)
  · try simp only [↓wk, ↓wl, nc, evV, wrapBits_eq, ↓reduceIte, Nat.reduceEqDiff, Nat.reduceAdd, Nat.reduceSub, Nat.reduceLeDiff, Nat.reduceLT, Nat.reduceBEq, reduceCtorEq, Int.reduceEq]
    refine evTs_ifg H (by rfl) ?_ ?_ <;> clear H <;> intro H
    · try simp only [↓wk, ↓wl, nc, evV, wrapBits_eq, ↓reduceIte, Nat.reduceEqDiff, Nat.reduceAdd, Nat.reduceSub, Nat.reduceLeDiff, Nat.reduceLT, Nat.reduceBEq, reduceCtorEq, Int.reduceEq]
      refine AW.ift (by rfl) ?_
      refine AW.rseq ?_
      try simp only [↓wk, ↓wl, nc, evV, wrapBits_eq, ↓reduceIte, Nat.reduceEqDiff, Nat.reduceAdd, Nat.reduceSub, Nat.reduceLeDiff, Nat.reduceLT, Nat.reduceBEq, reduceCtorEq, Int.reduceEq]
      refine AW.ret ?_
      refine seqQ.ret ?_
      cases H
      exact hQ _ _ _ _ (.inr rfl) (by simp only [resVs, omap, resV, ↓wk, ↓wl, nc, evV, wrapBits_eq, ↓reduceIte, Nat.reduceEqDiff, Nat.reduceAdd, Nat.reduceSub, Nat.reduceLeDiff, Nat.reduceLT, Nat.reduceBEq, reduceCtorEq, Int.reduceEq]; rfl) (hand_plain (by rfl)) (by rfl)
    · try simp only [↓wk, ↓wl, nc, evV, wrapBits_eq, ↓reduceIte, Nat.reduceEqDiff, Nat.reduceAdd, Nat.reduceSub, Nat.reduceLeDiff, Nat.reduceLT, Nat.reduceBEq, reduceCtorEq, Int.reduceEq]
      refine evTs_ifg H (by rfl) ?_ ?_ <;> clear H <;> intro H
      · try simp only [↓wk, ↓wl, nc, evV, wrapBits_eq, ↓reduceIte, Nat.reduceEqDiff, Nat.reduceAdd, Nat.reduceSub, Nat.reduceLeDiff, Nat.reduceLT, Nat.reduceBEq, reduceCtorEq, Int.reduceEq]
        refine AW.ift (by rfl) ?_
        refine AW.rseq ?_
        try simp only [↓wk, ↓wl, nc, evV, wrapBits_eq, ↓reduceIte, Nat.reduceEqDiff, Nat.reduceAdd, Nat.reduceSub, Nat.reduceLeDiff, Nat.reduceLT, Nat.reduceBEq, reduceCtorEq, Int.reduceEq]
        refine AW.ret ?_
        refine seqQ.ret ?_
        cases H
        exact hQ _ _ _ _ (.inr rfl) (by simp only [resVs, omap, resV, ↓wk, ↓wl, nc, evV, wrapBits_eq, ↓reduceIte, Nat.reduceEqDiff, Nat.reduceAdd, Nat.reduceSub, Nat.reduceLeDiff, Nat.reduceLT, Nat.reduceBEq, reduceCtorEq, Int.reduceEq]; rfl) (hand_plain (by rfl)) (by rfl)
      · try simp only [↓wk, ↓wl, nc, evV, wrapBits_eq, ↓reduceIte, Nat.reduceEqDiff, Nat.reduceAdd, Nat.reduceSub, Nat.reduceLeDiff, Nat.reduceLT, Nat.reduceBEq, reduceCtorEq, Int.reduceEq]
        refine evTs_ifg H (by rfl) ?_ ?_ <;> clear H <;> intro H
        · try simp only [↓wk, ↓wl, nc, evV, wrapBits_eq, ↓reduceIte, Nat.reduceEqDiff, Nat.reduceAdd, Nat.reduceSub, Nat.reduceLeDiff, Nat.reduceLT, Nat.reduceBEq, reduceCtorEq, Int.reduceEq]
          refine AW.ift (by rfl) ?_
          refine AW.rseq ?_
          try simp only [↓wk, ↓wl, nc, evV, wrapBits_eq, ↓reduceIte, Nat.reduceEqDiff, Nat.reduceAdd, Nat.reduceSub, Nat.reduceLeDiff, Nat.reduceLT, Nat.reduceBEq, reduceCtorEq, Int.reduceEq]
          refine AW.ret ?_
          refine seqQ.ret ?_
          cases H
          exact hQ _ _ _ _ (.inr rfl) (by simp only [resVs, omap, resV, ↓wk, ↓wl, nc, evV, wrapBits_eq, ↓reduceIte, Nat.reduceEqDiff, Nat.reduceAdd, Nat.reduceSub, Nat.reduceLeDiff, Nat.reduceLT, Nat.reduceBEq, reduceCtorEq, Int.reduceEq]; rfl) (hand_plain (by rfl)) (by rfl)
        · try simp only [↓wk, ↓wl, nc, evV, wrapBits_eq, ↓reduceIte, Nat.reduceEqDiff, Nat.reduceAdd, Nat.reduceSub, Nat.reduceLeDiff, Nat.reduceLT, Nat.reduceBEq, reduceCtorEq, Int.reduceEq]
          refine AW.ifc H (by rfl) ?_ ?_ <;> clear H <;> intro H
          · refine AW.rseq ?_
            try simp only [↓wk, ↓wl, nc, evV, wrapBits_eq, ↓reduceIte, Nat.reduceEqDiff, Nat.reduceAdd, Nat.reduceSub, Nat.reduceLeDiff, Nat.reduceLT, Nat.reduceBEq, reduceCtorEq, Int.reduceEq]
            refine AW.ret ?_
            refine seqQ.ret ?_
            cases H
            exact hQ _ _ _ _ (.inr rfl) (by simp only [resVs, omap, resV, ↓wk, ↓wl, nc, evV, wrapBits_eq, ↓reduceIte, Nat.reduceEqDiff, Nat.reduceAdd, Nat.reduceSub, Nat.reduceLeDiff, Nat.reduceLT, Nat.reduceBEq, reduceCtorEq, Int.reduceEq]; rfl) (hand_plain (by rfl)) (by rfl)
          · refine AW.skip ?_
            refine seqQ.norm ?_
            refine AW.sseq ?_
            refine AW.rseq ?_
            try simp only [↓wk, ↓wl, nc, evV, wrapBits_eq, ↓reduceIte, Nat.reduceEqDiff, Nat.reduceAdd, Nat.reduceSub, Nat.reduceLeDiff, Nat.reduceLT, Nat.reduceBEq, reduceCtorEq, Int.reduceEq]
            refine AW.bend ?_
            refine AW.iter H ((Le.none [0, 1] [2, 3, 5] (by decide) (by simp only [f19_L1, List.length_set, Option.map_some, restrict_eq, renS_nil, renS_cons, renB_els, renB_cel, renB_dead, deep_eq, map_ren_enc, ren_agg', ren_tup', ren_fn', ren_int', ren_bool', ren_str', ren_sl', ren_pro', ren_nilp', ren_nilfn', ren_junk', ren_ptr', ren_row', ren_arow', ren_eptr', vm, List.idxOf?_cons, List.idxOf?_nil, beq_self_eq_true, Option.map_none, List.getD_cons_zero, List.getD_cons_succ, ↓wk, ↓wl, nc, evV, wrapBits_eq, ↓reduceIte, Nat.reduceEqDiff, Nat.reduceAdd, Nat.reduceSub, Nat.reduceLeDiff, Nat.reduceLT, Nat.reduceBEq, reduceCtorEq, Int.reduceEq]))) ?_ <;> clear H
            rintro i_2037 x_ st0_ H hst_
            simp only [f19_L1] at H hst_
            subst hst_
            refine AW.sseq ?_
            refine AW.rseq ?_
            try simp only [↓wk, ↓wl, nc, evV, wrapBits_eq, ↓reduceIte, Nat.reduceEqDiff, Nat.reduceAdd, Nat.reduceSub, Nat.reduceLeDiff, Nat.reduceLT, Nat.reduceBEq, reduceCtorEq, Int.reduceEq]
            refine AW.ifc H (by rfl) ?_ ?_ <;> clear H <;> intro H
            · refine AW.skip ?_
              refine seqQ.norm ?_
              refine AW.bseq ?_
              refine AW.rseq ?_
              try simp only [↓wk, ↓wl, nc, evV, wrapBits_eq, ↓reduceIte, Nat.reduceEqDiff, Nat.reduceAdd, Nat.reduceSub, Nat.reduceLeDiff, Nat.reduceLT, Nat.reduceBEq, reduceCtorEq, Int.reduceEq]
              refine evTs_at (enc := eRef56Stream) H (by rfl) (by rfl) ?_ <;> clear H <;> intro x_2040 H
              try simp only [eRef56Stream, eL, ↓wk, ↓wl, nc, evV, wrapBits_eq, ↓reduceIte, Nat.reduceEqDiff, Nat.reduceAdd, Nat.reduceSub, Nat.reduceLeDiff, Nat.reduceLT, Nat.reduceBEq, reduceCtorEq, Int.reduceEq]
              refine evTs_at (enc := eRef56Stream) H (by rfl) (by rfl) ?_ <;> clear H <;> intro x_2041 H
              try simp only [eRef56Stream, eL, ↓wk, ↓wl, nc, evV, wrapBits_eq, ↓reduceIte, Nat.reduceEqDiff, Nat.reduceAdd, Nat.reduceSub, Nat.reduceLeDiff, Nat.reduceLT, Nat.reduceBEq, reduceCtorEq, Int.reduceEq]
              refine rest_neqs (by rfl) ?_
              try simp only [↓wk, ↓wl, nc, evV, wrapBits_eq, ↓reduceIte, Nat.reduceEqDiff, Nat.reduceAdd, Nat.reduceSub, Nat.reduceLeDiff, Nat.reduceLT, Nat.reduceBEq, reduceCtorEq, Int.reduceEq]
              refine AW.ifc H (by rfl) ?_ ?_ <;> clear H <;> intro H
              · refine AW.rseq ?_
                try simp only [↓wk, ↓wl, nc, evV, wrapBits_eq, ↓reduceIte, Nat.reduceEqDiff, Nat.reduceAdd, Nat.reduceSub, Nat.reduceLeDiff, Nat.reduceLT, Nat.reduceBEq, reduceCtorEq, Int.reduceEq]
                refine AW.ret ?_
                refine blkQ.ret ?_
                refine loopQ.ret H ?_ <;> clear H <;> intro H
                try dsimp only at H
                refine blk0.ret ?_
                refine seqQ.ret ?_
                cases H
                exact hQ _ _ _ _ (.inr rfl) (by simp only [resVs, omap, resV, ↓wk, ↓wl, nc, evV, wrapBits_eq, ↓reduceIte, Nat.reduceEqDiff, Nat.reduceAdd, Nat.reduceSub, Nat.reduceLeDiff, Nat.reduceLT, Nat.reduceBEq, reduceCtorEq, Int.reduceEq]; rfl) (hand_plain (by rfl)) (by rfl)
              · refine AW.skip ?_
                refine blkQ.norm ?_
                refine AW.rend ?_
                try simp only [↓wk, ↓wl, nc, evV, wrapBits_eq, ↓reduceIte, Nat.reduceEqDiff, Nat.reduceAdd, Nat.reduceSub, Nat.reduceLeDiff, Nat.reduceLT, Nat.reduceBEq, reduceCtorEq, Int.reduceEq]
                exact loopQ.next H ((Le.none [0, 1] [2, 3, 5] (by decide) (by simp only [f19_L1, List.length_set, Option.map_some, restrict_eq, renS_nil, renS_cons, renB_els, renB_cel, renB_dead, deep_eq, map_ren_enc, ren_agg', ren_tup', ren_fn', ren_int', ren_bool', ren_str', ren_sl', ren_pro', ren_nilp', ren_nilfn', ren_junk', ren_ptr', ren_row', ren_arow', ren_eptr', vm, List.idxOf?_cons, List.idxOf?_nil, beq_self_eq_true, Option.map_none, List.getD_cons_zero, List.getD_cons_succ, ↓wk, ↓wl, nc, evV, wrapBits_eq, ↓reduceIte, Nat.reduceEqDiff, Nat.reduceAdd, Nat.reduceSub, Nat.reduceLeDiff, Nat.reduceLT, Nat.reduceBEq, reduceCtorEq, Int.reduceEq])))
            · refine AW.exit ?_
              refine seqQ.exit ?_
              refine loopQ.exit H ?_ <;> clear H <;> intro H
              try dsimp only at H
              refine blk0.here ?_
              refine seqQ.norm ?_
              refine AW.rseq ?_
              try simp only [↓wk, ↓wl, nc, evV, wrapBits_eq, ↓reduceIte, Nat.reduceEqDiff, Nat.reduceAdd, Nat.reduceSub, Nat.reduceLeDiff, Nat.reduceLT, Nat.reduceBEq, reduceCtorEq, Int.reduceEq]
              refine AW.ret ?_
              cases H
              exact hQ _ _ _ _ (.inr rfl) (by simp only [resVs, omap, resV, ↓wk, ↓wl, nc, evV, wrapBits_eq, ↓reduceIte, Nat.reduceEqDiff, Nat.reduceAdd, Nat.reduceSub, Nat.reduceLeDiff, Nat.reduceLT, Nat.reduceBEq, reduceCtorEq, Int.reduceEq]; rfl) (hand_plain (by rfl)) (by rfl)
noncomputable def f26_L1 (l_2043 : (List NetworkPacket)) : Lp (Int × (List Ref56Packet)) ((List Ref56Packet)) where
  body := fun (v_2052, out_2053) => (if (decide (v_2052 < ((l_2043.length : Nat) : Int))) = true then (at? l_2043 v_2052).bind fun x_2057 => (app? 64 out_2053 ([(Ref56Packet.mk x_2057.fSource x_2057.fUniverse x_2057.fPriority x_2057.fSeq x_2057.fSync x_2057.fEnd x_2057.fSlots)])).bind fun out_2058 => (some (.next ((IntKind.i64.wrap (v_2052 + 1)), out_2058))) else (some (.brk out_2053)))
  cst := fun (v_2052, out_2053) => ⟨put (put (put (put (fun _ => .junk) 8 (.int .i64 v_2052)) 7 (.int .i64 ((l_2043.length : Nat) : Int))) 6 (.sl 7 false (l_2043.map eNetworkPacket))) 3 (.row 7 0 0 out_2053.length), [.els 7 (out_2053.map eRef56Packet)]⟩
def c26_0 : C := .reg [iI 12 (.mv (.t 3)), iI 13 (.load 7 (.t 5)), iI 14 (.mkslp 7 1 (.agg [(.int .u64 0), (.int .i64 0), (.int .i64 0), (.int .i64 0), (.int .i64 0), (.bool false), (.str [])]) [(0, (.t 13))]), iI 15 (.append 7 64 (.t 12) (.t 14)), iI 3 (.mv (.t 15))]
def c26_1 : C := .reg [iI 16 (.bin .add (.t 8) (.c (.int .i64 1))), iI 8 (.mv (.t 16))]
def c26_2 : C := .seq (.block 1 (.seq (.reg [iI 10 (.iaddr 7 (.t 6) (.t 8)), iI 11 (.load 7 (.t 10)), iI 5 (.alloc [(1, (.int .u64 0)), (1, (.int .i64 0)), (1, (.int .i64 0)), (1, (.int .i64 0)), (1, (.int .i64 0)), (1, (.bool false)), (1, (.str []))]), iN (.store 7 (.t 5) (.t 11))]) c26_0)) c26_1
def c26_3 : C := .seq (.cond (.t 9) (.skip) (.exit 0)) c26_2
def c26_4 : C := .block 0 (.loop (.seq (.reg [iI 9 (.bin .lss (.t 8) (.t 7))]) c26_3))
def c26_5 : C := .seq (.reg [iI 17 (.mv (.t 3)), iI 2 (.mv (.t 17))]) .ret
def c26_6 : C := .seq (.seq (.reg [iI 6 (.mv (.t 0)), iI 7 (.len 0 (.t 6)), iI 8 (.mv (.c (.int .i64 0)))]) c26_4) c26_5
def c26_7 : C := .seq (.reg [iI 3 (.mv (.c (.sl 7 true [])))]) c26_6
def ir26 : C := .seq (.reg [iI 2 (.mv (.c (.sl 7 true [])))]) c26_7
theorem fd26 : fd? Try.prog 26 = some (18, [.slot 2], ir26) := by kernel_rfl
noncomputable def f26 (l_2043 : (List NetworkPacket)) : Option ((List Ref56Packet)) :=
  (Lp.run (f26_L1 l_2043) (0, [])).bind fun out_2056 => (some out_2056)
theorem f26_ok {l_2043 : (List NetworkPacket)} {r_ : (List Ref56Packet)} (H : f26 l_2043 = some r_) : Pure Try.prog 26 [.sl 7 false (l_2043.map eNetworkPacket)] (· = .fr 7 (r_.map eRef56Packet)) := by
  refine Pure.walk2 fd26 (some 0) (Nat.le_of_ble_eq_true rfl) (by rfl) fun Q hQ => ?_
  simp only [f26] at H
  refine AW.rseq ?_
  try simp only [↓wk, ↓wl, nc, evV, wrapBits_eq, ↓reduceIte, Nat.reduceEqDiff, Nat.reduceAdd, Nat.reduceSub, Nat.reduceLeDiff, Nat.reduceLT, Nat.reduceBEq, reduceCtorEq, Int.reduceEq]
  refine AW.rseq ?_
  try simp only [↓wk, ↓wl, nc, evV, wrapBits_eq, ↓reduceIte, Nat.reduceEqDiff, Nat.reduceAdd, Nat.reduceSub, Nat.reduceLeDiff, Nat.reduceLT, Nat.reduceBEq, reduceCtorEq, Int.reduceEq]
  refine AW.sseq ?_
  refine AW.rseq ?_
  try simp only [↓wk, ↓wl, nc, evV, wrapBits_eq, ↓reduceIte, Nat.reduceEqDiff, Nat.reduceAdd, Nat.reduceSub, Nat.reduceLeDiff, Nat.reduceLT, Nat.reduceBEq, reduceCtorEq, Int.reduceEq]
  refine AW.bend ?_
  refine AW.iter H ((Le.trans (Le.nilRow (i := 3) (e := 7) (by simp only [↓wk, ↓wl, nc, evV, wrapBits_eq, ↓reduceIte, Nat.reduceEqDiff, Nat.reduceAdd, Nat.reduceSub, Nat.reduceLeDiff, Nat.reduceLT, Nat.reduceBEq, reduceCtorEq, Int.reduceEq])) (Le.none [0] [3, 6, 7, 8] (by decide) (by simp only [f26_L1, List.length_set, Option.map_some, restrict_eq, renS_nil, renS_cons, renB_els, renB_cel, renB_dead, deep_eq, map_ren_enc, ren_agg', ren_tup', ren_fn', ren_int', ren_bool', ren_str', ren_sl', ren_pro', ren_nilp', ren_nilfn', ren_junk', ren_ptr', ren_row', ren_arow', ren_eptr', vm, List.idxOf?_cons, List.idxOf?_nil, beq_self_eq_true, Option.map_none, List.getD_cons_zero, List.getD_cons_succ, ↓wk, ↓wl, nc, evV, wrapBits_eq, ↓reduceIte, Nat.reduceEqDiff, Nat.reduceAdd, Nat.reduceSub, Nat.reduceLeDiff, Nat.reduceLT, Nat.reduceBEq, reduceCtorEq, Int.reduceEq])))) ?_ <;> clear H
  rintro ⟨v_2052, out_2053⟩ x_ st0_ H hst_
  simp only [f26_L1] at H hst_
  subst hst_
  refine AW.rseq ?_
  try simp only [↓wk, ↓wl, nc, evV, wrapBits_eq, ↓reduceIte, Nat.reduceEqDiff, Nat.reduceAdd, Nat.reduceSub, Nat.reduceLeDiff, Nat.reduceLT, Nat.reduceBEq, reduceCtorEq, Int.reduceEq]
  refine AW.sseq ?_
  refine AW.ifc H (by rfl) ?_ ?_ <;> clear H <;> intro H
  · refine AW.skip ?_
    refine seqQ.norm ?_
    refine AW.bseq ?_
    refine AW.rseq ?_
    try simp only [↓wk, ↓wl, nc, evV, wrapBits_eq, ↓reduceIte, Nat.reduceEqDiff, Nat.reduceAdd, Nat.reduceSub, Nat.reduceLeDiff, Nat.reduceLT, Nat.reduceBEq, reduceCtorEq, Int.reduceEq]
    refine evTs_at (enc := eNetworkPacket) H (by rfl) (by rfl) ?_ <;> clear H <;> intro x_2057 H
    try simp only [eNetworkPacket, eL, ↓wk, ↓wl, nc, evV, wrapBits_eq, ↓reduceIte, Nat.reduceEqDiff, Nat.reduceAdd, Nat.reduceSub, Nat.reduceLeDiff, Nat.reduceLT, Nat.reduceBEq, reduceCtorEq, Int.reduceEq]
    refine AW.rend ?_
    try simp only [↓wk, ↓wl, nc, evV, wrapBits_eq, ↓reduceIte, Nat.reduceEqDiff, Nat.reduceAdd, Nat.reduceSub, Nat.reduceLeDiff, Nat.reduceLT, Nat.reduceBEq, reduceCtorEq, Int.reduceEq]
    refine evTs_app (enc := eRef56Packet) H (by rfl) (by first | rfl | simp only [List.length_set]) (by rfl) (by rfl) ?_ <;> clear H <;> intro out_2058 H
    try simp only [↓wk, ↓wl, nc, evV, wrapBits_eq, ↓reduceIte, Nat.reduceEqDiff, Nat.reduceAdd, Nat.reduceSub, Nat.reduceLeDiff, Nat.reduceLT, Nat.reduceBEq, reduceCtorEq, Int.reduceEq]
    refine blkQ.norm ?_
    refine AW.rend ?_
    try simp only [↓wk, ↓wl, nc, evV, wrapBits_eq, ↓reduceIte, Nat.reduceEqDiff, Nat.reduceAdd, Nat.reduceSub, Nat.reduceLeDiff, Nat.reduceLT, Nat.reduceBEq, reduceCtorEq, Int.reduceEq]
    exact loopQ.next H ((Le.none [2] [3, 6, 7, 8] (by decide) (by simp only [f26_L1, List.length_set, Option.map_some, restrict_eq, renS_nil, renS_cons, renB_els, renB_cel, renB_dead, deep_eq, map_ren_enc, ren_agg', ren_tup', ren_fn', ren_int', ren_bool', ren_str', ren_sl', ren_pro', ren_nilp', ren_nilfn', ren_junk', ren_ptr', ren_row', ren_arow', ren_eptr', vm, List.idxOf?_cons, List.idxOf?_nil, beq_self_eq_true, Option.map_none, List.getD_cons_zero, List.getD_cons_succ, ↓wk, ↓wl, nc, evV, wrapBits_eq, ↓reduceIte, Nat.reduceEqDiff, Nat.reduceAdd, Nat.reduceSub, Nat.reduceLeDiff, Nat.reduceLT, Nat.reduceBEq, reduceCtorEq, Int.reduceEq])))
  · refine AW.exit ?_
    refine seqQ.exit ?_
    refine loopQ.exit H ?_ <;> clear H <;> intro H
    try dsimp only at H
    refine blk0.here ?_
    refine seqQ.norm ?_
    refine AW.rseq ?_
    try simp only [↓wk, ↓wl, nc, evV, wrapBits_eq, ↓reduceIte, Nat.reduceEqDiff, Nat.reduceAdd, Nat.reduceSub, Nat.reduceLeDiff, Nat.reduceLT, Nat.reduceBEq, reduceCtorEq, Int.reduceEq]
    refine AW.ret ?_
    cases H
    exact hQ _ _ _ _ (.inr rfl) (by simp only [resVs, omap, resV, ↓wk, ↓wl, nc, evV, wrapBits_eq, ↓reduceIte, Nat.reduceEqDiff, Nat.reduceAdd, Nat.reduceSub, Nat.reduceLeDiff, Nat.reduceLT, Nat.reduceBEq, reduceCtorEq, Int.reduceEq]; rfl) (hand_1 (by rfl) (by simp) (enc_all _)) (by rfl)
theorem f26_im {l_2043 : (List NetworkPacket)} {r_ : (List Ref56Packet)} (H : f26 l_2043 = some r_) : Pure Try.prog 26 [.sl 7 false (l_2043.map eNetworkPacket)] (· = .sl 7 false (r_.map eRef56Packet)) := (f26_ok H).unfr (by first | exact enc_fits _ | simp only [frFits, List.all_cons, List.all_nil, enc_fits, Bool.and_self])
noncomputable def f25_L1 (a_2060 : (List Ref56Packet)) (b_2061 : (List Ref56Packet)) : Lp (Int) ((Unit) ⊕ (Unit)) where
  body := fun i_2067 => (if (decide (i_2067 < ((a_2060.length : Nat) : Int))) = true then (at? a_2060 i_2067).bind fun x_2070 => (at? b_2061 i_2067).bind fun x_2071 => (if (!((x_2070.fSource == x_2071.fSource) && ((x_2070.fUniverse == x_2071.fUniverse) && ((x_2070.fPriority == x_2071.fPriority) && ((x_2070.fSeq == x_2071.fSeq) && ((x_2070.fSync == x_2071.fSync) && ((x_2070.fEnd == x_2071.fEnd) && ((x_2070.fSlots == x_2071.fSlots) && true)))))))) = true then (some (.brk (Sum.inr ()))) else (some (.next (IntKind.i64.wrap (i_2067 + 1))))) else (some (.brk (Sum.inl ()))))
  cst := fun i_2067 => ⟨put (put (put (fun _ => .junk) 5 (.int .i64 i_2067)) 1 (.sl 7 false (b_2061.map eRef56Packet))) 0 (.sl 7 false (a_2060.map eRef56Packet)), []⟩
def c25_0 : C := .cond (.t 10) (.seq (.reg [iI 4 (.mv (.c (.bool false)))]) .ret) (.skip)
def c25_1 : C := .cond (.t 14) (.skip) (.exit 0)
def c25_2 : C := .cond (.t 25) (.seq (.reg [iI 4 (.mv (.c (.bool false)))]) .ret) (.skip)
def c25_3 : C := .reg [iI 15 (.mv (.t 5)), iI 16 (.bin .add (.t 15) (.c (.int .i64 1))), iI 5 (.mv (.t 16))]
def c25_4 : C := .seq (.block 1 (.seq (.reg [iI 17 (.mv (.t 0)), iI 18 (.mv (.t 5)), iI 19 (.iaddr 7 (.t 17) (.t 18)), iI 20 (.load 7 (.t 19)), iI 21 (.mv (.t 1)), iI 22 (.mv (.t 5)), iI 23 (.iaddr 7 (.t 21) (.t 22)), iI 24 (.load 7 (.t 23)), iI 25 (.eqs true [0, 0, 0, 0, 0, 2, 1] (.t 20) (.t 24))]) c25_2)) c25_3
def c25_5 : C := .block 0 (.loop (.seq (.seq (.reg [iI 11 (.mv (.t 5)), iI 12 (.mv (.t 0)), iI 13 (.len 0 (.t 12)), iI 14 (.bin .lss (.t 11) (.t 13))]) c25_1) c25_4))
def c25_6 : C := .seq (.reg [iI 4 (.mv (.c (.bool true)))]) .ret
def c25_7 : C := .seq (.seq (.reg [iI 5 (.mv (.c (.int .i64 0)))]) c25_5) c25_6
def c25_8 : C := .seq (.seq (.reg [iI 6 (.mv (.t 0)), iI 7 (.len 0 (.t 6)), iI 8 (.mv (.t 1)), iI 9 (.len 0 (.t 8)), iI 10 (.bin .neq (.t 7) (.t 9))]) c25_0) c25_7
def ir25 : C := .seq (.reg [iI 4 (.mv (.c (.bool false)))]) c25_8
theorem fd25 : fd? Try.prog 25 = some (26, [.slot 4], ir25) := by kernel_rfl
noncomputable def f25 (a_2060 : (List Ref56Packet)) (b_2061 : (List Ref56Packet)) : Option (Bool) :=
  (if (decide (((a_2060.length : Nat) : Int) ≠ ((b_2061.length : Nat) : Int))) = true then (some false) else ((Lp.run (f25_L1 a_2060 b_2061) 0).bind fun r_ => match r_ with | (Sum.inl _) => (some true) | (Sum.inr _) => (some false)))
theorem f25_ok {a_2060 : (List Ref56Packet)} {b_2061 : (List Ref56Packet)} {r_ : Bool} (H : f25 a_2060 b_2061 = some r_) : Pure Try.prog 25 [.sl 7 false (a_2060.map eRef56Packet), .sl 7 false (b_2061.map eRef56Packet)] (· = .bool r_) := by
  refine Pure.walk2 fd25 none (Nat.le_of_ble_eq_true rfl) (by rfl) fun Q hQ => ?_
  simp only [f25] at H
  refine AW.rseq ?_
  try simp only [↓wk, ↓wl, nc, evV, wrapBits_eq, ↓reduceIte, Nat.reduceEqDiff, Nat.reduceAdd, Nat.reduceSub, Nat.reduceLeDiff, Nat.reduceLT, Nat.reduceBEq, reduceCtorEq, Int.reduceEq]
  refine AW.sseq ?_
  refine AW.rseq ?_
  try simp only [↓wk, ↓wl, nc, evV, wrapBits_eq, ↓reduceIte, Nat.reduceEqDiff, Nat.reduceAdd, Nat.reduceSub, Nat.reduceLeDiff, Nat.reduceLT, Nat.reduceBEq, reduceCtorEq, Int.reduceEq]
  refine AW.ifc H (by rfl) ?_ ?_ <;> clear H <;> intro H
  · refine AW.rseq ?_
    try simp only [↓wk, ↓wl, nc, evV, wrapBits_eq, ↓reduceIte, Nat.reduceEqDiff, Nat.reduceAdd, Nat.reduceSub, Nat.reduceLeDiff, Nat.reduceLT, Nat.reduceBEq, reduceCtorEq, Int.reduceEq]
    refine AW.ret ?_
    refine seqQ.ret ?_
    cases H
    exact hQ _ _ _ _ (.inr rfl) (by simp only [resVs, omap, resV, ↓wk, ↓wl, nc, evV, wrapBits_eq, ↓reduceIte, Nat.reduceEqDiff, Nat.reduceAdd, Nat.reduceSub, Nat.reduceLeDiff, Nat.reduceLT, Nat.reduceBEq, reduceCtorEq, Int.reduceEq]; rfl) (hand_plain (by rfl)) (by rfl)
  · refine AW.skip ?_
    refine seqQ.norm ?_
    refine AW.sseq ?_
    refine AW.rseq ?_
    try simp only [↓wk, ↓wl, nc, evV, wrapBits_eq, ↓reduceIte, Nat.reduceEqDiff, Nat.reduceAdd, Nat.reduceSub, Nat.reduceLeDiff, Nat.reduceLT, Nat.reduceBEq, reduceCtorEq, Int.reduceEq]
    refine AW.bend ?_
    refine AW.iter H ((Le.none [] [0, 1, 5] (by decide) (by simp only [f25_L1, List.length_set, Option.map_some, restrict_eq, renS_nil, renS_cons, renB_els, renB_cel, renB_dead, deep_eq, map_ren_enc, ren_agg', ren_tup', ren_fn', ren_int', ren_bool', ren_str', ren_sl', ren_pro', ren_nilp', ren_nilfn', ren_junk', ren_ptr', ren_row', ren_arow', ren_eptr', vm, List.idxOf?_cons, List.idxOf?_nil, beq_self_eq_true, Option.map_none, List.getD_cons_zero, List.getD_cons_succ, ↓wk, ↓wl, nc, evV, wrapBits_eq, ↓reduceIte, Nat.reduceEqDiff, Nat.reduceAdd, Nat.reduceSub, Nat.reduceLeDiff, Nat.reduceLT, Nat.reduceBEq, reduceCtorEq, Int.reduceEq]))) ?_ <;> clear H
    rintro i_2067 x_ st0_ H hst_
    simp only [f25_L1] at H hst_
    subst hst_
    refine AW.sseq ?_
    refine AW.rseq ?_
    try simp only [↓wk, ↓wl, nc, evV, wrapBits_eq, ↓reduceIte, Nat.reduceEqDiff, Nat.reduceAdd, Nat.reduceSub, Nat.reduceLeDiff, Nat.reduceLT, Nat.reduceBEq, reduceCtorEq, Int.reduceEq]
    refine AW.ifc H (by rfl) ?_ ?_ <;> clear H <;> intro H
    · refine AW.skip ?_
      refine seqQ.norm ?_
      refine AW.bseq ?_
      refine AW.rseq ?_
      try simp only [↓wk, ↓wl, nc, evV, wrapBits_eq, ↓reduceIte, Nat.reduceEqDiff, Nat.reduceAdd, Nat.reduceSub, Nat.reduceLeDiff, Nat.reduceLT, Nat.reduceBEq, reduceCtorEq, Int.reduceEq]
      refine evTs_at (enc := eRef56Packet) H (by rfl) (by rfl) ?_ <;> clear H <;> intro x_2070 H
      try simp only [eRef56Packet, eL, ↓wk, ↓wl, nc, evV, wrapBits_eq, ↓reduceIte, Nat.reduceEqDiff, Nat.reduceAdd, Nat.reduceSub, Nat.reduceLeDiff, Nat.reduceLT, Nat.reduceBEq, reduceCtorEq, Int.reduceEq]
      refine evTs_at (enc := eRef56Packet) H (by rfl) (by rfl) ?_ <;> clear H <;> intro x_2071 H
      try simp only [eRef56Packet, eL, ↓wk, ↓wl, nc, evV, wrapBits_eq, ↓reduceIte, Nat.reduceEqDiff, Nat.reduceAdd, Nat.reduceSub, Nat.reduceLeDiff, Nat.reduceLT, Nat.reduceBEq, reduceCtorEq, Int.reduceEq]
      refine rest_neqs (by rfl) ?_
      try simp only [↓wk, ↓wl, nc, evV, wrapBits_eq, ↓reduceIte, Nat.reduceEqDiff, Nat.reduceAdd, Nat.reduceSub, Nat.reduceLeDiff, Nat.reduceLT, Nat.reduceBEq, reduceCtorEq, Int.reduceEq]
      refine AW.ifc H (by rfl) ?_ ?_ <;> clear H <;> intro H
      · refine AW.rseq ?_
        try simp only [↓wk, ↓wl, nc, evV, wrapBits_eq, ↓reduceIte, Nat.reduceEqDiff, Nat.reduceAdd, Nat.reduceSub, Nat.reduceLeDiff, Nat.reduceLT, Nat.reduceBEq, reduceCtorEq, Int.reduceEq]
        refine AW.ret ?_
        refine blkQ.ret ?_
        refine loopQ.ret H ?_ <;> clear H <;> intro H
        try dsimp only at H
        refine blk0.ret ?_
        refine seqQ.ret ?_
        cases H
        exact hQ _ _ _ _ (.inr rfl) (by simp only [resVs, omap, resV, ↓wk, ↓wl, nc, evV, wrapBits_eq, ↓reduceIte, Nat.reduceEqDiff, Nat.reduceAdd, Nat.reduceSub, Nat.reduceLeDiff, Nat.reduceLT, Nat.reduceBEq, reduceCtorEq, Int.reduceEq]; rfl) (hand_plain (by rfl)) (by rfl)
      · refine AW.skip ?_
        refine blkQ.norm ?_
        refine AW.rend ?_
        try simp only [↓wk, ↓wl, nc, evV, wrapBits_eq, ↓reduceIte, Nat.reduceEqDiff, Nat.reduceAdd, Nat.reduceSub, Nat.reduceLeDiff, Nat.reduceLT, Nat.reduceBEq, reduceCtorEq, Int.reduceEq]
        exact loopQ.next H ((Le.none [] [0, 1, 5] (by decide) (by simp only [f25_L1, List.length_set, Option.map_some, restrict_eq, renS_nil, renS_cons, renB_els, renB_cel, renB_dead, deep_eq, map_ren_enc, ren_agg', ren_tup', ren_fn', ren_int', ren_bool', ren_str', ren_sl', ren_pro', ren_nilp', ren_nilfn', ren_junk', ren_ptr', ren_row', ren_arow', ren_eptr', vm, List.idxOf?_cons, List.idxOf?_nil, beq_self_eq_true, Option.map_none, List.getD_cons_zero, List.getD_cons_succ, ↓wk, ↓wl, nc, evV, wrapBits_eq, ↓reduceIte, Nat.reduceEqDiff, Nat.reduceAdd, Nat.reduceSub, Nat.reduceLeDiff, Nat.reduceLT, Nat.reduceBEq, reduceCtorEq, Int.reduceEq])))
    · refine AW.exit ?_
      refine seqQ.exit ?_
      refine loopQ.exit H ?_ <;> clear H <;> intro H
      try dsimp only at H
      refine blk0.here ?_
      refine seqQ.norm ?_
      refine AW.rseq ?_
      try simp only [↓wk, ↓wl, nc, evV, wrapBits_eq, ↓reduceIte, Nat.reduceEqDiff, Nat.reduceAdd, Nat.reduceSub, Nat.reduceLeDiff, Nat.reduceLT, Nat.reduceBEq, reduceCtorEq, Int.reduceEq]
      refine AW.ret ?_
      cases H
      exact hQ _ _ _ _ (.inr rfl) (by simp only [resVs, omap, resV, ↓wk, ↓wl, nc, evV, wrapBits_eq, ↓reduceIte, Nat.reduceEqDiff, Nat.reduceAdd, Nat.reduceSub, Nat.reduceLeDiff, Nat.reduceLT, Nat.reduceBEq, reduceCtorEq, Int.reduceEq]; rfl) (hand_plain (by rfl)) (by rfl)
def c8_0 : C := .cond (.t 14) (.seq (.reg [iI 15 (.call (.c (.fn 14 [])) []), iI 4 (.mv (.t 15))]) .ret) (.skip)
def c8_1 : C := .seq (.regq [iI 31 (.call (.c (.fn 14 [])) []), iI 32 (.mv (.t 31)), iG (some 33) 32 true (.load 5 (.t 5)), iG (some 34) 32 true (.call (.c (.fn 16 [])) [(.t 33)]), iG (some 35) 32 true (.load 5 (.t 8)), iG (some 36) 32 true (.call (.c (.fn 19 [])) [(.t 34), (.t 35)]), iI 37 (.pick (.t 32) (.t 36) (.c (.bool false))), iI 38 (.mv (.t 37)), iG (some 39) 38 true (.mv (.t 6)), iG (some 40) 38 true (.call (.c (.fn 26 [])) [(.t 39)]), iG (some 41) 38 true (.mv (.t 9)), iG (some 42) 38 true (.call (.c (.fn 25 [])) [(.t 40), (.t 41)]), iI 43 (.pick (.t 38) (.t 42) (.c (.bool false))), iI 44 (.mv (.t 43)), iG (some 45) 44 true (.mv (.t 7)), iG (some 46) 44 true (.mv (.t 10)), iG (some 47) 44 true (.bin .eql (.t 45) (.t 46)), iI 48 (.pick (.t 44) (.t 47) (.c (.bool false))), iI 4 (.mv (.t 48))]) .ret
def c8_2 : C := .seq (.reg [iI 24 (.load 5 (.t 2)), iI 25 (.call (.c (.fn 16 [])) [(.t 24)]), iI 26 (.mv (.t 1)), iI 27 (.call (.c (.fn 30 [])) [(.t 25), (.t 26)]), iI 23 (.mv (.t 27)), iI 28 (.ext (.t 23) 0), iI 29 (.ext (.t 23) 1), iI 30 (.ext (.t 23) 2), iI 8 (.alloc [(1, (.int .u64 0)), (1, (.int .i64 0)), (1, (.int .i64 0)), (1, (.int .i64 0)), (1, (.sl 5 true []))]), iN (.store 5 (.t 8) (.t 28)), iI 9 (.mv (.t 29)), iI 10 (.mv (.t 30))]) c8_1
def c8_3 : C := .seq (.reg [iI 17 (.load 5 (.t 2)), iI 18 (.mv (.t 1)), iI 19 (.call (.c (.fn 29 [])) [(.t 17), (.t 18)]), iI 16 (.mv (.t 19)), iI 20 (.ext (.t 16) 0), iI 21 (.ext (.t 16) 1), iI 22 (.ext (.t 16) 2), iI 5 (.alloc [(1, (.int .u64 0)), (1, (.int .i64 0)), (1, (.int .i64 0)), (1, (.int .i64 0)), (1, (.sl 5 true []))]), iN (.store 5 (.t 5) (.t 20)), iI 6 (.mv (.t 21)), iI 7 (.mv (.t 22))]) c8_2
def c8_4 : C := .seq (.seq (.reg [iI 11 (.load 5 (.t 2)), iI 12 (.call (.c (.fn 16 [])) [(.t 11)]), iI 13 (.call (.c (.fn 15 [])) [(.t 12)]), iI 14 (.un .not (.t 13))]) c8_0) c8_3
def ir8 : C := .seq (.reg [iI 2 (.box (.t 0)), iI 4 (.mv (.c (.bool false)))]) c8_4
theorem fd8 : fd? Try.prog 8 = some (49, [.slot 4], ir8) := by kernel_rfl
noncomputable def f8 (s_1737 : NetworkSender) (t_1738 : Int) : Option (Bool) :=
  (f16 s_1737).bind fun r_1765 => (f15 r_1765).bind fun r_1766 => (if (!r_1766) = true then (f14).bind fun r_1767 => (some r_1767) else (f29 s_1737 t_1738).bind fun r_1868 => (f16 s_1737).bind fun r_1869 => (f30 r_1869 t_1738).bind fun r_2027 => (f14).bind fun r_2028 => (if r_2028 = true then (f16 r_1868.1).bind fun r_2029 => (f19 r_2029 r_2027.1).bind fun r_2042 => (if r_2042 = true then (f26 r_1868.2.1).bind fun r_2059 => (f25 r_2059 r_2027.2.1).bind fun r_2072 => (if r_2072 = true then (some (decide (r_1868.2.2 = r_2027.2.2))) else (some false)) else (some false)) else (some false)))
theorem f8_ok {s_1737 : NetworkSender} {t_1738 : Int} {r_ : Bool} (H : f8 s_1737 t_1738 = some r_) : Pure Try.prog 8 [.agg [.int .u64 s_1737.fSource, .int .i64 s_1737.fPriority, .int .i64 s_1737.fSync, .int .i64 s_1737.fPulse, .sl 5 false (s_1737.fStreams.map eNetworkStream)], .int .i64 t_1738] (· = .bool r_) := by
  refine Pure.walk2 fd8 none (Nat.le_of_ble_eq_true rfl) (by rfl) fun Q hQ => ?_
  simp only [f8] at H
  refine AW.rseq ?_
  try simp only [↓wk, ↓wl, nc, evV, wrapBits_eq, ↓reduceIte, Nat.reduceEqDiff, Nat.reduceAdd, Nat.reduceSub, Nat.reduceLeDiff, Nat.reduceLT, Nat.reduceBEq, reduceCtorEq, Int.reduceEq]
  refine AW.sseq ?_
  refine AW.rseq ?_
  try simp only [↓wk, ↓wl, nc, evV, wrapBits_eq, ↓reduceIte, Nat.reduceEqDiff, Nat.reduceAdd, Nat.reduceSub, Nat.reduceLeDiff, Nat.reduceLT, Nat.reduceBEq, reduceCtorEq, Int.reduceEq]
  refine evTs_pure hFn H (fun _ h => f16_ok h) (by rfl) (by rfl) (by rfl) (by rfl) (fun _ => rfl) ?_ <;> clear H <;> intro r_1765 H
  try simp only [eL, eRef56Sender, ↓wk, ↓wl, nc, evV, wrapBits_eq, ↓reduceIte, Nat.reduceEqDiff, Nat.reduceAdd, Nat.reduceSub, Nat.reduceLeDiff, Nat.reduceLT, Nat.reduceBEq, reduceCtorEq, Int.reduceEq]
  refine evTs_pure hFn H (fun _ h => f15_ok h) (by rfl) (by rfl) (by rfl) (by rfl) (fun _ => rfl) ?_ <;> clear H <;> intro r_1766 H
  try simp only [eL, ↓wk, ↓wl, nc, evV, wrapBits_eq, ↓reduceIte, Nat.reduceEqDiff, Nat.reduceAdd, Nat.reduceSub, Nat.reduceLeDiff, Nat.reduceLT, Nat.reduceBEq, reduceCtorEq, Int.reduceEq]
  refine AW.ifc H (by rfl) ?_ ?_ <;> clear H <;> intro H
  · refine AW.rseq ?_
    try simp only [↓wk, ↓wl, nc, evV, wrapBits_eq, ↓reduceIte, Nat.reduceEqDiff, Nat.reduceAdd, Nat.reduceSub, Nat.reduceLeDiff, Nat.reduceLT, Nat.reduceBEq, reduceCtorEq, Int.reduceEq]
    refine evTs_pure hFn H (fun _ h => f14_ok h) (by rfl) (by rfl) (by rfl) (by rfl) (fun _ => rfl) ?_ <;> clear H <;> intro r_1767 H
    try simp only [eL, ↓wk, ↓wl, nc, evV, wrapBits_eq, ↓reduceIte, Nat.reduceEqDiff, Nat.reduceAdd, Nat.reduceSub, Nat.reduceLeDiff, Nat.reduceLT, Nat.reduceBEq, reduceCtorEq, Int.reduceEq]
    refine AW.ret ?_
    refine seqQ.ret ?_
    cases H
    exact hQ _ _ _ _ (.inr rfl) (by simp only [resVs, omap, resV, ↓wk, ↓wl, nc, evV, wrapBits_eq, ↓reduceIte, Nat.reduceEqDiff, Nat.reduceAdd, Nat.reduceSub, Nat.reduceLeDiff, Nat.reduceLT, Nat.reduceBEq, reduceCtorEq, Int.reduceEq]; rfl) (hand_plain (by rfl)) (by rfl)
  · refine AW.skip ?_
    refine seqQ.norm ?_
    refine AW.rseq ?_
    try simp only [↓wk, ↓wl, nc, evV, wrapBits_eq, ↓reduceIte, Nat.reduceEqDiff, Nat.reduceAdd, Nat.reduceSub, Nat.reduceLeDiff, Nat.reduceLT, Nat.reduceBEq, reduceCtorEq, Int.reduceEq]
    refine evTs_pure hFn H (fun _ h => f29_im h) (by rfl) (by rfl) (by rfl) (by rfl) (fun _ => rfl) ?_ <;> clear H <;> intro r_1868 H
    try simp only [eL, eNetworkSender, ↓wk, ↓wl, nc, evV, wrapBits_eq, ↓reduceIte, Nat.reduceEqDiff, Nat.reduceAdd, Nat.reduceSub, Nat.reduceLeDiff, Nat.reduceLT, Nat.reduceBEq, reduceCtorEq, Int.reduceEq]
    refine AW.rseq ?_
    try simp only [↓wk, ↓wl, nc, evV, wrapBits_eq, ↓reduceIte, Nat.reduceEqDiff, Nat.reduceAdd, Nat.reduceSub, Nat.reduceLeDiff, Nat.reduceLT, Nat.reduceBEq, reduceCtorEq, Int.reduceEq]
    refine evTs_pure hFn H (fun _ h => f16_ok h) (by rfl) (by rfl) (by rfl) (by rfl) (fun _ => rfl) ?_ <;> clear H <;> intro r_1869 H
    try simp only [eL, eRef56Sender, ↓wk, ↓wl, nc, evV, wrapBits_eq, ↓reduceIte, Nat.reduceEqDiff, Nat.reduceAdd, Nat.reduceSub, Nat.reduceLeDiff, Nat.reduceLT, Nat.reduceBEq, reduceCtorEq, Int.reduceEq]
    refine evTs_pure hFn H (fun _ h => f30_im h) (by rfl) (by rfl) (by rfl) (by rfl) (fun _ => rfl) ?_ <;> clear H <;> intro r_2027 H
    try simp only [eL, eRef56Sender, ↓wk, ↓wl, nc, evV, wrapBits_eq, ↓reduceIte, Nat.reduceEqDiff, Nat.reduceAdd, Nat.reduceSub, Nat.reduceLeDiff, Nat.reduceLT, Nat.reduceBEq, reduceCtorEq, Int.reduceEq]
    refine AW.rqseq ?_
    try simp only [↓wk, ↓wl, nc, evV, wrapBits_eq, ↓reduceIte, Nat.reduceEqDiff, Nat.reduceAdd, Nat.reduceSub, Nat.reduceLeDiff, Nat.reduceLT, Nat.reduceBEq, reduceCtorEq, Int.reduceEq]
    refine evTs_pure hFnq H (fun _ h => f14_ok h) (by rfl) (by rfl) (by rfl) (by rfl) (fun _ => rfl) ?_ <;> clear H <;> intro r_2028 H
    try simp only [eL, ↓wk, ↓wl, nc, evV, wrapBits_eq, ↓reduceIte, Nat.reduceEqDiff, Nat.reduceAdd, Nat.reduceSub, Nat.reduceLeDiff, Nat.reduceLT, Nat.reduceBEq, reduceCtorEq, Int.reduceEq]
    refine evTs_ifg H (by rfl) ?_ ?_ <;> clear H <;> intro H
    · try simp only [↓wk, ↓wl, nc, evV, wrapBits_eq, ↓reduceIte, Nat.reduceEqDiff, Nat.reduceAdd, Nat.reduceSub, Nat.reduceLeDiff, Nat.reduceLT, Nat.reduceBEq, reduceCtorEq, Int.reduceEq]
      refine evTs_pure hFnq H (fun _ h => f16_ok h) (by rfl) (by rfl) (by rfl) (by rfl) (fun _ => rfl) ?_ <;> clear H <;> intro r_2029 H
      try simp only [eL, eRef56Sender, ↓wk, ↓wl, nc, evV, wrapBits_eq, ↓reduceIte, Nat.reduceEqDiff, Nat.reduceAdd, Nat.reduceSub, Nat.reduceLeDiff, Nat.reduceLT, Nat.reduceBEq, reduceCtorEq, Int.reduceEq]
      refine evTs_pure hFnq H (fun _ h => f19_ok h) (by rfl) (by rfl) (by rfl) (by rfl) (fun _ => rfl) ?_ <;> clear H <;> intro r_2042 H
      try simp only [eL, ↓wk, ↓wl, nc, evV, wrapBits_eq, ↓reduceIte, Nat.reduceEqDiff, Nat.reduceAdd, Nat.reduceSub, Nat.reduceLeDiff, Nat.reduceLT, Nat.reduceBEq, reduceCtorEq, Int.reduceEq]
      refine evTs_ifg H (by rfl) ?_ ?_ <;> clear H <;> intro H
      · try simp only [↓wk, ↓wl, nc, evV, wrapBits_eq, ↓reduceIte, Nat.reduceEqDiff, Nat.reduceAdd, Nat.reduceSub, Nat.reduceLeDiff, Nat.reduceLT, Nat.reduceBEq, reduceCtorEq, Int.reduceEq]
        refine evTs_pure hFnq H (fun _ h => f26_im h) (by rfl) (by rfl) (by rfl) (by rfl) (fun _ => rfl) ?_ <;> clear H <;> intro r_2059 H
        try simp only [eL, ↓wk, ↓wl, nc, evV, wrapBits_eq, ↓reduceIte, Nat.reduceEqDiff, Nat.reduceAdd, Nat.reduceSub, Nat.reduceLeDiff, Nat.reduceLT, Nat.reduceBEq, reduceCtorEq, Int.reduceEq]
        refine evTs_pure hFnq H (fun _ h => f25_ok h) (by rfl) (by rfl) (by rfl) (by rfl) (fun _ => rfl) ?_ <;> clear H <;> intro r_2072 H
        try simp only [eL, ↓wk, ↓wl, nc, evV, wrapBits_eq, ↓reduceIte, Nat.reduceEqDiff, Nat.reduceAdd, Nat.reduceSub, Nat.reduceLeDiff, Nat.reduceLT, Nat.reduceBEq, reduceCtorEq, Int.reduceEq]
        refine evTs_ifg H (by rfl) ?_ ?_ <;> clear H <;> intro H
        · try simp only [↓wk, ↓wl, nc, evV, wrapBits_eq, ↓reduceIte, Nat.reduceEqDiff, Nat.reduceAdd, Nat.reduceSub, Nat.reduceLeDiff, Nat.reduceLT, Nat.reduceBEq, reduceCtorEq, Int.reduceEq]
          refine AW.ret ?_
          cases H
          exact hQ _ _ _ _ (.inr rfl) (by simp only [resVs, omap, resV, ↓wk, ↓wl, nc, evV, wrapBits_eq, ↓reduceIte, Nat.reduceEqDiff, Nat.reduceAdd, Nat.reduceSub, Nat.reduceLeDiff, Nat.reduceLT, Nat.reduceBEq, reduceCtorEq, Int.reduceEq]; rfl) (hand_plain (by rfl)) (by rfl)
        · try simp only [↓wk, ↓wl, nc, evV, wrapBits_eq, ↓reduceIte, Nat.reduceEqDiff, Nat.reduceAdd, Nat.reduceSub, Nat.reduceLeDiff, Nat.reduceLT, Nat.reduceBEq, reduceCtorEq, Int.reduceEq]
          refine AW.ret ?_
          cases H
          exact hQ _ _ _ _ (.inr rfl) (by simp only [resVs, omap, resV, ↓wk, ↓wl, nc, evV, wrapBits_eq, ↓reduceIte, Nat.reduceEqDiff, Nat.reduceAdd, Nat.reduceSub, Nat.reduceLeDiff, Nat.reduceLT, Nat.reduceBEq, reduceCtorEq, Int.reduceEq]; rfl) (hand_plain (by rfl)) (by rfl)
      · try simp only [↓wk, ↓wl, nc, evV, wrapBits_eq, ↓reduceIte, Nat.reduceEqDiff, Nat.reduceAdd, Nat.reduceSub, Nat.reduceLeDiff, Nat.reduceLT, Nat.reduceBEq, reduceCtorEq, Int.reduceEq]
        refine AW.ret ?_
        cases H
        exact hQ _ _ _ _ (.inr rfl) (by simp only [resVs, omap, resV, ↓wk, ↓wl, nc, evV, wrapBits_eq, ↓reduceIte, Nat.reduceEqDiff, Nat.reduceAdd, Nat.reduceSub, Nat.reduceLeDiff, Nat.reduceLT, Nat.reduceBEq, reduceCtorEq, Int.reduceEq]; rfl) (hand_plain (by rfl)) (by rfl)
    · try simp only [↓wk, ↓wl, nc, evV, wrapBits_eq, ↓reduceIte, Nat.reduceEqDiff, Nat.reduceAdd, Nat.reduceSub, Nat.reduceLeDiff, Nat.reduceLT, Nat.reduceBEq, reduceCtorEq, Int.reduceEq]
      refine AW.ret ?_
      cases H
      exact hQ _ _ _ _ (.inr rfl) (by simp only [resVs, omap, resV, ↓wk, ↓wl, nc, evV, wrapBits_eq, ↓reduceIte, Nat.reduceEqDiff, Nat.reduceAdd, Nat.reduceSub, Nat.reduceLeDiff, Nat.reduceLT, Nat.reduceBEq, reduceCtorEq, Int.reduceEq]; rfl) (hand_plain (by rfl)) (by rfl)
end Go.Proofs.Ytlidbikdeboihaa
