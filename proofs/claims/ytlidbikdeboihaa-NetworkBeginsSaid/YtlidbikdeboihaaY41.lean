import Derived.Test.YtlidbikdeboihaaX2
import Derived.Test.YtlidbikdeboihaaProg
import Derived.KernelRfl
namespace Go.Proofs.Ytlidbikdeboihaa
open Go Go.Ab

set_option maxHeartbeats 1000000
set_option linter.unusedSimpArgs false
set_option linter.unusedVariables false
structure Law56Start where
  fSource : Int
  fPriority : Int
  fSync : Int
def eLaw56Start (x : Law56Start) : AV := .agg [.int .u64 x.fSource, .int .i64 x.fPriority, .int .i64 x.fSync]
instance : IsFlat eLaw56Start := ⟨fun _ => rfl⟩
instance : IsEnc 3 eLaw56Start := ⟨fun _ => rfl, fun _ => rfl, fun _ => rfl⟩
structure Ref56Stream where
  fUniverse : Int
  fSeq : Int
  fLast : Int
  fTimes : Int
  fSlots : (List UInt8)
def eRef56Stream (x : Ref56Stream) : AV := .agg [.int .i64 x.fUniverse, .int .i64 x.fSeq, .int .i64 x.fLast, .int .i64 x.fTimes, .str x.fSlots]
instance : IsFlat eRef56Stream := ⟨fun _ => rfl⟩
instance : IsEnc 5 eRef56Stream := ⟨fun _ => rfl, fun _ => rfl, fun _ => rfl⟩
structure Ref56Sender where
  fSource : Int
  fPriority : Int
  fSync : Int
  fPulse : Int
  fStreams : (List Ref56Stream)
def eRef56Sender (x : Ref56Sender) : AV := .agg [.int .u64 x.fSource, .int .i64 x.fPriority, .int .i64 x.fSync, .int .i64 x.fPulse, .sl 5 false (x.fStreams.map eRef56Stream)]
instance : IsEnc 5 eRef56Sender := ⟨fun _ => rfl, fun _ => rfl, fun _ => rfl⟩
noncomputable def f16_L1 (s_1739 : NetworkSender) : Lp (Int × (List Ref56Stream)) ((List Ref56Stream)) where
  body := fun (v_1748, out_1749) => (if (decide (v_1748 < ((s_1739.fStreams.length : Nat) : Int))) = true then (at? s_1739.fStreams v_1748).bind fun x_1753 => (app? 48 out_1749 ([(Ref56Stream.mk x_1753.fUniverse x_1753.fSeq x_1753.fLast x_1753.fTimes x_1753.fSlots)])).bind fun out_1754 => (some (.next ((IntKind.i64.wrap (v_1748 + 1)), out_1754))) else (some (.brk out_1749)))
  cst := fun (v_1748, out_1749) => ⟨put (put (put (put (put (fun _ => .junk) 18 (.int .i64 v_1748)) 17 (.int .i64 ((s_1739.fStreams.length : Nat) : Int))) 16 (.sl 5 false (s_1739.fStreams.map eNetworkStream))) 3 (.ptr 1 0)) 2 (.ptr 0 0), [.cel [.int .u64 0, .int .i64 0, .int .i64 0, .int .i64 0, .sl 5 true []], .cel [.int .u64 s_1739.fSource, .int .i64 s_1739.fPriority, .int .i64 s_1739.fSync, .int .i64 s_1739.fPulse, .row 5 2 0 out_1749.length], .els 5 (out_1749.map eRef56Stream)]⟩
def c16_0 : C := .reg [iI 22 (.faddr 4 (.t 3)), iI 23 (.load 0 (.t 22)), iI 24 (.load 5 (.t 5)), iI 25 (.mkslp 5 1 (.agg [(.int .i64 0), (.int .i64 0), (.int .i64 0), (.int .i64 0), (.str [])]) [(0, (.t 24))]), iI 26 (.append 5 48 (.t 23) (.t 25)), iI 27 (.faddr 4 (.t 3)), iN (.store 0 (.t 27) (.t 26))]
def c16_1 : C := .reg [iI 28 (.bin .add (.t 18) (.c (.int .i64 1))), iI 18 (.mv (.t 28))]
def c16_2 : C := .seq (.block 1 (.seq (.reg [iI 20 (.iaddr 5 (.t 16) (.t 18)), iI 21 (.load 5 (.t 20)), iI 5 (.alloc [(1, (.int .i64 0)), (1, (.int .i64 0)), (1, (.int .i64 0)), (1, (.int .i64 0)), (1, (.str []))]), iN (.store 5 (.t 5) (.t 21))]) c16_0)) c16_1
def c16_3 : C := .seq (.cond (.t 19) (.skip) (.exit 0)) c16_2
def c16_4 : C := .block 0 (.loop (.seq (.reg [iI 19 (.bin .lss (.t 18) (.t 17))]) c16_3))
def c16_5 : C := .seq (.reg [iI 29 (.load 5 (.t 3)), iN (.store 5 (.t 2) (.t 29))]) .ret
def c16_6 : C := .seq (.seq (.reg [iI 15 (.faddr 4 (.t 1)), iI 16 (.load 0 (.t 15)), iI 17 (.len 0 (.t 16)), iI 18 (.mv (.c (.int .i64 0)))]) c16_4) c16_5
def c16_7 : C := .seq (.reg [iI 6 (.faddr 0 (.t 1)), iI 7 (.load 0 (.t 6)), iI 8 (.faddr 1 (.t 1)), iI 9 (.load 0 (.t 8)), iI 10 (.faddr 2 (.t 1)), iI 11 (.load 0 (.t 10)), iI 12 (.faddr 3 (.t 1)), iI 13 (.load 0 (.t 12)), iI 14 (.build [(1, (.int .u64 0)), (1, (.int .i64 0)), (1, (.int .i64 0)), (1, (.int .i64 0)), (1, (.sl 5 true []))] [(0, 0, (.t 7)), (1, 0, (.t 9)), (2, 0, (.t 11)), (3, 0, (.t 13))]), iI 3 (.alloc [(1, (.int .u64 0)), (1, (.int .i64 0)), (1, (.int .i64 0)), (1, (.int .i64 0)), (1, (.sl 5 true []))]), iN (.store 5 (.t 3) (.t 14))]) c16_6
def ir16 : C := .seq (.reg [iI 1 (.box (.t 0)), iI 2 (.alloc [(1, (.int .u64 0)), (1, (.int .i64 0)), (1, (.int .i64 0)), (1, (.int .i64 0)), (1, (.sl 5 true []))])]) c16_7
theorem fd16 : fd? Try.prog 16 = some (30, [.cell 2 5], ir16) := by kernel_rfl
noncomputable def f16 (s_1739 : NetworkSender) : Option (Ref56Sender) :=
  (Lp.run (f16_L1 s_1739) (0, [])).bind fun out_1752 => (some (Ref56Sender.mk s_1739.fSource s_1739.fPriority s_1739.fSync s_1739.fPulse out_1752))
theorem f16_ok {s_1739 : NetworkSender} {r_ : Ref56Sender} (H : f16 s_1739 = some r_) : Pure Try.prog 16 [.agg [.int .u64 s_1739.fSource, .int .i64 s_1739.fPriority, .int .i64 s_1739.fSync, .int .i64 s_1739.fPulse, .sl 5 false (s_1739.fStreams.map eNetworkStream)]] (· = .agg [.int .u64 r_.fSource, .int .i64 r_.fPriority, .int .i64 r_.fSync, .int .i64 r_.fPulse, .sl 5 false (r_.fStreams.map eRef56Stream)]) := by
  refine Pure.walk2 fd16 none (Nat.le_of_ble_eq_true rfl) (by rfl) fun Q hQ => ?_
  simp only [f16] at H
  refine AW.rseq ?_
  try simp only [↓wk, ↓wl, nc, evV, wrapBits_eq, ↓reduceIte, Nat.reduceEqDiff, Nat.reduceAdd, Nat.reduceSub, Nat.reduceLeDiff, Nat.reduceLT, Nat.reduceBEq, reduceCtorEq, Int.reduceEq]
  refine AW.rseq ?_
  try simp only [↓wk, ↓wl, nc, evV, wrapBits_eq, ↓reduceIte, Nat.reduceEqDiff, Nat.reduceAdd, Nat.reduceSub, Nat.reduceLeDiff, Nat.reduceLT, Nat.reduceBEq, reduceCtorEq, Int.reduceEq]
  refine AW.sseq ?_
  refine AW.rseq ?_
  try simp only [↓wk, ↓wl, nc, evV, wrapBits_eq, ↓reduceIte, Nat.reduceEqDiff, Nat.reduceAdd, Nat.reduceSub, Nat.reduceLeDiff, Nat.reduceLT, Nat.reduceBEq, reduceCtorEq, Int.reduceEq]
  refine AW.bend ?_
  refine AW.iter H ((Le.trans (Le.nilCell (b := 2) (o := 4) (e := 5) (by rfl) (by rfl)) (Le.none [1, 2, 3] [2, 3, 16, 17, 18] (by decide) (by simp only [f16_L1, List.length_set, Option.map_some, restrict_eq, renS_nil, renS_cons, renB_els, renB_cel, renB_dead, deep_eq, map_ren_enc, ren_agg', ren_tup', ren_fn', ren_int', ren_bool', ren_str', ren_sl', ren_pro', ren_nilp', ren_nilfn', ren_junk', ren_ptr', ren_row', ren_arow', ren_eptr', vm, List.idxOf?_cons, List.idxOf?_nil, beq_self_eq_true, Option.map_none, List.getD_cons_zero, List.getD_cons_succ, ↓wk, ↓wl, nc, evV, wrapBits_eq, ↓reduceIte, Nat.reduceEqDiff, Nat.reduceAdd, Nat.reduceSub, Nat.reduceLeDiff, Nat.reduceLT, Nat.reduceBEq, reduceCtorEq, Int.reduceEq])))) ?_ <;> clear H
  rintro ⟨v_1748, out_1749⟩ x_ st0_ H hst_
  simp only [f16_L1] at H hst_
  subst hst_
  refine AW.rseq ?_
  try simp only [↓wk, ↓wl, nc, evV, wrapBits_eq, ↓reduceIte, Nat.reduceEqDiff, Nat.reduceAdd, Nat.reduceSub, Nat.reduceLeDiff, Nat.reduceLT, Nat.reduceBEq, reduceCtorEq, Int.reduceEq]
  refine AW.sseq ?_
  refine AW.ifc H (by rfl) ?_ ?_ <;> clear H <;> intro H
  · refine AW.skip ?_
    refine seqQ.norm ?_
    refine AW.bseq ?_
    refine AW.rseq ?_
    try simp only [↓wk, ↓wl, nc, evV, wrapBits_eq, ↓reduceIte, Nat.reduceEqDiff, Nat.reduceAdd, Nat.reduceSub, Nat.reduceLeDiff, Nat.reduceLT, Nat.reduceBEq, reduceCtorEq, Int.reduceEq]
    refine evTs_at (enc := eNetworkStream) H (by rfl) (by rfl) ?_ <;> clear H <;> intro x_1753 H
    try simp only [eNetworkStream, eL, ↓wk, ↓wl, nc, evV, wrapBits_eq, ↓reduceIte, Nat.reduceEqDiff, Nat.reduceAdd, Nat.reduceSub, Nat.reduceLeDiff, Nat.reduceLT, Nat.reduceBEq, reduceCtorEq, Int.reduceEq]
    refine AW.rend ?_
    try simp only [↓wk, ↓wl, nc, evV, wrapBits_eq, ↓reduceIte, Nat.reduceEqDiff, Nat.reduceAdd, Nat.reduceSub, Nat.reduceLeDiff, Nat.reduceLT, Nat.reduceBEq, reduceCtorEq, Int.reduceEq]
    refine evTs_app (enc := eRef56Stream) H (by rfl) (by first | rfl | simp only [List.length_set]) (by rfl) (by rfl) ?_ <;> clear H <;> intro out_1754 H
    try simp only [↓wk, ↓wl, nc, evV, wrapBits_eq, ↓reduceIte, Nat.reduceEqDiff, Nat.reduceAdd, Nat.reduceSub, Nat.reduceLeDiff, Nat.reduceLT, Nat.reduceBEq, reduceCtorEq, Int.reduceEq]
    refine blkQ.norm ?_
    refine AW.rend ?_
    try simp only [↓wk, ↓wl, nc, evV, wrapBits_eq, ↓reduceIte, Nat.reduceEqDiff, Nat.reduceAdd, Nat.reduceSub, Nat.reduceLeDiff, Nat.reduceLT, Nat.reduceBEq, reduceCtorEq, Int.reduceEq]
    exact loopQ.next H ((Le.none [0, 1, 4] [2, 3, 16, 17, 18] (by decide) (by simp only [f16_L1, List.length_set, Option.map_some, restrict_eq, renS_nil, renS_cons, renB_els, renB_cel, renB_dead, deep_eq, map_ren_enc, ren_agg', ren_tup', ren_fn', ren_int', ren_bool', ren_str', ren_sl', ren_pro', ren_nilp', ren_nilfn', ren_junk', ren_ptr', ren_row', ren_arow', ren_eptr', vm, List.idxOf?_cons, List.idxOf?_nil, beq_self_eq_true, Option.map_none, List.getD_cons_zero, List.getD_cons_succ, ↓wk, ↓wl, nc, evV, wrapBits_eq, ↓reduceIte, Nat.reduceEqDiff, Nat.reduceAdd, Nat.reduceSub, Nat.reduceLeDiff, Nat.reduceLT, Nat.reduceBEq, reduceCtorEq, Int.reduceEq])))
  · refine AW.exit ?_
    refine seqQ.exit ?_
    refine loopQ.exit H ?_ <;> clear H <;> intro H
    try dsimp only at H
    refine blk0.here ?_
    refine seqQ.norm ?_
    refine AW.rseq ?_
    try simp only [↓wk, ↓wl, nc, evV, wrapBits_eq, ↓reduceIte, Nat.reduceEqDiff, Nat.reduceAdd, Nat.reduceSub, Nat.reduceLeDiff, Nat.reduceLT, Nat.reduceBEq, reduceCtorEq, Int.reduceEq]
    refine AW.ret ?_
    cases H
    exact hQ _ _ _ _ (.inr rfl) (by simp only [resVs, omap, resV, ↓wk, ↓wl, nc, evV, wrapBits_eq, ↓reduceIte, Nat.reduceEqDiff, Nat.reduceAdd, Nat.reduceSub, Nat.reduceLeDiff, Nat.reduceLT, Nat.reduceBEq, reduceCtorEq, Int.reduceEq]; rfl) (by simp only [handOver, deep_eq, imm_simps, imm_rowE, imm_ptrE, imm_enc, omap_simps, take_map_len, take_map_set, take_map_set2, le_refl_true, Nat.zero_add, and_true, true_and, List.drop_zero, Option.map_some, ↓wk, ↓wl, nc, evV, wrapBits_eq, ↓reduceIte, Nat.reduceEqDiff, Nat.reduceAdd, Nat.reduceSub, Nat.reduceLeDiff, Nat.reduceLT, Nat.reduceBEq, reduceCtorEq, Int.reduceEq]; rfl) (by rfl)
noncomputable def f15_L1 (s_1756 : Ref56Sender) : Lp (Int) ((Unit) ⊕ (Unit)) where
  body := fun i_1760 => (if (decide (i_1760 < ((s_1756.fStreams.length : Nat) : Int))) = true then (if (decide (i_1760 < 20)) = true then (at? s_1756.fStreams i_1760).bind fun x_1762 => (if (decide (1024 < ((x_1762.fSlots.length : Nat) : Int))) = true then (some (.brk (Sum.inr ()))) else (some (.next (IntKind.i64.wrap (i_1760 + 1))))) else (some (.brk (Sum.inl ())))) else (some (.brk (Sum.inl ()))))
  cst := fun i_1760 => ⟨put (put (fun _ => .junk) 3 (.int .i64 i_1760)) 1 (.ptr 0 0), [.cel [.int .u64 s_1756.fSource, .int .i64 s_1756.fPriority, .int .i64 s_1756.fSync, .int .i64 s_1756.fPulse, .sl 5 false (s_1756.fStreams.map eRef56Stream)]]⟩
def c15_0 : C := .cond (.t 12) (.skip) (.exit 0)
def c15_1 : C := .cond (.t 22) (.seq (.reg [iI 2 (.mv (.c (.bool false)))]) .ret) (.skip)
def c15_2 : C := .reg [iI 13 (.mv (.t 3)), iI 14 (.bin .add (.t 13) (.c (.int .i64 1))), iI 3 (.mv (.t 14))]
def c15_3 : C := .seq (.block 1 (.seq (.reg [iI 15 (.faddr 4 (.t 1)), iI 16 (.load 0 (.t 15)), iI 17 (.mv (.t 3)), iI 18 (.iaddr 5 (.t 16) (.t 17)), iI 19 (.faddr 4 (.t 18)), iI 20 (.load 0 (.t 19)), iI 21 (.len 1 (.t 20)), iI 22 (.bin .gtr (.t 21) (.c (.int .i64 1024)))]) c15_1)) c15_2
def c15_4 : C := .block 0 (.loop (.seq (.seq (.reg [iI 4 (.mv (.t 3)), iI 5 (.faddr 4 (.t 1)), iI 6 (.load 0 (.t 5)), iI 7 (.len 0 (.t 6)), iI 8 (.bin .lss (.t 4) (.t 7)), iI 9 (.mv (.t 8)), iG (some 10) 9 true (.mv (.t 3)), iG (some 11) 9 true (.bin .lss (.t 10) (.c (.int .i64 20))), iI 12 (.pick (.t 9) (.t 11) (.c (.bool false)))]) c15_0) c15_3))
def c15_5 : C := .seq (.reg [iI 23 (.faddr 4 (.t 1)), iI 24 (.load 0 (.t 23)), iI 25 (.len 0 (.t 24)), iI 26 (.bin .leq (.t 25) (.c (.int .i64 20))), iI 2 (.mv (.t 26))]) .ret
def c15_6 : C := .seq (.seq (.reg [iI 3 (.mv (.c (.int .i64 0)))]) c15_4) c15_5
def ir15 : C := .seq (.reg [iI 1 (.box (.t 0)), iI 2 (.mv (.c (.bool false)))]) c15_6
theorem fd15 : fd? Try.prog 15 = some (27, [.slot 2], ir15) := by kernel_rfl
noncomputable def f15 (s_1756 : Ref56Sender) : Option (Bool) :=
  ((Lp.run (f15_L1 s_1756) 0).bind fun r_ => match r_ with | (Sum.inl _) => (some (decide (((s_1756.fStreams.length : Nat) : Int) ≤ 20))) | (Sum.inr _) => (some false))
theorem f15_ok {s_1756 : Ref56Sender} {r_ : Bool} (H : f15 s_1756 = some r_) : Pure Try.prog 15 [.agg [.int .u64 s_1756.fSource, .int .i64 s_1756.fPriority, .int .i64 s_1756.fSync, .int .i64 s_1756.fPulse, .sl 5 false (s_1756.fStreams.map eRef56Stream)]] (· = .bool r_) := by
  refine Pure.walk2 fd15 none (Nat.le_of_ble_eq_true rfl) (by rfl) fun Q hQ => ?_
  simp only [f15] at H
  refine AW.rseq ?_
  try simp only [↓wk, ↓wl, nc, evV, wrapBits_eq, ↓reduceIte, Nat.reduceEqDiff, Nat.reduceAdd, Nat.reduceSub, Nat.reduceLeDiff, Nat.reduceLT, Nat.reduceBEq, reduceCtorEq, Int.reduceEq]
  refine AW.sseq ?_
  refine AW.rseq ?_
  try simp only [↓wk, ↓wl, nc, evV, wrapBits_eq, ↓reduceIte, Nat.reduceEqDiff, Nat.reduceAdd, Nat.reduceSub, Nat.reduceLeDiff, Nat.reduceLT, Nat.reduceBEq, reduceCtorEq, Int.reduceEq]
  refine AW.bend ?_
  refine AW.iter H ((Le.none [0] [1, 3] (by decide) (by simp only [f15_L1, List.length_set, Option.map_some, restrict_eq, renS_nil, renS_cons, renB_els, renB_cel, renB_dead, deep_eq, map_ren_enc, ren_agg', ren_tup', ren_fn', ren_int', ren_bool', ren_str', ren_sl', ren_pro', ren_nilp', ren_nilfn', ren_junk', ren_ptr', ren_row', ren_arow', ren_eptr', vm, List.idxOf?_cons, List.idxOf?_nil, beq_self_eq_true, Option.map_none, List.getD_cons_zero, List.getD_cons_succ, ↓wk, ↓wl, nc, evV, wrapBits_eq, ↓reduceIte, Nat.reduceEqDiff, Nat.reduceAdd, Nat.reduceSub, Nat.reduceLeDiff, Nat.reduceLT, Nat.reduceBEq, reduceCtorEq, Int.reduceEq]))) ?_ <;> clear H
  rintro i_1760 x_ st0_ H hst_
  simp only [f15_L1] at H hst_
  subst hst_
  refine AW.sseq ?_
  refine AW.rseq ?_
  try simp only [↓wk, ↓wl, nc, evV, wrapBits_eq, ↓reduceIte, Nat.reduceEqDiff, Nat.reduceAdd, Nat.reduceSub, Nat.reduceLeDiff, Nat.reduceLT, Nat.reduceBEq, reduceCtorEq, Int.reduceEq]
  refine evTs_ifg H (by rfl) ?_ ?_ <;> clear H <;> intro H
  · try simp only [↓wk, ↓wl, nc, evV, wrapBits_eq, ↓reduceIte, Nat.reduceEqDiff, Nat.reduceAdd, Nat.reduceSub, Nat.reduceLeDiff, Nat.reduceLT, Nat.reduceBEq, reduceCtorEq, Int.reduceEq]
    refine AW.ifc H (by rfl) ?_ ?_ <;> clear H <;> intro H
    · refine AW.skip ?_
      refine seqQ.norm ?_
      refine AW.bseq ?_
      refine AW.rseq ?_
      try simp only [↓wk, ↓wl, nc, evV, wrapBits_eq, ↓reduceIte, Nat.reduceEqDiff, Nat.reduceAdd, Nat.reduceSub, Nat.reduceLeDiff, Nat.reduceLT, Nat.reduceBEq, reduceCtorEq, Int.reduceEq]
      refine evTs_at (enc := eRef56Stream) H (by rfl) (by rfl) ?_ <;> clear H <;> intro x_1762 H
      try simp only [eRef56Stream, eL, ↓wk, ↓wl, nc, evV, wrapBits_eq, ↓reduceIte, Nat.reduceEqDiff, Nat.reduceAdd, Nat.reduceSub, Nat.reduceLeDiff, Nat.reduceLT, Nat.reduceBEq, reduceCtorEq, Int.reduceEq]
      refine AW.ifc H (by rfl) ?_ ?_ <;> clear H <;> intro H
      · refine AW.rseq ?_
        try simp only [↓wk, ↓wl, nc, evV, wrapBits_eq, ↓reduceIte, Nat.reduceEqDiff, Nat.reduceAdd, Nat.reduceSub, Nat.reduceLeDiff, Nat.reduceLT, Nat.reduceBEq, reduceCtorEq, Int.reduceEq]
        refine AW.ret ?_
        refine blkQ.ret ?_
        refine loopQ.ret H ?_ <;> clear H <;> intro H
        try dsimp only at H
        refine blk0.ret ?_
        refine seqQ.ret ?_
        cases H
        exact hQ _ _ _ _ (.inr rfl) (by simp only [resVs, omap, resV, ↓wk, ↓wl, nc, evV, wrapBits_eq, ↓reduceIte, Nat.reduceEqDiff, Nat.reduceAdd, Nat.reduceSub, Nat.reduceLeDiff, Nat.reduceLT, Nat.reduceBEq, reduceCtorEq, Int.reduceEq]; rfl) (hand_plain (by rfl)) (by rfl)
      · refine AW.skip ?_
        refine blkQ.norm ?_
        refine AW.rend ?_
        try simp only [↓wk, ↓wl, nc, evV, wrapBits_eq, ↓reduceIte, Nat.reduceEqDiff, Nat.reduceAdd, Nat.reduceSub, Nat.reduceLeDiff, Nat.reduceLT, Nat.reduceBEq, reduceCtorEq, Int.reduceEq]
        exact loopQ.next H ((Le.none [0] [1, 3] (by decide) (by simp only [f15_L1, List.length_set, Option.map_some, restrict_eq, renS_nil, renS_cons, renB_els, renB_cel, renB_dead, deep_eq, map_ren_enc, ren_agg', ren_tup', ren_fn', ren_int', ren_bool', ren_str', ren_sl', ren_pro', ren_nilp', ren_nilfn', ren_junk', ren_ptr', ren_row', ren_arow', ren_eptr', vm, List.idxOf?_cons, List.idxOf?_nil, beq_self_eq_true, Option.map_none, List.getD_cons_zero, List.getD_cons_succ, ↓wk, ↓wl, nc, evV, wrapBits_eq, ↓reduceIte, Nat.reduceEqDiff, Nat.reduceAdd, Nat.reduceSub, Nat.reduceLeDiff, Nat.reduceLT, Nat.reduceBEq, reduceCtorEq, Int.reduceEq])))
    · refine AW.exit ?_
      refine seqQ.exit ?_
      refine loopQ.exit H ?_ <;> clear H <;> intro H
      try dsimp only at H
      refine blk0.here ?_
      refine seqQ.norm ?_
      refine AW.rseq ?_
      try simp only [↓wk, ↓wl, nc, evV, wrapBits_eq, ↓reduceIte, Nat.reduceEqDiff, Nat.reduceAdd, Nat.reduceSub, Nat.reduceLeDiff, Nat.reduceLT, Nat.reduceBEq, reduceCtorEq, Int.reduceEq]
      refine AW.ret ?_
      cases H
      exact hQ _ _ _ _ (.inr rfl) (by simp only [resVs, omap, resV, ↓wk, ↓wl, nc, evV, wrapBits_eq, ↓reduceIte, Nat.reduceEqDiff, Nat.reduceAdd, Nat.reduceSub, Nat.reduceLeDiff, Nat.reduceLT, Nat.reduceBEq, reduceCtorEq, Int.reduceEq]; rfl) (hand_plain (by rfl)) (by rfl)
  · try simp only [↓wk, ↓wl, nc, evV, wrapBits_eq, ↓reduceIte, Nat.reduceEqDiff, Nat.reduceAdd, Nat.reduceSub, Nat.reduceLeDiff, Nat.reduceLT, Nat.reduceBEq, reduceCtorEq, Int.reduceEq]
    refine AW.iff (by rfl) ?_
    refine AW.exit ?_
    refine seqQ.exit ?_
    refine loopQ.exit H ?_ <;> clear H <;> intro H
    try dsimp only at H
    refine blk0.here ?_
    refine seqQ.norm ?_
    refine AW.rseq ?_
    try simp only [↓wk, ↓wl, nc, evV, wrapBits_eq, ↓reduceIte, Nat.reduceEqDiff, Nat.reduceAdd, Nat.reduceSub, Nat.reduceLeDiff, Nat.reduceLT, Nat.reduceBEq, reduceCtorEq, Int.reduceEq]
    refine AW.ret ?_
    cases H
    exact hQ _ _ _ _ (.inr rfl) (by simp only [resVs, omap, resV, ↓wk, ↓wl, nc, evV, wrapBits_eq, ↓reduceIte, Nat.reduceEqDiff, Nat.reduceAdd, Nat.reduceSub, Nat.reduceLeDiff, Nat.reduceLT, Nat.reduceBEq, reduceCtorEq, Int.reduceEq]; rfl) (hand_plain (by rfl)) (by rfl)
def c39_0 : C := .seq (.reg [iI 3 (.mv (.t 0)), iI 4 (.bin .gtr (.t 3) (.c (.int .u64 0))), iI 5 (.mv (.t 4)), iG (some 6) 5 true (.mv (.t 0)), iG (some 7) 5 true (.bin .lss (.t 6) (.c (.int .u64 281474976710655))), iI 8 (.pick (.t 5) (.t 7) (.c (.bool false))), iI 2 (.mv (.t 8))]) .ret
def ir39 : C := .seq (.reg [iI 2 (.mv (.c (.bool false)))]) c39_0
theorem fd39 : fd? Try.prog 39 = some (9, [.slot 2], ir39) := by kernel_rfl
noncomputable def f39 (id_1772 : Int) : Option (Bool) :=
  (if (decide (0 < id_1772)) = true then (some (decide (id_1772 < 281474976710655))) else (some false))
theorem f39_ok {id_1772 : Int} {r_ : Bool} (H : f39 id_1772 = some r_) : Pure Try.prog 39 [.int .u64 id_1772] (· = .bool r_) := by
  refine Pure.walk2 fd39 none (Nat.le_of_ble_eq_true rfl) (by rfl) fun Q hQ => ?_
  simp only [f39] at H
  refine AW.rseq ?_
  try simp only [↓wk, ↓wl, nc, evV, wrapBits_eq, ↓reduceIte, Nat.reduceEqDiff, Nat.reduceAdd, Nat.reduceSub, Nat.reduceLeDiff, Nat.reduceLT, Nat.reduceBEq, reduceCtorEq, Int.reduceEq]
  refine AW.rseq ?_
  try simp only [↓wk, ↓wl, nc, evV, wrapBits_eq, ↓reduceIte, Nat.reduceEqDiff, Nat.reduceAdd, Nat.reduceSub, Nat.reduceLeDiff, Nat.reduceLT, Nat.reduceBEq, reduceCtorEq, Int.reduceEq]
  refine evTs_ifg H (by rfl) ?_ ?_ <;> clear H <;> intro H
  · try simp only [↓wk, ↓wl, nc, evV, wrapBits_eq, ↓reduceIte, Nat.reduceEqDiff, Nat.reduceAdd, Nat.reduceSub, Nat.reduceLeDiff, Nat.reduceLT, Nat.reduceBEq, reduceCtorEq, Int.reduceEq]
    refine AW.ret ?_
    cases H
    exact hQ _ _ _ _ (.inr rfl) (by simp only [resVs, omap, resV, ↓wk, ↓wl, nc, evV, wrapBits_eq, ↓reduceIte, Nat.reduceEqDiff, Nat.reduceAdd, Nat.reduceSub, Nat.reduceLeDiff, Nat.reduceLT, Nat.reduceBEq, reduceCtorEq, Int.reduceEq]; rfl) (hand_plain (by rfl)) (by rfl)
  · try simp only [↓wk, ↓wl, nc, evV, wrapBits_eq, ↓reduceIte, Nat.reduceEqDiff, Nat.reduceAdd, Nat.reduceSub, Nat.reduceLeDiff, Nat.reduceLT, Nat.reduceBEq, reduceCtorEq, Int.reduceEq]
    refine AW.ret ?_
    cases H
    exact hQ _ _ _ _ (.inr rfl) (by simp only [resVs, omap, resV, ↓wk, ↓wl, nc, evV, wrapBits_eq, ↓reduceIte, Nat.reduceEqDiff, Nat.reduceAdd, Nat.reduceSub, Nat.reduceLeDiff, Nat.reduceLT, Nat.reduceBEq, reduceCtorEq, Int.reduceEq]; rfl) (hand_plain (by rfl)) (by rfl)
def c37_0 : C := .seq (.reg [iI 7 (.mv (.t 1)), iI 8 (.mv (.t 0)), iI 9 (.bin .leq (.t 7) (.t 8)), iI 10 (.mv (.t 9)), iG (some 11) 10 true (.mv (.t 0)), iG (some 12) 10 true (.mv (.t 2)), iG (some 13) 10 true (.bin .leq (.t 11) (.t 12)), iI 14 (.pick (.t 10) (.t 13) (.c (.bool false))), iI 6 (.mv (.t 14))]) .ret
def ir37 : C := .seq (.reg [iI 6 (.mv (.c (.bool false)))]) c37_0
theorem fd37 : fd? Try.prog 37 = some (15, [.slot 6], ir37) := by kernel_rfl
noncomputable def f37 (n_1774 : Int) (low_1775 : Int) (high_1776 : Int) : Option (Bool) :=
  (if (decide (low_1775 ≤ n_1774)) = true then (some (decide (n_1774 ≤ high_1776))) else (some false))
theorem f37_ok {n_1774 : Int} {low_1775 : Int} {high_1776 : Int} {r_ : Bool} (H : f37 n_1774 low_1775 high_1776 = some r_) : Pure Try.prog 37 [.int .i64 n_1774, .int .i64 low_1775, .int .i64 high_1776] (· = .bool r_) := by
  refine Pure.walk2 fd37 none (Nat.le_of_ble_eq_true rfl) (by rfl) fun Q hQ => ?_
  simp only [f37] at H
  refine AW.rseq ?_
  try simp only [↓wk, ↓wl, nc, evV, wrapBits_eq, ↓reduceIte, Nat.reduceEqDiff, Nat.reduceAdd, Nat.reduceSub, Nat.reduceLeDiff, Nat.reduceLT, Nat.reduceBEq, reduceCtorEq, Int.reduceEq]
  refine AW.rseq ?_
  try simp only [↓wk, ↓wl, nc, evV, wrapBits_eq, ↓reduceIte, Nat.reduceEqDiff, Nat.reduceAdd, Nat.reduceSub, Nat.reduceLeDiff, Nat.reduceLT, Nat.reduceBEq, reduceCtorEq, Int.reduceEq]
  refine evTs_ifg H (by rfl) ?_ ?_ <;> clear H <;> intro H
  · try simp only [↓wk, ↓wl, nc, evV, wrapBits_eq, ↓reduceIte, Nat.reduceEqDiff, Nat.reduceAdd, Nat.reduceSub, Nat.reduceLeDiff, Nat.reduceLT, Nat.reduceBEq, reduceCtorEq, Int.reduceEq]
    refine AW.ret ?_
    cases H
    exact hQ _ _ _ _ (.inr rfl) (by simp only [resVs, omap, resV, ↓wk, ↓wl, nc, evV, wrapBits_eq, ↓reduceIte, Nat.reduceEqDiff, Nat.reduceAdd, Nat.reduceSub, Nat.reduceLeDiff, Nat.reduceLT, Nat.reduceBEq, reduceCtorEq, Int.reduceEq]; rfl) (hand_plain (by rfl)) (by rfl)
  · try simp only [↓wk, ↓wl, nc, evV, wrapBits_eq, ↓reduceIte, Nat.reduceEqDiff, Nat.reduceAdd, Nat.reduceSub, Nat.reduceLeDiff, Nat.reduceLT, Nat.reduceBEq, reduceCtorEq, Int.reduceEq]
    refine AW.ret ?_
    cases H
    exact hQ _ _ _ _ (.inr rfl) (by simp only [resVs, omap, resV, ↓wk, ↓wl, nc, evV, wrapBits_eq, ↓reduceIte, Nat.reduceEqDiff, Nat.reduceAdd, Nat.reduceSub, Nat.reduceLeDiff, Nat.reduceLT, Nat.reduceBEq, reduceCtorEq, Int.reduceEq]; rfl) (hand_plain (by rfl)) (by rfl)
def c18_0 : C := .cond (.t 20) (.seq (.reg [iI 21 (.build [(1, (.int .u64 0)), (1, (.int .i64 0)), (1, (.int .i64 0)), (1, (.int .i64 0)), (1, (.sl 5 true []))] []), iN (.store 5 (.t 6) (.t 21)), iI 7 (.mv (.c (.int .i64 2)))]) .ret) (.skip)
def c18_1 : C := .seq (.reg [iI 22 (.mv (.t 0)), iI 23 (.mv (.t 1)), iI 24 (.mv (.t 2)), iI 25 (.build [(1, (.int .u64 0)), (1, (.int .i64 0)), (1, (.int .i64 0)), (1, (.int .i64 0)), (1, (.sl 5 true []))] [(0, 0, (.t 22)), (1, 0, (.t 23)), (2, 0, (.t 24))]), iN (.store 5 (.t 6) (.t 25)), iI 7 (.mv (.c (.int .i64 0)))]) .ret
def c18_2 : C := .seq (.seq (.reg [iI 8 (.mv (.t 0)), iI 9 (.call (.c (.fn 39 [])) [(.t 8)]), iI 10 (.un .not (.t 9)), iI 11 (.mv (.t 10)), iG (some 12) 11 false (.mv (.t 1)), iG (some 13) 11 false (.call (.c (.fn 37 [])) [(.t 12), (.c (.int .i64 0)), (.c (.int .i64 200))]), iG (some 14) 11 false (.un .not (.t 13)), iI 15 (.pick (.t 11) (.c (.bool true)) (.t 14)), iI 16 (.mv (.t 15)), iG (some 17) 16 false (.mv (.t 2)), iG (some 18) 16 false (.call (.c (.fn 37 [])) [(.t 17), (.c (.int .i64 0)), (.c (.int .i64 8))]), iG (some 19) 16 false (.un .not (.t 18)), iI 20 (.pick (.t 16) (.c (.bool true)) (.t 19))]) c18_0) c18_1
def ir18 : C := .seq (.reg [iI 6 (.alloc [(1, (.int .u64 0)), (1, (.int .i64 0)), (1, (.int .i64 0)), (1, (.int .i64 0)), (1, (.sl 5 true []))]), iI 7 (.mv (.c (.int .i64 0)))]) c18_2
theorem fd18 : fd? Try.prog 18 = some (26, [.cell 6 5, .slot 7], ir18) := by kernel_rfl
noncomputable def f18 (source_1769 : Int) (priority_1770 : Int) (sync_1771 : Int) : Option (Ref56Sender × Int) :=
  (f39 source_1769).bind fun r_1773 => (if (!r_1773) = true then (some ((Ref56Sender.mk 0 0 0 0 ([])), 2)) else (f37 priority_1770 0 200).bind fun r_1777 => (if (!r_1777) = true then (some ((Ref56Sender.mk 0 0 0 0 ([])), 2)) else (f37 sync_1771 0 8).bind fun r_1778 => (if (!r_1778) = true then (some ((Ref56Sender.mk 0 0 0 0 ([])), 2)) else (some ((Ref56Sender.mk source_1769 priority_1770 sync_1771 0 ([])), 0)))))
theorem f18_ok {source_1769 : Int} {priority_1770 : Int} {sync_1771 : Int} {r_ : Ref56Sender × Int} (H : f18 source_1769 priority_1770 sync_1771 = some r_) : Pure Try.prog 18 [.int .u64 source_1769, .int .i64 priority_1770, .int .i64 sync_1771] (· = .tup [.agg [.int .u64 r_.1.fSource, .int .i64 r_.1.fPriority, .int .i64 r_.1.fSync, .int .i64 r_.1.fPulse, .sl 5 false (r_.1.fStreams.map eRef56Stream)], .int .i64 r_.2]) := by
  refine Pure.walk2 fd18 none (Nat.le_of_ble_eq_true rfl) (by rfl) fun Q hQ => ?_
  simp only [f18] at H
  refine AW.rseq ?_
  try simp only [↓wk, ↓wl, nc, evV, wrapBits_eq, ↓reduceIte, Nat.reduceEqDiff, Nat.reduceAdd, Nat.reduceSub, Nat.reduceLeDiff, Nat.reduceLT, Nat.reduceBEq, reduceCtorEq, Int.reduceEq]
  refine AW.sseq ?_
  refine AW.rseq ?_
  try simp only [↓wk, ↓wl, nc, evV, wrapBits_eq, ↓reduceIte, Nat.reduceEqDiff, Nat.reduceAdd, Nat.reduceSub, Nat.reduceLeDiff, Nat.reduceLT, Nat.reduceBEq, reduceCtorEq, Int.reduceEq]
  refine evTs_pure hFn H (fun _ h => f39_ok h) (by rfl) (by rfl) (by rfl) (by rfl) (fun _ => rfl) ?_ <;> clear H <;> intro r_1773 H
  try simp only [eL, ↓wk, ↓wl, nc, evV, wrapBits_eq, ↓reduceIte, Nat.reduceEqDiff, Nat.reduceAdd, Nat.reduceSub, Nat.reduceLeDiff, Nat.reduceLT, Nat.reduceBEq, reduceCtorEq, Int.reduceEq]
  refine evTs_ifg H (by rfl) ?_ ?_ <;> clear H <;> intro H
  · try simp only [↓wk, ↓wl, nc, evV, wrapBits_eq, ↓reduceIte, Nat.reduceEqDiff, Nat.reduceAdd, Nat.reduceSub, Nat.reduceLeDiff, Nat.reduceLT, Nat.reduceBEq, reduceCtorEq, Int.reduceEq]
    refine AW.ift (by rfl) ?_
    refine AW.rseq ?_
    try simp only [↓wk, ↓wl, nc, evV, wrapBits_eq, ↓reduceIte, Nat.reduceEqDiff, Nat.reduceAdd, Nat.reduceSub, Nat.reduceLeDiff, Nat.reduceLT, Nat.reduceBEq, reduceCtorEq, Int.reduceEq]
    refine AW.ret ?_
    refine seqQ.ret ?_
    cases H
    exact hQ _ _ _ _ (.inr rfl) (by simp only [resVs, omap, resV, ↓wk, ↓wl, nc, evV, wrapBits_eq, ↓reduceIte, Nat.reduceEqDiff, Nat.reduceAdd, Nat.reduceSub, Nat.reduceLeDiff, Nat.reduceLT, Nat.reduceBEq, reduceCtorEq, Int.reduceEq]; rfl) (hand_plain (by rfl)) (by rfl)
  · try simp only [↓wk, ↓wl, nc, evV, wrapBits_eq, ↓reduceIte, Nat.reduceEqDiff, Nat.reduceAdd, Nat.reduceSub, Nat.reduceLeDiff, Nat.reduceLT, Nat.reduceBEq, reduceCtorEq, Int.reduceEq]
    refine evTs_pure hFn H (fun _ h => f37_ok h) (by rfl) (by rfl) (by rfl) (by rfl) (fun _ => rfl) ?_ <;> clear H <;> intro r_1777 H
    try simp only [eL, ↓wk, ↓wl, nc, evV, wrapBits_eq, ↓reduceIte, Nat.reduceEqDiff, Nat.reduceAdd, Nat.reduceSub, Nat.reduceLeDiff, Nat.reduceLT, Nat.reduceBEq, reduceCtorEq, Int.reduceEq]
    refine evTs_ifg H (by rfl) ?_ ?_ <;> clear H <;> intro H
    · try simp only [↓wk, ↓wl, nc, evV, wrapBits_eq, ↓reduceIte, Nat.reduceEqDiff, Nat.reduceAdd, Nat.reduceSub, Nat.reduceLeDiff, Nat.reduceLT, Nat.reduceBEq, reduceCtorEq, Int.reduceEq]
      refine AW.ift (by rfl) ?_
      refine AW.rseq ?_
      try simp only [↓wk, ↓wl, nc, evV, wrapBits_eq, ↓reduceIte, Nat.reduceEqDiff, Nat.reduceAdd, Nat.reduceSub, Nat.reduceLeDiff, Nat.reduceLT, Nat.reduceBEq, reduceCtorEq, Int.reduceEq]
      refine AW.ret ?_
      refine seqQ.ret ?_
      cases H
      exact hQ _ _ _ _ (.inr rfl) (by simp only [resVs, omap, resV, ↓wk, ↓wl, nc, evV, wrapBits_eq, ↓reduceIte, Nat.reduceEqDiff, Nat.reduceAdd, Nat.reduceSub, Nat.reduceLeDiff, Nat.reduceLT, Nat.reduceBEq, reduceCtorEq, Int.reduceEq]; rfl) (hand_plain (by rfl)) (by rfl)
    · try simp only [↓wk, ↓wl, nc, evV, wrapBits_eq, ↓reduceIte, Nat.reduceEqDiff, Nat.reduceAdd, Nat.reduceSub, Nat.reduceLeDiff, Nat.reduceLT, Nat.reduceBEq, reduceCtorEq, Int.reduceEq]
      refine evTs_pure hFn H (fun _ h => f37_ok h) (by rfl) (by rfl) (by rfl) (by rfl) (fun _ => rfl) ?_ <;> clear H <;> intro r_1778 H
      try simp only [eL, ↓wk, ↓wl, nc, evV, wrapBits_eq, ↓reduceIte, Nat.reduceEqDiff, Nat.reduceAdd, Nat.reduceSub, Nat.reduceLeDiff, Nat.reduceLT, Nat.reduceBEq, reduceCtorEq, Int.reduceEq]
      refine AW.ifc H (by rfl) ?_ ?_ <;> clear H <;> intro H
      · refine AW.rseq ?_
        try simp only [↓wk, ↓wl, nc, evV, wrapBits_eq, ↓reduceIte, Nat.reduceEqDiff, Nat.reduceAdd, Nat.reduceSub, Nat.reduceLeDiff, Nat.reduceLT, Nat.reduceBEq, reduceCtorEq, Int.reduceEq]
        refine AW.ret ?_
        refine seqQ.ret ?_
        cases H
        exact hQ _ _ _ _ (.inr rfl) (by simp only [resVs, omap, resV, ↓wk, ↓wl, nc, evV, wrapBits_eq, ↓reduceIte, Nat.reduceEqDiff, Nat.reduceAdd, Nat.reduceSub, Nat.reduceLeDiff, Nat.reduceLT, Nat.reduceBEq, reduceCtorEq, Int.reduceEq]; rfl) (hand_plain (by rfl)) (by rfl)
      · refine AW.skip ?_
        refine seqQ.norm ?_
        refine AW.rseq ?_
        try simp only [↓wk, ↓wl, nc, evV, wrapBits_eq, ↓reduceIte, Nat.reduceEqDiff, Nat.reduceAdd, Nat.reduceSub, Nat.reduceLeDiff, Nat.reduceLT, Nat.reduceBEq, reduceCtorEq, Int.reduceEq]
        refine AW.ret ?_
        cases H
        exact hQ _ _ _ _ (.inr rfl) (by simp only [resVs, omap, resV, ↓wk, ↓wl, nc, evV, wrapBits_eq, ↓reduceIte, Nat.reduceEqDiff, Nat.reduceAdd, Nat.reduceSub, Nat.reduceLeDiff, Nat.reduceLT, Nat.reduceBEq, reduceCtorEq, Int.reduceEq]; rfl) (hand_plain (by rfl)) (by rfl)
noncomputable def f19_L1 (a_1782 : Ref56Sender) (b_1783 : Ref56Sender) : Lp (Int) ((Unit) ⊕ (Unit)) where
  body := fun i_1789 => (if (decide (i_1789 < ((a_1782.fStreams.length : Nat) : Int))) = true then (at? a_1782.fStreams i_1789).bind fun x_1792 => (at? b_1783.fStreams i_1789).bind fun x_1793 => (if (!((x_1792.fUniverse == x_1793.fUniverse) && ((x_1792.fSeq == x_1793.fSeq) && ((x_1792.fLast == x_1793.fLast) && ((x_1792.fTimes == x_1793.fTimes) && ((x_1792.fSlots == x_1793.fSlots) && true)))))) = true then (some (.brk (Sum.inr ()))) else (some (.next (IntKind.i64.wrap (i_1789 + 1))))) else (some (.brk (Sum.inl ()))))
  cst := fun i_1789 => ⟨put (put (put (fun _ => .junk) 5 (.int .i64 i_1789)) 3 (.ptr 1 0)) 2 (.ptr 0 0), [.cel [.int .u64 a_1782.fSource, .int .i64 a_1782.fPriority, .int .i64 a_1782.fSync, .int .i64 a_1782.fPulse, .sl 5 false (a_1782.fStreams.map eRef56Stream)], .cel [.int .u64 b_1783.fSource, .int .i64 b_1783.fPriority, .int .i64 b_1783.fSync, .int .i64 b_1783.fPulse, .sl 5 false (b_1783.fStreams.map eRef56Stream)]]⟩
def c19_0 : C := .cond (.t 40) (.seq (.reg [iI 4 (.mv (.c (.bool false)))]) .ret) (.skip)
def c19_1 : C := .cond (.t 45) (.skip) (.exit 0)
def c19_2 : C := .cond (.t 58) (.seq (.reg [iI 4 (.mv (.c (.bool false)))]) .ret) (.skip)
def c19_3 : C := .reg [iI 46 (.mv (.t 5)), iI 47 (.bin .add (.t 46) (.c (.int .i64 1))), iI 5 (.mv (.t 47))]
def c19_4 : C := .seq (.block 1 (.seq (.reg [iI 48 (.faddr 4 (.t 2)), iI 49 (.load 0 (.t 48)), iI 50 (.mv (.t 5)), iI 51 (.iaddr 5 (.t 49) (.t 50)), iI 52 (.load 5 (.t 51)), iI 53 (.faddr 4 (.t 3)), iI 54 (.load 0 (.t 53)), iI 55 (.mv (.t 5)), iI 56 (.iaddr 5 (.t 54) (.t 55)), iI 57 (.load 5 (.t 56)), iI 58 (.eqs true [0, 0, 0, 0, 1] (.t 52) (.t 57))]) c19_2)) c19_3
def c19_5 : C := .block 0 (.loop (.seq (.seq (.reg [iI 41 (.mv (.t 5)), iI 42 (.faddr 4 (.t 2)), iI 43 (.load 0 (.t 42)), iI 44 (.len 0 (.t 43)), iI 45 (.bin .lss (.t 41) (.t 44))]) c19_1) c19_4))
def c19_6 : C := .seq (.reg [iI 4 (.mv (.c (.bool true)))]) .ret
def c19_7 : C := .seq (.seq (.reg [iI 5 (.mv (.c (.int .i64 0)))]) c19_5) c19_6
def c19_8 : C := .seq (.seq (.reg [iI 6 (.faddr 0 (.t 2)), iI 7 (.load 0 (.t 6)), iI 8 (.faddr 0 (.t 3)), iI 9 (.load 0 (.t 8)), iI 10 (.bin .neq (.t 7) (.t 9)), iI 11 (.mv (.t 10)), iG (some 12) 11 false (.faddr 1 (.t 2)), iG (some 13) 11 false (.load 0 (.t 12)), iG (some 14) 11 false (.faddr 1 (.t 3)), iG (some 15) 11 false (.load 0 (.t 14)), iG (some 16) 11 false (.bin .neq (.t 13) (.t 15)), iI 17 (.pick (.t 11) (.c (.bool true)) (.t 16)), iI 18 (.mv (.t 17)), iG (some 19) 18 false (.faddr 2 (.t 2)), iG (some 20) 18 false (.load 0 (.t 19)), iG (some 21) 18 false (.faddr 2 (.t 3)), iG (some 22) 18 false (.load 0 (.t 21)), iG (some 23) 18 false (.bin .neq (.t 20) (.t 22)), iI 24 (.pick (.t 18) (.c (.bool true)) (.t 23)), iI 25 (.mv (.t 24)), iG (some 26) 25 false (.faddr 3 (.t 2)), iG (some 27) 25 false (.load 0 (.t 26)), iG (some 28) 25 false (.faddr 3 (.t 3)), iG (some 29) 25 false (.load 0 (.t 28)), iG (some 30) 25 false (.bin .neq (.t 27) (.t 29)), iI 31 (.pick (.t 25) (.c (.bool true)) (.t 30)), iI 32 (.mv (.t 31)), iG (some 33) 32 false (.faddr 4 (.t 2)), iG (some 34) 32 false (.load 0 (.t 33)), iG (some 35) 32 false (.len 0 (.t 34)), iG (some 36) 32 false (.faddr 4 (.t 3)), iG (some 37) 32 false (.load 0 (.t 36)), iG (some 38) 32 false (.len 0 (.t 37)), iG (some 39) 32 false (.bin .neq (.t 35) (.t 38)), iI 40 (.pick (.t 32) (.c (.bool true)) (.t 39))]) c19_0) c19_7
def ir19 : C := .seq (.reg [iI 2 (.box (.t 0)), iI 3 (.box (.t 1)), iI 4 (.mv (.c (.bool false)))]) c19_8
theorem fd19 : fd? Try.prog 19 = some (59, [.slot 4], ir19) := by kernel_rfl
noncomputable def f19 (a_1782 : Ref56Sender) (b_1783 : Ref56Sender) : Option (Bool) :=
  (if (decide (a_1782.fSource ≠ b_1783.fSource)) = true then (some false) else (if (decide (a_1782.fPriority ≠ b_1783.fPriority)) = true then (some false) else (if (decide (a_1782.fSync ≠ b_1783.fSync)) = true then (some false) else (if (decide (a_1782.fPulse ≠ b_1783.fPulse)) = true then (some false) else (if (decide (((a_1782.fStreams.length : Nat) : Int) ≠ ((b_1783.fStreams.length : Nat) : Int))) = true then (some false) else ((Lp.run (f19_L1 a_1782 b_1783) 0).bind fun r_ => match r_ with | (Sum.inl _) => (some true) | (Sum.inr _) => (some false)))))))
theorem f19_ok {a_1782 : Ref56Sender} {b_1783 : Ref56Sender} {r_ : Bool} (H : f19 a_1782 b_1783 = some r_) : Pure Try.prog 19 [.agg [.int .u64 a_1782.fSource, .int .i64 a_1782.fPriority, .int .i64 a_1782.fSync, .int .i64 a_1782.fPulse, .sl 5 false (a_1782.fStreams.map eRef56Stream)], .agg [.int .u64 b_1783.fSource, .int .i64 b_1783.fPriority, .int .i64 b_1783.fSync, .int .i64 b_1783.fPulse, .sl 5 false (b_1783.fStreams.map eRef56Stream)]] (· = .bool r_) := by
  refine Pure.walk2 fd19 none (Nat.le_of_ble_eq_true rfl) (by rfl) fun Q hQ => ?_
  simp only [f19] at H
  refine AW.rseq ?_
  try simp only [↓wk, ↓wl, nc, evV, wrapBits_eq, ↓reduceIte, Nat.reduceEqDiff, Nat.reduceAdd, Nat.reduceSub, Nat.reduceLeDiff, Nat.reduceLT, Nat.reduceBEq, reduceCtorEq, Int.reduceEq]
  refine AW.sseq ?_
  refine AW.rseq ?_
  try simp only [↓wk, ↓wl, nc, evV, wrapBits_eq, ↓reduceIte, Nat.reduceEqDiff, Nat.reduceAdd, Nat.reduceSub, Nat.reduceLeDiff, Nat.reduceLT, Nat.reduceBEq, reduceCtorEq, Int.reduceEq]
  refine evTs_ifg H (by rfl) ?_ ?_ <;> clear H <;> intro H
  · try simp only [↓wk, ↓wl, nc, evV, wrapBits_eq, ↓reduceIte, Nat.reduceEqDiff, Nat.reduceAdd, Nat.reduceSub, Nat.reduceLeDiff, Nat.reduceLT, Nat.reduceBEq, reduceCtorEq, Int.reduceEq]
    refine AW.ift (by rfl) ?_
    refine AW.rseq ?_
    try simp only [↓wk, ↓wl, nc, evV, wrapBits_eq, ↓reduceIte, Nat.reduceEqDiff, Nat.reduceAdd, Nat.reduceSub, Nat.reduceLeDiff, Nat.reduceLT, Nat.reduceBEq, reduceCtorEq, Int.reduceEq]
    refine AW.ret ?_
    refine seqQ.ret ?_
    cases H
    exact hQ _ _ _ _ (.inr rfl) (by simp only [resVs, omap, resV, ↓wk, ↓wl, nc, evV, wrapBits_eq, ↓reduceIte, Nat.reduceEqDiff, Nat.reduceAdd, Nat.reduceSub, Nat.reduceLeDiff, Nat.reduceLT, Nat.reduceBEq, reduceCtorEq, Int.reduceEq]; rfl) (hand_plain (by rfl)) (by rfl)
  · try simp only [↓wk, ↓wl, nc, evV, wrapBits_eq, ↓reduceIte, Nat.reduceEqDiff, Nat.reduceAdd, Nat.reduceSub, Nat.reduceLeDiff, Nat.reduceLT, Nat.reduceBEq, reduceCtorEq, Int.reduceEq]
    refine evTs_ifg H (by rfl) ?_ ?_ <;> clear H <;> intro H
    · try simp only [↓wk, ↓wl, nc, evV, wrapBits_eq, ↓reduceIte, Nat.reduceEqDiff, Nat.reduceAdd, Nat.reduceSub, Nat.reduceLeDiff, Nat.reduceLT, Nat.reduceBEq, reduceCtorEq, Int.reduceEq]
      refine AW.ift (by rfl) ?_
      refine AW.rseq ?_
      try simp only [↓wk, ↓wl, nc, evV, wrapBits_eq, ↓reduceIte, Nat.reduceEqDiff, Nat.reduceAdd, Nat.reduceSub, Nat.reduceLeDiff, Nat.reduceLT, Nat.reduceBEq, reduceCtorEq, Int.reduceEq]
      refine AW.ret ?_
      refine seqQ.ret ?_
      cases H
      exact hQ _ _ _ _ (.inr rfl) (by simp only [resVs, omap, resV, ↓wk, ↓wl, nc, evV, wrapBits_eq, ↓reduceIte, Nat.reduceEqDiff, Nat.reduceAdd, Nat.reduceSub, Nat.reduceLeDiff, Nat.reduceLT, Nat.reduceBEq, reduceCtorEq, Int.reduceEq]; rfl) (hand_plain (by rfl)) (by rfl)
    · try simp only [↓wk, ↓wl, nc, evV, wrapBits_eq, ↓reduceIte, Nat.reduceEqDiff, Nat.reduceAdd, Nat.reduceSub, Nat.reduceLeDiff, Nat.reduceLT, Nat.reduceBEq, reduceCtorEq, Int.reduceEq]
      refine evTs_ifg H (by rfl) ?_ ?_ <;> clear H <;> intro H
      · try simp only [↓wk, ↓wl, nc, evV, wrapBits_eq, ↓reduceIte, Nat.reduceEqDiff, Nat.reduceAdd, Nat.reduceSub, Nat.reduceLeDiff, Nat.reduceLT, Nat.reduceBEq, reduceCtorEq, Int.reduceEq]
        refine AW.ift (by rfl) ?_
        refine AW.rseq ?_
        try simp only [↓wk, ↓wl, nc, evV, wrapBits_eq, ↓reduceIte, Nat.reduceEqDiff, Nat.reduceAdd, Nat.reduceSub, Nat.reduceLeDiff, Nat.reduceLT, Nat.reduceBEq, reduceCtorEq, Int.reduceEq]
        refine AW.ret ?_
        refine seqQ.ret ?_
        cases H
        exact hQ _ _ _ _ (.inr rfl) (by simp only [resVs, omap, resV, ↓wk, ↓wl, nc, evV, wrapBits_eq, ↓reduceIte, Nat.reduceEqDiff, Nat.reduceAdd, Nat.reduceSub, Nat.reduceLeDiff, Nat.reduceLT, Nat.reduceBEq, reduceCtorEq, Int.reduceEq]; rfl) (hand_plain (by rfl)) (by rfl)
      · try simp only [↓wk, ↓wl, nc, evV, wrapBits_eq, ↓reduceIte, Nat.reduceEqDiff, Nat.reduceAdd, Nat.reduceSub, Nat.reduceLeDiff, Nat.reduceLT, Nat.reduceBEq, reduceCtorEq, Int.reduceEq]
        refine evTs_ifg H (by rfl) ?_ ?_ <;> clear H <;> intro H
        · try simp only [↓wk, ↓wl, nc, evV, wrapBits_eq, ↓reduceIte, Nat.reduceEqDiff, Nat.reduceAdd, Nat.reduceSub, Nat.reduceLeDiff, Nat.reduceLT, Nat.reduceBEq, reduceCtorEq, Int.reduceEq]
          refine AW.ift (by rfl) ?_
          refine AW.rseq ?_
          try simp only [↓wk, ↓wl, nc, evV, wrapBits_eq, ↓reduceIte, Nat.reduceEqDiff, Nat.reduceAdd, Nat.reduceSub, Nat.reduceLeDiff, Nat.reduceLT, Nat.reduceBEq, reduceCtorEq, Int.reduceEq]
          refine AW.ret ?_
          refine seqQ.ret ?_
          cases H
          exact hQ _ _ _ _ (.inr rfl) (by simp only [resVs, omap, resV, ↓wk, ↓wl, nc, evV, wrapBits_eq, ↓reduceIte, Nat.reduceEqDiff, Nat.reduceAdd, Nat.reduceSub, Nat.reduceLeDiff, Nat.reduceLT, Nat.reduceBEq, reduceCtorEq, Int.reduceEq]; rfl) (hand_plain (by rfl)) (by rfl)
        · try simp only [↓wk, ↓wl, nc, evV, wrapBits_eq, ↓reduceIte, Nat.reduceEqDiff, Nat.reduceAdd, Nat.reduceSub, Nat.reduceLeDiff, Nat.reduceLT, Nat.reduceBEq, reduceCtorEq, Int.reduceEq]
          refine AW.ifc H (by rfl) ?_ ?_ <;> clear H <;> intro H
          · refine AW.rseq ?_
            try simp only [↓wk, ↓wl, nc, evV, wrapBits_eq, ↓reduceIte, Nat.reduceEqDiff, Nat.reduceAdd, Nat.reduceSub, Nat.reduceLeDiff, Nat.reduceLT, Nat.reduceBEq, reduceCtorEq, Int.reduceEq]
            refine AW.ret ?_
            refine seqQ.ret ?_
            cases H
            exact hQ _ _ _ _ (.inr rfl) (by simp only [resVs, omap, resV, ↓wk, ↓wl, nc, evV, wrapBits_eq, ↓reduceIte, Nat.reduceEqDiff, Nat.reduceAdd, Nat.reduceSub, Nat.reduceLeDiff, Nat.reduceLT, Nat.reduceBEq, reduceCtorEq, Int.reduceEq]; rfl) (hand_plain (by rfl)) (by rfl)
          · refine AW.skip ?_
            refine seqQ.norm ?_
            refine AW.sseq ?_
            refine AW.rseq ?_
            try simp only [↓wk, ↓wl, nc, evV, wrapBits_eq, ↓reduceIte, Nat.reduceEqDiff, Nat.reduceAdd, Nat.reduceSub, Nat.reduceLeDiff, Nat.reduceLT, Nat.reduceBEq, reduceCtorEq, Int.reduceEq]
            refine AW.bend ?_
            refine AW.iter H ((Le.none [0, 1] [2, 3, 5] (by decide) (by simp only [f19_L1, List.length_set, Option.map_some, restrict_eq, renS_nil, renS_cons, renB_els, renB_cel, renB_dead, deep_eq, map_ren_enc, ren_agg', ren_tup', ren_fn', ren_int', ren_bool', ren_str', ren_sl', ren_pro', ren_nilp', ren_nilfn', ren_junk', ren_ptr', ren_row', ren_arow', ren_eptr', vm, List.idxOf?_cons, List.idxOf?_nil, beq_self_eq_true, Option.map_none, List.getD_cons_zero, List.getD_cons_succ, ↓wk, ↓wl, nc, evV, wrapBits_eq, ↓reduceIte, Nat.reduceEqDiff, Nat.reduceAdd, Nat.reduceSub, Nat.reduceLeDiff, Nat.reduceLT, Nat.reduceBEq, reduceCtorEq, Int.reduceEq]))) ?_ <;> clear H
            rintro i_1789 x_ st0_ H hst_
            simp only [f19_L1] at H hst_
            subst hst_
            refine AW.sseq ?_
            refine AW.rseq ?_
            try simp only [↓wk, ↓wl, nc, evV, wrapBits_eq, ↓reduceIte, Nat.reduceEqDiff, Nat.reduceAdd, Nat.reduceSub, Nat.reduceLeDiff, Nat.reduceLT, Nat.reduceBEq, reduceCtorEq, Int.reduceEq]
            refine AW.ifc H (by rfl) ?_ ?_ <;> clear H <;> intro H
            · refine AW.skip ?_
              refine seqQ.norm ?_
              refine AW.bseq ?_
              refine AW.rseq ?_
              try simp only [↓wk, ↓wl, nc, evV, wrapBits_eq, ↓reduceIte, Nat.reduceEqDiff, Nat.reduceAdd, Nat.reduceSub, Nat.reduceLeDiff, Nat.reduceLT, Nat.reduceBEq, reduceCtorEq, Int.reduceEq]
              refine evTs_at (enc := eRef56Stream) H (by rfl) (by rfl) ?_ <;> clear H <;> intro x_1792 H
              try simp only [eRef56Stream, eL, ↓wk, ↓wl, nc, evV, wrapBits_eq, ↓reduceIte, Nat.reduceEqDiff, Nat.reduceAdd, Nat.reduceSub, Nat.reduceLeDiff, Nat.reduceLT, Nat.reduceBEq, reduceCtorEq, Int.reduceEq]
              refine evTs_at (enc := eRef56Stream) H (by rfl) (by rfl) ?_ <;> clear H <;> intro x_1793 H
              try simp only [eRef56Stream, eL, ↓wk, ↓wl, nc, evV, wrapBits_eq, ↓reduceIte, Nat.reduceEqDiff, Nat.reduceAdd, Nat.reduceSub, Nat.reduceLeDiff, Nat.reduceLT, Nat.reduceBEq, reduceCtorEq, Int.reduceEq]
              refine rest_neqs (by rfl) ?_
              try simp only [↓wk, ↓wl, nc, evV, wrapBits_eq, ↓reduceIte, Nat.reduceEqDiff, Nat.reduceAdd, Nat.reduceSub, Nat.reduceLeDiff, Nat.reduceLT, Nat.reduceBEq, reduceCtorEq, Int.reduceEq]
              refine AW.ifc H (by rfl) ?_ ?_ <;> clear H <;> intro H
              · refine AW.rseq ?_
                try simp only [↓wk, ↓wl, nc, evV, wrapBits_eq, ↓reduceIte, Nat.reduceEqDiff, Nat.reduceAdd, Nat.reduceSub, Nat.reduceLeDiff, Nat.reduceLT, Nat.reduceBEq, reduceCtorEq, Int.reduceEq]
                refine AW.ret ?_
                refine blkQ.ret ?_
                refine loopQ.ret H ?_ <;> clear H <;> intro H
                try dsimp only at H
                refine blk0.ret ?_
                refine seqQ.ret ?_
                cases H
                exact hQ _ _ _ _ (.inr rfl) (by simp only [resVs, omap, resV, ↓wk, ↓wl, nc, evV, wrapBits_eq, ↓reduceIte, Nat.reduceEqDiff, Nat.reduceAdd, Nat.reduceSub, Nat.reduceLeDiff, Nat.reduceLT, Nat.reduceBEq, reduceCtorEq, Int.reduceEq]; rfl) (hand_plain (by rfl)) (by rfl)
              · refine AW.skip ?_
                refine blkQ.norm ?_
                refine AW.rend ?_
                try simp only [↓wk, ↓wl, nc, evV, wrapBits_eq, ↓reduceIte, Nat.reduceEqDiff, Nat.reduceAdd, Nat.reduceSub, Nat.reduceLeDiff, Nat.reduceLT, Nat.reduceBEq, reduceCtorEq, Int.reduceEq]
                exact loopQ.next H ((Le.none [0, 1] [2, 3, 5] (by decide) (by simp only [f19_L1, List.length_set, Option.map_some, restrict_eq, renS_nil, renS_cons, renB_els, renB_cel, renB_dead, deep_eq, map_ren_enc, ren_agg', ren_tup', ren_fn', ren_int', ren_bool', ren_str', ren_sl', ren_pro', ren_nilp', ren_nilfn', ren_junk', ren_ptr', ren_row', ren_arow', ren_eptr', vm, List.idxOf?_cons, List.idxOf?_nil, beq_self_eq_true, Option.map_none, List.getD_cons_zero, List.getD_cons_succ, ↓wk, ↓wl, nc, evV, wrapBits_eq, ↓reduceIte, Nat.reduceEqDiff, Nat.reduceAdd, Nat.reduceSub, Nat.reduceLeDiff, Nat.reduceLT, Nat.reduceBEq, reduceCtorEq, Int.reduceEq])))
            · refine AW.exit ?_
              refine seqQ.exit ?_
              refine loopQ.exit H ?_ <;> clear H <;> intro H
              try dsimp only at H
              refine blk0.here ?_
              refine seqQ.norm ?_
              refine AW.rseq ?_
              try simp only [↓wk, ↓wl, nc, evV, wrapBits_eq, ↓reduceIte, Nat.reduceEqDiff, Nat.reduceAdd, Nat.reduceSub, Nat.reduceLeDiff, Nat.reduceLT, Nat.reduceBEq, reduceCtorEq, Int.reduceEq]
              refine AW.ret ?_
              cases H
              exact hQ _ _ _ _ (.inr rfl) (by simp only [resVs, omap, resV, ↓wk, ↓wl, nc, evV, wrapBits_eq, ↓reduceIte, Nat.reduceEqDiff, Nat.reduceAdd, Nat.reduceSub, Nat.reduceLeDiff, Nat.reduceLT, Nat.reduceBEq, reduceCtorEq, Int.reduceEq]; rfl) (hand_plain (by rfl)) (by rfl)
noncomputable def f21_L1 (s_1797 : Ref56Sender) : Lp (Int) ((Unit) ⊕ (Int)) where
  body := fun i_1823 => (if (decide (i_1823 < ((s_1797.fStreams.length : Nat) : Int))) = true then (at? s_1797.fStreams i_1823).bind fun x_1835 => (f37 x_1835.fUniverse 1 8).bind fun r_1840 => (if (!r_1840) = true then (some (.brk (Sum.inr 2))) else (f37 x_1835.fSeq 0 255).bind fun r_1841 => (if (!r_1841) = true then (some (.brk (Sum.inr 2))) else (f37 x_1835.fLast 0 10000000).bind fun r_1842 => (if (!r_1842) = true then (some (.brk (Sum.inr 2))) else (f37 x_1835.fTimes 1 3).bind fun r_1843 => (if (!r_1843) = true then (some (.brk (Sum.inr 2))) else (if (decide (((x_1835.fSlots.length : Nat) : Int) ≠ 512)) = true then (some (.brk (Sum.inr 14))) else (if (decide (0 < i_1823)) = true then (at? s_1797.fStreams (IntKind.i64.wrap (i_1823 - 1))).bind fun x_1844 => (if (decide (x_1835.fUniverse ≤ x_1844.fUniverse)) = true then (some (.brk (Sum.inr 9))) else (some (.next (IntKind.i64.wrap (i_1823 + 1))))) else (some (.next (IntKind.i64.wrap (i_1823 + 1)))))))))) else (some (.brk (Sum.inl ()))))
  cst := fun i_1823 => ⟨put (put (fun _ => .junk) 5 (.int .i64 i_1823)) 1 (.ptr 0 0), [.cel [.int .u64 s_1797.fSource, .int .i64 s_1797.fPriority, .int .i64 s_1797.fSync, .int .i64 s_1797.fPulse, .sl 5 false (s_1797.fStreams.map eRef56Stream)]]⟩
def c21_0 : C := .cond (.t 24) (.seq (.reg [iI 2 (.mv (.c (.int .i64 2)))]) .ret) (.skip)
def c21_1 : C := .seq (.reg [iI 17 (.mv (.t 4)), iI 18 (.bin .neq (.t 17) (.c (.int .i64 0))), iI 19 (.mv (.t 18)), iG (some 20) 19 false (.faddr 3 (.t 1)), iG (some 21) 19 false (.load 0 (.t 20)), iG (some 22) 19 false (.call (.c (.fn 37 [])) [(.t 21), (.c (.int .i64 0)), (.c (.int .i64 255))]), iG (some 23) 19 false (.un .not (.t 22)), iI 24 (.pick (.t 19) (.c (.bool true)) (.t 23))]) c21_0
def c21_2 : C := .cond (.t 28) (.seq (.reg [iI 2 (.mv (.c (.int .i64 5)))]) .ret) (.skip)
def c21_3 : C := .cond (.t 33) (.skip) (.exit 0)
def c21_4 : C := .cond (.t 62) (.seq (.reg [iI 2 (.mv (.c (.int .i64 2)))]) .ret) (.skip)
def c21_5 : C := .cond (.t 66) (.seq (.reg [iI 2 (.mv (.c (.int .i64 14)))]) .ret) (.skip)
def c21_6 : C := .cond (.t 80) (.seq (.reg [iI 2 (.mv (.c (.int .i64 9)))]) .ret) (.skip)
def c21_7 : C := .seq (.reg [iI 67 (.mv (.t 5)), iI 68 (.bin .gtr (.t 67) (.c (.int .i64 0))), iI 69 (.mv (.t 68)), iG (some 70) 69 true (.faddr 0 (.t 6)), iG (some 71) 69 true (.load 0 (.t 70)), iG (some 72) 69 true (.faddr 4 (.t 1)), iG (some 73) 69 true (.load 0 (.t 72)), iG (some 74) 69 true (.mv (.t 5)), iG (some 75) 69 true (.bin .sub (.t 74) (.c (.int .i64 1))), iG (some 76) 69 true (.iaddr 5 (.t 73) (.t 75)), iG (some 77) 69 true (.faddr 0 (.t 76)), iG (some 78) 69 true (.load 0 (.t 77)), iG (some 79) 69 true (.bin .leq (.t 71) (.t 78)), iI 80 (.pick (.t 69) (.t 79) (.c (.bool false)))]) c21_6
def c21_8 : C := .seq (.seq (.reg [iI 63 (.faddr 4 (.t 6)), iI 64 (.load 0 (.t 63)), iI 65 (.len 1 (.t 64)), iI 66 (.bin .neq (.t 65) (.c (.int .i64 512)))]) c21_5) c21_7
def c21_9 : C := .seq (.seq (.reg [iI 41 (.faddr 0 (.t 6)), iI 42 (.load 0 (.t 41)), iI 43 (.call (.c (.fn 37 [])) [(.t 42), (.c (.int .i64 1)), (.c (.int .i64 8))]), iI 44 (.un .not (.t 43)), iI 45 (.mv (.t 44)), iG (some 46) 45 false (.faddr 1 (.t 6)), iG (some 47) 45 false (.load 0 (.t 46)), iG (some 48) 45 false (.call (.c (.fn 37 [])) [(.t 47), (.c (.int .i64 0)), (.c (.int .i64 255))]), iG (some 49) 45 false (.un .not (.t 48)), iI 50 (.pick (.t 45) (.c (.bool true)) (.t 49)), iI 51 (.mv (.t 50)), iG (some 52) 51 false (.faddr 2 (.t 6)), iG (some 53) 51 false (.load 0 (.t 52)), iG (some 54) 51 false (.call (.c (.fn 37 [])) [(.t 53), (.c (.int .i64 0)), (.c (.int .i64 10000000))]), iG (some 55) 51 false (.un .not (.t 54)), iI 56 (.pick (.t 51) (.c (.bool true)) (.t 55)), iI 57 (.mv (.t 56)), iG (some 58) 57 false (.faddr 3 (.t 6)), iG (some 59) 57 false (.load 0 (.t 58)), iG (some 60) 57 false (.call (.c (.fn 37 [])) [(.t 59), (.c (.int .i64 1)), (.c (.int .i64 3))]), iG (some 61) 57 false (.un .not (.t 60)), iI 62 (.pick (.t 57) (.c (.bool true)) (.t 61))]) c21_4) c21_8
def c21_10 : C := .reg [iI 34 (.mv (.t 5)), iI 35 (.bin .add (.t 34) (.c (.int .i64 1))), iI 5 (.mv (.t 35))]
def c21_11 : C := .seq (.block 1 (.seq (.reg [iI 36 (.faddr 4 (.t 1)), iI 37 (.load 0 (.t 36)), iI 38 (.mv (.t 5)), iI 39 (.iaddr 5 (.t 37) (.t 38)), iI 40 (.load 5 (.t 39)), iI 6 (.alloc [(1, (.int .i64 0)), (1, (.int .i64 0)), (1, (.int .i64 0)), (1, (.int .i64 0)), (1, (.str []))]), iN (.store 5 (.t 6) (.t 40))]) c21_9)) c21_10
def c21_12 : C := .block 0 (.loop (.seq (.seq (.reg [iI 29 (.mv (.t 5)), iI 30 (.faddr 4 (.t 1)), iI 31 (.load 0 (.t 30)), iI 32 (.len 0 (.t 31)), iI 33 (.bin .lss (.t 29) (.t 32))]) c21_3) c21_11))
def c21_13 : C := .seq (.reg [iI 2 (.mv (.c (.int .i64 0)))]) .ret
def c21_14 : C := .seq (.seq (.reg [iI 5 (.mv (.c (.int .i64 0)))]) c21_12) c21_13
def c21_15 : C := .seq (.seq (.reg [iI 25 (.faddr 4 (.t 1)), iI 26 (.load 0 (.t 25)), iI 27 (.len 0 (.t 26)), iI 28 (.bin .gtr (.t 27) (.c (.int .i64 8)))]) c21_2) c21_14
def c21_16 : C := .seq (.seq (.reg [iI 8 (.faddr 0 (.t 1)), iI 9 (.load 0 (.t 8)), iI 10 (.faddr 1 (.t 1)), iI 11 (.load 0 (.t 10)), iI 12 (.faddr 2 (.t 1)), iI 13 (.load 0 (.t 12)), iI 14 (.call (.c (.fn 18 [])) [(.t 9), (.t 11), (.t 13)]), iI 7 (.mv (.t 14)), iI 15 (.ext (.t 7) 0), iI 16 (.ext (.t 7) 1), iI 3 (.alloc [(1, (.int .u64 0)), (1, (.int .i64 0)), (1, (.int .i64 0)), (1, (.int .i64 0)), (1, (.sl 5 true []))]), iN (.store 5 (.t 3) (.t 15)), iI 4 (.mv (.t 16))]) c21_1) c21_15
def ir21 : C := .seq (.reg [iI 1 (.box (.t 0)), iI 2 (.mv (.c (.int .i64 0)))]) c21_16
theorem fd21 : fd? Try.prog 21 = some (81, [.slot 2], ir21) := by kernel_rfl
noncomputable def f21 (s_1797 : Ref56Sender) : Option (Int) :=
  (f18 s_1797.fSource s_1797.fPriority s_1797.fSync).bind fun r_1800 => (if (decide (r_1800.2 ≠ 0)) = true then (some 2) else (f37 s_1797.fPulse 0 255).bind fun r_1801 => (if (!r_1801) = true then (some 2) else (if (decide (8 < ((s_1797.fStreams.length : Nat) : Int))) = true then (some 5) else ((Lp.run (f21_L1 s_1797) 0).bind fun r_ => match r_ with | (Sum.inl _) => (some 0) | (Sum.inr v_1834) => (some v_1834)))))
theorem f21_ok {s_1797 : Ref56Sender} {r_ : Int} (H : f21 s_1797 = some r_) : Pure Try.prog 21 [.agg [.int .u64 s_1797.fSource, .int .i64 s_1797.fPriority, .int .i64 s_1797.fSync, .int .i64 s_1797.fPulse, .sl 5 false (s_1797.fStreams.map eRef56Stream)]] (· = .int .i64 r_) := by
  refine Pure.walk2 fd21 none (Nat.le_of_ble_eq_true rfl) (by rfl) fun Q hQ => ?_
  simp only [f21] at H
  refine AW.rseq ?_
  try simp only [↓wk, ↓wl, nc, evV, wrapBits_eq, ↓reduceIte, Nat.reduceEqDiff, Nat.reduceAdd, Nat.reduceSub, Nat.reduceLeDiff, Nat.reduceLT, Nat.reduceBEq, reduceCtorEq, Int.reduceEq]
  refine AW.sseq ?_
  refine AW.rseq ?_
  try simp only [↓wk, ↓wl, nc, evV, wrapBits_eq, ↓reduceIte, Nat.reduceEqDiff, Nat.reduceAdd, Nat.reduceSub, Nat.reduceLeDiff, Nat.reduceLT, Nat.reduceBEq, reduceCtorEq, Int.reduceEq]
  refine evTs_pure hFn H (fun _ h => f18_ok h) (by rfl) (by rfl) (by rfl) (by rfl) (fun _ => rfl) ?_ <;> clear H <;> intro r_1800 H
  try simp only [eL, eRef56Sender, ↓wk, ↓wl, nc, evV, wrapBits_eq, ↓reduceIte, Nat.reduceEqDiff, Nat.reduceAdd, Nat.reduceSub, Nat.reduceLeDiff, Nat.reduceLT, Nat.reduceBEq, reduceCtorEq, Int.reduceEq]
  refine AW.rseq ?_
  try simp only [↓wk, ↓wl, nc, evV, wrapBits_eq, ↓reduceIte, Nat.reduceEqDiff, Nat.reduceAdd, Nat.reduceSub, Nat.reduceLeDiff, Nat.reduceLT, Nat.reduceBEq, reduceCtorEq, Int.reduceEq]
  refine evTs_ifg H (by rfl) ?_ ?_ <;> clear H <;> intro H
  · try simp only [↓wk, ↓wl, nc, evV, wrapBits_eq, ↓reduceIte, Nat.reduceEqDiff, Nat.reduceAdd, Nat.reduceSub, Nat.reduceLeDiff, Nat.reduceLT, Nat.reduceBEq, reduceCtorEq, Int.reduceEq]
    refine AW.ift (by rfl) ?_
    refine AW.rseq ?_
    try simp only [↓wk, ↓wl, nc, evV, wrapBits_eq, ↓reduceIte, Nat.reduceEqDiff, Nat.reduceAdd, Nat.reduceSub, Nat.reduceLeDiff, Nat.reduceLT, Nat.reduceBEq, reduceCtorEq, Int.reduceEq]
    refine AW.ret ?_
    refine seqQ.ret ?_
    cases H
    exact hQ _ _ _ _ (.inr rfl) (by simp only [resVs, omap, resV, ↓wk, ↓wl, nc, evV, wrapBits_eq, ↓reduceIte, Nat.reduceEqDiff, Nat.reduceAdd, Nat.reduceSub, Nat.reduceLeDiff, Nat.reduceLT, Nat.reduceBEq, reduceCtorEq, Int.reduceEq]; rfl) (hand_plain (by rfl)) (by rfl)
  · try simp only [↓wk, ↓wl, nc, evV, wrapBits_eq, ↓reduceIte, Nat.reduceEqDiff, Nat.reduceAdd, Nat.reduceSub, Nat.reduceLeDiff, Nat.reduceLT, Nat.reduceBEq, reduceCtorEq, Int.reduceEq]
    refine evTs_pure hFn H (fun _ h => f37_ok h) (by rfl) (by rfl) (by rfl) (by rfl) (fun _ => rfl) ?_ <;> clear H <;> intro r_1801 H
    try simp only [eL, ↓wk, ↓wl, nc, evV, wrapBits_eq, ↓reduceIte, Nat.reduceEqDiff, Nat.reduceAdd, Nat.reduceSub, Nat.reduceLeDiff, Nat.reduceLT, Nat.reduceBEq, reduceCtorEq, Int.reduceEq]
    refine AW.ifc H (by rfl) ?_ ?_ <;> clear H <;> intro H
    · refine AW.rseq ?_
      try simp only [↓wk, ↓wl, nc, evV, wrapBits_eq, ↓reduceIte, Nat.reduceEqDiff, Nat.reduceAdd, Nat.reduceSub, Nat.reduceLeDiff, Nat.reduceLT, Nat.reduceBEq, reduceCtorEq, Int.reduceEq]
      refine AW.ret ?_
      refine seqQ.ret ?_
      cases H
      exact hQ _ _ _ _ (.inr rfl) (by simp only [resVs, omap, resV, ↓wk, ↓wl, nc, evV, wrapBits_eq, ↓reduceIte, Nat.reduceEqDiff, Nat.reduceAdd, Nat.reduceSub, Nat.reduceLeDiff, Nat.reduceLT, Nat.reduceBEq, reduceCtorEq, Int.reduceEq]; rfl) (hand_plain (by rfl)) (by rfl)
    · refine AW.skip ?_
      refine seqQ.norm ?_
      refine AW.sseq ?_
      refine AW.rseq ?_
      try simp only [↓wk, ↓wl, nc, evV, wrapBits_eq, ↓reduceIte, Nat.reduceEqDiff, Nat.reduceAdd, Nat.reduceSub, Nat.reduceLeDiff, Nat.reduceLT, Nat.reduceBEq, reduceCtorEq, Int.reduceEq]
      refine AW.ifc H (by rfl) ?_ ?_ <;> clear H <;> intro H
      · refine AW.rseq ?_
        try simp only [↓wk, ↓wl, nc, evV, wrapBits_eq, ↓reduceIte, Nat.reduceEqDiff, Nat.reduceAdd, Nat.reduceSub, Nat.reduceLeDiff, Nat.reduceLT, Nat.reduceBEq, reduceCtorEq, Int.reduceEq]
        refine AW.ret ?_
        refine seqQ.ret ?_
        cases H
        exact hQ _ _ _ _ (.inr rfl) (by simp only [resVs, omap, resV, ↓wk, ↓wl, nc, evV, wrapBits_eq, ↓reduceIte, Nat.reduceEqDiff, Nat.reduceAdd, Nat.reduceSub, Nat.reduceLeDiff, Nat.reduceLT, Nat.reduceBEq, reduceCtorEq, Int.reduceEq]; rfl) (hand_plain (by rfl)) (by rfl)
      · refine AW.skip ?_
        refine seqQ.norm ?_
        refine AW.sseq ?_
        refine AW.rseq ?_
        try simp only [↓wk, ↓wl, nc, evV, wrapBits_eq, ↓reduceIte, Nat.reduceEqDiff, Nat.reduceAdd, Nat.reduceSub, Nat.reduceLeDiff, Nat.reduceLT, Nat.reduceBEq, reduceCtorEq, Int.reduceEq]
        refine AW.bend ?_
        refine AW.iter H ((Le.none [0] [1, 5] (by decide) (by simp only [f21_L1, List.length_set, Option.map_some, restrict_eq, renS_nil, renS_cons, renB_els, renB_cel, renB_dead, deep_eq, map_ren_enc, ren_agg', ren_tup', ren_fn', ren_int', ren_bool', ren_str', ren_sl', ren_pro', ren_nilp', ren_nilfn', ren_junk', ren_ptr', ren_row', ren_arow', ren_eptr', vm, List.idxOf?_cons, List.idxOf?_nil, beq_self_eq_true, Option.map_none, List.getD_cons_zero, List.getD_cons_succ, ↓wk, ↓wl, nc, evV, wrapBits_eq, ↓reduceIte, Nat.reduceEqDiff, Nat.reduceAdd, Nat.reduceSub, Nat.reduceLeDiff, Nat.reduceLT, Nat.reduceBEq, reduceCtorEq, Int.reduceEq]))) ?_ <;> clear H
        rintro i_1823 x_ st0_ H hst_
        simp only [f21_L1] at H hst_
        subst hst_
        refine AW.sseq ?_
        refine AW.rseq ?_
        try simp only [↓wk, ↓wl, nc, evV, wrapBits_eq, ↓reduceIte, Nat.reduceEqDiff, Nat.reduceAdd, Nat.reduceSub, Nat.reduceLeDiff, Nat.reduceLT, Nat.reduceBEq, reduceCtorEq, Int.reduceEq]
        refine AW.ifc H (by rfl) ?_ ?_ <;> clear H <;> intro H
        · refine AW.skip ?_
          refine seqQ.norm ?_
          refine AW.bseq ?_
          refine AW.rseq ?_
          try simp only [↓wk, ↓wl, nc, evV, wrapBits_eq, ↓reduceIte, Nat.reduceEqDiff, Nat.reduceAdd, Nat.reduceSub, Nat.reduceLeDiff, Nat.reduceLT, Nat.reduceBEq, reduceCtorEq, Int.reduceEq]
          refine evTs_at (enc := eRef56Stream) H (by rfl) (by rfl) ?_ <;> clear H <;> intro x_1835 H
          try simp only [eRef56Stream, eL, ↓wk, ↓wl, nc, evV, wrapBits_eq, ↓reduceIte, Nat.reduceEqDiff, Nat.reduceAdd, Nat.reduceSub, Nat.reduceLeDiff, Nat.reduceLT, Nat.reduceBEq, reduceCtorEq, Int.reduceEq]
          refine AW.sseq ?_
          refine AW.rseq ?_
          try simp only [↓wk, ↓wl, nc, evV, wrapBits_eq, ↓reduceIte, Nat.reduceEqDiff, Nat.reduceAdd, Nat.reduceSub, Nat.reduceLeDiff, Nat.reduceLT, Nat.reduceBEq, reduceCtorEq, Int.reduceEq]
          refine evTs_pure hFn H (fun _ h => f37_ok h) (by rfl) (by rfl) (by rfl) (by rfl) (fun _ => rfl) ?_ <;> clear H <;> intro r_1840 H
          try simp only [eL, ↓wk, ↓wl, nc, evV, wrapBits_eq, ↓reduceIte, Nat.reduceEqDiff, Nat.reduceAdd, Nat.reduceSub, Nat.reduceLeDiff, Nat.reduceLT, Nat.reduceBEq, reduceCtorEq, Int.reduceEq]
          refine evTs_ifg H (by rfl) ?_ ?_ <;> clear H <;> intro H
          · try simp only [↓wk, ↓wl, nc, evV, wrapBits_eq, ↓reduceIte, Nat.reduceEqDiff, Nat.reduceAdd, Nat.reduceSub, Nat.reduceLeDiff, Nat.reduceLT, Nat.reduceBEq, reduceCtorEq, Int.reduceEq]
            refine AW.ift (by rfl) ?_
            refine AW.rseq ?_
            try simp only [↓wk, ↓wl, nc, evV, wrapBits_eq, ↓reduceIte, Nat.reduceEqDiff, Nat.reduceAdd, Nat.reduceSub, Nat.reduceLeDiff, Nat.reduceLT, Nat.reduceBEq, reduceCtorEq, Int.reduceEq]
            refine AW.ret ?_
            refine seqQ.ret ?_
            refine blkQ.ret ?_
            refine loopQ.ret H ?_ <;> clear H <;> intro H
            try dsimp only at H
            refine blk0.ret ?_
            refine seqQ.ret ?_
            cases H
            exact hQ _ _ _ _ (.inr rfl) (by simp only [resVs, omap, resV, ↓wk, ↓wl, nc, evV, wrapBits_eq, ↓reduceIte, Nat.reduceEqDiff, Nat.reduceAdd, Nat.reduceSub, Nat.reduceLeDiff, Nat.reduceLT, Nat.reduceBEq, reduceCtorEq, Int.reduceEq]; rfl) (hand_plain (by rfl)) (by rfl)
          · try simp only [↓wk, ↓wl, nc, evV, wrapBits_eq, ↓reduceIte, Nat.reduceEqDiff, Nat.reduceAdd, Nat.reduceSub, Nat.reduceLeDiff, Nat.reduceLT, Nat.reduceBEq, reduceCtorEq, Int.reduceEq]
            refine evTs_pure hFn H (fun _ h => f37_ok h) (by rfl) (by rfl) (by rfl) (by rfl) (fun _ => rfl) ?_ <;> clear H <;> intro r_1841 H
            try simp only [eL, ↓wk, ↓wl, nc, evV, wrapBits_eq, ↓reduceIte, Nat.reduceEqDiff, Nat.reduceAdd, Nat.reduceSub, Nat.reduceLeDiff, Nat.reduceLT, Nat.reduceBEq, reduceCtorEq, Int.reduceEq]
            refine evTs_ifg H (by rfl) ?_ ?_ <;> clear H <;> intro H
            · try simp only [↓wk, ↓wl, nc, evV, wrapBits_eq, ↓reduceIte, Nat.reduceEqDiff, Nat.reduceAdd, Nat.reduceSub, Nat.reduceLeDiff, Nat.reduceLT, Nat.reduceBEq, reduceCtorEq, Int.reduceEq]
              refine AW.ift (by rfl) ?_
              refine AW.rseq ?_
              try simp only [↓wk, ↓wl, nc, evV, wrapBits_eq, ↓reduceIte, Nat.reduceEqDiff, Nat.reduceAdd, Nat.reduceSub, Nat.reduceLeDiff, Nat.reduceLT, Nat.reduceBEq, reduceCtorEq, Int.reduceEq]
              refine AW.ret ?_
              refine seqQ.ret ?_
              refine blkQ.ret ?_
              refine loopQ.ret H ?_ <;> clear H <;> intro H
              try dsimp only at H
              refine blk0.ret ?_
              refine seqQ.ret ?_
              cases H
              exact hQ _ _ _ _ (.inr rfl) (by simp only [resVs, omap, resV, ↓wk, ↓wl, nc, evV, wrapBits_eq, ↓reduceIte, Nat.reduceEqDiff, Nat.reduceAdd, Nat.reduceSub, Nat.reduceLeDiff, Nat.reduceLT, Nat.reduceBEq, reduceCtorEq, Int.reduceEq]; rfl) (hand_plain (by rfl)) (by rfl)
            · try simp only [↓wk, ↓wl, nc, evV, wrapBits_eq, ↓reduceIte, Nat.reduceEqDiff, Nat.reduceAdd, Nat.reduceSub, Nat.reduceLeDiff, Nat.reduceLT, Nat.reduceBEq, reduceCtorEq, Int.reduceEq]
              refine evTs_pure hFn H (fun _ h => f37_ok h) (by rfl) (by rfl) (by rfl) (by rfl) (fun _ => rfl) ?_ <;> clear H <;> intro r_1842 H
              try simp only [eL, ↓wk, ↓wl, nc, evV, wrapBits_eq, ↓reduceIte, Nat.reduceEqDiff, Nat.reduceAdd, Nat.reduceSub, Nat.reduceLeDiff, Nat.reduceLT, Nat.reduceBEq, reduceCtorEq, Int.reduceEq]
              refine evTs_ifg H (by rfl) ?_ ?_ <;> clear H <;> intro H
              · try simp only [↓wk, ↓wl, nc, evV, wrapBits_eq, ↓reduceIte, Nat.reduceEqDiff, Nat.reduceAdd, Nat.reduceSub, Nat.reduceLeDiff, Nat.reduceLT, Nat.reduceBEq, reduceCtorEq, Int.reduceEq]
                refine AW.ift (by rfl) ?_
                refine AW.rseq ?_
                try simp only [↓wk, ↓wl, nc, evV, wrapBits_eq, ↓reduceIte, Nat.reduceEqDiff, Nat.reduceAdd, Nat.reduceSub, Nat.reduceLeDiff, Nat.reduceLT, Nat.reduceBEq, reduceCtorEq, Int.reduceEq]
                refine AW.ret ?_
                refine seqQ.ret ?_
                refine blkQ.ret ?_
                refine loopQ.ret H ?_ <;> clear H <;> intro H
                try dsimp only at H
                refine blk0.ret ?_
                refine seqQ.ret ?_
                cases H
                exact hQ _ _ _ _ (.inr rfl) (by simp only [resVs, omap, resV, ↓wk, ↓wl, nc, evV, wrapBits_eq, ↓reduceIte, Nat.reduceEqDiff, Nat.reduceAdd, Nat.reduceSub, Nat.reduceLeDiff, Nat.reduceLT, Nat.reduceBEq, reduceCtorEq, Int.reduceEq]; rfl) (hand_plain (by rfl)) (by rfl)
              · try simp only [↓wk, ↓wl, nc, evV, wrapBits_eq, ↓reduceIte, Nat.reduceEqDiff, Nat.reduceAdd, Nat.reduceSub, Nat.reduceLeDiff, Nat.reduceLT, Nat.reduceBEq, reduceCtorEq, Int.reduceEq]
                refine evTs_pure hFn H (fun _ h => f37_ok h) (by rfl) (by rfl) (by rfl) (by rfl) (fun _ => rfl) ?_ <;> clear H <;> intro r_1843 H
                try simp only [eL, ↓wk, ↓wl, nc, evV, wrapBits_eq, ↓reduceIte, Nat.reduceEqDiff, Nat.reduceAdd, Nat.reduceSub, Nat.reduceLeDiff, Nat.reduceLT, Nat.reduceBEq, reduceCtorEq, Int.reduceEq]
                refine AW.ifc H (by rfl) ?_ ?_ <;> clear H <;> intro H
                · refine AW.rseq ?_
                  try simp only [↓wk, ↓wl, nc, evV, wrapBits_eq, ↓reduceIte, Nat.reduceEqDiff, Nat.reduceAdd, Nat.reduceSub, Nat.reduceLeDiff, Nat.reduceLT, Nat.reduceBEq, reduceCtorEq, Int.reduceEq]
                  refine AW.ret ?_
                  refine seqQ.ret ?_
                  refine blkQ.ret ?_
                  refine loopQ.ret H ?_ <;> clear H <;> intro H
                  try dsimp only at H
                  refine blk0.ret ?_
                  refine seqQ.ret ?_
                  cases H
                  exact hQ _ _ _ _ (.inr rfl) (by simp only [resVs, omap, resV, ↓wk, ↓wl, nc, evV, wrapBits_eq, ↓reduceIte, Nat.reduceEqDiff, Nat.reduceAdd, Nat.reduceSub, Nat.reduceLeDiff, Nat.reduceLT, Nat.reduceBEq, reduceCtorEq, Int.reduceEq]; rfl) (hand_plain (by rfl)) (by rfl)
                · refine AW.skip ?_
                  refine seqQ.norm ?_
                  refine AW.sseq ?_
                  refine AW.rseq ?_
                  try simp only [↓wk, ↓wl, nc, evV, wrapBits_eq, ↓reduceIte, Nat.reduceEqDiff, Nat.reduceAdd, Nat.reduceSub, Nat.reduceLeDiff, Nat.reduceLT, Nat.reduceBEq, reduceCtorEq, Int.reduceEq]
                  refine AW.ifc H (by rfl) ?_ ?_ <;> clear H <;> intro H
                  · refine AW.rseq ?_
                    try simp only [↓wk, ↓wl, nc, evV, wrapBits_eq, ↓reduceIte, Nat.reduceEqDiff, Nat.reduceAdd, Nat.reduceSub, Nat.reduceLeDiff, Nat.reduceLT, Nat.reduceBEq, reduceCtorEq, Int.reduceEq]
                    refine AW.ret ?_
                    refine seqQ.ret ?_
                    refine blkQ.ret ?_
                    refine loopQ.ret H ?_ <;> clear H <;> intro H
                    try dsimp only at H
                    refine blk0.ret ?_
                    refine seqQ.ret ?_
                    cases H
                    exact hQ _ _ _ _ (.inr rfl) (by simp only [resVs, omap, resV, ↓wk, ↓wl, nc, evV, wrapBits_eq, ↓reduceIte, Nat.reduceEqDiff, Nat.reduceAdd, Nat.reduceSub, Nat.reduceLeDiff, Nat.reduceLT, Nat.reduceBEq, reduceCtorEq, Int.reduceEq]; rfl) (hand_plain (by rfl)) (by rfl)
                  · refine AW.skip ?_
                    refine seqQ.norm ?_
                    refine AW.rseq ?_
                    try simp only [↓wk, ↓wl, nc, evV, wrapBits_eq, ↓reduceIte, Nat.reduceEqDiff, Nat.reduceAdd, Nat.reduceSub, Nat.reduceLeDiff, Nat.reduceLT, Nat.reduceBEq, reduceCtorEq, Int.reduceEq]
                    refine evTs_ifg H (by rfl) ?_ ?_ <;> clear H <;> intro H
                    · try simp only [↓wk, ↓wl, nc, evV, wrapBits_eq, ↓reduceIte, Nat.reduceEqDiff, Nat.reduceAdd, Nat.reduceSub, Nat.reduceLeDiff, Nat.reduceLT, Nat.reduceBEq, reduceCtorEq, Int.reduceEq]
                      refine evTs_at (enc := eRef56Stream) H (by rfl) (by rfl) ?_ <;> clear H <;> intro x_1844 H
                      try simp only [eRef56Stream, eL, ↓wk, ↓wl, nc, evV, wrapBits_eq, ↓reduceIte, Nat.reduceEqDiff, Nat.reduceAdd, Nat.reduceSub, Nat.reduceLeDiff, Nat.reduceLT, Nat.reduceBEq, reduceCtorEq, Int.reduceEq]
                      refine AW.ifc H (by rfl) ?_ ?_ <;> clear H <;> intro H
                      · refine AW.rseq ?_
                        try simp only [↓wk, ↓wl, nc, evV, wrapBits_eq, ↓reduceIte, Nat.reduceEqDiff, Nat.reduceAdd, Nat.reduceSub, Nat.reduceLeDiff, Nat.reduceLT, Nat.reduceBEq, reduceCtorEq, Int.reduceEq]
                        refine AW.ret ?_
                        refine blkQ.ret ?_
                        refine loopQ.ret H ?_ <;> clear H <;> intro H
                        try dsimp only at H
                        refine blk0.ret ?_
                        refine seqQ.ret ?_
                        cases H
                        exact hQ _ _ _ _ (.inr rfl) (by simp only [resVs, omap, resV, ↓wk, ↓wl, nc, evV, wrapBits_eq, ↓reduceIte, Nat.reduceEqDiff, Nat.reduceAdd, Nat.reduceSub, Nat.reduceLeDiff, Nat.reduceLT, Nat.reduceBEq, reduceCtorEq, Int.reduceEq]; rfl) (hand_plain (by rfl)) (by rfl)
                      · refine AW.skip ?_
                        refine blkQ.norm ?_
                        refine AW.rend ?_
                        try simp only [↓wk, ↓wl, nc, evV, wrapBits_eq, ↓reduceIte, Nat.reduceEqDiff, Nat.reduceAdd, Nat.reduceSub, Nat.reduceLeDiff, Nat.reduceLT, Nat.reduceBEq, reduceCtorEq, Int.reduceEq]
                        exact loopQ.next H ((Le.none [0] [1, 5] (by decide) (by simp only [f21_L1, List.length_set, Option.map_some, restrict_eq, renS_nil, renS_cons, renB_els, renB_cel, renB_dead, deep_eq, map_ren_enc, ren_agg', ren_tup', ren_fn', ren_int', ren_bool', ren_str', ren_sl', ren_pro', ren_nilp', ren_nilfn', ren_junk', ren_ptr', ren_row', ren_arow', ren_eptr', vm, List.idxOf?_cons, List.idxOf?_nil, beq_self_eq_true, Option.map_none, List.getD_cons_zero, List.getD_cons_succ, ↓wk, ↓wl, nc, evV, wrapBits_eq, ↓reduceIte, Nat.reduceEqDiff, Nat.reduceAdd, Nat.reduceSub, Nat.reduceLeDiff, Nat.reduceLT, Nat.reduceBEq, reduceCtorEq, Int.reduceEq])))
                    · try simp only [↓wk, ↓wl, nc, evV, wrapBits_eq, ↓reduceIte, Nat.reduceEqDiff, Nat.reduceAdd, Nat.reduceSub, Nat.reduceLeDiff, Nat.reduceLT, Nat.reduceBEq, reduceCtorEq, Int.reduceEq]
                      refine AW.iff (by rfl) ?_
                      refine AW.skip ?_
                      refine blkQ.norm ?_
                      refine AW.rend ?_
                      try simp only [↓wk, ↓wl, nc, evV, wrapBits_eq, ↓reduceIte, Nat.reduceEqDiff, Nat.reduceAdd, Nat.reduceSub, Nat.reduceLeDiff, Nat.reduceLT, Nat.reduceBEq, reduceCtorEq, Int.reduceEq]
                      exact loopQ.next H ((Le.none [0] [1, 5] (by decide) (by simp only [f21_L1, List.length_set, Option.map_some, restrict_eq, renS_nil, renS_cons, renB_els, renB_cel, renB_dead, deep_eq, map_ren_enc, ren_agg', ren_tup', ren_fn', ren_int', ren_bool', ren_str', ren_sl', ren_pro', ren_nilp', ren_nilfn', ren_junk', ren_ptr', ren_row', ren_arow', ren_eptr', vm, List.idxOf?_cons, List.idxOf?_nil, beq_self_eq_true, Option.map_none, List.getD_cons_zero, List.getD_cons_succ, ↓wk, ↓wl, nc, evV, wrapBits_eq, ↓reduceIte, Nat.reduceEqDiff, Nat.reduceAdd, Nat.reduceSub, Nat.reduceLeDiff, Nat.reduceLT, Nat.reduceBEq, reduceCtorEq, Int.reduceEq])))
        · refine AW.exit ?_
          refine seqQ.exit ?_
          refine loopQ.exit H ?_ <;> clear H <;> intro H
          try dsimp only at H
          refine blk0.here ?_
          refine seqQ.norm ?_
          refine AW.rseq ?_
          try simp only [↓wk, ↓wl, nc, evV, wrapBits_eq, ↓reduceIte, Nat.reduceEqDiff, Nat.reduceAdd, Nat.reduceSub, Nat.reduceLeDiff, Nat.reduceLT, Nat.reduceBEq, reduceCtorEq, Int.reduceEq]
          refine AW.ret ?_
          cases H
          exact hQ _ _ _ _ (.inr rfl) (by simp only [resVs, omap, resV, ↓wk, ↓wl, nc, evV, wrapBits_eq, ↓reduceIte, Nat.reduceEqDiff, Nat.reduceAdd, Nat.reduceSub, Nat.reduceLeDiff, Nat.reduceLT, Nat.reduceBEq, reduceCtorEq, Int.reduceEq]; rfl) (hand_plain (by rfl)) (by rfl)
def c4_0 : C := .cond (.t 12) (.seq (.reg [iI 13 (.call (.c (.fn 14 [])) []), iI 4 (.mv (.t 13))]) .ret) (.skip)
def c4_1 : C := .seq (.regq [iI 34 (.call (.c (.fn 14 [])) []), iI 35 (.mv (.t 34)), iG (some 36) 35 true (.load 5 (.t 5)), iG (some 37) 35 true (.call (.c (.fn 16 [])) [(.t 36)]), iG (some 38) 35 true (.load 5 (.t 7)), iG (some 39) 35 true (.call (.c (.fn 19 [])) [(.t 37), (.t 38)]), iI 40 (.pick (.t 35) (.t 39) (.c (.bool false))), iI 41 (.mv (.t 40)), iG (some 42) 41 true (.mv (.t 6)), iG (some 43) 41 true (.mv (.t 8)), iG (some 44) 41 true (.bin .eql (.t 42) (.t 43)), iI 45 (.pick (.t 41) (.t 44) (.c (.bool false))), iI 46 (.mv (.t 45)), iG (some 47) 46 true (.load 5 (.t 3)), iG (some 48) 46 true (.call (.c (.fn 20 [])) [(.t 47)]), iG (some 49) 46 true (.load 5 (.t 3)), iG (some 50) 46 true (.call (.c (.fn 16 [])) [(.t 49)]), iG (some 51) 46 true (.call (.c (.fn 21 [])) [(.t 50)]), iG (some 52) 46 true (.bin .eql (.t 48) (.t 51)), iI 53 (.pick (.t 46) (.t 52) (.c (.bool false))), iI 4 (.mv (.t 53))]) .ret
def c4_2 : C := .seq (.reg [iI 25 (.faddr 0 (.t 2)), iI 26 (.load 0 (.t 25)), iI 27 (.faddr 1 (.t 2)), iI 28 (.load 0 (.t 27)), iI 29 (.faddr 2 (.t 2)), iI 30 (.load 0 (.t 29)), iI 31 (.call (.c (.fn 18 [])) [(.t 26), (.t 28), (.t 30)]), iI 24 (.mv (.t 31)), iI 32 (.ext (.t 24) 0), iI 33 (.ext (.t 24) 1), iI 7 (.alloc [(1, (.int .u64 0)), (1, (.int .i64 0)), (1, (.int .i64 0)), (1, (.int .i64 0)), (1, (.sl 5 true []))]), iN (.store 5 (.t 7) (.t 32)), iI 8 (.mv (.t 33))]) c4_1
def c4_3 : C := .seq (.reg [iI 15 (.faddr 0 (.t 2)), iI 16 (.load 0 (.t 15)), iI 17 (.faddr 1 (.t 2)), iI 18 (.load 0 (.t 17)), iI 19 (.faddr 2 (.t 2)), iI 20 (.load 0 (.t 19)), iI 21 (.call (.c (.fn 17 [])) [(.t 16), (.t 18), (.t 20)]), iI 14 (.mv (.t 21)), iI 22 (.ext (.t 14) 0), iI 23 (.ext (.t 14) 1), iI 5 (.alloc [(1, (.int .u64 0)), (1, (.int .i64 0)), (1, (.int .i64 0)), (1, (.int .i64 0)), (1, (.sl 5 true []))]), iN (.store 5 (.t 5) (.t 22)), iI 6 (.mv (.t 23))]) c4_2
def c4_4 : C := .seq (.seq (.reg [iI 9 (.load 5 (.t 3)), iI 10 (.call (.c (.fn 16 [])) [(.t 9)]), iI 11 (.call (.c (.fn 15 [])) [(.t 10)]), iI 12 (.un .not (.t 11))]) c4_0) c4_3
def ir4 : C := .seq (.reg [iI 2 (.box (.t 0)), iI 3 (.box (.t 1)), iI 4 (.mv (.c (.bool false)))]) c4_4
theorem fd4 : fd? Try.prog 4 = some (54, [.slot 4], ir4) := by kernel_rfl
noncomputable def f4 (x_1737 : Law56Start) (s_1738 : NetworkSender) : Option (Bool) :=
  (f16 s_1738).bind fun r_1765 => (f15 r_1765).bind fun r_1766 => (if (!r_1766) = true then (f14).bind fun r_1767 => (some r_1767) else (f17 x_1737.fSource x_1737.fPriority x_1737.fSync).bind fun r_1768 => (f18 x_1737.fSource x_1737.fPriority x_1737.fSync).bind fun r_1779 => (f14).bind fun r_1780 => (if r_1780 = true then (f16 r_1768.1).bind fun r_1781 => (f19 r_1781 r_1779.1).bind fun r_1794 => (if r_1794 = true then (if (decide (r_1768.2 = r_1779.2)) = true then (f20 s_1738).bind fun r_1795 => (f16 s_1738).bind fun r_1796 => (f21 r_1796).bind fun r_1845 => (some (decide (r_1795 = r_1845))) else (some false)) else (some false)) else (some false)))
theorem f4_ok {x_1737 : Law56Start} {s_1738 : NetworkSender} {r_ : Bool} (H : f4 x_1737 s_1738 = some r_) : Pure Try.prog 4 [.agg [.int .u64 x_1737.fSource, .int .i64 x_1737.fPriority, .int .i64 x_1737.fSync], .agg [.int .u64 s_1738.fSource, .int .i64 s_1738.fPriority, .int .i64 s_1738.fSync, .int .i64 s_1738.fPulse, .sl 5 false (s_1738.fStreams.map eNetworkStream)]] (· = .bool r_) := by
  refine Pure.walk2 fd4 none (Nat.le_of_ble_eq_true rfl) (by rfl) fun Q hQ => ?_
  simp only [f4] at H
  refine AW.rseq ?_
  try simp only [↓wk, ↓wl, nc, evV, wrapBits_eq, ↓reduceIte, Nat.reduceEqDiff, Nat.reduceAdd, Nat.reduceSub, Nat.reduceLeDiff, Nat.reduceLT, Nat.reduceBEq, reduceCtorEq, Int.reduceEq]
  refine AW.sseq ?_
  refine AW.rseq ?_
  try simp only [↓wk, ↓wl, nc, evV, wrapBits_eq, ↓reduceIte, Nat.reduceEqDiff, Nat.reduceAdd, Nat.reduceSub, Nat.reduceLeDiff, Nat.reduceLT, Nat.reduceBEq, reduceCtorEq, Int.reduceEq]
  refine evTs_pure hFn H (fun _ h => f16_ok h) (by rfl) (by rfl) (by rfl) (by rfl) (fun _ => rfl) ?_ <;> clear H <;> intro r_1765 H
  try simp only [eL, eRef56Sender, ↓wk, ↓wl, nc, evV, wrapBits_eq, ↓reduceIte, Nat.reduceEqDiff, Nat.reduceAdd, Nat.reduceSub, Nat.reduceLeDiff, Nat.reduceLT, Nat.reduceBEq, reduceCtorEq, Int.reduceEq]
  refine evTs_pure hFn H (fun _ h => f15_ok h) (by rfl) (by rfl) (by rfl) (by rfl) (fun _ => rfl) ?_ <;> clear H <;> intro r_1766 H
  try simp only [eL, ↓wk, ↓wl, nc, evV, wrapBits_eq, ↓reduceIte, Nat.reduceEqDiff, Nat.reduceAdd, Nat.reduceSub, Nat.reduceLeDiff, Nat.reduceLT, Nat.reduceBEq, reduceCtorEq, Int.reduceEq]
  refine AW.ifc H (by rfl) ?_ ?_ <;> clear H <;> intro H
  · refine AW.rseq ?_
    try simp only [↓wk, ↓wl, nc, evV, wrapBits_eq, ↓reduceIte, Nat.reduceEqDiff, Nat.reduceAdd, Nat.reduceSub, Nat.reduceLeDiff, Nat.reduceLT, Nat.reduceBEq, reduceCtorEq, Int.reduceEq]
    refine evTs_pure hFn H (fun _ h => f14_ok h) (by rfl) (by rfl) (by rfl) (by rfl) (fun _ => rfl) ?_ <;> clear H <;> intro r_1767 H
    try simp only [eL, ↓wk, ↓wl, nc, evV, wrapBits_eq, ↓reduceIte, Nat.reduceEqDiff, Nat.reduceAdd, Nat.reduceSub, Nat.reduceLeDiff, Nat.reduceLT, Nat.reduceBEq, reduceCtorEq, Int.reduceEq]
    refine AW.ret ?_
    refine seqQ.ret ?_
    cases H
    exact hQ _ _ _ _ (.inr rfl) (by simp only [resVs, omap, resV, ↓wk, ↓wl, nc, evV, wrapBits_eq, ↓reduceIte, Nat.reduceEqDiff, Nat.reduceAdd, Nat.reduceSub, Nat.reduceLeDiff, Nat.reduceLT, Nat.reduceBEq, reduceCtorEq, Int.reduceEq]; rfl) (hand_plain (by rfl)) (by rfl)
  · refine AW.skip ?_
    refine seqQ.norm ?_
    refine AW.rseq ?_
    try simp only [↓wk, ↓wl, nc, evV, wrapBits_eq, ↓reduceIte, Nat.reduceEqDiff, Nat.reduceAdd, Nat.reduceSub, Nat.reduceLeDiff, Nat.reduceLT, Nat.reduceBEq, reduceCtorEq, Int.reduceEq]
    refine evTs_pure hFn H (fun _ h => f17_ok h) (by rfl) (by rfl) (by rfl) (by rfl) (fun _ => rfl) ?_ <;> clear H <;> intro r_1768 H
    try simp only [eL, eNetworkSender, ↓wk, ↓wl, nc, evV, wrapBits_eq, ↓reduceIte, Nat.reduceEqDiff, Nat.reduceAdd, Nat.reduceSub, Nat.reduceLeDiff, Nat.reduceLT, Nat.reduceBEq, reduceCtorEq, Int.reduceEq]
    refine AW.rseq ?_
    try simp only [↓wk, ↓wl, nc, evV, wrapBits_eq, ↓reduceIte, Nat.reduceEqDiff, Nat.reduceAdd, Nat.reduceSub, Nat.reduceLeDiff, Nat.reduceLT, Nat.reduceBEq, reduceCtorEq, Int.reduceEq]
    refine evTs_pure hFn H (fun _ h => f18_ok h) (by rfl) (by rfl) (by rfl) (by rfl) (fun _ => rfl) ?_ <;> clear H <;> intro r_1779 H
    try simp only [eL, eRef56Sender, ↓wk, ↓wl, nc, evV, wrapBits_eq, ↓reduceIte, Nat.reduceEqDiff, Nat.reduceAdd, Nat.reduceSub, Nat.reduceLeDiff, Nat.reduceLT, Nat.reduceBEq, reduceCtorEq, Int.reduceEq]
    refine AW.rqseq ?_
    try simp only [↓wk, ↓wl, nc, evV, wrapBits_eq, ↓reduceIte, Nat.reduceEqDiff, Nat.reduceAdd, Nat.reduceSub, Nat.reduceLeDiff, Nat.reduceLT, Nat.reduceBEq, reduceCtorEq, Int.reduceEq]
    refine evTs_pure hFnq H (fun _ h => f14_ok h) (by rfl) (by rfl) (by rfl) (by rfl) (fun _ => rfl) ?_ <;> clear H <;> intro r_1780 H
    try simp only [eL, ↓wk, ↓wl, nc, evV, wrapBits_eq, ↓reduceIte, Nat.reduceEqDiff, Nat.reduceAdd, Nat.reduceSub, Nat.reduceLeDiff, Nat.reduceLT, Nat.reduceBEq, reduceCtorEq, Int.reduceEq]
    refine evTs_ifg H (by rfl) ?_ ?_ <;> clear H <;> intro H
    · try simp only [↓wk, ↓wl, nc, evV, wrapBits_eq, ↓reduceIte, Nat.reduceEqDiff, Nat.reduceAdd, Nat.reduceSub, Nat.reduceLeDiff, Nat.reduceLT, Nat.reduceBEq, reduceCtorEq, Int.reduceEq]
      refine evTs_pure hFnq H (fun _ h => f16_ok h) (by rfl) (by rfl) (by rfl) (by rfl) (fun _ => rfl) ?_ <;> clear H <;> intro r_1781 H
      try simp only [eL, eRef56Sender, ↓wk, ↓wl, nc, evV, wrapBits_eq, ↓reduceIte, Nat.reduceEqDiff, Nat.reduceAdd, Nat.reduceSub, Nat.reduceLeDiff, Nat.reduceLT, Nat.reduceBEq, reduceCtorEq, Int.reduceEq]
      refine evTs_pure hFnq H (fun _ h => f19_ok h) (by rfl) (by rfl) (by rfl) (by rfl) (fun _ => rfl) ?_ <;> clear H <;> intro r_1794 H
      try simp only [eL, ↓wk, ↓wl, nc, evV, wrapBits_eq, ↓reduceIte, Nat.reduceEqDiff, Nat.reduceAdd, Nat.reduceSub, Nat.reduceLeDiff, Nat.reduceLT, Nat.reduceBEq, reduceCtorEq, Int.reduceEq]
      refine evTs_ifg H (by rfl) ?_ ?_ <;> clear H <;> intro H
      · try simp only [↓wk, ↓wl, nc, evV, wrapBits_eq, ↓reduceIte, Nat.reduceEqDiff, Nat.reduceAdd, Nat.reduceSub, Nat.reduceLeDiff, Nat.reduceLT, Nat.reduceBEq, reduceCtorEq, Int.reduceEq]
        refine evTs_ifg H (by rfl) ?_ ?_ <;> clear H <;> intro H
        · try simp only [↓wk, ↓wl, nc, evV, wrapBits_eq, ↓reduceIte, Nat.reduceEqDiff, Nat.reduceAdd, Nat.reduceSub, Nat.reduceLeDiff, Nat.reduceLT, Nat.reduceBEq, reduceCtorEq, Int.reduceEq]
          refine evTs_pure hFnq H (fun _ h => f20_ok h) (by rfl) (by rfl) (by rfl) (by rfl) (fun _ => rfl) ?_ <;> clear H <;> intro r_1795 H
          try simp only [eL, ↓wk, ↓wl, nc, evV, wrapBits_eq, ↓reduceIte, Nat.reduceEqDiff, Nat.reduceAdd, Nat.reduceSub, Nat.reduceLeDiff, Nat.reduceLT, Nat.reduceBEq, reduceCtorEq, Int.reduceEq]
          refine evTs_pure hFnq H (fun _ h => f16_ok h) (by rfl) (by rfl) (by rfl) (by rfl) (fun _ => rfl) ?_ <;> clear H <;> intro r_1796 H
          try simp only [eL, eRef56Sender, ↓wk, ↓wl, nc, evV, wrapBits_eq, ↓reduceIte, Nat.reduceEqDiff, Nat.reduceAdd, Nat.reduceSub, Nat.reduceLeDiff, Nat.reduceLT, Nat.reduceBEq, reduceCtorEq, Int.reduceEq]
          refine evTs_pure hFnq H (fun _ h => f21_ok h) (by rfl) (by rfl) (by rfl) (by rfl) (fun _ => rfl) ?_ <;> clear H <;> intro r_1845 H
          try simp only [eL, ↓wk, ↓wl, nc, evV, wrapBits_eq, ↓reduceIte, Nat.reduceEqDiff, Nat.reduceAdd, Nat.reduceSub, Nat.reduceLeDiff, Nat.reduceLT, Nat.reduceBEq, reduceCtorEq, Int.reduceEq]
          refine AW.ret ?_
          cases H
          exact hQ _ _ _ _ (.inr rfl) (by simp only [resVs, omap, resV, ↓wk, ↓wl, nc, evV, wrapBits_eq, ↓reduceIte, Nat.reduceEqDiff, Nat.reduceAdd, Nat.reduceSub, Nat.reduceLeDiff, Nat.reduceLT, Nat.reduceBEq, reduceCtorEq, Int.reduceEq]; rfl) (hand_plain (by rfl)) (by rfl)
        · try simp only [↓wk, ↓wl, nc, evV, wrapBits_eq, ↓reduceIte, Nat.reduceEqDiff, Nat.reduceAdd, Nat.reduceSub, Nat.reduceLeDiff, Nat.reduceLT, Nat.reduceBEq, reduceCtorEq, Int.reduceEq]
          refine AW.ret ?_
          cases H
          exact hQ _ _ _ _ (.inr rfl) (by simp only [resVs, omap, resV, ↓wk, ↓wl, nc, evV, wrapBits_eq, ↓reduceIte, Nat.reduceEqDiff, Nat.reduceAdd, Nat.reduceSub, Nat.reduceLeDiff, Nat.reduceLT, Nat.reduceBEq, reduceCtorEq, Int.reduceEq]; rfl) (hand_plain (by rfl)) (by rfl)
      · try simp only [↓wk, ↓wl, nc, evV, wrapBits_eq, ↓reduceIte, Nat.reduceEqDiff, Nat.reduceAdd, Nat.reduceSub, Nat.reduceLeDiff, Nat.reduceLT, Nat.reduceBEq, reduceCtorEq, Int.reduceEq]
        refine AW.ret ?_
        cases H
        exact hQ _ _ _ _ (.inr rfl) (by simp only [resVs, omap, resV, ↓wk, ↓wl, nc, evV, wrapBits_eq, ↓reduceIte, Nat.reduceEqDiff, Nat.reduceAdd, Nat.reduceSub, Nat.reduceLeDiff, Nat.reduceLT, Nat.reduceBEq, reduceCtorEq, Int.reduceEq]; rfl) (hand_plain (by rfl)) (by rfl)
    · try simp only [↓wk, ↓wl, nc, evV, wrapBits_eq, ↓reduceIte, Nat.reduceEqDiff, Nat.reduceAdd, Nat.reduceSub, Nat.reduceLeDiff, Nat.reduceLT, Nat.reduceBEq, reduceCtorEq, Int.reduceEq]
      refine AW.ret ?_
      cases H
      exact hQ _ _ _ _ (.inr rfl) (by simp only [resVs, omap, resV, ↓wk, ↓wl, nc, evV, wrapBits_eq, ↓reduceIte, Nat.reduceEqDiff, Nat.reduceAdd, Nat.reduceSub, Nat.reduceLeDiff, Nat.reduceLT, Nat.reduceBEq, reduceCtorEq, Int.reduceEq]; rfl) (hand_plain (by rfl)) (by rfl)
end Go.Proofs.Ytlidbikdeboihaa
