import Derived.Test.YtlidbikdeboihaaX1
import Derived.Test.YtlidbikdeboihaaProg
import Derived.KernelRfl
namespace Go.Proofs.Ytlidbikdeboihaa
open Go Go.Ab

set_option maxHeartbeats 1000000
set_option linter.unusedSimpArgs false
set_option linter.unusedVariables false
theorem f23_ok {s_923 : NetworkSender} {t_924 : Int} {frames_925 : (List ApiFrame)} {r_ : NetworkSender × (List NetworkPacket) × Int} (H : f23 s_923 t_924 frames_925 = some r_) : Pure Try.prog 23 [.agg [.int .u64 s_923.fSource, .int .i64 s_923.fPriority, .int .i64 s_923.fSync, .int .i64 s_923.fPulse, .sl 5 false (s_923.fStreams.map eNetworkStream)], .int .i64 t_924, .sl 2 false (frames_925.map eApiFrame)] (· = .tup [.agg [.int .u64 r_.1.fSource, .int .i64 r_.1.fPriority, .int .i64 r_.1.fSync, .int .i64 r_.1.fPulse, .sl 5 false (r_.1.fStreams.map eNetworkStream)], .sl 7 false (r_.2.1.map eNetworkPacket), .int .i64 r_.2.2]) := by
  refine Pure.walk3 fd23 none (Nat.le_of_ble_eq_true rfl) (by rfl) fun Q hQ => ?_
  simp only [f23] at H
  refine AW.rseq ?_
  try simp only [↓wk, ↓wl, ncs, evV, wrapBits_eq, ↓reduceIte, Nat.reduceEqDiff, Nat.reduceAdd, Nat.reduceSub, Nat.reduceLeDiff, Nat.reduceLT, Nat.reduceBEq, reduceCtorEq, Int.reduceEq]
  refine AW.sseq ?_
  refine AW.rseq ?_
  try simp only [↓wk, ↓wl, ncs, evV, wrapBits_eq, ↓reduceIte, Nat.reduceEqDiff, Nat.reduceAdd, Nat.reduceSub, Nat.reduceLeDiff, Nat.reduceLT, Nat.reduceBEq, reduceCtorEq, Int.reduceEq]
  refine evTs_pure hFn H (fun _ h => f41_ok h) (by rfl) (by rfl) (by rfl) (by rfl) (fun _ => rfl) ?_ <;> clear H <;> intro r_982 H
  try simp only [eL, ↓wk, ↓wl, ncs, evV, wrapBits_eq, ↓reduceIte, Nat.reduceEqDiff, Nat.reduceAdd, Nat.reduceSub, Nat.reduceLeDiff, Nat.reduceLT, Nat.reduceBEq, reduceCtorEq, Int.reduceEq]
  refine AW.rseq ?_
  try simp only [↓wk, ↓wl, ncs, evV, wrapBits_eq, ↓reduceIte, Nat.reduceEqDiff, Nat.reduceAdd, Nat.reduceSub, Nat.reduceLeDiff, Nat.reduceLT, Nat.reduceBEq, reduceCtorEq, Int.reduceEq]
  refine AW.ifc H (by rfl) ?_ ?_ <;> clear H <;> intro H
  · refine AW.rseq ?_
    try simp only [↓wk, ↓wl, ncs, evV, wrapBits_eq, ↓reduceIte, Nat.reduceEqDiff, Nat.reduceAdd, Nat.reduceSub, Nat.reduceLeDiff, Nat.reduceLT, Nat.reduceBEq, reduceCtorEq, Int.reduceEq]
    refine evTs_st (by simp only [↓wk, ↓wl, ncs, evV, wrapBits_eq, ↓reduceIte, Nat.reduceEqDiff, Nat.reduceAdd, Nat.reduceSub, Nat.reduceLeDiff, Nat.reduceLT, Nat.reduceBEq, reduceCtorEq, Int.reduceEq, Nat.reduceLeDiff]; rfl) ?_
    try simp only [↓wk, ↓wl, ncs, evV, wrapBits_eq, ↓reduceIte, Nat.reduceEqDiff, Nat.reduceAdd, Nat.reduceSub, Nat.reduceLeDiff, Nat.reduceLT, Nat.reduceBEq, reduceCtorEq, Int.reduceEq]
    refine AW.ret ?_
    refine seqQ.ret ?_
    cases H
    exact hQ _ _ _ _ (.inr rfl) (by simp only [resVs, omap, resV, ↓wk, ↓wl, ncs, evV, wrapBits_eq, ↓reduceIte, Nat.reduceEqDiff, Nat.reduceAdd, Nat.reduceSub, Nat.reduceLeDiff, Nat.reduceLT, Nat.reduceBEq, reduceCtorEq, Int.reduceEq]; rfl) (hand_plain (by rfl)) (by first | exact Or.inl rfl | exact Or.inr rfl)
  · refine AW.skip ?_
    refine seqQ.norm ?_
    refine AW.sseq ?_
    refine AW.rseq ?_
    try simp only [↓wk, ↓wl, ncs, evV, wrapBits_eq, ↓reduceIte, Nat.reduceEqDiff, Nat.reduceAdd, Nat.reduceSub, Nat.reduceLeDiff, Nat.reduceLT, Nat.reduceBEq, reduceCtorEq, Int.reduceEq]
    refine evTs_pure hFn H (fun _ h => f42_ok h) (by rfl) (by rfl) (by rfl) (by rfl) (fun _ => rfl) ?_ <;> clear H <;> intro r_996 H
    try simp only [eL, ↓wk, ↓wl, ncs, evV, wrapBits_eq, ↓reduceIte, Nat.reduceEqDiff, Nat.reduceAdd, Nat.reduceSub, Nat.reduceLeDiff, Nat.reduceLT, Nat.reduceBEq, reduceCtorEq, Int.reduceEq]
    refine AW.rseq ?_
    try simp only [↓wk, ↓wl, ncs, evV, wrapBits_eq, ↓reduceIte, Nat.reduceEqDiff, Nat.reduceAdd, Nat.reduceSub, Nat.reduceLeDiff, Nat.reduceLT, Nat.reduceBEq, reduceCtorEq, Int.reduceEq]
    refine AW.ifc H (by rfl) ?_ ?_ <;> clear H <;> intro H
    · refine AW.rseq ?_
      try simp only [↓wk, ↓wl, ncs, evV, wrapBits_eq, ↓reduceIte, Nat.reduceEqDiff, Nat.reduceAdd, Nat.reduceSub, Nat.reduceLeDiff, Nat.reduceLT, Nat.reduceBEq, reduceCtorEq, Int.reduceEq]
      refine evTs_st (by simp only [↓wk, ↓wl, ncs, evV, wrapBits_eq, ↓reduceIte, Nat.reduceEqDiff, Nat.reduceAdd, Nat.reduceSub, Nat.reduceLeDiff, Nat.reduceLT, Nat.reduceBEq, reduceCtorEq, Int.reduceEq, Nat.reduceLeDiff]; rfl) ?_
      try simp only [↓wk, ↓wl, ncs, evV, wrapBits_eq, ↓reduceIte, Nat.reduceEqDiff, Nat.reduceAdd, Nat.reduceSub, Nat.reduceLeDiff, Nat.reduceLT, Nat.reduceBEq, reduceCtorEq, Int.reduceEq]
      refine AW.ret ?_
      refine seqQ.ret ?_
      cases H
      exact hQ _ _ _ _ (.inr rfl) (by simp only [resVs, omap, resV, ↓wk, ↓wl, ncs, evV, wrapBits_eq, ↓reduceIte, Nat.reduceEqDiff, Nat.reduceAdd, Nat.reduceSub, Nat.reduceLeDiff, Nat.reduceLT, Nat.reduceBEq, reduceCtorEq, Int.reduceEq]; rfl) (hand_plain (by rfl)) (by first | exact Or.inl rfl | exact Or.inr rfl)
    · refine AW.skip ?_
      refine seqQ.norm ?_
      refine AW.rseq ?_
      try simp only [↓wk, ↓wl, ncs, evV, wrapBits_eq, ↓reduceIte, Nat.reduceEqDiff, Nat.reduceAdd, Nat.reduceSub, Nat.reduceLeDiff, Nat.reduceLT, Nat.reduceBEq, reduceCtorEq, Int.reduceEq]
      refine evTs_fr H (fun _ h => f43_ok h) (by rfl) (by rfl) (by rfl) (by rfl) (fun _ => rfl) ?_ <;> clear H <;> intro r_1000 H
      try simp only [eL, ↓wk, ↓wl, ncs, evV, wrapBits_eq, ↓reduceIte, Nat.reduceEqDiff, Nat.reduceAdd, Nat.reduceSub, Nat.reduceLeDiff, Nat.reduceLT, Nat.reduceBEq, reduceCtorEq, Int.reduceEq]
      refine evTs_st (by simp only [↓wk, ↓wl, ncs, evV, wrapBits_eq, ↓reduceIte, Nat.reduceEqDiff, Nat.reduceAdd, Nat.reduceSub, Nat.reduceLeDiff, Nat.reduceLT, Nat.reduceBEq, reduceCtorEq, Int.reduceEq, Nat.reduceLeDiff]; rfl) ?_
      try simp only [↓wk, ↓wl, ncs, evV, wrapBits_eq, ↓reduceIte, Nat.reduceEqDiff, Nat.reduceAdd, Nat.reduceSub, Nat.reduceLeDiff, Nat.reduceLT, Nat.reduceBEq, reduceCtorEq, Int.reduceEq]
      refine AW.rseq ?_
      try simp only [↓wk, ↓wl, ncs, evV, wrapBits_eq, ↓reduceIte, Nat.reduceEqDiff, Nat.reduceAdd, Nat.reduceSub, Nat.reduceLeDiff, Nat.reduceLT, Nat.reduceBEq, reduceCtorEq, Int.reduceEq]
      refine AW.sseq ?_
      refine AW.rseq ?_
      try simp only [↓wk, ↓wl, ncs, evV, wrapBits_eq, ↓reduceIte, Nat.reduceEqDiff, Nat.reduceAdd, Nat.reduceSub, Nat.reduceLeDiff, Nat.reduceLT, Nat.reduceBEq, reduceCtorEq, Int.reduceEq]
      refine AW.bend ?_
      refine AW.iter H ((Le.trans (Le.nilCell (b := 3) (o := 0) (e := 7) (by rfl) (by rfl)) (Le.none [0, 1, 3, 2, 4] [1, 3, 6, 11, 31, 32, 33] (by decide) (by simp only [f23_L1, List.length_set, Option.map_some, restrict_eq, renS_nil, renS_cons, renB_els, renB_cel, renB_dead, deep_eq, map_ren_enc, ren_agg', ren_tup', ren_fn', ren_int', ren_bool', ren_str', ren_sl', ren_pro', ren_nilp', ren_nilfn', ren_junk', ren_ptr', ren_row', ren_arow', ren_eptr', vm, List.idxOf?_cons, List.idxOf?_nil, beq_self_eq_true, Option.map_none, List.getD_cons_zero, List.getD_cons_succ, ↓wk, ↓wl, nc, evV, wrapBits_eq, ↓reduceIte, Nat.reduceEqDiff, Nat.reduceAdd, Nat.reduceSub, Nat.reduceLeDiff, Nat.reduceLT, Nat.reduceBEq, reduceCtorEq, Int.reduceEq] <;> rfl)))) ?_ <;> clear H
      rintro ⟨v_1469, s_1470, out_1471⟩ x_ st0_ H hst_
      simp only [f23_L1] at H hst_
      subst hst_
      refine AW.rseq ?_
      try simp only [↓wk, ↓wl, ncs, evV, wrapBits_eq, ↓reduceIte, Nat.reduceEqDiff, Nat.reduceAdd, Nat.reduceSub, Nat.reduceLeDiff, Nat.reduceLT, Nat.reduceBEq, reduceCtorEq, Int.reduceEq]
      refine AW.sseq ?_
      refine AW.ifc H (by rfl) ?_ ?_ <;> clear H <;> intro H
      · refine AW.skip ?_
        refine seqQ.norm ?_
        refine AW.bseq ?_
        refine AW.rseq ?_
        try simp only [↓wk, ↓wl, ncs, evV, wrapBits_eq, ↓reduceIte, Nat.reduceEqDiff, Nat.reduceAdd, Nat.reduceSub, Nat.reduceLeDiff, Nat.reduceLT, Nat.reduceBEq, reduceCtorEq, Int.reduceEq]
        refine evTs_at (enc := eApiFrame) H (by rfl) (by rfl) ?_ <;> clear H <;> intro x_1540 H
        try simp only [eApiFrame, eL, ↓wk, ↓wl, ncs, evV, wrapBits_eq, ↓reduceIte, Nat.reduceEqDiff, Nat.reduceAdd, Nat.reduceSub, Nat.reduceLeDiff, Nat.reduceLT, Nat.reduceBEq, reduceCtorEq, Int.reduceEq]
        refine evTs_st (by simp only [↓wk, ↓wl, ncs, evV, wrapBits_eq, ↓reduceIte, Nat.reduceEqDiff, Nat.reduceAdd, Nat.reduceSub, Nat.reduceLeDiff, Nat.reduceLT, Nat.reduceBEq, reduceCtorEq, Int.reduceEq, Nat.reduceLeDiff]; rfl) ?_
        try simp only [↓wk, ↓wl, ncs, evV, wrapBits_eq, ↓reduceIte, Nat.reduceEqDiff, Nat.reduceAdd, Nat.reduceSub, Nat.reduceLeDiff, Nat.reduceLT, Nat.reduceBEq, reduceCtorEq, Int.reduceEq]
        refine AW.rend ?_
        try simp only [↓wk, ↓wl, ncs, evV, wrapBits_eq, ↓reduceIte, Nat.reduceEqDiff, Nat.reduceAdd, Nat.reduceSub, Nat.reduceLeDiff, Nat.reduceLT, Nat.reduceBEq, reduceCtorEq, Int.reduceEq]
        refine evTs_inl (I := f23_C4 s_1470 x_1540 s_923 out_1471 t_924) (args := [.ptr 0 0, .int .i64 t_924, .agg [.int .i64 x_1540.fUniverse, .str x_1540.fSlots], .fn 45 [.ptr 2 0]]) H (by rfl) fd44 (by rfl) (Nat.le_of_ble_eq_true rfl) ?_ ?_ <;> clear H
        · rintro v_ Q_ H hqf23_C4
          simp only [f23_C4] at H
          dsimp only [List.length_cons, List.length_nil]
          refine AW.rseq ?_
          try simp only [↓wk, ↓wl, ncs, evV, wrapBits_eq, ↓reduceIte, Nat.reduceEqDiff, Nat.reduceAdd, Nat.reduceSub, Nat.reduceLeDiff, Nat.reduceLT, Nat.reduceBEq, reduceCtorEq, Int.reduceEq]
          refine AW.rseq ?_
          try simp only [↓wk, ↓wl, ncs, evV, wrapBits_eq, ↓reduceIte, Nat.reduceEqDiff, Nat.reduceAdd, Nat.reduceSub, Nat.reduceLeDiff, Nat.reduceLT, Nat.reduceBEq, reduceCtorEq, Int.reduceEq]
          refine evTs_flat hFn H (fun _ h => f65_66_ok h) (by rfl) (by rfl) (by simp only [deep_eq, imm_simps, imm_rowE, imm_ptrE, imm_enc, omap_simps, take_map_len, take_map_set, take_map_set2, le_refl_true, Nat.zero_add, and_true, true_and, List.drop_zero, Option.map_some, ↓wk, ↓wl, ncs, evV, wrapBits_eq, ↓reduceIte, Nat.reduceEqDiff, Nat.reduceAdd, Nat.reduceSub, Nat.reduceLeDiff, Nat.reduceLT, Nat.reduceBEq, reduceCtorEq, Int.reduceEq]; rfl) (by rfl) (fun _ => rfl) (fun _ => rfl) ?_ <;> clear H <;> intro r_1600 H
          try simp only [eL, ↓wk, ↓wl, ncs, evV, wrapBits_eq, ↓reduceIte, Nat.reduceEqDiff, Nat.reduceAdd, Nat.reduceSub, Nat.reduceLeDiff, Nat.reduceLT, Nat.reduceBEq, reduceCtorEq, Int.reduceEq]
          refine AW.sseq ?_
          refine AW.rseq ?_
          try simp only [↓wk, ↓wl, ncs, evV, wrapBits_eq, ↓reduceIte, Nat.reduceEqDiff, Nat.reduceAdd, Nat.reduceSub, Nat.reduceLeDiff, Nat.reduceLT, Nat.reduceBEq, reduceCtorEq, Int.reduceEq]
          refine AW.ifc H (by rfl) ?_ ?_ <;> clear H <;> intro H
          · refine AW.rend ?_
            try simp only [↓wk, ↓wl, ncs, evV, wrapBits_eq, ↓reduceIte, Nat.reduceEqDiff, Nat.reduceAdd, Nat.reduceSub, Nat.reduceLeDiff, Nat.reduceLT, Nat.reduceBEq, reduceCtorEq, Int.reduceEq]
            refine evTs_ins (enc := eNetworkStream) H ins67 (by rfl) (by rfl) (by first | rfl | simp only [List.length_set]) (by rfl) ?_ <;> clear H <;> intro v_1602 H
            try simp only [↓wk, ↓wl, ncs, evV, wrapBits_eq, ↓reduceIte, Nat.reduceEqDiff, Nat.reduceAdd, Nat.reduceSub, Nat.reduceLeDiff, Nat.reduceLT, Nat.reduceBEq, reduceCtorEq, Int.reduceEq]
            refine evTs_st (by simp only [↓wk, ↓wl, ncs, evV, wrapBits_eq, ↓reduceIte, Nat.reduceEqDiff, Nat.reduceAdd, Nat.reduceSub, Nat.reduceLeDiff, Nat.reduceLT, Nat.reduceBEq, reduceCtorEq, Int.reduceEq, Nat.reduceLeDiff]; rfl) ?_
            try simp only [↓wk, ↓wl, ncs, evV, wrapBits_eq, ↓reduceIte, Nat.reduceEqDiff, Nat.reduceAdd, Nat.reduceSub, Nat.reduceLeDiff, Nat.reduceLT, Nat.reduceBEq, reduceCtorEq, Int.reduceEq]
            refine seqQ.norm ?_
            refine AW.rseq ?_
            try simp only [↓wk, ↓wl, ncs, evV, wrapBits_eq, ↓reduceIte, Nat.reduceEqDiff, Nat.reduceAdd, Nat.reduceSub, Nat.reduceLeDiff, Nat.reduceLT, Nat.reduceBEq, reduceCtorEq, Int.reduceEq]
            refine evTs_atr (enc := eNetworkStream) H (by rfl) (by first | rfl | simp only [List.length_set]) (by rfl) ?_ <;> clear H <;> intro x_1603 hx_1603 H
            try simp only [eNetworkStream, eL, ↓wk, ↓wl, ncs, evV, wrapBits_eq, ↓reduceIte, Nat.reduceEqDiff, Nat.reduceAdd, Nat.reduceSub, Nat.reduceLeDiff, Nat.reduceLT, Nat.reduceBEq, reduceCtorEq, Int.reduceEq, hx_1603, eNetworkStream, eL]
            refine AW.bseq ?_
            refine AW.rseq ?_
            try simp only [↓wk, ↓wl, ncs, evV, wrapBits_eq, ↓reduceIte, Nat.reduceEqDiff, Nat.reduceAdd, Nat.reduceSub, Nat.reduceLeDiff, Nat.reduceLT, Nat.reduceBEq, reduceCtorEq, Int.reduceEq, hx_1603, eNetworkStream, eL]
            refine AW.ifc H (by rfl) ?_ ?_ <;> clear H <;> intro H
            · refine AW.rend ?_
              try simp only [↓wk, ↓wl, ncs, evV, wrapBits_eq, ↓reduceIte, Nat.reduceEqDiff, Nat.reduceAdd, Nat.reduceSub, Nat.reduceLeDiff, Nat.reduceLT, Nat.reduceBEq, reduceCtorEq, Int.reduceEq, hx_1603, eNetworkStream, eL]
              refine evTs_stE (enc := eNetworkStream) x_1603 (NetworkStream.mk x_1603.fUniverse x_1603.fSeq x_1603.fLast x_1603.fTimes x_1540.fSlots) (by rfl) (by rfl) hx_1603 (by rfl) ?_
              have hw_1608 := set_get hx_1603 (NetworkStream.mk x_1603.fUniverse x_1603.fSeq x_1603.fLast x_1603.fTimes x_1540.fSlots)
              try simp only [eNetworkStream, eL, ↓wk, ↓wl, ncs, evV, wrapBits_eq, ↓reduceIte, Nat.reduceEqDiff, Nat.reduceAdd, Nat.reduceSub, Nat.reduceLeDiff, Nat.reduceLT, Nat.reduceBEq, reduceCtorEq, Int.reduceEq, hx_1603, eNetworkStream, eL, hw_1608]
              refine evTs_stE (enc := eNetworkStream) (NetworkStream.mk x_1603.fUniverse x_1603.fSeq x_1603.fLast x_1603.fTimes x_1540.fSlots) (NetworkStream.mk x_1603.fUniverse x_1603.fSeq x_1603.fLast 1 x_1540.fSlots) (by rfl) (by rfl) hw_1608 (by rfl) ?_
              have hw_1609 := set_get hw_1608 (NetworkStream.mk x_1603.fUniverse x_1603.fSeq x_1603.fLast 1 x_1540.fSlots)
              try simp only [eNetworkStream, eL, ↓wk, ↓wl, ncs, evV, wrapBits_eq, ↓reduceIte, Nat.reduceEqDiff, Nat.reduceAdd, Nat.reduceSub, Nat.reduceLeDiff, Nat.reduceLT, Nat.reduceBEq, reduceCtorEq, Int.reduceEq, hx_1603, eNetworkStream, eL, hw_1608, hw_1609]
              refine blkQ.norm ?_
              refine AW.rseq ?_
              try simp only [↓wk, ↓wl, ncs, evV, wrapBits_eq, ↓reduceIte, Nat.reduceEqDiff, Nat.reduceAdd, Nat.reduceSub, Nat.reduceLeDiff, Nat.reduceLT, Nat.reduceBEq, reduceCtorEq, Int.reduceEq, hx_1603, eNetworkStream, eL, hw_1608, hw_1609]
              refine evTs_pure hFn H (fun _ h => f46_ok h) (by rfl) (by rfl) (by rfl) (by rfl) (fun _ => rfl) ?_ <;> clear H <;> intro r_1610 H
              try simp only [eL, ↓wk, ↓wl, ncs, evV, wrapBits_eq, ↓reduceIte, Nat.reduceEqDiff, Nat.reduceAdd, Nat.reduceSub, Nat.reduceLeDiff, Nat.reduceLT, Nat.reduceBEq, reduceCtorEq, Int.reduceEq, hx_1603, eNetworkStream, eL, hw_1608, hw_1609]
              refine evTs_stE (enc := eNetworkStream) (NetworkStream.mk x_1603.fUniverse x_1603.fSeq x_1603.fLast 1 x_1540.fSlots) (NetworkStream.mk x_1603.fUniverse r_1610 x_1603.fLast 1 x_1540.fSlots) (by rfl) (by rfl) hw_1609 (by rfl) ?_
              have hw_1611 := set_get hw_1609 (NetworkStream.mk x_1603.fUniverse r_1610 x_1603.fLast 1 x_1540.fSlots)
              try simp only [eNetworkStream, eL, ↓wk, ↓wl, ncs, evV, wrapBits_eq, ↓reduceIte, Nat.reduceEqDiff, Nat.reduceAdd, Nat.reduceSub, Nat.reduceLeDiff, Nat.reduceLT, Nat.reduceBEq, reduceCtorEq, Int.reduceEq, hx_1603, eNetworkStream, eL, hw_1608, hw_1609, hw_1611]
              refine evTs_stE (enc := eNetworkStream) (NetworkStream.mk x_1603.fUniverse r_1610 x_1603.fLast 1 x_1540.fSlots) (NetworkStream.mk x_1603.fUniverse r_1610 t_924 1 x_1540.fSlots) (by rfl) (by rfl) hw_1611 (by rfl) ?_
              have hw_1612 := set_get hw_1611 (NetworkStream.mk x_1603.fUniverse r_1610 t_924 1 x_1540.fSlots)
              try simp only [eNetworkStream, eL, ↓wk, ↓wl, ncs, evV, wrapBits_eq, ↓reduceIte, Nat.reduceEqDiff, Nat.reduceAdd, Nat.reduceSub, Nat.reduceLeDiff, Nat.reduceLT, Nat.reduceBEq, reduceCtorEq, Int.reduceEq, hx_1603, eNetworkStream, eL, hw_1608, hw_1609, hw_1611, hw_1612]
              refine AW.rend ?_
              try simp only [↓wk, ↓wl, ncs, evV, wrapBits_eq, ↓reduceIte, Nat.reduceEqDiff, Nat.reduceAdd, Nat.reduceSub, Nat.reduceLeDiff, Nat.reduceLT, Nat.reduceBEq, reduceCtorEq, Int.reduceEq, hx_1603, eNetworkStream, eL, hw_1608, hw_1609, hw_1611, hw_1612]
              refine evTs_inl (I := f23_C5 s_923 x_1603 r_1610 x_1540 v_1602 out_1471 r_1600 t_924) (args := [.agg [.int .u64 s_923.fSource, .int .i64 s_923.fPriority, .int .i64 s_923.fSync, .int .i64 s_923.fPulse, .row 5 7 0 v_1602.length], .agg [.int .i64 x_1603.fUniverse, .int .i64 r_1610, .int .i64 t_924, .int .i64 1, .str x_1540.fSlots]]) H (by rfl) fd51 (by rfl) (Nat.le_of_ble_eq_true rfl) ?_ ?_ <;> clear H
              · rintro v_ Q_ H hqf23_C5
                simp only [f23_C5] at H
                dsimp only [List.length_cons, List.length_nil]
                refine AW.rseq ?_
                try simp only [↓wk, ↓wl, ncs, evV, wrapBits_eq, ↓reduceIte, Nat.reduceEqDiff, Nat.reduceAdd, Nat.reduceSub, Nat.reduceLeDiff, Nat.reduceLT, Nat.reduceBEq, reduceCtorEq, Int.reduceEq, hx_1603, eNetworkStream, eL, hw_1608, hw_1609, hw_1611, hw_1612]
                refine AW.rseq ?_
                try simp only [↓wk, ↓wl, ncs, evV, wrapBits_eq, ↓reduceIte, Nat.reduceEqDiff, Nat.reduceAdd, Nat.reduceSub, Nat.reduceLeDiff, Nat.reduceLT, Nat.reduceBEq, reduceCtorEq, Int.reduceEq, hx_1603, eNetworkStream, eL, hw_1608, hw_1609, hw_1611, hw_1612]
                refine evTs_st (by simp only [↓wk, ↓wl, ncs, evV, wrapBits_eq, ↓reduceIte, Nat.reduceEqDiff, Nat.reduceAdd, Nat.reduceSub, Nat.reduceLeDiff, Nat.reduceLT, Nat.reduceBEq, reduceCtorEq, Int.reduceEq, hx_1603, eNetworkStream, eL, hw_1608, hw_1609, hw_1611, hw_1612, Nat.reduceLeDiff]; rfl) ?_
                try simp only [↓wk, ↓wl, ncs, evV, wrapBits_eq, ↓reduceIte, Nat.reduceEqDiff, Nat.reduceAdd, Nat.reduceSub, Nat.reduceLeDiff, Nat.reduceLT, Nat.reduceBEq, reduceCtorEq, Int.reduceEq, hx_1603, eNetworkStream, eL, hw_1608, hw_1609, hw_1611, hw_1612]
                refine AW.ret ?_
                cases H
                exact hqf23_C5 _ _ _ (.inr rfl) (Le.toL 8 (by rfl) [0, 1, 2, 3, 4, 5, 6, 7, 10] [4] (by decide) (by decide) rfl) (by simp only [resVs, omap, resV, f23_C5, List.length_set, Option.map_some, restrict_eq, renS_nil, renS_cons, renB_els, renB_cel, renB_dead, deep_eq, map_ren_enc, ren_agg', ren_tup', ren_fn', ren_int', ren_bool', ren_str', ren_sl', ren_pro', ren_nilp', ren_nilfn', ren_junk', ren_ptr', ren_row', ren_arow', ren_eptr', vm, List.idxOf?_cons, List.idxOf?_nil, beq_self_eq_true, Option.map_none, List.getD_cons_zero, List.getD_cons_succ, ↓wk, ↓wl, nc, evV, wrapBits_eq, ↓reduceIte, Nat.reduceEqDiff, Nat.reduceAdd, Nat.reduceSub, Nat.reduceLeDiff, Nat.reduceLT, Nat.reduceBEq, reduceCtorEq, Int.reduceEq, hx_1603, eNetworkStream, eL, hw_1608, hw_1609, hw_1611, hw_1612]) (by simp only [f23_C5, List.length_set, Option.map_some, restrict_eq, renS_nil, renS_cons, renB_els, renB_cel, renB_dead, deep_eq, map_ren_enc, ren_agg', ren_tup', ren_fn', ren_int', ren_bool', ren_str', ren_sl', ren_pro', ren_nilp', ren_nilfn', ren_junk', ren_ptr', ren_row', ren_arow', ren_eptr', vm, List.idxOf?_cons, List.idxOf?_nil, beq_self_eq_true, Option.map_none, List.getD_cons_zero, List.getD_cons_succ, ↓wk, ↓wl, nc, evV, wrapBits_eq, ↓reduceIte, Nat.reduceEqDiff, Nat.reduceAdd, Nat.reduceSub, Nat.reduceLeDiff, Nat.reduceLT, Nat.reduceBEq, reduceCtorEq, Int.reduceEq, hx_1603, eNetworkStream, eL, hw_1608, hw_1609, hw_1611, hw_1612])
              · rintro _ s_ h_ H hs_ hh_
                simp only [f23_C5] at H hs_ hh_
                subst hs_
                subst hh_
                try simp only [↓wk, ↓wl, ncs, evV, wrapBits_eq, ↓reduceIte, Nat.reduceEqDiff, Nat.reduceAdd, Nat.reduceSub, Nat.reduceLeDiff, Nat.reduceLT, Nat.reduceBEq, reduceCtorEq, Int.reduceEq, hx_1603, eNetworkStream, eL, hw_1608, hw_1609, hw_1611, hw_1612]
                refine evTs_inl (I := f23_C6 out_1471 s_923 x_1603 r_1610 x_1540 v_1602 r_1600 t_924) (args := [.agg [.int .u64 s_923.fSource, .int .i64 x_1603.fUniverse, .int .i64 s_923.fPriority, .int .i64 r_1610, .int .i64 s_923.fSync, .bool false, .str x_1540.fSlots], .ptr 2 0]) H (by rfl) fd45 (by rfl) (Nat.le_of_ble_eq_true rfl) ?_ ?_ <;> clear H
                · rintro v_ Q_ H hqf23_C6
                  simp only [f23_C6] at H
                  dsimp only [List.length_cons, List.length_nil]
                  refine AW.rseq ?_
                  try simp only [↓wk, ↓wl, ncs, evV, wrapBits_eq, ↓reduceIte, Nat.reduceEqDiff, Nat.reduceAdd, Nat.reduceSub, Nat.reduceLeDiff, Nat.reduceLT, Nat.reduceBEq, reduceCtorEq, Int.reduceEq, hx_1603, eNetworkStream, eL, hw_1608, hw_1609, hw_1611, hw_1612]
                  refine AW.rend ?_
                  try simp only [↓wk, ↓wl, ncs, evV, wrapBits_eq, ↓reduceIte, Nat.reduceEqDiff, Nat.reduceAdd, Nat.reduceSub, Nat.reduceLeDiff, Nat.reduceLT, Nat.reduceBEq, reduceCtorEq, Int.reduceEq, hx_1603, eNetworkStream, eL, hw_1608, hw_1609, hw_1611, hw_1612]
                  refine evTs_app (enc := eNetworkPacket) H (by rfl) (by first | rfl | simp only [List.length_set, hx_1603, eNetworkStream, eL, hw_1608, hw_1609, hw_1611, hw_1612]) (by rfl) (by rfl) ?_ <;> clear H <;> intro out_1616 H
                  try simp only [↓wk, ↓wl, ncs, evV, wrapBits_eq, ↓reduceIte, Nat.reduceEqDiff, Nat.reduceAdd, Nat.reduceSub, Nat.reduceLeDiff, Nat.reduceLT, Nat.reduceBEq, reduceCtorEq, Int.reduceEq, hx_1603, eNetworkStream, eL, hw_1608, hw_1609, hw_1611, hw_1612]
                  refine evTs_st (by simp only [↓wk, ↓wl, ncs, evV, wrapBits_eq, ↓reduceIte, Nat.reduceEqDiff, Nat.reduceAdd, Nat.reduceSub, Nat.reduceLeDiff, Nat.reduceLT, Nat.reduceBEq, reduceCtorEq, Int.reduceEq, hx_1603, eNetworkStream, eL, hw_1608, hw_1609, hw_1611, hw_1612, Nat.reduceLeDiff]; rfl) ?_
                  try simp only [↓wk, ↓wl, ncs, evV, wrapBits_eq, ↓reduceIte, Nat.reduceEqDiff, Nat.reduceAdd, Nat.reduceSub, Nat.reduceLeDiff, Nat.reduceLT, Nat.reduceBEq, reduceCtorEq, Int.reduceEq, hx_1603, eNetworkStream, eL, hw_1608, hw_1609, hw_1611, hw_1612]
                  cases H
                  exact hqf23_C6 _ _ _ (.inl rfl) (Le.toL 9 (by rfl) [0, 1, 2, 3, 4, 5, 6, 7, 8, 10] [] (by decide) (by decide) rfl) (by simp only [resVs, omap, resV, f23_C6, List.length_set, Option.map_some, restrict_eq, renS_nil, renS_cons, renB_els, renB_cel, renB_dead, deep_eq, map_ren_enc, ren_agg', ren_tup', ren_fn', ren_int', ren_bool', ren_str', ren_sl', ren_pro', ren_nilp', ren_nilfn', ren_junk', ren_ptr', ren_row', ren_arow', ren_eptr', vm, List.idxOf?_cons, List.idxOf?_nil, beq_self_eq_true, Option.map_none, List.getD_cons_zero, List.getD_cons_succ, ↓wk, ↓wl, nc, evV, wrapBits_eq, ↓reduceIte, Nat.reduceEqDiff, Nat.reduceAdd, Nat.reduceSub, Nat.reduceLeDiff, Nat.reduceLT, Nat.reduceBEq, reduceCtorEq, Int.reduceEq, hx_1603, eNetworkStream, eL, hw_1608, hw_1609, hw_1611, hw_1612]) (by simp only [f23_C6, List.length_set, Option.map_some, restrict_eq, renS_nil, renS_cons, renB_els, renB_cel, renB_dead, deep_eq, map_ren_enc, ren_agg', ren_tup', ren_fn', ren_int', ren_bool', ren_str', ren_sl', ren_pro', ren_nilp', ren_nilfn', ren_junk', ren_ptr', ren_row', ren_arow', ren_eptr', vm, List.idxOf?_cons, List.idxOf?_nil, beq_self_eq_true, Option.map_none, List.getD_cons_zero, List.getD_cons_succ, ↓wk, ↓wl, nc, evV, wrapBits_eq, ↓reduceIte, Nat.reduceEqDiff, Nat.reduceAdd, Nat.reduceSub, Nat.reduceLeDiff, Nat.reduceLT, Nat.reduceBEq, reduceCtorEq, Int.reduceEq, hx_1603, eNetworkStream, eL, hw_1608, hw_1609, hw_1611, hw_1612])
                · rintro v_1615 s_ h_ H hs_ hh_
                  simp only [f23_C6] at H hs_ hh_
                  subst hs_
                  subst hh_
                  try simp only [↓wk, ↓wl, ncs, evV, wrapBits_eq, ↓reduceIte, Nat.reduceEqDiff, Nat.reduceAdd, Nat.reduceSub, Nat.reduceLeDiff, Nat.reduceLT, Nat.reduceBEq, reduceCtorEq, Int.reduceEq, hx_1603, eNetworkStream, eL, hw_1608, hw_1609, hw_1611, hw_1612]
                  cases H
                  exact hqf23_C4 _ _ _ (.inl rfl) (Le.toL 6 (by rfl) [0, 1, 2, 3, 4, 5, 7, 9] [] (by decide) (by decide) rfl) (by simp only [resVs, omap, resV, f23_C4, List.length_set, Option.map_some, restrict_eq, renS_nil, renS_cons, renB_els, renB_cel, renB_dead, deep_eq, map_ren_enc, ren_agg', ren_tup', ren_fn', ren_int', ren_bool', ren_str', ren_sl', ren_pro', ren_nilp', ren_nilfn', ren_junk', ren_ptr', ren_row', ren_arow', ren_eptr', vm, List.idxOf?_cons, List.idxOf?_nil, beq_self_eq_true, Option.map_none, List.getD_cons_zero, List.getD_cons_succ, ↓wk, ↓wl, nc, evV, wrapBits_eq, ↓reduceIte, Nat.reduceEqDiff, Nat.reduceAdd, Nat.reduceSub, Nat.reduceLeDiff, Nat.reduceLT, Nat.reduceBEq, reduceCtorEq, Int.reduceEq, hx_1603, eNetworkStream, eL, hw_1608, hw_1609, hw_1611, hw_1612]) (by simp only [f23_C4, List.length_set, Option.map_some, restrict_eq, renS_nil, renS_cons, renB_els, renB_cel, renB_dead, deep_eq, map_ren_enc, ren_agg', ren_tup', ren_fn', ren_int', ren_bool', ren_str', ren_sl', ren_pro', ren_nilp', ren_nilfn', ren_junk', ren_ptr', ren_row', ren_arow', ren_eptr', vm, List.idxOf?_cons, List.idxOf?_nil, beq_self_eq_true, Option.map_none, List.getD_cons_zero, List.getD_cons_succ, ↓wk, ↓wl, nc, evV, wrapBits_eq, ↓reduceIte, Nat.reduceEqDiff, Nat.reduceAdd, Nat.reduceSub, Nat.reduceLeDiff, Nat.reduceLT, Nat.reduceBEq, reduceCtorEq, Int.reduceEq, hx_1603, eNetworkStream, eL, hw_1608, hw_1609, hw_1611, hw_1612])
            · refine AW.rseq ?_
              try simp only [↓wk, ↓wl, ncs, evV, wrapBits_eq, ↓reduceIte, Nat.reduceEqDiff, Nat.reduceAdd, Nat.reduceSub, Nat.reduceLeDiff, Nat.reduceLT, Nat.reduceBEq, reduceCtorEq, Int.reduceEq, hx_1603, eNetworkStream, eL]
              refine evTs_ifg H (by rfl) ?_ ?_ <;> clear H <;> intro H
              · try simp only [↓wk, ↓wl, ncs, evV, wrapBits_eq, ↓reduceIte, Nat.reduceEqDiff, Nat.reduceAdd, Nat.reduceSub, Nat.reduceLeDiff, Nat.reduceLT, Nat.reduceBEq, reduceCtorEq, Int.reduceEq, hx_1603, eNetworkStream, eL]
                refine AW.ift (by rfl) ?_
                refine AW.rend ?_
                try simp only [↓wk, ↓wl, ncs, evV, wrapBits_eq, ↓reduceIte, Nat.reduceEqDiff, Nat.reduceAdd, Nat.reduceSub, Nat.reduceLeDiff, Nat.reduceLT, Nat.reduceBEq, reduceCtorEq, Int.reduceEq, hx_1603, eNetworkStream, eL]
                refine evTs_stE (enc := eNetworkStream) x_1603 (NetworkStream.mk x_1603.fUniverse x_1603.fSeq x_1603.fLast (if 3 < (IntKind.i64.wrap (x_1603.fTimes + 1)) then 3 else (IntKind.i64.wrap (x_1603.fTimes + 1))) x_1603.fSlots) (by rfl) (by rfl) hx_1603 (by rfl) ?_
                have hw_1617 := set_get hx_1603 (NetworkStream.mk x_1603.fUniverse x_1603.fSeq x_1603.fLast (if 3 < (IntKind.i64.wrap (x_1603.fTimes + 1)) then 3 else (IntKind.i64.wrap (x_1603.fTimes + 1))) x_1603.fSlots)
                try simp only [eNetworkStream, eL, ↓wk, ↓wl, ncs, evV, wrapBits_eq, ↓reduceIte, Nat.reduceEqDiff, Nat.reduceAdd, Nat.reduceSub, Nat.reduceLeDiff, Nat.reduceLT, Nat.reduceBEq, reduceCtorEq, Int.reduceEq, hx_1603, eNetworkStream, eL, hw_1617]
                refine blkQ.norm ?_
                refine AW.rseq ?_
                try simp only [↓wk, ↓wl, ncs, evV, wrapBits_eq, ↓reduceIte, Nat.reduceEqDiff, Nat.reduceAdd, Nat.reduceSub, Nat.reduceLeDiff, Nat.reduceLT, Nat.reduceBEq, reduceCtorEq, Int.reduceEq, hx_1603, eNetworkStream, eL, hw_1617]
                refine evTs_pure hFn H (fun _ h => f46_ok h) (by rfl) (by rfl) (by rfl) (by rfl) (fun _ => rfl) ?_ <;> clear H <;> intro r_1618 H
                try simp only [eL, ↓wk, ↓wl, ncs, evV, wrapBits_eq, ↓reduceIte, Nat.reduceEqDiff, Nat.reduceAdd, Nat.reduceSub, Nat.reduceLeDiff, Nat.reduceLT, Nat.reduceBEq, reduceCtorEq, Int.reduceEq, hx_1603, eNetworkStream, eL, hw_1617]
                refine evTs_stE (enc := eNetworkStream) (NetworkStream.mk x_1603.fUniverse x_1603.fSeq x_1603.fLast (if 3 < (IntKind.i64.wrap (x_1603.fTimes + 1)) then 3 else (IntKind.i64.wrap (x_1603.fTimes + 1))) x_1603.fSlots) (NetworkStream.mk x_1603.fUniverse r_1618 x_1603.fLast (if 3 < (IntKind.i64.wrap (x_1603.fTimes + 1)) then 3 else (IntKind.i64.wrap (x_1603.fTimes + 1))) x_1603.fSlots) (by rfl) (by rfl) hw_1617 (by rfl) ?_
                have hw_1619 := set_get hw_1617 (NetworkStream.mk x_1603.fUniverse r_1618 x_1603.fLast (if 3 < (IntKind.i64.wrap (x_1603.fTimes + 1)) then 3 else (IntKind.i64.wrap (x_1603.fTimes + 1))) x_1603.fSlots)
                try simp only [eNetworkStream, eL, ↓wk, ↓wl, ncs, evV, wrapBits_eq, ↓reduceIte, Nat.reduceEqDiff, Nat.reduceAdd, Nat.reduceSub, Nat.reduceLeDiff, Nat.reduceLT, Nat.reduceBEq, reduceCtorEq, Int.reduceEq, hx_1603, eNetworkStream, eL, hw_1617, hw_1619]
                refine evTs_stE (enc := eNetworkStream) (NetworkStream.mk x_1603.fUniverse r_1618 x_1603.fLast (if 3 < (IntKind.i64.wrap (x_1603.fTimes + 1)) then 3 else (IntKind.i64.wrap (x_1603.fTimes + 1))) x_1603.fSlots) (NetworkStream.mk x_1603.fUniverse r_1618 t_924 (if 3 < (IntKind.i64.wrap (x_1603.fTimes + 1)) then 3 else (IntKind.i64.wrap (x_1603.fTimes + 1))) x_1603.fSlots) (by rfl) (by rfl) hw_1619 (by rfl) ?_
                have hw_1620 := set_get hw_1619 (NetworkStream.mk x_1603.fUniverse r_1618 t_924 (if 3 < (IntKind.i64.wrap (x_1603.fTimes + 1)) then 3 else (IntKind.i64.wrap (x_1603.fTimes + 1))) x_1603.fSlots)
                try simp only [eNetworkStream, eL, ↓wk, ↓wl, ncs, evV, wrapBits_eq, ↓reduceIte, Nat.reduceEqDiff, Nat.reduceAdd, Nat.reduceSub, Nat.reduceLeDiff, Nat.reduceLT, Nat.reduceBEq, reduceCtorEq, Int.reduceEq, hx_1603, eNetworkStream, eL, hw_1617, hw_1619, hw_1620]
                refine AW.rend ?_
                try simp only [↓wk, ↓wl, ncs, evV, wrapBits_eq, ↓reduceIte, Nat.reduceEqDiff, Nat.reduceAdd, Nat.reduceSub, Nat.reduceLeDiff, Nat.reduceLT, Nat.reduceBEq, reduceCtorEq, Int.reduceEq, hx_1603, eNetworkStream, eL, hw_1617, hw_1619, hw_1620]
                refine evTs_inl (I := f23_C7 s_923 x_1603 r_1618 v_1602 out_1471 x_1540 r_1600 t_924) (args := [.agg [.int .u64 s_923.fSource, .int .i64 s_923.fPriority, .int .i64 s_923.fSync, .int .i64 s_923.fPulse, .row 5 7 0 v_1602.length], .agg [.int .i64 x_1603.fUniverse, .int .i64 r_1618, .int .i64 t_924, .int .i64 (if 3 < (IntKind.i64.wrap (x_1603.fTimes + 1)) then 3 else (IntKind.i64.wrap (x_1603.fTimes + 1))), .str x_1603.fSlots]]) H (by rfl) fd51 (by rfl) (Nat.le_of_ble_eq_true rfl) ?_ ?_ <;> clear H
                · rintro v_ Q_ H hqf23_C7
                  simp only [f23_C7] at H
                  dsimp only [List.length_cons, List.length_nil]
                  refine AW.rseq ?_
                  try simp only [↓wk, ↓wl, ncs, evV, wrapBits_eq, ↓reduceIte, Nat.reduceEqDiff, Nat.reduceAdd, Nat.reduceSub, Nat.reduceLeDiff, Nat.reduceLT, Nat.reduceBEq, reduceCtorEq, Int.reduceEq, hx_1603, eNetworkStream, eL, hw_1617, hw_1619, hw_1620]
                  refine AW.rseq ?_
                  try simp only [↓wk, ↓wl, ncs, evV, wrapBits_eq, ↓reduceIte, Nat.reduceEqDiff, Nat.reduceAdd, Nat.reduceSub, Nat.reduceLeDiff, Nat.reduceLT, Nat.reduceBEq, reduceCtorEq, Int.reduceEq, hx_1603, eNetworkStream, eL, hw_1617, hw_1619, hw_1620]
                  refine evTs_st (by simp only [↓wk, ↓wl, ncs, evV, wrapBits_eq, ↓reduceIte, Nat.reduceEqDiff, Nat.reduceAdd, Nat.reduceSub, Nat.reduceLeDiff, Nat.reduceLT, Nat.reduceBEq, reduceCtorEq, Int.reduceEq, hx_1603, eNetworkStream, eL, hw_1617, hw_1619, hw_1620, Nat.reduceLeDiff]; rfl) ?_
                  try simp only [↓wk, ↓wl, ncs, evV, wrapBits_eq, ↓reduceIte, Nat.reduceEqDiff, Nat.reduceAdd, Nat.reduceSub, Nat.reduceLeDiff, Nat.reduceLT, Nat.reduceBEq, reduceCtorEq, Int.reduceEq, hx_1603, eNetworkStream, eL, hw_1617, hw_1619, hw_1620]
                  refine AW.ret ?_
                  cases H
                  exact hqf23_C7 _ _ _ (.inr rfl) (Le.toL 8 (by rfl) [0, 1, 2, 3, 4, 5, 6, 7, 10] [4] (by decide) (by decide) rfl) (by simp only [resVs, omap, resV, f23_C7, List.length_set, Option.map_some, restrict_eq, renS_nil, renS_cons, renB_els, renB_cel, renB_dead, deep_eq, map_ren_enc, ren_agg', ren_tup', ren_fn', ren_int', ren_bool', ren_str', ren_sl', ren_pro', ren_nilp', ren_nilfn', ren_junk', ren_ptr', ren_row', ren_arow', ren_eptr', vm, List.idxOf?_cons, List.idxOf?_nil, beq_self_eq_true, Option.map_none, List.getD_cons_zero, List.getD_cons_succ, ↓wk, ↓wl, nc, evV, wrapBits_eq, ↓reduceIte, Nat.reduceEqDiff, Nat.reduceAdd, Nat.reduceSub, Nat.reduceLeDiff, Nat.reduceLT, Nat.reduceBEq, reduceCtorEq, Int.reduceEq, hx_1603, eNetworkStream, eL, hw_1617, hw_1619, hw_1620]) (by simp only [f23_C7, List.length_set, Option.map_some, restrict_eq, renS_nil, renS_cons, renB_els, renB_cel, renB_dead, deep_eq, map_ren_enc, ren_agg', ren_tup', ren_fn', ren_int', ren_bool', ren_str', ren_sl', ren_pro', ren_nilp', ren_nilfn', ren_junk', ren_ptr', ren_row', ren_arow', ren_eptr', vm, List.idxOf?_cons, List.idxOf?_nil, beq_self_eq_true, Option.map_none, List.getD_cons_zero, List.getD_cons_succ, ↓wk, ↓wl, nc, evV, wrapBits_eq, ↓reduceIte, Nat.reduceEqDiff, Nat.reduceAdd, Nat.reduceSub, Nat.reduceLeDiff, Nat.reduceLT, Nat.reduceBEq, reduceCtorEq, Int.reduceEq, hx_1603, eNetworkStream, eL, hw_1617, hw_1619, hw_1620])
                · rintro _ s_ h_ H hs_ hh_
                  simp only [f23_C7] at H hs_ hh_
                  subst hs_
                  subst hh_
                  try simp only [↓wk, ↓wl, ncs, evV, wrapBits_eq, ↓reduceIte, Nat.reduceEqDiff, Nat.reduceAdd, Nat.reduceSub, Nat.reduceLeDiff, Nat.reduceLT, Nat.reduceBEq, reduceCtorEq, Int.reduceEq, hx_1603, eNetworkStream, eL, hw_1617, hw_1619, hw_1620]
                  refine evTs_inl (I := f23_C8 out_1471 s_923 x_1603 r_1618 v_1602 x_1540 r_1600 t_924) (args := [.agg [.int .u64 s_923.fSource, .int .i64 x_1603.fUniverse, .int .i64 s_923.fPriority, .int .i64 r_1618, .int .i64 s_923.fSync, .bool false, .str x_1603.fSlots], .ptr 2 0]) H (by rfl) fd45 (by rfl) (Nat.le_of_ble_eq_true rfl) ?_ ?_ <;> clear H
                  · rintro v_ Q_ H hqf23_C8
                    simp only [f23_C8] at H
                    dsimp only [List.length_cons, List.length_nil]
                    refine AW.rseq ?_
                    try simp only [↓wk, ↓wl, ncs, evV, wrapBits_eq, ↓reduceIte, Nat.reduceEqDiff, Nat.reduceAdd, Nat.reduceSub, Nat.reduceLeDiff, Nat.reduceLT, Nat.reduceBEq, reduceCtorEq, Int.reduceEq, hx_1603, eNetworkStream, eL, hw_1617, hw_1619, hw_1620]
                    refine AW.rend ?_
                    try simp only [↓wk, ↓wl, ncs, evV, wrapBits_eq, ↓reduceIte, Nat.reduceEqDiff, Nat.reduceAdd, Nat.reduceSub, Nat.reduceLeDiff, Nat.reduceLT, Nat.reduceBEq, reduceCtorEq, Int.reduceEq, hx_1603, eNetworkStream, eL, hw_1617, hw_1619, hw_1620]
                    refine evTs_app (enc := eNetworkPacket) H (by rfl) (by first | rfl | simp only [List.length_set, hx_1603, eNetworkStream, eL, hw_1617, hw_1619, hw_1620]) (by rfl) (by rfl) ?_ <;> clear H <;> intro out_1624 H
                    try simp only [↓wk, ↓wl, ncs, evV, wrapBits_eq, ↓reduceIte, Nat.reduceEqDiff, Nat.reduceAdd, Nat.reduceSub, Nat.reduceLeDiff, Nat.reduceLT, Nat.reduceBEq, reduceCtorEq, Int.reduceEq, hx_1603, eNetworkStream, eL, hw_1617, hw_1619, hw_1620]
                    refine evTs_st (by simp only [↓wk, ↓wl, ncs, evV, wrapBits_eq, ↓reduceIte, Nat.reduceEqDiff, Nat.reduceAdd, Nat.reduceSub, Nat.reduceLeDiff, Nat.reduceLT, Nat.reduceBEq, reduceCtorEq, Int.reduceEq, hx_1603, eNetworkStream, eL, hw_1617, hw_1619, hw_1620, Nat.reduceLeDiff]; rfl) ?_
                    try simp only [↓wk, ↓wl, ncs, evV, wrapBits_eq, ↓reduceIte, Nat.reduceEqDiff, Nat.reduceAdd, Nat.reduceSub, Nat.reduceLeDiff, Nat.reduceLT, Nat.reduceBEq, reduceCtorEq, Int.reduceEq, hx_1603, eNetworkStream, eL, hw_1617, hw_1619, hw_1620]
                    cases H
                    exact hqf23_C8 _ _ _ (.inl rfl) (Le.toL 9 (by rfl) [0, 1, 2, 3, 4, 5, 6, 7, 8, 10] [] (by decide) (by decide) rfl) (by simp only [resVs, omap, resV, f23_C8, List.length_set, Option.map_some, restrict_eq, renS_nil, renS_cons, renB_els, renB_cel, renB_dead, deep_eq, map_ren_enc, ren_agg', ren_tup', ren_fn', ren_int', ren_bool', ren_str', ren_sl', ren_pro', ren_nilp', ren_nilfn', ren_junk', ren_ptr', ren_row', ren_arow', ren_eptr', vm, List.idxOf?_cons, List.idxOf?_nil, beq_self_eq_true, Option.map_none, List.getD_cons_zero, List.getD_cons_succ, ↓wk, ↓wl, nc, evV, wrapBits_eq, ↓reduceIte, Nat.reduceEqDiff, Nat.reduceAdd, Nat.reduceSub, Nat.reduceLeDiff, Nat.reduceLT, Nat.reduceBEq, reduceCtorEq, Int.reduceEq, hx_1603, eNetworkStream, eL, hw_1617, hw_1619, hw_1620]) (by simp only [f23_C8, List.length_set, Option.map_some, restrict_eq, renS_nil, renS_cons, renB_els, renB_cel, renB_dead, deep_eq, map_ren_enc, ren_agg', ren_tup', ren_fn', ren_int', ren_bool', ren_str', ren_sl', ren_pro', ren_nilp', ren_nilfn', ren_junk', ren_ptr', ren_row', ren_arow', ren_eptr', vm, List.idxOf?_cons, List.idxOf?_nil, beq_self_eq_true, Option.map_none, List.getD_cons_zero, List.getD_cons_succ, ↓wk, ↓wl, nc, evV, wrapBits_eq, ↓reduceIte, Nat.reduceEqDiff, Nat.reduceAdd, Nat.reduceSub, Nat.reduceLeDiff, Nat.reduceLT, Nat.reduceBEq, reduceCtorEq, Int.reduceEq, hx_1603, eNetworkStream, eL, hw_1617, hw_1619, hw_1620])
                  · rintro v_1623 s_ h_ H hs_ hh_
                    simp only [f23_C8] at H hs_ hh_
                    subst hs_
                    subst hh_
                    try simp only [↓wk, ↓wl, ncs, evV, wrapBits_eq, ↓reduceIte, Nat.reduceEqDiff, Nat.reduceAdd, Nat.reduceSub, Nat.reduceLeDiff, Nat.reduceLT, Nat.reduceBEq, reduceCtorEq, Int.reduceEq, hx_1603, eNetworkStream, eL, hw_1617, hw_1619, hw_1620]
                    cases H
                    exact hqf23_C4 _ _ _ (.inl rfl) (Le.toL 6 (by rfl) [0, 1, 2, 3, 4, 5, 7, 9] [] (by decide) (by decide) rfl) (by simp only [resVs, omap, resV, f23_C4, List.length_set, Option.map_some, restrict_eq, renS_nil, renS_cons, renB_els, renB_cel, renB_dead, deep_eq, map_ren_enc, ren_agg', ren_tup', ren_fn', ren_int', ren_bool', ren_str', ren_sl', ren_pro', ren_nilp', ren_nilfn', ren_junk', ren_ptr', ren_row', ren_arow', ren_eptr', vm, List.idxOf?_cons, List.idxOf?_nil, beq_self_eq_true, Option.map_none, List.getD_cons_zero, List.getD_cons_succ, ↓wk, ↓wl, nc, evV, wrapBits_eq, ↓reduceIte, Nat.reduceEqDiff, Nat.reduceAdd, Nat.reduceSub, Nat.reduceLeDiff, Nat.reduceLT, Nat.reduceBEq, reduceCtorEq, Int.reduceEq, hx_1603, eNetworkStream, eL, hw_1617, hw_1619, hw_1620]) (by simp only [f23_C4, List.length_set, Option.map_some, restrict_eq, renS_nil, renS_cons, renB_els, renB_cel, renB_dead, deep_eq, map_ren_enc, ren_agg', ren_tup', ren_fn', ren_int', ren_bool', ren_str', ren_sl', ren_pro', ren_nilp', ren_nilfn', ren_junk', ren_ptr', ren_row', ren_arow', ren_eptr', vm, List.idxOf?_cons, List.idxOf?_nil, beq_self_eq_true, Option.map_none, List.getD_cons_zero, List.getD_cons_succ, ↓wk, ↓wl, nc, evV, wrapBits_eq, ↓reduceIte, Nat.reduceEqDiff, Nat.reduceAdd, Nat.reduceSub, Nat.reduceLeDiff, Nat.reduceLT, Nat.reduceBEq, reduceCtorEq, Int.reduceEq, hx_1603, eNetworkStream, eL, hw_1617, hw_1619, hw_1620])
              · try simp only [↓wk, ↓wl, ncs, evV, wrapBits_eq, ↓reduceIte, Nat.reduceEqDiff, Nat.reduceAdd, Nat.reduceSub, Nat.reduceLeDiff, Nat.reduceLT, Nat.reduceBEq, reduceCtorEq, Int.reduceEq, hx_1603, eNetworkStream, eL]
                refine AW.ifc H (by rfl) ?_ ?_ <;> clear H <;> intro H
                · refine AW.rend ?_
                  try simp only [↓wk, ↓wl, ncs, evV, wrapBits_eq, ↓reduceIte, Nat.reduceEqDiff, Nat.reduceAdd, Nat.reduceSub, Nat.reduceLeDiff, Nat.reduceLT, Nat.reduceBEq, reduceCtorEq, Int.reduceEq, hx_1603, eNetworkStream, eL]
                  refine evTs_stE (enc := eNetworkStream) x_1603 (NetworkStream.mk x_1603.fUniverse x_1603.fSeq x_1603.fLast (if 3 < (IntKind.i64.wrap (x_1603.fTimes + 1)) then 3 else (IntKind.i64.wrap (x_1603.fTimes + 1))) x_1603.fSlots) (by rfl) (by rfl) hx_1603 (by rfl) ?_
                  have hw_1625 := set_get hx_1603 (NetworkStream.mk x_1603.fUniverse x_1603.fSeq x_1603.fLast (if 3 < (IntKind.i64.wrap (x_1603.fTimes + 1)) then 3 else (IntKind.i64.wrap (x_1603.fTimes + 1))) x_1603.fSlots)
                  try simp only [eNetworkStream, eL, ↓wk, ↓wl, ncs, evV, wrapBits_eq, ↓reduceIte, Nat.reduceEqDiff, Nat.reduceAdd, Nat.reduceSub, Nat.reduceLeDiff, Nat.reduceLT, Nat.reduceBEq, reduceCtorEq, Int.reduceEq, hx_1603, eNetworkStream, eL, hw_1625]
                  refine blkQ.norm ?_
                  refine AW.rseq ?_
                  try simp only [↓wk, ↓wl, ncs, evV, wrapBits_eq, ↓reduceIte, Nat.reduceEqDiff, Nat.reduceAdd, Nat.reduceSub, Nat.reduceLeDiff, Nat.reduceLT, Nat.reduceBEq, reduceCtorEq, Int.reduceEq, hx_1603, eNetworkStream, eL, hw_1625]
                  refine evTs_pure hFn H (fun _ h => f46_ok h) (by rfl) (by rfl) (by rfl) (by rfl) (fun _ => rfl) ?_ <;> clear H <;> intro r_1626 H
                  try simp only [eL, ↓wk, ↓wl, ncs, evV, wrapBits_eq, ↓reduceIte, Nat.reduceEqDiff, Nat.reduceAdd, Nat.reduceSub, Nat.reduceLeDiff, Nat.reduceLT, Nat.reduceBEq, reduceCtorEq, Int.reduceEq, hx_1603, eNetworkStream, eL, hw_1625]
                  refine evTs_stE (enc := eNetworkStream) (NetworkStream.mk x_1603.fUniverse x_1603.fSeq x_1603.fLast (if 3 < (IntKind.i64.wrap (x_1603.fTimes + 1)) then 3 else (IntKind.i64.wrap (x_1603.fTimes + 1))) x_1603.fSlots) (NetworkStream.mk x_1603.fUniverse r_1626 x_1603.fLast (if 3 < (IntKind.i64.wrap (x_1603.fTimes + 1)) then 3 else (IntKind.i64.wrap (x_1603.fTimes + 1))) x_1603.fSlots) (by rfl) (by rfl) hw_1625 (by rfl) ?_
                  have hw_1627 := set_get hw_1625 (NetworkStream.mk x_1603.fUniverse r_1626 x_1603.fLast (if 3 < (IntKind.i64.wrap (x_1603.fTimes + 1)) then 3 else (IntKind.i64.wrap (x_1603.fTimes + 1))) x_1603.fSlots)
                  try simp only [eNetworkStream, eL, ↓wk, ↓wl, ncs, evV, wrapBits_eq, ↓reduceIte, Nat.reduceEqDiff, Nat.reduceAdd, Nat.reduceSub, Nat.reduceLeDiff, Nat.reduceLT, Nat.reduceBEq, reduceCtorEq, Int.reduceEq, hx_1603, eNetworkStream, eL, hw_1625, hw_1627]
                  refine evTs_stE (enc := eNetworkStream) (NetworkStream.mk x_1603.fUniverse r_1626 x_1603.fLast (if 3 < (IntKind.i64.wrap (x_1603.fTimes + 1)) then 3 else (IntKind.i64.wrap (x_1603.fTimes + 1))) x_1603.fSlots) (NetworkStream.mk x_1603.fUniverse r_1626 t_924 (if 3 < (IntKind.i64.wrap (x_1603.fTimes + 1)) then 3 else (IntKind.i64.wrap (x_1603.fTimes + 1))) x_1603.fSlots) (by rfl) (by rfl) hw_1627 (by rfl) ?_
                  have hw_1628 := set_get hw_1627 (NetworkStream.mk x_1603.fUniverse r_1626 t_924 (if 3 < (IntKind.i64.wrap (x_1603.fTimes + 1)) then 3 else (IntKind.i64.wrap (x_1603.fTimes + 1))) x_1603.fSlots)
                  try simp only [eNetworkStream, eL, ↓wk, ↓wl, ncs, evV, wrapBits_eq, ↓reduceIte, Nat.reduceEqDiff, Nat.reduceAdd, Nat.reduceSub, Nat.reduceLeDiff, Nat.reduceLT, Nat.reduceBEq, reduceCtorEq, Int.reduceEq, hx_1603, eNetworkStream, eL, hw_1625, hw_1627, hw_1628]
                  refine AW.rend ?_
                  try simp only [↓wk, ↓wl, ncs, evV, wrapBits_eq, ↓reduceIte, Nat.reduceEqDiff, Nat.reduceAdd, Nat.reduceSub, Nat.reduceLeDiff, Nat.reduceLT, Nat.reduceBEq, reduceCtorEq, Int.reduceEq, hx_1603, eNetworkStream, eL, hw_1625, hw_1627, hw_1628]
                  refine evTs_inl (I := f23_C9 s_923 x_1603 r_1626 v_1602 out_1471 x_1540 r_1600 t_924) (args := [.agg [.int .u64 s_923.fSource, .int .i64 s_923.fPriority, .int .i64 s_923.fSync, .int .i64 s_923.fPulse, .row 5 7 0 v_1602.length], .agg [.int .i64 x_1603.fUniverse, .int .i64 r_1626, .int .i64 t_924, .int .i64 (if 3 < (IntKind.i64.wrap (x_1603.fTimes + 1)) then 3 else (IntKind.i64.wrap (x_1603.fTimes + 1))), .str x_1603.fSlots]]) H (by rfl) fd51 (by rfl) (Nat.le_of_ble_eq_true rfl) ?_ ?_ <;> clear H
                  · rintro v_ Q_ H hqf23_C9
                    simp only [f23_C9] at H
                    dsimp only [List.length_cons, List.length_nil]
                    refine AW.rseq ?_
                    try simp only [↓wk, ↓wl, ncs, evV, wrapBits_eq, ↓reduceIte, Nat.reduceEqDiff, Nat.reduceAdd, Nat.reduceSub, Nat.reduceLeDiff, Nat.reduceLT, Nat.reduceBEq, reduceCtorEq, Int.reduceEq, hx_1603, eNetworkStream, eL, hw_1625, hw_1627, hw_1628]
                    refine AW.rseq ?_
                    try simp only [↓wk, ↓wl, ncs, evV, wrapBits_eq, ↓reduceIte, Nat.reduceEqDiff, Nat.reduceAdd, Nat.reduceSub, Nat.reduceLeDiff, Nat.reduceLT, Nat.reduceBEq, reduceCtorEq, Int.reduceEq, hx_1603, eNetworkStream, eL, hw_1625, hw_1627, hw_1628]
                    refine evTs_st (by simp only [↓wk, ↓wl, ncs, evV, wrapBits_eq, ↓reduceIte, Nat.reduceEqDiff, Nat.reduceAdd, Nat.reduceSub, Nat.reduceLeDiff, Nat.reduceLT, Nat.reduceBEq, reduceCtorEq, Int.reduceEq, hx_1603, eNetworkStream, eL, hw_1625, hw_1627, hw_1628, Nat.reduceLeDiff]; rfl) ?_
                    try simp only [↓wk, ↓wl, ncs, evV, wrapBits_eq, ↓reduceIte, Nat.reduceEqDiff, Nat.reduceAdd, Nat.reduceSub, Nat.reduceLeDiff, Nat.reduceLT, Nat.reduceBEq, reduceCtorEq, Int.reduceEq, hx_1603, eNetworkStream, eL, hw_1625, hw_1627, hw_1628]
                    refine AW.ret ?_
                    cases H
                    exact hqf23_C9 _ _ _ (.inr rfl) (Le.toL 8 (by rfl) [0, 1, 2, 3, 4, 5, 6, 7, 10] [4] (by decide) (by decide) rfl) (by simp only [resVs, omap, resV, f23_C9, List.length_set, Option.map_some, restrict_eq, renS_nil, renS_cons, renB_els, renB_cel, renB_dead, deep_eq, map_ren_enc, ren_agg', ren_tup', ren_fn', ren_int', ren_bool', ren_str', ren_sl', ren_pro', ren_nilp', ren_nilfn', ren_junk', ren_ptr', ren_row', ren_arow', ren_eptr', vm, List.idxOf?_cons, List.idxOf?_nil, beq_self_eq_true, Option.map_none, List.getD_cons_zero, List.getD_cons_succ, ↓wk, ↓wl, nc, evV, wrapBits_eq, ↓reduceIte, Nat.reduceEqDiff, Nat.reduceAdd, Nat.reduceSub, Nat.reduceLeDiff, Nat.reduceLT, Nat.reduceBEq, reduceCtorEq, Int.reduceEq, hx_1603, eNetworkStream, eL, hw_1625, hw_1627, hw_1628]) (by simp only [f23_C9, List.length_set, Option.map_some, restrict_eq, renS_nil, renS_cons, renB_els, renB_cel, renB_dead, deep_eq, map_ren_enc, ren_agg', ren_tup', ren_fn', ren_int', ren_bool', ren_str', ren_sl', ren_pro', ren_nilp', ren_nilfn', ren_junk', ren_ptr', ren_row', ren_arow', ren_eptr', vm, List.idxOf?_cons, List.idxOf?_nil, beq_self_eq_true, Option.map_none, List.getD_cons_zero, List.getD_cons_succ, ↓wk, ↓wl, nc, evV, wrapBits_eq, ↓reduceIte, Nat.reduceEqDiff, Nat.reduceAdd, Nat.reduceSub, Nat.reduceLeDiff, Nat.reduceLT, Nat.reduceBEq, reduceCtorEq, Int.reduceEq, hx_1603, eNetworkStream, eL, hw_1625, hw_1627, hw_1628])
                  · rintro _ s_ h_ H hs_ hh_
                    simp only [f23_C9] at H hs_ hh_
                    subst hs_
                    subst hh_
                    try simp only [↓wk, ↓wl, ncs, evV, wrapBits_eq, ↓reduceIte, Nat.reduceEqDiff, Nat.reduceAdd, Nat.reduceSub, Nat.reduceLeDiff, Nat.reduceLT, Nat.reduceBEq, reduceCtorEq, Int.reduceEq, hx_1603, eNetworkStream, eL, hw_1625, hw_1627, hw_1628]
                    refine evTs_inl (I := f23_C10 out_1471 s_923 x_1603 r_1626 v_1602 x_1540 r_1600 t_924) (args := [.agg [.int .u64 s_923.fSource, .int .i64 x_1603.fUniverse, .int .i64 s_923.fPriority, .int .i64 r_1626, .int .i64 s_923.fSync, .bool false, .str x_1603.fSlots], .ptr 2 0]) H (by rfl) fd45 (by rfl) (Nat.le_of_ble_eq_true rfl) ?_ ?_ <;> clear H
                    · rintro v_ Q_ H hqf23_C10
                      simp only [f23_C10] at H
                      dsimp only [List.length_cons, List.length_nil]
                      refine AW.rseq ?_
                      try simp only [↓wk, ↓wl, ncs, evV, wrapBits_eq, ↓reduceIte, Nat.reduceEqDiff, Nat.reduceAdd, Nat.reduceSub, Nat.reduceLeDiff, Nat.reduceLT, Nat.reduceBEq, reduceCtorEq, Int.reduceEq, hx_1603, eNetworkStream, eL, hw_1625, hw_1627, hw_1628]
                      refine AW.rend ?_
                      try simp only [↓wk, ↓wl, ncs, evV, wrapBits_eq, ↓reduceIte, Nat.reduceEqDiff, Nat.reduceAdd, Nat.reduceSub, Nat.reduceLeDiff, Nat.reduceLT, Nat.reduceBEq, reduceCtorEq, Int.reduceEq, hx_1603, eNetworkStream, eL, hw_1625, hw_1627, hw_1628]
                      refine evTs_app (enc := eNetworkPacket) H (by rfl) (by first | rfl | simp only [List.length_set, hx_1603, eNetworkStream, eL, hw_1625, hw_1627, hw_1628]) (by rfl) (by rfl) ?_ <;> clear H <;> intro out_1632 H
                      try simp only [↓wk, ↓wl, ncs, evV, wrapBits_eq, ↓reduceIte, Nat.reduceEqDiff, Nat.reduceAdd, Nat.reduceSub, Nat.reduceLeDiff, Nat.reduceLT, Nat.reduceBEq, reduceCtorEq, Int.reduceEq, hx_1603, eNetworkStream, eL, hw_1625, hw_1627, hw_1628]
                      refine evTs_st (by simp only [↓wk, ↓wl, ncs, evV, wrapBits_eq, ↓reduceIte, Nat.reduceEqDiff, Nat.reduceAdd, Nat.reduceSub, Nat.reduceLeDiff, Nat.reduceLT, Nat.reduceBEq, reduceCtorEq, Int.reduceEq, hx_1603, eNetworkStream, eL, hw_1625, hw_1627, hw_1628, Nat.reduceLeDiff]; rfl) ?_
                      try simp only [↓wk, ↓wl, ncs, evV, wrapBits_eq, ↓reduceIte, Nat.reduceEqDiff, Nat.reduceAdd, Nat.reduceSub, Nat.reduceLeDiff, Nat.reduceLT, Nat.reduceBEq, reduceCtorEq, Int.reduceEq, hx_1603, eNetworkStream, eL, hw_1625, hw_1627, hw_1628]
                      cases H
                      exact hqf23_C10 _ _ _ (.inl rfl) (Le.toL 9 (by rfl) [0, 1, 2, 3, 4, 5, 6, 7, 8, 10] [] (by decide) (by decide) rfl) (by simp only [resVs, omap, resV, f23_C10, List.length_set, Option.map_some, restrict_eq, renS_nil, renS_cons, renB_els, renB_cel, renB_dead, deep_eq, map_ren_enc, ren_agg', ren_tup', ren_fn', ren_int', ren_bool', ren_str', ren_sl', ren_pro', ren_nilp', ren_nilfn', ren_junk', ren_ptr', ren_row', ren_arow', ren_eptr', vm, List.idxOf?_cons, List.idxOf?_nil, beq_self_eq_true, Option.map_none, List.getD_cons_zero, List.getD_cons_succ, ↓wk, ↓wl, nc, evV, wrapBits_eq, ↓reduceIte, Nat.reduceEqDiff, Nat.reduceAdd, Nat.reduceSub, Nat.reduceLeDiff, Nat.reduceLT, Nat.reduceBEq, reduceCtorEq, Int.reduceEq, hx_1603, eNetworkStream, eL, hw_1625, hw_1627, hw_1628]) (by simp only [f23_C10, List.length_set, Option.map_some, restrict_eq, renS_nil, renS_cons, renB_els, renB_cel, renB_dead, deep_eq, map_ren_enc, ren_agg', ren_tup', ren_fn', ren_int', ren_bool', ren_str', ren_sl', ren_pro', ren_nilp', ren_nilfn', ren_junk', ren_ptr', ren_row', ren_arow', ren_eptr', vm, List.idxOf?_cons, List.idxOf?_nil, beq_self_eq_true, Option.map_none, List.getD_cons_zero, List.getD_cons_succ, ↓wk, ↓wl, nc, evV, wrapBits_eq, ↓reduceIte, Nat.reduceEqDiff, Nat.reduceAdd, Nat.reduceSub, Nat.reduceLeDiff, Nat.reduceLT, Nat.reduceBEq, reduceCtorEq, Int.reduceEq, hx_1603, eNetworkStream, eL, hw_1625, hw_1627, hw_1628])
                    · rintro v_1631 s_ h_ H hs_ hh_
                      simp only [f23_C10] at H hs_ hh_
                      subst hs_
                      subst hh_
                      try simp only [↓wk, ↓wl, ncs, evV, wrapBits_eq, ↓reduceIte, Nat.reduceEqDiff, Nat.reduceAdd, Nat.reduceSub, Nat.reduceLeDiff, Nat.reduceLT, Nat.reduceBEq, reduceCtorEq, Int.reduceEq, hx_1603, eNetworkStream, eL, hw_1625, hw_1627, hw_1628]
                      cases H
                      exact hqf23_C4 _ _ _ (.inl rfl) (Le.toL 6 (by rfl) [0, 1, 2, 3, 4, 5, 7, 9] [] (by decide) (by decide) rfl) (by simp only [resVs, omap, resV, f23_C4, List.length_set, Option.map_some, restrict_eq, renS_nil, renS_cons, renB_els, renB_cel, renB_dead, deep_eq, map_ren_enc, ren_agg', ren_tup', ren_fn', ren_int', ren_bool', ren_str', ren_sl', ren_pro', ren_nilp', ren_nilfn', ren_junk', ren_ptr', ren_row', ren_arow', ren_eptr', vm, List.idxOf?_cons, List.idxOf?_nil, beq_self_eq_true, Option.map_none, List.getD_cons_zero, List.getD_cons_succ, ↓wk, ↓wl, nc, evV, wrapBits_eq, ↓reduceIte, Nat.reduceEqDiff, Nat.reduceAdd, Nat.reduceSub, Nat.reduceLeDiff, Nat.reduceLT, Nat.reduceBEq, reduceCtorEq, Int.reduceEq, hx_1603, eNetworkStream, eL, hw_1625, hw_1627, hw_1628]) (by simp only [f23_C4, List.length_set, Option.map_some, restrict_eq, renS_nil, renS_cons, renB_els, renB_cel, renB_dead, deep_eq, map_ren_enc, ren_agg', ren_tup', ren_fn', ren_int', ren_bool', ren_str', ren_sl', ren_pro', ren_nilp', ren_nilfn', ren_junk', ren_ptr', ren_row', ren_arow', ren_eptr', vm, List.idxOf?_cons, List.idxOf?_nil, beq_self_eq_true, Option.map_none, List.getD_cons_zero, List.getD_cons_succ, ↓wk, ↓wl, nc, evV, wrapBits_eq, ↓reduceIte, Nat.reduceEqDiff, Nat.reduceAdd, Nat.reduceSub, Nat.reduceLeDiff, Nat.reduceLT, Nat.reduceBEq, reduceCtorEq, Int.reduceEq, hx_1603, eNetworkStream, eL, hw_1625, hw_1627, hw_1628])
                · refine AW.ret ?_
                  refine blkQ.ret ?_
                  cases H
                  exact hqf23_C4 _ _ _ (.inr rfl) (Le.trans (Le.moveCell 2 0 (by rfl) (by rfl) (by rfl)) (Le.toL 6 (by rfl) [0, 1, 2, 3, 4, 5, 7, 8] [] (by decide) (by decide) rfl)) (by simp only [resVs, omap, resV, f23_C4, List.length_set, Option.map_some, restrict_eq, renS_nil, renS_cons, renB_els, renB_cel, renB_dead, deep_eq, map_ren_enc, ren_agg', ren_tup', ren_fn', ren_int', ren_bool', ren_str', ren_sl', ren_pro', ren_nilp', ren_nilfn', ren_junk', ren_ptr', ren_row', ren_arow', ren_eptr', vm, List.idxOf?_cons, List.idxOf?_nil, beq_self_eq_true, Option.map_none, List.getD_cons_zero, List.getD_cons_succ, ↓wk, ↓wl, nc, evV, wrapBits_eq, ↓reduceIte, Nat.reduceEqDiff, Nat.reduceAdd, Nat.reduceSub, Nat.reduceLeDiff, Nat.reduceLT, Nat.reduceBEq, reduceCtorEq, Int.reduceEq, hx_1603, eNetworkStream, eL]) (by simp only [f23_C4, List.length_set, Option.map_some, restrict_eq, renS_nil, renS_cons, renB_els, renB_cel, renB_dead, deep_eq, map_ren_enc, ren_agg', ren_tup', ren_fn', ren_int', ren_bool', ren_str', ren_sl', ren_pro', ren_nilp', ren_nilfn', ren_junk', ren_ptr', ren_row', ren_arow', ren_eptr', vm, List.idxOf?_cons, List.idxOf?_nil, beq_self_eq_true, Option.map_none, List.getD_cons_zero, List.getD_cons_succ, ↓wk, ↓wl, nc, evV, wrapBits_eq, ↓reduceIte, Nat.reduceEqDiff, Nat.reduceAdd, Nat.reduceSub, Nat.reduceLeDiff, Nat.reduceLT, Nat.reduceBEq, reduceCtorEq, Int.reduceEq, hx_1603, eNetworkStream, eL])
          · refine AW.skip ?_
            refine seqQ.norm ?_
            refine AW.rseq ?_
            try simp only [↓wk, ↓wl, ncs, evV, wrapBits_eq, ↓reduceIte, Nat.reduceEqDiff, Nat.reduceAdd, Nat.reduceSub, Nat.reduceLeDiff, Nat.reduceLT, Nat.reduceBEq, reduceCtorEq, Int.reduceEq]
            refine evTs_atr (enc := eNetworkStream) H (by rfl) (by first | rfl | simp only [List.length_set]) (by rfl) ?_ <;> clear H <;> intro x_1633 hx_1633 H
            try simp only [eNetworkStream, eL, ↓wk, ↓wl, ncs, evV, wrapBits_eq, ↓reduceIte, Nat.reduceEqDiff, Nat.reduceAdd, Nat.reduceSub, Nat.reduceLeDiff, Nat.reduceLT, Nat.reduceBEq, reduceCtorEq, Int.reduceEq, hx_1633, eNetworkStream, eL]
            refine AW.bseq ?_
            refine AW.rseq ?_
            try simp only [↓wk, ↓wl, ncs, evV, wrapBits_eq, ↓reduceIte, Nat.reduceEqDiff, Nat.reduceAdd, Nat.reduceSub, Nat.reduceLeDiff, Nat.reduceLT, Nat.reduceBEq, reduceCtorEq, Int.reduceEq, hx_1633, eNetworkStream, eL]
            refine AW.ifc H (by rfl) ?_ ?_ <;> clear H <;> intro H
            · refine AW.rend ?_
              try simp only [↓wk, ↓wl, ncs, evV, wrapBits_eq, ↓reduceIte, Nat.reduceEqDiff, Nat.reduceAdd, Nat.reduceSub, Nat.reduceLeDiff, Nat.reduceLT, Nat.reduceBEq, reduceCtorEq, Int.reduceEq, hx_1633, eNetworkStream, eL]
              refine evTs_stE (enc := eNetworkStream) x_1633 (NetworkStream.mk x_1633.fUniverse x_1633.fSeq x_1633.fLast x_1633.fTimes x_1540.fSlots) (by rfl) (by rfl) hx_1633 (by rfl) ?_
              have hw_1638 := set_get hx_1633 (NetworkStream.mk x_1633.fUniverse x_1633.fSeq x_1633.fLast x_1633.fTimes x_1540.fSlots)
              try simp only [eNetworkStream, eL, ↓wk, ↓wl, ncs, evV, wrapBits_eq, ↓reduceIte, Nat.reduceEqDiff, Nat.reduceAdd, Nat.reduceSub, Nat.reduceLeDiff, Nat.reduceLT, Nat.reduceBEq, reduceCtorEq, Int.reduceEq, hx_1633, eNetworkStream, eL, hw_1638]
              refine evTs_stE (enc := eNetworkStream) (NetworkStream.mk x_1633.fUniverse x_1633.fSeq x_1633.fLast x_1633.fTimes x_1540.fSlots) (NetworkStream.mk x_1633.fUniverse x_1633.fSeq x_1633.fLast 1 x_1540.fSlots) (by rfl) (by rfl) hw_1638 (by rfl) ?_
              have hw_1639 := set_get hw_1638 (NetworkStream.mk x_1633.fUniverse x_1633.fSeq x_1633.fLast 1 x_1540.fSlots)
              try simp only [eNetworkStream, eL, ↓wk, ↓wl, ncs, evV, wrapBits_eq, ↓reduceIte, Nat.reduceEqDiff, Nat.reduceAdd, Nat.reduceSub, Nat.reduceLeDiff, Nat.reduceLT, Nat.reduceBEq, reduceCtorEq, Int.reduceEq, hx_1633, eNetworkStream, eL, hw_1638, hw_1639]
              refine blkQ.norm ?_
              refine AW.rseq ?_
              try simp only [↓wk, ↓wl, ncs, evV, wrapBits_eq, ↓reduceIte, Nat.reduceEqDiff, Nat.reduceAdd, Nat.reduceSub, Nat.reduceLeDiff, Nat.reduceLT, Nat.reduceBEq, reduceCtorEq, Int.reduceEq, hx_1633, eNetworkStream, eL, hw_1638, hw_1639]
              refine evTs_pure hFn H (fun _ h => f46_ok h) (by rfl) (by rfl) (by rfl) (by rfl) (fun _ => rfl) ?_ <;> clear H <;> intro r_1640 H
              try simp only [eL, ↓wk, ↓wl, ncs, evV, wrapBits_eq, ↓reduceIte, Nat.reduceEqDiff, Nat.reduceAdd, Nat.reduceSub, Nat.reduceLeDiff, Nat.reduceLT, Nat.reduceBEq, reduceCtorEq, Int.reduceEq, hx_1633, eNetworkStream, eL, hw_1638, hw_1639]
              refine evTs_stE (enc := eNetworkStream) (NetworkStream.mk x_1633.fUniverse x_1633.fSeq x_1633.fLast 1 x_1540.fSlots) (NetworkStream.mk x_1633.fUniverse r_1640 x_1633.fLast 1 x_1540.fSlots) (by rfl) (by rfl) hw_1639 (by rfl) ?_
              have hw_1641 := set_get hw_1639 (NetworkStream.mk x_1633.fUniverse r_1640 x_1633.fLast 1 x_1540.fSlots)
              try simp only [eNetworkStream, eL, ↓wk, ↓wl, ncs, evV, wrapBits_eq, ↓reduceIte, Nat.reduceEqDiff, Nat.reduceAdd, Nat.reduceSub, Nat.reduceLeDiff, Nat.reduceLT, Nat.reduceBEq, reduceCtorEq, Int.reduceEq, hx_1633, eNetworkStream, eL, hw_1638, hw_1639, hw_1641]
              refine evTs_stE (enc := eNetworkStream) (NetworkStream.mk x_1633.fUniverse r_1640 x_1633.fLast 1 x_1540.fSlots) (NetworkStream.mk x_1633.fUniverse r_1640 t_924 1 x_1540.fSlots) (by rfl) (by rfl) hw_1641 (by rfl) ?_
              have hw_1642 := set_get hw_1641 (NetworkStream.mk x_1633.fUniverse r_1640 t_924 1 x_1540.fSlots)
              try simp only [eNetworkStream, eL, ↓wk, ↓wl, ncs, evV, wrapBits_eq, ↓reduceIte, Nat.reduceEqDiff, Nat.reduceAdd, Nat.reduceSub, Nat.reduceLeDiff, Nat.reduceLT, Nat.reduceBEq, reduceCtorEq, Int.reduceEq, hx_1633, eNetworkStream, eL, hw_1638, hw_1639, hw_1641, hw_1642]
              refine AW.rend ?_
              try simp only [↓wk, ↓wl, ncs, evV, wrapBits_eq, ↓reduceIte, Nat.reduceEqDiff, Nat.reduceAdd, Nat.reduceSub, Nat.reduceLeDiff, Nat.reduceLT, Nat.reduceBEq, reduceCtorEq, Int.reduceEq, hx_1633, eNetworkStream, eL, hw_1638, hw_1639, hw_1641, hw_1642]
              refine evTs_inl (I := f23_C11 s_923 x_1633 r_1640 x_1540 s_1470 out_1471 r_1600 t_924) (args := [.agg [.int .u64 s_923.fSource, .int .i64 s_923.fPriority, .int .i64 s_923.fSync, .int .i64 s_923.fPulse, .row 5 3 0 s_1470.length], .agg [.int .i64 x_1633.fUniverse, .int .i64 r_1640, .int .i64 t_924, .int .i64 1, .str x_1540.fSlots]]) H (by rfl) fd51 (by rfl) (Nat.le_of_ble_eq_true rfl) ?_ ?_ <;> clear H
              · rintro v_ Q_ H hqf23_C11
                simp only [f23_C11] at H
                dsimp only [List.length_cons, List.length_nil]
                refine AW.rseq ?_
                try simp only [↓wk, ↓wl, ncs, evV, wrapBits_eq, ↓reduceIte, Nat.reduceEqDiff, Nat.reduceAdd, Nat.reduceSub, Nat.reduceLeDiff, Nat.reduceLT, Nat.reduceBEq, reduceCtorEq, Int.reduceEq, hx_1633, eNetworkStream, eL, hw_1638, hw_1639, hw_1641, hw_1642]
                refine AW.rseq ?_
                try simp only [↓wk, ↓wl, ncs, evV, wrapBits_eq, ↓reduceIte, Nat.reduceEqDiff, Nat.reduceAdd, Nat.reduceSub, Nat.reduceLeDiff, Nat.reduceLT, Nat.reduceBEq, reduceCtorEq, Int.reduceEq, hx_1633, eNetworkStream, eL, hw_1638, hw_1639, hw_1641, hw_1642]
                refine evTs_st (by simp only [↓wk, ↓wl, ncs, evV, wrapBits_eq, ↓reduceIte, Nat.reduceEqDiff, Nat.reduceAdd, Nat.reduceSub, Nat.reduceLeDiff, Nat.reduceLT, Nat.reduceBEq, reduceCtorEq, Int.reduceEq, hx_1633, eNetworkStream, eL, hw_1638, hw_1639, hw_1641, hw_1642, Nat.reduceLeDiff]; rfl) ?_
                try simp only [↓wk, ↓wl, ncs, evV, wrapBits_eq, ↓reduceIte, Nat.reduceEqDiff, Nat.reduceAdd, Nat.reduceSub, Nat.reduceLeDiff, Nat.reduceLT, Nat.reduceBEq, reduceCtorEq, Int.reduceEq, hx_1633, eNetworkStream, eL, hw_1638, hw_1639, hw_1641, hw_1642]
                refine AW.ret ?_
                cases H
                exact hqf23_C11 _ _ _ (.inr rfl) (Le.toL 7 (by rfl) [0, 1, 2, 3, 4, 5, 6, 9] [4] (by decide) (by decide) rfl) (by simp only [resVs, omap, resV, f23_C11, List.length_set, Option.map_some, restrict_eq, renS_nil, renS_cons, renB_els, renB_cel, renB_dead, deep_eq, map_ren_enc, ren_agg', ren_tup', ren_fn', ren_int', ren_bool', ren_str', ren_sl', ren_pro', ren_nilp', ren_nilfn', ren_junk', ren_ptr', ren_row', ren_arow', ren_eptr', vm, List.idxOf?_cons, List.idxOf?_nil, beq_self_eq_true, Option.map_none, List.getD_cons_zero, List.getD_cons_succ, ↓wk, ↓wl, nc, evV, wrapBits_eq, ↓reduceIte, Nat.reduceEqDiff, Nat.reduceAdd, Nat.reduceSub, Nat.reduceLeDiff, Nat.reduceLT, Nat.reduceBEq, reduceCtorEq, Int.reduceEq, hx_1633, eNetworkStream, eL, hw_1638, hw_1639, hw_1641, hw_1642]) (by simp only [f23_C11, List.length_set, Option.map_some, restrict_eq, renS_nil, renS_cons, renB_els, renB_cel, renB_dead, deep_eq, map_ren_enc, ren_agg', ren_tup', ren_fn', ren_int', ren_bool', ren_str', ren_sl', ren_pro', ren_nilp', ren_nilfn', ren_junk', ren_ptr', ren_row', ren_arow', ren_eptr', vm, List.idxOf?_cons, List.idxOf?_nil, beq_self_eq_true, Option.map_none, List.getD_cons_zero, List.getD_cons_succ, ↓wk, ↓wl, nc, evV, wrapBits_eq, ↓reduceIte, Nat.reduceEqDiff, Nat.reduceAdd, Nat.reduceSub, Nat.reduceLeDiff, Nat.reduceLT, Nat.reduceBEq, reduceCtorEq, Int.reduceEq, hx_1633, eNetworkStream, eL, hw_1638, hw_1639, hw_1641, hw_1642])
              · rintro _ s_ h_ H hs_ hh_
                simp only [f23_C11] at H hs_ hh_
                subst hs_
                subst hh_
                try simp only [↓wk, ↓wl, ncs, evV, wrapBits_eq, ↓reduceIte, Nat.reduceEqDiff, Nat.reduceAdd, Nat.reduceSub, Nat.reduceLeDiff, Nat.reduceLT, Nat.reduceBEq, reduceCtorEq, Int.reduceEq, hx_1633, eNetworkStream, eL, hw_1638, hw_1639, hw_1641, hw_1642]
                refine evTs_inl (I := f23_C12 out_1471 s_923 x_1633 r_1640 x_1540 s_1470 r_1600 t_924) (args := [.agg [.int .u64 s_923.fSource, .int .i64 x_1633.fUniverse, .int .i64 s_923.fPriority, .int .i64 r_1640, .int .i64 s_923.fSync, .bool false, .str x_1540.fSlots], .ptr 2 0]) H (by rfl) fd45 (by rfl) (Nat.le_of_ble_eq_true rfl) ?_ ?_ <;> clear H
                · rintro v_ Q_ H hqf23_C12
                  simp only [f23_C12] at H
                  dsimp only [List.length_cons, List.length_nil]
                  refine AW.rseq ?_
                  try simp only [↓wk, ↓wl, ncs, evV, wrapBits_eq, ↓reduceIte, Nat.reduceEqDiff, Nat.reduceAdd, Nat.reduceSub, Nat.reduceLeDiff, Nat.reduceLT, Nat.reduceBEq, reduceCtorEq, Int.reduceEq, hx_1633, eNetworkStream, eL, hw_1638, hw_1639, hw_1641, hw_1642]
                  refine AW.rend ?_
                  try simp only [↓wk, ↓wl, ncs, evV, wrapBits_eq, ↓reduceIte, Nat.reduceEqDiff, Nat.reduceAdd, Nat.reduceSub, Nat.reduceLeDiff, Nat.reduceLT, Nat.reduceBEq, reduceCtorEq, Int.reduceEq, hx_1633, eNetworkStream, eL, hw_1638, hw_1639, hw_1641, hw_1642]
                  refine evTs_app (enc := eNetworkPacket) H (by rfl) (by first | rfl | simp only [List.length_set, hx_1633, eNetworkStream, eL, hw_1638, hw_1639, hw_1641, hw_1642]) (by rfl) (by rfl) ?_ <;> clear H <;> intro out_1646 H
                  try simp only [↓wk, ↓wl, ncs, evV, wrapBits_eq, ↓reduceIte, Nat.reduceEqDiff, Nat.reduceAdd, Nat.reduceSub, Nat.reduceLeDiff, Nat.reduceLT, Nat.reduceBEq, reduceCtorEq, Int.reduceEq, hx_1633, eNetworkStream, eL, hw_1638, hw_1639, hw_1641, hw_1642]
                  refine evTs_st (by simp only [↓wk, ↓wl, ncs, evV, wrapBits_eq, ↓reduceIte, Nat.reduceEqDiff, Nat.reduceAdd, Nat.reduceSub, Nat.reduceLeDiff, Nat.reduceLT, Nat.reduceBEq, reduceCtorEq, Int.reduceEq, hx_1633, eNetworkStream, eL, hw_1638, hw_1639, hw_1641, hw_1642, Nat.reduceLeDiff]; rfl) ?_
                  try simp only [↓wk, ↓wl, ncs, evV, wrapBits_eq, ↓reduceIte, Nat.reduceEqDiff, Nat.reduceAdd, Nat.reduceSub, Nat.reduceLeDiff, Nat.reduceLT, Nat.reduceBEq, reduceCtorEq, Int.reduceEq, hx_1633, eNetworkStream, eL, hw_1638, hw_1639, hw_1641, hw_1642]
                  cases H
                  exact hqf23_C12 _ _ _ (.inl rfl) (Le.toL 8 (by rfl) [0, 1, 2, 3, 4, 5, 6, 7, 9] [] (by decide) (by decide) rfl) (by simp only [resVs, omap, resV, f23_C12, List.length_set, Option.map_some, restrict_eq, renS_nil, renS_cons, renB_els, renB_cel, renB_dead, deep_eq, map_ren_enc, ren_agg', ren_tup', ren_fn', ren_int', ren_bool', ren_str', ren_sl', ren_pro', ren_nilp', ren_nilfn', ren_junk', ren_ptr', ren_row', ren_arow', ren_eptr', vm, List.idxOf?_cons, List.idxOf?_nil, beq_self_eq_true, Option.map_none, List.getD_cons_zero, List.getD_cons_succ, ↓wk, ↓wl, nc, evV, wrapBits_eq, ↓reduceIte, Nat.reduceEqDiff, Nat.reduceAdd, Nat.reduceSub, Nat.reduceLeDiff, Nat.reduceLT, Nat.reduceBEq, reduceCtorEq, Int.reduceEq, hx_1633, eNetworkStream, eL, hw_1638, hw_1639, hw_1641, hw_1642]) (by simp only [f23_C12, List.length_set, Option.map_some, restrict_eq, renS_nil, renS_cons, renB_els, renB_cel, renB_dead, deep_eq, map_ren_enc, ren_agg', ren_tup', ren_fn', ren_int', ren_bool', ren_str', ren_sl', ren_pro', ren_nilp', ren_nilfn', ren_junk', ren_ptr', ren_row', ren_arow', ren_eptr', vm, List.idxOf?_cons, List.idxOf?_nil, beq_self_eq_true, Option.map_none, List.getD_cons_zero, List.getD_cons_succ, ↓wk, ↓wl, nc, evV, wrapBits_eq, ↓reduceIte, Nat.reduceEqDiff, Nat.reduceAdd, Nat.reduceSub, Nat.reduceLeDiff, Nat.reduceLT, Nat.reduceBEq, reduceCtorEq, Int.reduceEq, hx_1633, eNetworkStream, eL, hw_1638, hw_1639, hw_1641, hw_1642])
                · rintro v_1645 s_ h_ H hs_ hh_
                  simp only [f23_C12] at H hs_ hh_
                  subst hs_
                  subst hh_
                  try simp only [↓wk, ↓wl, ncs, evV, wrapBits_eq, ↓reduceIte, Nat.reduceEqDiff, Nat.reduceAdd, Nat.reduceSub, Nat.reduceLeDiff, Nat.reduceLT, Nat.reduceBEq, reduceCtorEq, Int.reduceEq, hx_1633, eNetworkStream, eL, hw_1638, hw_1639, hw_1641, hw_1642]
                  cases H
                  exact hqf23_C4 _ _ _ (.inl rfl) (Le.trans (Le.moveCell 0 4 (by rfl) (by rfl) (by rfl)) (Le.toL 6 (by rfl) [0, 1, 2, 3, 4, 5, 9, 8] [] (by decide) (by decide) rfl)) (by simp only [resVs, omap, resV, f23_C4, List.length_set, Option.map_some, restrict_eq, renS_nil, renS_cons, renB_els, renB_cel, renB_dead, deep_eq, map_ren_enc, ren_agg', ren_tup', ren_fn', ren_int', ren_bool', ren_str', ren_sl', ren_pro', ren_nilp', ren_nilfn', ren_junk', ren_ptr', ren_row', ren_arow', ren_eptr', vm, List.idxOf?_cons, List.idxOf?_nil, beq_self_eq_true, Option.map_none, List.getD_cons_zero, List.getD_cons_succ, ↓wk, ↓wl, nc, evV, wrapBits_eq, ↓reduceIte, Nat.reduceEqDiff, Nat.reduceAdd, Nat.reduceSub, Nat.reduceLeDiff, Nat.reduceLT, Nat.reduceBEq, reduceCtorEq, Int.reduceEq, hx_1633, eNetworkStream, eL, hw_1638, hw_1639, hw_1641, hw_1642]) (by simp only [f23_C4, List.length_set, Option.map_some, restrict_eq, renS_nil, renS_cons, renB_els, renB_cel, renB_dead, deep_eq, map_ren_enc, ren_agg', ren_tup', ren_fn', ren_int', ren_bool', ren_str', ren_sl', ren_pro', ren_nilp', ren_nilfn', ren_junk', ren_ptr', ren_row', ren_arow', ren_eptr', vm, List.idxOf?_cons, List.idxOf?_nil, beq_self_eq_true, Option.map_none, List.getD_cons_zero, List.getD_cons_succ, ↓wk, ↓wl, nc, evV, wrapBits_eq, ↓reduceIte, Nat.reduceEqDiff, Nat.reduceAdd, Nat.reduceSub, Nat.reduceLeDiff, Nat.reduceLT, Nat.reduceBEq, reduceCtorEq, Int.reduceEq, hx_1633, eNetworkStream, eL, hw_1638, hw_1639, hw_1641, hw_1642])
            · refine AW.rseq ?_
              try simp only [↓wk, ↓wl, ncs, evV, wrapBits_eq, ↓reduceIte, Nat.reduceEqDiff, Nat.reduceAdd, Nat.reduceSub, Nat.reduceLeDiff, Nat.reduceLT, Nat.reduceBEq, reduceCtorEq, Int.reduceEq, hx_1633, eNetworkStream, eL]
              refine evTs_ifg H (by rfl) ?_ ?_ <;> clear H <;> intro H
              · try simp only [↓wk, ↓wl, ncs, evV, wrapBits_eq, ↓reduceIte, Nat.reduceEqDiff, Nat.reduceAdd, Nat.reduceSub, Nat.reduceLeDiff, Nat.reduceLT, Nat.reduceBEq, reduceCtorEq, Int.reduceEq, hx_1633, eNetworkStream, eL]
                refine AW.ift (by rfl) ?_
                refine AW.rend ?_
                try simp only [↓wk, ↓wl, ncs, evV, wrapBits_eq, ↓reduceIte, Nat.reduceEqDiff, Nat.reduceAdd, Nat.reduceSub, Nat.reduceLeDiff, Nat.reduceLT, Nat.reduceBEq, reduceCtorEq, Int.reduceEq, hx_1633, eNetworkStream, eL]
                refine evTs_stE (enc := eNetworkStream) x_1633 (NetworkStream.mk x_1633.fUniverse x_1633.fSeq x_1633.fLast (if 3 < (IntKind.i64.wrap (x_1633.fTimes + 1)) then 3 else (IntKind.i64.wrap (x_1633.fTimes + 1))) x_1633.fSlots) (by rfl) (by rfl) hx_1633 (by rfl) ?_
                have hw_1647 := set_get hx_1633 (NetworkStream.mk x_1633.fUniverse x_1633.fSeq x_1633.fLast (if 3 < (IntKind.i64.wrap (x_1633.fTimes + 1)) then 3 else (IntKind.i64.wrap (x_1633.fTimes + 1))) x_1633.fSlots)
                try simp only [eNetworkStream, eL, ↓wk, ↓wl, ncs, evV, wrapBits_eq, ↓reduceIte, Nat.reduceEqDiff, Nat.reduceAdd, Nat.reduceSub, Nat.reduceLeDiff, Nat.reduceLT, Nat.reduceBEq, reduceCtorEq, Int.reduceEq, hx_1633, eNetworkStream, eL, hw_1647]
                refine blkQ.norm ?_
                refine AW.rseq ?_
                try simp only [↓wk, ↓wl, ncs, evV, wrapBits_eq, ↓reduceIte, Nat.reduceEqDiff, Nat.reduceAdd, Nat.reduceSub, Nat.reduceLeDiff, Nat.reduceLT, Nat.reduceBEq, reduceCtorEq, Int.reduceEq, hx_1633, eNetworkStream, eL, hw_1647]
                refine evTs_pure hFn H (fun _ h => f46_ok h) (by rfl) (by rfl) (by rfl) (by rfl) (fun _ => rfl) ?_ <;> clear H <;> intro r_1648 H
                try simp only [eL, ↓wk, ↓wl, ncs, evV, wrapBits_eq, ↓reduceIte, Nat.reduceEqDiff, Nat.reduceAdd, Nat.reduceSub, Nat.reduceLeDiff, Nat.reduceLT, Nat.reduceBEq, reduceCtorEq, Int.reduceEq, hx_1633, eNetworkStream, eL, hw_1647]
                refine evTs_stE (enc := eNetworkStream) (NetworkStream.mk x_1633.fUniverse x_1633.fSeq x_1633.fLast (if 3 < (IntKind.i64.wrap (x_1633.fTimes + 1)) then 3 else (IntKind.i64.wrap (x_1633.fTimes + 1))) x_1633.fSlots) (NetworkStream.mk x_1633.fUniverse r_1648 x_1633.fLast (if 3 < (IntKind.i64.wrap (x_1633.fTimes + 1)) then 3 else (IntKind.i64.wrap (x_1633.fTimes + 1))) x_1633.fSlots) (by rfl) (by rfl) hw_1647 (by rfl) ?_
                have hw_1649 := set_get hw_1647 (NetworkStream.mk x_1633.fUniverse r_1648 x_1633.fLast (if 3 < (IntKind.i64.wrap (x_1633.fTimes + 1)) then 3 else (IntKind.i64.wrap (x_1633.fTimes + 1))) x_1633.fSlots)
                try simp only [eNetworkStream, eL, ↓wk, ↓wl, ncs, evV, wrapBits_eq, ↓reduceIte, Nat.reduceEqDiff, Nat.reduceAdd, Nat.reduceSub, Nat.reduceLeDiff, Nat.reduceLT, Nat.reduceBEq, reduceCtorEq, Int.reduceEq, hx_1633, eNetworkStream, eL, hw_1647, hw_1649]
                refine evTs_stE (enc := eNetworkStream) (NetworkStream.mk x_1633.fUniverse r_1648 x_1633.fLast (if 3 < (IntKind.i64.wrap (x_1633.fTimes + 1)) then 3 else (IntKind.i64.wrap (x_1633.fTimes + 1))) x_1633.fSlots) (NetworkStream.mk x_1633.fUniverse r_1648 t_924 (if 3 < (IntKind.i64.wrap (x_1633.fTimes + 1)) then 3 else (IntKind.i64.wrap (x_1633.fTimes + 1))) x_1633.fSlots) (by rfl) (by rfl) hw_1649 (by rfl) ?_
                have hw_1650 := set_get hw_1649 (NetworkStream.mk x_1633.fUniverse r_1648 t_924 (if 3 < (IntKind.i64.wrap (x_1633.fTimes + 1)) then 3 else (IntKind.i64.wrap (x_1633.fTimes + 1))) x_1633.fSlots)
                try simp only [eNetworkStream, eL, ↓wk, ↓wl, ncs, evV, wrapBits_eq, ↓reduceIte, Nat.reduceEqDiff, Nat.reduceAdd, Nat.reduceSub, Nat.reduceLeDiff, Nat.reduceLT, Nat.reduceBEq, reduceCtorEq, Int.reduceEq, hx_1633, eNetworkStream, eL, hw_1647, hw_1649, hw_1650]
                refine AW.rend ?_
                try simp only [↓wk, ↓wl, ncs, evV, wrapBits_eq, ↓reduceIte, Nat.reduceEqDiff, Nat.reduceAdd, Nat.reduceSub, Nat.reduceLeDiff, Nat.reduceLT, Nat.reduceBEq, reduceCtorEq, Int.reduceEq, hx_1633, eNetworkStream, eL, hw_1647, hw_1649, hw_1650]
                refine evTs_inl (I := f23_C13 s_923 x_1633 r_1648 s_1470 out_1471 r_1600 t_924 x_1540) (args := [.agg [.int .u64 s_923.fSource, .int .i64 s_923.fPriority, .int .i64 s_923.fSync, .int .i64 s_923.fPulse, .row 5 3 0 s_1470.length], .agg [.int .i64 x_1633.fUniverse, .int .i64 r_1648, .int .i64 t_924, .int .i64 (if 3 < (IntKind.i64.wrap (x_1633.fTimes + 1)) then 3 else (IntKind.i64.wrap (x_1633.fTimes + 1))), .str x_1633.fSlots]]) H (by rfl) fd51 (by rfl) (Nat.le_of_ble_eq_true rfl) ?_ ?_ <;> clear H
                · rintro v_ Q_ H hqf23_C13
                  simp only [f23_C13] at H
                  dsimp only [List.length_cons, List.length_nil]
                  refine AW.rseq ?_
                  try simp only [↓wk, ↓wl, ncs, evV, wrapBits_eq, ↓reduceIte, Nat.reduceEqDiff, Nat.reduceAdd, Nat.reduceSub, Nat.reduceLeDiff, Nat.reduceLT, Nat.reduceBEq, reduceCtorEq, Int.reduceEq, hx_1633, eNetworkStream, eL, hw_1647, hw_1649, hw_1650]
                  refine AW.rseq ?_
                  try simp only [↓wk, ↓wl, ncs, evV, wrapBits_eq, ↓reduceIte, Nat.reduceEqDiff, Nat.reduceAdd, Nat.reduceSub, Nat.reduceLeDiff, Nat.reduceLT, Nat.reduceBEq, reduceCtorEq, Int.reduceEq, hx_1633, eNetworkStream, eL, hw_1647, hw_1649, hw_1650]
                  refine evTs_st (by simp only [↓wk, ↓wl, ncs, evV, wrapBits_eq, ↓reduceIte, Nat.reduceEqDiff, Nat.reduceAdd, Nat.reduceSub, Nat.reduceLeDiff, Nat.reduceLT, Nat.reduceBEq, reduceCtorEq, Int.reduceEq, hx_1633, eNetworkStream, eL, hw_1647, hw_1649, hw_1650, Nat.reduceLeDiff]; rfl) ?_
                  try simp only [↓wk, ↓wl, ncs, evV, wrapBits_eq, ↓reduceIte, Nat.reduceEqDiff, Nat.reduceAdd, Nat.reduceSub, Nat.reduceLeDiff, Nat.reduceLT, Nat.reduceBEq, reduceCtorEq, Int.reduceEq, hx_1633, eNetworkStream, eL, hw_1647, hw_1649, hw_1650]
                  refine AW.ret ?_
                  cases H
                  exact hqf23_C13 _ _ _ (.inr rfl) (Le.toL 7 (by rfl) [0, 1, 2, 3, 4, 5, 6, 9] [4] (by decide) (by decide) rfl) (by simp only [resVs, omap, resV, f23_C13, List.length_set, Option.map_some, restrict_eq, renS_nil, renS_cons, renB_els, renB_cel, renB_dead, deep_eq, map_ren_enc, ren_agg', ren_tup', ren_fn', ren_int', ren_bool', ren_str', ren_sl', ren_pro', ren_nilp', ren_nilfn', ren_junk', ren_ptr', ren_row', ren_arow', ren_eptr', vm, List.idxOf?_cons, List.idxOf?_nil, beq_self_eq_true, Option.map_none, List.getD_cons_zero, List.getD_cons_succ, ↓wk, ↓wl, nc, evV, wrapBits_eq, ↓reduceIte, Nat.reduceEqDiff, Nat.reduceAdd, Nat.reduceSub, Nat.reduceLeDiff, Nat.reduceLT, Nat.reduceBEq, reduceCtorEq, Int.reduceEq, hx_1633, eNetworkStream, eL, hw_1647, hw_1649, hw_1650]) (by simp only [f23_C13, List.length_set, Option.map_some, restrict_eq, renS_nil, renS_cons, renB_els, renB_cel, renB_dead, deep_eq, map_ren_enc, ren_agg', ren_tup', ren_fn', ren_int', ren_bool', ren_str', ren_sl', ren_pro', ren_nilp', ren_nilfn', ren_junk', ren_ptr', ren_row', ren_arow', ren_eptr', vm, List.idxOf?_cons, List.idxOf?_nil, beq_self_eq_true, Option.map_none, List.getD_cons_zero, List.getD_cons_succ, ↓wk, ↓wl, nc, evV, wrapBits_eq, ↓reduceIte, Nat.reduceEqDiff, Nat.reduceAdd, Nat.reduceSub, Nat.reduceLeDiff, Nat.reduceLT, Nat.reduceBEq, reduceCtorEq, Int.reduceEq, hx_1633, eNetworkStream, eL, hw_1647, hw_1649, hw_1650])
                · rintro _ s_ h_ H hs_ hh_
                  simp only [f23_C13] at H hs_ hh_
                  subst hs_
                  subst hh_
                  try simp only [↓wk, ↓wl, ncs, evV, wrapBits_eq, ↓reduceIte, Nat.reduceEqDiff, Nat.reduceAdd, Nat.reduceSub, Nat.reduceLeDiff, Nat.reduceLT, Nat.reduceBEq, reduceCtorEq, Int.reduceEq, hx_1633, eNetworkStream, eL, hw_1647, hw_1649, hw_1650]
                  refine evTs_inl (I := f23_C14 out_1471 s_923 x_1633 r_1648 s_1470 r_1600 t_924 x_1540) (args := [.agg [.int .u64 s_923.fSource, .int .i64 x_1633.fUniverse, .int .i64 s_923.fPriority, .int .i64 r_1648, .int .i64 s_923.fSync, .bool false, .str x_1633.fSlots], .ptr 2 0]) H (by rfl) fd45 (by rfl) (Nat.le_of_ble_eq_true rfl) ?_ ?_ <;> clear H
                  · rintro v_ Q_ H hqf23_C14
                    simp only [f23_C14] at H
                    dsimp only [List.length_cons, List.length_nil]
                    refine AW.rseq ?_
                    try simp only [↓wk, ↓wl, ncs, evV, wrapBits_eq, ↓reduceIte, Nat.reduceEqDiff, Nat.reduceAdd, Nat.reduceSub, Nat.reduceLeDiff, Nat.reduceLT, Nat.reduceBEq, reduceCtorEq, Int.reduceEq, hx_1633, eNetworkStream, eL, hw_1647, hw_1649, hw_1650]
                    refine AW.rend ?_
                    try simp only [↓wk, ↓wl, ncs, evV, wrapBits_eq, ↓reduceIte, Nat.reduceEqDiff, Nat.reduceAdd, Nat.reduceSub, Nat.reduceLeDiff, Nat.reduceLT, Nat.reduceBEq, reduceCtorEq, Int.reduceEq, hx_1633, eNetworkStream, eL, hw_1647, hw_1649, hw_1650]
                    refine evTs_app (enc := eNetworkPacket) H (by rfl) (by first | rfl | simp only [List.length_set, hx_1633, eNetworkStream, eL, hw_1647, hw_1649, hw_1650]) (by rfl) (by rfl) ?_ <;> clear H <;> intro out_1654 H
                    try simp only [↓wk, ↓wl, ncs, evV, wrapBits_eq, ↓reduceIte, Nat.reduceEqDiff, Nat.reduceAdd, Nat.reduceSub, Nat.reduceLeDiff, Nat.reduceLT, Nat.reduceBEq, reduceCtorEq, Int.reduceEq, hx_1633, eNetworkStream, eL, hw_1647, hw_1649, hw_1650]
                    refine evTs_st (by simp only [↓wk, ↓wl, ncs, evV, wrapBits_eq, ↓reduceIte, Nat.reduceEqDiff, Nat.reduceAdd, Nat.reduceSub, Nat.reduceLeDiff, Nat.reduceLT, Nat.reduceBEq, reduceCtorEq, Int.reduceEq, hx_1633, eNetworkStream, eL, hw_1647, hw_1649, hw_1650, Nat.reduceLeDiff]; rfl) ?_
                    try simp only [↓wk, ↓wl, ncs, evV, wrapBits_eq, ↓reduceIte, Nat.reduceEqDiff, Nat.reduceAdd, Nat.reduceSub, Nat.reduceLeDiff, Nat.reduceLT, Nat.reduceBEq, reduceCtorEq, Int.reduceEq, hx_1633, eNetworkStream, eL, hw_1647, hw_1649, hw_1650]
                    cases H
                    exact hqf23_C14 _ _ _ (.inl rfl) (Le.toL 8 (by rfl) [0, 1, 2, 3, 4, 5, 6, 7, 9] [] (by decide) (by decide) rfl) (by simp only [resVs, omap, resV, f23_C14, List.length_set, Option.map_some, restrict_eq, renS_nil, renS_cons, renB_els, renB_cel, renB_dead, deep_eq, map_ren_enc, ren_agg', ren_tup', ren_fn', ren_int', ren_bool', ren_str', ren_sl', ren_pro', ren_nilp', ren_nilfn', ren_junk', ren_ptr', ren_row', ren_arow', ren_eptr', vm, List.idxOf?_cons, List.idxOf?_nil, beq_self_eq_true, Option.map_none, List.getD_cons_zero, List.getD_cons_succ, ↓wk, ↓wl, nc, evV, wrapBits_eq, ↓reduceIte, Nat.reduceEqDiff, Nat.reduceAdd, Nat.reduceSub, Nat.reduceLeDiff, Nat.reduceLT, Nat.reduceBEq, reduceCtorEq, Int.reduceEq, hx_1633, eNetworkStream, eL, hw_1647, hw_1649, hw_1650]) (by simp only [f23_C14, List.length_set, Option.map_some, restrict_eq, renS_nil, renS_cons, renB_els, renB_cel, renB_dead, deep_eq, map_ren_enc, ren_agg', ren_tup', ren_fn', ren_int', ren_bool', ren_str', ren_sl', ren_pro', ren_nilp', ren_nilfn', ren_junk', ren_ptr', ren_row', ren_arow', ren_eptr', vm, List.idxOf?_cons, List.idxOf?_nil, beq_self_eq_true, Option.map_none, List.getD_cons_zero, List.getD_cons_succ, ↓wk, ↓wl, nc, evV, wrapBits_eq, ↓reduceIte, Nat.reduceEqDiff, Nat.reduceAdd, Nat.reduceSub, Nat.reduceLeDiff, Nat.reduceLT, Nat.reduceBEq, reduceCtorEq, Int.reduceEq, hx_1633, eNetworkStream, eL, hw_1647, hw_1649, hw_1650])
                  · rintro v_1653 s_ h_ H hs_ hh_
                    simp only [f23_C14] at H hs_ hh_
                    subst hs_
                    subst hh_
                    try simp only [↓wk, ↓wl, ncs, evV, wrapBits_eq, ↓reduceIte, Nat.reduceEqDiff, Nat.reduceAdd, Nat.reduceSub, Nat.reduceLeDiff, Nat.reduceLT, Nat.reduceBEq, reduceCtorEq, Int.reduceEq, hx_1633, eNetworkStream, eL, hw_1647, hw_1649, hw_1650]
                    cases H
                    exact hqf23_C4 _ _ _ (.inl rfl) (Le.trans (Le.moveCell 0 4 (by rfl) (by rfl) (by rfl)) (Le.toL 6 (by rfl) [0, 1, 2, 3, 4, 5, 9, 8] [] (by decide) (by decide) rfl)) (by simp only [resVs, omap, resV, f23_C4, List.length_set, Option.map_some, restrict_eq, renS_nil, renS_cons, renB_els, renB_cel, renB_dead, deep_eq, map_ren_enc, ren_agg', ren_tup', ren_fn', ren_int', ren_bool', ren_str', ren_sl', ren_pro', ren_nilp', ren_nilfn', ren_junk', ren_ptr', ren_row', ren_arow', ren_eptr', vm, List.idxOf?_cons, List.idxOf?_nil, beq_self_eq_true, Option.map_none, List.getD_cons_zero, List.getD_cons_succ, ↓wk, ↓wl, nc, evV, wrapBits_eq, ↓reduceIte, Nat.reduceEqDiff, Nat.reduceAdd, Nat.reduceSub, Nat.reduceLeDiff, Nat.reduceLT, Nat.reduceBEq, reduceCtorEq, Int.reduceEq, hx_1633, eNetworkStream, eL, hw_1647, hw_1649, hw_1650]) (by simp only [f23_C4, List.length_set, Option.map_some, restrict_eq, renS_nil, renS_cons, renB_els, renB_cel, renB_dead, deep_eq, map_ren_enc, ren_agg', ren_tup', ren_fn', ren_int', ren_bool', ren_str', ren_sl', ren_pro', ren_nilp', ren_nilfn', ren_junk', ren_ptr', ren_row', ren_arow', ren_eptr', vm, List.idxOf?_cons, List.idxOf?_nil, beq_self_eq_true, Option.map_none, List.getD_cons_zero, List.getD_cons_succ, ↓wk, ↓wl, nc, evV, wrapBits_eq, ↓reduceIte, Nat.reduceEqDiff, Nat.reduceAdd, Nat.reduceSub, Nat.reduceLeDiff, Nat.reduceLT, Nat.reduceBEq, reduceCtorEq, Int.reduceEq, hx_1633, eNetworkStream, eL, hw_1647, hw_1649, hw_1650])
              · try simp only [↓wk, ↓wl, ncs, evV, wrapBits_eq, ↓reduceIte, Nat.reduceEqDiff, Nat.reduceAdd, Nat.reduceSub, Nat.reduceLeDiff, Nat.reduceLT, Nat.reduceBEq, reduceCtorEq, Int.reduceEq, hx_1633, eNetworkStream, eL]
                refine AW.ifc H (by rfl) ?_ ?_ <;> clear H <;> intro H
                · refine AW.rend ?_
                  try simp only [↓wk, ↓wl, ncs, evV, wrapBits_eq, ↓reduceIte, Nat.reduceEqDiff, Nat.reduceAdd, Nat.reduceSub, Nat.reduceLeDiff, Nat.reduceLT, Nat.reduceBEq, reduceCtorEq, Int.reduceEq, hx_1633, eNetworkStream, eL]
                  refine evTs_stE (enc := eNetworkStream) x_1633 (NetworkStream.mk x_1633.fUniverse x_1633.fSeq x_1633.fLast (if 3 < (IntKind.i64.wrap (x_1633.fTimes + 1)) then 3 else (IntKind.i64.wrap (x_1633.fTimes + 1))) x_1633.fSlots) (by rfl) (by rfl) hx_1633 (by rfl) ?_
                  have hw_1655 := set_get hx_1633 (NetworkStream.mk x_1633.fUniverse x_1633.fSeq x_1633.fLast (if 3 < (IntKind.i64.wrap (x_1633.fTimes + 1)) then 3 else (IntKind.i64.wrap (x_1633.fTimes + 1))) x_1633.fSlots)
                  try simp only [eNetworkStream, eL, ↓wk, ↓wl, ncs, evV, wrapBits_eq, ↓reduceIte, Nat.reduceEqDiff, Nat.reduceAdd, Nat.reduceSub, Nat.reduceLeDiff, Nat.reduceLT, Nat.reduceBEq, reduceCtorEq, Int.reduceEq, hx_1633, eNetworkStream, eL, hw_1655]
                  refine blkQ.norm ?_
                  refine AW.rseq ?_
                  try simp only [↓wk, ↓wl, ncs, evV, wrapBits_eq, ↓reduceIte, Nat.reduceEqDiff, Nat.reduceAdd, Nat.reduceSub, Nat.reduceLeDiff, Nat.reduceLT, Nat.reduceBEq, reduceCtorEq, Int.reduceEq, hx_1633, eNetworkStream, eL, hw_1655]
                  refine evTs_pure hFn H (fun _ h => f46_ok h) (by rfl) (by rfl) (by rfl) (by rfl) (fun _ => rfl) ?_ <;> clear H <;> intro r_1656 H
                  try simp only [eL, ↓wk, ↓wl, ncs, evV, wrapBits_eq, ↓reduceIte, Nat.reduceEqDiff, Nat.reduceAdd, Nat.reduceSub, Nat.reduceLeDiff, Nat.reduceLT, Nat.reduceBEq, reduceCtorEq, Int.reduceEq, hx_1633, eNetworkStream, eL, hw_1655]
                  refine evTs_stE (enc := eNetworkStream) (NetworkStream.mk x_1633.fUniverse x_1633.fSeq x_1633.fLast (if 3 < (IntKind.i64.wrap (x_1633.fTimes + 1)) then 3 else (IntKind.i64.wrap (x_1633.fTimes + 1))) x_1633.fSlots) (NetworkStream.mk x_1633.fUniverse r_1656 x_1633.fLast (if 3 < (IntKind.i64.wrap (x_1633.fTimes + 1)) then 3 else (IntKind.i64.wrap (x_1633.fTimes + 1))) x_1633.fSlots) (by rfl) (by rfl) hw_1655 (by rfl) ?_
                  have hw_1657 := set_get hw_1655 (NetworkStream.mk x_1633.fUniverse r_1656 x_1633.fLast (if 3 < (IntKind.i64.wrap (x_1633.fTimes + 1)) then 3 else (IntKind.i64.wrap (x_1633.fTimes + 1))) x_1633.fSlots)
                  try simp only [eNetworkStream, eL, ↓wk, ↓wl, ncs, evV, wrapBits_eq, ↓reduceIte, Nat.reduceEqDiff, Nat.reduceAdd, Nat.reduceSub, Nat.reduceLeDiff, Nat.reduceLT, Nat.reduceBEq, reduceCtorEq, Int.reduceEq, hx_1633, eNetworkStream, eL, hw_1655, hw_1657]
                  refine evTs_stE (enc := eNetworkStream) (NetworkStream.mk x_1633.fUniverse r_1656 x_1633.fLast (if 3 < (IntKind.i64.wrap (x_1633.fTimes + 1)) then 3 else (IntKind.i64.wrap (x_1633.fTimes + 1))) x_1633.fSlots) (NetworkStream.mk x_1633.fUniverse r_1656 t_924 (if 3 < (IntKind.i64.wrap (x_1633.fTimes + 1)) then 3 else (IntKind.i64.wrap (x_1633.fTimes + 1))) x_1633.fSlots) (by rfl) (by rfl) hw_1657 (by rfl) ?_
                  have hw_1658 := set_get hw_1657 (NetworkStream.mk x_1633.fUniverse r_1656 t_924 (if 3 < (IntKind.i64.wrap (x_1633.fTimes + 1)) then 3 else (IntKind.i64.wrap (x_1633.fTimes + 1))) x_1633.fSlots)
                  try simp only [eNetworkStream, eL, ↓wk, ↓wl, ncs, evV, wrapBits_eq, ↓reduceIte, Nat.reduceEqDiff, Nat.reduceAdd, Nat.reduceSub, Nat.reduceLeDiff, Nat.reduceLT, Nat.reduceBEq, reduceCtorEq, Int.reduceEq, hx_1633, eNetworkStream, eL, hw_1655, hw_1657, hw_1658]
                  refine AW.rend ?_
                  try simp only [↓wk, ↓wl, ncs, evV, wrapBits_eq, ↓reduceIte, Nat.reduceEqDiff, Nat.reduceAdd, Nat.reduceSub, Nat.reduceLeDiff, Nat.reduceLT, Nat.reduceBEq, reduceCtorEq, Int.reduceEq, hx_1633, eNetworkStream, eL, hw_1655, hw_1657, hw_1658]
                  refine evTs_inl (I := f23_C15 s_923 x_1633 r_1656 s_1470 out_1471 r_1600 t_924 x_1540) (args := [.agg [.int .u64 s_923.fSource, .int .i64 s_923.fPriority, .int .i64 s_923.fSync, .int .i64 s_923.fPulse, .row 5 3 0 s_1470.length], .agg [.int .i64 x_1633.fUniverse, .int .i64 r_1656, .int .i64 t_924, .int .i64 (if 3 < (IntKind.i64.wrap (x_1633.fTimes + 1)) then 3 else (IntKind.i64.wrap (x_1633.fTimes + 1))), .str x_1633.fSlots]]) H (by rfl) fd51 (by rfl) (Nat.le_of_ble_eq_true rfl) ?_ ?_ <;> clear H
                  · rintro v_ Q_ H hqf23_C15
                    simp only [f23_C15] at H
                    dsimp only [List.length_cons, List.length_nil]
                    refine AW.rseq ?_
                    try simp only [↓wk, ↓wl, ncs, evV, wrapBits_eq, ↓reduceIte, Nat.reduceEqDiff, Nat.reduceAdd, Nat.reduceSub, Nat.reduceLeDiff, Nat.reduceLT, Nat.reduceBEq, reduceCtorEq, Int.reduceEq, hx_1633, eNetworkStream, eL, hw_1655, hw_1657, hw_1658]
                    refine AW.rseq ?_
                    try simp only [↓wk, ↓wl, ncs, evV, wrapBits_eq, ↓reduceIte, Nat.reduceEqDiff, Nat.reduceAdd, Nat.reduceSub, Nat.reduceLeDiff, Nat.reduceLT, Nat.reduceBEq, reduceCtorEq, Int.reduceEq, hx_1633, eNetworkStream, eL, hw_1655, hw_1657, hw_1658]
                    refine evTs_st (by simp only [↓wk, ↓wl, ncs, evV, wrapBits_eq, ↓reduceIte, Nat.reduceEqDiff, Nat.reduceAdd, Nat.reduceSub, Nat.reduceLeDiff, Nat.reduceLT, Nat.reduceBEq, reduceCtorEq, Int.reduceEq, hx_1633, eNetworkStream, eL, hw_1655, hw_1657, hw_1658, Nat.reduceLeDiff]; rfl) ?_
                    try simp only [↓wk, ↓wl, ncs, evV, wrapBits_eq, ↓reduceIte, Nat.reduceEqDiff, Nat.reduceAdd, Nat.reduceSub, Nat.reduceLeDiff, Nat.reduceLT, Nat.reduceBEq, reduceCtorEq, Int.reduceEq, hx_1633, eNetworkStream, eL, hw_1655, hw_1657, hw_1658]
                    refine AW.ret ?_
                    cases H
                    exact hqf23_C15 _ _ _ (.inr rfl) (Le.toL 7 (by rfl) [0, 1, 2, 3, 4, 5, 6, 9] [4] (by decide) (by decide) rfl) (by simp only [resVs, omap, resV, f23_C15, List.length_set, Option.map_some, restrict_eq, renS_nil, renS_cons, renB_els, renB_cel, renB_dead, deep_eq, map_ren_enc, ren_agg', ren_tup', ren_fn', ren_int', ren_bool', ren_str', ren_sl', ren_pro', ren_nilp', ren_nilfn', ren_junk', ren_ptr', ren_row', ren_arow', ren_eptr', vm, List.idxOf?_cons, List.idxOf?_nil, beq_self_eq_true, Option.map_none, List.getD_cons_zero, List.getD_cons_succ, ↓wk, ↓wl, nc, evV, wrapBits_eq, ↓reduceIte, Nat.reduceEqDiff, Nat.reduceAdd, Nat.reduceSub, Nat.reduceLeDiff, Nat.reduceLT, Nat.reduceBEq, reduceCtorEq, Int.reduceEq, hx_1633, eNetworkStream, eL, hw_1655, hw_1657, hw_1658]) (by simp only [f23_C15, List.length_set, Option.map_some, restrict_eq, renS_nil, renS_cons, renB_els, renB_cel, renB_dead, deep_eq, map_ren_enc, ren_agg', ren_tup', ren_fn', ren_int', ren_bool', ren_str', ren_sl', ren_pro', ren_nilp', ren_nilfn', ren_junk', ren_ptr', ren_row', ren_arow', ren_eptr', vm, List.idxOf?_cons, List.idxOf?_nil, beq_self_eq_true, Option.map_none, List.getD_cons_zero, List.getD_cons_succ, ↓wk, ↓wl, nc, evV, wrapBits_eq, ↓reduceIte, Nat.reduceEqDiff, Nat.reduceAdd, Nat.reduceSub, Nat.reduceLeDiff, Nat.reduceLT, Nat.reduceBEq, reduceCtorEq, Int.reduceEq, hx_1633, eNetworkStream, eL, hw_1655, hw_1657, hw_1658])
                  · rintro _ s_ h_ H hs_ hh_
                    simp only [f23_C15] at H hs_ hh_
                    subst hs_
                    subst hh_
                    try simp only [↓wk, ↓wl, ncs, evV, wrapBits_eq, ↓reduceIte, Nat.reduceEqDiff, Nat.reduceAdd, Nat.reduceSub, Nat.reduceLeDiff, Nat.reduceLT, Nat.reduceBEq, reduceCtorEq, Int.reduceEq, hx_1633, eNetworkStream, eL, hw_1655, hw_1657, hw_1658]
                    refine evTs_inl (I := f23_C16 out_1471 s_923 x_1633 r_1656 s_1470 r_1600 t_924 x_1540) (args := [.agg [.int .u64 s_923.fSource, .int .i64 x_1633.fUniverse, .int .i64 s_923.fPriority, .int .i64 r_1656, .int .i64 s_923.fSync, .bool false, .str x_1633.fSlots], .ptr 2 0]) H (by rfl) fd45 (by rfl) (Nat.le_of_ble_eq_true rfl) ?_ ?_ <;> clear H
                    · rintro v_ Q_ H hqf23_C16
                      simp only [f23_C16] at H
                      dsimp only [List.length_cons, List.length_nil]
                      refine AW.rseq ?_
                      try simp only [↓wk, ↓wl, ncs, evV, wrapBits_eq, ↓reduceIte, Nat.reduceEqDiff, Nat.reduceAdd, Nat.reduceSub, Nat.reduceLeDiff, Nat.reduceLT, Nat.reduceBEq, reduceCtorEq, Int.reduceEq, hx_1633, eNetworkStream, eL, hw_1655, hw_1657, hw_1658]
                      refine AW.rend ?_
                      try simp only [↓wk, ↓wl, ncs, evV, wrapBits_eq, ↓reduceIte, Nat.reduceEqDiff, Nat.reduceAdd, Nat.reduceSub, Nat.reduceLeDiff, Nat.reduceLT, Nat.reduceBEq, reduceCtorEq, Int.reduceEq, hx_1633, eNetworkStream, eL, hw_1655, hw_1657, hw_1658]
                      refine evTs_app (enc := eNetworkPacket) H (by rfl) (by first | rfl | simp only [List.length_set, hx_1633, eNetworkStream, eL, hw_1655, hw_1657, hw_1658]) (by rfl) (by rfl) ?_ <;> clear H <;> intro out_1662 H
                      try simp only [↓wk, ↓wl, ncs, evV, wrapBits_eq, ↓reduceIte, Nat.reduceEqDiff, Nat.reduceAdd, Nat.reduceSub, Nat.reduceLeDiff, Nat.reduceLT, Nat.reduceBEq, reduceCtorEq, Int.reduceEq, hx_1633, eNetworkStream, eL, hw_1655, hw_1657, hw_1658]
                      refine evTs_st (by simp only [↓wk, ↓wl, ncs, evV, wrapBits_eq, ↓reduceIte, Nat.reduceEqDiff, Nat.reduceAdd, Nat.reduceSub, Nat.reduceLeDiff, Nat.reduceLT, Nat.reduceBEq, reduceCtorEq, Int.reduceEq, hx_1633, eNetworkStream, eL, hw_1655, hw_1657, hw_1658, Nat.reduceLeDiff]; rfl) ?_
                      try simp only [↓wk, ↓wl, ncs, evV, wrapBits_eq, ↓reduceIte, Nat.reduceEqDiff, Nat.reduceAdd, Nat.reduceSub, Nat.reduceLeDiff, Nat.reduceLT, Nat.reduceBEq, reduceCtorEq, Int.reduceEq, hx_1633, eNetworkStream, eL, hw_1655, hw_1657, hw_1658]
                      cases H
                      exact hqf23_C16 _ _ _ (.inl rfl) (Le.toL 8 (by rfl) [0, 1, 2, 3, 4, 5, 6, 7, 9] [] (by decide) (by decide) rfl) (by simp only [resVs, omap, resV, f23_C16, List.length_set, Option.map_some, restrict_eq, renS_nil, renS_cons, renB_els, renB_cel, renB_dead, deep_eq, map_ren_enc, ren_agg', ren_tup', ren_fn', ren_int', ren_bool', ren_str', ren_sl', ren_pro', ren_nilp', ren_nilfn', ren_junk', ren_ptr', ren_row', ren_arow', ren_eptr', vm, List.idxOf?_cons, List.idxOf?_nil, beq_self_eq_true, Option.map_none, List.getD_cons_zero, List.getD_cons_succ, ↓wk, ↓wl, nc, evV, wrapBits_eq, ↓reduceIte, Nat.reduceEqDiff, Nat.reduceAdd, Nat.reduceSub, Nat.reduceLeDiff, Nat.reduceLT, Nat.reduceBEq, reduceCtorEq, Int.reduceEq, hx_1633, eNetworkStream, eL, hw_1655, hw_1657, hw_1658]) (by simp only [f23_C16, List.length_set, Option.map_some, restrict_eq, renS_nil, renS_cons, renB_els, renB_cel, renB_dead, deep_eq, map_ren_enc, ren_agg', ren_tup', ren_fn', ren_int', ren_bool', ren_str', ren_sl', ren_pro', ren_nilp', ren_nilfn', ren_junk', ren_ptr', ren_row', ren_arow', ren_eptr', vm, List.idxOf?_cons, List.idxOf?_nil, beq_self_eq_true, Option.map_none, List.getD_cons_zero, List.getD_cons_succ, ↓wk, ↓wl, nc, evV, wrapBits_eq, ↓reduceIte, Nat.reduceEqDiff, Nat.reduceAdd, Nat.reduceSub, Nat.reduceLeDiff, Nat.reduceLT, Nat.reduceBEq, reduceCtorEq, Int.reduceEq, hx_1633, eNetworkStream, eL, hw_1655, hw_1657, hw_1658])
                    · rintro v_1661 s_ h_ H hs_ hh_
                      simp only [f23_C16] at H hs_ hh_
                      subst hs_
                      subst hh_
                      try simp only [↓wk, ↓wl, ncs, evV, wrapBits_eq, ↓reduceIte, Nat.reduceEqDiff, Nat.reduceAdd, Nat.reduceSub, Nat.reduceLeDiff, Nat.reduceLT, Nat.reduceBEq, reduceCtorEq, Int.reduceEq, hx_1633, eNetworkStream, eL, hw_1655, hw_1657, hw_1658]
                      cases H
                      exact hqf23_C4 _ _ _ (.inl rfl) (Le.trans (Le.moveCell 0 4 (by rfl) (by rfl) (by rfl)) (Le.toL 6 (by rfl) [0, 1, 2, 3, 4, 5, 9, 8] [] (by decide) (by decide) rfl)) (by simp only [resVs, omap, resV, f23_C4, List.length_set, Option.map_some, restrict_eq, renS_nil, renS_cons, renB_els, renB_cel, renB_dead, deep_eq, map_ren_enc, ren_agg', ren_tup', ren_fn', ren_int', ren_bool', ren_str', ren_sl', ren_pro', ren_nilp', ren_nilfn', ren_junk', ren_ptr', ren_row', ren_arow', ren_eptr', vm, List.idxOf?_cons, List.idxOf?_nil, beq_self_eq_true, Option.map_none, List.getD_cons_zero, List.getD_cons_succ, ↓wk, ↓wl, nc, evV, wrapBits_eq, ↓reduceIte, Nat.reduceEqDiff, Nat.reduceAdd, Nat.reduceSub, Nat.reduceLeDiff, Nat.reduceLT, Nat.reduceBEq, reduceCtorEq, Int.reduceEq, hx_1633, eNetworkStream, eL, hw_1655, hw_1657, hw_1658]) (by simp only [f23_C4, List.length_set, Option.map_some, restrict_eq, renS_nil, renS_cons, renB_els, renB_cel, renB_dead, deep_eq, map_ren_enc, ren_agg', ren_tup', ren_fn', ren_int', ren_bool', ren_str', ren_sl', ren_pro', ren_nilp', ren_nilfn', ren_junk', ren_ptr', ren_row', ren_arow', ren_eptr', vm, List.idxOf?_cons, List.idxOf?_nil, beq_self_eq_true, Option.map_none, List.getD_cons_zero, List.getD_cons_succ, ↓wk, ↓wl, nc, evV, wrapBits_eq, ↓reduceIte, Nat.reduceEqDiff, Nat.reduceAdd, Nat.reduceSub, Nat.reduceLeDiff, Nat.reduceLT, Nat.reduceBEq, reduceCtorEq, Int.reduceEq, hx_1633, eNetworkStream, eL, hw_1655, hw_1657, hw_1658])
                · refine AW.ret ?_
                  refine blkQ.ret ?_
                  cases H
                  exact hqf23_C4 _ _ _ (.inr rfl) (Le.trans (Le.moveCell 0 4 (by rfl) (by rfl) (by rfl)) (Le.trans (Le.moveCell 2 0 (by rfl) (by rfl) (by rfl)) (Le.toL 6 (by rfl) [0, 1, 2, 3, 4, 5, 7, 8] [] (by decide) (by decide) rfl))) (by simp only [resVs, omap, resV, f23_C4, List.length_set, Option.map_some, restrict_eq, renS_nil, renS_cons, renB_els, renB_cel, renB_dead, deep_eq, map_ren_enc, ren_agg', ren_tup', ren_fn', ren_int', ren_bool', ren_str', ren_sl', ren_pro', ren_nilp', ren_nilfn', ren_junk', ren_ptr', ren_row', ren_arow', ren_eptr', vm, List.idxOf?_cons, List.idxOf?_nil, beq_self_eq_true, Option.map_none, List.getD_cons_zero, List.getD_cons_succ, ↓wk, ↓wl, nc, evV, wrapBits_eq, ↓reduceIte, Nat.reduceEqDiff, Nat.reduceAdd, Nat.reduceSub, Nat.reduceLeDiff, Nat.reduceLT, Nat.reduceBEq, reduceCtorEq, Int.reduceEq, hx_1633, eNetworkStream, eL]) (by simp only [f23_C4, List.length_set, Option.map_some, restrict_eq, renS_nil, renS_cons, renB_els, renB_cel, renB_dead, deep_eq, map_ren_enc, ren_agg', ren_tup', ren_fn', ren_int', ren_bool', ren_str', ren_sl', ren_pro', ren_nilp', ren_nilfn', ren_junk', ren_ptr', ren_row', ren_arow', ren_eptr', vm, List.idxOf?_cons, List.idxOf?_nil, beq_self_eq_true, Option.map_none, List.getD_cons_zero, List.getD_cons_succ, ↓wk, ↓wl, nc, evV, wrapBits_eq, ↓reduceIte, Nat.reduceEqDiff, Nat.reduceAdd, Nat.reduceSub, Nat.reduceLeDiff, Nat.reduceLT, Nat.reduceBEq, reduceCtorEq, Int.reduceEq, hx_1633, eNetworkStream, eL])
        · rintro ⟨v_1598, v_1599⟩ s_ h_ H hs_ hh_
          simp only [f23_C4] at H hs_ hh_
          subst hs_
          subst hh_
          try simp only [↓wk, ↓wl, ncs, evV, wrapBits_eq, ↓reduceIte, Nat.reduceEqDiff, Nat.reduceAdd, Nat.reduceSub, Nat.reduceLeDiff, Nat.reduceLT, Nat.reduceBEq, reduceCtorEq, Int.reduceEq]
          refine blkQ.norm ?_
          refine AW.rend ?_
          try simp only [↓wk, ↓wl, ncs, evV, wrapBits_eq, ↓reduceIte, Nat.reduceEqDiff, Nat.reduceAdd, Nat.reduceSub, Nat.reduceLeDiff, Nat.reduceLT, Nat.reduceBEq, reduceCtorEq, Int.reduceEq]
          exact loopQ.next H ((Le.none [0, 1, 2, 6, 7] [1, 3, 6, 11, 31, 32, 33] (by decide) (by simp only [f23_L1, List.length_set, Option.map_some, restrict_eq, renS_nil, renS_cons, renB_els, renB_cel, renB_dead, deep_eq, map_ren_enc, ren_agg', ren_tup', ren_fn', ren_int', ren_bool', ren_str', ren_sl', ren_pro', ren_nilp', ren_nilfn', ren_junk', ren_ptr', ren_row', ren_arow', ren_eptr', vm, List.idxOf?_cons, List.idxOf?_nil, beq_self_eq_true, Option.map_none, List.getD_cons_zero, List.getD_cons_succ, ↓wk, ↓wl, nc, evV, wrapBits_eq, ↓reduceIte, Nat.reduceEqDiff, Nat.reduceAdd, Nat.reduceSub, Nat.reduceLeDiff, Nat.reduceLT, Nat.reduceBEq, reduceCtorEq, Int.reduceEq] <;> rfl)))
      · refine AW.exit ?_
        refine seqQ.exit ?_
        refine loopQ.exit H ?_ <;> clear H <;> intro H
        try dsimp only at H
        refine blk0.here ?_
        refine seqQ.norm ?_
        refine AW.join (f23_J2 s_923 s_1470) H ?_ fun hf23_J2 => ?_
        · clear H
          rintro ⟨s_1665, out_1666⟩ st0_ H hst_
          simp only [f23_J2] at H hst_
          subst hst_
          refine AW.join (f23_J3 s_923 s_1665 s_1470 out_1666) H ?_ fun hf23_J3 => ?_
          · clear H
            rintro _ st0_ H hst_
            simp only [f23_J3] at H hst_
            subst hst_
            refine AW.ret ?_
            cases H
            exact hQ _ _ _ _ (.inr rfl) (by simp only [resVs, omap, resV, ↓wk, ↓wl, ncs, evV, wrapBits_eq, ↓reduceIte, Nat.reduceEqDiff, Nat.reduceAdd, Nat.reduceSub, Nat.reduceLeDiff, Nat.reduceLT, Nat.reduceBEq, reduceCtorEq, Int.reduceEq]; rfl) (by simp only [handOver, deep_eq, imm_simps, imm_rowE, imm_ptrE, imm_enc, omap_simps, take_map_len, take_map_set, take_map_set2, le_refl_true, Nat.zero_add, and_true, true_and, List.drop_zero, Option.map_some, ↓wk, ↓wl, ncs, evV, wrapBits_eq, ↓reduceIte, Nat.reduceEqDiff, Nat.reduceAdd, Nat.reduceSub, Nat.reduceLeDiff, Nat.reduceLT, Nat.reduceBEq, reduceCtorEq, Int.reduceEq]; rfl) (by first | exact Or.inl rfl | exact Or.inr rfl)
          · refine AW.regt ?_
            refine evR.fork ?_
            try simp only [↓wk, ↓wl, ncs, evV, wrapBits_eq, ↓reduceIte, Nat.reduceEqDiff, Nat.reduceAdd, Nat.reduceSub, Nat.reduceLeDiff, Nat.reduceLT, Nat.reduceBEq, reduceCtorEq, Int.reduceEq]
            refine evR.both ?_ ?_
            · refine evR.run ?_
              try simp only [↓wk, ↓wl, ncs, evV, wrapBits_eq, ↓reduceIte, Nat.reduceEqDiff, Nat.reduceAdd, Nat.reduceSub, Nat.reduceLeDiff, Nat.reduceLT, Nat.reduceBEq, reduceCtorEq, Int.reduceEq]
              refine evTs_st (by simp only [↓wk, ↓wl, ncs, evV, wrapBits_eq, ↓reduceIte, Nat.reduceEqDiff, Nat.reduceAdd, Nat.reduceSub, Nat.reduceLeDiff, Nat.reduceLT, Nat.reduceBEq, reduceCtorEq, Int.reduceEq, Nat.reduceLeDiff]; rfl) ?_
              try simp only [↓wk, ↓wl, ncs, evV, wrapBits_eq, ↓reduceIte, Nat.reduceEqDiff, Nat.reduceAdd, Nat.reduceSub, Nat.reduceLeDiff, Nat.reduceLT, Nat.reduceBEq, reduceCtorEq, Int.reduceEq]
              refine seqQ.norm ?_
              exact hf23_J3 _ _ H ((Le.none [1, 4, 3] [6, 7, 8] (by decide) (by simp only [f23_J3, List.length_set, Option.map_some, restrict_eq, renS_nil, renS_cons, renB_els, renB_cel, renB_dead, deep_eq, map_ren_enc, ren_agg', ren_tup', ren_fn', ren_int', ren_bool', ren_str', ren_sl', ren_pro', ren_nilp', ren_nilfn', ren_junk', ren_ptr', ren_row', ren_arow', ren_eptr', vm, List.idxOf?_cons, List.idxOf?_nil, beq_self_eq_true, Option.map_none, List.getD_cons_zero, List.getD_cons_succ, ↓wk, ↓wl, nc, evV, wrapBits_eq, ↓reduceIte, Nat.reduceEqDiff, Nat.reduceAdd, Nat.reduceSub, Nat.reduceLeDiff, Nat.reduceLT, Nat.reduceBEq, reduceCtorEq, Int.reduceEq] <;> rfl)))
            · refine evR.run ?_
              try simp only [↓wk, ↓wl, ncs, evV, wrapBits_eq, ↓reduceIte, Nat.reduceEqDiff, Nat.reduceAdd, Nat.reduceSub, Nat.reduceLeDiff, Nat.reduceLT, Nat.reduceBEq, reduceCtorEq, Int.reduceEq]
              refine evTs_st (by simp only [↓wk, ↓wl, ncs, evV, wrapBits_eq, ↓reduceIte, Nat.reduceEqDiff, Nat.reduceAdd, Nat.reduceSub, Nat.reduceLeDiff, Nat.reduceLT, Nat.reduceBEq, reduceCtorEq, Int.reduceEq, Nat.reduceLeDiff]; rfl) ?_
              try simp only [↓wk, ↓wl, ncs, evV, wrapBits_eq, ↓reduceIte, Nat.reduceEqDiff, Nat.reduceAdd, Nat.reduceSub, Nat.reduceLeDiff, Nat.reduceLT, Nat.reduceBEq, reduceCtorEq, Int.reduceEq]
              refine seqQ.norm ?_
              exact hf23_J3 _ _ H ((Le.none [1, 4, 3] [6, 7, 8] (by decide) (by simp only [f23_J3, List.length_set, Option.map_some, restrict_eq, renS_nil, renS_cons, renB_els, renB_cel, renB_dead, deep_eq, map_ren_enc, ren_agg', ren_tup', ren_fn', ren_int', ren_bool', ren_str', ren_sl', ren_pro', ren_nilp', ren_nilfn', ren_junk', ren_ptr', ren_row', ren_arow', ren_eptr', vm, List.idxOf?_cons, List.idxOf?_nil, beq_self_eq_true, Option.map_none, List.getD_cons_zero, List.getD_cons_succ, ↓wk, ↓wl, nc, evV, wrapBits_eq, ↓reduceIte, Nat.reduceEqDiff, Nat.reduceAdd, Nat.reduceSub, Nat.reduceLeDiff, Nat.reduceLT, Nat.reduceBEq, reduceCtorEq, Int.reduceEq] <;> rfl)))
        · refine AW.rseq ?_
          try simp only [↓wk, ↓wl, ncs, evV, wrapBits_eq, ↓reduceIte, Nat.reduceEqDiff, Nat.reduceAdd, Nat.reduceSub, Nat.reduceLeDiff, Nat.reduceLT, Nat.reduceBEq, reduceCtorEq, Int.reduceEq]
          refine evTs_ifg H (by rfl) ?_ ?_ <;> clear H <;> intro H
          · try simp only [↓wk, ↓wl, ncs, evV, wrapBits_eq, ↓reduceIte, Nat.reduceEqDiff, Nat.reduceAdd, Nat.reduceSub, Nat.reduceLeDiff, Nat.reduceLT, Nat.reduceBEq, reduceCtorEq, Int.reduceEq]
            refine AW.ifc H (by rfl) ?_ ?_ <;> clear H <;> intro H
            · refine AW.rseq ?_
              try simp only [↓wk, ↓wl, ncs, evV, wrapBits_eq, ↓reduceIte, Nat.reduceEqDiff, Nat.reduceAdd, Nat.reduceSub, Nat.reduceLeDiff, Nat.reduceLT, Nat.reduceBEq, reduceCtorEq, Int.reduceEq]
              refine evTs_app (enc := eNetworkPacket) H (by rfl) (by first | rfl | simp only [List.length_set]) (by rfl) (by rfl) ?_ <;> clear H <;> intro out_1667 H
              try simp only [↓wk, ↓wl, ncs, evV, wrapBits_eq, ↓reduceIte, Nat.reduceEqDiff, Nat.reduceAdd, Nat.reduceSub, Nat.reduceLeDiff, Nat.reduceLT, Nat.reduceBEq, reduceCtorEq, Int.reduceEq]
              refine evTs_st (by simp only [↓wk, ↓wl, ncs, evV, wrapBits_eq, ↓reduceIte, Nat.reduceEqDiff, Nat.reduceAdd, Nat.reduceSub, Nat.reduceLeDiff, Nat.reduceLT, Nat.reduceBEq, reduceCtorEq, Int.reduceEq, Nat.reduceLeDiff]; rfl) ?_
              try simp only [↓wk, ↓wl, ncs, evV, wrapBits_eq, ↓reduceIte, Nat.reduceEqDiff, Nat.reduceAdd, Nat.reduceSub, Nat.reduceLeDiff, Nat.reduceLT, Nat.reduceBEq, reduceCtorEq, Int.reduceEq]
              refine AW.rend ?_
              try simp only [↓wk, ↓wl, ncs, evV, wrapBits_eq, ↓reduceIte, Nat.reduceEqDiff, Nat.reduceAdd, Nat.reduceSub, Nat.reduceLeDiff, Nat.reduceLT, Nat.reduceBEq, reduceCtorEq, Int.reduceEq]
              refine evTs_pure hFn H (fun _ h => f46_ok h) (by rfl) (by rfl) (by rfl) (by rfl) (fun _ => rfl) ?_ <;> clear H <;> intro r_1668 H
              try simp only [eL, ↓wk, ↓wl, ncs, evV, wrapBits_eq, ↓reduceIte, Nat.reduceEqDiff, Nat.reduceAdd, Nat.reduceSub, Nat.reduceLeDiff, Nat.reduceLT, Nat.reduceBEq, reduceCtorEq, Int.reduceEq]
              refine evTs_st (by simp only [↓wk, ↓wl, ncs, evV, wrapBits_eq, ↓reduceIte, Nat.reduceEqDiff, Nat.reduceAdd, Nat.reduceSub, Nat.reduceLeDiff, Nat.reduceLT, Nat.reduceBEq, reduceCtorEq, Int.reduceEq, Nat.reduceLeDiff]; rfl) ?_
              try simp only [↓wk, ↓wl, ncs, evV, wrapBits_eq, ↓reduceIte, Nat.reduceEqDiff, Nat.reduceAdd, Nat.reduceSub, Nat.reduceLeDiff, Nat.reduceLT, Nat.reduceBEq, reduceCtorEq, Int.reduceEq]
              refine seqQ.norm ?_
              exact hf23_J2 _ _ H ((Le.none [0, 1, 2, 3, 5] [3, 6, 11] (by decide) (by simp only [f23_J2, List.length_set, Option.map_some, restrict_eq, renS_nil, renS_cons, renB_els, renB_cel, renB_dead, deep_eq, map_ren_enc, ren_agg', ren_tup', ren_fn', ren_int', ren_bool', ren_str', ren_sl', ren_pro', ren_nilp', ren_nilfn', ren_junk', ren_ptr', ren_row', ren_arow', ren_eptr', vm, List.idxOf?_cons, List.idxOf?_nil, beq_self_eq_true, Option.map_none, List.getD_cons_zero, List.getD_cons_succ, ↓wk, ↓wl, nc, evV, wrapBits_eq, ↓reduceIte, Nat.reduceEqDiff, Nat.reduceAdd, Nat.reduceSub, Nat.reduceLeDiff, Nat.reduceLT, Nat.reduceBEq, reduceCtorEq, Int.reduceEq] <;> rfl)))
            · refine AW.skip ?_
              refine seqQ.norm ?_
              exact hf23_J2 _ _ H ((Le.none [0, 1, 2, 3, 4] [3, 6, 11] (by decide) (by simp only [f23_J2, List.length_set, Option.map_some, restrict_eq, renS_nil, renS_cons, renB_els, renB_cel, renB_dead, deep_eq, map_ren_enc, ren_agg', ren_tup', ren_fn', ren_int', ren_bool', ren_str', ren_sl', ren_pro', ren_nilp', ren_nilfn', ren_junk', ren_ptr', ren_row', ren_arow', ren_eptr', vm, List.idxOf?_cons, List.idxOf?_nil, beq_self_eq_true, Option.map_none, List.getD_cons_zero, List.getD_cons_succ, ↓wk, ↓wl, nc, evV, wrapBits_eq, ↓reduceIte, Nat.reduceEqDiff, Nat.reduceAdd, Nat.reduceSub, Nat.reduceLeDiff, Nat.reduceLT, Nat.reduceBEq, reduceCtorEq, Int.reduceEq] <;> rfl)))
          · try simp only [↓wk, ↓wl, ncs, evV, wrapBits_eq, ↓reduceIte, Nat.reduceEqDiff, Nat.reduceAdd, Nat.reduceSub, Nat.reduceLeDiff, Nat.reduceLT, Nat.reduceBEq, reduceCtorEq, Int.reduceEq]
            refine AW.iff (by rfl) ?_
            refine AW.skip ?_
            refine seqQ.norm ?_
            exact hf23_J2 _ _ H ((Le.none [0, 1, 2, 3, 4] [3, 6, 11] (by decide) (by simp only [f23_J2, List.length_set, Option.map_some, restrict_eq, renS_nil, renS_cons, renB_els, renB_cel, renB_dead, deep_eq, map_ren_enc, ren_agg', ren_tup', ren_fn', ren_int', ren_bool', ren_str', ren_sl', ren_pro', ren_nilp', ren_nilfn', ren_junk', ren_ptr', ren_row', ren_arow', ren_eptr', vm, List.idxOf?_cons, List.idxOf?_nil, beq_self_eq_true, Option.map_none, List.getD_cons_zero, List.getD_cons_succ, ↓wk, ↓wl, nc, evV, wrapBits_eq, ↓reduceIte, Nat.reduceEqDiff, Nat.reduceAdd, Nat.reduceSub, Nat.reduceLeDiff, Nat.reduceLT, Nat.reduceBEq, reduceCtorEq, Int.reduceEq] <;> rfl)))
noncomputable def f14_J2 (x_1721 : Int) (v_1701 : Int) (s_1702 : Int) (s_1703 : Int) (s_1704 : Int) (s_1705 : Int) (s_1706 : (List NetworkStream)) : Jn ((List NetworkPacket) × Int × Int × Int × Int × Int × (List NetworkStream)) (Ctl (Int × Int × Int × Int × Int × (List NetworkStream)) ((Unit) ⊕ (Unit))) where
  run := fun (l_1724, e_1725, next_1726, next_1727, next_1728, next_1729, next_1730) => (if (decide (e_1725 ≠ 0)) = true then (some (.brk (Sum.inr ()))) else (if (!((decide (x_1721 = 75)) == (decide (((l_1724.length : Nat) : Int) = 0)))) = true then (some (.brk (Sum.inr ()))) else (if (decide (1 < ((l_1724.length : Nat) : Int))) = true then (some (.brk (Sum.inr ()))) else (if (decide (((l_1724.length : Nat) : Int) = 1)) = true then (at? l_1724 0).bind fun x_1731 => (if (decide (x_1731.fSeq ≠ (if 3 < v_1701 then 3 else v_1701))) = true then (some (.brk (Sum.inr ()))) else (at? l_1724 0).bind fun x_1732 => (if (decide (x_1732.fUniverse ≠ 2)) = true then (some (.brk (Sum.inr ()))) else (at? l_1724 0).bind fun x_1733 => (if (decide (x_1733.fPriority ≠ 100)) = true then (some (.brk (Sum.inr ()))) else (at? l_1724 0).bind fun x_1734 => (if (decide (x_1734.fSource ≠ 7)) = true then (some (.brk (Sum.inr ()))) else (some (.next ((IntKind.i64.wrap (v_1701 + 1)), next_1726, next_1727, next_1728, next_1729, next_1730))))))) else (some (.next ((IntKind.i64.wrap (v_1701 + 1)), next_1726, next_1727, next_1728, next_1729, next_1730)))))))
  cst := fun (l_1724, e_1725, next_1726, next_1727, next_1728, next_1729, next_1730) => ⟨put (put (put (put (put (put (put (put (put (fun _ => .junk) 27 (.int .i64 v_1701)) 26 (.int .i64 ((([0, 25, 50, 75, 1050]).length : Nat) : Int))) 25 (.sl 0 true (([0, 25, 50, 75, 1050]).map (AV.int .i64)))) 7 (.int .i64 e_1725)) 6 (.sl 7 false (l_1724.map eNetworkPacket))) 5 (.ptr 1 0)) 4 (.int .i64 x_1721)) 3 (.int .i64 v_1701)) 1 (.ptr 0 0), [.cel [.int .u64 s_1702, .int .i64 s_1703, .int .i64 s_1704, .int .i64 s_1705, .sl 5 false (s_1706.map eNetworkStream)], .cel [.int .u64 next_1726, .int .i64 next_1727, .int .i64 next_1728, .int .i64 next_1729, .sl 5 false (next_1730.map eNetworkStream)]]⟩
noncomputable def f14_L1 : Lp (Int × Int × Int × Int × Int × (List NetworkStream)) ((Unit) ⊕ (Unit)) where
  body := fun (v_1701, s_1702, s_1703, s_1704, s_1705, s_1706) => (if (decide (v_1701 < ((([0, 25, 50, 75, 1050]).length : Nat) : Int))) = true then (at? ([0, 25, 50, 75, 1050]) v_1701).bind fun x_1721 => (f27 2 9).bind fun r_1735 => (f23 (NetworkSender.mk s_1702 s_1703 s_1704 s_1705 s_1706) x_1721 ([r_1735])).bind fun r_1736 => ((f14_J2 x_1721 v_1701 s_1702 s_1703 s_1704 s_1705 s_1706).run (r_1736.2.1, r_1736.2.2, r_1736.1.fSource, r_1736.1.fPriority, r_1736.1.fSync, r_1736.1.fPulse, r_1736.1.fStreams)) else (some (.brk (Sum.inl ()))))
  cst := fun (v_1701, s_1702, s_1703, s_1704, s_1705, s_1706) => ⟨put (put (put (put (fun _ => .junk) 27 (.int .i64 v_1701)) 26 (.int .i64 ((([0, 25, 50, 75, 1050]).length : Nat) : Int))) 25 (.sl 0 true (([0, 25, 50, 75, 1050]).map (AV.int .i64)))) 1 (.ptr 0 0), [.cel [.int .u64 s_1702, .int .i64 s_1703, .int .i64 s_1704, .int .i64 s_1705, .sl 5 false (s_1706.map eNetworkStream)]]⟩
def c14_0 : C := .cond (.t 24) (.seq (.reg [iI 0 (.mv (.c (.bool false)))]) .ret) (.skip)
def c14_1 : C := .cond (.t 55) (.seq (.reg [iI 0 (.mv (.c (.bool false)))]) .ret) (.skip)
def c14_2 : C := .cond (.t 88) (.seq (.reg [iI 0 (.mv (.c (.bool false)))]) .ret) (.skip)
def c14_3 : C := .reg [iI 89 (.load 5 (.t 5)), iN (.store 5 (.t 1) (.t 89))]
def c14_4 : C := .seq (.seq (.reg [iI 56 (.mv (.t 6)), iI 57 (.len 0 (.t 56)), iI 58 (.bin .eql (.t 57) (.c (.int .i64 1))), iI 59 (.mv (.t 58)), iG (some 60) 59 true (.mv (.t 6)), iG (some 61) 59 true (.iaddr 7 (.t 60) (.c (.int .i64 0))), iG (some 62) 59 true (.faddr 3 (.t 61)), iG (some 63) 59 true (.load 0 (.t 62)), iG (some 64) 59 true (.mv (.t 3)), iG (some 65) 59 true (.maxmin false (.t 64) [(.c (.int .i64 3))]), iG (some 66) 59 true (.bin .neq (.t 63) (.t 65)), iG (some 67) 59 true (.mv (.t 66)), iG (some 68) 67 false (.mv (.t 6)), iG (some 69) 67 false (.iaddr 7 (.t 68) (.c (.int .i64 0))), iG (some 70) 67 false (.faddr 1 (.t 69)), iG (some 71) 67 false (.load 0 (.t 70)), iG (some 72) 67 false (.bin .neq (.t 71) (.c (.int .i64 2))), iG (some 73) 59 true (.pick (.t 67) (.c (.bool true)) (.t 72)), iG (some 74) 59 true (.mv (.t 73)), iG (some 75) 74 false (.mv (.t 6)), iG (some 76) 74 false (.iaddr 7 (.t 75) (.c (.int .i64 0))), iG (some 77) 74 false (.faddr 2 (.t 76)), iG (some 78) 74 false (.load 0 (.t 77)), iG (some 79) 74 false (.bin .neq (.t 78) (.c (.int .i64 100))), iG (some 80) 59 true (.pick (.t 74) (.c (.bool true)) (.t 79)), iG (some 81) 59 true (.mv (.t 80)), iG (some 82) 81 false (.mv (.t 6)), iG (some 83) 81 false (.iaddr 7 (.t 82) (.c (.int .i64 0))), iG (some 84) 81 false (.faddr 0 (.t 83)), iG (some 85) 81 false (.load 0 (.t 84)), iG (some 86) 81 false (.bin .neq (.t 85) (.c (.int .u64 7))), iG (some 87) 59 true (.pick (.t 81) (.c (.bool true)) (.t 86)), iI 88 (.pick (.t 59) (.t 87) (.c (.bool false)))]) c14_2) c14_3
def c14_5 : C := .seq (.seq (.reg [iI 41 (.mv (.t 7)), iI 42 (.bin .neq (.t 41) (.c (.int .i64 0))), iI 43 (.mv (.t 42)), iG (some 44) 43 false (.mv (.t 4)), iG (some 45) 43 false (.bin .eql (.t 44) (.c (.int .i64 75))), iG (some 46) 43 false (.mv (.t 6)), iG (some 47) 43 false (.len 0 (.t 46)), iG (some 48) 43 false (.bin .eql (.t 47) (.c (.int .i64 0))), iG (some 49) 43 false (.binb .neq (.t 45) (.t 48)), iI 50 (.pick (.t 43) (.c (.bool true)) (.t 49)), iI 51 (.mv (.t 50)), iG (some 52) 51 false (.mv (.t 6)), iG (some 53) 51 false (.len 0 (.t 52)), iG (some 54) 51 false (.bin .gtr (.t 53) (.c (.int .i64 1))), iI 55 (.pick (.t 51) (.c (.bool true)) (.t 54))]) c14_1) c14_4
def c14_6 : C := .seq (.regt (.fork [iI 33 (.load 5 (.t 1)), iI 34 (.mv (.t 4))] (.fork [iI 35 (.call (.c (.fn 27 [])) [(.c (.int .i64 2)), (.c (.int .i64 9))]), iI 36 (.mkslp 2 1 (.agg [(.int .i64 0), (.str [])]) [(0, (.t 35))])] (.run [iI 37 (.call (.c (.fn 23 [])) [(.t 33), (.t 34), (.t 36)]), iI 32 (.mv (.t 37)), iI 38 (.ext (.t 32) 0), iI 39 (.ext (.t 32) 1), iI 40 (.ext (.t 32) 2), iI 5 (.alloc [(1, (.int .u64 0)), (1, (.int .i64 0)), (1, (.int .i64 0)), (1, (.int .i64 0)), (1, (.sl 5 true []))]), iN (.store 5 (.t 5) (.t 38)), iI 6 (.mv (.t 39)), iI 7 (.mv (.t 40))]) (.run [iI 5 (.alloc [(1, (.int .u64 0)), (1, (.int .i64 0)), (1, (.int .i64 0)), (1, (.int .i64 0)), (1, (.sl 5 true []))]), iI 37 (.call (.c (.fn 23 [])) [(.t 33), (.t 34), (.t 36)]), iI 32 (.mv (.t 37)), iI 38 (.ext (.t 32) 0), iI 39 (.ext (.t 32) 1), iI 40 (.ext (.t 32) 2), iN (.store 5 (.t 5) (.t 38)), iI 6 (.mv (.t 39)), iI 7 (.mv (.t 40))])) (.run [iI 5 (.alloc [(1, (.int .u64 0)), (1, (.int .i64 0)), (1, (.int .i64 0)), (1, (.int .i64 0)), (1, (.sl 5 true []))]), iI 35 (.call (.c (.fn 27 [])) [(.c (.int .i64 2)), (.c (.int .i64 9))]), iI 36 (.mkslp 2 1 (.agg [(.int .i64 0), (.str [])]) [(0, (.t 35))]), iI 37 (.call (.c (.fn 23 [])) [(.t 33), (.t 34), (.t 36)]), iI 32 (.mv (.t 37)), iI 38 (.ext (.t 32) 0), iI 39 (.ext (.t 32) 1), iI 40 (.ext (.t 32) 2), iN (.store 5 (.t 5) (.t 38)), iI 6 (.mv (.t 39)), iI 7 (.mv (.t 40))]))) c14_5
def c14_7 : C := .reg [iI 90 (.bin .add (.t 27) (.c (.int .i64 1))), iI 27 (.mv (.t 90))]
def c14_8 : C := .seq (.block 1 (.seq (.reg [iI 29 (.mv (.t 27)), iI 30 (.iaddr 0 (.t 25) (.t 27)), iI 31 (.load 0 (.t 30)), iI 3 (.mv (.t 29)), iI 4 (.mv (.t 31))]) c14_6)) c14_7
def c14_9 : C := .seq (.cond (.t 28) (.skip) (.exit 0)) c14_8
def c14_10 : C := .block 0 (.loop (.seq (.reg [iI 28 (.bin .lss (.t 27) (.t 26))]) c14_9))
def c14_11 : C := .seq (.reg [iI 0 (.mv (.c (.bool true)))]) .ret
def c14_12 : C := .seq (.seq (.reg [iI 25 (.mkslp 0 5 (.int .i64 0) [(0, (.c (.int .i64 0))), (1, (.c (.int .i64 25))), (2, (.c (.int .i64 50))), (3, (.c (.int .i64 75))), (4, (.c (.int .i64 1050)))]), iI 26 (.len 0 (.t 25)), iI 27 (.mv (.c (.int .i64 0)))]) c14_10) c14_11
def c14_13 : C := .seq (.seq (.reg [iI 12 (.mv (.t 2)), iI 13 (.bin .neq (.t 12) (.c (.int .i64 0))), iI 14 (.mv (.t 13)), iG (some 15) 14 false (.call (.c (.fn 12 [])) [(.c (.int .i64 255)), (.c (.int .i64 5))]), iG (some 16) 14 false (.un .not (.t 15)), iI 17 (.pick (.t 14) (.c (.bool true)) (.t 16)), iI 18 (.mv (.t 17)), iG (some 19) 18 false (.call (.c (.fn 12 [])) [(.c (.int .i64 5)), (.c (.int .i64 250))]), iI 20 (.pick (.t 18) (.c (.bool true)) (.t 19)), iI 21 (.mv (.t 20)), iG (some 22) 21 false (.call (.c (.fn 12 [])) [(.c (.int .i64 40)), (.c (.int .i64 0))]), iG (some 23) 21 false (.un .not (.t 22)), iI 24 (.pick (.t 21) (.c (.bool true)) (.t 23))]) c14_0) c14_12
def c14_14 : C := .seq (.reg [iI 9 (.call (.c (.fn 17 [])) [(.c (.int .u64 7)), (.c (.int .i64 100)), (.c (.int .i64 0))]), iI 8 (.mv (.t 9)), iI 10 (.ext (.t 8) 0), iI 11 (.ext (.t 8) 1), iI 1 (.alloc [(1, (.int .u64 0)), (1, (.int .i64 0)), (1, (.int .i64 0)), (1, (.int .i64 0)), (1, (.sl 5 true []))]), iN (.store 5 (.t 1) (.t 10)), iI 2 (.mv (.t 11))]) c14_13
def ir14 : C := .seq (.reg [iI 0 (.mv (.c (.bool false)))]) c14_14
theorem fd14 : fd? Try.prog 14 = some (91, [.slot 0], ir14) := by kernel_rfl
noncomputable def f14 : Option (Bool) :=
  (f17 7 100 0).bind fun r_13 => (if (decide (r_13.2 ≠ 0)) = true then (some false) else (f12 255 5).bind fun r_23 => (if (!r_23) = true then (some false) else (f12 5 250).bind fun r_24 => (if r_24 = true then (some false) else (f12 40 0).bind fun r_25 => (if (!r_25) = true then (some false) else ((Lp.run (f14_L1) (0, r_13.1.fSource, r_13.1.fPriority, r_13.1.fSync, r_13.1.fPulse, r_13.1.fStreams)).bind fun r_ => match r_ with | (Sum.inl _) => (some true) | (Sum.inr _) => (some false))))))
theorem f14_ok {r_ : Bool} (H : f14 = some r_) : Pure Try.prog 14 [] (· = .bool r_) := by
  refine Pure.walk3 fd14 none (Nat.le_of_ble_eq_true rfl) (by rfl) fun Q hQ => ?_
  simp only [f14] at H
  refine AW.rseq ?_
  try simp only [↓wk, ↓wl, nc, evV, wrapBits_eq, ↓reduceIte, Nat.reduceEqDiff, Nat.reduceAdd, Nat.reduceSub, Nat.reduceLeDiff, Nat.reduceLT, Nat.reduceBEq, reduceCtorEq, Int.reduceEq]
  refine AW.rseq ?_
  try simp only [↓wk, ↓wl, nc, evV, wrapBits_eq, ↓reduceIte, Nat.reduceEqDiff, Nat.reduceAdd, Nat.reduceSub, Nat.reduceLeDiff, Nat.reduceLT, Nat.reduceBEq, reduceCtorEq, Int.reduceEq]
  refine evTs_pure hFn H (fun _ h => f17_ok h) (by rfl) (by rfl) (by rfl) (by rfl) (fun _ => rfl) ?_ <;> clear H <;> intro r_13 H
  try simp only [eL, eNetworkSender, ↓wk, ↓wl, nc, evV, wrapBits_eq, ↓reduceIte, Nat.reduceEqDiff, Nat.reduceAdd, Nat.reduceSub, Nat.reduceLeDiff, Nat.reduceLT, Nat.reduceBEq, reduceCtorEq, Int.reduceEq]
  refine AW.sseq ?_
  refine AW.rseq ?_
  try simp only [↓wk, ↓wl, nc, evV, wrapBits_eq, ↓reduceIte, Nat.reduceEqDiff, Nat.reduceAdd, Nat.reduceSub, Nat.reduceLeDiff, Nat.reduceLT, Nat.reduceBEq, reduceCtorEq, Int.reduceEq]
  refine evTs_ifg H (by rfl) ?_ ?_ <;> clear H <;> intro H
  · try simp only [↓wk, ↓wl, nc, evV, wrapBits_eq, ↓reduceIte, Nat.reduceEqDiff, Nat.reduceAdd, Nat.reduceSub, Nat.reduceLeDiff, Nat.reduceLT, Nat.reduceBEq, reduceCtorEq, Int.reduceEq]
    refine AW.ift (by rfl) ?_
    refine AW.rseq ?_
    try simp only [↓wk, ↓wl, nc, evV, wrapBits_eq, ↓reduceIte, Nat.reduceEqDiff, Nat.reduceAdd, Nat.reduceSub, Nat.reduceLeDiff, Nat.reduceLT, Nat.reduceBEq, reduceCtorEq, Int.reduceEq]
    refine AW.ret ?_
    refine seqQ.ret ?_
    cases H
    exact hQ _ _ _ _ (.inr rfl) (by simp only [resVs, omap, resV, ↓wk, ↓wl, nc, evV, wrapBits_eq, ↓reduceIte, Nat.reduceEqDiff, Nat.reduceAdd, Nat.reduceSub, Nat.reduceLeDiff, Nat.reduceLT, Nat.reduceBEq, reduceCtorEq, Int.reduceEq]; rfl) (hand_plain (by rfl)) (by first | exact Or.inl rfl | exact Or.inr rfl)
  · try simp only [↓wk, ↓wl, nc, evV, wrapBits_eq, ↓reduceIte, Nat.reduceEqDiff, Nat.reduceAdd, Nat.reduceSub, Nat.reduceLeDiff, Nat.reduceLT, Nat.reduceBEq, reduceCtorEq, Int.reduceEq]
    refine evTs_pure hFn H (fun _ h => f12_ok h) (by rfl) (by rfl) (by rfl) (by rfl) (fun _ => rfl) ?_ <;> clear H <;> intro r_23 H
    try simp only [eL, ↓wk, ↓wl, nc, evV, wrapBits_eq, ↓reduceIte, Nat.reduceEqDiff, Nat.reduceAdd, Nat.reduceSub, Nat.reduceLeDiff, Nat.reduceLT, Nat.reduceBEq, reduceCtorEq, Int.reduceEq]
    refine evTs_ifg H (by rfl) ?_ ?_ <;> clear H <;> intro H
    · try simp only [↓wk, ↓wl, nc, evV, wrapBits_eq, ↓reduceIte, Nat.reduceEqDiff, Nat.reduceAdd, Nat.reduceSub, Nat.reduceLeDiff, Nat.reduceLT, Nat.reduceBEq, reduceCtorEq, Int.reduceEq]
      refine AW.ift (by rfl) ?_
      refine AW.rseq ?_
      try simp only [↓wk, ↓wl, nc, evV, wrapBits_eq, ↓reduceIte, Nat.reduceEqDiff, Nat.reduceAdd, Nat.reduceSub, Nat.reduceLeDiff, Nat.reduceLT, Nat.reduceBEq, reduceCtorEq, Int.reduceEq]
      refine AW.ret ?_
      refine seqQ.ret ?_
      cases H
      exact hQ _ _ _ _ (.inr rfl) (by simp only [resVs, omap, resV, ↓wk, ↓wl, nc, evV, wrapBits_eq, ↓reduceIte, Nat.reduceEqDiff, Nat.reduceAdd, Nat.reduceSub, Nat.reduceLeDiff, Nat.reduceLT, Nat.reduceBEq, reduceCtorEq, Int.reduceEq]; rfl) (hand_plain (by rfl)) (by first | exact Or.inl rfl | exact Or.inr rfl)
    · try simp only [↓wk, ↓wl, nc, evV, wrapBits_eq, ↓reduceIte, Nat.reduceEqDiff, Nat.reduceAdd, Nat.reduceSub, Nat.reduceLeDiff, Nat.reduceLT, Nat.reduceBEq, reduceCtorEq, Int.reduceEq]
      refine evTs_pure hFn H (fun _ h => f12_ok h) (by rfl) (by rfl) (by rfl) (by rfl) (fun _ => rfl) ?_ <;> clear H <;> intro r_24 H
      try simp only [eL, ↓wk, ↓wl, nc, evV, wrapBits_eq, ↓reduceIte, Nat.reduceEqDiff, Nat.reduceAdd, Nat.reduceSub, Nat.reduceLeDiff, Nat.reduceLT, Nat.reduceBEq, reduceCtorEq, Int.reduceEq]
      refine evTs_ifg H (by rfl) ?_ ?_ <;> clear H <;> intro H
      · try simp only [↓wk, ↓wl, nc, evV, wrapBits_eq, ↓reduceIte, Nat.reduceEqDiff, Nat.reduceAdd, Nat.reduceSub, Nat.reduceLeDiff, Nat.reduceLT, Nat.reduceBEq, reduceCtorEq, Int.reduceEq]
        refine AW.ift (by rfl) ?_
        refine AW.rseq ?_
        try simp only [↓wk, ↓wl, nc, evV, wrapBits_eq, ↓reduceIte, Nat.reduceEqDiff, Nat.reduceAdd, Nat.reduceSub, Nat.reduceLeDiff, Nat.reduceLT, Nat.reduceBEq, reduceCtorEq, Int.reduceEq]
        refine AW.ret ?_
        refine seqQ.ret ?_
        cases H
        exact hQ _ _ _ _ (.inr rfl) (by simp only [resVs, omap, resV, ↓wk, ↓wl, nc, evV, wrapBits_eq, ↓reduceIte, Nat.reduceEqDiff, Nat.reduceAdd, Nat.reduceSub, Nat.reduceLeDiff, Nat.reduceLT, Nat.reduceBEq, reduceCtorEq, Int.reduceEq]; rfl) (hand_plain (by rfl)) (by first | exact Or.inl rfl | exact Or.inr rfl)
      · try simp only [↓wk, ↓wl, nc, evV, wrapBits_eq, ↓reduceIte, Nat.reduceEqDiff, Nat.reduceAdd, Nat.reduceSub, Nat.reduceLeDiff, Nat.reduceLT, Nat.reduceBEq, reduceCtorEq, Int.reduceEq]
        refine evTs_pure hFn H (fun _ h => f12_ok h) (by rfl) (by rfl) (by rfl) (by rfl) (fun _ => rfl) ?_ <;> clear H <;> intro r_25 H
        try simp only [eL, ↓wk, ↓wl, nc, evV, wrapBits_eq, ↓reduceIte, Nat.reduceEqDiff, Nat.reduceAdd, Nat.reduceSub, Nat.reduceLeDiff, Nat.reduceLT, Nat.reduceBEq, reduceCtorEq, Int.reduceEq]
        refine AW.ifc H (by rfl) ?_ ?_ <;> clear H <;> intro H
        · refine AW.rseq ?_
          try simp only [↓wk, ↓wl, nc, evV, wrapBits_eq, ↓reduceIte, Nat.reduceEqDiff, Nat.reduceAdd, Nat.reduceSub, Nat.reduceLeDiff, Nat.reduceLT, Nat.reduceBEq, reduceCtorEq, Int.reduceEq]
          refine AW.ret ?_
          refine seqQ.ret ?_
          cases H
          exact hQ _ _ _ _ (.inr rfl) (by simp only [resVs, omap, resV, ↓wk, ↓wl, nc, evV, wrapBits_eq, ↓reduceIte, Nat.reduceEqDiff, Nat.reduceAdd, Nat.reduceSub, Nat.reduceLeDiff, Nat.reduceLT, Nat.reduceBEq, reduceCtorEq, Int.reduceEq]; rfl) (hand_plain (by rfl)) (by first | exact Or.inl rfl | exact Or.inr rfl)
        · refine AW.skip ?_
          refine seqQ.norm ?_
          refine AW.sseq ?_
          refine AW.rseq ?_
          try simp only [↓wk, ↓wl, nc, evV, wrapBits_eq, ↓reduceIte, Nat.reduceEqDiff, Nat.reduceAdd, Nat.reduceSub, Nat.reduceLeDiff, Nat.reduceLT, Nat.reduceBEq, reduceCtorEq, Int.reduceEq]
          refine AW.bend ?_
          refine AW.iter H ((Le.none [0] [1, 25, 26, 27] (by decide) (by simp only [f14_L1, List.length_set, Option.map_some, restrict_eq, renS_nil, renS_cons, renB_els, renB_cel, renB_dead, deep_eq, map_ren_enc, ren_agg', ren_tup', ren_fn', ren_int', ren_bool', ren_str', ren_sl', ren_pro', ren_nilp', ren_nilfn', ren_junk', ren_ptr', ren_row', ren_arow', ren_eptr', vm, List.idxOf?_cons, List.idxOf?_nil, beq_self_eq_true, Option.map_none, List.getD_cons_zero, List.getD_cons_succ, ↓wk, ↓wl, nc, evV, wrapBits_eq, ↓reduceIte, Nat.reduceEqDiff, Nat.reduceAdd, Nat.reduceSub, Nat.reduceLeDiff, Nat.reduceLT, Nat.reduceBEq, reduceCtorEq, Int.reduceEq] <;> rfl))) ?_ <;> clear H
          rintro ⟨v_1701, s_1702, s_1703, s_1704, s_1705, s_1706⟩ x_ st0_ H hst_
          simp only [f14_L1] at H hst_
          subst hst_
          refine AW.rseq ?_
          try simp only [↓wk, ↓wl, nc, evV, wrapBits_eq, ↓reduceIte, Nat.reduceEqDiff, Nat.reduceAdd, Nat.reduceSub, Nat.reduceLeDiff, Nat.reduceLT, Nat.reduceBEq, reduceCtorEq, Int.reduceEq]
          refine AW.sseq ?_
          refine AW.ifc H (by rfl) ?_ ?_ <;> clear H <;> intro H
          · refine AW.skip ?_
            refine seqQ.norm ?_
            refine AW.bseq ?_
            refine AW.rseq ?_
            try simp only [↓wk, ↓wl, nc, evV, wrapBits_eq, ↓reduceIte, Nat.reduceEqDiff, Nat.reduceAdd, Nat.reduceSub, Nat.reduceLeDiff, Nat.reduceLT, Nat.reduceBEq, reduceCtorEq, Int.reduceEq]
            refine evTs_at (enc := (AV.int .i64)) H (by rfl) (by rfl) ?_ <;> clear H <;> intro x_1721 H
            try simp only [↓wk, ↓wl, nc, evV, wrapBits_eq, ↓reduceIte, Nat.reduceEqDiff, Nat.reduceAdd, Nat.reduceSub, Nat.reduceLeDiff, Nat.reduceLT, Nat.reduceBEq, reduceCtorEq, Int.reduceEq]
            refine AW.join (f14_J2 x_1721 v_1701 s_1702 s_1703 s_1704 s_1705 s_1706) H ?_ fun hf14_J2 => ?_
            · clear H
              rintro ⟨l_1724, e_1725, next_1726, next_1727, next_1728, next_1729, next_1730⟩ st0_ H hst_
              simp only [f14_J2] at H hst_
              subst hst_
              refine AW.sseq ?_
              refine AW.rseq ?_
              try simp only [↓wk, ↓wl, nc, evV, wrapBits_eq, ↓reduceIte, Nat.reduceEqDiff, Nat.reduceAdd, Nat.reduceSub, Nat.reduceLeDiff, Nat.reduceLT, Nat.reduceBEq, reduceCtorEq, Int.reduceEq]
              refine evTs_ifg H (by rfl) ?_ ?_ <;> clear H <;> intro H
              · try simp only [↓wk, ↓wl, nc, evV, wrapBits_eq, ↓reduceIte, Nat.reduceEqDiff, Nat.reduceAdd, Nat.reduceSub, Nat.reduceLeDiff, Nat.reduceLT, Nat.reduceBEq, reduceCtorEq, Int.reduceEq]
                refine AW.ift (by rfl) ?_
                refine AW.rseq ?_
                try simp only [↓wk, ↓wl, nc, evV, wrapBits_eq, ↓reduceIte, Nat.reduceEqDiff, Nat.reduceAdd, Nat.reduceSub, Nat.reduceLeDiff, Nat.reduceLT, Nat.reduceBEq, reduceCtorEq, Int.reduceEq]
                refine AW.ret ?_
                refine seqQ.ret ?_
                refine blkQ.ret ?_
                refine loopQ.ret H ?_ <;> clear H <;> intro H
                try dsimp only at H
                refine blk0.ret ?_
                refine seqQ.ret ?_
                cases H
                exact hQ _ _ _ _ (.inr rfl) (by simp only [resVs, omap, resV, ↓wk, ↓wl, nc, evV, wrapBits_eq, ↓reduceIte, Nat.reduceEqDiff, Nat.reduceAdd, Nat.reduceSub, Nat.reduceLeDiff, Nat.reduceLT, Nat.reduceBEq, reduceCtorEq, Int.reduceEq]; rfl) (hand_plain (by rfl)) (by first | exact Or.inl rfl | exact Or.inr rfl)
              · try simp only [↓wk, ↓wl, nc, evV, wrapBits_eq, ↓reduceIte, Nat.reduceEqDiff, Nat.reduceAdd, Nat.reduceSub, Nat.reduceLeDiff, Nat.reduceLT, Nat.reduceBEq, reduceCtorEq, Int.reduceEq]
                refine evTs_ifg H (by rfl) ?_ ?_ <;> clear H <;> intro H
                · try simp only [↓wk, ↓wl, nc, evV, wrapBits_eq, ↓reduceIte, Nat.reduceEqDiff, Nat.reduceAdd, Nat.reduceSub, Nat.reduceLeDiff, Nat.reduceLT, Nat.reduceBEq, reduceCtorEq, Int.reduceEq]
                  refine AW.ift (by rfl) ?_
                  refine AW.rseq ?_
                  try simp only [↓wk, ↓wl, nc, evV, wrapBits_eq, ↓reduceIte, Nat.reduceEqDiff, Nat.reduceAdd, Nat.reduceSub, Nat.reduceLeDiff, Nat.reduceLT, Nat.reduceBEq, reduceCtorEq, Int.reduceEq]
                  refine AW.ret ?_
                  refine seqQ.ret ?_
                  refine blkQ.ret ?_
                  refine loopQ.ret H ?_ <;> clear H <;> intro H
                  try dsimp only at H
                  refine blk0.ret ?_
                  refine seqQ.ret ?_
                  cases H
                  exact hQ _ _ _ _ (.inr rfl) (by simp only [resVs, omap, resV, ↓wk, ↓wl, nc, evV, wrapBits_eq, ↓reduceIte, Nat.reduceEqDiff, Nat.reduceAdd, Nat.reduceSub, Nat.reduceLeDiff, Nat.reduceLT, Nat.reduceBEq, reduceCtorEq, Int.reduceEq]; rfl) (hand_plain (by rfl)) (by first | exact Or.inl rfl | exact Or.inr rfl)
                · try simp only [↓wk, ↓wl, nc, evV, wrapBits_eq, ↓reduceIte, Nat.reduceEqDiff, Nat.reduceAdd, Nat.reduceSub, Nat.reduceLeDiff, Nat.reduceLT, Nat.reduceBEq, reduceCtorEq, Int.reduceEq]
                  refine AW.ifc H (by rfl) ?_ ?_ <;> clear H <;> intro H
                  · refine AW.rseq ?_
                    try simp only [↓wk, ↓wl, nc, evV, wrapBits_eq, ↓reduceIte, Nat.reduceEqDiff, Nat.reduceAdd, Nat.reduceSub, Nat.reduceLeDiff, Nat.reduceLT, Nat.reduceBEq, reduceCtorEq, Int.reduceEq]
                    refine AW.ret ?_
                    refine seqQ.ret ?_
                    refine blkQ.ret ?_
                    refine loopQ.ret H ?_ <;> clear H <;> intro H
                    try dsimp only at H
                    refine blk0.ret ?_
                    refine seqQ.ret ?_
                    cases H
                    exact hQ _ _ _ _ (.inr rfl) (by simp only [resVs, omap, resV, ↓wk, ↓wl, nc, evV, wrapBits_eq, ↓reduceIte, Nat.reduceEqDiff, Nat.reduceAdd, Nat.reduceSub, Nat.reduceLeDiff, Nat.reduceLT, Nat.reduceBEq, reduceCtorEq, Int.reduceEq]; rfl) (hand_plain (by rfl)) (by first | exact Or.inl rfl | exact Or.inr rfl)
                  · refine AW.skip ?_
                    refine seqQ.norm ?_
                    refine AW.sseq ?_
                    refine AW.rseq ?_
                    try simp only [↓wk, ↓wl, nc, evV, wrapBits_eq, ↓reduceIte, Nat.reduceEqDiff, Nat.reduceAdd, Nat.reduceSub, Nat.reduceLeDiff, Nat.reduceLT, Nat.reduceBEq, reduceCtorEq, Int.reduceEq]
                    refine evTs_ifg H (by rfl) ?_ ?_ <;> clear H <;> intro H
                    · try simp only [↓wk, ↓wl, nc, evV, wrapBits_eq, ↓reduceIte, Nat.reduceEqDiff, Nat.reduceAdd, Nat.reduceSub, Nat.reduceLeDiff, Nat.reduceLT, Nat.reduceBEq, reduceCtorEq, Int.reduceEq]
                      refine evTs_at (enc := eNetworkPacket) H (by rfl) (by rfl) ?_ <;> clear H <;> intro x_1731 H
                      try simp only [eNetworkPacket, eL, ↓wk, ↓wl, nc, evV, wrapBits_eq, ↓reduceIte, Nat.reduceEqDiff, Nat.reduceAdd, Nat.reduceSub, Nat.reduceLeDiff, Nat.reduceLT, Nat.reduceBEq, reduceCtorEq, Int.reduceEq]
                      refine evTs_ifg H (by rfl) ?_ ?_ <;> clear H <;> intro H
                      · try simp only [↓wk, ↓wl, nc, evV, wrapBits_eq, ↓reduceIte, Nat.reduceEqDiff, Nat.reduceAdd, Nat.reduceSub, Nat.reduceLeDiff, Nat.reduceLT, Nat.reduceBEq, reduceCtorEq, Int.reduceEq]
                        refine AW.ift (by rfl) ?_
                        refine AW.rseq ?_
                        try simp only [↓wk, ↓wl, nc, evV, wrapBits_eq, ↓reduceIte, Nat.reduceEqDiff, Nat.reduceAdd, Nat.reduceSub, Nat.reduceLeDiff, Nat.reduceLT, Nat.reduceBEq, reduceCtorEq, Int.reduceEq]
                        refine AW.ret ?_
                        refine seqQ.ret ?_
                        refine blkQ.ret ?_
                        refine loopQ.ret H ?_ <;> clear H <;> intro H
                        try dsimp only at H
                        refine blk0.ret ?_
                        refine seqQ.ret ?_
                        cases H
                        exact hQ _ _ _ _ (.inr rfl) (by simp only [resVs, omap, resV, ↓wk, ↓wl, nc, evV, wrapBits_eq, ↓reduceIte, Nat.reduceEqDiff, Nat.reduceAdd, Nat.reduceSub, Nat.reduceLeDiff, Nat.reduceLT, Nat.reduceBEq, reduceCtorEq, Int.reduceEq]; rfl) (hand_plain (by rfl)) (by first | exact Or.inl rfl | exact Or.inr rfl)
                      · try simp only [↓wk, ↓wl, nc, evV, wrapBits_eq, ↓reduceIte, Nat.reduceEqDiff, Nat.reduceAdd, Nat.reduceSub, Nat.reduceLeDiff, Nat.reduceLT, Nat.reduceBEq, reduceCtorEq, Int.reduceEq]
                        refine evTs_at (enc := eNetworkPacket) H (by rfl) (by rfl) ?_ <;> clear H <;> intro x_1732 H
                        try simp only [eNetworkPacket, eL, ↓wk, ↓wl, nc, evV, wrapBits_eq, ↓reduceIte, Nat.reduceEqDiff, Nat.reduceAdd, Nat.reduceSub, Nat.reduceLeDiff, Nat.reduceLT, Nat.reduceBEq, reduceCtorEq, Int.reduceEq]
                        refine evTs_ifg H (by rfl) ?_ ?_ <;> clear H <;> intro H
                        · try simp only [↓wk, ↓wl, nc, evV, wrapBits_eq, ↓reduceIte, Nat.reduceEqDiff, Nat.reduceAdd, Nat.reduceSub, Nat.reduceLeDiff, Nat.reduceLT, Nat.reduceBEq, reduceCtorEq, Int.reduceEq]
                          refine AW.ift (by rfl) ?_
                          refine AW.rseq ?_
                          try simp only [↓wk, ↓wl, nc, evV, wrapBits_eq, ↓reduceIte, Nat.reduceEqDiff, Nat.reduceAdd, Nat.reduceSub, Nat.reduceLeDiff, Nat.reduceLT, Nat.reduceBEq, reduceCtorEq, Int.reduceEq]
                          refine AW.ret ?_
                          refine seqQ.ret ?_
                          refine blkQ.ret ?_
                          refine loopQ.ret H ?_ <;> clear H <;> intro H
                          try dsimp only at H
                          refine blk0.ret ?_
                          refine seqQ.ret ?_
                          cases H
                          exact hQ _ _ _ _ (.inr rfl) (by simp only [resVs, omap, resV, ↓wk, ↓wl, nc, evV, wrapBits_eq, ↓reduceIte, Nat.reduceEqDiff, Nat.reduceAdd, Nat.reduceSub, Nat.reduceLeDiff, Nat.reduceLT, Nat.reduceBEq, reduceCtorEq, Int.reduceEq]; rfl) (hand_plain (by rfl)) (by first | exact Or.inl rfl | exact Or.inr rfl)
                        · try simp only [↓wk, ↓wl, nc, evV, wrapBits_eq, ↓reduceIte, Nat.reduceEqDiff, Nat.reduceAdd, Nat.reduceSub, Nat.reduceLeDiff, Nat.reduceLT, Nat.reduceBEq, reduceCtorEq, Int.reduceEq]
                          refine evTs_at (enc := eNetworkPacket) H (by rfl) (by rfl) ?_ <;> clear H <;> intro x_1733 H
                          try simp only [eNetworkPacket, eL, ↓wk, ↓wl, nc, evV, wrapBits_eq, ↓reduceIte, Nat.reduceEqDiff, Nat.reduceAdd, Nat.reduceSub, Nat.reduceLeDiff, Nat.reduceLT, Nat.reduceBEq, reduceCtorEq, Int.reduceEq]
                          refine evTs_ifg H (by rfl) ?_ ?_ <;> clear H <;> intro H
                          · try simp only [↓wk, ↓wl, nc, evV, wrapBits_eq, ↓reduceIte, Nat.reduceEqDiff, Nat.reduceAdd, Nat.reduceSub, Nat.reduceLeDiff, Nat.reduceLT, Nat.reduceBEq, reduceCtorEq, Int.reduceEq]
                            refine AW.ift (by rfl) ?_
                            refine AW.rseq ?_
                            try simp only [↓wk, ↓wl, nc, evV, wrapBits_eq, ↓reduceIte, Nat.reduceEqDiff, Nat.reduceAdd, Nat.reduceSub, Nat.reduceLeDiff, Nat.reduceLT, Nat.reduceBEq, reduceCtorEq, Int.reduceEq]
                            refine AW.ret ?_
                            refine seqQ.ret ?_
                            refine blkQ.ret ?_
                            refine loopQ.ret H ?_ <;> clear H <;> intro H
                            try dsimp only at H
                            refine blk0.ret ?_
                            refine seqQ.ret ?_
                            cases H
                            exact hQ _ _ _ _ (.inr rfl) (by simp only [resVs, omap, resV, ↓wk, ↓wl, nc, evV, wrapBits_eq, ↓reduceIte, Nat.reduceEqDiff, Nat.reduceAdd, Nat.reduceSub, Nat.reduceLeDiff, Nat.reduceLT, Nat.reduceBEq, reduceCtorEq, Int.reduceEq]; rfl) (hand_plain (by rfl)) (by first | exact Or.inl rfl | exact Or.inr rfl)
                          · try simp only [↓wk, ↓wl, nc, evV, wrapBits_eq, ↓reduceIte, Nat.reduceEqDiff, Nat.reduceAdd, Nat.reduceSub, Nat.reduceLeDiff, Nat.reduceLT, Nat.reduceBEq, reduceCtorEq, Int.reduceEq]
                            refine evTs_at (enc := eNetworkPacket) H (by rfl) (by rfl) ?_ <;> clear H <;> intro x_1734 H
                            try simp only [eNetworkPacket, eL, ↓wk, ↓wl, nc, evV, wrapBits_eq, ↓reduceIte, Nat.reduceEqDiff, Nat.reduceAdd, Nat.reduceSub, Nat.reduceLeDiff, Nat.reduceLT, Nat.reduceBEq, reduceCtorEq, Int.reduceEq]
                            refine AW.ifc H (by rfl) ?_ ?_ <;> clear H <;> intro H
                            · refine AW.rseq ?_
                              try simp only [↓wk, ↓wl, nc, evV, wrapBits_eq, ↓reduceIte, Nat.reduceEqDiff, Nat.reduceAdd, Nat.reduceSub, Nat.reduceLeDiff, Nat.reduceLT, Nat.reduceBEq, reduceCtorEq, Int.reduceEq]
                              refine AW.ret ?_
                              refine seqQ.ret ?_
                              refine blkQ.ret ?_
                              refine loopQ.ret H ?_ <;> clear H <;> intro H
                              try dsimp only at H
                              refine blk0.ret ?_
                              refine seqQ.ret ?_
                              cases H
                              exact hQ _ _ _ _ (.inr rfl) (by simp only [resVs, omap, resV, ↓wk, ↓wl, nc, evV, wrapBits_eq, ↓reduceIte, Nat.reduceEqDiff, Nat.reduceAdd, Nat.reduceSub, Nat.reduceLeDiff, Nat.reduceLT, Nat.reduceBEq, reduceCtorEq, Int.reduceEq]; rfl) (hand_plain (by rfl)) (by first | exact Or.inl rfl | exact Or.inr rfl)
                            · refine AW.skip ?_
                              refine seqQ.norm ?_
                              refine AW.rend ?_
                              try simp only [↓wk, ↓wl, nc, evV, wrapBits_eq, ↓reduceIte, Nat.reduceEqDiff, Nat.reduceAdd, Nat.reduceSub, Nat.reduceLeDiff, Nat.reduceLT, Nat.reduceBEq, reduceCtorEq, Int.reduceEq]
                              refine blkQ.norm ?_
                              refine AW.rend ?_
                              try simp only [↓wk, ↓wl, nc, evV, wrapBits_eq, ↓reduceIte, Nat.reduceEqDiff, Nat.reduceAdd, Nat.reduceSub, Nat.reduceLeDiff, Nat.reduceLT, Nat.reduceBEq, reduceCtorEq, Int.reduceEq]
                              exact loopQ.next H ((Le.none [0] [1, 25, 26, 27] (by decide) (by simp only [f14_L1, List.length_set, Option.map_some, restrict_eq, renS_nil, renS_cons, renB_els, renB_cel, renB_dead, deep_eq, map_ren_enc, ren_agg', ren_tup', ren_fn', ren_int', ren_bool', ren_str', ren_sl', ren_pro', ren_nilp', ren_nilfn', ren_junk', ren_ptr', ren_row', ren_arow', ren_eptr', vm, List.idxOf?_cons, List.idxOf?_nil, beq_self_eq_true, Option.map_none, List.getD_cons_zero, List.getD_cons_succ, ↓wk, ↓wl, nc, evV, wrapBits_eq, ↓reduceIte, Nat.reduceEqDiff, Nat.reduceAdd, Nat.reduceSub, Nat.reduceLeDiff, Nat.reduceLT, Nat.reduceBEq, reduceCtorEq, Int.reduceEq] <;> rfl)))
                    · try simp only [↓wk, ↓wl, nc, evV, wrapBits_eq, ↓reduceIte, Nat.reduceEqDiff, Nat.reduceAdd, Nat.reduceSub, Nat.reduceLeDiff, Nat.reduceLT, Nat.reduceBEq, reduceCtorEq, Int.reduceEq]
                      refine AW.iff (by rfl) ?_
                      refine AW.skip ?_
                      refine seqQ.norm ?_
                      refine AW.rend ?_
                      try simp only [↓wk, ↓wl, nc, evV, wrapBits_eq, ↓reduceIte, Nat.reduceEqDiff, Nat.reduceAdd, Nat.reduceSub, Nat.reduceLeDiff, Nat.reduceLT, Nat.reduceBEq, reduceCtorEq, Int.reduceEq]
                      refine blkQ.norm ?_
                      refine AW.rend ?_
                      try simp only [↓wk, ↓wl, nc, evV, wrapBits_eq, ↓reduceIte, Nat.reduceEqDiff, Nat.reduceAdd, Nat.reduceSub, Nat.reduceLeDiff, Nat.reduceLT, Nat.reduceBEq, reduceCtorEq, Int.reduceEq]
                      exact loopQ.next H ((Le.none [0] [1, 25, 26, 27] (by decide) (by simp only [f14_L1, List.length_set, Option.map_some, restrict_eq, renS_nil, renS_cons, renB_els, renB_cel, renB_dead, deep_eq, map_ren_enc, ren_agg', ren_tup', ren_fn', ren_int', ren_bool', ren_str', ren_sl', ren_pro', ren_nilp', ren_nilfn', ren_junk', ren_ptr', ren_row', ren_arow', ren_eptr', vm, List.idxOf?_cons, List.idxOf?_nil, beq_self_eq_true, Option.map_none, List.getD_cons_zero, List.getD_cons_succ, ↓wk, ↓wl, nc, evV, wrapBits_eq, ↓reduceIte, Nat.reduceEqDiff, Nat.reduceAdd, Nat.reduceSub, Nat.reduceLeDiff, Nat.reduceLT, Nat.reduceBEq, reduceCtorEq, Int.reduceEq] <;> rfl)))
            · refine AW.regt ?_
              refine evR.fork ?_
              try simp only [↓wk, ↓wl, nc, evV, wrapBits_eq, ↓reduceIte, Nat.reduceEqDiff, Nat.reduceAdd, Nat.reduceSub, Nat.reduceLeDiff, Nat.reduceLT, Nat.reduceBEq, reduceCtorEq, Int.reduceEq]
              refine evR.both ?_ ?_
              · refine evR.fork ?_
                try simp only [↓wk, ↓wl, nc, evV, wrapBits_eq, ↓reduceIte, Nat.reduceEqDiff, Nat.reduceAdd, Nat.reduceSub, Nat.reduceLeDiff, Nat.reduceLT, Nat.reduceBEq, reduceCtorEq, Int.reduceEq]
                refine evTs_pure hFnq H (fun _ h => f27_ok h) (by rfl) (by rfl) (by rfl) (by rfl) (fun _ => rfl) ?_ <;> clear H <;> intro r_1735 H
                try simp only [eL, eApiFrame, ↓wk, ↓wl, nc, evV, wrapBits_eq, ↓reduceIte, Nat.reduceEqDiff, Nat.reduceAdd, Nat.reduceSub, Nat.reduceLeDiff, Nat.reduceLT, Nat.reduceBEq, reduceCtorEq, Int.reduceEq]
                refine evR.both ?_ ?_
                · refine evR.run ?_
                  try simp only [↓wk, ↓wl, nc, evV, wrapBits_eq, ↓reduceIte, Nat.reduceEqDiff, Nat.reduceAdd, Nat.reduceSub, Nat.reduceLeDiff, Nat.reduceLT, Nat.reduceBEq, reduceCtorEq, Int.reduceEq]
                  refine evTs_pure hFnq H (fun _ h => f23_ok h) (by rfl) (by rfl) (by rfl) (by rfl) (fun _ => rfl) ?_ <;> clear H <;> intro r_1736 H
                  try simp only [eL, eNetworkSender, ↓wk, ↓wl, nc, evV, wrapBits_eq, ↓reduceIte, Nat.reduceEqDiff, Nat.reduceAdd, Nat.reduceSub, Nat.reduceLeDiff, Nat.reduceLT, Nat.reduceBEq, reduceCtorEq, Int.reduceEq]
                  refine seqQ.norm ?_
                  exact hf14_J2 _ _ H ((Le.none [0, 1] [1, 3, 4, 5, 6, 7, 25, 26, 27] (by decide) (by simp only [f14_J2, List.length_set, Option.map_some, restrict_eq, renS_nil, renS_cons, renB_els, renB_cel, renB_dead, deep_eq, map_ren_enc, ren_agg', ren_tup', ren_fn', ren_int', ren_bool', ren_str', ren_sl', ren_pro', ren_nilp', ren_nilfn', ren_junk', ren_ptr', ren_row', ren_arow', ren_eptr', vm, List.idxOf?_cons, List.idxOf?_nil, beq_self_eq_true, Option.map_none, List.getD_cons_zero, List.getD_cons_succ, ↓wk, ↓wl, nc, evV, wrapBits_eq, ↓reduceIte, Nat.reduceEqDiff, Nat.reduceAdd, Nat.reduceSub, Nat.reduceLeDiff, Nat.reduceLT, Nat.reduceBEq, reduceCtorEq, Int.reduceEq] <;> rfl)))
                · refine evR.run ?_
                  try simp only [↓wk, ↓wl, nc, evV, wrapBits_eq, ↓reduceIte, Nat.reduceEqDiff, Nat.reduceAdd, Nat.reduceSub, Nat.reduceLeDiff, Nat.reduceLT, Nat.reduceBEq, reduceCtorEq, Int.reduceEq]
                  refine evTs_pure hFnq H (fun _ h => f23_ok h) (by rfl) (by rfl) (by rfl) (by rfl) (fun _ => rfl) ?_ <;> clear H <;> intro r_1736 H
                  try simp only [eL, eNetworkSender, ↓wk, ↓wl, nc, evV, wrapBits_eq, ↓reduceIte, Nat.reduceEqDiff, Nat.reduceAdd, Nat.reduceSub, Nat.reduceLeDiff, Nat.reduceLT, Nat.reduceBEq, reduceCtorEq, Int.reduceEq]
                  refine seqQ.norm ?_
                  exact hf14_J2 _ _ H ((Le.none [0, 1] [1, 3, 4, 5, 6, 7, 25, 26, 27] (by decide) (by simp only [f14_J2, List.length_set, Option.map_some, restrict_eq, renS_nil, renS_cons, renB_els, renB_cel, renB_dead, deep_eq, map_ren_enc, ren_agg', ren_tup', ren_fn', ren_int', ren_bool', ren_str', ren_sl', ren_pro', ren_nilp', ren_nilfn', ren_junk', ren_ptr', ren_row', ren_arow', ren_eptr', vm, List.idxOf?_cons, List.idxOf?_nil, beq_self_eq_true, Option.map_none, List.getD_cons_zero, List.getD_cons_succ, ↓wk, ↓wl, nc, evV, wrapBits_eq, ↓reduceIte, Nat.reduceEqDiff, Nat.reduceAdd, Nat.reduceSub, Nat.reduceLeDiff, Nat.reduceLT, Nat.reduceBEq, reduceCtorEq, Int.reduceEq] <;> rfl)))
              · refine evR.run ?_
                try simp only [↓wk, ↓wl, nc, evV, wrapBits_eq, ↓reduceIte, Nat.reduceEqDiff, Nat.reduceAdd, Nat.reduceSub, Nat.reduceLeDiff, Nat.reduceLT, Nat.reduceBEq, reduceCtorEq, Int.reduceEq]
                refine evTs_pure hFnq H (fun _ h => f27_ok h) (by rfl) (by rfl) (by rfl) (by rfl) (fun _ => rfl) ?_ <;> clear H <;> intro r_1735 H
                try simp only [eL, eApiFrame, ↓wk, ↓wl, nc, evV, wrapBits_eq, ↓reduceIte, Nat.reduceEqDiff, Nat.reduceAdd, Nat.reduceSub, Nat.reduceLeDiff, Nat.reduceLT, Nat.reduceBEq, reduceCtorEq, Int.reduceEq]
                refine evTs_pure hFnq H (fun _ h => f23_ok h) (by rfl) (by rfl) (by rfl) (by rfl) (fun _ => rfl) ?_ <;> clear H <;> intro r_1736 H
                try simp only [eL, eNetworkSender, ↓wk, ↓wl, nc, evV, wrapBits_eq, ↓reduceIte, Nat.reduceEqDiff, Nat.reduceAdd, Nat.reduceSub, Nat.reduceLeDiff, Nat.reduceLT, Nat.reduceBEq, reduceCtorEq, Int.reduceEq]
                refine seqQ.norm ?_
                exact hf14_J2 _ _ H ((Le.none [0, 1] [1, 3, 4, 5, 6, 7, 25, 26, 27] (by decide) (by simp only [f14_J2, List.length_set, Option.map_some, restrict_eq, renS_nil, renS_cons, renB_els, renB_cel, renB_dead, deep_eq, map_ren_enc, ren_agg', ren_tup', ren_fn', ren_int', ren_bool', ren_str', ren_sl', ren_pro', ren_nilp', ren_nilfn', ren_junk', ren_ptr', ren_row', ren_arow', ren_eptr', vm, List.idxOf?_cons, List.idxOf?_nil, beq_self_eq_true, Option.map_none, List.getD_cons_zero, List.getD_cons_succ, ↓wk, ↓wl, nc, evV, wrapBits_eq, ↓reduceIte, Nat.reduceEqDiff, Nat.reduceAdd, Nat.reduceSub, Nat.reduceLeDiff, Nat.reduceLT, Nat.reduceBEq, reduceCtorEq, Int.reduceEq] <;> rfl)))
          · refine AW.exit ?_
            refine seqQ.exit ?_
            refine loopQ.exit H ?_ <;> clear H <;> intro H
            try dsimp only at H
            refine blk0.here ?_
            refine seqQ.norm ?_
            refine AW.rseq ?_
            try simp only [↓wk, ↓wl, nc, evV, wrapBits_eq, ↓reduceIte, Nat.reduceEqDiff, Nat.reduceAdd, Nat.reduceSub, Nat.reduceLeDiff, Nat.reduceLT, Nat.reduceBEq, reduceCtorEq, Int.reduceEq]
            refine AW.ret ?_
            cases H
            exact hQ _ _ _ _ (.inr rfl) (by simp only [resVs, omap, resV, ↓wk, ↓wl, nc, evV, wrapBits_eq, ↓reduceIte, Nat.reduceEqDiff, Nat.reduceAdd, Nat.reduceSub, Nat.reduceLeDiff, Nat.reduceLT, Nat.reduceBEq, reduceCtorEq, Int.reduceEq]; rfl) (hand_plain (by rfl)) (by first | exact Or.inl rfl | exact Or.inr rfl)
end Go.Proofs.Ytlidbikdeboihaa
