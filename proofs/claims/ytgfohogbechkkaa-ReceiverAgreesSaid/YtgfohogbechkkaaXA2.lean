import Derived.Test.YtgfohogbechkkaaXA1
import Derived.Test.YtgfohogbechkkaaM6
import Derived.Test.YtgfohogbechkkaaProg
import Derived.KernelRfl
namespace Go.Proofs.Ytgfohogbechkkaa
open Go Go.Ab

set_option maxHeartbeats 1000000
set_option maxRecDepth 4000
set_option linter.unusedSimpArgs false
set_option linter.unusedVariables false
theorem f30_ok {r_377 : ReceiverReceiver} {t_378 : Int} {r_ : (List ApiFrame) × Int} (H : f30 r_377 t_378 = some r_) : Pure Try.prog 30 [.agg [.sl 8 false (r_377.fInputs.map eReceiverInput)], .int .i64 t_378] (· = .tup [.fr 2 (r_.1.map eApiFrame), .int .i64 r_.2]) := by
 refine Pure.walk3 fd30 (some 0) (Nat.le_of_ble_eq_true rfl) (by rfl) fun Q hQ => ?_
 simp only [f30] at H
 refine AW.rseq ?_
 try simp only [↓wk, ↓wl, nqa, evV, ↓reduceIte, Nat.reduceEqDiff, Nat.reduceAdd, Nat.reduceSub, Nat.reduceLeDiff, Nat.reduceLT, Nat.reduceBEq, reduceCtorEq, Int.reduceEq]
 refine evTs_any rfl (by simp only [nc, ↓wk, ↓wl, nqa, evV, ↓reduceIte, Nat.reduceEqDiff, Nat.reduceAdd, Nat.reduceSub, Nat.reduceLeDiff, Nat.reduceLT, Nat.reduceBEq, reduceCtorEq, Int.reduceEq, Nat.reduceLeDiff]; rfl) ?_
 try simp only [↓wk, ↓wl, nqa, evV, ↓reduceIte, Nat.reduceEqDiff, Nat.reduceAdd, Nat.reduceSub, Nat.reduceLeDiff, Nat.reduceLT, Nat.reduceBEq, reduceCtorEq, Int.reduceEq]
 refine AW.sseq ?_
 refine AW.rseq ?_
 try simp only [↓wk, ↓wl, nqa, evV, ↓reduceIte, Nat.reduceEqDiff, Nat.reduceAdd, Nat.reduceSub, Nat.reduceLeDiff, Nat.reduceLT, Nat.reduceBEq, reduceCtorEq, Int.reduceEq]
 refine evTs_any rfl (by simp only [nc, ↓wk, ↓wl, nqa, evV, ↓reduceIte, Nat.reduceEqDiff, Nat.reduceAdd, Nat.reduceSub, Nat.reduceLeDiff, Nat.reduceLT, Nat.reduceBEq, reduceCtorEq, Int.reduceEq, Nat.reduceLeDiff]; rfl) ?_
 try simp only [↓wk, ↓wl, nqa, evV, ↓reduceIte, Nat.reduceEqDiff, Nat.reduceAdd, Nat.reduceSub, Nat.reduceLeDiff, Nat.reduceLT, Nat.reduceBEq, reduceCtorEq, Int.reduceEq]
 refine evTs_pure hFn H (fun _ h => f58_ok h) (by rfl) (by rfl) (by rfl) (by rfl) (fun _ => rfl) ?_ <;> clear H <;> intro r_380 H
 try simp only [eL, ↓wk, ↓wl, nqa, evV, ↓reduceIte, Nat.reduceEqDiff, Nat.reduceAdd, Nat.reduceSub, Nat.reduceLeDiff, Nat.reduceLT, Nat.reduceBEq, reduceCtorEq, Int.reduceEq]
 refine AW.rseq ?_
 try simp only [↓wk, ↓wl, nqa, evV, ↓reduceIte, Nat.reduceEqDiff, Nat.reduceAdd, Nat.reduceSub, Nat.reduceLeDiff, Nat.reduceLT, Nat.reduceBEq, reduceCtorEq, Int.reduceEq]
 refine AW.ifc H (by rfl) ?_ ?_ <;> clear H <;> intro H
 ·refine AW.rseq ?_
  try simp only [↓wk, ↓wl, nqa, evV, ↓reduceIte, Nat.reduceEqDiff, Nat.reduceAdd, Nat.reduceSub, Nat.reduceLeDiff, Nat.reduceLT, Nat.reduceBEq, reduceCtorEq, Int.reduceEq]
  refine AW.ret ?_
  refine seqQ.ret ?_
  cases H
  exact hQ _ _ _ _ (.inr rfl) (by simp only [resVs, omap, resV, ↓wk, ↓wl, nqa, evV, ↓reduceIte, Nat.reduceEqDiff, Nat.reduceAdd, Nat.reduceSub, Nat.reduceLeDiff, Nat.reduceLT, Nat.reduceBEq, reduceCtorEq, Int.reduceEq]; rfl) (hand_k0 (by rfl) (by rfl)) (by first | exact Or.inl rfl | exact Or.inr rfl)
 ·refine AW.skip ?_
  refine seqQ.norm ?_
  refine AW.rseq ?_
  try simp only [↓wk, ↓wl, nqa, evV, ↓reduceIte, Nat.reduceEqDiff, Nat.reduceAdd, Nat.reduceSub, Nat.reduceLeDiff, Nat.reduceLT, Nat.reduceBEq, reduceCtorEq, Int.reduceEq]
  refine AW.sseq ?_
  refine AW.rseq ?_
  try simp only [↓wk, ↓wl, nqa, evV, ↓reduceIte, Nat.reduceEqDiff, Nat.reduceAdd, Nat.reduceSub, Nat.reduceLeDiff, Nat.reduceLT, Nat.reduceBEq, reduceCtorEq, Int.reduceEq]
  refine AW.bend ?_
  refine AW.iter H ((Le.trans (Le.nilRow (i := 7) (e := 2) (by simp only [↓wk, ↓wl, nq, evV, ↓reduceIte, sevalprocAttr])) (Le.none [0, 1] [1, 2, 7, 8] (by decide) (by simp only [f30_L1c, rrl, Option.map_some, vm, List.idxOf?_cons, List.idxOf?_nil, beq_self_eq_true, Option.map_none, List.getD_cons_zero, List.getD_cons_succ, ↓wk, ↓wl, nq, evV, ↓reduceIte, Nat.reduceEqDiff, Nat.reduceAdd, Nat.reduceSub, Nat.reduceLeDiff, Nat.reduceLT, Nat.reduceBEq, reduceCtorEq, Int.reduceEq] <;> rfl)))) ?_ <;> clear H
  rintro ⟨universe_592, out_593⟩ x_ st0_ H hst_
  rw [f30_L1c] at hst_
  simp only [f30_L1] at H
  subst hst_
  refine AW.sseq ?_
  refine AW.rseq ?_
  try simp only [↓wk, ↓wl, nqa, evV, ↓reduceIte, Nat.reduceEqDiff, Nat.reduceAdd, Nat.reduceSub, Nat.reduceLeDiff, Nat.reduceLT, Nat.reduceBEq, reduceCtorEq, Int.reduceEq]
  refine AW.ifc H (by rfl) ?_ ?_ <;> clear H <;> intro H
  ·refine AW.skip ?_
   refine seqQ.norm ?_
   refine AW.bseq ?_
   refine AW.rseq ?_
   try simp only [↓wk, ↓wl, nqa, evV, ↓reduceIte, Nat.reduceEqDiff, Nat.reduceAdd, Nat.reduceSub, Nat.reduceLeDiff, Nat.reduceLT, Nat.reduceBEq, reduceCtorEq, Int.reduceEq]
   refine evTs_any rfl (by simp only [nc, ↓wk, ↓wl, nqa, evV, ↓reduceIte, Nat.reduceEqDiff, Nat.reduceAdd, Nat.reduceSub, Nat.reduceLeDiff, Nat.reduceLT, Nat.reduceBEq, reduceCtorEq, Int.reduceEq, Nat.reduceLeDiff]; rfl) ?_
   try simp only [↓wk, ↓wl, nqa, evV, ↓reduceIte, Nat.reduceEqDiff, Nat.reduceAdd, Nat.reduceSub, Nat.reduceLeDiff, Nat.reduceLT, Nat.reduceBEq, reduceCtorEq, Int.reduceEq]
   refine evTs_pure hFn H (fun _ h => f73_im h) (by rfl) (by rfl) (by rfl) (by rfl) (fun _ => rfl) ?_ <;> clear H <;> intro r_648 H
   try simp only [eL, ↓wk, ↓wl, nqa, evV, ↓reduceIte, Nat.reduceEqDiff, Nat.reduceAdd, Nat.reduceSub, Nat.reduceLeDiff, Nat.reduceLT, Nat.reduceBEq, reduceCtorEq, Int.reduceEq]
   refine AW.sseq ?_
   refine AW.rseq ?_
   try simp only [↓wk, ↓wl, nqa, evV, ↓reduceIte, Nat.reduceEqDiff, Nat.reduceAdd, Nat.reduceSub, Nat.reduceLeDiff, Nat.reduceLT, Nat.reduceBEq, reduceCtorEq, Int.reduceEq]
   refine AW.ifc H (by rfl) ?_ ?_ <;> clear H <;> intro H
   ·refine AW.exit ?_
    refine seqQ.exit ?_
    refine blkQ.here ?_
    refine AW.rend ?_
    try simp only [↓wk, ↓wl, nqa, evV, ↓reduceIte, Nat.reduceEqDiff, Nat.reduceAdd, Nat.reduceSub, Nat.reduceLeDiff, Nat.reduceLT, Nat.reduceBEq, reduceCtorEq, Int.reduceEq]
    exact loopQ.next H ((Le.none [0, 1] [1, 2, 7, 8] (by decide) (by simp only [f30_L1c, rrl, Option.map_some, vm, List.idxOf?_cons, List.idxOf?_nil, beq_self_eq_true, Option.map_none, List.getD_cons_zero, List.getD_cons_succ, ↓wk, ↓wl, nq, evV, ↓reduceIte, Nat.reduceEqDiff, Nat.reduceAdd, Nat.reduceSub, Nat.reduceLeDiff, Nat.reduceLT, Nat.reduceBEq, reduceCtorEq, Int.reduceEq] <;> rfl)))
   ·refine AW.skip ?_
    refine seqQ.norm ?_
    refine AW.rseq ?_
    try simp only [↓wk, ↓wl, nqa, evV, ↓reduceIte, Nat.reduceEqDiff, Nat.reduceAdd, Nat.reduceSub, Nat.reduceLeDiff, Nat.reduceLT, Nat.reduceBEq, reduceCtorEq, Int.reduceEq]
    refine evTs_arrn (enc := (AV.int .u8)) H (by rfl) ?_ <;> clear H <;> intro slots_649 H
    try simp only [↓wk, ↓wl, nqa, evV, ↓reduceIte, Nat.reduceEqDiff, Nat.reduceAdd, Nat.reduceSub, Nat.reduceLeDiff, Nat.reduceLT, Nat.reduceBEq, reduceCtorEq, Int.reduceEq]
    refine AW.sseq ?_
    refine AW.rseq ?_
    try simp only [↓wk, ↓wl, nqa, evV, ↓reduceIte, Nat.reduceEqDiff, Nat.reduceAdd, Nat.reduceSub, Nat.reduceLeDiff, Nat.reduceLT, Nat.reduceBEq, reduceCtorEq, Int.reduceEq]
    refine AW.bend ?_
    refine AW.iter H ((Le.none [0, 1, 2] [1, 2, 7, 8, 10, 31, 32, 33] (by decide) (by simp only [f30_L2c, rrl, Option.map_some, vm, List.idxOf?_cons, List.idxOf?_nil, beq_self_eq_true, Option.map_none, List.getD_cons_zero, List.getD_cons_succ, ↓wk, ↓wl, nq, evV, ↓reduceIte, Nat.reduceEqDiff, Nat.reduceAdd, Nat.reduceSub, Nat.reduceLeDiff, Nat.reduceLT, Nat.reduceBEq, reduceCtorEq, Int.reduceEq] <;> rfl))) ?_ <;> clear H
    rintro ⟨v_682, slots_683⟩ x_ st0_ H hst_
    rw [f30_L2c] at hst_
    simp only [f30_L2] at H
    subst hst_
    refine AW.rseq ?_
    try simp only [↓wk, ↓wl, nqa, evV, ↓reduceIte, Nat.reduceEqDiff, Nat.reduceAdd, Nat.reduceSub, Nat.reduceLeDiff, Nat.reduceLT, Nat.reduceBEq, reduceCtorEq, Int.reduceEq]
    refine AW.sseq ?_
    refine AW.ifc H (by rfl) ?_ ?_ <;> clear H <;> intro H
    ·refine AW.skip ?_
     refine seqQ.norm ?_
     refine AW.bseq ?_
     refine AW.rseq ?_
     try simp only [↓wk, ↓wl, nqa, evV, ↓reduceIte, Nat.reduceEqDiff, Nat.reduceAdd, Nat.reduceSub, Nat.reduceLeDiff, Nat.reduceLT, Nat.reduceBEq, reduceCtorEq, Int.reduceEq]
     refine evTs_at (enc := eReceiverInput) H (by rfl) (by rfl) ?_ <;> clear H <;> intro x_702 H
     try simp only [eReceiverInput, eL, ↓wk, ↓wl, nqa, evV, ↓reduceIte, Nat.reduceEqDiff, Nat.reduceAdd, Nat.reduceSub, Nat.reduceLeDiff, Nat.reduceLT, Nat.reduceBEq, reduceCtorEq, Int.reduceEq]
     refine evTs_any rfl (by simp only [nc, ↓wk, ↓wl, nqa, evV, ↓reduceIte, Nat.reduceEqDiff, Nat.reduceAdd, Nat.reduceSub, Nat.reduceLeDiff, Nat.reduceLT, Nat.reduceBEq, reduceCtorEq, Int.reduceEq, Nat.reduceLeDiff]; rfl) ?_
     try simp only [↓wk, ↓wl, nqa, evV, ↓reduceIte, Nat.reduceEqDiff, Nat.reduceAdd, Nat.reduceSub, Nat.reduceLeDiff, Nat.reduceLT, Nat.reduceBEq, reduceCtorEq, Int.reduceEq]
     refine evTs_any rfl (by simp only [nc, ↓wk, ↓wl, nqa, evV, ↓reduceIte, Nat.reduceEqDiff, Nat.reduceAdd, Nat.reduceSub, Nat.reduceLeDiff, Nat.reduceLT, Nat.reduceBEq, reduceCtorEq, Int.reduceEq, Nat.reduceLeDiff]; rfl) ?_
     try simp only [↓wk, ↓wl, nqa, evV, ↓reduceIte, Nat.reduceEqDiff, Nat.reduceAdd, Nat.reduceSub, Nat.reduceLeDiff, Nat.reduceLT, Nat.reduceBEq, reduceCtorEq, Int.reduceEq]
     refine evTs_st (by simp only [↓wk, ↓wl, nqa, evV, ↓reduceIte, Nat.reduceEqDiff, Nat.reduceAdd, Nat.reduceSub, Nat.reduceLeDiff, Nat.reduceLT, Nat.reduceBEq, reduceCtorEq, Int.reduceEq, Nat.reduceLeDiff]; rfl) ?_
     try simp only [↓wk, ↓wl, nqa, evV, ↓reduceIte, Nat.reduceEqDiff, Nat.reduceAdd, Nat.reduceSub, Nat.reduceLeDiff, Nat.reduceLT, Nat.reduceBEq, reduceCtorEq, Int.reduceEq]
     refine AW.rseq ?_
     try simp only [↓wk, ↓wl, nqa, evV, ↓reduceIte, Nat.reduceEqDiff, Nat.reduceAdd, Nat.reduceSub, Nat.reduceLeDiff, Nat.reduceLT, Nat.reduceBEq, reduceCtorEq, Int.reduceEq]
     refine AW.bend ?_
     refine AW.iter H ((Le.none [0, 1, 2, 3] [1, 2, 7, 8, 10, 12, 31, 32, 33, 37] (by decide) (by simp only [f30_L3c, rrl, Option.map_some, vm, List.idxOf?_cons, List.idxOf?_nil, beq_self_eq_true, Option.map_none, List.getD_cons_zero, List.getD_cons_succ, ↓wk, ↓wl, nq, evV, ↓reduceIte, Nat.reduceEqDiff, Nat.reduceAdd, Nat.reduceSub, Nat.reduceLeDiff, Nat.reduceLT, Nat.reduceBEq, reduceCtorEq, Int.reduceEq] <;> rfl))) ?_ <;> clear H
     rintro ⟨v_711, slots_712⟩ x_ st0_ H hst_
     rw [f30_L3c] at hst_
     simp only [f30_L3] at H
     subst hst_
     refine AW.rseq ?_
     try simp only [↓wk, ↓wl, nqa, evV, ↓reduceIte, Nat.reduceEqDiff, Nat.reduceAdd, Nat.reduceSub, Nat.reduceLeDiff, Nat.reduceLT, Nat.reduceBEq, reduceCtorEq, Int.reduceEq]
     refine AW.sseq ?_
     refine AW.ifc H (by rfl) ?_ ?_ <;> clear H <;> intro H
     ·refine AW.skip ?_
      refine seqQ.norm ?_
      refine AW.bseq ?_
      refine AW.rseq ?_
      try simp only [↓wk, ↓wl, nqa, evV, ↓reduceIte, Nat.reduceEqDiff, Nat.reduceAdd, Nat.reduceSub, Nat.reduceLeDiff, Nat.reduceLT, Nat.reduceBEq, reduceCtorEq, Int.reduceEq]
      refine AW.rend ?_
      try simp only [↓wk, ↓wl, nqa, evV, ↓reduceIte, Nat.reduceEqDiff, Nat.reduceAdd, Nat.reduceSub, Nat.reduceLeDiff, Nat.reduceLT, Nat.reduceBEq, reduceCtorEq, Int.reduceEq]
      refine evTs_aat (enc := (AV.int .u8)) H (by rfl) (by rfl) ?_ <;> clear H <;> intro x_717 hx_717 H
      try simp only [↓wk, ↓wl, nqa, evV, ↓reduceIte, Nat.reduceEqDiff, Nat.reduceAdd, Nat.reduceSub, Nat.reduceLeDiff, Nat.reduceLT, Nat.reduceBEq, reduceCtorEq, Int.reduceEq]
      refine evTs_ald (enc := (AV.int .u8)) x_717 (by rfl) (by rfl) hx_717 ?_
      try simp only [↓wk, ↓wl, nqa, evV, ↓reduceIte, Nat.reduceEqDiff, Nat.reduceAdd, Nat.reduceSub, Nat.reduceLeDiff, Nat.reduceLT, Nat.reduceBEq, reduceCtorEq, Int.reduceEq]
      refine evTs_any rfl (by simp only [nc, ↓wk, ↓wl, nqa, evV, ↓reduceIte, Nat.reduceEqDiff, Nat.reduceAdd, Nat.reduceSub, Nat.reduceLeDiff, Nat.reduceLT, Nat.reduceBEq, reduceCtorEq, Int.reduceEq, Nat.reduceLeDiff]; rfl) ?_
      try simp only [↓wk, ↓wl, nqa, evV, ↓reduceIte, Nat.reduceEqDiff, Nat.reduceAdd, Nat.reduceSub, Nat.reduceLeDiff, Nat.reduceLT, Nat.reduceBEq, reduceCtorEq, Int.reduceEq]
      refine evTs_sat H (by rfl) (by rfl) ?_ <;> clear H <;> intro b_718 H
      try simp only [↓wk, ↓wl, nqa, evV, ↓reduceIte, Nat.reduceEqDiff, Nat.reduceAdd, Nat.reduceSub, Nat.reduceLeDiff, Nat.reduceLT, Nat.reduceBEq, reduceCtorEq, Int.reduceEq]
      refine evTs_aat (enc := (AV.int .u8)) H (by rfl) (by rfl) ?_ <;> clear H <;> intro x_719 hx_719 H
      try simp only [↓wk, ↓wl, nqa, evV, ↓reduceIte, Nat.reduceEqDiff, Nat.reduceAdd, Nat.reduceSub, Nat.reduceLeDiff, Nat.reduceLT, Nat.reduceBEq, reduceCtorEq, Int.reduceEq]
      refine evTs_ast (enc := (AV.int .u8)) (if (b_718.toNat : Int) > x_717 then (b_718.toNat : Int) else x_717) (by rfl) (by rfl) hx_719 (by rfl) ?_
      try simp only [↓wk, ↓wl, nqa, evV, ↓reduceIte, Nat.reduceEqDiff, Nat.reduceAdd, Nat.reduceSub, Nat.reduceLeDiff, Nat.reduceLT, Nat.reduceBEq, reduceCtorEq, Int.reduceEq]
      refine blkQ.norm ?_
      refine AW.rend ?_
      try simp only [↓wk, ↓wl, nqa, evV, ↓reduceIte, Nat.reduceEqDiff, Nat.reduceAdd, Nat.reduceSub, Nat.reduceLeDiff, Nat.reduceLT, Nat.reduceBEq, reduceCtorEq, Int.reduceEq]
      exact loopQ.next H ((Le.none [0, 1, 2, 3] [1, 2, 7, 8, 10, 12, 31, 32, 33, 37] (by decide) (by simp only [f30_L3c, rrl, Option.map_some, vm, List.idxOf?_cons, List.idxOf?_nil, beq_self_eq_true, Option.map_none, List.getD_cons_zero, List.getD_cons_succ, ↓wk, ↓wl, nq, evV, ↓reduceIte, Nat.reduceEqDiff, Nat.reduceAdd, Nat.reduceSub, Nat.reduceLeDiff, Nat.reduceLT, Nat.reduceBEq, reduceCtorEq, Int.reduceEq] <;> rfl)))
     ·refine AW.exit ?_
      refine seqQ.exit ?_
      refine loopQ.exit H ?_ <;> clear H <;> intro H
      try dsimp only at H
      refine blk0.here ?_
      refine blkQ.norm ?_
      refine AW.rend ?_
      try simp only [↓wk, ↓wl, nqa, evV, ↓reduceIte, Nat.reduceEqDiff, Nat.reduceAdd, Nat.reduceSub, Nat.reduceLeDiff, Nat.reduceLT, Nat.reduceBEq, reduceCtorEq, Int.reduceEq]
      exact loopQ.next H ((Le.none [0, 1, 2] [1, 2, 7, 8, 10, 31, 32, 33] (by decide) (by simp only [f30_L2c, rrl, Option.map_some, vm, List.idxOf?_cons, List.idxOf?_nil, beq_self_eq_true, Option.map_none, List.getD_cons_zero, List.getD_cons_succ, ↓wk, ↓wl, nq, evV, ↓reduceIte, Nat.reduceEqDiff, Nat.reduceAdd, Nat.reduceSub, Nat.reduceLeDiff, Nat.reduceLT, Nat.reduceBEq, reduceCtorEq, Int.reduceEq] <;> rfl)))
    ·refine AW.exit ?_
     refine seqQ.exit ?_
     refine loopQ.exit H ?_ <;> clear H <;> intro H
     try dsimp only at H
     refine blk0.here ?_
     refine seqQ.norm ?_
     refine AW.rend ?_
     try simp only [↓wk, ↓wl, nqa, evV, ↓reduceIte, Nat.reduceEqDiff, Nat.reduceAdd, Nat.reduceSub, Nat.reduceLeDiff, Nat.reduceLT, Nat.reduceBEq, reduceCtorEq, Int.reduceEq]
     refine evTs_any (v := .arow 0 2 0 512) rfl (by rfl) ?_
     try simp only [↓wk, ↓wl, nqa, evV, ↓reduceIte, Nat.reduceEqDiff, Nat.reduceAdd, Nat.reduceSub, Nat.reduceLeDiff, Nat.reduceLT, Nat.reduceBEq, reduceCtorEq, Int.reduceEq]
     refine evTs_cstra H (by rfl) (by rfl) ?_ <;> clear H <;> intro H
     try simp only [↓wk, ↓wl, nqa, evV, ↓reduceIte, Nat.reduceEqDiff, Nat.reduceAdd, Nat.reduceSub, Nat.reduceLeDiff, Nat.reduceLT, Nat.reduceBEq, reduceCtorEq, Int.reduceEq]
     refine evTs_app (enc := eApiFrame) H (by rfl) (by first | rfl | simp only [List.length_set]) (by rfl) (by rfl) ?_ <;> clear H <;> intro out_720 H
     try simp only [↓wk, ↓wl, nqa, evV, ↓reduceIte, Nat.reduceEqDiff, Nat.reduceAdd, Nat.reduceSub, Nat.reduceLeDiff, Nat.reduceLT, Nat.reduceBEq, reduceCtorEq, Int.reduceEq]
     refine blkQ.norm ?_
     refine AW.rend ?_
     try simp only [↓wk, ↓wl, nqa, evV, ↓reduceIte, Nat.reduceEqDiff, Nat.reduceAdd, Nat.reduceSub, Nat.reduceLeDiff, Nat.reduceLT, Nat.reduceBEq, reduceCtorEq, Int.reduceEq]
     exact loopQ.next H ((Le.none [0, 3] [1, 2, 7, 8] (by decide) (by simp only [f30_L1c, rrl, Option.map_some, vm, List.idxOf?_cons, List.idxOf?_nil, beq_self_eq_true, Option.map_none, List.getD_cons_zero, List.getD_cons_succ, ↓wk, ↓wl, nq, evV, ↓reduceIte, Nat.reduceEqDiff, Nat.reduceAdd, Nat.reduceSub, Nat.reduceLeDiff, Nat.reduceLT, Nat.reduceBEq, reduceCtorEq, Int.reduceEq] <;> rfl)))
  ·refine AW.exit ?_
   refine seqQ.exit ?_
   refine loopQ.exit H ?_ <;> clear H <;> intro H
   try dsimp only at H
   refine blk0.here ?_
   refine seqQ.norm ?_
   refine AW.rseq ?_
   try simp only [↓wk, ↓wl, nqa, evV, ↓reduceIte, Nat.reduceEqDiff, Nat.reduceAdd, Nat.reduceSub, Nat.reduceLeDiff, Nat.reduceLT, Nat.reduceBEq, reduceCtorEq, Int.reduceEq]
   refine AW.ret ?_
   cases H
   exact hQ _ _ _ _ (.inr rfl) (by simp only [resVs, omap, resV, ↓wk, ↓wl, nqa, evV, ↓reduceIte, Nat.reduceEqDiff, Nat.reduceAdd, Nat.reduceSub, Nat.reduceLeDiff, Nat.reduceLT, Nat.reduceBEq, reduceCtorEq, Int.reduceEq]; rfl) (hand_k (by rfl) (by rfl) (by simp) (enc_all _) (by rfl)) (by first | exact Or.inl rfl | exact Or.inr rfl)
theorem f30_im {r_377 : ReceiverReceiver} {t_378 : Int} {r_ : (List ApiFrame) × Int} (H : f30 r_377 t_378 = some r_) : Pure Try.prog 30 [.agg [.sl 8 false (r_377.fInputs.map eReceiverInput)], .int .i64 t_378] (· = .tup [.sl 2 false (r_.1.map eApiFrame), .int .i64 r_.2]) := (f30_ok H).unfr (by first | exact enc_fits _ | simp only [frFits, List.all_cons, List.all_nil, enc_fits, Bool.and_self])
def c57_0 : C := .seq (.reg [iI 17 (.mv (.t 10)), iI 18 (.bin .eql (.t 17) (.c (.int .i64 0))), iI 19 (.mv (.t 18)), iG (some 20) 19 true (.mv (.t 9)), iG (some 21) 19 true (.len 0 (.t 20)), iG (some 22) 19 true (.bin .eql (.t 21) (.c (.int .i64 1))), iI 23 (.pick (.t 19) (.t 22) (.c (.bool false))), iI 24 (.mv (.t 23)), iG (some 25) 24 true (.mv (.t 9)), iG (some 26) 24 true (.iaddr 2 (.t 25) (.c (.int .i64 0))), iG (some 27) 24 true (.faddr 0 (.t 26)), iG (some 28) 24 true (.load 0 (.t 27)), iG (some 29) 24 true (.mv (.t 2)), iG (some 30) 24 true (.bin .eql (.t 28) (.t 29)), iI 31 (.pick (.t 24) (.t 30) (.c (.bool false))), iI 32 (.mv (.t 31)), iG (some 33) 32 true (.mv (.t 9)), iG (some 34) 32 true (.iaddr 2 (.t 33) (.c (.int .i64 0))), iG (some 35) 32 true (.faddr 1 (.t 34)), iG (some 36) 32 true (.load 0 (.t 35)), iG (some 37) 32 true (.len 1 (.t 36)), iG (some 38) 32 true (.bin .eql (.t 37) (.c (.int .i64 512))), iI 39 (.pick (.t 32) (.t 38) (.c (.bool false))), iI 40 (.mv (.t 39)), iG (some 41) 40 true (.mv (.t 9)), iG (some 42) 40 true (.iaddr 2 (.t 41) (.c (.int .i64 0))), iG (some 43) 40 true (.faddr 1 (.t 42)), iG (some 44) 40 true (.load 0 (.t 43)), iG (some 45) 40 true (.mv (.t 3)), iG (some 46) 40 true (.len 0 (.t 45)), iG (some 47) 40 true (.sslice (.t 44) none (some (.t 46))), iG (some 48) 40 true (.mv (.t 3)), iG (some 49) 40 true (.cstr (.t 48)), iG (some 50) 40 true (.bin .eql (.t 47) (.t 49)), iI 51 (.pick (.t 40) (.t 50) (.c (.bool false))), iI 8 (.mv (.t 51))]) .ret
def c57_1 : C := .seq (.reg [iI 12 (.load 1 (.t 4)), iI 13 (.mv (.t 1)), iI 14 (.call (.c (.fn 30 [])) [(.t 12), (.t 13)]), iI 11 (.mv (.t 14)), iI 15 (.ext (.t 11) 0), iI 16 (.ext (.t 11) 1), iI 9 (.mv (.t 15)), iI 10 (.mv (.t 16))]) c57_0
def ir57 : C := .seq (.reg [iI 4 (.box (.t 0)), iI 8 (.mv (.c (.bool false)))]) c57_1
theorem fd57 : fd? Try.prog 57 = some (52, [.slot 8], ir57) := by kernel_rfl
noncomputable def f57 (r_318 : ReceiverReceiver) (t_319 : Int) (universe_320 : Int) (b_321 : (List Int)) : Option (Bool) :=
  (f30 r_318 t_319).bind fun r_721 => (if (decide (r_721.2 = 0)) = true then (if (decide (((r_721.1.length : Nat) : Int) = 1)) = true then (at? r_721.1 0).bind fun x_722 => (if (decide (x_722.fUniverse = universe_320)) = true then (at? r_721.1 0).bind fun x_723 => (if (decide (((x_723.fSlots.length : Nat) : Int) = 512)) = true then (at? r_721.1 0).bind fun x_724 => (slc? x_724.fSlots 0 ((b_321.length : Nat) : Int)).bind fun s_725 => (some (s_725 == (b_321.map b8))) else (some false)) else (some false)) else (some false)) else (some false))
theorem f57_ok {r_318 : ReceiverReceiver} {t_319 : Int} {universe_320 : Int} {b_321 : (List Int)} {r_ : Bool} (H : f57 r_318 t_319 universe_320 b_321 = some r_) : Pure Try.prog 57 [.agg [.sl 8 false (r_318.fInputs.map eReceiverInput)], .int .i64 t_319, .int .i64 universe_320, .sl 0 false (b_321.map (AV.int .u8))] (· = .bool r_) := by
 refine Pure.walk3 fd57 none (Nat.le_of_ble_eq_true rfl) (by rfl) fun Q hQ => ?_
 simp only [f57] at H
 refine AW.rseq ?_
 try simp only [↓wk, ↓wl, nq, evV, ↓reduceIte, sevalprocAttr]
 refine AW.rseq ?_
 try simp only [↓wk, ↓wl, nq, evV, ↓reduceIte, sevalprocAttr]
 refine evTs_pure hFn H (fun _ h => f30_im h) (by rfl) (by rfl) (by rfl) (by rfl) (fun _ => rfl) ?_ <;> clear H <;> intro r_721 H
 try simp only [eL, ↓wk, ↓wl, nq, evV, ↓reduceIte, sevalprocAttr]
 refine AW.rseq ?_
 try simp only [↓wk, ↓wl, nq, evV, ↓reduceIte, sevalprocAttr]
 refine evTs_ifg H (by rfl) ?_ ?_ <;> clear H <;> intro H
 ·try simp only [↓wk, ↓wl, nq, evV, ↓reduceIte, sevalprocAttr]
  refine evTs_ifg H (by rfl) ?_ ?_ <;> clear H <;> intro H
  ·try simp only [↓wk, ↓wl, nq, evV, ↓reduceIte, sevalprocAttr]
   refine evTs_at (enc := eApiFrame) H (by rfl) (by rfl) ?_ <;> clear H <;> intro x_722 H
   try simp only [eApiFrame, eL, ↓wk, ↓wl, nq, evV, ↓reduceIte, sevalprocAttr]
   refine evTs_ifg H (by rfl) ?_ ?_ <;> clear H <;> intro H
   ·try simp only [↓wk, ↓wl, nq, evV, ↓reduceIte, sevalprocAttr]
    refine evTs_at (enc := eApiFrame) H (by rfl) (by rfl) ?_ <;> clear H <;> intro x_723 H
    try simp only [eApiFrame, eL, ↓wk, ↓wl, nq, evV, ↓reduceIte, sevalprocAttr]
    refine evTs_ifg H (by rfl) ?_ ?_ <;> clear H <;> intro H
    ·try simp only [↓wk, ↓wl, nq, evV, ↓reduceIte, sevalprocAttr]
     refine evTs_at (enc := eApiFrame) H (by rfl) (by rfl) ?_ <;> clear H <;> intro x_724 H
     try simp only [eApiFrame, eL, ↓wk, ↓wl, nq, evV, ↓reduceIte, sevalprocAttr]
     refine evTs_sslc H (by rfl) (by simp only [loI, hiI, ↓wk, ↓wl, nq, evV, ↓reduceIte, sevalprocAttr]; rfl) (by simp only [loI, hiI, ↓wk, ↓wl, nq, evV, ↓reduceIte, sevalprocAttr]; rfl) ?_ <;> clear H <;> intro s_725 H
     try simp only [↓wk, ↓wl, nq, evV, ↓reduceIte, sevalprocAttr]
     refine evTs_cstr (xs := b_321) (by rfl) ?_
     try simp only [↓wk, ↓wl, nq, evV, ↓reduceIte, sevalprocAttr]
     refine AW.ret ?_
     cases H
     exact hQ _ _ _ _ (.inr rfl) (by simp only [resVs, omap, resV, ↓wk, ↓wl, nq, evV, ↓reduceIte, sevalprocAttr]; rfl) (hand_plain (by rfl)) (by first | exact Or.inl rfl | exact Or.inr rfl)
    ·try simp only [↓wk, ↓wl, nq, evV, ↓reduceIte, sevalprocAttr]
     refine AW.ret ?_
     cases H
     exact hQ _ _ _ _ (.inr rfl) (by simp only [resVs, omap, resV, ↓wk, ↓wl, nq, evV, ↓reduceIte, sevalprocAttr]; rfl) (hand_plain (by rfl)) (by first | exact Or.inl rfl | exact Or.inr rfl)
   ·try simp only [↓wk, ↓wl, nq, evV, ↓reduceIte, sevalprocAttr]
    refine AW.ret ?_
    cases H
    exact hQ _ _ _ _ (.inr rfl) (by simp only [resVs, omap, resV, ↓wk, ↓wl, nq, evV, ↓reduceIte, sevalprocAttr]; rfl) (hand_plain (by rfl)) (by first | exact Or.inl rfl | exact Or.inr rfl)
  ·try simp only [↓wk, ↓wl, nq, evV, ↓reduceIte, sevalprocAttr]
   refine AW.ret ?_
   cases H
   exact hQ _ _ _ _ (.inr rfl) (by simp only [resVs, omap, resV, ↓wk, ↓wl, nq, evV, ↓reduceIte, sevalprocAttr]; rfl) (hand_plain (by rfl)) (by first | exact Or.inl rfl | exact Or.inr rfl)
 ·try simp only [↓wk, ↓wl, nq, evV, ↓reduceIte, sevalprocAttr]
  refine AW.ret ?_
  cases H
  exact hQ _ _ _ _ (.inr rfl) (by simp only [resVs, omap, resV, ↓wk, ↓wl, nq, evV, ↓reduceIte, sevalprocAttr]; rfl) (hand_plain (by rfl)) (by first | exact Or.inl rfl | exact Or.inr rfl)
noncomputable def f15_J2 (e_737 : Int) (late_738 : Bool) (r_730 : ReceiverReceiver × Int × Int) : Jn (Bool × Int) (Bool) where
  run := fun (far_741, f_742) => (if (decide ((IntKind.i64.wrap (e_737 + f_742)) ≠ 0)) = true then (some false) else (if late_738 = true then (some false) else (if (!far_741) = true then (some false) else (f56 3 1 0 ([7])).bind fun r_743 => (f56 3 2 0 ([8])).bind fun r_744 => (f24 (ReceiverReceiver.mk ([])) ([(ReceiverEvent.mk 0 (NetworkPacket.mk r_743.fSource r_743.fUniverse r_743.fPriority r_743.fSeq 3 r_743.fEnd r_743.fSlots)), (ReceiverEvent.mk 0 (NetworkPacket.mk r_744.fSource r_744.fUniverse r_744.fPriority r_744.fSeq 3 r_744.fEnd r_744.fSlots))])).bind fun r_745 => (f30 r_745.1 5).bind fun r_746 => (f16 r_745.1 5 (NetworkPacket.mk 3 0 0 0 3 false ([]))).bind fun r_747 => (f30 r_747.1 5).bind fun r_748 => (if (decide ((IntKind.i64.wrap ((IntKind.i64.wrap ((IntKind.i64.wrap (r_745.2.2 + r_746.2)) + r_747.2.2)) + r_748.2)) = 0)) = true then (if (decide (r_745.2.1 = 2)) = true then (if (decide (((r_746.1.length : Nat) : Int) = 0)) = true then (if r_747.2.1 = true then (some (decide (((r_748.1.length : Nat) : Int) = 2))) else (some false)) else (some false)) else (some false)) else (some false)))))
  cst := fun (far_741, f_742) => ⟨put (put (put (put (put (fun _ => .junk) 9 (.int .i64 f_742)) 8 (.bool far_741)) 6 (.bool late_738)) 3 (.int .i64 e_737)) 1 (.ptr 0 0), [.cel [.sl 8 false (r_730.1.fInputs.map eReceiverInput)]]⟩
theorem f15_J2c (e_737 : Int) (late_738 : Bool) (r_730 : ReceiverReceiver × Int × Int) (far_741 : Bool) (f_742 : Int) : (f15_J2 e_737 late_738 r_730).cst (far_741, f_742) = ⟨put (put (put (put (put (fun _ => .junk) 9 (.int .i64 f_742)) 8 (.bool far_741)) 6 (.bool late_738)) 3 (.int .i64 e_737)) 1 (.ptr 0 0), [.cel [.sl 8 false (r_730.1.fInputs.map eReceiverInput)]]⟩ := rfl
noncomputable def f15_J1 (r_730 : ReceiverReceiver × Int × Int) : Jn (Int × Bool) (Bool) where
  run := fun (e_737, late_738) => (f56 2 4 200 ([1])).bind fun r_749 => (f16 r_730.1 2600 r_749).bind fun r_750 => ((f15_J2 e_737 late_738 r_730).run (r_750.2.1, r_750.2.2))
  cst := fun (e_737, late_738) => ⟨put (put (put (fun _ => .junk) 6 (.bool late_738)) 3 (.int .i64 e_737)) 1 (.ptr 0 0), [.cel [.sl 8 false (r_730.1.fInputs.map eReceiverInput)]]⟩
theorem f15_J1c (r_730 : ReceiverReceiver × Int × Int) (e_737 : Int) (late_738 : Bool) : (f15_J1 r_730).cst (e_737, late_738) = ⟨put (put (put (fun _ => .junk) 6 (.bool late_738)) 3 (.int .i64 e_737)) 1 (.ptr 0 0), [.cel [.sl 8 false (r_730.1.fInputs.map eReceiverInput)]]⟩ := rfl
def c15_0 : C := .cond (.t 41) (.seq (.reg [iI 0 (.mv (.c (.bool false)))]) .ret) (.skip)
def c15_1 : C := .cond (.t 74) (.seq (.reg [iI 0 (.mv (.c (.bool false)))]) .ret) (.skip)
def c15_2 : C := .cond (.t 101) (.seq (.reg [iI 0 (.mv (.c (.bool false)))]) .ret) (.skip)
def c15_3 : C := .seq (.reg [iI 136 (.mv (.t 3)), iI 137 (.mv (.t 9)), iI 138 (.bin .add (.t 136) (.t 137)), iI 139 (.mv (.t 14)), iI 140 (.bin .add (.t 138) (.t 139)), iI 141 (.mv (.t 16)), iI 142 (.bin .add (.t 140) (.t 141)), iI 143 (.bin .eql (.t 142) (.c (.int .i64 0))), iI 144 (.mv (.t 143)), iG (some 145) 144 true (.mv (.t 2)), iG (some 146) 144 true (.bin .eql (.t 145) (.c (.int .i64 2))), iI 147 (.pick (.t 144) (.t 146) (.c (.bool false))), iI 148 (.mv (.t 147)), iG (some 149) 148 true (.mv (.t 12)), iG (some 150) 148 true (.len 0 (.t 149)), iG (some 151) 148 true (.bin .eql (.t 150) (.c (.int .i64 0))), iI 152 (.pick (.t 148) (.t 151) (.c (.bool false))), iI 153 (.mv (.t 152)), iG (some 154) 153 true (.mv (.t 13)), iI 155 (.pick (.t 153) (.t 154) (.c (.bool false))), iI 156 (.mv (.t 155)), iG (some 157) 156 true (.mv (.t 15)), iG (some 158) 156 true (.len 0 (.t 157)), iG (some 159) 156 true (.bin .eql (.t 158) (.c (.int .i64 2))), iI 160 (.pick (.t 156) (.t 159) (.c (.bool false))), iI 0 (.mv (.t 160))]) .ret
def c15_4 : C := .seq (.reg [iI 132 (.load 1 (.t 1)), iI 133 (.call (.c (.fn 30 [])) [(.t 132), (.c (.int .i64 5))]), iI 131 (.mv (.t 133)), iI 134 (.ext (.t 131) 0), iI 135 (.ext (.t 131) 1), iI 15 (.mv (.t 134)), iI 16 (.mv (.t 135))]) c15_3
def c15_5 : C := .seq (.reg [iI 125 (.load 1 (.t 1)), iI 126 (.build [(1, (.int .u64 0)), (1, (.int .i64 0)), (1, (.int .i64 0)), (1, (.int .i64 0)), (1, (.int .i64 0)), (1, (.bool false)), (1, (.str []))] [(0, 0, (.c (.int .u64 3))), (4, 0, (.c (.int .i64 3)))]), iI 127 (.call (.c (.fn 16 [])) [(.t 125), (.c (.int .i64 5)), (.t 126)]), iI 124 (.mv (.t 127)), iI 128 (.ext (.t 124) 0), iI 129 (.ext (.t 124) 1), iI 130 (.ext (.t 124) 2), iN (.store 1 (.t 1) (.t 128)), iI 13 (.mv (.t 129)), iI 14 (.mv (.t 130))]) c15_4
def c15_6 : C := .seq (.reg [iI 120 (.load 1 (.t 1)), iI 121 (.call (.c (.fn 30 [])) [(.t 120), (.c (.int .i64 5))]), iI 119 (.mv (.t 121)), iI 122 (.ext (.t 119) 0), iI 123 (.ext (.t 119) 1), iI 12 (.mv (.t 122)), iI 9 (.mv (.t 123))]) c15_5
def c15_7 : C := .seq (.reg [iI 109 (.build [(1, (.sl 8 true []))] []), iI 110 (.load 7 (.t 10)), iI 111 (.build [(1, (.int .i64 0)), (1, (.int .u64 0)), (1, (.int .i64 0)), (1, (.int .i64 0)), (1, (.int .i64 0)), (1, (.int .i64 0)), (1, (.bool false)), (1, (.str []))] [(1, 7, (.t 110))]), iI 112 (.load 7 (.t 11)), iI 113 (.build [(1, (.int .i64 0)), (1, (.int .u64 0)), (1, (.int .i64 0)), (1, (.int .i64 0)), (1, (.int .i64 0)), (1, (.int .i64 0)), (1, (.bool false)), (1, (.str []))] [(1, 7, (.t 112))]), iI 114 (.mkslp 8 2 (.agg [(.int .i64 0), (.int .u64 0), (.int .i64 0), (.int .i64 0), (.int .i64 0), (.int .i64 0), (.bool false), (.str [])]) [(0, (.t 111)), (1, (.t 113))]), iI 115 (.call (.c (.fn 24 [])) [(.t 109), (.t 114)]), iI 108 (.mv (.t 115)), iI 116 (.ext (.t 108) 0), iI 117 (.ext (.t 108) 1), iI 118 (.ext (.t 108) 2), iN (.store 1 (.t 1) (.t 116)), iI 2 (.mv (.t 117)), iI 3 (.mv (.t 118))]) c15_6
def c15_8 : C := .seq (.reg [iI 106 (.faddr 4 (.t 10)), iN (.store 0 (.t 106) (.c (.int .i64 3))), iI 107 (.faddr 4 (.t 11)), iN (.store 0 (.t 107) (.c (.int .i64 3)))]) c15_7
def c15_9 : C := .seq (.reg [iI 102 (.mkslp 0 1 (.int .u8 0) [(0, (.c (.int .u8 7)))]), iI 103 (.call (.c (.fn 56 [])) [(.c (.int .u64 3)), (.c (.int .i64 1)), (.c (.int .i64 0)), (.t 102)]), iI 104 (.mkslp 0 1 (.int .u8 0) [(0, (.c (.int .u8 8)))]), iI 105 (.call (.c (.fn 56 [])) [(.c (.int .u64 3)), (.c (.int .i64 2)), (.c (.int .i64 0)), (.t 104)]), iI 10 (.alloc [(1, (.int .u64 0)), (1, (.int .i64 0)), (1, (.int .i64 0)), (1, (.int .i64 0)), (1, (.int .i64 0)), (1, (.bool false)), (1, (.str []))]), iI 11 (.alloc [(1, (.int .u64 0)), (1, (.int .i64 0)), (1, (.int .i64 0)), (1, (.int .i64 0)), (1, (.int .i64 0)), (1, (.bool false)), (1, (.str []))]), iN (.store 7 (.t 10) (.t 103)), iN (.store 7 (.t 11) (.t 105))]) c15_8
def c15_10 : C := .seq (.seq (.reg [iI 91 (.mv (.t 3)), iI 92 (.mv (.t 9)), iI 93 (.bin .add (.t 91) (.t 92)), iI 94 (.bin .neq (.t 93) (.c (.int .i64 0))), iI 95 (.mv (.t 94)), iG (some 96) 95 false (.mv (.t 6)), iI 97 (.pick (.t 95) (.c (.bool true)) (.t 96)), iI 98 (.mv (.t 97)), iG (some 99) 98 false (.mv (.t 8)), iG (some 100) 98 false (.un .not (.t 99)), iI 101 (.pick (.t 98) (.c (.bool true)) (.t 100))]) c15_2) c15_9
def c15_11 : C := .seq (.regt (.fork [iI 84 (.load 1 (.t 1)), iI 85 (.mkslp 0 1 (.int .u8 0) [(0, (.c (.int .u8 1)))])] (.fork [iI 86 (.call (.c (.fn 56 [])) [(.c (.int .u64 2)), (.c (.int .i64 4)), (.c (.int .i64 200)), (.t 85)])] (.run [iI 87 (.call (.c (.fn 16 [])) [(.t 84), (.c (.int .i64 2600)), (.t 86)]), iI 83 (.mv (.t 87)), iI 88 (.ext (.t 83) 0), iI 89 (.ext (.t 83) 1), iI 90 (.ext (.t 83) 2), iI 7 (.alloc [(1, (.sl 8 true []))]), iN (.store 1 (.t 7) (.t 88)), iI 8 (.mv (.t 89)), iI 9 (.mv (.t 90))]) (.run [iI 7 (.alloc [(1, (.sl 8 true []))]), iI 87 (.call (.c (.fn 16 [])) [(.t 84), (.c (.int .i64 2600)), (.t 86)]), iI 83 (.mv (.t 87)), iI 88 (.ext (.t 83) 0), iI 89 (.ext (.t 83) 1), iI 90 (.ext (.t 83) 2), iN (.store 1 (.t 7) (.t 88)), iI 8 (.mv (.t 89)), iI 9 (.mv (.t 90))])) (.run [iI 7 (.alloc [(1, (.sl 8 true []))]), iI 86 (.call (.c (.fn 56 [])) [(.c (.int .u64 2)), (.c (.int .i64 4)), (.c (.int .i64 200)), (.t 85)]), iI 87 (.call (.c (.fn 16 [])) [(.t 84), (.c (.int .i64 2600)), (.t 86)]), iI 83 (.mv (.t 87)), iI 88 (.ext (.t 83) 0), iI 89 (.ext (.t 83) 1), iI 90 (.ext (.t 83) 2), iN (.store 1 (.t 7) (.t 88)), iI 8 (.mv (.t 89)), iI 9 (.mv (.t 90))]))) c15_10
def c15_12 : C := .seq (.regt (.fork [iI 76 (.load 1 (.t 1)), iI 77 (.mkslp 0 1 (.int .u8 0) [(0, (.c (.int .u8 1)))])] (.fork [iI 78 (.call (.c (.fn 56 [])) [(.c (.int .u64 2)), (.c (.int .i64 4)), (.c (.int .i64 8)), (.t 77)])] (.run [iI 79 (.call (.c (.fn 16 [])) [(.t 76), (.c (.int .i64 2600)), (.t 78)]), iI 75 (.mv (.t 79)), iI 80 (.ext (.t 75) 0), iI 81 (.ext (.t 75) 1), iI 82 (.ext (.t 75) 2), iI 5 (.alloc [(1, (.sl 8 true []))]), iN (.store 1 (.t 5) (.t 80)), iI 6 (.mv (.t 81)), iI 3 (.mv (.t 82))]) (.run [iI 5 (.alloc [(1, (.sl 8 true []))]), iI 79 (.call (.c (.fn 16 [])) [(.t 76), (.c (.int .i64 2600)), (.t 78)]), iI 75 (.mv (.t 79)), iI 80 (.ext (.t 75) 0), iI 81 (.ext (.t 75) 1), iI 82 (.ext (.t 75) 2), iN (.store 1 (.t 5) (.t 80)), iI 6 (.mv (.t 81)), iI 3 (.mv (.t 82))])) (.run [iI 5 (.alloc [(1, (.sl 8 true []))]), iI 78 (.call (.c (.fn 56 [])) [(.c (.int .u64 2)), (.c (.int .i64 4)), (.c (.int .i64 8)), (.t 77)]), iI 79 (.call (.c (.fn 16 [])) [(.t 76), (.c (.int .i64 2600)), (.t 78)]), iI 75 (.mv (.t 79)), iI 80 (.ext (.t 75) 0), iI 81 (.ext (.t 75) 1), iI 82 (.ext (.t 75) 2), iN (.store 1 (.t 5) (.t 80)), iI 6 (.mv (.t 81)), iI 3 (.mv (.t 82))]))) c15_11
def c15_13 : C := .seq (.seq (.reg [iI 57 (.mv (.t 3)), iI 58 (.bin .neq (.t 57) (.c (.int .i64 0))), iI 59 (.mv (.t 58)), iG (some 60) 59 false (.mv (.t 2)), iG (some 61) 59 false (.bin .neq (.t 60) (.c (.int .i64 2))), iI 62 (.pick (.t 59) (.c (.bool true)) (.t 61)), iI 63 (.mv (.t 62)), iG (some 64) 63 false (.load 1 (.t 1)), iG (some 65) 63 false (.mkslp 0 2 (.int .u8 0) [(0, (.c (.int .u8 15))), (1, (.c (.int .u8 5)))]), iG (some 66) 63 false (.call (.c (.fn 57 [])) [(.t 64), (.c (.int .i64 2520)), (.c (.int .i64 4)), (.t 65)]), iG (some 67) 63 false (.un .not (.t 66)), iI 68 (.pick (.t 63) (.c (.bool true)) (.t 67)), iI 69 (.mv (.t 68)), iG (some 70) 69 false (.load 1 (.t 1)), iG (some 71) 69 false (.mkslp 0 2 (.int .u8 0) [(0, (.c (.int .u8 10))), (1, (.c (.int .u8 20)))]), iG (some 72) 69 false (.call (.c (.fn 57 [])) [(.t 70), (.c (.int .i64 2521)), (.c (.int .i64 4)), (.t 71)]), iG (some 73) 69 false (.un .not (.t 72)), iI 74 (.pick (.t 69) (.c (.bool true)) (.t 73))]) c15_1) c15_12
def c15_14 : C := .seq (.regq [iI 46 (.load 1 (.t 1)), iI 47 (.load 7 (.t 4)), iI 48 (.build [(1, (.int .i64 0)), (1, (.int .u64 0)), (1, (.int .i64 0)), (1, (.int .i64 0)), (1, (.int .i64 0)), (1, (.int .i64 0)), (1, (.bool false)), (1, (.str []))] [(0, 0, (.c (.int .i64 20))), (1, 7, (.t 47))]), iI 49 (.mkslp 0 2 (.int .u8 0) [(0, (.c (.int .u8 10))), (1, (.c (.int .u8 20)))]), iI 50 (.call (.c (.fn 56 [])) [(.c (.int .u64 1)), (.c (.int .i64 4)), (.c (.int .i64 1)), (.t 49)]), iI 51 (.build [(1, (.int .i64 0)), (1, (.int .u64 0)), (1, (.int .i64 0)), (1, (.int .i64 0)), (1, (.int .i64 0)), (1, (.int .i64 0)), (1, (.bool false)), (1, (.str []))] [(0, 0, (.c (.int .i64 2000))), (1, 7, (.t 50))]), iI 52 (.mkslp 8 2 (.agg [(.int .i64 0), (.int .u64 0), (.int .i64 0), (.int .i64 0), (.int .i64 0), (.int .i64 0), (.bool false), (.str [])]) [(0, (.t 48)), (1, (.t 51))]), iI 53 (.call (.c (.fn 24 [])) [(.t 46), (.t 52)]), iI 45 (.mv (.t 53)), iI 54 (.ext (.t 45) 0), iI 55 (.ext (.t 45) 1), iI 56 (.ext (.t 45) 2), iN (.store 1 (.t 1) (.t 54)), iI 2 (.mv (.t 55)), iI 3 (.mv (.t 56))]) c15_13
def c15_15 : C := .seq (.reg [iI 44 (.faddr 2 (.t 4)), iN (.store 0 (.t 44) (.c (.int .i64 101)))]) c15_14
def c15_16 : C := .seq (.reg [iI 42 (.mkslp 0 2 (.int .u8 0) [(0, (.c (.int .u8 15))), (1, (.c (.int .u8 5)))]), iI 43 (.call (.c (.fn 56 [])) [(.c (.int .u64 2)), (.c (.int .i64 4)), (.c (.int .i64 10)), (.t 42)]), iI 4 (.alloc [(1, (.int .u64 0)), (1, (.int .i64 0)), (1, (.int .i64 0)), (1, (.int .i64 0)), (1, (.int .i64 0)), (1, (.bool false)), (1, (.str []))]), iN (.store 7 (.t 4) (.t 43))]) c15_15
def c15_17 : C := .seq (.seq (.reg [iI 30 (.mv (.t 3)), iI 31 (.bin .neq (.t 30) (.c (.int .i64 0))), iI 32 (.mv (.t 31)), iG (some 33) 32 false (.mv (.t 2)), iG (some 34) 32 false (.bin .neq (.t 33) (.c (.int .i64 2))), iI 35 (.pick (.t 32) (.c (.bool true)) (.t 34)), iI 36 (.mv (.t 35)), iG (some 37) 36 false (.load 1 (.t 1)), iG (some 38) 36 false (.mkslp 0 2 (.int .u8 0) [(0, (.c (.int .u8 15))), (1, (.c (.int .u8 20)))]), iG (some 39) 36 false (.call (.c (.fn 57 [])) [(.t 37), (.c (.int .i64 10)), (.c (.int .i64 4)), (.t 38)]), iG (some 40) 36 false (.un .not (.t 39)), iI 41 (.pick (.t 36) (.c (.bool true)) (.t 40))]) c15_0) c15_16
def c15_18 : C := .seq (.reg [iI 18 (.build [(1, (.sl 8 true []))] []), iI 19 (.mkslp 0 2 (.int .u8 0) [(0, (.c (.int .u8 10))), (1, (.c (.int .u8 20)))]), iI 20 (.call (.c (.fn 56 [])) [(.c (.int .u64 1)), (.c (.int .i64 4)), (.c (.int .i64 0)), (.t 19)]), iI 21 (.build [(1, (.int .i64 0)), (1, (.int .u64 0)), (1, (.int .i64 0)), (1, (.int .i64 0)), (1, (.int .i64 0)), (1, (.int .i64 0)), (1, (.bool false)), (1, (.str []))] [(0, 0, (.c (.int .i64 0))), (1, 7, (.t 20))]), iI 22 (.mkslp 0 2 (.int .u8 0) [(0, (.c (.int .u8 15))), (1, (.c (.int .u8 5)))]), iI 23 (.call (.c (.fn 56 [])) [(.c (.int .u64 2)), (.c (.int .i64 4)), (.c (.int .i64 9)), (.t 22)]), iI 24 (.build [(1, (.int .i64 0)), (1, (.int .u64 0)), (1, (.int .i64 0)), (1, (.int .i64 0)), (1, (.int .i64 0)), (1, (.int .i64 0)), (1, (.bool false)), (1, (.str []))] [(0, 0, (.c (.int .i64 10))), (1, 7, (.t 23))]), iI 25 (.mkslp 8 2 (.agg [(.int .i64 0), (.int .u64 0), (.int .i64 0), (.int .i64 0), (.int .i64 0), (.int .i64 0), (.bool false), (.str [])]) [(0, (.t 21)), (1, (.t 24))]), iI 26 (.call (.c (.fn 24 [])) [(.t 18), (.t 25)]), iI 17 (.mv (.t 26)), iI 27 (.ext (.t 17) 0), iI 28 (.ext (.t 17) 1), iI 29 (.ext (.t 17) 2), iI 1 (.alloc [(1, (.sl 8 true []))]), iN (.store 1 (.t 1) (.t 27)), iI 2 (.mv (.t 28)), iI 3 (.mv (.t 29))]) c15_17
def ir15 : C := .seq (.reg [iI 0 (.mv (.c (.bool false)))]) c15_18
theorem fd15 : fd? Try.prog 15 = some (161, [.slot 0], ir15) := by kernel_rfl
noncomputable def f15 : Option (Bool) :=
  (f56 1 4 0 ([10, 20])).bind fun r_5 => (f56 2 4 9 ([15, 5])).bind fun r_6 => (f24 (ReceiverReceiver.mk ([])) ([(ReceiverEvent.mk 0 r_5), (ReceiverEvent.mk 10 r_6)])).bind fun r_317 => (if (decide (r_317.2.2 ≠ 0)) = true then (some false) else (if (decide (r_317.2.1 ≠ 2)) = true then (some false) else (f57 r_317.1 10 4 ([15, 20])).bind fun r_727 => (if (!r_727) = true then (some false) else (f56 2 4 10 ([15, 5])).bind fun r_728 => (f56 1 4 1 ([10, 20])).bind fun r_729 => (f24 r_317.1 ([(ReceiverEvent.mk 20 (NetworkPacket.mk r_728.fSource r_728.fUniverse 101 r_728.fSeq r_728.fSync r_728.fEnd r_728.fSlots)), (ReceiverEvent.mk 2000 r_729)])).bind fun r_730 => (if (decide (r_730.2.2 ≠ 0)) = true then (some false) else (if (decide (r_730.2.1 ≠ 2)) = true then (some false) else (f57 r_730.1 2520 4 ([15, 5])).bind fun r_733 => (if (!r_733) = true then (some false) else (f57 r_730.1 2521 4 ([10, 20])).bind fun r_734 => (if (!r_734) = true then (some false) else (f56 2 4 8 ([1])).bind fun r_751 => (f16 r_730.1 2600 r_751).bind fun r_752 => ((f15_J1 r_730).run (r_752.2.2, r_752.2.1)))))))))
theorem f15_ok {r_ : Bool} (H : f15 = some r_) : Pure Try.prog 15 [] (· = .bool r_) := by
 refine Pure.walk3 fd15 none (Nat.le_of_ble_eq_true rfl) (by rfl) fun Q hQ => ?_
 simp only [f15] at H
 refine AW.rseq ?_
 try simp only [↓wk, ↓wl, nq, evV, ↓reduceIte, sevalprocAttr]
 refine AW.rseq ?_
 try simp only [↓wk, ↓wl, nq, evV, ↓reduceIte, sevalprocAttr]
 refine evTs_pure hFn H (fun _ h => f56_ok h) (by rfl) (by rfl) (by rfl) (by rfl) (fun _ => rfl) ?_ <;> clear H <;> intro r_5 H
 try simp only [eL, eNetworkPacket, ↓wk, ↓wl, nq, evV, ↓reduceIte, sevalprocAttr]
 refine evTs_pure hFn H (fun _ h => f56_ok h) (by rfl) (by rfl) (by rfl) (by rfl) (fun _ => rfl) ?_ <;> clear H <;> intro r_6 H
 try simp only [eL, eNetworkPacket, ↓wk, ↓wl, nq, evV, ↓reduceIte, sevalprocAttr]
 refine evTs_pure hFn H (fun _ h => f24_ok h) (by rfl) (by rfl) (by rfl) (by rfl) (fun _ => rfl) ?_ <;> clear H <;> intro r_317 H
 try simp only [eL, eReceiverReceiver, ↓wk, ↓wl, nq, evV, ↓reduceIte, sevalprocAttr]
 refine AW.sseq ?_
 refine AW.rseq ?_
 try simp only [↓wk, ↓wl, nq, evV, ↓reduceIte, sevalprocAttr]
 refine evTs_ifg H (by rfl) ?_ ?_ <;> clear H <;> intro H
 ·try simp only [↓wk, ↓wl, nq, evV, ↓reduceIte, sevalprocAttr]
  refine AW.ift (by rfl) ?_
  refine AW.rseq ?_
  try simp only [↓wk, ↓wl, nq, evV, ↓reduceIte, sevalprocAttr]
  refine AW.ret ?_
  refine seqQ.ret ?_
  cases H
  exact hQ _ _ _ _ (.inr rfl) (by simp only [resVs, omap, resV, ↓wk, ↓wl, nq, evV, ↓reduceIte, sevalprocAttr]; rfl) (hand_plain (by rfl)) (by first | exact Or.inl rfl | exact Or.inr rfl)
 ·try simp only [↓wk, ↓wl, nq, evV, ↓reduceIte, sevalprocAttr]
  refine evTs_ifg H (by rfl) ?_ ?_ <;> clear H <;> intro H
  ·try simp only [↓wk, ↓wl, nq, evV, ↓reduceIte, sevalprocAttr]
   refine AW.ift (by rfl) ?_
   refine AW.rseq ?_
   try simp only [↓wk, ↓wl, nq, evV, ↓reduceIte, sevalprocAttr]
   refine AW.ret ?_
   refine seqQ.ret ?_
   cases H
   exact hQ _ _ _ _ (.inr rfl) (by simp only [resVs, omap, resV, ↓wk, ↓wl, nq, evV, ↓reduceIte, sevalprocAttr]; rfl) (hand_plain (by rfl)) (by first | exact Or.inl rfl | exact Or.inr rfl)
  ·try simp only [↓wk, ↓wl, nq, evV, ↓reduceIte, sevalprocAttr]
   refine evTs_pure hFn H (fun _ h => f57_ok h) (by rfl) (by rfl) (by rfl) (by rfl) (fun _ => rfl) ?_ <;> clear H <;> intro r_727 H
   try simp only [eL, ↓wk, ↓wl, nq, evV, ↓reduceIte, sevalprocAttr]
   refine AW.ifc H (by rfl) ?_ ?_ <;> clear H <;> intro H
   ·refine AW.rseq ?_
    try simp only [↓wk, ↓wl, nq, evV, ↓reduceIte, sevalprocAttr]
    refine AW.ret ?_
    refine seqQ.ret ?_
    cases H
    exact hQ _ _ _ _ (.inr rfl) (by simp only [resVs, omap, resV, ↓wk, ↓wl, nq, evV, ↓reduceIte, sevalprocAttr]; rfl) (hand_plain (by rfl)) (by first | exact Or.inl rfl | exact Or.inr rfl)
   ·refine AW.skip ?_
    refine seqQ.norm ?_
    refine AW.rseq ?_
    try simp only [↓wk, ↓wl, nq, evV, ↓reduceIte, sevalprocAttr]
    refine evTs_pure hFn H (fun _ h => f56_ok h) (by rfl) (by rfl) (by rfl) (by rfl) (fun _ => rfl) ?_ <;> clear H <;> intro r_728 H
    try simp only [eL, eNetworkPacket, ↓wk, ↓wl, nq, evV, ↓reduceIte, sevalprocAttr]
    refine AW.rseq ?_
    try simp only [↓wk, ↓wl, nq, evV, ↓reduceIte, sevalprocAttr]
    refine AW.rqseq ?_
    try simp only [↓wk, ↓wl, nq, evV, ↓reduceIte, sevalprocAttr]
    refine evTs_pure hFnq H (fun _ h => f56_ok h) (by rfl) (by rfl) (by rfl) (by rfl) (fun _ => rfl) ?_ <;> clear H <;> intro r_729 H
    try simp only [eL, eNetworkPacket, ↓wk, ↓wl, nq, evV, ↓reduceIte, sevalprocAttr]
    refine evTs_pure hFnq H (fun _ h => f24_ok h) (by rfl) (by rfl) (by rfl) (by rfl) (fun _ => rfl) ?_ <;> clear H <;> intro r_730 H
    try simp only [eL, eReceiverReceiver, ↓wk, ↓wl, nq, evV, ↓reduceIte, sevalprocAttr]
    refine AW.sseq ?_
    refine AW.rseq ?_
    try simp only [↓wk, ↓wl, nq, evV, ↓reduceIte, sevalprocAttr]
    refine evTs_ifg H (by rfl) ?_ ?_ <;> clear H <;> intro H
    ·try simp only [↓wk, ↓wl, nq, evV, ↓reduceIte, sevalprocAttr]
     refine AW.ift (by rfl) ?_
     refine AW.rseq ?_
     try simp only [↓wk, ↓wl, nq, evV, ↓reduceIte, sevalprocAttr]
     refine AW.ret ?_
     refine seqQ.ret ?_
     cases H
     exact hQ _ _ _ _ (.inr rfl) (by simp only [resVs, omap, resV, ↓wk, ↓wl, nq, evV, ↓reduceIte, sevalprocAttr]; rfl) (hand_plain (by rfl)) (by first | exact Or.inl rfl | exact Or.inr rfl)
    ·try simp only [↓wk, ↓wl, nq, evV, ↓reduceIte, sevalprocAttr]
     refine evTs_ifg H (by rfl) ?_ ?_ <;> clear H <;> intro H
     ·try simp only [↓wk, ↓wl, nq, evV, ↓reduceIte, sevalprocAttr]
      refine AW.ift (by rfl) ?_
      refine AW.rseq ?_
      try simp only [↓wk, ↓wl, nq, evV, ↓reduceIte, sevalprocAttr]
      refine AW.ret ?_
      refine seqQ.ret ?_
      cases H
      exact hQ _ _ _ _ (.inr rfl) (by simp only [resVs, omap, resV, ↓wk, ↓wl, nq, evV, ↓reduceIte, sevalprocAttr]; rfl) (hand_plain (by rfl)) (by first | exact Or.inl rfl | exact Or.inr rfl)
     ·try simp only [↓wk, ↓wl, nq, evV, ↓reduceIte, sevalprocAttr]
      refine evTs_pure hFn H (fun _ h => f57_ok h) (by rfl) (by rfl) (by rfl) (by rfl) (fun _ => rfl) ?_ <;> clear H <;> intro r_733 H
      try simp only [eL, ↓wk, ↓wl, nq, evV, ↓reduceIte, sevalprocAttr]
      refine evTs_ifg H (by rfl) ?_ ?_ <;> clear H <;> intro H
      ·try simp only [↓wk, ↓wl, nq, evV, ↓reduceIte, sevalprocAttr]
       refine AW.ift (by rfl) ?_
       refine AW.rseq ?_
       try simp only [↓wk, ↓wl, nq, evV, ↓reduceIte, sevalprocAttr]
       refine AW.ret ?_
       refine seqQ.ret ?_
       cases H
       exact hQ _ _ _ _ (.inr rfl) (by simp only [resVs, omap, resV, ↓wk, ↓wl, nq, evV, ↓reduceIte, sevalprocAttr]; rfl) (hand_plain (by rfl)) (by first | exact Or.inl rfl | exact Or.inr rfl)
      ·try simp only [↓wk, ↓wl, nq, evV, ↓reduceIte, sevalprocAttr]
       refine evTs_pure hFn H (fun _ h => f57_ok h) (by rfl) (by rfl) (by rfl) (by rfl) (fun _ => rfl) ?_ <;> clear H <;> intro r_734 H
       try simp only [eL, ↓wk, ↓wl, nq, evV, ↓reduceIte, sevalprocAttr]
       refine AW.ifc H (by rfl) ?_ ?_ <;> clear H <;> intro H
       ·refine AW.rseq ?_
        try simp only [↓wk, ↓wl, nq, evV, ↓reduceIte, sevalprocAttr]
        refine AW.ret ?_
        refine seqQ.ret ?_
        cases H
        exact hQ _ _ _ _ (.inr rfl) (by simp only [resVs, omap, resV, ↓wk, ↓wl, nq, evV, ↓reduceIte, sevalprocAttr]; rfl) (hand_plain (by rfl)) (by first | exact Or.inl rfl | exact Or.inr rfl)
       ·refine AW.skip ?_
        refine seqQ.norm ?_
        refine AW.join (f15_J1 r_730) H ?_ fun hf15_J1 => ?_
        ·clear H
         rintro ⟨e_737, late_738⟩ st0_ H hst_
         rw [f15_J1c] at hst_
         simp only [f15_J1] at H
         subst hst_
         refine AW.join (f15_J2 e_737 late_738 r_730) H ?_ fun hf15_J2 => ?_
         ·clear H
          rintro ⟨far_741, f_742⟩ st0_ H hst_
          rw [f15_J2c] at hst_
          simp only [f15_J2] at H
          subst hst_
          refine AW.sseq ?_
          refine AW.rseq ?_
          try simp only [↓wk, ↓wl, nq, evV, ↓reduceIte, sevalprocAttr]
          refine evTs_ifg H (by rfl) ?_ ?_ <;> clear H <;> intro H
          ·try simp only [↓wk, ↓wl, nq, evV, ↓reduceIte, sevalprocAttr]
           refine AW.ift (by rfl) ?_
           refine AW.rseq ?_
           try simp only [↓wk, ↓wl, nq, evV, ↓reduceIte, sevalprocAttr]
           refine AW.ret ?_
           refine seqQ.ret ?_
           cases H
           exact hQ _ _ _ _ (.inr rfl) (by simp only [resVs, omap, resV, ↓wk, ↓wl, nq, evV, ↓reduceIte, sevalprocAttr]; rfl) (hand_plain (by rfl)) (by first | exact Or.inl rfl | exact Or.inr rfl)
          ·try simp only [↓wk, ↓wl, nq, evV, ↓reduceIte, sevalprocAttr]
           refine evTs_ifg H (by rfl) ?_ ?_ <;> clear H <;> intro H
           ·try simp only [↓wk, ↓wl, nq, evV, ↓reduceIte, sevalprocAttr]
            refine AW.ift (by rfl) ?_
            refine AW.rseq ?_
            try simp only [↓wk, ↓wl, nq, evV, ↓reduceIte, sevalprocAttr]
            refine AW.ret ?_
            refine seqQ.ret ?_
            cases H
            exact hQ _ _ _ _ (.inr rfl) (by simp only [resVs, omap, resV, ↓wk, ↓wl, nq, evV, ↓reduceIte, sevalprocAttr]; rfl) (hand_plain (by rfl)) (by first | exact Or.inl rfl | exact Or.inr rfl)
           ·try simp only [↓wk, ↓wl, nq, evV, ↓reduceIte, sevalprocAttr]
            refine AW.ifc H (by rfl) ?_ ?_ <;> clear H <;> intro H
            ·refine AW.rseq ?_
             try simp only [↓wk, ↓wl, nq, evV, ↓reduceIte, sevalprocAttr]
             refine AW.ret ?_
             refine seqQ.ret ?_
             cases H
             exact hQ _ _ _ _ (.inr rfl) (by simp only [resVs, omap, resV, ↓wk, ↓wl, nq, evV, ↓reduceIte, sevalprocAttr]; rfl) (hand_plain (by rfl)) (by first | exact Or.inl rfl | exact Or.inr rfl)
            ·refine AW.skip ?_
             refine seqQ.norm ?_
             refine AW.rseq ?_
             try simp only [↓wk, ↓wl, nq, evV, ↓reduceIte, sevalprocAttr]
             refine evTs_pure hFn H (fun _ h => f56_ok h) (by rfl) (by rfl) (by rfl) (by rfl) (fun _ => rfl) ?_ <;> clear H <;> intro r_743 H
             try simp only [eL, eNetworkPacket, ↓wk, ↓wl, nq, evV, ↓reduceIte, sevalprocAttr]
             refine evTs_pure hFn H (fun _ h => f56_ok h) (by rfl) (by rfl) (by rfl) (by rfl) (fun _ => rfl) ?_ <;> clear H <;> intro r_744 H
             try simp only [eL, eNetworkPacket, ↓wk, ↓wl, nq, evV, ↓reduceIte, sevalprocAttr]
             refine AW.rseq ?_
             try simp only [↓wk, ↓wl, nq, evV, ↓reduceIte, sevalprocAttr]
             refine AW.rseq ?_
             try simp only [↓wk, ↓wl, nq, evV, ↓reduceIte, sevalprocAttr]
             refine evTs_pure hFn H (fun _ h => f24_ok h) (by rfl) (by rfl) (by rfl) (by rfl) (fun _ => rfl) ?_ <;> clear H <;> intro r_745 H
             try simp only [eL, eReceiverReceiver, ↓wk, ↓wl, nq, evV, ↓reduceIte, sevalprocAttr]
             refine AW.rseq ?_
             try simp only [↓wk, ↓wl, nq, evV, ↓reduceIte, sevalprocAttr]
             refine evTs_pure hFn H (fun _ h => f30_im h) (by rfl) (by rfl) (by rfl) (by rfl) (fun _ => rfl) ?_ <;> clear H <;> intro r_746 H
             try simp only [eL, ↓wk, ↓wl, nq, evV, ↓reduceIte, sevalprocAttr]
             refine AW.rseq ?_
             try simp only [↓wk, ↓wl, nq, evV, ↓reduceIte, sevalprocAttr]
             refine evTs_pure hFn H (fun _ h => f16_ok h) (by rfl) (by rfl) (by rfl) (by rfl) (fun _ => rfl) ?_ <;> clear H <;> intro r_747 H
             try simp only [eL, eReceiverReceiver, ↓wk, ↓wl, nq, evV, ↓reduceIte, sevalprocAttr]
             refine AW.rseq ?_
             try simp only [↓wk, ↓wl, nq, evV, ↓reduceIte, sevalprocAttr]
             refine evTs_pure hFn H (fun _ h => f30_im h) (by rfl) (by rfl) (by rfl) (by rfl) (fun _ => rfl) ?_ <;> clear H <;> intro r_748 H
             try simp only [eL, ↓wk, ↓wl, nq, evV, ↓reduceIte, sevalprocAttr]
             refine AW.rseq ?_
             try simp only [↓wk, ↓wl, nq, evV, ↓reduceIte, sevalprocAttr]
             refine evTs_ifg H (by rfl) ?_ ?_ <;> clear H <;> intro H
             ·try simp only [↓wk, ↓wl, nq, evV, ↓reduceIte, sevalprocAttr]
              refine evTs_ifg H (by rfl) ?_ ?_ <;> clear H <;> intro H
              ·try simp only [↓wk, ↓wl, nq, evV, ↓reduceIte, sevalprocAttr]
               refine evTs_ifg H (by rfl) ?_ ?_ <;> clear H <;> intro H
               ·try simp only [↓wk, ↓wl, nq, evV, ↓reduceIte, sevalprocAttr]
                refine evTs_ifg H (by rfl) ?_ ?_ <;> clear H <;> intro H
                ·try simp only [↓wk, ↓wl, nq, evV, ↓reduceIte, sevalprocAttr]
                 refine AW.ret ?_
                 cases H
                 exact hQ _ _ _ _ (.inr rfl) (by simp only [resVs, omap, resV, ↓wk, ↓wl, nq, evV, ↓reduceIte, sevalprocAttr]; rfl) (hand_plain (by rfl)) (by first | exact Or.inl rfl | exact Or.inr rfl)
                ·try simp only [↓wk, ↓wl, nq, evV, ↓reduceIte, sevalprocAttr]
                 refine AW.ret ?_
                 cases H
                 exact hQ _ _ _ _ (.inr rfl) (by simp only [resVs, omap, resV, ↓wk, ↓wl, nq, evV, ↓reduceIte, sevalprocAttr]; rfl) (hand_plain (by rfl)) (by first | exact Or.inl rfl | exact Or.inr rfl)
               ·try simp only [↓wk, ↓wl, nq, evV, ↓reduceIte, sevalprocAttr]
                refine AW.ret ?_
                cases H
                exact hQ _ _ _ _ (.inr rfl) (by simp only [resVs, omap, resV, ↓wk, ↓wl, nq, evV, ↓reduceIte, sevalprocAttr]; rfl) (hand_plain (by rfl)) (by first | exact Or.inl rfl | exact Or.inr rfl)
              ·try simp only [↓wk, ↓wl, nq, evV, ↓reduceIte, sevalprocAttr]
               refine AW.ret ?_
               cases H
               exact hQ _ _ _ _ (.inr rfl) (by simp only [resVs, omap, resV, ↓wk, ↓wl, nq, evV, ↓reduceIte, sevalprocAttr]; rfl) (hand_plain (by rfl)) (by first | exact Or.inl rfl | exact Or.inr rfl)
             ·try simp only [↓wk, ↓wl, nq, evV, ↓reduceIte, sevalprocAttr]
              refine AW.ret ?_
              cases H
              exact hQ _ _ _ _ (.inr rfl) (by simp only [resVs, omap, resV, ↓wk, ↓wl, nq, evV, ↓reduceIte, sevalprocAttr]; rfl) (hand_plain (by rfl)) (by first | exact Or.inl rfl | exact Or.inr rfl)
         ·refine AW.regt ?_
          refine evR.fork ?_
          try simp only [↓wk, ↓wl, nq, evV, ↓reduceIte, sevalprocAttr]
          refine evR.both ?_ ?_
          ·refine evR.fork ?_
           try simp only [↓wk, ↓wl, nq, evV, ↓reduceIte, sevalprocAttr]
           refine evTs_pure hFnq H (fun _ h => f56_ok h) (by rfl) (by rfl) (by rfl) (by rfl) (fun _ => rfl) ?_ <;> clear H <;> intro r_749 H
           try simp only [eL, eNetworkPacket, ↓wk, ↓wl, nq, evV, ↓reduceIte, sevalprocAttr]
           refine evR.both ?_ ?_
           ·refine evR.run ?_
            try simp only [↓wk, ↓wl, nq, evV, ↓reduceIte, sevalprocAttr]
            refine evTs_pure hFnq H (fun _ h => f16_ok h) (by rfl) (by rfl) (by rfl) (by rfl) (fun _ => rfl) ?_ <;> clear H <;> intro r_750 H
            try simp only [eL, eReceiverReceiver, ↓wk, ↓wl, nq, evV, ↓reduceIte, sevalprocAttr]
            refine seqQ.norm ?_
            exact hf15_J2 _ _ H ((Le.none [0] [1, 3, 6, 8, 9] (by decide) (by simp only [f15_J2c, rrl, Option.map_some, vm, List.idxOf?_cons, List.idxOf?_nil, beq_self_eq_true, Option.map_none, List.getD_cons_zero, List.getD_cons_succ, ↓wk, ↓wl, nq, evV, ↓reduceIte, sevalprocAttr] <;> rfl)))
           ·refine evR.run ?_
            try simp only [↓wk, ↓wl, nq, evV, ↓reduceIte, sevalprocAttr]
            refine evTs_pure hFnq H (fun _ h => f16_ok h) (by rfl) (by rfl) (by rfl) (by rfl) (fun _ => rfl) ?_ <;> clear H <;> intro r_750 H
            try simp only [eL, eReceiverReceiver, ↓wk, ↓wl, nq, evV, ↓reduceIte, sevalprocAttr]
            refine seqQ.norm ?_
            exact hf15_J2 _ _ H ((Le.none [0] [1, 3, 6, 8, 9] (by decide) (by simp only [f15_J2c, rrl, Option.map_some, vm, List.idxOf?_cons, List.idxOf?_nil, beq_self_eq_true, Option.map_none, List.getD_cons_zero, List.getD_cons_succ, ↓wk, ↓wl, nq, evV, ↓reduceIte, sevalprocAttr] <;> rfl)))
          ·refine evR.run ?_
           try simp only [↓wk, ↓wl, nq, evV, ↓reduceIte, sevalprocAttr]
           refine evTs_pure hFnq H (fun _ h => f56_ok h) (by rfl) (by rfl) (by rfl) (by rfl) (fun _ => rfl) ?_ <;> clear H <;> intro r_749 H
           try simp only [eL, eNetworkPacket, ↓wk, ↓wl, nq, evV, ↓reduceIte, sevalprocAttr]
           refine evTs_pure hFnq H (fun _ h => f16_ok h) (by rfl) (by rfl) (by rfl) (by rfl) (fun _ => rfl) ?_ <;> clear H <;> intro r_750 H
           try simp only [eL, eReceiverReceiver, ↓wk, ↓wl, nq, evV, ↓reduceIte, sevalprocAttr]
           refine seqQ.norm ?_
           exact hf15_J2 _ _ H ((Le.none [0] [1, 3, 6, 8, 9] (by decide) (by simp only [f15_J2c, rrl, Option.map_some, vm, List.idxOf?_cons, List.idxOf?_nil, beq_self_eq_true, Option.map_none, List.getD_cons_zero, List.getD_cons_succ, ↓wk, ↓wl, nq, evV, ↓reduceIte, sevalprocAttr] <;> rfl)))
        ·refine AW.regt ?_
         refine evR.fork ?_
         try simp only [↓wk, ↓wl, nq, evV, ↓reduceIte, sevalprocAttr]
         refine evR.both ?_ ?_
         ·refine evR.fork ?_
          try simp only [↓wk, ↓wl, nq, evV, ↓reduceIte, sevalprocAttr]
          refine evTs_pure hFnq H (fun _ h => f56_ok h) (by rfl) (by rfl) (by rfl) (by rfl) (fun _ => rfl) ?_ <;> clear H <;> intro r_751 H
          try simp only [eL, eNetworkPacket, ↓wk, ↓wl, nq, evV, ↓reduceIte, sevalprocAttr]
          refine evR.both ?_ ?_
          ·refine evR.run ?_
           try simp only [↓wk, ↓wl, nq, evV, ↓reduceIte, sevalprocAttr]
           refine evTs_pure hFnq H (fun _ h => f16_ok h) (by rfl) (by rfl) (by rfl) (by rfl) (fun _ => rfl) ?_ <;> clear H <;> intro r_752 H
           try simp only [eL, eReceiverReceiver, ↓wk, ↓wl, nq, evV, ↓reduceIte, sevalprocAttr]
           refine seqQ.norm ?_
           exact hf15_J1 _ _ H ((Le.none [0] [1, 3, 6] (by decide) (by simp only [f15_J1c, rrl, Option.map_some, vm, List.idxOf?_cons, List.idxOf?_nil, beq_self_eq_true, Option.map_none, List.getD_cons_zero, List.getD_cons_succ, ↓wk, ↓wl, nq, evV, ↓reduceIte, sevalprocAttr] <;> rfl)))
          ·refine evR.run ?_
           try simp only [↓wk, ↓wl, nq, evV, ↓reduceIte, sevalprocAttr]
           refine evTs_pure hFnq H (fun _ h => f16_ok h) (by rfl) (by rfl) (by rfl) (by rfl) (fun _ => rfl) ?_ <;> clear H <;> intro r_752 H
           try simp only [eL, eReceiverReceiver, ↓wk, ↓wl, nq, evV, ↓reduceIte, sevalprocAttr]
           refine seqQ.norm ?_
           exact hf15_J1 _ _ H ((Le.none [0] [1, 3, 6] (by decide) (by simp only [f15_J1c, rrl, Option.map_some, vm, List.idxOf?_cons, List.idxOf?_nil, beq_self_eq_true, Option.map_none, List.getD_cons_zero, List.getD_cons_succ, ↓wk, ↓wl, nq, evV, ↓reduceIte, sevalprocAttr] <;> rfl)))
         ·refine evR.run ?_
          try simp only [↓wk, ↓wl, nq, evV, ↓reduceIte, sevalprocAttr]
          refine evTs_pure hFnq H (fun _ h => f56_ok h) (by rfl) (by rfl) (by rfl) (by rfl) (fun _ => rfl) ?_ <;> clear H <;> intro r_751 H
          try simp only [eL, eNetworkPacket, ↓wk, ↓wl, nq, evV, ↓reduceIte, sevalprocAttr]
          refine evTs_pure hFnq H (fun _ h => f16_ok h) (by rfl) (by rfl) (by rfl) (by rfl) (fun _ => rfl) ?_ <;> clear H <;> intro r_752 H
          try simp only [eL, eReceiverReceiver, ↓wk, ↓wl, nq, evV, ↓reduceIte, sevalprocAttr]
          refine seqQ.norm ?_
          exact hf15_J1 _ _ H ((Le.none [0] [1, 3, 6] (by decide) (by simp only [f15_J1c, rrl, Option.map_some, vm, List.idxOf?_cons, List.idxOf?_nil, beq_self_eq_true, Option.map_none, List.getD_cons_zero, List.getD_cons_succ, ↓wk, ↓wl, nq, evV, ↓reduceIte, sevalprocAttr] <;> rfl)))
end Go.Proofs.Ytgfohogbechkkaa
