import Derived.Test.YtccipmhffapcmaaX1
import Derived.Test.YtccipmhffapcmaaProg
import Derived.KernelRfl
namespace Go.Proofs.Ytccipmhffapcmaa
open Go Go.Ab

set_option maxHeartbeats 1000000
set_option linter.unusedSimpArgs false
set_option linter.unusedVariables false
theorem f6_ok {l_250 : (List ApiGroup)} {g_251 : ApiGroup} {r_ : Bool} (H : f6 l_250 g_251 = some r_) : Pure Try.prog 6 [.sl 2 false (l_250.map eApiGroup), .agg [.int .i64 g_251.fNumber, .sl 0 false (g_251.fChannels.map (AV.int .i64))]] (· = .bool r_) := by
  refine Pure.walk2 fd6 none (Nat.le_of_ble_eq_true rfl) (by rfl) fun Q hQ => ?_
  simp only [f6] at H
  refine AW.rseq ?_
  try simp only [↓wk, ↓wl, nc, evV, wrapBits_eq, ↓reduceIte, Nat.reduceEqDiff, Nat.reduceAdd, Nat.reduceSub, Nat.reduceLeDiff, Nat.reduceLT, Nat.reduceBEq, reduceCtorEq, Int.reduceEq]
  refine AW.sseq ?_
  refine AW.rseq ?_
  try simp only [↓wk, ↓wl, nc, evV, wrapBits_eq, ↓reduceIte, Nat.reduceEqDiff, Nat.reduceAdd, Nat.reduceSub, Nat.reduceLeDiff, Nat.reduceLT, Nat.reduceBEq, reduceCtorEq, Int.reduceEq]
  refine evTs_pure hFn H (fun _ h => f17_ok h) (by rfl) (by rfl) (by rfl) (by rfl) (fun _ => rfl) ?_ <;> clear H <;> intro r_267 H
  try simp only [eL, ↓wk, ↓wl, nc, evV, wrapBits_eq, ↓reduceIte, Nat.reduceEqDiff, Nat.reduceAdd, Nat.reduceSub, Nat.reduceLeDiff, Nat.reduceLT, Nat.reduceBEq, reduceCtorEq, Int.reduceEq]
  refine evTs_ifg H (by rfl) ?_ ?_ <;> clear H <;> intro H
  · try simp only [↓wk, ↓wl, nc, evV, wrapBits_eq, ↓reduceIte, Nat.reduceEqDiff, Nat.reduceAdd, Nat.reduceSub, Nat.reduceLeDiff, Nat.reduceLT, Nat.reduceBEq, reduceCtorEq, Int.reduceEq]
    refine AW.ift (by rfl) ?_
    refine AW.rseq ?_
    try simp only [↓wk, ↓wl, nc, evV, wrapBits_eq, ↓reduceIte, Nat.reduceEqDiff, Nat.reduceAdd, Nat.reduceSub, Nat.reduceLeDiff, Nat.reduceLT, Nat.reduceBEq, reduceCtorEq, Int.reduceEq]
    refine evTs_pure hFn H (fun _ h => f15_ok h) (by rfl) (by rfl) (by rfl) (by rfl) (fun _ => rfl) ?_ <;> clear H <;> intro r_268 H
    try simp only [eL, ↓wk, ↓wl, nc, evV, wrapBits_eq, ↓reduceIte, Nat.reduceEqDiff, Nat.reduceAdd, Nat.reduceSub, Nat.reduceLeDiff, Nat.reduceLT, Nat.reduceBEq, reduceCtorEq, Int.reduceEq]
    refine AW.ret ?_
    refine seqQ.ret ?_
    cases H
    exact hQ _ _ _ _ (.inr rfl) (by simp only [resVs, omap, resV, ↓wk, ↓wl, nc, evV, wrapBits_eq, ↓reduceIte, Nat.reduceEqDiff, Nat.reduceAdd, Nat.reduceSub, Nat.reduceLeDiff, Nat.reduceLT, Nat.reduceBEq, reduceCtorEq, Int.reduceEq]; rfl) (hand_plain (by rfl)) (by rfl)
  · try simp only [↓wk, ↓wl, nc, evV, wrapBits_eq, ↓reduceIte, Nat.reduceEqDiff, Nat.reduceAdd, Nat.reduceSub, Nat.reduceLeDiff, Nat.reduceLT, Nat.reduceBEq, reduceCtorEq, Int.reduceEq]
    refine evTs_pure hFn H (fun _ h => f17_ok h) (by rfl) (by rfl) (by rfl) (by rfl) (fun _ => rfl) ?_ <;> clear H <;> intro r_269 H
    try simp only [eL, ↓wk, ↓wl, nc, evV, wrapBits_eq, ↓reduceIte, Nat.reduceEqDiff, Nat.reduceAdd, Nat.reduceSub, Nat.reduceLeDiff, Nat.reduceLT, Nat.reduceBEq, reduceCtorEq, Int.reduceEq]
    refine AW.ifc H (by rfl) ?_ ?_ <;> clear H <;> intro H
    · refine AW.rseq ?_
      try simp only [↓wk, ↓wl, nc, evV, wrapBits_eq, ↓reduceIte, Nat.reduceEqDiff, Nat.reduceAdd, Nat.reduceSub, Nat.reduceLeDiff, Nat.reduceLT, Nat.reduceBEq, reduceCtorEq, Int.reduceEq]
      refine evTs_pure hFn H (fun _ h => f15_ok h) (by rfl) (by rfl) (by rfl) (by rfl) (fun _ => rfl) ?_ <;> clear H <;> intro r_270 H
      try simp only [eL, ↓wk, ↓wl, nc, evV, wrapBits_eq, ↓reduceIte, Nat.reduceEqDiff, Nat.reduceAdd, Nat.reduceSub, Nat.reduceLeDiff, Nat.reduceLT, Nat.reduceBEq, reduceCtorEq, Int.reduceEq]
      refine AW.ret ?_
      refine seqQ.ret ?_
      cases H
      exact hQ _ _ _ _ (.inr rfl) (by simp only [resVs, omap, resV, ↓wk, ↓wl, nc, evV, wrapBits_eq, ↓reduceIte, Nat.reduceEqDiff, Nat.reduceAdd, Nat.reduceSub, Nat.reduceLeDiff, Nat.reduceLT, Nat.reduceBEq, reduceCtorEq, Int.reduceEq]; rfl) (hand_plain (by rfl)) (by rfl)
    · refine AW.skip ?_
      refine seqQ.norm ?_
      refine AW.sseq ?_
      refine AW.rseq ?_
      try simp only [↓wk, ↓wl, nc, evV, wrapBits_eq, ↓reduceIte, Nat.reduceEqDiff, Nat.reduceAdd, Nat.reduceSub, Nat.reduceLeDiff, Nat.reduceLT, Nat.reduceBEq, reduceCtorEq, Int.reduceEq]
      refine AW.bend ?_
      refine AW.iter H ((Le.none [0] [0, 3, 17, 18, 19] (by decide) (by simp only [f6_L1, List.length_set, Option.map_some, restrict_eq, renS_nil, renS_cons, renB_els, renB_cel, renB_dead, deep_eq, map_ren_enc, ren_agg', ren_tup', ren_fn', ren_int', ren_bool', ren_str', ren_sl', ren_pro', ren_nilp', ren_nilfn', ren_junk', ren_ptr', ren_row', ren_arow', ren_eptr', vm, List.idxOf?_cons, List.idxOf?_nil, beq_self_eq_true, Option.map_none, List.getD_cons_zero, List.getD_cons_succ, ↓wk, ↓wl, nc, evV, wrapBits_eq, ↓reduceIte, Nat.reduceEqDiff, Nat.reduceAdd, Nat.reduceSub, Nat.reduceLeDiff, Nat.reduceLT, Nat.reduceBEq, reduceCtorEq, Int.reduceEq]))) ?_ <;> clear H
      rintro v_307 x_ st0_ H hst_
      simp only [f6_L1] at H hst_
      subst hst_
      refine AW.rseq ?_
      try simp only [↓wk, ↓wl, nc, evV, wrapBits_eq, ↓reduceIte, Nat.reduceEqDiff, Nat.reduceAdd, Nat.reduceSub, Nat.reduceLeDiff, Nat.reduceLT, Nat.reduceBEq, reduceCtorEq, Int.reduceEq]
      refine AW.sseq ?_
      refine AW.ifc H (by rfl) ?_ ?_ <;> clear H <;> intro H
      · refine AW.skip ?_
        refine seqQ.norm ?_
        refine AW.bseq ?_
        refine AW.rseq ?_
        try simp only [↓wk, ↓wl, nc, evV, wrapBits_eq, ↓reduceIte, Nat.reduceEqDiff, Nat.reduceAdd, Nat.reduceSub, Nat.reduceLeDiff, Nat.reduceLT, Nat.reduceBEq, reduceCtorEq, Int.reduceEq]
        refine evTs_at (enc := eApiGroup) H (by rfl) (by rfl) ?_ <;> clear H <;> intro x_411 H
        try simp only [eApiGroup, eL, ↓wk, ↓wl, nc, evV, wrapBits_eq, ↓reduceIte, Nat.reduceEqDiff, Nat.reduceAdd, Nat.reduceSub, Nat.reduceLeDiff, Nat.reduceLT, Nat.reduceBEq, reduceCtorEq, Int.reduceEq]
        refine AW.rqseq ?_
        try simp only [↓wk, ↓wl, nc, evV, wrapBits_eq, ↓reduceIte, Nat.reduceEqDiff, Nat.reduceAdd, Nat.reduceSub, Nat.reduceLeDiff, Nat.reduceLT, Nat.reduceBEq, reduceCtorEq, Int.reduceEq]
        refine evTs_pure hFnq H (fun _ h => f18_ok h) (by rfl) (by rfl) (by rfl) (by rfl) (fun _ => rfl) ?_ <;> clear H <;> intro r_412 H
        try simp only [eL, ↓wk, ↓wl, nc, evV, wrapBits_eq, ↓reduceIte, Nat.reduceEqDiff, Nat.reduceAdd, Nat.reduceSub, Nat.reduceLeDiff, Nat.reduceLT, Nat.reduceBEq, reduceCtorEq, Int.reduceEq]
        refine evTs_pure hFnq H (fun _ h => f19_ok h) (by rfl) (by rfl) (by rfl) (by rfl) (fun _ => rfl) ?_ <;> clear H <;> intro r_413 H
        try simp only [eL, ↓wk, ↓wl, nc, evV, wrapBits_eq, ↓reduceIte, Nat.reduceEqDiff, Nat.reduceAdd, Nat.reduceSub, Nat.reduceLeDiff, Nat.reduceLT, Nat.reduceBEq, reduceCtorEq, Int.reduceEq]
        refine AW.ifc H (by rfl) ?_ ?_ <;> clear H <;> intro H
        · refine AW.rseq ?_
          try simp only [↓wk, ↓wl, nc, evV, wrapBits_eq, ↓reduceIte, Nat.reduceEqDiff, Nat.reduceAdd, Nat.reduceSub, Nat.reduceLeDiff, Nat.reduceLT, Nat.reduceBEq, reduceCtorEq, Int.reduceEq]
          refine AW.ret ?_
          refine blkQ.ret ?_
          refine loopQ.ret H ?_ <;> clear H <;> intro H
          try dsimp only at H
          refine blk0.ret ?_
          refine seqQ.ret ?_
          cases H
          exact hQ _ _ _ _ (.inr rfl) (by simp only [resVs, omap, resV, ↓wk, ↓wl, nc, evV, wrapBits_eq, ↓reduceIte, Nat.reduceEqDiff, Nat.reduceAdd, Nat.reduceSub, Nat.reduceLeDiff, Nat.reduceLT, Nat.reduceBEq, reduceCtorEq, Int.reduceEq]; rfl) (hand_plain (by rfl)) (by rfl)
        · refine AW.skip ?_
          refine blkQ.norm ?_
          refine AW.rend ?_
          try simp only [↓wk, ↓wl, nc, evV, wrapBits_eq, ↓reduceIte, Nat.reduceEqDiff, Nat.reduceAdd, Nat.reduceSub, Nat.reduceLeDiff, Nat.reduceLT, Nat.reduceBEq, reduceCtorEq, Int.reduceEq]
          exact loopQ.next H ((Le.none [0] [0, 3, 17, 18, 19] (by decide) (by simp only [f6_L1, List.length_set, Option.map_some, restrict_eq, renS_nil, renS_cons, renB_els, renB_cel, renB_dead, deep_eq, map_ren_enc, ren_agg', ren_tup', ren_fn', ren_int', ren_bool', ren_str', ren_sl', ren_pro', ren_nilp', ren_nilfn', ren_junk', ren_ptr', ren_row', ren_arow', ren_eptr', vm, List.idxOf?_cons, List.idxOf?_nil, beq_self_eq_true, Option.map_none, List.getD_cons_zero, List.getD_cons_succ, ↓wk, ↓wl, nc, evV, wrapBits_eq, ↓reduceIte, Nat.reduceEqDiff, Nat.reduceAdd, Nat.reduceSub, Nat.reduceLeDiff, Nat.reduceLT, Nat.reduceBEq, reduceCtorEq, Int.reduceEq])))
      · refine AW.exit ?_
        refine seqQ.exit ?_
        refine loopQ.exit H ?_ <;> clear H <;> intro H
        try dsimp only at H
        refine blk0.here ?_
        refine seqQ.norm ?_
        refine AW.rqseq ?_
        try simp only [↓wk, ↓wl, nc, evV, wrapBits_eq, ↓reduceIte, Nat.reduceEqDiff, Nat.reduceAdd, Nat.reduceSub, Nat.reduceLeDiff, Nat.reduceLT, Nat.reduceBEq, reduceCtorEq, Int.reduceEq]
        refine evTs_pure hFnq H (fun _ h => f15_ok h) (by rfl) (by rfl) (by rfl) (by rfl) (fun _ => rfl) ?_ <;> clear H <;> intro r_414 H
        try simp only [eL, ↓wk, ↓wl, nc, evV, wrapBits_eq, ↓reduceIte, Nat.reduceEqDiff, Nat.reduceAdd, Nat.reduceSub, Nat.reduceLeDiff, Nat.reduceLT, Nat.reduceBEq, reduceCtorEq, Int.reduceEq]
        refine evTs_ifg H (by rfl) ?_ ?_ <;> clear H <;> intro H
        · try simp only [↓wk, ↓wl, nc, evV, wrapBits_eq, ↓reduceIte, Nat.reduceEqDiff, Nat.reduceAdd, Nat.reduceSub, Nat.reduceLeDiff, Nat.reduceLT, Nat.reduceBEq, reduceCtorEq, Int.reduceEq]
          refine evTs_pure hFnq H (fun _ h => f20_ok h) (by rfl) (by rfl) (by rfl) (by rfl) (fun _ => rfl) ?_ <;> clear H <;> intro r_415 H
          try simp only [eL, ↓wk, ↓wl, nc, evV, wrapBits_eq, ↓reduceIte, Nat.reduceEqDiff, Nat.reduceAdd, Nat.reduceSub, Nat.reduceLeDiff, Nat.reduceLT, Nat.reduceBEq, reduceCtorEq, Int.reduceEq]
          refine evTs_pure hFnq H (fun _ h => f21_ok h) (by rfl) (by rfl) (by rfl) (by rfl) (fun _ => rfl) ?_ <;> clear H <;> intro r_416 H
          try simp only [eL, ↓wk, ↓wl, nc, evV, wrapBits_eq, ↓reduceIte, Nat.reduceEqDiff, Nat.reduceAdd, Nat.reduceSub, Nat.reduceLeDiff, Nat.reduceLT, Nat.reduceBEq, reduceCtorEq, Int.reduceEq]
          refine evTs_ifg H (by rfl) ?_ ?_ <;> clear H <;> intro H
          · try simp only [↓wk, ↓wl, nc, evV, wrapBits_eq, ↓reduceIte, Nat.reduceEqDiff, Nat.reduceAdd, Nat.reduceSub, Nat.reduceLeDiff, Nat.reduceLT, Nat.reduceBEq, reduceCtorEq, Int.reduceEq]
            refine evTs_pure hFnq H (fun _ h => f22_ok h) (by rfl) (by rfl) (by rfl) (by rfl) (fun _ => rfl) ?_ <;> clear H <;> intro r_417 H
            try simp only [eL, ↓wk, ↓wl, nc, evV, wrapBits_eq, ↓reduceIte, Nat.reduceEqDiff, Nat.reduceAdd, Nat.reduceSub, Nat.reduceLeDiff, Nat.reduceLT, Nat.reduceBEq, reduceCtorEq, Int.reduceEq]
            refine evTs_pure hFnq H (fun _ h => f23_ok h) (by rfl) (by rfl) (by rfl) (by rfl) (fun _ => rfl) ?_ <;> clear H <;> intro r_418 H
            try simp only [eL, ↓wk, ↓wl, nc, evV, wrapBits_eq, ↓reduceIte, Nat.reduceEqDiff, Nat.reduceAdd, Nat.reduceSub, Nat.reduceLeDiff, Nat.reduceLT, Nat.reduceBEq, reduceCtorEq, Int.reduceEq]
            refine evTs_ifg H (by rfl) ?_ ?_ <;> clear H <;> intro H
            · try simp only [↓wk, ↓wl, nc, evV, wrapBits_eq, ↓reduceIte, Nat.reduceEqDiff, Nat.reduceAdd, Nat.reduceSub, Nat.reduceLeDiff, Nat.reduceLT, Nat.reduceBEq, reduceCtorEq, Int.reduceEq]
              refine evTs_pure hFnq H (fun _ h => f18_ok h) (by rfl) (by rfl) (by rfl) (by rfl) (fun _ => rfl) ?_ <;> clear H <;> intro r_419 H
              try simp only [eL, ↓wk, ↓wl, nc, evV, wrapBits_eq, ↓reduceIte, Nat.reduceEqDiff, Nat.reduceAdd, Nat.reduceSub, Nat.reduceLeDiff, Nat.reduceLT, Nat.reduceBEq, reduceCtorEq, Int.reduceEq]
              refine AW.ret ?_
              cases H
              exact hQ _ _ _ _ (.inr rfl) (by simp only [resVs, omap, resV, ↓wk, ↓wl, nc, evV, wrapBits_eq, ↓reduceIte, Nat.reduceEqDiff, Nat.reduceAdd, Nat.reduceSub, Nat.reduceLeDiff, Nat.reduceLT, Nat.reduceBEq, reduceCtorEq, Int.reduceEq]; rfl) (hand_plain (by rfl)) (by rfl)
            · try simp only [↓wk, ↓wl, nc, evV, wrapBits_eq, ↓reduceIte, Nat.reduceEqDiff, Nat.reduceAdd, Nat.reduceSub, Nat.reduceLeDiff, Nat.reduceLT, Nat.reduceBEq, reduceCtorEq, Int.reduceEq]
              refine AW.ret ?_
              cases H
              exact hQ _ _ _ _ (.inr rfl) (by simp only [resVs, omap, resV, ↓wk, ↓wl, nc, evV, wrapBits_eq, ↓reduceIte, Nat.reduceEqDiff, Nat.reduceAdd, Nat.reduceSub, Nat.reduceLeDiff, Nat.reduceLT, Nat.reduceBEq, reduceCtorEq, Int.reduceEq]; rfl) (hand_plain (by rfl)) (by rfl)
          · try simp only [↓wk, ↓wl, nc, evV, wrapBits_eq, ↓reduceIte, Nat.reduceEqDiff, Nat.reduceAdd, Nat.reduceSub, Nat.reduceLeDiff, Nat.reduceLT, Nat.reduceBEq, reduceCtorEq, Int.reduceEq]
            refine AW.ret ?_
            cases H
            exact hQ _ _ _ _ (.inr rfl) (by simp only [resVs, omap, resV, ↓wk, ↓wl, nc, evV, wrapBits_eq, ↓reduceIte, Nat.reduceEqDiff, Nat.reduceAdd, Nat.reduceSub, Nat.reduceLeDiff, Nat.reduceLT, Nat.reduceBEq, reduceCtorEq, Int.reduceEq]; rfl) (hand_plain (by rfl)) (by rfl)
        · try simp only [↓wk, ↓wl, nc, evV, wrapBits_eq, ↓reduceIte, Nat.reduceEqDiff, Nat.reduceAdd, Nat.reduceSub, Nat.reduceLeDiff, Nat.reduceLT, Nat.reduceBEq, reduceCtorEq, Int.reduceEq]
          refine AW.ret ?_
          cases H
          exact hQ _ _ _ _ (.inr rfl) (by simp only [resVs, omap, resV, ↓wk, ↓wl, nc, evV, wrapBits_eq, ↓reduceIte, Nat.reduceEqDiff, Nat.reduceAdd, Nat.reduceSub, Nat.reduceLeDiff, Nat.reduceLT, Nat.reduceBEq, reduceCtorEq, Int.reduceEq]; rfl) (hand_plain (by rfl)) (by rfl)
def c49_0 : C := .seq (.reg [iI 3 (.faddr 0 (.t 1)), iI 4 (.load 0 (.t 3)), iI 2 (.mv (.t 4))]) .ret
def ir49 : C := .seq (.reg [iI 1 (.box (.t 0)), iI 2 (.mv (.c (.int .i64 0)))]) c49_0
theorem fd49 : fd? Try.prog 49 = some (5, [.slot 2], ir49) := by kernel_rfl
noncomputable def f49 (g_442 : ApiGroup) : Option (Int) :=
  (some g_442.fNumber)
theorem f49_ok {g_442 : ApiGroup} {r_ : Int} (H : f49 g_442 = some r_) : Pure Try.prog 49 [.agg [.int .i64 g_442.fNumber, .sl 0 false (g_442.fChannels.map (AV.int .i64))]] (· = .int .i64 r_) := by
  refine Pure.walk2 fd49 none (Nat.le_of_ble_eq_true rfl) (by rfl) fun Q hQ => ?_
  simp only [f49] at H
  refine AW.rseq ?_
  try simp only [↓wk, ↓wl, nc, evV, wrapBits_eq, ↓reduceIte, Nat.reduceEqDiff, Nat.reduceAdd, Nat.reduceSub, Nat.reduceLeDiff, Nat.reduceLT, Nat.reduceBEq, reduceCtorEq, Int.reduceEq]
  refine AW.rseq ?_
  try simp only [↓wk, ↓wl, nc, evV, wrapBits_eq, ↓reduceIte, Nat.reduceEqDiff, Nat.reduceAdd, Nat.reduceSub, Nat.reduceLeDiff, Nat.reduceLT, Nat.reduceBEq, reduceCtorEq, Int.reduceEq]
  refine AW.ret ?_
  cases H
  exact hQ _ _ _ _ (.inr rfl) (by simp only [resVs, omap, resV, ↓wk, ↓wl, nc, evV, wrapBits_eq, ↓reduceIte, Nat.reduceEqDiff, Nat.reduceAdd, Nat.reduceSub, Nat.reduceLeDiff, Nat.reduceLT, Nat.reduceBEq, reduceCtorEq, Int.reduceEq]; rfl) (hand_plain (by rfl)) (by rfl)
def c70_0 : C := .seq (.reg [iI 3 (.mv (.t 0)), iI 4 (.mv (.t 0)), iI 5 (.bin .neq (.t 3) (.t 4)), iI 2 (.mv (.t 5))]) .ret
def ir70 : C := .seq (.reg [iI 2 (.mv (.c (.bool false)))]) c70_0
theorem fd70 : fd? Try.prog 70 = some (6, [.slot 2], ir70) := by kernel_rfl
noncomputable def f70 (x_446 : Int) : Option (Bool) :=
  (some (decide (x_446 ≠ x_446)))
theorem f70_ok {x_446 : Int} {r_ : Bool} (H : f70 x_446 = some r_) : Pure Try.prog 70 [.int .i64 x_446] (· = .bool r_) := by
  refine Pure.walk2 fd70 none (Nat.le_of_ble_eq_true rfl) (by rfl) fun Q hQ => ?_
  simp only [f70] at H
  refine AW.rseq ?_
  try simp only [↓wk, ↓wl, nc, evV, wrapBits_eq, ↓reduceIte, Nat.reduceEqDiff, Nat.reduceAdd, Nat.reduceSub, Nat.reduceLeDiff, Nat.reduceLT, Nat.reduceBEq, reduceCtorEq, Int.reduceEq]
  refine AW.rseq ?_
  try simp only [↓wk, ↓wl, nc, evV, wrapBits_eq, ↓reduceIte, Nat.reduceEqDiff, Nat.reduceAdd, Nat.reduceSub, Nat.reduceLeDiff, Nat.reduceLT, Nat.reduceBEq, reduceCtorEq, Int.reduceEq]
  refine AW.ret ?_
  cases H
  exact hQ _ _ _ _ (.inr rfl) (by simp only [resVs, omap, resV, ↓wk, ↓wl, nc, evV, wrapBits_eq, ↓reduceIte, Nat.reduceEqDiff, Nat.reduceAdd, Nat.reduceSub, Nat.reduceLeDiff, Nat.reduceLT, Nat.reduceBEq, reduceCtorEq, Int.reduceEq]; rfl) (hand_plain (by rfl)) (by rfl)
def c64_0 : C := .cond (.t 12) (.seq (.reg [iI 4 (.mv (.c (.int .i64 0)))]) .ret) (.skip)
def c64_1 : C := .seq (.reg [iI 4 (.mv (.c (.int .i64 (-1))))]) .ret
def c64_2 : C := .cond (.t 11) (.seq (.seq (.reg [iI 12 (.mv (.t 6))]) c64_0) c64_1) (.skip)
def c64_3 : C := .cond (.t 13) (.seq (.reg [iI 4 (.mv (.c (.int .i64 1)))]) .ret) (.skip)
def c64_4 : C := .cond (.t 16) (.seq (.reg [iI 4 (.mv (.c (.int .i64 (-1))))]) .ret) (.skip)
def c64_5 : C := .cond (.t 19) (.seq (.reg [iI 4 (.mv (.c (.int .i64 1)))]) .ret) (.skip)
def c64_6 : C := .seq (.reg [iI 4 (.mv (.c (.int .i64 0)))]) .ret
def c64_7 : C := .seq (.seq (.reg [iI 17 (.mv (.t 0)), iI 18 (.mv (.t 1)), iI 19 (.bin .gtr (.t 17) (.t 18))]) c64_5) c64_6
def c64_8 : C := .seq (.seq (.reg [iI 14 (.mv (.t 0)), iI 15 (.mv (.t 1)), iI 16 (.bin .lss (.t 14) (.t 15))]) c64_4) c64_7
def c64_9 : C := .seq (.seq (.reg [iI 13 (.mv (.t 6))]) c64_3) c64_8
def c64_10 : C := .seq (.seq (.reg [iI 11 (.mv (.t 5))]) c64_2) c64_9
def c64_11 : C := .seq (.reg [iI 9 (.mv (.t 1)), iI 10 (.call (.c (.fn 70 [])) [(.t 9)]), iI 6 (.mv (.t 10))]) c64_10
def c64_12 : C := .seq (.reg [iI 7 (.mv (.t 0)), iI 8 (.call (.c (.fn 70 [])) [(.t 7)]), iI 5 (.mv (.t 8))]) c64_11
def ir64 : C := .seq (.reg [iI 4 (.mv (.c (.int .i64 0)))]) c64_12
theorem fd64 : fd? Try.prog 64 = some (20, [.slot 4], ir64) := by kernel_rfl
noncomputable def f64 (x_444 : Int) (y_445 : Int) : Option (Int) :=
  (f70 x_444).bind fun r_447 => (f70 y_445).bind fun r_448 => (if r_447 = true then (if r_448 = true then (some 0) else (some (-1))) else (if r_448 = true then (some 1) else (if (decide (x_444 < y_445)) = true then (some (-1)) else (if (decide (y_445 < x_444)) = true then (some 1) else (some 0)))))
theorem f64_ok {x_444 : Int} {y_445 : Int} {r_ : Int} (H : f64 x_444 y_445 = some r_) : Pure Try.prog 64 [.int .i64 x_444, .int .i64 y_445] (· = .int .i64 r_) := by
  refine Pure.walk2 fd64 none (Nat.le_of_ble_eq_true rfl) (by rfl) fun Q hQ => ?_
  simp only [f64] at H
  refine AW.rseq ?_
  try simp only [↓wk, ↓wl, nc, evV, wrapBits_eq, ↓reduceIte, Nat.reduceEqDiff, Nat.reduceAdd, Nat.reduceSub, Nat.reduceLeDiff, Nat.reduceLT, Nat.reduceBEq, reduceCtorEq, Int.reduceEq]
  refine AW.rseq ?_
  try simp only [↓wk, ↓wl, nc, evV, wrapBits_eq, ↓reduceIte, Nat.reduceEqDiff, Nat.reduceAdd, Nat.reduceSub, Nat.reduceLeDiff, Nat.reduceLT, Nat.reduceBEq, reduceCtorEq, Int.reduceEq]
  refine evTs_pure hFn H (fun _ h => f70_ok h) (by rfl) (by rfl) (by rfl) (by rfl) (fun _ => rfl) ?_ <;> clear H <;> intro r_447 H
  try simp only [eL, ↓wk, ↓wl, nc, evV, wrapBits_eq, ↓reduceIte, Nat.reduceEqDiff, Nat.reduceAdd, Nat.reduceSub, Nat.reduceLeDiff, Nat.reduceLT, Nat.reduceBEq, reduceCtorEq, Int.reduceEq]
  refine AW.rseq ?_
  try simp only [↓wk, ↓wl, nc, evV, wrapBits_eq, ↓reduceIte, Nat.reduceEqDiff, Nat.reduceAdd, Nat.reduceSub, Nat.reduceLeDiff, Nat.reduceLT, Nat.reduceBEq, reduceCtorEq, Int.reduceEq]
  refine evTs_pure hFn H (fun _ h => f70_ok h) (by rfl) (by rfl) (by rfl) (by rfl) (fun _ => rfl) ?_ <;> clear H <;> intro r_448 H
  try simp only [eL, ↓wk, ↓wl, nc, evV, wrapBits_eq, ↓reduceIte, Nat.reduceEqDiff, Nat.reduceAdd, Nat.reduceSub, Nat.reduceLeDiff, Nat.reduceLT, Nat.reduceBEq, reduceCtorEq, Int.reduceEq]
  refine AW.sseq ?_
  refine AW.rseq ?_
  try simp only [↓wk, ↓wl, nc, evV, wrapBits_eq, ↓reduceIte, Nat.reduceEqDiff, Nat.reduceAdd, Nat.reduceSub, Nat.reduceLeDiff, Nat.reduceLT, Nat.reduceBEq, reduceCtorEq, Int.reduceEq]
  refine AW.ifc H (by rfl) ?_ ?_ <;> clear H <;> intro H
  · refine AW.sseq ?_
    refine AW.rseq ?_
    try simp only [↓wk, ↓wl, nc, evV, wrapBits_eq, ↓reduceIte, Nat.reduceEqDiff, Nat.reduceAdd, Nat.reduceSub, Nat.reduceLeDiff, Nat.reduceLT, Nat.reduceBEq, reduceCtorEq, Int.reduceEq]
    refine AW.ifc H (by rfl) ?_ ?_ <;> clear H <;> intro H
    · refine AW.rseq ?_
      try simp only [↓wk, ↓wl, nc, evV, wrapBits_eq, ↓reduceIte, Nat.reduceEqDiff, Nat.reduceAdd, Nat.reduceSub, Nat.reduceLeDiff, Nat.reduceLT, Nat.reduceBEq, reduceCtorEq, Int.reduceEq]
      refine AW.ret ?_
      refine seqQ.ret ?_
      refine seqQ.ret ?_
      cases H
      exact hQ _ _ _ _ (.inr rfl) (by simp only [resVs, omap, resV, ↓wk, ↓wl, nc, evV, wrapBits_eq, ↓reduceIte, Nat.reduceEqDiff, Nat.reduceAdd, Nat.reduceSub, Nat.reduceLeDiff, Nat.reduceLT, Nat.reduceBEq, reduceCtorEq, Int.reduceEq]; rfl) (hand_plain (by rfl)) (by rfl)
    · refine AW.skip ?_
      refine seqQ.norm ?_
      refine AW.rseq ?_
      try simp only [↓wk, ↓wl, nc, evV, wrapBits_eq, ↓reduceIte, Nat.reduceEqDiff, Nat.reduceAdd, Nat.reduceSub, Nat.reduceLeDiff, Nat.reduceLT, Nat.reduceBEq, reduceCtorEq, Int.reduceEq]
      refine AW.ret ?_
      refine seqQ.ret ?_
      cases H
      exact hQ _ _ _ _ (.inr rfl) (by simp only [resVs, omap, resV, ↓wk, ↓wl, nc, evV, wrapBits_eq, ↓reduceIte, Nat.reduceEqDiff, Nat.reduceAdd, Nat.reduceSub, Nat.reduceLeDiff, Nat.reduceLT, Nat.reduceBEq, reduceCtorEq, Int.reduceEq]; rfl) (hand_plain (by rfl)) (by rfl)
  · refine AW.skip ?_
    refine seqQ.norm ?_
    refine AW.sseq ?_
    refine AW.rseq ?_
    try simp only [↓wk, ↓wl, nc, evV, wrapBits_eq, ↓reduceIte, Nat.reduceEqDiff, Nat.reduceAdd, Nat.reduceSub, Nat.reduceLeDiff, Nat.reduceLT, Nat.reduceBEq, reduceCtorEq, Int.reduceEq]
    refine AW.ifc H (by rfl) ?_ ?_ <;> clear H <;> intro H
    · refine AW.rseq ?_
      try simp only [↓wk, ↓wl, nc, evV, wrapBits_eq, ↓reduceIte, Nat.reduceEqDiff, Nat.reduceAdd, Nat.reduceSub, Nat.reduceLeDiff, Nat.reduceLT, Nat.reduceBEq, reduceCtorEq, Int.reduceEq]
      refine AW.ret ?_
      refine seqQ.ret ?_
      cases H
      exact hQ _ _ _ _ (.inr rfl) (by simp only [resVs, omap, resV, ↓wk, ↓wl, nc, evV, wrapBits_eq, ↓reduceIte, Nat.reduceEqDiff, Nat.reduceAdd, Nat.reduceSub, Nat.reduceLeDiff, Nat.reduceLT, Nat.reduceBEq, reduceCtorEq, Int.reduceEq]; rfl) (hand_plain (by rfl)) (by rfl)
    · refine AW.skip ?_
      refine seqQ.norm ?_
      refine AW.sseq ?_
      refine AW.rseq ?_
      try simp only [↓wk, ↓wl, nc, evV, wrapBits_eq, ↓reduceIte, Nat.reduceEqDiff, Nat.reduceAdd, Nat.reduceSub, Nat.reduceLeDiff, Nat.reduceLT, Nat.reduceBEq, reduceCtorEq, Int.reduceEq]
      refine AW.ifc H (by rfl) ?_ ?_ <;> clear H <;> intro H
      · refine AW.rseq ?_
        try simp only [↓wk, ↓wl, nc, evV, wrapBits_eq, ↓reduceIte, Nat.reduceEqDiff, Nat.reduceAdd, Nat.reduceSub, Nat.reduceLeDiff, Nat.reduceLT, Nat.reduceBEq, reduceCtorEq, Int.reduceEq]
        refine AW.ret ?_
        refine seqQ.ret ?_
        cases H
        exact hQ _ _ _ _ (.inr rfl) (by simp only [resVs, omap, resV, ↓wk, ↓wl, nc, evV, wrapBits_eq, ↓reduceIte, Nat.reduceEqDiff, Nat.reduceAdd, Nat.reduceSub, Nat.reduceLeDiff, Nat.reduceLT, Nat.reduceBEq, reduceCtorEq, Int.reduceEq]; rfl) (hand_plain (by rfl)) (by rfl)
      · refine AW.skip ?_
        refine seqQ.norm ?_
        refine AW.sseq ?_
        refine AW.rseq ?_
        try simp only [↓wk, ↓wl, nc, evV, wrapBits_eq, ↓reduceIte, Nat.reduceEqDiff, Nat.reduceAdd, Nat.reduceSub, Nat.reduceLeDiff, Nat.reduceLT, Nat.reduceBEq, reduceCtorEq, Int.reduceEq]
        refine AW.ifc H (by rfl) ?_ ?_ <;> clear H <;> intro H
        · refine AW.rseq ?_
          try simp only [↓wk, ↓wl, nc, evV, wrapBits_eq, ↓reduceIte, Nat.reduceEqDiff, Nat.reduceAdd, Nat.reduceSub, Nat.reduceLeDiff, Nat.reduceLT, Nat.reduceBEq, reduceCtorEq, Int.reduceEq]
          refine AW.ret ?_
          refine seqQ.ret ?_
          cases H
          exact hQ _ _ _ _ (.inr rfl) (by simp only [resVs, omap, resV, ↓wk, ↓wl, nc, evV, wrapBits_eq, ↓reduceIte, Nat.reduceEqDiff, Nat.reduceAdd, Nat.reduceSub, Nat.reduceLeDiff, Nat.reduceLT, Nat.reduceBEq, reduceCtorEq, Int.reduceEq]; rfl) (hand_plain (by rfl)) (by rfl)
        · refine AW.skip ?_
          refine seqQ.norm ?_
          refine AW.rseq ?_
          try simp only [↓wk, ↓wl, nc, evV, wrapBits_eq, ↓reduceIte, Nat.reduceEqDiff, Nat.reduceAdd, Nat.reduceSub, Nat.reduceLeDiff, Nat.reduceLT, Nat.reduceBEq, reduceCtorEq, Int.reduceEq]
          refine AW.ret ?_
          cases H
          exact hQ _ _ _ _ (.inr rfl) (by simp only [resVs, omap, resV, ↓wk, ↓wl, nc, evV, wrapBits_eq, ↓reduceIte, Nat.reduceEqDiff, Nat.reduceAdd, Nat.reduceSub, Nat.reduceLeDiff, Nat.reduceLT, Nat.reduceBEq, reduceCtorEq, Int.reduceEq]; rfl) (hand_plain (by rfl)) (by rfl)
def c63_0 : C := .seq (.reg [iI 6 (.load 0 (.t 2)), iI 7 (.load 2 (.t 3)), iI 8 (.call (.t 6) [(.t 7)]), iI 9 (.mv (.t 1)), iI 10 (.call (.c (.fn 64 [])) [(.t 8), (.t 9)]), iI 5 (.mv (.t 10))]) .ret
def ir63 : C := .seq (.reg [iI 3 (.box (.t 0)), iI 5 (.mv (.c (.int .i64 0)))]) c63_0
theorem fd63 : fd? Try.prog 63 = some (11, [.slot 5], ir63) := by kernel_rfl
noncomputable def f63p (x_440 : ApiGroup) (n_441 : Int) : Option (Int) :=
  (f49 x_440).bind fun r_443 => (f64 r_443 n_441).bind fun r_449 => (some r_449)
theorem f63p_ok {x_440 : ApiGroup} {n_441 : Int} {r_ : Int} (H : f63p x_440 n_441 = some r_) : Pure Try.prog 63 [.agg [.int .i64 x_440.fNumber, .sl 0 false (x_440.fChannels.map (AV.int .i64))], .int .i64 n_441, .pro [.fn 49 []]] (· = .int .i64 r_) := by
  refine Pure.walk2 fd63 none (Nat.le_of_ble_eq_true rfl) (by rfl) fun Q hQ => ?_
  simp only [f63p] at H
  refine AW.rseq ?_
  try simp only [↓wk, ↓wl, nc, evV, wrapBits_eq, ↓reduceIte, Nat.reduceEqDiff, Nat.reduceAdd, Nat.reduceSub, Nat.reduceLeDiff, Nat.reduceLT, Nat.reduceBEq, reduceCtorEq, Int.reduceEq]
  refine AW.rseq ?_
  try simp only [↓wk, ↓wl, nc, evV, wrapBits_eq, ↓reduceIte, Nat.reduceEqDiff, Nat.reduceAdd, Nat.reduceSub, Nat.reduceLeDiff, Nat.reduceLT, Nat.reduceBEq, reduceCtorEq, Int.reduceEq]
  refine evTs_pure hFn H (fun _ h => f49_ok h) (by rfl) (by rfl) (by rfl) (by rfl) (fun _ => rfl) ?_ <;> clear H <;> intro r_443 H
  try simp only [eL, ↓wk, ↓wl, nc, evV, wrapBits_eq, ↓reduceIte, Nat.reduceEqDiff, Nat.reduceAdd, Nat.reduceSub, Nat.reduceLeDiff, Nat.reduceLT, Nat.reduceBEq, reduceCtorEq, Int.reduceEq]
  refine evTs_pure hFn H (fun _ h => f64_ok h) (by rfl) (by rfl) (by rfl) (by rfl) (fun _ => rfl) ?_ <;> clear H <;> intro r_449 H
  try simp only [eL, ↓wk, ↓wl, nc, evV, wrapBits_eq, ↓reduceIte, Nat.reduceEqDiff, Nat.reduceAdd, Nat.reduceSub, Nat.reduceLeDiff, Nat.reduceLT, Nat.reduceBEq, reduceCtorEq, Int.reduceEq]
  refine AW.ret ?_
  cases H
  exact hQ _ _ _ _ (.inr rfl) (by simp only [resVs, omap, resV, ↓wk, ↓wl, nc, evV, wrapBits_eq, ↓reduceIte, Nat.reduceEqDiff, Nat.reduceAdd, Nat.reduceSub, Nat.reduceLeDiff, Nat.reduceLT, Nat.reduceBEq, reduceCtorEq, Int.reduceEq]; rfl) (hand_plain (by rfl)) (by rfl)
noncomputable def f62_63_L1 (x_437 : (List ApiGroup)) (target_438 : Int) : Lp (Int × Int) (Int) where
  body := fun (i_466, j_467) => (if (decide (i_466 < j_467)) = true then (at? x_437 (IntKind.i64.wrap (Int.fdiv (IntKind.u64.wrap (IntKind.i64.wrap (i_466 + j_467))) (2 ^ (min (Int.toNat 1) (IntKind.bits .u64)))))).bind fun x_475 => (f63p x_475 target_438).bind fun r_476 => (if (decide (r_476 < 0)) = true then (some (.next ((IntKind.i64.wrap ((IntKind.i64.wrap (Int.fdiv (IntKind.u64.wrap (IntKind.i64.wrap (i_466 + j_467))) (2 ^ (min (Int.toNat 1) (IntKind.bits .u64))))) + 1)), j_467))) else (some (.next (i_466, (IntKind.i64.wrap (Int.fdiv (IntKind.u64.wrap (IntKind.i64.wrap (i_466 + j_467))) (2 ^ (min (Int.toNat 1) (IntKind.bits .u64))))))))) else (some (.brk i_466)))
  cst := fun (i_466, j_467) => ⟨put (put (put (put (put (put (fun _ => .junk) 10 (.int .i64 j_467)) 9 (.int .i64 i_466)) 8 (.int .i64 ((x_437.length : Nat) : Int))) 2 (.fn 63 [.pro [.fn 49 []]])) 1 (.int .i64 target_438)) 0 (.sl 2 false (x_437.map eApiGroup)), []⟩
def c62_0 : C := .cond (.t 17) (.skip) (.exit 0)
def c62_1 : C := .cond (.t 31) (.reg [iI 32 (.mv (.t 11)), iI 33 (.bin .add (.t 32) (.c (.int .i64 1))), iI 9 (.mv (.t 33))]) (.reg [iI 34 (.mv (.t 11)), iI 10 (.mv (.t 34))])
def c62_2 : C := .seq (.reg [iI 24 (.mv (.t 2)), iI 25 (.mv (.t 0)), iI 26 (.mv (.t 11)), iI 27 (.iaddr 2 (.t 25) (.t 26)), iI 28 (.load 2 (.t 27)), iI 29 (.mv (.t 1)), iI 30 (.call (.t 24) [(.t 28), (.t 29)]), iI 31 (.bin .lss (.t 30) (.c (.int .i64 0)))]) c62_1
def c62_3 : C := .block 1 (.seq (.reg [iI 18 (.mv (.t 9)), iI 19 (.mv (.t 10)), iI 20 (.bin .add (.t 18) (.t 19)), iI 21 (.cint .u64 (.t 20)), iI 22 (.bin .shr (.t 21) (.c (.int .u64 1))), iI 23 (.cint .i64 (.t 22)), iI 11 (.mv (.t 23))]) c62_2)
def c62_4 : C := .seq (.reg [iI 35 (.mv (.t 9)), iI 36 (.mv (.t 9)), iI 37 (.mv (.t 8)), iI 38 (.bin .lss (.t 36) (.t 37)), iI 39 (.mv (.t 38)), iG (some 40) 39 true (.mv (.t 2)), iG (some 41) 39 true (.mv (.t 0)), iG (some 42) 39 true (.mv (.t 9)), iG (some 43) 39 true (.iaddr 2 (.t 41) (.t 42)), iG (some 44) 39 true (.load 2 (.t 43)), iG (some 45) 39 true (.mv (.t 1)), iG (some 46) 39 true (.call (.t 40) [(.t 44), (.t 45)]), iG (some 47) 39 true (.bin .eql (.t 46) (.c (.int .i64 0))), iI 48 (.pick (.t 39) (.t 47) (.c (.bool false))), iI 6 (.mv (.t 35)), iI 7 (.mv (.t 48))]) .ret
def c62_5 : C := .seq (.block 0 (.loop (.seq (.seq (.reg [iI 15 (.mv (.t 9)), iI 16 (.mv (.t 10)), iI 17 (.bin .lss (.t 15) (.t 16))]) c62_0) c62_3))) c62_4
def c62_6 : C := .seq (.reg [iI 14 (.mv (.t 8)), iI 9 (.mv (.c (.int .i64 0))), iI 10 (.mv (.t 14))]) c62_5
def c62_7 : C := .seq (.reg [iI 12 (.mv (.t 0)), iI 13 (.len 0 (.t 12)), iI 8 (.mv (.t 13))]) c62_6
def ir62 : C := .seq (.reg [iI 6 (.mv (.c (.int .i64 0))), iI 7 (.mv (.c (.bool false)))]) c62_7
theorem fd62 : fd? Try.prog 62 = some (49, [.slot 6, .slot 7], ir62) := by kernel_rfl
noncomputable def f62_63 (x_437 : (List ApiGroup)) (target_438 : Int) : Option (Int × Bool) :=
  (Lp.run (f62_63_L1 x_437 target_438) (0, ((x_437.length : Nat) : Int))).bind fun i_470 => (if (decide (i_470 < ((x_437.length : Nat) : Int))) = true then (at? x_437 i_470).bind fun x_471 => (f63p x_471 target_438).bind fun r_472 => (some (i_470, (decide (r_472 = 0)))) else (some (i_470, false)))
theorem f62_63_ok {x_437 : (List ApiGroup)} {target_438 : Int} {r_ : Int × Bool} (H : f62_63 x_437 target_438 = some r_) : Pure Try.prog 62 [.sl 2 false (x_437.map eApiGroup), .int .i64 target_438, .fn 63 [.pro [.fn 49 []]]] (· = .tup [.int .i64 r_.1, .bool r_.2]) := by
  refine Pure.walk2 fd62 none (Nat.le_of_ble_eq_true rfl) (by rfl) fun Q hQ => ?_
  simp only [f62_63] at H
  refine AW.rseq ?_
  try simp only [↓wk, ↓wl, nc, evV, wrapBits_eq, ↓reduceIte, Nat.reduceEqDiff, Nat.reduceAdd, Nat.reduceSub, Nat.reduceLeDiff, Nat.reduceLT, Nat.reduceBEq, reduceCtorEq, Int.reduceEq]
  refine AW.rseq ?_
  try simp only [↓wk, ↓wl, nc, evV, wrapBits_eq, ↓reduceIte, Nat.reduceEqDiff, Nat.reduceAdd, Nat.reduceSub, Nat.reduceLeDiff, Nat.reduceLT, Nat.reduceBEq, reduceCtorEq, Int.reduceEq]
  refine AW.rseq ?_
  try simp only [↓wk, ↓wl, nc, evV, wrapBits_eq, ↓reduceIte, Nat.reduceEqDiff, Nat.reduceAdd, Nat.reduceSub, Nat.reduceLeDiff, Nat.reduceLT, Nat.reduceBEq, reduceCtorEq, Int.reduceEq]
  refine AW.bseq ?_
  refine AW.iter H ((Le.none [] [0, 1, 2, 8, 9, 10] (by decide) (by simp only [f62_63_L1, List.length_set, Option.map_some, restrict_eq, renS_nil, renS_cons, renB_els, renB_cel, renB_dead, deep_eq, map_ren_enc, ren_agg', ren_tup', ren_fn', ren_int', ren_bool', ren_str', ren_sl', ren_pro', ren_nilp', ren_nilfn', ren_junk', ren_ptr', ren_row', ren_arow', ren_eptr', vm, List.idxOf?_cons, List.idxOf?_nil, beq_self_eq_true, Option.map_none, List.getD_cons_zero, List.getD_cons_succ, ↓wk, ↓wl, nc, evV, wrapBits_eq, ↓reduceIte, Nat.reduceEqDiff, Nat.reduceAdd, Nat.reduceSub, Nat.reduceLeDiff, Nat.reduceLT, Nat.reduceBEq, reduceCtorEq, Int.reduceEq]))) ?_ <;> clear H
  rintro ⟨i_466, j_467⟩ x_ st0_ H hst_
  simp only [f62_63_L1] at H hst_
  subst hst_
  refine AW.sseq ?_
  refine AW.rseq ?_
  try simp only [↓wk, ↓wl, nc, evV, wrapBits_eq, ↓reduceIte, Nat.reduceEqDiff, Nat.reduceAdd, Nat.reduceSub, Nat.reduceLeDiff, Nat.reduceLT, Nat.reduceBEq, reduceCtorEq, Int.reduceEq]
  refine AW.ifc H (by rfl) ?_ ?_ <;> clear H <;> intro H
  · refine AW.skip ?_
    refine seqQ.norm ?_
    refine AW.bend ?_
    refine AW.rseq ?_
    try simp only [↓wk, ↓wl, nc, evV, wrapBits_eq, ↓reduceIte, Nat.reduceEqDiff, Nat.reduceAdd, Nat.reduceSub, Nat.reduceLeDiff, Nat.reduceLT, Nat.reduceBEq, reduceCtorEq, Int.reduceEq]
    refine rest_shr (by decide) ?_
    try simp only [↓wk, ↓wl, nc, evV, wrapBits_eq, ↓reduceIte, Nat.reduceEqDiff, Nat.reduceAdd, Nat.reduceSub, Nat.reduceLeDiff, Nat.reduceLT, Nat.reduceBEq, reduceCtorEq, Int.reduceEq]
    refine AW.rseq ?_
    try simp only [↓wk, ↓wl, nc, evV, wrapBits_eq, ↓reduceIte, Nat.reduceEqDiff, Nat.reduceAdd, Nat.reduceSub, Nat.reduceLeDiff, Nat.reduceLT, Nat.reduceBEq, reduceCtorEq, Int.reduceEq]
    refine evTs_at (enc := eApiGroup) H (by rfl) (by rfl) ?_ <;> clear H <;> intro x_475 H
    try simp only [eApiGroup, eL, ↓wk, ↓wl, nc, evV, wrapBits_eq, ↓reduceIte, Nat.reduceEqDiff, Nat.reduceAdd, Nat.reduceSub, Nat.reduceLeDiff, Nat.reduceLT, Nat.reduceBEq, reduceCtorEq, Int.reduceEq]
    refine evTs_pure hFn H (fun _ h => f63p_ok h) (by rfl) (by rfl) (by rfl) (by rfl) (fun _ => rfl) ?_ <;> clear H <;> intro r_476 H
    try simp only [eL, ↓wk, ↓wl, nc, evV, wrapBits_eq, ↓reduceIte, Nat.reduceEqDiff, Nat.reduceAdd, Nat.reduceSub, Nat.reduceLeDiff, Nat.reduceLT, Nat.reduceBEq, reduceCtorEq, Int.reduceEq]
    refine AW.ifc H (by rfl) ?_ ?_ <;> clear H <;> intro H
    · refine AW.rend ?_
      try simp only [↓wk, ↓wl, nc, evV, wrapBits_eq, ↓reduceIte, Nat.reduceEqDiff, Nat.reduceAdd, Nat.reduceSub, Nat.reduceLeDiff, Nat.reduceLT, Nat.reduceBEq, reduceCtorEq, Int.reduceEq]
      refine blk0.norm ?_
      exact loopQ.next H ((Le.none [] [0, 1, 2, 8, 9, 10] (by decide) (by simp only [f62_63_L1, List.length_set, Option.map_some, restrict_eq, renS_nil, renS_cons, renB_els, renB_cel, renB_dead, deep_eq, map_ren_enc, ren_agg', ren_tup', ren_fn', ren_int', ren_bool', ren_str', ren_sl', ren_pro', ren_nilp', ren_nilfn', ren_junk', ren_ptr', ren_row', ren_arow', ren_eptr', vm, List.idxOf?_cons, List.idxOf?_nil, beq_self_eq_true, Option.map_none, List.getD_cons_zero, List.getD_cons_succ, ↓wk, ↓wl, nc, evV, wrapBits_eq, ↓reduceIte, Nat.reduceEqDiff, Nat.reduceAdd, Nat.reduceSub, Nat.reduceLeDiff, Nat.reduceLT, Nat.reduceBEq, reduceCtorEq, Int.reduceEq])))
    · refine AW.rend ?_
      try simp only [↓wk, ↓wl, nc, evV, wrapBits_eq, ↓reduceIte, Nat.reduceEqDiff, Nat.reduceAdd, Nat.reduceSub, Nat.reduceLeDiff, Nat.reduceLT, Nat.reduceBEq, reduceCtorEq, Int.reduceEq]
      refine blk0.norm ?_
      exact loopQ.next H ((Le.none [] [0, 1, 2, 8, 9, 10] (by decide) (by simp only [f62_63_L1, List.length_set, Option.map_some, restrict_eq, renS_nil, renS_cons, renB_els, renB_cel, renB_dead, deep_eq, map_ren_enc, ren_agg', ren_tup', ren_fn', ren_int', ren_bool', ren_str', ren_sl', ren_pro', ren_nilp', ren_nilfn', ren_junk', ren_ptr', ren_row', ren_arow', ren_eptr', vm, List.idxOf?_cons, List.idxOf?_nil, beq_self_eq_true, Option.map_none, List.getD_cons_zero, List.getD_cons_succ, ↓wk, ↓wl, nc, evV, wrapBits_eq, ↓reduceIte, Nat.reduceEqDiff, Nat.reduceAdd, Nat.reduceSub, Nat.reduceLeDiff, Nat.reduceLT, Nat.reduceBEq, reduceCtorEq, Int.reduceEq])))
  · refine AW.exit ?_
    refine seqQ.exit ?_
    refine loopQ.exit H ?_ <;> clear H <;> intro H
    try dsimp only at H
    refine blkQ.here ?_
    refine AW.rseq ?_
    try simp only [↓wk, ↓wl, nc, evV, wrapBits_eq, ↓reduceIte, Nat.reduceEqDiff, Nat.reduceAdd, Nat.reduceSub, Nat.reduceLeDiff, Nat.reduceLT, Nat.reduceBEq, reduceCtorEq, Int.reduceEq]
    refine evTs_ifg H (by rfl) ?_ ?_ <;> clear H <;> intro H
    · try simp only [↓wk, ↓wl, nc, evV, wrapBits_eq, ↓reduceIte, Nat.reduceEqDiff, Nat.reduceAdd, Nat.reduceSub, Nat.reduceLeDiff, Nat.reduceLT, Nat.reduceBEq, reduceCtorEq, Int.reduceEq]
      refine evTs_at (enc := eApiGroup) H (by rfl) (by rfl) ?_ <;> clear H <;> intro x_477 H
      try simp only [eApiGroup, eL, ↓wk, ↓wl, nc, evV, wrapBits_eq, ↓reduceIte, Nat.reduceEqDiff, Nat.reduceAdd, Nat.reduceSub, Nat.reduceLeDiff, Nat.reduceLT, Nat.reduceBEq, reduceCtorEq, Int.reduceEq]
      refine evTs_pure hFn H (fun _ h => f63p_ok h) (by rfl) (by rfl) (by rfl) (by rfl) (fun _ => rfl) ?_ <;> clear H <;> intro r_478 H
      try simp only [eL, ↓wk, ↓wl, nc, evV, wrapBits_eq, ↓reduceIte, Nat.reduceEqDiff, Nat.reduceAdd, Nat.reduceSub, Nat.reduceLeDiff, Nat.reduceLT, Nat.reduceBEq, reduceCtorEq, Int.reduceEq]
      refine AW.ret ?_
      cases H
      exact hQ _ _ _ _ (.inr rfl) (by simp only [resVs, omap, resV, ↓wk, ↓wl, nc, evV, wrapBits_eq, ↓reduceIte, Nat.reduceEqDiff, Nat.reduceAdd, Nat.reduceSub, Nat.reduceLeDiff, Nat.reduceLT, Nat.reduceBEq, reduceCtorEq, Int.reduceEq]; rfl) (hand_plain (by rfl)) (by rfl)
    · try simp only [↓wk, ↓wl, nc, evV, wrapBits_eq, ↓reduceIte, Nat.reduceEqDiff, Nat.reduceAdd, Nat.reduceSub, Nat.reduceLeDiff, Nat.reduceLT, Nat.reduceBEq, reduceCtorEq, Int.reduceEq]
      refine AW.ret ?_
      cases H
      exact hQ _ _ _ _ (.inr rfl) (by simp only [resVs, omap, resV, ↓wk, ↓wl, nc, evV, wrapBits_eq, ↓reduceIte, Nat.reduceEqDiff, Nat.reduceAdd, Nat.reduceSub, Nat.reduceLeDiff, Nat.reduceLT, Nat.reduceBEq, reduceCtorEq, Int.reduceEq]; rfl) (hand_plain (by rfl)) (by rfl)
def c48_0 : C := .seq (.reg [iI 8 (.mv (.t 0)), iI 9 (.mv (.t 2)), iI 10 (.mkfn 63 [(.t 4)]), iI 11 (.call (.c (.fn 62 [])) [(.t 8), (.t 9), (.t 10)]), iI 12 (.ext (.t 11) 0), iI 13 (.ext (.t 11) 1), iI 6 (.mv (.t 12)), iI 7 (.mv (.t 13))]) .ret
def ir48 : C := .seq (.reg [iI 4 (.box (.t 1)), iI 6 (.mv (.c (.int .i64 0))), iI 7 (.mv (.c (.bool false)))]) c48_0
theorem fd48 : fd? Try.prog 48 = some (14, [.slot 6, .slot 7], ir48) := by kernel_rfl
noncomputable def f48_49 (l_435 : (List ApiGroup)) (number_436 : Int) : Option (Int × Bool) :=
  (f62_63 l_435 number_436).bind fun r_479 => (some (r_479.1, r_479.2))
theorem f48_49_ok {l_435 : (List ApiGroup)} {number_436 : Int} {r_ : Int × Bool} (H : f48_49 l_435 number_436 = some r_) : Pure Try.prog 48 [.sl 2 false (l_435.map eApiGroup), .fn 49 [], .int .i64 number_436] (· = .tup [.int .i64 r_.1, .bool r_.2]) := by
  refine Pure.walk2 fd48 none (Nat.le_of_ble_eq_true rfl) (by rfl) fun Q hQ => ?_
  simp only [f48_49] at H
  refine AW.rseq ?_
  try simp only [↓wk, ↓wl, nc, evV, wrapBits_eq, ↓reduceIte, Nat.reduceEqDiff, Nat.reduceAdd, Nat.reduceSub, Nat.reduceLeDiff, Nat.reduceLT, Nat.reduceBEq, reduceCtorEq, Int.reduceEq]
  refine AW.rseq ?_
  try simp only [↓wk, ↓wl, nc, evV, wrapBits_eq, ↓reduceIte, Nat.reduceEqDiff, Nat.reduceAdd, Nat.reduceSub, Nat.reduceLeDiff, Nat.reduceLT, Nat.reduceBEq, reduceCtorEq, Int.reduceEq]
  refine evTs_flat hFn H (fun _ h => f62_63_ok h) (by rfl) (by rfl) (by simp only [deep_eq, imm_simps, imm_rowE, imm_ptrE, imm_enc, omap_simps, take_map_len, take_map_set, take_map_set2, le_refl_true, Nat.zero_add, and_true, true_and, List.drop_zero, Option.map_some, ↓wk, ↓wl, nc, evV, wrapBits_eq, ↓reduceIte, Nat.reduceEqDiff, Nat.reduceAdd, Nat.reduceSub, Nat.reduceLeDiff, Nat.reduceLT, Nat.reduceBEq, reduceCtorEq, Int.reduceEq]; rfl) (by rfl) (fun _ => rfl) (fun _ => rfl) ?_ <;> clear H <;> intro r_479 H
  try simp only [eL, ↓wk, ↓wl, nc, evV, wrapBits_eq, ↓reduceIte, Nat.reduceEqDiff, Nat.reduceAdd, Nat.reduceSub, Nat.reduceLeDiff, Nat.reduceLT, Nat.reduceBEq, reduceCtorEq, Int.reduceEq]
  refine AW.ret ?_
  cases H
  exact hQ _ _ _ _ (.inr rfl) (by simp only [resVs, omap, resV, ↓wk, ↓wl, nc, evV, wrapBits_eq, ↓reduceIte, Nat.reduceEqDiff, Nat.reduceAdd, Nat.reduceSub, Nat.reduceLeDiff, Nat.reduceLT, Nat.reduceBEq, reduceCtorEq, Int.reduceEq]; rfl) (hand_plain (by rfl)) (by rfl)
def c28_0 : C := .cond (.t 12) (.seq (.reg [iI 13 (.build [(1, (.int .i64 0)), (1, (.sl 0 true []))] []), iI 14 (.mv (.t 6)), iN (.store 2 (.t 4) (.t 13)), iI 5 (.mv (.t 14))]) .ret) (.skip)
def c28_1 : C := .seq (.reg [iI 11 (.mv (.t 6)), iI 12 (.bin .neq (.t 11) (.c (.int .i64 0)))]) c28_0
def c28_2 : C := .cond (.t 22) (.seq (.reg [iI 23 (.build [(1, (.int .i64 0)), (1, (.sl 0 true []))] []), iN (.store 2 (.t 4) (.t 23)), iI 5 (.mv (.c (.int .i64 6)))]) .ret) (.skip)
def c28_3 : C := .seq (.reg [iI 24 (.mv (.t 0)), iI 25 (.mv (.t 7)), iI 26 (.iaddr 2 (.t 24) (.t 25)), iI 27 (.load 2 (.t 26)), iN (.store 2 (.t 4) (.t 27)), iI 5 (.mv (.c (.int .i64 0)))]) .ret
def c28_4 : C := .seq (.seq (.reg [iI 21 (.mv (.t 8)), iI 22 (.un .not (.t 21))]) c28_2) c28_3
def c28_5 : C := .seq (.reg [iI 16 (.mv (.t 0)), iI 17 (.mv (.t 1)), iI 18 (.call (.c (.fn 48 [])) [(.t 16), (.c (.fn 49 [])), (.t 17)]), iI 15 (.mv (.t 18)), iI 19 (.ext (.t 15) 0), iI 20 (.ext (.t 15) 1), iI 7 (.mv (.t 19)), iI 8 (.mv (.t 20))]) c28_4
def c28_6 : C := .seq (.seq (.reg [iI 9 (.mv (.t 0)), iI 10 (.call (.c (.fn 22 [])) [(.t 9)]), iI 6 (.mv (.t 10))]) c28_1) c28_5
def ir28 : C := .seq (.reg [iI 4 (.alloc [(1, (.int .i64 0)), (1, (.sl 0 true []))]), iI 5 (.mv (.c (.int .i64 0)))]) c28_6
theorem fd28 : fd? Try.prog 28 = some (28, [.cell 4 2, .slot 5], ir28) := by kernel_rfl
noncomputable def f28 (l_431 : (List ApiGroup)) (n_432 : Int) : Option (ApiGroup × Int) :=
  (f22 l_431).bind fun r_434 => (if (decide (r_434 ≠ 0)) = true then (some ((ApiGroup.mk 0 ([])), r_434)) else (f48_49 l_431 n_432).bind fun r_480 => (if (!r_480.2) = true then (some ((ApiGroup.mk 0 ([])), 6)) else (at? l_431 r_480.1).bind fun x_481 => (some (x_481, 0))))
theorem f28_ok {l_431 : (List ApiGroup)} {n_432 : Int} {r_ : ApiGroup × Int} (H : f28 l_431 n_432 = some r_) : Pure Try.prog 28 [.sl 2 false (l_431.map eApiGroup), .int .i64 n_432] (· = .tup [.agg [.int .i64 r_.1.fNumber, .sl 0 false (r_.1.fChannels.map (AV.int .i64))], .int .i64 r_.2]) := by
  refine Pure.walk2 fd28 none (Nat.le_of_ble_eq_true rfl) (by rfl) fun Q hQ => ?_
  simp only [f28] at H
  refine AW.rseq ?_
  try simp only [↓wk, ↓wl, nc, evV, wrapBits_eq, ↓reduceIte, Nat.reduceEqDiff, Nat.reduceAdd, Nat.reduceSub, Nat.reduceLeDiff, Nat.reduceLT, Nat.reduceBEq, reduceCtorEq, Int.reduceEq]
  refine AW.sseq ?_
  refine AW.rseq ?_
  try simp only [↓wk, ↓wl, nc, evV, wrapBits_eq, ↓reduceIte, Nat.reduceEqDiff, Nat.reduceAdd, Nat.reduceSub, Nat.reduceLeDiff, Nat.reduceLT, Nat.reduceBEq, reduceCtorEq, Int.reduceEq]
  refine evTs_pure hFn H (fun _ h => f22_ok h) (by rfl) (by rfl) (by rfl) (by rfl) (fun _ => rfl) ?_ <;> clear H <;> intro r_434 H
  try simp only [eL, ↓wk, ↓wl, nc, evV, wrapBits_eq, ↓reduceIte, Nat.reduceEqDiff, Nat.reduceAdd, Nat.reduceSub, Nat.reduceLeDiff, Nat.reduceLT, Nat.reduceBEq, reduceCtorEq, Int.reduceEq]
  refine AW.rseq ?_
  try simp only [↓wk, ↓wl, nc, evV, wrapBits_eq, ↓reduceIte, Nat.reduceEqDiff, Nat.reduceAdd, Nat.reduceSub, Nat.reduceLeDiff, Nat.reduceLT, Nat.reduceBEq, reduceCtorEq, Int.reduceEq]
  refine AW.ifc H (by rfl) ?_ ?_ <;> clear H <;> intro H
  · refine AW.rseq ?_
    try simp only [↓wk, ↓wl, nc, evV, wrapBits_eq, ↓reduceIte, Nat.reduceEqDiff, Nat.reduceAdd, Nat.reduceSub, Nat.reduceLeDiff, Nat.reduceLT, Nat.reduceBEq, reduceCtorEq, Int.reduceEq]
    refine AW.ret ?_
    refine seqQ.ret ?_
    cases H
    exact hQ _ _ _ _ (.inr rfl) (by simp only [resVs, omap, resV, ↓wk, ↓wl, nc, evV, wrapBits_eq, ↓reduceIte, Nat.reduceEqDiff, Nat.reduceAdd, Nat.reduceSub, Nat.reduceLeDiff, Nat.reduceLT, Nat.reduceBEq, reduceCtorEq, Int.reduceEq]; rfl) (hand_plain (by rfl)) (by rfl)
  · refine AW.skip ?_
    refine seqQ.norm ?_
    refine AW.rseq ?_
    try simp only [↓wk, ↓wl, nc, evV, wrapBits_eq, ↓reduceIte, Nat.reduceEqDiff, Nat.reduceAdd, Nat.reduceSub, Nat.reduceLeDiff, Nat.reduceLT, Nat.reduceBEq, reduceCtorEq, Int.reduceEq]
    refine evTs_pure hFn H (fun _ h => f48_49_ok h) (by rfl) (by rfl) (by rfl) (by rfl) (fun _ => rfl) ?_ <;> clear H <;> intro r_480 H
    try simp only [eL, ↓wk, ↓wl, nc, evV, wrapBits_eq, ↓reduceIte, Nat.reduceEqDiff, Nat.reduceAdd, Nat.reduceSub, Nat.reduceLeDiff, Nat.reduceLT, Nat.reduceBEq, reduceCtorEq, Int.reduceEq]
    refine AW.sseq ?_
    refine AW.rseq ?_
    try simp only [↓wk, ↓wl, nc, evV, wrapBits_eq, ↓reduceIte, Nat.reduceEqDiff, Nat.reduceAdd, Nat.reduceSub, Nat.reduceLeDiff, Nat.reduceLT, Nat.reduceBEq, reduceCtorEq, Int.reduceEq]
    refine AW.ifc H (by rfl) ?_ ?_ <;> clear H <;> intro H
    · refine AW.rseq ?_
      try simp only [↓wk, ↓wl, nc, evV, wrapBits_eq, ↓reduceIte, Nat.reduceEqDiff, Nat.reduceAdd, Nat.reduceSub, Nat.reduceLeDiff, Nat.reduceLT, Nat.reduceBEq, reduceCtorEq, Int.reduceEq]
      refine AW.ret ?_
      refine seqQ.ret ?_
      cases H
      exact hQ _ _ _ _ (.inr rfl) (by simp only [resVs, omap, resV, ↓wk, ↓wl, nc, evV, wrapBits_eq, ↓reduceIte, Nat.reduceEqDiff, Nat.reduceAdd, Nat.reduceSub, Nat.reduceLeDiff, Nat.reduceLT, Nat.reduceBEq, reduceCtorEq, Int.reduceEq]; rfl) (hand_plain (by rfl)) (by rfl)
    · refine AW.skip ?_
      refine seqQ.norm ?_
      refine AW.rseq ?_
      try simp only [↓wk, ↓wl, nc, evV, wrapBits_eq, ↓reduceIte, Nat.reduceEqDiff, Nat.reduceAdd, Nat.reduceSub, Nat.reduceLeDiff, Nat.reduceLT, Nat.reduceBEq, reduceCtorEq, Int.reduceEq]
      refine evTs_at (enc := eApiGroup) H (by rfl) (by rfl) ?_ <;> clear H <;> intro x_481 H
      try simp only [eApiGroup, eL, ↓wk, ↓wl, nc, evV, wrapBits_eq, ↓reduceIte, Nat.reduceEqDiff, Nat.reduceAdd, Nat.reduceSub, Nat.reduceLeDiff, Nat.reduceLT, Nat.reduceBEq, reduceCtorEq, Int.reduceEq]
      refine AW.ret ?_
      cases H
      exact hQ _ _ _ _ (.inr rfl) (by simp only [resVs, omap, resV, ↓wk, ↓wl, nc, evV, wrapBits_eq, ↓reduceIte, Nat.reduceEqDiff, Nat.reduceAdd, Nat.reduceSub, Nat.reduceLeDiff, Nat.reduceLT, Nat.reduceBEq, reduceCtorEq, Int.reduceEq]; rfl) (hand_plain (by rfl)) (by rfl)
noncomputable def f50_L1 (l_487 : (List ApiGroup)) (number_488 : Int) : Lp (Int) ((Unit) ⊕ (Int)) where
  body := fun i_492 => (if (decide (i_492 < ((l_487.length : Nat) : Int))) = true then (at? l_487 i_492).bind fun x_495 => (if (decide (x_495.fNumber = number_488)) = true then (some (.brk (Sum.inr i_492))) else (some (.next (IntKind.i64.wrap (i_492 + 1))))) else (some (.brk (Sum.inl ()))))
  cst := fun i_492 => ⟨put (put (put (fun _ => .junk) 5 (.int .i64 i_492)) 1 (.int .i64 number_488)) 0 (.sl 2 false (l_487.map eApiGroup)), []⟩
def c50_0 : C := .cond (.t 9) (.skip) (.exit 0)
def c50_1 : C := .cond (.t 18) (.seq (.reg [iI 19 (.mv (.t 5)), iI 4 (.mv (.t 19))]) .ret) (.skip)
def c50_2 : C := .reg [iI 10 (.mv (.t 5)), iI 11 (.bin .add (.t 10) (.c (.int .i64 1))), iI 5 (.mv (.t 11))]
def c50_3 : C := .seq (.block 1 (.seq (.reg [iI 12 (.mv (.t 0)), iI 13 (.mv (.t 5)), iI 14 (.iaddr 2 (.t 12) (.t 13)), iI 15 (.faddr 0 (.t 14)), iI 16 (.load 0 (.t 15)), iI 17 (.mv (.t 1)), iI 18 (.bin .eql (.t 16) (.t 17))]) c50_1)) c50_2
def c50_4 : C := .block 0 (.loop (.seq (.seq (.reg [iI 6 (.mv (.t 5)), iI 7 (.mv (.t 0)), iI 8 (.len 0 (.t 7)), iI 9 (.bin .lss (.t 6) (.t 8))]) c50_0) c50_3))
def c50_5 : C := .seq (.reg [iI 4 (.mv (.c (.int .i64 (-1))))]) .ret
def c50_6 : C := .seq (.seq (.reg [iI 5 (.mv (.c (.int .i64 0)))]) c50_4) c50_5
def ir50 : C := .seq (.reg [iI 4 (.mv (.c (.int .i64 0)))]) c50_6
theorem fd50 : fd? Try.prog 50 = some (20, [.slot 4], ir50) := by kernel_rfl
noncomputable def f50 (l_487 : (List ApiGroup)) (number_488 : Int) : Option (Int) :=
  ((Lp.run (f50_L1 l_487 number_488) 0).bind fun r_ => match r_ with | (Sum.inl _) => (some (-1)) | (Sum.inr v_494) => (some v_494))
theorem f50_ok {l_487 : (List ApiGroup)} {number_488 : Int} {r_ : Int} (H : f50 l_487 number_488 = some r_) : Pure Try.prog 50 [.sl 2 false (l_487.map eApiGroup), .int .i64 number_488] (· = .int .i64 r_) := by
  refine Pure.walk2 fd50 none (Nat.le_of_ble_eq_true rfl) (by rfl) fun Q hQ => ?_
  simp only [f50] at H
  refine AW.rseq ?_
  try simp only [↓wk, ↓wl, nc, evV, wrapBits_eq, ↓reduceIte, Nat.reduceEqDiff, Nat.reduceAdd, Nat.reduceSub, Nat.reduceLeDiff, Nat.reduceLT, Nat.reduceBEq, reduceCtorEq, Int.reduceEq]
  refine AW.sseq ?_
  refine AW.rseq ?_
  try simp only [↓wk, ↓wl, nc, evV, wrapBits_eq, ↓reduceIte, Nat.reduceEqDiff, Nat.reduceAdd, Nat.reduceSub, Nat.reduceLeDiff, Nat.reduceLT, Nat.reduceBEq, reduceCtorEq, Int.reduceEq]
  refine AW.bend ?_
  refine AW.iter H ((Le.none [] [0, 1, 5] (by decide) (by simp only [f50_L1, List.length_set, Option.map_some, restrict_eq, renS_nil, renS_cons, renB_els, renB_cel, renB_dead, deep_eq, map_ren_enc, ren_agg', ren_tup', ren_fn', ren_int', ren_bool', ren_str', ren_sl', ren_pro', ren_nilp', ren_nilfn', ren_junk', ren_ptr', ren_row', ren_arow', ren_eptr', vm, List.idxOf?_cons, List.idxOf?_nil, beq_self_eq_true, Option.map_none, List.getD_cons_zero, List.getD_cons_succ, ↓wk, ↓wl, nc, evV, wrapBits_eq, ↓reduceIte, Nat.reduceEqDiff, Nat.reduceAdd, Nat.reduceSub, Nat.reduceLeDiff, Nat.reduceLT, Nat.reduceBEq, reduceCtorEq, Int.reduceEq]))) ?_ <;> clear H
  rintro i_492 x_ st0_ H hst_
  simp only [f50_L1] at H hst_
  subst hst_
  refine AW.sseq ?_
  refine AW.rseq ?_
  try simp only [↓wk, ↓wl, nc, evV, wrapBits_eq, ↓reduceIte, Nat.reduceEqDiff, Nat.reduceAdd, Nat.reduceSub, Nat.reduceLeDiff, Nat.reduceLT, Nat.reduceBEq, reduceCtorEq, Int.reduceEq]
  refine AW.ifc H (by rfl) ?_ ?_ <;> clear H <;> intro H
  · refine AW.skip ?_
    refine seqQ.norm ?_
    refine AW.bseq ?_
    refine AW.rseq ?_
    try simp only [↓wk, ↓wl, nc, evV, wrapBits_eq, ↓reduceIte, Nat.reduceEqDiff, Nat.reduceAdd, Nat.reduceSub, Nat.reduceLeDiff, Nat.reduceLT, Nat.reduceBEq, reduceCtorEq, Int.reduceEq]
    refine evTs_at (enc := eApiGroup) H (by rfl) (by rfl) ?_ <;> clear H <;> intro x_495 H
    try simp only [eApiGroup, eL, ↓wk, ↓wl, nc, evV, wrapBits_eq, ↓reduceIte, Nat.reduceEqDiff, Nat.reduceAdd, Nat.reduceSub, Nat.reduceLeDiff, Nat.reduceLT, Nat.reduceBEq, reduceCtorEq, Int.reduceEq]
    refine AW.ifc H (by rfl) ?_ ?_ <;> clear H <;> intro H
    · refine AW.rseq ?_
      try simp only [↓wk, ↓wl, nc, evV, wrapBits_eq, ↓reduceIte, Nat.reduceEqDiff, Nat.reduceAdd, Nat.reduceSub, Nat.reduceLeDiff, Nat.reduceLT, Nat.reduceBEq, reduceCtorEq, Int.reduceEq]
      refine AW.ret ?_
      refine blkQ.ret ?_
      refine loopQ.ret H ?_ <;> clear H <;> intro H
      try dsimp only at H
      refine blk0.ret ?_
      refine seqQ.ret ?_
      cases H
      exact hQ _ _ _ _ (.inr rfl) (by simp only [resVs, omap, resV, ↓wk, ↓wl, nc, evV, wrapBits_eq, ↓reduceIte, Nat.reduceEqDiff, Nat.reduceAdd, Nat.reduceSub, Nat.reduceLeDiff, Nat.reduceLT, Nat.reduceBEq, reduceCtorEq, Int.reduceEq]; rfl) (hand_plain (by rfl)) (by rfl)
    · refine AW.skip ?_
      refine blkQ.norm ?_
      refine AW.rend ?_
      try simp only [↓wk, ↓wl, nc, evV, wrapBits_eq, ↓reduceIte, Nat.reduceEqDiff, Nat.reduceAdd, Nat.reduceSub, Nat.reduceLeDiff, Nat.reduceLT, Nat.reduceBEq, reduceCtorEq, Int.reduceEq]
      exact loopQ.next H ((Le.none [] [0, 1, 5] (by decide) (by simp only [f50_L1, List.length_set, Option.map_some, restrict_eq, renS_nil, renS_cons, renB_els, renB_cel, renB_dead, deep_eq, map_ren_enc, ren_agg', ren_tup', ren_fn', ren_int', ren_bool', ren_str', ren_sl', ren_pro', ren_nilp', ren_nilfn', ren_junk', ren_ptr', ren_row', ren_arow', ren_eptr', vm, List.idxOf?_cons, List.idxOf?_nil, beq_self_eq_true, Option.map_none, List.getD_cons_zero, List.getD_cons_succ, ↓wk, ↓wl, nc, evV, wrapBits_eq, ↓reduceIte, Nat.reduceEqDiff, Nat.reduceAdd, Nat.reduceSub, Nat.reduceLeDiff, Nat.reduceLT, Nat.reduceBEq, reduceCtorEq, Int.reduceEq])))
  · refine AW.exit ?_
    refine seqQ.exit ?_
    refine loopQ.exit H ?_ <;> clear H <;> intro H
    try dsimp only at H
    refine blk0.here ?_
    refine seqQ.norm ?_
    refine AW.rseq ?_
    try simp only [↓wk, ↓wl, nc, evV, wrapBits_eq, ↓reduceIte, Nat.reduceEqDiff, Nat.reduceAdd, Nat.reduceSub, Nat.reduceLeDiff, Nat.reduceLT, Nat.reduceBEq, reduceCtorEq, Int.reduceEq]
    refine AW.ret ?_
    cases H
    exact hQ _ _ _ _ (.inr rfl) (by simp only [resVs, omap, resV, ↓wk, ↓wl, nc, evV, wrapBits_eq, ↓reduceIte, Nat.reduceEqDiff, Nat.reduceAdd, Nat.reduceSub, Nat.reduceLeDiff, Nat.reduceLT, Nat.reduceBEq, reduceCtorEq, Int.reduceEq]; rfl) (hand_plain (by rfl)) (by rfl)
def c29_0 : C := .cond (.t 11) (.seq (.reg [iI 12 (.build [(1, (.int .i64 0)), (1, (.sl 0 true []))] []), iI 13 (.mv (.t 6)), iN (.store 2 (.t 4) (.t 12)), iI 5 (.mv (.t 13))]) .ret) (.skip)
def c29_1 : C := .seq (.reg [iI 10 (.mv (.t 6)), iI 11 (.bin .neq (.t 10) (.c (.int .i64 0)))]) c29_0
def c29_2 : C := .cond (.t 18) (.seq (.reg [iI 19 (.build [(1, (.int .i64 0)), (1, (.sl 0 true []))] []), iN (.store 2 (.t 4) (.t 19)), iI 5 (.mv (.c (.int .i64 6)))]) .ret) (.skip)
def c29_3 : C := .seq (.reg [iI 20 (.mv (.t 0)), iI 21 (.mv (.t 7)), iI 22 (.iaddr 2 (.t 20) (.t 21)), iI 23 (.load 2 (.t 22)), iN (.store 2 (.t 4) (.t 23)), iI 5 (.mv (.c (.int .i64 0)))]) .ret
def c29_4 : C := .seq (.seq (.reg [iI 17 (.mv (.t 7)), iI 18 (.bin .lss (.t 17) (.c (.int .i64 0)))]) c29_2) c29_3
def c29_5 : C := .seq (.reg [iI 14 (.mv (.t 0)), iI 15 (.mv (.t 1)), iI 16 (.call (.c (.fn 50 [])) [(.t 14), (.t 15)]), iI 7 (.mv (.t 16))]) c29_4
def c29_6 : C := .seq (.seq (.reg [iI 8 (.mv (.t 0)), iI 9 (.call (.c (.fn 23 [])) [(.t 8)]), iI 6 (.mv (.t 9))]) c29_1) c29_5
def ir29 : C := .seq (.reg [iI 4 (.alloc [(1, (.int .i64 0)), (1, (.sl 0 true []))]), iI 5 (.mv (.c (.int .i64 0)))]) c29_6
theorem fd29 : fd? Try.prog 29 = some (24, [.cell 4 2, .slot 5], ir29) := by kernel_rfl
noncomputable def f29 (l_483 : (List ApiGroup)) (number_484 : Int) : Option (ApiGroup × Int) :=
  (f23 l_483).bind fun r_486 => (if (decide (r_486 ≠ 0)) = true then (some ((ApiGroup.mk 0 ([])), r_486)) else (f50 l_483 number_484).bind fun r_496 => (if (decide (r_496 < 0)) = true then (some ((ApiGroup.mk 0 ([])), 6)) else (at? l_483 r_496).bind fun x_497 => (some (x_497, 0))))
theorem f29_ok {l_483 : (List ApiGroup)} {number_484 : Int} {r_ : ApiGroup × Int} (H : f29 l_483 number_484 = some r_) : Pure Try.prog 29 [.sl 2 false (l_483.map eApiGroup), .int .i64 number_484] (· = .tup [.agg [.int .i64 r_.1.fNumber, .sl 0 false (r_.1.fChannels.map (AV.int .i64))], .int .i64 r_.2]) := by
  refine Pure.walk2 fd29 none (Nat.le_of_ble_eq_true rfl) (by rfl) fun Q hQ => ?_
  simp only [f29] at H
  refine AW.rseq ?_
  try simp only [↓wk, ↓wl, nc, evV, wrapBits_eq, ↓reduceIte, Nat.reduceEqDiff, Nat.reduceAdd, Nat.reduceSub, Nat.reduceLeDiff, Nat.reduceLT, Nat.reduceBEq, reduceCtorEq, Int.reduceEq]
  refine AW.sseq ?_
  refine AW.rseq ?_
  try simp only [↓wk, ↓wl, nc, evV, wrapBits_eq, ↓reduceIte, Nat.reduceEqDiff, Nat.reduceAdd, Nat.reduceSub, Nat.reduceLeDiff, Nat.reduceLT, Nat.reduceBEq, reduceCtorEq, Int.reduceEq]
  refine evTs_pure hFn H (fun _ h => f23_ok h) (by rfl) (by rfl) (by rfl) (by rfl) (fun _ => rfl) ?_ <;> clear H <;> intro r_486 H
  try simp only [eL, ↓wk, ↓wl, nc, evV, wrapBits_eq, ↓reduceIte, Nat.reduceEqDiff, Nat.reduceAdd, Nat.reduceSub, Nat.reduceLeDiff, Nat.reduceLT, Nat.reduceBEq, reduceCtorEq, Int.reduceEq]
  refine AW.rseq ?_
  try simp only [↓wk, ↓wl, nc, evV, wrapBits_eq, ↓reduceIte, Nat.reduceEqDiff, Nat.reduceAdd, Nat.reduceSub, Nat.reduceLeDiff, Nat.reduceLT, Nat.reduceBEq, reduceCtorEq, Int.reduceEq]
  refine AW.ifc H (by rfl) ?_ ?_ <;> clear H <;> intro H
  · refine AW.rseq ?_
    try simp only [↓wk, ↓wl, nc, evV, wrapBits_eq, ↓reduceIte, Nat.reduceEqDiff, Nat.reduceAdd, Nat.reduceSub, Nat.reduceLeDiff, Nat.reduceLT, Nat.reduceBEq, reduceCtorEq, Int.reduceEq]
    refine AW.ret ?_
    refine seqQ.ret ?_
    cases H
    exact hQ _ _ _ _ (.inr rfl) (by simp only [resVs, omap, resV, ↓wk, ↓wl, nc, evV, wrapBits_eq, ↓reduceIte, Nat.reduceEqDiff, Nat.reduceAdd, Nat.reduceSub, Nat.reduceLeDiff, Nat.reduceLT, Nat.reduceBEq, reduceCtorEq, Int.reduceEq]; rfl) (hand_plain (by rfl)) (by rfl)
  · refine AW.skip ?_
    refine seqQ.norm ?_
    refine AW.rseq ?_
    try simp only [↓wk, ↓wl, nc, evV, wrapBits_eq, ↓reduceIte, Nat.reduceEqDiff, Nat.reduceAdd, Nat.reduceSub, Nat.reduceLeDiff, Nat.reduceLT, Nat.reduceBEq, reduceCtorEq, Int.reduceEq]
    refine evTs_pure hFn H (fun _ h => f50_ok h) (by rfl) (by rfl) (by rfl) (by rfl) (fun _ => rfl) ?_ <;> clear H <;> intro r_496 H
    try simp only [eL, ↓wk, ↓wl, nc, evV, wrapBits_eq, ↓reduceIte, Nat.reduceEqDiff, Nat.reduceAdd, Nat.reduceSub, Nat.reduceLeDiff, Nat.reduceLT, Nat.reduceBEq, reduceCtorEq, Int.reduceEq]
    refine AW.sseq ?_
    refine AW.rseq ?_
    try simp only [↓wk, ↓wl, nc, evV, wrapBits_eq, ↓reduceIte, Nat.reduceEqDiff, Nat.reduceAdd, Nat.reduceSub, Nat.reduceLeDiff, Nat.reduceLT, Nat.reduceBEq, reduceCtorEq, Int.reduceEq]
    refine AW.ifc H (by rfl) ?_ ?_ <;> clear H <;> intro H
    · refine AW.rseq ?_
      try simp only [↓wk, ↓wl, nc, evV, wrapBits_eq, ↓reduceIte, Nat.reduceEqDiff, Nat.reduceAdd, Nat.reduceSub, Nat.reduceLeDiff, Nat.reduceLT, Nat.reduceBEq, reduceCtorEq, Int.reduceEq]
      refine AW.ret ?_
      refine seqQ.ret ?_
      cases H
      exact hQ _ _ _ _ (.inr rfl) (by simp only [resVs, omap, resV, ↓wk, ↓wl, nc, evV, wrapBits_eq, ↓reduceIte, Nat.reduceEqDiff, Nat.reduceAdd, Nat.reduceSub, Nat.reduceLeDiff, Nat.reduceLT, Nat.reduceBEq, reduceCtorEq, Int.reduceEq]; rfl) (hand_plain (by rfl)) (by rfl)
    · refine AW.skip ?_
      refine seqQ.norm ?_
      refine AW.rseq ?_
      try simp only [↓wk, ↓wl, nc, evV, wrapBits_eq, ↓reduceIte, Nat.reduceEqDiff, Nat.reduceAdd, Nat.reduceSub, Nat.reduceLeDiff, Nat.reduceLT, Nat.reduceBEq, reduceCtorEq, Int.reduceEq]
      refine evTs_at (enc := eApiGroup) H (by rfl) (by rfl) ?_ <;> clear H <;> intro x_497 H
      try simp only [eApiGroup, eL, ↓wk, ↓wl, nc, evV, wrapBits_eq, ↓reduceIte, Nat.reduceEqDiff, Nat.reduceAdd, Nat.reduceSub, Nat.reduceLeDiff, Nat.reduceLT, Nat.reduceBEq, reduceCtorEq, Int.reduceEq]
      refine AW.ret ?_
      cases H
      exact hQ _ _ _ _ (.inr rfl) (by simp only [resVs, omap, resV, ↓wk, ↓wl, nc, evV, wrapBits_eq, ↓reduceIte, Nat.reduceEqDiff, Nat.reduceAdd, Nat.reduceSub, Nat.reduceLeDiff, Nat.reduceLT, Nat.reduceBEq, reduceCtorEq, Int.reduceEq]; rfl) (hand_plain (by rfl)) (by rfl)
def c51_0 : C := .cond (.t 4) (.seq (.reg [iI 2 (.mv (.c (.sl 2 true [])))]) .ret) (.skip)
def c51_1 : C := .seq (.reg [iI 5 (.mksl 2 0 (.agg [(.int .i64 0), (.sl 0 true [])]) []), iI 6 (.mv (.t 0)), iI 7 (.append 2 32 (.t 5) (.t 6)), iI 2 (.mv (.t 7))]) .ret
def c51_2 : C := .seq (.seq (.reg [iI 3 (.mv (.t 0)), iI 4 (.isnil false (.t 3))]) c51_0) c51_1
def ir51 : C := .seq (.reg [iI 2 (.mv (.c (.sl 2 true [])))]) c51_2
theorem fd51 : fd? Try.prog 51 = some (8, [.slot 2], ir51) := by kernel_rfl
noncomputable def f51 (s_529 : (List ApiGroup)) : Option ((List ApiGroup)) :=
  (nil? (s_529 : List ApiGroup) false fun b_530 => (if b_530 = true then (some []) else (app? 32 [] s_529).bind fun out_531 => (some out_531)))
theorem f51_ok {s_529 : (List ApiGroup)} {r_ : (List ApiGroup)} (H : f51 s_529 = some r_) : Pure Try.prog 51 [.sl 2 false (s_529.map eApiGroup)] (· = .fr 2 (r_.map eApiGroup)) := by
  refine Pure.walk2 fd51 (some 0) (Nat.le_of_ble_eq_true rfl) (by rfl) fun Q hQ => ?_
  simp only [f51] at H
  refine AW.rseq ?_
  try simp only [↓wk, ↓wl, nc, evV, wrapBits_eq, ↓reduceIte, Nat.reduceEqDiff, Nat.reduceAdd, Nat.reduceSub, Nat.reduceLeDiff, Nat.reduceLT, Nat.reduceBEq, reduceCtorEq, Int.reduceEq]
  refine AW.sseq ?_
  refine AW.rseq ?_
  try simp only [↓wk, ↓wl, nc, evV, wrapBits_eq, ↓reduceIte, Nat.reduceEqDiff, Nat.reduceAdd, Nat.reduceSub, Nat.reduceLeDiff, Nat.reduceLT, Nat.reduceBEq, reduceCtorEq, Int.reduceEq]
  refine evTs_isnil (enc := eApiGroup) H (by rfl) ?_ <;> clear H <;> intro b_530 H
  try simp only [↓wk, ↓wl, nc, evV, wrapBits_eq, ↓reduceIte, Nat.reduceEqDiff, Nat.reduceAdd, Nat.reduceSub, Nat.reduceLeDiff, Nat.reduceLT, Nat.reduceBEq, reduceCtorEq, Int.reduceEq]
  refine AW.ifc H (by rfl) ?_ ?_ <;> clear H <;> intro H
  · refine AW.rseq ?_
    try simp only [↓wk, ↓wl, nc, evV, wrapBits_eq, ↓reduceIte, Nat.reduceEqDiff, Nat.reduceAdd, Nat.reduceSub, Nat.reduceLeDiff, Nat.reduceLT, Nat.reduceBEq, reduceCtorEq, Int.reduceEq]
    refine AW.ret ?_
    refine seqQ.ret ?_
    cases H
    exact hQ _ _ _ _ (.inr rfl) (by simp only [resVs, omap, resV, ↓wk, ↓wl, nc, evV, wrapBits_eq, ↓reduceIte, Nat.reduceEqDiff, Nat.reduceAdd, Nat.reduceSub, Nat.reduceLeDiff, Nat.reduceLT, Nat.reduceBEq, reduceCtorEq, Int.reduceEq]; rfl) hand_10 (by rfl)
  · refine AW.skip ?_
    refine seqQ.norm ?_
    refine AW.rseq ?_
    try simp only [↓wk, ↓wl, nc, evV, wrapBits_eq, ↓reduceIte, Nat.reduceEqDiff, Nat.reduceAdd, Nat.reduceSub, Nat.reduceLeDiff, Nat.reduceLT, Nat.reduceBEq, reduceCtorEq, Int.reduceEq]
    refine evTs_app0 (enc := eApiGroup) H (by rfl) (by rfl) ?_ <;> clear H <;> intro out_531 H
    try simp only [↓wk, ↓wl, nc, evV, wrapBits_eq, ↓reduceIte, Nat.reduceEqDiff, Nat.reduceAdd, Nat.reduceSub, Nat.reduceLeDiff, Nat.reduceLT, Nat.reduceBEq, reduceCtorEq, Int.reduceEq]
    refine AW.ret ?_
    cases H
    exact hQ _ _ _ _ (.inr rfl) (by simp only [resVs, omap, resV, ↓wk, ↓wl, nc, evV, wrapBits_eq, ↓reduceIte, Nat.reduceEqDiff, Nat.reduceAdd, Nat.reduceSub, Nat.reduceLeDiff, Nat.reduceLT, Nat.reduceBEq, reduceCtorEq, Int.reduceEq]; rfl) (hand_1 (by rfl) (by simp) (enc_all _)) (by rfl)
theorem f51_im {s_529 : (List ApiGroup)} {r_ : (List ApiGroup)} (H : f51 s_529 = some r_) : Pure Try.prog 51 [.sl 2 false (s_529.map eApiGroup)] (· = .sl 2 false (r_.map eApiGroup)) := (f51_ok H).unfr (by first | exact enc_fits _ | simp only [frFits, List.all_cons, List.all_nil, enc_fits, Bool.and_self])
theorem ins52 : fd? Try.prog 52 = some (95, [.slot 6], insC 2 32 (.agg [(.int .i64 0), (.sl 0 true [])]) 66) := by kernel_rfl
def c30_0 : C := .cond (.t 14) (.seq (.reg [iI 15 (.mv (.t 6)), iI 4 (.mv (.c (.sl 2 true []))), iI 5 (.mv (.t 15))]) .ret) (.skip)
def c30_1 : C := .seq (.reg [iI 13 (.mv (.t 6)), iI 14 (.bin .neq (.t 13) (.c (.int .i64 0)))]) c30_0
def c30_2 : C := .cond (.t 19) (.seq (.reg [iI 20 (.mv (.t 7)), iI 4 (.mv (.c (.sl 2 true []))), iI 5 (.mv (.t 20))]) .ret) (.skip)
def c30_3 : C := .seq (.reg [iI 18 (.mv (.t 7)), iI 19 (.bin .neq (.t 18) (.c (.int .i64 0)))]) c30_2
def c30_4 : C := .cond (.t 30) (.reg [iI 31 (.mv (.t 8)), iI 32 (.mv (.t 9)), iI 33 (.load 2 (.t 3)), iI 34 (.iaddr 2 (.t 31) (.t 32)), iN (.store 2 (.t 34) (.t 33))]) (.reg [iI 35 (.mv (.t 8)), iI 36 (.mv (.t 9)), iI 37 (.load 2 (.t 3)), iI 38 (.mksl 2 1 (.agg [(.int .i64 0), (.sl 0 true [])]) [(0, (.t 37))]), iI 39 (.call (.c (.fn 52 [])) [(.t 35), (.t 36), (.t 38)]), iI 8 (.mv (.t 39))])
def c30_5 : C := .seq (.reg [iI 30 (.mv (.t 10))]) c30_4
def c30_6 : C := .cond (.t 42) (.seq (.reg [iI 4 (.mv (.c (.sl 2 true []))), iI 5 (.mv (.c (.int .i64 5)))]) .ret) (.skip)
def c30_7 : C := .seq (.reg [iI 43 (.mv (.t 8)), iI 4 (.mv (.t 43)), iI 5 (.mv (.c (.int .i64 0)))]) .ret
def c30_8 : C := .seq (.seq (.reg [iI 40 (.mv (.t 8)), iI 41 (.len 0 (.t 40)), iI 42 (.bin .gtr (.t 41) (.c (.int .i64 32)))]) c30_6) c30_7
def c30_9 : C := .seq (.seq (.reg [iI 24 (.mv (.t 0)), iI 25 (.faddr 0 (.t 3)), iI 26 (.load 0 (.t 25)), iI 27 (.call (.c (.fn 48 [])) [(.t 24), (.c (.fn 49 [])), (.t 26)]), iI 23 (.mv (.t 27)), iI 28 (.ext (.t 23) 0), iI 29 (.ext (.t 23) 1), iI 9 (.mv (.t 28)), iI 10 (.mv (.t 29))]) c30_5) c30_8
def c30_10 : C := .seq (.reg [iI 21 (.mv (.t 0)), iI 22 (.call (.c (.fn 51 [])) [(.t 21)]), iI 8 (.mv (.t 22))]) c30_9
def c30_11 : C := .seq (.seq (.reg [iI 16 (.load 2 (.t 3)), iI 17 (.call (.c (.fn 20 [])) [(.t 16)]), iI 7 (.mv (.t 17))]) c30_3) c30_10
def c30_12 : C := .seq (.seq (.reg [iI 11 (.mv (.t 0)), iI 12 (.call (.c (.fn 22 [])) [(.t 11)]), iI 6 (.mv (.t 12))]) c30_1) c30_11
def ir30 : C := .seq (.reg [iI 3 (.box (.t 1)), iI 4 (.mv (.c (.sl 2 true []))), iI 5 (.mv (.c (.int .i64 0)))]) c30_12
theorem fd30 : fd? Try.prog 30 = some (44, [.slot 4, .slot 5], ir30) := by kernel_rfl
noncomputable def f30 (l_523 : (List ApiGroup)) (g_524 : ApiGroup) : Option ((List ApiGroup) × Int) :=
  (f22 l_523).bind fun r_526 => (if (decide (r_526 ≠ 0)) = true then (some ([], r_526)) else (f20 g_524).bind fun r_528 => (if (decide (r_528 ≠ 0)) = true then (some ([], r_528)) else (f51 l_523).bind fun r_532 => (f48_49 l_523 g_524.fNumber).bind fun r_533 => (if r_533.2 = true then (at? r_532 r_533.1).bind fun x_534 => (if (decide (32 < ((r_532.length : Nat) : Int))) = true then (some ([], 5)) else (some ((r_532.set r_533.1.toNat g_524), 0))) else (ins? 32 r_532 r_533.1 g_524).bind fun v_536 => (if (decide (32 < ((v_536.length : Nat) : Int))) = true then (some ([], 5)) else (some (v_536, 0))))))
theorem f30_ok {l_523 : (List ApiGroup)} {g_524 : ApiGroup} {r_ : (List ApiGroup) × Int} (H : f30 l_523 g_524 = some r_) : Pure Try.prog 30 [.sl 2 false (l_523.map eApiGroup), .agg [.int .i64 g_524.fNumber, .sl 0 false (g_524.fChannels.map (AV.int .i64))]] (· = .tup [.fr 2 (r_.1.map eApiGroup), .int .i64 r_.2]) := by
  refine Pure.walk2 fd30 (some 0) (Nat.le_of_ble_eq_true rfl) (by rfl) fun Q hQ => ?_
  simp only [f30] at H
  refine AW.rseq ?_
  try simp only [↓wk, ↓wl, ncs, evV, wrapBits_eq, ↓reduceIte, Nat.reduceEqDiff, Nat.reduceAdd, Nat.reduceSub, Nat.reduceLeDiff, Nat.reduceLT, Nat.reduceBEq, reduceCtorEq, Int.reduceEq]
  refine AW.sseq ?_
  refine AW.rseq ?_
  try simp only [↓wk, ↓wl, ncs, evV, wrapBits_eq, ↓reduceIte, Nat.reduceEqDiff, Nat.reduceAdd, Nat.reduceSub, Nat.reduceLeDiff, Nat.reduceLT, Nat.reduceBEq, reduceCtorEq, Int.reduceEq]
  refine evTs_pure hFn H (fun _ h => f22_ok h) (by rfl) (by rfl) (by rfl) (by rfl) (fun _ => rfl) ?_ <;> clear H <;> intro r_526 H
  try simp only [eL, ↓wk, ↓wl, ncs, evV, wrapBits_eq, ↓reduceIte, Nat.reduceEqDiff, Nat.reduceAdd, Nat.reduceSub, Nat.reduceLeDiff, Nat.reduceLT, Nat.reduceBEq, reduceCtorEq, Int.reduceEq]
  refine AW.rseq ?_
  try simp only [↓wk, ↓wl, ncs, evV, wrapBits_eq, ↓reduceIte, Nat.reduceEqDiff, Nat.reduceAdd, Nat.reduceSub, Nat.reduceLeDiff, Nat.reduceLT, Nat.reduceBEq, reduceCtorEq, Int.reduceEq]
  refine AW.ifc H (by rfl) ?_ ?_ <;> clear H <;> intro H
  · refine AW.rseq ?_
    try simp only [↓wk, ↓wl, ncs, evV, wrapBits_eq, ↓reduceIte, Nat.reduceEqDiff, Nat.reduceAdd, Nat.reduceSub, Nat.reduceLeDiff, Nat.reduceLT, Nat.reduceBEq, reduceCtorEq, Int.reduceEq]
    refine AW.ret ?_
    refine seqQ.ret ?_
    cases H
    exact hQ _ _ _ _ (.inr rfl) (by simp only [resVs, omap, resV, ↓wk, ↓wl, ncs, evV, wrapBits_eq, ↓reduceIte, Nat.reduceEqDiff, Nat.reduceAdd, Nat.reduceSub, Nat.reduceLeDiff, Nat.reduceLT, Nat.reduceBEq, reduceCtorEq, Int.reduceEq]; rfl) (hand_k0 (by rfl) (by rfl)) (by rfl)
  · refine AW.skip ?_
    refine seqQ.norm ?_
    refine AW.sseq ?_
    refine AW.rseq ?_
    try simp only [↓wk, ↓wl, ncs, evV, wrapBits_eq, ↓reduceIte, Nat.reduceEqDiff, Nat.reduceAdd, Nat.reduceSub, Nat.reduceLeDiff, Nat.reduceLT, Nat.reduceBEq, reduceCtorEq, Int.reduceEq]
    refine evTs_pure hFn H (fun _ h => f20_ok h) (by rfl) (by rfl) (by rfl) (by rfl) (fun _ => rfl) ?_ <;> clear H <;> intro r_528 H
    try simp only [eL, ↓wk, ↓wl, ncs, evV, wrapBits_eq, ↓reduceIte, Nat.reduceEqDiff, Nat.reduceAdd, Nat.reduceSub, Nat.reduceLeDiff, Nat.reduceLT, Nat.reduceBEq, reduceCtorEq, Int.reduceEq]
    refine AW.rseq ?_
    try simp only [↓wk, ↓wl, ncs, evV, wrapBits_eq, ↓reduceIte, Nat.reduceEqDiff, Nat.reduceAdd, Nat.reduceSub, Nat.reduceLeDiff, Nat.reduceLT, Nat.reduceBEq, reduceCtorEq, Int.reduceEq]
    refine AW.ifc H (by rfl) ?_ ?_ <;> clear H <;> intro H
    · refine AW.rseq ?_
      try simp only [↓wk, ↓wl, ncs, evV, wrapBits_eq, ↓reduceIte, Nat.reduceEqDiff, Nat.reduceAdd, Nat.reduceSub, Nat.reduceLeDiff, Nat.reduceLT, Nat.reduceBEq, reduceCtorEq, Int.reduceEq]
      refine AW.ret ?_
      refine seqQ.ret ?_
      cases H
      exact hQ _ _ _ _ (.inr rfl) (by simp only [resVs, omap, resV, ↓wk, ↓wl, ncs, evV, wrapBits_eq, ↓reduceIte, Nat.reduceEqDiff, Nat.reduceAdd, Nat.reduceSub, Nat.reduceLeDiff, Nat.reduceLT, Nat.reduceBEq, reduceCtorEq, Int.reduceEq]; rfl) (hand_k0 (by rfl) (by rfl)) (by rfl)
    · refine AW.skip ?_
      refine seqQ.norm ?_
      refine AW.rseq ?_
      try simp only [↓wk, ↓wl, ncs, evV, wrapBits_eq, ↓reduceIte, Nat.reduceEqDiff, Nat.reduceAdd, Nat.reduceSub, Nat.reduceLeDiff, Nat.reduceLT, Nat.reduceBEq, reduceCtorEq, Int.reduceEq]
      refine evTs_fr H (fun _ h => f51_ok h) (by rfl) (by rfl) (by rfl) (by rfl) (fun _ => rfl) ?_ <;> clear H <;> intro r_532 H
      try simp only [eL, ↓wk, ↓wl, ncs, evV, wrapBits_eq, ↓reduceIte, Nat.reduceEqDiff, Nat.reduceAdd, Nat.reduceSub, Nat.reduceLeDiff, Nat.reduceLT, Nat.reduceBEq, reduceCtorEq, Int.reduceEq]
      refine AW.sseq ?_
      refine AW.rseq ?_
      try simp only [↓wk, ↓wl, ncs, evV, wrapBits_eq, ↓reduceIte, Nat.reduceEqDiff, Nat.reduceAdd, Nat.reduceSub, Nat.reduceLeDiff, Nat.reduceLT, Nat.reduceBEq, reduceCtorEq, Int.reduceEq]
      refine evTs_pure hFn H (fun _ h => f48_49_ok h) (by rfl) (by rfl) (by rfl) (by rfl) (fun _ => rfl) ?_ <;> clear H <;> intro r_533 H
      try simp only [eL, ↓wk, ↓wl, ncs, evV, wrapBits_eq, ↓reduceIte, Nat.reduceEqDiff, Nat.reduceAdd, Nat.reduceSub, Nat.reduceLeDiff, Nat.reduceLT, Nat.reduceBEq, reduceCtorEq, Int.reduceEq]
      refine AW.rseq ?_
      try simp only [↓wk, ↓wl, ncs, evV, wrapBits_eq, ↓reduceIte, Nat.reduceEqDiff, Nat.reduceAdd, Nat.reduceSub, Nat.reduceLeDiff, Nat.reduceLT, Nat.reduceBEq, reduceCtorEq, Int.reduceEq]
      refine AW.ifc H (by rfl) ?_ ?_ <;> clear H <;> intro H
      · refine AW.rend ?_
        try simp only [↓wk, ↓wl, ncs, evV, wrapBits_eq, ↓reduceIte, Nat.reduceEqDiff, Nat.reduceAdd, Nat.reduceSub, Nat.reduceLeDiff, Nat.reduceLT, Nat.reduceBEq, reduceCtorEq, Int.reduceEq]
        refine evTs_atr (enc := eApiGroup) H (by rfl) (by first | rfl | simp only [List.length_set]) (by rfl) ?_ <;> clear H <;> intro x_534 hx_534 H
        try simp only [eApiGroup, eL, ↓wk, ↓wl, ncs, evV, wrapBits_eq, ↓reduceIte, Nat.reduceEqDiff, Nat.reduceAdd, Nat.reduceSub, Nat.reduceLeDiff, Nat.reduceLT, Nat.reduceBEq, reduceCtorEq, Int.reduceEq, hx_534, eApiGroup, eL]
        refine evTs_stW (enc := eApiGroup) g_524 (by rfl) (by rfl) (by first | exact lt_map hx_534 | (simp only [List.length_set, eApiGroup, eL]; exact lt_map hx_534)) (fun _ => by rfl) ?_
        have hw_535 := set_get hx_534 g_524
        try simp only [eApiGroup, eL, ↓wk, ↓wl, ncs, evV, wrapBits_eq, ↓reduceIte, Nat.reduceEqDiff, Nat.reduceAdd, Nat.reduceSub, Nat.reduceLeDiff, Nat.reduceLT, Nat.reduceBEq, reduceCtorEq, Int.reduceEq, hx_534, eApiGroup, eL, hw_535]
        refine seqQ.norm ?_
        refine AW.sseq ?_
        refine AW.rseq ?_
        try simp only [↓wk, ↓wl, ncs, evV, wrapBits_eq, ↓reduceIte, Nat.reduceEqDiff, Nat.reduceAdd, Nat.reduceSub, Nat.reduceLeDiff, Nat.reduceLT, Nat.reduceBEq, reduceCtorEq, Int.reduceEq, hx_534, eApiGroup, eL, hw_535]
        refine AW.ifc H (by rfl) ?_ ?_ <;> clear H <;> intro H
        · refine AW.rseq ?_
          try simp only [↓wk, ↓wl, ncs, evV, wrapBits_eq, ↓reduceIte, Nat.reduceEqDiff, Nat.reduceAdd, Nat.reduceSub, Nat.reduceLeDiff, Nat.reduceLT, Nat.reduceBEq, reduceCtorEq, Int.reduceEq, hx_534, eApiGroup, eL, hw_535]
          refine AW.ret ?_
          refine seqQ.ret ?_
          cases H
          exact hQ _ _ _ _ (.inr rfl) (by simp only [resVs, omap, resV, ↓wk, ↓wl, ncs, evV, wrapBits_eq, ↓reduceIte, Nat.reduceEqDiff, Nat.reduceAdd, Nat.reduceSub, Nat.reduceLeDiff, Nat.reduceLT, Nat.reduceBEq, reduceCtorEq, Int.reduceEq, hx_534, eApiGroup, eL, hw_535]; rfl) (hand_k0 (by rfl) (by rfl)) (by rfl)
        · refine AW.skip ?_
          refine seqQ.norm ?_
          refine AW.rseq ?_
          try simp only [↓wk, ↓wl, ncs, evV, wrapBits_eq, ↓reduceIte, Nat.reduceEqDiff, Nat.reduceAdd, Nat.reduceSub, Nat.reduceLeDiff, Nat.reduceLT, Nat.reduceBEq, reduceCtorEq, Int.reduceEq, hx_534, eApiGroup, eL, hw_535]
          refine AW.ret ?_
          cases H
          exact hQ _ _ _ _ (.inr rfl) (by simp only [resVs, omap, resV, ↓wk, ↓wl, ncs, evV, wrapBits_eq, ↓reduceIte, Nat.reduceEqDiff, Nat.reduceAdd, Nat.reduceSub, Nat.reduceLeDiff, Nat.reduceLT, Nat.reduceBEq, reduceCtorEq, Int.reduceEq, hx_534, eApiGroup, eL, hw_535]; rfl) (hand_k (by rfl) (by rfl) (by simp) (enc_all _) (by rfl)) (by rfl)
      · refine AW.rend ?_
        try simp only [↓wk, ↓wl, ncs, evV, wrapBits_eq, ↓reduceIte, Nat.reduceEqDiff, Nat.reduceAdd, Nat.reduceSub, Nat.reduceLeDiff, Nat.reduceLT, Nat.reduceBEq, reduceCtorEq, Int.reduceEq]
        refine evTs_ins (enc := eApiGroup) H ins52 (by rfl) (by rfl) (by first | rfl | simp only [List.length_set]) (by rfl) ?_ <;> clear H <;> intro v_536 H
        try simp only [↓wk, ↓wl, ncs, evV, wrapBits_eq, ↓reduceIte, Nat.reduceEqDiff, Nat.reduceAdd, Nat.reduceSub, Nat.reduceLeDiff, Nat.reduceLT, Nat.reduceBEq, reduceCtorEq, Int.reduceEq]
        refine seqQ.norm ?_
        refine AW.sseq ?_
        refine AW.rseq ?_
        try simp only [↓wk, ↓wl, ncs, evV, wrapBits_eq, ↓reduceIte, Nat.reduceEqDiff, Nat.reduceAdd, Nat.reduceSub, Nat.reduceLeDiff, Nat.reduceLT, Nat.reduceBEq, reduceCtorEq, Int.reduceEq]
        refine AW.ifc H (by rfl) ?_ ?_ <;> clear H <;> intro H
        · refine AW.rseq ?_
          try simp only [↓wk, ↓wl, ncs, evV, wrapBits_eq, ↓reduceIte, Nat.reduceEqDiff, Nat.reduceAdd, Nat.reduceSub, Nat.reduceLeDiff, Nat.reduceLT, Nat.reduceBEq, reduceCtorEq, Int.reduceEq]
          refine AW.ret ?_
          refine seqQ.ret ?_
          cases H
          exact hQ _ _ _ _ (.inr rfl) (by simp only [resVs, omap, resV, ↓wk, ↓wl, ncs, evV, wrapBits_eq, ↓reduceIte, Nat.reduceEqDiff, Nat.reduceAdd, Nat.reduceSub, Nat.reduceLeDiff, Nat.reduceLT, Nat.reduceBEq, reduceCtorEq, Int.reduceEq]; rfl) (hand_k0 (by rfl) (by rfl)) (by rfl)
        · refine AW.skip ?_
          refine seqQ.norm ?_
          refine AW.rseq ?_
          try simp only [↓wk, ↓wl, ncs, evV, wrapBits_eq, ↓reduceIte, Nat.reduceEqDiff, Nat.reduceAdd, Nat.reduceSub, Nat.reduceLeDiff, Nat.reduceLT, Nat.reduceBEq, reduceCtorEq, Int.reduceEq]
          refine AW.ret ?_
          cases H
          exact hQ _ _ _ _ (.inr rfl) (by simp only [resVs, omap, resV, ↓wk, ↓wl, ncs, evV, wrapBits_eq, ↓reduceIte, Nat.reduceEqDiff, Nat.reduceAdd, Nat.reduceSub, Nat.reduceLeDiff, Nat.reduceLT, Nat.reduceBEq, reduceCtorEq, Int.reduceEq]; rfl) (hand_k (by rfl) (by rfl) (by simp) (enc_all _) (by rfl)) (by rfl)
theorem f30_im {l_523 : (List ApiGroup)} {g_524 : ApiGroup} {r_ : (List ApiGroup) × Int} (H : f30 l_523 g_524 = some r_) : Pure Try.prog 30 [.sl 2 false (l_523.map eApiGroup), .agg [.int .i64 g_524.fNumber, .sl 0 false (g_524.fChannels.map (AV.int .i64))]] (· = .tup [.sl 2 false (r_.1.map eApiGroup), .int .i64 r_.2]) := (f30_ok H).unfr (by first | exact enc_fits _ | simp only [frFits, List.all_cons, List.all_nil, enc_fits, Bool.and_self])
noncomputable def f53_J2 (l_602 : (List ApiGroup)) (i_632 : Int) (g_603 : ApiGroup) : Jn (Bool × (List ApiGroup)) (Ctl (Bool × Int × (List ApiGroup)) (Bool × (List ApiGroup))) where
  run := fun (done_647, out_648) => (at? l_602 i_632).bind fun x_649 => (if (decide (x_649.fNumber ≠ g_603.fNumber)) = true then (at? l_602 i_632).bind fun x_650 => (app? 32 out_648 ([x_650])).bind fun out_651 => (some (.next (done_647, (IntKind.i64.wrap (i_632 + 1)), out_651))) else (some (.next (done_647, (IntKind.i64.wrap (i_632 + 1)), out_648))))
  cst := fun (done_647, out_648) => ⟨put (put (put (put (put (fun _ => .junk) 7 (.int .i64 i_632)) 6 (.bool done_647)) 5 (.row 2 1 0 out_648.length)) 3 (.ptr 0 0)) 0 (.sl 2 false (l_602.map eApiGroup)), [.cel [.int .i64 g_603.fNumber, .sl 0 false (g_603.fChannels.map (AV.int .i64))], .els 2 (out_648.map eApiGroup)]⟩
noncomputable def f53_L1 (l_602 : (List ApiGroup)) (g_603 : ApiGroup) : Lp (Bool × Int × (List ApiGroup)) (Bool × (List ApiGroup)) where
  body := fun (done_631, i_632, out_633) => (if (decide (i_632 < ((l_602.length : Nat) : Int))) = true then (if (!done_631) = true then (at? l_602 i_632).bind fun x_652 => (if (decide (g_603.fNumber ≤ x_652.fNumber)) = true then (app? 32 out_633 ([g_603])).bind fun out_653 => ((f53_J2 l_602 i_632 g_603).run (true, out_653)) else ((f53_J2 l_602 i_632 g_603).run (done_631, out_633))) else ((f53_J2 l_602 i_632 g_603).run (done_631, out_633))) else (some (.brk (done_631, out_633))))
  cst := fun (done_631, i_632, out_633) => ⟨put (put (put (put (put (fun _ => .junk) 7 (.int .i64 i_632)) 6 (.bool done_631)) 5 (.row 2 1 0 out_633.length)) 3 (.ptr 0 0)) 0 (.sl 2 false (l_602.map eApiGroup)), [.cel [.int .i64 g_603.fNumber, .sl 0 false (g_603.fChannels.map (AV.int .i64))], .els 2 (out_633.map eApiGroup)]⟩
def c53_0 : C := .cond (.t 11) (.skip) (.exit 0)
def c53_1 : C := .reg [iI 6 (.mv (.c (.bool true)))]
def c53_2 : C := .cond (.t 25) (.seq (.reg [iI 26 (.mv (.t 5)), iI 27 (.load 2 (.t 3)), iI 28 (.mksl 2 1 (.agg [(.int .i64 0), (.sl 0 true [])]) [(0, (.t 27))]), iI 29 (.append 2 32 (.t 26) (.t 28)), iI 5 (.mv (.t 29))]) c53_1) (.skip)
def c53_3 : C := .cond (.t 37) (.reg [iI 38 (.mv (.t 5)), iI 39 (.mv (.t 0)), iI 40 (.mv (.t 7)), iI 41 (.iaddr 2 (.t 39) (.t 40)), iI 42 (.load 2 (.t 41)), iI 43 (.mksl 2 1 (.agg [(.int .i64 0), (.sl 0 true [])]) [(0, (.t 42))]), iI 44 (.append 2 32 (.t 38) (.t 43)), iI 5 (.mv (.t 44))]) (.skip)
def c53_4 : C := .seq (.reg [iI 30 (.mv (.t 0)), iI 31 (.mv (.t 7)), iI 32 (.iaddr 2 (.t 30) (.t 31)), iI 33 (.faddr 0 (.t 32)), iI 34 (.load 0 (.t 33)), iI 35 (.faddr 0 (.t 3)), iI 36 (.load 0 (.t 35)), iI 37 (.bin .neq (.t 34) (.t 36))]) c53_3
def c53_5 : C := .reg [iI 12 (.mv (.t 7)), iI 13 (.bin .add (.t 12) (.c (.int .i64 1))), iI 7 (.mv (.t 13))]
def c53_6 : C := .seq (.block 1 (.seq (.seq (.reg [iI 14 (.mv (.t 6)), iI 15 (.un .not (.t 14)), iI 16 (.mv (.t 15)), iG (some 17) 16 true (.mv (.t 0)), iG (some 18) 16 true (.mv (.t 7)), iG (some 19) 16 true (.iaddr 2 (.t 17) (.t 18)), iG (some 20) 16 true (.faddr 0 (.t 19)), iG (some 21) 16 true (.load 0 (.t 20)), iG (some 22) 16 true (.faddr 0 (.t 3)), iG (some 23) 16 true (.load 0 (.t 22)), iG (some 24) 16 true (.bin .geq (.t 21) (.t 23)), iI 25 (.pick (.t 16) (.t 24) (.c (.bool false)))]) c53_2) c53_4)) c53_5
def c53_7 : C := .block 0 (.loop (.seq (.seq (.reg [iI 8 (.mv (.t 7)), iI 9 (.mv (.t 0)), iI 10 (.len 0 (.t 9)), iI 11 (.bin .lss (.t 8) (.t 10))]) c53_0) c53_6))
def c53_8 : C := .cond (.t 46) (.reg [iI 47 (.mv (.t 5)), iI 48 (.load 2 (.t 3)), iI 49 (.mksl 2 1 (.agg [(.int .i64 0), (.sl 0 true [])]) [(0, (.t 48))]), iI 50 (.append 2 32 (.t 47) (.t 49)), iI 5 (.mv (.t 50))]) (.skip)
def c53_9 : C := .seq (.reg [iI 51 (.mv (.t 5)), iI 4 (.mv (.t 51))]) .ret
def c53_10 : C := .seq (.seq (.reg [iI 45 (.mv (.t 6)), iI 46 (.un .not (.t 45))]) c53_8) c53_9
def c53_11 : C := .seq (.seq (.reg [iI 7 (.mv (.c (.int .i64 0)))]) c53_7) c53_10
def c53_12 : C := .seq (.reg [iI 6 (.mv (.c (.bool false)))]) c53_11
def c53_13 : C := .seq (.reg [iI 5 (.mv (.c (.sl 2 true [])))]) c53_12
def ir53 : C := .seq (.reg [iI 3 (.box (.t 1)), iI 4 (.mv (.c (.sl 2 true [])))]) c53_13
theorem fd53 : fd? Try.prog 53 = some (52, [.slot 4], ir53) := by kernel_rfl
noncomputable def f53 (l_602 : (List ApiGroup)) (g_603 : ApiGroup) : Option ((List ApiGroup)) :=
  (Lp.run (f53_L1 l_602 g_603) (false, 0, [])).bind fun (done_641, out_642) => (if (!done_641) = true then (app? 32 out_642 ([g_603])).bind fun out_643 => (some out_643) else (some out_642))
theorem f53_ok {l_602 : (List ApiGroup)} {g_603 : ApiGroup} {r_ : (List ApiGroup)} (H : f53 l_602 g_603 = some r_) : Pure Try.prog 53 [.sl 2 false (l_602.map eApiGroup), .agg [.int .i64 g_603.fNumber, .sl 0 false (g_603.fChannels.map (AV.int .i64))]] (· = .fr 2 (r_.map eApiGroup)) := by
  refine Pure.walk2 fd53 (some 0) (Nat.le_of_ble_eq_true rfl) (by rfl) fun Q hQ => ?_
  simp only [f53] at H
  refine AW.rseq ?_
  try simp only [↓wk, ↓wl, nc, evV, wrapBits_eq, ↓reduceIte, Nat.reduceEqDiff, Nat.reduceAdd, Nat.reduceSub, Nat.reduceLeDiff, Nat.reduceLT, Nat.reduceBEq, reduceCtorEq, Int.reduceEq]
  refine AW.rseq ?_
  try simp only [↓wk, ↓wl, nc, evV, wrapBits_eq, ↓reduceIte, Nat.reduceEqDiff, Nat.reduceAdd, Nat.reduceSub, Nat.reduceLeDiff, Nat.reduceLT, Nat.reduceBEq, reduceCtorEq, Int.reduceEq]
  refine AW.rseq ?_
  try simp only [↓wk, ↓wl, nc, evV, wrapBits_eq, ↓reduceIte, Nat.reduceEqDiff, Nat.reduceAdd, Nat.reduceSub, Nat.reduceLeDiff, Nat.reduceLT, Nat.reduceBEq, reduceCtorEq, Int.reduceEq]
  refine AW.sseq ?_
  refine AW.rseq ?_
  try simp only [↓wk, ↓wl, nc, evV, wrapBits_eq, ↓reduceIte, Nat.reduceEqDiff, Nat.reduceAdd, Nat.reduceSub, Nat.reduceLeDiff, Nat.reduceLT, Nat.reduceBEq, reduceCtorEq, Int.reduceEq]
  refine AW.bend ?_
  refine AW.iter H ((Le.trans (Le.nilRow (i := 5) (e := 2) (by simp only [↓wk, ↓wl, nc, evV, wrapBits_eq, ↓reduceIte, Nat.reduceEqDiff, Nat.reduceAdd, Nat.reduceSub, Nat.reduceLeDiff, Nat.reduceLT, Nat.reduceBEq, reduceCtorEq, Int.reduceEq])) (Le.none [0, 1] [0, 3, 5, 6, 7] (by decide) (by simp only [f53_L1, List.length_set, Option.map_some, restrict_eq, renS_nil, renS_cons, renB_els, renB_cel, renB_dead, deep_eq, map_ren_enc, ren_agg', ren_tup', ren_fn', ren_int', ren_bool', ren_str', ren_sl', ren_pro', ren_nilp', ren_nilfn', ren_junk', ren_ptr', ren_row', ren_arow', ren_eptr', vm, List.idxOf?_cons, List.idxOf?_nil, beq_self_eq_true, Option.map_none, List.getD_cons_zero, List.getD_cons_succ, ↓wk, ↓wl, nc, evV, wrapBits_eq, ↓reduceIte, Nat.reduceEqDiff, Nat.reduceAdd, Nat.reduceSub, Nat.reduceLeDiff, Nat.reduceLT, Nat.reduceBEq, reduceCtorEq, Int.reduceEq])))) ?_ <;> clear H
  rintro ⟨done_631, i_632, out_633⟩ x_ st0_ H hst_
  simp only [f53_L1] at H hst_
  subst hst_
  refine AW.sseq ?_
  refine AW.rseq ?_
  try simp only [↓wk, ↓wl, nc, evV, wrapBits_eq, ↓reduceIte, Nat.reduceEqDiff, Nat.reduceAdd, Nat.reduceSub, Nat.reduceLeDiff, Nat.reduceLT, Nat.reduceBEq, reduceCtorEq, Int.reduceEq]
  refine AW.ifc H (by rfl) ?_ ?_ <;> clear H <;> intro H
  · refine AW.skip ?_
    refine seqQ.norm ?_
    refine AW.bseq ?_
    refine AW.join (f53_J2 l_602 i_632 g_603) H ?_ fun hf53_J2 => ?_
    · clear H
      rintro ⟨done_647, out_648⟩ st0_ H hst_
      simp only [f53_J2] at H hst_
      subst hst_
      refine AW.rseq ?_
      try simp only [↓wk, ↓wl, nc, evV, wrapBits_eq, ↓reduceIte, Nat.reduceEqDiff, Nat.reduceAdd, Nat.reduceSub, Nat.reduceLeDiff, Nat.reduceLT, Nat.reduceBEq, reduceCtorEq, Int.reduceEq]
      refine evTs_at (enc := eApiGroup) H (by rfl) (by rfl) ?_ <;> clear H <;> intro x_649 H
      try simp only [eApiGroup, eL, ↓wk, ↓wl, nc, evV, wrapBits_eq, ↓reduceIte, Nat.reduceEqDiff, Nat.reduceAdd, Nat.reduceSub, Nat.reduceLeDiff, Nat.reduceLT, Nat.reduceBEq, reduceCtorEq, Int.reduceEq]
      refine AW.ifc H (by rfl) ?_ ?_ <;> clear H <;> intro H
      · refine AW.rend ?_
        try simp only [↓wk, ↓wl, nc, evV, wrapBits_eq, ↓reduceIte, Nat.reduceEqDiff, Nat.reduceAdd, Nat.reduceSub, Nat.reduceLeDiff, Nat.reduceLT, Nat.reduceBEq, reduceCtorEq, Int.reduceEq]
        refine evTs_at (enc := eApiGroup) H (by rfl) (by rfl) ?_ <;> clear H <;> intro x_650 H
        try simp only [eApiGroup, eL, ↓wk, ↓wl, nc, evV, wrapBits_eq, ↓reduceIte, Nat.reduceEqDiff, Nat.reduceAdd, Nat.reduceSub, Nat.reduceLeDiff, Nat.reduceLT, Nat.reduceBEq, reduceCtorEq, Int.reduceEq]
        refine evTs_app (enc := eApiGroup) H (by rfl) (by first | rfl | simp only [List.length_set]) (by rfl) (by rfl) ?_ <;> clear H <;> intro out_651 H
        try simp only [↓wk, ↓wl, nc, evV, wrapBits_eq, ↓reduceIte, Nat.reduceEqDiff, Nat.reduceAdd, Nat.reduceSub, Nat.reduceLeDiff, Nat.reduceLT, Nat.reduceBEq, reduceCtorEq, Int.reduceEq]
        refine blkQ.norm ?_
        refine AW.rend ?_
        try simp only [↓wk, ↓wl, nc, evV, wrapBits_eq, ↓reduceIte, Nat.reduceEqDiff, Nat.reduceAdd, Nat.reduceSub, Nat.reduceLeDiff, Nat.reduceLT, Nat.reduceBEq, reduceCtorEq, Int.reduceEq]
        exact loopQ.next H ((Le.none [0, 2] [0, 3, 5, 6, 7] (by decide) (by simp only [f53_L1, List.length_set, Option.map_some, restrict_eq, renS_nil, renS_cons, renB_els, renB_cel, renB_dead, deep_eq, map_ren_enc, ren_agg', ren_tup', ren_fn', ren_int', ren_bool', ren_str', ren_sl', ren_pro', ren_nilp', ren_nilfn', ren_junk', ren_ptr', ren_row', ren_arow', ren_eptr', vm, List.idxOf?_cons, List.idxOf?_nil, beq_self_eq_true, Option.map_none, List.getD_cons_zero, List.getD_cons_succ, ↓wk, ↓wl, nc, evV, wrapBits_eq, ↓reduceIte, Nat.reduceEqDiff, Nat.reduceAdd, Nat.reduceSub, Nat.reduceLeDiff, Nat.reduceLT, Nat.reduceBEq, reduceCtorEq, Int.reduceEq])))
      · refine AW.skip ?_
        refine blkQ.norm ?_
        refine AW.rend ?_
        try simp only [↓wk, ↓wl, nc, evV, wrapBits_eq, ↓reduceIte, Nat.reduceEqDiff, Nat.reduceAdd, Nat.reduceSub, Nat.reduceLeDiff, Nat.reduceLT, Nat.reduceBEq, reduceCtorEq, Int.reduceEq]
        exact loopQ.next H ((Le.none [0, 1] [0, 3, 5, 6, 7] (by decide) (by simp only [f53_L1, List.length_set, Option.map_some, restrict_eq, renS_nil, renS_cons, renB_els, renB_cel, renB_dead, deep_eq, map_ren_enc, ren_agg', ren_tup', ren_fn', ren_int', ren_bool', ren_str', ren_sl', ren_pro', ren_nilp', ren_nilfn', ren_junk', ren_ptr', ren_row', ren_arow', ren_eptr', vm, List.idxOf?_cons, List.idxOf?_nil, beq_self_eq_true, Option.map_none, List.getD_cons_zero, List.getD_cons_succ, ↓wk, ↓wl, nc, evV, wrapBits_eq, ↓reduceIte, Nat.reduceEqDiff, Nat.reduceAdd, Nat.reduceSub, Nat.reduceLeDiff, Nat.reduceLT, Nat.reduceBEq, reduceCtorEq, Int.reduceEq])))
    · refine AW.rseq ?_
      try simp only [↓wk, ↓wl, nc, evV, wrapBits_eq, ↓reduceIte, Nat.reduceEqDiff, Nat.reduceAdd, Nat.reduceSub, Nat.reduceLeDiff, Nat.reduceLT, Nat.reduceBEq, reduceCtorEq, Int.reduceEq]
      refine evTs_ifg H (by rfl) ?_ ?_ <;> clear H <;> intro H
      · try simp only [↓wk, ↓wl, nc, evV, wrapBits_eq, ↓reduceIte, Nat.reduceEqDiff, Nat.reduceAdd, Nat.reduceSub, Nat.reduceLeDiff, Nat.reduceLT, Nat.reduceBEq, reduceCtorEq, Int.reduceEq]
        refine evTs_at (enc := eApiGroup) H (by rfl) (by rfl) ?_ <;> clear H <;> intro x_652 H
        try simp only [eApiGroup, eL, ↓wk, ↓wl, nc, evV, wrapBits_eq, ↓reduceIte, Nat.reduceEqDiff, Nat.reduceAdd, Nat.reduceSub, Nat.reduceLeDiff, Nat.reduceLT, Nat.reduceBEq, reduceCtorEq, Int.reduceEq]
        refine AW.ifc H (by rfl) ?_ ?_ <;> clear H <;> intro H
        · refine AW.rseq ?_
          try simp only [↓wk, ↓wl, nc, evV, wrapBits_eq, ↓reduceIte, Nat.reduceEqDiff, Nat.reduceAdd, Nat.reduceSub, Nat.reduceLeDiff, Nat.reduceLT, Nat.reduceBEq, reduceCtorEq, Int.reduceEq]
          refine evTs_app (enc := eApiGroup) H (by rfl) (by first | rfl | simp only [List.length_set]) (by rfl) (by rfl) ?_ <;> clear H <;> intro out_653 H
          try simp only [↓wk, ↓wl, nc, evV, wrapBits_eq, ↓reduceIte, Nat.reduceEqDiff, Nat.reduceAdd, Nat.reduceSub, Nat.reduceLeDiff, Nat.reduceLT, Nat.reduceBEq, reduceCtorEq, Int.reduceEq]
          refine AW.rend ?_
          try simp only [↓wk, ↓wl, nc, evV, wrapBits_eq, ↓reduceIte, Nat.reduceEqDiff, Nat.reduceAdd, Nat.reduceSub, Nat.reduceLeDiff, Nat.reduceLT, Nat.reduceBEq, reduceCtorEq, Int.reduceEq]
          refine seqQ.norm ?_
          exact hf53_J2 _ _ H ((Le.none [0, 2] [0, 3, 5, 6, 7] (by decide) (by simp only [f53_J2, List.length_set, Option.map_some, restrict_eq, renS_nil, renS_cons, renB_els, renB_cel, renB_dead, deep_eq, map_ren_enc, ren_agg', ren_tup', ren_fn', ren_int', ren_bool', ren_str', ren_sl', ren_pro', ren_nilp', ren_nilfn', ren_junk', ren_ptr', ren_row', ren_arow', ren_eptr', vm, List.idxOf?_cons, List.idxOf?_nil, beq_self_eq_true, Option.map_none, List.getD_cons_zero, List.getD_cons_succ, ↓wk, ↓wl, nc, evV, wrapBits_eq, ↓reduceIte, Nat.reduceEqDiff, Nat.reduceAdd, Nat.reduceSub, Nat.reduceLeDiff, Nat.reduceLT, Nat.reduceBEq, reduceCtorEq, Int.reduceEq])))
        · refine AW.skip ?_
          refine seqQ.norm ?_
          exact hf53_J2 _ _ H ((Le.none [0, 1] [0, 3, 5, 6, 7] (by decide) (by simp only [f53_J2, List.length_set, Option.map_some, restrict_eq, renS_nil, renS_cons, renB_els, renB_cel, renB_dead, deep_eq, map_ren_enc, ren_agg', ren_tup', ren_fn', ren_int', ren_bool', ren_str', ren_sl', ren_pro', ren_nilp', ren_nilfn', ren_junk', ren_ptr', ren_row', ren_arow', ren_eptr', vm, List.idxOf?_cons, List.idxOf?_nil, beq_self_eq_true, Option.map_none, List.getD_cons_zero, List.getD_cons_succ, ↓wk, ↓wl, nc, evV, wrapBits_eq, ↓reduceIte, Nat.reduceEqDiff, Nat.reduceAdd, Nat.reduceSub, Nat.reduceLeDiff, Nat.reduceLT, Nat.reduceBEq, reduceCtorEq, Int.reduceEq])))
      · try simp only [↓wk, ↓wl, nc, evV, wrapBits_eq, ↓reduceIte, Nat.reduceEqDiff, Nat.reduceAdd, Nat.reduceSub, Nat.reduceLeDiff, Nat.reduceLT, Nat.reduceBEq, reduceCtorEq, Int.reduceEq]
        refine AW.iff (by rfl) ?_
        refine AW.skip ?_
        refine seqQ.norm ?_
        exact hf53_J2 _ _ H ((Le.none [0, 1] [0, 3, 5, 6, 7] (by decide) (by simp only [f53_J2, List.length_set, Option.map_some, restrict_eq, renS_nil, renS_cons, renB_els, renB_cel, renB_dead, deep_eq, map_ren_enc, ren_agg', ren_tup', ren_fn', ren_int', ren_bool', ren_str', ren_sl', ren_pro', ren_nilp', ren_nilfn', ren_junk', ren_ptr', ren_row', ren_arow', ren_eptr', vm, List.idxOf?_cons, List.idxOf?_nil, beq_self_eq_true, Option.map_none, List.getD_cons_zero, List.getD_cons_succ, ↓wk, ↓wl, nc, evV, wrapBits_eq, ↓reduceIte, Nat.reduceEqDiff, Nat.reduceAdd, Nat.reduceSub, Nat.reduceLeDiff, Nat.reduceLT, Nat.reduceBEq, reduceCtorEq, Int.reduceEq])))
  · refine AW.exit ?_
    refine seqQ.exit ?_
    refine loopQ.exit H ?_ <;> clear H <;> intro H
    try dsimp only at H
    refine blk0.here ?_
    refine seqQ.norm ?_
    refine AW.sseq ?_
    refine AW.rseq ?_
    try simp only [↓wk, ↓wl, nc, evV, wrapBits_eq, ↓reduceIte, Nat.reduceEqDiff, Nat.reduceAdd, Nat.reduceSub, Nat.reduceLeDiff, Nat.reduceLT, Nat.reduceBEq, reduceCtorEq, Int.reduceEq]
    refine AW.ifc H (by rfl) ?_ ?_ <;> clear H <;> intro H
    · refine AW.rend ?_
      try simp only [↓wk, ↓wl, nc, evV, wrapBits_eq, ↓reduceIte, Nat.reduceEqDiff, Nat.reduceAdd, Nat.reduceSub, Nat.reduceLeDiff, Nat.reduceLT, Nat.reduceBEq, reduceCtorEq, Int.reduceEq]
      refine evTs_app (enc := eApiGroup) H (by rfl) (by first | rfl | simp only [List.length_set]) (by rfl) (by rfl) ?_ <;> clear H <;> intro out_654 H
      try simp only [↓wk, ↓wl, nc, evV, wrapBits_eq, ↓reduceIte, Nat.reduceEqDiff, Nat.reduceAdd, Nat.reduceSub, Nat.reduceLeDiff, Nat.reduceLT, Nat.reduceBEq, reduceCtorEq, Int.reduceEq]
      refine seqQ.norm ?_
      refine AW.rseq ?_
      try simp only [↓wk, ↓wl, nc, evV, wrapBits_eq, ↓reduceIte, Nat.reduceEqDiff, Nat.reduceAdd, Nat.reduceSub, Nat.reduceLeDiff, Nat.reduceLT, Nat.reduceBEq, reduceCtorEq, Int.reduceEq]
      refine AW.ret ?_
      cases H
      exact hQ _ _ _ _ (.inr rfl) (by simp only [resVs, omap, resV, ↓wk, ↓wl, nc, evV, wrapBits_eq, ↓reduceIte, Nat.reduceEqDiff, Nat.reduceAdd, Nat.reduceSub, Nat.reduceLeDiff, Nat.reduceLT, Nat.reduceBEq, reduceCtorEq, Int.reduceEq]; rfl) (hand_1 (by rfl) (by simp) (enc_all _)) (by rfl)
    · refine AW.skip ?_
      refine seqQ.norm ?_
      refine AW.rseq ?_
      try simp only [↓wk, ↓wl, nc, evV, wrapBits_eq, ↓reduceIte, Nat.reduceEqDiff, Nat.reduceAdd, Nat.reduceSub, Nat.reduceLeDiff, Nat.reduceLT, Nat.reduceBEq, reduceCtorEq, Int.reduceEq]
      refine AW.ret ?_
      cases H
      exact hQ _ _ _ _ (.inr rfl) (by simp only [resVs, omap, resV, ↓wk, ↓wl, nc, evV, wrapBits_eq, ↓reduceIte, Nat.reduceEqDiff, Nat.reduceAdd, Nat.reduceSub, Nat.reduceLeDiff, Nat.reduceLT, Nat.reduceBEq, reduceCtorEq, Int.reduceEq]; rfl) (hand_1 (by rfl) (by simp) (enc_all _)) (by rfl)
theorem f53_im {l_602 : (List ApiGroup)} {g_603 : ApiGroup} {r_ : (List ApiGroup)} (H : f53 l_602 g_603 = some r_) : Pure Try.prog 53 [.sl 2 false (l_602.map eApiGroup), .agg [.int .i64 g_603.fNumber, .sl 0 false (g_603.fChannels.map (AV.int .i64))]] (· = .sl 2 false (r_.map eApiGroup)) := (f53_ok H).unfr (by first | exact enc_fits _ | simp only [frFits, List.all_cons, List.all_nil, enc_fits, Bool.and_self])
def c31_0 : C := .cond (.t 12) (.seq (.reg [iI 13 (.mv (.t 6)), iI 4 (.mv (.c (.sl 2 true []))), iI 5 (.mv (.t 13))]) .ret) (.skip)
def c31_1 : C := .seq (.reg [iI 11 (.mv (.t 6)), iI 12 (.bin .neq (.t 11) (.c (.int .i64 0)))]) c31_0
def c31_2 : C := .cond (.t 17) (.seq (.reg [iI 18 (.mv (.t 7)), iI 4 (.mv (.c (.sl 2 true []))), iI 5 (.mv (.t 18))]) .ret) (.skip)
def c31_3 : C := .seq (.reg [iI 16 (.mv (.t 7)), iI 17 (.bin .neq (.t 16) (.c (.int .i64 0)))]) c31_2
def c31_4 : C := .cond (.t 24) (.seq (.reg [iI 4 (.mv (.c (.sl 2 true []))), iI 5 (.mv (.c (.int .i64 5)))]) .ret) (.skip)
def c31_5 : C := .seq (.reg [iI 25 (.mv (.t 8)), iI 4 (.mv (.t 25)), iI 5 (.mv (.c (.int .i64 0)))]) .ret
def c31_6 : C := .seq (.seq (.reg [iI 22 (.mv (.t 8)), iI 23 (.len 0 (.t 22)), iI 24 (.bin .gtr (.t 23) (.c (.int .i64 32)))]) c31_4) c31_5
def c31_7 : C := .seq (.reg [iI 19 (.mv (.t 0)), iI 20 (.load 2 (.t 3)), iI 21 (.call (.c (.fn 53 [])) [(.t 19), (.t 20)]), iI 8 (.mv (.t 21))]) c31_6
def c31_8 : C := .seq (.seq (.reg [iI 14 (.load 2 (.t 3)), iI 15 (.call (.c (.fn 21 [])) [(.t 14)]), iI 7 (.mv (.t 15))]) c31_3) c31_7
def c31_9 : C := .seq (.seq (.reg [iI 9 (.mv (.t 0)), iI 10 (.call (.c (.fn 23 [])) [(.t 9)]), iI 6 (.mv (.t 10))]) c31_1) c31_8
def ir31 : C := .seq (.reg [iI 3 (.box (.t 1)), iI 4 (.mv (.c (.sl 2 true []))), iI 5 (.mv (.c (.int .i64 0)))]) c31_9
theorem fd31 : fd? Try.prog 31 = some (26, [.slot 4, .slot 5], ir31) := by kernel_rfl
noncomputable def f31 (l_597 : (List ApiGroup)) (g_598 : ApiGroup) : Option ((List ApiGroup) × Int) :=
  (f23 l_597).bind fun r_600 => (if (decide (r_600 ≠ 0)) = true then (some ([], r_600)) else (f21 g_598).bind fun r_601 => (if (decide (r_601 ≠ 0)) = true then (some ([], r_601)) else (f53 l_597 g_598).bind fun r_655 => (if (decide (32 < ((r_655.length : Nat) : Int))) = true then (some ([], 5)) else (some (r_655, 0)))))
theorem f31_ok {l_597 : (List ApiGroup)} {g_598 : ApiGroup} {r_ : (List ApiGroup) × Int} (H : f31 l_597 g_598 = some r_) : Pure Try.prog 31 [.sl 2 false (l_597.map eApiGroup), .agg [.int .i64 g_598.fNumber, .sl 0 false (g_598.fChannels.map (AV.int .i64))]] (· = .tup [.sl 2 false (r_.1.map eApiGroup), .int .i64 r_.2]) := by
  refine Pure.walk2 fd31 none (Nat.le_of_ble_eq_true rfl) (by rfl) fun Q hQ => ?_
  simp only [f31] at H
  refine AW.rseq ?_
  try simp only [↓wk, ↓wl, nc, evV, wrapBits_eq, ↓reduceIte, Nat.reduceEqDiff, Nat.reduceAdd, Nat.reduceSub, Nat.reduceLeDiff, Nat.reduceLT, Nat.reduceBEq, reduceCtorEq, Int.reduceEq]
  refine AW.sseq ?_
  refine AW.rseq ?_
  try simp only [↓wk, ↓wl, nc, evV, wrapBits_eq, ↓reduceIte, Nat.reduceEqDiff, Nat.reduceAdd, Nat.reduceSub, Nat.reduceLeDiff, Nat.reduceLT, Nat.reduceBEq, reduceCtorEq, Int.reduceEq]
  refine evTs_pure hFn H (fun _ h => f23_ok h) (by rfl) (by rfl) (by rfl) (by rfl) (fun _ => rfl) ?_ <;> clear H <;> intro r_600 H
  try simp only [eL, ↓wk, ↓wl, nc, evV, wrapBits_eq, ↓reduceIte, Nat.reduceEqDiff, Nat.reduceAdd, Nat.reduceSub, Nat.reduceLeDiff, Nat.reduceLT, Nat.reduceBEq, reduceCtorEq, Int.reduceEq]
  refine AW.rseq ?_
  try simp only [↓wk, ↓wl, nc, evV, wrapBits_eq, ↓reduceIte, Nat.reduceEqDiff, Nat.reduceAdd, Nat.reduceSub, Nat.reduceLeDiff, Nat.reduceLT, Nat.reduceBEq, reduceCtorEq, Int.reduceEq]
  refine AW.ifc H (by rfl) ?_ ?_ <;> clear H <;> intro H
  · refine AW.rseq ?_
    try simp only [↓wk, ↓wl, nc, evV, wrapBits_eq, ↓reduceIte, Nat.reduceEqDiff, Nat.reduceAdd, Nat.reduceSub, Nat.reduceLeDiff, Nat.reduceLT, Nat.reduceBEq, reduceCtorEq, Int.reduceEq]
    refine AW.ret ?_
    refine seqQ.ret ?_
    cases H
    exact hQ _ _ _ _ (.inr rfl) (by simp only [resVs, omap, resV, ↓wk, ↓wl, nc, evV, wrapBits_eq, ↓reduceIte, Nat.reduceEqDiff, Nat.reduceAdd, Nat.reduceSub, Nat.reduceLeDiff, Nat.reduceLT, Nat.reduceBEq, reduceCtorEq, Int.reduceEq]; rfl) (hand_plain (by rfl)) (by rfl)
  · refine AW.skip ?_
    refine seqQ.norm ?_
    refine AW.sseq ?_
    refine AW.rseq ?_
    try simp only [↓wk, ↓wl, nc, evV, wrapBits_eq, ↓reduceIte, Nat.reduceEqDiff, Nat.reduceAdd, Nat.reduceSub, Nat.reduceLeDiff, Nat.reduceLT, Nat.reduceBEq, reduceCtorEq, Int.reduceEq]
    refine evTs_pure hFn H (fun _ h => f21_ok h) (by rfl) (by rfl) (by rfl) (by rfl) (fun _ => rfl) ?_ <;> clear H <;> intro r_601 H
    try simp only [eL, ↓wk, ↓wl, nc, evV, wrapBits_eq, ↓reduceIte, Nat.reduceEqDiff, Nat.reduceAdd, Nat.reduceSub, Nat.reduceLeDiff, Nat.reduceLT, Nat.reduceBEq, reduceCtorEq, Int.reduceEq]
    refine AW.rseq ?_
    try simp only [↓wk, ↓wl, nc, evV, wrapBits_eq, ↓reduceIte, Nat.reduceEqDiff, Nat.reduceAdd, Nat.reduceSub, Nat.reduceLeDiff, Nat.reduceLT, Nat.reduceBEq, reduceCtorEq, Int.reduceEq]
    refine AW.ifc H (by rfl) ?_ ?_ <;> clear H <;> intro H
    · refine AW.rseq ?_
      try simp only [↓wk, ↓wl, nc, evV, wrapBits_eq, ↓reduceIte, Nat.reduceEqDiff, Nat.reduceAdd, Nat.reduceSub, Nat.reduceLeDiff, Nat.reduceLT, Nat.reduceBEq, reduceCtorEq, Int.reduceEq]
      refine AW.ret ?_
      refine seqQ.ret ?_
      cases H
      exact hQ _ _ _ _ (.inr rfl) (by simp only [resVs, omap, resV, ↓wk, ↓wl, nc, evV, wrapBits_eq, ↓reduceIte, Nat.reduceEqDiff, Nat.reduceAdd, Nat.reduceSub, Nat.reduceLeDiff, Nat.reduceLT, Nat.reduceBEq, reduceCtorEq, Int.reduceEq]; rfl) (hand_plain (by rfl)) (by rfl)
    · refine AW.skip ?_
      refine seqQ.norm ?_
      refine AW.rseq ?_
      try simp only [↓wk, ↓wl, nc, evV, wrapBits_eq, ↓reduceIte, Nat.reduceEqDiff, Nat.reduceAdd, Nat.reduceSub, Nat.reduceLeDiff, Nat.reduceLT, Nat.reduceBEq, reduceCtorEq, Int.reduceEq]
      refine evTs_pure hFn H (fun _ h => f53_im h) (by rfl) (by rfl) (by rfl) (by rfl) (fun _ => rfl) ?_ <;> clear H <;> intro r_655 H
      try simp only [eL, ↓wk, ↓wl, nc, evV, wrapBits_eq, ↓reduceIte, Nat.reduceEqDiff, Nat.reduceAdd, Nat.reduceSub, Nat.reduceLeDiff, Nat.reduceLT, Nat.reduceBEq, reduceCtorEq, Int.reduceEq]
      refine AW.sseq ?_
      refine AW.rseq ?_
      try simp only [↓wk, ↓wl, nc, evV, wrapBits_eq, ↓reduceIte, Nat.reduceEqDiff, Nat.reduceAdd, Nat.reduceSub, Nat.reduceLeDiff, Nat.reduceLT, Nat.reduceBEq, reduceCtorEq, Int.reduceEq]
      refine AW.ifc H (by rfl) ?_ ?_ <;> clear H <;> intro H
      · refine AW.rseq ?_
        try simp only [↓wk, ↓wl, nc, evV, wrapBits_eq, ↓reduceIte, Nat.reduceEqDiff, Nat.reduceAdd, Nat.reduceSub, Nat.reduceLeDiff, Nat.reduceLT, Nat.reduceBEq, reduceCtorEq, Int.reduceEq]
        refine AW.ret ?_
        refine seqQ.ret ?_
        cases H
        exact hQ _ _ _ _ (.inr rfl) (by simp only [resVs, omap, resV, ↓wk, ↓wl, nc, evV, wrapBits_eq, ↓reduceIte, Nat.reduceEqDiff, Nat.reduceAdd, Nat.reduceSub, Nat.reduceLeDiff, Nat.reduceLT, Nat.reduceBEq, reduceCtorEq, Int.reduceEq]; rfl) (hand_plain (by rfl)) (by rfl)
      · refine AW.skip ?_
        refine seqQ.norm ?_
        refine AW.rseq ?_
        try simp only [↓wk, ↓wl, nc, evV, wrapBits_eq, ↓reduceIte, Nat.reduceEqDiff, Nat.reduceAdd, Nat.reduceSub, Nat.reduceLeDiff, Nat.reduceLT, Nat.reduceBEq, reduceCtorEq, Int.reduceEq]
        refine AW.ret ?_
        cases H
        exact hQ _ _ _ _ (.inr rfl) (by simp only [resVs, omap, resV, ↓wk, ↓wl, nc, evV, wrapBits_eq, ↓reduceIte, Nat.reduceEqDiff, Nat.reduceAdd, Nat.reduceSub, Nat.reduceLeDiff, Nat.reduceLT, Nat.reduceBEq, reduceCtorEq, Int.reduceEq]; rfl) (hand_plain (by rfl)) (by rfl)
theorem del54 : fd? Try.prog 54 = some (33, [.slot 6], delC 2 32 (.agg [(.int .i64 0), (.sl 0 true [])])) := by kernel_rfl
def c32_0 : C := .cond (.t 12) (.seq (.reg [iI 13 (.mv (.t 6)), iI 4 (.mv (.c (.sl 2 true []))), iI 5 (.mv (.t 13))]) .ret) (.skip)
def c32_1 : C := .seq (.reg [iI 11 (.mv (.t 6)), iI 12 (.bin .neq (.t 11) (.c (.int .i64 0)))]) c32_0
def c32_2 : C := .cond (.t 21) (.seq (.reg [iI 4 (.mv (.c (.sl 2 true []))), iI 5 (.mv (.c (.int .i64 6)))]) .ret) (.skip)
def c32_3 : C := .seq (.reg [iI 22 (.mv (.t 0)), iI 23 (.call (.c (.fn 51 [])) [(.t 22)]), iI 24 (.mv (.t 7)), iI 25 (.mv (.t 7)), iI 26 (.bin .add (.t 25) (.c (.int .i64 1))), iI 27 (.call (.c (.fn 54 [])) [(.t 23), (.t 24), (.t 26)]), iI 4 (.mv (.t 27)), iI 5 (.mv (.c (.int .i64 0)))]) .ret
def c32_4 : C := .seq (.seq (.reg [iI 20 (.mv (.t 8)), iI 21 (.un .not (.t 20))]) c32_2) c32_3
def c32_5 : C := .seq (.reg [iI 15 (.mv (.t 0)), iI 16 (.mv (.t 1)), iI 17 (.call (.c (.fn 48 [])) [(.t 15), (.c (.fn 49 [])), (.t 16)]), iI 14 (.mv (.t 17)), iI 18 (.ext (.t 14) 0), iI 19 (.ext (.t 14) 1), iI 7 (.mv (.t 18)), iI 8 (.mv (.t 19))]) c32_4
def c32_6 : C := .seq (.seq (.reg [iI 9 (.mv (.t 0)), iI 10 (.call (.c (.fn 22 [])) [(.t 9)]), iI 6 (.mv (.t 10))]) c32_1) c32_5
def ir32 : C := .seq (.reg [iI 4 (.mv (.c (.sl 2 true []))), iI 5 (.mv (.c (.int .i64 0)))]) c32_6
theorem fd32 : fd? Try.prog 32 = some (28, [.slot 4, .slot 5], ir32) := by kernel_rfl
noncomputable def f32 (l_663 : (List ApiGroup)) (n_664 : Int) : Option ((List ApiGroup) × Int) :=
  (f22 l_663).bind fun r_666 => (if (decide (r_666 ≠ 0)) = true then (some ([], r_666)) else (f48_49 l_663 n_664).bind fun r_667 => (if (!r_667.2) = true then (some ([], 6)) else (f51 l_663).bind fun r_668 => (del? r_668 r_667.1 (IntKind.i64.wrap (r_667.1 + 1))).bind fun v_669 => (some (v_669, 0))))
theorem f32_ok {l_663 : (List ApiGroup)} {n_664 : Int} {r_ : (List ApiGroup) × Int} (H : f32 l_663 n_664 = some r_) : Pure Try.prog 32 [.sl 2 false (l_663.map eApiGroup), .int .i64 n_664] (· = .tup [.fr 2 (r_.1.map eApiGroup), .int .i64 r_.2]) := by
  refine Pure.walk2 fd32 (some 0) (Nat.le_of_ble_eq_true rfl) (by rfl) fun Q hQ => ?_
  simp only [f32] at H
  refine AW.rseq ?_
  try simp only [↓wk, ↓wl, nc, evV, wrapBits_eq, ↓reduceIte, Nat.reduceEqDiff, Nat.reduceAdd, Nat.reduceSub, Nat.reduceLeDiff, Nat.reduceLT, Nat.reduceBEq, reduceCtorEq, Int.reduceEq]
  refine AW.sseq ?_
  refine AW.rseq ?_
  try simp only [↓wk, ↓wl, nc, evV, wrapBits_eq, ↓reduceIte, Nat.reduceEqDiff, Nat.reduceAdd, Nat.reduceSub, Nat.reduceLeDiff, Nat.reduceLT, Nat.reduceBEq, reduceCtorEq, Int.reduceEq]
  refine evTs_pure hFn H (fun _ h => f22_ok h) (by rfl) (by rfl) (by rfl) (by rfl) (fun _ => rfl) ?_ <;> clear H <;> intro r_666 H
  try simp only [eL, ↓wk, ↓wl, nc, evV, wrapBits_eq, ↓reduceIte, Nat.reduceEqDiff, Nat.reduceAdd, Nat.reduceSub, Nat.reduceLeDiff, Nat.reduceLT, Nat.reduceBEq, reduceCtorEq, Int.reduceEq]
  refine AW.rseq ?_
  try simp only [↓wk, ↓wl, nc, evV, wrapBits_eq, ↓reduceIte, Nat.reduceEqDiff, Nat.reduceAdd, Nat.reduceSub, Nat.reduceLeDiff, Nat.reduceLT, Nat.reduceBEq, reduceCtorEq, Int.reduceEq]
  refine AW.ifc H (by rfl) ?_ ?_ <;> clear H <;> intro H
  · refine AW.rseq ?_
    try simp only [↓wk, ↓wl, nc, evV, wrapBits_eq, ↓reduceIte, Nat.reduceEqDiff, Nat.reduceAdd, Nat.reduceSub, Nat.reduceLeDiff, Nat.reduceLT, Nat.reduceBEq, reduceCtorEq, Int.reduceEq]
    refine AW.ret ?_
    refine seqQ.ret ?_
    cases H
    exact hQ _ _ _ _ (.inr rfl) (by simp only [resVs, omap, resV, ↓wk, ↓wl, nc, evV, wrapBits_eq, ↓reduceIte, Nat.reduceEqDiff, Nat.reduceAdd, Nat.reduceSub, Nat.reduceLeDiff, Nat.reduceLT, Nat.reduceBEq, reduceCtorEq, Int.reduceEq]; rfl) (hand_k0 (by rfl) (by rfl)) (by rfl)
  · refine AW.skip ?_
    refine seqQ.norm ?_
    refine AW.rseq ?_
    try simp only [↓wk, ↓wl, nc, evV, wrapBits_eq, ↓reduceIte, Nat.reduceEqDiff, Nat.reduceAdd, Nat.reduceSub, Nat.reduceLeDiff, Nat.reduceLT, Nat.reduceBEq, reduceCtorEq, Int.reduceEq]
    refine evTs_pure hFn H (fun _ h => f48_49_ok h) (by rfl) (by rfl) (by rfl) (by rfl) (fun _ => rfl) ?_ <;> clear H <;> intro r_667 H
    try simp only [eL, ↓wk, ↓wl, nc, evV, wrapBits_eq, ↓reduceIte, Nat.reduceEqDiff, Nat.reduceAdd, Nat.reduceSub, Nat.reduceLeDiff, Nat.reduceLT, Nat.reduceBEq, reduceCtorEq, Int.reduceEq]
    refine AW.sseq ?_
    refine AW.rseq ?_
    try simp only [↓wk, ↓wl, nc, evV, wrapBits_eq, ↓reduceIte, Nat.reduceEqDiff, Nat.reduceAdd, Nat.reduceSub, Nat.reduceLeDiff, Nat.reduceLT, Nat.reduceBEq, reduceCtorEq, Int.reduceEq]
    refine AW.ifc H (by rfl) ?_ ?_ <;> clear H <;> intro H
    · refine AW.rseq ?_
      try simp only [↓wk, ↓wl, nc, evV, wrapBits_eq, ↓reduceIte, Nat.reduceEqDiff, Nat.reduceAdd, Nat.reduceSub, Nat.reduceLeDiff, Nat.reduceLT, Nat.reduceBEq, reduceCtorEq, Int.reduceEq]
      refine AW.ret ?_
      refine seqQ.ret ?_
      cases H
      exact hQ _ _ _ _ (.inr rfl) (by simp only [resVs, omap, resV, ↓wk, ↓wl, nc, evV, wrapBits_eq, ↓reduceIte, Nat.reduceEqDiff, Nat.reduceAdd, Nat.reduceSub, Nat.reduceLeDiff, Nat.reduceLT, Nat.reduceBEq, reduceCtorEq, Int.reduceEq]; rfl) (hand_k0 (by rfl) (by rfl)) (by rfl)
    · refine AW.skip ?_
      refine seqQ.norm ?_
      refine AW.rseq ?_
      try simp only [↓wk, ↓wl, nc, evV, wrapBits_eq, ↓reduceIte, Nat.reduceEqDiff, Nat.reduceAdd, Nat.reduceSub, Nat.reduceLeDiff, Nat.reduceLT, Nat.reduceBEq, reduceCtorEq, Int.reduceEq]
      refine evTs_fr H (fun _ h => f51_ok h) (by rfl) (by rfl) (by rfl) (by rfl) (fun _ => rfl) ?_ <;> clear H <;> intro r_668 H
      try simp only [eL, ↓wk, ↓wl, nc, evV, wrapBits_eq, ↓reduceIte, Nat.reduceEqDiff, Nat.reduceAdd, Nat.reduceSub, Nat.reduceLeDiff, Nat.reduceLT, Nat.reduceBEq, reduceCtorEq, Int.reduceEq]
      refine evTs_del (enc := eApiGroup) H del54 (by rfl) (by rfl) (by first | rfl | simp only [List.length_set]) (by rfl) ?_ <;> clear H <;> intro v_669 H
      try simp only [↓wk, ↓wl, nc, evV, wrapBits_eq, ↓reduceIte, Nat.reduceEqDiff, Nat.reduceAdd, Nat.reduceSub, Nat.reduceLeDiff, Nat.reduceLT, Nat.reduceBEq, reduceCtorEq, Int.reduceEq]
      refine AW.ret ?_
      cases H
      exact hQ _ _ _ _ (.inr rfl) (by simp only [resVs, omap, resV, ↓wk, ↓wl, nc, evV, wrapBits_eq, ↓reduceIte, Nat.reduceEqDiff, Nat.reduceAdd, Nat.reduceSub, Nat.reduceLeDiff, Nat.reduceLT, Nat.reduceBEq, reduceCtorEq, Int.reduceEq]; rfl) (hand_k (by rfl) (by rfl) (by simp) (enc_all _) (by rfl)) (by rfl)
theorem f32_im {l_663 : (List ApiGroup)} {n_664 : Int} {r_ : (List ApiGroup) × Int} (H : f32 l_663 n_664 = some r_) : Pure Try.prog 32 [.sl 2 false (l_663.map eApiGroup), .int .i64 n_664] (· = .tup [.sl 2 false (r_.1.map eApiGroup), .int .i64 r_.2]) := (f32_ok H).unfr (by first | exact enc_fits _ | simp only [frFits, List.all_cons, List.all_nil, enc_fits, Bool.and_self])
noncomputable def f55_L1 (l_704 : (List ApiGroup)) (number_705 : Int) : Lp (Int × (List ApiGroup)) ((List ApiGroup)) where
  body := fun (i_717, out_718) => (if (decide (i_717 < ((l_704.length : Nat) : Int))) = true then (at? l_704 i_717).bind fun x_723 => (if (decide (x_723.fNumber ≠ number_705)) = true then (at? l_704 i_717).bind fun x_724 => (app? 32 out_718 ([x_724])).bind fun out_725 => (some (.next ((IntKind.i64.wrap (i_717 + 1)), out_725))) else (some (.next ((IntKind.i64.wrap (i_717 + 1)), out_718)))) else (some (.brk out_718)))
  cst := fun (i_717, out_718) => ⟨put (put (put (put (fun _ => .junk) 6 (.int .i64 i_717)) 5 (.row 2 0 0 out_718.length)) 1 (.int .i64 number_705)) 0 (.sl 2 false (l_704.map eApiGroup)), [.els 2 (out_718.map eApiGroup)]⟩
def c55_0 : C := .cond (.t 10) (.skip) (.exit 0)
def c55_1 : C := .cond (.t 19) (.reg [iI 20 (.mv (.t 5)), iI 21 (.mv (.t 0)), iI 22 (.mv (.t 6)), iI 23 (.iaddr 2 (.t 21) (.t 22)), iI 24 (.load 2 (.t 23)), iI 25 (.mksl 2 1 (.agg [(.int .i64 0), (.sl 0 true [])]) [(0, (.t 24))]), iI 26 (.append 2 32 (.t 20) (.t 25)), iI 5 (.mv (.t 26))]) (.skip)
def c55_2 : C := .reg [iI 11 (.mv (.t 6)), iI 12 (.bin .add (.t 11) (.c (.int .i64 1))), iI 6 (.mv (.t 12))]
def c55_3 : C := .seq (.block 1 (.seq (.reg [iI 13 (.mv (.t 0)), iI 14 (.mv (.t 6)), iI 15 (.iaddr 2 (.t 13) (.t 14)), iI 16 (.faddr 0 (.t 15)), iI 17 (.load 0 (.t 16)), iI 18 (.mv (.t 1)), iI 19 (.bin .neq (.t 17) (.t 18))]) c55_1)) c55_2
def c55_4 : C := .block 0 (.loop (.seq (.seq (.reg [iI 7 (.mv (.t 6)), iI 8 (.mv (.t 0)), iI 9 (.len 0 (.t 8)), iI 10 (.bin .lss (.t 7) (.t 9))]) c55_0) c55_3))
def c55_5 : C := .seq (.reg [iI 27 (.mv (.t 5)), iI 4 (.mv (.t 27))]) .ret
def c55_6 : C := .seq (.seq (.reg [iI 6 (.mv (.c (.int .i64 0)))]) c55_4) c55_5
def c55_7 : C := .seq (.reg [iI 5 (.mv (.c (.sl 2 true [])))]) c55_6
def ir55 : C := .seq (.reg [iI 4 (.mv (.c (.sl 2 true [])))]) c55_7
theorem fd55 : fd? Try.prog 55 = some (28, [.slot 4], ir55) := by kernel_rfl
noncomputable def f55 (l_704 : (List ApiGroup)) (number_705 : Int) : Option ((List ApiGroup)) :=
  (Lp.run (f55_L1 l_704 number_705) (0, [])).bind fun out_722 => (some out_722)
theorem f55_ok {l_704 : (List ApiGroup)} {number_705 : Int} {r_ : (List ApiGroup)} (H : f55 l_704 number_705 = some r_) : Pure Try.prog 55 [.sl 2 false (l_704.map eApiGroup), .int .i64 number_705] (· = .fr 2 (r_.map eApiGroup)) := by
  refine Pure.walk2 fd55 (some 0) (Nat.le_of_ble_eq_true rfl) (by rfl) fun Q hQ => ?_
  simp only [f55] at H
  refine AW.rseq ?_
  try simp only [↓wk, ↓wl, nc, evV, wrapBits_eq, ↓reduceIte, Nat.reduceEqDiff, Nat.reduceAdd, Nat.reduceSub, Nat.reduceLeDiff, Nat.reduceLT, Nat.reduceBEq, reduceCtorEq, Int.reduceEq]
  refine AW.rseq ?_
  try simp only [↓wk, ↓wl, nc, evV, wrapBits_eq, ↓reduceIte, Nat.reduceEqDiff, Nat.reduceAdd, Nat.reduceSub, Nat.reduceLeDiff, Nat.reduceLT, Nat.reduceBEq, reduceCtorEq, Int.reduceEq]
  refine AW.sseq ?_
  refine AW.rseq ?_
  try simp only [↓wk, ↓wl, nc, evV, wrapBits_eq, ↓reduceIte, Nat.reduceEqDiff, Nat.reduceAdd, Nat.reduceSub, Nat.reduceLeDiff, Nat.reduceLT, Nat.reduceBEq, reduceCtorEq, Int.reduceEq]
  refine AW.bend ?_
  refine AW.iter H ((Le.trans (Le.nilRow (i := 5) (e := 2) (by simp only [↓wk, ↓wl, nc, evV, wrapBits_eq, ↓reduceIte, Nat.reduceEqDiff, Nat.reduceAdd, Nat.reduceSub, Nat.reduceLeDiff, Nat.reduceLT, Nat.reduceBEq, reduceCtorEq, Int.reduceEq])) (Le.none [0] [0, 1, 5, 6] (by decide) (by simp only [f55_L1, List.length_set, Option.map_some, restrict_eq, renS_nil, renS_cons, renB_els, renB_cel, renB_dead, deep_eq, map_ren_enc, ren_agg', ren_tup', ren_fn', ren_int', ren_bool', ren_str', ren_sl', ren_pro', ren_nilp', ren_nilfn', ren_junk', ren_ptr', ren_row', ren_arow', ren_eptr', vm, List.idxOf?_cons, List.idxOf?_nil, beq_self_eq_true, Option.map_none, List.getD_cons_zero, List.getD_cons_succ, ↓wk, ↓wl, nc, evV, wrapBits_eq, ↓reduceIte, Nat.reduceEqDiff, Nat.reduceAdd, Nat.reduceSub, Nat.reduceLeDiff, Nat.reduceLT, Nat.reduceBEq, reduceCtorEq, Int.reduceEq])))) ?_ <;> clear H
  rintro ⟨i_717, out_718⟩ x_ st0_ H hst_
  simp only [f55_L1] at H hst_
  subst hst_
  refine AW.sseq ?_
  refine AW.rseq ?_
  try simp only [↓wk, ↓wl, nc, evV, wrapBits_eq, ↓reduceIte, Nat.reduceEqDiff, Nat.reduceAdd, Nat.reduceSub, Nat.reduceLeDiff, Nat.reduceLT, Nat.reduceBEq, reduceCtorEq, Int.reduceEq]
  refine AW.ifc H (by rfl) ?_ ?_ <;> clear H <;> intro H
  · refine AW.skip ?_
    refine seqQ.norm ?_
    refine AW.bseq ?_
    refine AW.rseq ?_
    try simp only [↓wk, ↓wl, nc, evV, wrapBits_eq, ↓reduceIte, Nat.reduceEqDiff, Nat.reduceAdd, Nat.reduceSub, Nat.reduceLeDiff, Nat.reduceLT, Nat.reduceBEq, reduceCtorEq, Int.reduceEq]
    refine evTs_at (enc := eApiGroup) H (by rfl) (by rfl) ?_ <;> clear H <;> intro x_723 H
    try simp only [eApiGroup, eL, ↓wk, ↓wl, nc, evV, wrapBits_eq, ↓reduceIte, Nat.reduceEqDiff, Nat.reduceAdd, Nat.reduceSub, Nat.reduceLeDiff, Nat.reduceLT, Nat.reduceBEq, reduceCtorEq, Int.reduceEq]
    refine AW.ifc H (by rfl) ?_ ?_ <;> clear H <;> intro H
    · refine AW.rend ?_
      try simp only [↓wk, ↓wl, nc, evV, wrapBits_eq, ↓reduceIte, Nat.reduceEqDiff, Nat.reduceAdd, Nat.reduceSub, Nat.reduceLeDiff, Nat.reduceLT, Nat.reduceBEq, reduceCtorEq, Int.reduceEq]
      refine evTs_at (enc := eApiGroup) H (by rfl) (by rfl) ?_ <;> clear H <;> intro x_724 H
      try simp only [eApiGroup, eL, ↓wk, ↓wl, nc, evV, wrapBits_eq, ↓reduceIte, Nat.reduceEqDiff, Nat.reduceAdd, Nat.reduceSub, Nat.reduceLeDiff, Nat.reduceLT, Nat.reduceBEq, reduceCtorEq, Int.reduceEq]
      refine evTs_app (enc := eApiGroup) H (by rfl) (by first | rfl | simp only [List.length_set]) (by rfl) (by rfl) ?_ <;> clear H <;> intro out_725 H
      try simp only [↓wk, ↓wl, nc, evV, wrapBits_eq, ↓reduceIte, Nat.reduceEqDiff, Nat.reduceAdd, Nat.reduceSub, Nat.reduceLeDiff, Nat.reduceLT, Nat.reduceBEq, reduceCtorEq, Int.reduceEq]
      refine blkQ.norm ?_
      refine AW.rend ?_
      try simp only [↓wk, ↓wl, nc, evV, wrapBits_eq, ↓reduceIte, Nat.reduceEqDiff, Nat.reduceAdd, Nat.reduceSub, Nat.reduceLeDiff, Nat.reduceLT, Nat.reduceBEq, reduceCtorEq, Int.reduceEq]
      exact loopQ.next H ((Le.none [1] [0, 1, 5, 6] (by decide) (by simp only [f55_L1, List.length_set, Option.map_some, restrict_eq, renS_nil, renS_cons, renB_els, renB_cel, renB_dead, deep_eq, map_ren_enc, ren_agg', ren_tup', ren_fn', ren_int', ren_bool', ren_str', ren_sl', ren_pro', ren_nilp', ren_nilfn', ren_junk', ren_ptr', ren_row', ren_arow', ren_eptr', vm, List.idxOf?_cons, List.idxOf?_nil, beq_self_eq_true, Option.map_none, List.getD_cons_zero, List.getD_cons_succ, ↓wk, ↓wl, nc, evV, wrapBits_eq, ↓reduceIte, Nat.reduceEqDiff, Nat.reduceAdd, Nat.reduceSub, Nat.reduceLeDiff, Nat.reduceLT, Nat.reduceBEq, reduceCtorEq, Int.reduceEq])))
    · refine AW.skip ?_
      refine blkQ.norm ?_
      refine AW.rend ?_
      try simp only [↓wk, ↓wl, nc, evV, wrapBits_eq, ↓reduceIte, Nat.reduceEqDiff, Nat.reduceAdd, Nat.reduceSub, Nat.reduceLeDiff, Nat.reduceLT, Nat.reduceBEq, reduceCtorEq, Int.reduceEq]
      exact loopQ.next H ((Le.none [0] [0, 1, 5, 6] (by decide) (by simp only [f55_L1, List.length_set, Option.map_some, restrict_eq, renS_nil, renS_cons, renB_els, renB_cel, renB_dead, deep_eq, map_ren_enc, ren_agg', ren_tup', ren_fn', ren_int', ren_bool', ren_str', ren_sl', ren_pro', ren_nilp', ren_nilfn', ren_junk', ren_ptr', ren_row', ren_arow', ren_eptr', vm, List.idxOf?_cons, List.idxOf?_nil, beq_self_eq_true, Option.map_none, List.getD_cons_zero, List.getD_cons_succ, ↓wk, ↓wl, nc, evV, wrapBits_eq, ↓reduceIte, Nat.reduceEqDiff, Nat.reduceAdd, Nat.reduceSub, Nat.reduceLeDiff, Nat.reduceLT, Nat.reduceBEq, reduceCtorEq, Int.reduceEq])))
  · refine AW.exit ?_
    refine seqQ.exit ?_
    refine loopQ.exit H ?_ <;> clear H <;> intro H
    try dsimp only at H
    refine blk0.here ?_
    refine seqQ.norm ?_
    refine AW.rseq ?_
    try simp only [↓wk, ↓wl, nc, evV, wrapBits_eq, ↓reduceIte, Nat.reduceEqDiff, Nat.reduceAdd, Nat.reduceSub, Nat.reduceLeDiff, Nat.reduceLT, Nat.reduceBEq, reduceCtorEq, Int.reduceEq]
    refine AW.ret ?_
    cases H
    exact hQ _ _ _ _ (.inr rfl) (by simp only [resVs, omap, resV, ↓wk, ↓wl, nc, evV, wrapBits_eq, ↓reduceIte, Nat.reduceEqDiff, Nat.reduceAdd, Nat.reduceSub, Nat.reduceLeDiff, Nat.reduceLT, Nat.reduceBEq, reduceCtorEq, Int.reduceEq]; rfl) (hand_1 (by rfl) (by simp) (enc_all _)) (by rfl)
theorem f55_im {l_704 : (List ApiGroup)} {number_705 : Int} {r_ : (List ApiGroup)} (H : f55 l_704 number_705 = some r_) : Pure Try.prog 55 [.sl 2 false (l_704.map eApiGroup), .int .i64 number_705] (· = .sl 2 false (r_.map eApiGroup)) := (f55_ok H).unfr (by first | exact enc_fits _ | simp only [frFits, List.all_cons, List.all_nil, enc_fits, Bool.and_self])
def c33_0 : C := .cond (.t 10) (.seq (.reg [iI 11 (.mv (.t 6)), iI 4 (.mv (.c (.sl 2 true []))), iI 5 (.mv (.t 11))]) .ret) (.skip)
def c33_1 : C := .seq (.reg [iI 9 (.mv (.t 6)), iI 10 (.bin .neq (.t 9) (.c (.int .i64 0)))]) c33_0
def c33_2 : C := .cond (.t 15) (.seq (.reg [iI 4 (.mv (.c (.sl 2 true []))), iI 5 (.mv (.c (.int .i64 6)))]) .ret) (.skip)
def c33_3 : C := .seq (.reg [iI 16 (.mv (.t 0)), iI 17 (.mv (.t 1)), iI 18 (.call (.c (.fn 55 [])) [(.t 16), (.t 17)]), iI 4 (.mv (.t 18)), iI 5 (.mv (.c (.int .i64 0)))]) .ret
def c33_4 : C := .seq (.seq (.reg [iI 12 (.mv (.t 0)), iI 13 (.mv (.t 1)), iI 14 (.call (.c (.fn 50 [])) [(.t 12), (.t 13)]), iI 15 (.bin .lss (.t 14) (.c (.int .i64 0)))]) c33_2) c33_3
def c33_5 : C := .seq (.seq (.reg [iI 7 (.mv (.t 0)), iI 8 (.call (.c (.fn 23 [])) [(.t 7)]), iI 6 (.mv (.t 8))]) c33_1) c33_4
def ir33 : C := .seq (.reg [iI 4 (.mv (.c (.sl 2 true []))), iI 5 (.mv (.c (.int .i64 0)))]) c33_5
theorem fd33 : fd? Try.prog 33 = some (19, [.slot 4, .slot 5], ir33) := by kernel_rfl
noncomputable def f33 (l_699 : (List ApiGroup)) (number_700 : Int) : Option ((List ApiGroup) × Int) :=
  (f23 l_699).bind fun r_702 => (if (decide (r_702 ≠ 0)) = true then (some ([], r_702)) else (f50 l_699 number_700).bind fun r_703 => (if (decide (r_703 < 0)) = true then (some ([], 6)) else (f55 l_699 number_700).bind fun r_726 => (some (r_726, 0))))
theorem f33_ok {l_699 : (List ApiGroup)} {number_700 : Int} {r_ : (List ApiGroup) × Int} (H : f33 l_699 number_700 = some r_) : Pure Try.prog 33 [.sl 2 false (l_699.map eApiGroup), .int .i64 number_700] (· = .tup [.sl 2 false (r_.1.map eApiGroup), .int .i64 r_.2]) := by
  refine Pure.walk2 fd33 none (Nat.le_of_ble_eq_true rfl) (by rfl) fun Q hQ => ?_
  simp only [f33] at H
  refine AW.rseq ?_
  try simp only [↓wk, ↓wl, nc, evV, wrapBits_eq, ↓reduceIte, Nat.reduceEqDiff, Nat.reduceAdd, Nat.reduceSub, Nat.reduceLeDiff, Nat.reduceLT, Nat.reduceBEq, reduceCtorEq, Int.reduceEq]
  refine AW.sseq ?_
  refine AW.rseq ?_
  try simp only [↓wk, ↓wl, nc, evV, wrapBits_eq, ↓reduceIte, Nat.reduceEqDiff, Nat.reduceAdd, Nat.reduceSub, Nat.reduceLeDiff, Nat.reduceLT, Nat.reduceBEq, reduceCtorEq, Int.reduceEq]
  refine evTs_pure hFn H (fun _ h => f23_ok h) (by rfl) (by rfl) (by rfl) (by rfl) (fun _ => rfl) ?_ <;> clear H <;> intro r_702 H
  try simp only [eL, ↓wk, ↓wl, nc, evV, wrapBits_eq, ↓reduceIte, Nat.reduceEqDiff, Nat.reduceAdd, Nat.reduceSub, Nat.reduceLeDiff, Nat.reduceLT, Nat.reduceBEq, reduceCtorEq, Int.reduceEq]
  refine AW.rseq ?_
  try simp only [↓wk, ↓wl, nc, evV, wrapBits_eq, ↓reduceIte, Nat.reduceEqDiff, Nat.reduceAdd, Nat.reduceSub, Nat.reduceLeDiff, Nat.reduceLT, Nat.reduceBEq, reduceCtorEq, Int.reduceEq]
  refine AW.ifc H (by rfl) ?_ ?_ <;> clear H <;> intro H
  · refine AW.rseq ?_
    try simp only [↓wk, ↓wl, nc, evV, wrapBits_eq, ↓reduceIte, Nat.reduceEqDiff, Nat.reduceAdd, Nat.reduceSub, Nat.reduceLeDiff, Nat.reduceLT, Nat.reduceBEq, reduceCtorEq, Int.reduceEq]
    refine AW.ret ?_
    refine seqQ.ret ?_
    cases H
    exact hQ _ _ _ _ (.inr rfl) (by simp only [resVs, omap, resV, ↓wk, ↓wl, nc, evV, wrapBits_eq, ↓reduceIte, Nat.reduceEqDiff, Nat.reduceAdd, Nat.reduceSub, Nat.reduceLeDiff, Nat.reduceLT, Nat.reduceBEq, reduceCtorEq, Int.reduceEq]; rfl) (hand_plain (by rfl)) (by rfl)
  · refine AW.skip ?_
    refine seqQ.norm ?_
    refine AW.sseq ?_
    refine AW.rseq ?_
    try simp only [↓wk, ↓wl, nc, evV, wrapBits_eq, ↓reduceIte, Nat.reduceEqDiff, Nat.reduceAdd, Nat.reduceSub, Nat.reduceLeDiff, Nat.reduceLT, Nat.reduceBEq, reduceCtorEq, Int.reduceEq]
    refine evTs_pure hFn H (fun _ h => f50_ok h) (by rfl) (by rfl) (by rfl) (by rfl) (fun _ => rfl) ?_ <;> clear H <;> intro r_703 H
    try simp only [eL, ↓wk, ↓wl, nc, evV, wrapBits_eq, ↓reduceIte, Nat.reduceEqDiff, Nat.reduceAdd, Nat.reduceSub, Nat.reduceLeDiff, Nat.reduceLT, Nat.reduceBEq, reduceCtorEq, Int.reduceEq]
    refine AW.ifc H (by rfl) ?_ ?_ <;> clear H <;> intro H
    · refine AW.rseq ?_
      try simp only [↓wk, ↓wl, nc, evV, wrapBits_eq, ↓reduceIte, Nat.reduceEqDiff, Nat.reduceAdd, Nat.reduceSub, Nat.reduceLeDiff, Nat.reduceLT, Nat.reduceBEq, reduceCtorEq, Int.reduceEq]
      refine AW.ret ?_
      refine seqQ.ret ?_
      cases H
      exact hQ _ _ _ _ (.inr rfl) (by simp only [resVs, omap, resV, ↓wk, ↓wl, nc, evV, wrapBits_eq, ↓reduceIte, Nat.reduceEqDiff, Nat.reduceAdd, Nat.reduceSub, Nat.reduceLeDiff, Nat.reduceLT, Nat.reduceBEq, reduceCtorEq, Int.reduceEq]; rfl) (hand_plain (by rfl)) (by rfl)
    · refine AW.skip ?_
      refine seqQ.norm ?_
      refine AW.rseq ?_
      try simp only [↓wk, ↓wl, nc, evV, wrapBits_eq, ↓reduceIte, Nat.reduceEqDiff, Nat.reduceAdd, Nat.reduceSub, Nat.reduceLeDiff, Nat.reduceLT, Nat.reduceBEq, reduceCtorEq, Int.reduceEq]
      refine evTs_pure hFn H (fun _ h => f55_im h) (by rfl) (by rfl) (by rfl) (by rfl) (fun _ => rfl) ?_ <;> clear H <;> intro r_726 H
      try simp only [eL, ↓wk, ↓wl, nc, evV, wrapBits_eq, ↓reduceIte, Nat.reduceEqDiff, Nat.reduceAdd, Nat.reduceSub, Nat.reduceLeDiff, Nat.reduceLT, Nat.reduceBEq, reduceCtorEq, Int.reduceEq]
      refine AW.ret ?_
      cases H
      exact hQ _ _ _ _ (.inr rfl) (by simp only [resVs, omap, resV, ↓wk, ↓wl, nc, evV, wrapBits_eq, ↓reduceIte, Nat.reduceEqDiff, Nat.reduceAdd, Nat.reduceSub, Nat.reduceLeDiff, Nat.reduceLT, Nat.reduceBEq, reduceCtorEq, Int.reduceEq]; rfl) (hand_plain (by rfl)) (by rfl)
noncomputable def f34_L1 (a_730 : (List ApiGroup)) (b_731 : (List ApiGroup)) : Lp (Int) ((Unit) ⊕ (Unit)) where
  body := fun i_739 => (if (decide (i_739 < ((a_730.length : Nat) : Int))) = true then (at? a_730 i_739).bind fun x_743 => (at? b_731 i_739).bind fun x_744 => (f19 x_743 x_744).bind fun r_745 => (if (!r_745) = true then (some (.brk (Sum.inr ()))) else (some (.next (IntKind.i64.wrap (i_739 + 1))))) else (some (.brk (Sum.inl ()))))
  cst := fun i_739 => ⟨put (put (put (fun _ => .junk) 5 (.int .i64 i_739)) 1 (.sl 2 false (b_731.map eApiGroup))) 0 (.sl 2 false (a_730.map eApiGroup)), []⟩
def c34_0 : C := .cond (.t 10) (.seq (.reg [iI 4 (.mv (.c (.bool false)))]) .ret) (.skip)
def c34_1 : C := .cond (.t 14) (.skip) (.exit 0)
def c34_2 : C := .cond (.t 26) (.seq (.reg [iI 4 (.mv (.c (.bool false)))]) .ret) (.skip)
def c34_3 : C := .reg [iI 15 (.mv (.t 5)), iI 16 (.bin .add (.t 15) (.c (.int .i64 1))), iI 5 (.mv (.t 16))]
def c34_4 : C := .seq (.block 1 (.seq (.reg [iI 17 (.mv (.t 0)), iI 18 (.mv (.t 5)), iI 19 (.iaddr 2 (.t 17) (.t 18)), iI 20 (.load 2 (.t 19)), iI 21 (.mv (.t 1)), iI 22 (.mv (.t 5)), iI 23 (.iaddr 2 (.t 21) (.t 22)), iI 24 (.load 2 (.t 23)), iI 25 (.call (.c (.fn 19 [])) [(.t 20), (.t 24)]), iI 26 (.un .not (.t 25))]) c34_2)) c34_3
def c34_5 : C := .block 0 (.loop (.seq (.seq (.reg [iI 11 (.mv (.t 5)), iI 12 (.mv (.t 0)), iI 13 (.len 0 (.t 12)), iI 14 (.bin .lss (.t 11) (.t 13))]) c34_1) c34_4))
def c34_6 : C := .seq (.reg [iI 4 (.mv (.c (.bool true)))]) .ret
def c34_7 : C := .seq (.seq (.reg [iI 5 (.mv (.c (.int .i64 0)))]) c34_5) c34_6
def c34_8 : C := .seq (.seq (.reg [iI 6 (.mv (.t 0)), iI 7 (.len 0 (.t 6)), iI 8 (.mv (.t 1)), iI 9 (.len 0 (.t 8)), iI 10 (.bin .neq (.t 7) (.t 9))]) c34_0) c34_7
def ir34 : C := .seq (.reg [iI 4 (.mv (.c (.bool false)))]) c34_8
theorem fd34 : fd? Try.prog 34 = some (27, [.slot 4], ir34) := by kernel_rfl
noncomputable def f34 (a_730 : (List ApiGroup)) (b_731 : (List ApiGroup)) : Option (Bool) :=
  (if (decide (((a_730.length : Nat) : Int) ≠ ((b_731.length : Nat) : Int))) = true then (some false) else ((Lp.run (f34_L1 a_730 b_731) 0).bind fun r_ => match r_ with | (Sum.inl _) => (some true) | (Sum.inr _) => (some false)))
theorem f34_ok {a_730 : (List ApiGroup)} {b_731 : (List ApiGroup)} {r_ : Bool} (H : f34 a_730 b_731 = some r_) : Pure Try.prog 34 [.sl 2 false (a_730.map eApiGroup), .sl 2 false (b_731.map eApiGroup)] (· = .bool r_) := by
  refine Pure.walk2 fd34 none (Nat.le_of_ble_eq_true rfl) (by rfl) fun Q hQ => ?_
  simp only [f34] at H
  refine AW.rseq ?_
  try simp only [↓wk, ↓wl, nc, evV, wrapBits_eq, ↓reduceIte, Nat.reduceEqDiff, Nat.reduceAdd, Nat.reduceSub, Nat.reduceLeDiff, Nat.reduceLT, Nat.reduceBEq, reduceCtorEq, Int.reduceEq]
  refine AW.sseq ?_
  refine AW.rseq ?_
  try simp only [↓wk, ↓wl, nc, evV, wrapBits_eq, ↓reduceIte, Nat.reduceEqDiff, Nat.reduceAdd, Nat.reduceSub, Nat.reduceLeDiff, Nat.reduceLT, Nat.reduceBEq, reduceCtorEq, Int.reduceEq]
  refine AW.ifc H (by rfl) ?_ ?_ <;> clear H <;> intro H
  · refine AW.rseq ?_
    try simp only [↓wk, ↓wl, nc, evV, wrapBits_eq, ↓reduceIte, Nat.reduceEqDiff, Nat.reduceAdd, Nat.reduceSub, Nat.reduceLeDiff, Nat.reduceLT, Nat.reduceBEq, reduceCtorEq, Int.reduceEq]
    refine AW.ret ?_
    refine seqQ.ret ?_
    cases H
    exact hQ _ _ _ _ (.inr rfl) (by simp only [resVs, omap, resV, ↓wk, ↓wl, nc, evV, wrapBits_eq, ↓reduceIte, Nat.reduceEqDiff, Nat.reduceAdd, Nat.reduceSub, Nat.reduceLeDiff, Nat.reduceLT, Nat.reduceBEq, reduceCtorEq, Int.reduceEq]; rfl) (hand_plain (by rfl)) (by rfl)
  · refine AW.skip ?_
    refine seqQ.norm ?_
    refine AW.sseq ?_
    refine AW.rseq ?_
    try simp only [↓wk, ↓wl, nc, evV, wrapBits_eq, ↓reduceIte, Nat.reduceEqDiff, Nat.reduceAdd, Nat.reduceSub, Nat.reduceLeDiff, Nat.reduceLT, Nat.reduceBEq, reduceCtorEq, Int.reduceEq]
    refine AW.bend ?_
    refine AW.iter H ((Le.none [] [0, 1, 5] (by decide) (by simp only [f34_L1, List.length_set, Option.map_some, restrict_eq, renS_nil, renS_cons, renB_els, renB_cel, renB_dead, deep_eq, map_ren_enc, ren_agg', ren_tup', ren_fn', ren_int', ren_bool', ren_str', ren_sl', ren_pro', ren_nilp', ren_nilfn', ren_junk', ren_ptr', ren_row', ren_arow', ren_eptr', vm, List.idxOf?_cons, List.idxOf?_nil, beq_self_eq_true, Option.map_none, List.getD_cons_zero, List.getD_cons_succ, ↓wk, ↓wl, nc, evV, wrapBits_eq, ↓reduceIte, Nat.reduceEqDiff, Nat.reduceAdd, Nat.reduceSub, Nat.reduceLeDiff, Nat.reduceLT, Nat.reduceBEq, reduceCtorEq, Int.reduceEq]))) ?_ <;> clear H
    rintro i_739 x_ st0_ H hst_
    simp only [f34_L1] at H hst_
    subst hst_
    refine AW.sseq ?_
    refine AW.rseq ?_
    try simp only [↓wk, ↓wl, nc, evV, wrapBits_eq, ↓reduceIte, Nat.reduceEqDiff, Nat.reduceAdd, Nat.reduceSub, Nat.reduceLeDiff, Nat.reduceLT, Nat.reduceBEq, reduceCtorEq, Int.reduceEq]
    refine AW.ifc H (by rfl) ?_ ?_ <;> clear H <;> intro H
    · refine AW.skip ?_
      refine seqQ.norm ?_
      refine AW.bseq ?_
      refine AW.rseq ?_
      try simp only [↓wk, ↓wl, nc, evV, wrapBits_eq, ↓reduceIte, Nat.reduceEqDiff, Nat.reduceAdd, Nat.reduceSub, Nat.reduceLeDiff, Nat.reduceLT, Nat.reduceBEq, reduceCtorEq, Int.reduceEq]
      refine evTs_at (enc := eApiGroup) H (by rfl) (by rfl) ?_ <;> clear H <;> intro x_743 H
      try simp only [eApiGroup, eL, ↓wk, ↓wl, nc, evV, wrapBits_eq, ↓reduceIte, Nat.reduceEqDiff, Nat.reduceAdd, Nat.reduceSub, Nat.reduceLeDiff, Nat.reduceLT, Nat.reduceBEq, reduceCtorEq, Int.reduceEq]
      refine evTs_at (enc := eApiGroup) H (by rfl) (by rfl) ?_ <;> clear H <;> intro x_744 H
      try simp only [eApiGroup, eL, ↓wk, ↓wl, nc, evV, wrapBits_eq, ↓reduceIte, Nat.reduceEqDiff, Nat.reduceAdd, Nat.reduceSub, Nat.reduceLeDiff, Nat.reduceLT, Nat.reduceBEq, reduceCtorEq, Int.reduceEq]
      refine evTs_pure hFn H (fun _ h => f19_ok h) (by rfl) (by rfl) (by rfl) (by rfl) (fun _ => rfl) ?_ <;> clear H <;> intro r_745 H
      try simp only [eL, ↓wk, ↓wl, nc, evV, wrapBits_eq, ↓reduceIte, Nat.reduceEqDiff, Nat.reduceAdd, Nat.reduceSub, Nat.reduceLeDiff, Nat.reduceLT, Nat.reduceBEq, reduceCtorEq, Int.reduceEq]
      refine AW.ifc H (by rfl) ?_ ?_ <;> clear H <;> intro H
      · refine AW.rseq ?_
        try simp only [↓wk, ↓wl, nc, evV, wrapBits_eq, ↓reduceIte, Nat.reduceEqDiff, Nat.reduceAdd, Nat.reduceSub, Nat.reduceLeDiff, Nat.reduceLT, Nat.reduceBEq, reduceCtorEq, Int.reduceEq]
        refine AW.ret ?_
        refine blkQ.ret ?_
        refine loopQ.ret H ?_ <;> clear H <;> intro H
        try dsimp only at H
        refine blk0.ret ?_
        refine seqQ.ret ?_
        cases H
        exact hQ _ _ _ _ (.inr rfl) (by simp only [resVs, omap, resV, ↓wk, ↓wl, nc, evV, wrapBits_eq, ↓reduceIte, Nat.reduceEqDiff, Nat.reduceAdd, Nat.reduceSub, Nat.reduceLeDiff, Nat.reduceLT, Nat.reduceBEq, reduceCtorEq, Int.reduceEq]; rfl) (hand_plain (by rfl)) (by rfl)
      · refine AW.skip ?_
        refine blkQ.norm ?_
        refine AW.rend ?_
        try simp only [↓wk, ↓wl, nc, evV, wrapBits_eq, ↓reduceIte, Nat.reduceEqDiff, Nat.reduceAdd, Nat.reduceSub, Nat.reduceLeDiff, Nat.reduceLT, Nat.reduceBEq, reduceCtorEq, Int.reduceEq]
        exact loopQ.next H ((Le.none [] [0, 1, 5] (by decide) (by simp only [f34_L1, List.length_set, Option.map_some, restrict_eq, renS_nil, renS_cons, renB_els, renB_cel, renB_dead, deep_eq, map_ren_enc, ren_agg', ren_tup', ren_fn', ren_int', ren_bool', ren_str', ren_sl', ren_pro', ren_nilp', ren_nilfn', ren_junk', ren_ptr', ren_row', ren_arow', ren_eptr', vm, List.idxOf?_cons, List.idxOf?_nil, beq_self_eq_true, Option.map_none, List.getD_cons_zero, List.getD_cons_succ, ↓wk, ↓wl, nc, evV, wrapBits_eq, ↓reduceIte, Nat.reduceEqDiff, Nat.reduceAdd, Nat.reduceSub, Nat.reduceLeDiff, Nat.reduceLT, Nat.reduceBEq, reduceCtorEq, Int.reduceEq])))
    · refine AW.exit ?_
      refine seqQ.exit ?_
      refine loopQ.exit H ?_ <;> clear H <;> intro H
      try dsimp only at H
      refine blk0.here ?_
      refine seqQ.norm ?_
      refine AW.rseq ?_
      try simp only [↓wk, ↓wl, nc, evV, wrapBits_eq, ↓reduceIte, Nat.reduceEqDiff, Nat.reduceAdd, Nat.reduceSub, Nat.reduceLeDiff, Nat.reduceLT, Nat.reduceBEq, reduceCtorEq, Int.reduceEq]
      refine AW.ret ?_
      cases H
      exact hQ _ _ _ _ (.inr rfl) (by simp only [resVs, omap, resV, ↓wk, ↓wl, nc, evV, wrapBits_eq, ↓reduceIte, Nat.reduceEqDiff, Nat.reduceAdd, Nat.reduceSub, Nat.reduceLeDiff, Nat.reduceLT, Nat.reduceBEq, reduceCtorEq, Int.reduceEq]; rfl) (hand_plain (by rfl)) (by rfl)
def c8_0 : C := .cond (.t 27) (.seq (.reg [iI 28 (.call (.c (.fn 15 [])) []), iI 6 (.mv (.t 28))]) .ret) (.skip)
def c8_1 : C := .seq (.reg [iI 65 (.call (.c (.fn 15 [])) []), iI 66 (.mv (.t 65)), iG (some 67) 66 true (.load 2 (.t 7)), iG (some 68) 66 true (.load 2 (.t 9)), iG (some 69) 66 true (.call (.c (.fn 19 [])) [(.t 67), (.t 68)]), iI 70 (.pick (.t 66) (.t 69) (.c (.bool false))), iI 71 (.mv (.t 70)), iG (some 72) 71 true (.mv (.t 8)), iG (some 73) 71 true (.mv (.t 10)), iG (some 74) 71 true (.bin .eql (.t 72) (.t 73)), iI 75 (.pick (.t 71) (.t 74) (.c (.bool false))), iI 76 (.mv (.t 75)), iG (some 77) 76 true (.mv (.t 11)), iG (some 78) 76 true (.mv (.t 13)), iG (some 79) 76 true (.call (.c (.fn 34 [])) [(.t 77), (.t 78)]), iI 80 (.pick (.t 76) (.t 79) (.c (.bool false))), iI 81 (.mv (.t 80)), iG (some 82) 81 true (.mv (.t 12)), iG (some 83) 81 true (.mv (.t 14)), iG (some 84) 81 true (.bin .eql (.t 82) (.t 83)), iI 85 (.pick (.t 81) (.t 84) (.c (.bool false))), iI 86 (.mv (.t 85)), iG (some 87) 86 true (.mv (.t 15)), iG (some 88) 86 true (.mv (.t 17)), iG (some 89) 86 true (.call (.c (.fn 34 [])) [(.t 87), (.t 88)]), iI 90 (.pick (.t 86) (.t 89) (.c (.bool false))), iI 91 (.mv (.t 90)), iG (some 92) 91 true (.mv (.t 16)), iG (some 93) 91 true (.mv (.t 18)), iG (some 94) 91 true (.bin .eql (.t 92) (.t 93)), iI 95 (.pick (.t 91) (.t 94) (.c (.bool false))), iI 6 (.mv (.t 95))]) .ret
def c8_2 : C := .seq (.reg [iI 60 (.mv (.t 0)), iI 61 (.mv (.t 2)), iI 62 (.call (.c (.fn 33 [])) [(.t 60), (.t 61)]), iI 59 (.mv (.t 62)), iI 63 (.ext (.t 59) 0), iI 64 (.ext (.t 59) 1), iI 17 (.mv (.t 63)), iI 18 (.mv (.t 64))]) c8_1
def c8_3 : C := .seq (.reg [iI 54 (.mv (.t 0)), iI 55 (.mv (.t 2)), iI 56 (.call (.c (.fn 32 [])) [(.t 54), (.t 55)]), iI 53 (.mv (.t 56)), iI 57 (.ext (.t 53) 0), iI 58 (.ext (.t 53) 1), iI 15 (.mv (.t 57)), iI 16 (.mv (.t 58))]) c8_2
def c8_4 : C := .seq (.reg [iI 48 (.mv (.t 0)), iI 49 (.load 2 (.t 4)), iI 50 (.call (.c (.fn 31 [])) [(.t 48), (.t 49)]), iI 47 (.mv (.t 50)), iI 51 (.ext (.t 47) 0), iI 52 (.ext (.t 47) 1), iI 13 (.mv (.t 51)), iI 14 (.mv (.t 52))]) c8_3
def c8_5 : C := .seq (.reg [iI 42 (.mv (.t 0)), iI 43 (.load 2 (.t 4)), iI 44 (.call (.c (.fn 30 [])) [(.t 42), (.t 43)]), iI 41 (.mv (.t 44)), iI 45 (.ext (.t 41) 0), iI 46 (.ext (.t 41) 1), iI 11 (.mv (.t 45)), iI 12 (.mv (.t 46))]) c8_4
def c8_6 : C := .seq (.reg [iI 36 (.mv (.t 0)), iI 37 (.mv (.t 2)), iI 38 (.call (.c (.fn 29 [])) [(.t 36), (.t 37)]), iI 35 (.mv (.t 38)), iI 39 (.ext (.t 35) 0), iI 40 (.ext (.t 35) 1), iI 9 (.alloc [(1, (.int .i64 0)), (1, (.sl 0 true []))]), iN (.store 2 (.t 9) (.t 39)), iI 10 (.mv (.t 40))]) c8_5
def c8_7 : C := .seq (.reg [iI 30 (.mv (.t 0)), iI 31 (.mv (.t 2)), iI 32 (.call (.c (.fn 28 [])) [(.t 30), (.t 31)]), iI 29 (.mv (.t 32)), iI 33 (.ext (.t 29) 0), iI 34 (.ext (.t 29) 1), iI 7 (.alloc [(1, (.int .i64 0)), (1, (.sl 0 true []))]), iN (.store 2 (.t 7) (.t 33)), iI 8 (.mv (.t 34))]) c8_6
def c8_8 : C := .seq (.seq (.reg [iI 19 (.mv (.t 0)), iI 20 (.call (.c (.fn 17 [])) [(.t 19)]), iI 21 (.un .not (.t 20)), iI 22 (.mv (.t 21)), iG (some 23) 22 false (.load 2 (.t 4)), iG (some 24) 22 false (.mksl 2 1 (.agg [(.int .i64 0), (.sl 0 true [])]) [(0, (.t 23))]), iG (some 25) 22 false (.call (.c (.fn 17 [])) [(.t 24)]), iG (some 26) 22 false (.un .not (.t 25)), iI 27 (.pick (.t 22) (.c (.bool true)) (.t 26))]) c8_0) c8_7
def ir8 : C := .seq (.reg [iI 4 (.box (.t 1)), iI 6 (.mv (.c (.bool false)))]) c8_8
theorem fd8 : fd? Try.prog 8 = some (96, [.slot 6], ir8) := by kernel_rfl
noncomputable def f8 (l_420 : (List ApiGroup)) (g_421 : ApiGroup) (number_422 : Int) : Option (Bool) :=
  (f17 l_420).bind fun r_427 => (if (!r_427) = true then (f15).bind fun r_428 => (some r_428) else (f17 ([g_421])).bind fun r_429 => (if (!r_429) = true then (f15).bind fun r_430 => (some r_430) else (f28 l_420 number_422).bind fun r_482 => (f29 l_420 number_422).bind fun r_498 => (f30 l_420 g_421).bind fun r_537 => (f31 l_420 g_421).bind fun r_656 => (f32 l_420 number_422).bind fun r_670 => (f33 l_420 number_422).bind fun r_727 => (f15).bind fun r_728 => (if r_728 = true then (f19 r_482.1 r_498.1).bind fun r_729 => (if r_729 = true then (if (decide (r_482.2 = r_498.2)) = true then (f34 r_537.1 r_656.1).bind fun r_746 => (if r_746 = true then (if (decide (r_537.2 = r_656.2)) = true then (f34 r_670.1 r_727.1).bind fun r_747 => (if r_747 = true then (some (decide (r_670.2 = r_727.2))) else (some false)) else (some false)) else (some false)) else (some false)) else (some false)) else (some false))))
theorem f8_ok {l_420 : (List ApiGroup)} {g_421 : ApiGroup} {number_422 : Int} {r_ : Bool} (H : f8 l_420 g_421 number_422 = some r_) : Pure Try.prog 8 [.sl 2 false (l_420.map eApiGroup), .agg [.int .i64 g_421.fNumber, .sl 0 false (g_421.fChannels.map (AV.int .i64))], .int .i64 number_422] (· = .bool r_) := by
  refine Pure.walk2 fd8 none (Nat.le_of_ble_eq_true rfl) (by rfl) fun Q hQ => ?_
  simp only [f8] at H
  refine AW.rseq ?_
  try simp only [↓wk, ↓wl, nc, evV, wrapBits_eq, ↓reduceIte, Nat.reduceEqDiff, Nat.reduceAdd, Nat.reduceSub, Nat.reduceLeDiff, Nat.reduceLT, Nat.reduceBEq, reduceCtorEq, Int.reduceEq]
  refine AW.sseq ?_
  refine AW.rseq ?_
  try simp only [↓wk, ↓wl, nc, evV, wrapBits_eq, ↓reduceIte, Nat.reduceEqDiff, Nat.reduceAdd, Nat.reduceSub, Nat.reduceLeDiff, Nat.reduceLT, Nat.reduceBEq, reduceCtorEq, Int.reduceEq]
  refine evTs_pure hFn H (fun _ h => f17_ok h) (by rfl) (by rfl) (by rfl) (by rfl) (fun _ => rfl) ?_ <;> clear H <;> intro r_427 H
  try simp only [eL, ↓wk, ↓wl, nc, evV, wrapBits_eq, ↓reduceIte, Nat.reduceEqDiff, Nat.reduceAdd, Nat.reduceSub, Nat.reduceLeDiff, Nat.reduceLT, Nat.reduceBEq, reduceCtorEq, Int.reduceEq]
  refine evTs_ifg H (by rfl) ?_ ?_ <;> clear H <;> intro H
  · try simp only [↓wk, ↓wl, nc, evV, wrapBits_eq, ↓reduceIte, Nat.reduceEqDiff, Nat.reduceAdd, Nat.reduceSub, Nat.reduceLeDiff, Nat.reduceLT, Nat.reduceBEq, reduceCtorEq, Int.reduceEq]
    refine AW.ift (by rfl) ?_
    refine AW.rseq ?_
    try simp only [↓wk, ↓wl, nc, evV, wrapBits_eq, ↓reduceIte, Nat.reduceEqDiff, Nat.reduceAdd, Nat.reduceSub, Nat.reduceLeDiff, Nat.reduceLT, Nat.reduceBEq, reduceCtorEq, Int.reduceEq]
    refine evTs_pure hFn H (fun _ h => f15_ok h) (by rfl) (by rfl) (by rfl) (by rfl) (fun _ => rfl) ?_ <;> clear H <;> intro r_428 H
    try simp only [eL, ↓wk, ↓wl, nc, evV, wrapBits_eq, ↓reduceIte, Nat.reduceEqDiff, Nat.reduceAdd, Nat.reduceSub, Nat.reduceLeDiff, Nat.reduceLT, Nat.reduceBEq, reduceCtorEq, Int.reduceEq]
    refine AW.ret ?_
    refine seqQ.ret ?_
    cases H
    exact hQ _ _ _ _ (.inr rfl) (by simp only [resVs, omap, resV, ↓wk, ↓wl, nc, evV, wrapBits_eq, ↓reduceIte, Nat.reduceEqDiff, Nat.reduceAdd, Nat.reduceSub, Nat.reduceLeDiff, Nat.reduceLT, Nat.reduceBEq, reduceCtorEq, Int.reduceEq]; rfl) (hand_plain (by rfl)) (by rfl)
  · try simp only [↓wk, ↓wl, nc, evV, wrapBits_eq, ↓reduceIte, Nat.reduceEqDiff, Nat.reduceAdd, Nat.reduceSub, Nat.reduceLeDiff, Nat.reduceLT, Nat.reduceBEq, reduceCtorEq, Int.reduceEq]
    refine evTs_pure hFn H (fun _ h => f17_ok h) (by rfl) (by rfl) (by rfl) (by rfl) (fun _ => rfl) ?_ <;> clear H <;> intro r_429 H
    try simp only [eL, ↓wk, ↓wl, nc, evV, wrapBits_eq, ↓reduceIte, Nat.reduceEqDiff, Nat.reduceAdd, Nat.reduceSub, Nat.reduceLeDiff, Nat.reduceLT, Nat.reduceBEq, reduceCtorEq, Int.reduceEq]
    refine AW.ifc H (by rfl) ?_ ?_ <;> clear H <;> intro H
    · refine AW.rseq ?_
      try simp only [↓wk, ↓wl, nc, evV, wrapBits_eq, ↓reduceIte, Nat.reduceEqDiff, Nat.reduceAdd, Nat.reduceSub, Nat.reduceLeDiff, Nat.reduceLT, Nat.reduceBEq, reduceCtorEq, Int.reduceEq]
      refine evTs_pure hFn H (fun _ h => f15_ok h) (by rfl) (by rfl) (by rfl) (by rfl) (fun _ => rfl) ?_ <;> clear H <;> intro r_430 H
      try simp only [eL, ↓wk, ↓wl, nc, evV, wrapBits_eq, ↓reduceIte, Nat.reduceEqDiff, Nat.reduceAdd, Nat.reduceSub, Nat.reduceLeDiff, Nat.reduceLT, Nat.reduceBEq, reduceCtorEq, Int.reduceEq]
      refine AW.ret ?_
      refine seqQ.ret ?_
      cases H
      exact hQ _ _ _ _ (.inr rfl) (by simp only [resVs, omap, resV, ↓wk, ↓wl, nc, evV, wrapBits_eq, ↓reduceIte, Nat.reduceEqDiff, Nat.reduceAdd, Nat.reduceSub, Nat.reduceLeDiff, Nat.reduceLT, Nat.reduceBEq, reduceCtorEq, Int.reduceEq]; rfl) (hand_plain (by rfl)) (by rfl)
    · refine AW.skip ?_
      refine seqQ.norm ?_
      refine AW.rseq ?_
      try simp only [↓wk, ↓wl, nc, evV, wrapBits_eq, ↓reduceIte, Nat.reduceEqDiff, Nat.reduceAdd, Nat.reduceSub, Nat.reduceLeDiff, Nat.reduceLT, Nat.reduceBEq, reduceCtorEq, Int.reduceEq]
      refine evTs_pure hFn H (fun _ h => f28_ok h) (by rfl) (by rfl) (by rfl) (by rfl) (fun _ => rfl) ?_ <;> clear H <;> intro r_482 H
      try simp only [eL, eApiGroup, ↓wk, ↓wl, nc, evV, wrapBits_eq, ↓reduceIte, Nat.reduceEqDiff, Nat.reduceAdd, Nat.reduceSub, Nat.reduceLeDiff, Nat.reduceLT, Nat.reduceBEq, reduceCtorEq, Int.reduceEq]
      refine AW.rseq ?_
      try simp only [↓wk, ↓wl, nc, evV, wrapBits_eq, ↓reduceIte, Nat.reduceEqDiff, Nat.reduceAdd, Nat.reduceSub, Nat.reduceLeDiff, Nat.reduceLT, Nat.reduceBEq, reduceCtorEq, Int.reduceEq]
      refine evTs_pure hFn H (fun _ h => f29_ok h) (by rfl) (by rfl) (by rfl) (by rfl) (fun _ => rfl) ?_ <;> clear H <;> intro r_498 H
      try simp only [eL, eApiGroup, ↓wk, ↓wl, nc, evV, wrapBits_eq, ↓reduceIte, Nat.reduceEqDiff, Nat.reduceAdd, Nat.reduceSub, Nat.reduceLeDiff, Nat.reduceLT, Nat.reduceBEq, reduceCtorEq, Int.reduceEq]
      refine AW.rseq ?_
      try simp only [↓wk, ↓wl, nc, evV, wrapBits_eq, ↓reduceIte, Nat.reduceEqDiff, Nat.reduceAdd, Nat.reduceSub, Nat.reduceLeDiff, Nat.reduceLT, Nat.reduceBEq, reduceCtorEq, Int.reduceEq]
      refine evTs_pure hFn H (fun _ h => f30_im h) (by rfl) (by rfl) (by rfl) (by rfl) (fun _ => rfl) ?_ <;> clear H <;> intro r_537 H
      try simp only [eL, ↓wk, ↓wl, nc, evV, wrapBits_eq, ↓reduceIte, Nat.reduceEqDiff, Nat.reduceAdd, Nat.reduceSub, Nat.reduceLeDiff, Nat.reduceLT, Nat.reduceBEq, reduceCtorEq, Int.reduceEq]
      refine AW.rseq ?_
      try simp only [↓wk, ↓wl, nc, evV, wrapBits_eq, ↓reduceIte, Nat.reduceEqDiff, Nat.reduceAdd, Nat.reduceSub, Nat.reduceLeDiff, Nat.reduceLT, Nat.reduceBEq, reduceCtorEq, Int.reduceEq]
      refine evTs_pure hFn H (fun _ h => f31_ok h) (by rfl) (by rfl) (by rfl) (by rfl) (fun _ => rfl) ?_ <;> clear H <;> intro r_656 H
      try simp only [eL, ↓wk, ↓wl, nc, evV, wrapBits_eq, ↓reduceIte, Nat.reduceEqDiff, Nat.reduceAdd, Nat.reduceSub, Nat.reduceLeDiff, Nat.reduceLT, Nat.reduceBEq, reduceCtorEq, Int.reduceEq]
      refine AW.rseq ?_
      try simp only [↓wk, ↓wl, nc, evV, wrapBits_eq, ↓reduceIte, Nat.reduceEqDiff, Nat.reduceAdd, Nat.reduceSub, Nat.reduceLeDiff, Nat.reduceLT, Nat.reduceBEq, reduceCtorEq, Int.reduceEq]
      refine evTs_pure hFn H (fun _ h => f32_im h) (by rfl) (by rfl) (by rfl) (by rfl) (fun _ => rfl) ?_ <;> clear H <;> intro r_670 H
      try simp only [eL, ↓wk, ↓wl, nc, evV, wrapBits_eq, ↓reduceIte, Nat.reduceEqDiff, Nat.reduceAdd, Nat.reduceSub, Nat.reduceLeDiff, Nat.reduceLT, Nat.reduceBEq, reduceCtorEq, Int.reduceEq]
      refine AW.rseq ?_
      try simp only [↓wk, ↓wl, nc, evV, wrapBits_eq, ↓reduceIte, Nat.reduceEqDiff, Nat.reduceAdd, Nat.reduceSub, Nat.reduceLeDiff, Nat.reduceLT, Nat.reduceBEq, reduceCtorEq, Int.reduceEq]
      refine evTs_pure hFn H (fun _ h => f33_ok h) (by rfl) (by rfl) (by rfl) (by rfl) (fun _ => rfl) ?_ <;> clear H <;> intro r_727 H
      try simp only [eL, ↓wk, ↓wl, nc, evV, wrapBits_eq, ↓reduceIte, Nat.reduceEqDiff, Nat.reduceAdd, Nat.reduceSub, Nat.reduceLeDiff, Nat.reduceLT, Nat.reduceBEq, reduceCtorEq, Int.reduceEq]
      refine AW.rseq ?_
      try simp only [↓wk, ↓wl, nc, evV, wrapBits_eq, ↓reduceIte, Nat.reduceEqDiff, Nat.reduceAdd, Nat.reduceSub, Nat.reduceLeDiff, Nat.reduceLT, Nat.reduceBEq, reduceCtorEq, Int.reduceEq]
      refine evTs_pure hFn H (fun _ h => f15_ok h) (by rfl) (by rfl) (by rfl) (by rfl) (fun _ => rfl) ?_ <;> clear H <;> intro r_728 H
      try simp only [eL, ↓wk, ↓wl, nc, evV, wrapBits_eq, ↓reduceIte, Nat.reduceEqDiff, Nat.reduceAdd, Nat.reduceSub, Nat.reduceLeDiff, Nat.reduceLT, Nat.reduceBEq, reduceCtorEq, Int.reduceEq]
      refine evTs_ifg H (by rfl) ?_ ?_ <;> clear H <;> intro H
      · try simp only [↓wk, ↓wl, nc, evV, wrapBits_eq, ↓reduceIte, Nat.reduceEqDiff, Nat.reduceAdd, Nat.reduceSub, Nat.reduceLeDiff, Nat.reduceLT, Nat.reduceBEq, reduceCtorEq, Int.reduceEq]
        refine evTs_pure hFn H (fun _ h => f19_ok h) (by rfl) (by rfl) (by rfl) (by rfl) (fun _ => rfl) ?_ <;> clear H <;> intro r_729 H
        try simp only [eL, ↓wk, ↓wl, nc, evV, wrapBits_eq, ↓reduceIte, Nat.reduceEqDiff, Nat.reduceAdd, Nat.reduceSub, Nat.reduceLeDiff, Nat.reduceLT, Nat.reduceBEq, reduceCtorEq, Int.reduceEq]
        refine evTs_ifg H (by rfl) ?_ ?_ <;> clear H <;> intro H
        · try simp only [↓wk, ↓wl, nc, evV, wrapBits_eq, ↓reduceIte, Nat.reduceEqDiff, Nat.reduceAdd, Nat.reduceSub, Nat.reduceLeDiff, Nat.reduceLT, Nat.reduceBEq, reduceCtorEq, Int.reduceEq]
          refine evTs_ifg H (by rfl) ?_ ?_ <;> clear H <;> intro H
          · try simp only [↓wk, ↓wl, nc, evV, wrapBits_eq, ↓reduceIte, Nat.reduceEqDiff, Nat.reduceAdd, Nat.reduceSub, Nat.reduceLeDiff, Nat.reduceLT, Nat.reduceBEq, reduceCtorEq, Int.reduceEq]
            refine evTs_pure hFn H (fun _ h => f34_ok h) (by rfl) (by rfl) (by rfl) (by rfl) (fun _ => rfl) ?_ <;> clear H <;> intro r_746 H
            try simp only [eL, ↓wk, ↓wl, nc, evV, wrapBits_eq, ↓reduceIte, Nat.reduceEqDiff, Nat.reduceAdd, Nat.reduceSub, Nat.reduceLeDiff, Nat.reduceLT, Nat.reduceBEq, reduceCtorEq, Int.reduceEq]
            refine evTs_ifg H (by rfl) ?_ ?_ <;> clear H <;> intro H
            · try simp only [↓wk, ↓wl, nc, evV, wrapBits_eq, ↓reduceIte, Nat.reduceEqDiff, Nat.reduceAdd, Nat.reduceSub, Nat.reduceLeDiff, Nat.reduceLT, Nat.reduceBEq, reduceCtorEq, Int.reduceEq]
              refine evTs_ifg H (by rfl) ?_ ?_ <;> clear H <;> intro H
              · try simp only [↓wk, ↓wl, nc, evV, wrapBits_eq, ↓reduceIte, Nat.reduceEqDiff, Nat.reduceAdd, Nat.reduceSub, Nat.reduceLeDiff, Nat.reduceLT, Nat.reduceBEq, reduceCtorEq, Int.reduceEq]
                refine evTs_pure hFn H (fun _ h => f34_ok h) (by rfl) (by rfl) (by rfl) (by rfl) (fun _ => rfl) ?_ <;> clear H <;> intro r_747 H
                try simp only [eL, ↓wk, ↓wl, nc, evV, wrapBits_eq, ↓reduceIte, Nat.reduceEqDiff, Nat.reduceAdd, Nat.reduceSub, Nat.reduceLeDiff, Nat.reduceLT, Nat.reduceBEq, reduceCtorEq, Int.reduceEq]
                refine evTs_ifg H (by rfl) ?_ ?_ <;> clear H <;> intro H
                · try simp only [↓wk, ↓wl, nc, evV, wrapBits_eq, ↓reduceIte, Nat.reduceEqDiff, Nat.reduceAdd, Nat.reduceSub, Nat.reduceLeDiff, Nat.reduceLT, Nat.reduceBEq, reduceCtorEq, Int.reduceEq]
                  refine AW.ret ?_
                  cases H
                  exact hQ _ _ _ _ (.inr rfl) (by simp only [resVs, omap, resV, ↓wk, ↓wl, nc, evV, wrapBits_eq, ↓reduceIte, Nat.reduceEqDiff, Nat.reduceAdd, Nat.reduceSub, Nat.reduceLeDiff, Nat.reduceLT, Nat.reduceBEq, reduceCtorEq, Int.reduceEq]; rfl) (hand_plain (by rfl)) (by rfl)
                · try simp only [↓wk, ↓wl, nc, evV, wrapBits_eq, ↓reduceIte, Nat.reduceEqDiff, Nat.reduceAdd, Nat.reduceSub, Nat.reduceLeDiff, Nat.reduceLT, Nat.reduceBEq, reduceCtorEq, Int.reduceEq]
                  refine AW.ret ?_
                  cases H
                  exact hQ _ _ _ _ (.inr rfl) (by simp only [resVs, omap, resV, ↓wk, ↓wl, nc, evV, wrapBits_eq, ↓reduceIte, Nat.reduceEqDiff, Nat.reduceAdd, Nat.reduceSub, Nat.reduceLeDiff, Nat.reduceLT, Nat.reduceBEq, reduceCtorEq, Int.reduceEq]; rfl) (hand_plain (by rfl)) (by rfl)
              · try simp only [↓wk, ↓wl, nc, evV, wrapBits_eq, ↓reduceIte, Nat.reduceEqDiff, Nat.reduceAdd, Nat.reduceSub, Nat.reduceLeDiff, Nat.reduceLT, Nat.reduceBEq, reduceCtorEq, Int.reduceEq]
                refine AW.ret ?_
                cases H
                exact hQ _ _ _ _ (.inr rfl) (by simp only [resVs, omap, resV, ↓wk, ↓wl, nc, evV, wrapBits_eq, ↓reduceIte, Nat.reduceEqDiff, Nat.reduceAdd, Nat.reduceSub, Nat.reduceLeDiff, Nat.reduceLT, Nat.reduceBEq, reduceCtorEq, Int.reduceEq]; rfl) (hand_plain (by rfl)) (by rfl)
            · try simp only [↓wk, ↓wl, nc, evV, wrapBits_eq, ↓reduceIte, Nat.reduceEqDiff, Nat.reduceAdd, Nat.reduceSub, Nat.reduceLeDiff, Nat.reduceLT, Nat.reduceBEq, reduceCtorEq, Int.reduceEq]
              refine AW.ret ?_
              cases H
              exact hQ _ _ _ _ (.inr rfl) (by simp only [resVs, omap, resV, ↓wk, ↓wl, nc, evV, wrapBits_eq, ↓reduceIte, Nat.reduceEqDiff, Nat.reduceAdd, Nat.reduceSub, Nat.reduceLeDiff, Nat.reduceLT, Nat.reduceBEq, reduceCtorEq, Int.reduceEq]; rfl) (hand_plain (by rfl)) (by rfl)
          · try simp only [↓wk, ↓wl, nc, evV, wrapBits_eq, ↓reduceIte, Nat.reduceEqDiff, Nat.reduceAdd, Nat.reduceSub, Nat.reduceLeDiff, Nat.reduceLT, Nat.reduceBEq, reduceCtorEq, Int.reduceEq]
            refine AW.ret ?_
            cases H
            exact hQ _ _ _ _ (.inr rfl) (by simp only [resVs, omap, resV, ↓wk, ↓wl, nc, evV, wrapBits_eq, ↓reduceIte, Nat.reduceEqDiff, Nat.reduceAdd, Nat.reduceSub, Nat.reduceLeDiff, Nat.reduceLT, Nat.reduceBEq, reduceCtorEq, Int.reduceEq]; rfl) (hand_plain (by rfl)) (by rfl)
        · try simp only [↓wk, ↓wl, nc, evV, wrapBits_eq, ↓reduceIte, Nat.reduceEqDiff, Nat.reduceAdd, Nat.reduceSub, Nat.reduceLeDiff, Nat.reduceLT, Nat.reduceBEq, reduceCtorEq, Int.reduceEq]
          refine AW.ret ?_
          cases H
          exact hQ _ _ _ _ (.inr rfl) (by simp only [resVs, omap, resV, ↓wk, ↓wl, nc, evV, wrapBits_eq, ↓reduceIte, Nat.reduceEqDiff, Nat.reduceAdd, Nat.reduceSub, Nat.reduceLeDiff, Nat.reduceLT, Nat.reduceBEq, reduceCtorEq, Int.reduceEq]; rfl) (hand_plain (by rfl)) (by rfl)
      · try simp only [↓wk, ↓wl, nc, evV, wrapBits_eq, ↓reduceIte, Nat.reduceEqDiff, Nat.reduceAdd, Nat.reduceSub, Nat.reduceLeDiff, Nat.reduceLT, Nat.reduceBEq, reduceCtorEq, Int.reduceEq]
        refine AW.ret ?_
        cases H
        exact hQ _ _ _ _ (.inr rfl) (by simp only [resVs, omap, resV, ↓wk, ↓wl, nc, evV, wrapBits_eq, ↓reduceIte, Nat.reduceEqDiff, Nat.reduceAdd, Nat.reduceSub, Nat.reduceLeDiff, Nat.reduceLT, Nat.reduceBEq, reduceCtorEq, Int.reduceEq]; rfl) (hand_plain (by rfl)) (by rfl)
noncomputable def f9_L1 (l_748 : (List ApiGroup)) (r_766 : (List ApiGroup) × Int) (g_749 : ApiGroup) : Lp (Int) ((Unit) ⊕ (Unit)) where
  body := fun v_781 => (if (decide (v_781 < ((l_748.length : Nat) : Int))) = true then (at? l_748 v_781).bind fun x_789 => (f28 r_766.1 x_789.fNumber).bind fun r_790 => (if (decide (r_790.2 ≠ 0)) = true then (some (.brk (Sum.inr ()))) else (if (decide (x_789.fNumber ≠ g_749.fNumber)) = true then (f19 x_789 r_790.1).bind fun r_791 => (if (!r_791) = true then (some (.brk (Sum.inr ()))) else (some (.next (IntKind.i64.wrap (v_781 + 1))))) else (some (.next (IntKind.i64.wrap (v_781 + 1)))))) else (some (.brk (Sum.inl ()))))
  cst := fun v_781 => ⟨put (put (put (put (put (fun _ => .junk) 94 (.int .i64 v_781)) 93 (.int .i64 ((l_748.length : Nat) : Int))) 92 (.sl 2 false (l_748.map eApiGroup))) 5 (.sl 2 false (r_766.1.map eApiGroup))) 3 (.ptr 0 0), [.cel [.int .i64 g_749.fNumber, .sl 0 false (g_749.fChannels.map (AV.int .i64))]]⟩
def c9_0 : C := .cond (.t 35) (.seq (.reg [iI 36 (.call (.c (.fn 15 [])) []), iI 4 (.mv (.t 36))]) .ret) (.skip)
def c9_1 : C := .cond (.t 44) (.seq (.reg [iI 45 (.mv (.t 6)), iI 46 (.bin .eql (.t 45) (.c (.int .i64 5))), iI 47 (.mv (.t 46)), iG (some 48) 47 true (.mv (.t 0)), iG (some 49) 47 true (.len 0 (.t 48)), iG (some 50) 47 true (.bin .eql (.t 49) (.c (.int .i64 32))), iI 51 (.pick (.t 47) (.t 50) (.c (.bool false))), iI 52 (.mv (.t 51)), iG (some 53) 52 true (.call (.c (.fn 15 [])) []), iI 54 (.pick (.t 52) (.t 53) (.c (.bool false))), iI 4 (.mv (.t 54))]) .ret) (.skip)
def c9_2 : C := .cond (.t 91) (.seq (.reg [iI 4 (.mv (.c (.bool false)))]) .ret) (.skip)
def c9_3 : C := .cond (.t 119) (.seq (.reg [iI 4 (.mv (.c (.bool false)))]) .ret) (.skip)
def c9_4 : C := .seq (.reg [iI 105 (.mv (.t 16)), iI 106 (.bin .neq (.t 105) (.c (.int .i64 0))), iI 107 (.mv (.t 106)), iG (some 108) 107 false (.faddr 0 (.t 14)), iG (some 109) 107 false (.load 0 (.t 108)), iG (some 110) 107 false (.faddr 0 (.t 3)), iG (some 111) 107 false (.load 0 (.t 110)), iG (some 112) 107 false (.bin .neq (.t 109) (.t 111)), iG (some 113) 107 false (.mv (.t 112)), iG (some 114) 113 true (.load 2 (.t 14)), iG (some 115) 113 true (.load 2 (.t 15)), iG (some 116) 113 true (.call (.c (.fn 19 [])) [(.t 114), (.t 115)]), iG (some 117) 113 true (.un .not (.t 116)), iG (some 118) 107 false (.pick (.t 113) (.t 117) (.c (.bool false))), iI 119 (.pick (.t 107) (.c (.bool true)) (.t 118))]) c9_3
def c9_5 : C := .seq (.reg [iI 99 (.mv (.t 5)), iI 100 (.faddr 0 (.t 14)), iI 101 (.load 0 (.t 100)), iI 102 (.call (.c (.fn 28 [])) [(.t 99), (.t 101)]), iI 98 (.mv (.t 102)), iI 103 (.ext (.t 98) 0), iI 104 (.ext (.t 98) 1), iI 15 (.alloc [(1, (.int .i64 0)), (1, (.sl 0 true []))]), iN (.store 2 (.t 15) (.t 103)), iI 16 (.mv (.t 104))]) c9_4
def c9_6 : C := .reg [iI 120 (.bin .add (.t 94) (.c (.int .i64 1))), iI 94 (.mv (.t 120))]
def c9_7 : C := .seq (.block 1 (.seq (.reg [iI 96 (.iaddr 2 (.t 92) (.t 94)), iI 97 (.load 2 (.t 96)), iI 14 (.alloc [(1, (.int .i64 0)), (1, (.sl 0 true []))]), iN (.store 2 (.t 14) (.t 97))]) c9_5)) c9_6
def c9_8 : C := .seq (.cond (.t 95) (.skip) (.exit 0)) c9_7
def c9_9 : C := .block 0 (.loop (.seq (.reg [iI 95 (.bin .lss (.t 94) (.t 93))]) c9_8))
def c9_10 : C := .seq (.reg [iI 121 (.mv (.t 5)), iI 122 (.call (.c (.fn 22 [])) [(.t 121)]), iI 123 (.bin .eql (.t 122) (.c (.int .i64 0))), iI 124 (.mv (.t 123)), iG (some 125) 124 true (.call (.c (.fn 15 [])) []), iI 126 (.pick (.t 124) (.t 125) (.c (.bool false))), iI 4 (.mv (.t 126))]) .ret
def c9_11 : C := .seq (.seq (.reg [iI 92 (.mv (.t 0)), iI 93 (.len 0 (.t 92)), iI 94 (.mv (.c (.int .i64 0)))]) c9_9) c9_10
def c9_12 : C := .seq (.seq (.reg [iI 76 (.mv (.t 8)), iI 77 (.bin .neq (.t 76) (.c (.int .i64 0))), iI 78 (.mv (.t 77)), iG (some 79) 78 false (.mv (.t 10)), iG (some 80) 78 false (.bin .neq (.t 79) (.c (.int .i64 0))), iI 81 (.pick (.t 78) (.c (.bool true)) (.t 80)), iI 82 (.mv (.t 81)), iG (some 83) 82 false (.mv (.t 12)), iG (some 84) 82 false (.bin .neq (.t 83) (.c (.int .i64 6))), iI 85 (.pick (.t 82) (.c (.bool true)) (.t 84)), iI 86 (.mv (.t 85)), iG (some 87) 86 false (.load 2 (.t 7)), iG (some 88) 86 false (.load 2 (.t 3)), iG (some 89) 86 false (.call (.c (.fn 19 [])) [(.t 87), (.t 88)]), iG (some 90) 86 false (.un .not (.t 89)), iI 91 (.pick (.t 86) (.c (.bool true)) (.t 90))]) c9_2) c9_11
def c9_13 : C := .seq (.reg [iI 70 (.mv (.t 9)), iI 71 (.faddr 0 (.t 3)), iI 72 (.load 0 (.t 71)), iI 73 (.call (.c (.fn 28 [])) [(.t 70), (.t 72)]), iI 69 (.mv (.t 73)), iI 74 (.ext (.t 69) 0), iI 75 (.ext (.t 69) 1), iI 11 (.alloc [(1, (.int .i64 0)), (1, (.sl 0 true []))]), iN (.store 2 (.t 11) (.t 74)), iI 12 (.mv (.t 75))]) c9_12
def c9_14 : C := .seq (.reg [iI 63 (.mv (.t 5)), iI 64 (.faddr 0 (.t 3)), iI 65 (.load 0 (.t 64)), iI 66 (.call (.c (.fn 32 [])) [(.t 63), (.t 65)]), iI 62 (.mv (.t 66)), iI 67 (.ext (.t 62) 0), iI 68 (.ext (.t 62) 1), iI 9 (.mv (.t 67)), iI 10 (.mv (.t 68))]) c9_13
def c9_15 : C := .seq (.reg [iI 56 (.mv (.t 5)), iI 57 (.faddr 0 (.t 3)), iI 58 (.load 0 (.t 57)), iI 59 (.call (.c (.fn 28 [])) [(.t 56), (.t 58)]), iI 55 (.mv (.t 59)), iI 60 (.ext (.t 55) 0), iI 61 (.ext (.t 55) 1), iI 7 (.alloc [(1, (.int .i64 0)), (1, (.sl 0 true []))]), iN (.store 2 (.t 7) (.t 60)), iI 8 (.mv (.t 61))]) c9_14
def c9_16 : C := .seq (.seq (.reg [iI 43 (.mv (.t 6)), iI 44 (.bin .neq (.t 43) (.c (.int .i64 0)))]) c9_1) c9_15
def c9_17 : C := .seq (.reg [iI 38 (.mv (.t 0)), iI 39 (.load 2 (.t 3)), iI 40 (.call (.c (.fn 30 [])) [(.t 38), (.t 39)]), iI 37 (.mv (.t 40)), iI 41 (.ext (.t 37) 0), iI 42 (.ext (.t 37) 1), iI 5 (.mv (.t 41)), iI 6 (.mv (.t 42))]) c9_16
def c9_18 : C := .seq (.seq (.reg [iI 17 (.mv (.t 0)), iI 18 (.call (.c (.fn 17 [])) [(.t 17)]), iI 19 (.un .not (.t 18)), iI 20 (.mv (.t 19)), iG (some 21) 20 false (.load 2 (.t 3)), iG (some 22) 20 false (.mksl 2 1 (.agg [(.int .i64 0), (.sl 0 true [])]) [(0, (.t 21))]), iG (some 23) 20 false (.call (.c (.fn 17 [])) [(.t 22)]), iG (some 24) 20 false (.un .not (.t 23)), iI 25 (.pick (.t 20) (.c (.bool true)) (.t 24)), iI 26 (.mv (.t 25)), iG (some 27) 26 false (.mv (.t 0)), iG (some 28) 26 false (.call (.c (.fn 23 [])) [(.t 27)]), iG (some 29) 26 false (.bin .neq (.t 28) (.c (.int .i64 0))), iI 30 (.pick (.t 26) (.c (.bool true)) (.t 29)), iI 31 (.mv (.t 30)), iG (some 32) 31 false (.load 2 (.t 3)), iG (some 33) 31 false (.call (.c (.fn 21 [])) [(.t 32)]), iG (some 34) 31 false (.bin .neq (.t 33) (.c (.int .i64 0))), iI 35 (.pick (.t 31) (.c (.bool true)) (.t 34))]) c9_0) c9_17
def ir9 : C := .seq (.reg [iI 3 (.box (.t 1)), iI 4 (.mv (.c (.bool false)))]) c9_18
theorem fd9 : fd? Try.prog 9 = some (127, [.slot 4], ir9) := by kernel_rfl
noncomputable def f9 (l_748 : (List ApiGroup)) (g_749 : ApiGroup) : Option (Bool) :=
  (f17 l_748).bind fun r_758 => (if (!r_758) = true then (f15).bind fun r_759 => (some r_759) else (f17 ([g_749])).bind fun r_760 => (if (!r_760) = true then (f15).bind fun r_761 => (some r_761) else (f23 l_748).bind fun r_762 => (if (decide (r_762 ≠ 0)) = true then (f15).bind fun r_763 => (some r_763) else (f21 g_749).bind fun r_764 => (if (decide (r_764 ≠ 0)) = true then (f15).bind fun r_765 => (some r_765) else (f30 l_748 g_749).bind fun r_766 => (if (decide (r_766.2 ≠ 0)) = true then (if (decide (r_766.2 = 5)) = true then (if (decide (((l_748.length : Nat) : Int) = 32)) = true then (f15).bind fun r_768 => (some r_768) else (some false)) else (some false)) else (f28 r_766.1 g_749.fNumber).bind fun r_769 => (f32 r_766.1 g_749.fNumber).bind fun r_770 => (f28 r_770.1 g_749.fNumber).bind fun r_771 => (if (decide (r_769.2 ≠ 0)) = true then (some false) else (if (decide (r_770.2 ≠ 0)) = true then (some false) else (if (decide (r_771.2 ≠ 6)) = true then (some false) else (f19 r_769.1 g_749).bind fun r_773 => (if (!r_773) = true then (some false) else ((Lp.run (f9_L1 l_748 r_766 g_749) 0).bind fun r_ => match r_ with | (Sum.inl _) => (f22 r_766.1).bind fun r_785 => (if (decide (r_785 = 0)) = true then (f15).bind fun r_786 => (some r_786) else (some false)) | (Sum.inr _) => (some false)))))))))))
theorem f9_ok {l_748 : (List ApiGroup)} {g_749 : ApiGroup} {r_ : Bool} (H : f9 l_748 g_749 = some r_) : Pure Try.prog 9 [.sl 2 false (l_748.map eApiGroup), .agg [.int .i64 g_749.fNumber, .sl 0 false (g_749.fChannels.map (AV.int .i64))]] (· = .bool r_) := by
  refine Pure.walk2 fd9 none (Nat.le_of_ble_eq_true rfl) (by rfl) fun Q hQ => ?_
  simp only [f9] at H
  refine AW.rseq ?_
  try simp only [↓wk, ↓wl, nc, evV, wrapBits_eq, ↓reduceIte, Nat.reduceEqDiff, Nat.reduceAdd, Nat.reduceSub, Nat.reduceLeDiff, Nat.reduceLT, Nat.reduceBEq, reduceCtorEq, Int.reduceEq]
  refine AW.sseq ?_
  refine AW.rseq ?_
  try simp only [↓wk, ↓wl, nc, evV, wrapBits_eq, ↓reduceIte, Nat.reduceEqDiff, Nat.reduceAdd, Nat.reduceSub, Nat.reduceLeDiff, Nat.reduceLT, Nat.reduceBEq, reduceCtorEq, Int.reduceEq]
  refine evTs_pure hFn H (fun _ h => f17_ok h) (by rfl) (by rfl) (by rfl) (by rfl) (fun _ => rfl) ?_ <;> clear H <;> intro r_758 H
  try simp only [eL, ↓wk, ↓wl, nc, evV, wrapBits_eq, ↓reduceIte, Nat.reduceEqDiff, Nat.reduceAdd, Nat.reduceSub, Nat.reduceLeDiff, Nat.reduceLT, Nat.reduceBEq, reduceCtorEq, Int.reduceEq]
  refine evTs_ifg H (by rfl) ?_ ?_ <;> clear H <;> intro H
  · try simp only [↓wk, ↓wl, nc, evV, wrapBits_eq, ↓reduceIte, Nat.reduceEqDiff, Nat.reduceAdd, Nat.reduceSub, Nat.reduceLeDiff, Nat.reduceLT, Nat.reduceBEq, reduceCtorEq, Int.reduceEq]
    refine AW.ift (by rfl) ?_
    refine AW.rseq ?_
    try simp only [↓wk, ↓wl, nc, evV, wrapBits_eq, ↓reduceIte, Nat.reduceEqDiff, Nat.reduceAdd, Nat.reduceSub, Nat.reduceLeDiff, Nat.reduceLT, Nat.reduceBEq, reduceCtorEq, Int.reduceEq]
    refine evTs_pure hFn H (fun _ h => f15_ok h) (by rfl) (by rfl) (by rfl) (by rfl) (fun _ => rfl) ?_ <;> clear H <;> intro r_759 H
    try simp only [eL, ↓wk, ↓wl, nc, evV, wrapBits_eq, ↓reduceIte, Nat.reduceEqDiff, Nat.reduceAdd, Nat.reduceSub, Nat.reduceLeDiff, Nat.reduceLT, Nat.reduceBEq, reduceCtorEq, Int.reduceEq]
    refine AW.ret ?_
    refine seqQ.ret ?_
    cases H
    exact hQ _ _ _ _ (.inr rfl) (by simp only [resVs, omap, resV, ↓wk, ↓wl, nc, evV, wrapBits_eq, ↓reduceIte, Nat.reduceEqDiff, Nat.reduceAdd, Nat.reduceSub, Nat.reduceLeDiff, Nat.reduceLT, Nat.reduceBEq, reduceCtorEq, Int.reduceEq]; rfl) (hand_plain (by rfl)) (by rfl)
  · try simp only [↓wk, ↓wl, nc, evV, wrapBits_eq, ↓reduceIte, Nat.reduceEqDiff, Nat.reduceAdd, Nat.reduceSub, Nat.reduceLeDiff, Nat.reduceLT, Nat.reduceBEq, reduceCtorEq, Int.reduceEq]
    refine evTs_pure hFn H (fun _ h => f17_ok h) (by rfl) (by rfl) (by rfl) (by rfl) (fun _ => rfl) ?_ <;> clear H <;> intro r_760 H
    try simp only [eL, ↓wk, ↓wl, nc, evV, wrapBits_eq, ↓reduceIte, Nat.reduceEqDiff, Nat.reduceAdd, Nat.reduceSub, Nat.reduceLeDiff, Nat.reduceLT, Nat.reduceBEq, reduceCtorEq, Int.reduceEq]
    refine evTs_ifg H (by rfl) ?_ ?_ <;> clear H <;> intro H
    · try simp only [↓wk, ↓wl, nc, evV, wrapBits_eq, ↓reduceIte, Nat.reduceEqDiff, Nat.reduceAdd, Nat.reduceSub, Nat.reduceLeDiff, Nat.reduceLT, Nat.reduceBEq, reduceCtorEq, Int.reduceEq]
      refine AW.ift (by rfl) ?_
      refine AW.rseq ?_
      try simp only [↓wk, ↓wl, nc, evV, wrapBits_eq, ↓reduceIte, Nat.reduceEqDiff, Nat.reduceAdd, Nat.reduceSub, Nat.reduceLeDiff, Nat.reduceLT, Nat.reduceBEq, reduceCtorEq, Int.reduceEq]
      refine evTs_pure hFn H (fun _ h => f15_ok h) (by rfl) (by rfl) (by rfl) (by rfl) (fun _ => rfl) ?_ <;> clear H <;> intro r_761 H
      try simp only [eL, ↓wk, ↓wl, nc, evV, wrapBits_eq, ↓reduceIte, Nat.reduceEqDiff, Nat.reduceAdd, Nat.reduceSub, Nat.reduceLeDiff, Nat.reduceLT, Nat.reduceBEq, reduceCtorEq, Int.reduceEq]
      refine AW.ret ?_
      refine seqQ.ret ?_
      cases H
      exact hQ _ _ _ _ (.inr rfl) (by simp only [resVs, omap, resV, ↓wk, ↓wl, nc, evV, wrapBits_eq, ↓reduceIte, Nat.reduceEqDiff, Nat.reduceAdd, Nat.reduceSub, Nat.reduceLeDiff, Nat.reduceLT, Nat.reduceBEq, reduceCtorEq, Int.reduceEq]; rfl) (hand_plain (by rfl)) (by rfl)
    · try simp only [↓wk, ↓wl, nc, evV, wrapBits_eq, ↓reduceIte, Nat.reduceEqDiff, Nat.reduceAdd, Nat.reduceSub, Nat.reduceLeDiff, Nat.reduceLT, Nat.reduceBEq, reduceCtorEq, Int.reduceEq]
      refine evTs_pure hFn H (fun _ h => f23_ok h) (by rfl) (by rfl) (by rfl) (by rfl) (fun _ => rfl) ?_ <;> clear H <;> intro r_762 H
      try simp only [eL, ↓wk, ↓wl, nc, evV, wrapBits_eq, ↓reduceIte, Nat.reduceEqDiff, Nat.reduceAdd, Nat.reduceSub, Nat.reduceLeDiff, Nat.reduceLT, Nat.reduceBEq, reduceCtorEq, Int.reduceEq]
      refine evTs_ifg H (by rfl) ?_ ?_ <;> clear H <;> intro H
      · try simp only [↓wk, ↓wl, nc, evV, wrapBits_eq, ↓reduceIte, Nat.reduceEqDiff, Nat.reduceAdd, Nat.reduceSub, Nat.reduceLeDiff, Nat.reduceLT, Nat.reduceBEq, reduceCtorEq, Int.reduceEq]
        refine AW.ift (by rfl) ?_
        refine AW.rseq ?_
        try simp only [↓wk, ↓wl, nc, evV, wrapBits_eq, ↓reduceIte, Nat.reduceEqDiff, Nat.reduceAdd, Nat.reduceSub, Nat.reduceLeDiff, Nat.reduceLT, Nat.reduceBEq, reduceCtorEq, Int.reduceEq]
        refine evTs_pure hFn H (fun _ h => f15_ok h) (by rfl) (by rfl) (by rfl) (by rfl) (fun _ => rfl) ?_ <;> clear H <;> intro r_763 H
        try simp only [eL, ↓wk, ↓wl, nc, evV, wrapBits_eq, ↓reduceIte, Nat.reduceEqDiff, Nat.reduceAdd, Nat.reduceSub, Nat.reduceLeDiff, Nat.reduceLT, Nat.reduceBEq, reduceCtorEq, Int.reduceEq]
        refine AW.ret ?_
        refine seqQ.ret ?_
        cases H
        exact hQ _ _ _ _ (.inr rfl) (by simp only [resVs, omap, resV, ↓wk, ↓wl, nc, evV, wrapBits_eq, ↓reduceIte, Nat.reduceEqDiff, Nat.reduceAdd, Nat.reduceSub, Nat.reduceLeDiff, Nat.reduceLT, Nat.reduceBEq, reduceCtorEq, Int.reduceEq]; rfl) (hand_plain (by rfl)) (by rfl)
      · try simp only [↓wk, ↓wl, nc, evV, wrapBits_eq, ↓reduceIte, Nat.reduceEqDiff, Nat.reduceAdd, Nat.reduceSub, Nat.reduceLeDiff, Nat.reduceLT, Nat.reduceBEq, reduceCtorEq, Int.reduceEq]
        refine evTs_pure hFn H (fun _ h => f21_ok h) (by rfl) (by rfl) (by rfl) (by rfl) (fun _ => rfl) ?_ <;> clear H <;> intro r_764 H
        try simp only [eL, ↓wk, ↓wl, nc, evV, wrapBits_eq, ↓reduceIte, Nat.reduceEqDiff, Nat.reduceAdd, Nat.reduceSub, Nat.reduceLeDiff, Nat.reduceLT, Nat.reduceBEq, reduceCtorEq, Int.reduceEq]
        refine AW.ifc H (by rfl) ?_ ?_ <;> clear H <;> intro H
        · refine AW.rseq ?_
          try simp only [↓wk, ↓wl, nc, evV, wrapBits_eq, ↓reduceIte, Nat.reduceEqDiff, Nat.reduceAdd, Nat.reduceSub, Nat.reduceLeDiff, Nat.reduceLT, Nat.reduceBEq, reduceCtorEq, Int.reduceEq]
          refine evTs_pure hFn H (fun _ h => f15_ok h) (by rfl) (by rfl) (by rfl) (by rfl) (fun _ => rfl) ?_ <;> clear H <;> intro r_765 H
          try simp only [eL, ↓wk, ↓wl, nc, evV, wrapBits_eq, ↓reduceIte, Nat.reduceEqDiff, Nat.reduceAdd, Nat.reduceSub, Nat.reduceLeDiff, Nat.reduceLT, Nat.reduceBEq, reduceCtorEq, Int.reduceEq]
          refine AW.ret ?_
          refine seqQ.ret ?_
          cases H
          exact hQ _ _ _ _ (.inr rfl) (by simp only [resVs, omap, resV, ↓wk, ↓wl, nc, evV, wrapBits_eq, ↓reduceIte, Nat.reduceEqDiff, Nat.reduceAdd, Nat.reduceSub, Nat.reduceLeDiff, Nat.reduceLT, Nat.reduceBEq, reduceCtorEq, Int.reduceEq]; rfl) (hand_plain (by rfl)) (by rfl)
        · refine AW.skip ?_
          refine seqQ.norm ?_
          refine AW.rseq ?_
          try simp only [↓wk, ↓wl, nc, evV, wrapBits_eq, ↓reduceIte, Nat.reduceEqDiff, Nat.reduceAdd, Nat.reduceSub, Nat.reduceLeDiff, Nat.reduceLT, Nat.reduceBEq, reduceCtorEq, Int.reduceEq]
          refine evTs_pure hFn H (fun _ h => f30_im h) (by rfl) (by rfl) (by rfl) (by rfl) (fun _ => rfl) ?_ <;> clear H <;> intro r_766 H
          try simp only [eL, ↓wk, ↓wl, nc, evV, wrapBits_eq, ↓reduceIte, Nat.reduceEqDiff, Nat.reduceAdd, Nat.reduceSub, Nat.reduceLeDiff, Nat.reduceLT, Nat.reduceBEq, reduceCtorEq, Int.reduceEq]
          refine AW.sseq ?_
          refine AW.rseq ?_
          try simp only [↓wk, ↓wl, nc, evV, wrapBits_eq, ↓reduceIte, Nat.reduceEqDiff, Nat.reduceAdd, Nat.reduceSub, Nat.reduceLeDiff, Nat.reduceLT, Nat.reduceBEq, reduceCtorEq, Int.reduceEq]
          refine AW.ifc H (by rfl) ?_ ?_ <;> clear H <;> intro H
          · refine AW.rseq ?_
            try simp only [↓wk, ↓wl, nc, evV, wrapBits_eq, ↓reduceIte, Nat.reduceEqDiff, Nat.reduceAdd, Nat.reduceSub, Nat.reduceLeDiff, Nat.reduceLT, Nat.reduceBEq, reduceCtorEq, Int.reduceEq]
            refine evTs_ifg H (by rfl) ?_ ?_ <;> clear H <;> intro H
            · try simp only [↓wk, ↓wl, nc, evV, wrapBits_eq, ↓reduceIte, Nat.reduceEqDiff, Nat.reduceAdd, Nat.reduceSub, Nat.reduceLeDiff, Nat.reduceLT, Nat.reduceBEq, reduceCtorEq, Int.reduceEq]
              refine evTs_ifg H (by rfl) ?_ ?_ <;> clear H <;> intro H
              · try simp only [↓wk, ↓wl, nc, evV, wrapBits_eq, ↓reduceIte, Nat.reduceEqDiff, Nat.reduceAdd, Nat.reduceSub, Nat.reduceLeDiff, Nat.reduceLT, Nat.reduceBEq, reduceCtorEq, Int.reduceEq]
                refine evTs_pure hFn H (fun _ h => f15_ok h) (by rfl) (by rfl) (by rfl) (by rfl) (fun _ => rfl) ?_ <;> clear H <;> intro r_768 H
                try simp only [eL, ↓wk, ↓wl, nc, evV, wrapBits_eq, ↓reduceIte, Nat.reduceEqDiff, Nat.reduceAdd, Nat.reduceSub, Nat.reduceLeDiff, Nat.reduceLT, Nat.reduceBEq, reduceCtorEq, Int.reduceEq]
                refine AW.ret ?_
                refine seqQ.ret ?_
                cases H
                exact hQ _ _ _ _ (.inr rfl) (by simp only [resVs, omap, resV, ↓wk, ↓wl, nc, evV, wrapBits_eq, ↓reduceIte, Nat.reduceEqDiff, Nat.reduceAdd, Nat.reduceSub, Nat.reduceLeDiff, Nat.reduceLT, Nat.reduceBEq, reduceCtorEq, Int.reduceEq]; rfl) (hand_plain (by rfl)) (by rfl)
              · try simp only [↓wk, ↓wl, nc, evV, wrapBits_eq, ↓reduceIte, Nat.reduceEqDiff, Nat.reduceAdd, Nat.reduceSub, Nat.reduceLeDiff, Nat.reduceLT, Nat.reduceBEq, reduceCtorEq, Int.reduceEq]
                refine AW.ret ?_
                refine seqQ.ret ?_
                cases H
                exact hQ _ _ _ _ (.inr rfl) (by simp only [resVs, omap, resV, ↓wk, ↓wl, nc, evV, wrapBits_eq, ↓reduceIte, Nat.reduceEqDiff, Nat.reduceAdd, Nat.reduceSub, Nat.reduceLeDiff, Nat.reduceLT, Nat.reduceBEq, reduceCtorEq, Int.reduceEq]; rfl) (hand_plain (by rfl)) (by rfl)
            · try simp only [↓wk, ↓wl, nc, evV, wrapBits_eq, ↓reduceIte, Nat.reduceEqDiff, Nat.reduceAdd, Nat.reduceSub, Nat.reduceLeDiff, Nat.reduceLT, Nat.reduceBEq, reduceCtorEq, Int.reduceEq]
              refine AW.ret ?_
              refine seqQ.ret ?_
              cases H
              exact hQ _ _ _ _ (.inr rfl) (by simp only [resVs, omap, resV, ↓wk, ↓wl, nc, evV, wrapBits_eq, ↓reduceIte, Nat.reduceEqDiff, Nat.reduceAdd, Nat.reduceSub, Nat.reduceLeDiff, Nat.reduceLT, Nat.reduceBEq, reduceCtorEq, Int.reduceEq]; rfl) (hand_plain (by rfl)) (by rfl)
          · refine AW.skip ?_
            refine seqQ.norm ?_
            refine AW.rseq ?_
            try simp only [↓wk, ↓wl, nc, evV, wrapBits_eq, ↓reduceIte, Nat.reduceEqDiff, Nat.reduceAdd, Nat.reduceSub, Nat.reduceLeDiff, Nat.reduceLT, Nat.reduceBEq, reduceCtorEq, Int.reduceEq]
            refine evTs_pure hFn H (fun _ h => f28_ok h) (by rfl) (by rfl) (by rfl) (by rfl) (fun _ => rfl) ?_ <;> clear H <;> intro r_769 H
            try simp only [eL, eApiGroup, ↓wk, ↓wl, nc, evV, wrapBits_eq, ↓reduceIte, Nat.reduceEqDiff, Nat.reduceAdd, Nat.reduceSub, Nat.reduceLeDiff, Nat.reduceLT, Nat.reduceBEq, reduceCtorEq, Int.reduceEq]
            refine AW.rseq ?_
            try simp only [↓wk, ↓wl, nc, evV, wrapBits_eq, ↓reduceIte, Nat.reduceEqDiff, Nat.reduceAdd, Nat.reduceSub, Nat.reduceLeDiff, Nat.reduceLT, Nat.reduceBEq, reduceCtorEq, Int.reduceEq]
            refine evTs_pure hFn H (fun _ h => f32_im h) (by rfl) (by rfl) (by rfl) (by rfl) (fun _ => rfl) ?_ <;> clear H <;> intro r_770 H
            try simp only [eL, ↓wk, ↓wl, nc, evV, wrapBits_eq, ↓reduceIte, Nat.reduceEqDiff, Nat.reduceAdd, Nat.reduceSub, Nat.reduceLeDiff, Nat.reduceLT, Nat.reduceBEq, reduceCtorEq, Int.reduceEq]
            refine AW.rseq ?_
            try simp only [↓wk, ↓wl, nc, evV, wrapBits_eq, ↓reduceIte, Nat.reduceEqDiff, Nat.reduceAdd, Nat.reduceSub, Nat.reduceLeDiff, Nat.reduceLT, Nat.reduceBEq, reduceCtorEq, Int.reduceEq]
            refine evTs_pure hFn H (fun _ h => f28_ok h) (by rfl) (by rfl) (by rfl) (by rfl) (fun _ => rfl) ?_ <;> clear H <;> intro r_771 H
            try simp only [eL, eApiGroup, ↓wk, ↓wl, nc, evV, wrapBits_eq, ↓reduceIte, Nat.reduceEqDiff, Nat.reduceAdd, Nat.reduceSub, Nat.reduceLeDiff, Nat.reduceLT, Nat.reduceBEq, reduceCtorEq, Int.reduceEq]
            refine AW.sseq ?_
            refine AW.rseq ?_
            try simp only [↓wk, ↓wl, nc, evV, wrapBits_eq, ↓reduceIte, Nat.reduceEqDiff, Nat.reduceAdd, Nat.reduceSub, Nat.reduceLeDiff, Nat.reduceLT, Nat.reduceBEq, reduceCtorEq, Int.reduceEq]
            refine evTs_ifg H (by rfl) ?_ ?_ <;> clear H <;> intro H
            · try simp only [↓wk, ↓wl, nc, evV, wrapBits_eq, ↓reduceIte, Nat.reduceEqDiff, Nat.reduceAdd, Nat.reduceSub, Nat.reduceLeDiff, Nat.reduceLT, Nat.reduceBEq, reduceCtorEq, Int.reduceEq]
              refine AW.ift (by rfl) ?_
              refine AW.rseq ?_
              try simp only [↓wk, ↓wl, nc, evV, wrapBits_eq, ↓reduceIte, Nat.reduceEqDiff, Nat.reduceAdd, Nat.reduceSub, Nat.reduceLeDiff, Nat.reduceLT, Nat.reduceBEq, reduceCtorEq, Int.reduceEq]
              refine AW.ret ?_
              refine seqQ.ret ?_
              cases H
              exact hQ _ _ _ _ (.inr rfl) (by simp only [resVs, omap, resV, ↓wk, ↓wl, nc, evV, wrapBits_eq, ↓reduceIte, Nat.reduceEqDiff, Nat.reduceAdd, Nat.reduceSub, Nat.reduceLeDiff, Nat.reduceLT, Nat.reduceBEq, reduceCtorEq, Int.reduceEq]; rfl) (hand_plain (by rfl)) (by rfl)
            · try simp only [↓wk, ↓wl, nc, evV, wrapBits_eq, ↓reduceIte, Nat.reduceEqDiff, Nat.reduceAdd, Nat.reduceSub, Nat.reduceLeDiff, Nat.reduceLT, Nat.reduceBEq, reduceCtorEq, Int.reduceEq]
              refine evTs_ifg H (by rfl) ?_ ?_ <;> clear H <;> intro H
              · try simp only [↓wk, ↓wl, nc, evV, wrapBits_eq, ↓reduceIte, Nat.reduceEqDiff, Nat.reduceAdd, Nat.reduceSub, Nat.reduceLeDiff, Nat.reduceLT, Nat.reduceBEq, reduceCtorEq, Int.reduceEq]
                refine AW.ift (by rfl) ?_
                refine AW.rseq ?_
                try simp only [↓wk, ↓wl, nc, evV, wrapBits_eq, ↓reduceIte, Nat.reduceEqDiff, Nat.reduceAdd, Nat.reduceSub, Nat.reduceLeDiff, Nat.reduceLT, Nat.reduceBEq, reduceCtorEq, Int.reduceEq]
                refine AW.ret ?_
                refine seqQ.ret ?_
                cases H
                exact hQ _ _ _ _ (.inr rfl) (by simp only [resVs, omap, resV, ↓wk, ↓wl, nc, evV, wrapBits_eq, ↓reduceIte, Nat.reduceEqDiff, Nat.reduceAdd, Nat.reduceSub, Nat.reduceLeDiff, Nat.reduceLT, Nat.reduceBEq, reduceCtorEq, Int.reduceEq]; rfl) (hand_plain (by rfl)) (by rfl)
              · try simp only [↓wk, ↓wl, nc, evV, wrapBits_eq, ↓reduceIte, Nat.reduceEqDiff, Nat.reduceAdd, Nat.reduceSub, Nat.reduceLeDiff, Nat.reduceLT, Nat.reduceBEq, reduceCtorEq, Int.reduceEq]
                refine evTs_ifg H (by rfl) ?_ ?_ <;> clear H <;> intro H
                · try simp only [↓wk, ↓wl, nc, evV, wrapBits_eq, ↓reduceIte, Nat.reduceEqDiff, Nat.reduceAdd, Nat.reduceSub, Nat.reduceLeDiff, Nat.reduceLT, Nat.reduceBEq, reduceCtorEq, Int.reduceEq]
                  refine AW.ift (by rfl) ?_
                  refine AW.rseq ?_
                  try simp only [↓wk, ↓wl, nc, evV, wrapBits_eq, ↓reduceIte, Nat.reduceEqDiff, Nat.reduceAdd, Nat.reduceSub, Nat.reduceLeDiff, Nat.reduceLT, Nat.reduceBEq, reduceCtorEq, Int.reduceEq]
                  refine AW.ret ?_
                  refine seqQ.ret ?_
                  cases H
                  exact hQ _ _ _ _ (.inr rfl) (by simp only [resVs, omap, resV, ↓wk, ↓wl, nc, evV, wrapBits_eq, ↓reduceIte, Nat.reduceEqDiff, Nat.reduceAdd, Nat.reduceSub, Nat.reduceLeDiff, Nat.reduceLT, Nat.reduceBEq, reduceCtorEq, Int.reduceEq]; rfl) (hand_plain (by rfl)) (by rfl)
                · try simp only [↓wk, ↓wl, nc, evV, wrapBits_eq, ↓reduceIte, Nat.reduceEqDiff, Nat.reduceAdd, Nat.reduceSub, Nat.reduceLeDiff, Nat.reduceLT, Nat.reduceBEq, reduceCtorEq, Int.reduceEq]
                  refine evTs_pure hFn H (fun _ h => f19_ok h) (by rfl) (by rfl) (by rfl) (by rfl) (fun _ => rfl) ?_ <;> clear H <;> intro r_773 H
                  try simp only [eL, ↓wk, ↓wl, nc, evV, wrapBits_eq, ↓reduceIte, Nat.reduceEqDiff, Nat.reduceAdd, Nat.reduceSub, Nat.reduceLeDiff, Nat.reduceLT, Nat.reduceBEq, reduceCtorEq, Int.reduceEq]
                  refine AW.ifc H (by rfl) ?_ ?_ <;> clear H <;> intro H
                  · refine AW.rseq ?_
                    try simp only [↓wk, ↓wl, nc, evV, wrapBits_eq, ↓reduceIte, Nat.reduceEqDiff, Nat.reduceAdd, Nat.reduceSub, Nat.reduceLeDiff, Nat.reduceLT, Nat.reduceBEq, reduceCtorEq, Int.reduceEq]
                    refine AW.ret ?_
                    refine seqQ.ret ?_
                    cases H
                    exact hQ _ _ _ _ (.inr rfl) (by simp only [resVs, omap, resV, ↓wk, ↓wl, nc, evV, wrapBits_eq, ↓reduceIte, Nat.reduceEqDiff, Nat.reduceAdd, Nat.reduceSub, Nat.reduceLeDiff, Nat.reduceLT, Nat.reduceBEq, reduceCtorEq, Int.reduceEq]; rfl) (hand_plain (by rfl)) (by rfl)
                  · refine AW.skip ?_
                    refine seqQ.norm ?_
                    refine AW.sseq ?_
                    refine AW.rseq ?_
                    try simp only [↓wk, ↓wl, nc, evV, wrapBits_eq, ↓reduceIte, Nat.reduceEqDiff, Nat.reduceAdd, Nat.reduceSub, Nat.reduceLeDiff, Nat.reduceLT, Nat.reduceBEq, reduceCtorEq, Int.reduceEq]
                    refine AW.bend ?_
                    refine AW.iter H ((Le.none [0] [3, 5, 92, 93, 94] (by decide) (by simp only [f9_L1, List.length_set, Option.map_some, restrict_eq, renS_nil, renS_cons, renB_els, renB_cel, renB_dead, deep_eq, map_ren_enc, ren_agg', ren_tup', ren_fn', ren_int', ren_bool', ren_str', ren_sl', ren_pro', ren_nilp', ren_nilfn', ren_junk', ren_ptr', ren_row', ren_arow', ren_eptr', vm, List.idxOf?_cons, List.idxOf?_nil, beq_self_eq_true, Option.map_none, List.getD_cons_zero, List.getD_cons_succ, ↓wk, ↓wl, nc, evV, wrapBits_eq, ↓reduceIte, Nat.reduceEqDiff, Nat.reduceAdd, Nat.reduceSub, Nat.reduceLeDiff, Nat.reduceLT, Nat.reduceBEq, reduceCtorEq, Int.reduceEq]))) ?_ <;> clear H
                    rintro v_781 x_ st0_ H hst_
                    simp only [f9_L1] at H hst_
                    subst hst_
                    refine AW.rseq ?_
                    try simp only [↓wk, ↓wl, nc, evV, wrapBits_eq, ↓reduceIte, Nat.reduceEqDiff, Nat.reduceAdd, Nat.reduceSub, Nat.reduceLeDiff, Nat.reduceLT, Nat.reduceBEq, reduceCtorEq, Int.reduceEq]
                    refine AW.sseq ?_
                    refine AW.ifc H (by rfl) ?_ ?_ <;> clear H <;> intro H
                    · refine AW.skip ?_
                      refine seqQ.norm ?_
                      refine AW.bseq ?_
                      refine AW.rseq ?_
                      try simp only [↓wk, ↓wl, nc, evV, wrapBits_eq, ↓reduceIte, Nat.reduceEqDiff, Nat.reduceAdd, Nat.reduceSub, Nat.reduceLeDiff, Nat.reduceLT, Nat.reduceBEq, reduceCtorEq, Int.reduceEq]
                      refine evTs_at (enc := eApiGroup) H (by rfl) (by rfl) ?_ <;> clear H <;> intro x_789 H
                      try simp only [eApiGroup, eL, ↓wk, ↓wl, nc, evV, wrapBits_eq, ↓reduceIte, Nat.reduceEqDiff, Nat.reduceAdd, Nat.reduceSub, Nat.reduceLeDiff, Nat.reduceLT, Nat.reduceBEq, reduceCtorEq, Int.reduceEq]
                      refine AW.rseq ?_
                      try simp only [↓wk, ↓wl, nc, evV, wrapBits_eq, ↓reduceIte, Nat.reduceEqDiff, Nat.reduceAdd, Nat.reduceSub, Nat.reduceLeDiff, Nat.reduceLT, Nat.reduceBEq, reduceCtorEq, Int.reduceEq]
                      refine evTs_pure hFn H (fun _ h => f28_ok h) (by rfl) (by rfl) (by rfl) (by rfl) (fun _ => rfl) ?_ <;> clear H <;> intro r_790 H
                      try simp only [eL, eApiGroup, ↓wk, ↓wl, nc, evV, wrapBits_eq, ↓reduceIte, Nat.reduceEqDiff, Nat.reduceAdd, Nat.reduceSub, Nat.reduceLeDiff, Nat.reduceLT, Nat.reduceBEq, reduceCtorEq, Int.reduceEq]
                      refine AW.rseq ?_
                      try simp only [↓wk, ↓wl, nc, evV, wrapBits_eq, ↓reduceIte, Nat.reduceEqDiff, Nat.reduceAdd, Nat.reduceSub, Nat.reduceLeDiff, Nat.reduceLT, Nat.reduceBEq, reduceCtorEq, Int.reduceEq]
                      refine evTs_ifg H (by rfl) ?_ ?_ <;> clear H <;> intro H
                      · try simp only [↓wk, ↓wl, nc, evV, wrapBits_eq, ↓reduceIte, Nat.reduceEqDiff, Nat.reduceAdd, Nat.reduceSub, Nat.reduceLeDiff, Nat.reduceLT, Nat.reduceBEq, reduceCtorEq, Int.reduceEq]
                        refine AW.ift (by rfl) ?_
                        refine AW.rseq ?_
                        try simp only [↓wk, ↓wl, nc, evV, wrapBits_eq, ↓reduceIte, Nat.reduceEqDiff, Nat.reduceAdd, Nat.reduceSub, Nat.reduceLeDiff, Nat.reduceLT, Nat.reduceBEq, reduceCtorEq, Int.reduceEq]
                        refine AW.ret ?_
                        refine blkQ.ret ?_
                        refine loopQ.ret H ?_ <;> clear H <;> intro H
                        try dsimp only at H
                        refine blk0.ret ?_
                        refine seqQ.ret ?_
                        cases H
                        exact hQ _ _ _ _ (.inr rfl) (by simp only [resVs, omap, resV, ↓wk, ↓wl, nc, evV, wrapBits_eq, ↓reduceIte, Nat.reduceEqDiff, Nat.reduceAdd, Nat.reduceSub, Nat.reduceLeDiff, Nat.reduceLT, Nat.reduceBEq, reduceCtorEq, Int.reduceEq]; rfl) (hand_plain (by rfl)) (by rfl)
                      · try simp only [↓wk, ↓wl, nc, evV, wrapBits_eq, ↓reduceIte, Nat.reduceEqDiff, Nat.reduceAdd, Nat.reduceSub, Nat.reduceLeDiff, Nat.reduceLT, Nat.reduceBEq, reduceCtorEq, Int.reduceEq]
                        refine evTs_ifg H (by rfl) ?_ ?_ <;> clear H <;> intro H
                        · try simp only [↓wk, ↓wl, nc, evV, wrapBits_eq, ↓reduceIte, Nat.reduceEqDiff, Nat.reduceAdd, Nat.reduceSub, Nat.reduceLeDiff, Nat.reduceLT, Nat.reduceBEq, reduceCtorEq, Int.reduceEq]
                          refine evTs_pure hFn H (fun _ h => f19_ok h) (by rfl) (by rfl) (by rfl) (by rfl) (fun _ => rfl) ?_ <;> clear H <;> intro r_791 H
                          try simp only [eL, ↓wk, ↓wl, nc, evV, wrapBits_eq, ↓reduceIte, Nat.reduceEqDiff, Nat.reduceAdd, Nat.reduceSub, Nat.reduceLeDiff, Nat.reduceLT, Nat.reduceBEq, reduceCtorEq, Int.reduceEq]
                          refine AW.ifc H (by rfl) ?_ ?_ <;> clear H <;> intro H
                          · refine AW.rseq ?_
                            try simp only [↓wk, ↓wl, nc, evV, wrapBits_eq, ↓reduceIte, Nat.reduceEqDiff, Nat.reduceAdd, Nat.reduceSub, Nat.reduceLeDiff, Nat.reduceLT, Nat.reduceBEq, reduceCtorEq, Int.reduceEq]
                            refine AW.ret ?_
                            refine blkQ.ret ?_
                            refine loopQ.ret H ?_ <;> clear H <;> intro H
                            try dsimp only at H
                            refine blk0.ret ?_
                            refine seqQ.ret ?_
                            cases H
                            exact hQ _ _ _ _ (.inr rfl) (by simp only [resVs, omap, resV, ↓wk, ↓wl, nc, evV, wrapBits_eq, ↓reduceIte, Nat.reduceEqDiff, Nat.reduceAdd, Nat.reduceSub, Nat.reduceLeDiff, Nat.reduceLT, Nat.reduceBEq, reduceCtorEq, Int.reduceEq]; rfl) (hand_plain (by rfl)) (by rfl)
                          · refine AW.skip ?_
                            refine blkQ.norm ?_
                            refine AW.rend ?_
                            try simp only [↓wk, ↓wl, nc, evV, wrapBits_eq, ↓reduceIte, Nat.reduceEqDiff, Nat.reduceAdd, Nat.reduceSub, Nat.reduceLeDiff, Nat.reduceLT, Nat.reduceBEq, reduceCtorEq, Int.reduceEq]
                            exact loopQ.next H ((Le.none [0] [3, 5, 92, 93, 94] (by decide) (by simp only [f9_L1, List.length_set, Option.map_some, restrict_eq, renS_nil, renS_cons, renB_els, renB_cel, renB_dead, deep_eq, map_ren_enc, ren_agg', ren_tup', ren_fn', ren_int', ren_bool', ren_str', ren_sl', ren_pro', ren_nilp', ren_nilfn', ren_junk', ren_ptr', ren_row', ren_arow', ren_eptr', vm, List.idxOf?_cons, List.idxOf?_nil, beq_self_eq_true, Option.map_none, List.getD_cons_zero, List.getD_cons_succ, ↓wk, ↓wl, nc, evV, wrapBits_eq, ↓reduceIte, Nat.reduceEqDiff, Nat.reduceAdd, Nat.reduceSub, Nat.reduceLeDiff, Nat.reduceLT, Nat.reduceBEq, reduceCtorEq, Int.reduceEq])))
                        · try simp only [↓wk, ↓wl, nc, evV, wrapBits_eq, ↓reduceIte, Nat.reduceEqDiff, Nat.reduceAdd, Nat.reduceSub, Nat.reduceLeDiff, Nat.reduceLT, Nat.reduceBEq, reduceCtorEq, Int.reduceEq]
                          refine AW.iff (by rfl) ?_
                          refine AW.skip ?_
                          refine blkQ.norm ?_
                          refine AW.rend ?_
                          try simp only [↓wk, ↓wl, nc, evV, wrapBits_eq, ↓reduceIte, Nat.reduceEqDiff, Nat.reduceAdd, Nat.reduceSub, Nat.reduceLeDiff, Nat.reduceLT, Nat.reduceBEq, reduceCtorEq, Int.reduceEq]
                          exact loopQ.next H ((Le.none [0] [3, 5, 92, 93, 94] (by decide) (by simp only [f9_L1, List.length_set, Option.map_some, restrict_eq, renS_nil, renS_cons, renB_els, renB_cel, renB_dead, deep_eq, map_ren_enc, ren_agg', ren_tup', ren_fn', ren_int', ren_bool', ren_str', ren_sl', ren_pro', ren_nilp', ren_nilfn', ren_junk', ren_ptr', ren_row', ren_arow', ren_eptr', vm, List.idxOf?_cons, List.idxOf?_nil, beq_self_eq_true, Option.map_none, List.getD_cons_zero, List.getD_cons_succ, ↓wk, ↓wl, nc, evV, wrapBits_eq, ↓reduceIte, Nat.reduceEqDiff, Nat.reduceAdd, Nat.reduceSub, Nat.reduceLeDiff, Nat.reduceLT, Nat.reduceBEq, reduceCtorEq, Int.reduceEq])))
                    · refine AW.exit ?_
                      refine seqQ.exit ?_
                      refine loopQ.exit H ?_ <;> clear H <;> intro H
                      try dsimp only at H
                      refine blk0.here ?_
                      refine seqQ.norm ?_
                      refine AW.rseq ?_
                      try simp only [↓wk, ↓wl, nc, evV, wrapBits_eq, ↓reduceIte, Nat.reduceEqDiff, Nat.reduceAdd, Nat.reduceSub, Nat.reduceLeDiff, Nat.reduceLT, Nat.reduceBEq, reduceCtorEq, Int.reduceEq]
                      refine evTs_pure hFn H (fun _ h => f22_ok h) (by rfl) (by rfl) (by rfl) (by rfl) (fun _ => rfl) ?_ <;> clear H <;> intro r_792 H
                      try simp only [eL, ↓wk, ↓wl, nc, evV, wrapBits_eq, ↓reduceIte, Nat.reduceEqDiff, Nat.reduceAdd, Nat.reduceSub, Nat.reduceLeDiff, Nat.reduceLT, Nat.reduceBEq, reduceCtorEq, Int.reduceEq]
                      refine evTs_ifg H (by rfl) ?_ ?_ <;> clear H <;> intro H
                      · try simp only [↓wk, ↓wl, nc, evV, wrapBits_eq, ↓reduceIte, Nat.reduceEqDiff, Nat.reduceAdd, Nat.reduceSub, Nat.reduceLeDiff, Nat.reduceLT, Nat.reduceBEq, reduceCtorEq, Int.reduceEq]
                        refine evTs_pure hFn H (fun _ h => f15_ok h) (by rfl) (by rfl) (by rfl) (by rfl) (fun _ => rfl) ?_ <;> clear H <;> intro r_793 H
                        try simp only [eL, ↓wk, ↓wl, nc, evV, wrapBits_eq, ↓reduceIte, Nat.reduceEqDiff, Nat.reduceAdd, Nat.reduceSub, Nat.reduceLeDiff, Nat.reduceLT, Nat.reduceBEq, reduceCtorEq, Int.reduceEq]
                        refine AW.ret ?_
                        cases H
                        exact hQ _ _ _ _ (.inr rfl) (by simp only [resVs, omap, resV, ↓wk, ↓wl, nc, evV, wrapBits_eq, ↓reduceIte, Nat.reduceEqDiff, Nat.reduceAdd, Nat.reduceSub, Nat.reduceLeDiff, Nat.reduceLT, Nat.reduceBEq, reduceCtorEq, Int.reduceEq]; rfl) (hand_plain (by rfl)) (by rfl)
                      · try simp only [↓wk, ↓wl, nc, evV, wrapBits_eq, ↓reduceIte, Nat.reduceEqDiff, Nat.reduceAdd, Nat.reduceSub, Nat.reduceLeDiff, Nat.reduceLT, Nat.reduceBEq, reduceCtorEq, Int.reduceEq]
                        refine AW.ret ?_
                        cases H
                        exact hQ _ _ _ _ (.inr rfl) (by simp only [resVs, omap, resV, ↓wk, ↓wl, nc, evV, wrapBits_eq, ↓reduceIte, Nat.reduceEqDiff, Nat.reduceAdd, Nat.reduceSub, Nat.reduceLeDiff, Nat.reduceLT, Nat.reduceBEq, reduceCtorEq, Int.reduceEq]; rfl) (hand_plain (by rfl)) (by rfl)
end Go.Proofs.Ytccipmhffapcmaa
