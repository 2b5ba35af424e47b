import Derived.Test.YtccipmhffapcmaaX1
import Derived.Test.YtccipmhffapcmaaProg
import Derived.KernelRfl
namespace Go.Proofs.Ytccipmhffapcmaa
open Go Go.Ab

set_option maxHeartbeats 1000000
set_option linter.unusedSimpArgs false
set_option linter.unusedVariables false
def c43_4 : C := .seq (.block 1 (.seq (.reg [iI 17 (.mv (.t 0)), iI 18 (.mv (.t 5)), iI 19 (.iaddr 0 (.t 17) (.t 18)), iI 20 (.load 0 (.t 19)), iI 21 (.mv (.t 1)), iI 22 (.mv (.t 5)), iI 23 (.iaddr 0 (.t 21) (.t 22)), iI 24 (.load 0 (.t 23)), iI 25 (.bin .neq (.t 20) (.t 24))]) c43_2)) c43_3
def c43_5 : C := .block 0 (.loop (.seq (.seq (.reg [iI 11 (.mv (.t 5)), iI 12 (.mv (.t 0)), iI 13 (.len 0 (.t 12)), iI 14 (.bin .lss (.t 11) (.t 13))]) c43_1) c43_4))
def c43_6 : C := .seq (.reg [iI 4 (.mv (.c (.bool true)))]) .ret
def c43_7 : C := .seq (.seq (.reg [iI 5 (.mv (.c (.int .i64 0)))]) c43_5) c43_6
def c43_8 : C := .seq (.seq (.reg [iI 6 (.mv (.t 0)), iI 7 (.len 0 (.t 6)), iI 8 (.mv (.t 1)), iI 9 (.len 0 (.t 8)), iI 10 (.bin .neq (.t 7) (.t 9))]) c43_0) c43_7
def ir43 : C := .seq (.reg [iI 4 (.mv (.c (.bool false)))]) c43_8
theorem fd43 : fd? Try.prog 43 = some (26, [.slot 4], ir43) := by kernel_rfl
noncomputable def f43 (a_409 : (List Int)) (b_410 : (List Int)) : Option (Bool) :=
  (if (decide (((a_409.length : Nat) : Int) ≠ ((b_410.length : Nat) : Int))) = true then (some false) else ((Lp.run (f43_L1 a_409 b_410) 0).bind fun r_ => match r_ with | (Sum.inl _) => (some true) | (Sum.inr _) => (some false)))
theorem f43_ok {a_409 : (List Int)} {b_410 : (List Int)} {r_ : Bool} (H : f43 a_409 b_410 = some r_) : Pure Try.prog 43 [.sl 0 false (a_409.map (AV.int .i64)), .sl 0 false (b_410.map (AV.int .i64))] (· = .bool r_) := by
  refine Pure.walk2 fd43 none (Nat.le_of_ble_eq_true rfl) (by rfl) fun Q hQ => ?_
  simp only [f43] at H
  refine AW.rseq ?_
  try simp only [↓wk, ↓wl, nc, evV, ↓reduceIte, Nat.reduceEqDiff, Nat.reduceAdd, Nat.reduceSub, Nat.reduceLeDiff, Nat.reduceLT, Nat.reduceBEq, reduceCtorEq, Int.reduceEq]
  refine AW.sseq ?_
  refine AW.rseq ?_
  try simp only [↓wk, ↓wl, nc, evV, ↓reduceIte, Nat.reduceEqDiff, Nat.reduceAdd, Nat.reduceSub, Nat.reduceLeDiff, Nat.reduceLT, Nat.reduceBEq, reduceCtorEq, Int.reduceEq]
  refine AW.ifc H (by rfl) ?_ ?_ <;> clear H <;> intro H
  · refine AW.rseq ?_
    try simp only [↓wk, ↓wl, nc, evV, ↓reduceIte, Nat.reduceEqDiff, Nat.reduceAdd, Nat.reduceSub, Nat.reduceLeDiff, Nat.reduceLT, Nat.reduceBEq, reduceCtorEq, Int.reduceEq]
    refine AW.ret ?_
    refine seqQ.ret ?_
    cases H
    exact hQ _ _ _ _ (.inr rfl) (by simp only [resVs, omap, resV, ↓wk, ↓wl, nc, evV, ↓reduceIte, Nat.reduceEqDiff, Nat.reduceAdd, Nat.reduceSub, Nat.reduceLeDiff, Nat.reduceLT, Nat.reduceBEq, reduceCtorEq, Int.reduceEq]; rfl) (hand_plain (by rfl)) (by rfl)
  · refine AW.skip ?_
    refine seqQ.norm ?_
    refine AW.sseq ?_
    refine AW.rseq ?_
    try simp only [↓wk, ↓wl, nc, evV, ↓reduceIte, Nat.reduceEqDiff, Nat.reduceAdd, Nat.reduceSub, Nat.reduceLeDiff, Nat.reduceLT, Nat.reduceBEq, reduceCtorEq, Int.reduceEq]
    refine AW.bend ?_
    refine AW.iter H ((Le.none [] [0, 1, 5] (by decide) (by simp only [f43_L1, List.length_set, Option.map_some, restrict_eq, renS_nil, renS_cons, renB_els, renB_cel, renB_dead, deep_eq, map_ren_enc, ren_agg', ren_tup', ren_fn', ren_int', ren_bool', ren_str', ren_sl', ren_pro', ren_nilp', ren_nilfn', ren_junk', ren_ptr', ren_row', ren_arow', ren_eptr', vm, List.idxOf?_cons, List.idxOf?_nil, beq_self_eq_true, Option.map_none, List.getD_cons_zero, List.getD_cons_succ, ↓wk, ↓wl, nc, evV, ↓reduceIte, Nat.reduceEqDiff, Nat.reduceAdd, Nat.reduceSub, Nat.reduceLeDiff, Nat.reduceLT, Nat.reduceBEq, reduceCtorEq, Int.reduceEq]))) ?_ <;> clear H
    rintro i_416 x_ st0_ H hst_
    simp only [f43_L1] at H hst_
    subst hst_
    refine AW.sseq ?_
    refine AW.rseq ?_
    try simp only [↓wk, ↓wl, nc, evV, ↓reduceIte, Nat.reduceEqDiff, Nat.reduceAdd, Nat.reduceSub, Nat.reduceLeDiff, Nat.reduceLT, Nat.reduceBEq, reduceCtorEq, Int.reduceEq]
    refine AW.ifc H (by rfl) ?_ ?_ <;> clear H <;> intro H
    · refine AW.skip ?_
      refine seqQ.norm ?_
      refine AW.bseq ?_
      refine AW.rseq ?_
      try simp only [↓wk, ↓wl, nc, evV, ↓reduceIte, Nat.reduceEqDiff, Nat.reduceAdd, Nat.reduceSub, Nat.reduceLeDiff, Nat.reduceLT, Nat.reduceBEq, reduceCtorEq, Int.reduceEq]
      refine evTs_at (enc := (AV.int .i64)) H (by rfl) (by rfl) ?_ <;> clear H <;> intro x_419 H
      try simp only [↓wk, ↓wl, nc, evV, ↓reduceIte, Nat.reduceEqDiff, Nat.reduceAdd, Nat.reduceSub, Nat.reduceLeDiff, Nat.reduceLT, Nat.reduceBEq, reduceCtorEq, Int.reduceEq]
      refine evTs_at (enc := (AV.int .i64)) H (by rfl) (by rfl) ?_ <;> clear H <;> intro x_420 H
      try simp only [↓wk, ↓wl, nc, evV, ↓reduceIte, Nat.reduceEqDiff, Nat.reduceAdd, Nat.reduceSub, Nat.reduceLeDiff, Nat.reduceLT, Nat.reduceBEq, reduceCtorEq, Int.reduceEq]
      refine AW.ifc H (by rfl) ?_ ?_ <;> clear H <;> intro H
      · refine AW.rseq ?_
        try simp only [↓wk, ↓wl, nc, evV, ↓reduceIte, Nat.reduceEqDiff, Nat.reduceAdd, Nat.reduceSub, Nat.reduceLeDiff, Nat.reduceLT, Nat.reduceBEq, reduceCtorEq, Int.reduceEq]
        refine AW.ret ?_
        refine blkQ.ret ?_
        refine loopQ.ret H ?_ <;> clear H <;> intro H
        try dsimp only at H
        refine blk0.ret ?_
        refine seqQ.ret ?_
        cases H
        exact hQ _ _ _ _ (.inr rfl) (by simp only [resVs, omap, resV, ↓wk, ↓wl, nc, evV, ↓reduceIte, Nat.reduceEqDiff, Nat.reduceAdd, Nat.reduceSub, Nat.reduceLeDiff, Nat.reduceLT, Nat.reduceBEq, reduceCtorEq, Int.reduceEq]; rfl) (hand_plain (by rfl)) (by rfl)
      · refine AW.skip ?_
        refine blkQ.norm ?_
        refine AW.rend ?_
        try simp only [↓wk, ↓wl, nc, evV, ↓reduceIte, Nat.reduceEqDiff, Nat.reduceAdd, Nat.reduceSub, Nat.reduceLeDiff, Nat.reduceLT, Nat.reduceBEq, reduceCtorEq, Int.reduceEq]
        exact loopQ.next H ((Le.none [] [0, 1, 5] (by decide) (by simp only [f43_L1, List.length_set, Option.map_some, restrict_eq, renS_nil, renS_cons, renB_els, renB_cel, renB_dead, deep_eq, map_ren_enc, ren_agg', ren_tup', ren_fn', ren_int', ren_bool', ren_str', ren_sl', ren_pro', ren_nilp', ren_nilfn', ren_junk', ren_ptr', ren_row', ren_arow', ren_eptr', vm, List.idxOf?_cons, List.idxOf?_nil, beq_self_eq_true, Option.map_none, List.getD_cons_zero, List.getD_cons_succ, ↓wk, ↓wl, nc, evV, ↓reduceIte, Nat.reduceEqDiff, Nat.reduceAdd, Nat.reduceSub, Nat.reduceLeDiff, Nat.reduceLT, Nat.reduceBEq, reduceCtorEq, Int.reduceEq])))
    · refine AW.exit ?_
      refine seqQ.exit ?_
      refine loopQ.exit H ?_ <;> clear H <;> intro H
      try dsimp only at H
      refine blk0.here ?_
      refine seqQ.norm ?_
      refine AW.rseq ?_
      try simp only [↓wk, ↓wl, nc, evV, ↓reduceIte, Nat.reduceEqDiff, Nat.reduceAdd, Nat.reduceSub, Nat.reduceLeDiff, Nat.reduceLT, Nat.reduceBEq, reduceCtorEq, Int.reduceEq]
      refine AW.ret ?_
      cases H
      exact hQ _ _ _ _ (.inr rfl) (by simp only [resVs, omap, resV, ↓wk, ↓wl, nc, evV, ↓reduceIte, Nat.reduceEqDiff, Nat.reduceAdd, Nat.reduceSub, Nat.reduceLeDiff, Nat.reduceLT, Nat.reduceBEq, reduceCtorEq, Int.reduceEq]; rfl) (hand_plain (by rfl)) (by rfl)
def c19_0 : C := .seq (.reg [iI 5 (.faddr 0 (.t 2)), iI 6 (.load 0 (.t 5)), iI 7 (.faddr 0 (.t 3)), iI 8 (.load 0 (.t 7)), iI 9 (.bin .eql (.t 6) (.t 8)), iI 10 (.mv (.t 9)), iG (some 11) 10 true (.faddr 1 (.t 2)), iG (some 12) 10 true (.load 0 (.t 11)), iG (some 13) 10 true (.faddr 1 (.t 3)), iG (some 14) 10 true (.load 0 (.t 13)), iG (some 15) 10 true (.call (.c (.fn 43 [])) [(.t 12), (.t 14)]), iI 16 (.pick (.t 10) (.t 15) (.c (.bool false))), iI 4 (.mv (.t 16))]) .ret
def ir19 : C := .seq (.reg [iI 2 (.box (.t 0)), iI 3 (.box (.t 1)), iI 4 (.mv (.c (.bool false)))]) c19_0
theorem fd19 : fd? Try.prog 19 = some (17, [.slot 4], ir19) := by kernel_rfl
noncomputable def f19 (a_407 : ApiGroup) (b_408 : ApiGroup) : Option (Bool) :=
  (if (decide (a_407.fNumber = b_408.fNumber)) = true then (f43 a_407.fChannels b_408.fChannels).bind fun r_421 => (some r_421) else (some false))
theorem f19_ok {a_407 : ApiGroup} {b_408 : ApiGroup} {r_ : Bool} (H : f19 a_407 b_408 = some r_) : Pure Try.prog 19 [.agg [.int .i64 a_407.fNumber, .sl 0 false (a_407.fChannels.map (AV.int .i64))], .agg [.int .i64 b_408.fNumber, .sl 0 false (b_408.fChannels.map (AV.int .i64))]] (· = .bool r_) := by
  refine Pure.walk2 fd19 none (Nat.le_of_ble_eq_true rfl) (by rfl) fun Q hQ => ?_
  simp only [f19] at H
  refine AW.rseq ?_
  try simp only [↓wk, ↓wl, nc, evV, ↓reduceIte, Nat.reduceEqDiff, Nat.reduceAdd, Nat.reduceSub, Nat.reduceLeDiff, Nat.reduceLT, Nat.reduceBEq, reduceCtorEq, Int.reduceEq]
  refine AW.rseq ?_
  try simp only [↓wk, ↓wl, nc, evV, ↓reduceIte, Nat.reduceEqDiff, Nat.reduceAdd, Nat.reduceSub, Nat.reduceLeDiff, Nat.reduceLT, Nat.reduceBEq, reduceCtorEq, Int.reduceEq]
  refine evTs_ifg H (by rfl) ?_ ?_ <;> clear H <;> intro H
  · try simp only [↓wk, ↓wl, nc, evV, ↓reduceIte, Nat.reduceEqDiff, Nat.reduceAdd, Nat.reduceSub, Nat.reduceLeDiff, Nat.reduceLT, Nat.reduceBEq, reduceCtorEq, Int.reduceEq]
    refine evTs_pure hFn H (fun _ h => f43_ok h) (by rfl) (by rfl) (by rfl) (by rfl) (fun _ => rfl) ?_ <;> clear H <;> intro r_421 H
    try simp only [eL, ↓wk, ↓wl, nc, evV, ↓reduceIte, Nat.reduceEqDiff, Nat.reduceAdd, Nat.reduceSub, Nat.reduceLeDiff, Nat.reduceLT, Nat.reduceBEq, reduceCtorEq, Int.reduceEq]
    refine AW.ret ?_
    cases H
    exact hQ _ _ _ _ (.inr rfl) (by simp only [resVs, omap, resV, ↓wk, ↓wl, nc, evV, ↓reduceIte, Nat.reduceEqDiff, Nat.reduceAdd, Nat.reduceSub, Nat.reduceLeDiff, Nat.reduceLT, Nat.reduceBEq, reduceCtorEq, Int.reduceEq]; rfl) (hand_plain (by rfl)) (by rfl)
  · try simp only [↓wk, ↓wl, nc, evV, ↓reduceIte, Nat.reduceEqDiff, Nat.reduceAdd, Nat.reduceSub, Nat.reduceLeDiff, Nat.reduceLT, Nat.reduceBEq, reduceCtorEq, Int.reduceEq]
    refine AW.ret ?_
    cases H
    exact hQ _ _ _ _ (.inr rfl) (by simp only [resVs, omap, resV, ↓wk, ↓wl, nc, evV, ↓reduceIte, Nat.reduceEqDiff, Nat.reduceAdd, Nat.reduceSub, Nat.reduceLeDiff, Nat.reduceLT, Nat.reduceBEq, reduceCtorEq, Int.reduceEq]; rfl) (hand_plain (by rfl)) (by rfl)
noncomputable def f45_L1 (l_451 : (List Int)) (v_452 : Int) : Lp (Int) ((Unit) ⊕ (Unit)) where
  body := fun i_456 => (if (decide (i_456 < ((l_451.length : Nat) : Int))) = true then (at? l_451 i_456).bind fun x_458 => (if (decide (x_458 = v_452)) = true then (some (.brk (Sum.inr ()))) else (some (.next (IntKind.i64.wrap (i_456 + 1))))) else (some (.brk (Sum.inl ()))))
  cst := fun i_456 => ⟨put (put (put (fun _ => .junk) 5 (.int .i64 i_456)) 1 (.int .i64 v_452)) 0 (.sl 0 false (l_451.map (AV.int .i64))), []⟩
def c45_0 : C := .cond (.t 9) (.skip) (.exit 0)
def c45_1 : C := .cond (.t 17) (.seq (.reg [iI 4 (.mv (.c (.bool true)))]) .ret) (.skip)
def c45_2 : C := .reg [iI 10 (.mv (.t 5)), iI 11 (.bin .add (.t 10) (.c (.int .i64 1))), iI 5 (.mv (.t 11))]
def c45_3 : C := .seq (.block 1 (.seq (.reg [iI 12 (.mv (.t 0)), iI 13 (.mv (.t 5)), iI 14 (.iaddr 0 (.t 12) (.t 13)), iI 15 (.load 0 (.t 14)), iI 16 (.mv (.t 1)), iI 17 (.bin .eql (.t 15) (.t 16))]) c45_1)) c45_2
def c45_4 : C := .block 0 (.loop (.seq (.seq (.reg [iI 6 (.mv (.t 5)), iI 7 (.mv (.t 0)), iI 8 (.len 0 (.t 7)), iI 9 (.bin .lss (.t 6) (.t 8))]) c45_0) c45_3))
def c45_5 : C := .seq (.reg [iI 4 (.mv (.c (.bool false)))]) .ret
def c45_6 : C := .seq (.seq (.reg [iI 5 (.mv (.c (.int .i64 0)))]) c45_4) c45_5
def ir45 : C := .seq (.reg [iI 4 (.mv (.c (.bool false)))]) c45_6
theorem fd45 : fd? Try.prog 45 = some (18, [.slot 4], ir45) := by kernel_rfl
noncomputable def f45 (l_451 : (List Int)) (v_452 : Int) : Option (Bool) :=
  ((Lp.run (f45_L1 l_451 v_452) 0).bind fun r_ => match r_ with | (Sum.inl _) => (some false) | (Sum.inr _) => (some true))
theorem f45_ok {l_451 : (List Int)} {v_452 : Int} {r_ : Bool} (H : f45 l_451 v_452 = some r_) : Pure Try.prog 45 [.sl 0 false (l_451.map (AV.int .i64)), .int .i64 v_452] (· = .bool r_) := by
  refine Pure.walk2 fd45 none (Nat.le_of_ble_eq_true rfl) (by rfl) fun Q hQ => ?_
  simp only [f45] at H
  refine AW.rseq ?_
  try simp only [↓wk, ↓wl, nc, evV, ↓reduceIte, Nat.reduceEqDiff, Nat.reduceAdd, Nat.reduceSub, Nat.reduceLeDiff, Nat.reduceLT, Nat.reduceBEq, reduceCtorEq, Int.reduceEq]
  refine AW.sseq ?_
  refine AW.rseq ?_
  try simp only [↓wk, ↓wl, nc, evV, ↓reduceIte, Nat.reduceEqDiff, Nat.reduceAdd, Nat.reduceSub, Nat.reduceLeDiff, Nat.reduceLT, Nat.reduceBEq, reduceCtorEq, Int.reduceEq]
  refine AW.bend ?_
  refine AW.iter H ((Le.none [] [0, 1, 5] (by decide) (by simp only [f45_L1, List.length_set, Option.map_some, restrict_eq, renS_nil, renS_cons, renB_els, renB_cel, renB_dead, deep_eq, map_ren_enc, ren_agg', ren_tup', ren_fn', ren_int', ren_bool', ren_str', ren_sl', ren_pro', ren_nilp', ren_nilfn', ren_junk', ren_ptr', ren_row', ren_arow', ren_eptr', vm, List.idxOf?_cons, List.idxOf?_nil, beq_self_eq_true, Option.map_none, List.getD_cons_zero, List.getD_cons_succ, ↓wk, ↓wl, nc, evV, ↓reduceIte, Nat.reduceEqDiff, Nat.reduceAdd, Nat.reduceSub, Nat.reduceLeDiff, Nat.reduceLT, Nat.reduceBEq, reduceCtorEq, Int.reduceEq]))) ?_ <;> clear H
  rintro i_456 x_ st0_ H hst_
  simp only [f45_L1] at H hst_
  subst hst_
  refine AW.sseq ?_
  refine AW.rseq ?_
  try simp only [↓wk, ↓wl, nc, evV, ↓reduceIte, Nat.reduceEqDiff, Nat.reduceAdd, Nat.reduceSub, Nat.reduceLeDiff, Nat.reduceLT, Nat.reduceBEq, reduceCtorEq, Int.reduceEq]
  refine AW.ifc H (by rfl) ?_ ?_ <;> clear H <;> intro H
  · refine AW.skip ?_
    refine seqQ.norm ?_
    refine AW.bseq ?_
    refine AW.rseq ?_
    try simp only [↓wk, ↓wl, nc, evV, ↓reduceIte, Nat.reduceEqDiff, Nat.reduceAdd, Nat.reduceSub, Nat.reduceLeDiff, Nat.reduceLT, Nat.reduceBEq, reduceCtorEq, Int.reduceEq]
    refine evTs_at (enc := (AV.int .i64)) H (by rfl) (by rfl) ?_ <;> clear H <;> intro x_458 H
    try simp only [↓wk, ↓wl, nc, evV, ↓reduceIte, Nat.reduceEqDiff, Nat.reduceAdd, Nat.reduceSub, Nat.reduceLeDiff, Nat.reduceLT, Nat.reduceBEq, reduceCtorEq, Int.reduceEq]
    refine AW.ifc H (by rfl) ?_ ?_ <;> clear H <;> intro H
    · refine AW.rseq ?_
      try simp only [↓wk, ↓wl, nc, evV, ↓reduceIte, Nat.reduceEqDiff, Nat.reduceAdd, Nat.reduceSub, Nat.reduceLeDiff, Nat.reduceLT, Nat.reduceBEq, reduceCtorEq, Int.reduceEq]
      refine AW.ret ?_
      refine blkQ.ret ?_
      refine loopQ.ret H ?_ <;> clear H <;> intro H
      try dsimp only at H
      refine blk0.ret ?_
      refine seqQ.ret ?_
      cases H
      exact hQ _ _ _ _ (.inr rfl) (by simp only [resVs, omap, resV, ↓wk, ↓wl, nc, evV, ↓reduceIte, Nat.reduceEqDiff, Nat.reduceAdd, Nat.reduceSub, Nat.reduceLeDiff, Nat.reduceLT, Nat.reduceBEq, reduceCtorEq, Int.reduceEq]; rfl) (hand_plain (by rfl)) (by rfl)
    · refine AW.skip ?_
      refine blkQ.norm ?_
      refine AW.rend ?_
      try simp only [↓wk, ↓wl, nc, evV, ↓reduceIte, Nat.reduceEqDiff, Nat.reduceAdd, Nat.reduceSub, Nat.reduceLeDiff, Nat.reduceLT, Nat.reduceBEq, reduceCtorEq, Int.reduceEq]
      exact loopQ.next H ((Le.none [] [0, 1, 5] (by decide) (by simp only [f45_L1, List.length_set, Option.map_some, restrict_eq, renS_nil, renS_cons, renB_els, renB_cel, renB_dead, deep_eq, map_ren_enc, ren_agg', ren_tup', ren_fn', ren_int', ren_bool', ren_str', ren_sl', ren_pro', ren_nilp', ren_nilfn', ren_junk', ren_ptr', ren_row', ren_arow', ren_eptr', vm, List.idxOf?_cons, List.idxOf?_nil, beq_self_eq_true, Option.map_none, List.getD_cons_zero, List.getD_cons_succ, ↓wk, ↓wl, nc, evV, ↓reduceIte, Nat.reduceEqDiff, Nat.reduceAdd, Nat.reduceSub, Nat.reduceLeDiff, Nat.reduceLT, Nat.reduceBEq, reduceCtorEq, Int.reduceEq])))
  · refine AW.exit ?_
    refine seqQ.exit ?_
    refine loopQ.exit H ?_ <;> clear H <;> intro H
    try dsimp only at H
    refine blk0.here ?_
    refine seqQ.norm ?_
    refine AW.rseq ?_
    try simp only [↓wk, ↓wl, nc, evV, ↓reduceIte, Nat.reduceEqDiff, Nat.reduceAdd, Nat.reduceSub, Nat.reduceLeDiff, Nat.reduceLT, Nat.reduceBEq, reduceCtorEq, Int.reduceEq]
    refine AW.ret ?_
    cases H
    exact hQ _ _ _ _ (.inr rfl) (by simp only [resVs, omap, resV, ↓wk, ↓wl, nc, evV, ↓reduceIte, Nat.reduceEqDiff, Nat.reduceAdd, Nat.reduceSub, Nat.reduceLeDiff, Nat.reduceLT, Nat.reduceBEq, reduceCtorEq, Int.reduceEq]; rfl) (hand_plain (by rfl)) (by rfl)
noncomputable def f21_L1 (g_444 : ApiGroup) : Lp (Int) ((Unit) ⊕ (Int)) where
  body := fun i_468 => (if (decide (i_468 < ((g_444.fChannels.length : Nat) : Int))) = true then (at? g_444.fChannels i_468).bind fun x_479 => (if (decide (x_479 < 1)) = true then (some (.brk (Sum.inr 2))) else (at? g_444.fChannels i_468).bind fun x_480 => (if (decide (999 < x_480)) = true then (some (.brk (Sum.inr 2))) else (slc? g_444.fChannels 0 i_468).bind fun s_481 => (at? g_444.fChannels i_468).bind fun x_482 => (f45 s_481 x_482).bind fun r_483 => (if r_483 = true then (some (.brk (Sum.inr 7))) else (some (.next (IntKind.i64.wrap (i_468 + 1))))))) else (some (.brk (Sum.inl ()))))
  cst := fun i_468 => ⟨put (put (fun _ => .junk) 3 (.int .i64 i_468)) 1 (.ptr 0 0), [.cel [.int .i64 g_444.fNumber, .sl 0 false (g_444.fChannels.map (AV.int .i64))]]⟩
def c21_0 : C := .cond (.t 11) (.seq (.reg [iI 2 (.mv (.c (.int .i64 2)))]) .ret) (.skip)
def c21_1 : C := .cond (.t 15) (.seq (.reg [iI 2 (.mv (.c (.int .i64 5)))]) .ret) (.skip)
def c21_2 : C := .cond (.t 20) (.skip) (.exit 0)
def c21_3 : C := .cond (.t 36) (.seq (.reg [iI 2 (.mv (.c (.int .i64 2)))]) .ret) (.skip)
def c21_4 : C := .cond (.t 46) (.seq (.reg [iI 2 (.mv (.c (.int .i64 7)))]) .ret) (.skip)
def c21_5 : C := .seq (.reg [iI 37 (.faddr 1 (.t 1)), iI 38 (.load 0 (.t 37)), iI 39 (.mv (.t 3)), iI 40 (.slice 0 (.t 38) none (some (.t 39))), iI 41 (.faddr 1 (.t 1)), iI 42 (.load 0 (.t 41)), iI 43 (.mv (.t 3)), iI 44 (.iaddr 0 (.t 42) (.t 43)), iI 45 (.load 0 (.t 44)), iI 46 (.call (.c (.fn 45 [])) [(.t 40), (.t 45)])]) c21_4
def c21_6 : C := .reg [iI 21 (.mv (.t 3)), iI 22 (.bin .add (.t 21) (.c (.int .i64 1))), iI 3 (.mv (.t 22))]
def c21_7 : C := .seq (.block 1 (.seq (.seq (.reg [iI 23 (.faddr 1 (.t 1)), iI 24 (.load 0 (.t 23)), iI 25 (.mv (.t 3)), iI 26 (.iaddr 0 (.t 24) (.t 25)), iI 27 (.load 0 (.t 26)), iI 28 (.bin .lss (.t 27) (.c (.int .i64 1))), iI 29 (.mv (.t 28)), iG (some 30) 29 false (.faddr 1 (.t 1)), iG (some 31) 29 false (.load 0 (.t 30)), iG (some 32) 29 false (.mv (.t 3)), iG (some 33) 29 false (.iaddr 0 (.t 31) (.t 32)), iG (some 34) 29 false (.load 0 (.t 33)), iG (some 35) 29 false (.bin .gtr (.t 34) (.c (.int .i64 999))), iI 36 (.pick (.t 29) (.c (.bool true)) (.t 35))]) c21_3) c21_5)) c21_6
def c21_8 : C := .block 0 (.loop (.seq (.seq (.reg [iI 16 (.mv (.t 3)), iI 17 (.faddr 1 (.t 1)), iI 18 (.load 0 (.t 17)), iI 19 (.len 0 (.t 18)), iI 20 (.bin .lss (.t 16) (.t 19))]) c21_2) c21_7))
def c21_9 : C := .seq (.reg [iI 2 (.mv (.c (.int .i64 0)))]) .ret
def c21_10 : C := .seq (.seq (.reg [iI 3 (.mv (.c (.int .i64 0)))]) c21_8) c21_9
def c21_11 : C := .seq (.seq (.reg [iI 12 (.faddr 1 (.t 1)), iI 13 (.load 0 (.t 12)), iI 14 (.len 0 (.t 13)), iI 15 (.bin .gtr (.t 14) (.c (.int .i64 256)))]) c21_1) c21_10
def c21_12 : C := .seq (.seq (.reg [iI 4 (.faddr 0 (.t 1)), iI 5 (.load 0 (.t 4)), iI 6 (.bin .lss (.t 5) (.c (.int .i64 1))), iI 7 (.mv (.t 6)), iG (some 8) 7 false (.faddr 0 (.t 1)), iG (some 9) 7 false (.load 0 (.t 8)), iG (some 10) 7 false (.bin .gtr (.t 9) (.c (.int .i64 1048576))), iI 11 (.pick (.t 7) (.c (.bool true)) (.t 10))]) c21_0) c21_11
def ir21 : C := .seq (.reg [iI 1 (.box (.t 0)), iI 2 (.mv (.c (.int .i64 0)))]) c21_12
theorem fd21 : fd? Try.prog 21 = some (47, [.slot 2], ir21) := by kernel_rfl
noncomputable def f21 (g_444 : ApiGroup) : Option (Int) :=
  (if (decide (g_444.fNumber < 1)) = true then (some 2) else (if (decide (1048576 < g_444.fNumber)) = true then (some 2) else (if (decide (256 < ((g_444.fChannels.length : Nat) : Int))) = true then (some 5) else ((Lp.run (f21_L1 g_444) 0).bind fun r_ => match r_ with | (Sum.inl _) => (some 0) | (Sum.inr v_476) => (some v_476)))))
theorem f21_ok {g_444 : ApiGroup} {r_ : Int} (H : f21 g_444 = some r_) : Pure Try.prog 21 [.agg [.int .i64 g_444.fNumber, .sl 0 false (g_444.fChannels.map (AV.int .i64))]] (· = .int .i64 r_) := by
  refine Pure.walk2 fd21 none (Nat.le_of_ble_eq_true rfl) (by rfl) fun Q hQ => ?_
  simp only [f21] at H
  refine AW.rseq ?_
  try simp only [↓wk, ↓wl, nc, evV, ↓reduceIte, Nat.reduceEqDiff, Nat.reduceAdd, Nat.reduceSub, Nat.reduceLeDiff, Nat.reduceLT, Nat.reduceBEq, reduceCtorEq, Int.reduceEq]
  refine AW.sseq ?_
  refine AW.rseq ?_
  try simp only [↓wk, ↓wl, nc, evV, ↓reduceIte, Nat.reduceEqDiff, Nat.reduceAdd, Nat.reduceSub, Nat.reduceLeDiff, Nat.reduceLT, Nat.reduceBEq, reduceCtorEq, Int.reduceEq]
  refine evTs_ifg H (by rfl) ?_ ?_ <;> clear H <;> intro H
  · try simp only [↓wk, ↓wl, nc, evV, ↓reduceIte, Nat.reduceEqDiff, Nat.reduceAdd, Nat.reduceSub, Nat.reduceLeDiff, Nat.reduceLT, Nat.reduceBEq, reduceCtorEq, Int.reduceEq]
    refine AW.ift (by rfl) ?_
    refine AW.rseq ?_
    try simp only [↓wk, ↓wl, nc, evV, ↓reduceIte, Nat.reduceEqDiff, Nat.reduceAdd, Nat.reduceSub, Nat.reduceLeDiff, Nat.reduceLT, Nat.reduceBEq, reduceCtorEq, Int.reduceEq]
    refine AW.ret ?_
    refine seqQ.ret ?_
    cases H
    exact hQ _ _ _ _ (.inr rfl) (by simp only [resVs, omap, resV, ↓wk, ↓wl, nc, evV, ↓reduceIte, Nat.reduceEqDiff, Nat.reduceAdd, Nat.reduceSub, Nat.reduceLeDiff, Nat.reduceLT, Nat.reduceBEq, reduceCtorEq, Int.reduceEq]; rfl) (hand_plain (by rfl)) (by rfl)
  · try simp only [↓wk, ↓wl, nc, evV, ↓reduceIte, Nat.reduceEqDiff, Nat.reduceAdd, Nat.reduceSub, Nat.reduceLeDiff, Nat.reduceLT, Nat.reduceBEq, reduceCtorEq, Int.reduceEq]
    refine AW.ifc H (by rfl) ?_ ?_ <;> clear H <;> intro H
    · refine AW.rseq ?_
      try simp only [↓wk, ↓wl, nc, evV, ↓reduceIte, Nat.reduceEqDiff, Nat.reduceAdd, Nat.reduceSub, Nat.reduceLeDiff, Nat.reduceLT, Nat.reduceBEq, reduceCtorEq, Int.reduceEq]
      refine AW.ret ?_
      refine seqQ.ret ?_
      cases H
      exact hQ _ _ _ _ (.inr rfl) (by simp only [resVs, omap, resV, ↓wk, ↓wl, nc, evV, ↓reduceIte, Nat.reduceEqDiff, Nat.reduceAdd, Nat.reduceSub, Nat.reduceLeDiff, Nat.reduceLT, Nat.reduceBEq, reduceCtorEq, Int.reduceEq]; rfl) (hand_plain (by rfl)) (by rfl)
    · refine AW.skip ?_
      refine seqQ.norm ?_
      refine AW.sseq ?_
      refine AW.rseq ?_
      try simp only [↓wk, ↓wl, nc, evV, ↓reduceIte, Nat.reduceEqDiff, Nat.reduceAdd, Nat.reduceSub, Nat.reduceLeDiff, Nat.reduceLT, Nat.reduceBEq, reduceCtorEq, Int.reduceEq]
      refine AW.ifc H (by rfl) ?_ ?_ <;> clear H <;> intro H
      · refine AW.rseq ?_
        try simp only [↓wk, ↓wl, nc, evV, ↓reduceIte, Nat.reduceEqDiff, Nat.reduceAdd, Nat.reduceSub, Nat.reduceLeDiff, Nat.reduceLT, Nat.reduceBEq, reduceCtorEq, Int.reduceEq]
        refine AW.ret ?_
        refine seqQ.ret ?_
        cases H
        exact hQ _ _ _ _ (.inr rfl) (by simp only [resVs, omap, resV, ↓wk, ↓wl, nc, evV, ↓reduceIte, Nat.reduceEqDiff, Nat.reduceAdd, Nat.reduceSub, Nat.reduceLeDiff, Nat.reduceLT, Nat.reduceBEq, reduceCtorEq, Int.reduceEq]; rfl) (hand_plain (by rfl)) (by rfl)
      · refine AW.skip ?_
        refine seqQ.norm ?_
        refine AW.sseq ?_
        refine AW.rseq ?_
        try simp only [↓wk, ↓wl, nc, evV, ↓reduceIte, Nat.reduceEqDiff, Nat.reduceAdd, Nat.reduceSub, Nat.reduceLeDiff, Nat.reduceLT, Nat.reduceBEq, reduceCtorEq, Int.reduceEq]
        refine AW.bend ?_
        refine AW.iter H ((Le.none [0] [1, 3] (by decide) (by simp only [f21_L1, List.length_set, Option.map_some, restrict_eq, renS_nil, renS_cons, renB_els, renB_cel, renB_dead, deep_eq, map_ren_enc, ren_agg', ren_tup', ren_fn', ren_int', ren_bool', ren_str', ren_sl', ren_pro', ren_nilp', ren_nilfn', ren_junk', ren_ptr', ren_row', ren_arow', ren_eptr', vm, List.idxOf?_cons, List.idxOf?_nil, beq_self_eq_true, Option.map_none, List.getD_cons_zero, List.getD_cons_succ, ↓wk, ↓wl, nc, evV, ↓reduceIte, Nat.reduceEqDiff, Nat.reduceAdd, Nat.reduceSub, Nat.reduceLeDiff, Nat.reduceLT, Nat.reduceBEq, reduceCtorEq, Int.reduceEq]))) ?_ <;> clear H
        rintro i_468 x_ st0_ H hst_
        simp only [f21_L1] at H hst_
        subst hst_
        refine AW.sseq ?_
        refine AW.rseq ?_
        try simp only [↓wk, ↓wl, nc, evV, ↓reduceIte, Nat.reduceEqDiff, Nat.reduceAdd, Nat.reduceSub, Nat.reduceLeDiff, Nat.reduceLT, Nat.reduceBEq, reduceCtorEq, Int.reduceEq]
        refine AW.ifc H (by rfl) ?_ ?_ <;> clear H <;> intro H
        · refine AW.skip ?_
          refine seqQ.norm ?_
          refine AW.bseq ?_
          refine AW.sseq ?_
          refine AW.rseq ?_
          try simp only [↓wk, ↓wl, nc, evV, ↓reduceIte, Nat.reduceEqDiff, Nat.reduceAdd, Nat.reduceSub, Nat.reduceLeDiff, Nat.reduceLT, Nat.reduceBEq, reduceCtorEq, Int.reduceEq]
          refine evTs_at (enc := (AV.int .i64)) H (by rfl) (by rfl) ?_ <;> clear H <;> intro x_479 H
          try simp only [↓wk, ↓wl, nc, evV, ↓reduceIte, Nat.reduceEqDiff, Nat.reduceAdd, Nat.reduceSub, Nat.reduceLeDiff, Nat.reduceLT, Nat.reduceBEq, reduceCtorEq, Int.reduceEq]
          refine evTs_ifg H (by rfl) ?_ ?_ <;> clear H <;> intro H
          · try simp only [↓wk, ↓wl, nc, evV, ↓reduceIte, Nat.reduceEqDiff, Nat.reduceAdd, Nat.reduceSub, Nat.reduceLeDiff, Nat.reduceLT, Nat.reduceBEq, reduceCtorEq, Int.reduceEq]
            refine AW.ift (by rfl) ?_
            refine AW.rseq ?_
            try simp only [↓wk, ↓wl, nc, evV, ↓reduceIte, Nat.reduceEqDiff, Nat.reduceAdd, Nat.reduceSub, Nat.reduceLeDiff, Nat.reduceLT, Nat.reduceBEq, reduceCtorEq, Int.reduceEq]
            refine AW.ret ?_
            refine seqQ.ret ?_
            refine blkQ.ret ?_
            refine loopQ.ret H ?_ <;> clear H <;> intro H
            try dsimp only at H
            refine blk0.ret ?_
            refine seqQ.ret ?_
            cases H
            exact hQ _ _ _ _ (.inr rfl) (by simp only [resVs, omap, resV, ↓wk, ↓wl, nc, evV, ↓reduceIte, Nat.reduceEqDiff, Nat.reduceAdd, Nat.reduceSub, Nat.reduceLeDiff, Nat.reduceLT, Nat.reduceBEq, reduceCtorEq, Int.reduceEq]; rfl) (hand_plain (by rfl)) (by rfl)
          · try simp only [↓wk, ↓wl, nc, evV, ↓reduceIte, Nat.reduceEqDiff, Nat.reduceAdd, Nat.reduceSub, Nat.reduceLeDiff, Nat.reduceLT, Nat.reduceBEq, reduceCtorEq, Int.reduceEq]
            refine evTs_at (enc := (AV.int .i64)) H (by rfl) (by rfl) ?_ <;> clear H <;> intro x_480 H
            try simp only [↓wk, ↓wl, nc, evV, ↓reduceIte, Nat.reduceEqDiff, Nat.reduceAdd, Nat.reduceSub, Nat.reduceLeDiff, Nat.reduceLT, Nat.reduceBEq, reduceCtorEq, Int.reduceEq]
            refine AW.ifc H (by rfl) ?_ ?_ <;> clear H <;> intro H
            · refine AW.rseq ?_
              try simp only [↓wk, ↓wl, nc, evV, ↓reduceIte, Nat.reduceEqDiff, Nat.reduceAdd, Nat.reduceSub, Nat.reduceLeDiff, Nat.reduceLT, Nat.reduceBEq, reduceCtorEq, Int.reduceEq]
              refine AW.ret ?_
              refine seqQ.ret ?_
              refine blkQ.ret ?_
              refine loopQ.ret H ?_ <;> clear H <;> intro H
              try dsimp only at H
              refine blk0.ret ?_
              refine seqQ.ret ?_
              cases H
              exact hQ _ _ _ _ (.inr rfl) (by simp only [resVs, omap, resV, ↓wk, ↓wl, nc, evV, ↓reduceIte, Nat.reduceEqDiff, Nat.reduceAdd, Nat.reduceSub, Nat.reduceLeDiff, Nat.reduceLT, Nat.reduceBEq, reduceCtorEq, Int.reduceEq]; rfl) (hand_plain (by rfl)) (by rfl)
            · refine AW.skip ?_
              refine seqQ.norm ?_
              refine AW.rseq ?_
              try simp only [↓wk, ↓wl, nc, evV, ↓reduceIte, Nat.reduceEqDiff, Nat.reduceAdd, Nat.reduceSub, Nat.reduceLeDiff, Nat.reduceLT, Nat.reduceBEq, reduceCtorEq, Int.reduceEq]
              refine evTs_slc (enc := (AV.int .i64)) H (by rfl) (by simp only [loI, hiI, ↓wk, ↓wl, nc, evV, ↓reduceIte, Nat.reduceEqDiff, Nat.reduceAdd, Nat.reduceSub, Nat.reduceLeDiff, Nat.reduceLT, Nat.reduceBEq, reduceCtorEq, Int.reduceEq]; rfl) (by simp only [loI, hiI, ↓wk, ↓wl, nc, evV, ↓reduceIte, Nat.reduceEqDiff, Nat.reduceAdd, Nat.reduceSub, Nat.reduceLeDiff, Nat.reduceLT, Nat.reduceBEq, reduceCtorEq, Int.reduceEq]; rfl) ?_ <;> clear H <;> intro s_481 H
              try simp only [↓wk, ↓wl, nc, evV, ↓reduceIte, Nat.reduceEqDiff, Nat.reduceAdd, Nat.reduceSub, Nat.reduceLeDiff, Nat.reduceLT, Nat.reduceBEq, reduceCtorEq, Int.reduceEq]
              refine evTs_at (enc := (AV.int .i64)) H (by rfl) (by rfl) ?_ <;> clear H <;> intro x_482 H
              try simp only [↓wk, ↓wl, nc, evV, ↓reduceIte, Nat.reduceEqDiff, Nat.reduceAdd, Nat.reduceSub, Nat.reduceLeDiff, Nat.reduceLT, Nat.reduceBEq, reduceCtorEq, Int.reduceEq]
              refine evTs_pure hFn H (fun _ h => f45_ok h) (by rfl) (by rfl) (by rfl) (by rfl) (fun _ => rfl) ?_ <;> clear H <;> intro r_483 H
              try simp only [eL, ↓wk, ↓wl, nc, evV, ↓reduceIte, Nat.reduceEqDiff, Nat.reduceAdd, Nat.reduceSub, Nat.reduceLeDiff, Nat.reduceLT, Nat.reduceBEq, reduceCtorEq, Int.reduceEq]
              refine AW.ifc H (by rfl) ?_ ?_ <;> clear H <;> intro H
              · refine AW.rseq ?_
                try simp only [↓wk, ↓wl, nc, evV, ↓reduceIte, Nat.reduceEqDiff, Nat.reduceAdd, Nat.reduceSub, Nat.reduceLeDiff, Nat.reduceLT, Nat.reduceBEq, reduceCtorEq, Int.reduceEq]
                refine AW.ret ?_
                refine blkQ.ret ?_
                refine loopQ.ret H ?_ <;> clear H <;> intro H
                try dsimp only at H
                refine blk0.ret ?_
                refine seqQ.ret ?_
                cases H
                exact hQ _ _ _ _ (.inr rfl) (by simp only [resVs, omap, resV, ↓wk, ↓wl, nc, evV, ↓reduceIte, Nat.reduceEqDiff, Nat.reduceAdd, Nat.reduceSub, Nat.reduceLeDiff, Nat.reduceLT, Nat.reduceBEq, reduceCtorEq, Int.reduceEq]; rfl) (hand_plain (by rfl)) (by rfl)
              · refine AW.skip ?_
                refine blkQ.norm ?_
                refine AW.rend ?_
                try simp only [↓wk, ↓wl, nc, evV, ↓reduceIte, Nat.reduceEqDiff, Nat.reduceAdd, Nat.reduceSub, Nat.reduceLeDiff, Nat.reduceLT, Nat.reduceBEq, reduceCtorEq, Int.reduceEq]
                exact loopQ.next H ((Le.none [0] [1, 3] (by decide) (by simp only [f21_L1, List.length_set, Option.map_some, restrict_eq, renS_nil, renS_cons, renB_els, renB_cel, renB_dead, deep_eq, map_ren_enc, ren_agg', ren_tup', ren_fn', ren_int', ren_bool', ren_str', ren_sl', ren_pro', ren_nilp', ren_nilfn', ren_junk', ren_ptr', ren_row', ren_arow', ren_eptr', vm, List.idxOf?_cons, List.idxOf?_nil, beq_self_eq_true, Option.map_none, List.getD_cons_zero, List.getD_cons_succ, ↓wk, ↓wl, nc, evV, ↓reduceIte, Nat.reduceEqDiff, Nat.reduceAdd, Nat.reduceSub, Nat.reduceLeDiff, Nat.reduceLT, Nat.reduceBEq, reduceCtorEq, Int.reduceEq])))
        · refine AW.exit ?_
          refine seqQ.exit ?_
          refine loopQ.exit H ?_ <;> clear H <;> intro H
          try dsimp only at H
          refine blk0.here ?_
          refine seqQ.norm ?_
          refine AW.rseq ?_
          try simp only [↓wk, ↓wl, nc, evV, ↓reduceIte, Nat.reduceEqDiff, Nat.reduceAdd, Nat.reduceSub, Nat.reduceLeDiff, Nat.reduceLT, Nat.reduceBEq, reduceCtorEq, Int.reduceEq]
          refine AW.ret ?_
          cases H
          exact hQ _ _ _ _ (.inr rfl) (by simp only [resVs, omap, resV, ↓wk, ↓wl, nc, evV, ↓reduceIte, Nat.reduceEqDiff, Nat.reduceAdd, Nat.reduceSub, Nat.reduceLeDiff, Nat.reduceLT, Nat.reduceBEq, reduceCtorEq, Int.reduceEq]; rfl) (hand_plain (by rfl)) (by rfl)
noncomputable def f22_L1 (l_485 : (List ApiGroup)) : Lp (Int) ((Unit) ⊕ (Int)) where
  body := fun v_495 => (if (decide (v_495 < ((l_485.length : Nat) : Int))) = true then (at? l_485 v_495).bind fun x_501 => (f20 x_501).bind fun r_503 => (if (decide (r_503 ≠ 0)) = true then (some (.brk (Sum.inr r_503))) else (if (decide (0 < v_495)) = true then (at? l_485 (IntKind.i64.wrap (v_495 - 1))).bind fun x_504 => (if (decide (x_501.fNumber ≤ x_504.fNumber)) = true then (some (.brk (Sum.inr 9))) else (some (.next (IntKind.i64.wrap (v_495 + 1))))) else (some (.next (IntKind.i64.wrap (v_495 + 1)))))) else (some (.brk (Sum.inl ()))))
  cst := fun v_495 => ⟨put (put (put (put (fun _ => .junk) 11 (.int .i64 v_495)) 10 (.int .i64 ((l_485.length : Nat) : Int))) 9 (.sl 2 false (l_485.map eApiGroup))) 0 (.sl 2 false (l_485.map eApiGroup)), []⟩
def c22_0 : C := .cond (.t 8) (.seq (.reg [iI 2 (.mv (.c (.int .i64 5)))]) .ret) (.skip)
def c22_1 : C := .cond (.t 19) (.seq (.reg [iI 20 (.mv (.t 5)), iI 2 (.mv (.t 20))]) .ret) (.skip)
def c22_2 : C := .seq (.reg [iI 18 (.mv (.t 5)), iI 19 (.bin .neq (.t 18) (.c (.int .i64 0)))]) c22_1
def c22_3 : C := .cond (.t 33) (.seq (.reg [iI 2 (.mv (.c (.int .i64 9)))]) .ret) (.skip)
def c22_4 : C := .seq (.reg [iI 21 (.mv (.t 3)), iI 22 (.bin .gtr (.t 21) (.c (.int .i64 0))), iI 23 (.mv (.t 22)), iG (some 24) 23 true (.faddr 0 (.t 4)), iG (some 25) 23 true (.load 0 (.t 24)), iG (some 26) 23 true (.mv (.t 0)), iG (some 27) 23 true (.mv (.t 3)), iG (some 28) 23 true (.bin .sub (.t 27) (.c (.int .i64 1))), iG (some 29) 23 true (.iaddr 2 (.t 26) (.t 28)), iG (some 30) 23 true (.faddr 0 (.t 29)), iG (some 31) 23 true (.load 0 (.t 30)), iG (some 32) 23 true (.bin .leq (.t 25) (.t 31)), iI 33 (.pick (.t 23) (.t 32) (.c (.bool false)))]) c22_3
def c22_5 : C := .seq (.seq (.reg [iI 16 (.load 2 (.t 4)), iI 17 (.call (.c (.fn 20 [])) [(.t 16)]), iI 5 (.mv (.t 17))]) c22_2) c22_4
def c22_6 : C := .reg [iI 34 (.bin .add (.t 11) (.c (.int .i64 1))), iI 11 (.mv (.t 34))]
def c22_7 : C := .seq (.block 1 (.seq (.reg [iI 13 (.mv (.t 11)), iI 14 (.iaddr 2 (.t 9) (.t 11)), iI 15 (.load 2 (.t 14)), iI 4 (.alloc [(1, (.int .i64 0)), (1, (.sl 0 true []))]), iI 3 (.mv (.t 13)), iN (.store 2 (.t 4) (.t 15))]) c22_5)) c22_6
def c22_8 : C := .seq (.cond (.t 12) (.skip) (.exit 0)) c22_7
def c22_9 : C := .block 0 (.loop (.seq (.reg [iI 12 (.bin .lss (.t 11) (.t 10))]) c22_8))
def c22_10 : C := .seq (.reg [iI 2 (.mv (.c (.int .i64 0)))]) .ret
def c22_11 : C := .seq (.seq (.reg [iI 9 (.mv (.t 0)), iI 10 (.len 0 (.t 9)), iI 11 (.mv (.c (.int .i64 0)))]) c22_9) c22_10
def c22_12 : C := .seq (.seq (.reg [iI 6 (.mv (.t 0)), iI 7 (.len 0 (.t 6)), iI 8 (.bin .gtr (.t 7) (.c (.int .i64 32)))]) c22_0) c22_11
def ir22 : C := .seq (.reg [iI 2 (.mv (.c (.int .i64 0)))]) c22_12
theorem fd22 : fd? Try.prog 22 = some (35, [.slot 2], ir22) := by kernel_rfl
noncomputable def f22 (l_485 : (List ApiGroup)) : Option (Int) :=
  (if (decide (32 < ((l_485.length : Nat) : Int))) = true then (some 5) else ((Lp.run (f22_L1 l_485) 0).bind fun r_ => match r_ with | (Sum.inl _) => (some 0) | (Sum.inr v_500) => (some v_500)))
theorem f22_ok {l_485 : (List ApiGroup)} {r_ : Int} (H : f22 l_485 = some r_) : Pure Try.prog 22 [.sl 2 false (l_485.map eApiGroup)] (· = .int .i64 r_) := by
  refine Pure.walk2 fd22 none (Nat.le_of_ble_eq_true rfl) (by rfl) fun Q hQ => ?_
  simp only [f22] at H
  refine AW.rseq ?_
  try simp only [↓wk, ↓wl, nc, evV, ↓reduceIte, Nat.reduceEqDiff, Nat.reduceAdd, Nat.reduceSub, Nat.reduceLeDiff, Nat.reduceLT, Nat.reduceBEq, reduceCtorEq, Int.reduceEq]
  refine AW.sseq ?_
  refine AW.rseq ?_
  try simp only [↓wk, ↓wl, nc, evV, ↓reduceIte, Nat.reduceEqDiff, Nat.reduceAdd, Nat.reduceSub, Nat.reduceLeDiff, Nat.reduceLT, Nat.reduceBEq, reduceCtorEq, Int.reduceEq]
  refine AW.ifc H (by rfl) ?_ ?_ <;> clear H <;> intro H
  · refine AW.rseq ?_
    try simp only [↓wk, ↓wl, nc, evV, ↓reduceIte, Nat.reduceEqDiff, Nat.reduceAdd, Nat.reduceSub, Nat.reduceLeDiff, Nat.reduceLT, Nat.reduceBEq, reduceCtorEq, Int.reduceEq]
    refine AW.ret ?_
    refine seqQ.ret ?_
    cases H
    exact hQ _ _ _ _ (.inr rfl) (by simp only [resVs, omap, resV, ↓wk, ↓wl, nc, evV, ↓reduceIte, Nat.reduceEqDiff, Nat.reduceAdd, Nat.reduceSub, Nat.reduceLeDiff, Nat.reduceLT, Nat.reduceBEq, reduceCtorEq, Int.reduceEq]; rfl) (hand_plain (by rfl)) (by rfl)
  · refine AW.skip ?_
    refine seqQ.norm ?_
    refine AW.sseq ?_
    refine AW.rseq ?_
    try simp only [↓wk, ↓wl, nc, evV, ↓reduceIte, Nat.reduceEqDiff, Nat.reduceAdd, Nat.reduceSub, Nat.reduceLeDiff, Nat.reduceLT, Nat.reduceBEq, reduceCtorEq, Int.reduceEq]
    refine AW.bend ?_
    refine AW.iter H ((Le.none [] [0, 9, 10, 11] (by decide) (by simp only [f22_L1, List.length_set, Option.map_some, restrict_eq, renS_nil, renS_cons, renB_els, renB_cel, renB_dead, deep_eq, map_ren_enc, ren_agg', ren_tup', ren_fn', ren_int', ren_bool', ren_str', ren_sl', ren_pro', ren_nilp', ren_nilfn', ren_junk', ren_ptr', ren_row', ren_arow', ren_eptr', vm, List.idxOf?_cons, List.idxOf?_nil, beq_self_eq_true, Option.map_none, List.getD_cons_zero, List.getD_cons_succ, ↓wk, ↓wl, nc, evV, ↓reduceIte, Nat.reduceEqDiff, Nat.reduceAdd, Nat.reduceSub, Nat.reduceLeDiff, Nat.reduceLT, Nat.reduceBEq, reduceCtorEq, Int.reduceEq]))) ?_ <;> clear H
    rintro v_495 x_ st0_ H hst_
    simp only [f22_L1] at H hst_
    subst hst_
    refine AW.rseq ?_
    try simp only [↓wk, ↓wl, nc, evV, ↓reduceIte, Nat.reduceEqDiff, Nat.reduceAdd, Nat.reduceSub, Nat.reduceLeDiff, Nat.reduceLT, Nat.reduceBEq, reduceCtorEq, Int.reduceEq]
    refine AW.sseq ?_
    refine AW.ifc H (by rfl) ?_ ?_ <;> clear H <;> intro H
    · refine AW.skip ?_
      refine seqQ.norm ?_
      refine AW.bseq ?_
      refine AW.rseq ?_
      try simp only [↓wk, ↓wl, nc, evV, ↓reduceIte, Nat.reduceEqDiff, Nat.reduceAdd, Nat.reduceSub, Nat.reduceLeDiff, Nat.reduceLT, Nat.reduceBEq, reduceCtorEq, Int.reduceEq]
      refine evTs_at (enc := eApiGroup) H (by rfl) (by rfl) ?_ <;> clear H <;> intro x_501 H
      try simp only [eApiGroup, eL, ↓wk, ↓wl, nc, evV, ↓reduceIte, Nat.reduceEqDiff, Nat.reduceAdd, Nat.reduceSub, Nat.reduceLeDiff, Nat.reduceLT, Nat.reduceBEq, reduceCtorEq, Int.reduceEq]
      refine AW.sseq ?_
      refine AW.rseq ?_
      try simp only [↓wk, ↓wl, nc, evV, ↓reduceIte, Nat.reduceEqDiff, Nat.reduceAdd, Nat.reduceSub, Nat.reduceLeDiff, Nat.reduceLT, Nat.reduceBEq, reduceCtorEq, Int.reduceEq]
      refine evTs_pure hFn H (fun _ h => f20_ok h) (by rfl) (by rfl) (by rfl) (by rfl) (fun _ => rfl) ?_ <;> clear H <;> intro r_503 H
      try simp only [eL, ↓wk, ↓wl, nc, evV, ↓reduceIte, Nat.reduceEqDiff, Nat.reduceAdd, Nat.reduceSub, Nat.reduceLeDiff, Nat.reduceLT, Nat.reduceBEq, reduceCtorEq, Int.reduceEq]
      refine AW.rseq ?_
      try simp only [↓wk, ↓wl, nc, evV, ↓reduceIte, Nat.reduceEqDiff, Nat.reduceAdd, Nat.reduceSub, Nat.reduceLeDiff, Nat.reduceLT, Nat.reduceBEq, reduceCtorEq, Int.reduceEq]
      refine AW.ifc H (by rfl) ?_ ?_ <;> clear H <;> intro H
      · refine AW.rseq ?_
        try simp only [↓wk, ↓wl, nc, evV, ↓reduceIte, Nat.reduceEqDiff, Nat.reduceAdd, Nat.reduceSub, Nat.reduceLeDiff, Nat.reduceLT, Nat.reduceBEq, reduceCtorEq, Int.reduceEq]
        refine AW.ret ?_
        refine seqQ.ret ?_
        refine blkQ.ret ?_
        refine loopQ.ret H ?_ <;> clear H <;> intro H
        try dsimp only at H
        refine blk0.ret ?_
        refine seqQ.ret ?_
        cases H
        exact hQ _ _ _ _ (.inr rfl) (by simp only [resVs, omap, resV, ↓wk, ↓wl, nc, evV, ↓reduceIte, Nat.reduceEqDiff, Nat.reduceAdd, Nat.reduceSub, Nat.reduceLeDiff, Nat.reduceLT, Nat.reduceBEq, reduceCtorEq, Int.reduceEq]; rfl) (hand_plain (by rfl)) (by rfl)
      · refine AW.skip ?_
        refine seqQ.norm ?_
        refine AW.rseq ?_
        try simp only [↓wk, ↓wl, nc, evV, ↓reduceIte, Nat.reduceEqDiff, Nat.reduceAdd, Nat.reduceSub, Nat.reduceLeDiff, Nat.reduceLT, Nat.reduceBEq, reduceCtorEq, Int.reduceEq]
        refine evTs_ifg H (by rfl) ?_ ?_ <;> clear H <;> intro H
        · try simp only [↓wk, ↓wl, nc, evV, ↓reduceIte, Nat.reduceEqDiff, Nat.reduceAdd, Nat.reduceSub, Nat.reduceLeDiff, Nat.reduceLT, Nat.reduceBEq, reduceCtorEq, Int.reduceEq]
          refine evTs_at (enc := eApiGroup) H (by rfl) (by rfl) ?_ <;> clear H <;> intro x_504 H
          try simp only [eApiGroup, eL, ↓wk, ↓wl, nc, evV, ↓reduceIte, Nat.reduceEqDiff, Nat.reduceAdd, Nat.reduceSub, Nat.reduceLeDiff, Nat.reduceLT, Nat.reduceBEq, reduceCtorEq, Int.reduceEq]
          refine AW.ifc H (by rfl) ?_ ?_ <;> clear H <;> intro H
          · refine AW.rseq ?_
            try simp only [↓wk, ↓wl, nc, evV, ↓reduceIte, Nat.reduceEqDiff, Nat.reduceAdd, Nat.reduceSub, Nat.reduceLeDiff, Nat.reduceLT, Nat.reduceBEq, reduceCtorEq, Int.reduceEq]
            refine AW.ret ?_
            refine blkQ.ret ?_
            refine loopQ.ret H ?_ <;> clear H <;> intro H
            try dsimp only at H
            refine blk0.ret ?_
            refine seqQ.ret ?_
            cases H
            exact hQ _ _ _ _ (.inr rfl) (by simp only [resVs, omap, resV, ↓wk, ↓wl, nc, evV, ↓reduceIte, Nat.reduceEqDiff, Nat.reduceAdd, Nat.reduceSub, Nat.reduceLeDiff, Nat.reduceLT, Nat.reduceBEq, reduceCtorEq, Int.reduceEq]; rfl) (hand_plain (by rfl)) (by rfl)
          · refine AW.skip ?_
            refine blkQ.norm ?_
            refine AW.rend ?_
            try simp only [↓wk, ↓wl, nc, evV, ↓reduceIte, Nat.reduceEqDiff, Nat.reduceAdd, Nat.reduceSub, Nat.reduceLeDiff, Nat.reduceLT, Nat.reduceBEq, reduceCtorEq, Int.reduceEq]
            exact loopQ.next H ((Le.none [] [0, 9, 10, 11] (by decide) (by simp only [f22_L1, List.length_set, Option.map_some, restrict_eq, renS_nil, renS_cons, renB_els, renB_cel, renB_dead, deep_eq, map_ren_enc, ren_agg', ren_tup', ren_fn', ren_int', ren_bool', ren_str', ren_sl', ren_pro', ren_nilp', ren_nilfn', ren_junk', ren_ptr', ren_row', ren_arow', ren_eptr', vm, List.idxOf?_cons, List.idxOf?_nil, beq_self_eq_true, Option.map_none, List.getD_cons_zero, List.getD_cons_succ, ↓wk, ↓wl, nc, evV, ↓reduceIte, Nat.reduceEqDiff, Nat.reduceAdd, Nat.reduceSub, Nat.reduceLeDiff, Nat.reduceLT, Nat.reduceBEq, reduceCtorEq, Int.reduceEq])))
        · try simp only [↓wk, ↓wl, nc, evV, ↓reduceIte, Nat.reduceEqDiff, Nat.reduceAdd, Nat.reduceSub, Nat.reduceLeDiff, Nat.reduceLT, Nat.reduceBEq, reduceCtorEq, Int.reduceEq]
          refine AW.iff (by rfl) ?_
          refine AW.skip ?_
          refine blkQ.norm ?_
          refine AW.rend ?_
          try simp only [↓wk, ↓wl, nc, evV, ↓reduceIte, Nat.reduceEqDiff, Nat.reduceAdd, Nat.reduceSub, Nat.reduceLeDiff, Nat.reduceLT, Nat.reduceBEq, reduceCtorEq, Int.reduceEq]
          exact loopQ.next H ((Le.none [] [0, 9, 10, 11] (by decide) (by simp only [f22_L1, List.length_set, Option.map_some, restrict_eq, renS_nil, renS_cons, renB_els, renB_cel, renB_dead, deep_eq, map_ren_enc, ren_agg', ren_tup', ren_fn', ren_int', ren_bool', ren_str', ren_sl', ren_pro', ren_nilp', ren_nilfn', ren_junk', ren_ptr', ren_row', ren_arow', ren_eptr', vm, List.idxOf?_cons, List.idxOf?_nil, beq_self_eq_true, Option.map_none, List.getD_cons_zero, List.getD_cons_succ, ↓wk, ↓wl, nc, evV, ↓reduceIte, Nat.reduceEqDiff, Nat.reduceAdd, Nat.reduceSub, Nat.reduceLeDiff, Nat.reduceLT, Nat.reduceBEq, reduceCtorEq, Int.reduceEq])))
    · refine AW.exit ?_
      refine seqQ.exit ?_
      refine loopQ.exit H ?_ <;> clear H <;> intro H
      try dsimp only at H
      refine blk0.here ?_
      refine seqQ.norm ?_
      refine AW.rseq ?_
      try simp only [↓wk, ↓wl, nc, evV, ↓reduceIte, Nat.reduceEqDiff, Nat.reduceAdd, Nat.reduceSub, Nat.reduceLeDiff, Nat.reduceLT, Nat.reduceBEq, reduceCtorEq, Int.reduceEq]
      refine AW.ret ?_
      cases H
      exact hQ _ _ _ _ (.inr rfl) (by simp only [resVs, omap, resV, ↓wk, ↓wl, nc, evV, ↓reduceIte, Nat.reduceEqDiff, Nat.reduceAdd, Nat.reduceSub, Nat.reduceLeDiff, Nat.reduceLT, Nat.reduceBEq, reduceCtorEq, Int.reduceEq]; rfl) (hand_plain (by rfl)) (by rfl)
noncomputable def f23_L1 (l_506 : (List ApiGroup)) : Lp (Int) ((Unit) ⊕ (Int)) where
  body := fun i_520 => (if (decide (i_520 < ((l_506.length : Nat) : Int))) = true then (at? l_506 i_520).bind fun x_530 => (f21 x_530).bind fun r_531 => (if (decide (r_531 ≠ 0)) = true then (some (.brk (Sum.inr r_531))) else (if (decide (0 < i_520)) = true then (at? l_506 i_520).bind fun x_532 => (at? l_506 (IntKind.i64.wrap (i_520 - 1))).bind fun x_533 => (if (decide (x_532.fNumber ≤ x_533.fNumber)) = true then (some (.brk (Sum.inr 9))) else (some (.next (IntKind.i64.wrap (i_520 + 1))))) else (some (.next (IntKind.i64.wrap (i_520 + 1)))))) else (some (.brk (Sum.inl ()))))
  cst := fun i_520 => ⟨put (put (fun _ => .junk) 3 (.int .i64 i_520)) 0 (.sl 2 false (l_506.map eApiGroup)), []⟩
def c23_0 : C := .cond (.t 7) (.seq (.reg [iI 2 (.mv (.c (.int .i64 5)))]) .ret) (.skip)
def c23_1 : C := .cond (.t 11) (.skip) (.exit 0)
def c23_2 : C := .cond (.t 20) (.seq (.reg [iI 21 (.mv (.t 4)), iI 2 (.mv (.t 21))]) .ret) (.skip)
def c23_3 : C := .seq (.reg [iI 19 (.mv (.t 4)), iI 20 (.bin .neq (.t 19) (.c (.int .i64 0)))]) c23_2
def c23_4 : C := .cond (.t 37) (.seq (.reg [iI 2 (.mv (.c (.int .i64 9)))]) .ret) (.skip)
def c23_5 : C := .seq (.reg [iI 22 (.mv (.t 3)), iI 23 (.bin .gtr (.t 22) (.c (.int .i64 0))), iI 24 (.mv (.t 23)), iG (some 25) 24 true (.mv (.t 0)), iG (some 26) 24 true (.mv (.t 3)), iG (some 27) 24 true (.iaddr 2 (.t 25) (.t 26)), iG (some 28) 24 true (.faddr 0 (.t 27)), iG (some 29) 24 true (.load 0 (.t 28)), iG (some 30) 24 true (.mv (.t 0)), iG (some 31) 24 true (.mv (.t 3)), iG (some 32) 24 true (.bin .sub (.t 31) (.c (.int .i64 1))), iG (some 33) 24 true (.iaddr 2 (.t 30) (.t 32)), iG (some 34) 24 true (.faddr 0 (.t 33)), iG (some 35) 24 true (.load 0 (.t 34)), iG (some 36) 24 true (.bin .leq (.t 29) (.t 35)), iI 37 (.pick (.t 24) (.t 36) (.c (.bool false)))]) c23_4
def c23_6 : C := .reg [iI 12 (.mv (.t 3)), iI 13 (.bin .add (.t 12) (.c (.int .i64 1))), iI 3 (.mv (.t 13))]
def c23_7 : C := .seq (.block 1 (.seq (.seq (.reg [iI 14 (.mv (.t 0)), iI 15 (.mv (.t 3)), iI 16 (.iaddr 2 (.t 14) (.t 15)), iI 17 (.load 2 (.t 16)), iI 18 (.call (.c (.fn 21 [])) [(.t 17)]), iI 4 (.mv (.t 18))]) c23_3) c23_5)) c23_6
def c23_8 : C := .block 0 (.loop (.seq (.seq (.reg [iI 8 (.mv (.t 3)), iI 9 (.mv (.t 0)), iI 10 (.len 0 (.t 9)), iI 11 (.bin .lss (.t 8) (.t 10))]) c23_1) c23_7))
def c23_9 : C := .seq (.reg [iI 2 (.mv (.c (.int .i64 0)))]) .ret
def c23_10 : C := .seq (.seq (.reg [iI 3 (.mv (.c (.int .i64 0)))]) c23_8) c23_9
def c23_11 : C := .seq (.seq (.reg [iI 5 (.mv (.t 0)), iI 6 (.len 0 (.t 5)), iI 7 (.bin .gtr (.t 6) (.c (.int .i64 32)))]) c23_0) c23_10
def ir23 : C := .seq (.reg [iI 2 (.mv (.c (.int .i64 0)))]) c23_11
theorem fd23 : fd? Try.prog 23 = some (38, [.slot 2], ir23) := by kernel_rfl
noncomputable def f23 (l_506 : (List ApiGroup)) : Option (Int) :=
  (if (decide (32 < ((l_506.length : Nat) : Int))) = true then (some 5) else ((Lp.run (f23_L1 l_506) 0).bind fun r_ => match r_ with | (Sum.inl _) => (some 0) | (Sum.inr v_527) => (some v_527)))
theorem f23_ok {l_506 : (List ApiGroup)} {r_ : Int} (H : f23 l_506 = some r_) : Pure Try.prog 23 [.sl 2 false (l_506.map eApiGroup)] (· = .int .i64 r_) := by
  refine Pure.walk2 fd23 none (Nat.le_of_ble_eq_true rfl) (by rfl) fun Q hQ => ?_
  simp only [f23] at H
  refine AW.rseq ?_
  try simp only [↓wk, ↓wl, nc, evV, ↓reduceIte, Nat.reduceEqDiff, Nat.reduceAdd, Nat.reduceSub, Nat.reduceLeDiff, Nat.reduceLT, Nat.reduceBEq, reduceCtorEq, Int.reduceEq]
  refine AW.sseq ?_
  refine AW.rseq ?_
  try simp only [↓wk, ↓wl, nc, evV, ↓reduceIte, Nat.reduceEqDiff, Nat.reduceAdd, Nat.reduceSub, Nat.reduceLeDiff, Nat.reduceLT, Nat.reduceBEq, reduceCtorEq, Int.reduceEq]
  refine AW.ifc H (by rfl) ?_ ?_ <;> clear H <;> intro H
  · refine AW.rseq ?_
    try simp only [↓wk, ↓wl, nc, evV, ↓reduceIte, Nat.reduceEqDiff, Nat.reduceAdd, Nat.reduceSub, Nat.reduceLeDiff, Nat.reduceLT, Nat.reduceBEq, reduceCtorEq, Int.reduceEq]
    refine AW.ret ?_
    refine seqQ.ret ?_
    cases H
    exact hQ _ _ _ _ (.inr rfl) (by simp only [resVs, omap, resV, ↓wk, ↓wl, nc, evV, ↓reduceIte, Nat.reduceEqDiff, Nat.reduceAdd, Nat.reduceSub, Nat.reduceLeDiff, Nat.reduceLT, Nat.reduceBEq, reduceCtorEq, Int.reduceEq]; rfl) (hand_plain (by rfl)) (by rfl)
  · refine AW.skip ?_
    refine seqQ.norm ?_
    refine AW.sseq ?_
    refine AW.rseq ?_
    try simp only [↓wk, ↓wl, nc, evV, ↓reduceIte, Nat.reduceEqDiff, Nat.reduceAdd, Nat.reduceSub, Nat.reduceLeDiff, Nat.reduceLT, Nat.reduceBEq, reduceCtorEq, Int.reduceEq]
    refine AW.bend ?_
    refine AW.iter H ((Le.none [] [0, 3] (by decide) (by simp only [f23_L1, List.length_set, Option.map_some, restrict_eq, renS_nil, renS_cons, renB_els, renB_cel, renB_dead, deep_eq, map_ren_enc, ren_agg', ren_tup', ren_fn', ren_int', ren_bool', ren_str', ren_sl', ren_pro', ren_nilp', ren_nilfn', ren_junk', ren_ptr', ren_row', ren_arow', ren_eptr', vm, List.idxOf?_cons, List.idxOf?_nil, beq_self_eq_true, Option.map_none, List.getD_cons_zero, List.getD_cons_succ, ↓wk, ↓wl, nc, evV, ↓reduceIte, Nat.reduceEqDiff, Nat.reduceAdd, Nat.reduceSub, Nat.reduceLeDiff, Nat.reduceLT, Nat.reduceBEq, reduceCtorEq, Int.reduceEq]))) ?_ <;> clear H
    rintro i_520 x_ st0_ H hst_
    simp only [f23_L1] at H hst_
    subst hst_
    refine AW.sseq ?_
    refine AW.rseq ?_
    try simp only [↓wk, ↓wl, nc, evV, ↓reduceIte, Nat.reduceEqDiff, Nat.reduceAdd, Nat.reduceSub, Nat.reduceLeDiff, Nat.reduceLT, Nat.reduceBEq, reduceCtorEq, Int.reduceEq]
    refine AW.ifc H (by rfl) ?_ ?_ <;> clear H <;> intro H
    · refine AW.skip ?_
      refine seqQ.norm ?_
      refine AW.bseq ?_
      refine AW.sseq ?_
      refine AW.rseq ?_
      try simp only [↓wk, ↓wl, nc, evV, ↓reduceIte, Nat.reduceEqDiff, Nat.reduceAdd, Nat.reduceSub, Nat.reduceLeDiff, Nat.reduceLT, Nat.reduceBEq, reduceCtorEq, Int.reduceEq]
      refine evTs_at (enc := eApiGroup) H (by rfl) (by rfl) ?_ <;> clear H <;> intro x_530 H
      try simp only [eApiGroup, eL, ↓wk, ↓wl, nc, evV, ↓reduceIte, Nat.reduceEqDiff, Nat.reduceAdd, Nat.reduceSub, Nat.reduceLeDiff, Nat.reduceLT, Nat.reduceBEq, reduceCtorEq, Int.reduceEq]
      refine evTs_pure hFn H (fun _ h => f21_ok h) (by rfl) (by rfl) (by rfl) (by rfl) (fun _ => rfl) ?_ <;> clear H <;> intro r_531 H
      try simp only [eL, ↓wk, ↓wl, nc, evV, ↓reduceIte, Nat.reduceEqDiff, Nat.reduceAdd, Nat.reduceSub, Nat.reduceLeDiff, Nat.reduceLT, Nat.reduceBEq, reduceCtorEq, Int.reduceEq]
      refine AW.rseq ?_
      try simp only [↓wk, ↓wl, nc, evV, ↓reduceIte, Nat.reduceEqDiff, Nat.reduceAdd, Nat.reduceSub, Nat.reduceLeDiff, Nat.reduceLT, Nat.reduceBEq, reduceCtorEq, Int.reduceEq]
      refine AW.ifc H (by rfl) ?_ ?_ <;> clear H <;> intro H
      · refine AW.rseq ?_
        try simp only [↓wk, ↓wl, nc, evV, ↓reduceIte, Nat.reduceEqDiff, Nat.reduceAdd, Nat.reduceSub, Nat.reduceLeDiff, Nat.reduceLT, Nat.reduceBEq, reduceCtorEq, Int.reduceEq]
        refine AW.ret ?_
        refine seqQ.ret ?_
        refine blkQ.ret ?_
        refine loopQ.ret H ?_ <;> clear H <;> intro H
        try dsimp only at H
        refine blk0.ret ?_
        refine seqQ.ret ?_
        cases H
        exact hQ _ _ _ _ (.inr rfl) (by simp only [resVs, omap, resV, ↓wk, ↓wl, nc, evV, ↓reduceIte, Nat.reduceEqDiff, Nat.reduceAdd, Nat.reduceSub, Nat.reduceLeDiff, Nat.reduceLT, Nat.reduceBEq, reduceCtorEq, Int.reduceEq]; rfl) (hand_plain (by rfl)) (by rfl)
      · refine AW.skip ?_
        refine seqQ.norm ?_
        refine AW.rseq ?_
        try simp only [↓wk, ↓wl, nc, evV, ↓reduceIte, Nat.reduceEqDiff, Nat.reduceAdd, Nat.reduceSub, Nat.reduceLeDiff, Nat.reduceLT, Nat.reduceBEq, reduceCtorEq, Int.reduceEq]
        refine evTs_ifg H (by rfl) ?_ ?_ <;> clear H <;> intro H
        · try simp only [↓wk, ↓wl, nc, evV, ↓reduceIte, Nat.reduceEqDiff, Nat.reduceAdd, Nat.reduceSub, Nat.reduceLeDiff, Nat.reduceLT, Nat.reduceBEq, reduceCtorEq, Int.reduceEq]
          refine evTs_at (enc := eApiGroup) H (by rfl) (by rfl) ?_ <;> clear H <;> intro x_532 H
          try simp only [eApiGroup, eL, ↓wk, ↓wl, nc, evV, ↓reduceIte, Nat.reduceEqDiff, Nat.reduceAdd, Nat.reduceSub, Nat.reduceLeDiff, Nat.reduceLT, Nat.reduceBEq, reduceCtorEq, Int.reduceEq]
          refine evTs_at (enc := eApiGroup) H (by rfl) (by rfl) ?_ <;> clear H <;> intro x_533 H
          try simp only [eApiGroup, eL, ↓wk, ↓wl, nc, evV, ↓reduceIte, Nat.reduceEqDiff, Nat.reduceAdd, Nat.reduceSub, Nat.reduceLeDiff, Nat.reduceLT, Nat.reduceBEq, reduceCtorEq, Int.reduceEq]
          refine AW.ifc H (by rfl) ?_ ?_ <;> clear H <;> intro H
          · refine AW.rseq ?_
            try simp only [↓wk, ↓wl, nc, evV, ↓reduceIte, Nat.reduceEqDiff, Nat.reduceAdd, Nat.reduceSub, Nat.reduceLeDiff, Nat.reduceLT, Nat.reduceBEq, reduceCtorEq, Int.reduceEq]
            refine AW.ret ?_
            refine blkQ.ret ?_
            refine loopQ.ret H ?_ <;> clear H <;> intro H
            try dsimp only at H
            refine blk0.ret ?_
            refine seqQ.ret ?_
            cases H
            exact hQ _ _ _ _ (.inr rfl) (by simp only [resVs, omap, resV, ↓wk, ↓wl, nc, evV, ↓reduceIte, Nat.reduceEqDiff, Nat.reduceAdd, Nat.reduceSub, Nat.reduceLeDiff, Nat.reduceLT, Nat.reduceBEq, reduceCtorEq, Int.reduceEq]; rfl) (hand_plain (by rfl)) (by rfl)
          · refine AW.skip ?_
            refine blkQ.norm ?_
            refine AW.rend ?_
            try simp only [↓wk, ↓wl, nc, evV, ↓reduceIte, Nat.reduceEqDiff, Nat.reduceAdd, Nat.reduceSub, Nat.reduceLeDiff, Nat.reduceLT, Nat.reduceBEq, reduceCtorEq, Int.reduceEq]
            exact loopQ.next H ((Le.none [] [0, 3] (by decide) (by simp only [f23_L1, List.length_set, Option.map_some, restrict_eq, renS_nil, renS_cons, renB_els, renB_cel, renB_dead, deep_eq, map_ren_enc, ren_agg', ren_tup', ren_fn', ren_int', ren_bool', ren_str', ren_sl', ren_pro', ren_nilp', ren_nilfn', ren_junk', ren_ptr', ren_row', ren_arow', ren_eptr', vm, List.idxOf?_cons, List.idxOf?_nil, beq_self_eq_true, Option.map_none, List.getD_cons_zero, List.getD_cons_succ, ↓wk, ↓wl, nc, evV, ↓reduceIte, Nat.reduceEqDiff, Nat.reduceAdd, Nat.reduceSub, Nat.reduceLeDiff, Nat.reduceLT, Nat.reduceBEq, reduceCtorEq, Int.reduceEq])))
        · try simp only [↓wk, ↓wl, nc, evV, ↓reduceIte, Nat.reduceEqDiff, Nat.reduceAdd, Nat.reduceSub, Nat.reduceLeDiff, Nat.reduceLT, Nat.reduceBEq, reduceCtorEq, Int.reduceEq]
          refine AW.iff (by rfl) ?_
          refine AW.skip ?_
          refine blkQ.norm ?_
          refine AW.rend ?_
          try simp only [↓wk, ↓wl, nc, evV, ↓reduceIte, Nat.reduceEqDiff, Nat.reduceAdd, Nat.reduceSub, Nat.reduceLeDiff, Nat.reduceLT, Nat.reduceBEq, reduceCtorEq, Int.reduceEq]
          exact loopQ.next H ((Le.none [] [0, 3] (by decide) (by simp only [f23_L1, List.length_set, Option.map_some, restrict_eq, renS_nil, renS_cons, renB_els, renB_cel, renB_dead, deep_eq, map_ren_enc, ren_agg', ren_tup', ren_fn', ren_int', ren_bool', ren_str', ren_sl', ren_pro', ren_nilp', ren_nilfn', ren_junk', ren_ptr', ren_row', ren_arow', ren_eptr', vm, List.idxOf?_cons, List.idxOf?_nil, beq_self_eq_true, Option.map_none, List.getD_cons_zero, List.getD_cons_succ, ↓wk, ↓wl, nc, evV, ↓reduceIte, Nat.reduceEqDiff, Nat.reduceAdd, Nat.reduceSub, Nat.reduceLeDiff, Nat.reduceLT, Nat.reduceBEq, reduceCtorEq, Int.reduceEq])))
    · refine AW.exit ?_
      refine seqQ.exit ?_
      refine loopQ.exit H ?_ <;> clear H <;> intro H
      try dsimp only at H
      refine blk0.here ?_
      refine seqQ.norm ?_
      refine AW.rseq ?_
      try simp only [↓wk, ↓wl, nc, evV, ↓reduceIte, Nat.reduceEqDiff, Nat.reduceAdd, Nat.reduceSub, Nat.reduceLeDiff, Nat.reduceLT, Nat.reduceBEq, reduceCtorEq, Int.reduceEq]
      refine AW.ret ?_
      cases H
      exact hQ _ _ _ _ (.inr rfl) (by simp only [resVs, omap, resV, ↓wk, ↓wl, nc, evV, ↓reduceIte, Nat.reduceEqDiff, Nat.reduceAdd, Nat.reduceSub, Nat.reduceLeDiff, Nat.reduceLT, Nat.reduceBEq, reduceCtorEq, Int.reduceEq]; rfl) (hand_plain (by rfl)) (by rfl)
noncomputable def f6_L1 (l_381 : (List ApiGroup)) (g_382 : ApiGroup) : Lp (Int) ((Unit) ⊕ (Unit)) where
  body := fun v_438 => (if (decide (v_438 < ((l_381.length : Nat) : Int))) = true then (at? l_381 v_438).bind fun x_542 => (f18 x_542 g_382).bind fun r_543 => (f19 x_542 g_382).bind fun r_544 => (if (!(r_543 == r_544)) = true then (some (.brk (Sum.inr ()))) else (some (.next (IntKind.i64.wrap (v_438 + 1))))) else (some (.brk (Sum.inl ()))))
  cst := fun v_438 => ⟨put (put (put (put (put (fun _ => .junk) 19 (.int .i64 v_438)) 18 (.int .i64 ((l_381.length : Nat) : Int))) 17 (.sl 2 false (l_381.map eApiGroup))) 3 (.ptr 0 0)) 0 (.sl 2 false (l_381.map eApiGroup)), [.cel [.int .i64 g_382.fNumber, .sl 0 false (g_382.fChannels.map (AV.int .i64))]]⟩
def c6_0 : C := .cond (.t 15) (.seq (.reg [iI 16 (.call (.c (.fn 15 [])) []), iI 4 (.mv (.t 16))]) .ret) (.skip)
def c6_1 : C := .cond (.t 29) (.seq (.reg [iI 4 (.mv (.c (.bool false)))]) .ret) (.skip)
def c6_2 : C := .seq (.regq [iI 23 (.load 2 (.t 6)), iI 24 (.load 2 (.t 3)), iI 25 (.call (.c (.fn 18 [])) [(.t 23), (.t 24)]), iI 26 (.load 2 (.t 6)), iI 27 (.load 2 (.t 3)), iI 28 (.call (.c (.fn 19 [])) [(.t 26), (.t 27)]), iI 29 (.binb .neq (.t 25) (.t 28))]) c6_1
def c6_3 : C := .reg [iI 30 (.bin .add (.t 19) (.c (.int .i64 1))), iI 19 (.mv (.t 30))]
def c6_4 : C := .seq (.block 1 (.seq (.reg [iI 21 (.iaddr 2 (.t 17) (.t 19)), iI 22 (.load 2 (.t 21)), iI 6 (.alloc [(1, (.int .i64 0)), (1, (.sl 0 true []))]), iN (.store 2 (.t 6) (.t 22))]) c6_2)) c6_3
def c6_5 : C := .seq (.cond (.t 20) (.skip) (.exit 0)) c6_4
def c6_6 : C := .block 0 (.loop (.seq (.reg [iI 20 (.bin .lss (.t 19) (.t 18))]) c6_5))
def c6_7 : C := .seq (.regq [iI 31 (.call (.c (.fn 15 [])) []), iI 32 (.mv (.t 31)), iG (some 33) 32 true (.load 2 (.t 3)), iG (some 34) 32 true (.call (.c (.fn 20 [])) [(.t 33)]), iG (some 35) 32 true (.load 2 (.t 3)), iG (some 36) 32 true (.call (.c (.fn 21 [])) [(.t 35)]), iG (some 37) 32 true (.bin .eql (.t 34) (.t 36)), iI 38 (.pick (.t 32) (.t 37) (.c (.bool false))), iI 39 (.mv (.t 38)), iG (some 40) 39 true (.mv (.t 0)), iG (some 41) 39 true (.call (.c (.fn 22 [])) [(.t 40)]), iG (some 42) 39 true (.mv (.t 0)), iG (some 43) 39 true (.call (.c (.fn 23 [])) [(.t 42)]), iG (some 44) 39 true (.bin .eql (.t 41) (.t 43)), iI 45 (.pick (.t 39) (.t 44) (.c (.bool false))), iI 46 (.mv (.t 45)), iG (some 47) 46 true (.load 2 (.t 3)), iG (some 48) 46 true (.load 2 (.t 3)), iG (some 49) 46 true (.call (.c (.fn 18 [])) [(.t 47), (.t 48)]), iI 50 (.pick (.t 46) (.t 49) (.c (.bool false))), iI 4 (.mv (.t 50))]) .ret
def c6_8 : C := .seq (.seq (.reg [iI 17 (.mv (.t 0)), iI 18 (.len 0 (.t 17)), iI 19 (.mv (.c (.int .i64 0)))]) c6_6) c6_7
def c6_9 : C := .seq (.seq (.reg [iI 7 (.mv (.t 0)), iI 8 (.call (.c (.fn 17 [])) [(.t 7)]), iI 9 (.un .not (.t 8)), iI 10 (.mv (.t 9)), iG (some 11) 10 false (.load 2 (.t 3)), iG (some 12) 10 false (.mksl 2 1 (.agg [(.int .i64 0), (.sl 0 true [])]) [(0, (.t 11))]), iG (some 13) 10 false (.call (.c (.fn 17 [])) [(.t 12)]), iG (some 14) 10 false (.un .not (.t 13)), iI 15 (.pick (.t 10) (.c (.bool true)) (.t 14))]) c6_0) c6_8
def ir6 : C := .seq (.reg [iI 3 (.box (.t 1)), iI 4 (.mv (.c (.bool false)))]) c6_9
theorem fd6 : fd? Try.prog 6 = some (51, [.slot 4], ir6) := by kernel_rfl
noncomputable def f6 (l_381 : (List ApiGroup)) (g_382 : ApiGroup) : Option (Bool) :=
  (f17 l_381).bind fun r_398 => (if (!r_398) = true then (f15).bind fun r_399 => (some r_399) else (f17 ([g_382])).bind fun r_400 => (if (!r_400) = true then (f15).bind fun r_401 => (some r_401) else ((Lp.run (f6_L1 l_381 g_382) 0).bind fun r_ => match r_ with | (Sum.inl _) => (f15).bind fun r_442 => (if r_442 = true then (f20 g_382).bind fun r_443 => (f21 g_382).bind fun r_484 => (if (decide (r_443 = r_484)) = true then (f22 l_381).bind fun r_505 => (f23 l_381).bind fun r_534 => (if (decide (r_505 = r_534)) = true then (f18 g_382 g_382).bind fun r_535 => (some r_535) else (some false)) else (some false)) else (some false)) | (Sum.inr _) => (some false))))
theorem f6_ok {l_381 : (List ApiGroup)} {g_382 : ApiGroup} {r_ : Bool} (H : f6 l_381 g_382 = some r_) : Pure Try.prog 6 [.sl 2 false (l_381.map eApiGroup), .agg [.int .i64 g_382.fNumber, .sl 0 false (g_382.fChannels.map (AV.int .i64))]] (· = .bool r_) := by
  refine Pure.walk2 fd6 none (Nat.le_of_ble_eq_true rfl) (by rfl) fun Q hQ => ?_
  simp only [f6] at H
  refine AW.rseq ?_
  try simp only [↓wk, ↓wl, nc, evV, ↓reduceIte, Nat.reduceEqDiff, Nat.reduceAdd, Nat.reduceSub, Nat.reduceLeDiff, Nat.reduceLT, Nat.reduceBEq, reduceCtorEq, Int.reduceEq]
  refine AW.sseq ?_
  refine AW.rseq ?_
  try simp only [↓wk, ↓wl, nc, evV, ↓reduceIte, Nat.reduceEqDiff, Nat.reduceAdd, Nat.reduceSub, Nat.reduceLeDiff, Nat.reduceLT, Nat.reduceBEq, reduceCtorEq, Int.reduceEq]
  refine evTs_pure hFn H (fun _ h => f17_ok h) (by rfl) (by rfl) (by rfl) (by rfl) (fun _ => rfl) ?_ <;> clear H <;> intro r_398 H
  try simp only [eL, ↓wk, ↓wl, nc, evV, ↓reduceIte, Nat.reduceEqDiff, Nat.reduceAdd, Nat.reduceSub, Nat.reduceLeDiff, Nat.reduceLT, Nat.reduceBEq, reduceCtorEq, Int.reduceEq]
  refine evTs_ifg H (by rfl) ?_ ?_ <;> clear H <;> intro H
  · try simp only [↓wk, ↓wl, nc, evV, ↓reduceIte, Nat.reduceEqDiff, Nat.reduceAdd, Nat.reduceSub, Nat.reduceLeDiff, Nat.reduceLT, Nat.reduceBEq, reduceCtorEq, Int.reduceEq]
    refine AW.ift (by rfl) ?_
    refine AW.rseq ?_
    try simp only [↓wk, ↓wl, nc, evV, ↓reduceIte, Nat.reduceEqDiff, Nat.reduceAdd, Nat.reduceSub, Nat.reduceLeDiff, Nat.reduceLT, Nat.reduceBEq, reduceCtorEq, Int.reduceEq]
    refine evTs_pure hFn H (fun _ h => f15_ok h) (by rfl) (by rfl) (by rfl) (by rfl) (fun _ => rfl) ?_ <;> clear H <;> intro r_399 H
    try simp only [eL, ↓wk, ↓wl, nc, evV, ↓reduceIte, Nat.reduceEqDiff, Nat.reduceAdd, Nat.reduceSub, Nat.reduceLeDiff, Nat.reduceLT, Nat.reduceBEq, reduceCtorEq, Int.reduceEq]
    refine AW.ret ?_
    refine seqQ.ret ?_
    cases H
    exact hQ _ _ _ _ (.inr rfl) (by simp only [resVs, omap, resV, ↓wk, ↓wl, nc, evV, ↓reduceIte, Nat.reduceEqDiff, Nat.reduceAdd, Nat.reduceSub, Nat.reduceLeDiff, Nat.reduceLT, Nat.reduceBEq, reduceCtorEq, Int.reduceEq]; rfl) (hand_plain (by rfl)) (by rfl)
  · try simp only [↓wk, ↓wl, nc, evV, ↓reduceIte, Nat.reduceEqDiff, Nat.reduceAdd, Nat.reduceSub, Nat.reduceLeDiff, Nat.reduceLT, Nat.reduceBEq, reduceCtorEq, Int.reduceEq]
    refine evTs_pure hFn H (fun _ h => f17_ok h) (by rfl) (by rfl) (by rfl) (by rfl) (fun _ => rfl) ?_ <;> clear H <;> intro r_400 H
    try simp only [eL, ↓wk, ↓wl, nc, evV, ↓reduceIte, Nat.reduceEqDiff, Nat.reduceAdd, Nat.reduceSub, Nat.reduceLeDiff, Nat.reduceLT, Nat.reduceBEq, reduceCtorEq, Int.reduceEq]
    refine AW.ifc H (by rfl) ?_ ?_ <;> clear H <;> intro H
    · refine AW.rseq ?_
      try simp only [↓wk, ↓wl, nc, evV, ↓reduceIte, Nat.reduceEqDiff, Nat.reduceAdd, Nat.reduceSub, Nat.reduceLeDiff, Nat.reduceLT, Nat.reduceBEq, reduceCtorEq, Int.reduceEq]
      refine evTs_pure hFn H (fun _ h => f15_ok h) (by rfl) (by rfl) (by rfl) (by rfl) (fun _ => rfl) ?_ <;> clear H <;> intro r_401 H
      try simp only [eL, ↓wk, ↓wl, nc, evV, ↓reduceIte, Nat.reduceEqDiff, Nat.reduceAdd, Nat.reduceSub, Nat.reduceLeDiff, Nat.reduceLT, Nat.reduceBEq, reduceCtorEq, Int.reduceEq]
      refine AW.ret ?_
      refine seqQ.ret ?_
      cases H
      exact hQ _ _ _ _ (.inr rfl) (by simp only [resVs, omap, resV, ↓wk, ↓wl, nc, evV, ↓reduceIte, Nat.reduceEqDiff, Nat.reduceAdd, Nat.reduceSub, Nat.reduceLeDiff, Nat.reduceLT, Nat.reduceBEq, reduceCtorEq, Int.reduceEq]; rfl) (hand_plain (by rfl)) (by rfl)
    · refine AW.skip ?_
      refine seqQ.norm ?_
      refine AW.sseq ?_
      refine AW.rseq ?_
      try simp only [↓wk, ↓wl, nc, evV, ↓reduceIte, Nat.reduceEqDiff, Nat.reduceAdd, Nat.reduceSub, Nat.reduceLeDiff, Nat.reduceLT, Nat.reduceBEq, reduceCtorEq, Int.reduceEq]
      refine AW.bend ?_
      refine AW.iter H ((Le.none [0] [0, 3, 17, 18, 19] (by decide) (by simp only [f6_L1, List.length_set, Option.map_some, restrict_eq, renS_nil, renS_cons, renB_els, renB_cel, renB_dead, deep_eq, map_ren_enc, ren_agg', ren_tup', ren_fn', ren_int', ren_bool', ren_str', ren_sl', ren_pro', ren_nilp', ren_nilfn', ren_junk', ren_ptr', ren_row', ren_arow', ren_eptr', vm, List.idxOf?_cons, List.idxOf?_nil, beq_self_eq_true, Option.map_none, List.getD_cons_zero, List.getD_cons_succ, ↓wk, ↓wl, nc, evV, ↓reduceIte, Nat.reduceEqDiff, Nat.reduceAdd, Nat.reduceSub, Nat.reduceLeDiff, Nat.reduceLT, Nat.reduceBEq, reduceCtorEq, Int.reduceEq]))) ?_ <;> clear H
      rintro v_438 x_ st0_ H hst_
      simp only [f6_L1] at H hst_
      subst hst_
      refine AW.rseq ?_
      try simp only [↓wk, ↓wl, nc, evV, ↓reduceIte, Nat.reduceEqDiff, Nat.reduceAdd, Nat.reduceSub, Nat.reduceLeDiff, Nat.reduceLT, Nat.reduceBEq, reduceCtorEq, Int.reduceEq]
      refine AW.sseq ?_
      refine AW.ifc H (by rfl) ?_ ?_ <;> clear H <;> intro H
      · refine AW.skip ?_
        refine seqQ.norm ?_
        refine AW.bseq ?_
        refine AW.rseq ?_
        try simp only [↓wk, ↓wl, nc, evV, ↓reduceIte, Nat.reduceEqDiff, Nat.reduceAdd, Nat.reduceSub, Nat.reduceLeDiff, Nat.reduceLT, Nat.reduceBEq, reduceCtorEq, Int.reduceEq]
        refine evTs_at (enc := eApiGroup) H (by rfl) (by rfl) ?_ <;> clear H <;> intro x_542 H
        try simp only [eApiGroup, eL, ↓wk, ↓wl, nc, evV, ↓reduceIte, Nat.reduceEqDiff, Nat.reduceAdd, Nat.reduceSub, Nat.reduceLeDiff, Nat.reduceLT, Nat.reduceBEq, reduceCtorEq, Int.reduceEq]
        refine AW.rqseq ?_
        try simp only [↓wk, ↓wl, nc, evV, ↓reduceIte, Nat.reduceEqDiff, Nat.reduceAdd, Nat.reduceSub, Nat.reduceLeDiff, Nat.reduceLT, Nat.reduceBEq, reduceCtorEq, Int.reduceEq]
        refine evTs_pure hFnq H (fun _ h => f18_ok h) (by rfl) (by rfl) (by rfl) (by rfl) (fun _ => rfl) ?_ <;> clear H <;> intro r_543 H
        try simp only [eL, ↓wk, ↓wl, nc, evV, ↓reduceIte, Nat.reduceEqDiff, Nat.reduceAdd, Nat.reduceSub, Nat.reduceLeDiff, Nat.reduceLT, Nat.reduceBEq, reduceCtorEq, Int.reduceEq]
        refine evTs_pure hFnq H (fun _ h => f19_ok h) (by rfl) (by rfl) (by rfl) (by rfl) (fun _ => rfl) ?_ <;> clear H <;> intro r_544 H
        try simp only [eL, ↓wk, ↓wl, nc, evV, ↓reduceIte, Nat.reduceEqDiff, Nat.reduceAdd, Nat.reduceSub, Nat.reduceLeDiff, Nat.reduceLT, Nat.reduceBEq, reduceCtorEq, Int.reduceEq]
        refine AW.ifc H (by rfl) ?_ ?_ <;> clear H <;> intro H
        · refine AW.rseq ?_
          try simp only [↓wk, ↓wl, nc, evV, ↓reduceIte, Nat.reduceEqDiff, Nat.reduceAdd, Nat.reduceSub, Nat.reduceLeDiff, Nat.reduceLT, Nat.reduceBEq, reduceCtorEq, Int.reduceEq]
          refine AW.ret ?_
          refine blkQ.ret ?_
          refine loopQ.ret H ?_ <;> clear H <;> intro H
          try dsimp only at H
          refine blk0.ret ?_
          refine seqQ.ret ?_
          cases H
          exact hQ _ _ _ _ (.inr rfl) (by simp only [resVs, omap, resV, ↓wk, ↓wl, nc, evV, ↓reduceIte, Nat.reduceEqDiff, Nat.reduceAdd, Nat.reduceSub, Nat.reduceLeDiff, Nat.reduceLT, Nat.reduceBEq, reduceCtorEq, Int.reduceEq]; rfl) (hand_plain (by rfl)) (by rfl)
        · refine AW.skip ?_
          refine blkQ.norm ?_
          refine AW.rend ?_
          try simp only [↓wk, ↓wl, nc, evV, ↓reduceIte, Nat.reduceEqDiff, Nat.reduceAdd, Nat.reduceSub, Nat.reduceLeDiff, Nat.reduceLT, Nat.reduceBEq, reduceCtorEq, Int.reduceEq]
          exact loopQ.next H ((Le.none [0] [0, 3, 17, 18, 19] (by decide) (by simp only [f6_L1, List.length_set, Option.map_some, restrict_eq, renS_nil, renS_cons, renB_els, renB_cel, renB_dead, deep_eq, map_ren_enc, ren_agg', ren_tup', ren_fn', ren_int', ren_bool', ren_str', ren_sl', ren_pro', ren_nilp', ren_nilfn', ren_junk', ren_ptr', ren_row', ren_arow', ren_eptr', vm, List.idxOf?_cons, List.idxOf?_nil, beq_self_eq_true, Option.map_none, List.getD_cons_zero, List.getD_cons_succ, ↓wk, ↓wl, nc, evV, ↓reduceIte, Nat.reduceEqDiff, Nat.reduceAdd, Nat.reduceSub, Nat.reduceLeDiff, Nat.reduceLT, Nat.reduceBEq, reduceCtorEq, Int.reduceEq])))
      · refine AW.exit ?_
        refine seqQ.exit ?_
        refine loopQ.exit H ?_ <;> clear H <;> intro H
        try dsimp only at H
        refine blk0.here ?_
        refine seqQ.norm ?_
        refine AW.rqseq ?_
        try simp only [↓wk, ↓wl, nc, evV, ↓reduceIte, Nat.reduceEqDiff, Nat.reduceAdd, Nat.reduceSub, Nat.reduceLeDiff, Nat.reduceLT, Nat.reduceBEq, reduceCtorEq, Int.reduceEq]
        refine evTs_pure hFnq H (fun _ h => f15_ok h) (by rfl) (by rfl) (by rfl) (by rfl) (fun _ => rfl) ?_ <;> clear H <;> intro r_545 H
        try simp only [eL, ↓wk, ↓wl, nc, evV, ↓reduceIte, Nat.reduceEqDiff, Nat.reduceAdd, Nat.reduceSub, Nat.reduceLeDiff, Nat.reduceLT, Nat.reduceBEq, reduceCtorEq, Int.reduceEq]
        refine evTs_ifg H (by rfl) ?_ ?_ <;> clear H <;> intro H
        · try simp only [↓wk, ↓wl, nc, evV, ↓reduceIte, Nat.reduceEqDiff, Nat.reduceAdd, Nat.reduceSub, Nat.reduceLeDiff, Nat.reduceLT, Nat.reduceBEq, reduceCtorEq, Int.reduceEq]
          refine evTs_pure hFnq H (fun _ h => f20_ok h) (by rfl) (by rfl) (by rfl) (by rfl) (fun _ => rfl) ?_ <;> clear H <;> intro r_546 H
          try simp only [eL, ↓wk, ↓wl, nc, evV, ↓reduceIte, Nat.reduceEqDiff, Nat.reduceAdd, Nat.reduceSub, Nat.reduceLeDiff, Nat.reduceLT, Nat.reduceBEq, reduceCtorEq, Int.reduceEq]
          refine evTs_pure hFnq H (fun _ h => f21_ok h) (by rfl) (by rfl) (by rfl) (by rfl) (fun _ => rfl) ?_ <;> clear H <;> intro r_547 H
          try simp only [eL, ↓wk, ↓wl, nc, evV, ↓reduceIte, Nat.reduceEqDiff, Nat.reduceAdd, Nat.reduceSub, Nat.reduceLeDiff, Nat.reduceLT, Nat.reduceBEq, reduceCtorEq, Int.reduceEq]
          refine evTs_ifg H (by rfl) ?_ ?_ <;> clear H <;> intro H
          · try simp only [↓wk, ↓wl, nc, evV, ↓reduceIte, Nat.reduceEqDiff, Nat.reduceAdd, Nat.reduceSub, Nat.reduceLeDiff, Nat.reduceLT, Nat.reduceBEq, reduceCtorEq, Int.reduceEq]
            refine evTs_pure hFnq H (fun _ h => f22_ok h) (by rfl) (by rfl) (by rfl) (by rfl) (fun _ => rfl) ?_ <;> clear H <;> intro r_548 H
            try simp only [eL, ↓wk, ↓wl, nc, evV, ↓reduceIte, Nat.reduceEqDiff, Nat.reduceAdd, Nat.reduceSub, Nat.reduceLeDiff, Nat.reduceLT, Nat.reduceBEq, reduceCtorEq, Int.reduceEq]
            refine evTs_pure hFnq H (fun _ h => f23_ok h) (by rfl) (by rfl) (by rfl) (by rfl) (fun _ => rfl) ?_ <;> clear H <;> intro r_549 H
            try simp only [eL, ↓wk, ↓wl, nc, evV, ↓reduceIte, Nat.reduceEqDiff, Nat.reduceAdd, Nat.reduceSub, Nat.reduceLeDiff, Nat.reduceLT, Nat.reduceBEq, reduceCtorEq, Int.reduceEq]
            refine evTs_ifg H (by rfl) ?_ ?_ <;> clear H <;> intro H
            · try simp only [↓wk, ↓wl, nc, evV, ↓reduceIte, Nat.reduceEqDiff, Nat.reduceAdd, Nat.reduceSub, Nat.reduceLeDiff, Nat.reduceLT, Nat.reduceBEq, reduceCtorEq, Int.reduceEq]
              refine evTs_pure hFnq H (fun _ h => f18_ok h) (by rfl) (by rfl) (by rfl) (by rfl) (fun _ => rfl) ?_ <;> clear H <;> intro r_550 H
              try simp only [eL, ↓wk, ↓wl, nc, evV, ↓reduceIte, Nat.reduceEqDiff, Nat.reduceAdd, Nat.reduceSub, Nat.reduceLeDiff, Nat.reduceLT, Nat.reduceBEq, reduceCtorEq, Int.reduceEq]
              refine AW.ret ?_
              cases H
              exact hQ _ _ _ _ (.inr rfl) (by simp only [resVs, omap, resV, ↓wk, ↓wl, nc, evV, ↓reduceIte, Nat.reduceEqDiff, Nat.reduceAdd, Nat.reduceSub, Nat.reduceLeDiff, Nat.reduceLT, Nat.reduceBEq, reduceCtorEq, Int.reduceEq]; rfl) (hand_plain (by rfl)) (by rfl)
            · try simp only [↓wk, ↓wl, nc, evV, ↓reduceIte, Nat.reduceEqDiff, Nat.reduceAdd, Nat.reduceSub, Nat.reduceLeDiff, Nat.reduceLT, Nat.reduceBEq, reduceCtorEq, Int.reduceEq]
              refine AW.ret ?_
              cases H
              exact hQ _ _ _ _ (.inr rfl) (by simp only [resVs, omap, resV, ↓wk, ↓wl, nc, evV, ↓reduceIte, Nat.reduceEqDiff, Nat.reduceAdd, Nat.reduceSub, Nat.reduceLeDiff, Nat.reduceLT, Nat.reduceBEq, reduceCtorEq, Int.reduceEq]; rfl) (hand_plain (by rfl)) (by rfl)
          · try simp only [↓wk, ↓wl, nc, evV, ↓reduceIte, Nat.reduceEqDiff, Nat.reduceAdd, Nat.reduceSub, Nat.reduceLeDiff, Nat.reduceLT, Nat.reduceBEq, reduceCtorEq, Int.reduceEq]
            refine AW.ret ?_
            cases H
            exact hQ _ _ _ _ (.inr rfl) (by simp only [resVs, omap, resV, ↓wk, ↓wl, nc, evV, ↓reduceIte, Nat.reduceEqDiff, Nat.reduceAdd, Nat.reduceSub, Nat.reduceLeDiff, Nat.reduceLT, Nat.reduceBEq, reduceCtorEq, Int.reduceEq]; rfl) (hand_plain (by rfl)) (by rfl)
        · try simp only [↓wk, ↓wl, nc, evV, ↓reduceIte, Nat.reduceEqDiff, Nat.reduceAdd, Nat.reduceSub, Nat.reduceLeDiff, Nat.reduceLT, Nat.reduceBEq, reduceCtorEq, Int.reduceEq]
          refine AW.ret ?_
          cases H
          exact hQ _ _ _ _ (.inr rfl) (by simp only [resVs, omap, resV, ↓wk, ↓wl, nc, evV, ↓reduceIte, Nat.reduceEqDiff, Nat.reduceAdd, Nat.reduceSub, Nat.reduceLeDiff, Nat.reduceLT, Nat.reduceBEq, reduceCtorEq, Int.reduceEq]; rfl) (hand_plain (by rfl)) (by rfl)
def c46_0 : C := .cond (.t 4) (.seq (.reg [iI 2 (.mv (.c (.sl 0 true [])))]) .ret) (.skip)
def c46_1 : C := .seq (.reg [iI 5 (.mkslp 0 0 (.int .i64 0) []), iI 6 (.mv (.t 0)), iI 7 (.append 0 8 (.t 5) (.t 6)), iI 2 (.mv (.t 7))]) .ret
def c46_2 : C := .seq (.seq (.reg [iI 3 (.mv (.t 0)), iI 4 (.isnil false (.t 3))]) c46_0) c46_1
def ir46 : C := .seq (.reg [iI 2 (.mv (.c (.sl 0 true [])))]) c46_2
theorem fd46 : fd? Try.prog 46 = some (8, [.slot 2], ir46) := by kernel_rfl
noncomputable def f46 (s_582 : (List Int)) : Option ((List Int)) :=
  (nil? (s_582 : List Int) false fun b_583 => (if b_583 = true then (some []) else (app? 8 [] s_582).bind fun out_584 => (some out_584)))
theorem f46_ok {s_582 : (List Int)} {r_ : (List Int)} (H : f46 s_582 = some r_) : Pure Try.prog 46 [.sl 0 false (s_582.map (AV.int .i64))] (· = .fr 0 (r_.map (AV.int .i64))) := by
  refine Pure.walk2 fd46 (some 0) (Nat.le_of_ble_eq_true rfl) (by rfl) fun Q hQ => ?_
  simp only [f46] at H
  refine AW.rseq ?_
  try simp only [↓wk, ↓wl, nc, evV, ↓reduceIte, Nat.reduceEqDiff, Nat.reduceAdd, Nat.reduceSub, Nat.reduceLeDiff, Nat.reduceLT, Nat.reduceBEq, reduceCtorEq, Int.reduceEq]
  refine AW.sseq ?_
  refine AW.rseq ?_
  try simp only [↓wk, ↓wl, nc, evV, ↓reduceIte, Nat.reduceEqDiff, Nat.reduceAdd, Nat.reduceSub, Nat.reduceLeDiff, Nat.reduceLT, Nat.reduceBEq, reduceCtorEq, Int.reduceEq]
  refine evTs_isnil (enc := (AV.int .i64)) H (by rfl) ?_ <;> clear H <;> intro b_583 H
  try simp only [↓wk, ↓wl, nc, evV, ↓reduceIte, Nat.reduceEqDiff, Nat.reduceAdd, Nat.reduceSub, Nat.reduceLeDiff, Nat.reduceLT, Nat.reduceBEq, reduceCtorEq, Int.reduceEq]
  refine AW.ifc H (by rfl) ?_ ?_ <;> clear H <;> intro H
  · refine AW.rseq ?_
    try simp only [↓wk, ↓wl, nc, evV, ↓reduceIte, Nat.reduceEqDiff, Nat.reduceAdd, Nat.reduceSub, Nat.reduceLeDiff, Nat.reduceLT, Nat.reduceBEq, reduceCtorEq, Int.reduceEq]
    refine AW.ret ?_
    refine seqQ.ret ?_
    cases H
    exact hQ _ _ _ _ (.inr rfl) (by simp only [resVs, omap, resV, ↓wk, ↓wl, nc, evV, ↓reduceIte, Nat.reduceEqDiff, Nat.reduceAdd, Nat.reduceSub, Nat.reduceLeDiff, Nat.reduceLT, Nat.reduceBEq, reduceCtorEq, Int.reduceEq]; rfl) hand_10 (by rfl)
  · refine AW.skip ?_
    refine seqQ.norm ?_
    refine AW.rseq ?_
    try simp only [↓wk, ↓wl, nc, evV, ↓reduceIte, Nat.reduceEqDiff, Nat.reduceAdd, Nat.reduceSub, Nat.reduceLeDiff, Nat.reduceLT, Nat.reduceBEq, reduceCtorEq, Int.reduceEq]
    refine evTs_app0 (enc := (AV.int .i64)) H (by rfl) (by rfl) ?_ <;> clear H <;> intro out_584 H
    try simp only [↓wk, ↓wl, nc, evV, ↓reduceIte, Nat.reduceEqDiff, Nat.reduceAdd, Nat.reduceSub, Nat.reduceLeDiff, Nat.reduceLT, Nat.reduceBEq, reduceCtorEq, Int.reduceEq]
    refine AW.ret ?_
    cases H
    exact hQ _ _ _ _ (.inr rfl) (by simp only [resVs, omap, resV, ↓wk, ↓wl, nc, evV, ↓reduceIte, Nat.reduceEqDiff, Nat.reduceAdd, Nat.reduceSub, Nat.reduceLeDiff, Nat.reduceLT, Nat.reduceBEq, reduceCtorEq, Int.reduceEq]; rfl) (hand_1 (by rfl) (by simp) (enc_all _)) (by rfl)
theorem f46_im {s_582 : (List Int)} {r_ : (List Int)} (H : f46 s_582 = some r_) : Pure Try.prog 46 [.sl 0 false (s_582.map (AV.int .i64))] (· = .sl 0 false (r_.map (AV.int .i64))) := (f46_ok H).unfr (by first | exact enc_fits _ | simp only [frFits, List.all_cons, List.all_nil, enc_fits, Bool.and_self])
def c47_0 : C := .cond (.t 9) (.skip) (.exit 0)
def c47_1 : C := .reg [iI 10 (.mv (.t 2)), iI 11 (.bin .add (.t 10) (.c (.int .i64 1))), iI 12 (.mv (.t 3)), iI 13 (.bin .sub (.t 12) (.c (.int .i64 1))), iI 2 (.mv (.t 11)), iI 3 (.mv (.t 13))]
def c47_2 : C := .seq (.block 1 (.reg [iI 14 (.mv (.t 0)), iI 15 (.mv (.t 2)), iI 16 (.mv (.t 0)), iI 17 (.mv (.t 3)), iI 18 (.mv (.t 0)), iI 19 (.mv (.t 3)), iI 20 (.iaddr 0 (.t 18) (.t 19)), iI 21 (.load 0 (.t 20)), iI 22 (.mv (.t 0)), iI 23 (.mv (.t 2)), iI 24 (.iaddr 0 (.t 22) (.t 23)), iI 25 (.load 0 (.t 24)), iI 26 (.iaddr 0 (.t 14) (.t 15)), iN (.store 0 (.t 26) (.t 21)), iI 27 (.iaddr 0 (.t 16) (.t 17)), iN (.store 0 (.t 27) (.t 25))])) c47_1
def c47_3 : C := .block 0 (.loop (.seq (.seq (.reg [iI 7 (.mv (.t 2)), iI 8 (.mv (.t 3)), iI 9 (.bin .lss (.t 7) (.t 8))]) c47_0) c47_2))
def ir47 : C := .seq (.reg [iI 4 (.mv (.t 0)), iI 5 (.len 0 (.t 4)), iI 6 (.bin .sub (.t 5) (.c (.int .i64 1))), iI 2 (.mv (.c (.int .i64 0))), iI 3 (.mv (.t 6))]) c47_3
theorem fd47 : fd? Try.prog 47 = some (28, [], ir47) := by kernel_rfl
noncomputable def f24_L2 (g_579 : ApiGroup) : Lp (Int × Int × (List Int)) ((List Int)) where
  body := fun (i_617, j_618, v_619) => (if (decide (i_617 < j_618)) = true then (at? v_619 j_618).bind fun x_625 => (at? v_619 i_617).bind fun x_626 => (at? v_619 i_617).bind fun x_627 => (at? (v_619.set i_617.toNat x_625) j_618).bind fun x_628 => (some (.next ((IntKind.i64.wrap (i_617 + 1)), (IntKind.i64.wrap (j_618 - 1)), ((v_619.set i_617.toNat x_625).set j_618.toNat x_626)))) else (some (.brk v_619)))
  cst := fun (i_617, j_618, v_619) => ⟨put (put (put (fun _ => .junk) 3 (.int .i64 j_618)) 2 (.int .i64 i_617)) 0 (.row 0 2 0 v_619.length), [.cel [.int .i64 g_579.fNumber, .row 0 2 0 v_619.length], .cel [.int .i64 0, .sl 0 true []], .els 0 (v_619.map (AV.int .i64))]⟩
noncomputable def f24_C1 (g_579 : ApiGroup) (r_585 : (List Int)) : Il ((List Int)) where
  run := (Lp.run (f24_L2 g_579) (0, (IntKind.i64.wrap (((r_585.length : Nat) : Int) - 1)), r_585)).bind fun v_624 => (some v_624)
  res := fun v_605 => .tup []
  hp := fun v_605 => [.cel [.int .i64 g_579.fNumber, .row 0 2 0 v_605.length], .cel [.int .i64 0, .sl 0 true []], .els 0 (v_605.map (AV.int .i64))]
def c24_0 : C := .cond (.t 8) (.seq (.reg [iI 9 (.build [(1, (.int .i64 0)), (1, (.sl 0 true []))] []), iI 10 (.mv (.t 4)), iN (.store 2 (.t 2) (.t 9)), iI 3 (.mv (.t 10))]) .ret) (.skip)
def c24_1 : C := .seq (.reg [iI 7 (.mv (.t 4)), iI 8 (.bin .neq (.t 7) (.c (.int .i64 0)))]) c24_0
def c24_2 : C := .seq (.reg [iI 18 (.load 2 (.t 1)), iN (.store 2 (.t 2) (.t 18)), iI 3 (.mv (.c (.int .i64 0)))]) .ret
def c24_3 : C := .seq (.reg [iI 15 (.faddr 1 (.t 1)), iI 16 (.load 0 (.t 15)), iI 17 (.call (.c (.fn 47 [])) [(.t 16)])]) c24_2
def c24_4 : C := .seq (.reg [iI 11 (.faddr 1 (.t 1)), iI 12 (.load 0 (.t 11)), iI 13 (.call (.c (.fn 46 [])) [(.t 12)]), iI 14 (.faddr 1 (.t 1)), iN (.store 0 (.t 14) (.t 13))]) c24_3
def c24_5 : C := .seq (.seq (.reg [iI 5 (.load 2 (.t 1)), iI 6 (.call (.c (.fn 20 [])) [(.t 5)]), iI 4 (.mv (.t 6))]) c24_1) c24_4
def ir24 : C := .seq (.reg [iI 1 (.box (.t 0)), iI 2 (.alloc [(1, (.int .i64 0)), (1, (.sl 0 true []))]), iI 3 (.mv (.c (.int .i64 0)))]) c24_5
theorem fd24 : fd? Try.prog 24 = some (19, [.cell 2 2, .slot 3], ir24) := by kernel_rfl
noncomputable def f24 (g_579 : ApiGroup) : Option (ApiGroup × Int) :=
  (f20 g_579).bind fun r_581 => (if (decide (r_581 ≠ 0)) = true then (some ((ApiGroup.mk 0 ([])), r_581)) else (f46 g_579.fChannels).bind fun r_585 => ((f24_C1 g_579 r_585).run.bind fun v_605 => (must? (v_605.length = r_585.length)).bind fun _ => (some ((ApiGroup.mk g_579.fNumber v_605), 0))))
theorem f24_ok {g_579 : ApiGroup} {r_ : ApiGroup × Int} (H : f24 g_579 = some r_) : Pure Try.prog 24 [.agg [.int .i64 g_579.fNumber, .sl 0 false (g_579.fChannels.map (AV.int .i64))]] (· = .tup [.agg [.int .i64 r_.1.fNumber, .sl 0 false (r_.1.fChannels.map (AV.int .i64))], .int .i64 r_.2]) := by
  refine Pure.walk2 fd24 none (Nat.le_of_ble_eq_true rfl) (by rfl) fun Q hQ => ?_
  simp only [f24] at H
  refine AW.rseq ?_
  try simp only [↓wk, ↓wl, ncs, evV, ↓reduceIte, Nat.reduceEqDiff, Nat.reduceAdd, Nat.reduceSub, Nat.reduceLeDiff, Nat.reduceLT, Nat.reduceBEq, reduceCtorEq, Int.reduceEq]
  refine AW.sseq ?_
  refine AW.rseq ?_
  try simp only [↓wk, ↓wl, ncs, evV, ↓reduceIte, Nat.reduceEqDiff, Nat.reduceAdd, Nat.reduceSub, Nat.reduceLeDiff, Nat.reduceLT, Nat.reduceBEq, reduceCtorEq, Int.reduceEq]
  refine evTs_pure hFn H (fun _ h => f20_ok h) (by rfl) (by rfl) (by rfl) (by rfl) (fun _ => rfl) ?_ <;> clear H <;> intro r_581 H
  try simp only [eL, ↓wk, ↓wl, ncs, evV, ↓reduceIte, Nat.reduceEqDiff, Nat.reduceAdd, Nat.reduceSub, Nat.reduceLeDiff, Nat.reduceLT, Nat.reduceBEq, reduceCtorEq, Int.reduceEq]
  refine AW.rseq ?_
  try simp only [↓wk, ↓wl, ncs, evV, ↓reduceIte, Nat.reduceEqDiff, Nat.reduceAdd, Nat.reduceSub, Nat.reduceLeDiff, Nat.reduceLT, Nat.reduceBEq, reduceCtorEq, Int.reduceEq]
  refine AW.ifc H (by rfl) ?_ ?_ <;> clear H <;> intro H
  · refine AW.rseq ?_
    try simp only [↓wk, ↓wl, ncs, evV, ↓reduceIte, Nat.reduceEqDiff, Nat.reduceAdd, Nat.reduceSub, Nat.reduceLeDiff, Nat.reduceLT, Nat.reduceBEq, reduceCtorEq, Int.reduceEq]
    refine evTs_st (by simp only [↓wk, ↓wl, ncs, evV, ↓reduceIte, Nat.reduceEqDiff, Nat.reduceAdd, Nat.reduceSub, Nat.reduceLeDiff, Nat.reduceLT, Nat.reduceBEq, reduceCtorEq, Int.reduceEq, Nat.reduceLeDiff]; rfl) ?_
    try simp only [↓wk, ↓wl, ncs, evV, ↓reduceIte, Nat.reduceEqDiff, Nat.reduceAdd, Nat.reduceSub, Nat.reduceLeDiff, Nat.reduceLT, Nat.reduceBEq, reduceCtorEq, Int.reduceEq]
    refine AW.ret ?_
    refine seqQ.ret ?_
    cases H
    exact hQ _ _ _ _ (.inr rfl) (by simp only [resVs, omap, resV, ↓wk, ↓wl, ncs, evV, ↓reduceIte, Nat.reduceEqDiff, Nat.reduceAdd, Nat.reduceSub, Nat.reduceLeDiff, Nat.reduceLT, Nat.reduceBEq, reduceCtorEq, Int.reduceEq]; rfl) (hand_plain (by rfl)) (by rfl)
  · refine AW.skip ?_
    refine seqQ.norm ?_
    refine AW.rseq ?_
    try simp only [↓wk, ↓wl, ncs, evV, ↓reduceIte, Nat.reduceEqDiff, Nat.reduceAdd, Nat.reduceSub, Nat.reduceLeDiff, Nat.reduceLT, Nat.reduceBEq, reduceCtorEq, Int.reduceEq]
    refine evTs_fr H (fun _ h => f46_ok h) (by rfl) (by rfl) (by rfl) (by rfl) (fun _ => rfl) ?_ <;> clear H <;> intro r_585 H
    try simp only [eL, ↓wk, ↓wl, ncs, evV, ↓reduceIte, Nat.reduceEqDiff, Nat.reduceAdd, Nat.reduceSub, Nat.reduceLeDiff, Nat.reduceLT, Nat.reduceBEq, reduceCtorEq, Int.reduceEq]
    refine evTs_st (by simp only [↓wk, ↓wl, ncs, evV, ↓reduceIte, Nat.reduceEqDiff, Nat.reduceAdd, Nat.reduceSub, Nat.reduceLeDiff, Nat.reduceLT, Nat.reduceBEq, reduceCtorEq, Int.reduceEq, Nat.reduceLeDiff]; rfl) ?_
    try simp only [↓wk, ↓wl, ncs, evV, ↓reduceIte, Nat.reduceEqDiff, Nat.reduceAdd, Nat.reduceSub, Nat.reduceLeDiff, Nat.reduceLT, Nat.reduceBEq, reduceCtorEq, Int.reduceEq]
    refine AW.rseq ?_
    try simp only [↓wk, ↓wl, ncs, evV, ↓reduceIte, Nat.reduceEqDiff, Nat.reduceAdd, Nat.reduceSub, Nat.reduceLeDiff, Nat.reduceLT, Nat.reduceBEq, reduceCtorEq, Int.reduceEq]
    refine evTs_inl (I := f24_C1 g_579 r_585) (args := [.row 0 2 0 r_585.length]) H (by rfl) fd47 (by rfl) (Nat.le_of_ble_eq_true rfl) ?_ ?_ <;> clear H
    · rintro v_ Q_ H hqf24_C1
      simp only [f24_C1] at H
      dsimp only [List.length_cons, List.length_nil]
      refine AW.rseq ?_
      try simp only [↓wk, ↓wl, ncs, evV, ↓reduceIte, Nat.reduceEqDiff, Nat.reduceAdd, Nat.reduceSub, Nat.reduceLeDiff, Nat.reduceLT, Nat.reduceBEq, reduceCtorEq, Int.reduceEq]
      refine AW.bend ?_
      refine AW.iter H ((Le.toL 3 (by rfl) [0, 1, 2] [0, 2, 3] (by decide) (by decide) (by simp only [f24_L2, List.length_set, Option.map_some, restrict_eq, renS_nil, renS_cons, renB_els, renB_cel, renB_dead, deep_eq, map_ren_enc, ren_agg', ren_tup', ren_fn', ren_int', ren_bool', ren_str', ren_sl', ren_pro', ren_nilp', ren_nilfn', ren_junk', ren_ptr', ren_row', ren_arow', ren_eptr', vm, List.idxOf?_cons, List.idxOf?_nil, beq_self_eq_true, Option.map_none, List.getD_cons_zero, List.getD_cons_succ, ↓wk, ↓wl, nc, evV, ↓reduceIte, Nat.reduceEqDiff, Nat.reduceAdd, Nat.reduceSub, Nat.reduceLeDiff, Nat.reduceLT, Nat.reduceBEq, reduceCtorEq, Int.reduceEq]))) ?_ <;> clear H
      rintro ⟨i_617, j_618, v_619⟩ x_ st0_ H hst_
      simp only [f24_L2] at H hst_
      subst hst_
      refine AW.sseq ?_
      refine AW.rseq ?_
      try simp only [↓wk, ↓wl, ncs, evV, ↓reduceIte, Nat.reduceEqDiff, Nat.reduceAdd, Nat.reduceSub, Nat.reduceLeDiff, Nat.reduceLT, Nat.reduceBEq, reduceCtorEq, Int.reduceEq]
      refine AW.ifc H (by rfl) ?_ ?_ <;> clear H <;> intro H
      · refine AW.skip ?_
        refine seqQ.norm ?_
        refine AW.bseq ?_
        refine AW.rend ?_
        try simp only [↓wk, ↓wl, ncs, evV, ↓reduceIte, Nat.reduceEqDiff, Nat.reduceAdd, Nat.reduceSub, Nat.reduceLeDiff, Nat.reduceLT, Nat.reduceBEq, reduceCtorEq, Int.reduceEq]
        refine evTs_atr (enc := (AV.int .i64)) H (by rfl) (by first | rfl | simp only [List.length_set]) (by rfl) ?_ <;> clear H <;> intro x_625 hx_625 H
        try simp only [↓wk, ↓wl, ncs, evV, ↓reduceIte, Nat.reduceEqDiff, Nat.reduceAdd, Nat.reduceSub, Nat.reduceLeDiff, Nat.reduceLT, Nat.reduceBEq, reduceCtorEq, Int.reduceEq, hx_625]
        refine evTs_atr (enc := (AV.int .i64)) H (by rfl) (by first | rfl | simp only [List.length_set, hx_625]) (by rfl) ?_ <;> clear H <;> intro x_626 hx_626 H
        try simp only [↓wk, ↓wl, ncs, evV, ↓reduceIte, Nat.reduceEqDiff, Nat.reduceAdd, Nat.reduceSub, Nat.reduceLeDiff, Nat.reduceLT, Nat.reduceBEq, reduceCtorEq, Int.reduceEq, hx_625, hx_626]
        refine evTs_atr (enc := (AV.int .i64)) H (by rfl) (by first | rfl | simp only [List.length_set, hx_625, hx_626]) (by rfl) ?_ <;> clear H <;> intro x_627 hx_627 H
        try simp only [↓wk, ↓wl, ncs, evV, ↓reduceIte, Nat.reduceEqDiff, Nat.reduceAdd, Nat.reduceSub, Nat.reduceLeDiff, Nat.reduceLT, Nat.reduceBEq, reduceCtorEq, Int.reduceEq, hx_625, hx_626, hx_627]
        refine evTs_stW (enc := (AV.int .i64)) x_625 (by rfl) (by rfl) (by first | exact lt_map hx_627 | (simp only [List.length_set, hx_625, hx_626]; exact lt_map hx_627)) (fun _ => by rfl) ?_
        try simp only [↓wk, ↓wl, ncs, evV, ↓reduceIte, Nat.reduceEqDiff, Nat.reduceAdd, Nat.reduceSub, Nat.reduceLeDiff, Nat.reduceLT, Nat.reduceBEq, reduceCtorEq, Int.reduceEq, hx_625, hx_626, hx_627]
        refine evTs_atr (enc := (AV.int .i64)) H (by rfl) (by first | rfl | simp only [List.length_set, hx_625, hx_626, hx_627]) (by rfl) ?_ <;> clear H <;> intro x_628 hx_628 H
        try simp only [↓wk, ↓wl, ncs, evV, ↓reduceIte, Nat.reduceEqDiff, Nat.reduceAdd, Nat.reduceSub, Nat.reduceLeDiff, Nat.reduceLT, Nat.reduceBEq, reduceCtorEq, Int.reduceEq, hx_625, hx_626, hx_627, hx_628]
        refine evTs_stW (enc := (AV.int .i64)) x_626 (by rfl) (by rfl) (by first | exact lt_map hx_628 | (simp only [List.length_set, hx_625, hx_626, hx_627]; exact lt_map hx_628)) (fun _ => by rfl) ?_
        try simp only [↓wk, ↓wl, ncs, evV, ↓reduceIte, Nat.reduceEqDiff, Nat.reduceAdd, Nat.reduceSub, Nat.reduceLeDiff, Nat.reduceLT, Nat.reduceBEq, reduceCtorEq, Int.reduceEq, hx_625, hx_626, hx_627, hx_628]
        refine blkQ.norm ?_
        refine AW.rend ?_
        try simp only [↓wk, ↓wl, ncs, evV, ↓reduceIte, Nat.reduceEqDiff, Nat.reduceAdd, Nat.reduceSub, Nat.reduceLeDiff, Nat.reduceLT, Nat.reduceBEq, reduceCtorEq, Int.reduceEq, hx_625, hx_626, hx_627, hx_628]
        exact loopQ.next H ((Le.toL 3 (by rfl) [0, 1, 2] [0, 2, 3] (by decide) (by decide) (by simp only [f24_L2, List.length_set, Option.map_some, restrict_eq, renS_nil, renS_cons, renB_els, renB_cel, renB_dead, deep_eq, map_ren_enc, ren_agg', ren_tup', ren_fn', ren_int', ren_bool', ren_str', ren_sl', ren_pro', ren_nilp', ren_nilfn', ren_junk', ren_ptr', ren_row', ren_arow', ren_eptr', vm, List.idxOf?_cons, List.idxOf?_nil, beq_self_eq_true, Option.map_none, List.getD_cons_zero, List.getD_cons_succ, ↓wk, ↓wl, nc, evV, ↓reduceIte, Nat.reduceEqDiff, Nat.reduceAdd, Nat.reduceSub, Nat.reduceLeDiff, Nat.reduceLT, Nat.reduceBEq, reduceCtorEq, Int.reduceEq, hx_625, hx_626, hx_627, hx_628])))
      · refine AW.exit ?_
        refine seqQ.exit ?_
        refine loopQ.exit H ?_ <;> clear H <;> intro H
        try dsimp only at H
        refine blk0.here ?_
        cases H
        exact hqf24_C1 _ _ _ (.inl rfl) (Le.toL 3 (by rfl) [0, 1, 2] [] (by decide) (by decide) rfl) (by simp only [resVs, omap, resV, f24_C1, List.length_set, Option.map_some, restrict_eq, renS_nil, renS_cons, renB_els, renB_cel, renB_dead, deep_eq, map_ren_enc, ren_agg', ren_tup', ren_fn', ren_int', ren_bool', ren_str', ren_sl', ren_pro', ren_nilp', ren_nilfn', ren_junk', ren_ptr', ren_row', ren_arow', ren_eptr', vm, List.idxOf?_cons, List.idxOf?_nil, beq_self_eq_true, Option.map_none, List.getD_cons_zero, List.getD_cons_succ, ↓wk, ↓wl, nc, evV, ↓reduceIte, Nat.reduceEqDiff, Nat.reduceAdd, Nat.reduceSub, Nat.reduceLeDiff, Nat.reduceLT, Nat.reduceBEq, reduceCtorEq, Int.reduceEq]) (by simp only [f24_C1, List.length_set, Option.map_some, restrict_eq, renS_nil, renS_cons, renB_els, renB_cel, renB_dead, deep_eq, map_ren_enc, ren_agg', ren_tup', ren_fn', ren_int', ren_bool', ren_str', ren_sl', ren_pro', ren_nilp', ren_nilfn', ren_junk', ren_ptr', ren_row', ren_arow', ren_eptr', vm, List.idxOf?_cons, List.idxOf?_nil, beq_self_eq_true, Option.map_none, List.getD_cons_zero, List.getD_cons_succ, ↓wk, ↓wl, nc, evV, ↓reduceIte, Nat.reduceEqDiff, Nat.reduceAdd, Nat.reduceSub, Nat.reduceLeDiff, Nat.reduceLT, Nat.reduceBEq, reduceCtorEq, Int.reduceEq])
    · rintro v_605 s_ h_ H hs_ hh_
      simp only [f24_C1] at H hs_ hh_
      subst hs_
      subst hh_
      have hlv_605 := (must_inv H).1
      have thlv_605 := fun f => take_map_eq hlv_605 f
      replace H := (must_inv H).2
      try simp only [↓wk, ↓wl, ncs, evV, ↓reduceIte, Nat.reduceEqDiff, Nat.reduceAdd, Nat.reduceSub, Nat.reduceLeDiff, Nat.reduceLT, Nat.reduceBEq, reduceCtorEq, Int.reduceEq, hlv_605, thlv_605]
      refine AW.rseq ?_
      try simp only [↓wk, ↓wl, ncs, evV, ↓reduceIte, Nat.reduceEqDiff, Nat.reduceAdd, Nat.reduceSub, Nat.reduceLeDiff, Nat.reduceLT, Nat.reduceBEq, reduceCtorEq, Int.reduceEq, hlv_605, thlv_605]
      refine evTs_st (by simp only [↓wk, ↓wl, ncs, evV, ↓reduceIte, Nat.reduceEqDiff, Nat.reduceAdd, Nat.reduceSub, Nat.reduceLeDiff, Nat.reduceLT, Nat.reduceBEq, reduceCtorEq, Int.reduceEq, hlv_605, thlv_605, Nat.reduceLeDiff]; rfl) ?_
      try simp only [↓wk, ↓wl, ncs, evV, ↓reduceIte, Nat.reduceEqDiff, Nat.reduceAdd, Nat.reduceSub, Nat.reduceLeDiff, Nat.reduceLT, Nat.reduceBEq, reduceCtorEq, Int.reduceEq, hlv_605, thlv_605]
      refine AW.ret ?_
      cases H
      exact hQ _ _ _ _ (.inr rfl) (by simp only [resVs, omap, resV, ↓wk, ↓wl, ncs, evV, ↓reduceIte, Nat.reduceEqDiff, Nat.reduceAdd, Nat.reduceSub, Nat.reduceLeDiff, Nat.reduceLT, Nat.reduceBEq, reduceCtorEq, Int.reduceEq, hlv_605, thlv_605]; rfl) (by simp only [handOver, deep_eq, imm_simps, imm_rowE, imm_ptrE, imm_enc, omap_simps, take_map_len, take_map_set, take_map_set2, le_refl_true, Nat.zero_add, and_true, true_and, List.drop_zero, Option.map_some, ↓wk, ↓wl, ncs, evV, ↓reduceIte, Nat.reduceEqDiff, Nat.reduceAdd, Nat.reduceSub, Nat.reduceLeDiff, Nat.reduceLT, Nat.reduceBEq, reduceCtorEq, Int.reduceEq, hlv_605, thlv_605]; rfl) (by rfl)
noncomputable def f25_L1 (g_630 : ApiGroup) : Lp (Int × (List Int)) ((List Int)) where
  body := fun (i_641, out_642) => (if (decide (0 ≤ i_641)) = true then (at? g_630.fChannels i_641).bind fun x_646 => (app? 8 out_642 ([x_646])).bind fun out_647 => (some (.next ((IntKind.i64.wrap (i_641 - 1)), out_647))) else (some (.brk out_642)))
  cst := fun (i_641, out_642) => ⟨put (put (put (put (fun _ => .junk) 6 (.int .i64 i_641)) 5 (.ptr 2 0)) 2 (.ptr 1 0)) 1 (.ptr 0 0), [.cel [.int .i64 g_630.fNumber, .sl 0 false (g_630.fChannels.map (AV.int .i64))], .cel [.int .i64 0, .sl 0 true []], .cel [.int .i64 g_630.fNumber, .row 0 3 0 out_642.length], .els 0 (out_642.map (AV.int .i64))]⟩
def c25_0 : C := .cond (.t 10) (.seq (.reg [iI 11 (.build [(1, (.int .i64 0)), (1, (.sl 0 true []))] []), iI 12 (.mv (.t 4)), iN (.store 2 (.t 2) (.t 11)), iI 3 (.mv (.t 12))]) .ret) (.skip)
def c25_1 : C := .seq (.reg [iI 9 (.mv (.t 4)), iI 10 (.bin .neq (.t 9) (.c (.int .i64 0)))]) c25_0
def c25_2 : C := .cond (.t 21) (.skip) (.exit 0)
def c25_3 : C := .reg [iI 22 (.mv (.t 6)), iI 23 (.bin .sub (.t 22) (.c (.int .i64 1))), iI 6 (.mv (.t 23))]
def c25_4 : C := .seq (.block 1 (.reg [iI 24 (.faddr 1 (.t 5)), iI 25 (.load 0 (.t 24)), iI 26 (.faddr 1 (.t 1)), iI 27 (.load 0 (.t 26)), iI 28 (.mv (.t 6)), iI 29 (.iaddr 0 (.t 27) (.t 28)), iI 30 (.load 0 (.t 29)), iI 31 (.mkslp 0 1 (.int .i64 0) [(0, (.t 30))]), iI 32 (.append 0 8 (.t 25) (.t 31)), iI 33 (.faddr 1 (.t 5)), iN (.store 0 (.t 33) (.t 32))])) c25_3
def c25_5 : C := .block 0 (.loop (.seq (.seq (.reg [iI 20 (.mv (.t 6)), iI 21 (.bin .geq (.t 20) (.c (.int .i64 0)))]) c25_2) c25_4))
def c25_6 : C := .seq (.reg [iI 34 (.load 2 (.t 5)), iN (.store 2 (.t 2) (.t 34)), iI 3 (.mv (.c (.int .i64 0)))]) .ret
def c25_7 : C := .seq (.seq (.reg [iI 16 (.faddr 1 (.t 1)), iI 17 (.load 0 (.t 16)), iI 18 (.len 0 (.t 17)), iI 19 (.bin .sub (.t 18) (.c (.int .i64 1))), iI 6 (.mv (.t 19))]) c25_5) c25_6
def c25_8 : C := .seq (.reg [iI 13 (.faddr 0 (.t 1)), iI 14 (.load 0 (.t 13)), iI 15 (.build [(1, (.int .i64 0)), (1, (.sl 0 true []))] [(0, 0, (.t 14))]), iI 5 (.alloc [(1, (.int .i64 0)), (1, (.sl 0 true []))]), iN (.store 2 (.t 5) (.t 15))]) c25_7
def c25_9 : C := .seq (.seq (.reg [iI 7 (.load 2 (.t 1)), iI 8 (.call (.c (.fn 21 [])) [(.t 7)]), iI 4 (.mv (.t 8))]) c25_1) c25_8
def ir25 : C := .seq (.reg [iI 1 (.box (.t 0)), iI 2 (.alloc [(1, (.int .i64 0)), (1, (.sl 0 true []))]), iI 3 (.mv (.c (.int .i64 0)))]) c25_9
theorem fd25 : fd? Try.prog 25 = some (35, [.cell 2 2, .slot 3], ir25) := by kernel_rfl
noncomputable def f25 (g_630 : ApiGroup) : Option (ApiGroup × Int) :=
  (f21 g_630).bind fun r_632 => (if (decide (r_632 ≠ 0)) = true then (some ((ApiGroup.mk 0 ([])), r_632)) else (Lp.run (f25_L1 g_630) ((IntKind.i64.wrap (((g_630.fChannels.length : Nat) : Int) - 1)), [])).bind fun out_645 => (some ((ApiGroup.mk g_630.fNumber out_645), 0)))
theorem f25_ok {g_630 : ApiGroup} {r_ : ApiGroup × Int} (H : f25 g_630 = some r_) : Pure Try.prog 25 [.agg [.int .i64 g_630.fNumber, .sl 0 false (g_630.fChannels.map (AV.int .i64))]] (· = .tup [.agg [.int .i64 r_.1.fNumber, .sl 0 false (r_.1.fChannels.map (AV.int .i64))], .int .i64 r_.2]) := by
  refine Pure.walk2 fd25 none (Nat.le_of_ble_eq_true rfl) (by rfl) fun Q hQ => ?_
  simp only [f25] at H
  refine AW.rseq ?_
  try simp only [↓wk, ↓wl, nc, evV, ↓reduceIte, Nat.reduceEqDiff, Nat.reduceAdd, Nat.reduceSub, Nat.reduceLeDiff, Nat.reduceLT, Nat.reduceBEq, reduceCtorEq, Int.reduceEq]
  refine AW.sseq ?_
  refine AW.rseq ?_
  try simp only [↓wk, ↓wl, nc, evV, ↓reduceIte, Nat.reduceEqDiff, Nat.reduceAdd, Nat.reduceSub, Nat.reduceLeDiff, Nat.reduceLT, Nat.reduceBEq, reduceCtorEq, Int.reduceEq]
  refine evTs_pure hFn H (fun _ h => f21_ok h) (by rfl) (by rfl) (by rfl) (by rfl) (fun _ => rfl) ?_ <;> clear H <;> intro r_632 H
  try simp only [eL, ↓wk, ↓wl, nc, evV, ↓reduceIte, Nat.reduceEqDiff, Nat.reduceAdd, Nat.reduceSub, Nat.reduceLeDiff, Nat.reduceLT, Nat.reduceBEq, reduceCtorEq, Int.reduceEq]
  refine AW.rseq ?_
  try simp only [↓wk, ↓wl, nc, evV, ↓reduceIte, Nat.reduceEqDiff, Nat.reduceAdd, Nat.reduceSub, Nat.reduceLeDiff, Nat.reduceLT, Nat.reduceBEq, reduceCtorEq, Int.reduceEq]
  refine AW.ifc H (by rfl) ?_ ?_ <;> clear H <;> intro H
  · refine AW.rseq ?_
    try simp only [↓wk, ↓wl, nc, evV, ↓reduceIte, Nat.reduceEqDiff, Nat.reduceAdd, Nat.reduceSub, Nat.reduceLeDiff, Nat.reduceLT, Nat.reduceBEq, reduceCtorEq, Int.reduceEq]
    refine AW.ret ?_
    refine seqQ.ret ?_
    cases H
    exact hQ _ _ _ _ (.inr rfl) (by simp only [resVs, omap, resV, ↓wk, ↓wl, nc, evV, ↓reduceIte, Nat.reduceEqDiff, Nat.reduceAdd, Nat.reduceSub, Nat.reduceLeDiff, Nat.reduceLT, Nat.reduceBEq, reduceCtorEq, Int.reduceEq]; rfl) (hand_plain (by rfl)) (by rfl)
  · refine AW.skip ?_
    refine seqQ.norm ?_
    refine AW.rseq ?_
    try simp only [↓wk, ↓wl, nc, evV, ↓reduceIte, Nat.reduceEqDiff, Nat.reduceAdd, Nat.reduceSub, Nat.reduceLeDiff, Nat.reduceLT, Nat.reduceBEq, reduceCtorEq, Int.reduceEq]
    refine AW.sseq ?_
    refine AW.rseq ?_
    try simp only [↓wk, ↓wl, nc, evV, ↓reduceIte, Nat.reduceEqDiff, Nat.reduceAdd, Nat.reduceSub, Nat.reduceLeDiff, Nat.reduceLT, Nat.reduceBEq, reduceCtorEq, Int.reduceEq]
    refine AW.bend ?_
    refine AW.iter H ((Le.trans (Le.nilCell (b := 2) (o := 1) (e := 0) (by rfl) (by rfl)) (Le.none [0, 1, 2, 3] [1, 2, 5, 6] (by decide) (by simp only [f25_L1, List.length_set, Option.map_some, restrict_eq, renS_nil, renS_cons, renB_els, renB_cel, renB_dead, deep_eq, map_ren_enc, ren_agg', ren_tup', ren_fn', ren_int', ren_bool', ren_str', ren_sl', ren_pro', ren_nilp', ren_nilfn', ren_junk', ren_ptr', ren_row', ren_arow', ren_eptr', vm, List.idxOf?_cons, List.idxOf?_nil, beq_self_eq_true, Option.map_none, List.getD_cons_zero, List.getD_cons_succ, ↓wk, ↓wl, nc, evV, ↓reduceIte, Nat.reduceEqDiff, Nat.reduceAdd, Nat.reduceSub, Nat.reduceLeDiff, Nat.reduceLT, Nat.reduceBEq, reduceCtorEq, Int.reduceEq])))) ?_ <;> clear H
    rintro ⟨i_641, out_642⟩ x_ st0_ H hst_
    simp only [f25_L1] at H hst_
    subst hst_
    refine AW.sseq ?_
    refine AW.rseq ?_
    try simp only [↓wk, ↓wl, nc, evV, ↓reduceIte, Nat.reduceEqDiff, Nat.reduceAdd, Nat.reduceSub, Nat.reduceLeDiff, Nat.reduceLT, Nat.reduceBEq, reduceCtorEq, Int.reduceEq]
    refine AW.ifc H (by rfl) ?_ ?_ <;> clear H <;> intro H
    · refine AW.skip ?_
      refine seqQ.norm ?_
      refine AW.bseq ?_
      refine AW.rend ?_
      try simp only [↓wk, ↓wl, nc, evV, ↓reduceIte, Nat.reduceEqDiff, Nat.reduceAdd, Nat.reduceSub, Nat.reduceLeDiff, Nat.reduceLT, Nat.reduceBEq, reduceCtorEq, Int.reduceEq]
      refine evTs_at (enc := (AV.int .i64)) H (by rfl) (by rfl) ?_ <;> clear H <;> intro x_646 H
      try simp only [↓wk, ↓wl, nc, evV, ↓reduceIte, Nat.reduceEqDiff, Nat.reduceAdd, Nat.reduceSub, Nat.reduceLeDiff, Nat.reduceLT, Nat.reduceBEq, reduceCtorEq, Int.reduceEq]
      refine evTs_app (enc := (AV.int .i64)) H (by rfl) (by first | rfl | simp only [List.length_set]) (by rfl) (by rfl) ?_ <;> clear H <;> intro out_647 H
      try simp only [↓wk, ↓wl, nc, evV, ↓reduceIte, Nat.reduceEqDiff, Nat.reduceAdd, Nat.reduceSub, Nat.reduceLeDiff, Nat.reduceLT, Nat.reduceBEq, reduceCtorEq, Int.reduceEq]
      refine blkQ.norm ?_
      refine AW.rend ?_
      try simp only [↓wk, ↓wl, nc, evV, ↓reduceIte, Nat.reduceEqDiff, Nat.reduceAdd, Nat.reduceSub, Nat.reduceLeDiff, Nat.reduceLT, Nat.reduceBEq, reduceCtorEq, Int.reduceEq]
      exact loopQ.next H ((Le.none [0, 1, 2, 4] [1, 2, 5, 6] (by decide) (by simp only [f25_L1, List.length_set, Option.map_some, restrict_eq, renS_nil, renS_cons, renB_els, renB_cel, renB_dead, deep_eq, map_ren_enc, ren_agg', ren_tup', ren_fn', ren_int', ren_bool', ren_str', ren_sl', ren_pro', ren_nilp', ren_nilfn', ren_junk', ren_ptr', ren_row', ren_arow', ren_eptr', vm, List.idxOf?_cons, List.idxOf?_nil, beq_self_eq_true, Option.map_none, List.getD_cons_zero, List.getD_cons_succ, ↓wk, ↓wl, nc, evV, ↓reduceIte, Nat.reduceEqDiff, Nat.reduceAdd, Nat.reduceSub, Nat.reduceLeDiff, Nat.reduceLT, Nat.reduceBEq, reduceCtorEq, Int.reduceEq])))
    · refine AW.exit ?_
      refine seqQ.exit ?_
      refine loopQ.exit H ?_ <;> clear H <;> intro H
      try dsimp only at H
      refine blk0.here ?_
      refine seqQ.norm ?_
      refine AW.rseq ?_
      try simp only [↓wk, ↓wl, nc, evV, ↓reduceIte, Nat.reduceEqDiff, Nat.reduceAdd, Nat.reduceSub, Nat.reduceLeDiff, Nat.reduceLT, Nat.reduceBEq, reduceCtorEq, Int.reduceEq]
      refine AW.ret ?_
      cases H
      exact hQ _ _ _ _ (.inr rfl) (by simp only [resVs, omap, resV, ↓wk, ↓wl, nc, evV, ↓reduceIte, Nat.reduceEqDiff, Nat.reduceAdd, Nat.reduceSub, Nat.reduceLeDiff, Nat.reduceLT, Nat.reduceBEq, reduceCtorEq, Int.reduceEq]; rfl) (by simp only [handOver, deep_eq, imm_simps, imm_rowE, imm_ptrE, imm_enc, omap_simps, take_map_len, take_map_set, take_map_set2, le_refl_true, Nat.zero_add, and_true, true_and, List.drop_zero, Option.map_some, ↓wk, ↓wl, nc, evV, ↓reduceIte, Nat.reduceEqDiff, Nat.reduceAdd, Nat.reduceSub, Nat.reduceLeDiff, Nat.reduceLT, Nat.reduceBEq, reduceCtorEq, Int.reduceEq]; rfl) (by rfl)
noncomputable def f27_L1 (g_650 : ApiGroup) (step_651 : Int) : Lp (Int × (List Int)) ((List Int)) where
  body := fun (i_663, out_664) => (if (decide (i_663 < ((g_650.fChannels.length : Nat) : Int))) = true then (at? g_650.fChannels i_663).bind fun x_668 => (app? 8 out_664 ([x_668])).bind fun out_669 => (some (.next ((IntKind.i64.wrap (i_663 + step_651)), out_669))) else (some (.brk out_664)))
  cst := fun (i_663, out_664) => ⟨put (put (put (put (put (fun _ => .junk) 10 (.int .i64 i_663)) 9 (.ptr 2 0)) 6 (.ptr 1 0)) 3 (.ptr 0 0)) 1 (.int .i64 step_651), [.cel [.int .i64 g_650.fNumber, .sl 0 false (g_650.fChannels.map (AV.int .i64))], .cel [.int .i64 0, .sl 0 true []], .cel [.int .i64 g_650.fNumber, .row 0 3 0 out_664.length], .els 0 (out_664.map (AV.int .i64))]⟩
def c27_0 : C := .cond (.t 14) (.seq (.reg [iI 15 (.build [(1, (.int .i64 0)), (1, (.sl 0 true []))] []), iI 16 (.mv (.t 8)), iN (.store 2 (.t 6) (.t 15)), iI 7 (.mv (.t 16))]) .ret) (.skip)
def c27_1 : C := .seq (.reg [iI 13 (.mv (.t 8)), iI 14 (.bin .neq (.t 13) (.c (.int .i64 0)))]) c27_0
def c27_2 : C := .cond (.t 30) (.seq (.reg [iI 31 (.build [(1, (.int .i64 0)), (1, (.sl 0 true []))] []), iN (.store 2 (.t 6) (.t 31)), iI 7 (.mv (.c (.int .i64 2)))]) .ret) (.skip)
def c27_3 : C := .cond (.t 40) (.skip) (.exit 0)
def c27_4 : C := .reg [iI 41 (.mv (.t 10)), iI 42 (.mv (.t 1)), iI 43 (.bin .add (.t 41) (.t 42)), iI 10 (.mv (.t 43))]
def c27_5 : C := .seq (.block 1 (.reg [iI 44 (.faddr 1 (.t 9)), iI 45 (.load 0 (.t 44)), iI 46 (.faddr 1 (.t 3)), iI 47 (.load 0 (.t 46)), iI 48 (.mv (.t 10)), iI 49 (.iaddr 0 (.t 47) (.t 48)), iI 50 (.load 0 (.t 49)), iI 51 (.mkslp 0 1 (.int .i64 0) [(0, (.t 50))]), iI 52 (.append 0 8 (.t 45) (.t 51)), iI 53 (.faddr 1 (.t 9)), iN (.store 0 (.t 53) (.t 52))])) c27_4
def c27_6 : C := .block 0 (.loop (.seq (.seq (.reg [iI 36 (.mv (.t 10)), iI 37 (.faddr 1 (.t 3)), iI 38 (.load 0 (.t 37)), iI 39 (.len 0 (.t 38)), iI 40 (.bin .lss (.t 36) (.t 39))]) c27_3) c27_5))
def c27_7 : C := .seq (.reg [iI 54 (.load 2 (.t 9)), iN (.store 2 (.t 6) (.t 54)), iI 7 (.mv (.c (.int .i64 0)))]) .ret
def c27_8 : C := .seq (.seq (.reg [iI 35 (.mv (.t 2)), iI 10 (.mv (.t 35))]) c27_6) c27_7
def c27_9 : C := .seq (.reg [iI 32 (.faddr 0 (.t 3)), iI 33 (.load 0 (.t 32)), iI 34 (.build [(1, (.int .i64 0)), (1, (.sl 0 true []))] [(0, 0, (.t 33))]), iI 9 (.alloc [(1, (.int .i64 0)), (1, (.sl 0 true []))]), iN (.store 2 (.t 9) (.t 34))]) c27_8
def c27_10 : C := .seq (.seq (.reg [iI 17 (.mv (.t 1)), iI 18 (.bin .lss (.t 17) (.c (.int .i64 1))), iI 19 (.mv (.t 18)), iG (some 20) 19 false (.mv (.t 1)), iG (some 21) 19 false (.bin .gtr (.t 20) (.c (.int .i64 256))), iI 22 (.pick (.t 19) (.c (.bool true)) (.t 21)), iI 23 (.mv (.t 22)), iG (some 24) 23 false (.mv (.t 2)), iG (some 25) 23 false (.bin .lss (.t 24) (.c (.int .i64 0))), iI 26 (.pick (.t 23) (.c (.bool true)) (.t 25)), iI 27 (.mv (.t 26)), iG (some 28) 27 false (.mv (.t 2)), iG (some 29) 27 false (.bin .gtr (.t 28) (.c (.int .i64 256))), iI 30 (.pick (.t 27) (.c (.bool true)) (.t 29))]) c27_2) c27_9
def c27_11 : C := .seq (.seq (.reg [iI 11 (.load 2 (.t 3)), iI 12 (.call (.c (.fn 21 [])) [(.t 11)]), iI 8 (.mv (.t 12))]) c27_1) c27_10
def ir27 : C := .seq (.reg [iI 3 (.box (.t 0)), iI 6 (.alloc [(1, (.int .i64 0)), (1, (.sl 0 true []))]), iI 7 (.mv (.c (.int .i64 0)))]) c27_11
theorem fd27 : fd? Try.prog 27 = some (55, [.cell 6 2, .slot 7], ir27) := by kernel_rfl
noncomputable def f27 (g_650 : ApiGroup) (step_651 : Int) (first_652 : Int) : Option (ApiGroup × Int) :=
  (f21 g_650).bind fun r_654 => (if (decide (r_654 ≠ 0)) = true then (some ((ApiGroup.mk 0 ([])), r_654)) else (if (decide (step_651 < 1)) = true then (some ((ApiGroup.mk 0 ([])), 2)) else (if (decide (256 < step_651)) = true then (some ((ApiGroup.mk 0 ([])), 2)) else (if (decide (first_652 < 0)) = true then (some ((ApiGroup.mk 0 ([])), 2)) else (if (decide (256 < first_652)) = true then (some ((ApiGroup.mk 0 ([])), 2)) else (Lp.run (f27_L1 g_650 step_651) (first_652, [])).bind fun out_667 => (some ((ApiGroup.mk g_650.fNumber out_667), 0)))))))
theorem f27_ok {g_650 : ApiGroup} {step_651 : Int} {first_652 : Int} {r_ : ApiGroup × Int} (H : f27 g_650 step_651 first_652 = some r_) : Pure Try.prog 27 [.agg [.int .i64 g_650.fNumber, .sl 0 false (g_650.fChannels.map (AV.int .i64))], .int .i64 step_651, .int .i64 first_652] (· = .tup [.agg [.int .i64 r_.1.fNumber, .sl 0 false (r_.1.fChannels.map (AV.int .i64))], .int .i64 r_.2]) := by
  refine Pure.walk2 fd27 none (Nat.le_of_ble_eq_true rfl) (by rfl) fun Q hQ => ?_
  simp only [f27] at H
  refine AW.rseq ?_
  try simp only [↓wk, ↓wl, nc, evV, ↓reduceIte, Nat.reduceEqDiff, Nat.reduceAdd, Nat.reduceSub, Nat.reduceLeDiff, Nat.reduceLT, Nat.reduceBEq, reduceCtorEq, Int.reduceEq]
  refine AW.sseq ?_
  refine AW.rseq ?_
  try simp only [↓wk, ↓wl, nc, evV, ↓reduceIte, Nat.reduceEqDiff, Nat.reduceAdd, Nat.reduceSub, Nat.reduceLeDiff, Nat.reduceLT, Nat.reduceBEq, reduceCtorEq, Int.reduceEq]
  refine evTs_pure hFn H (fun _ h => f21_ok h) (by rfl) (by rfl) (by rfl) (by rfl) (fun _ => rfl) ?_ <;> clear H <;> intro r_654 H
  try simp only [eL, ↓wk, ↓wl, nc, evV, ↓reduceIte, Nat.reduceEqDiff, Nat.reduceAdd, Nat.reduceSub, Nat.reduceLeDiff, Nat.reduceLT, Nat.reduceBEq, reduceCtorEq, Int.reduceEq]
  refine AW.rseq ?_
  try simp only [↓wk, ↓wl, nc, evV, ↓reduceIte, Nat.reduceEqDiff, Nat.reduceAdd, Nat.reduceSub, Nat.reduceLeDiff, Nat.reduceLT, Nat.reduceBEq, reduceCtorEq, Int.reduceEq]
  refine AW.ifc H (by rfl) ?_ ?_ <;> clear H <;> intro H
  · refine AW.rseq ?_
    try simp only [↓wk, ↓wl, nc, evV, ↓reduceIte, Nat.reduceEqDiff, Nat.reduceAdd, Nat.reduceSub, Nat.reduceLeDiff, Nat.reduceLT, Nat.reduceBEq, reduceCtorEq, Int.reduceEq]
    refine AW.ret ?_
    refine seqQ.ret ?_
    cases H
    exact hQ _ _ _ _ (.inr rfl) (by simp only [resVs, omap, resV, ↓wk, ↓wl, nc, evV, ↓reduceIte, Nat.reduceEqDiff, Nat.reduceAdd, Nat.reduceSub, Nat.reduceLeDiff, Nat.reduceLT, Nat.reduceBEq, reduceCtorEq, Int.reduceEq]; rfl) (hand_plain (by rfl)) (by rfl)
  · refine AW.skip ?_
    refine seqQ.norm ?_
    refine AW.sseq ?_
    refine AW.rseq ?_
    try simp only [↓wk, ↓wl, nc, evV, ↓reduceIte, Nat.reduceEqDiff, Nat.reduceAdd, Nat.reduceSub, Nat.reduceLeDiff, Nat.reduceLT, Nat.reduceBEq, reduceCtorEq, Int.reduceEq]
    refine evTs_ifg H (by rfl) ?_ ?_ <;> clear H <;> intro H
    · try simp only [↓wk, ↓wl, nc, evV, ↓reduceIte, Nat.reduceEqDiff, Nat.reduceAdd, Nat.reduceSub, Nat.reduceLeDiff, Nat.reduceLT, Nat.reduceBEq, reduceCtorEq, Int.reduceEq]
      refine AW.ift (by rfl) ?_
      refine AW.rseq ?_
      try simp only [↓wk, ↓wl, nc, evV, ↓reduceIte, Nat.reduceEqDiff, Nat.reduceAdd, Nat.reduceSub, Nat.reduceLeDiff, Nat.reduceLT, Nat.reduceBEq, reduceCtorEq, Int.reduceEq]
      refine AW.ret ?_
      refine seqQ.ret ?_
      cases H
      exact hQ _ _ _ _ (.inr rfl) (by simp only [resVs, omap, resV, ↓wk, ↓wl, nc, evV, ↓reduceIte, Nat.reduceEqDiff, Nat.reduceAdd, Nat.reduceSub, Nat.reduceLeDiff, Nat.reduceLT, Nat.reduceBEq, reduceCtorEq, Int.reduceEq]; rfl) (hand_plain (by rfl)) (by rfl)
    · try simp only [↓wk, ↓wl, nc, evV, ↓reduceIte, Nat.reduceEqDiff, Nat.reduceAdd, Nat.reduceSub, Nat.reduceLeDiff, Nat.reduceLT, Nat.reduceBEq, reduceCtorEq, Int.reduceEq]
      refine evTs_ifg H (by rfl) ?_ ?_ <;> clear H <;> intro H
      · try simp only [↓wk, ↓wl, nc, evV, ↓reduceIte, Nat.reduceEqDiff, Nat.reduceAdd, Nat.reduceSub, Nat.reduceLeDiff, Nat.reduceLT, Nat.reduceBEq, reduceCtorEq, Int.reduceEq]
        refine AW.ift (by rfl) ?_
        refine AW.rseq ?_
        try simp only [↓wk, ↓wl, nc, evV, ↓reduceIte, Nat.reduceEqDiff, Nat.reduceAdd, Nat.reduceSub, Nat.reduceLeDiff, Nat.reduceLT, Nat.reduceBEq, reduceCtorEq, Int.reduceEq]
        refine AW.ret ?_
        refine seqQ.ret ?_
        cases H
        exact hQ _ _ _ _ (.inr rfl) (by simp only [resVs, omap, resV, ↓wk, ↓wl, nc, evV, ↓reduceIte, Nat.reduceEqDiff, Nat.reduceAdd, Nat.reduceSub, Nat.reduceLeDiff, Nat.reduceLT, Nat.reduceBEq, reduceCtorEq, Int.reduceEq]; rfl) (hand_plain (by rfl)) (by rfl)
      · try simp only [↓wk, ↓wl, nc, evV, ↓reduceIte, Nat.reduceEqDiff, Nat.reduceAdd, Nat.reduceSub, Nat.reduceLeDiff, Nat.reduceLT, Nat.reduceBEq, reduceCtorEq, Int.reduceEq]
        refine evTs_ifg H (by rfl) ?_ ?_ <;> clear H <;> intro H
        · try simp only [↓wk, ↓wl, nc, evV, ↓reduceIte, Nat.reduceEqDiff, Nat.reduceAdd, Nat.reduceSub, Nat.reduceLeDiff, Nat.reduceLT, Nat.reduceBEq, reduceCtorEq, Int.reduceEq]
          refine AW.ift (by rfl) ?_
          refine AW.rseq ?_
          try simp only [↓wk, ↓wl, nc, evV, ↓reduceIte, Nat.reduceEqDiff, Nat.reduceAdd, Nat.reduceSub, Nat.reduceLeDiff, Nat.reduceLT, Nat.reduceBEq, reduceCtorEq, Int.reduceEq]
          refine AW.ret ?_
          refine seqQ.ret ?_
          cases H
          exact hQ _ _ _ _ (.inr rfl) (by simp only [resVs, omap, resV, ↓wk, ↓wl, nc, evV, ↓reduceIte, Nat.reduceEqDiff, Nat.reduceAdd, Nat.reduceSub, Nat.reduceLeDiff, Nat.reduceLT, Nat.reduceBEq, reduceCtorEq, Int.reduceEq]; rfl) (hand_plain (by rfl)) (by rfl)
        · try simp only [↓wk, ↓wl, nc, evV, ↓reduceIte, Nat.reduceEqDiff, Nat.reduceAdd, Nat.reduceSub, Nat.reduceLeDiff, Nat.reduceLT, Nat.reduceBEq, reduceCtorEq, Int.reduceEq]
          refine AW.ifc H (by rfl) ?_ ?_ <;> clear H <;> intro H
          · refine AW.rseq ?_
            try simp only [↓wk, ↓wl, nc, evV, ↓reduceIte, Nat.reduceEqDiff, Nat.reduceAdd, Nat.reduceSub, Nat.reduceLeDiff, Nat.reduceLT, Nat.reduceBEq, reduceCtorEq, Int.reduceEq]
            refine AW.ret ?_
            refine seqQ.ret ?_
            cases H
            exact hQ _ _ _ _ (.inr rfl) (by simp only [resVs, omap, resV, ↓wk, ↓wl, nc, evV, ↓reduceIte, Nat.reduceEqDiff, Nat.reduceAdd, Nat.reduceSub, Nat.reduceLeDiff, Nat.reduceLT, Nat.reduceBEq, reduceCtorEq, Int.reduceEq]; rfl) (hand_plain (by rfl)) (by rfl)
          · refine AW.skip ?_
            refine seqQ.norm ?_
            refine AW.rseq ?_
            try simp only [↓wk, ↓wl, nc, evV, ↓reduceIte, Nat.reduceEqDiff, Nat.reduceAdd, Nat.reduceSub, Nat.reduceLeDiff, Nat.reduceLT, Nat.reduceBEq, reduceCtorEq, Int.reduceEq]
            refine AW.sseq ?_
            refine AW.rseq ?_
            try simp only [↓wk, ↓wl, nc, evV, ↓reduceIte, Nat.reduceEqDiff, Nat.reduceAdd, Nat.reduceSub, Nat.reduceLeDiff, Nat.reduceLT, Nat.reduceBEq, reduceCtorEq, Int.reduceEq]
            refine AW.bend ?_
            refine AW.iter H ((Le.trans (Le.nilCell (b := 2) (o := 1) (e := 0) (by rfl) (by rfl)) (Le.none [0, 1, 2, 3] [1, 3, 6, 9, 10] (by decide) (by simp only [f27_L1, List.length_set, Option.map_some, restrict_eq, renS_nil, renS_cons, renB_els, renB_cel, renB_dead, deep_eq, map_ren_enc, ren_agg', ren_tup', ren_fn', ren_int', ren_bool', ren_str', ren_sl', ren_pro', ren_nilp', ren_nilfn', ren_junk', ren_ptr', ren_row', ren_arow', ren_eptr', vm, List.idxOf?_cons, List.idxOf?_nil, beq_self_eq_true, Option.map_none, List.getD_cons_zero, List.getD_cons_succ, ↓wk, ↓wl, nc, evV, ↓reduceIte, Nat.reduceEqDiff, Nat.reduceAdd, Nat.reduceSub, Nat.reduceLeDiff, Nat.reduceLT, Nat.reduceBEq, reduceCtorEq, Int.reduceEq])))) ?_ <;> clear H
            rintro ⟨i_663, out_664⟩ x_ st0_ H hst_
            simp only [f27_L1] at H hst_
            subst hst_
            refine AW.sseq ?_
            refine AW.rseq ?_
            try simp only [↓wk, ↓wl, nc, evV, ↓reduceIte, Nat.reduceEqDiff, Nat.reduceAdd, Nat.reduceSub, Nat.reduceLeDiff, Nat.reduceLT, Nat.reduceBEq, reduceCtorEq, Int.reduceEq]
            refine AW.ifc H (by rfl) ?_ ?_ <;> clear H <;> intro H
            · refine AW.skip ?_
              refine seqQ.norm ?_
              refine AW.bseq ?_
              refine AW.rend ?_
              try simp only [↓wk, ↓wl, nc, evV, ↓reduceIte, Nat.reduceEqDiff, Nat.reduceAdd, Nat.reduceSub, Nat.reduceLeDiff, Nat.reduceLT, Nat.reduceBEq, reduceCtorEq, Int.reduceEq]
              refine evTs_at (enc := (AV.int .i64)) H (by rfl) (by rfl) ?_ <;> clear H <;> intro x_668 H
              try simp only [↓wk, ↓wl, nc, evV, ↓reduceIte, Nat.reduceEqDiff, Nat.reduceAdd, Nat.reduceSub, Nat.reduceLeDiff, Nat.reduceLT, Nat.reduceBEq, reduceCtorEq, Int.reduceEq]
              refine evTs_app (enc := (AV.int .i64)) H (by rfl) (by first | rfl | simp only [List.length_set]) (by rfl) (by rfl) ?_ <;> clear H <;> intro out_669 H
              try simp only [↓wk, ↓wl, nc, evV, ↓reduceIte, Nat.reduceEqDiff, Nat.reduceAdd, Nat.reduceSub, Nat.reduceLeDiff, Nat.reduceLT, Nat.reduceBEq, reduceCtorEq, Int.reduceEq]
              refine blkQ.norm ?_
              refine AW.rend ?_
              try simp only [↓wk, ↓wl, nc, evV, ↓reduceIte, Nat.reduceEqDiff, Nat.reduceAdd, Nat.reduceSub, Nat.reduceLeDiff, Nat.reduceLT, Nat.reduceBEq, reduceCtorEq, Int.reduceEq]
              exact loopQ.next H ((Le.none [0, 1, 2, 4] [1, 3, 6, 9, 10] (by decide) (by simp only [f27_L1, List.length_set, Option.map_some, restrict_eq, renS_nil, renS_cons, renB_els, renB_cel, renB_dead, deep_eq, map_ren_enc, ren_agg', ren_tup', ren_fn', ren_int', ren_bool', ren_str', ren_sl', ren_pro', ren_nilp', ren_nilfn', ren_junk', ren_ptr', ren_row', ren_arow', ren_eptr', vm, List.idxOf?_cons, List.idxOf?_nil, beq_self_eq_true, Option.map_none, List.getD_cons_zero, List.getD_cons_succ, ↓wk, ↓wl, nc, evV, ↓reduceIte, Nat.reduceEqDiff, Nat.reduceAdd, Nat.reduceSub, Nat.reduceLeDiff, Nat.reduceLT, Nat.reduceBEq, reduceCtorEq, Int.reduceEq])))
            · refine AW.exit ?_
              refine seqQ.exit ?_
              refine loopQ.exit H ?_ <;> clear H <;> intro H
              try dsimp only at H
              refine blk0.here ?_
              refine seqQ.norm ?_
              refine AW.rseq ?_
              try simp only [↓wk, ↓wl, nc, evV, ↓reduceIte, Nat.reduceEqDiff, Nat.reduceAdd, Nat.reduceSub, Nat.reduceLeDiff, Nat.reduceLT, Nat.reduceBEq, reduceCtorEq, Int.reduceEq]
              refine AW.ret ?_
              cases H
              exact hQ _ _ _ _ (.inr rfl) (by simp only [resVs, omap, resV, ↓wk, ↓wl, nc, evV, ↓reduceIte, Nat.reduceEqDiff, Nat.reduceAdd, Nat.reduceSub, Nat.reduceLeDiff, Nat.reduceLT, Nat.reduceBEq, reduceCtorEq, Int.reduceEq]; rfl) (by simp only [handOver, deep_eq, imm_simps, imm_rowE, imm_ptrE, imm_enc, omap_simps, take_map_len, take_map_set, take_map_set2, le_refl_true, Nat.zero_add, and_true, true_and, List.drop_zero, Option.map_some, ↓wk, ↓wl, nc, evV, ↓reduceIte, Nat.reduceEqDiff, Nat.reduceAdd, Nat.reduceSub, Nat.reduceLeDiff, Nat.reduceLT, Nat.reduceBEq, reduceCtorEq, Int.reduceEq]; rfl) (by rfl)
def c7_0 : C := .cond (.t 18) (.seq (.reg [iI 19 (.call (.c (.fn 15 [])) []), iI 6 (.mv (.t 19))]) .ret) (.skip)
def c7_1 : C := .seq (.reg [iI 44 (.call (.c (.fn 15 [])) []), iI 45 (.mv (.t 44)), iG (some 46) 45 true (.load 2 (.t 7)), iG (some 47) 45 true (.load 2 (.t 9)), iG (some 48) 45 true (.call (.c (.fn 19 [])) [(.t 46), (.t 47)]), iI 49 (.pick (.t 45) (.t 48) (.c (.bool false))), iI 50 (.mv (.t 49)), iG (some 51) 50 true (.mv (.t 8)), iG (some 52) 50 true (.mv (.t 10)), iG (some 53) 50 true (.bin .eql (.t 51) (.t 52)), iI 54 (.pick (.t 50) (.t 53) (.c (.bool false))), iI 55 (.mv (.t 54)), iG (some 56) 55 true (.load 2 (.t 11)), iG (some 57) 55 true (.load 2 (.t 13)), iG (some 58) 55 true (.call (.c (.fn 19 [])) [(.t 56), (.t 57)]), iI 59 (.pick (.t 55) (.t 58) (.c (.bool false))), iI 60 (.mv (.t 59)), iG (some 61) 60 true (.mv (.t 12)), iG (some 62) 60 true (.mv (.t 14)), iG (some 63) 60 true (.bin .eql (.t 61) (.t 62)), iI 64 (.pick (.t 60) (.t 63) (.c (.bool false))), iI 6 (.mv (.t 64))]) .ret
def c7_2 : C := .seq (.reg [iI 38 (.load 2 (.t 3)), iI 39 (.mv (.t 1)), iI 40 (.mv (.t 2)), iI 41 (.call (.c (.fn 27 [])) [(.t 38), (.t 39), (.t 40)]), iI 37 (.mv (.t 41)), iI 42 (.ext (.t 37) 0), iI 43 (.ext (.t 37) 1), iI 13 (.alloc [(1, (.int .i64 0)), (1, (.sl 0 true []))]), iN (.store 2 (.t 13) (.t 42)), iI 14 (.mv (.t 43))]) c7_1
def c7_3 : C := .seq (.reg [iI 31 (.load 2 (.t 3)), iI 32 (.mv (.t 1)), iI 33 (.mv (.t 2)), iI 34 (.call (.c (.fn 26 [])) [(.t 31), (.t 32), (.t 33)]), iI 30 (.mv (.t 34)), iI 35 (.ext (.t 30) 0), iI 36 (.ext (.t 30) 1), iI 11 (.alloc [(1, (.int .i64 0)), (1, (.sl 0 true []))]), iN (.store 2 (.t 11) (.t 35)), iI 12 (.mv (.t 36))]) c7_2
def c7_4 : C := .seq (.reg [iI 26 (.load 2 (.t 3)), iI 27 (.call (.c (.fn 25 [])) [(.t 26)]), iI 25 (.mv (.t 27)), iI 28 (.ext (.t 25) 0), iI 29 (.ext (.t 25) 1), iI 9 (.alloc [(1, (.int .i64 0)), (1, (.sl 0 true []))]), iN (.store 2 (.t 9) (.t 28)), iI 10 (.mv (.t 29))]) c7_3
def c7_5 : C := .seq (.reg [iI 21 (.load 2 (.t 3)), iI 22 (.call (.c (.fn 24 [])) [(.t 21)]), iI 20 (.mv (.t 22)), iI 23 (.ext (.t 20) 0), iI 24 (.ext (.t 20) 1), iI 7 (.alloc [(1, (.int .i64 0)), (1, (.sl 0 true []))]), iN (.store 2 (.t 7) (.t 23)), iI 8 (.mv (.t 24))]) c7_4
def c7_6 : C := .seq (.seq (.reg [iI 15 (.load 2 (.t 3)), iI 16 (.mksl 2 1 (.agg [(.int .i64 0), (.sl 0 true [])]) [(0, (.t 15))]), iI 17 (.call (.c (.fn 17 [])) [(.t 16)]), iI 18 (.un .not (.t 17))]) c7_0) c7_5
def ir7 : C := .seq (.reg [iI 3 (.box (.t 0)), iI 6 (.mv (.c (.bool false)))]) c7_6
theorem fd7 : fd? Try.prog 7 = some (65, [.slot 6], ir7) := by kernel_rfl
noncomputable def f7 (x_551 : ApiGroup) (step_552 : Int) (first_553 : Int) : Option (Bool) :=
  (f17 ([x_551])).bind fun r_556 => (if (!r_556) = true then (f15).bind fun r_557 => (some r_557) else (f24 x_551).bind fun r_629 => (f25 x_551).bind fun r_648 => (f26 x_551 step_552 first_553).bind fun r_649 => (f27 x_551 step_552 first_553).bind fun r_670 => (f15).bind fun r_671 => (if r_671 = true then (f19 r_629.1 r_648.1).bind fun r_672 => (if r_672 = true then (if (decide (r_629.2 = r_648.2)) = true then (f19 r_649.1 r_670.1).bind fun r_673 => (if r_673 = true then (some (decide (r_649.2 = r_670.2))) else (some false)) else (some false)) else (some false)) else (some false)))
theorem f7_ok {x_551 : ApiGroup} {step_552 : Int} {first_553 : Int} {r_ : Bool} (H : f7 x_551 step_552 first_553 = some r_) : Pure Try.prog 7 [.agg [.int .i64 x_551.fNumber, .sl 0 false (x_551.fChannels.map (AV.int .i64))], .int .i64 step_552, .int .i64 first_553] (· = .bool r_) := by
  refine Pure.walk2 fd7 none (Nat.le_of_ble_eq_true rfl) (by rfl) fun Q hQ => ?_
  simp only [f7] at H
  refine AW.rseq ?_
  try simp only [↓wk, ↓wl, nc, evV, ↓reduceIte, Nat.reduceEqDiff, Nat.reduceAdd, Nat.reduceSub, Nat.reduceLeDiff, Nat.reduceLT, Nat.reduceBEq, reduceCtorEq, Int.reduceEq]
  refine AW.sseq ?_
  refine AW.rseq ?_
  try simp only [↓wk, ↓wl, nc, evV, ↓reduceIte, Nat.reduceEqDiff, Nat.reduceAdd, Nat.reduceSub, Nat.reduceLeDiff, Nat.reduceLT, Nat.reduceBEq, reduceCtorEq, Int.reduceEq]
  refine evTs_pure hFn H (fun _ h => f17_ok h) (by rfl) (by rfl) (by rfl) (by rfl) (fun _ => rfl) ?_ <;> clear H <;> intro r_556 H
  try simp only [eL, ↓wk, ↓wl, nc, evV, ↓reduceIte, Nat.reduceEqDiff, Nat.reduceAdd, Nat.reduceSub, Nat.reduceLeDiff, Nat.reduceLT, Nat.reduceBEq, reduceCtorEq, Int.reduceEq]
  refine AW.ifc H (by rfl) ?_ ?_ <;> clear H <;> intro H
  · refine AW.rseq ?_
    try simp only [↓wk, ↓wl, nc, evV, ↓reduceIte, Nat.reduceEqDiff, Nat.reduceAdd, Nat.reduceSub, Nat.reduceLeDiff, Nat.reduceLT, Nat.reduceBEq, reduceCtorEq, Int.reduceEq]
    refine evTs_pure hFn H (fun _ h => f15_ok h) (by rfl) (by rfl) (by rfl) (by rfl) (fun _ => rfl) ?_ <;> clear H <;> intro r_557 H
    try simp only [eL, ↓wk, ↓wl, nc, evV, ↓reduceIte, Nat.reduceEqDiff, Nat.reduceAdd, Nat.reduceSub, Nat.reduceLeDiff, Nat.reduceLT, Nat.reduceBEq, reduceCtorEq, Int.reduceEq]
    refine AW.ret ?_
    refine seqQ.ret ?_
    cases H
    exact hQ _ _ _ _ (.inr rfl) (by simp only [resVs, omap, resV, ↓wk, ↓wl, nc, evV, ↓reduceIte, Nat.reduceEqDiff, Nat.reduceAdd, Nat.reduceSub, Nat.reduceLeDiff, Nat.reduceLT, Nat.reduceBEq, reduceCtorEq, Int.reduceEq]; rfl) (hand_plain (by rfl)) (by rfl)
  · refine AW.skip ?_
    refine seqQ.norm ?_
    refine AW.rseq ?_
    try simp only [↓wk, ↓wl, nc, evV, ↓reduceIte, Nat.reduceEqDiff, Nat.reduceAdd, Nat.reduceSub, Nat.reduceLeDiff, Nat.reduceLT, Nat.reduceBEq, reduceCtorEq, Int.reduceEq]
    refine evTs_pure hFn H (fun _ h => f24_ok h) (by rfl) (by rfl) (by rfl) (by rfl) (fun _ => rfl) ?_ <;> clear H <;> intro r_629 H
    try simp only [eL, eApiGroup, ↓wk, ↓wl, nc, evV, ↓reduceIte, Nat.reduceEqDiff, Nat.reduceAdd, Nat.reduceSub, Nat.reduceLeDiff, Nat.reduceLT, Nat.reduceBEq, reduceCtorEq, Int.reduceEq]
    refine AW.rseq ?_
    try simp only [↓wk, ↓wl, nc, evV, ↓reduceIte, Nat.reduceEqDiff, Nat.reduceAdd, Nat.reduceSub, Nat.reduceLeDiff, Nat.reduceLT, Nat.reduceBEq, reduceCtorEq, Int.reduceEq]
    refine evTs_pure hFn H (fun _ h => f25_ok h) (by rfl) (by rfl) (by rfl) (by rfl) (fun _ => rfl) ?_ <;> clear H <;> intro r_648 H
    try simp only [eL, eApiGroup, ↓wk, ↓wl, nc, evV, ↓reduceIte, Nat.reduceEqDiff, Nat.reduceAdd, Nat.reduceSub, Nat.reduceLeDiff, Nat.reduceLT, Nat.reduceBEq, reduceCtorEq, Int.reduceEq]
    refine AW.rseq ?_
    try simp only [↓wk, ↓wl, nc, evV, ↓reduceIte, Nat.reduceEqDiff, Nat.reduceAdd, Nat.reduceSub, Nat.reduceLeDiff, Nat.reduceLT, Nat.reduceBEq, reduceCtorEq, Int.reduceEq]
    refine evTs_pure hFn H (fun _ h => f26_ok h) (by rfl) (by rfl) (by rfl) (by rfl) (fun _ => rfl) ?_ <;> clear H <;> intro r_649 H
    try simp only [eL, eApiGroup, ↓wk, ↓wl, nc, evV, ↓reduceIte, Nat.reduceEqDiff, Nat.reduceAdd, Nat.reduceSub, Nat.reduceLeDiff, Nat.reduceLT, Nat.reduceBEq, reduceCtorEq, Int.reduceEq]
    refine AW.rseq ?_
    try simp only [↓wk, ↓wl, nc, evV, ↓reduceIte, Nat.reduceEqDiff, Nat.reduceAdd, Nat.reduceSub, Nat.reduceLeDiff, Nat.reduceLT, Nat.reduceBEq, reduceCtorEq, Int.reduceEq]
    refine evTs_pure hFn H (fun _ h => f27_ok h) (by rfl) (by rfl) (by rfl) (by rfl) (fun _ => rfl) ?_ <;> clear H <;> intro r_670 H
    try simp only [eL, eApiGroup, ↓wk, ↓wl, nc, evV, ↓reduceIte, Nat.reduceEqDiff, Nat.reduceAdd, Nat.reduceSub, Nat.reduceLeDiff, Nat.reduceLT, Nat.reduceBEq, reduceCtorEq, Int.reduceEq]
    refine AW.rseq ?_
    try simp only [↓wk, ↓wl, nc, evV, ↓reduceIte, Nat.reduceEqDiff, Nat.reduceAdd, Nat.reduceSub, Nat.reduceLeDiff, Nat.reduceLT, Nat.reduceBEq, reduceCtorEq, Int.reduceEq]
    refine evTs_pure hFn H (fun _ h => f15_ok h) (by rfl) (by rfl) (by rfl) (by rfl) (fun _ => rfl) ?_ <;> clear H <;> intro r_671 H
    try simp only [eL, ↓wk, ↓wl, nc, evV, ↓reduceIte, Nat.reduceEqDiff, Nat.reduceAdd, Nat.reduceSub, Nat.reduceLeDiff, Nat.reduceLT, Nat.reduceBEq, reduceCtorEq, Int.reduceEq]
    refine evTs_ifg H (by rfl) ?_ ?_ <;> clear H <;> intro H
    · try simp only [↓wk, ↓wl, nc, evV, ↓reduceIte, Nat.reduceEqDiff, Nat.reduceAdd, Nat.reduceSub, Nat.reduceLeDiff, Nat.reduceLT, Nat.reduceBEq, reduceCtorEq, Int.reduceEq]
      refine evTs_pure hFn H (fun _ h => f19_ok h) (by rfl) (by rfl) (by rfl) (by rfl) (fun _ => rfl) ?_ <;> clear H <;> intro r_672 H
      try simp only [eL, ↓wk, ↓wl, nc, evV, ↓reduceIte, Nat.reduceEqDiff, Nat.reduceAdd, Nat.reduceSub, Nat.reduceLeDiff, Nat.reduceLT, Nat.reduceBEq, reduceCtorEq, Int.reduceEq]
      refine evTs_ifg H (by rfl) ?_ ?_ <;> clear H <;> intro H
      · try simp only [↓wk, ↓wl, nc, evV, ↓reduceIte, Nat.reduceEqDiff, Nat.reduceAdd, Nat.reduceSub, Nat.reduceLeDiff, Nat.reduceLT, Nat.reduceBEq, reduceCtorEq, Int.reduceEq]
        refine evTs_ifg H (by rfl) ?_ ?_ <;> clear H <;> intro H
        · try simp only [↓wk, ↓wl, nc, evV, ↓reduceIte, Nat.reduceEqDiff, Nat.reduceAdd, Nat.reduceSub, Nat.reduceLeDiff, Nat.reduceLT, Nat.reduceBEq, reduceCtorEq, Int.reduceEq]
          refine evTs_pure hFn H (fun _ h => f19_ok h) (by rfl) (by rfl) (by rfl) (by rfl) (fun _ => rfl) ?_ <;> clear H <;> intro r_673 H
          try simp only [eL, ↓wk, ↓wl, nc, evV, ↓reduceIte, Nat.reduceEqDiff, Nat.reduceAdd, Nat.reduceSub, Nat.reduceLeDiff, Nat.reduceLT, Nat.reduceBEq, reduceCtorEq, Int.reduceEq]
          refine evTs_ifg H (by rfl) ?_ ?_ <;> clear H <;> intro H
          · try simp only [↓wk, ↓wl, nc, evV, ↓reduceIte, Nat.reduceEqDiff, Nat.reduceAdd, Nat.reduceSub, Nat.reduceLeDiff, Nat.reduceLT, Nat.reduceBEq, reduceCtorEq, Int.reduceEq]
            refine AW.ret ?_
            cases H
            exact hQ _ _ _ _ (.inr rfl) (by simp only [resVs, omap, resV, ↓wk, ↓wl, nc, evV, ↓reduceIte, Nat.reduceEqDiff, Nat.reduceAdd, Nat.reduceSub, Nat.reduceLeDiff, Nat.reduceLT, Nat.reduceBEq, reduceCtorEq, Int.reduceEq]; rfl) (hand_plain (by rfl)) (by rfl)
          · try simp only [↓wk, ↓wl, nc, evV, ↓reduceIte, Nat.reduceEqDiff, Nat.reduceAdd, Nat.reduceSub, Nat.reduceLeDiff, Nat.reduceLT, Nat.reduceBEq, reduceCtorEq, Int.reduceEq]
            refine AW.ret ?_
            cases H
            exact hQ _ _ _ _ (.inr rfl) (by simp only [resVs, omap, resV, ↓wk, ↓wl, nc, evV, ↓reduceIte, Nat.reduceEqDiff, Nat.reduceAdd, Nat.reduceSub, Nat.reduceLeDiff, Nat.reduceLT, Nat.reduceBEq, reduceCtorEq, Int.reduceEq]; rfl) (hand_plain (by rfl)) (by rfl)
        · try simp only [↓wk, ↓wl, nc, evV, ↓reduceIte, Nat.reduceEqDiff, Nat.reduceAdd, Nat.reduceSub, Nat.reduceLeDiff, Nat.reduceLT, Nat.reduceBEq, reduceCtorEq, Int.reduceEq]
          refine AW.ret ?_
          cases H
          exact hQ _ _ _ _ (.inr rfl) (by simp only [resVs, omap, resV, ↓wk, ↓wl, nc, evV, ↓reduceIte, Nat.reduceEqDiff, Nat.reduceAdd, Nat.reduceSub, Nat.reduceLeDiff, Nat.reduceLT, Nat.reduceBEq, reduceCtorEq, Int.reduceEq]; rfl) (hand_plain (by rfl)) (by rfl)
      · try simp only [↓wk, ↓wl, nc, evV, ↓reduceIte, Nat.reduceEqDiff, Nat.reduceAdd, Nat.reduceSub, Nat.reduceLeDiff, Nat.reduceLT, Nat.reduceBEq, reduceCtorEq, Int.reduceEq]
        refine AW.ret ?_
        cases H
        exact hQ _ _ _ _ (.inr rfl) (by simp only [resVs, omap, resV, ↓wk, ↓wl, nc, evV, ↓reduceIte, Nat.reduceEqDiff, Nat.reduceAdd, Nat.reduceSub, Nat.reduceLeDiff, Nat.reduceLT, Nat.reduceBEq, reduceCtorEq, Int.reduceEq]; rfl) (hand_plain (by rfl)) (by rfl)
    · try simp only [↓wk, ↓wl, nc, evV, ↓reduceIte, Nat.reduceEqDiff, Nat.reduceAdd, Nat.reduceSub, Nat.reduceLeDiff, Nat.reduceLT, Nat.reduceBEq, reduceCtorEq, Int.reduceEq]
      refine AW.ret ?_
      cases H
      exact hQ _ _ _ _ (.inr rfl) (by simp only [resVs, omap, resV, ↓wk, ↓wl, nc, evV, ↓reduceIte, Nat.reduceEqDiff, Nat.reduceAdd, Nat.reduceSub, Nat.reduceLeDiff, Nat.reduceLT, Nat.reduceBEq, reduceCtorEq, Int.reduceEq]; rfl) (hand_plain (by rfl)) (by rfl)
end Go.Proofs.Ytccipmhffapcmaa
