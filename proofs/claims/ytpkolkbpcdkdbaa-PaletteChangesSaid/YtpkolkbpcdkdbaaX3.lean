import Derived.Test.YtpkolkbpcdkdbaaX2
import Derived.Test.YtpkolkbpcdkdbaaProg
import Derived.KernelRfl
namespace Go.Proofs.Ytpkolkbpcdkdbaa
open Go Go.Ab

set_option maxHeartbeats 1000000
set_option linter.unusedSimpArgs false
set_option linter.unusedVariables false
theorem f53_54_im {l_742 : (List ApiPalette)} {condition_743 : Int} {r_ : (List ApiPalette)} (H : f53_54 l_742 condition_743 = some r_) : Pure Try.prog 53 [.sl 2 false (l_742.map eApiPalette), .fn 54 [.pro [.int .i64 condition_743]]] (· = .sl 2 false (r_.map eApiPalette)) := (f53_54_ok H).unfr (by first | exact enc_fits _ | simp only [frFits, List.all_cons, List.all_nil, enc_fits, Bool.and_self])
noncomputable def f18_L2 (l_737 : (List ApiPalette)) (number_738 : Int) : Lp (Int × (List ApiPalette)) ((List ApiPalette)) where
  body := fun (v_796, out_797) => (if (decide (v_796 < ((l_737.length : Nat) : Int))) = true then (at? l_737 v_796).bind fun x_802 => (f54p x_802 number_738).bind fun r_803 => (if r_803 = true then (app? 32 out_797 ([x_802])).bind fun out_804 => (some (.next ((IntKind.i64.wrap (v_796 + 1)), out_804))) else (some (.next ((IntKind.i64.wrap (v_796 + 1)), out_797)))) else (some (.brk out_797)))
  cst := fun (v_796, out_797) => ⟨put (put (put (put (put (fun _ => .junk) 10 (.int .i64 v_796)) 9 (.int .i64 ((l_737.length : Nat) : Int))) 8 (.sl 2 false (l_737.map eApiPalette))) 5 (.row 2 1 0 out_797.length)) 1 (.fn 54 [.ptr 0 0]), [.cel [.int .i64 number_738], .els 2 (out_797.map eApiPalette)]⟩
noncomputable def f18_C1 (l_737 : (List ApiPalette)) (number_738 : Int) : Il ((List ApiPalette)) where
  run := (Lp.run (f18_L2 l_737 number_738) (0, [])).bind fun out_801 => (some out_801)
  res := fun v_784 => .row 2 1 0 v_784.length
  hp := fun v_784 => [.cel [.int .i64 number_738], .els 2 (v_784.map eApiPalette)]
def c18_0 : C := .cond (.t 13) (.seq (.reg [iI 14 (.mv (.t 7)), iI 4 (.mv (.c (.sl 2 true []))), iI 5 (.mv (.c (.bool false))), iI 6 (.mv (.t 14))]) .ret) (.skip)
def c18_1 : C := .seq (.reg [iI 12 (.mv (.t 7)), iI 13 (.bin .neq (.t 12) (.c (.int .i64 0)))]) c18_0
def c18_2 : C := .seq (.reg [iI 21 (.mv (.t 0)), iI 22 (.mkfn 54 [(.t 3)]), iI 23 (.call (.c (.fn 53 [])) [(.t 21), (.t 22)]), iI 24 (.mv (.t 9)), iI 4 (.mv (.t 23)), iI 5 (.mv (.t 24)), iI 6 (.mv (.c (.int .i64 0)))]) .ret
def c18_3 : C := .seq (.reg [iI 16 (.mv (.t 0)), iI 17 (.load 0 (.t 3)), iI 18 (.call (.c (.fn 52 [])) [(.t 16), (.t 17)]), iI 15 (.mv (.t 18)), iI 19 (.ext (.t 15) 0), iI 20 (.ext (.t 15) 1), iI 8 (.mv (.t 19)), iI 9 (.mv (.t 20))]) c18_2
def c18_4 : C := .seq (.seq (.reg [iI 10 (.mv (.t 0)), iI 11 (.call (.c (.fn 32 [])) [(.t 10)]), iI 7 (.mv (.t 11))]) c18_1) c18_3
def ir18 : C := .seq (.reg [iI 3 (.box (.t 1)), iI 4 (.mv (.c (.sl 2 true []))), iI 5 (.mv (.c (.bool false))), iI 6 (.mv (.c (.int .i64 0)))]) c18_4
theorem fd18 : fd? Try.prog 18 = some (25, [.slot 4, .slot 5, .slot 6], ir18) := by kernel_rfl
noncomputable def f18 (l_737 : (List ApiPalette)) (number_738 : Int) : Option ((List ApiPalette) × Bool × Int) :=
  (f32 l_737).bind fun r_740 => (if (decide (r_740 ≠ 0)) = true then (some ([], false, r_740)) else (f52 l_737 number_738).bind fun r_741 => ((f18_C1 l_737 number_738).run.bind fun v_784 => (some (v_784, r_741.2, 0))))
theorem f18_ok {l_737 : (List ApiPalette)} {number_738 : Int} {r_ : (List ApiPalette) × Bool × Int} (H : f18 l_737 number_738 = some r_) : Pure Try.prog 18 [.sl 2 false (l_737.map eApiPalette), .int .i64 number_738] (· = .tup [.fr 2 (r_.1.map eApiPalette), .bool r_.2.1, .int .i64 r_.2.2]) := by
  refine Pure.walk3 fd18 (some 0) (Nat.le_of_ble_eq_true rfl) (by rfl) fun Q hQ => ?_
  simp only [f18] at H
  refine AW.rseq ?_
  try simp only [↓wk, ↓wl, nc, evV, wrapBits_eq, ↓reduceIte, Nat.reduceEqDiff, Nat.reduceAdd, Nat.reduceSub, Nat.reduceLeDiff, Nat.reduceLT, Nat.reduceBEq, reduceCtorEq, Int.reduceEq]
  refine AW.sseq ?_
  refine AW.rseq ?_
  try simp only [↓wk, ↓wl, nc, evV, wrapBits_eq, ↓reduceIte, Nat.reduceEqDiff, Nat.reduceAdd, Nat.reduceSub, Nat.reduceLeDiff, Nat.reduceLT, Nat.reduceBEq, reduceCtorEq, Int.reduceEq]
  refine evTs_pure hFn H (fun _ h => f32_ok h) (by rfl) (by rfl) (by rfl) (by rfl) (fun _ => rfl) ?_ <;> clear H <;> intro r_740 H
  try simp only [eL, ↓wk, ↓wl, nc, evV, wrapBits_eq, ↓reduceIte, Nat.reduceEqDiff, Nat.reduceAdd, Nat.reduceSub, Nat.reduceLeDiff, Nat.reduceLT, Nat.reduceBEq, reduceCtorEq, Int.reduceEq]
  refine AW.rseq ?_
  try simp only [↓wk, ↓wl, nc, evV, wrapBits_eq, ↓reduceIte, Nat.reduceEqDiff, Nat.reduceAdd, Nat.reduceSub, Nat.reduceLeDiff, Nat.reduceLT, Nat.reduceBEq, reduceCtorEq, Int.reduceEq]
  refine AW.ifc H (by rfl) ?_ ?_ <;> clear H <;> intro H
  · refine AW.rseq ?_
    try simp only [↓wk, ↓wl, nc, evV, wrapBits_eq, ↓reduceIte, Nat.reduceEqDiff, Nat.reduceAdd, Nat.reduceSub, Nat.reduceLeDiff, Nat.reduceLT, Nat.reduceBEq, reduceCtorEq, Int.reduceEq]
    refine AW.ret ?_
    refine seqQ.ret ?_
    cases H
    exact hQ _ _ _ _ (.inr rfl) (by simp only [resVs, omap, resV, ↓wk, ↓wl, nc, evV, wrapBits_eq, ↓reduceIte, Nat.reduceEqDiff, Nat.reduceAdd, Nat.reduceSub, Nat.reduceLeDiff, Nat.reduceLT, Nat.reduceBEq, reduceCtorEq, Int.reduceEq]; rfl) (hand_k0 (by rfl) (by rfl)) (by first | exact Or.inl rfl | exact Or.inr rfl)
  · refine AW.skip ?_
    refine seqQ.norm ?_
    refine AW.rseq ?_
    try simp only [↓wk, ↓wl, nc, evV, wrapBits_eq, ↓reduceIte, Nat.reduceEqDiff, Nat.reduceAdd, Nat.reduceSub, Nat.reduceLeDiff, Nat.reduceLT, Nat.reduceBEq, reduceCtorEq, Int.reduceEq]
    refine evTs_pure hFn H (fun _ h => f52_ok h) (by rfl) (by rfl) (by rfl) (by rfl) (fun _ => rfl) ?_ <;> clear H <;> intro r_741 H
    try simp only [eL, ↓wk, ↓wl, nc, evV, wrapBits_eq, ↓reduceIte, Nat.reduceEqDiff, Nat.reduceAdd, Nat.reduceSub, Nat.reduceLeDiff, Nat.reduceLT, Nat.reduceBEq, reduceCtorEq, Int.reduceEq]
    refine AW.rseq ?_
    try simp only [↓wk, ↓wl, nc, evV, wrapBits_eq, ↓reduceIte, Nat.reduceEqDiff, Nat.reduceAdd, Nat.reduceSub, Nat.reduceLeDiff, Nat.reduceLT, Nat.reduceBEq, reduceCtorEq, Int.reduceEq]
    refine evTs_inl (I := f18_C1 l_737 number_738) (args := [.sl 2 false (l_737.map eApiPalette), .fn 54 [.ptr 0 0]]) H (by rfl) fd53 (by rfl) (Nat.le_of_ble_eq_true rfl) ?_ ?_ <;> clear H
    · rintro v_ Q_ H hqf18_C1
      simp only [f18_C1] at H
      dsimp only [List.length_cons, List.length_nil]
      refine AW.rseq ?_
      try simp only [↓wk, ↓wl, nc, evV, wrapBits_eq, ↓reduceIte, Nat.reduceEqDiff, Nat.reduceAdd, Nat.reduceSub, Nat.reduceLeDiff, Nat.reduceLT, Nat.reduceBEq, reduceCtorEq, Int.reduceEq]
      refine AW.rseq ?_
      try simp only [↓wk, ↓wl, nc, evV, wrapBits_eq, ↓reduceIte, Nat.reduceEqDiff, Nat.reduceAdd, Nat.reduceSub, Nat.reduceLeDiff, Nat.reduceLT, Nat.reduceBEq, reduceCtorEq, Int.reduceEq]
      refine AW.sseq ?_
      refine AW.rseq ?_
      try simp only [↓wk, ↓wl, nc, evV, wrapBits_eq, ↓reduceIte, Nat.reduceEqDiff, Nat.reduceAdd, Nat.reduceSub, Nat.reduceLeDiff, Nat.reduceLT, Nat.reduceBEq, reduceCtorEq, Int.reduceEq]
      refine AW.bend ?_
      refine AW.iter H ((Le.trans (Le.nilRow (i := 5) (e := 2) (by simp only [↓wk, ↓wl, nc, evV, wrapBits_eq, ↓reduceIte, Nat.reduceEqDiff, Nat.reduceAdd, Nat.reduceSub, Nat.reduceLeDiff, Nat.reduceLT, Nat.reduceBEq, reduceCtorEq, Int.reduceEq])) (Le.toL 1 (by rfl) [0, 1] [1, 5, 8, 9, 10] (by decide) (by decide) (by simp only [f18_L2, List.length_set, Option.map_some, restrict_eq, renS_nil, renS_cons, renB_els, renB_cel, renB_dead, deep_eq, map_ren_enc, ren_agg', ren_tup', ren_fn', ren_int', ren_bool', ren_str', ren_sl', ren_pro', ren_nilp', ren_nilfn', ren_junk', ren_ptr', ren_row', ren_arow', ren_eptr', vm, List.idxOf?_cons, List.idxOf?_nil, beq_self_eq_true, Option.map_none, List.getD_cons_zero, List.getD_cons_succ, ↓wk, ↓wl, nc, evV, wrapBits_eq, ↓reduceIte, Nat.reduceEqDiff, Nat.reduceAdd, Nat.reduceSub, Nat.reduceLeDiff, Nat.reduceLT, Nat.reduceBEq, reduceCtorEq, Int.reduceEq] <;> rfl)))) ?_ <;> clear H
      rintro ⟨v_796, out_797⟩ x_ st0_ H hst_
      simp only [f18_L2] at H hst_
      subst hst_
      refine AW.rseq ?_
      try simp only [↓wk, ↓wl, nc, evV, wrapBits_eq, ↓reduceIte, Nat.reduceEqDiff, Nat.reduceAdd, Nat.reduceSub, Nat.reduceLeDiff, Nat.reduceLT, Nat.reduceBEq, reduceCtorEq, Int.reduceEq]
      refine AW.sseq ?_
      refine AW.ifc H (by rfl) ?_ ?_ <;> clear H <;> intro H
      · refine AW.skip ?_
        refine seqQ.norm ?_
        refine AW.bseq ?_
        refine AW.rseq ?_
        try simp only [↓wk, ↓wl, nc, evV, wrapBits_eq, ↓reduceIte, Nat.reduceEqDiff, Nat.reduceAdd, Nat.reduceSub, Nat.reduceLeDiff, Nat.reduceLT, Nat.reduceBEq, reduceCtorEq, Int.reduceEq]
        refine evTs_at (enc := eApiPalette) H (by rfl) (by rfl) ?_ <;> clear H <;> intro x_802 H
        try simp only [eApiPalette, eL, ↓wk, ↓wl, nc, evV, wrapBits_eq, ↓reduceIte, Nat.reduceEqDiff, Nat.reduceAdd, Nat.reduceSub, Nat.reduceLeDiff, Nat.reduceLT, Nat.reduceBEq, reduceCtorEq, Int.reduceEq]
        refine AW.rseq ?_
        try simp only [↓wk, ↓wl, nc, evV, wrapBits_eq, ↓reduceIte, Nat.reduceEqDiff, Nat.reduceAdd, Nat.reduceSub, Nat.reduceLeDiff, Nat.reduceLT, Nat.reduceBEq, reduceCtorEq, Int.reduceEq]
        refine evTs_flat hFn H (fun _ h => f54p_ok h) (by rfl) (by rfl) (by simp only [deep_eq, imm_simps, imm_rowE, imm_ptrE, imm_enc, omap_simps, take_map_len, take_map_set, take_map_set2, le_refl_true, Nat.zero_add, and_true, true_and, List.drop_zero, Option.map_some, ↓wk, ↓wl, nc, evV, wrapBits_eq, ↓reduceIte, Nat.reduceEqDiff, Nat.reduceAdd, Nat.reduceSub, Nat.reduceLeDiff, Nat.reduceLT, Nat.reduceBEq, reduceCtorEq, Int.reduceEq]; rfl) (by rfl) (fun _ => rfl) (fun _ => rfl) ?_ <;> clear H <;> intro r_803 H
        try simp only [eL, ↓wk, ↓wl, nc, evV, wrapBits_eq, ↓reduceIte, Nat.reduceEqDiff, Nat.reduceAdd, Nat.reduceSub, Nat.reduceLeDiff, Nat.reduceLT, Nat.reduceBEq, reduceCtorEq, Int.reduceEq]
        refine AW.ifc H (by rfl) ?_ ?_ <;> clear H <;> intro H
        · refine AW.rend ?_
          try simp only [↓wk, ↓wl, nc, evV, wrapBits_eq, ↓reduceIte, Nat.reduceEqDiff, Nat.reduceAdd, Nat.reduceSub, Nat.reduceLeDiff, Nat.reduceLT, Nat.reduceBEq, reduceCtorEq, Int.reduceEq]
          refine evTs_app (enc := eApiPalette) H (by rfl) (by first | rfl | simp only [List.length_set]) (by rfl) (by rfl) ?_ <;> clear H <;> intro out_804 H
          try simp only [↓wk, ↓wl, nc, evV, wrapBits_eq, ↓reduceIte, Nat.reduceEqDiff, Nat.reduceAdd, Nat.reduceSub, Nat.reduceLeDiff, Nat.reduceLT, Nat.reduceBEq, reduceCtorEq, Int.reduceEq]
          refine blkQ.norm ?_
          refine AW.rend ?_
          try simp only [↓wk, ↓wl, nc, evV, wrapBits_eq, ↓reduceIte, Nat.reduceEqDiff, Nat.reduceAdd, Nat.reduceSub, Nat.reduceLeDiff, Nat.reduceLT, Nat.reduceBEq, reduceCtorEq, Int.reduceEq]
          exact loopQ.next H ((Le.toL 1 (by rfl) [0, 3] [1, 5, 8, 9, 10] (by decide) (by decide) (by simp only [f18_L2, List.length_set, Option.map_some, restrict_eq, renS_nil, renS_cons, renB_els, renB_cel, renB_dead, deep_eq, map_ren_enc, ren_agg', ren_tup', ren_fn', ren_int', ren_bool', ren_str', ren_sl', ren_pro', ren_nilp', ren_nilfn', ren_junk', ren_ptr', ren_row', ren_arow', ren_eptr', vm, List.idxOf?_cons, List.idxOf?_nil, beq_self_eq_true, Option.map_none, List.getD_cons_zero, List.getD_cons_succ, ↓wk, ↓wl, nc, evV, wrapBits_eq, ↓reduceIte, Nat.reduceEqDiff, Nat.reduceAdd, Nat.reduceSub, Nat.reduceLeDiff, Nat.reduceLT, Nat.reduceBEq, reduceCtorEq, Int.reduceEq] <;> rfl)))
        · refine AW.skip ?_
          refine blkQ.norm ?_
          refine AW.rend ?_
          try simp only [↓wk, ↓wl, nc, evV, wrapBits_eq, ↓reduceIte, Nat.reduceEqDiff, Nat.reduceAdd, Nat.reduceSub, Nat.reduceLeDiff, Nat.reduceLT, Nat.reduceBEq, reduceCtorEq, Int.reduceEq]
          exact loopQ.next H ((Le.toL 1 (by rfl) [0, 1] [1, 5, 8, 9, 10] (by decide) (by decide) (by simp only [f18_L2, List.length_set, Option.map_some, restrict_eq, renS_nil, renS_cons, renB_els, renB_cel, renB_dead, deep_eq, map_ren_enc, ren_agg', ren_tup', ren_fn', ren_int', ren_bool', ren_str', ren_sl', ren_pro', ren_nilp', ren_nilfn', ren_junk', ren_ptr', ren_row', ren_arow', ren_eptr', vm, List.idxOf?_cons, List.idxOf?_nil, beq_self_eq_true, Option.map_none, List.getD_cons_zero, List.getD_cons_succ, ↓wk, ↓wl, nc, evV, wrapBits_eq, ↓reduceIte, Nat.reduceEqDiff, Nat.reduceAdd, Nat.reduceSub, Nat.reduceLeDiff, Nat.reduceLT, Nat.reduceBEq, reduceCtorEq, Int.reduceEq] <;> rfl)))
      · refine AW.exit ?_
        refine seqQ.exit ?_
        refine loopQ.exit H ?_ <;> clear H <;> intro H
        try dsimp only at H
        refine blk0.here ?_
        refine seqQ.norm ?_
        refine AW.rseq ?_
        try simp only [↓wk, ↓wl, nc, evV, wrapBits_eq, ↓reduceIte, Nat.reduceEqDiff, Nat.reduceAdd, Nat.reduceSub, Nat.reduceLeDiff, Nat.reduceLT, Nat.reduceBEq, reduceCtorEq, Int.reduceEq]
        refine AW.ret ?_
        cases H
        exact hqf18_C1 _ _ _ (.inr rfl) (Le.toL 1 (by rfl) [0, 1] [4] (by decide) (by decide) rfl) (by simp only [resVs, omap, resV, f18_C1, List.length_set, Option.map_some, restrict_eq, renS_nil, renS_cons, renB_els, renB_cel, renB_dead, deep_eq, map_ren_enc, ren_agg', ren_tup', ren_fn', ren_int', ren_bool', ren_str', ren_sl', ren_pro', ren_nilp', ren_nilfn', ren_junk', ren_ptr', ren_row', ren_arow', ren_eptr', vm, List.idxOf?_cons, List.idxOf?_nil, beq_self_eq_true, Option.map_none, List.getD_cons_zero, List.getD_cons_succ, ↓wk, ↓wl, nc, evV, wrapBits_eq, ↓reduceIte, Nat.reduceEqDiff, Nat.reduceAdd, Nat.reduceSub, Nat.reduceLeDiff, Nat.reduceLT, Nat.reduceBEq, reduceCtorEq, Int.reduceEq]) (by simp only [f18_C1, List.length_set, Option.map_some, restrict_eq, renS_nil, renS_cons, renB_els, renB_cel, renB_dead, deep_eq, map_ren_enc, ren_agg', ren_tup', ren_fn', ren_int', ren_bool', ren_str', ren_sl', ren_pro', ren_nilp', ren_nilfn', ren_junk', ren_ptr', ren_row', ren_arow', ren_eptr', vm, List.idxOf?_cons, List.idxOf?_nil, beq_self_eq_true, Option.map_none, List.getD_cons_zero, List.getD_cons_succ, ↓wk, ↓wl, nc, evV, wrapBits_eq, ↓reduceIte, Nat.reduceEqDiff, Nat.reduceAdd, Nat.reduceSub, Nat.reduceLeDiff, Nat.reduceLT, Nat.reduceBEq, reduceCtorEq, Int.reduceEq])
    · rintro v_784 s_ h_ H hs_ hh_
      simp only [f18_C1] at H hs_ hh_
      subst hs_
      subst hh_
      try simp only [↓wk, ↓wl, nc, evV, wrapBits_eq, ↓reduceIte, Nat.reduceEqDiff, Nat.reduceAdd, Nat.reduceSub, Nat.reduceLeDiff, Nat.reduceLT, Nat.reduceBEq, reduceCtorEq, Int.reduceEq]
      refine AW.ret ?_
      cases H
      exact hQ _ _ _ _ (.inr rfl) (by simp only [resVs, omap, resV, ↓wk, ↓wl, nc, evV, wrapBits_eq, ↓reduceIte, Nat.reduceEqDiff, Nat.reduceAdd, Nat.reduceSub, Nat.reduceLeDiff, Nat.reduceLT, Nat.reduceBEq, reduceCtorEq, Int.reduceEq]; rfl) (hand_k (by rfl) (by rfl) (by simp) (enc_all _) (by rfl)) (by first | exact Or.inl rfl | exact Or.inr rfl)
theorem f18_im {l_737 : (List ApiPalette)} {number_738 : Int} {r_ : (List ApiPalette) × Bool × Int} (H : f18 l_737 number_738 = some r_) : Pure Try.prog 18 [.sl 2 false (l_737.map eApiPalette), .int .i64 number_738] (· = .tup [.sl 2 false (r_.1.map eApiPalette), .bool r_.2.1, .int .i64 r_.2.2]) := (f18_ok H).unfr (by first | exact enc_fits _ | simp only [frFits, List.all_cons, List.all_nil, enc_fits, Bool.and_self])
def c20_0 : C := .seq (.reg [iI 4 (.faddr 2 (.t 2)), iI 5 (.faddr 0 (.t 4)), iI 6 (.load 0 (.t 5)), iI 7 (.load 0 (.t 1)), iI 8 (.bin .eql (.t 6) (.t 7)), iI 3 (.mv (.t 8))]) .ret
def ir20 : C := .seq (.reg [iI 2 (.box (.t 0)), iI 3 (.mv (.c (.bool false)))]) c20_0
theorem fd20 : fd? Try.prog 20 = some (9, [.slot 3], ir20) := by kernel_rfl
noncomputable def f20p (x_839 : ApiEntry) (c_840 : Int) : Option (Bool) :=
  (some (decide (x_839.fValue.fPalette = c_840)))
theorem f20p_ok {x_839 : ApiEntry} {c_840 : Int} {r_ : Bool} (H : f20p x_839 c_840 = some r_) : Pure Try.prog 20 [.agg [.int .i64 x_839.fParam.fChannel, .int .i64 x_839.fParam.fAttr, .int .i64 x_839.fValue.fPalette, .int .i64 x_839.fValue.fLevel], .pro [.int .i64 c_840]] (· = .bool r_) := by
  refine Pure.walk3 fd20 none (Nat.le_of_ble_eq_true rfl) (by rfl) fun Q hQ => ?_
  simp only [f20p] at H
  refine AW.rseq ?_
  try simp only [↓wk, ↓wl, nc, evV, wrapBits_eq, ↓reduceIte, Nat.reduceEqDiff, Nat.reduceAdd, Nat.reduceSub, Nat.reduceLeDiff, Nat.reduceLT, Nat.reduceBEq, reduceCtorEq, Int.reduceEq]
  refine AW.rseq ?_
  try simp only [↓wk, ↓wl, nc, evV, wrapBits_eq, ↓reduceIte, Nat.reduceEqDiff, Nat.reduceAdd, Nat.reduceSub, Nat.reduceLeDiff, Nat.reduceLT, Nat.reduceBEq, reduceCtorEq, Int.reduceEq]
  refine AW.ret ?_
  cases H
  exact hQ _ _ _ _ (.inr rfl) (by simp only [resVs, omap, resV, ↓wk, ↓wl, nc, evV, wrapBits_eq, ↓reduceIte, Nat.reduceEqDiff, Nat.reduceAdd, Nat.reduceSub, Nat.reduceLeDiff, Nat.reduceLT, Nat.reduceBEq, reduceCtorEq, Int.reduceEq]; rfl) (hand_plain (by rfl)) (by first | exact Or.inl rfl | exact Or.inr rfl)
noncomputable def f55_20_L1 (s_836 : (List ApiEntry)) (f_837 : Int) : Lp (Int) ((Unit) ⊕ (Int)) where
  body := fun v_845 => (if (decide (v_845 < ((s_836.length : Nat) : Int))) = true then (at? s_836 v_845).bind fun x_849 => (f20p x_849 f_837).bind fun r_850 => (if r_850 = true then (some (.brk (Sum.inr v_845))) else (some (.next (IntKind.i64.wrap (v_845 + 1))))) else (some (.brk (Sum.inl ()))))
  cst := fun v_845 => ⟨put (put (put (put (fun _ => .junk) 8 (.int .i64 v_845)) 7 (.int .i64 ((s_836.length : Nat) : Int))) 1 (.fn 20 [.pro [.int .i64 f_837]])) 0 (.sl 4 false (s_836.map eApiEntry)), []⟩
def c55_0 : C := .cond (.t 16) (.seq (.reg [iI 17 (.mv (.t 5)), iI 4 (.mv (.t 17))]) .ret) (.skip)
def c55_1 : C := .seq (.reg [iI 11 (.mv (.t 1)), iI 12 (.mv (.t 0)), iI 13 (.mv (.t 5)), iI 14 (.iaddr 4 (.t 12) (.t 13)), iI 15 (.load 4 (.t 14)), iI 16 (.call (.t 11) [(.t 15)])]) c55_0
def c55_2 : C := .reg [iI 18 (.bin .add (.t 8) (.c (.int .i64 1))), iI 8 (.mv (.t 18))]
def c55_3 : C := .seq (.block 1 (.seq (.reg [iI 10 (.mv (.t 8)), iI 5 (.mv (.t 10))]) c55_1)) c55_2
def c55_4 : C := .seq (.cond (.t 9) (.skip) (.exit 0)) c55_3
def c55_5 : C := .block 0 (.loop (.seq (.reg [iI 9 (.bin .lss (.t 8) (.t 7))]) c55_4))
def c55_6 : C := .seq (.reg [iI 4 (.mv (.c (.int .i64 (-1))))]) .ret
def c55_7 : C := .seq (.seq (.reg [iI 6 (.mv (.t 0)), iI 7 (.len 0 (.t 6)), iI 8 (.mv (.c (.int .i64 0)))]) c55_5) c55_6
def ir55 : C := .seq (.reg [iI 4 (.mv (.c (.int .i64 0)))]) c55_7
theorem fd55 : fd? Try.prog 55 = some (19, [.slot 4], ir55) := by kernel_rfl
noncomputable def f55_20 (s_836 : (List ApiEntry)) (f_837 : Int) : Option (Int) :=
  ((Lp.run (f55_20_L1 s_836 f_837) 0).bind fun r_ => match r_ with | (Sum.inl _) => (some (-1)) | (Sum.inr v_848) => (some v_848))
theorem f55_20_ok {s_836 : (List ApiEntry)} {f_837 : Int} {r_ : Int} (H : f55_20 s_836 f_837 = some r_) : Pure Try.prog 55 [.sl 4 false (s_836.map eApiEntry), .fn 20 [.pro [.int .i64 f_837]]] (· = .int .i64 r_) := by
  refine Pure.walk3 fd55 none (Nat.le_of_ble_eq_true rfl) (by rfl) fun Q hQ => ?_
  simp only [f55_20] at H
  refine AW.rseq ?_
  try simp only [↓wk, ↓wl, nc, evV, wrapBits_eq, ↓reduceIte, Nat.reduceEqDiff, Nat.reduceAdd, Nat.reduceSub, Nat.reduceLeDiff, Nat.reduceLT, Nat.reduceBEq, reduceCtorEq, Int.reduceEq]
  refine AW.sseq ?_
  refine AW.rseq ?_
  try simp only [↓wk, ↓wl, nc, evV, wrapBits_eq, ↓reduceIte, Nat.reduceEqDiff, Nat.reduceAdd, Nat.reduceSub, Nat.reduceLeDiff, Nat.reduceLT, Nat.reduceBEq, reduceCtorEq, Int.reduceEq]
  refine AW.bend ?_
  refine AW.iter H ((Le.none [] [0, 1, 7, 8] (by decide) (by simp only [f55_20_L1, List.length_set, Option.map_some, restrict_eq, renS_nil, renS_cons, renB_els, renB_cel, renB_dead, deep_eq, map_ren_enc, ren_agg', ren_tup', ren_fn', ren_int', ren_bool', ren_str', ren_sl', ren_pro', ren_nilp', ren_nilfn', ren_junk', ren_ptr', ren_row', ren_arow', ren_eptr', vm, List.idxOf?_cons, List.idxOf?_nil, beq_self_eq_true, Option.map_none, List.getD_cons_zero, List.getD_cons_succ, ↓wk, ↓wl, nc, evV, wrapBits_eq, ↓reduceIte, Nat.reduceEqDiff, Nat.reduceAdd, Nat.reduceSub, Nat.reduceLeDiff, Nat.reduceLT, Nat.reduceBEq, reduceCtorEq, Int.reduceEq] <;> rfl))) ?_ <;> clear H
  rintro v_845 x_ st0_ H hst_
  simp only [f55_20_L1] at H hst_
  subst hst_
  refine AW.rseq ?_
  try simp only [↓wk, ↓wl, nc, evV, wrapBits_eq, ↓reduceIte, Nat.reduceEqDiff, Nat.reduceAdd, Nat.reduceSub, Nat.reduceLeDiff, Nat.reduceLT, Nat.reduceBEq, reduceCtorEq, Int.reduceEq]
  refine AW.sseq ?_
  refine AW.ifc H (by rfl) ?_ ?_ <;> clear H <;> intro H
  · refine AW.skip ?_
    refine seqQ.norm ?_
    refine AW.bseq ?_
    refine AW.rseq ?_
    try simp only [↓wk, ↓wl, nc, evV, wrapBits_eq, ↓reduceIte, Nat.reduceEqDiff, Nat.reduceAdd, Nat.reduceSub, Nat.reduceLeDiff, Nat.reduceLT, Nat.reduceBEq, reduceCtorEq, Int.reduceEq]
    refine AW.rseq ?_
    try simp only [↓wk, ↓wl, nc, evV, wrapBits_eq, ↓reduceIte, Nat.reduceEqDiff, Nat.reduceAdd, Nat.reduceSub, Nat.reduceLeDiff, Nat.reduceLT, Nat.reduceBEq, reduceCtorEq, Int.reduceEq]
    refine evTs_at (enc := eApiEntry) H (by rfl) (by rfl) ?_ <;> clear H <;> intro x_849 H
    try simp only [eApiEntry, eL, ↓wk, ↓wl, nc, evV, wrapBits_eq, ↓reduceIte, Nat.reduceEqDiff, Nat.reduceAdd, Nat.reduceSub, Nat.reduceLeDiff, Nat.reduceLT, Nat.reduceBEq, reduceCtorEq, Int.reduceEq]
    refine evTs_pure hFn H (fun _ h => f20p_ok h) (by rfl) (by rfl) (by rfl) (by rfl) (fun _ => rfl) ?_ <;> clear H <;> intro r_850 H
    try simp only [eL, ↓wk, ↓wl, nc, evV, wrapBits_eq, ↓reduceIte, Nat.reduceEqDiff, Nat.reduceAdd, Nat.reduceSub, Nat.reduceLeDiff, Nat.reduceLT, Nat.reduceBEq, reduceCtorEq, Int.reduceEq]
    refine AW.ifc H (by rfl) ?_ ?_ <;> clear H <;> intro H
    · refine AW.rseq ?_
      try simp only [↓wk, ↓wl, nc, evV, wrapBits_eq, ↓reduceIte, Nat.reduceEqDiff, Nat.reduceAdd, Nat.reduceSub, Nat.reduceLeDiff, Nat.reduceLT, Nat.reduceBEq, reduceCtorEq, Int.reduceEq]
      refine AW.ret ?_
      refine blkQ.ret ?_
      refine loopQ.ret H ?_ <;> clear H <;> intro H
      try dsimp only at H
      refine blk0.ret ?_
      refine seqQ.ret ?_
      cases H
      exact hQ _ _ _ _ (.inr rfl) (by simp only [resVs, omap, resV, ↓wk, ↓wl, nc, evV, wrapBits_eq, ↓reduceIte, Nat.reduceEqDiff, Nat.reduceAdd, Nat.reduceSub, Nat.reduceLeDiff, Nat.reduceLT, Nat.reduceBEq, reduceCtorEq, Int.reduceEq]; rfl) (hand_plain (by rfl)) (by first | exact Or.inl rfl | exact Or.inr rfl)
    · refine AW.skip ?_
      refine blkQ.norm ?_
      refine AW.rend ?_
      try simp only [↓wk, ↓wl, nc, evV, wrapBits_eq, ↓reduceIte, Nat.reduceEqDiff, Nat.reduceAdd, Nat.reduceSub, Nat.reduceLeDiff, Nat.reduceLT, Nat.reduceBEq, reduceCtorEq, Int.reduceEq]
      exact loopQ.next H ((Le.none [] [0, 1, 7, 8] (by decide) (by simp only [f55_20_L1, List.length_set, Option.map_some, restrict_eq, renS_nil, renS_cons, renB_els, renB_cel, renB_dead, deep_eq, map_ren_enc, ren_agg', ren_tup', ren_fn', ren_int', ren_bool', ren_str', ren_sl', ren_pro', ren_nilp', ren_nilfn', ren_junk', ren_ptr', ren_row', ren_arow', ren_eptr', vm, List.idxOf?_cons, List.idxOf?_nil, beq_self_eq_true, Option.map_none, List.getD_cons_zero, List.getD_cons_succ, ↓wk, ↓wl, nc, evV, wrapBits_eq, ↓reduceIte, Nat.reduceEqDiff, Nat.reduceAdd, Nat.reduceSub, Nat.reduceLeDiff, Nat.reduceLT, Nat.reduceBEq, reduceCtorEq, Int.reduceEq] <;> rfl)))
  · refine AW.exit ?_
    refine seqQ.exit ?_
    refine loopQ.exit H ?_ <;> clear H <;> intro H
    try dsimp only at H
    refine blk0.here ?_
    refine seqQ.norm ?_
    refine AW.rseq ?_
    try simp only [↓wk, ↓wl, nc, evV, wrapBits_eq, ↓reduceIte, Nat.reduceEqDiff, Nat.reduceAdd, Nat.reduceSub, Nat.reduceLeDiff, Nat.reduceLT, Nat.reduceBEq, reduceCtorEq, Int.reduceEq]
    refine AW.ret ?_
    cases H
    exact hQ _ _ _ _ (.inr rfl) (by simp only [resVs, omap, resV, ↓wk, ↓wl, nc, evV, wrapBits_eq, ↓reduceIte, Nat.reduceEqDiff, Nat.reduceAdd, Nat.reduceSub, Nat.reduceLeDiff, Nat.reduceLT, Nat.reduceBEq, reduceCtorEq, Int.reduceEq]; rfl) (hand_plain (by rfl)) (by first | exact Or.inl rfl | exact Or.inr rfl)
def c19_0 : C := .seq (.reg [iI 5 (.mv (.t 0)), iI 6 (.mv (.t 1)), iI 7 (.call (.c (.fn 55 [])) [(.t 5), (.t 6)]), iI 8 (.bin .geq (.t 7) (.c (.int .i64 0))), iI 4 (.mv (.t 8))]) .ret
def ir19 : C := .seq (.reg [iI 4 (.mv (.c (.bool false)))]) c19_0
theorem fd19 : fd? Try.prog 19 = some (9, [.slot 4], ir19) := by kernel_rfl
noncomputable def f19_20 (s_834 : (List ApiEntry)) (f_835 : Int) : Option (Bool) :=
  (f55_20 s_834 f_835).bind fun r_851 => (some (decide (0 ≤ r_851)))
theorem f19_20_ok {s_834 : (List ApiEntry)} {f_835 : Int} {r_ : Bool} (H : f19_20 s_834 f_835 = some r_) : Pure Try.prog 19 [.sl 4 false (s_834.map eApiEntry), .fn 20 [.pro [.int .i64 f_835]]] (· = .bool r_) := by
  refine Pure.walk3 fd19 none (Nat.le_of_ble_eq_true rfl) (by rfl) fun Q hQ => ?_
  simp only [f19_20] at H
  refine AW.rseq ?_
  try simp only [↓wk, ↓wl, nc, evV, wrapBits_eq, ↓reduceIte, Nat.reduceEqDiff, Nat.reduceAdd, Nat.reduceSub, Nat.reduceLeDiff, Nat.reduceLT, Nat.reduceBEq, reduceCtorEq, Int.reduceEq]
  refine AW.rseq ?_
  try simp only [↓wk, ↓wl, nc, evV, wrapBits_eq, ↓reduceIte, Nat.reduceEqDiff, Nat.reduceAdd, Nat.reduceSub, Nat.reduceLeDiff, Nat.reduceLT, Nat.reduceBEq, reduceCtorEq, Int.reduceEq]
  refine evTs_pure hFn H (fun _ h => f55_20_ok h) (by rfl) (by rfl) (by rfl) (by rfl) (fun _ => rfl) ?_ <;> clear H <;> intro r_851 H
  try simp only [eL, ↓wk, ↓wl, nc, evV, wrapBits_eq, ↓reduceIte, Nat.reduceEqDiff, Nat.reduceAdd, Nat.reduceSub, Nat.reduceLeDiff, Nat.reduceLT, Nat.reduceBEq, reduceCtorEq, Int.reduceEq]
  refine AW.ret ?_
  cases H
  exact hQ _ _ _ _ (.inr rfl) (by simp only [resVs, omap, resV, ↓wk, ↓wl, nc, evV, wrapBits_eq, ↓reduceIte, Nat.reduceEqDiff, Nat.reduceAdd, Nat.reduceSub, Nat.reduceLeDiff, Nat.reduceLT, Nat.reduceBEq, reduceCtorEq, Int.reduceEq]; rfl) (hand_plain (by rfl)) (by first | exact Or.inl rfl | exact Or.inr rfl)
noncomputable def f21_L1 (a_867 : (List ApiEntry)) (b_868 : (List ApiEntry)) : Lp (Int) ((Unit) ⊕ (Unit)) where
  body := fun i_874 => (if (decide (i_874 < ((a_867.length : Nat) : Int))) = true then (at? a_867 i_874).bind fun x_877 => (at? b_868 i_874).bind fun x_878 => (if (!((x_877.fParam.fChannel == x_878.fParam.fChannel) && ((x_877.fParam.fAttr == x_878.fParam.fAttr) && ((x_877.fValue.fPalette == x_878.fValue.fPalette) && ((x_877.fValue.fLevel == x_878.fValue.fLevel) && true))))) = true then (some (.brk (Sum.inr ()))) else (some (.next (IntKind.i64.wrap (i_874 + 1))))) else (some (.brk (Sum.inl ()))))
  cst := fun i_874 => ⟨put (put (put (fun _ => .junk) 5 (.int .i64 i_874)) 1 (.sl 4 false (b_868.map eApiEntry))) 0 (.sl 4 false (a_867.map eApiEntry)), []⟩
def c21_0 : C := .cond (.t 10) (.seq (.reg [iI 4 (.mv (.c (.bool false)))]) .ret) (.skip)
def c21_1 : C := .cond (.t 14) (.skip) (.exit 0)
def c21_2 : C := .cond (.t 25) (.seq (.reg [iI 4 (.mv (.c (.bool false)))]) .ret) (.skip)
def c21_3 : C := .reg [iI 15 (.mv (.t 5)), iI 16 (.bin .add (.t 15) (.c (.int .i64 1))), iI 5 (.mv (.t 16))]
def c21_4 : C := .seq (.block 1 (.seq (.reg [iI 17 (.mv (.t 0)), iI 18 (.mv (.t 5)), iI 19 (.iaddr 4 (.t 17) (.t 18)), iI 20 (.load 4 (.t 19)), iI 21 (.mv (.t 1)), iI 22 (.mv (.t 5)), iI 23 (.iaddr 4 (.t 21) (.t 22)), iI 24 (.load 4 (.t 23)), iI 25 (.eqs true [0, 0, 0, 0] (.t 20) (.t 24))]) c21_2)) c21_3
def c21_5 : C := .block 0 (.loop (.seq (.seq (.reg [iI 11 (.mv (.t 5)), iI 12 (.mv (.t 0)), iI 13 (.len 0 (.t 12)), iI 14 (.bin .lss (.t 11) (.t 13))]) c21_1) c21_4))
def c21_6 : C := .seq (.reg [iI 4 (.mv (.c (.bool true)))]) .ret
def c21_7 : C := .seq (.seq (.reg [iI 5 (.mv (.c (.int .i64 0)))]) c21_5) c21_6
def c21_8 : C := .seq (.seq (.reg [iI 6 (.mv (.t 0)), iI 7 (.len 0 (.t 6)), iI 8 (.mv (.t 1)), iI 9 (.len 0 (.t 8)), iI 10 (.bin .neq (.t 7) (.t 9))]) c21_0) c21_7
def ir21 : C := .seq (.reg [iI 4 (.mv (.c (.bool false)))]) c21_8
theorem fd21 : fd? Try.prog 21 = some (26, [.slot 4], ir21) := by kernel_rfl
noncomputable def f21 (a_867 : (List ApiEntry)) (b_868 : (List ApiEntry)) : Option (Bool) :=
  (if (decide (((a_867.length : Nat) : Int) ≠ ((b_868.length : Nat) : Int))) = true then (some false) else ((Lp.run (f21_L1 a_867 b_868) 0).bind fun r_ => match r_ with | (Sum.inl _) => (some true) | (Sum.inr _) => (some false)))
theorem f21_ok {a_867 : (List ApiEntry)} {b_868 : (List ApiEntry)} {r_ : Bool} (H : f21 a_867 b_868 = some r_) : Pure Try.prog 21 [.sl 4 false (a_867.map eApiEntry), .sl 4 false (b_868.map eApiEntry)] (· = .bool r_) := by
  refine Pure.walk3 fd21 none (Nat.le_of_ble_eq_true rfl) (by rfl) fun Q hQ => ?_
  simp only [f21] at H
  refine AW.rseq ?_
  try simp only [↓wk, ↓wl, nc, evV, wrapBits_eq, ↓reduceIte, Nat.reduceEqDiff, Nat.reduceAdd, Nat.reduceSub, Nat.reduceLeDiff, Nat.reduceLT, Nat.reduceBEq, reduceCtorEq, Int.reduceEq]
  refine AW.sseq ?_
  refine AW.rseq ?_
  try simp only [↓wk, ↓wl, nc, evV, wrapBits_eq, ↓reduceIte, Nat.reduceEqDiff, Nat.reduceAdd, Nat.reduceSub, Nat.reduceLeDiff, Nat.reduceLT, Nat.reduceBEq, reduceCtorEq, Int.reduceEq]
  refine AW.ifc H (by rfl) ?_ ?_ <;> clear H <;> intro H
  · refine AW.rseq ?_
    try simp only [↓wk, ↓wl, nc, evV, wrapBits_eq, ↓reduceIte, Nat.reduceEqDiff, Nat.reduceAdd, Nat.reduceSub, Nat.reduceLeDiff, Nat.reduceLT, Nat.reduceBEq, reduceCtorEq, Int.reduceEq]
    refine AW.ret ?_
    refine seqQ.ret ?_
    cases H
    exact hQ _ _ _ _ (.inr rfl) (by simp only [resVs, omap, resV, ↓wk, ↓wl, nc, evV, wrapBits_eq, ↓reduceIte, Nat.reduceEqDiff, Nat.reduceAdd, Nat.reduceSub, Nat.reduceLeDiff, Nat.reduceLT, Nat.reduceBEq, reduceCtorEq, Int.reduceEq]; rfl) (hand_plain (by rfl)) (by first | exact Or.inl rfl | exact Or.inr rfl)
  · refine AW.skip ?_
    refine seqQ.norm ?_
    refine AW.sseq ?_
    refine AW.rseq ?_
    try simp only [↓wk, ↓wl, nc, evV, wrapBits_eq, ↓reduceIte, Nat.reduceEqDiff, Nat.reduceAdd, Nat.reduceSub, Nat.reduceLeDiff, Nat.reduceLT, Nat.reduceBEq, reduceCtorEq, Int.reduceEq]
    refine AW.bend ?_
    refine AW.iter H ((Le.none [] [0, 1, 5] (by decide) (by simp only [f21_L1, List.length_set, Option.map_some, restrict_eq, renS_nil, renS_cons, renB_els, renB_cel, renB_dead, deep_eq, map_ren_enc, ren_agg', ren_tup', ren_fn', ren_int', ren_bool', ren_str', ren_sl', ren_pro', ren_nilp', ren_nilfn', ren_junk', ren_ptr', ren_row', ren_arow', ren_eptr', vm, List.idxOf?_cons, List.idxOf?_nil, beq_self_eq_true, Option.map_none, List.getD_cons_zero, List.getD_cons_succ, ↓wk, ↓wl, nc, evV, wrapBits_eq, ↓reduceIte, Nat.reduceEqDiff, Nat.reduceAdd, Nat.reduceSub, Nat.reduceLeDiff, Nat.reduceLT, Nat.reduceBEq, reduceCtorEq, Int.reduceEq] <;> rfl))) ?_ <;> clear H
    rintro i_874 x_ st0_ H hst_
    simp only [f21_L1] at H hst_
    subst hst_
    refine AW.sseq ?_
    refine AW.rseq ?_
    try simp only [↓wk, ↓wl, nc, evV, wrapBits_eq, ↓reduceIte, Nat.reduceEqDiff, Nat.reduceAdd, Nat.reduceSub, Nat.reduceLeDiff, Nat.reduceLT, Nat.reduceBEq, reduceCtorEq, Int.reduceEq]
    refine AW.ifc H (by rfl) ?_ ?_ <;> clear H <;> intro H
    · refine AW.skip ?_
      refine seqQ.norm ?_
      refine AW.bseq ?_
      refine AW.rseq ?_
      try simp only [↓wk, ↓wl, nc, evV, wrapBits_eq, ↓reduceIte, Nat.reduceEqDiff, Nat.reduceAdd, Nat.reduceSub, Nat.reduceLeDiff, Nat.reduceLT, Nat.reduceBEq, reduceCtorEq, Int.reduceEq]
      refine evTs_at (enc := eApiEntry) H (by rfl) (by rfl) ?_ <;> clear H <;> intro x_877 H
      try simp only [eApiEntry, eL, ↓wk, ↓wl, nc, evV, wrapBits_eq, ↓reduceIte, Nat.reduceEqDiff, Nat.reduceAdd, Nat.reduceSub, Nat.reduceLeDiff, Nat.reduceLT, Nat.reduceBEq, reduceCtorEq, Int.reduceEq]
      refine evTs_at (enc := eApiEntry) H (by rfl) (by rfl) ?_ <;> clear H <;> intro x_878 H
      try simp only [eApiEntry, eL, ↓wk, ↓wl, nc, evV, wrapBits_eq, ↓reduceIte, Nat.reduceEqDiff, Nat.reduceAdd, Nat.reduceSub, Nat.reduceLeDiff, Nat.reduceLT, Nat.reduceBEq, reduceCtorEq, Int.reduceEq]
      refine rest_neqs (by rfl) ?_
      try simp only [↓wk, ↓wl, nc, evV, wrapBits_eq, ↓reduceIte, Nat.reduceEqDiff, Nat.reduceAdd, Nat.reduceSub, Nat.reduceLeDiff, Nat.reduceLT, Nat.reduceBEq, reduceCtorEq, Int.reduceEq]
      refine AW.ifc H (by rfl) ?_ ?_ <;> clear H <;> intro H
      · refine AW.rseq ?_
        try simp only [↓wk, ↓wl, nc, evV, wrapBits_eq, ↓reduceIte, Nat.reduceEqDiff, Nat.reduceAdd, Nat.reduceSub, Nat.reduceLeDiff, Nat.reduceLT, Nat.reduceBEq, reduceCtorEq, Int.reduceEq]
        refine AW.ret ?_
        refine blkQ.ret ?_
        refine loopQ.ret H ?_ <;> clear H <;> intro H
        try dsimp only at H
        refine blk0.ret ?_
        refine seqQ.ret ?_
        cases H
        exact hQ _ _ _ _ (.inr rfl) (by simp only [resVs, omap, resV, ↓wk, ↓wl, nc, evV, wrapBits_eq, ↓reduceIte, Nat.reduceEqDiff, Nat.reduceAdd, Nat.reduceSub, Nat.reduceLeDiff, Nat.reduceLT, Nat.reduceBEq, reduceCtorEq, Int.reduceEq]; rfl) (hand_plain (by rfl)) (by first | exact Or.inl rfl | exact Or.inr rfl)
      · refine AW.skip ?_
        refine blkQ.norm ?_
        refine AW.rend ?_
        try simp only [↓wk, ↓wl, nc, evV, wrapBits_eq, ↓reduceIte, Nat.reduceEqDiff, Nat.reduceAdd, Nat.reduceSub, Nat.reduceLeDiff, Nat.reduceLT, Nat.reduceBEq, reduceCtorEq, Int.reduceEq]
        exact loopQ.next H ((Le.none [] [0, 1, 5] (by decide) (by simp only [f21_L1, List.length_set, Option.map_some, restrict_eq, renS_nil, renS_cons, renB_els, renB_cel, renB_dead, deep_eq, map_ren_enc, ren_agg', ren_tup', ren_fn', ren_int', ren_bool', ren_str', ren_sl', ren_pro', ren_nilp', ren_nilfn', ren_junk', ren_ptr', ren_row', ren_arow', ren_eptr', vm, List.idxOf?_cons, List.idxOf?_nil, beq_self_eq_true, Option.map_none, List.getD_cons_zero, List.getD_cons_succ, ↓wk, ↓wl, nc, evV, wrapBits_eq, ↓reduceIte, Nat.reduceEqDiff, Nat.reduceAdd, Nat.reduceSub, Nat.reduceLeDiff, Nat.reduceLT, Nat.reduceBEq, reduceCtorEq, Int.reduceEq] <;> rfl)))
    · refine AW.exit ?_
      refine seqQ.exit ?_
      refine loopQ.exit H ?_ <;> clear H <;> intro H
      try dsimp only at H
      refine blk0.here ?_
      refine seqQ.norm ?_
      refine AW.rseq ?_
      try simp only [↓wk, ↓wl, nc, evV, wrapBits_eq, ↓reduceIte, Nat.reduceEqDiff, Nat.reduceAdd, Nat.reduceSub, Nat.reduceLeDiff, Nat.reduceLT, Nat.reduceBEq, reduceCtorEq, Int.reduceEq]
      refine AW.ret ?_
      cases H
      exact hQ _ _ _ _ (.inr rfl) (by simp only [resVs, omap, resV, ↓wk, ↓wl, nc, evV, wrapBits_eq, ↓reduceIte, Nat.reduceEqDiff, Nat.reduceAdd, Nat.reduceSub, Nat.reduceLeDiff, Nat.reduceLT, Nat.reduceBEq, reduceCtorEq, Int.reduceEq]; rfl) (hand_plain (by rfl)) (by first | exact Or.inl rfl | exact Or.inr rfl)
noncomputable def f5_L2 (r_700 : (List Int) × Int) (entries_695 : (List ApiEntry)) (r_832 : (List ApiEntry) × Int) (r_831 : (List ApiEntry) × Int) : Lp (Int) ((Unit) ⊕ (Unit)) where
  body := fun v_864 => (if (decide (v_864 < ((r_700.1.length : Nat) : Int))) = true then (at? r_700.1 v_864).bind fun x_881 => (f19_20 entries_695 x_881).bind fun r_882 => (if (!r_882) = true then (some (.brk (Sum.inr ()))) else (some (.next (IntKind.i64.wrap (v_864 + 1))))) else (some (.brk (Sum.inl ()))))
  cst := fun v_864 => ⟨put (put (put (put (put (put (put (put (fun _ => .junk) 69 (.int .i64 v_864)) 68 (.int .i64 ((r_700.1.length : Nat) : Int))) 67 (.sl 0 false (r_700.1.map (AV.int .i64)))) 12 (.int .i64 r_832.2)) 11 (.sl 4 false (r_832.1.map eApiEntry))) 10 (.sl 4 false (r_831.1.map eApiEntry))) 6 (.int .i64 r_831.2)) 1 (.sl 4 false (entries_695.map eApiEntry)), []⟩
noncomputable def f5_L1 (l_694 : (List ApiPalette)) (r_700 : (List Int) × Int) (entries_695 : (List ApiEntry)) : Lp ((List ApiPalette) × Int) (((List ApiPalette)) ⊕ (Unit)) where
  body := fun (less_825, v_826) => (if (decide (v_826 < ((l_694.length : Nat) : Int))) = true then (at? l_694 v_826).bind fun x_905 => (f17 r_700.1 x_905.fNumber).bind fun r_906 => (if (!r_906) = true then (f18 less_825 x_905.fNumber).bind fun r_907 => (if (decide (r_907.2.2 ≠ 0)) = true then (some (.brk (Sum.inr ()))) else (some (.next (r_907.1, (IntKind.i64.wrap (v_826 + 1)))))) else (some (.next (less_825, (IntKind.i64.wrap (v_826 + 1)))))) else (some (.brk (Sum.inl less_825))))
  cst := fun (less_825, v_826) => ⟨put (put (put (put (put (put (put (fun _ => .junk) 35 (.int .i64 v_826)) 34 (.int .i64 ((l_694.length : Nat) : Int))) 33 (.sl 2 false (l_694.map eApiPalette))) 7 (.sl 2 false (less_825.map eApiPalette))) 5 (.sl 0 false (r_700.1.map (AV.int .i64)))) 1 (.sl 4 false (entries_695.map eApiEntry))) 0 (.sl 2 false (l_694.map eApiPalette)), []⟩
def c5_0 : C := .cond (.t 18) (.seq (.reg [iI 19 (.call (.c (.fn 8 [])) []), iI 4 (.mv (.t 19))]) .ret) (.skip)
def c5_1 : C := .cond (.t 31) (.seq (.reg [iI 4 (.mv (.c (.bool false)))]) .ret) (.skip)
def c5_2 : C := .cond (.t 53) (.seq (.reg [iI 4 (.mv (.c (.bool false)))]) .ret) (.skip)
def c5_3 : C := .seq (.reg [iI 52 (.mv (.t 6)), iI 53 (.bin .neq (.t 52) (.c (.int .i64 0)))]) c5_2
def c5_4 : C := .cond (.t 43) (.seq (.reg [iI 45 (.mv (.t 7)), iI 46 (.faddr 0 (.t 9)), iI 47 (.load 0 (.t 46)), iI 48 (.call (.c (.fn 18 [])) [(.t 45), (.t 47)]), iI 44 (.mv (.t 48)), iI 49 (.ext (.t 44) 0), iI 50 (.ext (.t 44) 1), iI 51 (.ext (.t 44) 2), iI 7 (.mv (.t 49)), iI 6 (.mv (.t 51))]) c5_3) (.skip)
def c5_5 : C := .seq (.reg [iI 39 (.mv (.t 5)), iI 40 (.faddr 0 (.t 9)), iI 41 (.load 0 (.t 40)), iI 42 (.call (.c (.fn 17 [])) [(.t 39), (.t 41)]), iI 43 (.un .not (.t 42))]) c5_4
def c5_6 : C := .reg [iI 54 (.bin .add (.t 35) (.c (.int .i64 1))), iI 35 (.mv (.t 54))]
def c5_7 : C := .seq (.block 1 (.seq (.reg [iI 37 (.iaddr 2 (.t 33) (.t 35)), iI 38 (.load 2 (.t 37)), iI 9 (.alloc [(1, (.int .i64 0)), (1, (.sl 3 true []))]), iN (.store 2 (.t 9) (.t 38))]) c5_5)) c5_6
def c5_8 : C := .seq (.cond (.t 36) (.skip) (.exit 0)) c5_7
def c5_9 : C := .block 0 (.loop (.seq (.reg [iI 36 (.bin .lss (.t 35) (.t 34))]) c5_8))
def c5_10 : C := .cond (.t 76) (.seq (.reg [iI 4 (.mv (.c (.bool false)))]) .ret) (.skip)
def c5_11 : C := .seq (.reg [iI 73 (.mv (.t 1)), iI 74 (.mkfn 20 [(.t 14)]), iI 75 (.call (.c (.fn 19 [])) [(.t 73), (.t 74)]), iI 76 (.un .not (.t 75))]) c5_10
def c5_12 : C := .reg [iI 77 (.bin .add (.t 69) (.c (.int .i64 1))), iI 69 (.mv (.t 77))]
def c5_13 : C := .seq (.block 3 (.seq (.reg [iI 71 (.iaddr 0 (.t 67) (.t 69)), iI 72 (.load 0 (.t 71)), iI 14 (.alloc [(1, (.int .i64 0))]), iN (.store 0 (.t 14) (.t 72))]) c5_11)) c5_12
def c5_14 : C := .seq (.cond (.t 70) (.skip) (.exit 2)) c5_13
def c5_15 : C := .block 2 (.loop (.seq (.reg [iI 70 (.bin .lss (.t 69) (.t 68))]) c5_14))
def c5_16 : C := .seq (.reg [iI 78 (.mv (.t 6)), iI 79 (.bin .eql (.t 78) (.c (.int .i64 0))), iI 80 (.mv (.t 79)), iG (some 81) 80 true (.mv (.t 12)), iG (some 82) 80 true (.bin .eql (.t 81) (.c (.int .i64 0))), iI 83 (.pick (.t 80) (.t 82) (.c (.bool false))), iI 84 (.mv (.t 83)), iG (some 85) 84 true (.mv (.t 10)), iG (some 86) 84 true (.mv (.t 11)), iG (some 87) 84 true (.call (.c (.fn 21 [])) [(.t 85), (.t 86)]), iI 88 (.pick (.t 84) (.t 87) (.c (.bool false))), iI 89 (.mv (.t 88)), iG (some 90) 89 true (.call (.c (.fn 8 [])) []), iI 91 (.pick (.t 89) (.t 90) (.c (.bool false))), iI 4 (.mv (.t 91))]) .ret
def c5_17 : C := .seq (.seq (.reg [iI 67 (.mv (.t 5)), iI 68 (.len 0 (.t 67)), iI 69 (.mv (.c (.int .i64 0)))]) c5_15) c5_16
def c5_18 : C := .seq (.reg [iI 62 (.mv (.t 7)), iI 63 (.mv (.t 1)), iI 64 (.call (.c (.fn 12 [])) [(.t 62), (.t 63)]), iI 61 (.mv (.t 64)), iI 65 (.ext (.t 61) 0), iI 66 (.ext (.t 61) 1), iI 11 (.mv (.t 65)), iI 12 (.mv (.t 66))]) c5_17
def c5_19 : C := .seq (.reg [iI 56 (.mv (.t 0)), iI 57 (.mv (.t 1)), iI 58 (.call (.c (.fn 12 [])) [(.t 56), (.t 57)]), iI 55 (.mv (.t 58)), iI 59 (.ext (.t 55) 0), iI 60 (.ext (.t 55) 1), iI 10 (.mv (.t 59)), iI 6 (.mv (.t 60))]) c5_18
def c5_20 : C := .seq (.seq (.reg [iI 33 (.mv (.t 0)), iI 34 (.len 0 (.t 33)), iI 35 (.mv (.c (.int .i64 0)))]) c5_9) c5_19
def c5_21 : C := .seq (.reg [iI 32 (.mv (.t 0)), iI 7 (.mv (.t 32))]) c5_20
def c5_22 : C := .seq (.seq (.reg [iI 25 (.mv (.t 6)), iI 26 (.bin .neq (.t 25) (.c (.int .i64 0))), iI 27 (.mv (.t 26)), iG (some 28) 27 false (.mv (.t 5)), iG (some 29) 27 false (.call (.c (.fn 16 [])) [(.t 28)]), iG (some 30) 27 false (.un .not (.t 29)), iI 31 (.pick (.t 27) (.c (.bool true)) (.t 30))]) c5_1) c5_21
def c5_23 : C := .seq (.reg [iI 21 (.mv (.t 1)), iI 22 (.call (.c (.fn 15 [])) [(.t 21)]), iI 20 (.mv (.t 22)), iI 23 (.ext (.t 20) 0), iI 24 (.ext (.t 20) 1), iI 5 (.mv (.t 23)), iI 6 (.mv (.t 24))]) c5_22
def c5_24 : C := .seq (.seq (.reg [iI 15 (.mv (.t 0)), iI 16 (.mv (.t 1)), iI 17 (.call (.c (.fn 11 [])) [(.t 15), (.t 16)]), iI 18 (.un .not (.t 17))]) c5_0) c5_23
def ir5 : C := .seq (.reg [iI 4 (.mv (.c (.bool false)))]) c5_24
theorem fd5 : fd? Try.prog 5 = some (92, [.slot 4], ir5) := by kernel_rfl
noncomputable def f5 (l_694 : (List ApiPalette)) (entries_695 : (List ApiEntry)) : Option (Bool) :=
  (f11 l_694 entries_695).bind fun r_698 => (if (!r_698) = true then (f8).bind fun r_699 => (some r_699) else (f15 entries_695).bind fun r_700 => (if (decide (r_700.2 ≠ 0)) = true then (some false) else (f16 r_700.1).bind fun r_722 => (if (!r_722) = true then (some false) else ((Lp.run (f5_L1 l_694 r_700 entries_695) (l_694, 0)).bind fun r_ => match r_ with | (Sum.inl less_830) => (f12 l_694 entries_695).bind fun r_831 => (f12 less_830 entries_695).bind fun r_832 => ((Lp.run (f5_L2 r_700 entries_695 r_832 r_831) 0).bind fun r_ => match r_ with | (Sum.inl _) => (if (decide (r_831.2 = 0)) = true then (if (decide (r_832.2 = 0)) = true then (f21 r_831.1 r_832.1).bind fun r_879 => (if r_879 = true then (f8).bind fun r_880 => (some r_880) else (some false)) else (some false)) else (some false)) | (Sum.inr _) => (some false)) | (Sum.inr _) => (some false)))))
theorem f5_ok {l_694 : (List ApiPalette)} {entries_695 : (List ApiEntry)} {r_ : Bool} (H : f5 l_694 entries_695 = some r_) : Pure Try.prog 5 [.sl 2 false (l_694.map eApiPalette), .sl 4 false (entries_695.map eApiEntry)] (· = .bool r_) := by
  refine Pure.walk3 fd5 none (Nat.le_of_ble_eq_true rfl) (by rfl) fun Q hQ => ?_
  simp only [f5] at H
  refine AW.rseq ?_
  try simp only [↓wk, ↓wl, nc, evV, wrapBits_eq, ↓reduceIte, Nat.reduceEqDiff, Nat.reduceAdd, Nat.reduceSub, Nat.reduceLeDiff, Nat.reduceLT, Nat.reduceBEq, reduceCtorEq, Int.reduceEq]
  refine AW.sseq ?_
  refine AW.rseq ?_
  try simp only [↓wk, ↓wl, nc, evV, wrapBits_eq, ↓reduceIte, Nat.reduceEqDiff, Nat.reduceAdd, Nat.reduceSub, Nat.reduceLeDiff, Nat.reduceLT, Nat.reduceBEq, reduceCtorEq, Int.reduceEq]
  refine evTs_pure hFn H (fun _ h => f11_ok h) (by rfl) (by rfl) (by rfl) (by rfl) (fun _ => rfl) ?_ <;> clear H <;> intro r_698 H
  try simp only [eL, ↓wk, ↓wl, nc, evV, wrapBits_eq, ↓reduceIte, Nat.reduceEqDiff, Nat.reduceAdd, Nat.reduceSub, Nat.reduceLeDiff, Nat.reduceLT, Nat.reduceBEq, reduceCtorEq, Int.reduceEq]
  refine AW.ifc H (by rfl) ?_ ?_ <;> clear H <;> intro H
  · refine AW.rseq ?_
    try simp only [↓wk, ↓wl, nc, evV, wrapBits_eq, ↓reduceIte, Nat.reduceEqDiff, Nat.reduceAdd, Nat.reduceSub, Nat.reduceLeDiff, Nat.reduceLT, Nat.reduceBEq, reduceCtorEq, Int.reduceEq]
    refine evTs_pure hFn H (fun _ h => f8_ok h) (by rfl) (by rfl) (by rfl) (by rfl) (fun _ => rfl) ?_ <;> clear H <;> intro r_699 H
    try simp only [eL, ↓wk, ↓wl, nc, evV, wrapBits_eq, ↓reduceIte, Nat.reduceEqDiff, Nat.reduceAdd, Nat.reduceSub, Nat.reduceLeDiff, Nat.reduceLT, Nat.reduceBEq, reduceCtorEq, Int.reduceEq]
    refine AW.ret ?_
    refine seqQ.ret ?_
    cases H
    exact hQ _ _ _ _ (.inr rfl) (by simp only [resVs, omap, resV, ↓wk, ↓wl, nc, evV, wrapBits_eq, ↓reduceIte, Nat.reduceEqDiff, Nat.reduceAdd, Nat.reduceSub, Nat.reduceLeDiff, Nat.reduceLT, Nat.reduceBEq, reduceCtorEq, Int.reduceEq]; rfl) (hand_plain (by rfl)) (by first | exact Or.inl rfl | exact Or.inr rfl)
  · refine AW.skip ?_
    refine seqQ.norm ?_
    refine AW.rseq ?_
    try simp only [↓wk, ↓wl, nc, evV, wrapBits_eq, ↓reduceIte, Nat.reduceEqDiff, Nat.reduceAdd, Nat.reduceSub, Nat.reduceLeDiff, Nat.reduceLT, Nat.reduceBEq, reduceCtorEq, Int.reduceEq]
    refine evTs_pure hFn H (fun _ h => f15_im h) (by rfl) (by rfl) (by rfl) (by rfl) (fun _ => rfl) ?_ <;> clear H <;> intro r_700 H
    try simp only [eL, ↓wk, ↓wl, nc, evV, wrapBits_eq, ↓reduceIte, Nat.reduceEqDiff, Nat.reduceAdd, Nat.reduceSub, Nat.reduceLeDiff, Nat.reduceLT, Nat.reduceBEq, reduceCtorEq, Int.reduceEq]
    refine AW.sseq ?_
    refine AW.rseq ?_
    try simp only [↓wk, ↓wl, nc, evV, wrapBits_eq, ↓reduceIte, Nat.reduceEqDiff, Nat.reduceAdd, Nat.reduceSub, Nat.reduceLeDiff, Nat.reduceLT, Nat.reduceBEq, reduceCtorEq, Int.reduceEq]
    refine evTs_ifg H (by rfl) ?_ ?_ <;> clear H <;> intro H
    · try simp only [↓wk, ↓wl, nc, evV, wrapBits_eq, ↓reduceIte, Nat.reduceEqDiff, Nat.reduceAdd, Nat.reduceSub, Nat.reduceLeDiff, Nat.reduceLT, Nat.reduceBEq, reduceCtorEq, Int.reduceEq]
      refine AW.ift (by rfl) ?_
      refine AW.rseq ?_
      try simp only [↓wk, ↓wl, nc, evV, wrapBits_eq, ↓reduceIte, Nat.reduceEqDiff, Nat.reduceAdd, Nat.reduceSub, Nat.reduceLeDiff, Nat.reduceLT, Nat.reduceBEq, reduceCtorEq, Int.reduceEq]
      refine AW.ret ?_
      refine seqQ.ret ?_
      cases H
      exact hQ _ _ _ _ (.inr rfl) (by simp only [resVs, omap, resV, ↓wk, ↓wl, nc, evV, wrapBits_eq, ↓reduceIte, Nat.reduceEqDiff, Nat.reduceAdd, Nat.reduceSub, Nat.reduceLeDiff, Nat.reduceLT, Nat.reduceBEq, reduceCtorEq, Int.reduceEq]; rfl) (hand_plain (by rfl)) (by first | exact Or.inl rfl | exact Or.inr rfl)
    · try simp only [↓wk, ↓wl, nc, evV, wrapBits_eq, ↓reduceIte, Nat.reduceEqDiff, Nat.reduceAdd, Nat.reduceSub, Nat.reduceLeDiff, Nat.reduceLT, Nat.reduceBEq, reduceCtorEq, Int.reduceEq]
      refine evTs_pure hFn H (fun _ h => f16_ok h) (by rfl) (by rfl) (by rfl) (by rfl) (fun _ => rfl) ?_ <;> clear H <;> intro r_722 H
      try simp only [eL, ↓wk, ↓wl, nc, evV, wrapBits_eq, ↓reduceIte, Nat.reduceEqDiff, Nat.reduceAdd, Nat.reduceSub, Nat.reduceLeDiff, Nat.reduceLT, Nat.reduceBEq, reduceCtorEq, Int.reduceEq]
      refine AW.ifc H (by rfl) ?_ ?_ <;> clear H <;> intro H
      · refine AW.rseq ?_
        try simp only [↓wk, ↓wl, nc, evV, wrapBits_eq, ↓reduceIte, Nat.reduceEqDiff, Nat.reduceAdd, Nat.reduceSub, Nat.reduceLeDiff, Nat.reduceLT, Nat.reduceBEq, reduceCtorEq, Int.reduceEq]
        refine AW.ret ?_
        refine seqQ.ret ?_
        cases H
        exact hQ _ _ _ _ (.inr rfl) (by simp only [resVs, omap, resV, ↓wk, ↓wl, nc, evV, wrapBits_eq, ↓reduceIte, Nat.reduceEqDiff, Nat.reduceAdd, Nat.reduceSub, Nat.reduceLeDiff, Nat.reduceLT, Nat.reduceBEq, reduceCtorEq, Int.reduceEq]; rfl) (hand_plain (by rfl)) (by first | exact Or.inl rfl | exact Or.inr rfl)
      · refine AW.skip ?_
        refine seqQ.norm ?_
        refine AW.rseq ?_
        try simp only [↓wk, ↓wl, nc, evV, wrapBits_eq, ↓reduceIte, Nat.reduceEqDiff, Nat.reduceAdd, Nat.reduceSub, Nat.reduceLeDiff, Nat.reduceLT, Nat.reduceBEq, reduceCtorEq, Int.reduceEq]
        refine AW.sseq ?_
        refine AW.rseq ?_
        try simp only [↓wk, ↓wl, nc, evV, wrapBits_eq, ↓reduceIte, Nat.reduceEqDiff, Nat.reduceAdd, Nat.reduceSub, Nat.reduceLeDiff, Nat.reduceLT, Nat.reduceBEq, reduceCtorEq, Int.reduceEq]
        refine AW.bend ?_
        refine AW.iter H ((Le.none [] [0, 1, 5, 7, 33, 34, 35] (by decide) (by simp only [f5_L1, List.length_set, Option.map_some, restrict_eq, renS_nil, renS_cons, renB_els, renB_cel, renB_dead, deep_eq, map_ren_enc, ren_agg', ren_tup', ren_fn', ren_int', ren_bool', ren_str', ren_sl', ren_pro', ren_nilp', ren_nilfn', ren_junk', ren_ptr', ren_row', ren_arow', ren_eptr', vm, List.idxOf?_cons, List.idxOf?_nil, beq_self_eq_true, Option.map_none, List.getD_cons_zero, List.getD_cons_succ, ↓wk, ↓wl, nc, evV, wrapBits_eq, ↓reduceIte, Nat.reduceEqDiff, Nat.reduceAdd, Nat.reduceSub, Nat.reduceLeDiff, Nat.reduceLT, Nat.reduceBEq, reduceCtorEq, Int.reduceEq] <;> rfl))) ?_ <;> clear H
        rintro ⟨less_825, v_826⟩ x_ st0_ H hst_
        simp only [f5_L1] at H hst_
        subst hst_
        refine AW.rseq ?_
        try simp only [↓wk, ↓wl, nc, evV, wrapBits_eq, ↓reduceIte, Nat.reduceEqDiff, Nat.reduceAdd, Nat.reduceSub, Nat.reduceLeDiff, Nat.reduceLT, Nat.reduceBEq, reduceCtorEq, Int.reduceEq]
        refine AW.sseq ?_
        refine AW.ifc H (by rfl) ?_ ?_ <;> clear H <;> intro H
        · refine AW.skip ?_
          refine seqQ.norm ?_
          refine AW.bseq ?_
          refine AW.rseq ?_
          try simp only [↓wk, ↓wl, nc, evV, wrapBits_eq, ↓reduceIte, Nat.reduceEqDiff, Nat.reduceAdd, Nat.reduceSub, Nat.reduceLeDiff, Nat.reduceLT, Nat.reduceBEq, reduceCtorEq, Int.reduceEq]
          refine evTs_at (enc := eApiPalette) H (by rfl) (by rfl) ?_ <;> clear H <;> intro x_905 H
          try simp only [eApiPalette, eL, ↓wk, ↓wl, nc, evV, wrapBits_eq, ↓reduceIte, Nat.reduceEqDiff, Nat.reduceAdd, Nat.reduceSub, Nat.reduceLeDiff, Nat.reduceLT, Nat.reduceBEq, reduceCtorEq, Int.reduceEq]
          refine AW.rseq ?_
          try simp only [↓wk, ↓wl, nc, evV, wrapBits_eq, ↓reduceIte, Nat.reduceEqDiff, Nat.reduceAdd, Nat.reduceSub, Nat.reduceLeDiff, Nat.reduceLT, Nat.reduceBEq, reduceCtorEq, Int.reduceEq]
          refine evTs_pure hFn H (fun _ h => f17_ok h) (by rfl) (by rfl) (by rfl) (by rfl) (fun _ => rfl) ?_ <;> clear H <;> intro r_906 H
          try simp only [eL, ↓wk, ↓wl, nc, evV, wrapBits_eq, ↓reduceIte, Nat.reduceEqDiff, Nat.reduceAdd, Nat.reduceSub, Nat.reduceLeDiff, Nat.reduceLT, Nat.reduceBEq, reduceCtorEq, Int.reduceEq]
          refine AW.ifc H (by rfl) ?_ ?_ <;> clear H <;> intro H
          · refine AW.rseq ?_
            try simp only [↓wk, ↓wl, nc, evV, wrapBits_eq, ↓reduceIte, Nat.reduceEqDiff, Nat.reduceAdd, Nat.reduceSub, Nat.reduceLeDiff, Nat.reduceLT, Nat.reduceBEq, reduceCtorEq, Int.reduceEq]
            refine evTs_pure hFn H (fun _ h => f18_im h) (by rfl) (by rfl) (by rfl) (by rfl) (fun _ => rfl) ?_ <;> clear H <;> intro r_907 H
            try simp only [eL, ↓wk, ↓wl, nc, evV, wrapBits_eq, ↓reduceIte, Nat.reduceEqDiff, Nat.reduceAdd, Nat.reduceSub, Nat.reduceLeDiff, Nat.reduceLT, Nat.reduceBEq, reduceCtorEq, Int.reduceEq]
            refine AW.rseq ?_
            try simp only [↓wk, ↓wl, nc, evV, wrapBits_eq, ↓reduceIte, Nat.reduceEqDiff, Nat.reduceAdd, Nat.reduceSub, Nat.reduceLeDiff, Nat.reduceLT, Nat.reduceBEq, reduceCtorEq, Int.reduceEq]
            refine AW.ifc H (by rfl) ?_ ?_ <;> clear H <;> intro H
            · refine AW.rseq ?_
              try simp only [↓wk, ↓wl, nc, evV, wrapBits_eq, ↓reduceIte, Nat.reduceEqDiff, Nat.reduceAdd, Nat.reduceSub, Nat.reduceLeDiff, Nat.reduceLT, Nat.reduceBEq, reduceCtorEq, Int.reduceEq]
              refine AW.ret ?_
              refine blkQ.ret ?_
              refine loopQ.ret H ?_ <;> clear H <;> intro H
              try dsimp only at H
              refine blk0.ret ?_
              refine seqQ.ret ?_
              cases H
              exact hQ _ _ _ _ (.inr rfl) (by simp only [resVs, omap, resV, ↓wk, ↓wl, nc, evV, wrapBits_eq, ↓reduceIte, Nat.reduceEqDiff, Nat.reduceAdd, Nat.reduceSub, Nat.reduceLeDiff, Nat.reduceLT, Nat.reduceBEq, reduceCtorEq, Int.reduceEq]; rfl) (hand_plain (by rfl)) (by first | exact Or.inl rfl | exact Or.inr rfl)
            · refine AW.skip ?_
              refine blkQ.norm ?_
              refine AW.rend ?_
              try simp only [↓wk, ↓wl, nc, evV, wrapBits_eq, ↓reduceIte, Nat.reduceEqDiff, Nat.reduceAdd, Nat.reduceSub, Nat.reduceLeDiff, Nat.reduceLT, Nat.reduceBEq, reduceCtorEq, Int.reduceEq]
              exact loopQ.next H ((Le.none [] [0, 1, 5, 7, 33, 34, 35] (by decide) (by simp only [f5_L1, List.length_set, Option.map_some, restrict_eq, renS_nil, renS_cons, renB_els, renB_cel, renB_dead, deep_eq, map_ren_enc, ren_agg', ren_tup', ren_fn', ren_int', ren_bool', ren_str', ren_sl', ren_pro', ren_nilp', ren_nilfn', ren_junk', ren_ptr', ren_row', ren_arow', ren_eptr', vm, List.idxOf?_cons, List.idxOf?_nil, beq_self_eq_true, Option.map_none, List.getD_cons_zero, List.getD_cons_succ, ↓wk, ↓wl, nc, evV, wrapBits_eq, ↓reduceIte, Nat.reduceEqDiff, Nat.reduceAdd, Nat.reduceSub, Nat.reduceLeDiff, Nat.reduceLT, Nat.reduceBEq, reduceCtorEq, Int.reduceEq] <;> rfl)))
          · refine AW.skip ?_
            refine blkQ.norm ?_
            refine AW.rend ?_
            try simp only [↓wk, ↓wl, nc, evV, wrapBits_eq, ↓reduceIte, Nat.reduceEqDiff, Nat.reduceAdd, Nat.reduceSub, Nat.reduceLeDiff, Nat.reduceLT, Nat.reduceBEq, reduceCtorEq, Int.reduceEq]
            exact loopQ.next H ((Le.none [] [0, 1, 5, 7, 33, 34, 35] (by decide) (by simp only [f5_L1, List.length_set, Option.map_some, restrict_eq, renS_nil, renS_cons, renB_els, renB_cel, renB_dead, deep_eq, map_ren_enc, ren_agg', ren_tup', ren_fn', ren_int', ren_bool', ren_str', ren_sl', ren_pro', ren_nilp', ren_nilfn', ren_junk', ren_ptr', ren_row', ren_arow', ren_eptr', vm, List.idxOf?_cons, List.idxOf?_nil, beq_self_eq_true, Option.map_none, List.getD_cons_zero, List.getD_cons_succ, ↓wk, ↓wl, nc, evV, wrapBits_eq, ↓reduceIte, Nat.reduceEqDiff, Nat.reduceAdd, Nat.reduceSub, Nat.reduceLeDiff, Nat.reduceLT, Nat.reduceBEq, reduceCtorEq, Int.reduceEq] <;> rfl)))
        · refine AW.exit ?_
          refine seqQ.exit ?_
          refine loopQ.exit H ?_ <;> clear H <;> intro H
          try dsimp only at H
          refine blk0.here ?_
          refine seqQ.norm ?_
          refine AW.rseq ?_
          try simp only [↓wk, ↓wl, nc, evV, wrapBits_eq, ↓reduceIte, Nat.reduceEqDiff, Nat.reduceAdd, Nat.reduceSub, Nat.reduceLeDiff, Nat.reduceLT, Nat.reduceBEq, reduceCtorEq, Int.reduceEq]
          refine evTs_pure hFn H (fun _ h => f12_im h) (by rfl) (by rfl) (by rfl) (by rfl) (fun _ => rfl) ?_ <;> clear H <;> intro r_908 H
          try simp only [eL, ↓wk, ↓wl, nc, evV, wrapBits_eq, ↓reduceIte, Nat.reduceEqDiff, Nat.reduceAdd, Nat.reduceSub, Nat.reduceLeDiff, Nat.reduceLT, Nat.reduceBEq, reduceCtorEq, Int.reduceEq]
          refine AW.rseq ?_
          try simp only [↓wk, ↓wl, nc, evV, wrapBits_eq, ↓reduceIte, Nat.reduceEqDiff, Nat.reduceAdd, Nat.reduceSub, Nat.reduceLeDiff, Nat.reduceLT, Nat.reduceBEq, reduceCtorEq, Int.reduceEq]
          refine evTs_pure hFn H (fun _ h => f12_im h) (by rfl) (by rfl) (by rfl) (by rfl) (fun _ => rfl) ?_ <;> clear H <;> intro r_909 H
          try simp only [eL, ↓wk, ↓wl, nc, evV, wrapBits_eq, ↓reduceIte, Nat.reduceEqDiff, Nat.reduceAdd, Nat.reduceSub, Nat.reduceLeDiff, Nat.reduceLT, Nat.reduceBEq, reduceCtorEq, Int.reduceEq]
          refine AW.sseq ?_
          refine AW.rseq ?_
          try simp only [↓wk, ↓wl, nc, evV, wrapBits_eq, ↓reduceIte, Nat.reduceEqDiff, Nat.reduceAdd, Nat.reduceSub, Nat.reduceLeDiff, Nat.reduceLT, Nat.reduceBEq, reduceCtorEq, Int.reduceEq]
          refine AW.bend ?_
          refine AW.iter H ((Le.none [] [1, 6, 10, 11, 12, 67, 68, 69] (by decide) (by simp only [f5_L2, List.length_set, Option.map_some, restrict_eq, renS_nil, renS_cons, renB_els, renB_cel, renB_dead, deep_eq, map_ren_enc, ren_agg', ren_tup', ren_fn', ren_int', ren_bool', ren_str', ren_sl', ren_pro', ren_nilp', ren_nilfn', ren_junk', ren_ptr', ren_row', ren_arow', ren_eptr', vm, List.idxOf?_cons, List.idxOf?_nil, beq_self_eq_true, Option.map_none, List.getD_cons_zero, List.getD_cons_succ, ↓wk, ↓wl, nc, evV, wrapBits_eq, ↓reduceIte, Nat.reduceEqDiff, Nat.reduceAdd, Nat.reduceSub, Nat.reduceLeDiff, Nat.reduceLT, Nat.reduceBEq, reduceCtorEq, Int.reduceEq] <;> rfl))) ?_ <;> clear H
          rintro v_923 x_ st0_ H hst_
          simp only [f5_L2] at H hst_
          subst hst_
          refine AW.rseq ?_
          try simp only [↓wk, ↓wl, nc, evV, wrapBits_eq, ↓reduceIte, Nat.reduceEqDiff, Nat.reduceAdd, Nat.reduceSub, Nat.reduceLeDiff, Nat.reduceLT, Nat.reduceBEq, reduceCtorEq, Int.reduceEq]
          refine AW.sseq ?_
          refine AW.ifc H (by rfl) ?_ ?_ <;> clear H <;> intro H
          · refine AW.skip ?_
            refine seqQ.norm ?_
            refine AW.bseq ?_
            refine AW.rseq ?_
            try simp only [↓wk, ↓wl, nc, evV, wrapBits_eq, ↓reduceIte, Nat.reduceEqDiff, Nat.reduceAdd, Nat.reduceSub, Nat.reduceLeDiff, Nat.reduceLT, Nat.reduceBEq, reduceCtorEq, Int.reduceEq]
            refine evTs_at (enc := (AV.int .i64)) H (by rfl) (by rfl) ?_ <;> clear H <;> intro x_928 H
            try simp only [↓wk, ↓wl, nc, evV, wrapBits_eq, ↓reduceIte, Nat.reduceEqDiff, Nat.reduceAdd, Nat.reduceSub, Nat.reduceLeDiff, Nat.reduceLT, Nat.reduceBEq, reduceCtorEq, Int.reduceEq]
            refine AW.rseq ?_
            try simp only [↓wk, ↓wl, nc, evV, wrapBits_eq, ↓reduceIte, Nat.reduceEqDiff, Nat.reduceAdd, Nat.reduceSub, Nat.reduceLeDiff, Nat.reduceLT, Nat.reduceBEq, reduceCtorEq, Int.reduceEq]
            refine evTs_flat hFn H (fun _ h => f19_20_ok h) (by rfl) (by rfl) (by simp only [deep_eq, imm_simps, imm_rowE, imm_ptrE, imm_enc, omap_simps, take_map_len, take_map_set, take_map_set2, le_refl_true, Nat.zero_add, and_true, true_and, List.drop_zero, Option.map_some, ↓wk, ↓wl, nc, evV, wrapBits_eq, ↓reduceIte, Nat.reduceEqDiff, Nat.reduceAdd, Nat.reduceSub, Nat.reduceLeDiff, Nat.reduceLT, Nat.reduceBEq, reduceCtorEq, Int.reduceEq]; rfl) (by rfl) (fun _ => rfl) (fun _ => rfl) ?_ <;> clear H <;> intro r_929 H
            try simp only [eL, ↓wk, ↓wl, nc, evV, wrapBits_eq, ↓reduceIte, Nat.reduceEqDiff, Nat.reduceAdd, Nat.reduceSub, Nat.reduceLeDiff, Nat.reduceLT, Nat.reduceBEq, reduceCtorEq, Int.reduceEq]
            refine AW.ifc H (by rfl) ?_ ?_ <;> clear H <;> intro H
            · refine AW.rseq ?_
              try simp only [↓wk, ↓wl, nc, evV, wrapBits_eq, ↓reduceIte, Nat.reduceEqDiff, Nat.reduceAdd, Nat.reduceSub, Nat.reduceLeDiff, Nat.reduceLT, Nat.reduceBEq, reduceCtorEq, Int.reduceEq]
              refine AW.ret ?_
              refine blkQ.ret ?_
              refine loopQ.ret H ?_ <;> clear H <;> intro H
              try dsimp only at H
              refine blk0.ret ?_
              refine seqQ.ret ?_
              cases H
              exact hQ _ _ _ _ (.inr rfl) (by simp only [resVs, omap, resV, ↓wk, ↓wl, nc, evV, wrapBits_eq, ↓reduceIte, Nat.reduceEqDiff, Nat.reduceAdd, Nat.reduceSub, Nat.reduceLeDiff, Nat.reduceLT, Nat.reduceBEq, reduceCtorEq, Int.reduceEq]; rfl) (hand_plain (by rfl)) (by first | exact Or.inl rfl | exact Or.inr rfl)
            · refine AW.skip ?_
              refine blkQ.norm ?_
              refine AW.rend ?_
              try simp only [↓wk, ↓wl, nc, evV, wrapBits_eq, ↓reduceIte, Nat.reduceEqDiff, Nat.reduceAdd, Nat.reduceSub, Nat.reduceLeDiff, Nat.reduceLT, Nat.reduceBEq, reduceCtorEq, Int.reduceEq]
              exact loopQ.next H ((Le.none [] [1, 6, 10, 11, 12, 67, 68, 69] (by decide) (by simp only [f5_L2, List.length_set, Option.map_some, restrict_eq, renS_nil, renS_cons, renB_els, renB_cel, renB_dead, deep_eq, map_ren_enc, ren_agg', ren_tup', ren_fn', ren_int', ren_bool', ren_str', ren_sl', ren_pro', ren_nilp', ren_nilfn', ren_junk', ren_ptr', ren_row', ren_arow', ren_eptr', vm, List.idxOf?_cons, List.idxOf?_nil, beq_self_eq_true, Option.map_none, List.getD_cons_zero, List.getD_cons_succ, ↓wk, ↓wl, nc, evV, wrapBits_eq, ↓reduceIte, Nat.reduceEqDiff, Nat.reduceAdd, Nat.reduceSub, Nat.reduceLeDiff, Nat.reduceLT, Nat.reduceBEq, reduceCtorEq, Int.reduceEq] <;> rfl)))
          · refine AW.exit ?_
            refine seqQ.exit ?_
            refine loopQ.exit H ?_ <;> clear H <;> intro H
            try dsimp only at H
            refine blk0.here ?_
            refine seqQ.norm ?_
            refine AW.rseq ?_
            try simp only [↓wk, ↓wl, nc, evV, wrapBits_eq, ↓reduceIte, Nat.reduceEqDiff, Nat.reduceAdd, Nat.reduceSub, Nat.reduceLeDiff, Nat.reduceLT, Nat.reduceBEq, reduceCtorEq, Int.reduceEq]
            refine evTs_ifg H (by rfl) ?_ ?_ <;> clear H <;> intro H
            · try simp only [↓wk, ↓wl, nc, evV, wrapBits_eq, ↓reduceIte, Nat.reduceEqDiff, Nat.reduceAdd, Nat.reduceSub, Nat.reduceLeDiff, Nat.reduceLT, Nat.reduceBEq, reduceCtorEq, Int.reduceEq]
              refine evTs_ifg H (by rfl) ?_ ?_ <;> clear H <;> intro H
              · try simp only [↓wk, ↓wl, nc, evV, wrapBits_eq, ↓reduceIte, Nat.reduceEqDiff, Nat.reduceAdd, Nat.reduceSub, Nat.reduceLeDiff, Nat.reduceLT, Nat.reduceBEq, reduceCtorEq, Int.reduceEq]
                refine evTs_pure hFn H (fun _ h => f21_ok h) (by rfl) (by rfl) (by rfl) (by rfl) (fun _ => rfl) ?_ <;> clear H <;> intro r_930 H
                try simp only [eL, ↓wk, ↓wl, nc, evV, wrapBits_eq, ↓reduceIte, Nat.reduceEqDiff, Nat.reduceAdd, Nat.reduceSub, Nat.reduceLeDiff, Nat.reduceLT, Nat.reduceBEq, reduceCtorEq, Int.reduceEq]
                refine evTs_ifg H (by rfl) ?_ ?_ <;> clear H <;> intro H
                · try simp only [↓wk, ↓wl, nc, evV, wrapBits_eq, ↓reduceIte, Nat.reduceEqDiff, Nat.reduceAdd, Nat.reduceSub, Nat.reduceLeDiff, Nat.reduceLT, Nat.reduceBEq, reduceCtorEq, Int.reduceEq]
                  refine evTs_pure hFn H (fun _ h => f8_ok h) (by rfl) (by rfl) (by rfl) (by rfl) (fun _ => rfl) ?_ <;> clear H <;> intro r_931 H
                  try simp only [eL, ↓wk, ↓wl, nc, evV, wrapBits_eq, ↓reduceIte, Nat.reduceEqDiff, Nat.reduceAdd, Nat.reduceSub, Nat.reduceLeDiff, Nat.reduceLT, Nat.reduceBEq, reduceCtorEq, Int.reduceEq]
                  refine AW.ret ?_
                  cases H
                  exact hQ _ _ _ _ (.inr rfl) (by simp only [resVs, omap, resV, ↓wk, ↓wl, nc, evV, wrapBits_eq, ↓reduceIte, Nat.reduceEqDiff, Nat.reduceAdd, Nat.reduceSub, Nat.reduceLeDiff, Nat.reduceLT, Nat.reduceBEq, reduceCtorEq, Int.reduceEq]; rfl) (hand_plain (by rfl)) (by first | exact Or.inl rfl | exact Or.inr rfl)
                · try simp only [↓wk, ↓wl, nc, evV, wrapBits_eq, ↓reduceIte, Nat.reduceEqDiff, Nat.reduceAdd, Nat.reduceSub, Nat.reduceLeDiff, Nat.reduceLT, Nat.reduceBEq, reduceCtorEq, Int.reduceEq]
                  refine AW.ret ?_
                  cases H
                  exact hQ _ _ _ _ (.inr rfl) (by simp only [resVs, omap, resV, ↓wk, ↓wl, nc, evV, wrapBits_eq, ↓reduceIte, Nat.reduceEqDiff, Nat.reduceAdd, Nat.reduceSub, Nat.reduceLeDiff, Nat.reduceLT, Nat.reduceBEq, reduceCtorEq, Int.reduceEq]; rfl) (hand_plain (by rfl)) (by first | exact Or.inl rfl | exact Or.inr rfl)
              · try simp only [↓wk, ↓wl, nc, evV, wrapBits_eq, ↓reduceIte, Nat.reduceEqDiff, Nat.reduceAdd, Nat.reduceSub, Nat.reduceLeDiff, Nat.reduceLT, Nat.reduceBEq, reduceCtorEq, Int.reduceEq]
                refine AW.ret ?_
                cases H
                exact hQ _ _ _ _ (.inr rfl) (by simp only [resVs, omap, resV, ↓wk, ↓wl, nc, evV, wrapBits_eq, ↓reduceIte, Nat.reduceEqDiff, Nat.reduceAdd, Nat.reduceSub, Nat.reduceLeDiff, Nat.reduceLT, Nat.reduceBEq, reduceCtorEq, Int.reduceEq]; rfl) (hand_plain (by rfl)) (by first | exact Or.inl rfl | exact Or.inr rfl)
            · try simp only [↓wk, ↓wl, nc, evV, wrapBits_eq, ↓reduceIte, Nat.reduceEqDiff, Nat.reduceAdd, Nat.reduceSub, Nat.reduceLeDiff, Nat.reduceLT, Nat.reduceBEq, reduceCtorEq, Int.reduceEq]
              refine AW.ret ?_
              cases H
              exact hQ _ _ _ _ (.inr rfl) (by simp only [resVs, omap, resV, ↓wk, ↓wl, nc, evV, wrapBits_eq, ↓reduceIte, Nat.reduceEqDiff, Nat.reduceAdd, Nat.reduceSub, Nat.reduceLeDiff, Nat.reduceLT, Nat.reduceBEq, reduceCtorEq, Int.reduceEq]; rfl) (hand_plain (by rfl)) (by first | exact Or.inl rfl | exact Or.inr rfl)
def c57_0 : C := .cond (.t 4) (.seq (.reg [iI 2 (.mv (.c (.sl 2 true [])))]) .ret) (.skip)
def c57_1 : C := .seq (.reg [iI 5 (.mksl 2 0 (.agg [(.int .i64 0), (.sl 3 true [])]) []), iI 6 (.mv (.t 0)), iI 7 (.append 2 32 (.t 5) (.t 6)), iI 2 (.mv (.t 7))]) .ret
def c57_2 : C := .seq (.seq (.reg [iI 3 (.mv (.t 0)), iI 4 (.isnil false (.t 3))]) c57_0) c57_1
def ir57 : C := .seq (.reg [iI 2 (.mv (.c (.sl 2 true [])))]) c57_2
theorem fd57 : fd? Try.prog 57 = some (8, [.slot 2], ir57) := by kernel_rfl
noncomputable def f57 (s_978 : (List ApiPalette)) : Option ((List ApiPalette)) :=
  (nil? (s_978 : List ApiPalette) false fun b_979 => (if b_979 = true then (some []) else (app? 32 [] s_978).bind fun out_980 => (some out_980)))
theorem f57_ok {s_978 : (List ApiPalette)} {r_ : (List ApiPalette)} (H : f57 s_978 = some r_) : Pure Try.prog 57 [.sl 2 false (s_978.map eApiPalette)] (· = .fr 2 (r_.map eApiPalette)) := by
  refine Pure.walk3 fd57 (some 0) (Nat.le_of_ble_eq_true rfl) (by rfl) fun Q hQ => ?_
  simp only [f57] at H
  refine AW.rseq ?_
  try simp only [↓wk, ↓wl, nc, evV, wrapBits_eq, ↓reduceIte, Nat.reduceEqDiff, Nat.reduceAdd, Nat.reduceSub, Nat.reduceLeDiff, Nat.reduceLT, Nat.reduceBEq, reduceCtorEq, Int.reduceEq]
  refine AW.sseq ?_
  refine AW.rseq ?_
  try simp only [↓wk, ↓wl, nc, evV, wrapBits_eq, ↓reduceIte, Nat.reduceEqDiff, Nat.reduceAdd, Nat.reduceSub, Nat.reduceLeDiff, Nat.reduceLT, Nat.reduceBEq, reduceCtorEq, Int.reduceEq]
  refine evTs_isnil (enc := eApiPalette) H (by rfl) ?_ <;> clear H <;> intro b_979 H
  try simp only [↓wk, ↓wl, nc, evV, wrapBits_eq, ↓reduceIte, Nat.reduceEqDiff, Nat.reduceAdd, Nat.reduceSub, Nat.reduceLeDiff, Nat.reduceLT, Nat.reduceBEq, reduceCtorEq, Int.reduceEq]
  refine AW.ifc H (by rfl) ?_ ?_ <;> clear H <;> intro H
  · refine AW.rseq ?_
    try simp only [↓wk, ↓wl, nc, evV, wrapBits_eq, ↓reduceIte, Nat.reduceEqDiff, Nat.reduceAdd, Nat.reduceSub, Nat.reduceLeDiff, Nat.reduceLT, Nat.reduceBEq, reduceCtorEq, Int.reduceEq]
    refine AW.ret ?_
    refine seqQ.ret ?_
    cases H
    exact hQ _ _ _ _ (.inr rfl) (by simp only [resVs, omap, resV, ↓wk, ↓wl, nc, evV, wrapBits_eq, ↓reduceIte, Nat.reduceEqDiff, Nat.reduceAdd, Nat.reduceSub, Nat.reduceLeDiff, Nat.reduceLT, Nat.reduceBEq, reduceCtorEq, Int.reduceEq]; rfl) hand_10 (by first | exact Or.inl rfl | exact Or.inr rfl)
  · refine AW.skip ?_
    refine seqQ.norm ?_
    refine AW.rseq ?_
    try simp only [↓wk, ↓wl, nc, evV, wrapBits_eq, ↓reduceIte, Nat.reduceEqDiff, Nat.reduceAdd, Nat.reduceSub, Nat.reduceLeDiff, Nat.reduceLT, Nat.reduceBEq, reduceCtorEq, Int.reduceEq]
    refine evTs_app0 (enc := eApiPalette) H (by rfl) (by rfl) ?_ <;> clear H <;> intro out_980 H
    try simp only [↓wk, ↓wl, nc, evV, wrapBits_eq, ↓reduceIte, Nat.reduceEqDiff, Nat.reduceAdd, Nat.reduceSub, Nat.reduceLeDiff, Nat.reduceLT, Nat.reduceBEq, reduceCtorEq, Int.reduceEq]
    refine AW.ret ?_
    cases H
    exact hQ _ _ _ _ (.inr rfl) (by simp only [resVs, omap, resV, ↓wk, ↓wl, nc, evV, wrapBits_eq, ↓reduceIte, Nat.reduceEqDiff, Nat.reduceAdd, Nat.reduceSub, Nat.reduceLeDiff, Nat.reduceLT, Nat.reduceBEq, reduceCtorEq, Int.reduceEq]; rfl) (hand_1 (by rfl) (by simp) (enc_all _)) (by first | exact Or.inl rfl | exact Or.inr rfl)
theorem f57_im {s_978 : (List ApiPalette)} {r_ : (List ApiPalette)} (H : f57 s_978 = some r_) : Pure Try.prog 57 [.sl 2 false (s_978.map eApiPalette)] (· = .sl 2 false (r_.map eApiPalette)) := (f57_ok H).unfr (by first | exact enc_fits _ | simp only [frFits, List.all_cons, List.all_nil, enc_fits, Bool.and_self])
theorem ins58 : fd? Try.prog 58 = some (95, [.slot 6], insC 2 32 (.agg [(.int .i64 0), (.sl 3 true [])]) 76) := by kernel_rfl
def c23_0 : C := .cond (.t 14) (.seq (.reg [iI 15 (.mv (.t 6)), iI 4 (.mv (.c (.sl 2 true []))), iI 5 (.mv (.t 15))]) .ret) (.skip)
def c23_1 : C := .seq (.reg [iI 13 (.mv (.t 6)), iI 14 (.bin .neq (.t 13) (.c (.int .i64 0)))]) c23_0
def c23_2 : C := .cond (.t 20) (.seq (.reg [iI 21 (.mv (.t 7)), iI 4 (.mv (.c (.sl 2 true []))), iI 5 (.mv (.t 21))]) .ret) (.skip)
def c23_3 : C := .seq (.reg [iI 19 (.mv (.t 7)), iI 20 (.bin .neq (.t 19) (.c (.int .i64 0)))]) c23_2
def c23_4 : C := .seq (.reg [iI 36 (.mv (.t 10)), iI 4 (.mv (.t 36)), iI 5 (.mv (.c (.int .i64 0)))]) .ret
def c23_5 : C := .cond (.t 31) (.seq (.reg [iI 32 (.mv (.t 10)), iI 33 (.mv (.t 8)), iI 34 (.load 2 (.t 3)), iI 35 (.iaddr 2 (.t 32) (.t 33)), iN (.store 2 (.t 35) (.t 34))]) c23_4) (.skip)
def c23_6 : C := .cond (.t 39) (.seq (.reg [iI 4 (.mv (.c (.sl 2 true []))), iI 5 (.mv (.c (.int .i64 5)))]) .ret) (.skip)
def c23_7 : C := .seq (.reg [iI 40 (.mv (.t 10)), iI 41 (.mv (.t 8)), iI 42 (.load 2 (.t 3)), iI 43 (.mksl 2 1 (.agg [(.int .i64 0), (.sl 3 true [])]) [(0, (.t 42))]), iI 44 (.call (.c (.fn 58 [])) [(.t 40), (.t 41), (.t 43)]), iI 4 (.mv (.t 44)), iI 5 (.mv (.c (.int .i64 0)))]) .ret
def c23_8 : C := .seq (.seq (.reg [iI 37 (.mv (.t 0)), iI 38 (.len 0 (.t 37)), iI 39 (.bin .eql (.t 38) (.c (.int .i64 32)))]) c23_6) c23_7
def c23_9 : C := .seq (.seq (.reg [iI 31 (.mv (.t 9))]) c23_5) c23_8
def c23_10 : C := .seq (.reg [iI 29 (.mv (.t 0)), iI 30 (.call (.c (.fn 57 [])) [(.t 29)]), iI 10 (.mv (.t 30))]) c23_9
def c23_11 : C := .seq (.reg [iI 23 (.mv (.t 0)), iI 24 (.faddr 0 (.t 3)), iI 25 (.load 0 (.t 24)), iI 26 (.call (.c (.fn 52 [])) [(.t 23), (.t 25)]), iI 22 (.mv (.t 26)), iI 27 (.ext (.t 22) 0), iI 28 (.ext (.t 22) 1), iI 8 (.mv (.t 27)), iI 9 (.mv (.t 28))]) c23_10
def c23_12 : C := .seq (.seq (.reg [iI 16 (.load 2 (.t 3)), iI 17 (.mksl 2 1 (.agg [(.int .i64 0), (.sl 3 true [])]) [(0, (.t 16))]), iI 18 (.call (.c (.fn 32 [])) [(.t 17)]), iI 7 (.mv (.t 18))]) c23_3) c23_11
def c23_13 : C := .seq (.seq (.reg [iI 11 (.mv (.t 0)), iI 12 (.call (.c (.fn 32 [])) [(.t 11)]), iI 6 (.mv (.t 12))]) c23_1) c23_12
def ir23 : C := .seq (.reg [iI 3 (.box (.t 1)), iI 4 (.mv (.c (.sl 2 true []))), iI 5 (.mv (.c (.int .i64 0)))]) c23_13
theorem fd23 : fd? Try.prog 23 = some (45, [.slot 4, .slot 5], ir23) := by kernel_rfl
noncomputable def f23 (l_971 : (List ApiPalette)) (x_972 : ApiPalette) : Option ((List ApiPalette) × Int) :=
  (f32 l_971).bind fun r_974 => (if (decide (r_974 ≠ 0)) = true then (some ([], r_974)) else (f32 ([x_972])).bind fun r_976 => (if (decide (r_976 ≠ 0)) = true then (some ([], r_976)) else (f52 l_971 x_972.fNumber).bind fun r_977 => (f57 l_971).bind fun r_981 => (if r_977.2 = true then (at? r_981 r_977.1).bind fun x_982 => (some ((r_981.set r_977.1.toNat x_972), 0)) else (if (decide (((l_971.length : Nat) : Int) = 32)) = true then (some ([], 5)) else (ins? 32 r_981 r_977.1 x_972).bind fun v_984 => (some (v_984, 0))))))
theorem f23_ok {l_971 : (List ApiPalette)} {x_972 : ApiPalette} {r_ : (List ApiPalette) × Int} (H : f23 l_971 x_972 = some r_) : Pure Try.prog 23 [.sl 2 false (l_971.map eApiPalette), .agg [.int .i64 x_972.fNumber, .sl 3 false (x_972.fHues.map eApiHue)]] (· = .tup [.fr 2 (r_.1.map eApiPalette), .int .i64 r_.2]) := by
  refine Pure.walk3 fd23 (some 0) (Nat.le_of_ble_eq_true rfl) (by rfl) fun Q hQ => ?_
  simp only [f23] at H
  refine AW.rseq ?_
  try simp only [↓wk, ↓wl, ncs, evV, wrapBits_eq, ↓reduceIte, Nat.reduceEqDiff, Nat.reduceAdd, Nat.reduceSub, Nat.reduceLeDiff, Nat.reduceLT, Nat.reduceBEq, reduceCtorEq, Int.reduceEq]
  refine AW.sseq ?_
  refine AW.rseq ?_
  try simp only [↓wk, ↓wl, ncs, evV, wrapBits_eq, ↓reduceIte, Nat.reduceEqDiff, Nat.reduceAdd, Nat.reduceSub, Nat.reduceLeDiff, Nat.reduceLT, Nat.reduceBEq, reduceCtorEq, Int.reduceEq]
  refine evTs_pure hFn H (fun _ h => f32_ok h) (by rfl) (by rfl) (by rfl) (by rfl) (fun _ => rfl) ?_ <;> clear H <;> intro r_974 H
  try simp only [eL, ↓wk, ↓wl, ncs, evV, wrapBits_eq, ↓reduceIte, Nat.reduceEqDiff, Nat.reduceAdd, Nat.reduceSub, Nat.reduceLeDiff, Nat.reduceLT, Nat.reduceBEq, reduceCtorEq, Int.reduceEq]
  refine AW.rseq ?_
  try simp only [↓wk, ↓wl, ncs, evV, wrapBits_eq, ↓reduceIte, Nat.reduceEqDiff, Nat.reduceAdd, Nat.reduceSub, Nat.reduceLeDiff, Nat.reduceLT, Nat.reduceBEq, reduceCtorEq, Int.reduceEq]
  refine AW.ifc H (by rfl) ?_ ?_ <;> clear H <;> intro H
  · refine AW.rseq ?_
    try simp only [↓wk, ↓wl, ncs, evV, wrapBits_eq, ↓reduceIte, Nat.reduceEqDiff, Nat.reduceAdd, Nat.reduceSub, Nat.reduceLeDiff, Nat.reduceLT, Nat.reduceBEq, reduceCtorEq, Int.reduceEq]
    refine AW.ret ?_
    refine seqQ.ret ?_
    cases H
    exact hQ _ _ _ _ (.inr rfl) (by simp only [resVs, omap, resV, ↓wk, ↓wl, ncs, evV, wrapBits_eq, ↓reduceIte, Nat.reduceEqDiff, Nat.reduceAdd, Nat.reduceSub, Nat.reduceLeDiff, Nat.reduceLT, Nat.reduceBEq, reduceCtorEq, Int.reduceEq]; rfl) (hand_k0 (by rfl) (by rfl)) (by first | exact Or.inl rfl | exact Or.inr rfl)
  · refine AW.skip ?_
    refine seqQ.norm ?_
    refine AW.sseq ?_
    refine AW.rseq ?_
    try simp only [↓wk, ↓wl, ncs, evV, wrapBits_eq, ↓reduceIte, Nat.reduceEqDiff, Nat.reduceAdd, Nat.reduceSub, Nat.reduceLeDiff, Nat.reduceLT, Nat.reduceBEq, reduceCtorEq, Int.reduceEq]
    refine evTs_pure hFn H (fun _ h => f32_ok h) (by rfl) (by rfl) (by rfl) (by rfl) (fun _ => rfl) ?_ <;> clear H <;> intro r_976 H
    try simp only [eL, ↓wk, ↓wl, ncs, evV, wrapBits_eq, ↓reduceIte, Nat.reduceEqDiff, Nat.reduceAdd, Nat.reduceSub, Nat.reduceLeDiff, Nat.reduceLT, Nat.reduceBEq, reduceCtorEq, Int.reduceEq]
    refine AW.rseq ?_
    try simp only [↓wk, ↓wl, ncs, evV, wrapBits_eq, ↓reduceIte, Nat.reduceEqDiff, Nat.reduceAdd, Nat.reduceSub, Nat.reduceLeDiff, Nat.reduceLT, Nat.reduceBEq, reduceCtorEq, Int.reduceEq]
    refine AW.ifc H (by rfl) ?_ ?_ <;> clear H <;> intro H
    · refine AW.rseq ?_
      try simp only [↓wk, ↓wl, ncs, evV, wrapBits_eq, ↓reduceIte, Nat.reduceEqDiff, Nat.reduceAdd, Nat.reduceSub, Nat.reduceLeDiff, Nat.reduceLT, Nat.reduceBEq, reduceCtorEq, Int.reduceEq]
      refine AW.ret ?_
      refine seqQ.ret ?_
      cases H
      exact hQ _ _ _ _ (.inr rfl) (by simp only [resVs, omap, resV, ↓wk, ↓wl, ncs, evV, wrapBits_eq, ↓reduceIte, Nat.reduceEqDiff, Nat.reduceAdd, Nat.reduceSub, Nat.reduceLeDiff, Nat.reduceLT, Nat.reduceBEq, reduceCtorEq, Int.reduceEq]; rfl) (hand_k0 (by rfl) (by rfl)) (by first | exact Or.inl rfl | exact Or.inr rfl)
    · refine AW.skip ?_
      refine seqQ.norm ?_
      refine AW.rseq ?_
      try simp only [↓wk, ↓wl, ncs, evV, wrapBits_eq, ↓reduceIte, Nat.reduceEqDiff, Nat.reduceAdd, Nat.reduceSub, Nat.reduceLeDiff, Nat.reduceLT, Nat.reduceBEq, reduceCtorEq, Int.reduceEq]
      refine evTs_pure hFn H (fun _ h => f52_ok h) (by rfl) (by rfl) (by rfl) (by rfl) (fun _ => rfl) ?_ <;> clear H <;> intro r_977 H
      try simp only [eL, ↓wk, ↓wl, ncs, evV, wrapBits_eq, ↓reduceIte, Nat.reduceEqDiff, Nat.reduceAdd, Nat.reduceSub, Nat.reduceLeDiff, Nat.reduceLT, Nat.reduceBEq, reduceCtorEq, Int.reduceEq]
      refine AW.rseq ?_
      try simp only [↓wk, ↓wl, ncs, evV, wrapBits_eq, ↓reduceIte, Nat.reduceEqDiff, Nat.reduceAdd, Nat.reduceSub, Nat.reduceLeDiff, Nat.reduceLT, Nat.reduceBEq, reduceCtorEq, Int.reduceEq]
      refine evTs_fr H (fun _ h => f57_ok h) (by rfl) (by rfl) (by rfl) (by rfl) (fun _ => rfl) ?_ <;> clear H <;> intro r_981 H
      try simp only [eL, ↓wk, ↓wl, ncs, evV, wrapBits_eq, ↓reduceIte, Nat.reduceEqDiff, Nat.reduceAdd, Nat.reduceSub, Nat.reduceLeDiff, Nat.reduceLT, Nat.reduceBEq, reduceCtorEq, Int.reduceEq]
      refine AW.sseq ?_
      refine AW.rseq ?_
      try simp only [↓wk, ↓wl, ncs, evV, wrapBits_eq, ↓reduceIte, Nat.reduceEqDiff, Nat.reduceAdd, Nat.reduceSub, Nat.reduceLeDiff, Nat.reduceLT, Nat.reduceBEq, reduceCtorEq, Int.reduceEq]
      refine AW.ifc H (by rfl) ?_ ?_ <;> clear H <;> intro H
      · refine AW.rseq ?_
        try simp only [↓wk, ↓wl, ncs, evV, wrapBits_eq, ↓reduceIte, Nat.reduceEqDiff, Nat.reduceAdd, Nat.reduceSub, Nat.reduceLeDiff, Nat.reduceLT, Nat.reduceBEq, reduceCtorEq, Int.reduceEq]
        refine evTs_atr (enc := eApiPalette) H (by rfl) (by first | rfl | simp only [List.length_set]) (by rfl) ?_ <;> clear H <;> intro x_982 hx_982 H
        try simp only [eApiPalette, eL, ↓wk, ↓wl, ncs, evV, wrapBits_eq, ↓reduceIte, Nat.reduceEqDiff, Nat.reduceAdd, Nat.reduceSub, Nat.reduceLeDiff, Nat.reduceLT, Nat.reduceBEq, reduceCtorEq, Int.reduceEq, hx_982, eApiPalette, eL]
        refine evTs_stW (enc := eApiPalette) x_972 (by rfl) (by rfl) (by first | exact lt_map hx_982 | (simp only [List.length_set, eApiPalette, eL]; exact lt_map hx_982)) (fun _ => by rfl) ?_
        have hw_983 := set_get hx_982 x_972
        try simp only [eApiPalette, eL, ↓wk, ↓wl, ncs, evV, wrapBits_eq, ↓reduceIte, Nat.reduceEqDiff, Nat.reduceAdd, Nat.reduceSub, Nat.reduceLeDiff, Nat.reduceLT, Nat.reduceBEq, reduceCtorEq, Int.reduceEq, hx_982, eApiPalette, eL, hw_983]
        refine AW.rseq ?_
        try simp only [↓wk, ↓wl, ncs, evV, wrapBits_eq, ↓reduceIte, Nat.reduceEqDiff, Nat.reduceAdd, Nat.reduceSub, Nat.reduceLeDiff, Nat.reduceLT, Nat.reduceBEq, reduceCtorEq, Int.reduceEq, hx_982, eApiPalette, eL, hw_983]
        refine AW.ret ?_
        refine seqQ.ret ?_
        cases H
        exact hQ _ _ _ _ (.inr rfl) (by simp only [resVs, omap, resV, ↓wk, ↓wl, ncs, evV, wrapBits_eq, ↓reduceIte, Nat.reduceEqDiff, Nat.reduceAdd, Nat.reduceSub, Nat.reduceLeDiff, Nat.reduceLT, Nat.reduceBEq, reduceCtorEq, Int.reduceEq, hx_982, eApiPalette, eL, hw_983]; rfl) (hand_k (by rfl) (by rfl) (by simp) (enc_all _) (by rfl)) (by first | exact Or.inl rfl | exact Or.inr rfl)
      · refine AW.skip ?_
        refine seqQ.norm ?_
        refine AW.sseq ?_
        refine AW.rseq ?_
        try simp only [↓wk, ↓wl, ncs, evV, wrapBits_eq, ↓reduceIte, Nat.reduceEqDiff, Nat.reduceAdd, Nat.reduceSub, Nat.reduceLeDiff, Nat.reduceLT, Nat.reduceBEq, reduceCtorEq, Int.reduceEq]
        refine AW.ifc H (by rfl) ?_ ?_ <;> clear H <;> intro H
        · refine AW.rseq ?_
          try simp only [↓wk, ↓wl, ncs, evV, wrapBits_eq, ↓reduceIte, Nat.reduceEqDiff, Nat.reduceAdd, Nat.reduceSub, Nat.reduceLeDiff, Nat.reduceLT, Nat.reduceBEq, reduceCtorEq, Int.reduceEq]
          refine AW.ret ?_
          refine seqQ.ret ?_
          cases H
          exact hQ _ _ _ _ (.inr rfl) (by simp only [resVs, omap, resV, ↓wk, ↓wl, ncs, evV, wrapBits_eq, ↓reduceIte, Nat.reduceEqDiff, Nat.reduceAdd, Nat.reduceSub, Nat.reduceLeDiff, Nat.reduceLT, Nat.reduceBEq, reduceCtorEq, Int.reduceEq]; rfl) (hand_k0 (by rfl) (by rfl)) (by first | exact Or.inl rfl | exact Or.inr rfl)
        · refine AW.skip ?_
          refine seqQ.norm ?_
          refine AW.rseq ?_
          try simp only [↓wk, ↓wl, ncs, evV, wrapBits_eq, ↓reduceIte, Nat.reduceEqDiff, Nat.reduceAdd, Nat.reduceSub, Nat.reduceLeDiff, Nat.reduceLT, Nat.reduceBEq, reduceCtorEq, Int.reduceEq]
          refine evTs_ins (enc := eApiPalette) H ins58 (by rfl) (by rfl) (by first | rfl | simp only [List.length_set]) (by rfl) ?_ <;> clear H <;> intro v_984 H
          try simp only [↓wk, ↓wl, ncs, evV, wrapBits_eq, ↓reduceIte, Nat.reduceEqDiff, Nat.reduceAdd, Nat.reduceSub, Nat.reduceLeDiff, Nat.reduceLT, Nat.reduceBEq, reduceCtorEq, Int.reduceEq]
          refine AW.ret ?_
          cases H
          exact hQ _ _ _ _ (.inr rfl) (by simp only [resVs, omap, resV, ↓wk, ↓wl, ncs, evV, wrapBits_eq, ↓reduceIte, Nat.reduceEqDiff, Nat.reduceAdd, Nat.reduceSub, Nat.reduceLeDiff, Nat.reduceLT, Nat.reduceBEq, reduceCtorEq, Int.reduceEq]; rfl) (hand_k (by rfl) (by rfl) (by simp) (enc_all _) (by rfl)) (by first | exact Or.inl rfl | exact Or.inr rfl)
theorem f23_im {l_971 : (List ApiPalette)} {x_972 : ApiPalette} {r_ : (List ApiPalette) × Int} (H : f23 l_971 x_972 = some r_) : Pure Try.prog 23 [.sl 2 false (l_971.map eApiPalette), .agg [.int .i64 x_972.fNumber, .sl 3 false (x_972.fHues.map eApiHue)]] (· = .tup [.sl 2 false (r_.1.map eApiPalette), .int .i64 r_.2]) := (f23_ok H).unfr (by first | exact enc_fits _ | simp only [frFits, List.all_cons, List.all_nil, enc_fits, Bool.and_self])
noncomputable def f24_L2 (a_1018 : (List ApiPalette)) (i_1077 : Int) (b_1019 : (List ApiPalette)) : Lp (Int) ((Unit) ⊕ (Unit)) where
  body := fun k_1127 => (at? a_1018 i_1077).bind fun x_1135 => (if (decide (k_1127 < ((x_1135.fHues.length : Nat) : Int))) = true then (at? a_1018 i_1077).bind fun x_1136 => (at? x_1136.fHues k_1127).bind fun x_1137 => (at? b_1019 i_1077).bind fun x_1138 => (at? x_1138.fHues k_1127).bind fun x_1139 => (if (!((x_1137.fChannel == x_1139.fChannel) && ((x_1137.fAttr == x_1139.fAttr) && ((x_1137.fLevel == x_1139.fLevel) && true)))) = true then (some (.brk (Sum.inr ()))) else (some (.next (IntKind.i64.wrap (k_1127 + 1))))) else (some (.brk (Sum.inl ()))))
  cst := fun k_1127 => ⟨put (put (put (put (fun _ => .junk) 6 (.int .i64 k_1127)) 5 (.int .i64 i_1077)) 1 (.sl 2 false (b_1019.map eApiPalette))) 0 (.sl 2 false (a_1018.map eApiPalette)), []⟩
noncomputable def f24_L1 (a_1018 : (List ApiPalette)) (b_1019 : (List ApiPalette)) : Lp (Int) ((Unit) ⊕ (Unit)) where
  body := fun i_1077 => (if (decide (i_1077 < ((a_1018.length : Nat) : Int))) = true then (at? a_1018 i_1077).bind fun x_1110 => (at? b_1019 i_1077).bind fun x_1111 => (if (decide (x_1110.fNumber ≠ x_1111.fNumber)) = true then (some (.brk (Sum.inr ()))) else (at? a_1018 i_1077).bind fun x_1112 => (at? b_1019 i_1077).bind fun x_1113 => (if (decide (((x_1112.fHues.length : Nat) : Int) ≠ ((x_1113.fHues.length : Nat) : Int))) = true then (some (.brk (Sum.inr ()))) else ((Lp.run (f24_L2 a_1018 i_1077 b_1019) 0).bind fun r_ => match r_ with | (Sum.inl _) => (some (.next (IntKind.i64.wrap (i_1077 + 1)))) | (Sum.inr _) => (some (.brk (Sum.inr ())))))) else (some (.brk (Sum.inl ()))))
  cst := fun i_1077 => ⟨put (put (put (fun _ => .junk) 5 (.int .i64 i_1077)) 1 (.sl 2 false (b_1019.map eApiPalette))) 0 (.sl 2 false (a_1018.map eApiPalette)), []⟩
def c24_0 : C := .cond (.t 11) (.seq (.reg [iI 4 (.mv (.c (.bool false)))]) .ret) (.skip)
def c24_1 : C := .cond (.t 15) (.skip) (.exit 0)
def c24_2 : C := .cond (.t 43) (.seq (.reg [iI 4 (.mv (.c (.bool false)))]) .ret) (.skip)
def c24_3 : C := .cond (.t 51) (.skip) (.exit 2)
def c24_4 : C := .cond (.t 70) (.seq (.reg [iI 4 (.mv (.c (.bool false)))]) .ret) (.skip)
def c24_5 : C := .reg [iI 52 (.mv (.t 6)), iI 53 (.bin .add (.t 52) (.c (.int .i64 1))), iI 6 (.mv (.t 53))]
def c24_6 : C := .seq (.block 3 (.seq (.reg [iI 54 (.mv (.t 0)), iI 55 (.mv (.t 5)), iI 56 (.iaddr 2 (.t 54) (.t 55)), iI 57 (.faddr 1 (.t 56)), iI 58 (.load 0 (.t 57)), iI 59 (.mv (.t 6)), iI 60 (.iaddr 3 (.t 58) (.t 59)), iI 61 (.load 3 (.t 60)), iI 62 (.mv (.t 1)), iI 63 (.mv (.t 5)), iI 64 (.iaddr 2 (.t 62) (.t 63)), iI 65 (.faddr 1 (.t 64)), iI 66 (.load 0 (.t 65)), iI 67 (.mv (.t 6)), iI 68 (.iaddr 3 (.t 66) (.t 67)), iI 69 (.load 3 (.t 68)), iI 70 (.eqs true [0, 0, 0] (.t 61) (.t 69))]) c24_4)) c24_5
def c24_7 : C := .block 2 (.loop (.seq (.seq (.reg [iI 44 (.mv (.t 6)), iI 45 (.mv (.t 0)), iI 46 (.mv (.t 5)), iI 47 (.iaddr 2 (.t 45) (.t 46)), iI 48 (.faddr 1 (.t 47)), iI 49 (.load 0 (.t 48)), iI 50 (.len 0 (.t 49)), iI 51 (.bin .lss (.t 44) (.t 50))]) c24_3) c24_6))
def c24_8 : C := .seq (.reg [iI 6 (.mv (.c (.int .i64 0)))]) c24_7
def c24_9 : C := .reg [iI 16 (.mv (.t 5)), iI 17 (.bin .add (.t 16) (.c (.int .i64 1))), iI 5 (.mv (.t 17))]
def c24_10 : C := .seq (.block 1 (.seq (.seq (.reg [iI 18 (.mv (.t 0)), iI 19 (.mv (.t 5)), iI 20 (.iaddr 2 (.t 18) (.t 19)), iI 21 (.faddr 0 (.t 20)), iI 22 (.load 0 (.t 21)), iI 23 (.mv (.t 1)), iI 24 (.mv (.t 5)), iI 25 (.iaddr 2 (.t 23) (.t 24)), iI 26 (.faddr 0 (.t 25)), iI 27 (.load 0 (.t 26)), iI 28 (.bin .neq (.t 22) (.t 27)), iI 29 (.mv (.t 28)), iG (some 30) 29 false (.mv (.t 0)), iG (some 31) 29 false (.mv (.t 5)), iG (some 32) 29 false (.iaddr 2 (.t 30) (.t 31)), iG (some 33) 29 false (.faddr 1 (.t 32)), iG (some 34) 29 false (.load 0 (.t 33)), iG (some 35) 29 false (.len 0 (.t 34)), iG (some 36) 29 false (.mv (.t 1)), iG (some 37) 29 false (.mv (.t 5)), iG (some 38) 29 false (.iaddr 2 (.t 36) (.t 37)), iG (some 39) 29 false (.faddr 1 (.t 38)), iG (some 40) 29 false (.load 0 (.t 39)), iG (some 41) 29 false (.len 0 (.t 40)), iG (some 42) 29 false (.bin .neq (.t 35) (.t 41)), iI 43 (.pick (.t 29) (.c (.bool true)) (.t 42))]) c24_2) c24_8)) c24_9
def c24_11 : C := .block 0 (.loop (.seq (.seq (.reg [iI 12 (.mv (.t 5)), iI 13 (.mv (.t 0)), iI 14 (.len 0 (.t 13)), iI 15 (.bin .lss (.t 12) (.t 14))]) c24_1) c24_10))
def c24_12 : C := .seq (.reg [iI 4 (.mv (.c (.bool true)))]) .ret
def c24_13 : C := .seq (.seq (.reg [iI 5 (.mv (.c (.int .i64 0)))]) c24_11) c24_12
def c24_14 : C := .seq (.seq (.reg [iI 7 (.mv (.t 0)), iI 8 (.len 0 (.t 7)), iI 9 (.mv (.t 1)), iI 10 (.len 0 (.t 9)), iI 11 (.bin .neq (.t 8) (.t 10))]) c24_0) c24_13
def ir24 : C := .seq (.reg [iI 4 (.mv (.c (.bool false)))]) c24_14
theorem fd24 : fd? Try.prog 24 = some (71, [.slot 4], ir24) := by kernel_rfl
noncomputable def f24 (a_1018 : (List ApiPalette)) (b_1019 : (List ApiPalette)) : Option (Bool) :=
  (if (decide (((a_1018.length : Nat) : Int) ≠ ((b_1019.length : Nat) : Int))) = true then (some false) else ((Lp.run (f24_L1 a_1018 b_1019) 0).bind fun r_ => match r_ with | (Sum.inl _) => (some true) | (Sum.inr _) => (some false)))
theorem f24_ok {a_1018 : (List ApiPalette)} {b_1019 : (List ApiPalette)} {r_ : Bool} (H : f24 a_1018 b_1019 = some r_) : Pure Try.prog 24 [.sl 2 false (a_1018.map eApiPalette), .sl 2 false (b_1019.map eApiPalette)] (· = .bool r_) := by
  refine Pure.walk3 fd24 none (Nat.le_of_ble_eq_true rfl) (by rfl) fun Q hQ => ?_
  simp only [f24] at H
  refine AW.rseq ?_
  try simp only [↓wk, ↓wl, nc, evV, wrapBits_eq, ↓reduceIte, Nat.reduceEqDiff, Nat.reduceAdd, Nat.reduceSub, Nat.reduceLeDiff, Nat.reduceLT, Nat.reduceBEq, reduceCtorEq, Int.reduceEq]
  refine AW.sseq ?_
  refine AW.rseq ?_
  try simp only [↓wk, ↓wl, nc, evV, wrapBits_eq, ↓reduceIte, Nat.reduceEqDiff, Nat.reduceAdd, Nat.reduceSub, Nat.reduceLeDiff, Nat.reduceLT, Nat.reduceBEq, reduceCtorEq, Int.reduceEq]
  refine AW.ifc H (by rfl) ?_ ?_ <;> clear H <;> intro H
  · refine AW.rseq ?_
    try simp only [↓wk, ↓wl, nc, evV, wrapBits_eq, ↓reduceIte, Nat.reduceEqDiff, Nat.reduceAdd, Nat.reduceSub, Nat.reduceLeDiff, Nat.reduceLT, Nat.reduceBEq, reduceCtorEq, Int.reduceEq]
    refine AW.ret ?_
    refine seqQ.ret ?_
    cases H
    exact hQ _ _ _ _ (.inr rfl) (by simp only [resVs, omap, resV, ↓wk, ↓wl, nc, evV, wrapBits_eq, ↓reduceIte, Nat.reduceEqDiff, Nat.reduceAdd, Nat.reduceSub, Nat.reduceLeDiff, Nat.reduceLT, Nat.reduceBEq, reduceCtorEq, Int.reduceEq]; rfl) (hand_plain (by rfl)) (by first | exact Or.inl rfl | exact Or.inr rfl)
  · refine AW.skip ?_
    refine seqQ.norm ?_
    refine AW.sseq ?_
    refine AW.rseq ?_
    try simp only [↓wk, ↓wl, nc, evV, wrapBits_eq, ↓reduceIte, Nat.reduceEqDiff, Nat.reduceAdd, Nat.reduceSub, Nat.reduceLeDiff, Nat.reduceLT, Nat.reduceBEq, reduceCtorEq, Int.reduceEq]
    refine AW.bend ?_
    refine AW.iter H ((Le.none [] [0, 1, 5] (by decide) (by simp only [f24_L1, List.length_set, Option.map_some, restrict_eq, renS_nil, renS_cons, renB_els, renB_cel, renB_dead, deep_eq, map_ren_enc, ren_agg', ren_tup', ren_fn', ren_int', ren_bool', ren_str', ren_sl', ren_pro', ren_nilp', ren_nilfn', ren_junk', ren_ptr', ren_row', ren_arow', ren_eptr', vm, List.idxOf?_cons, List.idxOf?_nil, beq_self_eq_true, Option.map_none, List.getD_cons_zero, List.getD_cons_succ, ↓wk, ↓wl, nc, evV, wrapBits_eq, ↓reduceIte, Nat.reduceEqDiff, Nat.reduceAdd, Nat.reduceSub, Nat.reduceLeDiff, Nat.reduceLT, Nat.reduceBEq, reduceCtorEq, Int.reduceEq] <;> rfl))) ?_ <;> clear H
    rintro i_1077 x_ st0_ H hst_
    simp only [f24_L1] at H hst_
    subst hst_
    refine AW.sseq ?_
    refine AW.rseq ?_
    try simp only [↓wk, ↓wl, nc, evV, wrapBits_eq, ↓reduceIte, Nat.reduceEqDiff, Nat.reduceAdd, Nat.reduceSub, Nat.reduceLeDiff, Nat.reduceLT, Nat.reduceBEq, reduceCtorEq, Int.reduceEq]
    refine AW.ifc H (by rfl) ?_ ?_ <;> clear H <;> intro H
    · refine AW.skip ?_
      refine seqQ.norm ?_
      refine AW.bseq ?_
      refine AW.sseq ?_
      refine AW.rseq ?_
      try simp only [↓wk, ↓wl, nc, evV, wrapBits_eq, ↓reduceIte, Nat.reduceEqDiff, Nat.reduceAdd, Nat.reduceSub, Nat.reduceLeDiff, Nat.reduceLT, Nat.reduceBEq, reduceCtorEq, Int.reduceEq]
      refine evTs_at (enc := eApiPalette) H (by rfl) (by rfl) ?_ <;> clear H <;> intro x_1110 H
      try simp only [eApiPalette, eL, ↓wk, ↓wl, nc, evV, wrapBits_eq, ↓reduceIte, Nat.reduceEqDiff, Nat.reduceAdd, Nat.reduceSub, Nat.reduceLeDiff, Nat.reduceLT, Nat.reduceBEq, reduceCtorEq, Int.reduceEq]
      refine evTs_at (enc := eApiPalette) H (by rfl) (by rfl) ?_ <;> clear H <;> intro x_1111 H
      try simp only [eApiPalette, eL, ↓wk, ↓wl, nc, evV, wrapBits_eq, ↓reduceIte, Nat.reduceEqDiff, Nat.reduceAdd, Nat.reduceSub, Nat.reduceLeDiff, Nat.reduceLT, Nat.reduceBEq, reduceCtorEq, Int.reduceEq]
      refine evTs_ifg H (by rfl) ?_ ?_ <;> clear H <;> intro H
      · try simp only [↓wk, ↓wl, nc, evV, wrapBits_eq, ↓reduceIte, Nat.reduceEqDiff, Nat.reduceAdd, Nat.reduceSub, Nat.reduceLeDiff, Nat.reduceLT, Nat.reduceBEq, reduceCtorEq, Int.reduceEq]
        refine AW.ift (by rfl) ?_
        refine AW.rseq ?_
        try simp only [↓wk, ↓wl, nc, evV, wrapBits_eq, ↓reduceIte, Nat.reduceEqDiff, Nat.reduceAdd, Nat.reduceSub, Nat.reduceLeDiff, Nat.reduceLT, Nat.reduceBEq, reduceCtorEq, Int.reduceEq]
        refine AW.ret ?_
        refine seqQ.ret ?_
        refine blkQ.ret ?_
        refine loopQ.ret H ?_ <;> clear H <;> intro H
        try dsimp only at H
        refine blk0.ret ?_
        refine seqQ.ret ?_
        cases H
        exact hQ _ _ _ _ (.inr rfl) (by simp only [resVs, omap, resV, ↓wk, ↓wl, nc, evV, wrapBits_eq, ↓reduceIte, Nat.reduceEqDiff, Nat.reduceAdd, Nat.reduceSub, Nat.reduceLeDiff, Nat.reduceLT, Nat.reduceBEq, reduceCtorEq, Int.reduceEq]; rfl) (hand_plain (by rfl)) (by first | exact Or.inl rfl | exact Or.inr rfl)
      · try simp only [↓wk, ↓wl, nc, evV, wrapBits_eq, ↓reduceIte, Nat.reduceEqDiff, Nat.reduceAdd, Nat.reduceSub, Nat.reduceLeDiff, Nat.reduceLT, Nat.reduceBEq, reduceCtorEq, Int.reduceEq]
        refine evTs_at (enc := eApiPalette) H (by rfl) (by rfl) ?_ <;> clear H <;> intro x_1112 H
        try simp only [eApiPalette, eL, ↓wk, ↓wl, nc, evV, wrapBits_eq, ↓reduceIte, Nat.reduceEqDiff, Nat.reduceAdd, Nat.reduceSub, Nat.reduceLeDiff, Nat.reduceLT, Nat.reduceBEq, reduceCtorEq, Int.reduceEq]
        refine evTs_at (enc := eApiPalette) H (by rfl) (by rfl) ?_ <;> clear H <;> intro x_1113 H
        try simp only [eApiPalette, eL, ↓wk, ↓wl, nc, evV, wrapBits_eq, ↓reduceIte, Nat.reduceEqDiff, Nat.reduceAdd, Nat.reduceSub, Nat.reduceLeDiff, Nat.reduceLT, Nat.reduceBEq, reduceCtorEq, Int.reduceEq]
        refine AW.ifc H (by rfl) ?_ ?_ <;> clear H <;> intro H
        · refine AW.rseq ?_
          try simp only [↓wk, ↓wl, nc, evV, wrapBits_eq, ↓reduceIte, Nat.reduceEqDiff, Nat.reduceAdd, Nat.reduceSub, Nat.reduceLeDiff, Nat.reduceLT, Nat.reduceBEq, reduceCtorEq, Int.reduceEq]
          refine AW.ret ?_
          refine seqQ.ret ?_
          refine blkQ.ret ?_
          refine loopQ.ret H ?_ <;> clear H <;> intro H
          try dsimp only at H
          refine blk0.ret ?_
          refine seqQ.ret ?_
          cases H
          exact hQ _ _ _ _ (.inr rfl) (by simp only [resVs, omap, resV, ↓wk, ↓wl, nc, evV, wrapBits_eq, ↓reduceIte, Nat.reduceEqDiff, Nat.reduceAdd, Nat.reduceSub, Nat.reduceLeDiff, Nat.reduceLT, Nat.reduceBEq, reduceCtorEq, Int.reduceEq]; rfl) (hand_plain (by rfl)) (by first | exact Or.inl rfl | exact Or.inr rfl)
        · refine AW.skip ?_
          refine seqQ.norm ?_
          refine AW.rseq ?_
          try simp only [↓wk, ↓wl, nc, evV, wrapBits_eq, ↓reduceIte, Nat.reduceEqDiff, Nat.reduceAdd, Nat.reduceSub, Nat.reduceLeDiff, Nat.reduceLT, Nat.reduceBEq, reduceCtorEq, Int.reduceEq]
          refine AW.bend ?_
          refine AW.iter H ((Le.none [] [0, 1, 5, 6] (by decide) (by simp only [f24_L2, List.length_set, Option.map_some, restrict_eq, renS_nil, renS_cons, renB_els, renB_cel, renB_dead, deep_eq, map_ren_enc, ren_agg', ren_tup', ren_fn', ren_int', ren_bool', ren_str', ren_sl', ren_pro', ren_nilp', ren_nilfn', ren_junk', ren_ptr', ren_row', ren_arow', ren_eptr', vm, List.idxOf?_cons, List.idxOf?_nil, beq_self_eq_true, Option.map_none, List.getD_cons_zero, List.getD_cons_succ, ↓wk, ↓wl, nc, evV, wrapBits_eq, ↓reduceIte, Nat.reduceEqDiff, Nat.reduceAdd, Nat.reduceSub, Nat.reduceLeDiff, Nat.reduceLT, Nat.reduceBEq, reduceCtorEq, Int.reduceEq] <;> rfl))) ?_ <;> clear H
          rintro k_1127 x_ st0_ H hst_
          simp only [f24_L2] at H hst_
          subst hst_
          refine AW.sseq ?_
          refine AW.rseq ?_
          try simp only [↓wk, ↓wl, nc, evV, wrapBits_eq, ↓reduceIte, Nat.reduceEqDiff, Nat.reduceAdd, Nat.reduceSub, Nat.reduceLeDiff, Nat.reduceLT, Nat.reduceBEq, reduceCtorEq, Int.reduceEq]
          refine evTs_at (enc := eApiPalette) H (by rfl) (by rfl) ?_ <;> clear H <;> intro x_1135 H
          try simp only [eApiPalette, eL, ↓wk, ↓wl, nc, evV, wrapBits_eq, ↓reduceIte, Nat.reduceEqDiff, Nat.reduceAdd, Nat.reduceSub, Nat.reduceLeDiff, Nat.reduceLT, Nat.reduceBEq, reduceCtorEq, Int.reduceEq]
          refine AW.ifc H (by rfl) ?_ ?_ <;> clear H <;> intro H
          · refine AW.skip ?_
            refine seqQ.norm ?_
            refine AW.bseq ?_
            refine AW.rseq ?_
            try simp only [↓wk, ↓wl, nc, evV, wrapBits_eq, ↓reduceIte, Nat.reduceEqDiff, Nat.reduceAdd, Nat.reduceSub, Nat.reduceLeDiff, Nat.reduceLT, Nat.reduceBEq, reduceCtorEq, Int.reduceEq]
            refine evTs_at (enc := eApiPalette) H (by rfl) (by rfl) ?_ <;> clear H <;> intro x_1136 H
            try simp only [eApiPalette, eL, ↓wk, ↓wl, nc, evV, wrapBits_eq, ↓reduceIte, Nat.reduceEqDiff, Nat.reduceAdd, Nat.reduceSub, Nat.reduceLeDiff, Nat.reduceLT, Nat.reduceBEq, reduceCtorEq, Int.reduceEq]
            refine evTs_at (enc := eApiHue) H (by rfl) (by rfl) ?_ <;> clear H <;> intro x_1137 H
            try simp only [eApiHue, eL, ↓wk, ↓wl, nc, evV, wrapBits_eq, ↓reduceIte, Nat.reduceEqDiff, Nat.reduceAdd, Nat.reduceSub, Nat.reduceLeDiff, Nat.reduceLT, Nat.reduceBEq, reduceCtorEq, Int.reduceEq]
            refine evTs_at (enc := eApiPalette) H (by rfl) (by rfl) ?_ <;> clear H <;> intro x_1138 H
            try simp only [eApiPalette, eL, ↓wk, ↓wl, nc, evV, wrapBits_eq, ↓reduceIte, Nat.reduceEqDiff, Nat.reduceAdd, Nat.reduceSub, Nat.reduceLeDiff, Nat.reduceLT, Nat.reduceBEq, reduceCtorEq, Int.reduceEq]
            refine evTs_at (enc := eApiHue) H (by rfl) (by rfl) ?_ <;> clear H <;> intro x_1139 H
            try simp only [eApiHue, eL, ↓wk, ↓wl, nc, evV, wrapBits_eq, ↓reduceIte, Nat.reduceEqDiff, Nat.reduceAdd, Nat.reduceSub, Nat.reduceLeDiff, Nat.reduceLT, Nat.reduceBEq, reduceCtorEq, Int.reduceEq]
            refine rest_neqs (by rfl) ?_
            try simp only [↓wk, ↓wl, nc, evV, wrapBits_eq, ↓reduceIte, Nat.reduceEqDiff, Nat.reduceAdd, Nat.reduceSub, Nat.reduceLeDiff, Nat.reduceLT, Nat.reduceBEq, reduceCtorEq, Int.reduceEq]
            refine AW.ifc H (by rfl) ?_ ?_ <;> clear H <;> intro H
            · refine AW.rseq ?_
              try simp only [↓wk, ↓wl, nc, evV, wrapBits_eq, ↓reduceIte, Nat.reduceEqDiff, Nat.reduceAdd, Nat.reduceSub, Nat.reduceLeDiff, Nat.reduceLT, Nat.reduceBEq, reduceCtorEq, Int.reduceEq]
              refine AW.ret ?_
              refine blkQ.ret ?_
              refine loopQ.ret H ?_ <;> clear H <;> intro H
              try dsimp only at H
              refine blk0.ret ?_
              refine blkQ.ret ?_
              refine loopQ.ret H ?_ <;> clear H <;> intro H
              try dsimp only at H
              refine blk0.ret ?_
              refine seqQ.ret ?_
              cases H
              exact hQ _ _ _ _ (.inr rfl) (by simp only [resVs, omap, resV, ↓wk, ↓wl, nc, evV, wrapBits_eq, ↓reduceIte, Nat.reduceEqDiff, Nat.reduceAdd, Nat.reduceSub, Nat.reduceLeDiff, Nat.reduceLT, Nat.reduceBEq, reduceCtorEq, Int.reduceEq]; rfl) (hand_plain (by rfl)) (by first | exact Or.inl rfl | exact Or.inr rfl)
            · refine AW.skip ?_
              refine blkQ.norm ?_
              refine AW.rend ?_
              try simp only [↓wk, ↓wl, nc, evV, wrapBits_eq, ↓reduceIte, Nat.reduceEqDiff, Nat.reduceAdd, Nat.reduceSub, Nat.reduceLeDiff, Nat.reduceLT, Nat.reduceBEq, reduceCtorEq, Int.reduceEq]
              exact loopQ.next H ((Le.none [] [0, 1, 5, 6] (by decide) (by simp only [f24_L2, List.length_set, Option.map_some, restrict_eq, renS_nil, renS_cons, renB_els, renB_cel, renB_dead, deep_eq, map_ren_enc, ren_agg', ren_tup', ren_fn', ren_int', ren_bool', ren_str', ren_sl', ren_pro', ren_nilp', ren_nilfn', ren_junk', ren_ptr', ren_row', ren_arow', ren_eptr', vm, List.idxOf?_cons, List.idxOf?_nil, beq_self_eq_true, Option.map_none, List.getD_cons_zero, List.getD_cons_succ, ↓wk, ↓wl, nc, evV, wrapBits_eq, ↓reduceIte, Nat.reduceEqDiff, Nat.reduceAdd, Nat.reduceSub, Nat.reduceLeDiff, Nat.reduceLT, Nat.reduceBEq, reduceCtorEq, Int.reduceEq] <;> rfl)))
          · refine AW.exit ?_
            refine seqQ.exit ?_
            refine loopQ.exit H ?_ <;> clear H <;> intro H
            try dsimp only at H
            refine blk0.here ?_
            refine blkQ.norm ?_
            refine AW.rend ?_
            try simp only [↓wk, ↓wl, nc, evV, wrapBits_eq, ↓reduceIte, Nat.reduceEqDiff, Nat.reduceAdd, Nat.reduceSub, Nat.reduceLeDiff, Nat.reduceLT, Nat.reduceBEq, reduceCtorEq, Int.reduceEq]
            exact loopQ.next H ((Le.none [] [0, 1, 5] (by decide) (by simp only [f24_L1, List.length_set, Option.map_some, restrict_eq, renS_nil, renS_cons, renB_els, renB_cel, renB_dead, deep_eq, map_ren_enc, ren_agg', ren_tup', ren_fn', ren_int', ren_bool', ren_str', ren_sl', ren_pro', ren_nilp', ren_nilfn', ren_junk', ren_ptr', ren_row', ren_arow', ren_eptr', vm, List.idxOf?_cons, List.idxOf?_nil, beq_self_eq_true, Option.map_none, List.getD_cons_zero, List.getD_cons_succ, ↓wk, ↓wl, nc, evV, wrapBits_eq, ↓reduceIte, Nat.reduceEqDiff, Nat.reduceAdd, Nat.reduceSub, Nat.reduceLeDiff, Nat.reduceLT, Nat.reduceBEq, reduceCtorEq, Int.reduceEq] <;> rfl)))
    · refine AW.exit ?_
      refine seqQ.exit ?_
      refine loopQ.exit H ?_ <;> clear H <;> intro H
      try dsimp only at H
      refine blk0.here ?_
      refine seqQ.norm ?_
      refine AW.rseq ?_
      try simp only [↓wk, ↓wl, nc, evV, wrapBits_eq, ↓reduceIte, Nat.reduceEqDiff, Nat.reduceAdd, Nat.reduceSub, Nat.reduceLeDiff, Nat.reduceLT, Nat.reduceBEq, reduceCtorEq, Int.reduceEq]
      refine AW.ret ?_
      cases H
      exact hQ _ _ _ _ (.inr rfl) (by simp only [resVs, omap, resV, ↓wk, ↓wl, nc, evV, wrapBits_eq, ↓reduceIte, Nat.reduceEqDiff, Nat.reduceAdd, Nat.reduceSub, Nat.reduceLeDiff, Nat.reduceLT, Nat.reduceBEq, reduceCtorEq, Int.reduceEq]; rfl) (hand_plain (by rfl)) (by first | exact Or.inl rfl | exact Or.inr rfl)
noncomputable def f6_L1 (entries_934 : (List ApiEntry)) (l_932 : (List ApiPalette)) (r_985 : (List ApiPalette) × Int) (r_988 : (List ApiPalette) × Bool × Int) (x_933 : ApiPalette) : Lp (Int) ((Unit) ⊕ (Unit)) where
  body := fun v_1012 => (if (decide (v_1012 < ((entries_934.length : Nat) : Int))) = true then (at? entries_934 v_1012).bind fun x_1145 => (f9 l_932 x_1145.fValue x_1145.fParam 7).bind fun r_1146 => (f9 r_985.1 x_1145.fValue x_1145.fParam 7).bind fun r_1147 => (f9 r_988.1 x_1145.fValue x_1145.fParam 7).bind fun r_1148 => (if (decide ((IntKind.i64.wrap ((IntKind.i64.wrap (r_1146.2 + r_1147.2)) + r_1148.2)) ≠ 0)) = true then (some (.brk (Sum.inr ()))) else (if (decide (x_1145.fValue.fPalette = x_933.fNumber)) = true then (if (decide (r_1148.1 ≠ 7)) = true then (some (.brk (Sum.inr ()))) else (if (decide (x_1145.fValue.fPalette ≠ x_933.fNumber)) = true then (if (decide (r_1146.1 ≠ r_1147.1)) = true then (some (.brk (Sum.inr ()))) else (if (decide (r_1147.1 ≠ r_1148.1)) = true then (some (.brk (Sum.inr ()))) else (some (.next (IntKind.i64.wrap (v_1012 + 1)))))) else (some (.next (IntKind.i64.wrap (v_1012 + 1)))))) else (if (decide (x_1145.fValue.fPalette ≠ x_933.fNumber)) = true then (if (decide (r_1146.1 ≠ r_1147.1)) = true then (some (.brk (Sum.inr ()))) else (if (decide (r_1147.1 ≠ r_1148.1)) = true then (some (.brk (Sum.inr ()))) else (some (.next (IntKind.i64.wrap (v_1012 + 1)))))) else (some (.next (IntKind.i64.wrap (v_1012 + 1))))))) else (some (.brk (Sum.inl ()))))
  cst := fun v_1012 => ⟨put (put (put (put (put (put (put (fun _ => .junk) 71 (.int .i64 v_1012)) 70 (.int .i64 ((entries_934.length : Nat) : Int))) 69 (.sl 4 false (entries_934.map eApiEntry))) 9 (.sl 2 false (r_988.1.map eApiPalette))) 7 (.sl 2 false (r_985.1.map eApiPalette))) 4 (.ptr 0 0)) 0 (.sl 2 false (l_932.map eApiPalette)), [.cel [.int .i64 x_933.fNumber, .sl 3 false (x_933.fHues.map eApiHue)]]⟩
def c6_0 : C := .cond (.t 35) (.seq (.reg [iI 36 (.call (.c (.fn 8 [])) []), iI 6 (.mv (.t 36))]) .ret) (.skip)
def c6_1 : C := .cond (.t 44) (.seq (.reg [iI 45 (.mv (.t 8)), iI 46 (.bin .eql (.t 45) (.c (.int .i64 5))), iI 47 (.mv (.t 46)), iG (some 48) 47 true (.mv (.t 0)), iG (some 49) 47 true (.len 0 (.t 48)), iG (some 50) 47 true (.bin .eql (.t 49) (.c (.int .i64 32))), iI 51 (.pick (.t 47) (.t 50) (.c (.bool false))), iI 52 (.mv (.t 51)), iG (some 53) 52 true (.call (.c (.fn 8 [])) []), iI 54 (.pick (.t 52) (.t 53) (.c (.bool false))), iI 6 (.mv (.t 54))]) .ret) (.skip)
def c6_2 : C := .cond (.t 68) (.seq (.reg [iI 6 (.mv (.c (.bool false)))]) .ret) (.skip)
def c6_3 : C := .cond (.t 107) (.seq (.reg [iI 6 (.mv (.c (.bool false)))]) .ret) (.skip)
def c6_4 : C := .cond (.t 135) (.seq (.reg [iI 6 (.mv (.c (.bool false)))]) .ret) (.skip)
def c6_5 : C := .seq (.reg [iI 108 (.faddr 2 (.t 12)), iI 109 (.faddr 0 (.t 108)), iI 110 (.load 0 (.t 109)), iI 111 (.faddr 0 (.t 4)), iI 112 (.load 0 (.t 111)), iI 113 (.bin .eql (.t 110) (.t 112)), iI 114 (.mv (.t 113)), iG (some 115) 114 true (.mv (.t 17)), iG (some 116) 114 true (.bin .neq (.t 115) (.c (.int .i64 7))), iI 117 (.pick (.t 114) (.t 116) (.c (.bool false))), iI 118 (.mv (.t 117)), iG (some 119) 118 false (.faddr 2 (.t 12)), iG (some 120) 118 false (.faddr 0 (.t 119)), iG (some 121) 118 false (.load 0 (.t 120)), iG (some 122) 118 false (.faddr 0 (.t 4)), iG (some 123) 118 false (.load 0 (.t 122)), iG (some 124) 118 false (.bin .neq (.t 121) (.t 123)), iG (some 125) 118 false (.mv (.t 124)), iG (some 126) 125 true (.mv (.t 13)), iG (some 127) 125 true (.mv (.t 15)), iG (some 128) 125 true (.bin .neq (.t 126) (.t 127)), iG (some 129) 125 true (.mv (.t 128)), iG (some 130) 129 false (.mv (.t 15)), iG (some 131) 129 false (.mv (.t 17)), iG (some 132) 129 false (.bin .neq (.t 130) (.t 131)), iG (some 133) 125 true (.pick (.t 129) (.c (.bool true)) (.t 132)), iG (some 134) 118 false (.pick (.t 125) (.t 133) (.c (.bool false))), iI 135 (.pick (.t 118) (.c (.bool true)) (.t 134))]) c6_4
def c6_6 : C := .seq (.seq (.reg [iI 102 (.mv (.t 14)), iI 103 (.mv (.t 16)), iI 104 (.bin .add (.t 102) (.t 103)), iI 105 (.mv (.t 18)), iI 106 (.bin .add (.t 104) (.t 105)), iI 107 (.bin .neq (.t 106) (.c (.int .i64 0)))]) c6_3) c6_5
def c6_7 : C := .seq (.reg [iI 94 (.mv (.t 9)), iI 95 (.faddr 2 (.t 12)), iI 96 (.load 2 (.t 95)), iI 97 (.faddr 0 (.t 12)), iI 98 (.load 2 (.t 97)), iI 99 (.call (.c (.fn 9 [])) [(.t 94), (.t 96), (.t 98), (.c (.int .i64 7))]), iI 93 (.mv (.t 99)), iI 100 (.ext (.t 93) 0), iI 101 (.ext (.t 93) 1), iI 17 (.mv (.t 100)), iI 18 (.mv (.t 101))]) c6_6
def c6_8 : C := .seq (.reg [iI 85 (.mv (.t 7)), iI 86 (.faddr 2 (.t 12)), iI 87 (.load 2 (.t 86)), iI 88 (.faddr 0 (.t 12)), iI 89 (.load 2 (.t 88)), iI 90 (.call (.c (.fn 9 [])) [(.t 85), (.t 87), (.t 89), (.c (.int .i64 7))]), iI 84 (.mv (.t 90)), iI 91 (.ext (.t 84) 0), iI 92 (.ext (.t 84) 1), iI 15 (.mv (.t 91)), iI 16 (.mv (.t 92))]) c6_7
def c6_9 : C := .seq (.reg [iI 76 (.mv (.t 0)), iI 77 (.faddr 2 (.t 12)), iI 78 (.load 2 (.t 77)), iI 79 (.faddr 0 (.t 12)), iI 80 (.load 2 (.t 79)), iI 81 (.call (.c (.fn 9 [])) [(.t 76), (.t 78), (.t 80), (.c (.int .i64 7))]), iI 75 (.mv (.t 81)), iI 82 (.ext (.t 75) 0), iI 83 (.ext (.t 75) 1), iI 13 (.mv (.t 82)), iI 14 (.mv (.t 83))]) c6_8
def c6_10 : C := .reg [iI 136 (.bin .add (.t 71) (.c (.int .i64 1))), iI 71 (.mv (.t 136))]
def c6_11 : C := .seq (.block 1 (.seq (.reg [iI 73 (.iaddr 4 (.t 69) (.t 71)), iI 74 (.load 4 (.t 73)), iI 12 (.alloc [(1, (.int .i64 0)), (1, (.int .i64 0)), (1, (.int .i64 0)), (1, (.int .i64 0))]), iN (.store 4 (.t 12) (.t 74))]) c6_9)) c6_10
def c6_12 : C := .seq (.cond (.t 72) (.skip) (.exit 0)) c6_11
def c6_13 : C := .block 0 (.loop (.seq (.reg [iI 72 (.bin .lss (.t 71) (.t 70))]) c6_12))
def c6_14 : C := .seq (.reg [iI 143 (.mv (.t 8)), iI 144 (.bin .eql (.t 143) (.c (.int .i64 0))), iI 145 (.mv (.t 144)), iG (some 146) 145 true (.mv (.t 19)), iG (some 147) 145 true (.mv (.t 7)), iG (some 148) 145 true (.call (.c (.fn 24 [])) [(.t 146), (.t 147)]), iI 149 (.pick (.t 145) (.t 148) (.c (.bool false))), iI 150 (.mv (.t 149)), iG (some 151) 150 true (.call (.c (.fn 8 [])) []), iI 152 (.pick (.t 150) (.t 151) (.c (.bool false))), iI 6 (.mv (.t 152))]) .ret
def c6_15 : C := .seq (.reg [iI 138 (.mv (.t 9)), iI 139 (.load 2 (.t 4)), iI 140 (.call (.c (.fn 23 [])) [(.t 138), (.t 139)]), iI 137 (.mv (.t 140)), iI 141 (.ext (.t 137) 0), iI 142 (.ext (.t 137) 1), iI 19 (.mv (.t 141)), iI 8 (.mv (.t 142))]) c6_14
def c6_16 : C := .seq (.seq (.reg [iI 69 (.mv (.t 2)), iI 70 (.len 0 (.t 69)), iI 71 (.mv (.c (.int .i64 0)))]) c6_13) c6_15
def c6_17 : C := .seq (.seq (.reg [iI 63 (.mv (.t 10)), iI 64 (.un .not (.t 63)), iI 65 (.mv (.t 64)), iG (some 66) 65 false (.mv (.t 8)), iG (some 67) 65 false (.bin .neq (.t 66) (.c (.int .i64 0))), iI 68 (.pick (.t 65) (.c (.bool true)) (.t 67))]) c6_2) c6_16
def c6_18 : C := .seq (.reg [iI 56 (.mv (.t 7)), iI 57 (.faddr 0 (.t 4)), iI 58 (.load 0 (.t 57)), iI 59 (.call (.c (.fn 18 [])) [(.t 56), (.t 58)]), iI 55 (.mv (.t 59)), iI 60 (.ext (.t 55) 0), iI 61 (.ext (.t 55) 1), iI 62 (.ext (.t 55) 2), iI 9 (.mv (.t 60)), iI 10 (.mv (.t 61)), iI 8 (.mv (.t 62))]) c6_17
def c6_19 : C := .seq (.seq (.reg [iI 43 (.mv (.t 8)), iI 44 (.bin .neq (.t 43) (.c (.int .i64 0)))]) c6_1) c6_18
def c6_20 : C := .seq (.reg [iI 38 (.mv (.t 0)), iI 39 (.load 2 (.t 4)), iI 40 (.call (.c (.fn 23 [])) [(.t 38), (.t 39)]), iI 37 (.mv (.t 40)), iI 41 (.ext (.t 37) 0), iI 42 (.ext (.t 37) 1), iI 7 (.mv (.t 41)), iI 8 (.mv (.t 42))]) c6_19
def c6_21 : C := .seq (.seq (.reg [iI 20 (.mv (.t 0)), iI 21 (.mv (.t 2)), iI 22 (.call (.c (.fn 11 [])) [(.t 20), (.t 21)]), iI 23 (.un .not (.t 22)), iI 24 (.mv (.t 23)), iG (some 25) 24 false (.load 2 (.t 4)), iG (some 26) 24 false (.mksl 2 1 (.agg [(.int .i64 0), (.sl 3 true [])]) [(0, (.t 25))]), iG (some 27) 24 false (.call (.c (.fn 22 [])) [(.t 26)]), iG (some 28) 24 false (.bin .neq (.t 27) (.c (.int .i64 0))), iI 29 (.pick (.t 24) (.c (.bool true)) (.t 28)), iI 30 (.mv (.t 29)), iG (some 31) 30 false (.load 2 (.t 4)), iG (some 32) 30 false (.mksl 2 1 (.agg [(.int .i64 0), (.sl 3 true [])]) [(0, (.t 31))]), iG (some 33) 30 false (.call (.c (.fn 7 [])) [(.t 32)]), iG (some 34) 30 false (.un .not (.t 33)), iI 35 (.pick (.t 30) (.c (.bool true)) (.t 34))]) c6_0) c6_20
def ir6 : C := .seq (.reg [iI 4 (.box (.t 1)), iI 6 (.mv (.c (.bool false)))]) c6_21
theorem fd6 : fd? Try.prog 6 = some (153, [.slot 6], ir6) := by kernel_rfl
noncomputable def f6 (l_932 : (List ApiPalette)) (x_933 : ApiPalette) (entries_934 : (List ApiEntry)) : Option (Bool) :=
  (f11 l_932 entries_934).bind fun r_941 => (if (!r_941) = true then (f8).bind fun r_942 => (some r_942) else (f22 ([x_933])).bind fun r_943 => (if (decide (r_943 ≠ 0)) = true then (f8).bind fun r_944 => (some r_944) else (f7 ([x_933])).bind fun r_945 => (if (!r_945) = true then (f8).bind fun r_946 => (some r_946) else (f23 l_932 x_933).bind fun r_985 => (if (decide (r_985.2 ≠ 0)) = true then (if (decide (r_985.2 = 5)) = true then (if (decide (((l_932.length : Nat) : Int) = 32)) = true then (f8).bind fun r_987 => (some r_987) else (some false)) else (some false)) else (f18 r_985.1 x_933.fNumber).bind fun r_988 => (if (!r_988.2.1) = true then (some false) else (if (decide (r_988.2.2 ≠ 0)) = true then (some false) else ((Lp.run (f6_L1 entries_934 l_932 r_985 r_988 x_933) 0).bind fun r_ => match r_ with | (Sum.inl _) => (f23 r_988.1 x_933).bind fun r_1017 => (if (decide (r_1017.2 = 0)) = true then (f24 r_1017.1 r_985.1).bind fun r_1140 => (if r_1140 = true then (f8).bind fun r_1141 => (some r_1141) else (some false)) else (some false)) | (Sum.inr _) => (some false))))))))
theorem f6_ok {l_932 : (List ApiPalette)} {x_933 : ApiPalette} {entries_934 : (List ApiEntry)} {r_ : Bool} (H : f6 l_932 x_933 entries_934 = some r_) : Pure Try.prog 6 [.sl 2 false (l_932.map eApiPalette), .agg [.int .i64 x_933.fNumber, .sl 3 false (x_933.fHues.map eApiHue)], .sl 4 false (entries_934.map eApiEntry)] (· = .bool r_) := by
  refine Pure.walk3 fd6 none (Nat.le_of_ble_eq_true rfl) (by rfl) fun Q hQ => ?_
  simp only [f6] at H
  refine AW.rseq ?_
  try simp only [↓wk, ↓wl, nc, evV, wrapBits_eq, ↓reduceIte, Nat.reduceEqDiff, Nat.reduceAdd, Nat.reduceSub, Nat.reduceLeDiff, Nat.reduceLT, Nat.reduceBEq, reduceCtorEq, Int.reduceEq]
  refine AW.sseq ?_
  refine AW.rseq ?_
  try simp only [↓wk, ↓wl, nc, evV, wrapBits_eq, ↓reduceIte, Nat.reduceEqDiff, Nat.reduceAdd, Nat.reduceSub, Nat.reduceLeDiff, Nat.reduceLT, Nat.reduceBEq, reduceCtorEq, Int.reduceEq]
  refine evTs_pure hFn H (fun _ h => f11_ok h) (by rfl) (by rfl) (by rfl) (by rfl) (fun _ => rfl) ?_ <;> clear H <;> intro r_941 H
  try simp only [eL, ↓wk, ↓wl, nc, evV, wrapBits_eq, ↓reduceIte, Nat.reduceEqDiff, Nat.reduceAdd, Nat.reduceSub, Nat.reduceLeDiff, Nat.reduceLT, Nat.reduceBEq, reduceCtorEq, Int.reduceEq]
  refine evTs_ifg H (by rfl) ?_ ?_ <;> clear H <;> intro H
  · try simp only [↓wk, ↓wl, nc, evV, wrapBits_eq, ↓reduceIte, Nat.reduceEqDiff, Nat.reduceAdd, Nat.reduceSub, Nat.reduceLeDiff, Nat.reduceLT, Nat.reduceBEq, reduceCtorEq, Int.reduceEq]
    refine AW.ift (by rfl) ?_
    refine AW.rseq ?_
    try simp only [↓wk, ↓wl, nc, evV, wrapBits_eq, ↓reduceIte, Nat.reduceEqDiff, Nat.reduceAdd, Nat.reduceSub, Nat.reduceLeDiff, Nat.reduceLT, Nat.reduceBEq, reduceCtorEq, Int.reduceEq]
    refine evTs_pure hFn H (fun _ h => f8_ok h) (by rfl) (by rfl) (by rfl) (by rfl) (fun _ => rfl) ?_ <;> clear H <;> intro r_942 H
    try simp only [eL, ↓wk, ↓wl, nc, evV, wrapBits_eq, ↓reduceIte, Nat.reduceEqDiff, Nat.reduceAdd, Nat.reduceSub, Nat.reduceLeDiff, Nat.reduceLT, Nat.reduceBEq, reduceCtorEq, Int.reduceEq]
    refine AW.ret ?_
    refine seqQ.ret ?_
    cases H
    exact hQ _ _ _ _ (.inr rfl) (by simp only [resVs, omap, resV, ↓wk, ↓wl, nc, evV, wrapBits_eq, ↓reduceIte, Nat.reduceEqDiff, Nat.reduceAdd, Nat.reduceSub, Nat.reduceLeDiff, Nat.reduceLT, Nat.reduceBEq, reduceCtorEq, Int.reduceEq]; rfl) (hand_plain (by rfl)) (by first | exact Or.inl rfl | exact Or.inr rfl)
  · try simp only [↓wk, ↓wl, nc, evV, wrapBits_eq, ↓reduceIte, Nat.reduceEqDiff, Nat.reduceAdd, Nat.reduceSub, Nat.reduceLeDiff, Nat.reduceLT, Nat.reduceBEq, reduceCtorEq, Int.reduceEq]
    refine evTs_pure hFn H (fun _ h => f22_ok h) (by rfl) (by rfl) (by rfl) (by rfl) (fun _ => rfl) ?_ <;> clear H <;> intro r_943 H
    try simp only [eL, ↓wk, ↓wl, nc, evV, wrapBits_eq, ↓reduceIte, Nat.reduceEqDiff, Nat.reduceAdd, Nat.reduceSub, Nat.reduceLeDiff, Nat.reduceLT, Nat.reduceBEq, reduceCtorEq, Int.reduceEq]
    refine evTs_ifg H (by rfl) ?_ ?_ <;> clear H <;> intro H
    · try simp only [↓wk, ↓wl, nc, evV, wrapBits_eq, ↓reduceIte, Nat.reduceEqDiff, Nat.reduceAdd, Nat.reduceSub, Nat.reduceLeDiff, Nat.reduceLT, Nat.reduceBEq, reduceCtorEq, Int.reduceEq]
      refine AW.ift (by rfl) ?_
      refine AW.rseq ?_
      try simp only [↓wk, ↓wl, nc, evV, wrapBits_eq, ↓reduceIte, Nat.reduceEqDiff, Nat.reduceAdd, Nat.reduceSub, Nat.reduceLeDiff, Nat.reduceLT, Nat.reduceBEq, reduceCtorEq, Int.reduceEq]
      refine evTs_pure hFn H (fun _ h => f8_ok h) (by rfl) (by rfl) (by rfl) (by rfl) (fun _ => rfl) ?_ <;> clear H <;> intro r_944 H
      try simp only [eL, ↓wk, ↓wl, nc, evV, wrapBits_eq, ↓reduceIte, Nat.reduceEqDiff, Nat.reduceAdd, Nat.reduceSub, Nat.reduceLeDiff, Nat.reduceLT, Nat.reduceBEq, reduceCtorEq, Int.reduceEq]
      refine AW.ret ?_
      refine seqQ.ret ?_
      cases H
      exact hQ _ _ _ _ (.inr rfl) (by simp only [resVs, omap, resV, ↓wk, ↓wl, nc, evV, wrapBits_eq, ↓reduceIte, Nat.reduceEqDiff, Nat.reduceAdd, Nat.reduceSub, Nat.reduceLeDiff, Nat.reduceLT, Nat.reduceBEq, reduceCtorEq, Int.reduceEq]; rfl) (hand_plain (by rfl)) (by first | exact Or.inl rfl | exact Or.inr rfl)
    · try simp only [↓wk, ↓wl, nc, evV, wrapBits_eq, ↓reduceIte, Nat.reduceEqDiff, Nat.reduceAdd, Nat.reduceSub, Nat.reduceLeDiff, Nat.reduceLT, Nat.reduceBEq, reduceCtorEq, Int.reduceEq]
      refine evTs_pure hFn H (fun _ h => f7_ok h) (by rfl) (by rfl) (by rfl) (by rfl) (fun _ => rfl) ?_ <;> clear H <;> intro r_945 H
      try simp only [eL, ↓wk, ↓wl, nc, evV, wrapBits_eq, ↓reduceIte, Nat.reduceEqDiff, Nat.reduceAdd, Nat.reduceSub, Nat.reduceLeDiff, Nat.reduceLT, Nat.reduceBEq, reduceCtorEq, Int.reduceEq]
      refine AW.ifc H (by rfl) ?_ ?_ <;> clear H <;> intro H
      · refine AW.rseq ?_
        try simp only [↓wk, ↓wl, nc, evV, wrapBits_eq, ↓reduceIte, Nat.reduceEqDiff, Nat.reduceAdd, Nat.reduceSub, Nat.reduceLeDiff, Nat.reduceLT, Nat.reduceBEq, reduceCtorEq, Int.reduceEq]
        refine evTs_pure hFn H (fun _ h => f8_ok h) (by rfl) (by rfl) (by rfl) (by rfl) (fun _ => rfl) ?_ <;> clear H <;> intro r_946 H
        try simp only [eL, ↓wk, ↓wl, nc, evV, wrapBits_eq, ↓reduceIte, Nat.reduceEqDiff, Nat.reduceAdd, Nat.reduceSub, Nat.reduceLeDiff, Nat.reduceLT, Nat.reduceBEq, reduceCtorEq, Int.reduceEq]
        refine AW.ret ?_
        refine seqQ.ret ?_
        cases H
        exact hQ _ _ _ _ (.inr rfl) (by simp only [resVs, omap, resV, ↓wk, ↓wl, nc, evV, wrapBits_eq, ↓reduceIte, Nat.reduceEqDiff, Nat.reduceAdd, Nat.reduceSub, Nat.reduceLeDiff, Nat.reduceLT, Nat.reduceBEq, reduceCtorEq, Int.reduceEq]; rfl) (hand_plain (by rfl)) (by first | exact Or.inl rfl | exact Or.inr rfl)
      · refine AW.skip ?_
        refine seqQ.norm ?_
        refine AW.rseq ?_
        try simp only [↓wk, ↓wl, nc, evV, wrapBits_eq, ↓reduceIte, Nat.reduceEqDiff, Nat.reduceAdd, Nat.reduceSub, Nat.reduceLeDiff, Nat.reduceLT, Nat.reduceBEq, reduceCtorEq, Int.reduceEq]
        refine evTs_pure hFn H (fun _ h => f23_im h) (by rfl) (by rfl) (by rfl) (by rfl) (fun _ => rfl) ?_ <;> clear H <;> intro r_985 H
        try simp only [eL, ↓wk, ↓wl, nc, evV, wrapBits_eq, ↓reduceIte, Nat.reduceEqDiff, Nat.reduceAdd, Nat.reduceSub, Nat.reduceLeDiff, Nat.reduceLT, Nat.reduceBEq, reduceCtorEq, Int.reduceEq]
        refine AW.sseq ?_
        refine AW.rseq ?_
        try simp only [↓wk, ↓wl, nc, evV, wrapBits_eq, ↓reduceIte, Nat.reduceEqDiff, Nat.reduceAdd, Nat.reduceSub, Nat.reduceLeDiff, Nat.reduceLT, Nat.reduceBEq, reduceCtorEq, Int.reduceEq]
        refine AW.ifc H (by rfl) ?_ ?_ <;> clear H <;> intro H
        · refine AW.rseq ?_
          try simp only [↓wk, ↓wl, nc, evV, wrapBits_eq, ↓reduceIte, Nat.reduceEqDiff, Nat.reduceAdd, Nat.reduceSub, Nat.reduceLeDiff, Nat.reduceLT, Nat.reduceBEq, reduceCtorEq, Int.reduceEq]
          refine evTs_ifg H (by rfl) ?_ ?_ <;> clear H <;> intro H
          · try simp only [↓wk, ↓wl, nc, evV, wrapBits_eq, ↓reduceIte, Nat.reduceEqDiff, Nat.reduceAdd, Nat.reduceSub, Nat.reduceLeDiff, Nat.reduceLT, Nat.reduceBEq, reduceCtorEq, Int.reduceEq]
            refine evTs_ifg H (by rfl) ?_ ?_ <;> clear H <;> intro H
            · try simp only [↓wk, ↓wl, nc, evV, wrapBits_eq, ↓reduceIte, Nat.reduceEqDiff, Nat.reduceAdd, Nat.reduceSub, Nat.reduceLeDiff, Nat.reduceLT, Nat.reduceBEq, reduceCtorEq, Int.reduceEq]
              refine evTs_pure hFn H (fun _ h => f8_ok h) (by rfl) (by rfl) (by rfl) (by rfl) (fun _ => rfl) ?_ <;> clear H <;> intro r_987 H
              try simp only [eL, ↓wk, ↓wl, nc, evV, wrapBits_eq, ↓reduceIte, Nat.reduceEqDiff, Nat.reduceAdd, Nat.reduceSub, Nat.reduceLeDiff, Nat.reduceLT, Nat.reduceBEq, reduceCtorEq, Int.reduceEq]
              refine AW.ret ?_
              refine seqQ.ret ?_
              cases H
              exact hQ _ _ _ _ (.inr rfl) (by simp only [resVs, omap, resV, ↓wk, ↓wl, nc, evV, wrapBits_eq, ↓reduceIte, Nat.reduceEqDiff, Nat.reduceAdd, Nat.reduceSub, Nat.reduceLeDiff, Nat.reduceLT, Nat.reduceBEq, reduceCtorEq, Int.reduceEq]; rfl) (hand_plain (by rfl)) (by first | exact Or.inl rfl | exact Or.inr rfl)
            · try simp only [↓wk, ↓wl, nc, evV, wrapBits_eq, ↓reduceIte, Nat.reduceEqDiff, Nat.reduceAdd, Nat.reduceSub, Nat.reduceLeDiff, Nat.reduceLT, Nat.reduceBEq, reduceCtorEq, Int.reduceEq]
              refine AW.ret ?_
              refine seqQ.ret ?_
              cases H
              exact hQ _ _ _ _ (.inr rfl) (by simp only [resVs, omap, resV, ↓wk, ↓wl, nc, evV, wrapBits_eq, ↓reduceIte, Nat.reduceEqDiff, Nat.reduceAdd, Nat.reduceSub, Nat.reduceLeDiff, Nat.reduceLT, Nat.reduceBEq, reduceCtorEq, Int.reduceEq]; rfl) (hand_plain (by rfl)) (by first | exact Or.inl rfl | exact Or.inr rfl)
          · try simp only [↓wk, ↓wl, nc, evV, wrapBits_eq, ↓reduceIte, Nat.reduceEqDiff, Nat.reduceAdd, Nat.reduceSub, Nat.reduceLeDiff, Nat.reduceLT, Nat.reduceBEq, reduceCtorEq, Int.reduceEq]
            refine AW.ret ?_
            refine seqQ.ret ?_
            cases H
            exact hQ _ _ _ _ (.inr rfl) (by simp only [resVs, omap, resV, ↓wk, ↓wl, nc, evV, wrapBits_eq, ↓reduceIte, Nat.reduceEqDiff, Nat.reduceAdd, Nat.reduceSub, Nat.reduceLeDiff, Nat.reduceLT, Nat.reduceBEq, reduceCtorEq, Int.reduceEq]; rfl) (hand_plain (by rfl)) (by first | exact Or.inl rfl | exact Or.inr rfl)
        · refine AW.skip ?_
          refine seqQ.norm ?_
          refine AW.rseq ?_
          try simp only [↓wk, ↓wl, nc, evV, wrapBits_eq, ↓reduceIte, Nat.reduceEqDiff, Nat.reduceAdd, Nat.reduceSub, Nat.reduceLeDiff, Nat.reduceLT, Nat.reduceBEq, reduceCtorEq, Int.reduceEq]
          refine evTs_pure hFn H (fun _ h => f18_im h) (by rfl) (by rfl) (by rfl) (by rfl) (fun _ => rfl) ?_ <;> clear H <;> intro r_988 H
          try simp only [eL, ↓wk, ↓wl, nc, evV, wrapBits_eq, ↓reduceIte, Nat.reduceEqDiff, Nat.reduceAdd, Nat.reduceSub, Nat.reduceLeDiff, Nat.reduceLT, Nat.reduceBEq, reduceCtorEq, Int.reduceEq]
          refine AW.sseq ?_
          refine AW.rseq ?_
          try simp only [↓wk, ↓wl, nc, evV, wrapBits_eq, ↓reduceIte, Nat.reduceEqDiff, Nat.reduceAdd, Nat.reduceSub, Nat.reduceLeDiff, Nat.reduceLT, Nat.reduceBEq, reduceCtorEq, Int.reduceEq]
          refine evTs_ifg H (by rfl) ?_ ?_ <;> clear H <;> intro H
          · try simp only [↓wk, ↓wl, nc, evV, wrapBits_eq, ↓reduceIte, Nat.reduceEqDiff, Nat.reduceAdd, Nat.reduceSub, Nat.reduceLeDiff, Nat.reduceLT, Nat.reduceBEq, reduceCtorEq, Int.reduceEq]
            refine AW.ift (by rfl) ?_
            refine AW.rseq ?_
            try simp only [↓wk, ↓wl, nc, evV, wrapBits_eq, ↓reduceIte, Nat.reduceEqDiff, Nat.reduceAdd, Nat.reduceSub, Nat.reduceLeDiff, Nat.reduceLT, Nat.reduceBEq, reduceCtorEq, Int.reduceEq]
            refine AW.ret ?_
            refine seqQ.ret ?_
            cases H
            exact hQ _ _ _ _ (.inr rfl) (by simp only [resVs, omap, resV, ↓wk, ↓wl, nc, evV, wrapBits_eq, ↓reduceIte, Nat.reduceEqDiff, Nat.reduceAdd, Nat.reduceSub, Nat.reduceLeDiff, Nat.reduceLT, Nat.reduceBEq, reduceCtorEq, Int.reduceEq]; rfl) (hand_plain (by rfl)) (by first | exact Or.inl rfl | exact Or.inr rfl)
          · try simp only [↓wk, ↓wl, nc, evV, wrapBits_eq, ↓reduceIte, Nat.reduceEqDiff, Nat.reduceAdd, Nat.reduceSub, Nat.reduceLeDiff, Nat.reduceLT, Nat.reduceBEq, reduceCtorEq, Int.reduceEq]
            refine AW.ifc H (by rfl) ?_ ?_ <;> clear H <;> intro H
            · refine AW.rseq ?_
              try simp only [↓wk, ↓wl, nc, evV, wrapBits_eq, ↓reduceIte, Nat.reduceEqDiff, Nat.reduceAdd, Nat.reduceSub, Nat.reduceLeDiff, Nat.reduceLT, Nat.reduceBEq, reduceCtorEq, Int.reduceEq]
              refine AW.ret ?_
              refine seqQ.ret ?_
              cases H
              exact hQ _ _ _ _ (.inr rfl) (by simp only [resVs, omap, resV, ↓wk, ↓wl, nc, evV, wrapBits_eq, ↓reduceIte, Nat.reduceEqDiff, Nat.reduceAdd, Nat.reduceSub, Nat.reduceLeDiff, Nat.reduceLT, Nat.reduceBEq, reduceCtorEq, Int.reduceEq]; rfl) (hand_plain (by rfl)) (by first | exact Or.inl rfl | exact Or.inr rfl)
            · refine AW.skip ?_
              refine seqQ.norm ?_
              refine AW.sseq ?_
              refine AW.rseq ?_
              try simp only [↓wk, ↓wl, nc, evV, wrapBits_eq, ↓reduceIte, Nat.reduceEqDiff, Nat.reduceAdd, Nat.reduceSub, Nat.reduceLeDiff, Nat.reduceLT, Nat.reduceBEq, reduceCtorEq, Int.reduceEq]
              refine AW.bend ?_
              refine AW.iter H ((Le.none [0] [0, 4, 7, 9, 69, 70, 71] (by decide) (by simp only [f6_L1, List.length_set, Option.map_some, restrict_eq, renS_nil, renS_cons, renB_els, renB_cel, renB_dead, deep_eq, map_ren_enc, ren_agg', ren_tup', ren_fn', ren_int', ren_bool', ren_str', ren_sl', ren_pro', ren_nilp', ren_nilfn', ren_junk', ren_ptr', ren_row', ren_arow', ren_eptr', vm, List.idxOf?_cons, List.idxOf?_nil, beq_self_eq_true, Option.map_none, List.getD_cons_zero, List.getD_cons_succ, ↓wk, ↓wl, nc, evV, wrapBits_eq, ↓reduceIte, Nat.reduceEqDiff, Nat.reduceAdd, Nat.reduceSub, Nat.reduceLeDiff, Nat.reduceLT, Nat.reduceBEq, reduceCtorEq, Int.reduceEq] <;> rfl))) ?_ <;> clear H
              rintro v_1012 x_ st0_ H hst_
              simp only [f6_L1] at H hst_
              subst hst_
              refine AW.rseq ?_
              try simp only [↓wk, ↓wl, nc, evV, wrapBits_eq, ↓reduceIte, Nat.reduceEqDiff, Nat.reduceAdd, Nat.reduceSub, Nat.reduceLeDiff, Nat.reduceLT, Nat.reduceBEq, reduceCtorEq, Int.reduceEq]
              refine AW.sseq ?_
              refine AW.ifc H (by rfl) ?_ ?_ <;> clear H <;> intro H
              · refine AW.skip ?_
                refine seqQ.norm ?_
                refine AW.bseq ?_
                refine AW.rseq ?_
                try simp only [↓wk, ↓wl, nc, evV, wrapBits_eq, ↓reduceIte, Nat.reduceEqDiff, Nat.reduceAdd, Nat.reduceSub, Nat.reduceLeDiff, Nat.reduceLT, Nat.reduceBEq, reduceCtorEq, Int.reduceEq]
                refine evTs_at (enc := eApiEntry) H (by rfl) (by rfl) ?_ <;> clear H <;> intro x_1145 H
                try simp only [eApiEntry, eL, ↓wk, ↓wl, nc, evV, wrapBits_eq, ↓reduceIte, Nat.reduceEqDiff, Nat.reduceAdd, Nat.reduceSub, Nat.reduceLeDiff, Nat.reduceLT, Nat.reduceBEq, reduceCtorEq, Int.reduceEq]
                refine AW.rseq ?_
                try simp only [↓wk, ↓wl, nc, evV, wrapBits_eq, ↓reduceIte, Nat.reduceEqDiff, Nat.reduceAdd, Nat.reduceSub, Nat.reduceLeDiff, Nat.reduceLT, Nat.reduceBEq, reduceCtorEq, Int.reduceEq]
                refine evTs_pure hFn H (fun _ h => f9_ok h) (by rfl) (by rfl) (by rfl) (by rfl) (fun _ => rfl) ?_ <;> clear H <;> intro r_1146 H
                try simp only [eL, ↓wk, ↓wl, nc, evV, wrapBits_eq, ↓reduceIte, Nat.reduceEqDiff, Nat.reduceAdd, Nat.reduceSub, Nat.reduceLeDiff, Nat.reduceLT, Nat.reduceBEq, reduceCtorEq, Int.reduceEq]
                refine AW.rseq ?_
                try simp only [↓wk, ↓wl, nc, evV, wrapBits_eq, ↓reduceIte, Nat.reduceEqDiff, Nat.reduceAdd, Nat.reduceSub, Nat.reduceLeDiff, Nat.reduceLT, Nat.reduceBEq, reduceCtorEq, Int.reduceEq]
                refine evTs_pure hFn H (fun _ h => f9_ok h) (by rfl) (by rfl) (by rfl) (by rfl) (fun _ => rfl) ?_ <;> clear H <;> intro r_1147 H
                try simp only [eL, ↓wk, ↓wl, nc, evV, wrapBits_eq, ↓reduceIte, Nat.reduceEqDiff, Nat.reduceAdd, Nat.reduceSub, Nat.reduceLeDiff, Nat.reduceLT, Nat.reduceBEq, reduceCtorEq, Int.reduceEq]
                refine AW.rseq ?_
                try simp only [↓wk, ↓wl, nc, evV, wrapBits_eq, ↓reduceIte, Nat.reduceEqDiff, Nat.reduceAdd, Nat.reduceSub, Nat.reduceLeDiff, Nat.reduceLT, Nat.reduceBEq, reduceCtorEq, Int.reduceEq]
                refine evTs_pure hFn H (fun _ h => f9_ok h) (by rfl) (by rfl) (by rfl) (by rfl) (fun _ => rfl) ?_ <;> clear H <;> intro r_1148 H
                try simp only [eL, ↓wk, ↓wl, nc, evV, wrapBits_eq, ↓reduceIte, Nat.reduceEqDiff, Nat.reduceAdd, Nat.reduceSub, Nat.reduceLeDiff, Nat.reduceLT, Nat.reduceBEq, reduceCtorEq, Int.reduceEq]
                refine AW.sseq ?_
                refine AW.rseq ?_
                try simp only [↓wk, ↓wl, nc, evV, wrapBits_eq, ↓reduceIte, Nat.reduceEqDiff, Nat.reduceAdd, Nat.reduceSub, Nat.reduceLeDiff, Nat.reduceLT, Nat.reduceBEq, reduceCtorEq, Int.reduceEq]
                refine AW.ifc H (by rfl) ?_ ?_ <;> clear H <;> intro H
                · refine AW.rseq ?_
                  try simp only [↓wk, ↓wl, nc, evV, wrapBits_eq, ↓reduceIte, Nat.reduceEqDiff, Nat.reduceAdd, Nat.reduceSub, Nat.reduceLeDiff, Nat.reduceLT, Nat.reduceBEq, reduceCtorEq, Int.reduceEq]
                  refine AW.ret ?_
                  refine seqQ.ret ?_
                  refine blkQ.ret ?_
                  refine loopQ.ret H ?_ <;> clear H <;> intro H
                  try dsimp only at H
                  refine blk0.ret ?_
                  refine seqQ.ret ?_
                  cases H
                  exact hQ _ _ _ _ (.inr rfl) (by simp only [resVs, omap, resV, ↓wk, ↓wl, nc, evV, wrapBits_eq, ↓reduceIte, Nat.reduceEqDiff, Nat.reduceAdd, Nat.reduceSub, Nat.reduceLeDiff, Nat.reduceLT, Nat.reduceBEq, reduceCtorEq, Int.reduceEq]; rfl) (hand_plain (by rfl)) (by first | exact Or.inl rfl | exact Or.inr rfl)
                · refine AW.skip ?_
                  refine seqQ.norm ?_
                  refine AW.rseq ?_
                  try simp only [↓wk, ↓wl, nc, evV, wrapBits_eq, ↓reduceIte, Nat.reduceEqDiff, Nat.reduceAdd, Nat.reduceSub, Nat.reduceLeDiff, Nat.reduceLT, Nat.reduceBEq, reduceCtorEq, Int.reduceEq]
                  refine evTs_ifg H (by rfl) ?_ ?_ <;> clear H <;> intro H
                  · try simp only [↓wk, ↓wl, nc, evV, wrapBits_eq, ↓reduceIte, Nat.reduceEqDiff, Nat.reduceAdd, Nat.reduceSub, Nat.reduceLeDiff, Nat.reduceLT, Nat.reduceBEq, reduceCtorEq, Int.reduceEq]
                    refine evTs_ifg H (by rfl) ?_ ?_ <;> clear H <;> intro H
                    · try simp only [↓wk, ↓wl, nc, evV, wrapBits_eq, ↓reduceIte, Nat.reduceEqDiff, Nat.reduceAdd, Nat.reduceSub, Nat.reduceLeDiff, Nat.reduceLT, Nat.reduceBEq, reduceCtorEq, Int.reduceEq]
                      refine AW.ift (by rfl) ?_
                      refine AW.rseq ?_
                      try simp only [↓wk, ↓wl, nc, evV, wrapBits_eq, ↓reduceIte, Nat.reduceEqDiff, Nat.reduceAdd, Nat.reduceSub, Nat.reduceLeDiff, Nat.reduceLT, Nat.reduceBEq, reduceCtorEq, Int.reduceEq]
                      refine AW.ret ?_
                      refine blkQ.ret ?_
                      refine loopQ.ret H ?_ <;> clear H <;> intro H
                      try dsimp only at H
                      refine blk0.ret ?_
                      refine seqQ.ret ?_
                      cases H
                      exact hQ _ _ _ _ (.inr rfl) (by simp only [resVs, omap, resV, ↓wk, ↓wl, nc, evV, wrapBits_eq, ↓reduceIte, Nat.reduceEqDiff, Nat.reduceAdd, Nat.reduceSub, Nat.reduceLeDiff, Nat.reduceLT, Nat.reduceBEq, reduceCtorEq, Int.reduceEq]; rfl) (hand_plain (by rfl)) (by first | exact Or.inl rfl | exact Or.inr rfl)
                    · try simp only [↓wk, ↓wl, nc, evV, wrapBits_eq, ↓reduceIte, Nat.reduceEqDiff, Nat.reduceAdd, Nat.reduceSub, Nat.reduceLeDiff, Nat.reduceLT, Nat.reduceBEq, reduceCtorEq, Int.reduceEq]
                      refine evTs_ifg H (by rfl) ?_ ?_ <;> clear H <;> intro H
                      · try simp only [↓wk, ↓wl, nc, evV, wrapBits_eq, ↓reduceIte, Nat.reduceEqDiff, Nat.reduceAdd, Nat.reduceSub, Nat.reduceLeDiff, Nat.reduceLT, Nat.reduceBEq, reduceCtorEq, Int.reduceEq]
                        refine evTs_ifg H (by rfl) ?_ ?_ <;> clear H <;> intro H
                        · try simp only [↓wk, ↓wl, nc, evV, wrapBits_eq, ↓reduceIte, Nat.reduceEqDiff, Nat.reduceAdd, Nat.reduceSub, Nat.reduceLeDiff, Nat.reduceLT, Nat.reduceBEq, reduceCtorEq, Int.reduceEq]
                          refine AW.ift (by rfl) ?_
                          refine AW.rseq ?_
                          try simp only [↓wk, ↓wl, nc, evV, wrapBits_eq, ↓reduceIte, Nat.reduceEqDiff, Nat.reduceAdd, Nat.reduceSub, Nat.reduceLeDiff, Nat.reduceLT, Nat.reduceBEq, reduceCtorEq, Int.reduceEq]
                          refine AW.ret ?_
                          refine blkQ.ret ?_
                          refine loopQ.ret H ?_ <;> clear H <;> intro H
                          try dsimp only at H
                          refine blk0.ret ?_
                          refine seqQ.ret ?_
                          cases H
                          exact hQ _ _ _ _ (.inr rfl) (by simp only [resVs, omap, resV, ↓wk, ↓wl, nc, evV, wrapBits_eq, ↓reduceIte, Nat.reduceEqDiff, Nat.reduceAdd, Nat.reduceSub, Nat.reduceLeDiff, Nat.reduceLT, Nat.reduceBEq, reduceCtorEq, Int.reduceEq]; rfl) (hand_plain (by rfl)) (by first | exact Or.inl rfl | exact Or.inr rfl)
                        · try simp only [↓wk, ↓wl, nc, evV, wrapBits_eq, ↓reduceIte, Nat.reduceEqDiff, Nat.reduceAdd, Nat.reduceSub, Nat.reduceLeDiff, Nat.reduceLT, Nat.reduceBEq, reduceCtorEq, Int.reduceEq]
                          refine AW.ifc H (by rfl) ?_ ?_ <;> clear H <;> intro H
                          · refine AW.rseq ?_
                            try simp only [↓wk, ↓wl, nc, evV, wrapBits_eq, ↓reduceIte, Nat.reduceEqDiff, Nat.reduceAdd, Nat.reduceSub, Nat.reduceLeDiff, Nat.reduceLT, Nat.reduceBEq, reduceCtorEq, Int.reduceEq]
                            refine AW.ret ?_
                            refine blkQ.ret ?_
                            refine loopQ.ret H ?_ <;> clear H <;> intro H
                            try dsimp only at H
                            refine blk0.ret ?_
                            refine seqQ.ret ?_
                            cases H
                            exact hQ _ _ _ _ (.inr rfl) (by simp only [resVs, omap, resV, ↓wk, ↓wl, nc, evV, wrapBits_eq, ↓reduceIte, Nat.reduceEqDiff, Nat.reduceAdd, Nat.reduceSub, Nat.reduceLeDiff, Nat.reduceLT, Nat.reduceBEq, reduceCtorEq, Int.reduceEq]; rfl) (hand_plain (by rfl)) (by first | exact Or.inl rfl | exact Or.inr rfl)
                          · refine AW.skip ?_
                            refine blkQ.norm ?_
                            refine AW.rend ?_
                            try simp only [↓wk, ↓wl, nc, evV, wrapBits_eq, ↓reduceIte, Nat.reduceEqDiff, Nat.reduceAdd, Nat.reduceSub, Nat.reduceLeDiff, Nat.reduceLT, Nat.reduceBEq, reduceCtorEq, Int.reduceEq]
                            exact loopQ.next H ((Le.none [0] [0, 4, 7, 9, 69, 70, 71] (by decide) (by simp only [f6_L1, List.length_set, Option.map_some, restrict_eq, renS_nil, renS_cons, renB_els, renB_cel, renB_dead, deep_eq, map_ren_enc, ren_agg', ren_tup', ren_fn', ren_int', ren_bool', ren_str', ren_sl', ren_pro', ren_nilp', ren_nilfn', ren_junk', ren_ptr', ren_row', ren_arow', ren_eptr', vm, List.idxOf?_cons, List.idxOf?_nil, beq_self_eq_true, Option.map_none, List.getD_cons_zero, List.getD_cons_succ, ↓wk, ↓wl, nc, evV, wrapBits_eq, ↓reduceIte, Nat.reduceEqDiff, Nat.reduceAdd, Nat.reduceSub, Nat.reduceLeDiff, Nat.reduceLT, Nat.reduceBEq, reduceCtorEq, Int.reduceEq] <;> rfl)))
                      · try simp only [↓wk, ↓wl, nc, evV, wrapBits_eq, ↓reduceIte, Nat.reduceEqDiff, Nat.reduceAdd, Nat.reduceSub, Nat.reduceLeDiff, Nat.reduceLT, Nat.reduceBEq, reduceCtorEq, Int.reduceEq]
                        refine AW.iff (by rfl) ?_
                        refine AW.skip ?_
                        refine blkQ.norm ?_
                        refine AW.rend ?_
                        try simp only [↓wk, ↓wl, nc, evV, wrapBits_eq, ↓reduceIte, Nat.reduceEqDiff, Nat.reduceAdd, Nat.reduceSub, Nat.reduceLeDiff, Nat.reduceLT, Nat.reduceBEq, reduceCtorEq, Int.reduceEq]
                        exact loopQ.next H ((Le.none [0] [0, 4, 7, 9, 69, 70, 71] (by decide) (by simp only [f6_L1, List.length_set, Option.map_some, restrict_eq, renS_nil, renS_cons, renB_els, renB_cel, renB_dead, deep_eq, map_ren_enc, ren_agg', ren_tup', ren_fn', ren_int', ren_bool', ren_str', ren_sl', ren_pro', ren_nilp', ren_nilfn', ren_junk', ren_ptr', ren_row', ren_arow', ren_eptr', vm, List.idxOf?_cons, List.idxOf?_nil, beq_self_eq_true, Option.map_none, List.getD_cons_zero, List.getD_cons_succ, ↓wk, ↓wl, nc, evV, wrapBits_eq, ↓reduceIte, Nat.reduceEqDiff, Nat.reduceAdd, Nat.reduceSub, Nat.reduceLeDiff, Nat.reduceLT, Nat.reduceBEq, reduceCtorEq, Int.reduceEq] <;> rfl)))
                  · try simp only [↓wk, ↓wl, nc, evV, wrapBits_eq, ↓reduceIte, Nat.reduceEqDiff, Nat.reduceAdd, Nat.reduceSub, Nat.reduceLeDiff, Nat.reduceLT, Nat.reduceBEq, reduceCtorEq, Int.reduceEq]
                    refine evTs_ifg H (by rfl) ?_ ?_ <;> clear H <;> intro H
                    · try simp only [↓wk, ↓wl, nc, evV, wrapBits_eq, ↓reduceIte, Nat.reduceEqDiff, Nat.reduceAdd, Nat.reduceSub, Nat.reduceLeDiff, Nat.reduceLT, Nat.reduceBEq, reduceCtorEq, Int.reduceEq]
                      refine evTs_ifg H (by rfl) ?_ ?_ <;> clear H <;> intro H
                      · try simp only [↓wk, ↓wl, nc, evV, wrapBits_eq, ↓reduceIte, Nat.reduceEqDiff, Nat.reduceAdd, Nat.reduceSub, Nat.reduceLeDiff, Nat.reduceLT, Nat.reduceBEq, reduceCtorEq, Int.reduceEq]
                        refine AW.ift (by rfl) ?_
                        refine AW.rseq ?_
                        try simp only [↓wk, ↓wl, nc, evV, wrapBits_eq, ↓reduceIte, Nat.reduceEqDiff, Nat.reduceAdd, Nat.reduceSub, Nat.reduceLeDiff, Nat.reduceLT, Nat.reduceBEq, reduceCtorEq, Int.reduceEq]
                        refine AW.ret ?_
                        refine blkQ.ret ?_
                        refine loopQ.ret H ?_ <;> clear H <;> intro H
                        try dsimp only at H
                        refine blk0.ret ?_
                        refine seqQ.ret ?_
                        cases H
                        exact hQ _ _ _ _ (.inr rfl) (by simp only [resVs, omap, resV, ↓wk, ↓wl, nc, evV, wrapBits_eq, ↓reduceIte, Nat.reduceEqDiff, Nat.reduceAdd, Nat.reduceSub, Nat.reduceLeDiff, Nat.reduceLT, Nat.reduceBEq, reduceCtorEq, Int.reduceEq]; rfl) (hand_plain (by rfl)) (by first | exact Or.inl rfl | exact Or.inr rfl)
                      · try simp only [↓wk, ↓wl, nc, evV, wrapBits_eq, ↓reduceIte, Nat.reduceEqDiff, Nat.reduceAdd, Nat.reduceSub, Nat.reduceLeDiff, Nat.reduceLT, Nat.reduceBEq, reduceCtorEq, Int.reduceEq]
                        refine AW.ifc H (by rfl) ?_ ?_ <;> clear H <;> intro H
                        · refine AW.rseq ?_
                          try simp only [↓wk, ↓wl, nc, evV, wrapBits_eq, ↓reduceIte, Nat.reduceEqDiff, Nat.reduceAdd, Nat.reduceSub, Nat.reduceLeDiff, Nat.reduceLT, Nat.reduceBEq, reduceCtorEq, Int.reduceEq]
                          refine AW.ret ?_
                          refine blkQ.ret ?_
                          refine loopQ.ret H ?_ <;> clear H <;> intro H
                          try dsimp only at H
                          refine blk0.ret ?_
                          refine seqQ.ret ?_
                          cases H
                          exact hQ _ _ _ _ (.inr rfl) (by simp only [resVs, omap, resV, ↓wk, ↓wl, nc, evV, wrapBits_eq, ↓reduceIte, Nat.reduceEqDiff, Nat.reduceAdd, Nat.reduceSub, Nat.reduceLeDiff, Nat.reduceLT, Nat.reduceBEq, reduceCtorEq, Int.reduceEq]; rfl) (hand_plain (by rfl)) (by first | exact Or.inl rfl | exact Or.inr rfl)
                        · refine AW.skip ?_
                          refine blkQ.norm ?_
                          refine AW.rend ?_
                          try simp only [↓wk, ↓wl, nc, evV, wrapBits_eq, ↓reduceIte, Nat.reduceEqDiff, Nat.reduceAdd, Nat.reduceSub, Nat.reduceLeDiff, Nat.reduceLT, Nat.reduceBEq, reduceCtorEq, Int.reduceEq]
                          exact loopQ.next H ((Le.none [0] [0, 4, 7, 9, 69, 70, 71] (by decide) (by simp only [f6_L1, List.length_set, Option.map_some, restrict_eq, renS_nil, renS_cons, renB_els, renB_cel, renB_dead, deep_eq, map_ren_enc, ren_agg', ren_tup', ren_fn', ren_int', ren_bool', ren_str', ren_sl', ren_pro', ren_nilp', ren_nilfn', ren_junk', ren_ptr', ren_row', ren_arow', ren_eptr', vm, List.idxOf?_cons, List.idxOf?_nil, beq_self_eq_true, Option.map_none, List.getD_cons_zero, List.getD_cons_succ, ↓wk, ↓wl, nc, evV, wrapBits_eq, ↓reduceIte, Nat.reduceEqDiff, Nat.reduceAdd, Nat.reduceSub, Nat.reduceLeDiff, Nat.reduceLT, Nat.reduceBEq, reduceCtorEq, Int.reduceEq] <;> rfl)))
                    · try simp only [↓wk, ↓wl, nc, evV, wrapBits_eq, ↓reduceIte, Nat.reduceEqDiff, Nat.reduceAdd, Nat.reduceSub, Nat.reduceLeDiff, Nat.reduceLT, Nat.reduceBEq, reduceCtorEq, Int.reduceEq]
                      refine AW.iff (by rfl) ?_
                      refine AW.skip ?_
                      refine blkQ.norm ?_
                      refine AW.rend ?_
                      try simp only [↓wk, ↓wl, nc, evV, wrapBits_eq, ↓reduceIte, Nat.reduceEqDiff, Nat.reduceAdd, Nat.reduceSub, Nat.reduceLeDiff, Nat.reduceLT, Nat.reduceBEq, reduceCtorEq, Int.reduceEq]
                      exact loopQ.next H ((Le.none [0] [0, 4, 7, 9, 69, 70, 71] (by decide) (by simp only [f6_L1, List.length_set, Option.map_some, restrict_eq, renS_nil, renS_cons, renB_els, renB_cel, renB_dead, deep_eq, map_ren_enc, ren_agg', ren_tup', ren_fn', ren_int', ren_bool', ren_str', ren_sl', ren_pro', ren_nilp', ren_nilfn', ren_junk', ren_ptr', ren_row', ren_arow', ren_eptr', vm, List.idxOf?_cons, List.idxOf?_nil, beq_self_eq_true, Option.map_none, List.getD_cons_zero, List.getD_cons_succ, ↓wk, ↓wl, nc, evV, wrapBits_eq, ↓reduceIte, Nat.reduceEqDiff, Nat.reduceAdd, Nat.reduceSub, Nat.reduceLeDiff, Nat.reduceLT, Nat.reduceBEq, reduceCtorEq, Int.reduceEq] <;> rfl)))
              · refine AW.exit ?_
                refine seqQ.exit ?_
                refine loopQ.exit H ?_ <;> clear H <;> intro H
                try dsimp only at H
                refine blk0.here ?_
                refine seqQ.norm ?_
                refine AW.rseq ?_
                try simp only [↓wk, ↓wl, nc, evV, wrapBits_eq, ↓reduceIte, Nat.reduceEqDiff, Nat.reduceAdd, Nat.reduceSub, Nat.reduceLeDiff, Nat.reduceLT, Nat.reduceBEq, reduceCtorEq, Int.reduceEq]
                refine evTs_pure hFn H (fun _ h => f23_im h) (by rfl) (by rfl) (by rfl) (by rfl) (fun _ => rfl) ?_ <;> clear H <;> intro r_1149 H
                try simp only [eL, ↓wk, ↓wl, nc, evV, wrapBits_eq, ↓reduceIte, Nat.reduceEqDiff, Nat.reduceAdd, Nat.reduceSub, Nat.reduceLeDiff, Nat.reduceLT, Nat.reduceBEq, reduceCtorEq, Int.reduceEq]
                refine AW.rseq ?_
                try simp only [↓wk, ↓wl, nc, evV, wrapBits_eq, ↓reduceIte, Nat.reduceEqDiff, Nat.reduceAdd, Nat.reduceSub, Nat.reduceLeDiff, Nat.reduceLT, Nat.reduceBEq, reduceCtorEq, Int.reduceEq]
                refine evTs_ifg H (by rfl) ?_ ?_ <;> clear H <;> intro H
                · try simp only [↓wk, ↓wl, nc, evV, wrapBits_eq, ↓reduceIte, Nat.reduceEqDiff, Nat.reduceAdd, Nat.reduceSub, Nat.reduceLeDiff, Nat.reduceLT, Nat.reduceBEq, reduceCtorEq, Int.reduceEq]
                  refine evTs_pure hFn H (fun _ h => f24_ok h) (by rfl) (by rfl) (by rfl) (by rfl) (fun _ => rfl) ?_ <;> clear H <;> intro r_1150 H
                  try simp only [eL, ↓wk, ↓wl, nc, evV, wrapBits_eq, ↓reduceIte, Nat.reduceEqDiff, Nat.reduceAdd, Nat.reduceSub, Nat.reduceLeDiff, Nat.reduceLT, Nat.reduceBEq, reduceCtorEq, Int.reduceEq]
                  refine evTs_ifg H (by rfl) ?_ ?_ <;> clear H <;> intro H
                  · try simp only [↓wk, ↓wl, nc, evV, wrapBits_eq, ↓reduceIte, Nat.reduceEqDiff, Nat.reduceAdd, Nat.reduceSub, Nat.reduceLeDiff, Nat.reduceLT, Nat.reduceBEq, reduceCtorEq, Int.reduceEq]
                    refine evTs_pure hFn H (fun _ h => f8_ok h) (by rfl) (by rfl) (by rfl) (by rfl) (fun _ => rfl) ?_ <;> clear H <;> intro r_1151 H
                    try simp only [eL, ↓wk, ↓wl, nc, evV, wrapBits_eq, ↓reduceIte, Nat.reduceEqDiff, Nat.reduceAdd, Nat.reduceSub, Nat.reduceLeDiff, Nat.reduceLT, Nat.reduceBEq, reduceCtorEq, Int.reduceEq]
                    refine AW.ret ?_
                    cases H
                    exact hQ _ _ _ _ (.inr rfl) (by simp only [resVs, omap, resV, ↓wk, ↓wl, nc, evV, wrapBits_eq, ↓reduceIte, Nat.reduceEqDiff, Nat.reduceAdd, Nat.reduceSub, Nat.reduceLeDiff, Nat.reduceLT, Nat.reduceBEq, reduceCtorEq, Int.reduceEq]; rfl) (hand_plain (by rfl)) (by first | exact Or.inl rfl | exact Or.inr rfl)
                  · try simp only [↓wk, ↓wl, nc, evV, wrapBits_eq, ↓reduceIte, Nat.reduceEqDiff, Nat.reduceAdd, Nat.reduceSub, Nat.reduceLeDiff, Nat.reduceLT, Nat.reduceBEq, reduceCtorEq, Int.reduceEq]
                    refine AW.ret ?_
                    cases H
                    exact hQ _ _ _ _ (.inr rfl) (by simp only [resVs, omap, resV, ↓wk, ↓wl, nc, evV, wrapBits_eq, ↓reduceIte, Nat.reduceEqDiff, Nat.reduceAdd, Nat.reduceSub, Nat.reduceLeDiff, Nat.reduceLT, Nat.reduceBEq, reduceCtorEq, Int.reduceEq]; rfl) (hand_plain (by rfl)) (by first | exact Or.inl rfl | exact Or.inr rfl)
                · try simp only [↓wk, ↓wl, nc, evV, wrapBits_eq, ↓reduceIte, Nat.reduceEqDiff, Nat.reduceAdd, Nat.reduceSub, Nat.reduceLeDiff, Nat.reduceLT, Nat.reduceBEq, reduceCtorEq, Int.reduceEq]
                  refine AW.ret ?_
                  cases H
                  exact hQ _ _ _ _ (.inr rfl) (by simp only [resVs, omap, resV, ↓wk, ↓wl, nc, evV, wrapBits_eq, ↓reduceIte, Nat.reduceEqDiff, Nat.reduceAdd, Nat.reduceSub, Nat.reduceLeDiff, Nat.reduceLT, Nat.reduceBEq, reduceCtorEq, Int.reduceEq]; rfl) (hand_plain (by rfl)) (by first | exact Or.inl rfl | exact Or.inr rfl)
end Go.Proofs.Ytpkolkbpcdkdbaa
