import Derived.Test.YtccipmhffapcmaaAb35
import Derived.Test.YtccipmhffapcmaaProg
import Derived.KernelRfl
namespace Go.Proofs.Ytccipmhffapcmaa
open Go Go.Ab

set_option maxHeartbeats 1000000
set_option linter.unusedSimpArgs false
set_option linter.unusedVariables false
structure ApiGroup where
  fNumber : Int
  fChannels : (List Int)
def eApiGroup (x : ApiGroup) : AV := .agg [.int .i64 x.fNumber, .sl 0 false (x.fChannels.map (AV.int .i64))]
instance : IsEnc 2 eApiGroup := ⟨fun _ => rfl, fun _ => rfl, fun _ => rfl⟩
def c60_0 : C := .seq (.reg [iI 3 (.mv (.t 0)), iI 4 (.bin .geq (.t 3) (.c (.int .i64 0))), iI 5 (.mv (.t 4)), iG (some 6) 5 true (.mv (.t 0)), iG (some 7) 5 true (.bin .leq (.t 6) (.c (.int .i64 65535))), iI 8 (.pick (.t 5) (.t 7) (.c (.bool false))), iI 2 (.mv (.t 8))]) .ret
def ir60 : C := .seq (.reg [iI 2 (.mv (.c (.bool false)))]) c60_0
theorem fd60 : fd? Try.prog 60 = some (9, [.slot 2], ir60) := by kernel_rfl
noncomputable def f60 (v_50 : Int) : Option (Bool) :=
  (if (decide (0 ≤ v_50)) = true then (some (decide (v_50 ≤ 65535))) else (some false))
theorem f60_ok {v_50 : Int} {r_ : Bool} (H : f60 v_50 = some r_) : Pure Try.prog 60 [.int .i64 v_50] (· = .bool r_) := by
  refine Pure.walk2 fd60 none (Nat.le_of_ble_eq_true rfl) (by rfl) fun Q hQ => ?_
  simp only [f60] at H
  refine AW.rseq ?_
  try simp only [↓wk, ↓wl, nc, evV, ↓reduceIte, Nat.reduceEqDiff, Nat.reduceAdd, Nat.reduceSub, Nat.reduceLeDiff, Nat.reduceLT, Nat.reduceBEq, reduceCtorEq, Int.reduceEq]
  refine AW.rseq ?_
  try simp only [↓wk, ↓wl, nc, evV, ↓reduceIte, Nat.reduceEqDiff, Nat.reduceAdd, Nat.reduceSub, Nat.reduceLeDiff, Nat.reduceLT, Nat.reduceBEq, reduceCtorEq, Int.reduceEq]
  refine evTs_ifg H (by rfl) ?_ ?_ <;> clear H <;> intro H
  · try simp only [↓wk, ↓wl, nc, evV, ↓reduceIte, Nat.reduceEqDiff, Nat.reduceAdd, Nat.reduceSub, Nat.reduceLeDiff, Nat.reduceLT, Nat.reduceBEq, reduceCtorEq, Int.reduceEq]
    refine AW.ret ?_
    cases H
    exact hQ _ _ _ _ (.inr rfl) (by simp only [resVs, omap, resV, ↓wk, ↓wl, nc, evV, ↓reduceIte, Nat.reduceEqDiff, Nat.reduceAdd, Nat.reduceSub, Nat.reduceLeDiff, Nat.reduceLT, Nat.reduceBEq, reduceCtorEq, Int.reduceEq]; rfl) (hand_plain (by rfl)) (by rfl)
  · try simp only [↓wk, ↓wl, nc, evV, ↓reduceIte, Nat.reduceEqDiff, Nat.reduceAdd, Nat.reduceSub, Nat.reduceLeDiff, Nat.reduceLT, Nat.reduceBEq, reduceCtorEq, Int.reduceEq]
    refine AW.ret ?_
    cases H
    exact hQ _ _ _ _ (.inr rfl) (by simp only [resVs, omap, resV, ↓wk, ↓wl, nc, evV, ↓reduceIte, Nat.reduceEqDiff, Nat.reduceAdd, Nat.reduceSub, Nat.reduceLeDiff, Nat.reduceLT, Nat.reduceBEq, reduceCtorEq, Int.reduceEq]; rfl) (hand_plain (by rfl)) (by rfl)
def c39_0 : C := .seq (.reg [iI 3 (.mv (.t 0)), iI 2 (.mv (.t 3))]) .ret
def ir39 : C := .seq (.reg [iI 2 (.mv (.c (.int .i64 0)))]) c39_0
theorem fd39 : fd? Try.prog 39 = some (4, [.slot 2], ir39) := by kernel_rfl
noncomputable def f39 (i_55 : Int) : Option (Int) :=
  (some i_55)
theorem f39_ok {i_55 : Int} {r_ : Int} (H : f39 i_55 = some r_) : Pure Try.prog 39 [.int .i64 i_55] (· = .int .i64 r_) := by
  refine Pure.walk2 fd39 none (Nat.le_of_ble_eq_true rfl) (by rfl) fun Q hQ => ?_
  simp only [f39] at H
  refine AW.rseq ?_
  try simp only [↓wk, ↓wl, nc, evV, ↓reduceIte, Nat.reduceEqDiff, Nat.reduceAdd, Nat.reduceSub, Nat.reduceLeDiff, Nat.reduceLT, Nat.reduceBEq, reduceCtorEq, Int.reduceEq]
  refine AW.rseq ?_
  try simp only [↓wk, ↓wl, nc, evV, ↓reduceIte, Nat.reduceEqDiff, Nat.reduceAdd, Nat.reduceSub, Nat.reduceLeDiff, Nat.reduceLT, Nat.reduceBEq, reduceCtorEq, Int.reduceEq]
  refine AW.ret ?_
  cases H
  exact hQ _ _ _ _ (.inr rfl) (by simp only [resVs, omap, resV, ↓wk, ↓wl, nc, evV, ↓reduceIte, Nat.reduceEqDiff, Nat.reduceAdd, Nat.reduceSub, Nat.reduceLeDiff, Nat.reduceLT, Nat.reduceBEq, reduceCtorEq, Int.reduceEq]; rfl) (hand_plain (by rfl)) (by rfl)
noncomputable def f38_39_L1 (n_48 : Int) (whole_49 : Int) (to_47 : Int) (from_46 : Int) : Lp (Int × (List Int)) ((List Int)) where
  body := fun (v_70, out_71) => (if (decide (v_70 < n_48)) = true then (if (decide (0 < whole_49)) = true then (f39 v_70).bind fun r_77 => (nz? (IntKind.i64.wrap (2 * whole_49))).bind fun _ => (nz? (IntKind.i64.wrap (2 * whole_49))).bind fun _ => (if (decide (((IntKind.i64.wrap ((IntKind.i64.wrap ((IntKind.i64.wrap (2 * (IntKind.i64.wrap (to_47 - from_46)))) * r_77)) + whole_49)).tmod (IntKind.i64.wrap (2 * whole_49))) < 0)) = true then (app? 8 out_71 ([(IntKind.i64.wrap ((IntKind.i64.wrap (from_46 + (IntKind.i64.wrap ((IntKind.i64.wrap ((IntKind.i64.wrap ((IntKind.i64.wrap (2 * (IntKind.i64.wrap (to_47 - from_46)))) * r_77)) + whole_49)).tdiv (IntKind.i64.wrap (2 * whole_49)))))) - 1))])).bind fun out_78 => (some (.next ((IntKind.i64.wrap (v_70 + 1)), out_78))) else (app? 8 out_71 ([(IntKind.i64.wrap (from_46 + (IntKind.i64.wrap ((IntKind.i64.wrap ((IntKind.i64.wrap ((IntKind.i64.wrap (2 * (IntKind.i64.wrap (to_47 - from_46)))) * r_77)) + whole_49)).tdiv (IntKind.i64.wrap (2 * whole_49))))))])).bind fun out_79 => (some (.next ((IntKind.i64.wrap (v_70 + 1)), out_79)))) else (app? 8 out_71 ([from_46])).bind fun out_80 => (some (.next ((IntKind.i64.wrap (v_70 + 1)), out_80)))) else (some (.brk out_71)))
  cst := fun (v_70, out_71) => ⟨put (put (put (put (put (put (put (fun _ => .junk) 36 (.int .i64 v_70)) 35 (.int .i64 n_48)) 13 (.row 0 0 0 out_71.length)) 4 (.fn 39 [])) 3 (.int .i64 whole_49)) 1 (.int .i64 to_47)) 0 (.int .i64 from_46), [.els 0 (out_71.map (AV.int .i64))]⟩
def c38_0 : C := .cond (.t 34) (.seq (.reg [iI 10 (.mv (.c (.sl 0 true []))), iI 11 (.mv (.c (.int .i64 2)))]) .ret) (.skip)
def c38_1 : C := .cond (.t 62) (.reg [iI 63 (.mv (.t 15)), iI 64 (.bin .sub (.t 63) (.c (.int .i64 1))), iI 15 (.mv (.t 64))]) (.skip)
def c38_2 : C := .seq (.reg [iI 58 (.mv (.t 16)), iI 59 (.mv (.t 3)), iI 60 (.bin .mul (.c (.int .i64 2)) (.t 59)), iI 61 (.bin .rem (.t 58) (.t 60)), iI 62 (.bin .lss (.t 61) (.c (.int .i64 0)))]) c38_1
def c38_3 : C := .seq (.reg [iI 52 (.mv (.t 15)), iI 53 (.mv (.t 16)), iI 54 (.mv (.t 3)), iI 55 (.bin .mul (.c (.int .i64 2)) (.t 54)), iI 56 (.bin .quo (.t 53) (.t 55)), iI 57 (.bin .add (.t 52) (.t 56)), iI 15 (.mv (.t 57))]) c38_2
def c38_4 : C := .cond (.t 41) (.seq (.reg [iI 42 (.mv (.t 1)), iI 43 (.mv (.t 0)), iI 44 (.bin .sub (.t 42) (.t 43)), iI 45 (.bin .mul (.c (.int .i64 2)) (.t 44)), iI 46 (.mv (.t 4)), iI 47 (.mv (.t 14)), iI 48 (.call (.t 46) [(.t 47)]), iI 49 (.bin .mul (.t 45) (.t 48)), iI 50 (.mv (.t 3)), iI 51 (.bin .add (.t 49) (.t 50)), iI 16 (.mv (.t 51))]) c38_3) (.skip)
def c38_5 : C := .reg [iI 65 (.mv (.t 13)), iI 66 (.mv (.t 15)), iI 67 (.mkslp 0 1 (.int .i64 0) [(0, (.t 66))]), iI 68 (.append 0 8 (.t 65) (.t 67)), iI 13 (.mv (.t 68))]
def c38_6 : C := .seq (.seq (.reg [iI 40 (.mv (.t 3)), iI 41 (.bin .gtr (.t 40) (.c (.int .i64 0)))]) c38_4) c38_5
def c38_7 : C := .seq (.reg [iI 39 (.mv (.t 0)), iI 15 (.mv (.t 39))]) c38_6
def c38_8 : C := .reg [iI 69 (.bin .add (.t 36) (.c (.int .i64 1))), iI 36 (.mv (.t 69))]
def c38_9 : C := .seq (.block 1 (.seq (.reg [iI 38 (.mv (.t 36)), iI 14 (.mv (.t 38))]) c38_7)) c38_8
def c38_10 : C := .seq (.cond (.t 37) (.skip) (.exit 0)) c38_9
def c38_11 : C := .block 0 (.loop (.seq (.reg [iI 37 (.bin .lss (.t 36) (.t 35))]) c38_10))
def c38_12 : C := .seq (.reg [iI 70 (.mv (.t 13)), iI 10 (.mv (.t 70)), iI 11 (.mv (.c (.int .i64 0)))]) .ret
def c38_13 : C := .seq (.seq (.reg [iI 35 (.mv (.t 2)), iI 36 (.mv (.c (.int .i64 0)))]) c38_11) c38_12
def c38_14 : C := .seq (.reg [iI 13 (.mv (.c (.sl 0 true [])))]) c38_13
def c38_15 : C := .seq (.seq (.reg [iI 17 (.mv (.t 12)), iI 18 (.mv (.t 0)), iI 19 (.call (.t 17) [(.t 18)]), iI 20 (.un .not (.t 19)), iI 21 (.mv (.t 20)), iG (some 22) 21 false (.mv (.t 12)), iG (some 23) 21 false (.mv (.t 1)), iG (some 24) 21 false (.call (.t 22) [(.t 23)]), iG (some 25) 21 false (.un .not (.t 24)), iI 26 (.pick (.t 21) (.c (.bool true)) (.t 25)), iI 27 (.mv (.t 26)), iG (some 28) 27 false (.mv (.t 2)), iG (some 29) 27 false (.bin .lss (.t 28) (.c (.int .i64 0))), iI 30 (.pick (.t 27) (.c (.bool true)) (.t 29)), iI 31 (.mv (.t 30)), iG (some 32) 31 false (.mv (.t 2)), iG (some 33) 31 false (.bin .gtr (.t 32) (.c (.int .i64 256))), iI 34 (.pick (.t 31) (.c (.bool true)) (.t 33))]) c38_0) c38_14
def c38_16 : C := .seq (.reg [iI 12 (.mv (.c (.fn 60 [])))]) c38_15
def ir38 : C := .seq (.reg [iI 10 (.mv (.c (.sl 0 true []))), iI 11 (.mv (.c (.int .i64 0)))]) c38_16
theorem fd38 : fd? Try.prog 38 = some (71, [.slot 10, .slot 11], ir38) := by kernel_rfl
noncomputable def f38_39 (from_46 : Int) (to_47 : Int) (n_48 : Int) (whole_49 : Int) : Option ((List Int) × Int) :=
  (f60 from_46).bind fun r_53 => (if (!r_53) = true then (some ([], 2)) else (f60 to_47).bind fun r_54 => (if (!r_54) = true then (some ([], 2)) else (if (decide (n_48 < 0)) = true then (some ([], 2)) else (if (decide (256 < n_48)) = true then (some ([], 2)) else (Lp.run (f38_39_L1 n_48 whole_49 to_47 from_46) (0, [])).bind fun out_76 => (some (out_76, 0))))))
theorem f38_39_ok {from_46 : Int} {to_47 : Int} {n_48 : Int} {whole_49 : Int} {r_ : (List Int) × Int} (H : f38_39 from_46 to_47 n_48 whole_49 = some r_) : Pure Try.prog 38 [.int .i64 from_46, .int .i64 to_47, .int .i64 n_48, .int .i64 whole_49, .fn 39 []] (· = .tup [.fr 0 (r_.1.map (AV.int .i64)), .int .i64 r_.2]) := by
  refine Pure.walk2 fd38 (some 0) (Nat.le_of_ble_eq_true rfl) (by rfl) fun Q hQ => ?_
  simp only [f38_39] at H
  refine AW.rseq ?_
  try simp only [↓wk, ↓wl, nc, evV, ↓reduceIte, Nat.reduceEqDiff, Nat.reduceAdd, Nat.reduceSub, Nat.reduceLeDiff, Nat.reduceLT, Nat.reduceBEq, reduceCtorEq, Int.reduceEq]
  refine AW.rseq ?_
  try simp only [↓wk, ↓wl, nc, evV, ↓reduceIte, Nat.reduceEqDiff, Nat.reduceAdd, Nat.reduceSub, Nat.reduceLeDiff, Nat.reduceLT, Nat.reduceBEq, reduceCtorEq, Int.reduceEq]
  refine AW.sseq ?_
  refine AW.rseq ?_
  try simp only [↓wk, ↓wl, nc, evV, ↓reduceIte, Nat.reduceEqDiff, Nat.reduceAdd, Nat.reduceSub, Nat.reduceLeDiff, Nat.reduceLT, Nat.reduceBEq, reduceCtorEq, Int.reduceEq]
  refine evTs_pure hFn H (fun _ h => f60_ok h) (by rfl) (by rfl) (by rfl) (by rfl) (fun _ => rfl) ?_ <;> clear H <;> intro r_53 H
  try simp only [eL, ↓wk, ↓wl, nc, evV, ↓reduceIte, Nat.reduceEqDiff, Nat.reduceAdd, Nat.reduceSub, Nat.reduceLeDiff, Nat.reduceLT, Nat.reduceBEq, reduceCtorEq, Int.reduceEq]
  refine evTs_ifg H (by rfl) ?_ ?_ <;> clear H <;> intro H
  · try simp only [↓wk, ↓wl, nc, evV, ↓reduceIte, Nat.reduceEqDiff, Nat.reduceAdd, Nat.reduceSub, Nat.reduceLeDiff, Nat.reduceLT, Nat.reduceBEq, reduceCtorEq, Int.reduceEq]
    refine AW.ift (by rfl) ?_
    refine AW.rseq ?_
    try simp only [↓wk, ↓wl, nc, evV, ↓reduceIte, Nat.reduceEqDiff, Nat.reduceAdd, Nat.reduceSub, Nat.reduceLeDiff, Nat.reduceLT, Nat.reduceBEq, reduceCtorEq, Int.reduceEq]
    refine AW.ret ?_
    refine seqQ.ret ?_
    cases H
    exact hQ _ _ _ _ (.inr rfl) (by simp only [resVs, omap, resV, ↓wk, ↓wl, nc, evV, ↓reduceIte, Nat.reduceEqDiff, Nat.reduceAdd, Nat.reduceSub, Nat.reduceLeDiff, Nat.reduceLT, Nat.reduceBEq, reduceCtorEq, Int.reduceEq]; rfl) (hand_k0 (by rfl) (by rfl)) (by rfl)
  · try simp only [↓wk, ↓wl, nc, evV, ↓reduceIte, Nat.reduceEqDiff, Nat.reduceAdd, Nat.reduceSub, Nat.reduceLeDiff, Nat.reduceLT, Nat.reduceBEq, reduceCtorEq, Int.reduceEq]
    refine evTs_pure hFn H (fun _ h => f60_ok h) (by rfl) (by rfl) (by rfl) (by rfl) (fun _ => rfl) ?_ <;> clear H <;> intro r_54 H
    try simp only [eL, ↓wk, ↓wl, nc, evV, ↓reduceIte, Nat.reduceEqDiff, Nat.reduceAdd, Nat.reduceSub, Nat.reduceLeDiff, Nat.reduceLT, Nat.reduceBEq, reduceCtorEq, Int.reduceEq]
    refine evTs_ifg H (by rfl) ?_ ?_ <;> clear H <;> intro H
    · try simp only [↓wk, ↓wl, nc, evV, ↓reduceIte, Nat.reduceEqDiff, Nat.reduceAdd, Nat.reduceSub, Nat.reduceLeDiff, Nat.reduceLT, Nat.reduceBEq, reduceCtorEq, Int.reduceEq]
      refine AW.ift (by rfl) ?_
      refine AW.rseq ?_
      try simp only [↓wk, ↓wl, nc, evV, ↓reduceIte, Nat.reduceEqDiff, Nat.reduceAdd, Nat.reduceSub, Nat.reduceLeDiff, Nat.reduceLT, Nat.reduceBEq, reduceCtorEq, Int.reduceEq]
      refine AW.ret ?_
      refine seqQ.ret ?_
      cases H
      exact hQ _ _ _ _ (.inr rfl) (by simp only [resVs, omap, resV, ↓wk, ↓wl, nc, evV, ↓reduceIte, Nat.reduceEqDiff, Nat.reduceAdd, Nat.reduceSub, Nat.reduceLeDiff, Nat.reduceLT, Nat.reduceBEq, reduceCtorEq, Int.reduceEq]; rfl) (hand_k0 (by rfl) (by rfl)) (by rfl)
    · try simp only [↓wk, ↓wl, nc, evV, ↓reduceIte, Nat.reduceEqDiff, Nat.reduceAdd, Nat.reduceSub, Nat.reduceLeDiff, Nat.reduceLT, Nat.reduceBEq, reduceCtorEq, Int.reduceEq]
      refine evTs_ifg H (by rfl) ?_ ?_ <;> clear H <;> intro H
      · try simp only [↓wk, ↓wl, nc, evV, ↓reduceIte, Nat.reduceEqDiff, Nat.reduceAdd, Nat.reduceSub, Nat.reduceLeDiff, Nat.reduceLT, Nat.reduceBEq, reduceCtorEq, Int.reduceEq]
        refine AW.ift (by rfl) ?_
        refine AW.rseq ?_
        try simp only [↓wk, ↓wl, nc, evV, ↓reduceIte, Nat.reduceEqDiff, Nat.reduceAdd, Nat.reduceSub, Nat.reduceLeDiff, Nat.reduceLT, Nat.reduceBEq, reduceCtorEq, Int.reduceEq]
        refine AW.ret ?_
        refine seqQ.ret ?_
        cases H
        exact hQ _ _ _ _ (.inr rfl) (by simp only [resVs, omap, resV, ↓wk, ↓wl, nc, evV, ↓reduceIte, Nat.reduceEqDiff, Nat.reduceAdd, Nat.reduceSub, Nat.reduceLeDiff, Nat.reduceLT, Nat.reduceBEq, reduceCtorEq, Int.reduceEq]; rfl) (hand_k0 (by rfl) (by rfl)) (by rfl)
      · try simp only [↓wk, ↓wl, nc, evV, ↓reduceIte, Nat.reduceEqDiff, Nat.reduceAdd, Nat.reduceSub, Nat.reduceLeDiff, Nat.reduceLT, Nat.reduceBEq, reduceCtorEq, Int.reduceEq]
        refine AW.ifc H (by rfl) ?_ ?_ <;> clear H <;> intro H
        · refine AW.rseq ?_
          try simp only [↓wk, ↓wl, nc, evV, ↓reduceIte, Nat.reduceEqDiff, Nat.reduceAdd, Nat.reduceSub, Nat.reduceLeDiff, Nat.reduceLT, Nat.reduceBEq, reduceCtorEq, Int.reduceEq]
          refine AW.ret ?_
          refine seqQ.ret ?_
          cases H
          exact hQ _ _ _ _ (.inr rfl) (by simp only [resVs, omap, resV, ↓wk, ↓wl, nc, evV, ↓reduceIte, Nat.reduceEqDiff, Nat.reduceAdd, Nat.reduceSub, Nat.reduceLeDiff, Nat.reduceLT, Nat.reduceBEq, reduceCtorEq, Int.reduceEq]; rfl) (hand_k0 (by rfl) (by rfl)) (by rfl)
        · refine AW.skip ?_
          refine seqQ.norm ?_
          refine AW.rseq ?_
          try simp only [↓wk, ↓wl, nc, evV, ↓reduceIte, Nat.reduceEqDiff, Nat.reduceAdd, Nat.reduceSub, Nat.reduceLeDiff, Nat.reduceLT, Nat.reduceBEq, reduceCtorEq, Int.reduceEq]
          refine AW.sseq ?_
          refine AW.rseq ?_
          try simp only [↓wk, ↓wl, nc, evV, ↓reduceIte, Nat.reduceEqDiff, Nat.reduceAdd, Nat.reduceSub, Nat.reduceLeDiff, Nat.reduceLT, Nat.reduceBEq, reduceCtorEq, Int.reduceEq]
          refine AW.bend ?_
          refine AW.iter H ((Le.trans (Le.nilRow (i := 13) (e := 0) (by simp only [↓wk, ↓wl, nc, evV, ↓reduceIte, Nat.reduceEqDiff, Nat.reduceAdd, Nat.reduceSub, Nat.reduceLeDiff, Nat.reduceLT, Nat.reduceBEq, reduceCtorEq, Int.reduceEq])) (Le.none [0] [0, 1, 3, 4, 13, 35, 36] (by decide) (by simp only [f38_39_L1, List.length_set, Option.map_some, restrict_eq, renS_nil, renS_cons, renB_els, renB_cel, renB_dead, deep_eq, map_ren_enc, ren_agg', ren_tup', ren_fn', ren_int', ren_bool', ren_str', ren_sl', ren_pro', ren_nilp', ren_nilfn', ren_junk', ren_ptr', ren_row', ren_arow', ren_eptr', vm, List.idxOf?_cons, List.idxOf?_nil, beq_self_eq_true, Option.map_none, List.getD_cons_zero, List.getD_cons_succ, ↓wk, ↓wl, nc, evV, ↓reduceIte, Nat.reduceEqDiff, Nat.reduceAdd, Nat.reduceSub, Nat.reduceLeDiff, Nat.reduceLT, Nat.reduceBEq, reduceCtorEq, Int.reduceEq])))) ?_ <;> clear H
          rintro ⟨v_70, out_71⟩ x_ st0_ H hst_
          simp only [f38_39_L1] at H hst_
          subst hst_
          refine AW.rseq ?_
          try simp only [↓wk, ↓wl, nc, evV, ↓reduceIte, Nat.reduceEqDiff, Nat.reduceAdd, Nat.reduceSub, Nat.reduceLeDiff, Nat.reduceLT, Nat.reduceBEq, reduceCtorEq, Int.reduceEq]
          refine AW.sseq ?_
          refine AW.ifc H (by rfl) ?_ ?_ <;> clear H <;> intro H
          · refine AW.skip ?_
            refine seqQ.norm ?_
            refine AW.bseq ?_
            refine AW.rseq ?_
            try simp only [↓wk, ↓wl, nc, evV, ↓reduceIte, Nat.reduceEqDiff, Nat.reduceAdd, Nat.reduceSub, Nat.reduceLeDiff, Nat.reduceLT, Nat.reduceBEq, reduceCtorEq, Int.reduceEq]
            refine AW.rseq ?_
            try simp only [↓wk, ↓wl, nc, evV, ↓reduceIte, Nat.reduceEqDiff, Nat.reduceAdd, Nat.reduceSub, Nat.reduceLeDiff, Nat.reduceLT, Nat.reduceBEq, reduceCtorEq, Int.reduceEq]
            refine AW.sseq ?_
            refine AW.rseq ?_
            try simp only [↓wk, ↓wl, nc, evV, ↓reduceIte, Nat.reduceEqDiff, Nat.reduceAdd, Nat.reduceSub, Nat.reduceLeDiff, Nat.reduceLT, Nat.reduceBEq, reduceCtorEq, Int.reduceEq]
            refine AW.ifc H (by rfl) ?_ ?_ <;> clear H <;> intro H
            · refine AW.rseq ?_
              try simp only [↓wk, ↓wl, nc, evV, ↓reduceIte, Nat.reduceEqDiff, Nat.reduceAdd, Nat.reduceSub, Nat.reduceLeDiff, Nat.reduceLT, Nat.reduceBEq, reduceCtorEq, Int.reduceEq]
              refine evTs_pure hFn H (fun _ h => f39_ok h) (by rfl) (by rfl) (by rfl) (by rfl) (fun _ => rfl) ?_ <;> clear H <;> intro r_77 H
              try simp only [eL, ↓wk, ↓wl, nc, evV, ↓reduceIte, Nat.reduceEqDiff, Nat.reduceAdd, Nat.reduceSub, Nat.reduceLeDiff, Nat.reduceLT, Nat.reduceBEq, reduceCtorEq, Int.reduceEq]
              refine AW.rseq ?_
              try simp only [↓wk, ↓wl, nc, evV, ↓reduceIte, Nat.reduceEqDiff, Nat.reduceAdd, Nat.reduceSub, Nat.reduceLeDiff, Nat.reduceLT, Nat.reduceBEq, reduceCtorEq, Int.reduceEq]
              refine rest_quo H ?_ <;> clear H <;> intro H
              try simp only [↓wk, ↓wl, nc, evV, ↓reduceIte, Nat.reduceEqDiff, Nat.reduceAdd, Nat.reduceSub, Nat.reduceLeDiff, Nat.reduceLT, Nat.reduceBEq, reduceCtorEq, Int.reduceEq]
              refine AW.rseq ?_
              try simp only [↓wk, ↓wl, nc, evV, ↓reduceIte, Nat.reduceEqDiff, Nat.reduceAdd, Nat.reduceSub, Nat.reduceLeDiff, Nat.reduceLT, Nat.reduceBEq, reduceCtorEq, Int.reduceEq]
              refine rest_rem H ?_ <;> clear H <;> intro H
              try simp only [↓wk, ↓wl, nc, evV, ↓reduceIte, Nat.reduceEqDiff, Nat.reduceAdd, Nat.reduceSub, Nat.reduceLeDiff, Nat.reduceLT, Nat.reduceBEq, reduceCtorEq, Int.reduceEq]
              refine AW.ifc H (by rfl) ?_ ?_ <;> clear H <;> intro H
              · refine AW.rend ?_
                try simp only [↓wk, ↓wl, nc, evV, ↓reduceIte, Nat.reduceEqDiff, Nat.reduceAdd, Nat.reduceSub, Nat.reduceLeDiff, Nat.reduceLT, Nat.reduceBEq, reduceCtorEq, Int.reduceEq]
                refine seqQ.norm ?_
                refine AW.rend ?_
                try simp only [↓wk, ↓wl, nc, evV, ↓reduceIte, Nat.reduceEqDiff, Nat.reduceAdd, Nat.reduceSub, Nat.reduceLeDiff, Nat.reduceLT, Nat.reduceBEq, reduceCtorEq, Int.reduceEq]
                refine evTs_app (enc := (AV.int .i64)) H (by rfl) (by first | rfl | simp only [List.length_set]) (by rfl) (by rfl) ?_ <;> clear H <;> intro out_78 H
                try simp only [↓wk, ↓wl, nc, evV, ↓reduceIte, Nat.reduceEqDiff, Nat.reduceAdd, Nat.reduceSub, Nat.reduceLeDiff, Nat.reduceLT, Nat.reduceBEq, reduceCtorEq, Int.reduceEq]
                refine blkQ.norm ?_
                refine AW.rend ?_
                try simp only [↓wk, ↓wl, nc, evV, ↓reduceIte, Nat.reduceEqDiff, Nat.reduceAdd, Nat.reduceSub, Nat.reduceLeDiff, Nat.reduceLT, Nat.reduceBEq, reduceCtorEq, Int.reduceEq]
                exact loopQ.next H ((Le.none [1] [0, 1, 3, 4, 13, 35, 36] (by decide) (by simp only [f38_39_L1, List.length_set, Option.map_some, restrict_eq, renS_nil, renS_cons, renB_els, renB_cel, renB_dead, deep_eq, map_ren_enc, ren_agg', ren_tup', ren_fn', ren_int', ren_bool', ren_str', ren_sl', ren_pro', ren_nilp', ren_nilfn', ren_junk', ren_ptr', ren_row', ren_arow', ren_eptr', vm, List.idxOf?_cons, List.idxOf?_nil, beq_self_eq_true, Option.map_none, List.getD_cons_zero, List.getD_cons_succ, ↓wk, ↓wl, nc, evV, ↓reduceIte, Nat.reduceEqDiff, Nat.reduceAdd, Nat.reduceSub, Nat.reduceLeDiff, Nat.reduceLT, Nat.reduceBEq, reduceCtorEq, Int.reduceEq])))
              · refine AW.skip ?_
                refine seqQ.norm ?_
                refine AW.rend ?_
                try simp only [↓wk, ↓wl, nc, evV, ↓reduceIte, Nat.reduceEqDiff, Nat.reduceAdd, Nat.reduceSub, Nat.reduceLeDiff, Nat.reduceLT, Nat.reduceBEq, reduceCtorEq, Int.reduceEq]
                refine evTs_app (enc := (AV.int .i64)) H (by rfl) (by first | rfl | simp only [List.length_set]) (by rfl) (by rfl) ?_ <;> clear H <;> intro out_79 H
                try simp only [↓wk, ↓wl, nc, evV, ↓reduceIte, Nat.reduceEqDiff, Nat.reduceAdd, Nat.reduceSub, Nat.reduceLeDiff, Nat.reduceLT, Nat.reduceBEq, reduceCtorEq, Int.reduceEq]
                refine blkQ.norm ?_
                refine AW.rend ?_
                try simp only [↓wk, ↓wl, nc, evV, ↓reduceIte, Nat.reduceEqDiff, Nat.reduceAdd, Nat.reduceSub, Nat.reduceLeDiff, Nat.reduceLT, Nat.reduceBEq, reduceCtorEq, Int.reduceEq]
                exact loopQ.next H ((Le.none [1] [0, 1, 3, 4, 13, 35, 36] (by decide) (by simp only [f38_39_L1, List.length_set, Option.map_some, restrict_eq, renS_nil, renS_cons, renB_els, renB_cel, renB_dead, deep_eq, map_ren_enc, ren_agg', ren_tup', ren_fn', ren_int', ren_bool', ren_str', ren_sl', ren_pro', ren_nilp', ren_nilfn', ren_junk', ren_ptr', ren_row', ren_arow', ren_eptr', vm, List.idxOf?_cons, List.idxOf?_nil, beq_self_eq_true, Option.map_none, List.getD_cons_zero, List.getD_cons_succ, ↓wk, ↓wl, nc, evV, ↓reduceIte, Nat.reduceEqDiff, Nat.reduceAdd, Nat.reduceSub, Nat.reduceLeDiff, Nat.reduceLT, Nat.reduceBEq, reduceCtorEq, Int.reduceEq])))
            · refine AW.skip ?_
              refine seqQ.norm ?_
              refine AW.rend ?_
              try simp only [↓wk, ↓wl, nc, evV, ↓reduceIte, Nat.reduceEqDiff, Nat.reduceAdd, Nat.reduceSub, Nat.reduceLeDiff, Nat.reduceLT, Nat.reduceBEq, reduceCtorEq, Int.reduceEq]
              refine evTs_app (enc := (AV.int .i64)) H (by rfl) (by first | rfl | simp only [List.length_set]) (by rfl) (by rfl) ?_ <;> clear H <;> intro out_80 H
              try simp only [↓wk, ↓wl, nc, evV, ↓reduceIte, Nat.reduceEqDiff, Nat.reduceAdd, Nat.reduceSub, Nat.reduceLeDiff, Nat.reduceLT, Nat.reduceBEq, reduceCtorEq, Int.reduceEq]
              refine blkQ.norm ?_
              refine AW.rend ?_
              try simp only [↓wk, ↓wl, nc, evV, ↓reduceIte, Nat.reduceEqDiff, Nat.reduceAdd, Nat.reduceSub, Nat.reduceLeDiff, Nat.reduceLT, Nat.reduceBEq, reduceCtorEq, Int.reduceEq]
              exact loopQ.next H ((Le.none [1] [0, 1, 3, 4, 13, 35, 36] (by decide) (by simp only [f38_39_L1, List.length_set, Option.map_some, restrict_eq, renS_nil, renS_cons, renB_els, renB_cel, renB_dead, deep_eq, map_ren_enc, ren_agg', ren_tup', ren_fn', ren_int', ren_bool', ren_str', ren_sl', ren_pro', ren_nilp', ren_nilfn', ren_junk', ren_ptr', ren_row', ren_arow', ren_eptr', vm, List.idxOf?_cons, List.idxOf?_nil, beq_self_eq_true, Option.map_none, List.getD_cons_zero, List.getD_cons_succ, ↓wk, ↓wl, nc, evV, ↓reduceIte, Nat.reduceEqDiff, Nat.reduceAdd, Nat.reduceSub, Nat.reduceLeDiff, Nat.reduceLT, Nat.reduceBEq, reduceCtorEq, Int.reduceEq])))
          · refine AW.exit ?_
            refine seqQ.exit ?_
            refine loopQ.exit H ?_ <;> clear H <;> intro H
            try dsimp only at H
            refine blk0.here ?_
            refine seqQ.norm ?_
            refine AW.rseq ?_
            try simp only [↓wk, ↓wl, nc, evV, ↓reduceIte, Nat.reduceEqDiff, Nat.reduceAdd, Nat.reduceSub, Nat.reduceLeDiff, Nat.reduceLT, Nat.reduceBEq, reduceCtorEq, Int.reduceEq]
            refine AW.ret ?_
            cases H
            exact hQ _ _ _ _ (.inr rfl) (by simp only [resVs, omap, resV, ↓wk, ↓wl, nc, evV, ↓reduceIte, Nat.reduceEqDiff, Nat.reduceAdd, Nat.reduceSub, Nat.reduceLeDiff, Nat.reduceLT, Nat.reduceBEq, reduceCtorEq, Int.reduceEq]; rfl) (hand_k (by rfl) (by rfl) (by simp) (enc_all _) (by rfl)) (by rfl)
theorem f38_39_im {from_46 : Int} {to_47 : Int} {n_48 : Int} {whole_49 : Int} {r_ : (List Int) × Int} (H : f38_39 from_46 to_47 n_48 whole_49 = some r_) : Pure Try.prog 38 [.int .i64 from_46, .int .i64 to_47, .int .i64 n_48, .int .i64 whole_49, .fn 39 []] (· = .tup [.sl 0 false (r_.1.map (AV.int .i64)), .int .i64 r_.2]) := (f38_39_ok H).unfr (by first | exact enc_fits _ | simp only [frFits, List.all_cons, List.all_nil, enc_fits, Bool.and_self])
def c11_0 : C := .seq (.reg [iI 8 (.mv (.t 0)), iI 9 (.mv (.t 1)), iI 10 (.mv (.t 2)), iI 11 (.mv (.t 2)), iI 12 (.bin .sub (.t 11) (.c (.int .i64 1))), iI 13 (.call (.c (.fn 38 [])) [(.t 8), (.t 9), (.t 10), (.t 12), (.c (.fn 39 []))]), iI 14 (.ext (.t 13) 0), iI 15 (.ext (.t 13) 1), iI 6 (.mv (.t 14)), iI 7 (.mv (.t 15))]) .ret
def ir11 : C := .seq (.reg [iI 6 (.mv (.c (.sl 0 true []))), iI 7 (.mv (.c (.int .i64 0)))]) c11_0
theorem fd11 : fd? Try.prog 11 = some (16, [.slot 6, .slot 7], ir11) := by kernel_rfl
noncomputable def f11 (from_43 : Int) (to_44 : Int) (n_45 : Int) : Option ((List Int) × Int) :=
  (f38_39 from_43 to_44 n_45 (IntKind.i64.wrap (n_45 - 1))).bind fun r_81 => (some (r_81.1, r_81.2))
theorem f11_ok {from_43 : Int} {to_44 : Int} {n_45 : Int} {r_ : (List Int) × Int} (H : f11 from_43 to_44 n_45 = some r_) : Pure Try.prog 11 [.int .i64 from_43, .int .i64 to_44, .int .i64 n_45] (· = .tup [.sl 0 false (r_.1.map (AV.int .i64)), .int .i64 r_.2]) := by
  refine Pure.walk2 fd11 none (Nat.le_of_ble_eq_true rfl) (by rfl) fun Q hQ => ?_
  simp only [f11] at H
  refine AW.rseq ?_
  try simp only [↓wk, ↓wl, nc, evV, ↓reduceIte, Nat.reduceEqDiff, Nat.reduceAdd, Nat.reduceSub, Nat.reduceLeDiff, Nat.reduceLT, Nat.reduceBEq, reduceCtorEq, Int.reduceEq]
  refine AW.rseq ?_
  try simp only [↓wk, ↓wl, nc, evV, ↓reduceIte, Nat.reduceEqDiff, Nat.reduceAdd, Nat.reduceSub, Nat.reduceLeDiff, Nat.reduceLT, Nat.reduceBEq, reduceCtorEq, Int.reduceEq]
  refine evTs_pure hFn H (fun _ h => f38_39_im h) (by rfl) (by rfl) (by rfl) (by rfl) (fun _ => rfl) ?_ <;> clear H <;> intro r_81 H
  try simp only [eL, ↓wk, ↓wl, nc, evV, ↓reduceIte, Nat.reduceEqDiff, Nat.reduceAdd, Nat.reduceSub, Nat.reduceLeDiff, Nat.reduceLT, Nat.reduceBEq, reduceCtorEq, Int.reduceEq]
  refine AW.ret ?_
  cases H
  exact hQ _ _ _ _ (.inr rfl) (by simp only [resVs, omap, resV, ↓wk, ↓wl, nc, evV, ↓reduceIte, Nat.reduceEqDiff, Nat.reduceAdd, Nat.reduceSub, Nat.reduceLeDiff, Nat.reduceLT, Nat.reduceBEq, reduceCtorEq, Int.reduceEq]; rfl) (hand_plain (by rfl)) (by rfl)
def c40_0 : C := .cond (.t 28) (.seq (.reg [iI 6 (.mv (.c (.int .i64 2)))]) .ret) (.skip)
def c40_1 : C := .seq (.reg [iI 6 (.mv (.c (.int .i64 0)))]) .ret
def c40_2 : C := .seq (.seq (.reg [iI 7 (.mv (.t 0)), iI 8 (.bin .lss (.t 7) (.c (.int .i64 0))), iI 9 (.mv (.t 8)), iG (some 10) 9 false (.mv (.t 0)), iG (some 11) 9 false (.bin .gtr (.t 10) (.c (.int .i64 65535))), iI 12 (.pick (.t 9) (.c (.bool true)) (.t 11)), iI 13 (.mv (.t 12)), iG (some 14) 13 false (.mv (.t 1)), iG (some 15) 13 false (.bin .lss (.t 14) (.c (.int .i64 0))), iI 16 (.pick (.t 13) (.c (.bool true)) (.t 15)), iI 17 (.mv (.t 16)), iG (some 18) 17 false (.mv (.t 1)), iG (some 19) 17 false (.bin .gtr (.t 18) (.c (.int .i64 65535))), iI 20 (.pick (.t 17) (.c (.bool true)) (.t 19)), iI 21 (.mv (.t 20)), iG (some 22) 21 false (.mv (.t 2)), iG (some 23) 21 false (.bin .lss (.t 22) (.c (.int .i64 0))), iI 24 (.pick (.t 21) (.c (.bool true)) (.t 23)), iI 25 (.mv (.t 24)), iG (some 26) 25 false (.mv (.t 2)), iG (some 27) 25 false (.bin .gtr (.t 26) (.c (.int .i64 256))), iI 28 (.pick (.t 25) (.c (.bool true)) (.t 27))]) c40_0) c40_1
def ir40 : C := .seq (.reg [iI 6 (.mv (.c (.int .i64 0)))]) c40_2
theorem fd40 : fd? Try.prog 40 = some (29, [.slot 6], ir40) := by kernel_rfl
noncomputable def f40 (from_86 : Int) (to_87 : Int) (n_88 : Int) : Option (Int) :=
  (if (decide (from_86 < 0)) = true then (some 2) else (if (decide (65535 < from_86)) = true then (some 2) else (if (decide (to_87 < 0)) = true then (some 2) else (if (decide (65535 < to_87)) = true then (some 2) else (if (decide (n_88 < 0)) = true then (some 2) else (if (decide (256 < n_88)) = true then (some 2) else (some 0)))))))
theorem f40_ok {from_86 : Int} {to_87 : Int} {n_88 : Int} {r_ : Int} (H : f40 from_86 to_87 n_88 = some r_) : Pure Try.prog 40 [.int .i64 from_86, .int .i64 to_87, .int .i64 n_88] (· = .int .i64 r_) := by
  refine Pure.walk2 fd40 none (Nat.le_of_ble_eq_true rfl) (by rfl) fun Q hQ => ?_
  simp only [f40] at H
  refine AW.rseq ?_
  try simp only [↓wk, ↓wl, nc, evV, ↓reduceIte, Nat.reduceEqDiff, Nat.reduceAdd, Nat.reduceSub, Nat.reduceLeDiff, Nat.reduceLT, Nat.reduceBEq, reduceCtorEq, Int.reduceEq]
  refine AW.sseq ?_
  refine AW.rseq ?_
  try simp only [↓wk, ↓wl, nc, evV, ↓reduceIte, Nat.reduceEqDiff, Nat.reduceAdd, Nat.reduceSub, Nat.reduceLeDiff, Nat.reduceLT, Nat.reduceBEq, reduceCtorEq, Int.reduceEq]
  refine evTs_ifg H (by rfl) ?_ ?_ <;> clear H <;> intro H
  · try simp only [↓wk, ↓wl, nc, evV, ↓reduceIte, Nat.reduceEqDiff, Nat.reduceAdd, Nat.reduceSub, Nat.reduceLeDiff, Nat.reduceLT, Nat.reduceBEq, reduceCtorEq, Int.reduceEq]
    refine AW.ift (by rfl) ?_
    refine AW.rseq ?_
    try simp only [↓wk, ↓wl, nc, evV, ↓reduceIte, Nat.reduceEqDiff, Nat.reduceAdd, Nat.reduceSub, Nat.reduceLeDiff, Nat.reduceLT, Nat.reduceBEq, reduceCtorEq, Int.reduceEq]
    refine AW.ret ?_
    refine seqQ.ret ?_
    cases H
    exact hQ _ _ _ _ (.inr rfl) (by simp only [resVs, omap, resV, ↓wk, ↓wl, nc, evV, ↓reduceIte, Nat.reduceEqDiff, Nat.reduceAdd, Nat.reduceSub, Nat.reduceLeDiff, Nat.reduceLT, Nat.reduceBEq, reduceCtorEq, Int.reduceEq]; rfl) (hand_plain (by rfl)) (by rfl)
  · try simp only [↓wk, ↓wl, nc, evV, ↓reduceIte, Nat.reduceEqDiff, Nat.reduceAdd, Nat.reduceSub, Nat.reduceLeDiff, Nat.reduceLT, Nat.reduceBEq, reduceCtorEq, Int.reduceEq]
    refine evTs_ifg H (by rfl) ?_ ?_ <;> clear H <;> intro H
    · try simp only [↓wk, ↓wl, nc, evV, ↓reduceIte, Nat.reduceEqDiff, Nat.reduceAdd, Nat.reduceSub, Nat.reduceLeDiff, Nat.reduceLT, Nat.reduceBEq, reduceCtorEq, Int.reduceEq]
      refine AW.ift (by rfl) ?_
      refine AW.rseq ?_
      try simp only [↓wk, ↓wl, nc, evV, ↓reduceIte, Nat.reduceEqDiff, Nat.reduceAdd, Nat.reduceSub, Nat.reduceLeDiff, Nat.reduceLT, Nat.reduceBEq, reduceCtorEq, Int.reduceEq]
      refine AW.ret ?_
      refine seqQ.ret ?_
      cases H
      exact hQ _ _ _ _ (.inr rfl) (by simp only [resVs, omap, resV, ↓wk, ↓wl, nc, evV, ↓reduceIte, Nat.reduceEqDiff, Nat.reduceAdd, Nat.reduceSub, Nat.reduceLeDiff, Nat.reduceLT, Nat.reduceBEq, reduceCtorEq, Int.reduceEq]; rfl) (hand_plain (by rfl)) (by rfl)
    · try simp only [↓wk, ↓wl, nc, evV, ↓reduceIte, Nat.reduceEqDiff, Nat.reduceAdd, Nat.reduceSub, Nat.reduceLeDiff, Nat.reduceLT, Nat.reduceBEq, reduceCtorEq, Int.reduceEq]
      refine evTs_ifg H (by rfl) ?_ ?_ <;> clear H <;> intro H
      · try simp only [↓wk, ↓wl, nc, evV, ↓reduceIte, Nat.reduceEqDiff, Nat.reduceAdd, Nat.reduceSub, Nat.reduceLeDiff, Nat.reduceLT, Nat.reduceBEq, reduceCtorEq, Int.reduceEq]
        refine AW.ift (by rfl) ?_
        refine AW.rseq ?_
        try simp only [↓wk, ↓wl, nc, evV, ↓reduceIte, Nat.reduceEqDiff, Nat.reduceAdd, Nat.reduceSub, Nat.reduceLeDiff, Nat.reduceLT, Nat.reduceBEq, reduceCtorEq, Int.reduceEq]
        refine AW.ret ?_
        refine seqQ.ret ?_
        cases H
        exact hQ _ _ _ _ (.inr rfl) (by simp only [resVs, omap, resV, ↓wk, ↓wl, nc, evV, ↓reduceIte, Nat.reduceEqDiff, Nat.reduceAdd, Nat.reduceSub, Nat.reduceLeDiff, Nat.reduceLT, Nat.reduceBEq, reduceCtorEq, Int.reduceEq]; rfl) (hand_plain (by rfl)) (by rfl)
      · try simp only [↓wk, ↓wl, nc, evV, ↓reduceIte, Nat.reduceEqDiff, Nat.reduceAdd, Nat.reduceSub, Nat.reduceLeDiff, Nat.reduceLT, Nat.reduceBEq, reduceCtorEq, Int.reduceEq]
        refine evTs_ifg H (by rfl) ?_ ?_ <;> clear H <;> intro H
        · try simp only [↓wk, ↓wl, nc, evV, ↓reduceIte, Nat.reduceEqDiff, Nat.reduceAdd, Nat.reduceSub, Nat.reduceLeDiff, Nat.reduceLT, Nat.reduceBEq, reduceCtorEq, Int.reduceEq]
          refine AW.ift (by rfl) ?_
          refine AW.rseq ?_
          try simp only [↓wk, ↓wl, nc, evV, ↓reduceIte, Nat.reduceEqDiff, Nat.reduceAdd, Nat.reduceSub, Nat.reduceLeDiff, Nat.reduceLT, Nat.reduceBEq, reduceCtorEq, Int.reduceEq]
          refine AW.ret ?_
          refine seqQ.ret ?_
          cases H
          exact hQ _ _ _ _ (.inr rfl) (by simp only [resVs, omap, resV, ↓wk, ↓wl, nc, evV, ↓reduceIte, Nat.reduceEqDiff, Nat.reduceAdd, Nat.reduceSub, Nat.reduceLeDiff, Nat.reduceLT, Nat.reduceBEq, reduceCtorEq, Int.reduceEq]; rfl) (hand_plain (by rfl)) (by rfl)
        · try simp only [↓wk, ↓wl, nc, evV, ↓reduceIte, Nat.reduceEqDiff, Nat.reduceAdd, Nat.reduceSub, Nat.reduceLeDiff, Nat.reduceLT, Nat.reduceBEq, reduceCtorEq, Int.reduceEq]
          refine evTs_ifg H (by rfl) ?_ ?_ <;> clear H <;> intro H
          · try simp only [↓wk, ↓wl, nc, evV, ↓reduceIte, Nat.reduceEqDiff, Nat.reduceAdd, Nat.reduceSub, Nat.reduceLeDiff, Nat.reduceLT, Nat.reduceBEq, reduceCtorEq, Int.reduceEq]
            refine AW.ift (by rfl) ?_
            refine AW.rseq ?_
            try simp only [↓wk, ↓wl, nc, evV, ↓reduceIte, Nat.reduceEqDiff, Nat.reduceAdd, Nat.reduceSub, Nat.reduceLeDiff, Nat.reduceLT, Nat.reduceBEq, reduceCtorEq, Int.reduceEq]
            refine AW.ret ?_
            refine seqQ.ret ?_
            cases H
            exact hQ _ _ _ _ (.inr rfl) (by simp only [resVs, omap, resV, ↓wk, ↓wl, nc, evV, ↓reduceIte, Nat.reduceEqDiff, Nat.reduceAdd, Nat.reduceSub, Nat.reduceLeDiff, Nat.reduceLT, Nat.reduceBEq, reduceCtorEq, Int.reduceEq]; rfl) (hand_plain (by rfl)) (by rfl)
          · try simp only [↓wk, ↓wl, nc, evV, ↓reduceIte, Nat.reduceEqDiff, Nat.reduceAdd, Nat.reduceSub, Nat.reduceLeDiff, Nat.reduceLT, Nat.reduceBEq, reduceCtorEq, Int.reduceEq]
            refine AW.ifc H (by rfl) ?_ ?_ <;> clear H <;> intro H
            · refine AW.rseq ?_
              try simp only [↓wk, ↓wl, nc, evV, ↓reduceIte, Nat.reduceEqDiff, Nat.reduceAdd, Nat.reduceSub, Nat.reduceLeDiff, Nat.reduceLT, Nat.reduceBEq, reduceCtorEq, Int.reduceEq]
              refine AW.ret ?_
              refine seqQ.ret ?_
              cases H
              exact hQ _ _ _ _ (.inr rfl) (by simp only [resVs, omap, resV, ↓wk, ↓wl, nc, evV, ↓reduceIte, Nat.reduceEqDiff, Nat.reduceAdd, Nat.reduceSub, Nat.reduceLeDiff, Nat.reduceLT, Nat.reduceBEq, reduceCtorEq, Int.reduceEq]; rfl) (hand_plain (by rfl)) (by rfl)
            · refine AW.skip ?_
              refine seqQ.norm ?_
              refine AW.rseq ?_
              try simp only [↓wk, ↓wl, nc, evV, ↓reduceIte, Nat.reduceEqDiff, Nat.reduceAdd, Nat.reduceSub, Nat.reduceLeDiff, Nat.reduceLT, Nat.reduceBEq, reduceCtorEq, Int.reduceEq]
              refine AW.ret ?_
              cases H
              exact hQ _ _ _ _ (.inr rfl) (by simp only [resVs, omap, resV, ↓wk, ↓wl, nc, evV, ↓reduceIte, Nat.reduceEqDiff, Nat.reduceAdd, Nat.reduceSub, Nat.reduceLeDiff, Nat.reduceLT, Nat.reduceBEq, reduceCtorEq, Int.reduceEq]; rfl) (hand_plain (by rfl)) (by rfl)
def c41_0 : C := .cond (.t 10) (.seq (.reg [iI 11 (.mv (.t 0)), iI 8 (.mv (.t 11))]) .ret) (.skip)
def c41_1 : C := .seq (.reg [iI 12 (.mv (.t 0)), iI 13 (.mv (.t 3)), iI 14 (.bin .mul (.t 12) (.t 13)), iI 15 (.mv (.t 1)), iI 16 (.mv (.t 0)), iI 17 (.bin .sub (.t 15) (.t 16)), iI 18 (.mv (.t 2)), iI 19 (.bin .mul (.t 17) (.t 18)), iI 20 (.bin .add (.t 14) (.t 19)), iI 21 (.bin .mul (.c (.int .i64 2)) (.t 20)), iI 22 (.mv (.t 3)), iI 23 (.bin .add (.t 21) (.t 22)), iI 24 (.mv (.t 3)), iI 25 (.bin .mul (.c (.int .i64 2)) (.t 24)), iI 26 (.bin .quo (.t 23) (.t 25)), iI 8 (.mv (.t 26))]) .ret
def c41_2 : C := .seq (.seq (.reg [iI 9 (.mv (.t 3)), iI 10 (.bin .eql (.t 9) (.c (.int .i64 0)))]) c41_0) c41_1
def ir41 : C := .seq (.reg [iI 8 (.mv (.c (.int .i64 0)))]) c41_2
theorem fd41 : fd? Try.prog 41 = some (27, [.slot 8], ir41) := by kernel_rfl
noncomputable def f41 (a_91 : Int) (b_92 : Int) (part_93 : Int) (whole_94 : Int) : Option (Int) :=
  (if (decide (whole_94 = 0)) = true then (some a_91) else (nz? (IntKind.i64.wrap (2 * whole_94))).bind fun _ => (some (IntKind.i64.wrap ((IntKind.i64.wrap ((IntKind.i64.wrap (2 * (IntKind.i64.wrap ((IntKind.i64.wrap (a_91 * whole_94)) + (IntKind.i64.wrap ((IntKind.i64.wrap (b_92 - a_91)) * part_93)))))) + whole_94)).tdiv (IntKind.i64.wrap (2 * whole_94))))))
theorem f41_ok {a_91 : Int} {b_92 : Int} {part_93 : Int} {whole_94 : Int} {r_ : Int} (H : f41 a_91 b_92 part_93 whole_94 = some r_) : Pure Try.prog 41 [.int .i64 a_91, .int .i64 b_92, .int .i64 part_93, .int .i64 whole_94] (· = .int .i64 r_) := by
  refine Pure.walk2 fd41 none (Nat.le_of_ble_eq_true rfl) (by rfl) fun Q hQ => ?_
  simp only [f41] at H
  refine AW.rseq ?_
  try simp only [↓wk, ↓wl, nc, evV, ↓reduceIte, Nat.reduceEqDiff, Nat.reduceAdd, Nat.reduceSub, Nat.reduceLeDiff, Nat.reduceLT, Nat.reduceBEq, reduceCtorEq, Int.reduceEq]
  refine AW.sseq ?_
  refine AW.rseq ?_
  try simp only [↓wk, ↓wl, nc, evV, ↓reduceIte, Nat.reduceEqDiff, Nat.reduceAdd, Nat.reduceSub, Nat.reduceLeDiff, Nat.reduceLT, Nat.reduceBEq, reduceCtorEq, Int.reduceEq]
  refine AW.ifc H (by rfl) ?_ ?_ <;> clear H <;> intro H
  · refine AW.rseq ?_
    try simp only [↓wk, ↓wl, nc, evV, ↓reduceIte, Nat.reduceEqDiff, Nat.reduceAdd, Nat.reduceSub, Nat.reduceLeDiff, Nat.reduceLT, Nat.reduceBEq, reduceCtorEq, Int.reduceEq]
    refine AW.ret ?_
    refine seqQ.ret ?_
    cases H
    exact hQ _ _ _ _ (.inr rfl) (by simp only [resVs, omap, resV, ↓wk, ↓wl, nc, evV, ↓reduceIte, Nat.reduceEqDiff, Nat.reduceAdd, Nat.reduceSub, Nat.reduceLeDiff, Nat.reduceLT, Nat.reduceBEq, reduceCtorEq, Int.reduceEq]; rfl) (hand_plain (by rfl)) (by rfl)
  · refine AW.skip ?_
    refine seqQ.norm ?_
    refine AW.rseq ?_
    try simp only [↓wk, ↓wl, nc, evV, ↓reduceIte, Nat.reduceEqDiff, Nat.reduceAdd, Nat.reduceSub, Nat.reduceLeDiff, Nat.reduceLT, Nat.reduceBEq, reduceCtorEq, Int.reduceEq]
    refine rest_quo H ?_ <;> clear H <;> intro H
    try simp only [↓wk, ↓wl, nc, evV, ↓reduceIte, Nat.reduceEqDiff, Nat.reduceAdd, Nat.reduceSub, Nat.reduceLeDiff, Nat.reduceLT, Nat.reduceBEq, reduceCtorEq, Int.reduceEq]
    refine AW.ret ?_
    cases H
    exact hQ _ _ _ _ (.inr rfl) (by simp only [resVs, omap, resV, ↓wk, ↓wl, nc, evV, ↓reduceIte, Nat.reduceEqDiff, Nat.reduceAdd, Nat.reduceSub, Nat.reduceLeDiff, Nat.reduceLT, Nat.reduceBEq, reduceCtorEq, Int.reduceEq]; rfl) (hand_plain (by rfl)) (by rfl)
noncomputable def f12_L1 (n_85 : Int) (from_83 : Int) (to_84 : Int) : Lp (Int × (List Int)) ((List Int)) where
  body := fun (i_103, out_104) => (if (decide (i_103 < n_85)) = true then (f41 from_83 to_84 i_103 (IntKind.i64.wrap (n_85 - 1))).bind fun r_108 => (app? 8 out_104 ([r_108])).bind fun out_109 => (some (.next ((IntKind.i64.wrap (i_103 + 1)), out_109))) else (some (.brk out_104)))
  cst := fun (i_103, out_104) => ⟨put (put (put (put (put (fun _ => .junk) 10 (.int .i64 i_103)) 9 (.row 0 0 0 out_104.length)) 2 (.int .i64 n_85)) 1 (.int .i64 to_84)) 0 (.int .i64 from_83), [.els 0 (out_104.map (AV.int .i64))]⟩
def c12_0 : C := .cond (.t 16) (.seq (.reg [iI 17 (.mv (.t 8)), iI 6 (.mv (.c (.sl 0 true []))), iI 7 (.mv (.t 17))]) .ret) (.skip)
def c12_1 : C := .seq (.reg [iI 15 (.mv (.t 8)), iI 16 (.bin .neq (.t 15) (.c (.int .i64 0)))]) c12_0
def c12_2 : C := .cond (.t 20) (.skip) (.exit 0)
def c12_3 : C := .reg [iI 21 (.mv (.t 10)), iI 22 (.bin .add (.t 21) (.c (.int .i64 1))), iI 10 (.mv (.t 22))]
def c12_4 : C := .seq (.block 1 (.reg [iI 23 (.mv (.t 9)), iI 24 (.mv (.t 0)), iI 25 (.mv (.t 1)), iI 26 (.mv (.t 10)), iI 27 (.mv (.t 2)), iI 28 (.bin .sub (.t 27) (.c (.int .i64 1))), iI 29 (.call (.c (.fn 41 [])) [(.t 24), (.t 25), (.t 26), (.t 28)]), iI 30 (.mkslp 0 1 (.int .i64 0) [(0, (.t 29))]), iI 31 (.append 0 8 (.t 23) (.t 30)), iI 9 (.mv (.t 31))])) c12_3
def c12_5 : C := .block 0 (.loop (.seq (.seq (.reg [iI 18 (.mv (.t 10)), iI 19 (.mv (.t 2)), iI 20 (.bin .lss (.t 18) (.t 19))]) c12_2) c12_4))
def c12_6 : C := .seq (.reg [iI 32 (.mv (.t 9)), iI 6 (.mv (.t 32)), iI 7 (.mv (.c (.int .i64 0)))]) .ret
def c12_7 : C := .seq (.seq (.reg [iI 10 (.mv (.c (.int .i64 0)))]) c12_5) c12_6
def c12_8 : C := .seq (.reg [iI 9 (.mv (.c (.sl 0 true [])))]) c12_7
def c12_9 : C := .seq (.seq (.reg [iI 11 (.mv (.t 0)), iI 12 (.mv (.t 1)), iI 13 (.mv (.t 2)), iI 14 (.call (.c (.fn 40 [])) [(.t 11), (.t 12), (.t 13)]), iI 8 (.mv (.t 14))]) c12_1) c12_8
def ir12 : C := .seq (.reg [iI 6 (.mv (.c (.sl 0 true []))), iI 7 (.mv (.c (.int .i64 0)))]) c12_9
theorem fd12 : fd? Try.prog 12 = some (33, [.slot 6, .slot 7], ir12) := by kernel_rfl
noncomputable def f12 (from_83 : Int) (to_84 : Int) (n_85 : Int) : Option ((List Int) × Int) :=
  (f40 from_83 to_84 n_85).bind fun r_90 => (if (decide (r_90 ≠ 0)) = true then (some ([], r_90)) else (Lp.run (f12_L1 n_85 from_83 to_84) (0, [])).bind fun out_107 => (some (out_107, 0)))
theorem f12_ok {from_83 : Int} {to_84 : Int} {n_85 : Int} {r_ : (List Int) × Int} (H : f12 from_83 to_84 n_85 = some r_) : Pure Try.prog 12 [.int .i64 from_83, .int .i64 to_84, .int .i64 n_85] (· = .tup [.fr 0 (r_.1.map (AV.int .i64)), .int .i64 r_.2]) := by
  refine Pure.walk2 fd12 (some 0) (Nat.le_of_ble_eq_true rfl) (by rfl) fun Q hQ => ?_
  simp only [f12] at H
  refine AW.rseq ?_
  try simp only [↓wk, ↓wl, nc, evV, ↓reduceIte, Nat.reduceEqDiff, Nat.reduceAdd, Nat.reduceSub, Nat.reduceLeDiff, Nat.reduceLT, Nat.reduceBEq, reduceCtorEq, Int.reduceEq]
  refine AW.sseq ?_
  refine AW.rseq ?_
  try simp only [↓wk, ↓wl, nc, evV, ↓reduceIte, Nat.reduceEqDiff, Nat.reduceAdd, Nat.reduceSub, Nat.reduceLeDiff, Nat.reduceLT, Nat.reduceBEq, reduceCtorEq, Int.reduceEq]
  refine evTs_pure hFn H (fun _ h => f40_ok h) (by rfl) (by rfl) (by rfl) (by rfl) (fun _ => rfl) ?_ <;> clear H <;> intro r_90 H
  try simp only [eL, ↓wk, ↓wl, nc, evV, ↓reduceIte, Nat.reduceEqDiff, Nat.reduceAdd, Nat.reduceSub, Nat.reduceLeDiff, Nat.reduceLT, Nat.reduceBEq, reduceCtorEq, Int.reduceEq]
  refine AW.rseq ?_
  try simp only [↓wk, ↓wl, nc, evV, ↓reduceIte, Nat.reduceEqDiff, Nat.reduceAdd, Nat.reduceSub, Nat.reduceLeDiff, Nat.reduceLT, Nat.reduceBEq, reduceCtorEq, Int.reduceEq]
  refine AW.ifc H (by rfl) ?_ ?_ <;> clear H <;> intro H
  · refine AW.rseq ?_
    try simp only [↓wk, ↓wl, nc, evV, ↓reduceIte, Nat.reduceEqDiff, Nat.reduceAdd, Nat.reduceSub, Nat.reduceLeDiff, Nat.reduceLT, Nat.reduceBEq, reduceCtorEq, Int.reduceEq]
    refine AW.ret ?_
    refine seqQ.ret ?_
    cases H
    exact hQ _ _ _ _ (.inr rfl) (by simp only [resVs, omap, resV, ↓wk, ↓wl, nc, evV, ↓reduceIte, Nat.reduceEqDiff, Nat.reduceAdd, Nat.reduceSub, Nat.reduceLeDiff, Nat.reduceLT, Nat.reduceBEq, reduceCtorEq, Int.reduceEq]; rfl) (hand_k0 (by rfl) (by rfl)) (by rfl)
  · refine AW.skip ?_
    refine seqQ.norm ?_
    refine AW.rseq ?_
    try simp only [↓wk, ↓wl, nc, evV, ↓reduceIte, Nat.reduceEqDiff, Nat.reduceAdd, Nat.reduceSub, Nat.reduceLeDiff, Nat.reduceLT, Nat.reduceBEq, reduceCtorEq, Int.reduceEq]
    refine AW.sseq ?_
    refine AW.rseq ?_
    try simp only [↓wk, ↓wl, nc, evV, ↓reduceIte, Nat.reduceEqDiff, Nat.reduceAdd, Nat.reduceSub, Nat.reduceLeDiff, Nat.reduceLT, Nat.reduceBEq, reduceCtorEq, Int.reduceEq]
    refine AW.bend ?_
    refine AW.iter H ((Le.trans (Le.nilRow (i := 9) (e := 0) (by simp only [↓wk, ↓wl, nc, evV, ↓reduceIte, Nat.reduceEqDiff, Nat.reduceAdd, Nat.reduceSub, Nat.reduceLeDiff, Nat.reduceLT, Nat.reduceBEq, reduceCtorEq, Int.reduceEq])) (Le.none [0] [0, 1, 2, 9, 10] (by decide) (by simp only [f12_L1, List.length_set, Option.map_some, restrict_eq, renS_nil, renS_cons, renB_els, renB_cel, renB_dead, deep_eq, map_ren_enc, ren_agg', ren_tup', ren_fn', ren_int', ren_bool', ren_str', ren_sl', ren_pro', ren_nilp', ren_nilfn', ren_junk', ren_ptr', ren_row', ren_arow', ren_eptr', vm, List.idxOf?_cons, List.idxOf?_nil, beq_self_eq_true, Option.map_none, List.getD_cons_zero, List.getD_cons_succ, ↓wk, ↓wl, nc, evV, ↓reduceIte, Nat.reduceEqDiff, Nat.reduceAdd, Nat.reduceSub, Nat.reduceLeDiff, Nat.reduceLT, Nat.reduceBEq, reduceCtorEq, Int.reduceEq])))) ?_ <;> clear H
    rintro ⟨i_103, out_104⟩ x_ st0_ H hst_
    simp only [f12_L1] at H hst_
    subst hst_
    refine AW.sseq ?_
    refine AW.rseq ?_
    try simp only [↓wk, ↓wl, nc, evV, ↓reduceIte, Nat.reduceEqDiff, Nat.reduceAdd, Nat.reduceSub, Nat.reduceLeDiff, Nat.reduceLT, Nat.reduceBEq, reduceCtorEq, Int.reduceEq]
    refine AW.ifc H (by rfl) ?_ ?_ <;> clear H <;> intro H
    · refine AW.skip ?_
      refine seqQ.norm ?_
      refine AW.bseq ?_
      refine AW.rend ?_
      try simp only [↓wk, ↓wl, nc, evV, ↓reduceIte, Nat.reduceEqDiff, Nat.reduceAdd, Nat.reduceSub, Nat.reduceLeDiff, Nat.reduceLT, Nat.reduceBEq, reduceCtorEq, Int.reduceEq]
      refine evTs_pure hFn H (fun _ h => f41_ok h) (by rfl) (by rfl) (by rfl) (by rfl) (fun _ => rfl) ?_ <;> clear H <;> intro r_108 H
      try simp only [eL, ↓wk, ↓wl, nc, evV, ↓reduceIte, Nat.reduceEqDiff, Nat.reduceAdd, Nat.reduceSub, Nat.reduceLeDiff, Nat.reduceLT, Nat.reduceBEq, reduceCtorEq, Int.reduceEq]
      refine evTs_app (enc := (AV.int .i64)) H (by rfl) (by first | rfl | simp only [List.length_set]) (by rfl) (by rfl) ?_ <;> clear H <;> intro out_109 H
      try simp only [↓wk, ↓wl, nc, evV, ↓reduceIte, Nat.reduceEqDiff, Nat.reduceAdd, Nat.reduceSub, Nat.reduceLeDiff, Nat.reduceLT, Nat.reduceBEq, reduceCtorEq, Int.reduceEq]
      refine blkQ.norm ?_
      refine AW.rend ?_
      try simp only [↓wk, ↓wl, nc, evV, ↓reduceIte, Nat.reduceEqDiff, Nat.reduceAdd, Nat.reduceSub, Nat.reduceLeDiff, Nat.reduceLT, Nat.reduceBEq, reduceCtorEq, Int.reduceEq]
      exact loopQ.next H ((Le.none [1] [0, 1, 2, 9, 10] (by decide) (by simp only [f12_L1, List.length_set, Option.map_some, restrict_eq, renS_nil, renS_cons, renB_els, renB_cel, renB_dead, deep_eq, map_ren_enc, ren_agg', ren_tup', ren_fn', ren_int', ren_bool', ren_str', ren_sl', ren_pro', ren_nilp', ren_nilfn', ren_junk', ren_ptr', ren_row', ren_arow', ren_eptr', vm, List.idxOf?_cons, List.idxOf?_nil, beq_self_eq_true, Option.map_none, List.getD_cons_zero, List.getD_cons_succ, ↓wk, ↓wl, nc, evV, ↓reduceIte, Nat.reduceEqDiff, Nat.reduceAdd, Nat.reduceSub, Nat.reduceLeDiff, Nat.reduceLT, Nat.reduceBEq, reduceCtorEq, Int.reduceEq])))
    · refine AW.exit ?_
      refine seqQ.exit ?_
      refine loopQ.exit H ?_ <;> clear H <;> intro H
      try dsimp only at H
      refine blk0.here ?_
      refine seqQ.norm ?_
      refine AW.rseq ?_
      try simp only [↓wk, ↓wl, nc, evV, ↓reduceIte, Nat.reduceEqDiff, Nat.reduceAdd, Nat.reduceSub, Nat.reduceLeDiff, Nat.reduceLT, Nat.reduceBEq, reduceCtorEq, Int.reduceEq]
      refine AW.ret ?_
      cases H
      exact hQ _ _ _ _ (.inr rfl) (by simp only [resVs, omap, resV, ↓wk, ↓wl, nc, evV, ↓reduceIte, Nat.reduceEqDiff, Nat.reduceAdd, Nat.reduceSub, Nat.reduceLeDiff, Nat.reduceLT, Nat.reduceBEq, reduceCtorEq, Int.reduceEq]; rfl) (hand_k (by rfl) (by rfl) (by simp) (enc_all _) (by rfl)) (by rfl)
theorem f12_im {from_83 : Int} {to_84 : Int} {n_85 : Int} {r_ : (List Int) × Int} (H : f12 from_83 to_84 n_85 = some r_) : Pure Try.prog 12 [.int .i64 from_83, .int .i64 to_84, .int .i64 n_85] (· = .tup [.sl 0 false (r_.1.map (AV.int .i64)), .int .i64 r_.2]) := (f12_ok H).unfr (by first | exact enc_fits _ | simp only [frFits, List.all_cons, List.all_nil, enc_fits, Bool.and_self])
def c42_0 : C := .seq (.reg [iI 5 (.mv (.t 0)), iI 6 (.bin .mul (.c (.int .i64 2)) (.t 5)), iI 7 (.load 0 (.t 1)), iI 8 (.bin .sub (.t 7) (.c (.int .i64 1))), iI 9 (.bin .sub (.t 6) (.t 8)), iI 10 (.load 0 (.t 1)), iI 11 (.bin .sub (.t 10) (.c (.int .i64 1))), iI 12 (.mv (.t 0)), iI 13 (.bin .mul (.c (.int .i64 2)) (.t 12)), iI 14 (.bin .sub (.t 11) (.t 13)), iI 15 (.maxmin true (.t 9) [(.t 14)]), iI 16 (.load 0 (.t 2)), iI 17 (.bin .sub (.t 15) (.t 16)), iI 4 (.mv (.t 17))]) .ret
def ir42 : C := .seq (.reg [iI 4 (.mv (.c (.int .i64 0)))]) c42_0
theorem fd42 : fd? Try.prog 42 = some (18, [.slot 4], ir42) := by kernel_rfl
noncomputable def f42p (i_124 : Int) (c_125 : Int) (c_126 : Int) : Option (Int) :=
  (some (IntKind.i64.wrap ((if (IntKind.i64.wrap ((IntKind.i64.wrap (c_125 - 1)) - (IntKind.i64.wrap (2 * i_124)))) > (IntKind.i64.wrap ((IntKind.i64.wrap (2 * i_124)) - (IntKind.i64.wrap (c_125 - 1)))) then (IntKind.i64.wrap ((IntKind.i64.wrap (c_125 - 1)) - (IntKind.i64.wrap (2 * i_124)))) else (IntKind.i64.wrap ((IntKind.i64.wrap (2 * i_124)) - (IntKind.i64.wrap (c_125 - 1))))) - c_126)))
theorem f42p_ok {i_124 : Int} {c_125 : Int} {c_126 : Int} {r_ : Int} (H : f42p i_124 c_125 c_126 = some r_) : Pure Try.prog 42 [.int .i64 i_124, .pro [.int .i64 c_125], .pro [.int .i64 c_126]] (· = .int .i64 r_) := by
  refine Pure.walk2 fd42 none (Nat.le_of_ble_eq_true rfl) (by rfl) fun Q hQ => ?_
  simp only [f42p] at H
  refine AW.rseq ?_
  try simp only [↓wk, ↓wl, nc, evV, ↓reduceIte, Nat.reduceEqDiff, Nat.reduceAdd, Nat.reduceSub, Nat.reduceLeDiff, Nat.reduceLT, Nat.reduceBEq, reduceCtorEq, Int.reduceEq]
  refine AW.rseq ?_
  try simp only [↓wk, ↓wl, nc, evV, ↓reduceIte, Nat.reduceEqDiff, Nat.reduceAdd, Nat.reduceSub, Nat.reduceLeDiff, Nat.reduceLT, Nat.reduceBEq, reduceCtorEq, Int.reduceEq]
  refine AW.ret ?_
  cases H
  exact hQ _ _ _ _ (.inr rfl) (by simp only [resVs, omap, resV, ↓wk, ↓wl, nc, evV, ↓reduceIte, Nat.reduceEqDiff, Nat.reduceAdd, Nat.reduceSub, Nat.reduceLeDiff, Nat.reduceLT, Nat.reduceBEq, reduceCtorEq, Int.reduceEq]; rfl) (hand_plain (by rfl)) (by rfl)
noncomputable def f38_42_L1 (n_116 : Int) (whole_117 : Int) (part_118 : Int) (part_119 : Int) (to_115 : Int) (from_114 : Int) : Lp (Int × (List Int)) ((List Int)) where
  body := fun (v_141, out_142) => (if (decide (v_141 < n_116)) = true then (if (decide (0 < whole_117)) = true then (f42p v_141 part_118 part_119).bind fun r_148 => (nz? (IntKind.i64.wrap (2 * whole_117))).bind fun _ => (nz? (IntKind.i64.wrap (2 * whole_117))).bind fun _ => (if (decide (((IntKind.i64.wrap ((IntKind.i64.wrap ((IntKind.i64.wrap (2 * (IntKind.i64.wrap (to_115 - from_114)))) * r_148)) + whole_117)).tmod (IntKind.i64.wrap (2 * whole_117))) < 0)) = true then (app? 8 out_142 ([(IntKind.i64.wrap ((IntKind.i64.wrap (from_114 + (IntKind.i64.wrap ((IntKind.i64.wrap ((IntKind.i64.wrap ((IntKind.i64.wrap (2 * (IntKind.i64.wrap (to_115 - from_114)))) * r_148)) + whole_117)).tdiv (IntKind.i64.wrap (2 * whole_117)))))) - 1))])).bind fun out_149 => (some (.next ((IntKind.i64.wrap (v_141 + 1)), out_149))) else (app? 8 out_142 ([(IntKind.i64.wrap (from_114 + (IntKind.i64.wrap ((IntKind.i64.wrap ((IntKind.i64.wrap ((IntKind.i64.wrap (2 * (IntKind.i64.wrap (to_115 - from_114)))) * r_148)) + whole_117)).tdiv (IntKind.i64.wrap (2 * whole_117))))))])).bind fun out_150 => (some (.next ((IntKind.i64.wrap (v_141 + 1)), out_150)))) else (app? 8 out_142 ([from_114])).bind fun out_151 => (some (.next ((IntKind.i64.wrap (v_141 + 1)), out_151)))) else (some (.brk out_142)))
  cst := fun (v_141, out_142) => ⟨put (put (put (put (put (put (put (fun _ => .junk) 36 (.int .i64 v_141)) 35 (.int .i64 n_116)) 13 (.row 0 0 0 out_142.length)) 4 (.fn 42 [.pro [.int .i64 part_118], .pro [.int .i64 part_119]])) 3 (.int .i64 whole_117)) 1 (.int .i64 to_115)) 0 (.int .i64 from_114), [.els 0 (out_142.map (AV.int .i64))]⟩
noncomputable def f38_42 (from_114 : Int) (to_115 : Int) (n_116 : Int) (whole_117 : Int) (part_118 : Int) (part_119 : Int) : Option ((List Int) × Int) :=
  (f60 from_114).bind fun r_122 => (if (!r_122) = true then (some ([], 2)) else (f60 to_115).bind fun r_123 => (if (!r_123) = true then (some ([], 2)) else (if (decide (n_116 < 0)) = true then (some ([], 2)) else (if (decide (256 < n_116)) = true then (some ([], 2)) else (Lp.run (f38_42_L1 n_116 whole_117 part_118 part_119 to_115 from_114) (0, [])).bind fun out_147 => (some (out_147, 0))))))
theorem f38_42_ok {from_114 : Int} {to_115 : Int} {n_116 : Int} {whole_117 : Int} {part_118 : Int} {part_119 : Int} {r_ : (List Int) × Int} (H : f38_42 from_114 to_115 n_116 whole_117 part_118 part_119 = some r_) : Pure Try.prog 38 [.int .i64 from_114, .int .i64 to_115, .int .i64 n_116, .int .i64 whole_117, .fn 42 [.pro [.int .i64 part_118], .pro [.int .i64 part_119]]] (· = .tup [.fr 0 (r_.1.map (AV.int .i64)), .int .i64 r_.2]) := by
  refine Pure.walk2 fd38 (some 0) (Nat.le_of_ble_eq_true rfl) (by rfl) fun Q hQ => ?_
  simp only [f38_42] at H
  refine AW.rseq ?_
  try simp only [↓wk, ↓wl, nc, evV, ↓reduceIte, Nat.reduceEqDiff, Nat.reduceAdd, Nat.reduceSub, Nat.reduceLeDiff, Nat.reduceLT, Nat.reduceBEq, reduceCtorEq, Int.reduceEq]
  refine AW.rseq ?_
  try simp only [↓wk, ↓wl, nc, evV, ↓reduceIte, Nat.reduceEqDiff, Nat.reduceAdd, Nat.reduceSub, Nat.reduceLeDiff, Nat.reduceLT, Nat.reduceBEq, reduceCtorEq, Int.reduceEq]
  refine AW.sseq ?_
  refine AW.rseq ?_
  try simp only [↓wk, ↓wl, nc, evV, ↓reduceIte, Nat.reduceEqDiff, Nat.reduceAdd, Nat.reduceSub, Nat.reduceLeDiff, Nat.reduceLT, Nat.reduceBEq, reduceCtorEq, Int.reduceEq]
  refine evTs_pure hFn H (fun _ h => f60_ok h) (by rfl) (by rfl) (by rfl) (by rfl) (fun _ => rfl) ?_ <;> clear H <;> intro r_122 H
  try simp only [eL, ↓wk, ↓wl, nc, evV, ↓reduceIte, Nat.reduceEqDiff, Nat.reduceAdd, Nat.reduceSub, Nat.reduceLeDiff, Nat.reduceLT, Nat.reduceBEq, reduceCtorEq, Int.reduceEq]
  refine evTs_ifg H (by rfl) ?_ ?_ <;> clear H <;> intro H
  · try simp only [↓wk, ↓wl, nc, evV, ↓reduceIte, Nat.reduceEqDiff, Nat.reduceAdd, Nat.reduceSub, Nat.reduceLeDiff, Nat.reduceLT, Nat.reduceBEq, reduceCtorEq, Int.reduceEq]
    refine AW.ift (by rfl) ?_
    refine AW.rseq ?_
    try simp only [↓wk, ↓wl, nc, evV, ↓reduceIte, Nat.reduceEqDiff, Nat.reduceAdd, Nat.reduceSub, Nat.reduceLeDiff, Nat.reduceLT, Nat.reduceBEq, reduceCtorEq, Int.reduceEq]
    refine AW.ret ?_
    refine seqQ.ret ?_
    cases H
    exact hQ _ _ _ _ (.inr rfl) (by simp only [resVs, omap, resV, ↓wk, ↓wl, nc, evV, ↓reduceIte, Nat.reduceEqDiff, Nat.reduceAdd, Nat.reduceSub, Nat.reduceLeDiff, Nat.reduceLT, Nat.reduceBEq, reduceCtorEq, Int.reduceEq]; rfl) (hand_k0 (by rfl) (by rfl)) (by rfl)
  · try simp only [↓wk, ↓wl, nc, evV, ↓reduceIte, Nat.reduceEqDiff, Nat.reduceAdd, Nat.reduceSub, Nat.reduceLeDiff, Nat.reduceLT, Nat.reduceBEq, reduceCtorEq, Int.reduceEq]
    refine evTs_pure hFn H (fun _ h => f60_ok h) (by rfl) (by rfl) (by rfl) (by rfl) (fun _ => rfl) ?_ <;> clear H <;> intro r_123 H
    try simp only [eL, ↓wk, ↓wl, nc, evV, ↓reduceIte, Nat.reduceEqDiff, Nat.reduceAdd, Nat.reduceSub, Nat.reduceLeDiff, Nat.reduceLT, Nat.reduceBEq, reduceCtorEq, Int.reduceEq]
    refine evTs_ifg H (by rfl) ?_ ?_ <;> clear H <;> intro H
    · try simp only [↓wk, ↓wl, nc, evV, ↓reduceIte, Nat.reduceEqDiff, Nat.reduceAdd, Nat.reduceSub, Nat.reduceLeDiff, Nat.reduceLT, Nat.reduceBEq, reduceCtorEq, Int.reduceEq]
      refine AW.ift (by rfl) ?_
      refine AW.rseq ?_
      try simp only [↓wk, ↓wl, nc, evV, ↓reduceIte, Nat.reduceEqDiff, Nat.reduceAdd, Nat.reduceSub, Nat.reduceLeDiff, Nat.reduceLT, Nat.reduceBEq, reduceCtorEq, Int.reduceEq]
      refine AW.ret ?_
      refine seqQ.ret ?_
      cases H
      exact hQ _ _ _ _ (.inr rfl) (by simp only [resVs, omap, resV, ↓wk, ↓wl, nc, evV, ↓reduceIte, Nat.reduceEqDiff, Nat.reduceAdd, Nat.reduceSub, Nat.reduceLeDiff, Nat.reduceLT, Nat.reduceBEq, reduceCtorEq, Int.reduceEq]; rfl) (hand_k0 (by rfl) (by rfl)) (by rfl)
    · try simp only [↓wk, ↓wl, nc, evV, ↓reduceIte, Nat.reduceEqDiff, Nat.reduceAdd, Nat.reduceSub, Nat.reduceLeDiff, Nat.reduceLT, Nat.reduceBEq, reduceCtorEq, Int.reduceEq]
      refine evTs_ifg H (by rfl) ?_ ?_ <;> clear H <;> intro H
      · try simp only [↓wk, ↓wl, nc, evV, ↓reduceIte, Nat.reduceEqDiff, Nat.reduceAdd, Nat.reduceSub, Nat.reduceLeDiff, Nat.reduceLT, Nat.reduceBEq, reduceCtorEq, Int.reduceEq]
        refine AW.ift (by rfl) ?_
        refine AW.rseq ?_
        try simp only [↓wk, ↓wl, nc, evV, ↓reduceIte, Nat.reduceEqDiff, Nat.reduceAdd, Nat.reduceSub, Nat.reduceLeDiff, Nat.reduceLT, Nat.reduceBEq, reduceCtorEq, Int.reduceEq]
        refine AW.ret ?_
        refine seqQ.ret ?_
        cases H
        exact hQ _ _ _ _ (.inr rfl) (by simp only [resVs, omap, resV, ↓wk, ↓wl, nc, evV, ↓reduceIte, Nat.reduceEqDiff, Nat.reduceAdd, Nat.reduceSub, Nat.reduceLeDiff, Nat.reduceLT, Nat.reduceBEq, reduceCtorEq, Int.reduceEq]; rfl) (hand_k0 (by rfl) (by rfl)) (by rfl)
      · try simp only [↓wk, ↓wl, nc, evV, ↓reduceIte, Nat.reduceEqDiff, Nat.reduceAdd, Nat.reduceSub, Nat.reduceLeDiff, Nat.reduceLT, Nat.reduceBEq, reduceCtorEq, Int.reduceEq]
        refine AW.ifc H (by rfl) ?_ ?_ <;> clear H <;> intro H
        · refine AW.rseq ?_
          try simp only [↓wk, ↓wl, nc, evV, ↓reduceIte, Nat.reduceEqDiff, Nat.reduceAdd, Nat.reduceSub, Nat.reduceLeDiff, Nat.reduceLT, Nat.reduceBEq, reduceCtorEq, Int.reduceEq]
          refine AW.ret ?_
          refine seqQ.ret ?_
          cases H
          exact hQ _ _ _ _ (.inr rfl) (by simp only [resVs, omap, resV, ↓wk, ↓wl, nc, evV, ↓reduceIte, Nat.reduceEqDiff, Nat.reduceAdd, Nat.reduceSub, Nat.reduceLeDiff, Nat.reduceLT, Nat.reduceBEq, reduceCtorEq, Int.reduceEq]; rfl) (hand_k0 (by rfl) (by rfl)) (by rfl)
        · refine AW.skip ?_
          refine seqQ.norm ?_
          refine AW.rseq ?_
          try simp only [↓wk, ↓wl, nc, evV, ↓reduceIte, Nat.reduceEqDiff, Nat.reduceAdd, Nat.reduceSub, Nat.reduceLeDiff, Nat.reduceLT, Nat.reduceBEq, reduceCtorEq, Int.reduceEq]
          refine AW.sseq ?_
          refine AW.rseq ?_
          try simp only [↓wk, ↓wl, nc, evV, ↓reduceIte, Nat.reduceEqDiff, Nat.reduceAdd, Nat.reduceSub, Nat.reduceLeDiff, Nat.reduceLT, Nat.reduceBEq, reduceCtorEq, Int.reduceEq]
          refine AW.bend ?_
          refine AW.iter H ((Le.trans (Le.nilRow (i := 13) (e := 0) (by simp only [↓wk, ↓wl, nc, evV, ↓reduceIte, Nat.reduceEqDiff, Nat.reduceAdd, Nat.reduceSub, Nat.reduceLeDiff, Nat.reduceLT, Nat.reduceBEq, reduceCtorEq, Int.reduceEq])) (Le.none [0] [0, 1, 3, 4, 13, 35, 36] (by decide) (by simp only [f38_42_L1, List.length_set, Option.map_some, restrict_eq, renS_nil, renS_cons, renB_els, renB_cel, renB_dead, deep_eq, map_ren_enc, ren_agg', ren_tup', ren_fn', ren_int', ren_bool', ren_str', ren_sl', ren_pro', ren_nilp', ren_nilfn', ren_junk', ren_ptr', ren_row', ren_arow', ren_eptr', vm, List.idxOf?_cons, List.idxOf?_nil, beq_self_eq_true, Option.map_none, List.getD_cons_zero, List.getD_cons_succ, ↓wk, ↓wl, nc, evV, ↓reduceIte, Nat.reduceEqDiff, Nat.reduceAdd, Nat.reduceSub, Nat.reduceLeDiff, Nat.reduceLT, Nat.reduceBEq, reduceCtorEq, Int.reduceEq])))) ?_ <;> clear H
          rintro ⟨v_141, out_142⟩ x_ st0_ H hst_
          simp only [f38_42_L1] at H hst_
          subst hst_
          refine AW.rseq ?_
          try simp only [↓wk, ↓wl, nc, evV, ↓reduceIte, Nat.reduceEqDiff, Nat.reduceAdd, Nat.reduceSub, Nat.reduceLeDiff, Nat.reduceLT, Nat.reduceBEq, reduceCtorEq, Int.reduceEq]
          refine AW.sseq ?_
          refine AW.ifc H (by rfl) ?_ ?_ <;> clear H <;> intro H
          · refine AW.skip ?_
            refine seqQ.norm ?_
            refine AW.bseq ?_
            refine AW.rseq ?_
            try simp only [↓wk, ↓wl, nc, evV, ↓reduceIte, Nat.reduceEqDiff, Nat.reduceAdd, Nat.reduceSub, Nat.reduceLeDiff, Nat.reduceLT, Nat.reduceBEq, reduceCtorEq, Int.reduceEq]
            refine AW.rseq ?_
            try simp only [↓wk, ↓wl, nc, evV, ↓reduceIte, Nat.reduceEqDiff, Nat.reduceAdd, Nat.reduceSub, Nat.reduceLeDiff, Nat.reduceLT, Nat.reduceBEq, reduceCtorEq, Int.reduceEq]
            refine AW.sseq ?_
            refine AW.rseq ?_
            try simp only [↓wk, ↓wl, nc, evV, ↓reduceIte, Nat.reduceEqDiff, Nat.reduceAdd, Nat.reduceSub, Nat.reduceLeDiff, Nat.reduceLT, Nat.reduceBEq, reduceCtorEq, Int.reduceEq]
            refine AW.ifc H (by rfl) ?_ ?_ <;> clear H <;> intro H
            · refine AW.rseq ?_
              try simp only [↓wk, ↓wl, nc, evV, ↓reduceIte, Nat.reduceEqDiff, Nat.reduceAdd, Nat.reduceSub, Nat.reduceLeDiff, Nat.reduceLT, Nat.reduceBEq, reduceCtorEq, Int.reduceEq]
              refine evTs_pure hFn H (fun _ h => f42p_ok h) (by rfl) (by rfl) (by rfl) (by rfl) (fun _ => rfl) ?_ <;> clear H <;> intro r_148 H
              try simp only [eL, ↓wk, ↓wl, nc, evV, ↓reduceIte, Nat.reduceEqDiff, Nat.reduceAdd, Nat.reduceSub, Nat.reduceLeDiff, Nat.reduceLT, Nat.reduceBEq, reduceCtorEq, Int.reduceEq]
              refine AW.rseq ?_
              try simp only [↓wk, ↓wl, nc, evV, ↓reduceIte, Nat.reduceEqDiff, Nat.reduceAdd, Nat.reduceSub, Nat.reduceLeDiff, Nat.reduceLT, Nat.reduceBEq, reduceCtorEq, Int.reduceEq]
              refine rest_quo H ?_ <;> clear H <;> intro H
              try simp only [↓wk, ↓wl, nc, evV, ↓reduceIte, Nat.reduceEqDiff, Nat.reduceAdd, Nat.reduceSub, Nat.reduceLeDiff, Nat.reduceLT, Nat.reduceBEq, reduceCtorEq, Int.reduceEq]
              refine AW.rseq ?_
              try simp only [↓wk, ↓wl, nc, evV, ↓reduceIte, Nat.reduceEqDiff, Nat.reduceAdd, Nat.reduceSub, Nat.reduceLeDiff, Nat.reduceLT, Nat.reduceBEq, reduceCtorEq, Int.reduceEq]
              refine rest_rem H ?_ <;> clear H <;> intro H
              try simp only [↓wk, ↓wl, nc, evV, ↓reduceIte, Nat.reduceEqDiff, Nat.reduceAdd, Nat.reduceSub, Nat.reduceLeDiff, Nat.reduceLT, Nat.reduceBEq, reduceCtorEq, Int.reduceEq]
              refine AW.ifc H (by rfl) ?_ ?_ <;> clear H <;> intro H
              · refine AW.rend ?_
                try simp only [↓wk, ↓wl, nc, evV, ↓reduceIte, Nat.reduceEqDiff, Nat.reduceAdd, Nat.reduceSub, Nat.reduceLeDiff, Nat.reduceLT, Nat.reduceBEq, reduceCtorEq, Int.reduceEq]
                refine seqQ.norm ?_
                refine AW.rend ?_
                try simp only [↓wk, ↓wl, nc, evV, ↓reduceIte, Nat.reduceEqDiff, Nat.reduceAdd, Nat.reduceSub, Nat.reduceLeDiff, Nat.reduceLT, Nat.reduceBEq, reduceCtorEq, Int.reduceEq]
                refine evTs_app (enc := (AV.int .i64)) H (by rfl) (by first | rfl | simp only [List.length_set]) (by rfl) (by rfl) ?_ <;> clear H <;> intro out_149 H
                try simp only [↓wk, ↓wl, nc, evV, ↓reduceIte, Nat.reduceEqDiff, Nat.reduceAdd, Nat.reduceSub, Nat.reduceLeDiff, Nat.reduceLT, Nat.reduceBEq, reduceCtorEq, Int.reduceEq]
                refine blkQ.norm ?_
                refine AW.rend ?_
                try simp only [↓wk, ↓wl, nc, evV, ↓reduceIte, Nat.reduceEqDiff, Nat.reduceAdd, Nat.reduceSub, Nat.reduceLeDiff, Nat.reduceLT, Nat.reduceBEq, reduceCtorEq, Int.reduceEq]
                exact loopQ.next H ((Le.none [1] [0, 1, 3, 4, 13, 35, 36] (by decide) (by simp only [f38_42_L1, List.length_set, Option.map_some, restrict_eq, renS_nil, renS_cons, renB_els, renB_cel, renB_dead, deep_eq, map_ren_enc, ren_agg', ren_tup', ren_fn', ren_int', ren_bool', ren_str', ren_sl', ren_pro', ren_nilp', ren_nilfn', ren_junk', ren_ptr', ren_row', ren_arow', ren_eptr', vm, List.idxOf?_cons, List.idxOf?_nil, beq_self_eq_true, Option.map_none, List.getD_cons_zero, List.getD_cons_succ, ↓wk, ↓wl, nc, evV, ↓reduceIte, Nat.reduceEqDiff, Nat.reduceAdd, Nat.reduceSub, Nat.reduceLeDiff, Nat.reduceLT, Nat.reduceBEq, reduceCtorEq, Int.reduceEq])))
              · refine AW.skip ?_
                refine seqQ.norm ?_
                refine AW.rend ?_
                try simp only [↓wk, ↓wl, nc, evV, ↓reduceIte, Nat.reduceEqDiff, Nat.reduceAdd, Nat.reduceSub, Nat.reduceLeDiff, Nat.reduceLT, Nat.reduceBEq, reduceCtorEq, Int.reduceEq]
                refine evTs_app (enc := (AV.int .i64)) H (by rfl) (by first | rfl | simp only [List.length_set]) (by rfl) (by rfl) ?_ <;> clear H <;> intro out_150 H
                try simp only [↓wk, ↓wl, nc, evV, ↓reduceIte, Nat.reduceEqDiff, Nat.reduceAdd, Nat.reduceSub, Nat.reduceLeDiff, Nat.reduceLT, Nat.reduceBEq, reduceCtorEq, Int.reduceEq]
                refine blkQ.norm ?_
                refine AW.rend ?_
                try simp only [↓wk, ↓wl, nc, evV, ↓reduceIte, Nat.reduceEqDiff, Nat.reduceAdd, Nat.reduceSub, Nat.reduceLeDiff, Nat.reduceLT, Nat.reduceBEq, reduceCtorEq, Int.reduceEq]
                exact loopQ.next H ((Le.none [1] [0, 1, 3, 4, 13, 35, 36] (by decide) (by simp only [f38_42_L1, List.length_set, Option.map_some, restrict_eq, renS_nil, renS_cons, renB_els, renB_cel, renB_dead, deep_eq, map_ren_enc, ren_agg', ren_tup', ren_fn', ren_int', ren_bool', ren_str', ren_sl', ren_pro', ren_nilp', ren_nilfn', ren_junk', ren_ptr', ren_row', ren_arow', ren_eptr', vm, List.idxOf?_cons, List.idxOf?_nil, beq_self_eq_true, Option.map_none, List.getD_cons_zero, List.getD_cons_succ, ↓wk, ↓wl, nc, evV, ↓reduceIte, Nat.reduceEqDiff, Nat.reduceAdd, Nat.reduceSub, Nat.reduceLeDiff, Nat.reduceLT, Nat.reduceBEq, reduceCtorEq, Int.reduceEq])))
            · refine AW.skip ?_
              refine seqQ.norm ?_
              refine AW.rend ?_
              try simp only [↓wk, ↓wl, nc, evV, ↓reduceIte, Nat.reduceEqDiff, Nat.reduceAdd, Nat.reduceSub, Nat.reduceLeDiff, Nat.reduceLT, Nat.reduceBEq, reduceCtorEq, Int.reduceEq]
              refine evTs_app (enc := (AV.int .i64)) H (by rfl) (by first | rfl | simp only [List.length_set]) (by rfl) (by rfl) ?_ <;> clear H <;> intro out_151 H
              try simp only [↓wk, ↓wl, nc, evV, ↓reduceIte, Nat.reduceEqDiff, Nat.reduceAdd, Nat.reduceSub, Nat.reduceLeDiff, Nat.reduceLT, Nat.reduceBEq, reduceCtorEq, Int.reduceEq]
              refine blkQ.norm ?_
              refine AW.rend ?_
              try simp only [↓wk, ↓wl, nc, evV, ↓reduceIte, Nat.reduceEqDiff, Nat.reduceAdd, Nat.reduceSub, Nat.reduceLeDiff, Nat.reduceLT, Nat.reduceBEq, reduceCtorEq, Int.reduceEq]
              exact loopQ.next H ((Le.none [1] [0, 1, 3, 4, 13, 35, 36] (by decide) (by simp only [f38_42_L1, List.length_set, Option.map_some, restrict_eq, renS_nil, renS_cons, renB_els, renB_cel, renB_dead, deep_eq, map_ren_enc, ren_agg', ren_tup', ren_fn', ren_int', ren_bool', ren_str', ren_sl', ren_pro', ren_nilp', ren_nilfn', ren_junk', ren_ptr', ren_row', ren_arow', ren_eptr', vm, List.idxOf?_cons, List.idxOf?_nil, beq_self_eq_true, Option.map_none, List.getD_cons_zero, List.getD_cons_succ, ↓wk, ↓wl, nc, evV, ↓reduceIte, Nat.reduceEqDiff, Nat.reduceAdd, Nat.reduceSub, Nat.reduceLeDiff, Nat.reduceLT, Nat.reduceBEq, reduceCtorEq, Int.reduceEq])))
          · refine AW.exit ?_
            refine seqQ.exit ?_
            refine loopQ.exit H ?_ <;> clear H <;> intro H
            try dsimp only at H
            refine blk0.here ?_
            refine seqQ.norm ?_
            refine AW.rseq ?_
            try simp only [↓wk, ↓wl, nc, evV, ↓reduceIte, Nat.reduceEqDiff, Nat.reduceAdd, Nat.reduceSub, Nat.reduceLeDiff, Nat.reduceLT, Nat.reduceBEq, reduceCtorEq, Int.reduceEq]
            refine AW.ret ?_
            cases H
            exact hQ _ _ _ _ (.inr rfl) (by simp only [resVs, omap, resV, ↓wk, ↓wl, nc, evV, ↓reduceIte, Nat.reduceEqDiff, Nat.reduceAdd, Nat.reduceSub, Nat.reduceLeDiff, Nat.reduceLT, Nat.reduceBEq, reduceCtorEq, Int.reduceEq]; rfl) (hand_k (by rfl) (by rfl) (by simp) (enc_all _) (by rfl)) (by rfl)
theorem f38_42_im {from_114 : Int} {to_115 : Int} {n_116 : Int} {whole_117 : Int} {part_118 : Int} {part_119 : Int} {r_ : (List Int) × Int} (H : f38_42 from_114 to_115 n_116 whole_117 part_118 part_119 = some r_) : Pure Try.prog 38 [.int .i64 from_114, .int .i64 to_115, .int .i64 n_116, .int .i64 whole_117, .fn 42 [.pro [.int .i64 part_118], .pro [.int .i64 part_119]]] (· = .tup [.sl 0 false (r_.1.map (AV.int .i64)), .int .i64 r_.2]) := (f38_42_ok H).unfr (by first | exact enc_fits _ | simp only [frFits, List.all_cons, List.all_nil, enc_fits, Bool.and_self])
def c13_0 : C := .seq (.reg [iI 12 (.mv (.t 0)), iI 13 (.mv (.t 1)), iI 14 (.load 0 (.t 5)), iI 15 (.load 0 (.t 5)), iI 16 (.bin .sub (.t 15) (.c (.int .i64 1))), iI 17 (.load 0 (.t 8)), iI 18 (.bin .sub (.t 16) (.t 17)), iI 19 (.mkfn 42 [(.t 5), (.t 8)]), iI 20 (.call (.c (.fn 38 [])) [(.t 12), (.t 13), (.t 14), (.t 18), (.t 19)]), iI 21 (.ext (.t 20) 0), iI 22 (.ext (.t 20) 1), iI 6 (.mv (.t 21)), iI 7 (.mv (.t 22))]) .ret
def c13_1 : C := .seq (.reg [iI 9 (.load 0 (.t 5)), iI 10 (.bin .rem (.t 9) (.c (.int .i64 2))), iI 11 (.bin .sub (.c (.int .i64 1)) (.t 10)), iI 8 (.alloc [(1, (.int .i64 0))]), iN (.store 0 (.t 8) (.t 11))]) c13_0
def ir13 : C := .seq (.reg [iI 5 (.box (.t 2)), iI 6 (.mv (.c (.sl 0 true []))), iI 7 (.mv (.c (.int .i64 0)))]) c13_1
theorem fd13 : fd? Try.prog 13 = some (23, [.slot 6, .slot 7], ir13) := by kernel_rfl
noncomputable def f13 (from_111 : Int) (to_112 : Int) (n_113 : Int) : Option ((List Int) × Int) :=
  (f38_42 from_111 to_112 n_113 (IntKind.i64.wrap ((IntKind.i64.wrap (n_113 - 1)) - (IntKind.i64.wrap (1 - (n_113.tmod 2))))) n_113 (IntKind.i64.wrap (1 - (n_113.tmod 2)))).bind fun r_152 => (some (r_152.1, r_152.2))
theorem f13_ok {from_111 : Int} {to_112 : Int} {n_113 : Int} {r_ : (List Int) × Int} (H : f13 from_111 to_112 n_113 = some r_) : Pure Try.prog 13 [.int .i64 from_111, .int .i64 to_112, .int .i64 n_113] (· = .tup [.fr 0 (r_.1.map (AV.int .i64)), .int .i64 r_.2]) := by
  refine Pure.walk2 fd13 (some 0) (Nat.le_of_ble_eq_true rfl) (by rfl) fun Q hQ => ?_
  simp only [f13] at H
  refine AW.rseq ?_
  try simp only [↓wk, ↓wl, nc, evV, ↓reduceIte, Nat.reduceEqDiff, Nat.reduceAdd, Nat.reduceSub, Nat.reduceLeDiff, Nat.reduceLT, Nat.reduceBEq, reduceCtorEq, Int.reduceEq]
  refine AW.rseq ?_
  try simp only [↓wk, ↓wl, nc, evV, ↓reduceIte, Nat.reduceEqDiff, Nat.reduceAdd, Nat.reduceSub, Nat.reduceLeDiff, Nat.reduceLT, Nat.reduceBEq, reduceCtorEq, Int.reduceEq]
  refine AW.rseq ?_
  try simp only [↓wk, ↓wl, nc, evV, ↓reduceIte, Nat.reduceEqDiff, Nat.reduceAdd, Nat.reduceSub, Nat.reduceLeDiff, Nat.reduceLT, Nat.reduceBEq, reduceCtorEq, Int.reduceEq]
  refine evTs_frR H (fun _ h => f38_42_ok h) (by rfl) (by rfl) (by simp only [deep_eq, imm_simps, imm_rowE, imm_ptrE, imm_enc, omap_simps, take_map_len, take_map_set, take_map_set2, le_refl_true, Nat.zero_add, and_true, true_and, List.drop_zero, Option.map_some, ↓wk, ↓wl, nc, evV, ↓reduceIte, Nat.reduceEqDiff, Nat.reduceAdd, Nat.reduceSub, Nat.reduceLeDiff, Nat.reduceLT, Nat.reduceBEq, reduceCtorEq, Int.reduceEq]; rfl) (by rfl) (fun _ => by simp only [flatR, List.all_cons, List.all_nil, flat_all, Bool.and_true]; try rfl) (fun _ => rfl) ?_ <;> clear H <;> intro r_152 H
  try simp only [eL, ↓wk, ↓wl, nc, evV, ↓reduceIte, Nat.reduceEqDiff, Nat.reduceAdd, Nat.reduceSub, Nat.reduceLeDiff, Nat.reduceLT, Nat.reduceBEq, reduceCtorEq, Int.reduceEq]
  refine AW.ret ?_
  cases H
  exact hQ _ _ _ _ (.inr rfl) (by simp only [resVs, omap, resV, ↓wk, ↓wl, nc, evV, ↓reduceIte, Nat.reduceEqDiff, Nat.reduceAdd, Nat.reduceSub, Nat.reduceLeDiff, Nat.reduceLT, Nat.reduceBEq, reduceCtorEq, Int.reduceEq]; rfl) (hand_k (by rfl) (by rfl) (by simp) (enc_all _) (by rfl)) (by rfl)
theorem f13_im {from_111 : Int} {to_112 : Int} {n_113 : Int} {r_ : (List Int) × Int} (H : f13 from_111 to_112 n_113 = some r_) : Pure Try.prog 13 [.int .i64 from_111, .int .i64 to_112, .int .i64 n_113] (· = .tup [.sl 0 false (r_.1.map (AV.int .i64)), .int .i64 r_.2]) := (f13_ok H).unfr (by first | exact enc_fits _ | simp only [frFits, List.all_cons, List.all_nil, enc_fits, Bool.and_self])
noncomputable def f14_L2 (n_156 : Int) (from_154 : Int) (to_155 : Int) (m_159 : Int) : Lp (Int × (List Int)) ((List Int)) where
  body := fun (i_168, out_169) => (if (decide (i_168 < n_156)) = true then (f41 from_154 to_155 (IntKind.i64.wrap ((if (IntKind.i64.wrap ((IntKind.i64.wrap (n_156 - 1)) - (IntKind.i64.wrap (2 * i_168)))) > (IntKind.i64.wrap ((IntKind.i64.wrap (2 * i_168)) - (IntKind.i64.wrap (n_156 - 1)))) then (IntKind.i64.wrap ((IntKind.i64.wrap (n_156 - 1)) - (IntKind.i64.wrap (2 * i_168)))) else (IntKind.i64.wrap ((IntKind.i64.wrap (2 * i_168)) - (IntKind.i64.wrap (n_156 - 1))))) - m_159)) (IntKind.i64.wrap ((IntKind.i64.wrap (n_156 - 1)) - m_159))).bind fun r_173 => (app? 8 out_169 ([r_173])).bind fun out_174 => (some (.next ((IntKind.i64.wrap (i_168 + 1)), out_174))) else (some (.brk out_169)))
  cst := fun (i_168, out_169) => ⟨put (put (put (put (put (put (fun _ => .junk) 11 (.int .i64 i_168)) 10 (.row 0 0 0 out_169.length)) 9 (.int .i64 m_159)) 2 (.int .i64 n_156)) 1 (.int .i64 to_155)) 0 (.int .i64 from_154), [.els 0 (out_169.map (AV.int .i64))]⟩
noncomputable def f14_J1 (n_156 : Int) (from_154 : Int) (to_155 : Int) : Jn (Int) ((List Int) × Int) where
  run := fun m_159 => (Lp.run (f14_L2 n_156 from_154 to_155 m_159) (0, [])).bind fun out_172 => (some (out_172, 0))
  cst := fun m_159 => ⟨put (put (put (put (fun _ => .junk) 9 (.int .i64 m_159)) 2 (.int .i64 n_156)) 1 (.int .i64 to_155)) 0 (.int .i64 from_154), []⟩
def c14_0 : C := .cond (.t 18) (.seq (.reg [iI 19 (.mv (.t 8)), iI 6 (.mv (.c (.sl 0 true []))), iI 7 (.mv (.t 19))]) .ret) (.skip)
def c14_1 : C := .seq (.reg [iI 17 (.mv (.t 8)), iI 18 (.bin .neq (.t 17) (.c (.int .i64 0)))]) c14_0
def c14_2 : C := .cond (.t 22) (.reg [iI 9 (.mv (.c (.int .i64 1)))]) (.skip)
def c14_3 : C := .cond (.t 25) (.skip) (.exit 0)
def c14_4 : C := .reg [iI 39 (.mv (.t 10)), iI 40 (.mv (.t 0)), iI 41 (.mv (.t 1)), iI 42 (.mv (.t 12)), iI 43 (.mv (.t 9)), iI 44 (.bin .sub (.t 42) (.t 43)), iI 45 (.mv (.t 2)), iI 46 (.bin .sub (.t 45) (.c (.int .i64 1))), iI 47 (.mv (.t 9)), iI 48 (.bin .sub (.t 46) (.t 47)), iI 49 (.call (.c (.fn 41 [])) [(.t 40), (.t 41), (.t 44), (.t 48)]), iI 50 (.mkslp 0 1 (.int .i64 0) [(0, (.t 49))]), iI 51 (.append 0 8 (.t 39) (.t 50)), iI 10 (.mv (.t 51))]
def c14_5 : C := .reg [iI 26 (.mv (.t 11)), iI 27 (.bin .add (.t 26) (.c (.int .i64 1))), iI 11 (.mv (.t 27))]
def c14_6 : C := .seq (.block 1 (.seq (.reg [iI 28 (.mv (.t 11)), iI 29 (.bin .mul (.c (.int .i64 2)) (.t 28)), iI 30 (.mv (.t 2)), iI 31 (.bin .sub (.t 30) (.c (.int .i64 1))), iI 32 (.bin .sub (.t 29) (.t 31)), iI 33 (.mv (.t 2)), iI 34 (.bin .sub (.t 33) (.c (.int .i64 1))), iI 35 (.mv (.t 11)), iI 36 (.bin .mul (.c (.int .i64 2)) (.t 35)), iI 37 (.bin .sub (.t 34) (.t 36)), iI 38 (.maxmin true (.t 32) [(.t 37)]), iI 12 (.mv (.t 38))]) c14_4)) c14_5
def c14_7 : C := .block 0 (.loop (.seq (.seq (.reg [iI 23 (.mv (.t 11)), iI 24 (.mv (.t 2)), iI 25 (.bin .lss (.t 23) (.t 24))]) c14_3) c14_6))
def c14_8 : C := .seq (.reg [iI 52 (.mv (.t 10)), iI 6 (.mv (.t 52)), iI 7 (.mv (.c (.int .i64 0)))]) .ret
def c14_9 : C := .seq (.seq (.reg [iI 11 (.mv (.c (.int .i64 0)))]) c14_7) c14_8
def c14_10 : C := .seq (.reg [iI 10 (.mv (.c (.sl 0 true [])))]) c14_9
def c14_11 : C := .seq (.seq (.reg [iI 20 (.mv (.t 2)), iI 21 (.bin .rem (.t 20) (.c (.int .i64 2))), iI 22 (.bin .eql (.t 21) (.c (.int .i64 0)))]) c14_2) c14_10
def c14_12 : C := .seq (.reg [iI 9 (.mv (.c (.int .i64 0)))]) c14_11
def c14_13 : C := .seq (.seq (.reg [iI 13 (.mv (.t 0)), iI 14 (.mv (.t 1)), iI 15 (.mv (.t 2)), iI 16 (.call (.c (.fn 40 [])) [(.t 13), (.t 14), (.t 15)]), iI 8 (.mv (.t 16))]) c14_1) c14_12
def ir14 : C := .seq (.reg [iI 6 (.mv (.c (.sl 0 true []))), iI 7 (.mv (.c (.int .i64 0)))]) c14_13
theorem fd14 : fd? Try.prog 14 = some (53, [.slot 6, .slot 7], ir14) := by kernel_rfl
noncomputable def f14 (from_154 : Int) (to_155 : Int) (n_156 : Int) : Option ((List Int) × Int) :=
  (f40 from_154 to_155 n_156).bind fun r_158 => (if (decide (r_158 ≠ 0)) = true then (some ([], r_158)) else (if (decide ((n_156.tmod 2) = 0)) = true then ((f14_J1 n_156 from_154 to_155).run 1) else ((f14_J1 n_156 from_154 to_155).run 0)))
theorem f14_ok {from_154 : Int} {to_155 : Int} {n_156 : Int} {r_ : (List Int) × Int} (H : f14 from_154 to_155 n_156 = some r_) : Pure Try.prog 14 [.int .i64 from_154, .int .i64 to_155, .int .i64 n_156] (· = .tup [.fr 0 (r_.1.map (AV.int .i64)), .int .i64 r_.2]) := by
  refine Pure.walk2 fd14 (some 0) (Nat.le_of_ble_eq_true rfl) (by rfl) fun Q hQ => ?_
  simp only [f14] at H
  refine AW.rseq ?_
  try simp only [↓wk, ↓wl, nc, evV, ↓reduceIte, Nat.reduceEqDiff, Nat.reduceAdd, Nat.reduceSub, Nat.reduceLeDiff, Nat.reduceLT, Nat.reduceBEq, reduceCtorEq, Int.reduceEq]
  refine AW.sseq ?_
  refine AW.rseq ?_
  try simp only [↓wk, ↓wl, nc, evV, ↓reduceIte, Nat.reduceEqDiff, Nat.reduceAdd, Nat.reduceSub, Nat.reduceLeDiff, Nat.reduceLT, Nat.reduceBEq, reduceCtorEq, Int.reduceEq]
  refine evTs_pure hFn H (fun _ h => f40_ok h) (by rfl) (by rfl) (by rfl) (by rfl) (fun _ => rfl) ?_ <;> clear H <;> intro r_158 H
  try simp only [eL, ↓wk, ↓wl, nc, evV, ↓reduceIte, Nat.reduceEqDiff, Nat.reduceAdd, Nat.reduceSub, Nat.reduceLeDiff, Nat.reduceLT, Nat.reduceBEq, reduceCtorEq, Int.reduceEq]
  refine AW.rseq ?_
  try simp only [↓wk, ↓wl, nc, evV, ↓reduceIte, Nat.reduceEqDiff, Nat.reduceAdd, Nat.reduceSub, Nat.reduceLeDiff, Nat.reduceLT, Nat.reduceBEq, reduceCtorEq, Int.reduceEq]
  refine AW.ifc H (by rfl) ?_ ?_ <;> clear H <;> intro H
  · refine AW.rseq ?_
    try simp only [↓wk, ↓wl, nc, evV, ↓reduceIte, Nat.reduceEqDiff, Nat.reduceAdd, Nat.reduceSub, Nat.reduceLeDiff, Nat.reduceLT, Nat.reduceBEq, reduceCtorEq, Int.reduceEq]
    refine AW.ret ?_
    refine seqQ.ret ?_
    cases H
    exact hQ _ _ _ _ (.inr rfl) (by simp only [resVs, omap, resV, ↓wk, ↓wl, nc, evV, ↓reduceIte, Nat.reduceEqDiff, Nat.reduceAdd, Nat.reduceSub, Nat.reduceLeDiff, Nat.reduceLT, Nat.reduceBEq, reduceCtorEq, Int.reduceEq]; rfl) (hand_k0 (by rfl) (by rfl)) (by rfl)
  · refine AW.skip ?_
    refine seqQ.norm ?_
    refine AW.rseq ?_
    try simp only [↓wk, ↓wl, nc, evV, ↓reduceIte, Nat.reduceEqDiff, Nat.reduceAdd, Nat.reduceSub, Nat.reduceLeDiff, Nat.reduceLT, Nat.reduceBEq, reduceCtorEq, Int.reduceEq]
    refine AW.join (f14_J1 n_156 from_154 to_155) H ?_ fun hf14_J1 => ?_
    · clear H
      rintro m_159 st0_ H hst_
      simp only [f14_J1] at H hst_
      subst hst_
      refine AW.rseq ?_
      try simp only [↓wk, ↓wl, nc, evV, ↓reduceIte, Nat.reduceEqDiff, Nat.reduceAdd, Nat.reduceSub, Nat.reduceLeDiff, Nat.reduceLT, Nat.reduceBEq, reduceCtorEq, Int.reduceEq]
      refine AW.sseq ?_
      refine AW.rseq ?_
      try simp only [↓wk, ↓wl, nc, evV, ↓reduceIte, Nat.reduceEqDiff, Nat.reduceAdd, Nat.reduceSub, Nat.reduceLeDiff, Nat.reduceLT, Nat.reduceBEq, reduceCtorEq, Int.reduceEq]
      refine AW.bend ?_
      refine AW.iter H ((Le.trans (Le.nilRow (i := 10) (e := 0) (by simp only [↓wk, ↓wl, nc, evV, ↓reduceIte, Nat.reduceEqDiff, Nat.reduceAdd, Nat.reduceSub, Nat.reduceLeDiff, Nat.reduceLT, Nat.reduceBEq, reduceCtorEq, Int.reduceEq])) (Le.none [0] [0, 1, 2, 9, 10, 11] (by decide) (by simp only [f14_L2, List.length_set, Option.map_some, restrict_eq, renS_nil, renS_cons, renB_els, renB_cel, renB_dead, deep_eq, map_ren_enc, ren_agg', ren_tup', ren_fn', ren_int', ren_bool', ren_str', ren_sl', ren_pro', ren_nilp', ren_nilfn', ren_junk', ren_ptr', ren_row', ren_arow', ren_eptr', vm, List.idxOf?_cons, List.idxOf?_nil, beq_self_eq_true, Option.map_none, List.getD_cons_zero, List.getD_cons_succ, ↓wk, ↓wl, nc, evV, ↓reduceIte, Nat.reduceEqDiff, Nat.reduceAdd, Nat.reduceSub, Nat.reduceLeDiff, Nat.reduceLT, Nat.reduceBEq, reduceCtorEq, Int.reduceEq])))) ?_ <;> clear H
      rintro ⟨i_168, out_169⟩ x_ st0_ H hst_
      simp only [f14_L2] at H hst_
      subst hst_
      refine AW.sseq ?_
      refine AW.rseq ?_
      try simp only [↓wk, ↓wl, nc, evV, ↓reduceIte, Nat.reduceEqDiff, Nat.reduceAdd, Nat.reduceSub, Nat.reduceLeDiff, Nat.reduceLT, Nat.reduceBEq, reduceCtorEq, Int.reduceEq]
      refine AW.ifc H (by rfl) ?_ ?_ <;> clear H <;> intro H
      · refine AW.skip ?_
        refine seqQ.norm ?_
        refine AW.bseq ?_
        refine AW.rseq ?_
        try simp only [↓wk, ↓wl, nc, evV, ↓reduceIte, Nat.reduceEqDiff, Nat.reduceAdd, Nat.reduceSub, Nat.reduceLeDiff, Nat.reduceLT, Nat.reduceBEq, reduceCtorEq, Int.reduceEq]
        refine AW.rend ?_
        try simp only [↓wk, ↓wl, nc, evV, ↓reduceIte, Nat.reduceEqDiff, Nat.reduceAdd, Nat.reduceSub, Nat.reduceLeDiff, Nat.reduceLT, Nat.reduceBEq, reduceCtorEq, Int.reduceEq]
        refine evTs_pure hFn H (fun _ h => f41_ok h) (by rfl) (by rfl) (by rfl) (by rfl) (fun _ => rfl) ?_ <;> clear H <;> intro r_173 H
        try simp only [eL, ↓wk, ↓wl, nc, evV, ↓reduceIte, Nat.reduceEqDiff, Nat.reduceAdd, Nat.reduceSub, Nat.reduceLeDiff, Nat.reduceLT, Nat.reduceBEq, reduceCtorEq, Int.reduceEq]
        refine evTs_app (enc := (AV.int .i64)) H (by rfl) (by first | rfl | simp only [List.length_set]) (by rfl) (by rfl) ?_ <;> clear H <;> intro out_174 H
        try simp only [↓wk, ↓wl, nc, evV, ↓reduceIte, Nat.reduceEqDiff, Nat.reduceAdd, Nat.reduceSub, Nat.reduceLeDiff, Nat.reduceLT, Nat.reduceBEq, reduceCtorEq, Int.reduceEq]
        refine blkQ.norm ?_
        refine AW.rend ?_
        try simp only [↓wk, ↓wl, nc, evV, ↓reduceIte, Nat.reduceEqDiff, Nat.reduceAdd, Nat.reduceSub, Nat.reduceLeDiff, Nat.reduceLT, Nat.reduceBEq, reduceCtorEq, Int.reduceEq]
        exact loopQ.next H ((Le.none [1] [0, 1, 2, 9, 10, 11] (by decide) (by simp only [f14_L2, List.length_set, Option.map_some, restrict_eq, renS_nil, renS_cons, renB_els, renB_cel, renB_dead, deep_eq, map_ren_enc, ren_agg', ren_tup', ren_fn', ren_int', ren_bool', ren_str', ren_sl', ren_pro', ren_nilp', ren_nilfn', ren_junk', ren_ptr', ren_row', ren_arow', ren_eptr', vm, List.idxOf?_cons, List.idxOf?_nil, beq_self_eq_true, Option.map_none, List.getD_cons_zero, List.getD_cons_succ, ↓wk, ↓wl, nc, evV, ↓reduceIte, Nat.reduceEqDiff, Nat.reduceAdd, Nat.reduceSub, Nat.reduceLeDiff, Nat.reduceLT, Nat.reduceBEq, reduceCtorEq, Int.reduceEq])))
      · refine AW.exit ?_
        refine seqQ.exit ?_
        refine loopQ.exit H ?_ <;> clear H <;> intro H
        try dsimp only at H
        refine blk0.here ?_
        refine seqQ.norm ?_
        refine AW.rseq ?_
        try simp only [↓wk, ↓wl, nc, evV, ↓reduceIte, Nat.reduceEqDiff, Nat.reduceAdd, Nat.reduceSub, Nat.reduceLeDiff, Nat.reduceLT, Nat.reduceBEq, reduceCtorEq, Int.reduceEq]
        refine AW.ret ?_
        cases H
        exact hQ _ _ _ _ (.inr rfl) (by simp only [resVs, omap, resV, ↓wk, ↓wl, nc, evV, ↓reduceIte, Nat.reduceEqDiff, Nat.reduceAdd, Nat.reduceSub, Nat.reduceLeDiff, Nat.reduceLT, Nat.reduceBEq, reduceCtorEq, Int.reduceEq]; rfl) (hand_k (by rfl) (by rfl) (by simp) (enc_all _) (by rfl)) (by rfl)
    · refine AW.rseq ?_
      try simp only [↓wk, ↓wl, nc, evV, ↓reduceIte, Nat.reduceEqDiff, Nat.reduceAdd, Nat.reduceSub, Nat.reduceLeDiff, Nat.reduceLT, Nat.reduceBEq, reduceCtorEq, Int.reduceEq]
      refine AW.ifc H (by rfl) ?_ ?_ <;> clear H <;> intro H
      · refine AW.rend ?_
        try simp only [↓wk, ↓wl, nc, evV, ↓reduceIte, Nat.reduceEqDiff, Nat.reduceAdd, Nat.reduceSub, Nat.reduceLeDiff, Nat.reduceLT, Nat.reduceBEq, reduceCtorEq, Int.reduceEq]
        refine seqQ.norm ?_
        exact hf14_J1 _ _ H ((Le.none [] [0, 1, 2, 9] (by decide) (by simp only [f14_J1, List.length_set, Option.map_some, restrict_eq, renS_nil, renS_cons, renB_els, renB_cel, renB_dead, deep_eq, map_ren_enc, ren_agg', ren_tup', ren_fn', ren_int', ren_bool', ren_str', ren_sl', ren_pro', ren_nilp', ren_nilfn', ren_junk', ren_ptr', ren_row', ren_arow', ren_eptr', vm, List.idxOf?_cons, List.idxOf?_nil, beq_self_eq_true, Option.map_none, List.getD_cons_zero, List.getD_cons_succ, ↓wk, ↓wl, nc, evV, ↓reduceIte, Nat.reduceEqDiff, Nat.reduceAdd, Nat.reduceSub, Nat.reduceLeDiff, Nat.reduceLT, Nat.reduceBEq, reduceCtorEq, Int.reduceEq])))
      · refine AW.skip ?_
        refine seqQ.norm ?_
        exact hf14_J1 _ _ H ((Le.none [] [0, 1, 2, 9] (by decide) (by simp only [f14_J1, List.length_set, Option.map_some, restrict_eq, renS_nil, renS_cons, renB_els, renB_cel, renB_dead, deep_eq, map_ren_enc, ren_agg', ren_tup', ren_fn', ren_int', ren_bool', ren_str', ren_sl', ren_pro', ren_nilp', ren_nilfn', ren_junk', ren_ptr', ren_row', ren_arow', ren_eptr', vm, List.idxOf?_cons, List.idxOf?_nil, beq_self_eq_true, Option.map_none, List.getD_cons_zero, List.getD_cons_succ, ↓wk, ↓wl, nc, evV, ↓reduceIte, Nat.reduceEqDiff, Nat.reduceAdd, Nat.reduceSub, Nat.reduceLeDiff, Nat.reduceLT, Nat.reduceBEq, reduceCtorEq, Int.reduceEq])))
theorem f14_im {from_154 : Int} {to_155 : Int} {n_156 : Int} {r_ : (List Int) × Int} (H : f14 from_154 to_155 n_156 = some r_) : Pure Try.prog 14 [.int .i64 from_154, .int .i64 to_155, .int .i64 n_156] (· = .tup [.sl 0 false (r_.1.map (AV.int .i64)), .int .i64 r_.2]) := (f14_ok H).unfr (by first | exact enc_fits _ | simp only [frFits, List.all_cons, List.all_nil, enc_fits, Bool.and_self])
noncomputable def f61_L1 (s_188 : (List Int)) (v_189 : Int) : Lp (Int) ((Unit) ⊕ (Int)) where
  body := fun v_193 => (if (decide (v_193 < ((s_188.length : Nat) : Int))) = true then (at? s_188 v_193).bind fun x_196 => (if (decide (v_189 = x_196)) = true then (some (.brk (Sum.inr v_193))) else (some (.next (IntKind.i64.wrap (v_193 + 1))))) else (some (.brk (Sum.inl ()))))
  cst := fun v_193 => ⟨put (put (put (put (fun _ => .junk) 8 (.int .i64 v_193)) 7 (.int .i64 ((s_188.length : Nat) : Int))) 1 (.int .i64 v_189)) 0 (.sl 0 false (s_188.map (AV.int .i64))), []⟩
def c61_0 : C := .cond (.t 16) (.seq (.reg [iI 17 (.mv (.t 5)), iI 4 (.mv (.t 17))]) .ret) (.skip)
def c61_1 : C := .seq (.reg [iI 11 (.mv (.t 1)), iI 12 (.mv (.t 0)), iI 13 (.mv (.t 5)), iI 14 (.iaddr 0 (.t 12) (.t 13)), iI 15 (.load 0 (.t 14)), iI 16 (.bin .eql (.t 11) (.t 15))]) c61_0
def c61_2 : C := .reg [iI 18 (.bin .add (.t 8) (.c (.int .i64 1))), iI 8 (.mv (.t 18))]
def c61_3 : C := .seq (.block 1 (.seq (.reg [iI 10 (.mv (.t 8)), iI 5 (.mv (.t 10))]) c61_1)) c61_2
def c61_4 : C := .seq (.cond (.t 9) (.skip) (.exit 0)) c61_3
def c61_5 : C := .block 0 (.loop (.seq (.reg [iI 9 (.bin .lss (.t 8) (.t 7))]) c61_4))
def c61_6 : C := .seq (.reg [iI 4 (.mv (.c (.int .i64 (-1))))]) .ret
def c61_7 : C := .seq (.seq (.reg [iI 6 (.mv (.t 0)), iI 7 (.len 0 (.t 6)), iI 8 (.mv (.c (.int .i64 0)))]) c61_5) c61_6
def ir61 : C := .seq (.reg [iI 4 (.mv (.c (.int .i64 0)))]) c61_7
theorem fd61 : fd? Try.prog 61 = some (19, [.slot 4], ir61) := by kernel_rfl
noncomputable def f61 (s_188 : (List Int)) (v_189 : Int) : Option (Int) :=
  ((Lp.run (f61_L1 s_188 v_189) 0).bind fun r_ => match r_ with | (Sum.inl _) => (some (-1)) | (Sum.inr v_195) => (some v_195))
theorem f61_ok {s_188 : (List Int)} {v_189 : Int} {r_ : Int} (H : f61 s_188 v_189 = some r_) : Pure Try.prog 61 [.sl 0 false (s_188.map (AV.int .i64)), .int .i64 v_189] (· = .int .i64 r_) := by
  refine Pure.walk2 fd61 none (Nat.le_of_ble_eq_true rfl) (by rfl) fun Q hQ => ?_
  simp only [f61] at H
  refine AW.rseq ?_
  try simp only [↓wk, ↓wl, nc, evV, ↓reduceIte, Nat.reduceEqDiff, Nat.reduceAdd, Nat.reduceSub, Nat.reduceLeDiff, Nat.reduceLT, Nat.reduceBEq, reduceCtorEq, Int.reduceEq]
  refine AW.sseq ?_
  refine AW.rseq ?_
  try simp only [↓wk, ↓wl, nc, evV, ↓reduceIte, Nat.reduceEqDiff, Nat.reduceAdd, Nat.reduceSub, Nat.reduceLeDiff, Nat.reduceLT, Nat.reduceBEq, reduceCtorEq, Int.reduceEq]
  refine AW.bend ?_
  refine AW.iter H ((Le.none [] [0, 1, 7, 8] (by decide) (by simp only [f61_L1, List.length_set, Option.map_some, restrict_eq, renS_nil, renS_cons, renB_els, renB_cel, renB_dead, deep_eq, map_ren_enc, ren_agg', ren_tup', ren_fn', ren_int', ren_bool', ren_str', ren_sl', ren_pro', ren_nilp', ren_nilfn', ren_junk', ren_ptr', ren_row', ren_arow', ren_eptr', vm, List.idxOf?_cons, List.idxOf?_nil, beq_self_eq_true, Option.map_none, List.getD_cons_zero, List.getD_cons_succ, ↓wk, ↓wl, nc, evV, ↓reduceIte, Nat.reduceEqDiff, Nat.reduceAdd, Nat.reduceSub, Nat.reduceLeDiff, Nat.reduceLT, Nat.reduceBEq, reduceCtorEq, Int.reduceEq]))) ?_ <;> clear H
  rintro v_193 x_ st0_ H hst_
  simp only [f61_L1] at H hst_
  subst hst_
  refine AW.rseq ?_
  try simp only [↓wk, ↓wl, nc, evV, ↓reduceIte, Nat.reduceEqDiff, Nat.reduceAdd, Nat.reduceSub, Nat.reduceLeDiff, Nat.reduceLT, Nat.reduceBEq, reduceCtorEq, Int.reduceEq]
  refine AW.sseq ?_
  refine AW.ifc H (by rfl) ?_ ?_ <;> clear H <;> intro H
  · refine AW.skip ?_
    refine seqQ.norm ?_
    refine AW.bseq ?_
    refine AW.rseq ?_
    try simp only [↓wk, ↓wl, nc, evV, ↓reduceIte, Nat.reduceEqDiff, Nat.reduceAdd, Nat.reduceSub, Nat.reduceLeDiff, Nat.reduceLT, Nat.reduceBEq, reduceCtorEq, Int.reduceEq]
    refine AW.rseq ?_
    try simp only [↓wk, ↓wl, nc, evV, ↓reduceIte, Nat.reduceEqDiff, Nat.reduceAdd, Nat.reduceSub, Nat.reduceLeDiff, Nat.reduceLT, Nat.reduceBEq, reduceCtorEq, Int.reduceEq]
    refine evTs_at (enc := (AV.int .i64)) H (by rfl) (by rfl) ?_ <;> clear H <;> intro x_196 H
    try simp only [↓wk, ↓wl, nc, evV, ↓reduceIte, Nat.reduceEqDiff, Nat.reduceAdd, Nat.reduceSub, Nat.reduceLeDiff, Nat.reduceLT, Nat.reduceBEq, reduceCtorEq, Int.reduceEq]
    refine AW.ifc H (by rfl) ?_ ?_ <;> clear H <;> intro H
    · refine AW.rseq ?_
      try simp only [↓wk, ↓wl, nc, evV, ↓reduceIte, Nat.reduceEqDiff, Nat.reduceAdd, Nat.reduceSub, Nat.reduceLeDiff, Nat.reduceLT, Nat.reduceBEq, reduceCtorEq, Int.reduceEq]
      refine AW.ret ?_
      refine blkQ.ret ?_
      refine loopQ.ret H ?_ <;> clear H <;> intro H
      try dsimp only at H
      refine blk0.ret ?_
      refine seqQ.ret ?_
      cases H
      exact hQ _ _ _ _ (.inr rfl) (by simp only [resVs, omap, resV, ↓wk, ↓wl, nc, evV, ↓reduceIte, Nat.reduceEqDiff, Nat.reduceAdd, Nat.reduceSub, Nat.reduceLeDiff, Nat.reduceLT, Nat.reduceBEq, reduceCtorEq, Int.reduceEq]; rfl) (hand_plain (by rfl)) (by rfl)
    · refine AW.skip ?_
      refine blkQ.norm ?_
      refine AW.rend ?_
      try simp only [↓wk, ↓wl, nc, evV, ↓reduceIte, Nat.reduceEqDiff, Nat.reduceAdd, Nat.reduceSub, Nat.reduceLeDiff, Nat.reduceLT, Nat.reduceBEq, reduceCtorEq, Int.reduceEq]
      exact loopQ.next H ((Le.none [] [0, 1, 7, 8] (by decide) (by simp only [f61_L1, List.length_set, Option.map_some, restrict_eq, renS_nil, renS_cons, renB_els, renB_cel, renB_dead, deep_eq, map_ren_enc, ren_agg', ren_tup', ren_fn', ren_int', ren_bool', ren_str', ren_sl', ren_pro', ren_nilp', ren_nilfn', ren_junk', ren_ptr', ren_row', ren_arow', ren_eptr', vm, List.idxOf?_cons, List.idxOf?_nil, beq_self_eq_true, Option.map_none, List.getD_cons_zero, List.getD_cons_succ, ↓wk, ↓wl, nc, evV, ↓reduceIte, Nat.reduceEqDiff, Nat.reduceAdd, Nat.reduceSub, Nat.reduceLeDiff, Nat.reduceLT, Nat.reduceBEq, reduceCtorEq, Int.reduceEq])))
  · refine AW.exit ?_
    refine seqQ.exit ?_
    refine loopQ.exit H ?_ <;> clear H <;> intro H
    try dsimp only at H
    refine blk0.here ?_
    refine seqQ.norm ?_
    refine AW.rseq ?_
    try simp only [↓wk, ↓wl, nc, evV, ↓reduceIte, Nat.reduceEqDiff, Nat.reduceAdd, Nat.reduceSub, Nat.reduceLeDiff, Nat.reduceLT, Nat.reduceBEq, reduceCtorEq, Int.reduceEq]
    refine AW.ret ?_
    cases H
    exact hQ _ _ _ _ (.inr rfl) (by simp only [resVs, omap, resV, ↓wk, ↓wl, nc, evV, ↓reduceIte, Nat.reduceEqDiff, Nat.reduceAdd, Nat.reduceSub, Nat.reduceLeDiff, Nat.reduceLT, Nat.reduceBEq, reduceCtorEq, Int.reduceEq]; rfl) (hand_plain (by rfl)) (by rfl)
def c44_0 : C := .seq (.reg [iI 5 (.mv (.t 0)), iI 6 (.mv (.t 1)), iI 7 (.call (.c (.fn 61 [])) [(.t 5), (.t 6)]), iI 8 (.bin .geq (.t 7) (.c (.int .i64 0))), iI 4 (.mv (.t 8))]) .ret
def ir44 : C := .seq (.reg [iI 4 (.mv (.c (.bool false)))]) c44_0
theorem fd44 : fd? Try.prog 44 = some (9, [.slot 4], ir44) := by kernel_rfl
noncomputable def f44 (s_186 : (List Int)) (v_187 : Int) : Option (Bool) :=
  (f61 s_186 v_187).bind fun r_197 => (some (decide (0 ≤ r_197)))
theorem f44_ok {s_186 : (List Int)} {v_187 : Int} {r_ : Bool} (H : f44 s_186 v_187 = some r_) : Pure Try.prog 44 [.sl 0 false (s_186.map (AV.int .i64)), .int .i64 v_187] (· = .bool r_) := by
  refine Pure.walk2 fd44 none (Nat.le_of_ble_eq_true rfl) (by rfl) fun Q hQ => ?_
  simp only [f44] at H
  refine AW.rseq ?_
  try simp only [↓wk, ↓wl, nc, evV, ↓reduceIte, Nat.reduceEqDiff, Nat.reduceAdd, Nat.reduceSub, Nat.reduceLeDiff, Nat.reduceLT, Nat.reduceBEq, reduceCtorEq, Int.reduceEq]
  refine AW.rseq ?_
  try simp only [↓wk, ↓wl, nc, evV, ↓reduceIte, Nat.reduceEqDiff, Nat.reduceAdd, Nat.reduceSub, Nat.reduceLeDiff, Nat.reduceLT, Nat.reduceBEq, reduceCtorEq, Int.reduceEq]
  refine evTs_pure hFn H (fun _ h => f61_ok h) (by rfl) (by rfl) (by rfl) (by rfl) (fun _ => rfl) ?_ <;> clear H <;> intro r_197 H
  try simp only [eL, ↓wk, ↓wl, nc, evV, ↓reduceIte, Nat.reduceEqDiff, Nat.reduceAdd, Nat.reduceSub, Nat.reduceLeDiff, Nat.reduceLT, Nat.reduceBEq, reduceCtorEq, Int.reduceEq]
  refine AW.ret ?_
  cases H
  exact hQ _ _ _ _ (.inr rfl) (by simp only [resVs, omap, resV, ↓wk, ↓wl, nc, evV, ↓reduceIte, Nat.reduceEqDiff, Nat.reduceAdd, Nat.reduceSub, Nat.reduceLeDiff, Nat.reduceLT, Nat.reduceBEq, reduceCtorEq, Int.reduceEq]; rfl) (hand_plain (by rfl)) (by rfl)
noncomputable def f20_L1 (g_183 : ApiGroup) : Lp (Int) ((Unit) ⊕ (Int)) where
  body := fun v_203 => (if (decide (v_203 < ((g_183.fChannels.length : Nat) : Int))) = true then (at? g_183.fChannels v_203).bind fun x_208 => (if (decide (x_208 < 1)) = true then (some (.brk (Sum.inr 2))) else (if (decide (999 < x_208)) = true then (some (.brk (Sum.inr 2))) else (slc? g_183.fChannels 0 v_203).bind fun s_209 => (f44 s_209 x_208).bind fun r_210 => (if r_210 = true then (some (.brk (Sum.inr 7))) else (some (.next (IntKind.i64.wrap (v_203 + 1))))))) else (some (.brk (Sum.inl ()))))
  cst := fun v_203 => ⟨put (put (put (put (fun _ => .junk) 20 (.int .i64 v_203)) 19 (.int .i64 ((g_183.fChannels.length : Nat) : Int))) 18 (.sl 0 false (g_183.fChannels.map (AV.int .i64)))) 1 (.ptr 0 0), [.cel [.int .i64 g_183.fNumber, .sl 0 false (g_183.fChannels.map (AV.int .i64))]]⟩
def c20_0 : C := .cond (.t 12) (.seq (.reg [iI 2 (.mv (.c (.int .i64 2)))]) .ret) (.skip)
def c20_1 : C := .cond (.t 16) (.seq (.reg [iI 2 (.mv (.c (.int .i64 5)))]) .ret) (.skip)
def c20_2 : C := .cond (.t 30) (.seq (.reg [iI 2 (.mv (.c (.int .i64 2)))]) .ret) (.skip)
def c20_3 : C := .cond (.t 36) (.seq (.reg [iI 2 (.mv (.c (.int .i64 7)))]) .ret) (.skip)
def c20_4 : C := .seq (.reg [iI 31 (.faddr 1 (.t 1)), iI 32 (.load 0 (.t 31)), iI 33 (.mv (.t 3)), iI 34 (.slice 0 (.t 32) none (some (.t 33))), iI 35 (.mv (.t 4)), iI 36 (.call (.c (.fn 44 [])) [(.t 34), (.t 35)])]) c20_3
def c20_5 : C := .seq (.seq (.reg [iI 25 (.mv (.t 4)), iI 26 (.bin .lss (.t 25) (.c (.int .i64 1))), iI 27 (.mv (.t 26)), iG (some 28) 27 false (.mv (.t 4)), iG (some 29) 27 false (.bin .gtr (.t 28) (.c (.int .i64 999))), iI 30 (.pick (.t 27) (.c (.bool true)) (.t 29))]) c20_2) c20_4
def c20_6 : C := .reg [iI 37 (.bin .add (.t 20) (.c (.int .i64 1))), iI 20 (.mv (.t 37))]
def c20_7 : C := .seq (.block 1 (.seq (.reg [iI 22 (.mv (.t 20)), iI 23 (.iaddr 0 (.t 18) (.t 20)), iI 24 (.load 0 (.t 23)), iI 3 (.mv (.t 22)), iI 4 (.mv (.t 24))]) c20_5)) c20_6
def c20_8 : C := .seq (.cond (.t 21) (.skip) (.exit 0)) c20_7
def c20_9 : C := .block 0 (.loop (.seq (.reg [iI 21 (.bin .lss (.t 20) (.t 19))]) c20_8))
def c20_10 : C := .seq (.reg [iI 2 (.mv (.c (.int .i64 0)))]) .ret
def c20_11 : C := .seq (.seq (.reg [iI 17 (.faddr 1 (.t 1)), iI 18 (.load 0 (.t 17)), iI 19 (.len 0 (.t 18)), iI 20 (.mv (.c (.int .i64 0)))]) c20_9) c20_10
def c20_12 : C := .seq (.seq (.reg [iI 13 (.faddr 1 (.t 1)), iI 14 (.load 0 (.t 13)), iI 15 (.len 0 (.t 14)), iI 16 (.bin .gtr (.t 15) (.c (.int .i64 256)))]) c20_1) c20_11
def c20_13 : C := .seq (.seq (.reg [iI 5 (.faddr 0 (.t 1)), iI 6 (.load 0 (.t 5)), iI 7 (.bin .lss (.t 6) (.c (.int .i64 1))), iI 8 (.mv (.t 7)), iG (some 9) 8 false (.faddr 0 (.t 1)), iG (some 10) 8 false (.load 0 (.t 9)), iG (some 11) 8 false (.bin .gtr (.t 10) (.c (.int .i64 1048576))), iI 12 (.pick (.t 8) (.c (.bool true)) (.t 11))]) c20_0) c20_12
def ir20 : C := .seq (.reg [iI 1 (.box (.t 0)), iI 2 (.mv (.c (.int .i64 0)))]) c20_13
theorem fd20 : fd? Try.prog 20 = some (38, [.slot 2], ir20) := by kernel_rfl
noncomputable def f20 (g_183 : ApiGroup) : Option (Int) :=
  (if (decide (g_183.fNumber < 1)) = true then (some 2) else (if (decide (1048576 < g_183.fNumber)) = true then (some 2) else (if (decide (256 < ((g_183.fChannels.length : Nat) : Int))) = true then (some 5) else ((Lp.run (f20_L1 g_183) 0).bind fun r_ => match r_ with | (Sum.inl _) => (some 0) | (Sum.inr v_207) => (some v_207)))))
theorem f20_ok {g_183 : ApiGroup} {r_ : Int} (H : f20 g_183 = some r_) : Pure Try.prog 20 [.agg [.int .i64 g_183.fNumber, .sl 0 false (g_183.fChannels.map (AV.int .i64))]] (· = .int .i64 r_) := by
  refine Pure.walk2 fd20 none (Nat.le_of_ble_eq_true rfl) (by rfl) fun Q hQ => ?_
  simp only [f20] at H
  refine AW.rseq ?_
  try simp only [↓wk, ↓wl, nc, evV, ↓reduceIte, Nat.reduceEqDiff, Nat.reduceAdd, Nat.reduceSub, Nat.reduceLeDiff, Nat.reduceLT, Nat.reduceBEq, reduceCtorEq, Int.reduceEq]
  refine AW.sseq ?_
  refine AW.rseq ?_
  try simp only [↓wk, ↓wl, nc, evV, ↓reduceIte, Nat.reduceEqDiff, Nat.reduceAdd, Nat.reduceSub, Nat.reduceLeDiff, Nat.reduceLT, Nat.reduceBEq, reduceCtorEq, Int.reduceEq]
  refine evTs_ifg H (by rfl) ?_ ?_ <;> clear H <;> intro H
  · try simp only [↓wk, ↓wl, nc, evV, ↓reduceIte, Nat.reduceEqDiff, Nat.reduceAdd, Nat.reduceSub, Nat.reduceLeDiff, Nat.reduceLT, Nat.reduceBEq, reduceCtorEq, Int.reduceEq]
    refine AW.ift (by rfl) ?_
    refine AW.rseq ?_
    try simp only [↓wk, ↓wl, nc, evV, ↓reduceIte, Nat.reduceEqDiff, Nat.reduceAdd, Nat.reduceSub, Nat.reduceLeDiff, Nat.reduceLT, Nat.reduceBEq, reduceCtorEq, Int.reduceEq]
    refine AW.ret ?_
    refine seqQ.ret ?_
    cases H
    exact hQ _ _ _ _ (.inr rfl) (by simp only [resVs, omap, resV, ↓wk, ↓wl, nc, evV, ↓reduceIte, Nat.reduceEqDiff, Nat.reduceAdd, Nat.reduceSub, Nat.reduceLeDiff, Nat.reduceLT, Nat.reduceBEq, reduceCtorEq, Int.reduceEq]; rfl) (hand_plain (by rfl)) (by rfl)
  · try simp only [↓wk, ↓wl, nc, evV, ↓reduceIte, Nat.reduceEqDiff, Nat.reduceAdd, Nat.reduceSub, Nat.reduceLeDiff, Nat.reduceLT, Nat.reduceBEq, reduceCtorEq, Int.reduceEq]
    refine AW.ifc H (by rfl) ?_ ?_ <;> clear H <;> intro H
    · refine AW.rseq ?_
      try simp only [↓wk, ↓wl, nc, evV, ↓reduceIte, Nat.reduceEqDiff, Nat.reduceAdd, Nat.reduceSub, Nat.reduceLeDiff, Nat.reduceLT, Nat.reduceBEq, reduceCtorEq, Int.reduceEq]
      refine AW.ret ?_
      refine seqQ.ret ?_
      cases H
      exact hQ _ _ _ _ (.inr rfl) (by simp only [resVs, omap, resV, ↓wk, ↓wl, nc, evV, ↓reduceIte, Nat.reduceEqDiff, Nat.reduceAdd, Nat.reduceSub, Nat.reduceLeDiff, Nat.reduceLT, Nat.reduceBEq, reduceCtorEq, Int.reduceEq]; rfl) (hand_plain (by rfl)) (by rfl)
    · refine AW.skip ?_
      refine seqQ.norm ?_
      refine AW.sseq ?_
      refine AW.rseq ?_
      try simp only [↓wk, ↓wl, nc, evV, ↓reduceIte, Nat.reduceEqDiff, Nat.reduceAdd, Nat.reduceSub, Nat.reduceLeDiff, Nat.reduceLT, Nat.reduceBEq, reduceCtorEq, Int.reduceEq]
      refine AW.ifc H (by rfl) ?_ ?_ <;> clear H <;> intro H
      · refine AW.rseq ?_
        try simp only [↓wk, ↓wl, nc, evV, ↓reduceIte, Nat.reduceEqDiff, Nat.reduceAdd, Nat.reduceSub, Nat.reduceLeDiff, Nat.reduceLT, Nat.reduceBEq, reduceCtorEq, Int.reduceEq]
        refine AW.ret ?_
        refine seqQ.ret ?_
        cases H
        exact hQ _ _ _ _ (.inr rfl) (by simp only [resVs, omap, resV, ↓wk, ↓wl, nc, evV, ↓reduceIte, Nat.reduceEqDiff, Nat.reduceAdd, Nat.reduceSub, Nat.reduceLeDiff, Nat.reduceLT, Nat.reduceBEq, reduceCtorEq, Int.reduceEq]; rfl) (hand_plain (by rfl)) (by rfl)
      · refine AW.skip ?_
        refine seqQ.norm ?_
        refine AW.sseq ?_
        refine AW.rseq ?_
        try simp only [↓wk, ↓wl, nc, evV, ↓reduceIte, Nat.reduceEqDiff, Nat.reduceAdd, Nat.reduceSub, Nat.reduceLeDiff, Nat.reduceLT, Nat.reduceBEq, reduceCtorEq, Int.reduceEq]
        refine AW.bend ?_
        refine AW.iter H ((Le.none [0] [1, 18, 19, 20] (by decide) (by simp only [f20_L1, List.length_set, Option.map_some, restrict_eq, renS_nil, renS_cons, renB_els, renB_cel, renB_dead, deep_eq, map_ren_enc, ren_agg', ren_tup', ren_fn', ren_int', ren_bool', ren_str', ren_sl', ren_pro', ren_nilp', ren_nilfn', ren_junk', ren_ptr', ren_row', ren_arow', ren_eptr', vm, List.idxOf?_cons, List.idxOf?_nil, beq_self_eq_true, Option.map_none, List.getD_cons_zero, List.getD_cons_succ, ↓wk, ↓wl, nc, evV, ↓reduceIte, Nat.reduceEqDiff, Nat.reduceAdd, Nat.reduceSub, Nat.reduceLeDiff, Nat.reduceLT, Nat.reduceBEq, reduceCtorEq, Int.reduceEq]))) ?_ <;> clear H
        rintro v_203 x_ st0_ H hst_
        simp only [f20_L1] at H hst_
        subst hst_
        refine AW.rseq ?_
        try simp only [↓wk, ↓wl, nc, evV, ↓reduceIte, Nat.reduceEqDiff, Nat.reduceAdd, Nat.reduceSub, Nat.reduceLeDiff, Nat.reduceLT, Nat.reduceBEq, reduceCtorEq, Int.reduceEq]
        refine AW.sseq ?_
        refine AW.ifc H (by rfl) ?_ ?_ <;> clear H <;> intro H
        · refine AW.skip ?_
          refine seqQ.norm ?_
          refine AW.bseq ?_
          refine AW.rseq ?_
          try simp only [↓wk, ↓wl, nc, evV, ↓reduceIte, Nat.reduceEqDiff, Nat.reduceAdd, Nat.reduceSub, Nat.reduceLeDiff, Nat.reduceLT, Nat.reduceBEq, reduceCtorEq, Int.reduceEq]
          refine evTs_at (enc := (AV.int .i64)) H (by rfl) (by rfl) ?_ <;> clear H <;> intro x_208 H
          try simp only [↓wk, ↓wl, nc, evV, ↓reduceIte, Nat.reduceEqDiff, Nat.reduceAdd, Nat.reduceSub, Nat.reduceLeDiff, Nat.reduceLT, Nat.reduceBEq, reduceCtorEq, Int.reduceEq]
          refine AW.sseq ?_
          refine AW.rseq ?_
          try simp only [↓wk, ↓wl, nc, evV, ↓reduceIte, Nat.reduceEqDiff, Nat.reduceAdd, Nat.reduceSub, Nat.reduceLeDiff, Nat.reduceLT, Nat.reduceBEq, reduceCtorEq, Int.reduceEq]
          refine evTs_ifg H (by rfl) ?_ ?_ <;> clear H <;> intro H
          · try simp only [↓wk, ↓wl, nc, evV, ↓reduceIte, Nat.reduceEqDiff, Nat.reduceAdd, Nat.reduceSub, Nat.reduceLeDiff, Nat.reduceLT, Nat.reduceBEq, reduceCtorEq, Int.reduceEq]
            refine AW.ift (by rfl) ?_
            refine AW.rseq ?_
            try simp only [↓wk, ↓wl, nc, evV, ↓reduceIte, Nat.reduceEqDiff, Nat.reduceAdd, Nat.reduceSub, Nat.reduceLeDiff, Nat.reduceLT, Nat.reduceBEq, reduceCtorEq, Int.reduceEq]
            refine AW.ret ?_
            refine seqQ.ret ?_
            refine blkQ.ret ?_
            refine loopQ.ret H ?_ <;> clear H <;> intro H
            try dsimp only at H
            refine blk0.ret ?_
            refine seqQ.ret ?_
            cases H
            exact hQ _ _ _ _ (.inr rfl) (by simp only [resVs, omap, resV, ↓wk, ↓wl, nc, evV, ↓reduceIte, Nat.reduceEqDiff, Nat.reduceAdd, Nat.reduceSub, Nat.reduceLeDiff, Nat.reduceLT, Nat.reduceBEq, reduceCtorEq, Int.reduceEq]; rfl) (hand_plain (by rfl)) (by rfl)
          · try simp only [↓wk, ↓wl, nc, evV, ↓reduceIte, Nat.reduceEqDiff, Nat.reduceAdd, Nat.reduceSub, Nat.reduceLeDiff, Nat.reduceLT, Nat.reduceBEq, reduceCtorEq, Int.reduceEq]
            refine AW.ifc H (by rfl) ?_ ?_ <;> clear H <;> intro H
            · refine AW.rseq ?_
              try simp only [↓wk, ↓wl, nc, evV, ↓reduceIte, Nat.reduceEqDiff, Nat.reduceAdd, Nat.reduceSub, Nat.reduceLeDiff, Nat.reduceLT, Nat.reduceBEq, reduceCtorEq, Int.reduceEq]
              refine AW.ret ?_
              refine seqQ.ret ?_
              refine blkQ.ret ?_
              refine loopQ.ret H ?_ <;> clear H <;> intro H
              try dsimp only at H
              refine blk0.ret ?_
              refine seqQ.ret ?_
              cases H
              exact hQ _ _ _ _ (.inr rfl) (by simp only [resVs, omap, resV, ↓wk, ↓wl, nc, evV, ↓reduceIte, Nat.reduceEqDiff, Nat.reduceAdd, Nat.reduceSub, Nat.reduceLeDiff, Nat.reduceLT, Nat.reduceBEq, reduceCtorEq, Int.reduceEq]; rfl) (hand_plain (by rfl)) (by rfl)
            · refine AW.skip ?_
              refine seqQ.norm ?_
              refine AW.rseq ?_
              try simp only [↓wk, ↓wl, nc, evV, ↓reduceIte, Nat.reduceEqDiff, Nat.reduceAdd, Nat.reduceSub, Nat.reduceLeDiff, Nat.reduceLT, Nat.reduceBEq, reduceCtorEq, Int.reduceEq]
              refine evTs_slc (enc := (AV.int .i64)) H (by rfl) (by simp only [loI, hiI, ↓wk, ↓wl, nc, evV, ↓reduceIte, Nat.reduceEqDiff, Nat.reduceAdd, Nat.reduceSub, Nat.reduceLeDiff, Nat.reduceLT, Nat.reduceBEq, reduceCtorEq, Int.reduceEq]; rfl) (by simp only [loI, hiI, ↓wk, ↓wl, nc, evV, ↓reduceIte, Nat.reduceEqDiff, Nat.reduceAdd, Nat.reduceSub, Nat.reduceLeDiff, Nat.reduceLT, Nat.reduceBEq, reduceCtorEq, Int.reduceEq]; rfl) ?_ <;> clear H <;> intro s_209 H
              try simp only [↓wk, ↓wl, nc, evV, ↓reduceIte, Nat.reduceEqDiff, Nat.reduceAdd, Nat.reduceSub, Nat.reduceLeDiff, Nat.reduceLT, Nat.reduceBEq, reduceCtorEq, Int.reduceEq]
              refine evTs_pure hFn H (fun _ h => f44_ok h) (by rfl) (by rfl) (by rfl) (by rfl) (fun _ => rfl) ?_ <;> clear H <;> intro r_210 H
              try simp only [eL, ↓wk, ↓wl, nc, evV, ↓reduceIte, Nat.reduceEqDiff, Nat.reduceAdd, Nat.reduceSub, Nat.reduceLeDiff, Nat.reduceLT, Nat.reduceBEq, reduceCtorEq, Int.reduceEq]
              refine AW.ifc H (by rfl) ?_ ?_ <;> clear H <;> intro H
              · refine AW.rseq ?_
                try simp only [↓wk, ↓wl, nc, evV, ↓reduceIte, Nat.reduceEqDiff, Nat.reduceAdd, Nat.reduceSub, Nat.reduceLeDiff, Nat.reduceLT, Nat.reduceBEq, reduceCtorEq, Int.reduceEq]
                refine AW.ret ?_
                refine blkQ.ret ?_
                refine loopQ.ret H ?_ <;> clear H <;> intro H
                try dsimp only at H
                refine blk0.ret ?_
                refine seqQ.ret ?_
                cases H
                exact hQ _ _ _ _ (.inr rfl) (by simp only [resVs, omap, resV, ↓wk, ↓wl, nc, evV, ↓reduceIte, Nat.reduceEqDiff, Nat.reduceAdd, Nat.reduceSub, Nat.reduceLeDiff, Nat.reduceLT, Nat.reduceBEq, reduceCtorEq, Int.reduceEq]; rfl) (hand_plain (by rfl)) (by rfl)
              · refine AW.skip ?_
                refine blkQ.norm ?_
                refine AW.rend ?_
                try simp only [↓wk, ↓wl, nc, evV, ↓reduceIte, Nat.reduceEqDiff, Nat.reduceAdd, Nat.reduceSub, Nat.reduceLeDiff, Nat.reduceLT, Nat.reduceBEq, reduceCtorEq, Int.reduceEq]
                exact loopQ.next H ((Le.none [0] [1, 18, 19, 20] (by decide) (by simp only [f20_L1, List.length_set, Option.map_some, restrict_eq, renS_nil, renS_cons, renB_els, renB_cel, renB_dead, deep_eq, map_ren_enc, ren_agg', ren_tup', ren_fn', ren_int', ren_bool', ren_str', ren_sl', ren_pro', ren_nilp', ren_nilfn', ren_junk', ren_ptr', ren_row', ren_arow', ren_eptr', vm, List.idxOf?_cons, List.idxOf?_nil, beq_self_eq_true, Option.map_none, List.getD_cons_zero, List.getD_cons_succ, ↓wk, ↓wl, nc, evV, ↓reduceIte, Nat.reduceEqDiff, Nat.reduceAdd, Nat.reduceSub, Nat.reduceLeDiff, Nat.reduceLT, Nat.reduceBEq, reduceCtorEq, Int.reduceEq])))
        · refine AW.exit ?_
          refine seqQ.exit ?_
          refine loopQ.exit H ?_ <;> clear H <;> intro H
          try dsimp only at H
          refine blk0.here ?_
          refine seqQ.norm ?_
          refine AW.rseq ?_
          try simp only [↓wk, ↓wl, nc, evV, ↓reduceIte, Nat.reduceEqDiff, Nat.reduceAdd, Nat.reduceSub, Nat.reduceLeDiff, Nat.reduceLT, Nat.reduceBEq, reduceCtorEq, Int.reduceEq]
          refine AW.ret ?_
          cases H
          exact hQ _ _ _ _ (.inr rfl) (by simp only [resVs, omap, resV, ↓wk, ↓wl, nc, evV, ↓reduceIte, Nat.reduceEqDiff, Nat.reduceAdd, Nat.reduceSub, Nat.reduceLeDiff, Nat.reduceLT, Nat.reduceBEq, reduceCtorEq, Int.reduceEq]; rfl) (hand_plain (by rfl)) (by rfl)
noncomputable def f26_L1 (g_180 : ApiGroup) (step_181 : Int) : Lp (Int × (List Int)) ((List Int)) where
  body := fun (i_221, out_222) => (if (decide (i_221 < ((g_180.fChannels.length : Nat) : Int))) = true then (at? g_180.fChannels i_221).bind fun x_226 => (app? 8 out_222 ([x_226])).bind fun out_227 => (some (.next ((IntKind.i64.wrap (i_221 + step_181)), out_227))) else (some (.brk out_222)))
  cst := fun (i_221, out_222) => ⟨put (put (put (put (put (fun _ => .junk) 10 (.int .i64 i_221)) 9 (.ptr 2 0)) 6 (.ptr 1 0)) 3 (.ptr 0 0)) 1 (.int .i64 step_181), [.cel [.int .i64 g_180.fNumber, .sl 0 false (g_180.fChannels.map (AV.int .i64))], .cel [.int .i64 0, .sl 0 true []], .cel [.int .i64 g_180.fNumber, .row 0 3 0 out_222.length], .els 0 (out_222.map (AV.int .i64))]⟩
def c26_0 : C := .cond (.t 14) (.seq (.reg [iI 15 (.build [(1, (.int .i64 0)), (1, (.sl 0 true []))] []), iI 16 (.mv (.t 8)), iN (.store 2 (.t 6) (.t 15)), iI 7 (.mv (.t 16))]) .ret) (.skip)
def c26_1 : C := .seq (.reg [iI 13 (.mv (.t 8)), iI 14 (.bin .neq (.t 13) (.c (.int .i64 0)))]) c26_0
def c26_2 : C := .cond (.t 30) (.seq (.reg [iI 31 (.build [(1, (.int .i64 0)), (1, (.sl 0 true []))] []), iN (.store 2 (.t 6) (.t 31)), iI 7 (.mv (.c (.int .i64 2)))]) .ret) (.skip)
def c26_3 : C := .cond (.t 40) (.skip) (.exit 0)
def c26_4 : C := .reg [iI 41 (.mv (.t 10)), iI 42 (.mv (.t 1)), iI 43 (.bin .add (.t 41) (.t 42)), iI 10 (.mv (.t 43))]
def c26_5 : C := .seq (.block 1 (.reg [iI 44 (.faddr 1 (.t 9)), iI 45 (.load 0 (.t 44)), iI 46 (.faddr 1 (.t 3)), iI 47 (.load 0 (.t 46)), iI 48 (.mv (.t 10)), iI 49 (.iaddr 0 (.t 47) (.t 48)), iI 50 (.load 0 (.t 49)), iI 51 (.mkslp 0 1 (.int .i64 0) [(0, (.t 50))]), iI 52 (.append 0 8 (.t 45) (.t 51)), iI 53 (.faddr 1 (.t 9)), iN (.store 0 (.t 53) (.t 52))])) c26_4
def c26_6 : C := .block 0 (.loop (.seq (.seq (.reg [iI 36 (.mv (.t 10)), iI 37 (.faddr 1 (.t 3)), iI 38 (.load 0 (.t 37)), iI 39 (.len 0 (.t 38)), iI 40 (.bin .lss (.t 36) (.t 39))]) c26_3) c26_5))
def c26_7 : C := .seq (.reg [iI 54 (.load 2 (.t 9)), iN (.store 2 (.t 6) (.t 54)), iI 7 (.mv (.c (.int .i64 0)))]) .ret
def c26_8 : C := .seq (.seq (.reg [iI 35 (.mv (.t 2)), iI 10 (.mv (.t 35))]) c26_6) c26_7
def c26_9 : C := .seq (.reg [iI 32 (.faddr 0 (.t 3)), iI 33 (.load 0 (.t 32)), iI 34 (.build [(1, (.int .i64 0)), (1, (.sl 0 true []))] [(0, 0, (.t 33))]), iI 9 (.alloc [(1, (.int .i64 0)), (1, (.sl 0 true []))]), iN (.store 2 (.t 9) (.t 34))]) c26_8
def c26_10 : C := .seq (.seq (.reg [iI 17 (.mv (.t 1)), iI 18 (.bin .lss (.t 17) (.c (.int .i64 1))), iI 19 (.mv (.t 18)), iG (some 20) 19 false (.mv (.t 1)), iG (some 21) 19 false (.bin .gtr (.t 20) (.c (.int .i64 256))), iI 22 (.pick (.t 19) (.c (.bool true)) (.t 21)), iI 23 (.mv (.t 22)), iG (some 24) 23 false (.mv (.t 2)), iG (some 25) 23 false (.bin .lss (.t 24) (.c (.int .i64 0))), iI 26 (.pick (.t 23) (.c (.bool true)) (.t 25)), iI 27 (.mv (.t 26)), iG (some 28) 27 false (.mv (.t 2)), iG (some 29) 27 false (.bin .gtr (.t 28) (.c (.int .i64 256))), iI 30 (.pick (.t 27) (.c (.bool true)) (.t 29))]) c26_2) c26_9
def c26_11 : C := .seq (.seq (.reg [iI 11 (.load 2 (.t 3)), iI 12 (.call (.c (.fn 20 [])) [(.t 11)]), iI 8 (.mv (.t 12))]) c26_1) c26_10
def ir26 : C := .seq (.reg [iI 3 (.box (.t 0)), iI 6 (.alloc [(1, (.int .i64 0)), (1, (.sl 0 true []))]), iI 7 (.mv (.c (.int .i64 0)))]) c26_11
theorem fd26 : fd? Try.prog 26 = some (55, [.cell 6 2, .slot 7], ir26) := by kernel_rfl
noncomputable def f26 (g_180 : ApiGroup) (step_181 : Int) (first_182 : Int) : Option (ApiGroup × Int) :=
  (f20 g_180).bind fun r_212 => (if (decide (r_212 ≠ 0)) = true then (some ((ApiGroup.mk 0 ([])), r_212)) else (if (decide (step_181 < 1)) = true then (some ((ApiGroup.mk 0 ([])), 2)) else (if (decide (256 < step_181)) = true then (some ((ApiGroup.mk 0 ([])), 2)) else (if (decide (first_182 < 0)) = true then (some ((ApiGroup.mk 0 ([])), 2)) else (if (decide (256 < first_182)) = true then (some ((ApiGroup.mk 0 ([])), 2)) else (Lp.run (f26_L1 g_180 step_181) (first_182, [])).bind fun out_225 => (some ((ApiGroup.mk g_180.fNumber out_225), 0)))))))
theorem f26_ok {g_180 : ApiGroup} {step_181 : Int} {first_182 : Int} {r_ : ApiGroup × Int} (H : f26 g_180 step_181 first_182 = some r_) : Pure Try.prog 26 [.agg [.int .i64 g_180.fNumber, .sl 0 false (g_180.fChannels.map (AV.int .i64))], .int .i64 step_181, .int .i64 first_182] (· = .tup [.agg [.int .i64 r_.1.fNumber, .sl 0 false (r_.1.fChannels.map (AV.int .i64))], .int .i64 r_.2]) := by
  refine Pure.walk2 fd26 none (Nat.le_of_ble_eq_true rfl) (by rfl) fun Q hQ => ?_
  simp only [f26] at H
  refine AW.rseq ?_
  try simp only [↓wk, ↓wl, nc, evV, ↓reduceIte, Nat.reduceEqDiff, Nat.reduceAdd, Nat.reduceSub, Nat.reduceLeDiff, Nat.reduceLT, Nat.reduceBEq, reduceCtorEq, Int.reduceEq]
  refine AW.sseq ?_
  refine AW.rseq ?_
  try simp only [↓wk, ↓wl, nc, evV, ↓reduceIte, Nat.reduceEqDiff, Nat.reduceAdd, Nat.reduceSub, Nat.reduceLeDiff, Nat.reduceLT, Nat.reduceBEq, reduceCtorEq, Int.reduceEq]
  refine evTs_pure hFn H (fun _ h => f20_ok h) (by rfl) (by rfl) (by rfl) (by rfl) (fun _ => rfl) ?_ <;> clear H <;> intro r_212 H
  try simp only [eL, ↓wk, ↓wl, nc, evV, ↓reduceIte, Nat.reduceEqDiff, Nat.reduceAdd, Nat.reduceSub, Nat.reduceLeDiff, Nat.reduceLT, Nat.reduceBEq, reduceCtorEq, Int.reduceEq]
  refine AW.rseq ?_
  try simp only [↓wk, ↓wl, nc, evV, ↓reduceIte, Nat.reduceEqDiff, Nat.reduceAdd, Nat.reduceSub, Nat.reduceLeDiff, Nat.reduceLT, Nat.reduceBEq, reduceCtorEq, Int.reduceEq]
  refine AW.ifc H (by rfl) ?_ ?_ <;> clear H <;> intro H
  · refine AW.rseq ?_
    try simp only [↓wk, ↓wl, nc, evV, ↓reduceIte, Nat.reduceEqDiff, Nat.reduceAdd, Nat.reduceSub, Nat.reduceLeDiff, Nat.reduceLT, Nat.reduceBEq, reduceCtorEq, Int.reduceEq]
    refine AW.ret ?_
    refine seqQ.ret ?_
    cases H
    exact hQ _ _ _ _ (.inr rfl) (by simp only [resVs, omap, resV, ↓wk, ↓wl, nc, evV, ↓reduceIte, Nat.reduceEqDiff, Nat.reduceAdd, Nat.reduceSub, Nat.reduceLeDiff, Nat.reduceLT, Nat.reduceBEq, reduceCtorEq, Int.reduceEq]; rfl) (hand_plain (by rfl)) (by rfl)
  · refine AW.skip ?_
    refine seqQ.norm ?_
    refine AW.sseq ?_
    refine AW.rseq ?_
    try simp only [↓wk, ↓wl, nc, evV, ↓reduceIte, Nat.reduceEqDiff, Nat.reduceAdd, Nat.reduceSub, Nat.reduceLeDiff, Nat.reduceLT, Nat.reduceBEq, reduceCtorEq, Int.reduceEq]
    refine evTs_ifg H (by rfl) ?_ ?_ <;> clear H <;> intro H
    · try simp only [↓wk, ↓wl, nc, evV, ↓reduceIte, Nat.reduceEqDiff, Nat.reduceAdd, Nat.reduceSub, Nat.reduceLeDiff, Nat.reduceLT, Nat.reduceBEq, reduceCtorEq, Int.reduceEq]
      refine AW.ift (by rfl) ?_
      refine AW.rseq ?_
      try simp only [↓wk, ↓wl, nc, evV, ↓reduceIte, Nat.reduceEqDiff, Nat.reduceAdd, Nat.reduceSub, Nat.reduceLeDiff, Nat.reduceLT, Nat.reduceBEq, reduceCtorEq, Int.reduceEq]
      refine AW.ret ?_
      refine seqQ.ret ?_
      cases H
      exact hQ _ _ _ _ (.inr rfl) (by simp only [resVs, omap, resV, ↓wk, ↓wl, nc, evV, ↓reduceIte, Nat.reduceEqDiff, Nat.reduceAdd, Nat.reduceSub, Nat.reduceLeDiff, Nat.reduceLT, Nat.reduceBEq, reduceCtorEq, Int.reduceEq]; rfl) (hand_plain (by rfl)) (by rfl)
    · try simp only [↓wk, ↓wl, nc, evV, ↓reduceIte, Nat.reduceEqDiff, Nat.reduceAdd, Nat.reduceSub, Nat.reduceLeDiff, Nat.reduceLT, Nat.reduceBEq, reduceCtorEq, Int.reduceEq]
      refine evTs_ifg H (by rfl) ?_ ?_ <;> clear H <;> intro H
      · try simp only [↓wk, ↓wl, nc, evV, ↓reduceIte, Nat.reduceEqDiff, Nat.reduceAdd, Nat.reduceSub, Nat.reduceLeDiff, Nat.reduceLT, Nat.reduceBEq, reduceCtorEq, Int.reduceEq]
        refine AW.ift (by rfl) ?_
        refine AW.rseq ?_
        try simp only [↓wk, ↓wl, nc, evV, ↓reduceIte, Nat.reduceEqDiff, Nat.reduceAdd, Nat.reduceSub, Nat.reduceLeDiff, Nat.reduceLT, Nat.reduceBEq, reduceCtorEq, Int.reduceEq]
        refine AW.ret ?_
        refine seqQ.ret ?_
        cases H
        exact hQ _ _ _ _ (.inr rfl) (by simp only [resVs, omap, resV, ↓wk, ↓wl, nc, evV, ↓reduceIte, Nat.reduceEqDiff, Nat.reduceAdd, Nat.reduceSub, Nat.reduceLeDiff, Nat.reduceLT, Nat.reduceBEq, reduceCtorEq, Int.reduceEq]; rfl) (hand_plain (by rfl)) (by rfl)
      · try simp only [↓wk, ↓wl, nc, evV, ↓reduceIte, Nat.reduceEqDiff, Nat.reduceAdd, Nat.reduceSub, Nat.reduceLeDiff, Nat.reduceLT, Nat.reduceBEq, reduceCtorEq, Int.reduceEq]
        refine evTs_ifg H (by rfl) ?_ ?_ <;> clear H <;> intro H
        · try simp only [↓wk, ↓wl, nc, evV, ↓reduceIte, Nat.reduceEqDiff, Nat.reduceAdd, Nat.reduceSub, Nat.reduceLeDiff, Nat.reduceLT, Nat.reduceBEq, reduceCtorEq, Int.reduceEq]
          refine AW.ift (by rfl) ?_
          refine AW.rseq ?_
          try simp only [↓wk, ↓wl, nc, evV, ↓reduceIte, Nat.reduceEqDiff, Nat.reduceAdd, Nat.reduceSub, Nat.reduceLeDiff, Nat.reduceLT, Nat.reduceBEq, reduceCtorEq, Int.reduceEq]
          refine AW.ret ?_
          refine seqQ.ret ?_
          cases H
          exact hQ _ _ _ _ (.inr rfl) (by simp only [resVs, omap, resV, ↓wk, ↓wl, nc, evV, ↓reduceIte, Nat.reduceEqDiff, Nat.reduceAdd, Nat.reduceSub, Nat.reduceLeDiff, Nat.reduceLT, Nat.reduceBEq, reduceCtorEq, Int.reduceEq]; rfl) (hand_plain (by rfl)) (by rfl)
        · try simp only [↓wk, ↓wl, nc, evV, ↓reduceIte, Nat.reduceEqDiff, Nat.reduceAdd, Nat.reduceSub, Nat.reduceLeDiff, Nat.reduceLT, Nat.reduceBEq, reduceCtorEq, Int.reduceEq]
          refine AW.ifc H (by rfl) ?_ ?_ <;> clear H <;> intro H
          · refine AW.rseq ?_
            try simp only [↓wk, ↓wl, nc, evV, ↓reduceIte, Nat.reduceEqDiff, Nat.reduceAdd, Nat.reduceSub, Nat.reduceLeDiff, Nat.reduceLT, Nat.reduceBEq, reduceCtorEq, Int.reduceEq]
            refine AW.ret ?_
            refine seqQ.ret ?_
            cases H
            exact hQ _ _ _ _ (.inr rfl) (by simp only [resVs, omap, resV, ↓wk, ↓wl, nc, evV, ↓reduceIte, Nat.reduceEqDiff, Nat.reduceAdd, Nat.reduceSub, Nat.reduceLeDiff, Nat.reduceLT, Nat.reduceBEq, reduceCtorEq, Int.reduceEq]; rfl) (hand_plain (by rfl)) (by rfl)
          · refine AW.skip ?_
            refine seqQ.norm ?_
            refine AW.rseq ?_
            try simp only [↓wk, ↓wl, nc, evV, ↓reduceIte, Nat.reduceEqDiff, Nat.reduceAdd, Nat.reduceSub, Nat.reduceLeDiff, Nat.reduceLT, Nat.reduceBEq, reduceCtorEq, Int.reduceEq]
            refine AW.sseq ?_
            refine AW.rseq ?_
            try simp only [↓wk, ↓wl, nc, evV, ↓reduceIte, Nat.reduceEqDiff, Nat.reduceAdd, Nat.reduceSub, Nat.reduceLeDiff, Nat.reduceLT, Nat.reduceBEq, reduceCtorEq, Int.reduceEq]
            refine AW.bend ?_
            refine AW.iter H ((Le.trans (Le.nilCell (b := 2) (o := 1) (e := 0) (by rfl) (by rfl)) (Le.none [0, 1, 2, 3] [1, 3, 6, 9, 10] (by decide) (by simp only [f26_L1, List.length_set, Option.map_some, restrict_eq, renS_nil, renS_cons, renB_els, renB_cel, renB_dead, deep_eq, map_ren_enc, ren_agg', ren_tup', ren_fn', ren_int', ren_bool', ren_str', ren_sl', ren_pro', ren_nilp', ren_nilfn', ren_junk', ren_ptr', ren_row', ren_arow', ren_eptr', vm, List.idxOf?_cons, List.idxOf?_nil, beq_self_eq_true, Option.map_none, List.getD_cons_zero, List.getD_cons_succ, ↓wk, ↓wl, nc, evV, ↓reduceIte, Nat.reduceEqDiff, Nat.reduceAdd, Nat.reduceSub, Nat.reduceLeDiff, Nat.reduceLT, Nat.reduceBEq, reduceCtorEq, Int.reduceEq])))) ?_ <;> clear H
            rintro ⟨i_221, out_222⟩ x_ st0_ H hst_
            simp only [f26_L1] at H hst_
            subst hst_
            refine AW.sseq ?_
            refine AW.rseq ?_
            try simp only [↓wk, ↓wl, nc, evV, ↓reduceIte, Nat.reduceEqDiff, Nat.reduceAdd, Nat.reduceSub, Nat.reduceLeDiff, Nat.reduceLT, Nat.reduceBEq, reduceCtorEq, Int.reduceEq]
            refine AW.ifc H (by rfl) ?_ ?_ <;> clear H <;> intro H
            · refine AW.skip ?_
              refine seqQ.norm ?_
              refine AW.bseq ?_
              refine AW.rend ?_
              try simp only [↓wk, ↓wl, nc, evV, ↓reduceIte, Nat.reduceEqDiff, Nat.reduceAdd, Nat.reduceSub, Nat.reduceLeDiff, Nat.reduceLT, Nat.reduceBEq, reduceCtorEq, Int.reduceEq]
              refine evTs_at (enc := (AV.int .i64)) H (by rfl) (by rfl) ?_ <;> clear H <;> intro x_226 H
              try simp only [↓wk, ↓wl, nc, evV, ↓reduceIte, Nat.reduceEqDiff, Nat.reduceAdd, Nat.reduceSub, Nat.reduceLeDiff, Nat.reduceLT, Nat.reduceBEq, reduceCtorEq, Int.reduceEq]
              refine evTs_app (enc := (AV.int .i64)) H (by rfl) (by first | rfl | simp only [List.length_set]) (by rfl) (by rfl) ?_ <;> clear H <;> intro out_227 H
              try simp only [↓wk, ↓wl, nc, evV, ↓reduceIte, Nat.reduceEqDiff, Nat.reduceAdd, Nat.reduceSub, Nat.reduceLeDiff, Nat.reduceLT, Nat.reduceBEq, reduceCtorEq, Int.reduceEq]
              refine blkQ.norm ?_
              refine AW.rend ?_
              try simp only [↓wk, ↓wl, nc, evV, ↓reduceIte, Nat.reduceEqDiff, Nat.reduceAdd, Nat.reduceSub, Nat.reduceLeDiff, Nat.reduceLT, Nat.reduceBEq, reduceCtorEq, Int.reduceEq]
              exact loopQ.next H ((Le.none [0, 1, 2, 4] [1, 3, 6, 9, 10] (by decide) (by simp only [f26_L1, List.length_set, Option.map_some, restrict_eq, renS_nil, renS_cons, renB_els, renB_cel, renB_dead, deep_eq, map_ren_enc, ren_agg', ren_tup', ren_fn', ren_int', ren_bool', ren_str', ren_sl', ren_pro', ren_nilp', ren_nilfn', ren_junk', ren_ptr', ren_row', ren_arow', ren_eptr', vm, List.idxOf?_cons, List.idxOf?_nil, beq_self_eq_true, Option.map_none, List.getD_cons_zero, List.getD_cons_succ, ↓wk, ↓wl, nc, evV, ↓reduceIte, Nat.reduceEqDiff, Nat.reduceAdd, Nat.reduceSub, Nat.reduceLeDiff, Nat.reduceLT, Nat.reduceBEq, reduceCtorEq, Int.reduceEq])))
            · refine AW.exit ?_
              refine seqQ.exit ?_
              refine loopQ.exit H ?_ <;> clear H <;> intro H
              try dsimp only at H
              refine blk0.here ?_
              refine seqQ.norm ?_
              refine AW.rseq ?_
              try simp only [↓wk, ↓wl, nc, evV, ↓reduceIte, Nat.reduceEqDiff, Nat.reduceAdd, Nat.reduceSub, Nat.reduceLeDiff, Nat.reduceLT, Nat.reduceBEq, reduceCtorEq, Int.reduceEq]
              refine AW.ret ?_
              cases H
              exact hQ _ _ _ _ (.inr rfl) (by simp only [resVs, omap, resV, ↓wk, ↓wl, nc, evV, ↓reduceIte, Nat.reduceEqDiff, Nat.reduceAdd, Nat.reduceSub, Nat.reduceLeDiff, Nat.reduceLT, Nat.reduceBEq, reduceCtorEq, Int.reduceEq]; rfl) (by simp only [handOver, deep_eq, imm_simps, imm_rowE, imm_ptrE, imm_enc, omap_simps, take_map_len, take_map_set, take_map_set2, le_refl_true, Nat.zero_add, and_true, true_and, List.drop_zero, Option.map_some, ↓wk, ↓wl, nc, evV, ↓reduceIte, Nat.reduceEqDiff, Nat.reduceAdd, Nat.reduceSub, Nat.reduceLeDiff, Nat.reduceLT, Nat.reduceBEq, reduceCtorEq, Int.reduceEq]; rfl) (by rfl)
noncomputable def f16_L1 (s1_229 : (List Int)) (s2_230 : (List Int)) : Lp (Int) ((Unit) ⊕ (Unit)) where
  body := fun v_236 => (if (decide (v_236 < ((s1_229.length : Nat) : Int))) = true then (at? s1_229 v_236).bind fun x_239 => (at? s2_230 v_236).bind fun x_240 => (if (decide (x_239 ≠ x_240)) = true then (some (.brk (Sum.inr ()))) else (some (.next (IntKind.i64.wrap (v_236 + 1))))) else (some (.brk (Sum.inl ()))))
  cst := fun v_236 => ⟨put (put (put (put (fun _ => .junk) 13 (.int .i64 v_236)) 12 (.int .i64 ((s1_229.length : Nat) : Int))) 1 (.sl 0 false (s2_230.map (AV.int .i64)))) 0 (.sl 0 false (s1_229.map (AV.int .i64))), []⟩
def c16_0 : C := .cond (.t 10) (.seq (.reg [iI 4 (.mv (.c (.bool false)))]) .ret) (.skip)
def c16_1 : C := .cond (.t 24) (.seq (.reg [iI 4 (.mv (.c (.bool false)))]) .ret) (.skip)
def c16_2 : C := .seq (.reg [iI 16 (.mv (.t 0)), iI 17 (.mv (.t 5)), iI 18 (.iaddr 0 (.t 16) (.t 17)), iI 19 (.load 0 (.t 18)), iI 20 (.mv (.t 1)), iI 21 (.mv (.t 5)), iI 22 (.iaddr 0 (.t 20) (.t 21)), iI 23 (.load 0 (.t 22)), iI 24 (.bin .neq (.t 19) (.t 23))]) c16_1
def c16_3 : C := .reg [iI 25 (.bin .add (.t 13) (.c (.int .i64 1))), iI 13 (.mv (.t 25))]
def c16_4 : C := .seq (.block 1 (.seq (.reg [iI 15 (.mv (.t 13)), iI 5 (.mv (.t 15))]) c16_2)) c16_3
def c16_5 : C := .seq (.cond (.t 14) (.skip) (.exit 0)) c16_4
def c16_6 : C := .block 0 (.loop (.seq (.reg [iI 14 (.bin .lss (.t 13) (.t 12))]) c16_5))
def c16_7 : C := .seq (.reg [iI 4 (.mv (.c (.bool true)))]) .ret
def c16_8 : C := .seq (.seq (.reg [iI 11 (.mv (.t 0)), iI 12 (.len 0 (.t 11)), iI 13 (.mv (.c (.int .i64 0)))]) c16_6) c16_7
def c16_9 : C := .seq (.seq (.reg [iI 6 (.mv (.t 0)), iI 7 (.len 0 (.t 6)), iI 8 (.mv (.t 1)), iI 9 (.len 0 (.t 8)), iI 10 (.bin .neq (.t 7) (.t 9))]) c16_0) c16_8
def ir16 : C := .seq (.reg [iI 4 (.mv (.c (.bool false)))]) c16_9
theorem fd16 : fd? Try.prog 16 = some (26, [.slot 4], ir16) := by kernel_rfl
noncomputable def f16 (s1_229 : (List Int)) (s2_230 : (List Int)) : Option (Bool) :=
  (if (decide (((s1_229.length : Nat) : Int) ≠ ((s2_230.length : Nat) : Int))) = true then (some false) else ((Lp.run (f16_L1 s1_229 s2_230) 0).bind fun r_ => match r_ with | (Sum.inl _) => (some true) | (Sum.inr _) => (some false)))
theorem f16_ok {s1_229 : (List Int)} {s2_230 : (List Int)} {r_ : Bool} (H : f16 s1_229 s2_230 = some r_) : Pure Try.prog 16 [.sl 0 false (s1_229.map (AV.int .i64)), .sl 0 false (s2_230.map (AV.int .i64))] (· = .bool r_) := by
  refine Pure.walk2 fd16 none (Nat.le_of_ble_eq_true rfl) (by rfl) fun Q hQ => ?_
  simp only [f16] at H
  refine AW.rseq ?_
  try simp only [↓wk, ↓wl, nc, evV, ↓reduceIte, Nat.reduceEqDiff, Nat.reduceAdd, Nat.reduceSub, Nat.reduceLeDiff, Nat.reduceLT, Nat.reduceBEq, reduceCtorEq, Int.reduceEq]
  refine AW.sseq ?_
  refine AW.rseq ?_
  try simp only [↓wk, ↓wl, nc, evV, ↓reduceIte, Nat.reduceEqDiff, Nat.reduceAdd, Nat.reduceSub, Nat.reduceLeDiff, Nat.reduceLT, Nat.reduceBEq, reduceCtorEq, Int.reduceEq]
  refine AW.ifc H (by rfl) ?_ ?_ <;> clear H <;> intro H
  · refine AW.rseq ?_
    try simp only [↓wk, ↓wl, nc, evV, ↓reduceIte, Nat.reduceEqDiff, Nat.reduceAdd, Nat.reduceSub, Nat.reduceLeDiff, Nat.reduceLT, Nat.reduceBEq, reduceCtorEq, Int.reduceEq]
    refine AW.ret ?_
    refine seqQ.ret ?_
    cases H
    exact hQ _ _ _ _ (.inr rfl) (by simp only [resVs, omap, resV, ↓wk, ↓wl, nc, evV, ↓reduceIte, Nat.reduceEqDiff, Nat.reduceAdd, Nat.reduceSub, Nat.reduceLeDiff, Nat.reduceLT, Nat.reduceBEq, reduceCtorEq, Int.reduceEq]; rfl) (hand_plain (by rfl)) (by rfl)
  · refine AW.skip ?_
    refine seqQ.norm ?_
    refine AW.sseq ?_
    refine AW.rseq ?_
    try simp only [↓wk, ↓wl, nc, evV, ↓reduceIte, Nat.reduceEqDiff, Nat.reduceAdd, Nat.reduceSub, Nat.reduceLeDiff, Nat.reduceLT, Nat.reduceBEq, reduceCtorEq, Int.reduceEq]
    refine AW.bend ?_
    refine AW.iter H ((Le.none [] [0, 1, 12, 13] (by decide) (by simp only [f16_L1, List.length_set, Option.map_some, restrict_eq, renS_nil, renS_cons, renB_els, renB_cel, renB_dead, deep_eq, map_ren_enc, ren_agg', ren_tup', ren_fn', ren_int', ren_bool', ren_str', ren_sl', ren_pro', ren_nilp', ren_nilfn', ren_junk', ren_ptr', ren_row', ren_arow', ren_eptr', vm, List.idxOf?_cons, List.idxOf?_nil, beq_self_eq_true, Option.map_none, List.getD_cons_zero, List.getD_cons_succ, ↓wk, ↓wl, nc, evV, ↓reduceIte, Nat.reduceEqDiff, Nat.reduceAdd, Nat.reduceSub, Nat.reduceLeDiff, Nat.reduceLT, Nat.reduceBEq, reduceCtorEq, Int.reduceEq]))) ?_ <;> clear H
    rintro v_236 x_ st0_ H hst_
    simp only [f16_L1] at H hst_
    subst hst_
    refine AW.rseq ?_
    try simp only [↓wk, ↓wl, nc, evV, ↓reduceIte, Nat.reduceEqDiff, Nat.reduceAdd, Nat.reduceSub, Nat.reduceLeDiff, Nat.reduceLT, Nat.reduceBEq, reduceCtorEq, Int.reduceEq]
    refine AW.sseq ?_
    refine AW.ifc H (by rfl) ?_ ?_ <;> clear H <;> intro H
    · refine AW.skip ?_
      refine seqQ.norm ?_
      refine AW.bseq ?_
      refine AW.rseq ?_
      try simp only [↓wk, ↓wl, nc, evV, ↓reduceIte, Nat.reduceEqDiff, Nat.reduceAdd, Nat.reduceSub, Nat.reduceLeDiff, Nat.reduceLT, Nat.reduceBEq, reduceCtorEq, Int.reduceEq]
      refine AW.rseq ?_
      try simp only [↓wk, ↓wl, nc, evV, ↓reduceIte, Nat.reduceEqDiff, Nat.reduceAdd, Nat.reduceSub, Nat.reduceLeDiff, Nat.reduceLT, Nat.reduceBEq, reduceCtorEq, Int.reduceEq]
      refine evTs_at (enc := (AV.int .i64)) H (by rfl) (by rfl) ?_ <;> clear H <;> intro x_239 H
      try simp only [↓wk, ↓wl, nc, evV, ↓reduceIte, Nat.reduceEqDiff, Nat.reduceAdd, Nat.reduceSub, Nat.reduceLeDiff, Nat.reduceLT, Nat.reduceBEq, reduceCtorEq, Int.reduceEq]
      refine evTs_at (enc := (AV.int .i64)) H (by rfl) (by rfl) ?_ <;> clear H <;> intro x_240 H
      try simp only [↓wk, ↓wl, nc, evV, ↓reduceIte, Nat.reduceEqDiff, Nat.reduceAdd, Nat.reduceSub, Nat.reduceLeDiff, Nat.reduceLT, Nat.reduceBEq, reduceCtorEq, Int.reduceEq]
      refine AW.ifc H (by rfl) ?_ ?_ <;> clear H <;> intro H
      · refine AW.rseq ?_
        try simp only [↓wk, ↓wl, nc, evV, ↓reduceIte, Nat.reduceEqDiff, Nat.reduceAdd, Nat.reduceSub, Nat.reduceLeDiff, Nat.reduceLT, Nat.reduceBEq, reduceCtorEq, Int.reduceEq]
        refine AW.ret ?_
        refine blkQ.ret ?_
        refine loopQ.ret H ?_ <;> clear H <;> intro H
        try dsimp only at H
        refine blk0.ret ?_
        refine seqQ.ret ?_
        cases H
        exact hQ _ _ _ _ (.inr rfl) (by simp only [resVs, omap, resV, ↓wk, ↓wl, nc, evV, ↓reduceIte, Nat.reduceEqDiff, Nat.reduceAdd, Nat.reduceSub, Nat.reduceLeDiff, Nat.reduceLT, Nat.reduceBEq, reduceCtorEq, Int.reduceEq]; rfl) (hand_plain (by rfl)) (by rfl)
      · refine AW.skip ?_
        refine blkQ.norm ?_
        refine AW.rend ?_
        try simp only [↓wk, ↓wl, nc, evV, ↓reduceIte, Nat.reduceEqDiff, Nat.reduceAdd, Nat.reduceSub, Nat.reduceLeDiff, Nat.reduceLT, Nat.reduceBEq, reduceCtorEq, Int.reduceEq]
        exact loopQ.next H ((Le.none [] [0, 1, 12, 13] (by decide) (by simp only [f16_L1, List.length_set, Option.map_some, restrict_eq, renS_nil, renS_cons, renB_els, renB_cel, renB_dead, deep_eq, map_ren_enc, ren_agg', ren_tup', ren_fn', ren_int', ren_bool', ren_str', ren_sl', ren_pro', ren_nilp', ren_nilfn', ren_junk', ren_ptr', ren_row', ren_arow', ren_eptr', vm, List.idxOf?_cons, List.idxOf?_nil, beq_self_eq_true, Option.map_none, List.getD_cons_zero, List.getD_cons_succ, ↓wk, ↓wl, nc, evV, ↓reduceIte, Nat.reduceEqDiff, Nat.reduceAdd, Nat.reduceSub, Nat.reduceLeDiff, Nat.reduceLT, Nat.reduceBEq, reduceCtorEq, Int.reduceEq])))
    · refine AW.exit ?_
      refine seqQ.exit ?_
      refine loopQ.exit H ?_ <;> clear H <;> intro H
      try dsimp only at H
      refine blk0.here ?_
      refine seqQ.norm ?_
      refine AW.rseq ?_
      try simp only [↓wk, ↓wl, nc, evV, ↓reduceIte, Nat.reduceEqDiff, Nat.reduceAdd, Nat.reduceSub, Nat.reduceLeDiff, Nat.reduceLT, Nat.reduceBEq, reduceCtorEq, Int.reduceEq]
      refine AW.ret ?_
      cases H
      exact hQ _ _ _ _ (.inr rfl) (by simp only [resVs, omap, resV, ↓wk, ↓wl, nc, evV, ↓reduceIte, Nat.reduceEqDiff, Nat.reduceAdd, Nat.reduceSub, Nat.reduceLeDiff, Nat.reduceLT, Nat.reduceBEq, reduceCtorEq, Int.reduceEq]; rfl) (hand_plain (by rfl)) (by rfl)
def c15_0 : C := .seq (.reg [iI 33 (.mv (.t 2)), iI 34 (.mv (.t 4)), iI 35 (.bin .add (.t 33) (.t 34)), iI 36 (.mv (.t 6)), iI 37 (.bin .add (.t 35) (.t 36)), iI 38 (.mv (.t 8)), iI 39 (.bin .add (.t 37) (.t 38)), iI 40 (.mv (.t 10)), iI 41 (.bin .add (.t 39) (.t 40)), iI 42 (.bin .eql (.t 41) (.c (.int .i64 0))), iI 43 (.mv (.t 42)), iG (some 44) 43 true (.mv (.t 1)), iG (some 45) 43 true (.mkslp 0 5 (.int .i64 0) [(0, (.c (.int .i64 0))), (1, (.c (.int .i64 25))), (2, (.c (.int .i64 50))), (3, (.c (.int .i64 75))), (4, (.c (.int .i64 100)))]), iG (some 46) 43 true (.call (.c (.fn 16 [])) [(.t 44), (.t 45)]), iI 47 (.pick (.t 43) (.t 46) (.c (.bool false))), iI 48 (.mv (.t 47)), iG (some 49) 48 true (.mv (.t 3)), iG (some 50) 48 true (.mkslp 0 4 (.int .i64 0) [(0, (.c (.int .i64 0))), (1, (.c (.int .i64 3))), (2, (.c (.int .i64 7))), (3, (.c (.int .i64 10)))]), iG (some 51) 48 true (.call (.c (.fn 16 [])) [(.t 49), (.t 50)]), iI 52 (.pick (.t 48) (.t 51) (.c (.bool false))), iI 53 (.mv (.t 52)), iG (some 54) 53 true (.mv (.t 5)), iG (some 55) 53 true (.mkslp 0 5 (.int .i64 0) [(0, (.c (.int .i64 100))), (1, (.c (.int .i64 50))), (2, (.c (.int .i64 0))), (3, (.c (.int .i64 50))), (4, (.c (.int .i64 100)))]), iG (some 56) 53 true (.call (.c (.fn 16 [])) [(.t 54), (.t 55)]), iI 57 (.pick (.t 53) (.t 56) (.c (.bool false))), iI 58 (.mv (.t 57)), iG (some 59) 58 true (.mv (.t 7)), iG (some 60) 58 true (.mkslp 0 4 (.int .i64 0) [(0, (.c (.int .i64 100))), (1, (.c (.int .i64 0))), (2, (.c (.int .i64 0))), (3, (.c (.int .i64 100)))]), iG (some 61) 58 true (.call (.c (.fn 16 [])) [(.t 59), (.t 60)]), iI 62 (.pick (.t 58) (.t 61) (.c (.bool false))), iI 63 (.mv (.t 62)), iG (some 64) 63 true (.faddr 1 (.t 9)), iG (some 65) 63 true (.load 0 (.t 64)), iG (some 66) 63 true (.mkslp 0 2 (.int .i64 0) [(0, (.c (.int .i64 5))), (1, (.c (.int .i64 1)))]), iG (some 67) 63 true (.call (.c (.fn 16 [])) [(.t 65), (.t 66)]), iI 68 (.pick (.t 63) (.t 67) (.c (.bool false))), iI 69 (.mv (.t 68)), iG (some 70) 69 true (.build [(1, (.int .i64 0)), (1, (.sl 0 true []))] []), iG (some 71) 69 true (.call (.c (.fn 20 [])) [(.t 70)]), iG (some 72) 69 true (.bin .eql (.t 71) (.c (.int .i64 2))), iI 73 (.pick (.t 69) (.t 72) (.c (.bool false))), iI 0 (.mv (.t 73))]) .ret
def c15_1 : C := .seq (.reg [iI 28 (.mkslp 0 4 (.int .i64 0) [(0, (.c (.int .i64 7))), (1, (.c (.int .i64 5))), (2, (.c (.int .i64 9))), (3, (.c (.int .i64 1)))]), iI 29 (.build [(1, (.int .i64 0)), (1, (.sl 0 true []))] [(0, 0, (.c (.int .i64 1))), (1, 0, (.t 28))]), iI 30 (.call (.c (.fn 26 [])) [(.t 29), (.c (.int .i64 2)), (.c (.int .i64 1))]), iI 27 (.mv (.t 30)), iI 31 (.ext (.t 27) 0), iI 32 (.ext (.t 27) 1), iI 9 (.alloc [(1, (.int .i64 0)), (1, (.sl 0 true []))]), iN (.store 2 (.t 9) (.t 31)), iI 10 (.mv (.t 32))]) c15_0
def c15_2 : C := .seq (.reg [iI 24 (.call (.c (.fn 13 [])) [(.c (.int .i64 0)), (.c (.int .i64 100)), (.c (.int .i64 4))]), iI 23 (.mv (.t 24)), iI 25 (.ext (.t 23) 0), iI 26 (.ext (.t 23) 1), iI 7 (.mv (.t 25)), iI 8 (.mv (.t 26))]) c15_1
def c15_3 : C := .seq (.reg [iI 20 (.call (.c (.fn 13 [])) [(.c (.int .i64 0)), (.c (.int .i64 100)), (.c (.int .i64 5))]), iI 19 (.mv (.t 20)), iI 21 (.ext (.t 19) 0), iI 22 (.ext (.t 19) 1), iI 5 (.mv (.t 21)), iI 6 (.mv (.t 22))]) c15_2
def c15_4 : C := .seq (.reg [iI 16 (.call (.c (.fn 11 [])) [(.c (.int .i64 0)), (.c (.int .i64 10)), (.c (.int .i64 4))]), iI 15 (.mv (.t 16)), iI 17 (.ext (.t 15) 0), iI 18 (.ext (.t 15) 1), iI 3 (.mv (.t 17)), iI 4 (.mv (.t 18))]) c15_3
def c15_5 : C := .seq (.reg [iI 12 (.call (.c (.fn 11 [])) [(.c (.int .i64 0)), (.c (.int .i64 100)), (.c (.int .i64 5))]), iI 11 (.mv (.t 12)), iI 13 (.ext (.t 11) 0), iI 14 (.ext (.t 11) 1), iI 1 (.mv (.t 13)), iI 2 (.mv (.t 14))]) c15_4
def ir15 : C := .seq (.reg [iI 0 (.mv (.c (.bool false)))]) c15_5
theorem fd15 : fd? Try.prog 15 = some (74, [.slot 0], ir15) := by kernel_rfl
noncomputable def f15 : Option (Bool) :=
  (f11 0 100 5).bind fun r_176 => (f11 0 10 4).bind fun r_177 => (f13 0 100 5).bind fun r_178 => (f13 0 100 4).bind fun r_179 => (f26 (ApiGroup.mk 1 ([7, 5, 9, 1])) 2 1).bind fun r_228 => (if (decide ((IntKind.i64.wrap ((IntKind.i64.wrap ((IntKind.i64.wrap ((IntKind.i64.wrap (r_176.2 + r_177.2)) + r_178.2)) + r_179.2)) + r_228.2)) = 0)) = true then (f16 r_176.1 ([0, 25, 50, 75, 100])).bind fun r_241 => (if r_241 = true then (f16 r_177.1 ([0, 3, 7, 10])).bind fun r_242 => (if r_242 = true then (f16 r_178.1 ([100, 50, 0, 50, 100])).bind fun r_243 => (if r_243 = true then (f16 r_179.1 ([100, 0, 0, 100])).bind fun r_244 => (if r_244 = true then (f16 r_228.1.fChannels ([5, 1])).bind fun r_245 => (if r_245 = true then (f20 (ApiGroup.mk 0 ([]))).bind fun r_246 => (some (decide (r_246 = 2))) else (some false)) else (some false)) else (some false)) else (some false)) else (some false)) else (some false))
theorem f15_ok {r_ : Bool} (H : f15 = some r_) : Pure Try.prog 15 [] (· = .bool r_) := by
  refine Pure.walk2 fd15 none (Nat.le_of_ble_eq_true rfl) (by rfl) fun Q hQ => ?_
  simp only [f15] at H
  refine AW.rseq ?_
  try simp only [↓wk, ↓wl, nc, evV, ↓reduceIte, Nat.reduceEqDiff, Nat.reduceAdd, Nat.reduceSub, Nat.reduceLeDiff, Nat.reduceLT, Nat.reduceBEq, reduceCtorEq, Int.reduceEq]
  refine AW.rseq ?_
  try simp only [↓wk, ↓wl, nc, evV, ↓reduceIte, Nat.reduceEqDiff, Nat.reduceAdd, Nat.reduceSub, Nat.reduceLeDiff, Nat.reduceLT, Nat.reduceBEq, reduceCtorEq, Int.reduceEq]
  refine evTs_pure hFn H (fun _ h => f11_ok h) (by rfl) (by rfl) (by rfl) (by rfl) (fun _ => rfl) ?_ <;> clear H <;> intro r_176 H
  try simp only [eL, ↓wk, ↓wl, nc, evV, ↓reduceIte, Nat.reduceEqDiff, Nat.reduceAdd, Nat.reduceSub, Nat.reduceLeDiff, Nat.reduceLT, Nat.reduceBEq, reduceCtorEq, Int.reduceEq]
  refine AW.rseq ?_
  try simp only [↓wk, ↓wl, nc, evV, ↓reduceIte, Nat.reduceEqDiff, Nat.reduceAdd, Nat.reduceSub, Nat.reduceLeDiff, Nat.reduceLT, Nat.reduceBEq, reduceCtorEq, Int.reduceEq]
  refine evTs_pure hFn H (fun _ h => f11_ok h) (by rfl) (by rfl) (by rfl) (by rfl) (fun _ => rfl) ?_ <;> clear H <;> intro r_177 H
  try simp only [eL, ↓wk, ↓wl, nc, evV, ↓reduceIte, Nat.reduceEqDiff, Nat.reduceAdd, Nat.reduceSub, Nat.reduceLeDiff, Nat.reduceLT, Nat.reduceBEq, reduceCtorEq, Int.reduceEq]
  refine AW.rseq ?_
  try simp only [↓wk, ↓wl, nc, evV, ↓reduceIte, Nat.reduceEqDiff, Nat.reduceAdd, Nat.reduceSub, Nat.reduceLeDiff, Nat.reduceLT, Nat.reduceBEq, reduceCtorEq, Int.reduceEq]
  refine evTs_pure hFn H (fun _ h => f13_im h) (by rfl) (by rfl) (by rfl) (by rfl) (fun _ => rfl) ?_ <;> clear H <;> intro r_178 H
  try simp only [eL, ↓wk, ↓wl, nc, evV, ↓reduceIte, Nat.reduceEqDiff, Nat.reduceAdd, Nat.reduceSub, Nat.reduceLeDiff, Nat.reduceLT, Nat.reduceBEq, reduceCtorEq, Int.reduceEq]
  refine AW.rseq ?_
  try simp only [↓wk, ↓wl, nc, evV, ↓reduceIte, Nat.reduceEqDiff, Nat.reduceAdd, Nat.reduceSub, Nat.reduceLeDiff, Nat.reduceLT, Nat.reduceBEq, reduceCtorEq, Int.reduceEq]
  refine evTs_pure hFn H (fun _ h => f13_im h) (by rfl) (by rfl) (by rfl) (by rfl) (fun _ => rfl) ?_ <;> clear H <;> intro r_179 H
  try simp only [eL, ↓wk, ↓wl, nc, evV, ↓reduceIte, Nat.reduceEqDiff, Nat.reduceAdd, Nat.reduceSub, Nat.reduceLeDiff, Nat.reduceLT, Nat.reduceBEq, reduceCtorEq, Int.reduceEq]
  refine AW.rseq ?_
  try simp only [↓wk, ↓wl, nc, evV, ↓reduceIte, Nat.reduceEqDiff, Nat.reduceAdd, Nat.reduceSub, Nat.reduceLeDiff, Nat.reduceLT, Nat.reduceBEq, reduceCtorEq, Int.reduceEq]
  refine evTs_pure hFn H (fun _ h => f26_ok h) (by rfl) (by rfl) (by rfl) (by rfl) (fun _ => rfl) ?_ <;> clear H <;> intro r_228 H
  try simp only [eL, eApiGroup, ↓wk, ↓wl, nc, evV, ↓reduceIte, Nat.reduceEqDiff, Nat.reduceAdd, Nat.reduceSub, Nat.reduceLeDiff, Nat.reduceLT, Nat.reduceBEq, reduceCtorEq, Int.reduceEq]
  refine AW.rseq ?_
  try simp only [↓wk, ↓wl, nc, evV, ↓reduceIte, Nat.reduceEqDiff, Nat.reduceAdd, Nat.reduceSub, Nat.reduceLeDiff, Nat.reduceLT, Nat.reduceBEq, reduceCtorEq, Int.reduceEq]
  refine evTs_ifg H (by rfl) ?_ ?_ <;> clear H <;> intro H
  · try simp only [↓wk, ↓wl, nc, evV, ↓reduceIte, Nat.reduceEqDiff, Nat.reduceAdd, Nat.reduceSub, Nat.reduceLeDiff, Nat.reduceLT, Nat.reduceBEq, reduceCtorEq, Int.reduceEq]
    refine evTs_pure hFn H (fun _ h => f16_ok h) (by rfl) (by rfl) (by rfl) (by rfl) (fun _ => rfl) ?_ <;> clear H <;> intro r_241 H
    try simp only [eL, ↓wk, ↓wl, nc, evV, ↓reduceIte, Nat.reduceEqDiff, Nat.reduceAdd, Nat.reduceSub, Nat.reduceLeDiff, Nat.reduceLT, Nat.reduceBEq, reduceCtorEq, Int.reduceEq]
    refine evTs_ifg H (by rfl) ?_ ?_ <;> clear H <;> intro H
    · try simp only [↓wk, ↓wl, nc, evV, ↓reduceIte, Nat.reduceEqDiff, Nat.reduceAdd, Nat.reduceSub, Nat.reduceLeDiff, Nat.reduceLT, Nat.reduceBEq, reduceCtorEq, Int.reduceEq]
      refine evTs_pure hFn H (fun _ h => f16_ok h) (by rfl) (by rfl) (by rfl) (by rfl) (fun _ => rfl) ?_ <;> clear H <;> intro r_242 H
      try simp only [eL, ↓wk, ↓wl, nc, evV, ↓reduceIte, Nat.reduceEqDiff, Nat.reduceAdd, Nat.reduceSub, Nat.reduceLeDiff, Nat.reduceLT, Nat.reduceBEq, reduceCtorEq, Int.reduceEq]
      refine evTs_ifg H (by rfl) ?_ ?_ <;> clear H <;> intro H
      · try simp only [↓wk, ↓wl, nc, evV, ↓reduceIte, Nat.reduceEqDiff, Nat.reduceAdd, Nat.reduceSub, Nat.reduceLeDiff, Nat.reduceLT, Nat.reduceBEq, reduceCtorEq, Int.reduceEq]
        refine evTs_pure hFn H (fun _ h => f16_ok h) (by rfl) (by rfl) (by rfl) (by rfl) (fun _ => rfl) ?_ <;> clear H <;> intro r_243 H
        try simp only [eL, ↓wk, ↓wl, nc, evV, ↓reduceIte, Nat.reduceEqDiff, Nat.reduceAdd, Nat.reduceSub, Nat.reduceLeDiff, Nat.reduceLT, Nat.reduceBEq, reduceCtorEq, Int.reduceEq]
        refine evTs_ifg H (by rfl) ?_ ?_ <;> clear H <;> intro H
        · try simp only [↓wk, ↓wl, nc, evV, ↓reduceIte, Nat.reduceEqDiff, Nat.reduceAdd, Nat.reduceSub, Nat.reduceLeDiff, Nat.reduceLT, Nat.reduceBEq, reduceCtorEq, Int.reduceEq]
          refine evTs_pure hFn H (fun _ h => f16_ok h) (by rfl) (by rfl) (by rfl) (by rfl) (fun _ => rfl) ?_ <;> clear H <;> intro r_244 H
          try simp only [eL, ↓wk, ↓wl, nc, evV, ↓reduceIte, Nat.reduceEqDiff, Nat.reduceAdd, Nat.reduceSub, Nat.reduceLeDiff, Nat.reduceLT, Nat.reduceBEq, reduceCtorEq, Int.reduceEq]
          refine evTs_ifg H (by rfl) ?_ ?_ <;> clear H <;> intro H
          · try simp only [↓wk, ↓wl, nc, evV, ↓reduceIte, Nat.reduceEqDiff, Nat.reduceAdd, Nat.reduceSub, Nat.reduceLeDiff, Nat.reduceLT, Nat.reduceBEq, reduceCtorEq, Int.reduceEq]
            refine evTs_pure hFn H (fun _ h => f16_ok h) (by rfl) (by rfl) (by rfl) (by rfl) (fun _ => rfl) ?_ <;> clear H <;> intro r_245 H
            try simp only [eL, ↓wk, ↓wl, nc, evV, ↓reduceIte, Nat.reduceEqDiff, Nat.reduceAdd, Nat.reduceSub, Nat.reduceLeDiff, Nat.reduceLT, Nat.reduceBEq, reduceCtorEq, Int.reduceEq]
            refine evTs_ifg H (by rfl) ?_ ?_ <;> clear H <;> intro H
            · try simp only [↓wk, ↓wl, nc, evV, ↓reduceIte, Nat.reduceEqDiff, Nat.reduceAdd, Nat.reduceSub, Nat.reduceLeDiff, Nat.reduceLT, Nat.reduceBEq, reduceCtorEq, Int.reduceEq]
              refine evTs_pure hFn H (fun _ h => f20_ok h) (by rfl) (by rfl) (by rfl) (by rfl) (fun _ => rfl) ?_ <;> clear H <;> intro r_246 H
              try simp only [eL, ↓wk, ↓wl, nc, evV, ↓reduceIte, Nat.reduceEqDiff, Nat.reduceAdd, Nat.reduceSub, Nat.reduceLeDiff, Nat.reduceLT, Nat.reduceBEq, reduceCtorEq, Int.reduceEq]
              refine AW.ret ?_
              cases H
              exact hQ _ _ _ _ (.inr rfl) (by simp only [resVs, omap, resV, ↓wk, ↓wl, nc, evV, ↓reduceIte, Nat.reduceEqDiff, Nat.reduceAdd, Nat.reduceSub, Nat.reduceLeDiff, Nat.reduceLT, Nat.reduceBEq, reduceCtorEq, Int.reduceEq]; rfl) (hand_plain (by rfl)) (by rfl)
            · try simp only [↓wk, ↓wl, nc, evV, ↓reduceIte, Nat.reduceEqDiff, Nat.reduceAdd, Nat.reduceSub, Nat.reduceLeDiff, Nat.reduceLT, Nat.reduceBEq, reduceCtorEq, Int.reduceEq]
              refine AW.ret ?_
              cases H
              exact hQ _ _ _ _ (.inr rfl) (by simp only [resVs, omap, resV, ↓wk, ↓wl, nc, evV, ↓reduceIte, Nat.reduceEqDiff, Nat.reduceAdd, Nat.reduceSub, Nat.reduceLeDiff, Nat.reduceLT, Nat.reduceBEq, reduceCtorEq, Int.reduceEq]; rfl) (hand_plain (by rfl)) (by rfl)
          · try simp only [↓wk, ↓wl, nc, evV, ↓reduceIte, Nat.reduceEqDiff, Nat.reduceAdd, Nat.reduceSub, Nat.reduceLeDiff, Nat.reduceLT, Nat.reduceBEq, reduceCtorEq, Int.reduceEq]
            refine AW.ret ?_
            cases H
            exact hQ _ _ _ _ (.inr rfl) (by simp only [resVs, omap, resV, ↓wk, ↓wl, nc, evV, ↓reduceIte, Nat.reduceEqDiff, Nat.reduceAdd, Nat.reduceSub, Nat.reduceLeDiff, Nat.reduceLT, Nat.reduceBEq, reduceCtorEq, Int.reduceEq]; rfl) (hand_plain (by rfl)) (by rfl)
        · try simp only [↓wk, ↓wl, nc, evV, ↓reduceIte, Nat.reduceEqDiff, Nat.reduceAdd, Nat.reduceSub, Nat.reduceLeDiff, Nat.reduceLT, Nat.reduceBEq, reduceCtorEq, Int.reduceEq]
          refine AW.ret ?_
          cases H
          exact hQ _ _ _ _ (.inr rfl) (by simp only [resVs, omap, resV, ↓wk, ↓wl, nc, evV, ↓reduceIte, Nat.reduceEqDiff, Nat.reduceAdd, Nat.reduceSub, Nat.reduceLeDiff, Nat.reduceLT, Nat.reduceBEq, reduceCtorEq, Int.reduceEq]; rfl) (hand_plain (by rfl)) (by rfl)
      · try simp only [↓wk, ↓wl, nc, evV, ↓reduceIte, Nat.reduceEqDiff, Nat.reduceAdd, Nat.reduceSub, Nat.reduceLeDiff, Nat.reduceLT, Nat.reduceBEq, reduceCtorEq, Int.reduceEq]
        refine AW.ret ?_
        cases H
        exact hQ _ _ _ _ (.inr rfl) (by simp only [resVs, omap, resV, ↓wk, ↓wl, nc, evV, ↓reduceIte, Nat.reduceEqDiff, Nat.reduceAdd, Nat.reduceSub, Nat.reduceLeDiff, Nat.reduceLT, Nat.reduceBEq, reduceCtorEq, Int.reduceEq]; rfl) (hand_plain (by rfl)) (by rfl)
    · try simp only [↓wk, ↓wl, nc, evV, ↓reduceIte, Nat.reduceEqDiff, Nat.reduceAdd, Nat.reduceSub, Nat.reduceLeDiff, Nat.reduceLT, Nat.reduceBEq, reduceCtorEq, Int.reduceEq]
      refine AW.ret ?_
      cases H
      exact hQ _ _ _ _ (.inr rfl) (by simp only [resVs, omap, resV, ↓wk, ↓wl, nc, evV, ↓reduceIte, Nat.reduceEqDiff, Nat.reduceAdd, Nat.reduceSub, Nat.reduceLeDiff, Nat.reduceLT, Nat.reduceBEq, reduceCtorEq, Int.reduceEq]; rfl) (hand_plain (by rfl)) (by rfl)
  · try simp only [↓wk, ↓wl, nc, evV, ↓reduceIte, Nat.reduceEqDiff, Nat.reduceAdd, Nat.reduceSub, Nat.reduceLeDiff, Nat.reduceLT, Nat.reduceBEq, reduceCtorEq, Int.reduceEq]
    refine AW.ret ?_
    cases H
    exact hQ _ _ _ _ (.inr rfl) (by simp only [resVs, omap, resV, ↓wk, ↓wl, nc, evV, ↓reduceIte, Nat.reduceEqDiff, Nat.reduceAdd, Nat.reduceSub, Nat.reduceLeDiff, Nat.reduceLT, Nat.reduceBEq, reduceCtorEq, Int.reduceEq]; rfl) (hand_plain (by rfl)) (by rfl)
def c3_0 : C := .seq (.reg [iI 43 (.call (.c (.fn 15 [])) []), iI 44 (.mv (.t 43)), iG (some 45) 44 true (.mv (.t 7)), iG (some 46) 44 true (.mv (.t 9)), iG (some 47) 44 true (.call (.c (.fn 16 [])) [(.t 45), (.t 46)]), iI 48 (.pick (.t 44) (.t 47) (.c (.bool false))), iI 49 (.mv (.t 48)), iG (some 50) 49 true (.mv (.t 8)), iG (some 51) 49 true (.mv (.t 10)), iG (some 52) 49 true (.bin .eql (.t 50) (.t 51)), iI 53 (.pick (.t 49) (.t 52) (.c (.bool false))), iI 54 (.mv (.t 53)), iG (some 55) 54 true (.mv (.t 11)), iG (some 56) 54 true (.mv (.t 13)), iG (some 57) 54 true (.call (.c (.fn 16 [])) [(.t 55), (.t 56)]), iI 58 (.pick (.t 54) (.t 57) (.c (.bool false))), iI 59 (.mv (.t 58)), iG (some 60) 59 true (.mv (.t 12)), iG (some 61) 59 true (.mv (.t 14)), iG (some 62) 59 true (.bin .eql (.t 60) (.t 61)), iI 63 (.pick (.t 59) (.t 62) (.c (.bool false))), iI 6 (.mv (.t 63))]) .ret
def c3_1 : C := .seq (.reg [iI 37 (.mv (.t 0)), iI 38 (.mv (.t 1)), iI 39 (.mv (.t 2)), iI 40 (.call (.c (.fn 14 [])) [(.t 37), (.t 38), (.t 39)]), iI 36 (.mv (.t 40)), iI 41 (.ext (.t 36) 0), iI 42 (.ext (.t 36) 1), iI 13 (.mv (.t 41)), iI 14 (.mv (.t 42))]) c3_0
def c3_2 : C := .seq (.reg [iI 30 (.mv (.t 0)), iI 31 (.mv (.t 1)), iI 32 (.mv (.t 2)), iI 33 (.call (.c (.fn 13 [])) [(.t 30), (.t 31), (.t 32)]), iI 29 (.mv (.t 33)), iI 34 (.ext (.t 29) 0), iI 35 (.ext (.t 29) 1), iI 11 (.mv (.t 34)), iI 12 (.mv (.t 35))]) c3_1
def c3_3 : C := .seq (.reg [iI 23 (.mv (.t 0)), iI 24 (.mv (.t 1)), iI 25 (.mv (.t 2)), iI 26 (.call (.c (.fn 12 [])) [(.t 23), (.t 24), (.t 25)]), iI 22 (.mv (.t 26)), iI 27 (.ext (.t 22) 0), iI 28 (.ext (.t 22) 1), iI 9 (.mv (.t 27)), iI 10 (.mv (.t 28))]) c3_2
def c3_4 : C := .seq (.reg [iI 16 (.mv (.t 0)), iI 17 (.mv (.t 1)), iI 18 (.mv (.t 2)), iI 19 (.call (.c (.fn 11 [])) [(.t 16), (.t 17), (.t 18)]), iI 15 (.mv (.t 19)), iI 20 (.ext (.t 15) 0), iI 21 (.ext (.t 15) 1), iI 7 (.mv (.t 20)), iI 8 (.mv (.t 21))]) c3_3
def ir3 : C := .seq (.reg [iI 6 (.mv (.c (.bool false)))]) c3_4
theorem fd3 : fd? Try.prog 3 = some (64, [.slot 6], ir3) := by kernel_rfl
noncomputable def f3 (from_1 : Int) (to_2 : Int) (n_3 : Int) : Option (Bool) :=
  (f11 from_1 to_2 n_3).bind fun r_82 => (f12 from_1 to_2 n_3).bind fun r_110 => (f13 from_1 to_2 n_3).bind fun r_153 => (f14 from_1 to_2 n_3).bind fun r_175 => (f15).bind fun r_247 => (if r_247 = true then (f16 r_82.1 r_110.1).bind fun r_248 => (if r_248 = true then (if (decide (r_82.2 = r_110.2)) = true then (f16 r_153.1 r_175.1).bind fun r_249 => (if r_249 = true then (some (decide (r_153.2 = r_175.2))) else (some false)) else (some false)) else (some false)) else (some false))
theorem f3_ok {from_1 : Int} {to_2 : Int} {n_3 : Int} {r_ : Bool} (H : f3 from_1 to_2 n_3 = some r_) : Pure Try.prog 3 [.int .i64 from_1, .int .i64 to_2, .int .i64 n_3] (· = .bool r_) := by
  refine Pure.walk2 fd3 none (Nat.le_of_ble_eq_true rfl) (by rfl) fun Q hQ => ?_
  simp only [f3] at H
  refine AW.rseq ?_
  try simp only [↓wk, ↓wl, nc, evV, ↓reduceIte, Nat.reduceEqDiff, Nat.reduceAdd, Nat.reduceSub, Nat.reduceLeDiff, Nat.reduceLT, Nat.reduceBEq, reduceCtorEq, Int.reduceEq]
  refine AW.rseq ?_
  try simp only [↓wk, ↓wl, nc, evV, ↓reduceIte, Nat.reduceEqDiff, Nat.reduceAdd, Nat.reduceSub, Nat.reduceLeDiff, Nat.reduceLT, Nat.reduceBEq, reduceCtorEq, Int.reduceEq]
  refine evTs_pure hFn H (fun _ h => f11_ok h) (by rfl) (by rfl) (by rfl) (by rfl) (fun _ => rfl) ?_ <;> clear H <;> intro r_82 H
  try simp only [eL, ↓wk, ↓wl, nc, evV, ↓reduceIte, Nat.reduceEqDiff, Nat.reduceAdd, Nat.reduceSub, Nat.reduceLeDiff, Nat.reduceLT, Nat.reduceBEq, reduceCtorEq, Int.reduceEq]
  refine AW.rseq ?_
  try simp only [↓wk, ↓wl, nc, evV, ↓reduceIte, Nat.reduceEqDiff, Nat.reduceAdd, Nat.reduceSub, Nat.reduceLeDiff, Nat.reduceLT, Nat.reduceBEq, reduceCtorEq, Int.reduceEq]
  refine evTs_pure hFn H (fun _ h => f12_im h) (by rfl) (by rfl) (by rfl) (by rfl) (fun _ => rfl) ?_ <;> clear H <;> intro r_110 H
  try simp only [eL, ↓wk, ↓wl, nc, evV, ↓reduceIte, Nat.reduceEqDiff, Nat.reduceAdd, Nat.reduceSub, Nat.reduceLeDiff, Nat.reduceLT, Nat.reduceBEq, reduceCtorEq, Int.reduceEq]
  refine AW.rseq ?_
  try simp only [↓wk, ↓wl, nc, evV, ↓reduceIte, Nat.reduceEqDiff, Nat.reduceAdd, Nat.reduceSub, Nat.reduceLeDiff, Nat.reduceLT, Nat.reduceBEq, reduceCtorEq, Int.reduceEq]
  refine evTs_pure hFn H (fun _ h => f13_im h) (by rfl) (by rfl) (by rfl) (by rfl) (fun _ => rfl) ?_ <;> clear H <;> intro r_153 H
  try simp only [eL, ↓wk, ↓wl, nc, evV, ↓reduceIte, Nat.reduceEqDiff, Nat.reduceAdd, Nat.reduceSub, Nat.reduceLeDiff, Nat.reduceLT, Nat.reduceBEq, reduceCtorEq, Int.reduceEq]
  refine AW.rseq ?_
  try simp only [↓wk, ↓wl, nc, evV, ↓reduceIte, Nat.reduceEqDiff, Nat.reduceAdd, Nat.reduceSub, Nat.reduceLeDiff, Nat.reduceLT, Nat.reduceBEq, reduceCtorEq, Int.reduceEq]
  refine evTs_pure hFn H (fun _ h => f14_im h) (by rfl) (by rfl) (by rfl) (by rfl) (fun _ => rfl) ?_ <;> clear H <;> intro r_175 H
  try simp only [eL, ↓wk, ↓wl, nc, evV, ↓reduceIte, Nat.reduceEqDiff, Nat.reduceAdd, Nat.reduceSub, Nat.reduceLeDiff, Nat.reduceLT, Nat.reduceBEq, reduceCtorEq, Int.reduceEq]
  refine AW.rseq ?_
  try simp only [↓wk, ↓wl, nc, evV, ↓reduceIte, Nat.reduceEqDiff, Nat.reduceAdd, Nat.reduceSub, Nat.reduceLeDiff, Nat.reduceLT, Nat.reduceBEq, reduceCtorEq, Int.reduceEq]
  refine evTs_pure hFn H (fun _ h => f15_ok h) (by rfl) (by rfl) (by rfl) (by rfl) (fun _ => rfl) ?_ <;> clear H <;> intro r_247 H
  try simp only [eL, ↓wk, ↓wl, nc, evV, ↓reduceIte, Nat.reduceEqDiff, Nat.reduceAdd, Nat.reduceSub, Nat.reduceLeDiff, Nat.reduceLT, Nat.reduceBEq, reduceCtorEq, Int.reduceEq]
  refine evTs_ifg H (by rfl) ?_ ?_ <;> clear H <;> intro H
  · try simp only [↓wk, ↓wl, nc, evV, ↓reduceIte, Nat.reduceEqDiff, Nat.reduceAdd, Nat.reduceSub, Nat.reduceLeDiff, Nat.reduceLT, Nat.reduceBEq, reduceCtorEq, Int.reduceEq]
    refine evTs_pure hFn H (fun _ h => f16_ok h) (by rfl) (by rfl) (by rfl) (by rfl) (fun _ => rfl) ?_ <;> clear H <;> intro r_248 H
    try simp only [eL, ↓wk, ↓wl, nc, evV, ↓reduceIte, Nat.reduceEqDiff, Nat.reduceAdd, Nat.reduceSub, Nat.reduceLeDiff, Nat.reduceLT, Nat.reduceBEq, reduceCtorEq, Int.reduceEq]
    refine evTs_ifg H (by rfl) ?_ ?_ <;> clear H <;> intro H
    · try simp only [↓wk, ↓wl, nc, evV, ↓reduceIte, Nat.reduceEqDiff, Nat.reduceAdd, Nat.reduceSub, Nat.reduceLeDiff, Nat.reduceLT, Nat.reduceBEq, reduceCtorEq, Int.reduceEq]
      refine evTs_ifg H (by rfl) ?_ ?_ <;> clear H <;> intro H
      · try simp only [↓wk, ↓wl, nc, evV, ↓reduceIte, Nat.reduceEqDiff, Nat.reduceAdd, Nat.reduceSub, Nat.reduceLeDiff, Nat.reduceLT, Nat.reduceBEq, reduceCtorEq, Int.reduceEq]
        refine evTs_pure hFn H (fun _ h => f16_ok h) (by rfl) (by rfl) (by rfl) (by rfl) (fun _ => rfl) ?_ <;> clear H <;> intro r_249 H
        try simp only [eL, ↓wk, ↓wl, nc, evV, ↓reduceIte, Nat.reduceEqDiff, Nat.reduceAdd, Nat.reduceSub, Nat.reduceLeDiff, Nat.reduceLT, Nat.reduceBEq, reduceCtorEq, Int.reduceEq]
        refine evTs_ifg H (by rfl) ?_ ?_ <;> clear H <;> intro H
        · try simp only [↓wk, ↓wl, nc, evV, ↓reduceIte, Nat.reduceEqDiff, Nat.reduceAdd, Nat.reduceSub, Nat.reduceLeDiff, Nat.reduceLT, Nat.reduceBEq, reduceCtorEq, Int.reduceEq]
          refine AW.ret ?_
          cases H
          exact hQ _ _ _ _ (.inr rfl) (by simp only [resVs, omap, resV, ↓wk, ↓wl, nc, evV, ↓reduceIte, Nat.reduceEqDiff, Nat.reduceAdd, Nat.reduceSub, Nat.reduceLeDiff, Nat.reduceLT, Nat.reduceBEq, reduceCtorEq, Int.reduceEq]; rfl) (hand_plain (by rfl)) (by rfl)
        · try simp only [↓wk, ↓wl, nc, evV, ↓reduceIte, Nat.reduceEqDiff, Nat.reduceAdd, Nat.reduceSub, Nat.reduceLeDiff, Nat.reduceLT, Nat.reduceBEq, reduceCtorEq, Int.reduceEq]
          refine AW.ret ?_
          cases H
          exact hQ _ _ _ _ (.inr rfl) (by simp only [resVs, omap, resV, ↓wk, ↓wl, nc, evV, ↓reduceIte, Nat.reduceEqDiff, Nat.reduceAdd, Nat.reduceSub, Nat.reduceLeDiff, Nat.reduceLT, Nat.reduceBEq, reduceCtorEq, Int.reduceEq]; rfl) (hand_plain (by rfl)) (by rfl)
      · try simp only [↓wk, ↓wl, nc, evV, ↓reduceIte, Nat.reduceEqDiff, Nat.reduceAdd, Nat.reduceSub, Nat.reduceLeDiff, Nat.reduceLT, Nat.reduceBEq, reduceCtorEq, Int.reduceEq]
        refine AW.ret ?_
        cases H
        exact hQ _ _ _ _ (.inr rfl) (by simp only [resVs, omap, resV, ↓wk, ↓wl, nc, evV, ↓reduceIte, Nat.reduceEqDiff, Nat.reduceAdd, Nat.reduceSub, Nat.reduceLeDiff, Nat.reduceLT, Nat.reduceBEq, reduceCtorEq, Int.reduceEq]; rfl) (hand_plain (by rfl)) (by rfl)
    · try simp only [↓wk, ↓wl, nc, evV, ↓reduceIte, Nat.reduceEqDiff, Nat.reduceAdd, Nat.reduceSub, Nat.reduceLeDiff, Nat.reduceLT, Nat.reduceBEq, reduceCtorEq, Int.reduceEq]
      refine AW.ret ?_
      cases H
      exact hQ _ _ _ _ (.inr rfl) (by simp only [resVs, omap, resV, ↓wk, ↓wl, nc, evV, ↓reduceIte, Nat.reduceEqDiff, Nat.reduceAdd, Nat.reduceSub, Nat.reduceLeDiff, Nat.reduceLT, Nat.reduceBEq, reduceCtorEq, Int.reduceEq]; rfl) (hand_plain (by rfl)) (by rfl)
  · try simp only [↓wk, ↓wl, nc, evV, ↓reduceIte, Nat.reduceEqDiff, Nat.reduceAdd, Nat.reduceSub, Nat.reduceLeDiff, Nat.reduceLT, Nat.reduceBEq, reduceCtorEq, Int.reduceEq]
    refine AW.ret ?_
    cases H
    exact hQ _ _ _ _ (.inr rfl) (by simp only [resVs, omap, resV, ↓wk, ↓wl, nc, evV, ↓reduceIte, Nat.reduceEqDiff, Nat.reduceAdd, Nat.reduceSub, Nat.reduceLeDiff, Nat.reduceLT, Nat.reduceBEq, reduceCtorEq, Int.reduceEq]; rfl) (hand_plain (by rfl)) (by rfl)
noncomputable def f4_L2 (n_252 : Int) (r_253 : (List Int) × Int) (r_254 : (List Int) × Int) (to_251 : Int) (from_250 : Int) : Lp (Int × Int × Int) ((Int × Int) ⊕ (Unit)) where
  body := fun (least_300, most_301, i_302) => (if (decide (i_302 < (IntKind.i64.wrap n_252))) = true then (at? r_253.1 i_302).bind fun x_321 => (at? r_253.1 (IntKind.i64.wrap (i_302 - 1))).bind fun x_322 => (at? r_253.1 i_302).bind fun x_323 => (at? r_253.1 (IntKind.i64.wrap (i_302 - 1))).bind fun x_324 => (at? r_253.1 i_302).bind fun x_325 => (at? r_254.1 (IntKind.i64.wrap ((IntKind.i64.wrap ((IntKind.i64.wrap n_252) - 1)) - i_302))).bind fun x_326 => (if (decide (x_325 ≠ x_326)) = true then (some (.brk (Sum.inr ()))) else (some (.next ((if (IntKind.i64.wrap (x_321 - x_322)) < least_300 then (IntKind.i64.wrap (x_321 - x_322)) else least_300), (if (IntKind.i64.wrap (x_323 - x_324)) > most_301 then (IntKind.i64.wrap (x_323 - x_324)) else most_301), (IntKind.i64.wrap (i_302 + 1)))))) else (some (.brk (Sum.inl (least_300, most_301)))))
  cst := fun (least_300, most_301, i_302) => ⟨put (put (put (put (put (put (put (put (fun _ => .junk) 16 (.int .i64 i_302)) 15 (.int .i64 most_301)) 14 (.int .i64 least_300)) 12 (.sl 0 false (r_254.1.map (AV.int .i64)))) 10 (.sl 0 false (r_253.1.map (AV.int .i64)))) 9 (.int .i64 (IntKind.i64.wrap n_252))) 8 (.int .i64 (IntKind.i64.wrap to_251))) 7 (.int .i64 (IntKind.i64.wrap from_250)), []⟩
noncomputable def f4_J1 (n_252 : Int) (r_253 : (List Int) × Int) (r_254 : (List Int) × Int) (to_251 : Int) (from_250 : Int) : Jn (Unit) (Bool) where
  run := fun _ => ((Lp.run (f4_L2 n_252 r_253 r_254 to_251 from_250) (65535, (-65535), 1)).bind fun r_ => match r_ with | (Sum.inl (least_309, most_310)) => (if (decide ((IntKind.i64.wrap n_252) < 2)) = true then (f15).bind fun r_311 => (some r_311) else (if (decide ((IntKind.i64.wrap (most_310 - least_309)) ≤ 1)) = true then (if (decide ((IntKind.i64.wrap to_251) < (IntKind.i64.wrap from_250))) = true then (if (decide ((IntKind.i64.wrap from_250) < (IntKind.i64.wrap to_251))) = true then (f15).bind fun r_312 => (some r_312) else (if (decide (most_310 ≤ 0)) = true then (f15).bind fun r_313 => (some r_313) else (some false))) else (if (decide (0 ≤ least_309)) = true then (if (decide ((IntKind.i64.wrap from_250) < (IntKind.i64.wrap to_251))) = true then (f15).bind fun r_314 => (some r_314) else (if (decide (most_310 ≤ 0)) = true then (f15).bind fun r_315 => (some r_315) else (some false))) else (some false))) else (some false))) | (Sum.inr _) => (some false))
  cst := fun _ => ⟨put (put (put (put (put (fun _ => .junk) 12 (.sl 0 false (r_254.1.map (AV.int .i64)))) 10 (.sl 0 false (r_253.1.map (AV.int .i64)))) 9 (.int .i64 (IntKind.i64.wrap n_252))) 8 (.int .i64 (IntKind.i64.wrap to_251))) 7 (.int .i64 (IntKind.i64.wrap from_250)), []⟩
def c4_0 : C := .cond (.t 54) (.seq (.reg [iI 6 (.mv (.c (.bool false)))]) .ret) (.skip)
def c4_1 : C := .cond (.t 56) (.seq (.reg [iI 57 (.call (.c (.fn 15 [])) []), iI 6 (.mv (.t 57))]) .ret) (.skip)
def c4_2 : C := .cond (.t 75) (.seq (.reg [iI 6 (.mv (.c (.bool false)))]) .ret) (.skip)
def c4_3 : C := .cond (.t 78) (.skip) (.exit 0)
def c4_4 : C := .cond (.t 116) (.seq (.reg [iI 6 (.mv (.c (.bool false)))]) .ret) (.skip)
def c4_5 : C := .seq (.reg [iI 105 (.mv (.t 10)), iI 106 (.mv (.t 16)), iI 107 (.iaddr 0 (.t 105) (.t 106)), iI 108 (.load 0 (.t 107)), iI 109 (.mv (.t 12)), iI 110 (.mv (.t 9)), iI 111 (.bin .sub (.t 110) (.c (.int .i64 1))), iI 112 (.mv (.t 16)), iI 113 (.bin .sub (.t 111) (.t 112)), iI 114 (.iaddr 0 (.t 109) (.t 113)), iI 115 (.load 0 (.t 114)), iI 116 (.bin .neq (.t 108) (.t 115))]) c4_4
def c4_6 : C := .reg [iI 79 (.mv (.t 16)), iI 80 (.bin .add (.t 79) (.c (.int .i64 1))), iI 16 (.mv (.t 80))]
def c4_7 : C := .seq (.block 1 (.seq (.reg [iI 81 (.mv (.t 14)), iI 82 (.mv (.t 10)), iI 83 (.mv (.t 16)), iI 84 (.iaddr 0 (.t 82) (.t 83)), iI 85 (.load 0 (.t 84)), iI 86 (.mv (.t 10)), iI 87 (.mv (.t 16)), iI 88 (.bin .sub (.t 87) (.c (.int .i64 1))), iI 89 (.iaddr 0 (.t 86) (.t 88)), iI 90 (.load 0 (.t 89)), iI 91 (.bin .sub (.t 85) (.t 90)), iI 92 (.maxmin false (.t 81) [(.t 91)]), iI 93 (.mv (.t 15)), iI 94 (.mv (.t 10)), iI 95 (.mv (.t 16)), iI 96 (.iaddr 0 (.t 94) (.t 95)), iI 97 (.load 0 (.t 96)), iI 98 (.mv (.t 10)), iI 99 (.mv (.t 16)), iI 100 (.bin .sub (.t 99) (.c (.int .i64 1))), iI 101 (.iaddr 0 (.t 98) (.t 100)), iI 102 (.load 0 (.t 101)), iI 103 (.bin .sub (.t 97) (.t 102)), iI 104 (.maxmin true (.t 93) [(.t 103)]), iI 14 (.mv (.t 92)), iI 15 (.mv (.t 104))]) c4_5)) c4_6
def c4_8 : C := .block 0 (.loop (.seq (.seq (.reg [iI 76 (.mv (.t 16)), iI 77 (.mv (.t 9)), iI 78 (.bin .lss (.t 76) (.t 77))]) c4_3) c4_7))
def c4_9 : C := .seq (.reg [iI 117 (.mv (.t 9)), iI 118 (.bin .lss (.t 117) (.c (.int .i64 2))), iI 119 (.mv (.t 118)), iG (some 120) 119 false (.mv (.t 15)), iG (some 121) 119 false (.mv (.t 14)), iG (some 122) 119 false (.bin .sub (.t 120) (.t 121)), iG (some 123) 119 false (.bin .leq (.t 122) (.c (.int .i64 1))), iG (some 124) 119 false (.mv (.t 123)), iG (some 125) 124 true (.mv (.t 7)), iG (some 126) 124 true (.mv (.t 8)), iG (some 127) 124 true (.bin .gtr (.t 125) (.t 126)), iG (some 128) 124 true (.mv (.t 127)), iG (some 129) 128 false (.mv (.t 14)), iG (some 130) 128 false (.bin .geq (.t 129) (.c (.int .i64 0))), iG (some 131) 124 true (.pick (.t 128) (.c (.bool true)) (.t 130)), iG (some 132) 119 false (.pick (.t 124) (.t 131) (.c (.bool false))), iG (some 133) 119 false (.mv (.t 132)), iG (some 134) 133 true (.mv (.t 7)), iG (some 135) 133 true (.mv (.t 8)), iG (some 136) 133 true (.bin .lss (.t 134) (.t 135)), iG (some 137) 133 true (.mv (.t 136)), iG (some 138) 137 false (.mv (.t 15)), iG (some 139) 137 false (.bin .leq (.t 138) (.c (.int .i64 0))), iG (some 140) 133 true (.pick (.t 137) (.c (.bool true)) (.t 139)), iG (some 141) 119 false (.pick (.t 133) (.t 140) (.c (.bool false))), iI 142 (.pick (.t 119) (.c (.bool true)) (.t 141)), iI 143 (.mv (.t 142)), iG (some 144) 143 true (.call (.c (.fn 15 [])) []), iI 145 (.pick (.t 143) (.t 144) (.c (.bool false))), iI 6 (.mv (.t 145))]) .ret
def c4_10 : C := .seq (.seq (.reg [iI 16 (.mv (.c (.int .i64 1)))]) c4_8) c4_9
def c4_11 : C := .seq (.reg [iI 14 (.mv (.c (.int .i64 65535))), iI 15 (.mv (.c (.int .i64 (-65535))))]) c4_10
def c4_12 : C := .seq (.seq (.reg [iI 58 (.mv (.t 10)), iI 59 (.iaddr 0 (.t 58) (.c (.int .i64 0))), iI 60 (.load 0 (.t 59)), iI 61 (.mv (.t 7)), iI 62 (.bin .neq (.t 60) (.t 61)), iI 63 (.mv (.t 62)), iG (some 64) 63 false (.mv (.t 9)), iG (some 65) 63 false (.bin .gtr (.t 64) (.c (.int .i64 1))), iG (some 66) 63 false (.mv (.t 65)), iG (some 67) 66 true (.mv (.t 10)), iG (some 68) 66 true (.mv (.t 9)), iG (some 69) 66 true (.bin .sub (.t 68) (.c (.int .i64 1))), iG (some 70) 66 true (.iaddr 0 (.t 67) (.t 69)), iG (some 71) 66 true (.load 0 (.t 70)), iG (some 72) 66 true (.mv (.t 8)), iG (some 73) 66 true (.bin .neq (.t 71) (.t 72)), iG (some 74) 63 false (.pick (.t 66) (.t 73) (.c (.bool false))), iI 75 (.pick (.t 63) (.c (.bool true)) (.t 74))]) c4_2) c4_11
def c4_13 : C := .seq (.seq (.reg [iI 55 (.mv (.t 9)), iI 56 (.bin .eql (.t 55) (.c (.int .i64 0)))]) c4_1) c4_12
def c4_14 : C := .seq (.seq (.reg [iI 37 (.mv (.t 11)), iI 38 (.bin .neq (.t 37) (.c (.int .i64 0))), iI 39 (.mv (.t 38)), iG (some 40) 39 false (.mv (.t 13)), iG (some 41) 39 false (.bin .neq (.t 40) (.c (.int .i64 0))), iI 42 (.pick (.t 39) (.c (.bool true)) (.t 41)), iI 43 (.mv (.t 42)), iG (some 44) 43 false (.mv (.t 10)), iG (some 45) 43 false (.len 0 (.t 44)), iG (some 46) 43 false (.mv (.t 9)), iG (some 47) 43 false (.bin .neq (.t 45) (.t 46)), iI 48 (.pick (.t 43) (.c (.bool true)) (.t 47)), iI 49 (.mv (.t 48)), iG (some 50) 49 false (.mv (.t 12)), iG (some 51) 49 false (.len 0 (.t 50)), iG (some 52) 49 false (.mv (.t 9)), iG (some 53) 49 false (.bin .neq (.t 51) (.t 52)), iI 54 (.pick (.t 49) (.c (.bool true)) (.t 53))]) c4_0) c4_13
def c4_15 : C := .seq (.reg [iI 31 (.mv (.t 8)), iI 32 (.mv (.t 7)), iI 33 (.mv (.t 9)), iI 34 (.call (.c (.fn 11 [])) [(.t 31), (.t 32), (.t 33)]), iI 30 (.mv (.t 34)), iI 35 (.ext (.t 30) 0), iI 36 (.ext (.t 30) 1), iI 12 (.mv (.t 35)), iI 13 (.mv (.t 36))]) c4_14
def c4_16 : C := .seq (.reg [iI 24 (.mv (.t 7)), iI 25 (.mv (.t 8)), iI 26 (.mv (.t 9)), iI 27 (.call (.c (.fn 11 [])) [(.t 24), (.t 25), (.t 26)]), iI 23 (.mv (.t 27)), iI 28 (.ext (.t 23) 0), iI 29 (.ext (.t 23) 1), iI 10 (.mv (.t 28)), iI 11 (.mv (.t 29))]) c4_15
def c4_17 : C := .seq (.reg [iI 17 (.mv (.t 0)), iI 18 (.cint .i64 (.t 17)), iI 19 (.mv (.t 1)), iI 20 (.cint .i64 (.t 19)), iI 21 (.mv (.t 2)), iI 22 (.cint .i64 (.t 21)), iI 7 (.mv (.t 18)), iI 8 (.mv (.t 20)), iI 9 (.mv (.t 22))]) c4_16
def ir4 : C := .seq (.reg [iI 6 (.mv (.c (.bool false)))]) c4_17
theorem fd4 : fd? Try.prog 4 = some (146, [.slot 6], ir4) := by kernel_rfl
noncomputable def f4 (from_250 : Int) (to_251 : Int) (n_252 : Int) : Option (Bool) :=
  (f11 (IntKind.i64.wrap from_250) (IntKind.i64.wrap to_251) (IntKind.i64.wrap n_252)).bind fun r_253 => (f11 (IntKind.i64.wrap to_251) (IntKind.i64.wrap from_250) (IntKind.i64.wrap n_252)).bind fun r_254 => (if (decide (r_253.2 ≠ 0)) = true then (some false) else (if (decide (r_254.2 ≠ 0)) = true then (some false) else (if (decide (((r_253.1.length : Nat) : Int) ≠ (IntKind.i64.wrap n_252))) = true then (some false) else (if (decide (((r_254.1.length : Nat) : Int) ≠ (IntKind.i64.wrap n_252))) = true then (some false) else (if (decide ((IntKind.i64.wrap n_252) = 0)) = true then (f15).bind fun r_256 => (some r_256) else (at? r_253.1 0).bind fun x_332 => (if (decide (x_332 ≠ (IntKind.i64.wrap from_250))) = true then (some false) else (if (decide (1 < (IntKind.i64.wrap n_252))) = true then (at? r_253.1 (IntKind.i64.wrap ((IntKind.i64.wrap n_252) - 1))).bind fun x_333 => (if (decide (x_333 ≠ (IntKind.i64.wrap to_251))) = true then (some false) else ((f4_J1 n_252 r_253 r_254 to_251 from_250).run ())) else ((f4_J1 n_252 r_253 r_254 to_251 from_250).run ()))))))))
theorem f4_ok {from_250 : Int} {to_251 : Int} {n_252 : Int} {r_ : Bool} (H : f4 from_250 to_251 n_252 = some r_) : Pure Try.prog 4 [.int .u16 from_250, .int .u16 to_251, .int .u8 n_252] (· = .bool r_) := by
  refine Pure.walk2 fd4 none (Nat.le_of_ble_eq_true rfl) (by rfl) fun Q hQ => ?_
  simp only [f4] at H
  refine AW.rseq ?_
  try simp only [↓wk, ↓wl, nc, evV, ↓reduceIte, Nat.reduceEqDiff, Nat.reduceAdd, Nat.reduceSub, Nat.reduceLeDiff, Nat.reduceLT, Nat.reduceBEq, reduceCtorEq, Int.reduceEq]
  refine AW.rseq ?_
  try simp only [↓wk, ↓wl, nc, evV, ↓reduceIte, Nat.reduceEqDiff, Nat.reduceAdd, Nat.reduceSub, Nat.reduceLeDiff, Nat.reduceLT, Nat.reduceBEq, reduceCtorEq, Int.reduceEq]
  refine AW.rseq ?_
  try simp only [↓wk, ↓wl, nc, evV, ↓reduceIte, Nat.reduceEqDiff, Nat.reduceAdd, Nat.reduceSub, Nat.reduceLeDiff, Nat.reduceLT, Nat.reduceBEq, reduceCtorEq, Int.reduceEq]
  refine evTs_pure hFn H (fun _ h => f11_ok h) (by rfl) (by rfl) (by rfl) (by rfl) (fun _ => rfl) ?_ <;> clear H <;> intro r_253 H
  try simp only [eL, ↓wk, ↓wl, nc, evV, ↓reduceIte, Nat.reduceEqDiff, Nat.reduceAdd, Nat.reduceSub, Nat.reduceLeDiff, Nat.reduceLT, Nat.reduceBEq, reduceCtorEq, Int.reduceEq]
  refine AW.rseq ?_
  try simp only [↓wk, ↓wl, nc, evV, ↓reduceIte, Nat.reduceEqDiff, Nat.reduceAdd, Nat.reduceSub, Nat.reduceLeDiff, Nat.reduceLT, Nat.reduceBEq, reduceCtorEq, Int.reduceEq]
  refine evTs_pure hFn H (fun _ h => f11_ok h) (by rfl) (by rfl) (by rfl) (by rfl) (fun _ => rfl) ?_ <;> clear H <;> intro r_254 H
  try simp only [eL, ↓wk, ↓wl, nc, evV, ↓reduceIte, Nat.reduceEqDiff, Nat.reduceAdd, Nat.reduceSub, Nat.reduceLeDiff, Nat.reduceLT, Nat.reduceBEq, reduceCtorEq, Int.reduceEq]
  refine AW.sseq ?_
  refine AW.rseq ?_
  try simp only [↓wk, ↓wl, nc, evV, ↓reduceIte, Nat.reduceEqDiff, Nat.reduceAdd, Nat.reduceSub, Nat.reduceLeDiff, Nat.reduceLT, Nat.reduceBEq, reduceCtorEq, Int.reduceEq]
  refine evTs_ifg H (by rfl) ?_ ?_ <;> clear H <;> intro H
  · try simp only [↓wk, ↓wl, nc, evV, ↓reduceIte, Nat.reduceEqDiff, Nat.reduceAdd, Nat.reduceSub, Nat.reduceLeDiff, Nat.reduceLT, Nat.reduceBEq, reduceCtorEq, Int.reduceEq]
    refine AW.ift (by rfl) ?_
    refine AW.rseq ?_
    try simp only [↓wk, ↓wl, nc, evV, ↓reduceIte, Nat.reduceEqDiff, Nat.reduceAdd, Nat.reduceSub, Nat.reduceLeDiff, Nat.reduceLT, Nat.reduceBEq, reduceCtorEq, Int.reduceEq]
    refine AW.ret ?_
    refine seqQ.ret ?_
    cases H
    exact hQ _ _ _ _ (.inr rfl) (by simp only [resVs, omap, resV, ↓wk, ↓wl, nc, evV, ↓reduceIte, Nat.reduceEqDiff, Nat.reduceAdd, Nat.reduceSub, Nat.reduceLeDiff, Nat.reduceLT, Nat.reduceBEq, reduceCtorEq, Int.reduceEq]; rfl) (hand_plain (by rfl)) (by rfl)
  · try simp only [↓wk, ↓wl, nc, evV, ↓reduceIte, Nat.reduceEqDiff, Nat.reduceAdd, Nat.reduceSub, Nat.reduceLeDiff, Nat.reduceLT, Nat.reduceBEq, reduceCtorEq, Int.reduceEq]
    refine evTs_ifg H (by rfl) ?_ ?_ <;> clear H <;> intro H
    · try simp only [↓wk, ↓wl, nc, evV, ↓reduceIte, Nat.reduceEqDiff, Nat.reduceAdd, Nat.reduceSub, Nat.reduceLeDiff, Nat.reduceLT, Nat.reduceBEq, reduceCtorEq, Int.reduceEq]
      refine AW.ift (by rfl) ?_
      refine AW.rseq ?_
      try simp only [↓wk, ↓wl, nc, evV, ↓reduceIte, Nat.reduceEqDiff, Nat.reduceAdd, Nat.reduceSub, Nat.reduceLeDiff, Nat.reduceLT, Nat.reduceBEq, reduceCtorEq, Int.reduceEq]
      refine AW.ret ?_
      refine seqQ.ret ?_
      cases H
      exact hQ _ _ _ _ (.inr rfl) (by simp only [resVs, omap, resV, ↓wk, ↓wl, nc, evV, ↓reduceIte, Nat.reduceEqDiff, Nat.reduceAdd, Nat.reduceSub, Nat.reduceLeDiff, Nat.reduceLT, Nat.reduceBEq, reduceCtorEq, Int.reduceEq]; rfl) (hand_plain (by rfl)) (by rfl)
    · try simp only [↓wk, ↓wl, nc, evV, ↓reduceIte, Nat.reduceEqDiff, Nat.reduceAdd, Nat.reduceSub, Nat.reduceLeDiff, Nat.reduceLT, Nat.reduceBEq, reduceCtorEq, Int.reduceEq]
      refine evTs_ifg H (by rfl) ?_ ?_ <;> clear H <;> intro H
      · try simp only [↓wk, ↓wl, nc, evV, ↓reduceIte, Nat.reduceEqDiff, Nat.reduceAdd, Nat.reduceSub, Nat.reduceLeDiff, Nat.reduceLT, Nat.reduceBEq, reduceCtorEq, Int.reduceEq]
        refine AW.ift (by rfl) ?_
        refine AW.rseq ?_
        try simp only [↓wk, ↓wl, nc, evV, ↓reduceIte, Nat.reduceEqDiff, Nat.reduceAdd, Nat.reduceSub, Nat.reduceLeDiff, Nat.reduceLT, Nat.reduceBEq, reduceCtorEq, Int.reduceEq]
        refine AW.ret ?_
        refine seqQ.ret ?_
        cases H
        exact hQ _ _ _ _ (.inr rfl) (by simp only [resVs, omap, resV, ↓wk, ↓wl, nc, evV, ↓reduceIte, Nat.reduceEqDiff, Nat.reduceAdd, Nat.reduceSub, Nat.reduceLeDiff, Nat.reduceLT, Nat.reduceBEq, reduceCtorEq, Int.reduceEq]; rfl) (hand_plain (by rfl)) (by rfl)
      · try simp only [↓wk, ↓wl, nc, evV, ↓reduceIte, Nat.reduceEqDiff, Nat.reduceAdd, Nat.reduceSub, Nat.reduceLeDiff, Nat.reduceLT, Nat.reduceBEq, reduceCtorEq, Int.reduceEq]
        refine AW.ifc H (by rfl) ?_ ?_ <;> clear H <;> intro H
        · refine AW.rseq ?_
          try simp only [↓wk, ↓wl, nc, evV, ↓reduceIte, Nat.reduceEqDiff, Nat.reduceAdd, Nat.reduceSub, Nat.reduceLeDiff, Nat.reduceLT, Nat.reduceBEq, reduceCtorEq, Int.reduceEq]
          refine AW.ret ?_
          refine seqQ.ret ?_
          cases H
          exact hQ _ _ _ _ (.inr rfl) (by simp only [resVs, omap, resV, ↓wk, ↓wl, nc, evV, ↓reduceIte, Nat.reduceEqDiff, Nat.reduceAdd, Nat.reduceSub, Nat.reduceLeDiff, Nat.reduceLT, Nat.reduceBEq, reduceCtorEq, Int.reduceEq]; rfl) (hand_plain (by rfl)) (by rfl)
        · refine AW.skip ?_
          refine seqQ.norm ?_
          refine AW.sseq ?_
          refine AW.rseq ?_
          try simp only [↓wk, ↓wl, nc, evV, ↓reduceIte, Nat.reduceEqDiff, Nat.reduceAdd, Nat.reduceSub, Nat.reduceLeDiff, Nat.reduceLT, Nat.reduceBEq, reduceCtorEq, Int.reduceEq]
          refine AW.ifc H (by rfl) ?_ ?_ <;> clear H <;> intro H
          · refine AW.rseq ?_
            try simp only [↓wk, ↓wl, nc, evV, ↓reduceIte, Nat.reduceEqDiff, Nat.reduceAdd, Nat.reduceSub, Nat.reduceLeDiff, Nat.reduceLT, Nat.reduceBEq, reduceCtorEq, Int.reduceEq]
            refine evTs_pure hFn H (fun _ h => f15_ok h) (by rfl) (by rfl) (by rfl) (by rfl) (fun _ => rfl) ?_ <;> clear H <;> intro r_256 H
            try simp only [eL, ↓wk, ↓wl, nc, evV, ↓reduceIte, Nat.reduceEqDiff, Nat.reduceAdd, Nat.reduceSub, Nat.reduceLeDiff, Nat.reduceLT, Nat.reduceBEq, reduceCtorEq, Int.reduceEq]
            refine AW.ret ?_
            refine seqQ.ret ?_
            cases H
            exact hQ _ _ _ _ (.inr rfl) (by simp only [resVs, omap, resV, ↓wk, ↓wl, nc, evV, ↓reduceIte, Nat.reduceEqDiff, Nat.reduceAdd, Nat.reduceSub, Nat.reduceLeDiff, Nat.reduceLT, Nat.reduceBEq, reduceCtorEq, Int.reduceEq]; rfl) (hand_plain (by rfl)) (by rfl)
          · refine AW.skip ?_
            refine seqQ.norm ?_
            refine AW.join (f4_J1 n_252 r_253 r_254 to_251 from_250) H ?_ fun hf4_J1 => ?_
            · clear H
              rintro _ st0_ H hst_
              simp only [f4_J1] at H hst_
              subst hst_
              refine AW.rseq ?_
              try simp only [↓wk, ↓wl, nc, evV, ↓reduceIte, Nat.reduceEqDiff, Nat.reduceAdd, Nat.reduceSub, Nat.reduceLeDiff, Nat.reduceLT, Nat.reduceBEq, reduceCtorEq, Int.reduceEq]
              refine AW.sseq ?_
              refine AW.rseq ?_
              try simp only [↓wk, ↓wl, nc, evV, ↓reduceIte, Nat.reduceEqDiff, Nat.reduceAdd, Nat.reduceSub, Nat.reduceLeDiff, Nat.reduceLT, Nat.reduceBEq, reduceCtorEq, Int.reduceEq]
              refine AW.bend ?_
              refine AW.iter H ((Le.none [] [7, 8, 9, 10, 12, 14, 15, 16] (by decide) (by simp only [f4_L2, List.length_set, Option.map_some, restrict_eq, renS_nil, renS_cons, renB_els, renB_cel, renB_dead, deep_eq, map_ren_enc, ren_agg', ren_tup', ren_fn', ren_int', ren_bool', ren_str', ren_sl', ren_pro', ren_nilp', ren_nilfn', ren_junk', ren_ptr', ren_row', ren_arow', ren_eptr', vm, List.idxOf?_cons, List.idxOf?_nil, beq_self_eq_true, Option.map_none, List.getD_cons_zero, List.getD_cons_succ, ↓wk, ↓wl, nc, evV, ↓reduceIte, Nat.reduceEqDiff, Nat.reduceAdd, Nat.reduceSub, Nat.reduceLeDiff, Nat.reduceLT, Nat.reduceBEq, reduceCtorEq, Int.reduceEq]))) ?_ <;> clear H
              rintro ⟨least_300, most_301, i_302⟩ x_ st0_ H hst_
              simp only [f4_L2] at H hst_
              subst hst_
              refine AW.sseq ?_
              refine AW.rseq ?_
              try simp only [↓wk, ↓wl, nc, evV, ↓reduceIte, Nat.reduceEqDiff, Nat.reduceAdd, Nat.reduceSub, Nat.reduceLeDiff, Nat.reduceLT, Nat.reduceBEq, reduceCtorEq, Int.reduceEq]
              refine AW.ifc H (by rfl) ?_ ?_ <;> clear H <;> intro H
              · refine AW.skip ?_
                refine seqQ.norm ?_
                refine AW.bseq ?_
                refine AW.rseq ?_
                try simp only [↓wk, ↓wl, nc, evV, ↓reduceIte, Nat.reduceEqDiff, Nat.reduceAdd, Nat.reduceSub, Nat.reduceLeDiff, Nat.reduceLT, Nat.reduceBEq, reduceCtorEq, Int.reduceEq]
                refine evTs_at (enc := (AV.int .i64)) H (by rfl) (by rfl) ?_ <;> clear H <;> intro x_321 H
                try simp only [↓wk, ↓wl, nc, evV, ↓reduceIte, Nat.reduceEqDiff, Nat.reduceAdd, Nat.reduceSub, Nat.reduceLeDiff, Nat.reduceLT, Nat.reduceBEq, reduceCtorEq, Int.reduceEq]
                refine evTs_at (enc := (AV.int .i64)) H (by rfl) (by rfl) ?_ <;> clear H <;> intro x_322 H
                try simp only [↓wk, ↓wl, nc, evV, ↓reduceIte, Nat.reduceEqDiff, Nat.reduceAdd, Nat.reduceSub, Nat.reduceLeDiff, Nat.reduceLT, Nat.reduceBEq, reduceCtorEq, Int.reduceEq]
                refine evTs_at (enc := (AV.int .i64)) H (by rfl) (by rfl) ?_ <;> clear H <;> intro x_323 H
                try simp only [↓wk, ↓wl, nc, evV, ↓reduceIte, Nat.reduceEqDiff, Nat.reduceAdd, Nat.reduceSub, Nat.reduceLeDiff, Nat.reduceLT, Nat.reduceBEq, reduceCtorEq, Int.reduceEq]
                refine evTs_at (enc := (AV.int .i64)) H (by rfl) (by rfl) ?_ <;> clear H <;> intro x_324 H
                try simp only [↓wk, ↓wl, nc, evV, ↓reduceIte, Nat.reduceEqDiff, Nat.reduceAdd, Nat.reduceSub, Nat.reduceLeDiff, Nat.reduceLT, Nat.reduceBEq, reduceCtorEq, Int.reduceEq]
                refine AW.rseq ?_
                try simp only [↓wk, ↓wl, nc, evV, ↓reduceIte, Nat.reduceEqDiff, Nat.reduceAdd, Nat.reduceSub, Nat.reduceLeDiff, Nat.reduceLT, Nat.reduceBEq, reduceCtorEq, Int.reduceEq]
                refine evTs_at (enc := (AV.int .i64)) H (by rfl) (by rfl) ?_ <;> clear H <;> intro x_325 H
                try simp only [↓wk, ↓wl, nc, evV, ↓reduceIte, Nat.reduceEqDiff, Nat.reduceAdd, Nat.reduceSub, Nat.reduceLeDiff, Nat.reduceLT, Nat.reduceBEq, reduceCtorEq, Int.reduceEq]
                refine evTs_at (enc := (AV.int .i64)) H (by rfl) (by rfl) ?_ <;> clear H <;> intro x_326 H
                try simp only [↓wk, ↓wl, nc, evV, ↓reduceIte, Nat.reduceEqDiff, Nat.reduceAdd, Nat.reduceSub, Nat.reduceLeDiff, Nat.reduceLT, Nat.reduceBEq, reduceCtorEq, Int.reduceEq]
                refine AW.ifc H (by rfl) ?_ ?_ <;> clear H <;> intro H
                · refine AW.rseq ?_
                  try simp only [↓wk, ↓wl, nc, evV, ↓reduceIte, Nat.reduceEqDiff, Nat.reduceAdd, Nat.reduceSub, Nat.reduceLeDiff, Nat.reduceLT, Nat.reduceBEq, reduceCtorEq, Int.reduceEq]
                  refine AW.ret ?_
                  refine blkQ.ret ?_
                  refine loopQ.ret H ?_ <;> clear H <;> intro H
                  try dsimp only at H
                  refine blk0.ret ?_
                  refine seqQ.ret ?_
                  cases H
                  exact hQ _ _ _ _ (.inr rfl) (by simp only [resVs, omap, resV, ↓wk, ↓wl, nc, evV, ↓reduceIte, Nat.reduceEqDiff, Nat.reduceAdd, Nat.reduceSub, Nat.reduceLeDiff, Nat.reduceLT, Nat.reduceBEq, reduceCtorEq, Int.reduceEq]; rfl) (hand_plain (by rfl)) (by rfl)
                · refine AW.skip ?_
                  refine blkQ.norm ?_
                  refine AW.rend ?_
                  try simp only [↓wk, ↓wl, nc, evV, ↓reduceIte, Nat.reduceEqDiff, Nat.reduceAdd, Nat.reduceSub, Nat.reduceLeDiff, Nat.reduceLT, Nat.reduceBEq, reduceCtorEq, Int.reduceEq]
                  exact loopQ.next H ((Le.none [] [7, 8, 9, 10, 12, 14, 15, 16] (by decide) (by simp only [f4_L2, List.length_set, Option.map_some, restrict_eq, renS_nil, renS_cons, renB_els, renB_cel, renB_dead, deep_eq, map_ren_enc, ren_agg', ren_tup', ren_fn', ren_int', ren_bool', ren_str', ren_sl', ren_pro', ren_nilp', ren_nilfn', ren_junk', ren_ptr', ren_row', ren_arow', ren_eptr', vm, List.idxOf?_cons, List.idxOf?_nil, beq_self_eq_true, Option.map_none, List.getD_cons_zero, List.getD_cons_succ, ↓wk, ↓wl, nc, evV, ↓reduceIte, Nat.reduceEqDiff, Nat.reduceAdd, Nat.reduceSub, Nat.reduceLeDiff, Nat.reduceLT, Nat.reduceBEq, reduceCtorEq, Int.reduceEq])))
              · refine AW.exit ?_
                refine seqQ.exit ?_
                refine loopQ.exit H ?_ <;> clear H <;> intro H
                try dsimp only at H
                refine blk0.here ?_
                refine seqQ.norm ?_
                refine AW.rseq ?_
                try simp only [↓wk, ↓wl, nc, evV, ↓reduceIte, Nat.reduceEqDiff, Nat.reduceAdd, Nat.reduceSub, Nat.reduceLeDiff, Nat.reduceLT, Nat.reduceBEq, reduceCtorEq, Int.reduceEq]
                refine evTs_ifg H (by rfl) ?_ ?_ <;> clear H <;> intro H
                · try simp only [↓wk, ↓wl, nc, evV, ↓reduceIte, Nat.reduceEqDiff, Nat.reduceAdd, Nat.reduceSub, Nat.reduceLeDiff, Nat.reduceLT, Nat.reduceBEq, reduceCtorEq, Int.reduceEq]
                  refine evTs_pure hFn H (fun _ h => f15_ok h) (by rfl) (by rfl) (by rfl) (by rfl) (fun _ => rfl) ?_ <;> clear H <;> intro r_327 H
                  try simp only [eL, ↓wk, ↓wl, nc, evV, ↓reduceIte, Nat.reduceEqDiff, Nat.reduceAdd, Nat.reduceSub, Nat.reduceLeDiff, Nat.reduceLT, Nat.reduceBEq, reduceCtorEq, Int.reduceEq]
                  refine AW.ret ?_
                  cases H
                  exact hQ _ _ _ _ (.inr rfl) (by simp only [resVs, omap, resV, ↓wk, ↓wl, nc, evV, ↓reduceIte, Nat.reduceEqDiff, Nat.reduceAdd, Nat.reduceSub, Nat.reduceLeDiff, Nat.reduceLT, Nat.reduceBEq, reduceCtorEq, Int.reduceEq]; rfl) (hand_plain (by rfl)) (by rfl)
                · try simp only [↓wk, ↓wl, nc, evV, ↓reduceIte, Nat.reduceEqDiff, Nat.reduceAdd, Nat.reduceSub, Nat.reduceLeDiff, Nat.reduceLT, Nat.reduceBEq, reduceCtorEq, Int.reduceEq]
                  refine evTs_ifg H (by rfl) ?_ ?_ <;> clear H <;> intro H
                  · try simp only [↓wk, ↓wl, nc, evV, ↓reduceIte, Nat.reduceEqDiff, Nat.reduceAdd, Nat.reduceSub, Nat.reduceLeDiff, Nat.reduceLT, Nat.reduceBEq, reduceCtorEq, Int.reduceEq]
                    refine evTs_ifg H (by rfl) ?_ ?_ <;> clear H <;> intro H
                    · try simp only [↓wk, ↓wl, nc, evV, ↓reduceIte, Nat.reduceEqDiff, Nat.reduceAdd, Nat.reduceSub, Nat.reduceLeDiff, Nat.reduceLT, Nat.reduceBEq, reduceCtorEq, Int.reduceEq]
                      refine evTs_ifg H (by rfl) ?_ ?_ <;> clear H <;> intro H
                      · try simp only [↓wk, ↓wl, nc, evV, ↓reduceIte, Nat.reduceEqDiff, Nat.reduceAdd, Nat.reduceSub, Nat.reduceLeDiff, Nat.reduceLT, Nat.reduceBEq, reduceCtorEq, Int.reduceEq]
                        refine evTs_pure hFn H (fun _ h => f15_ok h) (by rfl) (by rfl) (by rfl) (by rfl) (fun _ => rfl) ?_ <;> clear H <;> intro r_328 H
                        try simp only [eL, ↓wk, ↓wl, nc, evV, ↓reduceIte, Nat.reduceEqDiff, Nat.reduceAdd, Nat.reduceSub, Nat.reduceLeDiff, Nat.reduceLT, Nat.reduceBEq, reduceCtorEq, Int.reduceEq]
                        refine AW.ret ?_
                        cases H
                        exact hQ _ _ _ _ (.inr rfl) (by simp only [resVs, omap, resV, ↓wk, ↓wl, nc, evV, ↓reduceIte, Nat.reduceEqDiff, Nat.reduceAdd, Nat.reduceSub, Nat.reduceLeDiff, Nat.reduceLT, Nat.reduceBEq, reduceCtorEq, Int.reduceEq]; rfl) (hand_plain (by rfl)) (by rfl)
                      · try simp only [↓wk, ↓wl, nc, evV, ↓reduceIte, Nat.reduceEqDiff, Nat.reduceAdd, Nat.reduceSub, Nat.reduceLeDiff, Nat.reduceLT, Nat.reduceBEq, reduceCtorEq, Int.reduceEq]
                        refine evTs_ifg H (by rfl) ?_ ?_ <;> clear H <;> intro H
                        · try simp only [↓wk, ↓wl, nc, evV, ↓reduceIte, Nat.reduceEqDiff, Nat.reduceAdd, Nat.reduceSub, Nat.reduceLeDiff, Nat.reduceLT, Nat.reduceBEq, reduceCtorEq, Int.reduceEq]
                          refine evTs_pure hFn H (fun _ h => f15_ok h) (by rfl) (by rfl) (by rfl) (by rfl) (fun _ => rfl) ?_ <;> clear H <;> intro r_329 H
                          try simp only [eL, ↓wk, ↓wl, nc, evV, ↓reduceIte, Nat.reduceEqDiff, Nat.reduceAdd, Nat.reduceSub, Nat.reduceLeDiff, Nat.reduceLT, Nat.reduceBEq, reduceCtorEq, Int.reduceEq]
                          refine AW.ret ?_
                          cases H
                          exact hQ _ _ _ _ (.inr rfl) (by simp only [resVs, omap, resV, ↓wk, ↓wl, nc, evV, ↓reduceIte, Nat.reduceEqDiff, Nat.reduceAdd, Nat.reduceSub, Nat.reduceLeDiff, Nat.reduceLT, Nat.reduceBEq, reduceCtorEq, Int.reduceEq]; rfl) (hand_plain (by rfl)) (by rfl)
                        · try simp only [↓wk, ↓wl, nc, evV, ↓reduceIte, Nat.reduceEqDiff, Nat.reduceAdd, Nat.reduceSub, Nat.reduceLeDiff, Nat.reduceLT, Nat.reduceBEq, reduceCtorEq, Int.reduceEq]
                          refine AW.ret ?_
                          cases H
                          exact hQ _ _ _ _ (.inr rfl) (by simp only [resVs, omap, resV, ↓wk, ↓wl, nc, evV, ↓reduceIte, Nat.reduceEqDiff, Nat.reduceAdd, Nat.reduceSub, Nat.reduceLeDiff, Nat.reduceLT, Nat.reduceBEq, reduceCtorEq, Int.reduceEq]; rfl) (hand_plain (by rfl)) (by rfl)
                    · try simp only [↓wk, ↓wl, nc, evV, ↓reduceIte, Nat.reduceEqDiff, Nat.reduceAdd, Nat.reduceSub, Nat.reduceLeDiff, Nat.reduceLT, Nat.reduceBEq, reduceCtorEq, Int.reduceEq]
                      refine evTs_ifg H (by rfl) ?_ ?_ <;> clear H <;> intro H
                      · try simp only [↓wk, ↓wl, nc, evV, ↓reduceIte, Nat.reduceEqDiff, Nat.reduceAdd, Nat.reduceSub, Nat.reduceLeDiff, Nat.reduceLT, Nat.reduceBEq, reduceCtorEq, Int.reduceEq]
                        refine evTs_ifg H (by rfl) ?_ ?_ <;> clear H <;> intro H
                        · try simp only [↓wk, ↓wl, nc, evV, ↓reduceIte, Nat.reduceEqDiff, Nat.reduceAdd, Nat.reduceSub, Nat.reduceLeDiff, Nat.reduceLT, Nat.reduceBEq, reduceCtorEq, Int.reduceEq]
                          refine evTs_pure hFn H (fun _ h => f15_ok h) (by rfl) (by rfl) (by rfl) (by rfl) (fun _ => rfl) ?_ <;> clear H <;> intro r_330 H
                          try simp only [eL, ↓wk, ↓wl, nc, evV, ↓reduceIte, Nat.reduceEqDiff, Nat.reduceAdd, Nat.reduceSub, Nat.reduceLeDiff, Nat.reduceLT, Nat.reduceBEq, reduceCtorEq, Int.reduceEq]
                          refine AW.ret ?_
                          cases H
                          exact hQ _ _ _ _ (.inr rfl) (by simp only [resVs, omap, resV, ↓wk, ↓wl, nc, evV, ↓reduceIte, Nat.reduceEqDiff, Nat.reduceAdd, Nat.reduceSub, Nat.reduceLeDiff, Nat.reduceLT, Nat.reduceBEq, reduceCtorEq, Int.reduceEq]; rfl) (hand_plain (by rfl)) (by rfl)
                        · try simp only [↓wk, ↓wl, nc, evV, ↓reduceIte, Nat.reduceEqDiff, Nat.reduceAdd, Nat.reduceSub, Nat.reduceLeDiff, Nat.reduceLT, Nat.reduceBEq, reduceCtorEq, Int.reduceEq]
                          refine evTs_ifg H (by rfl) ?_ ?_ <;> clear H <;> intro H
                          · try simp only [↓wk, ↓wl, nc, evV, ↓reduceIte, Nat.reduceEqDiff, Nat.reduceAdd, Nat.reduceSub, Nat.reduceLeDiff, Nat.reduceLT, Nat.reduceBEq, reduceCtorEq, Int.reduceEq]
                            refine evTs_pure hFn H (fun _ h => f15_ok h) (by rfl) (by rfl) (by rfl) (by rfl) (fun _ => rfl) ?_ <;> clear H <;> intro r_331 H
                            try simp only [eL, ↓wk, ↓wl, nc, evV, ↓reduceIte, Nat.reduceEqDiff, Nat.reduceAdd, Nat.reduceSub, Nat.reduceLeDiff, Nat.reduceLT, Nat.reduceBEq, reduceCtorEq, Int.reduceEq]
                            refine AW.ret ?_
                            cases H
                            exact hQ _ _ _ _ (.inr rfl) (by simp only [resVs, omap, resV, ↓wk, ↓wl, nc, evV, ↓reduceIte, Nat.reduceEqDiff, Nat.reduceAdd, Nat.reduceSub, Nat.reduceLeDiff, Nat.reduceLT, Nat.reduceBEq, reduceCtorEq, Int.reduceEq]; rfl) (hand_plain (by rfl)) (by rfl)
                          · try simp only [↓wk, ↓wl, nc, evV, ↓reduceIte, Nat.reduceEqDiff, Nat.reduceAdd, Nat.reduceSub, Nat.reduceLeDiff, Nat.reduceLT, Nat.reduceBEq, reduceCtorEq, Int.reduceEq]
                            refine AW.ret ?_
                            cases H
                            exact hQ _ _ _ _ (.inr rfl) (by simp only [resVs, omap, resV, ↓wk, ↓wl, nc, evV, ↓reduceIte, Nat.reduceEqDiff, Nat.reduceAdd, Nat.reduceSub, Nat.reduceLeDiff, Nat.reduceLT, Nat.reduceBEq, reduceCtorEq, Int.reduceEq]; rfl) (hand_plain (by rfl)) (by rfl)
                      · try simp only [↓wk, ↓wl, nc, evV, ↓reduceIte, Nat.reduceEqDiff, Nat.reduceAdd, Nat.reduceSub, Nat.reduceLeDiff, Nat.reduceLT, Nat.reduceBEq, reduceCtorEq, Int.reduceEq]
                        refine AW.ret ?_
                        cases H
                        exact hQ _ _ _ _ (.inr rfl) (by simp only [resVs, omap, resV, ↓wk, ↓wl, nc, evV, ↓reduceIte, Nat.reduceEqDiff, Nat.reduceAdd, Nat.reduceSub, Nat.reduceLeDiff, Nat.reduceLT, Nat.reduceBEq, reduceCtorEq, Int.reduceEq]; rfl) (hand_plain (by rfl)) (by rfl)
                  · try simp only [↓wk, ↓wl, nc, evV, ↓reduceIte, Nat.reduceEqDiff, Nat.reduceAdd, Nat.reduceSub, Nat.reduceLeDiff, Nat.reduceLT, Nat.reduceBEq, reduceCtorEq, Int.reduceEq]
                    refine AW.ret ?_
                    cases H
                    exact hQ _ _ _ _ (.inr rfl) (by simp only [resVs, omap, resV, ↓wk, ↓wl, nc, evV, ↓reduceIte, Nat.reduceEqDiff, Nat.reduceAdd, Nat.reduceSub, Nat.reduceLeDiff, Nat.reduceLT, Nat.reduceBEq, reduceCtorEq, Int.reduceEq]; rfl) (hand_plain (by rfl)) (by rfl)
            · refine AW.rseq ?_
              try simp only [↓wk, ↓wl, nc, evV, ↓reduceIte, Nat.reduceEqDiff, Nat.reduceAdd, Nat.reduceSub, Nat.reduceLeDiff, Nat.reduceLT, Nat.reduceBEq, reduceCtorEq, Int.reduceEq]
              refine evTs_at (enc := (AV.int .i64)) H (by rfl) (by rfl) ?_ <;> clear H <;> intro x_332 H
              try simp only [↓wk, ↓wl, nc, evV, ↓reduceIte, Nat.reduceEqDiff, Nat.reduceAdd, Nat.reduceSub, Nat.reduceLeDiff, Nat.reduceLT, Nat.reduceBEq, reduceCtorEq, Int.reduceEq]
              refine evTs_ifg H (by rfl) ?_ ?_ <;> clear H <;> intro H
              · try simp only [↓wk, ↓wl, nc, evV, ↓reduceIte, Nat.reduceEqDiff, Nat.reduceAdd, Nat.reduceSub, Nat.reduceLeDiff, Nat.reduceLT, Nat.reduceBEq, reduceCtorEq, Int.reduceEq]
                refine AW.ift (by rfl) ?_
                refine AW.rseq ?_
                try simp only [↓wk, ↓wl, nc, evV, ↓reduceIte, Nat.reduceEqDiff, Nat.reduceAdd, Nat.reduceSub, Nat.reduceLeDiff, Nat.reduceLT, Nat.reduceBEq, reduceCtorEq, Int.reduceEq]
                refine AW.ret ?_
                refine seqQ.ret ?_
                cases H
                exact hQ _ _ _ _ (.inr rfl) (by simp only [resVs, omap, resV, ↓wk, ↓wl, nc, evV, ↓reduceIte, Nat.reduceEqDiff, Nat.reduceAdd, Nat.reduceSub, Nat.reduceLeDiff, Nat.reduceLT, Nat.reduceBEq, reduceCtorEq, Int.reduceEq]; rfl) (hand_plain (by rfl)) (by rfl)
              · try simp only [↓wk, ↓wl, nc, evV, ↓reduceIte, Nat.reduceEqDiff, Nat.reduceAdd, Nat.reduceSub, Nat.reduceLeDiff, Nat.reduceLT, Nat.reduceBEq, reduceCtorEq, Int.reduceEq]
                refine evTs_ifg H (by rfl) ?_ ?_ <;> clear H <;> intro H
                · try simp only [↓wk, ↓wl, nc, evV, ↓reduceIte, Nat.reduceEqDiff, Nat.reduceAdd, Nat.reduceSub, Nat.reduceLeDiff, Nat.reduceLT, Nat.reduceBEq, reduceCtorEq, Int.reduceEq]
                  refine evTs_at (enc := (AV.int .i64)) H (by rfl) (by rfl) ?_ <;> clear H <;> intro x_333 H
                  try simp only [↓wk, ↓wl, nc, evV, ↓reduceIte, Nat.reduceEqDiff, Nat.reduceAdd, Nat.reduceSub, Nat.reduceLeDiff, Nat.reduceLT, Nat.reduceBEq, reduceCtorEq, Int.reduceEq]
                  refine AW.ifc H (by rfl) ?_ ?_ <;> clear H <;> intro H
                  · refine AW.rseq ?_
                    try simp only [↓wk, ↓wl, nc, evV, ↓reduceIte, Nat.reduceEqDiff, Nat.reduceAdd, Nat.reduceSub, Nat.reduceLeDiff, Nat.reduceLT, Nat.reduceBEq, reduceCtorEq, Int.reduceEq]
                    refine AW.ret ?_
                    refine seqQ.ret ?_
                    cases H
                    exact hQ _ _ _ _ (.inr rfl) (by simp only [resVs, omap, resV, ↓wk, ↓wl, nc, evV, ↓reduceIte, Nat.reduceEqDiff, Nat.reduceAdd, Nat.reduceSub, Nat.reduceLeDiff, Nat.reduceLT, Nat.reduceBEq, reduceCtorEq, Int.reduceEq]; rfl) (hand_plain (by rfl)) (by rfl)
                  · refine AW.skip ?_
                    refine seqQ.norm ?_
                    exact hf4_J1 _ _ H ((Le.none [] [7, 8, 9, 10, 12] (by decide) (by simp only [f4_J1, List.length_set, Option.map_some, restrict_eq, renS_nil, renS_cons, renB_els, renB_cel, renB_dead, deep_eq, map_ren_enc, ren_agg', ren_tup', ren_fn', ren_int', ren_bool', ren_str', ren_sl', ren_pro', ren_nilp', ren_nilfn', ren_junk', ren_ptr', ren_row', ren_arow', ren_eptr', vm, List.idxOf?_cons, List.idxOf?_nil, beq_self_eq_true, Option.map_none, List.getD_cons_zero, List.getD_cons_succ, ↓wk, ↓wl, nc, evV, ↓reduceIte, Nat.reduceEqDiff, Nat.reduceAdd, Nat.reduceSub, Nat.reduceLeDiff, Nat.reduceLT, Nat.reduceBEq, reduceCtorEq, Int.reduceEq])))
                · try simp only [↓wk, ↓wl, nc, evV, ↓reduceIte, Nat.reduceEqDiff, Nat.reduceAdd, Nat.reduceSub, Nat.reduceLeDiff, Nat.reduceLT, Nat.reduceBEq, reduceCtorEq, Int.reduceEq]
                  refine AW.iff (by rfl) ?_
                  refine AW.skip ?_
                  refine seqQ.norm ?_
                  exact hf4_J1 _ _ H ((Le.none [] [7, 8, 9, 10, 12] (by decide) (by simp only [f4_J1, List.length_set, Option.map_some, restrict_eq, renS_nil, renS_cons, renB_els, renB_cel, renB_dead, deep_eq, map_ren_enc, ren_agg', ren_tup', ren_fn', ren_int', ren_bool', ren_str', ren_sl', ren_pro', ren_nilp', ren_nilfn', ren_junk', ren_ptr', ren_row', ren_arow', ren_eptr', vm, List.idxOf?_cons, List.idxOf?_nil, beq_self_eq_true, Option.map_none, List.getD_cons_zero, List.getD_cons_succ, ↓wk, ↓wl, nc, evV, ↓reduceIte, Nat.reduceEqDiff, Nat.reduceAdd, Nat.reduceSub, Nat.reduceLeDiff, Nat.reduceLT, Nat.reduceBEq, reduceCtorEq, Int.reduceEq])))
noncomputable def f5_L2 (r_337 : (List Int) × Int) (n_336 : Int) (from_334 : Int) (to_335 : Int) : Lp (Int) ((Unit) ⊕ (Unit)) where
  body := fun v_359 => (if (decide (v_359 < ((r_337.1.length : Nat) : Int))) = true then (at? r_337.1 v_359).bind fun x_370 => (at? r_337.1 (IntKind.i64.wrap ((IntKind.i64.wrap ((IntKind.i64.wrap n_336) - 1)) - v_359))).bind fun x_371 => (if (decide (x_370 ≠ x_371)) = true then (some (.brk (Sum.inr ()))) else (if (decide ((IntKind.i64.wrap ((IntKind.i64.wrap n_336).tdiv 2)) < v_359)) = true then (if (decide ((IntKind.i64.wrap from_334) ≤ (IntKind.i64.wrap to_335))) = true then (at? r_337.1 v_359).bind fun x_372 => (at? r_337.1 (IntKind.i64.wrap (v_359 - 1))).bind fun x_373 => (if (decide (x_372 < x_373)) = true then (some (.brk (Sum.inr ()))) else (if (decide ((IntKind.i64.wrap to_335) ≤ (IntKind.i64.wrap from_334))) = true then (at? r_337.1 v_359).bind fun x_374 => (at? r_337.1 (IntKind.i64.wrap (v_359 - 1))).bind fun x_375 => (if (decide (x_375 < x_374)) = true then (some (.brk (Sum.inr ()))) else (some (.next (IntKind.i64.wrap (v_359 + 1))))) else (some (.next (IntKind.i64.wrap (v_359 + 1)))))) else (if (decide ((IntKind.i64.wrap to_335) ≤ (IntKind.i64.wrap from_334))) = true then (at? r_337.1 v_359).bind fun x_376 => (at? r_337.1 (IntKind.i64.wrap (v_359 - 1))).bind fun x_377 => (if (decide (x_377 < x_376)) = true then (some (.brk (Sum.inr ()))) else (some (.next (IntKind.i64.wrap (v_359 + 1))))) else (some (.next (IntKind.i64.wrap (v_359 + 1)))))) else (some (.next (IntKind.i64.wrap (v_359 + 1)))))) else (some (.brk (Sum.inl ()))))
  cst := fun v_359 => ⟨put (put (put (put (put (put (fun _ => .junk) 57 (.int .i64 v_359)) 56 (.int .i64 ((r_337.1.length : Nat) : Int))) 10 (.sl 0 false (r_337.1.map (AV.int .i64)))) 9 (.int .i64 (IntKind.i64.wrap n_336))) 8 (.int .i64 (IntKind.i64.wrap to_335))) 7 (.int .i64 (IntKind.i64.wrap from_334)), []⟩
noncomputable def f5_J1 (r_337 : (List Int) × Int) (n_336 : Int) (from_334 : Int) (to_335 : Int) : Jn (Unit) (Bool) where
  run := fun _ => ((Lp.run (f5_L2 r_337 n_336 from_334 to_335) 0).bind fun r_ => match r_ with | (Sum.inl _) => (f15).bind fun r_368 => (some r_368) | (Sum.inr _) => (some false))
  cst := fun _ => ⟨put (put (put (put (fun _ => .junk) 10 (.sl 0 false (r_337.1.map (AV.int .i64)))) 9 (.int .i64 (IntKind.i64.wrap n_336))) 8 (.int .i64 (IntKind.i64.wrap to_335))) 7 (.int .i64 (IntKind.i64.wrap from_334)), []⟩
def c5_0 : C := .cond (.t 33) (.seq (.reg [iI 6 (.mv (.c (.bool false)))]) .ret) (.skip)
def c5_1 : C := .cond (.t 35) (.seq (.reg [iI 36 (.call (.c (.fn 15 [])) []), iI 6 (.mv (.t 36))]) .ret) (.skip)
def c5_2 : C := .cond (.t 54) (.seq (.reg [iI 6 (.mv (.c (.bool false)))]) .ret) (.skip)
def c5_3 : C := .cond (.t 111) (.seq (.reg [iI 6 (.mv (.c (.bool false)))]) .ret) (.skip)
def c5_4 : C := .seq (.reg [iI 60 (.mv (.t 10)), iI 61 (.mv (.t 12)), iI 62 (.iaddr 0 (.t 60) (.t 61)), iI 63 (.load 0 (.t 62)), iI 64 (.mv (.t 10)), iI 65 (.mv (.t 9)), iI 66 (.bin .sub (.t 65) (.c (.int .i64 1))), iI 67 (.mv (.t 12)), iI 68 (.bin .sub (.t 66) (.t 67)), iI 69 (.iaddr 0 (.t 64) (.t 68)), iI 70 (.load 0 (.t 69)), iI 71 (.bin .neq (.t 63) (.t 70)), iI 72 (.mv (.t 71)), iG (some 73) 72 false (.mv (.t 12)), iG (some 74) 72 false (.mv (.t 9)), iG (some 75) 72 false (.bin .quo (.t 74) (.c (.int .i64 2))), iG (some 76) 72 false (.bin .gtr (.t 73) (.t 75)), iG (some 77) 72 false (.mv (.t 76)), iG (some 78) 77 true (.mv (.t 7)), iG (some 79) 77 true (.mv (.t 8)), iG (some 80) 77 true (.bin .leq (.t 78) (.t 79)), iG (some 81) 77 true (.mv (.t 80)), iG (some 82) 81 true (.mv (.t 10)), iG (some 83) 81 true (.mv (.t 12)), iG (some 84) 81 true (.iaddr 0 (.t 82) (.t 83)), iG (some 85) 81 true (.load 0 (.t 84)), iG (some 86) 81 true (.mv (.t 10)), iG (some 87) 81 true (.mv (.t 12)), iG (some 88) 81 true (.bin .sub (.t 87) (.c (.int .i64 1))), iG (some 89) 81 true (.iaddr 0 (.t 86) (.t 88)), iG (some 90) 81 true (.load 0 (.t 89)), iG (some 91) 81 true (.bin .lss (.t 85) (.t 90)), iG (some 92) 77 true (.pick (.t 81) (.t 91) (.c (.bool false))), iG (some 93) 77 true (.mv (.t 92)), iG (some 94) 93 false (.mv (.t 7)), iG (some 95) 93 false (.mv (.t 8)), iG (some 96) 93 false (.bin .geq (.t 94) (.t 95)), iG (some 97) 93 false (.mv (.t 96)), iG (some 98) 97 true (.mv (.t 10)), iG (some 99) 97 true (.mv (.t 12)), iG (some 100) 97 true (.iaddr 0 (.t 98) (.t 99)), iG (some 101) 97 true (.load 0 (.t 100)), iG (some 102) 97 true (.mv (.t 10)), iG (some 103) 97 true (.mv (.t 12)), iG (some 104) 97 true (.bin .sub (.t 103) (.c (.int .i64 1))), iG (some 105) 97 true (.iaddr 0 (.t 102) (.t 104)), iG (some 106) 97 true (.load 0 (.t 105)), iG (some 107) 97 true (.bin .gtr (.t 101) (.t 106)), iG (some 108) 93 false (.pick (.t 97) (.t 107) (.c (.bool false))), iG (some 109) 77 true (.pick (.t 93) (.c (.bool true)) (.t 108)), iG (some 110) 72 false (.pick (.t 77) (.t 109) (.c (.bool false))), iI 111 (.pick (.t 72) (.c (.bool true)) (.t 110))]) c5_3
def c5_5 : C := .reg [iI 112 (.bin .add (.t 57) (.c (.int .i64 1))), iI 57 (.mv (.t 112))]
def c5_6 : C := .seq (.block 1 (.seq (.reg [iI 59 (.mv (.t 57)), iI 12 (.mv (.t 59))]) c5_4)) c5_5
def c5_7 : C := .seq (.cond (.t 58) (.skip) (.exit 0)) c5_6
def c5_8 : C := .block 0 (.loop (.seq (.reg [iI 58 (.bin .lss (.t 57) (.t 56))]) c5_7))
def c5_9 : C := .seq (.reg [iI 113 (.call (.c (.fn 15 [])) []), iI 6 (.mv (.t 113))]) .ret
def c5_10 : C := .seq (.seq (.reg [iI 55 (.mv (.t 10)), iI 56 (.len 0 (.t 55)), iI 57 (.mv (.c (.int .i64 0)))]) c5_8) c5_9
def c5_11 : C := .seq (.seq (.reg [iI 37 (.mv (.t 10)), iI 38 (.mv (.t 9)), iI 39 (.bin .quo (.t 38) (.c (.int .i64 2))), iI 40 (.iaddr 0 (.t 37) (.t 39)), iI 41 (.load 0 (.t 40)), iI 42 (.mv (.t 7)), iI 43 (.bin .neq (.t 41) (.t 42)), iI 44 (.mv (.t 43)), iG (some 45) 44 false (.mv (.t 9)), iG (some 46) 44 false (.bin .gtr (.t 45) (.c (.int .i64 2))), iG (some 47) 44 false (.mv (.t 46)), iG (some 48) 47 true (.mv (.t 10)), iG (some 49) 47 true (.iaddr 0 (.t 48) (.c (.int .i64 0))), iG (some 50) 47 true (.load 0 (.t 49)), iG (some 51) 47 true (.mv (.t 8)), iG (some 52) 47 true (.bin .neq (.t 50) (.t 51)), iG (some 53) 44 false (.pick (.t 47) (.t 52) (.c (.bool false))), iI 54 (.pick (.t 44) (.c (.bool true)) (.t 53))]) c5_2) c5_10
def c5_12 : C := .seq (.seq (.reg [iI 34 (.mv (.t 9)), iI 35 (.bin .eql (.t 34) (.c (.int .i64 0)))]) c5_1) c5_11
def c5_13 : C := .seq (.seq (.reg [iI 26 (.mv (.t 11)), iI 27 (.bin .neq (.t 26) (.c (.int .i64 0))), iI 28 (.mv (.t 27)), iG (some 29) 28 false (.mv (.t 10)), iG (some 30) 28 false (.len 0 (.t 29)), iG (some 31) 28 false (.mv (.t 9)), iG (some 32) 28 false (.bin .neq (.t 30) (.t 31)), iI 33 (.pick (.t 28) (.c (.bool true)) (.t 32))]) c5_0) c5_12
def c5_14 : C := .seq (.reg [iI 20 (.mv (.t 7)), iI 21 (.mv (.t 8)), iI 22 (.mv (.t 9)), iI 23 (.call (.c (.fn 13 [])) [(.t 20), (.t 21), (.t 22)]), iI 19 (.mv (.t 23)), iI 24 (.ext (.t 19) 0), iI 25 (.ext (.t 19) 1), iI 10 (.mv (.t 24)), iI 11 (.mv (.t 25))]) c5_13
def c5_15 : C := .seq (.reg [iI 13 (.mv (.t 0)), iI 14 (.cint .i64 (.t 13)), iI 15 (.mv (.t 1)), iI 16 (.cint .i64 (.t 15)), iI 17 (.mv (.t 2)), iI 18 (.cint .i64 (.t 17)), iI 7 (.mv (.t 14)), iI 8 (.mv (.t 16)), iI 9 (.mv (.t 18))]) c5_14
def ir5 : C := .seq (.reg [iI 6 (.mv (.c (.bool false)))]) c5_15
theorem fd5 : fd? Try.prog 5 = some (114, [.slot 6], ir5) := by kernel_rfl
noncomputable def f5 (from_334 : Int) (to_335 : Int) (n_336 : Int) : Option (Bool) :=
  (f13 (IntKind.i64.wrap from_334) (IntKind.i64.wrap to_335) (IntKind.i64.wrap n_336)).bind fun r_337 => (if (decide (r_337.2 ≠ 0)) = true then (some false) else (if (decide (((r_337.1.length : Nat) : Int) ≠ (IntKind.i64.wrap n_336))) = true then (some false) else (if (decide ((IntKind.i64.wrap n_336) = 0)) = true then (f15).bind fun r_339 => (some r_339) else (at? r_337.1 (IntKind.i64.wrap ((IntKind.i64.wrap n_336).tdiv 2))).bind fun x_379 => (if (decide (x_379 ≠ (IntKind.i64.wrap from_334))) = true then (some false) else (if (decide (2 < (IntKind.i64.wrap n_336))) = true then (at? r_337.1 0).bind fun x_380 => (if (decide (x_380 ≠ (IntKind.i64.wrap to_335))) = true then (some false) else ((f5_J1 r_337 n_336 from_334 to_335).run ())) else ((f5_J1 r_337 n_336 from_334 to_335).run ()))))))
theorem f5_ok {from_334 : Int} {to_335 : Int} {n_336 : Int} {r_ : Bool} (H : f5 from_334 to_335 n_336 = some r_) : Pure Try.prog 5 [.int .u16 from_334, .int .u16 to_335, .int .u8 n_336] (· = .bool r_) := by
  refine Pure.walk2 fd5 none (Nat.le_of_ble_eq_true rfl) (by rfl) fun Q hQ => ?_
  simp only [f5] at H
  refine AW.rseq ?_
  try simp only [↓wk, ↓wl, nc, evV, ↓reduceIte, Nat.reduceEqDiff, Nat.reduceAdd, Nat.reduceSub, Nat.reduceLeDiff, Nat.reduceLT, Nat.reduceBEq, reduceCtorEq, Int.reduceEq]
  refine AW.rseq ?_
  try simp only [↓wk, ↓wl, nc, evV, ↓reduceIte, Nat.reduceEqDiff, Nat.reduceAdd, Nat.reduceSub, Nat.reduceLeDiff, Nat.reduceLT, Nat.reduceBEq, reduceCtorEq, Int.reduceEq]
  refine AW.rseq ?_
  try simp only [↓wk, ↓wl, nc, evV, ↓reduceIte, Nat.reduceEqDiff, Nat.reduceAdd, Nat.reduceSub, Nat.reduceLeDiff, Nat.reduceLT, Nat.reduceBEq, reduceCtorEq, Int.reduceEq]
  refine evTs_pure hFn H (fun _ h => f13_im h) (by rfl) (by rfl) (by rfl) (by rfl) (fun _ => rfl) ?_ <;> clear H <;> intro r_337 H
  try simp only [eL, ↓wk, ↓wl, nc, evV, ↓reduceIte, Nat.reduceEqDiff, Nat.reduceAdd, Nat.reduceSub, Nat.reduceLeDiff, Nat.reduceLT, Nat.reduceBEq, reduceCtorEq, Int.reduceEq]
  refine AW.sseq ?_
  refine AW.rseq ?_
  try simp only [↓wk, ↓wl, nc, evV, ↓reduceIte, Nat.reduceEqDiff, Nat.reduceAdd, Nat.reduceSub, Nat.reduceLeDiff, Nat.reduceLT, Nat.reduceBEq, reduceCtorEq, Int.reduceEq]
  refine evTs_ifg H (by rfl) ?_ ?_ <;> clear H <;> intro H
  · try simp only [↓wk, ↓wl, nc, evV, ↓reduceIte, Nat.reduceEqDiff, Nat.reduceAdd, Nat.reduceSub, Nat.reduceLeDiff, Nat.reduceLT, Nat.reduceBEq, reduceCtorEq, Int.reduceEq]
    refine AW.ift (by rfl) ?_
    refine AW.rseq ?_
    try simp only [↓wk, ↓wl, nc, evV, ↓reduceIte, Nat.reduceEqDiff, Nat.reduceAdd, Nat.reduceSub, Nat.reduceLeDiff, Nat.reduceLT, Nat.reduceBEq, reduceCtorEq, Int.reduceEq]
    refine AW.ret ?_
    refine seqQ.ret ?_
    cases H
    exact hQ _ _ _ _ (.inr rfl) (by simp only [resVs, omap, resV, ↓wk, ↓wl, nc, evV, ↓reduceIte, Nat.reduceEqDiff, Nat.reduceAdd, Nat.reduceSub, Nat.reduceLeDiff, Nat.reduceLT, Nat.reduceBEq, reduceCtorEq, Int.reduceEq]; rfl) (hand_plain (by rfl)) (by rfl)
  · try simp only [↓wk, ↓wl, nc, evV, ↓reduceIte, Nat.reduceEqDiff, Nat.reduceAdd, Nat.reduceSub, Nat.reduceLeDiff, Nat.reduceLT, Nat.reduceBEq, reduceCtorEq, Int.reduceEq]
    refine AW.ifc H (by rfl) ?_ ?_ <;> clear H <;> intro H
    · refine AW.rseq ?_
      try simp only [↓wk, ↓wl, nc, evV, ↓reduceIte, Nat.reduceEqDiff, Nat.reduceAdd, Nat.reduceSub, Nat.reduceLeDiff, Nat.reduceLT, Nat.reduceBEq, reduceCtorEq, Int.reduceEq]
      refine AW.ret ?_
      refine seqQ.ret ?_
      cases H
      exact hQ _ _ _ _ (.inr rfl) (by simp only [resVs, omap, resV, ↓wk, ↓wl, nc, evV, ↓reduceIte, Nat.reduceEqDiff, Nat.reduceAdd, Nat.reduceSub, Nat.reduceLeDiff, Nat.reduceLT, Nat.reduceBEq, reduceCtorEq, Int.reduceEq]; rfl) (hand_plain (by rfl)) (by rfl)
    · refine AW.skip ?_
      refine seqQ.norm ?_
      refine AW.sseq ?_
      refine AW.rseq ?_
      try simp only [↓wk, ↓wl, nc, evV, ↓reduceIte, Nat.reduceEqDiff, Nat.reduceAdd, Nat.reduceSub, Nat.reduceLeDiff, Nat.reduceLT, Nat.reduceBEq, reduceCtorEq, Int.reduceEq]
      refine AW.ifc H (by rfl) ?_ ?_ <;> clear H <;> intro H
      · refine AW.rseq ?_
        try simp only [↓wk, ↓wl, nc, evV, ↓reduceIte, Nat.reduceEqDiff, Nat.reduceAdd, Nat.reduceSub, Nat.reduceLeDiff, Nat.reduceLT, Nat.reduceBEq, reduceCtorEq, Int.reduceEq]
        refine evTs_pure hFn H (fun _ h => f15_ok h) (by rfl) (by rfl) (by rfl) (by rfl) (fun _ => rfl) ?_ <;> clear H <;> intro r_339 H
        try simp only [eL, ↓wk, ↓wl, nc, evV, ↓reduceIte, Nat.reduceEqDiff, Nat.reduceAdd, Nat.reduceSub, Nat.reduceLeDiff, Nat.reduceLT, Nat.reduceBEq, reduceCtorEq, Int.reduceEq]
        refine AW.ret ?_
        refine seqQ.ret ?_
        cases H
        exact hQ _ _ _ _ (.inr rfl) (by simp only [resVs, omap, resV, ↓wk, ↓wl, nc, evV, ↓reduceIte, Nat.reduceEqDiff, Nat.reduceAdd, Nat.reduceSub, Nat.reduceLeDiff, Nat.reduceLT, Nat.reduceBEq, reduceCtorEq, Int.reduceEq]; rfl) (hand_plain (by rfl)) (by rfl)
      · refine AW.skip ?_
        refine seqQ.norm ?_
        refine AW.join (f5_J1 r_337 n_336 from_334 to_335) H ?_ fun hf5_J1 => ?_
        · clear H
          rintro _ st0_ H hst_
          simp only [f5_J1] at H hst_
          subst hst_
          refine AW.sseq ?_
          refine AW.rseq ?_
          try simp only [↓wk, ↓wl, nc, evV, ↓reduceIte, Nat.reduceEqDiff, Nat.reduceAdd, Nat.reduceSub, Nat.reduceLeDiff, Nat.reduceLT, Nat.reduceBEq, reduceCtorEq, Int.reduceEq]
          refine AW.bend ?_
          refine AW.iter H ((Le.none [] [7, 8, 9, 10, 56, 57] (by decide) (by simp only [f5_L2, List.length_set, Option.map_some, restrict_eq, renS_nil, renS_cons, renB_els, renB_cel, renB_dead, deep_eq, map_ren_enc, ren_agg', ren_tup', ren_fn', ren_int', ren_bool', ren_str', ren_sl', ren_pro', ren_nilp', ren_nilfn', ren_junk', ren_ptr', ren_row', ren_arow', ren_eptr', vm, List.idxOf?_cons, List.idxOf?_nil, beq_self_eq_true, Option.map_none, List.getD_cons_zero, List.getD_cons_succ, ↓wk, ↓wl, nc, evV, ↓reduceIte, Nat.reduceEqDiff, Nat.reduceAdd, Nat.reduceSub, Nat.reduceLeDiff, Nat.reduceLT, Nat.reduceBEq, reduceCtorEq, Int.reduceEq]))) ?_ <;> clear H
          rintro v_359 x_ st0_ H hst_
          simp only [f5_L2] at H hst_
          subst hst_
          refine AW.rseq ?_
          try simp only [↓wk, ↓wl, nc, evV, ↓reduceIte, Nat.reduceEqDiff, Nat.reduceAdd, Nat.reduceSub, Nat.reduceLeDiff, Nat.reduceLT, Nat.reduceBEq, reduceCtorEq, Int.reduceEq]
          refine AW.sseq ?_
          refine AW.ifc H (by rfl) ?_ ?_ <;> clear H <;> intro H
          · refine AW.skip ?_
            refine seqQ.norm ?_
            refine AW.bseq ?_
            refine AW.rseq ?_
            try simp only [↓wk, ↓wl, nc, evV, ↓reduceIte, Nat.reduceEqDiff, Nat.reduceAdd, Nat.reduceSub, Nat.reduceLeDiff, Nat.reduceLT, Nat.reduceBEq, reduceCtorEq, Int.reduceEq]
            refine AW.rseq ?_
            try simp only [↓wk, ↓wl, nc, evV, ↓reduceIte, Nat.reduceEqDiff, Nat.reduceAdd, Nat.reduceSub, Nat.reduceLeDiff, Nat.reduceLT, Nat.reduceBEq, reduceCtorEq, Int.reduceEq]
            refine evTs_at (enc := (AV.int .i64)) H (by rfl) (by rfl) ?_ <;> clear H <;> intro x_370 H
            try simp only [↓wk, ↓wl, nc, evV, ↓reduceIte, Nat.reduceEqDiff, Nat.reduceAdd, Nat.reduceSub, Nat.reduceLeDiff, Nat.reduceLT, Nat.reduceBEq, reduceCtorEq, Int.reduceEq]
            refine evTs_at (enc := (AV.int .i64)) H (by rfl) (by rfl) ?_ <;> clear H <;> intro x_371 H
            try simp only [↓wk, ↓wl, nc, evV, ↓reduceIte, Nat.reduceEqDiff, Nat.reduceAdd, Nat.reduceSub, Nat.reduceLeDiff, Nat.reduceLT, Nat.reduceBEq, reduceCtorEq, Int.reduceEq]
            refine evTs_ifg H (by rfl) ?_ ?_ <;> clear H <;> intro H
            · try simp only [↓wk, ↓wl, nc, evV, ↓reduceIte, Nat.reduceEqDiff, Nat.reduceAdd, Nat.reduceSub, Nat.reduceLeDiff, Nat.reduceLT, Nat.reduceBEq, reduceCtorEq, Int.reduceEq]
              refine AW.ift (by rfl) ?_
              refine AW.rseq ?_
              try simp only [↓wk, ↓wl, nc, evV, ↓reduceIte, Nat.reduceEqDiff, Nat.reduceAdd, Nat.reduceSub, Nat.reduceLeDiff, Nat.reduceLT, Nat.reduceBEq, reduceCtorEq, Int.reduceEq]
              refine AW.ret ?_
              refine blkQ.ret ?_
              refine loopQ.ret H ?_ <;> clear H <;> intro H
              try dsimp only at H
              refine blk0.ret ?_
              refine seqQ.ret ?_
              cases H
              exact hQ _ _ _ _ (.inr rfl) (by simp only [resVs, omap, resV, ↓wk, ↓wl, nc, evV, ↓reduceIte, Nat.reduceEqDiff, Nat.reduceAdd, Nat.reduceSub, Nat.reduceLeDiff, Nat.reduceLT, Nat.reduceBEq, reduceCtorEq, Int.reduceEq]; rfl) (hand_plain (by rfl)) (by rfl)
            · try simp only [↓wk, ↓wl, nc, evV, ↓reduceIte, Nat.reduceEqDiff, Nat.reduceAdd, Nat.reduceSub, Nat.reduceLeDiff, Nat.reduceLT, Nat.reduceBEq, reduceCtorEq, Int.reduceEq]
              refine evTs_ifg H (by rfl) ?_ ?_ <;> clear H <;> intro H
              · try simp only [↓wk, ↓wl, nc, evV, ↓reduceIte, Nat.reduceEqDiff, Nat.reduceAdd, Nat.reduceSub, Nat.reduceLeDiff, Nat.reduceLT, Nat.reduceBEq, reduceCtorEq, Int.reduceEq]
                refine evTs_ifg H (by rfl) ?_ ?_ <;> clear H <;> intro H
                · try simp only [↓wk, ↓wl, nc, evV, ↓reduceIte, Nat.reduceEqDiff, Nat.reduceAdd, Nat.reduceSub, Nat.reduceLeDiff, Nat.reduceLT, Nat.reduceBEq, reduceCtorEq, Int.reduceEq]
                  refine evTs_at (enc := (AV.int .i64)) H (by rfl) (by rfl) ?_ <;> clear H <;> intro x_372 H
                  try simp only [↓wk, ↓wl, nc, evV, ↓reduceIte, Nat.reduceEqDiff, Nat.reduceAdd, Nat.reduceSub, Nat.reduceLeDiff, Nat.reduceLT, Nat.reduceBEq, reduceCtorEq, Int.reduceEq]
                  refine evTs_at (enc := (AV.int .i64)) H (by rfl) (by rfl) ?_ <;> clear H <;> intro x_373 H
                  try simp only [↓wk, ↓wl, nc, evV, ↓reduceIte, Nat.reduceEqDiff, Nat.reduceAdd, Nat.reduceSub, Nat.reduceLeDiff, Nat.reduceLT, Nat.reduceBEq, reduceCtorEq, Int.reduceEq]
                  refine evTs_ifg H (by rfl) ?_ ?_ <;> clear H <;> intro H
                  · try simp only [↓wk, ↓wl, nc, evV, ↓reduceIte, Nat.reduceEqDiff, Nat.reduceAdd, Nat.reduceSub, Nat.reduceLeDiff, Nat.reduceLT, Nat.reduceBEq, reduceCtorEq, Int.reduceEq]
                    refine AW.ift (by rfl) ?_
                    refine AW.rseq ?_
                    try simp only [↓wk, ↓wl, nc, evV, ↓reduceIte, Nat.reduceEqDiff, Nat.reduceAdd, Nat.reduceSub, Nat.reduceLeDiff, Nat.reduceLT, Nat.reduceBEq, reduceCtorEq, Int.reduceEq]
                    refine AW.ret ?_
                    refine blkQ.ret ?_
                    refine loopQ.ret H ?_ <;> clear H <;> intro H
                    try dsimp only at H
                    refine blk0.ret ?_
                    refine seqQ.ret ?_
                    cases H
                    exact hQ _ _ _ _ (.inr rfl) (by simp only [resVs, omap, resV, ↓wk, ↓wl, nc, evV, ↓reduceIte, Nat.reduceEqDiff, Nat.reduceAdd, Nat.reduceSub, Nat.reduceLeDiff, Nat.reduceLT, Nat.reduceBEq, reduceCtorEq, Int.reduceEq]; rfl) (hand_plain (by rfl)) (by rfl)
                  · try simp only [↓wk, ↓wl, nc, evV, ↓reduceIte, Nat.reduceEqDiff, Nat.reduceAdd, Nat.reduceSub, Nat.reduceLeDiff, Nat.reduceLT, Nat.reduceBEq, reduceCtorEq, Int.reduceEq]
                    refine evTs_ifg H (by rfl) ?_ ?_ <;> clear H <;> intro H
                    · try simp only [↓wk, ↓wl, nc, evV, ↓reduceIte, Nat.reduceEqDiff, Nat.reduceAdd, Nat.reduceSub, Nat.reduceLeDiff, Nat.reduceLT, Nat.reduceBEq, reduceCtorEq, Int.reduceEq]
                      refine evTs_at (enc := (AV.int .i64)) H (by rfl) (by rfl) ?_ <;> clear H <;> intro x_374 H
                      try simp only [↓wk, ↓wl, nc, evV, ↓reduceIte, Nat.reduceEqDiff, Nat.reduceAdd, Nat.reduceSub, Nat.reduceLeDiff, Nat.reduceLT, Nat.reduceBEq, reduceCtorEq, Int.reduceEq]
                      refine evTs_at (enc := (AV.int .i64)) H (by rfl) (by rfl) ?_ <;> clear H <;> intro x_375 H
                      try simp only [↓wk, ↓wl, nc, evV, ↓reduceIte, Nat.reduceEqDiff, Nat.reduceAdd, Nat.reduceSub, Nat.reduceLeDiff, Nat.reduceLT, Nat.reduceBEq, reduceCtorEq, Int.reduceEq]
                      refine AW.ifc H (by rfl) ?_ ?_ <;> clear H <;> intro H
                      · refine AW.rseq ?_
                        try simp only [↓wk, ↓wl, nc, evV, ↓reduceIte, Nat.reduceEqDiff, Nat.reduceAdd, Nat.reduceSub, Nat.reduceLeDiff, Nat.reduceLT, Nat.reduceBEq, reduceCtorEq, Int.reduceEq]
                        refine AW.ret ?_
                        refine blkQ.ret ?_
                        refine loopQ.ret H ?_ <;> clear H <;> intro H
                        try dsimp only at H
                        refine blk0.ret ?_
                        refine seqQ.ret ?_
                        cases H
                        exact hQ _ _ _ _ (.inr rfl) (by simp only [resVs, omap, resV, ↓wk, ↓wl, nc, evV, ↓reduceIte, Nat.reduceEqDiff, Nat.reduceAdd, Nat.reduceSub, Nat.reduceLeDiff, Nat.reduceLT, Nat.reduceBEq, reduceCtorEq, Int.reduceEq]; rfl) (hand_plain (by rfl)) (by rfl)
                      · refine AW.skip ?_
                        refine blkQ.norm ?_
                        refine AW.rend ?_
                        try simp only [↓wk, ↓wl, nc, evV, ↓reduceIte, Nat.reduceEqDiff, Nat.reduceAdd, Nat.reduceSub, Nat.reduceLeDiff, Nat.reduceLT, Nat.reduceBEq, reduceCtorEq, Int.reduceEq]
                        exact loopQ.next H ((Le.none [] [7, 8, 9, 10, 56, 57] (by decide) (by simp only [f5_L2, List.length_set, Option.map_some, restrict_eq, renS_nil, renS_cons, renB_els, renB_cel, renB_dead, deep_eq, map_ren_enc, ren_agg', ren_tup', ren_fn', ren_int', ren_bool', ren_str', ren_sl', ren_pro', ren_nilp', ren_nilfn', ren_junk', ren_ptr', ren_row', ren_arow', ren_eptr', vm, List.idxOf?_cons, List.idxOf?_nil, beq_self_eq_true, Option.map_none, List.getD_cons_zero, List.getD_cons_succ, ↓wk, ↓wl, nc, evV, ↓reduceIte, Nat.reduceEqDiff, Nat.reduceAdd, Nat.reduceSub, Nat.reduceLeDiff, Nat.reduceLT, Nat.reduceBEq, reduceCtorEq, Int.reduceEq])))
                    · try simp only [↓wk, ↓wl, nc, evV, ↓reduceIte, Nat.reduceEqDiff, Nat.reduceAdd, Nat.reduceSub, Nat.reduceLeDiff, Nat.reduceLT, Nat.reduceBEq, reduceCtorEq, Int.reduceEq]
                      refine AW.iff (by rfl) ?_
                      refine AW.skip ?_
                      refine blkQ.norm ?_
                      refine AW.rend ?_
                      try simp only [↓wk, ↓wl, nc, evV, ↓reduceIte, Nat.reduceEqDiff, Nat.reduceAdd, Nat.reduceSub, Nat.reduceLeDiff, Nat.reduceLT, Nat.reduceBEq, reduceCtorEq, Int.reduceEq]
                      exact loopQ.next H ((Le.none [] [7, 8, 9, 10, 56, 57] (by decide) (by simp only [f5_L2, List.length_set, Option.map_some, restrict_eq, renS_nil, renS_cons, renB_els, renB_cel, renB_dead, deep_eq, map_ren_enc, ren_agg', ren_tup', ren_fn', ren_int', ren_bool', ren_str', ren_sl', ren_pro', ren_nilp', ren_nilfn', ren_junk', ren_ptr', ren_row', ren_arow', ren_eptr', vm, List.idxOf?_cons, List.idxOf?_nil, beq_self_eq_true, Option.map_none, List.getD_cons_zero, List.getD_cons_succ, ↓wk, ↓wl, nc, evV, ↓reduceIte, Nat.reduceEqDiff, Nat.reduceAdd, Nat.reduceSub, Nat.reduceLeDiff, Nat.reduceLT, Nat.reduceBEq, reduceCtorEq, Int.reduceEq])))
                · try simp only [↓wk, ↓wl, nc, evV, ↓reduceIte, Nat.reduceEqDiff, Nat.reduceAdd, Nat.reduceSub, Nat.reduceLeDiff, Nat.reduceLT, Nat.reduceBEq, reduceCtorEq, Int.reduceEq]
                  refine evTs_ifg H (by rfl) ?_ ?_ <;> clear H <;> intro H
                  · try simp only [↓wk, ↓wl, nc, evV, ↓reduceIte, Nat.reduceEqDiff, Nat.reduceAdd, Nat.reduceSub, Nat.reduceLeDiff, Nat.reduceLT, Nat.reduceBEq, reduceCtorEq, Int.reduceEq]
                    refine evTs_at (enc := (AV.int .i64)) H (by rfl) (by rfl) ?_ <;> clear H <;> intro x_376 H
                    try simp only [↓wk, ↓wl, nc, evV, ↓reduceIte, Nat.reduceEqDiff, Nat.reduceAdd, Nat.reduceSub, Nat.reduceLeDiff, Nat.reduceLT, Nat.reduceBEq, reduceCtorEq, Int.reduceEq]
                    refine evTs_at (enc := (AV.int .i64)) H (by rfl) (by rfl) ?_ <;> clear H <;> intro x_377 H
                    try simp only [↓wk, ↓wl, nc, evV, ↓reduceIte, Nat.reduceEqDiff, Nat.reduceAdd, Nat.reduceSub, Nat.reduceLeDiff, Nat.reduceLT, Nat.reduceBEq, reduceCtorEq, Int.reduceEq]
                    refine AW.ifc H (by rfl) ?_ ?_ <;> clear H <;> intro H
                    · refine AW.rseq ?_
                      try simp only [↓wk, ↓wl, nc, evV, ↓reduceIte, Nat.reduceEqDiff, Nat.reduceAdd, Nat.reduceSub, Nat.reduceLeDiff, Nat.reduceLT, Nat.reduceBEq, reduceCtorEq, Int.reduceEq]
                      refine AW.ret ?_
                      refine blkQ.ret ?_
                      refine loopQ.ret H ?_ <;> clear H <;> intro H
                      try dsimp only at H
                      refine blk0.ret ?_
                      refine seqQ.ret ?_
                      cases H
                      exact hQ _ _ _ _ (.inr rfl) (by simp only [resVs, omap, resV, ↓wk, ↓wl, nc, evV, ↓reduceIte, Nat.reduceEqDiff, Nat.reduceAdd, Nat.reduceSub, Nat.reduceLeDiff, Nat.reduceLT, Nat.reduceBEq, reduceCtorEq, Int.reduceEq]; rfl) (hand_plain (by rfl)) (by rfl)
                    · refine AW.skip ?_
                      refine blkQ.norm ?_
                      refine AW.rend ?_
                      try simp only [↓wk, ↓wl, nc, evV, ↓reduceIte, Nat.reduceEqDiff, Nat.reduceAdd, Nat.reduceSub, Nat.reduceLeDiff, Nat.reduceLT, Nat.reduceBEq, reduceCtorEq, Int.reduceEq]
                      exact loopQ.next H ((Le.none [] [7, 8, 9, 10, 56, 57] (by decide) (by simp only [f5_L2, List.length_set, Option.map_some, restrict_eq, renS_nil, renS_cons, renB_els, renB_cel, renB_dead, deep_eq, map_ren_enc, ren_agg', ren_tup', ren_fn', ren_int', ren_bool', ren_str', ren_sl', ren_pro', ren_nilp', ren_nilfn', ren_junk', ren_ptr', ren_row', ren_arow', ren_eptr', vm, List.idxOf?_cons, List.idxOf?_nil, beq_self_eq_true, Option.map_none, List.getD_cons_zero, List.getD_cons_succ, ↓wk, ↓wl, nc, evV, ↓reduceIte, Nat.reduceEqDiff, Nat.reduceAdd, Nat.reduceSub, Nat.reduceLeDiff, Nat.reduceLT, Nat.reduceBEq, reduceCtorEq, Int.reduceEq])))
                  · try simp only [↓wk, ↓wl, nc, evV, ↓reduceIte, Nat.reduceEqDiff, Nat.reduceAdd, Nat.reduceSub, Nat.reduceLeDiff, Nat.reduceLT, Nat.reduceBEq, reduceCtorEq, Int.reduceEq]
                    refine AW.iff (by rfl) ?_
                    refine AW.skip ?_
                    refine blkQ.norm ?_
                    refine AW.rend ?_
                    try simp only [↓wk, ↓wl, nc, evV, ↓reduceIte, Nat.reduceEqDiff, Nat.reduceAdd, Nat.reduceSub, Nat.reduceLeDiff, Nat.reduceLT, Nat.reduceBEq, reduceCtorEq, Int.reduceEq]
                    exact loopQ.next H ((Le.none [] [7, 8, 9, 10, 56, 57] (by decide) (by simp only [f5_L2, List.length_set, Option.map_some, restrict_eq, renS_nil, renS_cons, renB_els, renB_cel, renB_dead, deep_eq, map_ren_enc, ren_agg', ren_tup', ren_fn', ren_int', ren_bool', ren_str', ren_sl', ren_pro', ren_nilp', ren_nilfn', ren_junk', ren_ptr', ren_row', ren_arow', ren_eptr', vm, List.idxOf?_cons, List.idxOf?_nil, beq_self_eq_true, Option.map_none, List.getD_cons_zero, List.getD_cons_succ, ↓wk, ↓wl, nc, evV, ↓reduceIte, Nat.reduceEqDiff, Nat.reduceAdd, Nat.reduceSub, Nat.reduceLeDiff, Nat.reduceLT, Nat.reduceBEq, reduceCtorEq, Int.reduceEq])))
              · try simp only [↓wk, ↓wl, nc, evV, ↓reduceIte, Nat.reduceEqDiff, Nat.reduceAdd, Nat.reduceSub, Nat.reduceLeDiff, Nat.reduceLT, Nat.reduceBEq, reduceCtorEq, Int.reduceEq]
                refine AW.iff (by rfl) ?_
                refine AW.skip ?_
                refine blkQ.norm ?_
                refine AW.rend ?_
                try simp only [↓wk, ↓wl, nc, evV, ↓reduceIte, Nat.reduceEqDiff, Nat.reduceAdd, Nat.reduceSub, Nat.reduceLeDiff, Nat.reduceLT, Nat.reduceBEq, reduceCtorEq, Int.reduceEq]
                exact loopQ.next H ((Le.none [] [7, 8, 9, 10, 56, 57] (by decide) (by simp only [f5_L2, List.length_set, Option.map_some, restrict_eq, renS_nil, renS_cons, renB_els, renB_cel, renB_dead, deep_eq, map_ren_enc, ren_agg', ren_tup', ren_fn', ren_int', ren_bool', ren_str', ren_sl', ren_pro', ren_nilp', ren_nilfn', ren_junk', ren_ptr', ren_row', ren_arow', ren_eptr', vm, List.idxOf?_cons, List.idxOf?_nil, beq_self_eq_true, Option.map_none, List.getD_cons_zero, List.getD_cons_succ, ↓wk, ↓wl, nc, evV, ↓reduceIte, Nat.reduceEqDiff, Nat.reduceAdd, Nat.reduceSub, Nat.reduceLeDiff, Nat.reduceLT, Nat.reduceBEq, reduceCtorEq, Int.reduceEq])))
          · refine AW.exit ?_
            refine seqQ.exit ?_
            refine loopQ.exit H ?_ <;> clear H <;> intro H
            try dsimp only at H
            refine blk0.here ?_
            refine seqQ.norm ?_
            refine AW.rseq ?_
            try simp only [↓wk, ↓wl, nc, evV, ↓reduceIte, Nat.reduceEqDiff, Nat.reduceAdd, Nat.reduceSub, Nat.reduceLeDiff, Nat.reduceLT, Nat.reduceBEq, reduceCtorEq, Int.reduceEq]
            refine evTs_pure hFn H (fun _ h => f15_ok h) (by rfl) (by rfl) (by rfl) (by rfl) (fun _ => rfl) ?_ <;> clear H <;> intro r_378 H
            try simp only [eL, ↓wk, ↓wl, nc, evV, ↓reduceIte, Nat.reduceEqDiff, Nat.reduceAdd, Nat.reduceSub, Nat.reduceLeDiff, Nat.reduceLT, Nat.reduceBEq, reduceCtorEq, Int.reduceEq]
            refine AW.ret ?_
            cases H
            exact hQ _ _ _ _ (.inr rfl) (by simp only [resVs, omap, resV, ↓wk, ↓wl, nc, evV, ↓reduceIte, Nat.reduceEqDiff, Nat.reduceAdd, Nat.reduceSub, Nat.reduceLeDiff, Nat.reduceLT, Nat.reduceBEq, reduceCtorEq, Int.reduceEq]; rfl) (hand_plain (by rfl)) (by rfl)
        · refine AW.rseq ?_
          try simp only [↓wk, ↓wl, nc, evV, ↓reduceIte, Nat.reduceEqDiff, Nat.reduceAdd, Nat.reduceSub, Nat.reduceLeDiff, Nat.reduceLT, Nat.reduceBEq, reduceCtorEq, Int.reduceEq]
          refine evTs_at (enc := (AV.int .i64)) H (by rfl) (by rfl) ?_ <;> clear H <;> intro x_379 H
          try simp only [↓wk, ↓wl, nc, evV, ↓reduceIte, Nat.reduceEqDiff, Nat.reduceAdd, Nat.reduceSub, Nat.reduceLeDiff, Nat.reduceLT, Nat.reduceBEq, reduceCtorEq, Int.reduceEq]
          refine evTs_ifg H (by rfl) ?_ ?_ <;> clear H <;> intro H
          · try simp only [↓wk, ↓wl, nc, evV, ↓reduceIte, Nat.reduceEqDiff, Nat.reduceAdd, Nat.reduceSub, Nat.reduceLeDiff, Nat.reduceLT, Nat.reduceBEq, reduceCtorEq, Int.reduceEq]
            refine AW.ift (by rfl) ?_
            refine AW.rseq ?_
            try simp only [↓wk, ↓wl, nc, evV, ↓reduceIte, Nat.reduceEqDiff, Nat.reduceAdd, Nat.reduceSub, Nat.reduceLeDiff, Nat.reduceLT, Nat.reduceBEq, reduceCtorEq, Int.reduceEq]
            refine AW.ret ?_
            refine seqQ.ret ?_
            cases H
            exact hQ _ _ _ _ (.inr rfl) (by simp only [resVs, omap, resV, ↓wk, ↓wl, nc, evV, ↓reduceIte, Nat.reduceEqDiff, Nat.reduceAdd, Nat.reduceSub, Nat.reduceLeDiff, Nat.reduceLT, Nat.reduceBEq, reduceCtorEq, Int.reduceEq]; rfl) (hand_plain (by rfl)) (by rfl)
          · try simp only [↓wk, ↓wl, nc, evV, ↓reduceIte, Nat.reduceEqDiff, Nat.reduceAdd, Nat.reduceSub, Nat.reduceLeDiff, Nat.reduceLT, Nat.reduceBEq, reduceCtorEq, Int.reduceEq]
            refine evTs_ifg H (by rfl) ?_ ?_ <;> clear H <;> intro H
            · try simp only [↓wk, ↓wl, nc, evV, ↓reduceIte, Nat.reduceEqDiff, Nat.reduceAdd, Nat.reduceSub, Nat.reduceLeDiff, Nat.reduceLT, Nat.reduceBEq, reduceCtorEq, Int.reduceEq]
              refine evTs_at (enc := (AV.int .i64)) H (by rfl) (by rfl) ?_ <;> clear H <;> intro x_380 H
              try simp only [↓wk, ↓wl, nc, evV, ↓reduceIte, Nat.reduceEqDiff, Nat.reduceAdd, Nat.reduceSub, Nat.reduceLeDiff, Nat.reduceLT, Nat.reduceBEq, reduceCtorEq, Int.reduceEq]
              refine AW.ifc H (by rfl) ?_ ?_ <;> clear H <;> intro H
              · refine AW.rseq ?_
                try simp only [↓wk, ↓wl, nc, evV, ↓reduceIte, Nat.reduceEqDiff, Nat.reduceAdd, Nat.reduceSub, Nat.reduceLeDiff, Nat.reduceLT, Nat.reduceBEq, reduceCtorEq, Int.reduceEq]
                refine AW.ret ?_
                refine seqQ.ret ?_
                cases H
                exact hQ _ _ _ _ (.inr rfl) (by simp only [resVs, omap, resV, ↓wk, ↓wl, nc, evV, ↓reduceIte, Nat.reduceEqDiff, Nat.reduceAdd, Nat.reduceSub, Nat.reduceLeDiff, Nat.reduceLT, Nat.reduceBEq, reduceCtorEq, Int.reduceEq]; rfl) (hand_plain (by rfl)) (by rfl)
              · refine AW.skip ?_
                refine seqQ.norm ?_
                exact hf5_J1 _ _ H ((Le.none [] [7, 8, 9, 10] (by decide) (by simp only [f5_J1, List.length_set, Option.map_some, restrict_eq, renS_nil, renS_cons, renB_els, renB_cel, renB_dead, deep_eq, map_ren_enc, ren_agg', ren_tup', ren_fn', ren_int', ren_bool', ren_str', ren_sl', ren_pro', ren_nilp', ren_nilfn', ren_junk', ren_ptr', ren_row', ren_arow', ren_eptr', vm, List.idxOf?_cons, List.idxOf?_nil, beq_self_eq_true, Option.map_none, List.getD_cons_zero, List.getD_cons_succ, ↓wk, ↓wl, nc, evV, ↓reduceIte, Nat.reduceEqDiff, Nat.reduceAdd, Nat.reduceSub, Nat.reduceLeDiff, Nat.reduceLT, Nat.reduceBEq, reduceCtorEq, Int.reduceEq])))
            · try simp only [↓wk, ↓wl, nc, evV, ↓reduceIte, Nat.reduceEqDiff, Nat.reduceAdd, Nat.reduceSub, Nat.reduceLeDiff, Nat.reduceLT, Nat.reduceBEq, reduceCtorEq, Int.reduceEq]
              refine AW.iff (by rfl) ?_
              refine AW.skip ?_
              refine seqQ.norm ?_
              exact hf5_J1 _ _ H ((Le.none [] [7, 8, 9, 10] (by decide) (by simp only [f5_J1, List.length_set, Option.map_some, restrict_eq, renS_nil, renS_cons, renB_els, renB_cel, renB_dead, deep_eq, map_ren_enc, ren_agg', ren_tup', ren_fn', ren_int', ren_bool', ren_str', ren_sl', ren_pro', ren_nilp', ren_nilfn', ren_junk', ren_ptr', ren_row', ren_arow', ren_eptr', vm, List.idxOf?_cons, List.idxOf?_nil, beq_self_eq_true, Option.map_none, List.getD_cons_zero, List.getD_cons_succ, ↓wk, ↓wl, nc, evV, ↓reduceIte, Nat.reduceEqDiff, Nat.reduceAdd, Nat.reduceSub, Nat.reduceLeDiff, Nat.reduceLT, Nat.reduceBEq, reduceCtorEq, Int.reduceEq])))
noncomputable def f17_L1 (l_383 : (List ApiGroup)) : Lp (Int) ((Unit) ⊕ (Unit)) where
  body := fun i_389 => (if (decide (i_389 < ((l_383.length : Nat) : Int))) = true then (if (decide (i_389 < 60)) = true then (at? l_383 i_389).bind fun x_392 => (if (decide (40 < ((x_392.fChannels.length : Nat) : Int))) = true then (at? l_383 i_389).bind fun x_393 => (if (decide (((x_393.fChannels.length : Nat) : Int) ≤ 256)) = true then (some (.brk (Sum.inr ()))) else (some (.next (IntKind.i64.wrap (i_389 + 1))))) else (some (.next (IntKind.i64.wrap (i_389 + 1))))) else (some (.brk (Sum.inl ())))) else (some (.brk (Sum.inl ()))))
  cst := fun i_389 => ⟨put (put (fun _ => .junk) 3 (.int .i64 i_389)) 0 (.sl 2 false (l_383.map eApiGroup)), []⟩
def c17_0 : C := .cond (.t 11) (.skip) (.exit 0)
def c17_1 : C := .cond (.t 29) (.seq (.reg [iI 2 (.mv (.c (.bool false)))]) .ret) (.skip)
def c17_2 : C := .reg [iI 12 (.mv (.t 3)), iI 13 (.bin .add (.t 12) (.c (.int .i64 1))), iI 3 (.mv (.t 13))]
def c17_3 : C := .seq (.block 1 (.seq (.reg [iI 14 (.mv (.t 0)), iI 15 (.mv (.t 3)), iI 16 (.iaddr 2 (.t 14) (.t 15)), iI 17 (.faddr 1 (.t 16)), iI 18 (.load 0 (.t 17)), iI 19 (.len 0 (.t 18)), iI 20 (.bin .gtr (.t 19) (.c (.int .i64 40))), iI 21 (.mv (.t 20)), iG (some 22) 21 true (.mv (.t 0)), iG (some 23) 21 true (.mv (.t 3)), iG (some 24) 21 true (.iaddr 2 (.t 22) (.t 23)), iG (some 25) 21 true (.faddr 1 (.t 24)), iG (some 26) 21 true (.load 0 (.t 25)), iG (some 27) 21 true (.len 0 (.t 26)), iG (some 28) 21 true (.bin .leq (.t 27) (.c (.int .i64 256))), iI 29 (.pick (.t 21) (.t 28) (.c (.bool false)))]) c17_1)) c17_2
def c17_4 : C := .block 0 (.loop (.seq (.seq (.reg [iI 4 (.mv (.t 3)), iI 5 (.mv (.t 0)), iI 6 (.len 0 (.t 5)), iI 7 (.bin .lss (.t 4) (.t 6)), iI 8 (.mv (.t 7)), iG (some 9) 8 true (.mv (.t 3)), iG (some 10) 8 true (.bin .lss (.t 9) (.c (.int .i64 60))), iI 11 (.pick (.t 8) (.t 10) (.c (.bool false)))]) c17_0) c17_3))
def c17_5 : C := .seq (.reg [iI 30 (.mv (.t 0)), iI 31 (.len 0 (.t 30)), iI 32 (.bin .leq (.t 31) (.c (.int .i64 60))), iI 2 (.mv (.t 32))]) .ret
def c17_6 : C := .seq (.seq (.reg [iI 3 (.mv (.c (.int .i64 0)))]) c17_4) c17_5
def ir17 : C := .seq (.reg [iI 2 (.mv (.c (.bool false)))]) c17_6
theorem fd17 : fd? Try.prog 17 = some (33, [.slot 2], ir17) := by kernel_rfl
noncomputable def f17 (l_383 : (List ApiGroup)) : Option (Bool) :=
  ((Lp.run (f17_L1 l_383) 0).bind fun r_ => match r_ with | (Sum.inl _) => (some (decide (((l_383.length : Nat) : Int) ≤ 60))) | (Sum.inr _) => (some false))
theorem f17_ok {l_383 : (List ApiGroup)} {r_ : Bool} (H : f17 l_383 = some r_) : Pure Try.prog 17 [.sl 2 false (l_383.map eApiGroup)] (· = .bool r_) := by
  refine Pure.walk2 fd17 none (Nat.le_of_ble_eq_true rfl) (by rfl) fun Q hQ => ?_
  simp only [f17] at H
  refine AW.rseq ?_
  try simp only [↓wk, ↓wl, nc, evV, ↓reduceIte, Nat.reduceEqDiff, Nat.reduceAdd, Nat.reduceSub, Nat.reduceLeDiff, Nat.reduceLT, Nat.reduceBEq, reduceCtorEq, Int.reduceEq]
  refine AW.sseq ?_
  refine AW.rseq ?_
  try simp only [↓wk, ↓wl, nc, evV, ↓reduceIte, Nat.reduceEqDiff, Nat.reduceAdd, Nat.reduceSub, Nat.reduceLeDiff, Nat.reduceLT, Nat.reduceBEq, reduceCtorEq, Int.reduceEq]
  refine AW.bend ?_
  refine AW.iter H ((Le.none [] [0, 3] (by decide) (by simp only [f17_L1, List.length_set, Option.map_some, restrict_eq, renS_nil, renS_cons, renB_els, renB_cel, renB_dead, deep_eq, map_ren_enc, ren_agg', ren_tup', ren_fn', ren_int', ren_bool', ren_str', ren_sl', ren_pro', ren_nilp', ren_nilfn', ren_junk', ren_ptr', ren_row', ren_arow', ren_eptr', vm, List.idxOf?_cons, List.idxOf?_nil, beq_self_eq_true, Option.map_none, List.getD_cons_zero, List.getD_cons_succ, ↓wk, ↓wl, nc, evV, ↓reduceIte, Nat.reduceEqDiff, Nat.reduceAdd, Nat.reduceSub, Nat.reduceLeDiff, Nat.reduceLT, Nat.reduceBEq, reduceCtorEq, Int.reduceEq]))) ?_ <;> clear H
  rintro i_389 x_ st0_ H hst_
  simp only [f17_L1] at H hst_
  subst hst_
  refine AW.sseq ?_
  refine AW.rseq ?_
  try simp only [↓wk, ↓wl, nc, evV, ↓reduceIte, Nat.reduceEqDiff, Nat.reduceAdd, Nat.reduceSub, Nat.reduceLeDiff, Nat.reduceLT, Nat.reduceBEq, reduceCtorEq, Int.reduceEq]
  refine evTs_ifg H (by rfl) ?_ ?_ <;> clear H <;> intro H
  · try simp only [↓wk, ↓wl, nc, evV, ↓reduceIte, Nat.reduceEqDiff, Nat.reduceAdd, Nat.reduceSub, Nat.reduceLeDiff, Nat.reduceLT, Nat.reduceBEq, reduceCtorEq, Int.reduceEq]
    refine AW.ifc H (by rfl) ?_ ?_ <;> clear H <;> intro H
    · refine AW.skip ?_
      refine seqQ.norm ?_
      refine AW.bseq ?_
      refine AW.rseq ?_
      try simp only [↓wk, ↓wl, nc, evV, ↓reduceIte, Nat.reduceEqDiff, Nat.reduceAdd, Nat.reduceSub, Nat.reduceLeDiff, Nat.reduceLT, Nat.reduceBEq, reduceCtorEq, Int.reduceEq]
      refine evTs_at (enc := eApiGroup) H (by rfl) (by rfl) ?_ <;> clear H <;> intro x_392 H
      try simp only [eApiGroup, eL, ↓wk, ↓wl, nc, evV, ↓reduceIte, Nat.reduceEqDiff, Nat.reduceAdd, Nat.reduceSub, Nat.reduceLeDiff, Nat.reduceLT, Nat.reduceBEq, reduceCtorEq, Int.reduceEq]
      refine evTs_ifg H (by rfl) ?_ ?_ <;> clear H <;> intro H
      · try simp only [↓wk, ↓wl, nc, evV, ↓reduceIte, Nat.reduceEqDiff, Nat.reduceAdd, Nat.reduceSub, Nat.reduceLeDiff, Nat.reduceLT, Nat.reduceBEq, reduceCtorEq, Int.reduceEq]
        refine evTs_at (enc := eApiGroup) H (by rfl) (by rfl) ?_ <;> clear H <;> intro x_393 H
        try simp only [eApiGroup, eL, ↓wk, ↓wl, nc, evV, ↓reduceIte, Nat.reduceEqDiff, Nat.reduceAdd, Nat.reduceSub, Nat.reduceLeDiff, Nat.reduceLT, Nat.reduceBEq, reduceCtorEq, Int.reduceEq]
        refine AW.ifc H (by rfl) ?_ ?_ <;> clear H <;> intro H
        · refine AW.rseq ?_
          try simp only [↓wk, ↓wl, nc, evV, ↓reduceIte, Nat.reduceEqDiff, Nat.reduceAdd, Nat.reduceSub, Nat.reduceLeDiff, Nat.reduceLT, Nat.reduceBEq, reduceCtorEq, Int.reduceEq]
          refine AW.ret ?_
          refine blkQ.ret ?_
          refine loopQ.ret H ?_ <;> clear H <;> intro H
          try dsimp only at H
          refine blk0.ret ?_
          refine seqQ.ret ?_
          cases H
          exact hQ _ _ _ _ (.inr rfl) (by simp only [resVs, omap, resV, ↓wk, ↓wl, nc, evV, ↓reduceIte, Nat.reduceEqDiff, Nat.reduceAdd, Nat.reduceSub, Nat.reduceLeDiff, Nat.reduceLT, Nat.reduceBEq, reduceCtorEq, Int.reduceEq]; rfl) (hand_plain (by rfl)) (by rfl)
        · refine AW.skip ?_
          refine blkQ.norm ?_
          refine AW.rend ?_
          try simp only [↓wk, ↓wl, nc, evV, ↓reduceIte, Nat.reduceEqDiff, Nat.reduceAdd, Nat.reduceSub, Nat.reduceLeDiff, Nat.reduceLT, Nat.reduceBEq, reduceCtorEq, Int.reduceEq]
          exact loopQ.next H ((Le.none [] [0, 3] (by decide) (by simp only [f17_L1, List.length_set, Option.map_some, restrict_eq, renS_nil, renS_cons, renB_els, renB_cel, renB_dead, deep_eq, map_ren_enc, ren_agg', ren_tup', ren_fn', ren_int', ren_bool', ren_str', ren_sl', ren_pro', ren_nilp', ren_nilfn', ren_junk', ren_ptr', ren_row', ren_arow', ren_eptr', vm, List.idxOf?_cons, List.idxOf?_nil, beq_self_eq_true, Option.map_none, List.getD_cons_zero, List.getD_cons_succ, ↓wk, ↓wl, nc, evV, ↓reduceIte, Nat.reduceEqDiff, Nat.reduceAdd, Nat.reduceSub, Nat.reduceLeDiff, Nat.reduceLT, Nat.reduceBEq, reduceCtorEq, Int.reduceEq])))
      · try simp only [↓wk, ↓wl, nc, evV, ↓reduceIte, Nat.reduceEqDiff, Nat.reduceAdd, Nat.reduceSub, Nat.reduceLeDiff, Nat.reduceLT, Nat.reduceBEq, reduceCtorEq, Int.reduceEq]
        refine AW.iff (by rfl) ?_
        refine AW.skip ?_
        refine blkQ.norm ?_
        refine AW.rend ?_
        try simp only [↓wk, ↓wl, nc, evV, ↓reduceIte, Nat.reduceEqDiff, Nat.reduceAdd, Nat.reduceSub, Nat.reduceLeDiff, Nat.reduceLT, Nat.reduceBEq, reduceCtorEq, Int.reduceEq]
        exact loopQ.next H ((Le.none [] [0, 3] (by decide) (by simp only [f17_L1, List.length_set, Option.map_some, restrict_eq, renS_nil, renS_cons, renB_els, renB_cel, renB_dead, deep_eq, map_ren_enc, ren_agg', ren_tup', ren_fn', ren_int', ren_bool', ren_str', ren_sl', ren_pro', ren_nilp', ren_nilfn', ren_junk', ren_ptr', ren_row', ren_arow', ren_eptr', vm, List.idxOf?_cons, List.idxOf?_nil, beq_self_eq_true, Option.map_none, List.getD_cons_zero, List.getD_cons_succ, ↓wk, ↓wl, nc, evV, ↓reduceIte, Nat.reduceEqDiff, Nat.reduceAdd, Nat.reduceSub, Nat.reduceLeDiff, Nat.reduceLT, Nat.reduceBEq, reduceCtorEq, Int.reduceEq])))
    · refine AW.exit ?_
      refine seqQ.exit ?_
      refine loopQ.exit H ?_ <;> clear H <;> intro H
      try dsimp only at H
      refine blk0.here ?_
      refine seqQ.norm ?_
      refine AW.rseq ?_
      try simp only [↓wk, ↓wl, nc, evV, ↓reduceIte, Nat.reduceEqDiff, Nat.reduceAdd, Nat.reduceSub, Nat.reduceLeDiff, Nat.reduceLT, Nat.reduceBEq, reduceCtorEq, Int.reduceEq]
      refine AW.ret ?_
      cases H
      exact hQ _ _ _ _ (.inr rfl) (by simp only [resVs, omap, resV, ↓wk, ↓wl, nc, evV, ↓reduceIte, Nat.reduceEqDiff, Nat.reduceAdd, Nat.reduceSub, Nat.reduceLeDiff, Nat.reduceLT, Nat.reduceBEq, reduceCtorEq, Int.reduceEq]; rfl) (hand_plain (by rfl)) (by rfl)
  · try simp only [↓wk, ↓wl, nc, evV, ↓reduceIte, Nat.reduceEqDiff, Nat.reduceAdd, Nat.reduceSub, Nat.reduceLeDiff, Nat.reduceLT, Nat.reduceBEq, reduceCtorEq, Int.reduceEq]
    refine AW.iff (by rfl) ?_
    refine AW.exit ?_
    refine seqQ.exit ?_
    refine loopQ.exit H ?_ <;> clear H <;> intro H
    try dsimp only at H
    refine blk0.here ?_
    refine seqQ.norm ?_
    refine AW.rseq ?_
    try simp only [↓wk, ↓wl, nc, evV, ↓reduceIte, Nat.reduceEqDiff, Nat.reduceAdd, Nat.reduceSub, Nat.reduceLeDiff, Nat.reduceLT, Nat.reduceBEq, reduceCtorEq, Int.reduceEq]
    refine AW.ret ?_
    cases H
    exact hQ _ _ _ _ (.inr rfl) (by simp only [resVs, omap, resV, ↓wk, ↓wl, nc, evV, ↓reduceIte, Nat.reduceEqDiff, Nat.reduceAdd, Nat.reduceSub, Nat.reduceLeDiff, Nat.reduceLT, Nat.reduceBEq, reduceCtorEq, Int.reduceEq]; rfl) (hand_plain (by rfl)) (by rfl)
def c18_0 : C := .seq (.reg [iI 5 (.faddr 0 (.t 2)), iI 6 (.load 0 (.t 5)), iI 7 (.faddr 0 (.t 3)), iI 8 (.load 0 (.t 7)), iI 9 (.bin .eql (.t 6) (.t 8)), iI 10 (.mv (.t 9)), iG (some 11) 10 true (.faddr 1 (.t 2)), iG (some 12) 10 true (.load 0 (.t 11)), iG (some 13) 10 true (.faddr 1 (.t 3)), iG (some 14) 10 true (.load 0 (.t 13)), iG (some 15) 10 true (.call (.c (.fn 16 [])) [(.t 12), (.t 14)]), iI 16 (.pick (.t 10) (.t 15) (.c (.bool false))), iI 4 (.mv (.t 16))]) .ret
def ir18 : C := .seq (.reg [iI 2 (.box (.t 0)), iI 3 (.box (.t 1)), iI 4 (.mv (.c (.bool false)))]) c18_0
theorem fd18 : fd? Try.prog 18 = some (17, [.slot 4], ir18) := by kernel_rfl
noncomputable def f18 (a_403 : ApiGroup) (b_404 : ApiGroup) : Option (Bool) :=
  (if (decide (a_403.fNumber = b_404.fNumber)) = true then (f16 a_403.fChannels b_404.fChannels).bind fun r_405 => (some r_405) else (some false))
theorem f18_ok {a_403 : ApiGroup} {b_404 : ApiGroup} {r_ : Bool} (H : f18 a_403 b_404 = some r_) : Pure Try.prog 18 [.agg [.int .i64 a_403.fNumber, .sl 0 false (a_403.fChannels.map (AV.int .i64))], .agg [.int .i64 b_404.fNumber, .sl 0 false (b_404.fChannels.map (AV.int .i64))]] (· = .bool r_) := by
  refine Pure.walk2 fd18 none (Nat.le_of_ble_eq_true rfl) (by rfl) fun Q hQ => ?_
  simp only [f18] at H
  refine AW.rseq ?_
  try simp only [↓wk, ↓wl, nc, evV, ↓reduceIte, Nat.reduceEqDiff, Nat.reduceAdd, Nat.reduceSub, Nat.reduceLeDiff, Nat.reduceLT, Nat.reduceBEq, reduceCtorEq, Int.reduceEq]
  refine AW.rseq ?_
  try simp only [↓wk, ↓wl, nc, evV, ↓reduceIte, Nat.reduceEqDiff, Nat.reduceAdd, Nat.reduceSub, Nat.reduceLeDiff, Nat.reduceLT, Nat.reduceBEq, reduceCtorEq, Int.reduceEq]
  refine evTs_ifg H (by rfl) ?_ ?_ <;> clear H <;> intro H
  · try simp only [↓wk, ↓wl, nc, evV, ↓reduceIte, Nat.reduceEqDiff, Nat.reduceAdd, Nat.reduceSub, Nat.reduceLeDiff, Nat.reduceLT, Nat.reduceBEq, reduceCtorEq, Int.reduceEq]
    refine evTs_pure hFn H (fun _ h => f16_ok h) (by rfl) (by rfl) (by rfl) (by rfl) (fun _ => rfl) ?_ <;> clear H <;> intro r_405 H
    try simp only [eL, ↓wk, ↓wl, nc, evV, ↓reduceIte, Nat.reduceEqDiff, Nat.reduceAdd, Nat.reduceSub, Nat.reduceLeDiff, Nat.reduceLT, Nat.reduceBEq, reduceCtorEq, Int.reduceEq]
    refine AW.ret ?_
    cases H
    exact hQ _ _ _ _ (.inr rfl) (by simp only [resVs, omap, resV, ↓wk, ↓wl, nc, evV, ↓reduceIte, Nat.reduceEqDiff, Nat.reduceAdd, Nat.reduceSub, Nat.reduceLeDiff, Nat.reduceLT, Nat.reduceBEq, reduceCtorEq, Int.reduceEq]; rfl) (hand_plain (by rfl)) (by rfl)
  · try simp only [↓wk, ↓wl, nc, evV, ↓reduceIte, Nat.reduceEqDiff, Nat.reduceAdd, Nat.reduceSub, Nat.reduceLeDiff, Nat.reduceLT, Nat.reduceBEq, reduceCtorEq, Int.reduceEq]
    refine AW.ret ?_
    cases H
    exact hQ _ _ _ _ (.inr rfl) (by simp only [resVs, omap, resV, ↓wk, ↓wl, nc, evV, ↓reduceIte, Nat.reduceEqDiff, Nat.reduceAdd, Nat.reduceSub, Nat.reduceLeDiff, Nat.reduceLT, Nat.reduceBEq, reduceCtorEq, Int.reduceEq]; rfl) (hand_plain (by rfl)) (by rfl)
noncomputable def f43_L1 (a_409 : (List Int)) (b_410 : (List Int)) : Lp (Int) ((Unit) ⊕ (Unit)) where
  body := fun i_416 => (if (decide (i_416 < ((a_409.length : Nat) : Int))) = true then (at? a_409 i_416).bind fun x_419 => (at? b_410 i_416).bind fun x_420 => (if (decide (x_419 ≠ x_420)) = true then (some (.brk (Sum.inr ()))) else (some (.next (IntKind.i64.wrap (i_416 + 1))))) else (some (.brk (Sum.inl ()))))
  cst := fun i_416 => ⟨put (put (put (fun _ => .junk) 5 (.int .i64 i_416)) 1 (.sl 0 false (b_410.map (AV.int .i64)))) 0 (.sl 0 false (a_409.map (AV.int .i64))), []⟩
def c43_0 : C := .cond (.t 10) (.seq (.reg [iI 4 (.mv (.c (.bool false)))]) .ret) (.skip)
def c43_1 : C := .cond (.t 14) (.skip) (.exit 0)
def c43_2 : C := .cond (.t 25) (.seq (.reg [iI 4 (.mv (.c (.bool false)))]) .ret) (.skip)
def c43_3 : C := .reg [iI 15 (.mv (.t 5)), iI 16 (.bin .add (.t 15) (.c (.int .i64 1))), iI 5 (.mv (.t 16))]
end Go.Proofs.Ytccipmhffapcmaa
