import Derived.Test.YtccipmhffapcmaaAb32
import Derived.Test.YtccipmhffapcmaaProg
import Derived.KernelRfl
namespace Go.Proofs.Ytccipmhffapcmaa
open Go Go.Ab

set_option maxHeartbeats 1000000
set_option linter.unusedSimpArgs false
set_option linter.unusedVariables false
structure ApiGroup where
  fNumber : Int
  fChannels : (List Int)
def eApiGroup (x : ApiGroup) : AV := .agg [.int .i64 x.fNumber, .sl 0 false (x.fChannels.map (AV.int .i64))]
instance : IsEnc 2 eApiGroup := ⟨fun _ => rfl, fun _ => rfl, fun _ => rfl⟩
def c60_0 : C := .seq (.reg [iI 3 (.mv (.t 0)), iI 4 (.bin .geq (.t 3) (.c (.int .i64 0))), iI 5 (.mv (.t 4)), iG (some 6) 5 true (.mv (.t 0)), iG (some 7) 5 true (.bin .leq (.t 6) (.c (.int .i64 65535))), iI 8 (.pick (.t 5) (.t 7) (.c (.bool false))), iI 2 (.mv (.t 8))]) .ret
def ir60 : C := .seq (.reg [iI 2 (.mv (.c (.bool false)))]) c60_0
theorem fd60 : fd? Try.prog 60 = some (9, [.slot 2], ir60) := by kernel_rfl
noncomputable def f60 (v_48 : Int) : Option (Bool) :=
  (if (decide (0 ≤ v_48)) = true then (some (decide (v_48 ≤ 65535))) else (some false))
theorem f60_ok {v_48 : Int} {r_ : Bool} (H : f60 v_48 = some r_) : Pure Try.prog 60 [.int .i64 v_48] (· = .bool r_) := by
  refine Pure.walk2 fd60 none (Nat.le_of_ble_eq_true rfl) (by rfl) fun Q hQ => ?_
  simp only [f60] at H
  refine AW.rseq ?_
  try simp only [wk, wl, nc, evV, and_self, Option.map_some, reduceIte, Nat.reduceEqDiff, Nat.reduceAdd, Nat.reduceSub, Nat.reduceLeDiff, Nat.reduceBEq, Nat.reduceMul, Nat.reduceLT, Bool.and_self, Bool.true_and, Bool.not_true, Bool.not_false, Bool.false_eq_true, ne_eq, not_false_eq_true, reduceCtorEq, Int.reduceEq, List.length_map]
  refine AW.rseq ?_
  try simp only [wk, wl, nc, evV, and_self, Option.map_some, reduceIte, Nat.reduceEqDiff, Nat.reduceAdd, Nat.reduceSub, Nat.reduceLeDiff, Nat.reduceBEq, Nat.reduceMul, Nat.reduceLT, Bool.and_self, Bool.true_and, Bool.not_true, Bool.not_false, Bool.false_eq_true, ne_eq, not_false_eq_true, reduceCtorEq, Int.reduceEq, List.length_map]
  refine evTs_ifg H (by rfl) ?_ ?_ <;> clear H <;> intro H
  · try simp only [wk, wl, nc, evV, and_self, Option.map_some, reduceIte, Nat.reduceEqDiff, Nat.reduceAdd, Nat.reduceSub, Nat.reduceLeDiff, Nat.reduceBEq, Nat.reduceMul, Nat.reduceLT, Bool.and_self, Bool.true_and, Bool.not_true, Bool.not_false, Bool.false_eq_true, ne_eq, not_false_eq_true, reduceCtorEq, Int.reduceEq, List.length_map]
    refine AW.ret ?_
    cases H
    exact hQ _ _ _ _ (.inr rfl) (by simp only [resVs, omap, resV, wk, wl, nc, evV, and_self, Option.map_some, reduceIte, Nat.reduceEqDiff, Nat.reduceAdd, Nat.reduceSub, Nat.reduceLeDiff, Nat.reduceBEq, Nat.reduceMul, Nat.reduceLT, Bool.and_self, Bool.true_and, Bool.not_true, Bool.not_false, Bool.false_eq_true, ne_eq, not_false_eq_true, reduceCtorEq, Int.reduceEq, List.length_map]; rfl) (hand_plain (by rfl)) (by rfl)
  · try simp only [wk, wl, nc, evV, and_self, Option.map_some, reduceIte, Nat.reduceEqDiff, Nat.reduceAdd, Nat.reduceSub, Nat.reduceLeDiff, Nat.reduceBEq, Nat.reduceMul, Nat.reduceLT, Bool.and_self, Bool.true_and, Bool.not_true, Bool.not_false, Bool.false_eq_true, ne_eq, not_false_eq_true, reduceCtorEq, Int.reduceEq, List.length_map]
    refine AW.ret ?_
    cases H
    exact hQ _ _ _ _ (.inr rfl) (by simp only [resVs, omap, resV, wk, wl, nc, evV, and_self, Option.map_some, reduceIte, Nat.reduceEqDiff, Nat.reduceAdd, Nat.reduceSub, Nat.reduceLeDiff, Nat.reduceBEq, Nat.reduceMul, Nat.reduceLT, Bool.and_self, Bool.true_and, Bool.not_true, Bool.not_false, Bool.false_eq_true, ne_eq, not_false_eq_true, reduceCtorEq, Int.reduceEq, List.length_map]; rfl) (hand_plain (by rfl)) (by rfl)
def c39_0 : C := .seq (.reg [iI 3 (.mv (.t 0)), iI 2 (.mv (.t 3))]) .ret
def ir39 : C := .seq (.reg [iI 2 (.mv (.c (.int .i64 0)))]) c39_0
theorem fd39 : fd? Try.prog 39 = some (4, [.slot 2], ir39) := by kernel_rfl
noncomputable def f39 (i_51 : Int) : Option (Int) :=
  (some i_51)
theorem f39_ok {i_51 : Int} {r_ : Int} (H : f39 i_51 = some r_) : Pure Try.prog 39 [.int .i64 i_51] (· = .int .i64 r_) := by
  refine Pure.walk2 fd39 none (Nat.le_of_ble_eq_true rfl) (by rfl) fun Q hQ => ?_
  simp only [f39] at H
  refine AW.rseq ?_
  try simp only [wk, wl, nc, evV, and_self, Option.map_some, reduceIte, Nat.reduceEqDiff, Nat.reduceAdd, Nat.reduceSub, Nat.reduceLeDiff, Nat.reduceBEq, Nat.reduceMul, Nat.reduceLT, Bool.and_self, Bool.true_and, Bool.not_true, Bool.not_false, Bool.false_eq_true, ne_eq, not_false_eq_true, reduceCtorEq, Int.reduceEq, List.length_map]
  refine AW.rseq ?_
  try simp only [wk, wl, nc, evV, and_self, Option.map_some, reduceIte, Nat.reduceEqDiff, Nat.reduceAdd, Nat.reduceSub, Nat.reduceLeDiff, Nat.reduceBEq, Nat.reduceMul, Nat.reduceLT, Bool.and_self, Bool.true_and, Bool.not_true, Bool.not_false, Bool.false_eq_true, ne_eq, not_false_eq_true, reduceCtorEq, Int.reduceEq, List.length_map]
  refine AW.ret ?_
  cases H
  exact hQ _ _ _ _ (.inr rfl) (by simp only [resVs, omap, resV, wk, wl, nc, evV, and_self, Option.map_some, reduceIte, Nat.reduceEqDiff, Nat.reduceAdd, Nat.reduceSub, Nat.reduceLeDiff, Nat.reduceBEq, Nat.reduceMul, Nat.reduceLT, Bool.and_self, Bool.true_and, Bool.not_true, Bool.not_false, Bool.false_eq_true, ne_eq, not_false_eq_true, reduceCtorEq, Int.reduceEq, List.length_map]; rfl) (hand_plain (by rfl)) (by rfl)
noncomputable def f38_39_L1 (from_44 : Int) (to_45 : Int) (n_46 : Int) (whole_47 : Int) : Lp (Int × (List Int)) ((List Int)) where
  body := fun (v_66, out_67) => (if (decide (v_66 < n_46)) = true then (if (decide (0 < whole_47)) = true then (f39 v_66).bind fun r_73 => (nz? (IntKind.i64.wrap (2 * whole_47))).bind fun _ => (nz? (IntKind.i64.wrap (2 * whole_47))).bind fun _ => (if (decide (((IntKind.i64.wrap ((IntKind.i64.wrap ((IntKind.i64.wrap (2 * (IntKind.i64.wrap (to_45 - from_44)))) * r_73)) + whole_47)).tmod (IntKind.i64.wrap (2 * whole_47))) < 0)) = true then (app? 8 out_67 ([(IntKind.i64.wrap ((IntKind.i64.wrap (from_44 + (IntKind.i64.wrap ((IntKind.i64.wrap ((IntKind.i64.wrap ((IntKind.i64.wrap (2 * (IntKind.i64.wrap (to_45 - from_44)))) * r_73)) + whole_47)).tdiv (IntKind.i64.wrap (2 * whole_47)))))) - 1))])).bind fun out_74 => (some (.next ((IntKind.i64.wrap (v_66 + 1)), out_74))) else (app? 8 out_67 ([(IntKind.i64.wrap (from_44 + (IntKind.i64.wrap ((IntKind.i64.wrap ((IntKind.i64.wrap ((IntKind.i64.wrap (2 * (IntKind.i64.wrap (to_45 - from_44)))) * r_73)) + whole_47)).tdiv (IntKind.i64.wrap (2 * whole_47))))))])).bind fun out_75 => (some (.next ((IntKind.i64.wrap (v_66 + 1)), out_75)))) else (app? 8 out_67 ([from_44])).bind fun out_76 => (some (.next ((IntKind.i64.wrap (v_66 + 1)), out_76)))) else (some (.brk out_67)))
  cst := fun (v_66, out_67) => ⟨put (put (put (put (put (put (put (fun _ => .junk) 36 (.int .i64 v_66)) 35 (.int .i64 n_46)) 13 (.row 0 0 0 out_67.length)) 4 (.fn 39 [])) 3 (.int .i64 whole_47)) 1 (.int .i64 to_45)) 0 (.int .i64 from_44), [.els 0 (out_67.map (AV.int .i64))]⟩
def c38_0 : C := .cond (.t 34) (.seq (.reg [iI 10 (.mv (.c (.sl 0 true []))), iI 11 (.mv (.c (.int .i64 2)))]) .ret) (.skip)
def c38_1 : C := .cond (.t 62) (.reg [iI 63 (.mv (.t 15)), iI 64 (.bin .sub (.t 63) (.c (.int .i64 1))), iI 15 (.mv (.t 64))]) (.skip)
def c38_2 : C := .seq (.reg [iI 58 (.mv (.t 16)), iI 59 (.mv (.t 3)), iI 60 (.bin .mul (.c (.int .i64 2)) (.t 59)), iI 61 (.bin .rem (.t 58) (.t 60)), iI 62 (.bin .lss (.t 61) (.c (.int .i64 0)))]) c38_1
def c38_3 : C := .seq (.reg [iI 52 (.mv (.t 15)), iI 53 (.mv (.t 16)), iI 54 (.mv (.t 3)), iI 55 (.bin .mul (.c (.int .i64 2)) (.t 54)), iI 56 (.bin .quo (.t 53) (.t 55)), iI 57 (.bin .add (.t 52) (.t 56)), iI 15 (.mv (.t 57))]) c38_2
def c38_4 : C := .cond (.t 41) (.seq (.reg [iI 42 (.mv (.t 1)), iI 43 (.mv (.t 0)), iI 44 (.bin .sub (.t 42) (.t 43)), iI 45 (.bin .mul (.c (.int .i64 2)) (.t 44)), iI 46 (.mv (.t 4)), iI 47 (.mv (.t 14)), iI 48 (.call (.t 46) [(.t 47)]), iI 49 (.bin .mul (.t 45) (.t 48)), iI 50 (.mv (.t 3)), iI 51 (.bin .add (.t 49) (.t 50)), iI 16 (.mv (.t 51))]) c38_3) (.skip)
def c38_5 : C := .reg [iI 65 (.mv (.t 13)), iI 66 (.mv (.t 15)), iI 67 (.mkslp 0 1 (.int .i64 0) [(0, (.t 66))]), iI 68 (.append 0 8 (.t 65) (.t 67)), iI 13 (.mv (.t 68))]
def c38_6 : C := .seq (.seq (.reg [iI 40 (.mv (.t 3)), iI 41 (.bin .gtr (.t 40) (.c (.int .i64 0)))]) c38_4) c38_5
def c38_7 : C := .seq (.reg [iI 39 (.mv (.t 0)), iI 15 (.mv (.t 39))]) c38_6
def c38_8 : C := .reg [iI 69 (.bin .add (.t 36) (.c (.int .i64 1))), iI 36 (.mv (.t 69))]
def c38_9 : C := .seq (.block 1 (.seq (.reg [iI 38 (.mv (.t 36)), iI 14 (.mv (.t 38))]) c38_7)) c38_8
def c38_10 : C := .seq (.cond (.t 37) (.skip) (.exit 0)) c38_9
def c38_11 : C := .block 0 (.loop (.seq (.reg [iI 37 (.bin .lss (.t 36) (.t 35))]) c38_10))
def c38_12 : C := .seq (.reg [iI 70 (.mv (.t 13)), iI 10 (.mv (.t 70)), iI 11 (.mv (.c (.int .i64 0)))]) .ret
def c38_13 : C := .seq (.seq (.reg [iI 35 (.mv (.t 2)), iI 36 (.mv (.c (.int .i64 0)))]) c38_11) c38_12
def c38_14 : C := .seq (.reg [iI 13 (.mv (.c (.sl 0 true [])))]) c38_13
def c38_15 : C := .seq (.seq (.reg [iI 17 (.mv (.t 12)), iI 18 (.mv (.t 0)), iI 19 (.call (.t 17) [(.t 18)]), iI 20 (.un .not (.t 19)), iI 21 (.mv (.t 20)), iG (some 22) 21 false (.mv (.t 12)), iG (some 23) 21 false (.mv (.t 1)), iG (some 24) 21 false (.call (.t 22) [(.t 23)]), iG (some 25) 21 false (.un .not (.t 24)), iI 26 (.pick (.t 21) (.c (.bool true)) (.t 25)), iI 27 (.mv (.t 26)), iG (some 28) 27 false (.mv (.t 2)), iG (some 29) 27 false (.bin .lss (.t 28) (.c (.int .i64 0))), iI 30 (.pick (.t 27) (.c (.bool true)) (.t 29)), iI 31 (.mv (.t 30)), iG (some 32) 31 false (.mv (.t 2)), iG (some 33) 31 false (.bin .gtr (.t 32) (.c (.int .i64 256))), iI 34 (.pick (.t 31) (.c (.bool true)) (.t 33))]) c38_0) c38_14
def c38_16 : C := .seq (.reg [iI 12 (.mv (.c (.fn 60 [])))]) c38_15
def ir38 : C := .seq (.reg [iI 10 (.mv (.c (.sl 0 true []))), iI 11 (.mv (.c (.int .i64 0)))]) c38_16
theorem fd38 : fd? Try.prog 38 = some (71, [.slot 10, .slot 11], ir38) := by kernel_rfl
noncomputable def f38_39 (from_44 : Int) (to_45 : Int) (n_46 : Int) (whole_47 : Int) : Option ((List Int) × Int) :=
  (f60 from_44).bind fun r_49 => (if (!r_49) = true then (some ([], 2)) else (f60 to_45).bind fun r_50 => (if (!r_50) = true then (some ([], 2)) else (if (decide (n_46 < 0)) = true then (some ([], 2)) else (if (decide (256 < n_46)) = true then (some ([], 2)) else (Lp.run (f38_39_L1 from_44 to_45 n_46 whole_47) (0, [])).bind fun out_72 => (some (out_72, 0))))))
theorem f38_39_ok {from_44 : Int} {to_45 : Int} {n_46 : Int} {whole_47 : Int} {r_ : (List Int) × Int} (H : f38_39 from_44 to_45 n_46 whole_47 = some r_) : Pure Try.prog 38 [.int .i64 from_44, .int .i64 to_45, .int .i64 n_46, .int .i64 whole_47, .fn 39 []] (· = .tup [.fr 0 (r_.1.map (AV.int .i64)), .int .i64 r_.2]) := by
  refine Pure.walk2 fd38 (some 0) (Nat.le_of_ble_eq_true rfl) (by rfl) fun Q hQ => ?_
  simp only [f38_39] at H
  refine AW.rseq ?_
  try simp only [wk, wl, nc, evV, and_self, Option.map_some, reduceIte, Nat.reduceEqDiff, Nat.reduceAdd, Nat.reduceSub, Nat.reduceLeDiff, Nat.reduceBEq, Nat.reduceMul, Nat.reduceLT, Bool.and_self, Bool.true_and, Bool.not_true, Bool.not_false, Bool.false_eq_true, ne_eq, not_false_eq_true, reduceCtorEq, Int.reduceEq, List.length_map]
  refine AW.rseq ?_
  try simp only [wk, wl, nc, evV, and_self, Option.map_some, reduceIte, Nat.reduceEqDiff, Nat.reduceAdd, Nat.reduceSub, Nat.reduceLeDiff, Nat.reduceBEq, Nat.reduceMul, Nat.reduceLT, Bool.and_self, Bool.true_and, Bool.not_true, Bool.not_false, Bool.false_eq_true, ne_eq, not_false_eq_true, reduceCtorEq, Int.reduceEq, List.length_map]
  refine AW.sseq ?_
  refine AW.rseq ?_
  try simp only [wk, wl, nc, evV, and_self, Option.map_some, reduceIte, Nat.reduceEqDiff, Nat.reduceAdd, Nat.reduceSub, Nat.reduceLeDiff, Nat.reduceBEq, Nat.reduceMul, Nat.reduceLT, Bool.and_self, Bool.true_and, Bool.not_true, Bool.not_false, Bool.false_eq_true, ne_eq, not_false_eq_true, reduceCtorEq, Int.reduceEq, List.length_map]
  refine evTs_pure hFn H (fun _ h => f60_ok h) (by rfl) (by rfl) (by rfl) (by rfl) (fun _ => rfl) ?_ <;> clear H <;> intro r_49 H
  try simp only [eL, wk, wl, nc, evV, and_self, Option.map_some, reduceIte, Nat.reduceEqDiff, Nat.reduceAdd, Nat.reduceSub, Nat.reduceLeDiff, Nat.reduceBEq, Nat.reduceMul, Nat.reduceLT, Bool.and_self, Bool.true_and, Bool.not_true, Bool.not_false, Bool.false_eq_true, ne_eq, not_false_eq_true, reduceCtorEq, Int.reduceEq, List.length_map]
  refine evTs_ifg H (by rfl) ?_ ?_ <;> clear H <;> intro H
  · try simp only [wk, wl, nc, evV, and_self, Option.map_some, reduceIte, Nat.reduceEqDiff, Nat.reduceAdd, Nat.reduceSub, Nat.reduceLeDiff, Nat.reduceBEq, Nat.reduceMul, Nat.reduceLT, Bool.and_self, Bool.true_and, Bool.not_true, Bool.not_false, Bool.false_eq_true, ne_eq, not_false_eq_true, reduceCtorEq, Int.reduceEq, List.length_map]
    refine AW.ift (by rfl) ?_
    refine AW.rseq ?_
    try simp only [wk, wl, nc, evV, and_self, Option.map_some, reduceIte, Nat.reduceEqDiff, Nat.reduceAdd, Nat.reduceSub, Nat.reduceLeDiff, Nat.reduceBEq, Nat.reduceMul, Nat.reduceLT, Bool.and_self, Bool.true_and, Bool.not_true, Bool.not_false, Bool.false_eq_true, ne_eq, not_false_eq_true, reduceCtorEq, Int.reduceEq, List.length_map]
    refine AW.ret ?_
    refine seqQ.ret ?_
    cases H
    exact hQ _ _ _ _ (.inr rfl) (by simp only [resVs, omap, resV, wk, wl, nc, evV, and_self, Option.map_some, reduceIte, Nat.reduceEqDiff, Nat.reduceAdd, Nat.reduceSub, Nat.reduceLeDiff, Nat.reduceBEq, Nat.reduceMul, Nat.reduceLT, Bool.and_self, Bool.true_and, Bool.not_true, Bool.not_false, Bool.false_eq_true, ne_eq, not_false_eq_true, reduceCtorEq, Int.reduceEq, List.length_map]; rfl) (hand_k0 (by rfl) (by rfl)) (by rfl)
  · try simp only [wk, wl, nc, evV, and_self, Option.map_some, reduceIte, Nat.reduceEqDiff, Nat.reduceAdd, Nat.reduceSub, Nat.reduceLeDiff, Nat.reduceBEq, Nat.reduceMul, Nat.reduceLT, Bool.and_self, Bool.true_and, Bool.not_true, Bool.not_false, Bool.false_eq_true, ne_eq, not_false_eq_true, reduceCtorEq, Int.reduceEq, List.length_map]
    refine evTs_pure hFn H (fun _ h => f60_ok h) (by rfl) (by rfl) (by rfl) (by rfl) (fun _ => rfl) ?_ <;> clear H <;> intro r_50 H
    try simp only [eL, wk, wl, nc, evV, and_self, Option.map_some, reduceIte, Nat.reduceEqDiff, Nat.reduceAdd, Nat.reduceSub, Nat.reduceLeDiff, Nat.reduceBEq, Nat.reduceMul, Nat.reduceLT, Bool.and_self, Bool.true_and, Bool.not_true, Bool.not_false, Bool.false_eq_true, ne_eq, not_false_eq_true, reduceCtorEq, Int.reduceEq, List.length_map]
    refine evTs_ifg H (by rfl) ?_ ?_ <;> clear H <;> intro H
    · try simp only [wk, wl, nc, evV, and_self, Option.map_some, reduceIte, Nat.reduceEqDiff, Nat.reduceAdd, Nat.reduceSub, Nat.reduceLeDiff, Nat.reduceBEq, Nat.reduceMul, Nat.reduceLT, Bool.and_self, Bool.true_and, Bool.not_true, Bool.not_false, Bool.false_eq_true, ne_eq, not_false_eq_true, reduceCtorEq, Int.reduceEq, List.length_map]
      refine AW.ift (by rfl) ?_
      refine AW.rseq ?_
      try simp only [wk, wl, nc, evV, and_self, Option.map_some, reduceIte, Nat.reduceEqDiff, Nat.reduceAdd, Nat.reduceSub, Nat.reduceLeDiff, Nat.reduceBEq, Nat.reduceMul, Nat.reduceLT, Bool.and_self, Bool.true_and, Bool.not_true, Bool.not_false, Bool.false_eq_true, ne_eq, not_false_eq_true, reduceCtorEq, Int.reduceEq, List.length_map]
      refine AW.ret ?_
      refine seqQ.ret ?_
      cases H
      exact hQ _ _ _ _ (.inr rfl) (by simp only [resVs, omap, resV, wk, wl, nc, evV, and_self, Option.map_some, reduceIte, Nat.reduceEqDiff, Nat.reduceAdd, Nat.reduceSub, Nat.reduceLeDiff, Nat.reduceBEq, Nat.reduceMul, Nat.reduceLT, Bool.and_self, Bool.true_and, Bool.not_true, Bool.not_false, Bool.false_eq_true, ne_eq, not_false_eq_true, reduceCtorEq, Int.reduceEq, List.length_map]; rfl) (hand_k0 (by rfl) (by rfl)) (by rfl)
    · try simp only [wk, wl, nc, evV, and_self, Option.map_some, reduceIte, Nat.reduceEqDiff, Nat.reduceAdd, Nat.reduceSub, Nat.reduceLeDiff, Nat.reduceBEq, Nat.reduceMul, Nat.reduceLT, Bool.and_self, Bool.true_and, Bool.not_true, Bool.not_false, Bool.false_eq_true, ne_eq, not_false_eq_true, reduceCtorEq, Int.reduceEq, List.length_map]
      refine evTs_ifg H (by rfl) ?_ ?_ <;> clear H <;> intro H
      · try simp only [wk, wl, nc, evV, and_self, Option.map_some, reduceIte, Nat.reduceEqDiff, Nat.reduceAdd, Nat.reduceSub, Nat.reduceLeDiff, Nat.reduceBEq, Nat.reduceMul, Nat.reduceLT, Bool.and_self, Bool.true_and, Bool.not_true, Bool.not_false, Bool.false_eq_true, ne_eq, not_false_eq_true, reduceCtorEq, Int.reduceEq, List.length_map]
        refine AW.ift (by rfl) ?_
        refine AW.rseq ?_
        try simp only [wk, wl, nc, evV, and_self, Option.map_some, reduceIte, Nat.reduceEqDiff, Nat.reduceAdd, Nat.reduceSub, Nat.reduceLeDiff, Nat.reduceBEq, Nat.reduceMul, Nat.reduceLT, Bool.and_self, Bool.true_and, Bool.not_true, Bool.not_false, Bool.false_eq_true, ne_eq, not_false_eq_true, reduceCtorEq, Int.reduceEq, List.length_map]
        refine AW.ret ?_
        refine seqQ.ret ?_
        cases H
        exact hQ _ _ _ _ (.inr rfl) (by simp only [resVs, omap, resV, wk, wl, nc, evV, and_self, Option.map_some, reduceIte, Nat.reduceEqDiff, Nat.reduceAdd, Nat.reduceSub, Nat.reduceLeDiff, Nat.reduceBEq, Nat.reduceMul, Nat.reduceLT, Bool.and_self, Bool.true_and, Bool.not_true, Bool.not_false, Bool.false_eq_true, ne_eq, not_false_eq_true, reduceCtorEq, Int.reduceEq, List.length_map]; rfl) (hand_k0 (by rfl) (by rfl)) (by rfl)
      · try simp only [wk, wl, nc, evV, and_self, Option.map_some, reduceIte, Nat.reduceEqDiff, Nat.reduceAdd, Nat.reduceSub, Nat.reduceLeDiff, Nat.reduceBEq, Nat.reduceMul, Nat.reduceLT, Bool.and_self, Bool.true_and, Bool.not_true, Bool.not_false, Bool.false_eq_true, ne_eq, not_false_eq_true, reduceCtorEq, Int.reduceEq, List.length_map]
        refine AW.ifc H (by rfl) ?_ ?_ <;> clear H <;> intro H
        · refine AW.rseq ?_
          try simp only [wk, wl, nc, evV, and_self, Option.map_some, reduceIte, Nat.reduceEqDiff, Nat.reduceAdd, Nat.reduceSub, Nat.reduceLeDiff, Nat.reduceBEq, Nat.reduceMul, Nat.reduceLT, Bool.and_self, Bool.true_and, Bool.not_true, Bool.not_false, Bool.false_eq_true, ne_eq, not_false_eq_true, reduceCtorEq, Int.reduceEq, List.length_map]
          refine AW.ret ?_
          refine seqQ.ret ?_
          cases H
          exact hQ _ _ _ _ (.inr rfl) (by simp only [resVs, omap, resV, wk, wl, nc, evV, and_self, Option.map_some, reduceIte, Nat.reduceEqDiff, Nat.reduceAdd, Nat.reduceSub, Nat.reduceLeDiff, Nat.reduceBEq, Nat.reduceMul, Nat.reduceLT, Bool.and_self, Bool.true_and, Bool.not_true, Bool.not_false, Bool.false_eq_true, ne_eq, not_false_eq_true, reduceCtorEq, Int.reduceEq, List.length_map]; rfl) (hand_k0 (by rfl) (by rfl)) (by rfl)
        · refine AW.skip ?_
          refine seqQ.norm ?_
          refine AW.rseq ?_
          try simp only [wk, wl, nc, evV, and_self, Option.map_some, reduceIte, Nat.reduceEqDiff, Nat.reduceAdd, Nat.reduceSub, Nat.reduceLeDiff, Nat.reduceBEq, Nat.reduceMul, Nat.reduceLT, Bool.and_self, Bool.true_and, Bool.not_true, Bool.not_false, Bool.false_eq_true, ne_eq, not_false_eq_true, reduceCtorEq, Int.reduceEq, List.length_map]
          refine AW.sseq ?_
          refine AW.rseq ?_
          try simp only [wk, wl, nc, evV, and_self, Option.map_some, reduceIte, Nat.reduceEqDiff, Nat.reduceAdd, Nat.reduceSub, Nat.reduceLeDiff, Nat.reduceBEq, Nat.reduceMul, Nat.reduceLT, Bool.and_self, Bool.true_and, Bool.not_true, Bool.not_false, Bool.false_eq_true, ne_eq, not_false_eq_true, reduceCtorEq, Int.reduceEq, List.length_map]
          refine AW.bend ?_
          refine AW.iter H ((Le.trans (Le.nilRow (i := 13) (e := 0) (by simp only [wk, wl, nc, evV, and_self, Option.map_some, reduceIte, Nat.reduceEqDiff, Nat.reduceAdd, Nat.reduceSub, Nat.reduceLeDiff, Nat.reduceBEq, Nat.reduceMul, Nat.reduceLT, Bool.and_self, Bool.true_and, Bool.not_true, Bool.not_false, Bool.false_eq_true, ne_eq, not_false_eq_true, reduceCtorEq, Int.reduceEq, List.length_map])) (Le.none [0] [0, 1, 3, 4, 13, 35, 36] (by decide) (by simp only [f38_39_L1, restrict_eq, renS_nil, renS_cons, renB_els, renB_cel, renB_dead, deep_eq, map_ren_enc, ren_agg', ren_tup', ren_fn', ren_int', ren_bool', ren_str', ren_sl', ren_pro', ren_nilp', ren_nilfn', ren_junk', ren_ptr', ren_row', ren_arow', ren_eptr', vm, List.idxOf?_cons, List.idxOf?_nil, beq_self_eq_true, Option.map_none, List.getD_cons_zero, List.getD_cons_succ, wk, wl, nc, evV, and_self, Option.map_some, reduceIte, Nat.reduceEqDiff, Nat.reduceAdd, List.length_map, Nat.reduceSub, Nat.reduceLeDiff, Nat.reduceBEq, Nat.reduceMul, Nat.reduceLT, Bool.and_self, Bool.true_and, Bool.not_true, Bool.not_false, Bool.false_eq_true, ne_eq, not_false_eq_true, reduceCtorEq, Int.reduceEq])))) ?_ <;> clear H
          rintro ⟨v_66, out_67⟩ x_ st0_ H hst_
          simp only [f38_39_L1] at H hst_
          subst hst_
          refine AW.rseq ?_
          try simp only [wk, wl, nc, evV, and_self, Option.map_some, reduceIte, Nat.reduceEqDiff, Nat.reduceAdd, Nat.reduceSub, Nat.reduceLeDiff, Nat.reduceBEq, Nat.reduceMul, Nat.reduceLT, Bool.and_self, Bool.true_and, Bool.not_true, Bool.not_false, Bool.false_eq_true, ne_eq, not_false_eq_true, reduceCtorEq, Int.reduceEq, List.length_map]
          refine AW.sseq ?_
          refine AW.ifc H (by rfl) ?_ ?_ <;> clear H <;> intro H
          · refine AW.skip ?_
            refine seqQ.norm ?_
            refine AW.bseq ?_
            refine AW.rseq ?_
            try simp only [wk, wl, nc, evV, and_self, Option.map_some, reduceIte, Nat.reduceEqDiff, Nat.reduceAdd, Nat.reduceSub, Nat.reduceLeDiff, Nat.reduceBEq, Nat.reduceMul, Nat.reduceLT, Bool.and_self, Bool.true_and, Bool.not_true, Bool.not_false, Bool.false_eq_true, ne_eq, not_false_eq_true, reduceCtorEq, Int.reduceEq, List.length_map]
            refine AW.rseq ?_
            try simp only [wk, wl, nc, evV, and_self, Option.map_some, reduceIte, Nat.reduceEqDiff, Nat.reduceAdd, Nat.reduceSub, Nat.reduceLeDiff, Nat.reduceBEq, Nat.reduceMul, Nat.reduceLT, Bool.and_self, Bool.true_and, Bool.not_true, Bool.not_false, Bool.false_eq_true, ne_eq, not_false_eq_true, reduceCtorEq, Int.reduceEq, List.length_map]
            refine AW.sseq ?_
            refine AW.rseq ?_
            try simp only [wk, wl, nc, evV, and_self, Option.map_some, reduceIte, Nat.reduceEqDiff, Nat.reduceAdd, Nat.reduceSub, Nat.reduceLeDiff, Nat.reduceBEq, Nat.reduceMul, Nat.reduceLT, Bool.and_self, Bool.true_and, Bool.not_true, Bool.not_false, Bool.false_eq_true, ne_eq, not_false_eq_true, reduceCtorEq, Int.reduceEq, List.length_map]
            refine AW.ifc H (by rfl) ?_ ?_ <;> clear H <;> intro H
            · refine AW.rseq ?_
              try simp only [wk, wl, nc, evV, and_self, Option.map_some, reduceIte, Nat.reduceEqDiff, Nat.reduceAdd, Nat.reduceSub, Nat.reduceLeDiff, Nat.reduceBEq, Nat.reduceMul, Nat.reduceLT, Bool.and_self, Bool.true_and, Bool.not_true, Bool.not_false, Bool.false_eq_true, ne_eq, not_false_eq_true, reduceCtorEq, Int.reduceEq, List.length_map]
              refine evTs_pure hFn H (fun _ h => f39_ok h) (by rfl) (by rfl) (by rfl) (by rfl) (fun _ => rfl) ?_ <;> clear H <;> intro r_73 H
              try simp only [eL, wk, wl, nc, evV, and_self, Option.map_some, reduceIte, Nat.reduceEqDiff, Nat.reduceAdd, Nat.reduceSub, Nat.reduceLeDiff, Nat.reduceBEq, Nat.reduceMul, Nat.reduceLT, Bool.and_self, Bool.true_and, Bool.not_true, Bool.not_false, Bool.false_eq_true, ne_eq, not_false_eq_true, reduceCtorEq, Int.reduceEq, List.length_map]
              refine AW.rseq ?_
              try simp only [wk, wl, nc, evV, and_self, Option.map_some, reduceIte, Nat.reduceEqDiff, Nat.reduceAdd, Nat.reduceSub, Nat.reduceLeDiff, Nat.reduceBEq, Nat.reduceMul, Nat.reduceLT, Bool.and_self, Bool.true_and, Bool.not_true, Bool.not_false, Bool.false_eq_true, ne_eq, not_false_eq_true, reduceCtorEq, Int.reduceEq, List.length_map]
              refine rest_quo H ?_ <;> clear H <;> intro H
              try simp only [wk, wl, nc, evV, and_self, Option.map_some, reduceIte, Nat.reduceEqDiff, Nat.reduceAdd, Nat.reduceSub, Nat.reduceLeDiff, Nat.reduceBEq, Nat.reduceMul, Nat.reduceLT, Bool.and_self, Bool.true_and, Bool.not_true, Bool.not_false, Bool.false_eq_true, ne_eq, not_false_eq_true, reduceCtorEq, Int.reduceEq, List.length_map]
              refine AW.rseq ?_
              try simp only [wk, wl, nc, evV, and_self, Option.map_some, reduceIte, Nat.reduceEqDiff, Nat.reduceAdd, Nat.reduceSub, Nat.reduceLeDiff, Nat.reduceBEq, Nat.reduceMul, Nat.reduceLT, Bool.and_self, Bool.true_and, Bool.not_true, Bool.not_false, Bool.false_eq_true, ne_eq, not_false_eq_true, reduceCtorEq, Int.reduceEq, List.length_map]
              refine rest_rem H ?_ <;> clear H <;> intro H
              try simp only [wk, wl, nc, evV, and_self, Option.map_some, reduceIte, Nat.reduceEqDiff, Nat.reduceAdd, Nat.reduceSub, Nat.reduceLeDiff, Nat.reduceBEq, Nat.reduceMul, Nat.reduceLT, Bool.and_self, Bool.true_and, Bool.not_true, Bool.not_false, Bool.false_eq_true, ne_eq, not_false_eq_true, reduceCtorEq, Int.reduceEq, List.length_map]
              refine AW.ifc H (by rfl) ?_ ?_ <;> clear H <;> intro H
              · refine AW.rend ?_
                try simp only [wk, wl, nc, evV, and_self, Option.map_some, reduceIte, Nat.reduceEqDiff, Nat.reduceAdd, Nat.reduceSub, Nat.reduceLeDiff, Nat.reduceBEq, Nat.reduceMul, Nat.reduceLT, Bool.and_self, Bool.true_and, Bool.not_true, Bool.not_false, Bool.false_eq_true, ne_eq, not_false_eq_true, reduceCtorEq, Int.reduceEq, List.length_map]
                refine seqQ.norm ?_
                refine AW.rend ?_
                try simp only [wk, wl, nc, evV, and_self, Option.map_some, reduceIte, Nat.reduceEqDiff, Nat.reduceAdd, Nat.reduceSub, Nat.reduceLeDiff, Nat.reduceBEq, Nat.reduceMul, Nat.reduceLT, Bool.and_self, Bool.true_and, Bool.not_true, Bool.not_false, Bool.false_eq_true, ne_eq, not_false_eq_true, reduceCtorEq, Int.reduceEq, List.length_map]
                refine evTs_app (enc := (AV.int .i64)) H (by rfl) (by rfl) (by rfl) (by rfl) ?_ <;> clear H <;> intro out_74 H
                try simp only [wk, wl, nc, evV, and_self, Option.map_some, reduceIte, Nat.reduceEqDiff, Nat.reduceAdd, Nat.reduceSub, Nat.reduceLeDiff, Nat.reduceBEq, Nat.reduceMul, Nat.reduceLT, Bool.and_self, Bool.true_and, Bool.not_true, Bool.not_false, Bool.false_eq_true, ne_eq, not_false_eq_true, reduceCtorEq, Int.reduceEq, List.length_map]
                refine blkQ.norm ?_
                refine AW.rend ?_
                try simp only [wk, wl, nc, evV, and_self, Option.map_some, reduceIte, Nat.reduceEqDiff, Nat.reduceAdd, Nat.reduceSub, Nat.reduceLeDiff, Nat.reduceBEq, Nat.reduceMul, Nat.reduceLT, Bool.and_self, Bool.true_and, Bool.not_true, Bool.not_false, Bool.false_eq_true, ne_eq, not_false_eq_true, reduceCtorEq, Int.reduceEq, List.length_map]
                exact loopQ.next H ((Le.none [1] [0, 1, 3, 4, 13, 35, 36] (by decide) (by simp only [f38_39_L1, restrict_eq, renS_nil, renS_cons, renB_els, renB_cel, renB_dead, deep_eq, map_ren_enc, ren_agg', ren_tup', ren_fn', ren_int', ren_bool', ren_str', ren_sl', ren_pro', ren_nilp', ren_nilfn', ren_junk', ren_ptr', ren_row', ren_arow', ren_eptr', vm, List.idxOf?_cons, List.idxOf?_nil, beq_self_eq_true, Option.map_none, List.getD_cons_zero, List.getD_cons_succ, wk, wl, nc, evV, and_self, Option.map_some, reduceIte, Nat.reduceEqDiff, Nat.reduceAdd, List.length_map, Nat.reduceSub, Nat.reduceLeDiff, Nat.reduceBEq, Nat.reduceMul, Nat.reduceLT, Bool.and_self, Bool.true_and, Bool.not_true, Bool.not_false, Bool.false_eq_true, ne_eq, not_false_eq_true, reduceCtorEq, Int.reduceEq])))
              · refine AW.skip ?_
                refine seqQ.norm ?_
                refine AW.rend ?_
                try simp only [wk, wl, nc, evV, and_self, Option.map_some, reduceIte, Nat.reduceEqDiff, Nat.reduceAdd, Nat.reduceSub, Nat.reduceLeDiff, Nat.reduceBEq, Nat.reduceMul, Nat.reduceLT, Bool.and_self, Bool.true_and, Bool.not_true, Bool.not_false, Bool.false_eq_true, ne_eq, not_false_eq_true, reduceCtorEq, Int.reduceEq, List.length_map]
                refine evTs_app (enc := (AV.int .i64)) H (by rfl) (by rfl) (by rfl) (by rfl) ?_ <;> clear H <;> intro out_75 H
                try simp only [wk, wl, nc, evV, and_self, Option.map_some, reduceIte, Nat.reduceEqDiff, Nat.reduceAdd, Nat.reduceSub, Nat.reduceLeDiff, Nat.reduceBEq, Nat.reduceMul, Nat.reduceLT, Bool.and_self, Bool.true_and, Bool.not_true, Bool.not_false, Bool.false_eq_true, ne_eq, not_false_eq_true, reduceCtorEq, Int.reduceEq, List.length_map]
                refine blkQ.norm ?_
                refine AW.rend ?_
                try simp only [wk, wl, nc, evV, and_self, Option.map_some, reduceIte, Nat.reduceEqDiff, Nat.reduceAdd, Nat.reduceSub, Nat.reduceLeDiff, Nat.reduceBEq, Nat.reduceMul, Nat.reduceLT, Bool.and_self, Bool.true_and, Bool.not_true, Bool.not_false, Bool.false_eq_true, ne_eq, not_false_eq_true, reduceCtorEq, Int.reduceEq, List.length_map]
                exact loopQ.next H ((Le.none [1] [0, 1, 3, 4, 13, 35, 36] (by decide) (by simp only [f38_39_L1, restrict_eq, renS_nil, renS_cons, renB_els, renB_cel, renB_dead, deep_eq, map_ren_enc, ren_agg', ren_tup', ren_fn', ren_int', ren_bool', ren_str', ren_sl', ren_pro', ren_nilp', ren_nilfn', ren_junk', ren_ptr', ren_row', ren_arow', ren_eptr', vm, List.idxOf?_cons, List.idxOf?_nil, beq_self_eq_true, Option.map_none, List.getD_cons_zero, List.getD_cons_succ, wk, wl, nc, evV, and_self, Option.map_some, reduceIte, Nat.reduceEqDiff, Nat.reduceAdd, List.length_map, Nat.reduceSub, Nat.reduceLeDiff, Nat.reduceBEq, Nat.reduceMul, Nat.reduceLT, Bool.and_self, Bool.true_and, Bool.not_true, Bool.not_false, Bool.false_eq_true, ne_eq, not_false_eq_true, reduceCtorEq, Int.reduceEq])))
            · refine AW.skip ?_
              refine seqQ.norm ?_
              refine AW.rend ?_
              try simp only [wk, wl, nc, evV, and_self, Option.map_some, reduceIte, Nat.reduceEqDiff, Nat.reduceAdd, Nat.reduceSub, Nat.reduceLeDiff, Nat.reduceBEq, Nat.reduceMul, Nat.reduceLT, Bool.and_self, Bool.true_and, Bool.not_true, Bool.not_false, Bool.false_eq_true, ne_eq, not_false_eq_true, reduceCtorEq, Int.reduceEq, List.length_map]
              refine evTs_app (enc := (AV.int .i64)) H (by rfl) (by rfl) (by rfl) (by rfl) ?_ <;> clear H <;> intro out_76 H
              try simp only [wk, wl, nc, evV, and_self, Option.map_some, reduceIte, Nat.reduceEqDiff, Nat.reduceAdd, Nat.reduceSub, Nat.reduceLeDiff, Nat.reduceBEq, Nat.reduceMul, Nat.reduceLT, Bool.and_self, Bool.true_and, Bool.not_true, Bool.not_false, Bool.false_eq_true, ne_eq, not_false_eq_true, reduceCtorEq, Int.reduceEq, List.length_map]
              refine blkQ.norm ?_
              refine AW.rend ?_
              try simp only [wk, wl, nc, evV, and_self, Option.map_some, reduceIte, Nat.reduceEqDiff, Nat.reduceAdd, Nat.reduceSub, Nat.reduceLeDiff, Nat.reduceBEq, Nat.reduceMul, Nat.reduceLT, Bool.and_self, Bool.true_and, Bool.not_true, Bool.not_false, Bool.false_eq_true, ne_eq, not_false_eq_true, reduceCtorEq, Int.reduceEq, List.length_map]
              exact loopQ.next H ((Le.none [1] [0, 1, 3, 4, 13, 35, 36] (by decide) (by simp only [f38_39_L1, restrict_eq, renS_nil, renS_cons, renB_els, renB_cel, renB_dead, deep_eq, map_ren_enc, ren_agg', ren_tup', ren_fn', ren_int', ren_bool', ren_str', ren_sl', ren_pro', ren_nilp', ren_nilfn', ren_junk', ren_ptr', ren_row', ren_arow', ren_eptr', vm, List.idxOf?_cons, List.idxOf?_nil, beq_self_eq_true, Option.map_none, List.getD_cons_zero, List.getD_cons_succ, wk, wl, nc, evV, and_self, Option.map_some, reduceIte, Nat.reduceEqDiff, Nat.reduceAdd, List.length_map, Nat.reduceSub, Nat.reduceLeDiff, Nat.reduceBEq, Nat.reduceMul, Nat.reduceLT, Bool.and_self, Bool.true_and, Bool.not_true, Bool.not_false, Bool.false_eq_true, ne_eq, not_false_eq_true, reduceCtorEq, Int.reduceEq])))
          · refine AW.exit ?_
            refine seqQ.exit ?_
            refine loopQ.exit H ?_ <;> clear H <;> intro H
            try dsimp only at H
            refine blk0.here ?_
            refine seqQ.norm ?_
            refine AW.rseq ?_
            try simp only [wk, wl, nc, evV, and_self, Option.map_some, reduceIte, Nat.reduceEqDiff, Nat.reduceAdd, Nat.reduceSub, Nat.reduceLeDiff, Nat.reduceBEq, Nat.reduceMul, Nat.reduceLT, Bool.and_self, Bool.true_and, Bool.not_true, Bool.not_false, Bool.false_eq_true, ne_eq, not_false_eq_true, reduceCtorEq, Int.reduceEq, List.length_map]
            refine AW.ret ?_
            cases H
            exact hQ _ _ _ _ (.inr rfl) (by simp only [resVs, omap, resV, wk, wl, nc, evV, and_self, Option.map_some, reduceIte, Nat.reduceEqDiff, Nat.reduceAdd, Nat.reduceSub, Nat.reduceLeDiff, Nat.reduceBEq, Nat.reduceMul, Nat.reduceLT, Bool.and_self, Bool.true_and, Bool.not_true, Bool.not_false, Bool.false_eq_true, ne_eq, not_false_eq_true, reduceCtorEq, Int.reduceEq, List.length_map]; rfl) (hand_k (by rfl) (by rfl) (by simp) (enc_all _) (by rfl)) (by rfl)
theorem f38_39_im {from_44 : Int} {to_45 : Int} {n_46 : Int} {whole_47 : Int} {r_ : (List Int) × Int} (H : f38_39 from_44 to_45 n_46 whole_47 = some r_) : Pure Try.prog 38 [.int .i64 from_44, .int .i64 to_45, .int .i64 n_46, .int .i64 whole_47, .fn 39 []] (· = .tup [.sl 0 false (r_.1.map (AV.int .i64)), .int .i64 r_.2]) := (f38_39_ok H).unfr (by first | exact enc_fits _ | simp only [frFits, List.all_cons, List.all_nil, enc_fits, Bool.and_self])
def c11_0 : C := .seq (.reg [iI 8 (.mv (.t 0)), iI 9 (.mv (.t 1)), iI 10 (.mv (.t 2)), iI 11 (.mv (.t 2)), iI 12 (.bin .sub (.t 11) (.c (.int .i64 1))), iI 13 (.call (.c (.fn 38 [])) [(.t 8), (.t 9), (.t 10), (.t 12), (.c (.fn 39 []))]), iI 14 (.ext (.t 13) 0), iI 15 (.ext (.t 13) 1), iI 6 (.mv (.t 14)), iI 7 (.mv (.t 15))]) .ret
def ir11 : C := .seq (.reg [iI 6 (.mv (.c (.sl 0 true []))), iI 7 (.mv (.c (.int .i64 0)))]) c11_0
theorem fd11 : fd? Try.prog 11 = some (16, [.slot 6, .slot 7], ir11) := by kernel_rfl
noncomputable def f11 (from_41 : Int) (to_42 : Int) (n_43 : Int) : Option ((List Int) × Int) :=
  (f38_39 from_41 to_42 n_43 (IntKind.i64.wrap (n_43 - 1))).bind fun r_77 => (some (r_77.1, r_77.2))
theorem f11_ok {from_41 : Int} {to_42 : Int} {n_43 : Int} {r_ : (List Int) × Int} (H : f11 from_41 to_42 n_43 = some r_) : Pure Try.prog 11 [.int .i64 from_41, .int .i64 to_42, .int .i64 n_43] (· = .tup [.sl 0 false (r_.1.map (AV.int .i64)), .int .i64 r_.2]) := by
  refine Pure.walk2 fd11 none (Nat.le_of_ble_eq_true rfl) (by rfl) fun Q hQ => ?_
  simp only [f11] at H
  refine AW.rseq ?_
  try simp only [wk, wl, nc, evV, and_self, Option.map_some, reduceIte, Nat.reduceEqDiff, Nat.reduceAdd, Nat.reduceSub, Nat.reduceLeDiff, Nat.reduceBEq, Nat.reduceMul, Nat.reduceLT, Bool.and_self, Bool.true_and, Bool.not_true, Bool.not_false, Bool.false_eq_true, ne_eq, not_false_eq_true, reduceCtorEq, Int.reduceEq, List.length_map]
  refine AW.rseq ?_
  try simp only [wk, wl, nc, evV, and_self, Option.map_some, reduceIte, Nat.reduceEqDiff, Nat.reduceAdd, Nat.reduceSub, Nat.reduceLeDiff, Nat.reduceBEq, Nat.reduceMul, Nat.reduceLT, Bool.and_self, Bool.true_and, Bool.not_true, Bool.not_false, Bool.false_eq_true, ne_eq, not_false_eq_true, reduceCtorEq, Int.reduceEq, List.length_map]
  refine evTs_pure hFn H (fun _ h => f38_39_im h) (by rfl) (by rfl) (by rfl) (by rfl) (fun _ => rfl) ?_ <;> clear H <;> intro r_77 H
  try simp only [eL, wk, wl, nc, evV, and_self, Option.map_some, reduceIte, Nat.reduceEqDiff, Nat.reduceAdd, Nat.reduceSub, Nat.reduceLeDiff, Nat.reduceBEq, Nat.reduceMul, Nat.reduceLT, Bool.and_self, Bool.true_and, Bool.not_true, Bool.not_false, Bool.false_eq_true, ne_eq, not_false_eq_true, reduceCtorEq, Int.reduceEq, List.length_map]
  refine AW.ret ?_
  cases H
  exact hQ _ _ _ _ (.inr rfl) (by simp only [resVs, omap, resV, wk, wl, nc, evV, and_self, Option.map_some, reduceIte, Nat.reduceEqDiff, Nat.reduceAdd, Nat.reduceSub, Nat.reduceLeDiff, Nat.reduceBEq, Nat.reduceMul, Nat.reduceLT, Bool.and_self, Bool.true_and, Bool.not_true, Bool.not_false, Bool.false_eq_true, ne_eq, not_false_eq_true, reduceCtorEq, Int.reduceEq, List.length_map]; rfl) (hand_plain (by rfl)) (by rfl)
def c40_0 : C := .cond (.t 28) (.seq (.reg [iI 6 (.mv (.c (.int .i64 2)))]) .ret) (.skip)
def c40_1 : C := .seq (.reg [iI 6 (.mv (.c (.int .i64 0)))]) .ret
def c40_2 : C := .seq (.seq (.reg [iI 7 (.mv (.t 0)), iI 8 (.bin .lss (.t 7) (.c (.int .i64 0))), iI 9 (.mv (.t 8)), iG (some 10) 9 false (.mv (.t 0)), iG (some 11) 9 false (.bin .gtr (.t 10) (.c (.int .i64 65535))), iI 12 (.pick (.t 9) (.c (.bool true)) (.t 11)), iI 13 (.mv (.t 12)), iG (some 14) 13 false (.mv (.t 1)), iG (some 15) 13 false (.bin .lss (.t 14) (.c (.int .i64 0))), iI 16 (.pick (.t 13) (.c (.bool true)) (.t 15)), iI 17 (.mv (.t 16)), iG (some 18) 17 false (.mv (.t 1)), iG (some 19) 17 false (.bin .gtr (.t 18) (.c (.int .i64 65535))), iI 20 (.pick (.t 17) (.c (.bool true)) (.t 19)), iI 21 (.mv (.t 20)), iG (some 22) 21 false (.mv (.t 2)), iG (some 23) 21 false (.bin .lss (.t 22) (.c (.int .i64 0))), iI 24 (.pick (.t 21) (.c (.bool true)) (.t 23)), iI 25 (.mv (.t 24)), iG (some 26) 25 false (.mv (.t 2)), iG (some 27) 25 false (.bin .gtr (.t 26) (.c (.int .i64 256))), iI 28 (.pick (.t 25) (.c (.bool true)) (.t 27))]) c40_0) c40_1
def ir40 : C := .seq (.reg [iI 6 (.mv (.c (.int .i64 0)))]) c40_2
theorem fd40 : fd? Try.prog 40 = some (29, [.slot 6], ir40) := by kernel_rfl
noncomputable def f40 (from_82 : Int) (to_83 : Int) (n_84 : Int) : Option (Int) :=
  (if (decide (from_82 < 0)) = true then (some 2) else (if (decide (65535 < from_82)) = true then (some 2) else (if (decide (to_83 < 0)) = true then (some 2) else (if (decide (65535 < to_83)) = true then (some 2) else (if (decide (n_84 < 0)) = true then (some 2) else (if (decide (256 < n_84)) = true then (some 2) else (some 0)))))))
theorem f40_ok {from_82 : Int} {to_83 : Int} {n_84 : Int} {r_ : Int} (H : f40 from_82 to_83 n_84 = some r_) : Pure Try.prog 40 [.int .i64 from_82, .int .i64 to_83, .int .i64 n_84] (· = .int .i64 r_) := by
  refine Pure.walk2 fd40 none (Nat.le_of_ble_eq_true rfl) (by rfl) fun Q hQ => ?_
  simp only [f40] at H
  refine AW.rseq ?_
  try simp only [wk, wl, nc, evV, and_self, Option.map_some, reduceIte, Nat.reduceEqDiff, Nat.reduceAdd, Nat.reduceSub, Nat.reduceLeDiff, Nat.reduceBEq, Nat.reduceMul, Nat.reduceLT, Bool.and_self, Bool.true_and, Bool.not_true, Bool.not_false, Bool.false_eq_true, ne_eq, not_false_eq_true, reduceCtorEq, Int.reduceEq, List.length_map]
  refine AW.sseq ?_
  refine AW.rseq ?_
  try simp only [wk, wl, nc, evV, and_self, Option.map_some, reduceIte, Nat.reduceEqDiff, Nat.reduceAdd, Nat.reduceSub, Nat.reduceLeDiff, Nat.reduceBEq, Nat.reduceMul, Nat.reduceLT, Bool.and_self, Bool.true_and, Bool.not_true, Bool.not_false, Bool.false_eq_true, ne_eq, not_false_eq_true, reduceCtorEq, Int.reduceEq, List.length_map]
  refine evTs_ifg H (by rfl) ?_ ?_ <;> clear H <;> intro H
  · try simp only [wk, wl, nc, evV, and_self, Option.map_some, reduceIte, Nat.reduceEqDiff, Nat.reduceAdd, Nat.reduceSub, Nat.reduceLeDiff, Nat.reduceBEq, Nat.reduceMul, Nat.reduceLT, Bool.and_self, Bool.true_and, Bool.not_true, Bool.not_false, Bool.false_eq_true, ne_eq, not_false_eq_true, reduceCtorEq, Int.reduceEq, List.length_map]
    refine AW.ift (by rfl) ?_
    refine AW.rseq ?_
    try simp only [wk, wl, nc, evV, and_self, Option.map_some, reduceIte, Nat.reduceEqDiff, Nat.reduceAdd, Nat.reduceSub, Nat.reduceLeDiff, Nat.reduceBEq, Nat.reduceMul, Nat.reduceLT, Bool.and_self, Bool.true_and, Bool.not_true, Bool.not_false, Bool.false_eq_true, ne_eq, not_false_eq_true, reduceCtorEq, Int.reduceEq, List.length_map]
    refine AW.ret ?_
    refine seqQ.ret ?_
    cases H
    exact hQ _ _ _ _ (.inr rfl) (by simp only [resVs, omap, resV, wk, wl, nc, evV, and_self, Option.map_some, reduceIte, Nat.reduceEqDiff, Nat.reduceAdd, Nat.reduceSub, Nat.reduceLeDiff, Nat.reduceBEq, Nat.reduceMul, Nat.reduceLT, Bool.and_self, Bool.true_and, Bool.not_true, Bool.not_false, Bool.false_eq_true, ne_eq, not_false_eq_true, reduceCtorEq, Int.reduceEq, List.length_map]; rfl) (hand_plain (by rfl)) (by rfl)
  · try simp only [wk, wl, nc, evV, and_self, Option.map_some, reduceIte, Nat.reduceEqDiff, Nat.reduceAdd, Nat.reduceSub, Nat.reduceLeDiff, Nat.reduceBEq, Nat.reduceMul, Nat.reduceLT, Bool.and_self, Bool.true_and, Bool.not_true, Bool.not_false, Bool.false_eq_true, ne_eq, not_false_eq_true, reduceCtorEq, Int.reduceEq, List.length_map]
    refine evTs_ifg H (by rfl) ?_ ?_ <;> clear H <;> intro H
    · try simp only [wk, wl, nc, evV, and_self, Option.map_some, reduceIte, Nat.reduceEqDiff, Nat.reduceAdd, Nat.reduceSub, Nat.reduceLeDiff, Nat.reduceBEq, Nat.reduceMul, Nat.reduceLT, Bool.and_self, Bool.true_and, Bool.not_true, Bool.not_false, Bool.false_eq_true, ne_eq, not_false_eq_true, reduceCtorEq, Int.reduceEq, List.length_map]
      refine AW.ift (by rfl) ?_
      refine AW.rseq ?_
      try simp only [wk, wl, nc, evV, and_self, Option.map_some, reduceIte, Nat.reduceEqDiff, Nat.reduceAdd, Nat.reduceSub, Nat.reduceLeDiff, Nat.reduceBEq, Nat.reduceMul, Nat.reduceLT, Bool.and_self, Bool.true_and, Bool.not_true, Bool.not_false, Bool.false_eq_true, ne_eq, not_false_eq_true, reduceCtorEq, Int.reduceEq, List.length_map]
      refine AW.ret ?_
      refine seqQ.ret ?_
      cases H
      exact hQ _ _ _ _ (.inr rfl) (by simp only [resVs, omap, resV, wk, wl, nc, evV, and_self, Option.map_some, reduceIte, Nat.reduceEqDiff, Nat.reduceAdd, Nat.reduceSub, Nat.reduceLeDiff, Nat.reduceBEq, Nat.reduceMul, Nat.reduceLT, Bool.and_self, Bool.true_and, Bool.not_true, Bool.not_false, Bool.false_eq_true, ne_eq, not_false_eq_true, reduceCtorEq, Int.reduceEq, List.length_map]; rfl) (hand_plain (by rfl)) (by rfl)
    · try simp only [wk, wl, nc, evV, and_self, Option.map_some, reduceIte, Nat.reduceEqDiff, Nat.reduceAdd, Nat.reduceSub, Nat.reduceLeDiff, Nat.reduceBEq, Nat.reduceMul, Nat.reduceLT, Bool.and_self, Bool.true_and, Bool.not_true, Bool.not_false, Bool.false_eq_true, ne_eq, not_false_eq_true, reduceCtorEq, Int.reduceEq, List.length_map]
      refine evTs_ifg H (by rfl) ?_ ?_ <;> clear H <;> intro H
      · try simp only [wk, wl, nc, evV, and_self, Option.map_some, reduceIte, Nat.reduceEqDiff, Nat.reduceAdd, Nat.reduceSub, Nat.reduceLeDiff, Nat.reduceBEq, Nat.reduceMul, Nat.reduceLT, Bool.and_self, Bool.true_and, Bool.not_true, Bool.not_false, Bool.false_eq_true, ne_eq, not_false_eq_true, reduceCtorEq, Int.reduceEq, List.length_map]
        refine AW.ift (by rfl) ?_
        refine AW.rseq ?_
        try simp only [wk, wl, nc, evV, and_self, Option.map_some, reduceIte, Nat.reduceEqDiff, Nat.reduceAdd, Nat.reduceSub, Nat.reduceLeDiff, Nat.reduceBEq, Nat.reduceMul, Nat.reduceLT, Bool.and_self, Bool.true_and, Bool.not_true, Bool.not_false, Bool.false_eq_true, ne_eq, not_false_eq_true, reduceCtorEq, Int.reduceEq, List.length_map]
        refine AW.ret ?_
        refine seqQ.ret ?_
        cases H
        exact hQ _ _ _ _ (.inr rfl) (by simp only [resVs, omap, resV, wk, wl, nc, evV, and_self, Option.map_some, reduceIte, Nat.reduceEqDiff, Nat.reduceAdd, Nat.reduceSub, Nat.reduceLeDiff, Nat.reduceBEq, Nat.reduceMul, Nat.reduceLT, Bool.and_self, Bool.true_and, Bool.not_true, Bool.not_false, Bool.false_eq_true, ne_eq, not_false_eq_true, reduceCtorEq, Int.reduceEq, List.length_map]; rfl) (hand_plain (by rfl)) (by rfl)
      · try simp only [wk, wl, nc, evV, and_self, Option.map_some, reduceIte, Nat.reduceEqDiff, Nat.reduceAdd, Nat.reduceSub, Nat.reduceLeDiff, Nat.reduceBEq, Nat.reduceMul, Nat.reduceLT, Bool.and_self, Bool.true_and, Bool.not_true, Bool.not_false, Bool.false_eq_true, ne_eq, not_false_eq_true, reduceCtorEq, Int.reduceEq, List.length_map]
        refine evTs_ifg H (by rfl) ?_ ?_ <;> clear H <;> intro H
        · try simp only [wk, wl, nc, evV, and_self, Option.map_some, reduceIte, Nat.reduceEqDiff, Nat.reduceAdd, Nat.reduceSub, Nat.reduceLeDiff, Nat.reduceBEq, Nat.reduceMul, Nat.reduceLT, Bool.and_self, Bool.true_and, Bool.not_true, Bool.not_false, Bool.false_eq_true, ne_eq, not_false_eq_true, reduceCtorEq, Int.reduceEq, List.length_map]
          refine AW.ift (by rfl) ?_
          refine AW.rseq ?_
          try simp only [wk, wl, nc, evV, and_self, Option.map_some, reduceIte, Nat.reduceEqDiff, Nat.reduceAdd, Nat.reduceSub, Nat.reduceLeDiff, Nat.reduceBEq, Nat.reduceMul, Nat.reduceLT, Bool.and_self, Bool.true_and, Bool.not_true, Bool.not_false, Bool.false_eq_true, ne_eq, not_false_eq_true, reduceCtorEq, Int.reduceEq, List.length_map]
          refine AW.ret ?_
          refine seqQ.ret ?_
          cases H
          exact hQ _ _ _ _ (.inr rfl) (by simp only [resVs, omap, resV, wk, wl, nc, evV, and_self, Option.map_some, reduceIte, Nat.reduceEqDiff, Nat.reduceAdd, Nat.reduceSub, Nat.reduceLeDiff, Nat.reduceBEq, Nat.reduceMul, Nat.reduceLT, Bool.and_self, Bool.true_and, Bool.not_true, Bool.not_false, Bool.false_eq_true, ne_eq, not_false_eq_true, reduceCtorEq, Int.reduceEq, List.length_map]; rfl) (hand_plain (by rfl)) (by rfl)
        · try simp only [wk, wl, nc, evV, and_self, Option.map_some, reduceIte, Nat.reduceEqDiff, Nat.reduceAdd, Nat.reduceSub, Nat.reduceLeDiff, Nat.reduceBEq, Nat.reduceMul, Nat.reduceLT, Bool.and_self, Bool.true_and, Bool.not_true, Bool.not_false, Bool.false_eq_true, ne_eq, not_false_eq_true, reduceCtorEq, Int.reduceEq, List.length_map]
          refine evTs_ifg H (by rfl) ?_ ?_ <;> clear H <;> intro H
          · try simp only [wk, wl, nc, evV, and_self, Option.map_some, reduceIte, Nat.reduceEqDiff, Nat.reduceAdd, Nat.reduceSub, Nat.reduceLeDiff, Nat.reduceBEq, Nat.reduceMul, Nat.reduceLT, Bool.and_self, Bool.true_and, Bool.not_true, Bool.not_false, Bool.false_eq_true, ne_eq, not_false_eq_true, reduceCtorEq, Int.reduceEq, List.length_map]
            refine AW.ift (by rfl) ?_
            refine AW.rseq ?_
            try simp only [wk, wl, nc, evV, and_self, Option.map_some, reduceIte, Nat.reduceEqDiff, Nat.reduceAdd, Nat.reduceSub, Nat.reduceLeDiff, Nat.reduceBEq, Nat.reduceMul, Nat.reduceLT, Bool.and_self, Bool.true_and, Bool.not_true, Bool.not_false, Bool.false_eq_true, ne_eq, not_false_eq_true, reduceCtorEq, Int.reduceEq, List.length_map]
            refine AW.ret ?_
            refine seqQ.ret ?_
            cases H
            exact hQ _ _ _ _ (.inr rfl) (by simp only [resVs, omap, resV, wk, wl, nc, evV, and_self, Option.map_some, reduceIte, Nat.reduceEqDiff, Nat.reduceAdd, Nat.reduceSub, Nat.reduceLeDiff, Nat.reduceBEq, Nat.reduceMul, Nat.reduceLT, Bool.and_self, Bool.true_and, Bool.not_true, Bool.not_false, Bool.false_eq_true, ne_eq, not_false_eq_true, reduceCtorEq, Int.reduceEq, List.length_map]; rfl) (hand_plain (by rfl)) (by rfl)
          · try simp only [wk, wl, nc, evV, and_self, Option.map_some, reduceIte, Nat.reduceEqDiff, Nat.reduceAdd, Nat.reduceSub, Nat.reduceLeDiff, Nat.reduceBEq, Nat.reduceMul, Nat.reduceLT, Bool.and_self, Bool.true_and, Bool.not_true, Bool.not_false, Bool.false_eq_true, ne_eq, not_false_eq_true, reduceCtorEq, Int.reduceEq, List.length_map]
            refine AW.ifc H (by rfl) ?_ ?_ <;> clear H <;> intro H
            · refine AW.rseq ?_
              try simp only [wk, wl, nc, evV, and_self, Option.map_some, reduceIte, Nat.reduceEqDiff, Nat.reduceAdd, Nat.reduceSub, Nat.reduceLeDiff, Nat.reduceBEq, Nat.reduceMul, Nat.reduceLT, Bool.and_self, Bool.true_and, Bool.not_true, Bool.not_false, Bool.false_eq_true, ne_eq, not_false_eq_true, reduceCtorEq, Int.reduceEq, List.length_map]
              refine AW.ret ?_
              refine seqQ.ret ?_
              cases H
              exact hQ _ _ _ _ (.inr rfl) (by simp only [resVs, omap, resV, wk, wl, nc, evV, and_self, Option.map_some, reduceIte, Nat.reduceEqDiff, Nat.reduceAdd, Nat.reduceSub, Nat.reduceLeDiff, Nat.reduceBEq, Nat.reduceMul, Nat.reduceLT, Bool.and_self, Bool.true_and, Bool.not_true, Bool.not_false, Bool.false_eq_true, ne_eq, not_false_eq_true, reduceCtorEq, Int.reduceEq, List.length_map]; rfl) (hand_plain (by rfl)) (by rfl)
            · refine AW.skip ?_
              refine seqQ.norm ?_
              refine AW.rseq ?_
              try simp only [wk, wl, nc, evV, and_self, Option.map_some, reduceIte, Nat.reduceEqDiff, Nat.reduceAdd, Nat.reduceSub, Nat.reduceLeDiff, Nat.reduceBEq, Nat.reduceMul, Nat.reduceLT, Bool.and_self, Bool.true_and, Bool.not_true, Bool.not_false, Bool.false_eq_true, ne_eq, not_false_eq_true, reduceCtorEq, Int.reduceEq, List.length_map]
              refine AW.ret ?_
              cases H
              exact hQ _ _ _ _ (.inr rfl) (by simp only [resVs, omap, resV, wk, wl, nc, evV, and_self, Option.map_some, reduceIte, Nat.reduceEqDiff, Nat.reduceAdd, Nat.reduceSub, Nat.reduceLeDiff, Nat.reduceBEq, Nat.reduceMul, Nat.reduceLT, Bool.and_self, Bool.true_and, Bool.not_true, Bool.not_false, Bool.false_eq_true, ne_eq, not_false_eq_true, reduceCtorEq, Int.reduceEq, List.length_map]; rfl) (hand_plain (by rfl)) (by rfl)
def c41_0 : C := .cond (.t 10) (.seq (.reg [iI 11 (.mv (.t 0)), iI 8 (.mv (.t 11))]) .ret) (.skip)
def c41_1 : C := .seq (.reg [iI 12 (.mv (.t 0)), iI 13 (.mv (.t 3)), iI 14 (.bin .mul (.t 12) (.t 13)), iI 15 (.mv (.t 1)), iI 16 (.mv (.t 0)), iI 17 (.bin .sub (.t 15) (.t 16)), iI 18 (.mv (.t 2)), iI 19 (.bin .mul (.t 17) (.t 18)), iI 20 (.bin .add (.t 14) (.t 19)), iI 21 (.bin .mul (.c (.int .i64 2)) (.t 20)), iI 22 (.mv (.t 3)), iI 23 (.bin .add (.t 21) (.t 22)), iI 24 (.mv (.t 3)), iI 25 (.bin .mul (.c (.int .i64 2)) (.t 24)), iI 26 (.bin .quo (.t 23) (.t 25)), iI 8 (.mv (.t 26))]) .ret
def c41_2 : C := .seq (.seq (.reg [iI 9 (.mv (.t 3)), iI 10 (.bin .eql (.t 9) (.c (.int .i64 0)))]) c41_0) c41_1
def ir41 : C := .seq (.reg [iI 8 (.mv (.c (.int .i64 0)))]) c41_2
theorem fd41 : fd? Try.prog 41 = some (27, [.slot 8], ir41) := by kernel_rfl
noncomputable def f41 (a_86 : Int) (b_87 : Int) (part_88 : Int) (whole_89 : Int) : Option (Int) :=
  (if (decide (whole_89 = 0)) = true then (some a_86) else (nz? (IntKind.i64.wrap (2 * whole_89))).bind fun _ => (some (IntKind.i64.wrap ((IntKind.i64.wrap ((IntKind.i64.wrap (2 * (IntKind.i64.wrap ((IntKind.i64.wrap (a_86 * whole_89)) + (IntKind.i64.wrap ((IntKind.i64.wrap (b_87 - a_86)) * part_88)))))) + whole_89)).tdiv (IntKind.i64.wrap (2 * whole_89))))))
theorem f41_ok {a_86 : Int} {b_87 : Int} {part_88 : Int} {whole_89 : Int} {r_ : Int} (H : f41 a_86 b_87 part_88 whole_89 = some r_) : Pure Try.prog 41 [.int .i64 a_86, .int .i64 b_87, .int .i64 part_88, .int .i64 whole_89] (· = .int .i64 r_) := by
  refine Pure.walk2 fd41 none (Nat.le_of_ble_eq_true rfl) (by rfl) fun Q hQ => ?_
  simp only [f41] at H
  refine AW.rseq ?_
  try simp only [wk, wl, nc, evV, and_self, Option.map_some, reduceIte, Nat.reduceEqDiff, Nat.reduceAdd, Nat.reduceSub, Nat.reduceLeDiff, Nat.reduceBEq, Nat.reduceMul, Nat.reduceLT, Bool.and_self, Bool.true_and, Bool.not_true, Bool.not_false, Bool.false_eq_true, ne_eq, not_false_eq_true, reduceCtorEq, Int.reduceEq, List.length_map]
  refine AW.sseq ?_
  refine AW.rseq ?_
  try simp only [wk, wl, nc, evV, and_self, Option.map_some, reduceIte, Nat.reduceEqDiff, Nat.reduceAdd, Nat.reduceSub, Nat.reduceLeDiff, Nat.reduceBEq, Nat.reduceMul, Nat.reduceLT, Bool.and_self, Bool.true_and, Bool.not_true, Bool.not_false, Bool.false_eq_true, ne_eq, not_false_eq_true, reduceCtorEq, Int.reduceEq, List.length_map]
  refine AW.ifc H (by rfl) ?_ ?_ <;> clear H <;> intro H
  · refine AW.rseq ?_
    try simp only [wk, wl, nc, evV, and_self, Option.map_some, reduceIte, Nat.reduceEqDiff, Nat.reduceAdd, Nat.reduceSub, Nat.reduceLeDiff, Nat.reduceBEq, Nat.reduceMul, Nat.reduceLT, Bool.and_self, Bool.true_and, Bool.not_true, Bool.not_false, Bool.false_eq_true, ne_eq, not_false_eq_true, reduceCtorEq, Int.reduceEq, List.length_map]
    refine AW.ret ?_
    refine seqQ.ret ?_
    cases H
    exact hQ _ _ _ _ (.inr rfl) (by simp only [resVs, omap, resV, wk, wl, nc, evV, and_self, Option.map_some, reduceIte, Nat.reduceEqDiff, Nat.reduceAdd, Nat.reduceSub, Nat.reduceLeDiff, Nat.reduceBEq, Nat.reduceMul, Nat.reduceLT, Bool.and_self, Bool.true_and, Bool.not_true, Bool.not_false, Bool.false_eq_true, ne_eq, not_false_eq_true, reduceCtorEq, Int.reduceEq, List.length_map]; rfl) (hand_plain (by rfl)) (by rfl)
  · refine AW.skip ?_
    refine seqQ.norm ?_
    refine AW.rseq ?_
    try simp only [wk, wl, nc, evV, and_self, Option.map_some, reduceIte, Nat.reduceEqDiff, Nat.reduceAdd, Nat.reduceSub, Nat.reduceLeDiff, Nat.reduceBEq, Nat.reduceMul, Nat.reduceLT, Bool.and_self, Bool.true_and, Bool.not_true, Bool.not_false, Bool.false_eq_true, ne_eq, not_false_eq_true, reduceCtorEq, Int.reduceEq, List.length_map]
    refine rest_quo H ?_ <;> clear H <;> intro H
    try simp only [wk, wl, nc, evV, and_self, Option.map_some, reduceIte, Nat.reduceEqDiff, Nat.reduceAdd, Nat.reduceSub, Nat.reduceLeDiff, Nat.reduceBEq, Nat.reduceMul, Nat.reduceLT, Bool.and_self, Bool.true_and, Bool.not_true, Bool.not_false, Bool.false_eq_true, ne_eq, not_false_eq_true, reduceCtorEq, Int.reduceEq, List.length_map]
    refine AW.ret ?_
    cases H
    exact hQ _ _ _ _ (.inr rfl) (by simp only [resVs, omap, resV, wk, wl, nc, evV, and_self, Option.map_some, reduceIte, Nat.reduceEqDiff, Nat.reduceAdd, Nat.reduceSub, Nat.reduceLeDiff, Nat.reduceBEq, Nat.reduceMul, Nat.reduceLT, Bool.and_self, Bool.true_and, Bool.not_true, Bool.not_false, Bool.false_eq_true, ne_eq, not_false_eq_true, reduceCtorEq, Int.reduceEq, List.length_map]; rfl) (hand_plain (by rfl)) (by rfl)
noncomputable def f12_L1 (from_79 : Int) (to_80 : Int) (n_81 : Int) : Lp (Int × (List Int)) ((List Int)) where
  body := fun (i_98, out_99) => (if (decide (i_98 < n_81)) = true then (f41 from_79 to_80 i_98 (IntKind.i64.wrap (n_81 - 1))).bind fun r_103 => (app? 8 out_99 ([r_103])).bind fun out_104 => (some (.next ((IntKind.i64.wrap (i_98 + 1)), out_104))) else (some (.brk out_99)))
  cst := fun (i_98, out_99) => ⟨put (put (put (put (put (fun _ => .junk) 10 (.int .i64 i_98)) 9 (.row 0 0 0 out_99.length)) 2 (.int .i64 n_81)) 1 (.int .i64 to_80)) 0 (.int .i64 from_79), [.els 0 (out_99.map (AV.int .i64))]⟩
def c12_0 : C := .cond (.t 16) (.seq (.reg [iI 17 (.mv (.t 8)), iI 6 (.mv (.c (.sl 0 true []))), iI 7 (.mv (.t 17))]) .ret) (.skip)
def c12_1 : C := .seq (.reg [iI 15 (.mv (.t 8)), iI 16 (.bin .neq (.t 15) (.c (.int .i64 0)))]) c12_0
def c12_2 : C := .cond (.t 20) (.skip) (.exit 0)
def c12_3 : C := .reg [iI 21 (.mv (.t 10)), iI 22 (.bin .add (.t 21) (.c (.int .i64 1))), iI 10 (.mv (.t 22))]
def c12_4 : C := .seq (.block 1 (.reg [iI 23 (.mv (.t 9)), iI 24 (.mv (.t 0)), iI 25 (.mv (.t 1)), iI 26 (.mv (.t 10)), iI 27 (.mv (.t 2)), iI 28 (.bin .sub (.t 27) (.c (.int .i64 1))), iI 29 (.call (.c (.fn 41 [])) [(.t 24), (.t 25), (.t 26), (.t 28)]), iI 30 (.mkslp 0 1 (.int .i64 0) [(0, (.t 29))]), iI 31 (.append 0 8 (.t 23) (.t 30)), iI 9 (.mv (.t 31))])) c12_3
def c12_5 : C := .block 0 (.loop (.seq (.seq (.reg [iI 18 (.mv (.t 10)), iI 19 (.mv (.t 2)), iI 20 (.bin .lss (.t 18) (.t 19))]) c12_2) c12_4))
def c12_6 : C := .seq (.reg [iI 32 (.mv (.t 9)), iI 6 (.mv (.t 32)), iI 7 (.mv (.c (.int .i64 0)))]) .ret
def c12_7 : C := .seq (.seq (.reg [iI 10 (.mv (.c (.int .i64 0)))]) c12_5) c12_6
def c12_8 : C := .seq (.reg [iI 9 (.mv (.c (.sl 0 true [])))]) c12_7
def c12_9 : C := .seq (.seq (.reg [iI 11 (.mv (.t 0)), iI 12 (.mv (.t 1)), iI 13 (.mv (.t 2)), iI 14 (.call (.c (.fn 40 [])) [(.t 11), (.t 12), (.t 13)]), iI 8 (.mv (.t 14))]) c12_1) c12_8
def ir12 : C := .seq (.reg [iI 6 (.mv (.c (.sl 0 true []))), iI 7 (.mv (.c (.int .i64 0)))]) c12_9
theorem fd12 : fd? Try.prog 12 = some (33, [.slot 6, .slot 7], ir12) := by kernel_rfl
noncomputable def f12 (from_79 : Int) (to_80 : Int) (n_81 : Int) : Option ((List Int) × Int) :=
  (f40 from_79 to_80 n_81).bind fun r_85 => (if (decide (r_85 ≠ 0)) = true then (some ([], r_85)) else (Lp.run (f12_L1 from_79 to_80 n_81) (0, [])).bind fun out_102 => (some (out_102, 0)))
theorem f12_ok {from_79 : Int} {to_80 : Int} {n_81 : Int} {r_ : (List Int) × Int} (H : f12 from_79 to_80 n_81 = some r_) : Pure Try.prog 12 [.int .i64 from_79, .int .i64 to_80, .int .i64 n_81] (· = .tup [.fr 0 (r_.1.map (AV.int .i64)), .int .i64 r_.2]) := by
  refine Pure.walk2 fd12 (some 0) (Nat.le_of_ble_eq_true rfl) (by rfl) fun Q hQ => ?_
  simp only [f12] at H
  refine AW.rseq ?_
  try simp only [wk, wl, nc, evV, and_self, Option.map_some, reduceIte, Nat.reduceEqDiff, Nat.reduceAdd, Nat.reduceSub, Nat.reduceLeDiff, Nat.reduceBEq, Nat.reduceMul, Nat.reduceLT, Bool.and_self, Bool.true_and, Bool.not_true, Bool.not_false, Bool.false_eq_true, ne_eq, not_false_eq_true, reduceCtorEq, Int.reduceEq, List.length_map]
  refine AW.sseq ?_
  refine AW.rseq ?_
  try simp only [wk, wl, nc, evV, and_self, Option.map_some, reduceIte, Nat.reduceEqDiff, Nat.reduceAdd, Nat.reduceSub, Nat.reduceLeDiff, Nat.reduceBEq, Nat.reduceMul, Nat.reduceLT, Bool.and_self, Bool.true_and, Bool.not_true, Bool.not_false, Bool.false_eq_true, ne_eq, not_false_eq_true, reduceCtorEq, Int.reduceEq, List.length_map]
  refine evTs_pure hFn H (fun _ h => f40_ok h) (by rfl) (by rfl) (by rfl) (by rfl) (fun _ => rfl) ?_ <;> clear H <;> intro r_85 H
  try simp only [eL, wk, wl, nc, evV, and_self, Option.map_some, reduceIte, Nat.reduceEqDiff, Nat.reduceAdd, Nat.reduceSub, Nat.reduceLeDiff, Nat.reduceBEq, Nat.reduceMul, Nat.reduceLT, Bool.and_self, Bool.true_and, Bool.not_true, Bool.not_false, Bool.false_eq_true, ne_eq, not_false_eq_true, reduceCtorEq, Int.reduceEq, List.length_map]
  refine AW.rseq ?_
  try simp only [wk, wl, nc, evV, and_self, Option.map_some, reduceIte, Nat.reduceEqDiff, Nat.reduceAdd, Nat.reduceSub, Nat.reduceLeDiff, Nat.reduceBEq, Nat.reduceMul, Nat.reduceLT, Bool.and_self, Bool.true_and, Bool.not_true, Bool.not_false, Bool.false_eq_true, ne_eq, not_false_eq_true, reduceCtorEq, Int.reduceEq, List.length_map]
  refine AW.ifc H (by rfl) ?_ ?_ <;> clear H <;> intro H
  · refine AW.rseq ?_
    try simp only [wk, wl, nc, evV, and_self, Option.map_some, reduceIte, Nat.reduceEqDiff, Nat.reduceAdd, Nat.reduceSub, Nat.reduceLeDiff, Nat.reduceBEq, Nat.reduceMul, Nat.reduceLT, Bool.and_self, Bool.true_and, Bool.not_true, Bool.not_false, Bool.false_eq_true, ne_eq, not_false_eq_true, reduceCtorEq, Int.reduceEq, List.length_map]
    refine AW.ret ?_
    refine seqQ.ret ?_
    cases H
    exact hQ _ _ _ _ (.inr rfl) (by simp only [resVs, omap, resV, wk, wl, nc, evV, and_self, Option.map_some, reduceIte, Nat.reduceEqDiff, Nat.reduceAdd, Nat.reduceSub, Nat.reduceLeDiff, Nat.reduceBEq, Nat.reduceMul, Nat.reduceLT, Bool.and_self, Bool.true_and, Bool.not_true, Bool.not_false, Bool.false_eq_true, ne_eq, not_false_eq_true, reduceCtorEq, Int.reduceEq, List.length_map]; rfl) (hand_k0 (by rfl) (by rfl)) (by rfl)
  · refine AW.skip ?_
    refine seqQ.norm ?_
    refine AW.rseq ?_
    try simp only [wk, wl, nc, evV, and_self, Option.map_some, reduceIte, Nat.reduceEqDiff, Nat.reduceAdd, Nat.reduceSub, Nat.reduceLeDiff, Nat.reduceBEq, Nat.reduceMul, Nat.reduceLT, Bool.and_self, Bool.true_and, Bool.not_true, Bool.not_false, Bool.false_eq_true, ne_eq, not_false_eq_true, reduceCtorEq, Int.reduceEq, List.length_map]
    refine AW.sseq ?_
    refine AW.rseq ?_
    try simp only [wk, wl, nc, evV, and_self, Option.map_some, reduceIte, Nat.reduceEqDiff, Nat.reduceAdd, Nat.reduceSub, Nat.reduceLeDiff, Nat.reduceBEq, Nat.reduceMul, Nat.reduceLT, Bool.and_self, Bool.true_and, Bool.not_true, Bool.not_false, Bool.false_eq_true, ne_eq, not_false_eq_true, reduceCtorEq, Int.reduceEq, List.length_map]
    refine AW.bend ?_
    refine AW.iter H ((Le.trans (Le.nilRow (i := 9) (e := 0) (by simp only [wk, wl, nc, evV, and_self, Option.map_some, reduceIte, Nat.reduceEqDiff, Nat.reduceAdd, Nat.reduceSub, Nat.reduceLeDiff, Nat.reduceBEq, Nat.reduceMul, Nat.reduceLT, Bool.and_self, Bool.true_and, Bool.not_true, Bool.not_false, Bool.false_eq_true, ne_eq, not_false_eq_true, reduceCtorEq, Int.reduceEq, List.length_map])) (Le.none [0] [0, 1, 2, 9, 10] (by decide) (by simp only [f12_L1, restrict_eq, renS_nil, renS_cons, renB_els, renB_cel, renB_dead, deep_eq, map_ren_enc, ren_agg', ren_tup', ren_fn', ren_int', ren_bool', ren_str', ren_sl', ren_pro', ren_nilp', ren_nilfn', ren_junk', ren_ptr', ren_row', ren_arow', ren_eptr', vm, List.idxOf?_cons, List.idxOf?_nil, beq_self_eq_true, Option.map_none, List.getD_cons_zero, List.getD_cons_succ, wk, wl, nc, evV, and_self, Option.map_some, reduceIte, Nat.reduceEqDiff, Nat.reduceAdd, List.length_map, Nat.reduceSub, Nat.reduceLeDiff, Nat.reduceBEq, Nat.reduceMul, Nat.reduceLT, Bool.and_self, Bool.true_and, Bool.not_true, Bool.not_false, Bool.false_eq_true, ne_eq, not_false_eq_true, reduceCtorEq, Int.reduceEq])))) ?_ <;> clear H
    rintro ⟨i_98, out_99⟩ x_ st0_ H hst_
    simp only [f12_L1] at H hst_
    subst hst_
    refine AW.sseq ?_
    refine AW.rseq ?_
    try simp only [wk, wl, nc, evV, and_self, Option.map_some, reduceIte, Nat.reduceEqDiff, Nat.reduceAdd, Nat.reduceSub, Nat.reduceLeDiff, Nat.reduceBEq, Nat.reduceMul, Nat.reduceLT, Bool.and_self, Bool.true_and, Bool.not_true, Bool.not_false, Bool.false_eq_true, ne_eq, not_false_eq_true, reduceCtorEq, Int.reduceEq, List.length_map]
    refine AW.ifc H (by rfl) ?_ ?_ <;> clear H <;> intro H
    · refine AW.skip ?_
      refine seqQ.norm ?_
      refine AW.bseq ?_
      refine AW.rend ?_
      try simp only [wk, wl, nc, evV, and_self, Option.map_some, reduceIte, Nat.reduceEqDiff, Nat.reduceAdd, Nat.reduceSub, Nat.reduceLeDiff, Nat.reduceBEq, Nat.reduceMul, Nat.reduceLT, Bool.and_self, Bool.true_and, Bool.not_true, Bool.not_false, Bool.false_eq_true, ne_eq, not_false_eq_true, reduceCtorEq, Int.reduceEq, List.length_map]
      refine evTs_pure hFn H (fun _ h => f41_ok h) (by rfl) (by rfl) (by rfl) (by rfl) (fun _ => rfl) ?_ <;> clear H <;> intro r_103 H
      try simp only [eL, wk, wl, nc, evV, and_self, Option.map_some, reduceIte, Nat.reduceEqDiff, Nat.reduceAdd, Nat.reduceSub, Nat.reduceLeDiff, Nat.reduceBEq, Nat.reduceMul, Nat.reduceLT, Bool.and_self, Bool.true_and, Bool.not_true, Bool.not_false, Bool.false_eq_true, ne_eq, not_false_eq_true, reduceCtorEq, Int.reduceEq, List.length_map]
      refine evTs_app (enc := (AV.int .i64)) H (by rfl) (by rfl) (by rfl) (by rfl) ?_ <;> clear H <;> intro out_104 H
      try simp only [wk, wl, nc, evV, and_self, Option.map_some, reduceIte, Nat.reduceEqDiff, Nat.reduceAdd, Nat.reduceSub, Nat.reduceLeDiff, Nat.reduceBEq, Nat.reduceMul, Nat.reduceLT, Bool.and_self, Bool.true_and, Bool.not_true, Bool.not_false, Bool.false_eq_true, ne_eq, not_false_eq_true, reduceCtorEq, Int.reduceEq, List.length_map]
      refine blkQ.norm ?_
      refine AW.rend ?_
      try simp only [wk, wl, nc, evV, and_self, Option.map_some, reduceIte, Nat.reduceEqDiff, Nat.reduceAdd, Nat.reduceSub, Nat.reduceLeDiff, Nat.reduceBEq, Nat.reduceMul, Nat.reduceLT, Bool.and_self, Bool.true_and, Bool.not_true, Bool.not_false, Bool.false_eq_true, ne_eq, not_false_eq_true, reduceCtorEq, Int.reduceEq, List.length_map]
      exact loopQ.next H ((Le.none [1] [0, 1, 2, 9, 10] (by decide) (by simp only [f12_L1, restrict_eq, renS_nil, renS_cons, renB_els, renB_cel, renB_dead, deep_eq, map_ren_enc, ren_agg', ren_tup', ren_fn', ren_int', ren_bool', ren_str', ren_sl', ren_pro', ren_nilp', ren_nilfn', ren_junk', ren_ptr', ren_row', ren_arow', ren_eptr', vm, List.idxOf?_cons, List.idxOf?_nil, beq_self_eq_true, Option.map_none, List.getD_cons_zero, List.getD_cons_succ, wk, wl, nc, evV, and_self, Option.map_some, reduceIte, Nat.reduceEqDiff, Nat.reduceAdd, List.length_map, Nat.reduceSub, Nat.reduceLeDiff, Nat.reduceBEq, Nat.reduceMul, Nat.reduceLT, Bool.and_self, Bool.true_and, Bool.not_true, Bool.not_false, Bool.false_eq_true, ne_eq, not_false_eq_true, reduceCtorEq, Int.reduceEq])))
    · refine AW.exit ?_
      refine seqQ.exit ?_
      refine loopQ.exit H ?_ <;> clear H <;> intro H
      try dsimp only at H
      refine blk0.here ?_
      refine seqQ.norm ?_
      refine AW.rseq ?_
      try simp only [wk, wl, nc, evV, and_self, Option.map_some, reduceIte, Nat.reduceEqDiff, Nat.reduceAdd, Nat.reduceSub, Nat.reduceLeDiff, Nat.reduceBEq, Nat.reduceMul, Nat.reduceLT, Bool.and_self, Bool.true_and, Bool.not_true, Bool.not_false, Bool.false_eq_true, ne_eq, not_false_eq_true, reduceCtorEq, Int.reduceEq, List.length_map]
      refine AW.ret ?_
      cases H
      exact hQ _ _ _ _ (.inr rfl) (by simp only [resVs, omap, resV, wk, wl, nc, evV, and_self, Option.map_some, reduceIte, Nat.reduceEqDiff, Nat.reduceAdd, Nat.reduceSub, Nat.reduceLeDiff, Nat.reduceBEq, Nat.reduceMul, Nat.reduceLT, Bool.and_self, Bool.true_and, Bool.not_true, Bool.not_false, Bool.false_eq_true, ne_eq, not_false_eq_true, reduceCtorEq, Int.reduceEq, List.length_map]; rfl) (hand_k (by rfl) (by rfl) (by simp) (enc_all _) (by rfl)) (by rfl)
theorem f12_im {from_79 : Int} {to_80 : Int} {n_81 : Int} {r_ : (List Int) × Int} (H : f12 from_79 to_80 n_81 = some r_) : Pure Try.prog 12 [.int .i64 from_79, .int .i64 to_80, .int .i64 n_81] (· = .tup [.sl 0 false (r_.1.map (AV.int .i64)), .int .i64 r_.2]) := (f12_ok H).unfr (by first | exact enc_fits _ | simp only [frFits, List.all_cons, List.all_nil, enc_fits, Bool.and_self])
def c42_0 : C := .seq (.reg [iI 5 (.mv (.t 0)), iI 6 (.bin .mul (.c (.int .i64 2)) (.t 5)), iI 7 (.load 0 (.t 1)), iI 8 (.bin .sub (.t 7) (.c (.int .i64 1))), iI 9 (.bin .sub (.t 6) (.t 8)), iI 10 (.load 0 (.t 1)), iI 11 (.bin .sub (.t 10) (.c (.int .i64 1))), iI 12 (.mv (.t 0)), iI 13 (.bin .mul (.c (.int .i64 2)) (.t 12)), iI 14 (.bin .sub (.t 11) (.t 13)), iI 15 (.maxmin true (.t 9) [(.t 14)]), iI 16 (.load 0 (.t 2)), iI 17 (.bin .sub (.t 15) (.t 16)), iI 4 (.mv (.t 17))]) .ret
def ir42 : C := .seq (.reg [iI 4 (.mv (.c (.int .i64 0)))]) c42_0
theorem fd42 : fd? Try.prog 42 = some (18, [.slot 4], ir42) := by kernel_rfl
noncomputable def f42p (i_117 : Int) (c_118 : Int) (c_119 : Int) : Option (Int) :=
  (some (IntKind.i64.wrap ((if (IntKind.i64.wrap ((IntKind.i64.wrap (c_118 - 1)) - (IntKind.i64.wrap (2 * i_117)))) > (IntKind.i64.wrap ((IntKind.i64.wrap (2 * i_117)) - (IntKind.i64.wrap (c_118 - 1)))) then (IntKind.i64.wrap ((IntKind.i64.wrap (c_118 - 1)) - (IntKind.i64.wrap (2 * i_117)))) else (IntKind.i64.wrap ((IntKind.i64.wrap (2 * i_117)) - (IntKind.i64.wrap (c_118 - 1))))) - c_119)))
theorem f42p_ok {i_117 : Int} {c_118 : Int} {c_119 : Int} {r_ : Int} (H : f42p i_117 c_118 c_119 = some r_) : Pure Try.prog 42 [.int .i64 i_117, .pro [.int .i64 c_118], .pro [.int .i64 c_119]] (· = .int .i64 r_) := by
  refine Pure.walk2 fd42 none (Nat.le_of_ble_eq_true rfl) (by rfl) fun Q hQ => ?_
  simp only [f42p] at H
  refine AW.rseq ?_
  try simp only [wk, wl, nc, evV, and_self, Option.map_some, reduceIte, Nat.reduceEqDiff, Nat.reduceAdd, Nat.reduceSub, Nat.reduceLeDiff, Nat.reduceBEq, Nat.reduceMul, Nat.reduceLT, Bool.and_self, Bool.true_and, Bool.not_true, Bool.not_false, Bool.false_eq_true, ne_eq, not_false_eq_true, reduceCtorEq, Int.reduceEq, List.length_map]
  refine AW.rseq ?_
  try simp only [wk, wl, nc, evV, and_self, Option.map_some, reduceIte, Nat.reduceEqDiff, Nat.reduceAdd, Nat.reduceSub, Nat.reduceLeDiff, Nat.reduceBEq, Nat.reduceMul, Nat.reduceLT, Bool.and_self, Bool.true_and, Bool.not_true, Bool.not_false, Bool.false_eq_true, ne_eq, not_false_eq_true, reduceCtorEq, Int.reduceEq, List.length_map]
  refine AW.ret ?_
  cases H
  exact hQ _ _ _ _ (.inr rfl) (by simp only [resVs, omap, resV, wk, wl, nc, evV, and_self, Option.map_some, reduceIte, Nat.reduceEqDiff, Nat.reduceAdd, Nat.reduceSub, Nat.reduceLeDiff, Nat.reduceBEq, Nat.reduceMul, Nat.reduceLT, Bool.and_self, Bool.true_and, Bool.not_true, Bool.not_false, Bool.false_eq_true, ne_eq, not_false_eq_true, reduceCtorEq, Int.reduceEq, List.length_map]; rfl) (hand_plain (by rfl)) (by rfl)
noncomputable def f38_42_L1 (from_109 : Int) (to_110 : Int) (n_111 : Int) (whole_112 : Int) (part_113 : Int) (part_114 : Int) : Lp (Int × (List Int)) ((List Int)) where
  body := fun (v_134, out_135) => (if (decide (v_134 < n_111)) = true then (if (decide (0 < whole_112)) = true then (f42p v_134 part_113 part_114).bind fun r_141 => (nz? (IntKind.i64.wrap (2 * whole_112))).bind fun _ => (nz? (IntKind.i64.wrap (2 * whole_112))).bind fun _ => (if (decide (((IntKind.i64.wrap ((IntKind.i64.wrap ((IntKind.i64.wrap (2 * (IntKind.i64.wrap (to_110 - from_109)))) * r_141)) + whole_112)).tmod (IntKind.i64.wrap (2 * whole_112))) < 0)) = true then (app? 8 out_135 ([(IntKind.i64.wrap ((IntKind.i64.wrap (from_109 + (IntKind.i64.wrap ((IntKind.i64.wrap ((IntKind.i64.wrap ((IntKind.i64.wrap (2 * (IntKind.i64.wrap (to_110 - from_109)))) * r_141)) + whole_112)).tdiv (IntKind.i64.wrap (2 * whole_112)))))) - 1))])).bind fun out_142 => (some (.next ((IntKind.i64.wrap (v_134 + 1)), out_142))) else (app? 8 out_135 ([(IntKind.i64.wrap (from_109 + (IntKind.i64.wrap ((IntKind.i64.wrap ((IntKind.i64.wrap ((IntKind.i64.wrap (2 * (IntKind.i64.wrap (to_110 - from_109)))) * r_141)) + whole_112)).tdiv (IntKind.i64.wrap (2 * whole_112))))))])).bind fun out_143 => (some (.next ((IntKind.i64.wrap (v_134 + 1)), out_143)))) else (app? 8 out_135 ([from_109])).bind fun out_144 => (some (.next ((IntKind.i64.wrap (v_134 + 1)), out_144)))) else (some (.brk out_135)))
  cst := fun (v_134, out_135) => ⟨put (put (put (put (put (put (put (fun _ => .junk) 36 (.int .i64 v_134)) 35 (.int .i64 n_111)) 13 (.row 0 0 0 out_135.length)) 4 (.fn 42 [.pro [.int .i64 part_113], .pro [.int .i64 part_114]])) 3 (.int .i64 whole_112)) 1 (.int .i64 to_110)) 0 (.int .i64 from_109), [.els 0 (out_135.map (AV.int .i64))]⟩
noncomputable def f38_42 (from_109 : Int) (to_110 : Int) (n_111 : Int) (whole_112 : Int) (part_113 : Int) (part_114 : Int) : Option ((List Int) × Int) :=
  (f60 from_109).bind fun r_115 => (if (!r_115) = true then (some ([], 2)) else (f60 to_110).bind fun r_116 => (if (!r_116) = true then (some ([], 2)) else (if (decide (n_111 < 0)) = true then (some ([], 2)) else (if (decide (256 < n_111)) = true then (some ([], 2)) else (Lp.run (f38_42_L1 from_109 to_110 n_111 whole_112 part_113 part_114) (0, [])).bind fun out_140 => (some (out_140, 0))))))
theorem f38_42_ok {from_109 : Int} {to_110 : Int} {n_111 : Int} {whole_112 : Int} {part_113 : Int} {part_114 : Int} {r_ : (List Int) × Int} (H : f38_42 from_109 to_110 n_111 whole_112 part_113 part_114 = some r_) : Pure Try.prog 38 [.int .i64 from_109, .int .i64 to_110, .int .i64 n_111, .int .i64 whole_112, .fn 42 [.pro [.int .i64 part_113], .pro [.int .i64 part_114]]] (· = .tup [.fr 0 (r_.1.map (AV.int .i64)), .int .i64 r_.2]) := by
  refine Pure.walk2 fd38 (some 0) (Nat.le_of_ble_eq_true rfl) (by rfl) fun Q hQ => ?_
  simp only [f38_42] at H
  refine AW.rseq ?_
  try simp only [wk, wl, nc, evV, and_self, Option.map_some, reduceIte, Nat.reduceEqDiff, Nat.reduceAdd, Nat.reduceSub, Nat.reduceLeDiff, Nat.reduceBEq, Nat.reduceMul, Nat.reduceLT, Bool.and_self, Bool.true_and, Bool.not_true, Bool.not_false, Bool.false_eq_true, ne_eq, not_false_eq_true, reduceCtorEq, Int.reduceEq, List.length_map]
  refine AW.rseq ?_
  try simp only [wk, wl, nc, evV, and_self, Option.map_some, reduceIte, Nat.reduceEqDiff, Nat.reduceAdd, Nat.reduceSub, Nat.reduceLeDiff, Nat.reduceBEq, Nat.reduceMul, Nat.reduceLT, Bool.and_self, Bool.true_and, Bool.not_true, Bool.not_false, Bool.false_eq_true, ne_eq, not_false_eq_true, reduceCtorEq, Int.reduceEq, List.length_map]
  refine AW.sseq ?_
  refine AW.rseq ?_
  try simp only [wk, wl, nc, evV, and_self, Option.map_some, reduceIte, Nat.reduceEqDiff, Nat.reduceAdd, Nat.reduceSub, Nat.reduceLeDiff, Nat.reduceBEq, Nat.reduceMul, Nat.reduceLT, Bool.and_self, Bool.true_and, Bool.not_true, Bool.not_false, Bool.false_eq_true, ne_eq, not_false_eq_true, reduceCtorEq, Int.reduceEq, List.length_map]
  refine evTs_pure hFn H (fun _ h => f60_ok h) (by rfl) (by rfl) (by rfl) (by rfl) (fun _ => rfl) ?_ <;> clear H <;> intro r_115 H
  try simp only [eL, wk, wl, nc, evV, and_self, Option.map_some, reduceIte, Nat.reduceEqDiff, Nat.reduceAdd, Nat.reduceSub, Nat.reduceLeDiff, Nat.reduceBEq, Nat.reduceMul, Nat.reduceLT, Bool.and_self, Bool.true_and, Bool.not_true, Bool.not_false, Bool.false_eq_true, ne_eq, not_false_eq_true, reduceCtorEq, Int.reduceEq, List.length_map]
  refine evTs_ifg H (by rfl) ?_ ?_ <;> clear H <;> intro H
  · try simp only [wk, wl, nc, evV, and_self, Option.map_some, reduceIte, Nat.reduceEqDiff, Nat.reduceAdd, Nat.reduceSub, Nat.reduceLeDiff, Nat.reduceBEq, Nat.reduceMul, Nat.reduceLT, Bool.and_self, Bool.true_and, Bool.not_true, Bool.not_false, Bool.false_eq_true, ne_eq, not_false_eq_true, reduceCtorEq, Int.reduceEq, List.length_map]
    refine AW.ift (by rfl) ?_
    refine AW.rseq ?_
    try simp only [wk, wl, nc, evV, and_self, Option.map_some, reduceIte, Nat.reduceEqDiff, Nat.reduceAdd, Nat.reduceSub, Nat.reduceLeDiff, Nat.reduceBEq, Nat.reduceMul, Nat.reduceLT, Bool.and_self, Bool.true_and, Bool.not_true, Bool.not_false, Bool.false_eq_true, ne_eq, not_false_eq_true, reduceCtorEq, Int.reduceEq, List.length_map]
    refine AW.ret ?_
    refine seqQ.ret ?_
    cases H
    exact hQ _ _ _ _ (.inr rfl) (by simp only [resVs, omap, resV, wk, wl, nc, evV, and_self, Option.map_some, reduceIte, Nat.reduceEqDiff, Nat.reduceAdd, Nat.reduceSub, Nat.reduceLeDiff, Nat.reduceBEq, Nat.reduceMul, Nat.reduceLT, Bool.and_self, Bool.true_and, Bool.not_true, Bool.not_false, Bool.false_eq_true, ne_eq, not_false_eq_true, reduceCtorEq, Int.reduceEq, List.length_map]; rfl) (hand_k0 (by rfl) (by rfl)) (by rfl)
  · try simp only [wk, wl, nc, evV, and_self, Option.map_some, reduceIte, Nat.reduceEqDiff, Nat.reduceAdd, Nat.reduceSub, Nat.reduceLeDiff, Nat.reduceBEq, Nat.reduceMul, Nat.reduceLT, Bool.and_self, Bool.true_and, Bool.not_true, Bool.not_false, Bool.false_eq_true, ne_eq, not_false_eq_true, reduceCtorEq, Int.reduceEq, List.length_map]
    refine evTs_pure hFn H (fun _ h => f60_ok h) (by rfl) (by rfl) (by rfl) (by rfl) (fun _ => rfl) ?_ <;> clear H <;> intro r_116 H
    try simp only [eL, wk, wl, nc, evV, and_self, Option.map_some, reduceIte, Nat.reduceEqDiff, Nat.reduceAdd, Nat.reduceSub, Nat.reduceLeDiff, Nat.reduceBEq, Nat.reduceMul, Nat.reduceLT, Bool.and_self, Bool.true_and, Bool.not_true, Bool.not_false, Bool.false_eq_true, ne_eq, not_false_eq_true, reduceCtorEq, Int.reduceEq, List.length_map]
    refine evTs_ifg H (by rfl) ?_ ?_ <;> clear H <;> intro H
    · try simp only [wk, wl, nc, evV, and_self, Option.map_some, reduceIte, Nat.reduceEqDiff, Nat.reduceAdd, Nat.reduceSub, Nat.reduceLeDiff, Nat.reduceBEq, Nat.reduceMul, Nat.reduceLT, Bool.and_self, Bool.true_and, Bool.not_true, Bool.not_false, Bool.false_eq_true, ne_eq, not_false_eq_true, reduceCtorEq, Int.reduceEq, List.length_map]
      refine AW.ift (by rfl) ?_
      refine AW.rseq ?_
      try simp only [wk, wl, nc, evV, and_self, Option.map_some, reduceIte, Nat.reduceEqDiff, Nat.reduceAdd, Nat.reduceSub, Nat.reduceLeDiff, Nat.reduceBEq, Nat.reduceMul, Nat.reduceLT, Bool.and_self, Bool.true_and, Bool.not_true, Bool.not_false, Bool.false_eq_true, ne_eq, not_false_eq_true, reduceCtorEq, Int.reduceEq, List.length_map]
      refine AW.ret ?_
      refine seqQ.ret ?_
      cases H
      exact hQ _ _ _ _ (.inr rfl) (by simp only [resVs, omap, resV, wk, wl, nc, evV, and_self, Option.map_some, reduceIte, Nat.reduceEqDiff, Nat.reduceAdd, Nat.reduceSub, Nat.reduceLeDiff, Nat.reduceBEq, Nat.reduceMul, Nat.reduceLT, Bool.and_self, Bool.true_and, Bool.not_true, Bool.not_false, Bool.false_eq_true, ne_eq, not_false_eq_true, reduceCtorEq, Int.reduceEq, List.length_map]; rfl) (hand_k0 (by rfl) (by rfl)) (by rfl)
    · try simp only [wk, wl, nc, evV, and_self, Option.map_some, reduceIte, Nat.reduceEqDiff, Nat.reduceAdd, Nat.reduceSub, Nat.reduceLeDiff, Nat.reduceBEq, Nat.reduceMul, Nat.reduceLT, Bool.and_self, Bool.true_and, Bool.not_true, Bool.not_false, Bool.false_eq_true, ne_eq, not_false_eq_true, reduceCtorEq, Int.reduceEq, List.length_map]
      refine evTs_ifg H (by rfl) ?_ ?_ <;> clear H <;> intro H
      · try simp only [wk, wl, nc, evV, and_self, Option.map_some, reduceIte, Nat.reduceEqDiff, Nat.reduceAdd, Nat.reduceSub, Nat.reduceLeDiff, Nat.reduceBEq, Nat.reduceMul, Nat.reduceLT, Bool.and_self, Bool.true_and, Bool.not_true, Bool.not_false, Bool.false_eq_true, ne_eq, not_false_eq_true, reduceCtorEq, Int.reduceEq, List.length_map]
        refine AW.ift (by rfl) ?_
        refine AW.rseq ?_
        try simp only [wk, wl, nc, evV, and_self, Option.map_some, reduceIte, Nat.reduceEqDiff, Nat.reduceAdd, Nat.reduceSub, Nat.reduceLeDiff, Nat.reduceBEq, Nat.reduceMul, Nat.reduceLT, Bool.and_self, Bool.true_and, Bool.not_true, Bool.not_false, Bool.false_eq_true, ne_eq, not_false_eq_true, reduceCtorEq, Int.reduceEq, List.length_map]
        refine AW.ret ?_
        refine seqQ.ret ?_
        cases H
        exact hQ _ _ _ _ (.inr rfl) (by simp only [resVs, omap, resV, wk, wl, nc, evV, and_self, Option.map_some, reduceIte, Nat.reduceEqDiff, Nat.reduceAdd, Nat.reduceSub, Nat.reduceLeDiff, Nat.reduceBEq, Nat.reduceMul, Nat.reduceLT, Bool.and_self, Bool.true_and, Bool.not_true, Bool.not_false, Bool.false_eq_true, ne_eq, not_false_eq_true, reduceCtorEq, Int.reduceEq, List.length_map]; rfl) (hand_k0 (by rfl) (by rfl)) (by rfl)
      · try simp only [wk, wl, nc, evV, and_self, Option.map_some, reduceIte, Nat.reduceEqDiff, Nat.reduceAdd, Nat.reduceSub, Nat.reduceLeDiff, Nat.reduceBEq, Nat.reduceMul, Nat.reduceLT, Bool.and_self, Bool.true_and, Bool.not_true, Bool.not_false, Bool.false_eq_true, ne_eq, not_false_eq_true, reduceCtorEq, Int.reduceEq, List.length_map]
        refine AW.ifc H (by rfl) ?_ ?_ <;> clear H <;> intro H
        · refine AW.rseq ?_
          try simp only [wk, wl, nc, evV, and_self, Option.map_some, reduceIte, Nat.reduceEqDiff, Nat.reduceAdd, Nat.reduceSub, Nat.reduceLeDiff, Nat.reduceBEq, Nat.reduceMul, Nat.reduceLT, Bool.and_self, Bool.true_and, Bool.not_true, Bool.not_false, Bool.false_eq_true, ne_eq, not_false_eq_true, reduceCtorEq, Int.reduceEq, List.length_map]
          refine AW.ret ?_
          refine seqQ.ret ?_
          cases H
          exact hQ _ _ _ _ (.inr rfl) (by simp only [resVs, omap, resV, wk, wl, nc, evV, and_self, Option.map_some, reduceIte, Nat.reduceEqDiff, Nat.reduceAdd, Nat.reduceSub, Nat.reduceLeDiff, Nat.reduceBEq, Nat.reduceMul, Nat.reduceLT, Bool.and_self, Bool.true_and, Bool.not_true, Bool.not_false, Bool.false_eq_true, ne_eq, not_false_eq_true, reduceCtorEq, Int.reduceEq, List.length_map]; rfl) (hand_k0 (by rfl) (by rfl)) (by rfl)
        · refine AW.skip ?_
          refine seqQ.norm ?_
          refine AW.rseq ?_
          try simp only [wk, wl, nc, evV, and_self, Option.map_some, reduceIte, Nat.reduceEqDiff, Nat.reduceAdd, Nat.reduceSub, Nat.reduceLeDiff, Nat.reduceBEq, Nat.reduceMul, Nat.reduceLT, Bool.and_self, Bool.true_and, Bool.not_true, Bool.not_false, Bool.false_eq_true, ne_eq, not_false_eq_true, reduceCtorEq, Int.reduceEq, List.length_map]
          refine AW.sseq ?_
          refine AW.rseq ?_
          try simp only [wk, wl, nc, evV, and_self, Option.map_some, reduceIte, Nat.reduceEqDiff, Nat.reduceAdd, Nat.reduceSub, Nat.reduceLeDiff, Nat.reduceBEq, Nat.reduceMul, Nat.reduceLT, Bool.and_self, Bool.true_and, Bool.not_true, Bool.not_false, Bool.false_eq_true, ne_eq, not_false_eq_true, reduceCtorEq, Int.reduceEq, List.length_map]
          refine AW.bend ?_
          refine AW.iter H ((Le.trans (Le.nilRow (i := 13) (e := 0) (by simp only [wk, wl, nc, evV, and_self, Option.map_some, reduceIte, Nat.reduceEqDiff, Nat.reduceAdd, Nat.reduceSub, Nat.reduceLeDiff, Nat.reduceBEq, Nat.reduceMul, Nat.reduceLT, Bool.and_self, Bool.true_and, Bool.not_true, Bool.not_false, Bool.false_eq_true, ne_eq, not_false_eq_true, reduceCtorEq, Int.reduceEq, List.length_map])) (Le.none [0] [0, 1, 3, 4, 13, 35, 36] (by decide) (by simp only [f38_42_L1, restrict_eq, renS_nil, renS_cons, renB_els, renB_cel, renB_dead, deep_eq, map_ren_enc, ren_agg', ren_tup', ren_fn', ren_int', ren_bool', ren_str', ren_sl', ren_pro', ren_nilp', ren_nilfn', ren_junk', ren_ptr', ren_row', ren_arow', ren_eptr', vm, List.idxOf?_cons, List.idxOf?_nil, beq_self_eq_true, Option.map_none, List.getD_cons_zero, List.getD_cons_succ, wk, wl, nc, evV, and_self, Option.map_some, reduceIte, Nat.reduceEqDiff, Nat.reduceAdd, List.length_map, Nat.reduceSub, Nat.reduceLeDiff, Nat.reduceBEq, Nat.reduceMul, Nat.reduceLT, Bool.and_self, Bool.true_and, Bool.not_true, Bool.not_false, Bool.false_eq_true, ne_eq, not_false_eq_true, reduceCtorEq, Int.reduceEq])))) ?_ <;> clear H
          rintro ⟨v_134, out_135⟩ x_ st0_ H hst_
          simp only [f38_42_L1] at H hst_
          subst hst_
          refine AW.rseq ?_
          try simp only [wk, wl, nc, evV, and_self, Option.map_some, reduceIte, Nat.reduceEqDiff, Nat.reduceAdd, Nat.reduceSub, Nat.reduceLeDiff, Nat.reduceBEq, Nat.reduceMul, Nat.reduceLT, Bool.and_self, Bool.true_and, Bool.not_true, Bool.not_false, Bool.false_eq_true, ne_eq, not_false_eq_true, reduceCtorEq, Int.reduceEq, List.length_map]
          refine AW.sseq ?_
          refine AW.ifc H (by rfl) ?_ ?_ <;> clear H <;> intro H
          · refine AW.skip ?_
            refine seqQ.norm ?_
            refine AW.bseq ?_
            refine AW.rseq ?_
            try simp only [wk, wl, nc, evV, and_self, Option.map_some, reduceIte, Nat.reduceEqDiff, Nat.reduceAdd, Nat.reduceSub, Nat.reduceLeDiff, Nat.reduceBEq, Nat.reduceMul, Nat.reduceLT, Bool.and_self, Bool.true_and, Bool.not_true, Bool.not_false, Bool.false_eq_true, ne_eq, not_false_eq_true, reduceCtorEq, Int.reduceEq, List.length_map]
            refine AW.rseq ?_
            try simp only [wk, wl, nc, evV, and_self, Option.map_some, reduceIte, Nat.reduceEqDiff, Nat.reduceAdd, Nat.reduceSub, Nat.reduceLeDiff, Nat.reduceBEq, Nat.reduceMul, Nat.reduceLT, Bool.and_self, Bool.true_and, Bool.not_true, Bool.not_false, Bool.false_eq_true, ne_eq, not_false_eq_true, reduceCtorEq, Int.reduceEq, List.length_map]
            refine AW.sseq ?_
            refine AW.rseq ?_
            try simp only [wk, wl, nc, evV, and_self, Option.map_some, reduceIte, Nat.reduceEqDiff, Nat.reduceAdd, Nat.reduceSub, Nat.reduceLeDiff, Nat.reduceBEq, Nat.reduceMul, Nat.reduceLT, Bool.and_self, Bool.true_and, Bool.not_true, Bool.not_false, Bool.false_eq_true, ne_eq, not_false_eq_true, reduceCtorEq, Int.reduceEq, List.length_map]
            refine AW.ifc H (by rfl) ?_ ?_ <;> clear H <;> intro H
            · refine AW.rseq ?_
              try simp only [wk, wl, nc, evV, and_self, Option.map_some, reduceIte, Nat.reduceEqDiff, Nat.reduceAdd, Nat.reduceSub, Nat.reduceLeDiff, Nat.reduceBEq, Nat.reduceMul, Nat.reduceLT, Bool.and_self, Bool.true_and, Bool.not_true, Bool.not_false, Bool.false_eq_true, ne_eq, not_false_eq_true, reduceCtorEq, Int.reduceEq, List.length_map]
              refine evTs_pure hFn H (fun _ h => f42p_ok h) (by rfl) (by rfl) (by rfl) (by rfl) (fun _ => rfl) ?_ <;> clear H <;> intro r_141 H
              try simp only [eL, wk, wl, nc, evV, and_self, Option.map_some, reduceIte, Nat.reduceEqDiff, Nat.reduceAdd, Nat.reduceSub, Nat.reduceLeDiff, Nat.reduceBEq, Nat.reduceMul, Nat.reduceLT, Bool.and_self, Bool.true_and, Bool.not_true, Bool.not_false, Bool.false_eq_true, ne_eq, not_false_eq_true, reduceCtorEq, Int.reduceEq, List.length_map]
              refine AW.rseq ?_
              try simp only [wk, wl, nc, evV, and_self, Option.map_some, reduceIte, Nat.reduceEqDiff, Nat.reduceAdd, Nat.reduceSub, Nat.reduceLeDiff, Nat.reduceBEq, Nat.reduceMul, Nat.reduceLT, Bool.and_self, Bool.true_and, Bool.not_true, Bool.not_false, Bool.false_eq_true, ne_eq, not_false_eq_true, reduceCtorEq, Int.reduceEq, List.length_map]
              refine rest_quo H ?_ <;> clear H <;> intro H
              try simp only [wk, wl, nc, evV, and_self, Option.map_some, reduceIte, Nat.reduceEqDiff, Nat.reduceAdd, Nat.reduceSub, Nat.reduceLeDiff, Nat.reduceBEq, Nat.reduceMul, Nat.reduceLT, Bool.and_self, Bool.true_and, Bool.not_true, Bool.not_false, Bool.false_eq_true, ne_eq, not_false_eq_true, reduceCtorEq, Int.reduceEq, List.length_map]
              refine AW.rseq ?_
              try simp only [wk, wl, nc, evV, and_self, Option.map_some, reduceIte, Nat.reduceEqDiff, Nat.reduceAdd, Nat.reduceSub, Nat.reduceLeDiff, Nat.reduceBEq, Nat.reduceMul, Nat.reduceLT, Bool.and_self, Bool.true_and, Bool.not_true, Bool.not_false, Bool.false_eq_true, ne_eq, not_false_eq_true, reduceCtorEq, Int.reduceEq, List.length_map]
              refine rest_rem H ?_ <;> clear H <;> intro H
              try simp only [wk, wl, nc, evV, and_self, Option.map_some, reduceIte, Nat.reduceEqDiff, Nat.reduceAdd, Nat.reduceSub, Nat.reduceLeDiff, Nat.reduceBEq, Nat.reduceMul, Nat.reduceLT, Bool.and_self, Bool.true_and, Bool.not_true, Bool.not_false, Bool.false_eq_true, ne_eq, not_false_eq_true, reduceCtorEq, Int.reduceEq, List.length_map]
              refine AW.ifc H (by rfl) ?_ ?_ <;> clear H <;> intro H
              · refine AW.rend ?_
                try simp only [wk, wl, nc, evV, and_self, Option.map_some, reduceIte, Nat.reduceEqDiff, Nat.reduceAdd, Nat.reduceSub, Nat.reduceLeDiff, Nat.reduceBEq, Nat.reduceMul, Nat.reduceLT, Bool.and_self, Bool.true_and, Bool.not_true, Bool.not_false, Bool.false_eq_true, ne_eq, not_false_eq_true, reduceCtorEq, Int.reduceEq, List.length_map]
                refine seqQ.norm ?_
                refine AW.rend ?_
                try simp only [wk, wl, nc, evV, and_self, Option.map_some, reduceIte, Nat.reduceEqDiff, Nat.reduceAdd, Nat.reduceSub, Nat.reduceLeDiff, Nat.reduceBEq, Nat.reduceMul, Nat.reduceLT, Bool.and_self, Bool.true_and, Bool.not_true, Bool.not_false, Bool.false_eq_true, ne_eq, not_false_eq_true, reduceCtorEq, Int.reduceEq, List.length_map]
                refine evTs_app (enc := (AV.int .i64)) H (by rfl) (by rfl) (by rfl) (by rfl) ?_ <;> clear H <;> intro out_142 H
                try simp only [wk, wl, nc, evV, and_self, Option.map_some, reduceIte, Nat.reduceEqDiff, Nat.reduceAdd, Nat.reduceSub, Nat.reduceLeDiff, Nat.reduceBEq, Nat.reduceMul, Nat.reduceLT, Bool.and_self, Bool.true_and, Bool.not_true, Bool.not_false, Bool.false_eq_true, ne_eq, not_false_eq_true, reduceCtorEq, Int.reduceEq, List.length_map]
                refine blkQ.norm ?_
                refine AW.rend ?_
                try simp only [wk, wl, nc, evV, and_self, Option.map_some, reduceIte, Nat.reduceEqDiff, Nat.reduceAdd, Nat.reduceSub, Nat.reduceLeDiff, Nat.reduceBEq, Nat.reduceMul, Nat.reduceLT, Bool.and_self, Bool.true_and, Bool.not_true, Bool.not_false, Bool.false_eq_true, ne_eq, not_false_eq_true, reduceCtorEq, Int.reduceEq, List.length_map]
                exact loopQ.next H ((Le.none [1] [0, 1, 3, 4, 13, 35, 36] (by decide) (by simp only [f38_42_L1, restrict_eq, renS_nil, renS_cons, renB_els, renB_cel, renB_dead, deep_eq, map_ren_enc, ren_agg', ren_tup', ren_fn', ren_int', ren_bool', ren_str', ren_sl', ren_pro', ren_nilp', ren_nilfn', ren_junk', ren_ptr', ren_row', ren_arow', ren_eptr', vm, List.idxOf?_cons, List.idxOf?_nil, beq_self_eq_true, Option.map_none, List.getD_cons_zero, List.getD_cons_succ, wk, wl, nc, evV, and_self, Option.map_some, reduceIte, Nat.reduceEqDiff, Nat.reduceAdd, List.length_map, Nat.reduceSub, Nat.reduceLeDiff, Nat.reduceBEq, Nat.reduceMul, Nat.reduceLT, Bool.and_self, Bool.true_and, Bool.not_true, Bool.not_false, Bool.false_eq_true, ne_eq, not_false_eq_true, reduceCtorEq, Int.reduceEq])))
              · refine AW.skip ?_
                refine seqQ.norm ?_
                refine AW.rend ?_
                try simp only [wk, wl, nc, evV, and_self, Option.map_some, reduceIte, Nat.reduceEqDiff, Nat.reduceAdd, Nat.reduceSub, Nat.reduceLeDiff, Nat.reduceBEq, Nat.reduceMul, Nat.reduceLT, Bool.and_self, Bool.true_and, Bool.not_true, Bool.not_false, Bool.false_eq_true, ne_eq, not_false_eq_true, reduceCtorEq, Int.reduceEq, List.length_map]
                refine evTs_app (enc := (AV.int .i64)) H (by rfl) (by rfl) (by rfl) (by rfl) ?_ <;> clear H <;> intro out_143 H
                try simp only [wk, wl, nc, evV, and_self, Option.map_some, reduceIte, Nat.reduceEqDiff, Nat.reduceAdd, Nat.reduceSub, Nat.reduceLeDiff, Nat.reduceBEq, Nat.reduceMul, Nat.reduceLT, Bool.and_self, Bool.true_and, Bool.not_true, Bool.not_false, Bool.false_eq_true, ne_eq, not_false_eq_true, reduceCtorEq, Int.reduceEq, List.length_map]
                refine blkQ.norm ?_
                refine AW.rend ?_
                try simp only [wk, wl, nc, evV, and_self, Option.map_some, reduceIte, Nat.reduceEqDiff, Nat.reduceAdd, Nat.reduceSub, Nat.reduceLeDiff, Nat.reduceBEq, Nat.reduceMul, Nat.reduceLT, Bool.and_self, Bool.true_and, Bool.not_true, Bool.not_false, Bool.false_eq_true, ne_eq, not_false_eq_true, reduceCtorEq, Int.reduceEq, List.length_map]
                exact loopQ.next H ((Le.none [1] [0, 1, 3, 4, 13, 35, 36] (by decide) (by simp only [f38_42_L1, restrict_eq, renS_nil, renS_cons, renB_els, renB_cel, renB_dead, deep_eq, map_ren_enc, ren_agg', ren_tup', ren_fn', ren_int', ren_bool', ren_str', ren_sl', ren_pro', ren_nilp', ren_nilfn', ren_junk', ren_ptr', ren_row', ren_arow', ren_eptr', vm, List.idxOf?_cons, List.idxOf?_nil, beq_self_eq_true, Option.map_none, List.getD_cons_zero, List.getD_cons_succ, wk, wl, nc, evV, and_self, Option.map_some, reduceIte, Nat.reduceEqDiff, Nat.reduceAdd, List.length_map, Nat.reduceSub, Nat.reduceLeDiff, Nat.reduceBEq, Nat.reduceMul, Nat.reduceLT, Bool.and_self, Bool.true_and, Bool.not_true, Bool.not_false, Bool.false_eq_true, ne_eq, not_false_eq_true, reduceCtorEq, Int.reduceEq])))
            · refine AW.skip ?_
              refine seqQ.norm ?_
              refine AW.rend ?_
              try simp only [wk, wl, nc, evV, and_self, Option.map_some, reduceIte, Nat.reduceEqDiff, Nat.reduceAdd, Nat.reduceSub, Nat.reduceLeDiff, Nat.reduceBEq, Nat.reduceMul, Nat.reduceLT, Bool.and_self, Bool.true_and, Bool.not_true, Bool.not_false, Bool.false_eq_true, ne_eq, not_false_eq_true, reduceCtorEq, Int.reduceEq, List.length_map]
              refine evTs_app (enc := (AV.int .i64)) H (by rfl) (by rfl) (by rfl) (by rfl) ?_ <;> clear H <;> intro out_144 H
              try simp only [wk, wl, nc, evV, and_self, Option.map_some, reduceIte, Nat.reduceEqDiff, Nat.reduceAdd, Nat.reduceSub, Nat.reduceLeDiff, Nat.reduceBEq, Nat.reduceMul, Nat.reduceLT, Bool.and_self, Bool.true_and, Bool.not_true, Bool.not_false, Bool.false_eq_true, ne_eq, not_false_eq_true, reduceCtorEq, Int.reduceEq, List.length_map]
              refine blkQ.norm ?_
              refine AW.rend ?_
              try simp only [wk, wl, nc, evV, and_self, Option.map_some, reduceIte, Nat.reduceEqDiff, Nat.reduceAdd, Nat.reduceSub, Nat.reduceLeDiff, Nat.reduceBEq, Nat.reduceMul, Nat.reduceLT, Bool.and_self, Bool.true_and, Bool.not_true, Bool.not_false, Bool.false_eq_true, ne_eq, not_false_eq_true, reduceCtorEq, Int.reduceEq, List.length_map]
              exact loopQ.next H ((Le.none [1] [0, 1, 3, 4, 13, 35, 36] (by decide) (by simp only [f38_42_L1, restrict_eq, renS_nil, renS_cons, renB_els, renB_cel, renB_dead, deep_eq, map_ren_enc, ren_agg', ren_tup', ren_fn', ren_int', ren_bool', ren_str', ren_sl', ren_pro', ren_nilp', ren_nilfn', ren_junk', ren_ptr', ren_row', ren_arow', ren_eptr', vm, List.idxOf?_cons, List.idxOf?_nil, beq_self_eq_true, Option.map_none, List.getD_cons_zero, List.getD_cons_succ, wk, wl, nc, evV, and_self, Option.map_some, reduceIte, Nat.reduceEqDiff, Nat.reduceAdd, List.length_map, Nat.reduceSub, Nat.reduceLeDiff, Nat.reduceBEq, Nat.reduceMul, Nat.reduceLT, Bool.and_self, Bool.true_and, Bool.not_true, Bool.not_false, Bool.false_eq_true, ne_eq, not_false_eq_true, reduceCtorEq, Int.reduceEq])))
          · refine AW.exit ?_
            refine seqQ.exit ?_
            refine loopQ.exit H ?_ <;> clear H <;> intro H
            try dsimp only at H
            refine blk0.here ?_
            refine seqQ.norm ?_
            refine AW.rseq ?_
            try simp only [wk, wl, nc, evV, and_self, Option.map_some, reduceIte, Nat.reduceEqDiff, Nat.reduceAdd, Nat.reduceSub, Nat.reduceLeDiff, Nat.reduceBEq, Nat.reduceMul, Nat.reduceLT, Bool.and_self, Bool.true_and, Bool.not_true, Bool.not_false, Bool.false_eq_true, ne_eq, not_false_eq_true, reduceCtorEq, Int.reduceEq, List.length_map]
            refine AW.ret ?_
            cases H
            exact hQ _ _ _ _ (.inr rfl) (by simp only [resVs, omap, resV, wk, wl, nc, evV, and_self, Option.map_some, reduceIte, Nat.reduceEqDiff, Nat.reduceAdd, Nat.reduceSub, Nat.reduceLeDiff, Nat.reduceBEq, Nat.reduceMul, Nat.reduceLT, Bool.and_self, Bool.true_and, Bool.not_true, Bool.not_false, Bool.false_eq_true, ne_eq, not_false_eq_true, reduceCtorEq, Int.reduceEq, List.length_map]; rfl) (hand_k (by rfl) (by rfl) (by simp) (enc_all _) (by rfl)) (by rfl)
theorem f38_42_im {from_109 : Int} {to_110 : Int} {n_111 : Int} {whole_112 : Int} {part_113 : Int} {part_114 : Int} {r_ : (List Int) × Int} (H : f38_42 from_109 to_110 n_111 whole_112 part_113 part_114 = some r_) : Pure Try.prog 38 [.int .i64 from_109, .int .i64 to_110, .int .i64 n_111, .int .i64 whole_112, .fn 42 [.pro [.int .i64 part_113], .pro [.int .i64 part_114]]] (· = .tup [.sl 0 false (r_.1.map (AV.int .i64)), .int .i64 r_.2]) := (f38_42_ok H).unfr (by first | exact enc_fits _ | simp only [frFits, List.all_cons, List.all_nil, enc_fits, Bool.and_self])
def c13_0 : C := .seq (.reg [iI 12 (.mv (.t 0)), iI 13 (.mv (.t 1)), iI 14 (.load 0 (.t 5)), iI 15 (.load 0 (.t 5)), iI 16 (.bin .sub (.t 15) (.c (.int .i64 1))), iI 17 (.load 0 (.t 8)), iI 18 (.bin .sub (.t 16) (.t 17)), iI 19 (.mkfn 42 [(.t 5), (.t 8)]), iI 20 (.call (.c (.fn 38 [])) [(.t 12), (.t 13), (.t 14), (.t 18), (.t 19)]), iI 21 (.ext (.t 20) 0), iI 22 (.ext (.t 20) 1), iI 6 (.mv (.t 21)), iI 7 (.mv (.t 22))]) .ret
def c13_1 : C := .seq (.reg [iI 9 (.load 0 (.t 5)), iI 10 (.bin .rem (.t 9) (.c (.int .i64 2))), iI 11 (.bin .sub (.c (.int .i64 1)) (.t 10)), iI 8 (.alloc [(1, (.int .i64 0))]), iN (.store 0 (.t 8) (.t 11))]) c13_0
def ir13 : C := .seq (.reg [iI 5 (.box (.t 2)), iI 6 (.mv (.c (.sl 0 true []))), iI 7 (.mv (.c (.int .i64 0)))]) c13_1
theorem fd13 : fd? Try.prog 13 = some (23, [.slot 6, .slot 7], ir13) := by kernel_rfl
noncomputable def f13 (from_106 : Int) (to_107 : Int) (n_108 : Int) : Option ((List Int) × Int) :=
  (f38_42 from_106 to_107 n_108 (IntKind.i64.wrap ((IntKind.i64.wrap (n_108 - 1)) - (IntKind.i64.wrap (1 - (n_108.tmod 2))))) n_108 (IntKind.i64.wrap (1 - (n_108.tmod 2)))).bind fun r_145 => (some (r_145.1, r_145.2))
theorem f13_ok {from_106 : Int} {to_107 : Int} {n_108 : Int} {r_ : (List Int) × Int} (H : f13 from_106 to_107 n_108 = some r_) : Pure Try.prog 13 [.int .i64 from_106, .int .i64 to_107, .int .i64 n_108] (· = .tup [.fr 0 (r_.1.map (AV.int .i64)), .int .i64 r_.2]) := by
  refine Pure.walk2 fd13 (some 0) (Nat.le_of_ble_eq_true rfl) (by rfl) fun Q hQ => ?_
  simp only [f13] at H
  refine AW.rseq ?_
  try simp only [wk, wl, nc, evV, and_self, Option.map_some, reduceIte, Nat.reduceEqDiff, Nat.reduceAdd, Nat.reduceSub, Nat.reduceLeDiff, Nat.reduceBEq, Nat.reduceMul, Nat.reduceLT, Bool.and_self, Bool.true_and, Bool.not_true, Bool.not_false, Bool.false_eq_true, ne_eq, not_false_eq_true, reduceCtorEq, Int.reduceEq, List.length_map]
  refine AW.rseq ?_
  try simp only [wk, wl, nc, evV, and_self, Option.map_some, reduceIte, Nat.reduceEqDiff, Nat.reduceAdd, Nat.reduceSub, Nat.reduceLeDiff, Nat.reduceBEq, Nat.reduceMul, Nat.reduceLT, Bool.and_self, Bool.true_and, Bool.not_true, Bool.not_false, Bool.false_eq_true, ne_eq, not_false_eq_true, reduceCtorEq, Int.reduceEq, List.length_map]
  refine AW.rseq ?_
  try simp only [wk, wl, nc, evV, and_self, Option.map_some, reduceIte, Nat.reduceEqDiff, Nat.reduceAdd, Nat.reduceSub, Nat.reduceLeDiff, Nat.reduceBEq, Nat.reduceMul, Nat.reduceLT, Bool.and_self, Bool.true_and, Bool.not_true, Bool.not_false, Bool.false_eq_true, ne_eq, not_false_eq_true, reduceCtorEq, Int.reduceEq, List.length_map]
  refine evTs_frR H (fun _ h => f38_42_ok h) (by rfl) (by rfl) (by simp only [deep_eq, imm_simps, imm_rowE, imm_ptrE, imm_enc, omap_simps, take_map_len, le_refl_true, Nat.zero_add, and_true, true_and, List.drop_zero, Option.map_some, wk, wl, nc, evV, and_self, Option.map_some, reduceIte, Nat.reduceEqDiff, Nat.reduceAdd, Nat.reduceSub, Nat.reduceLeDiff, Nat.reduceBEq, Nat.reduceMul, Nat.reduceLT, Bool.and_self, Bool.true_and, Bool.not_true, Bool.not_false, Bool.false_eq_true, ne_eq, not_false_eq_true, reduceCtorEq, Int.reduceEq, List.length_map]; rfl) (by rfl) (fun _ => by simp only [flatR, List.all_cons, List.all_nil, flat_all, Bool.and_true]; try rfl) (fun _ => rfl) ?_ <;> clear H <;> intro r_145 H
  try simp only [eL, wk, wl, nc, evV, and_self, Option.map_some, reduceIte, Nat.reduceEqDiff, Nat.reduceAdd, Nat.reduceSub, Nat.reduceLeDiff, Nat.reduceBEq, Nat.reduceMul, Nat.reduceLT, Bool.and_self, Bool.true_and, Bool.not_true, Bool.not_false, Bool.false_eq_true, ne_eq, not_false_eq_true, reduceCtorEq, Int.reduceEq, List.length_map]
  refine AW.ret ?_
  cases H
  exact hQ _ _ _ _ (.inr rfl) (by simp only [resVs, omap, resV, wk, wl, nc, evV, and_self, Option.map_some, reduceIte, Nat.reduceEqDiff, Nat.reduceAdd, Nat.reduceSub, Nat.reduceLeDiff, Nat.reduceBEq, Nat.reduceMul, Nat.reduceLT, Bool.and_self, Bool.true_and, Bool.not_true, Bool.not_false, Bool.false_eq_true, ne_eq, not_false_eq_true, reduceCtorEq, Int.reduceEq, List.length_map]; rfl) (hand_k (by rfl) (by rfl) (by simp) (enc_all _) (by rfl)) (by rfl)
theorem f13_im {from_106 : Int} {to_107 : Int} {n_108 : Int} {r_ : (List Int) × Int} (H : f13 from_106 to_107 n_108 = some r_) : Pure Try.prog 13 [.int .i64 from_106, .int .i64 to_107, .int .i64 n_108] (· = .tup [.sl 0 false (r_.1.map (AV.int .i64)), .int .i64 r_.2]) := (f13_ok H).unfr (by first | exact enc_fits _ | simp only [frFits, List.all_cons, List.all_nil, enc_fits, Bool.and_self])
noncomputable def f14_L1 (from_147 : Int) (to_148 : Int) (n_149 : Int) : Lp (Int × (List Int)) ((List Int)) where
  body := fun (i_159, out_160) => (if (decide (i_159 < n_149)) = true then (f41 from_147 to_148 (IntKind.i64.wrap ((if (IntKind.i64.wrap ((IntKind.i64.wrap (n_149 - 1)) - (IntKind.i64.wrap (2 * i_159)))) > (IntKind.i64.wrap ((IntKind.i64.wrap (2 * i_159)) - (IntKind.i64.wrap (n_149 - 1)))) then (IntKind.i64.wrap ((IntKind.i64.wrap (n_149 - 1)) - (IntKind.i64.wrap (2 * i_159)))) else (IntKind.i64.wrap ((IntKind.i64.wrap (2 * i_159)) - (IntKind.i64.wrap (n_149 - 1))))) - 1)) (IntKind.i64.wrap ((IntKind.i64.wrap (n_149 - 1)) - 1))).bind fun r_164 => (app? 8 out_160 ([r_164])).bind fun out_165 => (some (.next ((IntKind.i64.wrap (i_159 + 1)), out_165))) else (some (.brk out_160)))
  cst := fun (i_159, out_160) => ⟨put (put (put (put (put (put (fun _ => .junk) 11 (.int .i64 i_159)) 10 (.row 0 0 0 out_160.length)) 9 (.int .i64 1)) 2 (.int .i64 n_149)) 1 (.int .i64 to_148)) 0 (.int .i64 from_147), [.els 0 (out_160.map (AV.int .i64))]⟩
noncomputable def f14_L2 (from_147 : Int) (to_148 : Int) (n_149 : Int) : Lp (Int × (List Int)) ((List Int)) where
  body := fun (i_174, out_175) => (if (decide (i_174 < n_149)) = true then (f41 from_147 to_148 (IntKind.i64.wrap ((if (IntKind.i64.wrap ((IntKind.i64.wrap (n_149 - 1)) - (IntKind.i64.wrap (2 * i_174)))) > (IntKind.i64.wrap ((IntKind.i64.wrap (2 * i_174)) - (IntKind.i64.wrap (n_149 - 1)))) then (IntKind.i64.wrap ((IntKind.i64.wrap (n_149 - 1)) - (IntKind.i64.wrap (2 * i_174)))) else (IntKind.i64.wrap ((IntKind.i64.wrap (2 * i_174)) - (IntKind.i64.wrap (n_149 - 1))))) - 0)) (IntKind.i64.wrap ((IntKind.i64.wrap (n_149 - 1)) - 0))).bind fun r_179 => (app? 8 out_175 ([r_179])).bind fun out_180 => (some (.next ((IntKind.i64.wrap (i_174 + 1)), out_180))) else (some (.brk out_175)))
  cst := fun (i_174, out_175) => ⟨put (put (put (put (put (put (fun _ => .junk) 11 (.int .i64 i_174)) 10 (.row 0 0 0 out_175.length)) 9 (.int .i64 0)) 2 (.int .i64 n_149)) 1 (.int .i64 to_148)) 0 (.int .i64 from_147), [.els 0 (out_175.map (AV.int .i64))]⟩
def c14_0 : C := .cond (.t 18) (.seq (.reg [iI 19 (.mv (.t 8)), iI 6 (.mv (.c (.sl 0 true []))), iI 7 (.mv (.t 19))]) .ret) (.skip)
def c14_1 : C := .seq (.reg [iI 17 (.mv (.t 8)), iI 18 (.bin .neq (.t 17) (.c (.int .i64 0)))]) c14_0
def c14_2 : C := .cond (.t 22) (.reg [iI 9 (.mv (.c (.int .i64 1)))]) (.skip)
def c14_3 : C := .cond (.t 25) (.skip) (.exit 0)
def c14_4 : C := .reg [iI 39 (.mv (.t 10)), iI 40 (.mv (.t 0)), iI 41 (.mv (.t 1)), iI 42 (.mv (.t 12)), iI 43 (.mv (.t 9)), iI 44 (.bin .sub (.t 42) (.t 43)), iI 45 (.mv (.t 2)), iI 46 (.bin .sub (.t 45) (.c (.int .i64 1))), iI 47 (.mv (.t 9)), iI 48 (.bin .sub (.t 46) (.t 47)), iI 49 (.call (.c (.fn 41 [])) [(.t 40), (.t 41), (.t 44), (.t 48)]), iI 50 (.mkslp 0 1 (.int .i64 0) [(0, (.t 49))]), iI 51 (.append 0 8 (.t 39) (.t 50)), iI 10 (.mv (.t 51))]
def c14_5 : C := .reg [iI 26 (.mv (.t 11)), iI 27 (.bin .add (.t 26) (.c (.int .i64 1))), iI 11 (.mv (.t 27))]
def c14_6 : C := .seq (.block 1 (.seq (.reg [iI 28 (.mv (.t 11)), iI 29 (.bin .mul (.c (.int .i64 2)) (.t 28)), iI 30 (.mv (.t 2)), iI 31 (.bin .sub (.t 30) (.c (.int .i64 1))), iI 32 (.bin .sub (.t 29) (.t 31)), iI 33 (.mv (.t 2)), iI 34 (.bin .sub (.t 33) (.c (.int .i64 1))), iI 35 (.mv (.t 11)), iI 36 (.bin .mul (.c (.int .i64 2)) (.t 35)), iI 37 (.bin .sub (.t 34) (.t 36)), iI 38 (.maxmin true (.t 32) [(.t 37)]), iI 12 (.mv (.t 38))]) c14_4)) c14_5
def c14_7 : C := .block 0 (.loop (.seq (.seq (.reg [iI 23 (.mv (.t 11)), iI 24 (.mv (.t 2)), iI 25 (.bin .lss (.t 23) (.t 24))]) c14_3) c14_6))
def c14_8 : C := .seq (.reg [iI 52 (.mv (.t 10)), iI 6 (.mv (.t 52)), iI 7 (.mv (.c (.int .i64 0)))]) .ret
def c14_9 : C := .seq (.seq (.reg [iI 11 (.mv (.c (.int .i64 0)))]) c14_7) c14_8
def c14_10 : C := .seq (.reg [iI 10 (.mv (.c (.sl 0 true [])))]) c14_9
def c14_11 : C := .seq (.seq (.reg [iI 20 (.mv (.t 2)), iI 21 (.bin .rem (.t 20) (.c (.int .i64 2))), iI 22 (.bin .eql (.t 21) (.c (.int .i64 0)))]) c14_2) c14_10
def c14_12 : C := .seq (.reg [iI 9 (.mv (.c (.int .i64 0)))]) c14_11
def c14_13 : C := .seq (.seq (.reg [iI 13 (.mv (.t 0)), iI 14 (.mv (.t 1)), iI 15 (.mv (.t 2)), iI 16 (.call (.c (.fn 40 [])) [(.t 13), (.t 14), (.t 15)]), iI 8 (.mv (.t 16))]) c14_1) c14_12
def ir14 : C := .seq (.reg [iI 6 (.mv (.c (.sl 0 true []))), iI 7 (.mv (.c (.int .i64 0)))]) c14_13
theorem fd14 : fd? Try.prog 14 = some (53, [.slot 6, .slot 7], ir14) := by kernel_rfl
noncomputable def f14 (from_147 : Int) (to_148 : Int) (n_149 : Int) : Option ((List Int) × Int) :=
  (f40 from_147 to_148 n_149).bind fun r_150 => (if (decide (r_150 ≠ 0)) = true then (some ([], r_150)) else (if (decide ((n_149.tmod 2) = 0)) = true then (Lp.run (f14_L1 from_147 to_148 n_149) (0, [])).bind fun out_163 => (some (out_163, 0)) else (Lp.run (f14_L2 from_147 to_148 n_149) (0, [])).bind fun out_178 => (some (out_178, 0))))
theorem f14_ok {from_147 : Int} {to_148 : Int} {n_149 : Int} {r_ : (List Int) × Int} (H : f14 from_147 to_148 n_149 = some r_) : Pure Try.prog 14 [.int .i64 from_147, .int .i64 to_148, .int .i64 n_149] (· = .tup [.fr 0 (r_.1.map (AV.int .i64)), .int .i64 r_.2]) := by
  refine Pure.walk2 fd14 (some 0) (Nat.le_of_ble_eq_true rfl) (by rfl) fun Q hQ => ?_
  simp only [f14] at H
  refine AW.rseq ?_
  try simp only [wk, wl, nc, evV, and_self, Option.map_some, reduceIte, Nat.reduceEqDiff, Nat.reduceAdd, Nat.reduceSub, Nat.reduceLeDiff, Nat.reduceBEq, Nat.reduceMul, Nat.reduceLT, Bool.and_self, Bool.true_and, Bool.not_true, Bool.not_false, Bool.false_eq_true, ne_eq, not_false_eq_true, reduceCtorEq, Int.reduceEq, List.length_map]
  refine AW.sseq ?_
  refine AW.rseq ?_
  try simp only [wk, wl, nc, evV, and_self, Option.map_some, reduceIte, Nat.reduceEqDiff, Nat.reduceAdd, Nat.reduceSub, Nat.reduceLeDiff, Nat.reduceBEq, Nat.reduceMul, Nat.reduceLT, Bool.and_self, Bool.true_and, Bool.not_true, Bool.not_false, Bool.false_eq_true, ne_eq, not_false_eq_true, reduceCtorEq, Int.reduceEq, List.length_map]
  refine evTs_pure hFn H (fun _ h => f40_ok h) (by rfl) (by rfl) (by rfl) (by rfl) (fun _ => rfl) ?_ <;> clear H <;> intro r_150 H
  try simp only [eL, wk, wl, nc, evV, and_self, Option.map_some, reduceIte, Nat.reduceEqDiff, Nat.reduceAdd, Nat.reduceSub, Nat.reduceLeDiff, Nat.reduceBEq, Nat.reduceMul, Nat.reduceLT, Bool.and_self, Bool.true_and, Bool.not_true, Bool.not_false, Bool.false_eq_true, ne_eq, not_false_eq_true, reduceCtorEq, Int.reduceEq, List.length_map]
  refine AW.rseq ?_
  try simp only [wk, wl, nc, evV, and_self, Option.map_some, reduceIte, Nat.reduceEqDiff, Nat.reduceAdd, Nat.reduceSub, Nat.reduceLeDiff, Nat.reduceBEq, Nat.reduceMul, Nat.reduceLT, Bool.and_self, Bool.true_and, Bool.not_true, Bool.not_false, Bool.false_eq_true, ne_eq, not_false_eq_true, reduceCtorEq, Int.reduceEq, List.length_map]
  refine AW.ifc H (by rfl) ?_ ?_ <;> clear H <;> intro H
  · refine AW.rseq ?_
    try simp only [wk, wl, nc, evV, and_self, Option.map_some, reduceIte, Nat.reduceEqDiff, Nat.reduceAdd, Nat.reduceSub, Nat.reduceLeDiff, Nat.reduceBEq, Nat.reduceMul, Nat.reduceLT, Bool.and_self, Bool.true_and, Bool.not_true, Bool.not_false, Bool.false_eq_true, ne_eq, not_false_eq_true, reduceCtorEq, Int.reduceEq, List.length_map]
    refine AW.ret ?_
    refine seqQ.ret ?_
    cases H
    exact hQ _ _ _ _ (.inr rfl) (by simp only [resVs, omap, resV, wk, wl, nc, evV, and_self, Option.map_some, reduceIte, Nat.reduceEqDiff, Nat.reduceAdd, Nat.reduceSub, Nat.reduceLeDiff, Nat.reduceBEq, Nat.reduceMul, Nat.reduceLT, Bool.and_self, Bool.true_and, Bool.not_true, Bool.not_false, Bool.false_eq_true, ne_eq, not_false_eq_true, reduceCtorEq, Int.reduceEq, List.length_map]; rfl) (hand_k0 (by rfl) (by rfl)) (by rfl)
  · refine AW.skip ?_
    refine seqQ.norm ?_
    refine AW.rseq ?_
    try simp only [wk, wl, nc, evV, and_self, Option.map_some, reduceIte, Nat.reduceEqDiff, Nat.reduceAdd, Nat.reduceSub, Nat.reduceLeDiff, Nat.reduceBEq, Nat.reduceMul, Nat.reduceLT, Bool.and_self, Bool.true_and, Bool.not_true, Bool.not_false, Bool.false_eq_true, ne_eq, not_false_eq_true, reduceCtorEq, Int.reduceEq, List.length_map]
    refine AW.sseq ?_
    refine AW.rseq ?_
    try simp only [wk, wl, nc, evV, and_self, Option.map_some, reduceIte, Nat.reduceEqDiff, Nat.reduceAdd, Nat.reduceSub, Nat.reduceLeDiff, Nat.reduceBEq, Nat.reduceMul, Nat.reduceLT, Bool.and_self, Bool.true_and, Bool.not_true, Bool.not_false, Bool.false_eq_true, ne_eq, not_false_eq_true, reduceCtorEq, Int.reduceEq, List.length_map]
    refine AW.ifc H (by rfl) ?_ ?_ <;> clear H <;> intro H
    · refine AW.rend ?_
      try simp only [wk, wl, nc, evV, and_self, Option.map_some, reduceIte, Nat.reduceEqDiff, Nat.reduceAdd, Nat.reduceSub, Nat.reduceLeDiff, Nat.reduceBEq, Nat.reduceMul, Nat.reduceLT, Bool.and_self, Bool.true_and, Bool.not_true, Bool.not_false, Bool.false_eq_true, ne_eq, not_false_eq_true, reduceCtorEq, Int.reduceEq, List.length_map]
      refine seqQ.norm ?_
      refine AW.rseq ?_
      try simp only [wk, wl, nc, evV, and_self, Option.map_some, reduceIte, Nat.reduceEqDiff, Nat.reduceAdd, Nat.reduceSub, Nat.reduceLeDiff, Nat.reduceBEq, Nat.reduceMul, Nat.reduceLT, Bool.and_self, Bool.true_and, Bool.not_true, Bool.not_false, Bool.false_eq_true, ne_eq, not_false_eq_true, reduceCtorEq, Int.reduceEq, List.length_map]
      refine AW.sseq ?_
      refine AW.rseq ?_
      try simp only [wk, wl, nc, evV, and_self, Option.map_some, reduceIte, Nat.reduceEqDiff, Nat.reduceAdd, Nat.reduceSub, Nat.reduceLeDiff, Nat.reduceBEq, Nat.reduceMul, Nat.reduceLT, Bool.and_self, Bool.true_and, Bool.not_true, Bool.not_false, Bool.false_eq_true, ne_eq, not_false_eq_true, reduceCtorEq, Int.reduceEq, List.length_map]
      refine AW.bend ?_
      refine AW.iter H ((Le.trans (Le.nilRow (i := 10) (e := 0) (by simp only [wk, wl, nc, evV, and_self, Option.map_some, reduceIte, Nat.reduceEqDiff, Nat.reduceAdd, Nat.reduceSub, Nat.reduceLeDiff, Nat.reduceBEq, Nat.reduceMul, Nat.reduceLT, Bool.and_self, Bool.true_and, Bool.not_true, Bool.not_false, Bool.false_eq_true, ne_eq, not_false_eq_true, reduceCtorEq, Int.reduceEq, List.length_map])) (Le.none [0] [0, 1, 2, 9, 10, 11] (by decide) (by simp only [f14_L1, restrict_eq, renS_nil, renS_cons, renB_els, renB_cel, renB_dead, deep_eq, map_ren_enc, ren_agg', ren_tup', ren_fn', ren_int', ren_bool', ren_str', ren_sl', ren_pro', ren_nilp', ren_nilfn', ren_junk', ren_ptr', ren_row', ren_arow', ren_eptr', vm, List.idxOf?_cons, List.idxOf?_nil, beq_self_eq_true, Option.map_none, List.getD_cons_zero, List.getD_cons_succ, wk, wl, nc, evV, and_self, Option.map_some, reduceIte, Nat.reduceEqDiff, Nat.reduceAdd, List.length_map, Nat.reduceSub, Nat.reduceLeDiff, Nat.reduceBEq, Nat.reduceMul, Nat.reduceLT, Bool.and_self, Bool.true_and, Bool.not_true, Bool.not_false, Bool.false_eq_true, ne_eq, not_false_eq_true, reduceCtorEq, Int.reduceEq])))) ?_ <;> clear H
      rintro ⟨i_159, out_160⟩ x_ st0_ H hst_
      simp only [f14_L1] at H hst_
      subst hst_
      refine AW.sseq ?_
      refine AW.rseq ?_
      try simp only [wk, wl, nc, evV, and_self, Option.map_some, reduceIte, Nat.reduceEqDiff, Nat.reduceAdd, Nat.reduceSub, Nat.reduceLeDiff, Nat.reduceBEq, Nat.reduceMul, Nat.reduceLT, Bool.and_self, Bool.true_and, Bool.not_true, Bool.not_false, Bool.false_eq_true, ne_eq, not_false_eq_true, reduceCtorEq, Int.reduceEq, List.length_map]
      refine AW.ifc H (by rfl) ?_ ?_ <;> clear H <;> intro H
      · refine AW.skip ?_
        refine seqQ.norm ?_
        refine AW.bseq ?_
        refine AW.rseq ?_
        try simp only [wk, wl, nc, evV, and_self, Option.map_some, reduceIte, Nat.reduceEqDiff, Nat.reduceAdd, Nat.reduceSub, Nat.reduceLeDiff, Nat.reduceBEq, Nat.reduceMul, Nat.reduceLT, Bool.and_self, Bool.true_and, Bool.not_true, Bool.not_false, Bool.false_eq_true, ne_eq, not_false_eq_true, reduceCtorEq, Int.reduceEq, List.length_map]
        refine AW.rend ?_
        try simp only [wk, wl, nc, evV, and_self, Option.map_some, reduceIte, Nat.reduceEqDiff, Nat.reduceAdd, Nat.reduceSub, Nat.reduceLeDiff, Nat.reduceBEq, Nat.reduceMul, Nat.reduceLT, Bool.and_self, Bool.true_and, Bool.not_true, Bool.not_false, Bool.false_eq_true, ne_eq, not_false_eq_true, reduceCtorEq, Int.reduceEq, List.length_map]
        refine evTs_pure hFn H (fun _ h => f41_ok h) (by rfl) (by rfl) (by rfl) (by rfl) (fun _ => rfl) ?_ <;> clear H <;> intro r_164 H
        try simp only [eL, wk, wl, nc, evV, and_self, Option.map_some, reduceIte, Nat.reduceEqDiff, Nat.reduceAdd, Nat.reduceSub, Nat.reduceLeDiff, Nat.reduceBEq, Nat.reduceMul, Nat.reduceLT, Bool.and_self, Bool.true_and, Bool.not_true, Bool.not_false, Bool.false_eq_true, ne_eq, not_false_eq_true, reduceCtorEq, Int.reduceEq, List.length_map]
        refine evTs_app (enc := (AV.int .i64)) H (by rfl) (by rfl) (by rfl) (by rfl) ?_ <;> clear H <;> intro out_165 H
        try simp only [wk, wl, nc, evV, and_self, Option.map_some, reduceIte, Nat.reduceEqDiff, Nat.reduceAdd, Nat.reduceSub, Nat.reduceLeDiff, Nat.reduceBEq, Nat.reduceMul, Nat.reduceLT, Bool.and_self, Bool.true_and, Bool.not_true, Bool.not_false, Bool.false_eq_true, ne_eq, not_false_eq_true, reduceCtorEq, Int.reduceEq, List.length_map]
        refine blkQ.norm ?_
        refine AW.rend ?_
        try simp only [wk, wl, nc, evV, and_self, Option.map_some, reduceIte, Nat.reduceEqDiff, Nat.reduceAdd, Nat.reduceSub, Nat.reduceLeDiff, Nat.reduceBEq, Nat.reduceMul, Nat.reduceLT, Bool.and_self, Bool.true_and, Bool.not_true, Bool.not_false, Bool.false_eq_true, ne_eq, not_false_eq_true, reduceCtorEq, Int.reduceEq, List.length_map]
        exact loopQ.next H ((Le.none [1] [0, 1, 2, 9, 10, 11] (by decide) (by simp only [f14_L1, restrict_eq, renS_nil, renS_cons, renB_els, renB_cel, renB_dead, deep_eq, map_ren_enc, ren_agg', ren_tup', ren_fn', ren_int', ren_bool', ren_str', ren_sl', ren_pro', ren_nilp', ren_nilfn', ren_junk', ren_ptr', ren_row', ren_arow', ren_eptr', vm, List.idxOf?_cons, List.idxOf?_nil, beq_self_eq_true, Option.map_none, List.getD_cons_zero, List.getD_cons_succ, wk, wl, nc, evV, and_self, Option.map_some, reduceIte, Nat.reduceEqDiff, Nat.reduceAdd, List.length_map, Nat.reduceSub, Nat.reduceLeDiff, Nat.reduceBEq, Nat.reduceMul, Nat.reduceLT, Bool.and_self, Bool.true_and, Bool.not_true, Bool.not_false, Bool.false_eq_true, ne_eq, not_false_eq_true, reduceCtorEq, Int.reduceEq])))
      · refine AW.exit ?_
        refine seqQ.exit ?_
        refine loopQ.exit H ?_ <;> clear H <;> intro H
        try dsimp only at H
        refine blk0.here ?_
        refine seqQ.norm ?_
        refine AW.rseq ?_
        try simp only [wk, wl, nc, evV, and_self, Option.map_some, reduceIte, Nat.reduceEqDiff, Nat.reduceAdd, Nat.reduceSub, Nat.reduceLeDiff, Nat.reduceBEq, Nat.reduceMul, Nat.reduceLT, Bool.and_self, Bool.true_and, Bool.not_true, Bool.not_false, Bool.false_eq_true, ne_eq, not_false_eq_true, reduceCtorEq, Int.reduceEq, List.length_map]
        refine AW.ret ?_
        cases H
        exact hQ _ _ _ _ (.inr rfl) (by simp only [resVs, omap, resV, wk, wl, nc, evV, and_self, Option.map_some, reduceIte, Nat.reduceEqDiff, Nat.reduceAdd, Nat.reduceSub, Nat.reduceLeDiff, Nat.reduceBEq, Nat.reduceMul, Nat.reduceLT, Bool.and_self, Bool.true_and, Bool.not_true, Bool.not_false, Bool.false_eq_true, ne_eq, not_false_eq_true, reduceCtorEq, Int.reduceEq, List.length_map]; rfl) (hand_k (by rfl) (by rfl) (by simp) (enc_all _) (by rfl)) (by rfl)
    · refine AW.skip ?_
      refine seqQ.norm ?_
      refine AW.rseq ?_
      try simp only [wk, wl, nc, evV, and_self, Option.map_some, reduceIte, Nat.reduceEqDiff, Nat.reduceAdd, Nat.reduceSub, Nat.reduceLeDiff, Nat.reduceBEq, Nat.reduceMul, Nat.reduceLT, Bool.and_self, Bool.true_and, Bool.not_true, Bool.not_false, Bool.false_eq_true, ne_eq, not_false_eq_true, reduceCtorEq, Int.reduceEq, List.length_map]
      refine AW.sseq ?_
      refine AW.rseq ?_
      try simp only [wk, wl, nc, evV, and_self, Option.map_some, reduceIte, Nat.reduceEqDiff, Nat.reduceAdd, Nat.reduceSub, Nat.reduceLeDiff, Nat.reduceBEq, Nat.reduceMul, Nat.reduceLT, Bool.and_self, Bool.true_and, Bool.not_true, Bool.not_false, Bool.false_eq_true, ne_eq, not_false_eq_true, reduceCtorEq, Int.reduceEq, List.length_map]
      refine AW.bend ?_
      refine AW.iter H ((Le.trans (Le.nilRow (i := 10) (e := 0) (by simp only [wk, wl, nc, evV, and_self, Option.map_some, reduceIte, Nat.reduceEqDiff, Nat.reduceAdd, Nat.reduceSub, Nat.reduceLeDiff, Nat.reduceBEq, Nat.reduceMul, Nat.reduceLT, Bool.and_self, Bool.true_and, Bool.not_true, Bool.not_false, Bool.false_eq_true, ne_eq, not_false_eq_true, reduceCtorEq, Int.reduceEq, List.length_map])) (Le.none [0] [0, 1, 2, 9, 10, 11] (by decide) (by simp only [f14_L2, restrict_eq, renS_nil, renS_cons, renB_els, renB_cel, renB_dead, deep_eq, map_ren_enc, ren_agg', ren_tup', ren_fn', ren_int', ren_bool', ren_str', ren_sl', ren_pro', ren_nilp', ren_nilfn', ren_junk', ren_ptr', ren_row', ren_arow', ren_eptr', vm, List.idxOf?_cons, List.idxOf?_nil, beq_self_eq_true, Option.map_none, List.getD_cons_zero, List.getD_cons_succ, wk, wl, nc, evV, and_self, Option.map_some, reduceIte, Nat.reduceEqDiff, Nat.reduceAdd, List.length_map, Nat.reduceSub, Nat.reduceLeDiff, Nat.reduceBEq, Nat.reduceMul, Nat.reduceLT, Bool.and_self, Bool.true_and, Bool.not_true, Bool.not_false, Bool.false_eq_true, ne_eq, not_false_eq_true, reduceCtorEq, Int.reduceEq])))) ?_ <;> clear H
      rintro ⟨i_174, out_175⟩ x_ st0_ H hst_
      simp only [f14_L2] at H hst_
      subst hst_
      refine AW.sseq ?_
      refine AW.rseq ?_
      try simp only [wk, wl, nc, evV, and_self, Option.map_some, reduceIte, Nat.reduceEqDiff, Nat.reduceAdd, Nat.reduceSub, Nat.reduceLeDiff, Nat.reduceBEq, Nat.reduceMul, Nat.reduceLT, Bool.and_self, Bool.true_and, Bool.not_true, Bool.not_false, Bool.false_eq_true, ne_eq, not_false_eq_true, reduceCtorEq, Int.reduceEq, List.length_map]
      refine AW.ifc H (by rfl) ?_ ?_ <;> clear H <;> intro H
      · refine AW.skip ?_
        refine seqQ.norm ?_
        refine AW.bseq ?_
        refine AW.rseq ?_
        try simp only [wk, wl, nc, evV, and_self, Option.map_some, reduceIte, Nat.reduceEqDiff, Nat.reduceAdd, Nat.reduceSub, Nat.reduceLeDiff, Nat.reduceBEq, Nat.reduceMul, Nat.reduceLT, Bool.and_self, Bool.true_and, Bool.not_true, Bool.not_false, Bool.false_eq_true, ne_eq, not_false_eq_true, reduceCtorEq, Int.reduceEq, List.length_map]
        refine AW.rend ?_
        try simp only [wk, wl, nc, evV, and_self, Option.map_some, reduceIte, Nat.reduceEqDiff, Nat.reduceAdd, Nat.reduceSub, Nat.reduceLeDiff, Nat.reduceBEq, Nat.reduceMul, Nat.reduceLT, Bool.and_self, Bool.true_and, Bool.not_true, Bool.not_false, Bool.false_eq_true, ne_eq, not_false_eq_true, reduceCtorEq, Int.reduceEq, List.length_map]
        refine evTs_pure hFn H (fun _ h => f41_ok h) (by rfl) (by rfl) (by rfl) (by rfl) (fun _ => rfl) ?_ <;> clear H <;> intro r_179 H
        try simp only [eL, wk, wl, nc, evV, and_self, Option.map_some, reduceIte, Nat.reduceEqDiff, Nat.reduceAdd, Nat.reduceSub, Nat.reduceLeDiff, Nat.reduceBEq, Nat.reduceMul, Nat.reduceLT, Bool.and_self, Bool.true_and, Bool.not_true, Bool.not_false, Bool.false_eq_true, ne_eq, not_false_eq_true, reduceCtorEq, Int.reduceEq, List.length_map]
        refine evTs_app (enc := (AV.int .i64)) H (by rfl) (by rfl) (by rfl) (by rfl) ?_ <;> clear H <;> intro out_180 H
        try simp only [wk, wl, nc, evV, and_self, Option.map_some, reduceIte, Nat.reduceEqDiff, Nat.reduceAdd, Nat.reduceSub, Nat.reduceLeDiff, Nat.reduceBEq, Nat.reduceMul, Nat.reduceLT, Bool.and_self, Bool.true_and, Bool.not_true, Bool.not_false, Bool.false_eq_true, ne_eq, not_false_eq_true, reduceCtorEq, Int.reduceEq, List.length_map]
        refine blkQ.norm ?_
        refine AW.rend ?_
        try simp only [wk, wl, nc, evV, and_self, Option.map_some, reduceIte, Nat.reduceEqDiff, Nat.reduceAdd, Nat.reduceSub, Nat.reduceLeDiff, Nat.reduceBEq, Nat.reduceMul, Nat.reduceLT, Bool.and_self, Bool.true_and, Bool.not_true, Bool.not_false, Bool.false_eq_true, ne_eq, not_false_eq_true, reduceCtorEq, Int.reduceEq, List.length_map]
        exact loopQ.next H ((Le.none [1] [0, 1, 2, 9, 10, 11] (by decide) (by simp only [f14_L2, restrict_eq, renS_nil, renS_cons, renB_els, renB_cel, renB_dead, deep_eq, map_ren_enc, ren_agg', ren_tup', ren_fn', ren_int', ren_bool', ren_str', ren_sl', ren_pro', ren_nilp', ren_nilfn', ren_junk', ren_ptr', ren_row', ren_arow', ren_eptr', vm, List.idxOf?_cons, List.idxOf?_nil, beq_self_eq_true, Option.map_none, List.getD_cons_zero, List.getD_cons_succ, wk, wl, nc, evV, and_self, Option.map_some, reduceIte, Nat.reduceEqDiff, Nat.reduceAdd, List.length_map, Nat.reduceSub, Nat.reduceLeDiff, Nat.reduceBEq, Nat.reduceMul, Nat.reduceLT, Bool.and_self, Bool.true_and, Bool.not_true, Bool.not_false, Bool.false_eq_true, ne_eq, not_false_eq_true, reduceCtorEq, Int.reduceEq])))
      · refine AW.exit ?_
        refine seqQ.exit ?_
        refine loopQ.exit H ?_ <;> clear H <;> intro H
        try dsimp only at H
        refine blk0.here ?_
        refine seqQ.norm ?_
        refine AW.rseq ?_
        try simp only [wk, wl, nc, evV, and_self, Option.map_some, reduceIte, Nat.reduceEqDiff, Nat.reduceAdd, Nat.reduceSub, Nat.reduceLeDiff, Nat.reduceBEq, Nat.reduceMul, Nat.reduceLT, Bool.and_self, Bool.true_and, Bool.not_true, Bool.not_false, Bool.false_eq_true, ne_eq, not_false_eq_true, reduceCtorEq, Int.reduceEq, List.length_map]
        refine AW.ret ?_
        cases H
        exact hQ _ _ _ _ (.inr rfl) (by simp only [resVs, omap, resV, wk, wl, nc, evV, and_self, Option.map_some, reduceIte, Nat.reduceEqDiff, Nat.reduceAdd, Nat.reduceSub, Nat.reduceLeDiff, Nat.reduceBEq, Nat.reduceMul, Nat.reduceLT, Bool.and_self, Bool.true_and, Bool.not_true, Bool.not_false, Bool.false_eq_true, ne_eq, not_false_eq_true, reduceCtorEq, Int.reduceEq, List.length_map]; rfl) (hand_k (by rfl) (by rfl) (by simp) (enc_all _) (by rfl)) (by rfl)
theorem f14_im {from_147 : Int} {to_148 : Int} {n_149 : Int} {r_ : (List Int) × Int} (H : f14 from_147 to_148 n_149 = some r_) : Pure Try.prog 14 [.int .i64 from_147, .int .i64 to_148, .int .i64 n_149] (· = .tup [.sl 0 false (r_.1.map (AV.int .i64)), .int .i64 r_.2]) := (f14_ok H).unfr (by first | exact enc_fits _ | simp only [frFits, List.all_cons, List.all_nil, enc_fits, Bool.and_self])
noncomputable def f61_L1 (s_194 : (List Int)) (v_195 : Int) : Lp (Int) ((Int) ⊕ (Unit)) where
  body := fun v_199 => (if (decide (v_199 < ((s_194.length : Nat) : Int))) = true then (at? s_194 v_199).bind fun x_202 => (if (decide (v_195 = x_202)) = true then (some (.brk (Sum.inl v_199))) else (some (.next (IntKind.i64.wrap (v_199 + 1))))) else (some (.brk (Sum.inr ()))))
  cst := fun v_199 => ⟨put (put (put (put (fun _ => .junk) 8 (.int .i64 v_199)) 7 (.int .i64 ((s_194.length : Nat) : Int))) 1 (.int .i64 v_195)) 0 (.sl 0 false (s_194.map (AV.int .i64))), []⟩
def c61_0 : C := .cond (.t 16) (.seq (.reg [iI 17 (.mv (.t 5)), iI 4 (.mv (.t 17))]) .ret) (.skip)
def c61_1 : C := .seq (.reg [iI 11 (.mv (.t 1)), iI 12 (.mv (.t 0)), iI 13 (.mv (.t 5)), iI 14 (.iaddr 0 (.t 12) (.t 13)), iI 15 (.load 0 (.t 14)), iI 16 (.bin .eql (.t 11) (.t 15))]) c61_0
def c61_2 : C := .reg [iI 18 (.bin .add (.t 8) (.c (.int .i64 1))), iI 8 (.mv (.t 18))]
def c61_3 : C := .seq (.block 1 (.seq (.reg [iI 10 (.mv (.t 8)), iI 5 (.mv (.t 10))]) c61_1)) c61_2
def c61_4 : C := .seq (.cond (.t 9) (.skip) (.exit 0)) c61_3
def c61_5 : C := .block 0 (.loop (.seq (.reg [iI 9 (.bin .lss (.t 8) (.t 7))]) c61_4))
def c61_6 : C := .seq (.reg [iI 4 (.mv (.c (.int .i64 (-1))))]) .ret
def c61_7 : C := .seq (.seq (.reg [iI 6 (.mv (.t 0)), iI 7 (.len 0 (.t 6)), iI 8 (.mv (.c (.int .i64 0)))]) c61_5) c61_6
def ir61 : C := .seq (.reg [iI 4 (.mv (.c (.int .i64 0)))]) c61_7
theorem fd61 : fd? Try.prog 61 = some (19, [.slot 4], ir61) := by kernel_rfl
noncomputable def f61 (s_194 : (List Int)) (v_195 : Int) : Option (Int) :=
  ((Lp.run (f61_L1 s_194 v_195) 0).bind fun r_ => match r_ with | (Sum.inl v_201) => (some v_201) | (Sum.inr _) => (some (-1)))
theorem f61_ok {s_194 : (List Int)} {v_195 : Int} {r_ : Int} (H : f61 s_194 v_195 = some r_) : Pure Try.prog 61 [.sl 0 false (s_194.map (AV.int .i64)), .int .i64 v_195] (· = .int .i64 r_) := by
  refine Pure.walk2 fd61 none (Nat.le_of_ble_eq_true rfl) (by rfl) fun Q hQ => ?_
  simp only [f61] at H
  refine AW.rseq ?_
  try simp only [wk, wl, nc, evV, and_self, Option.map_some, reduceIte, Nat.reduceEqDiff, Nat.reduceAdd, Nat.reduceSub, Nat.reduceLeDiff, Nat.reduceBEq, Nat.reduceMul, Nat.reduceLT, Bool.and_self, Bool.true_and, Bool.not_true, Bool.not_false, Bool.false_eq_true, ne_eq, not_false_eq_true, reduceCtorEq, Int.reduceEq, List.length_map]
  refine AW.sseq ?_
  refine AW.rseq ?_
  try simp only [wk, wl, nc, evV, and_self, Option.map_some, reduceIte, Nat.reduceEqDiff, Nat.reduceAdd, Nat.reduceSub, Nat.reduceLeDiff, Nat.reduceBEq, Nat.reduceMul, Nat.reduceLT, Bool.and_self, Bool.true_and, Bool.not_true, Bool.not_false, Bool.false_eq_true, ne_eq, not_false_eq_true, reduceCtorEq, Int.reduceEq, List.length_map]
  refine AW.bend ?_
  refine AW.iter H ((Le.none [] [0, 1, 7, 8] (by decide) (by simp only [f61_L1, restrict_eq, renS_nil, renS_cons, renB_els, renB_cel, renB_dead, deep_eq, map_ren_enc, ren_agg', ren_tup', ren_fn', ren_int', ren_bool', ren_str', ren_sl', ren_pro', ren_nilp', ren_nilfn', ren_junk', ren_ptr', ren_row', ren_arow', ren_eptr', vm, List.idxOf?_cons, List.idxOf?_nil, beq_self_eq_true, Option.map_none, List.getD_cons_zero, List.getD_cons_succ, wk, wl, nc, evV, and_self, Option.map_some, reduceIte, Nat.reduceEqDiff, Nat.reduceAdd, List.length_map, Nat.reduceSub, Nat.reduceLeDiff, Nat.reduceBEq, Nat.reduceMul, Nat.reduceLT, Bool.and_self, Bool.true_and, Bool.not_true, Bool.not_false, Bool.false_eq_true, ne_eq, not_false_eq_true, reduceCtorEq, Int.reduceEq]))) ?_ <;> clear H
  rintro v_199 x_ st0_ H hst_
  simp only [f61_L1] at H hst_
  subst hst_
  refine AW.rseq ?_
  try simp only [wk, wl, nc, evV, and_self, Option.map_some, reduceIte, Nat.reduceEqDiff, Nat.reduceAdd, Nat.reduceSub, Nat.reduceLeDiff, Nat.reduceBEq, Nat.reduceMul, Nat.reduceLT, Bool.and_self, Bool.true_and, Bool.not_true, Bool.not_false, Bool.false_eq_true, ne_eq, not_false_eq_true, reduceCtorEq, Int.reduceEq, List.length_map]
  refine AW.sseq ?_
  refine AW.ifc H (by rfl) ?_ ?_ <;> clear H <;> intro H
  · refine AW.skip ?_
    refine seqQ.norm ?_
    refine AW.bseq ?_
    refine AW.rseq ?_
    try simp only [wk, wl, nc, evV, and_self, Option.map_some, reduceIte, Nat.reduceEqDiff, Nat.reduceAdd, Nat.reduceSub, Nat.reduceLeDiff, Nat.reduceBEq, Nat.reduceMul, Nat.reduceLT, Bool.and_self, Bool.true_and, Bool.not_true, Bool.not_false, Bool.false_eq_true, ne_eq, not_false_eq_true, reduceCtorEq, Int.reduceEq, List.length_map]
    refine AW.rseq ?_
    try simp only [wk, wl, nc, evV, and_self, Option.map_some, reduceIte, Nat.reduceEqDiff, Nat.reduceAdd, Nat.reduceSub, Nat.reduceLeDiff, Nat.reduceBEq, Nat.reduceMul, Nat.reduceLT, Bool.and_self, Bool.true_and, Bool.not_true, Bool.not_false, Bool.false_eq_true, ne_eq, not_false_eq_true, reduceCtorEq, Int.reduceEq, List.length_map]
    refine evTs_at (enc := (AV.int .i64)) H (by rfl) (by rfl) ?_ <;> clear H <;> intro x_202 H
    try simp only [wk, wl, nc, evV, and_self, Option.map_some, reduceIte, Nat.reduceEqDiff, Nat.reduceAdd, Nat.reduceSub, Nat.reduceLeDiff, Nat.reduceBEq, Nat.reduceMul, Nat.reduceLT, Bool.and_self, Bool.true_and, Bool.not_true, Bool.not_false, Bool.false_eq_true, ne_eq, not_false_eq_true, reduceCtorEq, Int.reduceEq, List.length_map]
    refine AW.ifc H (by rfl) ?_ ?_ <;> clear H <;> intro H
    · refine AW.rseq ?_
      try simp only [wk, wl, nc, evV, and_self, Option.map_some, reduceIte, Nat.reduceEqDiff, Nat.reduceAdd, Nat.reduceSub, Nat.reduceLeDiff, Nat.reduceBEq, Nat.reduceMul, Nat.reduceLT, Bool.and_self, Bool.true_and, Bool.not_true, Bool.not_false, Bool.false_eq_true, ne_eq, not_false_eq_true, reduceCtorEq, Int.reduceEq, List.length_map]
      refine AW.ret ?_
      refine blkQ.ret ?_
      refine loopQ.ret H ?_ <;> clear H <;> intro H
      try dsimp only at H
      refine blk0.ret ?_
      refine seqQ.ret ?_
      cases H
      exact hQ _ _ _ _ (.inr rfl) (by simp only [resVs, omap, resV, wk, wl, nc, evV, and_self, Option.map_some, reduceIte, Nat.reduceEqDiff, Nat.reduceAdd, Nat.reduceSub, Nat.reduceLeDiff, Nat.reduceBEq, Nat.reduceMul, Nat.reduceLT, Bool.and_self, Bool.true_and, Bool.not_true, Bool.not_false, Bool.false_eq_true, ne_eq, not_false_eq_true, reduceCtorEq, Int.reduceEq, List.length_map]; rfl) (hand_plain (by rfl)) (by rfl)
    · refine AW.skip ?_
      refine blkQ.norm ?_
      refine AW.rend ?_
      try simp only [wk, wl, nc, evV, and_self, Option.map_some, reduceIte, Nat.reduceEqDiff, Nat.reduceAdd, Nat.reduceSub, Nat.reduceLeDiff, Nat.reduceBEq, Nat.reduceMul, Nat.reduceLT, Bool.and_self, Bool.true_and, Bool.not_true, Bool.not_false, Bool.false_eq_true, ne_eq, not_false_eq_true, reduceCtorEq, Int.reduceEq, List.length_map]
      exact loopQ.next H ((Le.none [] [0, 1, 7, 8] (by decide) (by simp only [f61_L1, restrict_eq, renS_nil, renS_cons, renB_els, renB_cel, renB_dead, deep_eq, map_ren_enc, ren_agg', ren_tup', ren_fn', ren_int', ren_bool', ren_str', ren_sl', ren_pro', ren_nilp', ren_nilfn', ren_junk', ren_ptr', ren_row', ren_arow', ren_eptr', vm, List.idxOf?_cons, List.idxOf?_nil, beq_self_eq_true, Option.map_none, List.getD_cons_zero, List.getD_cons_succ, wk, wl, nc, evV, and_self, Option.map_some, reduceIte, Nat.reduceEqDiff, Nat.reduceAdd, List.length_map, Nat.reduceSub, Nat.reduceLeDiff, Nat.reduceBEq, Nat.reduceMul, Nat.reduceLT, Bool.and_self, Bool.true_and, Bool.not_true, Bool.not_false, Bool.false_eq_true, ne_eq, not_false_eq_true, reduceCtorEq, Int.reduceEq])))
  · refine AW.exit ?_
    refine seqQ.exit ?_
    refine loopQ.exit H ?_ <;> clear H <;> intro H
    try dsimp only at H
    refine blk0.here ?_
    refine seqQ.norm ?_
    refine AW.rseq ?_
    try simp only [wk, wl, nc, evV, and_self, Option.map_some, reduceIte, Nat.reduceEqDiff, Nat.reduceAdd, Nat.reduceSub, Nat.reduceLeDiff, Nat.reduceBEq, Nat.reduceMul, Nat.reduceLT, Bool.and_self, Bool.true_and, Bool.not_true, Bool.not_false, Bool.false_eq_true, ne_eq, not_false_eq_true, reduceCtorEq, Int.reduceEq, List.length_map]
    refine AW.ret ?_
    cases H
    exact hQ _ _ _ _ (.inr rfl) (by simp only [resVs, omap, resV, wk, wl, nc, evV, and_self, Option.map_some, reduceIte, Nat.reduceEqDiff, Nat.reduceAdd, Nat.reduceSub, Nat.reduceLeDiff, Nat.reduceBEq, Nat.reduceMul, Nat.reduceLT, Bool.and_self, Bool.true_and, Bool.not_true, Bool.not_false, Bool.false_eq_true, ne_eq, not_false_eq_true, reduceCtorEq, Int.reduceEq, List.length_map]; rfl) (hand_plain (by rfl)) (by rfl)
def c44_0 : C := .seq (.reg [iI 5 (.mv (.t 0)), iI 6 (.mv (.t 1)), iI 7 (.call (.c (.fn 61 [])) [(.t 5), (.t 6)]), iI 8 (.bin .geq (.t 7) (.c (.int .i64 0))), iI 4 (.mv (.t 8))]) .ret
def ir44 : C := .seq (.reg [iI 4 (.mv (.c (.bool false)))]) c44_0
theorem fd44 : fd? Try.prog 44 = some (9, [.slot 4], ir44) := by kernel_rfl
noncomputable def f44 (s_192 : (List Int)) (v_193 : Int) : Option (Bool) :=
  (f61 s_192 v_193).bind fun r_203 => (some (decide (0 ≤ r_203)))
theorem f44_ok {s_192 : (List Int)} {v_193 : Int} {r_ : Bool} (H : f44 s_192 v_193 = some r_) : Pure Try.prog 44 [.sl 0 false (s_192.map (AV.int .i64)), .int .i64 v_193] (· = .bool r_) := by
  refine Pure.walk2 fd44 none (Nat.le_of_ble_eq_true rfl) (by rfl) fun Q hQ => ?_
  simp only [f44] at H
  refine AW.rseq ?_
  try simp only [wk, wl, nc, evV, and_self, Option.map_some, reduceIte, Nat.reduceEqDiff, Nat.reduceAdd, Nat.reduceSub, Nat.reduceLeDiff, Nat.reduceBEq, Nat.reduceMul, Nat.reduceLT, Bool.and_self, Bool.true_and, Bool.not_true, Bool.not_false, Bool.false_eq_true, ne_eq, not_false_eq_true, reduceCtorEq, Int.reduceEq, List.length_map]
  refine AW.rseq ?_
  try simp only [wk, wl, nc, evV, and_self, Option.map_some, reduceIte, Nat.reduceEqDiff, Nat.reduceAdd, Nat.reduceSub, Nat.reduceLeDiff, Nat.reduceBEq, Nat.reduceMul, Nat.reduceLT, Bool.and_self, Bool.true_and, Bool.not_true, Bool.not_false, Bool.false_eq_true, ne_eq, not_false_eq_true, reduceCtorEq, Int.reduceEq, List.length_map]
  refine evTs_pure hFn H (fun _ h => f61_ok h) (by rfl) (by rfl) (by rfl) (by rfl) (fun _ => rfl) ?_ <;> clear H <;> intro r_203 H
  try simp only [eL, wk, wl, nc, evV, and_self, Option.map_some, reduceIte, Nat.reduceEqDiff, Nat.reduceAdd, Nat.reduceSub, Nat.reduceLeDiff, Nat.reduceBEq, Nat.reduceMul, Nat.reduceLT, Bool.and_self, Bool.true_and, Bool.not_true, Bool.not_false, Bool.false_eq_true, ne_eq, not_false_eq_true, reduceCtorEq, Int.reduceEq, List.length_map]
  refine AW.ret ?_
  cases H
  exact hQ _ _ _ _ (.inr rfl) (by simp only [resVs, omap, resV, wk, wl, nc, evV, and_self, Option.map_some, reduceIte, Nat.reduceEqDiff, Nat.reduceAdd, Nat.reduceSub, Nat.reduceLeDiff, Nat.reduceBEq, Nat.reduceMul, Nat.reduceLT, Bool.and_self, Bool.true_and, Bool.not_true, Bool.not_false, Bool.false_eq_true, ne_eq, not_false_eq_true, reduceCtorEq, Int.reduceEq, List.length_map]; rfl) (hand_plain (by rfl)) (by rfl)
noncomputable def f20_L1 (g_189 : ApiGroup) : Lp (Int) ((Int) ⊕ (Unit)) where
  body := fun v_209 => (if (decide (v_209 < ((g_189.fChannels.length : Nat) : Int))) = true then (at? g_189.fChannels v_209).bind fun x_214 => (if (decide (x_214 < 1)) = true then (some (.brk (Sum.inl 2))) else (if (decide (999 < x_214)) = true then (some (.brk (Sum.inl 2))) else (slc? g_189.fChannels 0 v_209).bind fun s_215 => (f44 s_215 x_214).bind fun r_216 => (if r_216 = true then (some (.brk (Sum.inl 7))) else (some (.next (IntKind.i64.wrap (v_209 + 1))))))) else (some (.brk (Sum.inr ()))))
  cst := fun v_209 => ⟨put (put (put (put (fun _ => .junk) 20 (.int .i64 v_209)) 19 (.int .i64 ((g_189.fChannels.length : Nat) : Int))) 18 (.sl 0 false (g_189.fChannels.map (AV.int .i64)))) 1 (.ptr 0 0), [.cel [.int .i64 g_189.fNumber, .sl 0 false (g_189.fChannels.map (AV.int .i64))]]⟩
def c20_0 : C := .cond (.t 12) (.seq (.reg [iI 2 (.mv (.c (.int .i64 2)))]) .ret) (.skip)
def c20_1 : C := .cond (.t 16) (.seq (.reg [iI 2 (.mv (.c (.int .i64 5)))]) .ret) (.skip)
def c20_2 : C := .cond (.t 30) (.seq (.reg [iI 2 (.mv (.c (.int .i64 2)))]) .ret) (.skip)
def c20_3 : C := .cond (.t 36) (.seq (.reg [iI 2 (.mv (.c (.int .i64 7)))]) .ret) (.skip)
def c20_4 : C := .seq (.reg [iI 31 (.faddr 1 (.t 1)), iI 32 (.load 0 (.t 31)), iI 33 (.mv (.t 3)), iI 34 (.slice 0 (.t 32) none (some (.t 33))), iI 35 (.mv (.t 4)), iI 36 (.call (.c (.fn 44 [])) [(.t 34), (.t 35)])]) c20_3
def c20_5 : C := .seq (.seq (.reg [iI 25 (.mv (.t 4)), iI 26 (.bin .lss (.t 25) (.c (.int .i64 1))), iI 27 (.mv (.t 26)), iG (some 28) 27 false (.mv (.t 4)), iG (some 29) 27 false (.bin .gtr (.t 28) (.c (.int .i64 999))), iI 30 (.pick (.t 27) (.c (.bool true)) (.t 29))]) c20_2) c20_4
def c20_6 : C := .reg [iI 37 (.bin .add (.t 20) (.c (.int .i64 1))), iI 20 (.mv (.t 37))]
def c20_7 : C := .seq (.block 1 (.seq (.reg [iI 22 (.mv (.t 20)), iI 23 (.iaddr 0 (.t 18) (.t 20)), iI 24 (.load 0 (.t 23)), iI 3 (.mv (.t 22)), iI 4 (.mv (.t 24))]) c20_5)) c20_6
def c20_8 : C := .seq (.cond (.t 21) (.skip) (.exit 0)) c20_7
def c20_9 : C := .block 0 (.loop (.seq (.reg [iI 21 (.bin .lss (.t 20) (.t 19))]) c20_8))
def c20_10 : C := .seq (.reg [iI 2 (.mv (.c (.int .i64 0)))]) .ret
def c20_11 : C := .seq (.seq (.reg [iI 17 (.faddr 1 (.t 1)), iI 18 (.load 0 (.t 17)), iI 19 (.len 0 (.t 18)), iI 20 (.mv (.c (.int .i64 0)))]) c20_9) c20_10
def c20_12 : C := .seq (.seq (.reg [iI 13 (.faddr 1 (.t 1)), iI 14 (.load 0 (.t 13)), iI 15 (.len 0 (.t 14)), iI 16 (.bin .gtr (.t 15) (.c (.int .i64 256)))]) c20_1) c20_11
def c20_13 : C := .seq (.seq (.reg [iI 5 (.faddr 0 (.t 1)), iI 6 (.load 0 (.t 5)), iI 7 (.bin .lss (.t 6) (.c (.int .i64 1))), iI 8 (.mv (.t 7)), iG (some 9) 8 false (.faddr 0 (.t 1)), iG (some 10) 8 false (.load 0 (.t 9)), iG (some 11) 8 false (.bin .gtr (.t 10) (.c (.int .i64 1048576))), iI 12 (.pick (.t 8) (.c (.bool true)) (.t 11))]) c20_0) c20_12
def ir20 : C := .seq (.reg [iI 1 (.box (.t 0)), iI 2 (.mv (.c (.int .i64 0)))]) c20_13
theorem fd20 : fd? Try.prog 20 = some (38, [.slot 2], ir20) := by kernel_rfl
noncomputable def f20 (g_189 : ApiGroup) : Option (Int) :=
  (if (decide (g_189.fNumber < 1)) = true then (some 2) else (if (decide (1048576 < g_189.fNumber)) = true then (some 2) else (if (decide (256 < ((g_189.fChannels.length : Nat) : Int))) = true then (some 5) else ((Lp.run (f20_L1 g_189) 0).bind fun r_ => match r_ with | (Sum.inl v_213) => (some v_213) | (Sum.inr _) => (some 0)))))
theorem f20_ok {g_189 : ApiGroup} {r_ : Int} (H : f20 g_189 = some r_) : Pure Try.prog 20 [.agg [.int .i64 g_189.fNumber, .sl 0 false (g_189.fChannels.map (AV.int .i64))]] (· = .int .i64 r_) := by
  refine Pure.walk2 fd20 none (Nat.le_of_ble_eq_true rfl) (by rfl) fun Q hQ => ?_
  simp only [f20] at H
  refine AW.rseq ?_
  try simp only [wk, wl, nc, evV, and_self, Option.map_some, reduceIte, Nat.reduceEqDiff, Nat.reduceAdd, Nat.reduceSub, Nat.reduceLeDiff, Nat.reduceBEq, Nat.reduceMul, Nat.reduceLT, Bool.and_self, Bool.true_and, Bool.not_true, Bool.not_false, Bool.false_eq_true, ne_eq, not_false_eq_true, reduceCtorEq, Int.reduceEq, List.length_map]
  refine AW.sseq ?_
  refine AW.rseq ?_
  try simp only [wk, wl, nc, evV, and_self, Option.map_some, reduceIte, Nat.reduceEqDiff, Nat.reduceAdd, Nat.reduceSub, Nat.reduceLeDiff, Nat.reduceBEq, Nat.reduceMul, Nat.reduceLT, Bool.and_self, Bool.true_and, Bool.not_true, Bool.not_false, Bool.false_eq_true, ne_eq, not_false_eq_true, reduceCtorEq, Int.reduceEq, List.length_map]
  refine evTs_ifg H (by rfl) ?_ ?_ <;> clear H <;> intro H
  · try simp only [wk, wl, nc, evV, and_self, Option.map_some, reduceIte, Nat.reduceEqDiff, Nat.reduceAdd, Nat.reduceSub, Nat.reduceLeDiff, Nat.reduceBEq, Nat.reduceMul, Nat.reduceLT, Bool.and_self, Bool.true_and, Bool.not_true, Bool.not_false, Bool.false_eq_true, ne_eq, not_false_eq_true, reduceCtorEq, Int.reduceEq, List.length_map]
    refine AW.ift (by rfl) ?_
    refine AW.rseq ?_
    try simp only [wk, wl, nc, evV, and_self, Option.map_some, reduceIte, Nat.reduceEqDiff, Nat.reduceAdd, Nat.reduceSub, Nat.reduceLeDiff, Nat.reduceBEq, Nat.reduceMul, Nat.reduceLT, Bool.and_self, Bool.true_and, Bool.not_true, Bool.not_false, Bool.false_eq_true, ne_eq, not_false_eq_true, reduceCtorEq, Int.reduceEq, List.length_map]
    refine AW.ret ?_
    refine seqQ.ret ?_
    cases H
    exact hQ _ _ _ _ (.inr rfl) (by simp only [resVs, omap, resV, wk, wl, nc, evV, and_self, Option.map_some, reduceIte, Nat.reduceEqDiff, Nat.reduceAdd, Nat.reduceSub, Nat.reduceLeDiff, Nat.reduceBEq, Nat.reduceMul, Nat.reduceLT, Bool.and_self, Bool.true_and, Bool.not_true, Bool.not_false, Bool.false_eq_true, ne_eq, not_false_eq_true, reduceCtorEq, Int.reduceEq, List.length_map]; rfl) (hand_plain (by rfl)) (by rfl)
  · try simp only [wk, wl, nc, evV, and_self, Option.map_some, reduceIte, Nat.reduceEqDiff, Nat.reduceAdd, Nat.reduceSub, Nat.reduceLeDiff, Nat.reduceBEq, Nat.reduceMul, Nat.reduceLT, Bool.and_self, Bool.true_and, Bool.not_true, Bool.not_false, Bool.false_eq_true, ne_eq, not_false_eq_true, reduceCtorEq, Int.reduceEq, List.length_map]
    refine AW.ifc H (by rfl) ?_ ?_ <;> clear H <;> intro H
    · refine AW.rseq ?_
      try simp only [wk, wl, nc, evV, and_self, Option.map_some, reduceIte, Nat.reduceEqDiff, Nat.reduceAdd, Nat.reduceSub, Nat.reduceLeDiff, Nat.reduceBEq, Nat.reduceMul, Nat.reduceLT, Bool.and_self, Bool.true_and, Bool.not_true, Bool.not_false, Bool.false_eq_true, ne_eq, not_false_eq_true, reduceCtorEq, Int.reduceEq, List.length_map]
      refine AW.ret ?_
      refine seqQ.ret ?_
      cases H
      exact hQ _ _ _ _ (.inr rfl) (by simp only [resVs, omap, resV, wk, wl, nc, evV, and_self, Option.map_some, reduceIte, Nat.reduceEqDiff, Nat.reduceAdd, Nat.reduceSub, Nat.reduceLeDiff, Nat.reduceBEq, Nat.reduceMul, Nat.reduceLT, Bool.and_self, Bool.true_and, Bool.not_true, Bool.not_false, Bool.false_eq_true, ne_eq, not_false_eq_true, reduceCtorEq, Int.reduceEq, List.length_map]; rfl) (hand_plain (by rfl)) (by rfl)
    · refine AW.skip ?_
      refine seqQ.norm ?_
      refine AW.sseq ?_
      refine AW.rseq ?_
      try simp only [wk, wl, nc, evV, and_self, Option.map_some, reduceIte, Nat.reduceEqDiff, Nat.reduceAdd, Nat.reduceSub, Nat.reduceLeDiff, Nat.reduceBEq, Nat.reduceMul, Nat.reduceLT, Bool.and_self, Bool.true_and, Bool.not_true, Bool.not_false, Bool.false_eq_true, ne_eq, not_false_eq_true, reduceCtorEq, Int.reduceEq, List.length_map]
      refine AW.ifc H (by rfl) ?_ ?_ <;> clear H <;> intro H
      · refine AW.rseq ?_
        try simp only [wk, wl, nc, evV, and_self, Option.map_some, reduceIte, Nat.reduceEqDiff, Nat.reduceAdd, Nat.reduceSub, Nat.reduceLeDiff, Nat.reduceBEq, Nat.reduceMul, Nat.reduceLT, Bool.and_self, Bool.true_and, Bool.not_true, Bool.not_false, Bool.false_eq_true, ne_eq, not_false_eq_true, reduceCtorEq, Int.reduceEq, List.length_map]
        refine AW.ret ?_
        refine seqQ.ret ?_
        cases H
        exact hQ _ _ _ _ (.inr rfl) (by simp only [resVs, omap, resV, wk, wl, nc, evV, and_self, Option.map_some, reduceIte, Nat.reduceEqDiff, Nat.reduceAdd, Nat.reduceSub, Nat.reduceLeDiff, Nat.reduceBEq, Nat.reduceMul, Nat.reduceLT, Bool.and_self, Bool.true_and, Bool.not_true, Bool.not_false, Bool.false_eq_true, ne_eq, not_false_eq_true, reduceCtorEq, Int.reduceEq, List.length_map]; rfl) (hand_plain (by rfl)) (by rfl)
      · refine AW.skip ?_
        refine seqQ.norm ?_
        refine AW.sseq ?_
        refine AW.rseq ?_
        try simp only [wk, wl, nc, evV, and_self, Option.map_some, reduceIte, Nat.reduceEqDiff, Nat.reduceAdd, Nat.reduceSub, Nat.reduceLeDiff, Nat.reduceBEq, Nat.reduceMul, Nat.reduceLT, Bool.and_self, Bool.true_and, Bool.not_true, Bool.not_false, Bool.false_eq_true, ne_eq, not_false_eq_true, reduceCtorEq, Int.reduceEq, List.length_map]
        refine AW.bend ?_
        refine AW.iter H ((Le.none [0] [1, 18, 19, 20] (by decide) (by simp only [f20_L1, restrict_eq, renS_nil, renS_cons, renB_els, renB_cel, renB_dead, deep_eq, map_ren_enc, ren_agg', ren_tup', ren_fn', ren_int', ren_bool', ren_str', ren_sl', ren_pro', ren_nilp', ren_nilfn', ren_junk', ren_ptr', ren_row', ren_arow', ren_eptr', vm, List.idxOf?_cons, List.idxOf?_nil, beq_self_eq_true, Option.map_none, List.getD_cons_zero, List.getD_cons_succ, wk, wl, nc, evV, and_self, Option.map_some, reduceIte, Nat.reduceEqDiff, Nat.reduceAdd, List.length_map, Nat.reduceSub, Nat.reduceLeDiff, Nat.reduceBEq, Nat.reduceMul, Nat.reduceLT, Bool.and_self, Bool.true_and, Bool.not_true, Bool.not_false, Bool.false_eq_true, ne_eq, not_false_eq_true, reduceCtorEq, Int.reduceEq]))) ?_ <;> clear H
        rintro v_209 x_ st0_ H hst_
        simp only [f20_L1] at H hst_
        subst hst_
        refine AW.rseq ?_
        try simp only [wk, wl, nc, evV, and_self, Option.map_some, reduceIte, Nat.reduceEqDiff, Nat.reduceAdd, Nat.reduceSub, Nat.reduceLeDiff, Nat.reduceBEq, Nat.reduceMul, Nat.reduceLT, Bool.and_self, Bool.true_and, Bool.not_true, Bool.not_false, Bool.false_eq_true, ne_eq, not_false_eq_true, reduceCtorEq, Int.reduceEq, List.length_map]
        refine AW.sseq ?_
        refine AW.ifc H (by rfl) ?_ ?_ <;> clear H <;> intro H
        · refine AW.skip ?_
          refine seqQ.norm ?_
          refine AW.bseq ?_
          refine AW.rseq ?_
          try simp only [wk, wl, nc, evV, and_self, Option.map_some, reduceIte, Nat.reduceEqDiff, Nat.reduceAdd, Nat.reduceSub, Nat.reduceLeDiff, Nat.reduceBEq, Nat.reduceMul, Nat.reduceLT, Bool.and_self, Bool.true_and, Bool.not_true, Bool.not_false, Bool.false_eq_true, ne_eq, not_false_eq_true, reduceCtorEq, Int.reduceEq, List.length_map]
          refine evTs_at (enc := (AV.int .i64)) H (by rfl) (by rfl) ?_ <;> clear H <;> intro x_214 H
          try simp only [wk, wl, nc, evV, and_self, Option.map_some, reduceIte, Nat.reduceEqDiff, Nat.reduceAdd, Nat.reduceSub, Nat.reduceLeDiff, Nat.reduceBEq, Nat.reduceMul, Nat.reduceLT, Bool.and_self, Bool.true_and, Bool.not_true, Bool.not_false, Bool.false_eq_true, ne_eq, not_false_eq_true, reduceCtorEq, Int.reduceEq, List.length_map]
          refine AW.sseq ?_
          refine AW.rseq ?_
          try simp only [wk, wl, nc, evV, and_self, Option.map_some, reduceIte, Nat.reduceEqDiff, Nat.reduceAdd, Nat.reduceSub, Nat.reduceLeDiff, Nat.reduceBEq, Nat.reduceMul, Nat.reduceLT, Bool.and_self, Bool.true_and, Bool.not_true, Bool.not_false, Bool.false_eq_true, ne_eq, not_false_eq_true, reduceCtorEq, Int.reduceEq, List.length_map]
          refine evTs_ifg H (by rfl) ?_ ?_ <;> clear H <;> intro H
          · try simp only [wk, wl, nc, evV, and_self, Option.map_some, reduceIte, Nat.reduceEqDiff, Nat.reduceAdd, Nat.reduceSub, Nat.reduceLeDiff, Nat.reduceBEq, Nat.reduceMul, Nat.reduceLT, Bool.and_self, Bool.true_and, Bool.not_true, Bool.not_false, Bool.false_eq_true, ne_eq, not_false_eq_true, reduceCtorEq, Int.reduceEq, List.length_map]
            refine AW.ift (by rfl) ?_
            refine AW.rseq ?_
            try simp only [wk, wl, nc, evV, and_self, Option.map_some, reduceIte, Nat.reduceEqDiff, Nat.reduceAdd, Nat.reduceSub, Nat.reduceLeDiff, Nat.reduceBEq, Nat.reduceMul, Nat.reduceLT, Bool.and_self, Bool.true_and, Bool.not_true, Bool.not_false, Bool.false_eq_true, ne_eq, not_false_eq_true, reduceCtorEq, Int.reduceEq, List.length_map]
            refine AW.ret ?_
            refine seqQ.ret ?_
            refine blkQ.ret ?_
            refine loopQ.ret H ?_ <;> clear H <;> intro H
            try dsimp only at H
            refine blk0.ret ?_
            refine seqQ.ret ?_
            cases H
            exact hQ _ _ _ _ (.inr rfl) (by simp only [resVs, omap, resV, wk, wl, nc, evV, and_self, Option.map_some, reduceIte, Nat.reduceEqDiff, Nat.reduceAdd, Nat.reduceSub, Nat.reduceLeDiff, Nat.reduceBEq, Nat.reduceMul, Nat.reduceLT, Bool.and_self, Bool.true_and, Bool.not_true, Bool.not_false, Bool.false_eq_true, ne_eq, not_false_eq_true, reduceCtorEq, Int.reduceEq, List.length_map]; rfl) (hand_plain (by rfl)) (by rfl)
          · try simp only [wk, wl, nc, evV, and_self, Option.map_some, reduceIte, Nat.reduceEqDiff, Nat.reduceAdd, Nat.reduceSub, Nat.reduceLeDiff, Nat.reduceBEq, Nat.reduceMul, Nat.reduceLT, Bool.and_self, Bool.true_and, Bool.not_true, Bool.not_false, Bool.false_eq_true, ne_eq, not_false_eq_true, reduceCtorEq, Int.reduceEq, List.length_map]
            refine AW.ifc H (by rfl) ?_ ?_ <;> clear H <;> intro H
            · refine AW.rseq ?_
              try simp only [wk, wl, nc, evV, and_self, Option.map_some, reduceIte, Nat.reduceEqDiff, Nat.reduceAdd, Nat.reduceSub, Nat.reduceLeDiff, Nat.reduceBEq, Nat.reduceMul, Nat.reduceLT, Bool.and_self, Bool.true_and, Bool.not_true, Bool.not_false, Bool.false_eq_true, ne_eq, not_false_eq_true, reduceCtorEq, Int.reduceEq, List.length_map]
              refine AW.ret ?_
              refine seqQ.ret ?_
              refine blkQ.ret ?_
              refine loopQ.ret H ?_ <;> clear H <;> intro H
              try dsimp only at H
              refine blk0.ret ?_
              refine seqQ.ret ?_
              cases H
              exact hQ _ _ _ _ (.inr rfl) (by simp only [resVs, omap, resV, wk, wl, nc, evV, and_self, Option.map_some, reduceIte, Nat.reduceEqDiff, Nat.reduceAdd, Nat.reduceSub, Nat.reduceLeDiff, Nat.reduceBEq, Nat.reduceMul, Nat.reduceLT, Bool.and_self, Bool.true_and, Bool.not_true, Bool.not_false, Bool.false_eq_true, ne_eq, not_false_eq_true, reduceCtorEq, Int.reduceEq, List.length_map]; rfl) (hand_plain (by rfl)) (by rfl)
            · refine AW.skip ?_
              refine seqQ.norm ?_
              refine AW.rseq ?_
              try simp only [wk, wl, nc, evV, and_self, Option.map_some, reduceIte, Nat.reduceEqDiff, Nat.reduceAdd, Nat.reduceSub, Nat.reduceLeDiff, Nat.reduceBEq, Nat.reduceMul, Nat.reduceLT, Bool.and_self, Bool.true_and, Bool.not_true, Bool.not_false, Bool.false_eq_true, ne_eq, not_false_eq_true, reduceCtorEq, Int.reduceEq, List.length_map]
              refine evTs_slc (enc := (AV.int .i64)) H (by rfl) (by simp only [loI, hiI, wk, wl, nc, evV, and_self, Option.map_some, reduceIte, Nat.reduceEqDiff, Nat.reduceAdd, Nat.reduceSub, Nat.reduceLeDiff, Nat.reduceBEq, Nat.reduceMul, Nat.reduceLT, Bool.and_self, Bool.true_and, Bool.not_true, Bool.not_false, Bool.false_eq_true, ne_eq, not_false_eq_true, reduceCtorEq, Int.reduceEq, List.length_map]; rfl) (by simp only [loI, hiI, wk, wl, nc, evV, and_self, Option.map_some, reduceIte, Nat.reduceEqDiff, Nat.reduceAdd, Nat.reduceSub, Nat.reduceLeDiff, Nat.reduceBEq, Nat.reduceMul, Nat.reduceLT, Bool.and_self, Bool.true_and, Bool.not_true, Bool.not_false, Bool.false_eq_true, ne_eq, not_false_eq_true, reduceCtorEq, Int.reduceEq, List.length_map]; rfl) ?_ <;> clear H <;> intro s_215 H
              try simp only [wk, wl, nc, evV, and_self, Option.map_some, reduceIte, Nat.reduceEqDiff, Nat.reduceAdd, Nat.reduceSub, Nat.reduceLeDiff, Nat.reduceBEq, Nat.reduceMul, Nat.reduceLT, Bool.and_self, Bool.true_and, Bool.not_true, Bool.not_false, Bool.false_eq_true, ne_eq, not_false_eq_true, reduceCtorEq, Int.reduceEq, List.length_map]
              refine evTs_pure hFn H (fun _ h => f44_ok h) (by rfl) (by rfl) (by rfl) (by rfl) (fun _ => rfl) ?_ <;> clear H <;> intro r_216 H
              try simp only [eL, wk, wl, nc, evV, and_self, Option.map_some, reduceIte, Nat.reduceEqDiff, Nat.reduceAdd, Nat.reduceSub, Nat.reduceLeDiff, Nat.reduceBEq, Nat.reduceMul, Nat.reduceLT, Bool.and_self, Bool.true_and, Bool.not_true, Bool.not_false, Bool.false_eq_true, ne_eq, not_false_eq_true, reduceCtorEq, Int.reduceEq, List.length_map]
              refine AW.ifc H (by rfl) ?_ ?_ <;> clear H <;> intro H
              · refine AW.rseq ?_
                try simp only [wk, wl, nc, evV, and_self, Option.map_some, reduceIte, Nat.reduceEqDiff, Nat.reduceAdd, Nat.reduceSub, Nat.reduceLeDiff, Nat.reduceBEq, Nat.reduceMul, Nat.reduceLT, Bool.and_self, Bool.true_and, Bool.not_true, Bool.not_false, Bool.false_eq_true, ne_eq, not_false_eq_true, reduceCtorEq, Int.reduceEq, List.length_map]
                refine AW.ret ?_
                refine blkQ.ret ?_
                refine loopQ.ret H ?_ <;> clear H <;> intro H
                try dsimp only at H
                refine blk0.ret ?_
                refine seqQ.ret ?_
                cases H
                exact hQ _ _ _ _ (.inr rfl) (by simp only [resVs, omap, resV, wk, wl, nc, evV, and_self, Option.map_some, reduceIte, Nat.reduceEqDiff, Nat.reduceAdd, Nat.reduceSub, Nat.reduceLeDiff, Nat.reduceBEq, Nat.reduceMul, Nat.reduceLT, Bool.and_self, Bool.true_and, Bool.not_true, Bool.not_false, Bool.false_eq_true, ne_eq, not_false_eq_true, reduceCtorEq, Int.reduceEq, List.length_map]; rfl) (hand_plain (by rfl)) (by rfl)
              · refine AW.skip ?_
                refine blkQ.norm ?_
                refine AW.rend ?_
                try simp only [wk, wl, nc, evV, and_self, Option.map_some, reduceIte, Nat.reduceEqDiff, Nat.reduceAdd, Nat.reduceSub, Nat.reduceLeDiff, Nat.reduceBEq, Nat.reduceMul, Nat.reduceLT, Bool.and_self, Bool.true_and, Bool.not_true, Bool.not_false, Bool.false_eq_true, ne_eq, not_false_eq_true, reduceCtorEq, Int.reduceEq, List.length_map]
                exact loopQ.next H ((Le.none [0] [1, 18, 19, 20] (by decide) (by simp only [f20_L1, restrict_eq, renS_nil, renS_cons, renB_els, renB_cel, renB_dead, deep_eq, map_ren_enc, ren_agg', ren_tup', ren_fn', ren_int', ren_bool', ren_str', ren_sl', ren_pro', ren_nilp', ren_nilfn', ren_junk', ren_ptr', ren_row', ren_arow', ren_eptr', vm, List.idxOf?_cons, List.idxOf?_nil, beq_self_eq_true, Option.map_none, List.getD_cons_zero, List.getD_cons_succ, wk, wl, nc, evV, and_self, Option.map_some, reduceIte, Nat.reduceEqDiff, Nat.reduceAdd, List.length_map, Nat.reduceSub, Nat.reduceLeDiff, Nat.reduceBEq, Nat.reduceMul, Nat.reduceLT, Bool.and_self, Bool.true_and, Bool.not_true, Bool.not_false, Bool.false_eq_true, ne_eq, not_false_eq_true, reduceCtorEq, Int.reduceEq])))
        · refine AW.exit ?_
          refine seqQ.exit ?_
          refine loopQ.exit H ?_ <;> clear H <;> intro H
          try dsimp only at H
          refine blk0.here ?_
          refine seqQ.norm ?_
          refine AW.rseq ?_
          try simp only [wk, wl, nc, evV, and_self, Option.map_some, reduceIte, Nat.reduceEqDiff, Nat.reduceAdd, Nat.reduceSub, Nat.reduceLeDiff, Nat.reduceBEq, Nat.reduceMul, Nat.reduceLT, Bool.and_self, Bool.true_and, Bool.not_true, Bool.not_false, Bool.false_eq_true, ne_eq, not_false_eq_true, reduceCtorEq, Int.reduceEq, List.length_map]
          refine AW.ret ?_
          cases H
          exact hQ _ _ _ _ (.inr rfl) (by simp only [resVs, omap, resV, wk, wl, nc, evV, and_self, Option.map_some, reduceIte, Nat.reduceEqDiff, Nat.reduceAdd, Nat.reduceSub, Nat.reduceLeDiff, Nat.reduceBEq, Nat.reduceMul, Nat.reduceLT, Bool.and_self, Bool.true_and, Bool.not_true, Bool.not_false, Bool.false_eq_true, ne_eq, not_false_eq_true, reduceCtorEq, Int.reduceEq, List.length_map]; rfl) (hand_plain (by rfl)) (by rfl)
noncomputable def f26_L1 (g_186 : ApiGroup) (step_187 : Int) : Lp (Int × (List Int)) ((List Int)) where
  body := fun (i_226, out_227) => (if (decide (i_226 < ((g_186.fChannels.length : Nat) : Int))) = true then (at? g_186.fChannels i_226).bind fun x_231 => (app? 8 out_227 ([x_231])).bind fun out_232 => (some (.next ((IntKind.i64.wrap (i_226 + step_187)), out_232))) else (some (.brk out_227)))
  cst := fun (i_226, out_227) => ⟨put (put (put (put (put (fun _ => .junk) 10 (.int .i64 i_226)) 9 (.ptr 2 0)) 6 (.ptr 1 0)) 3 (.ptr 0 0)) 1 (.int .i64 step_187), [.cel [.int .i64 g_186.fNumber, .sl 0 false (g_186.fChannels.map (AV.int .i64))], .cel [.int .i64 0, .sl 0 true []], .cel [.int .i64 g_186.fNumber, .row 0 3 0 out_227.length], .els 0 (out_227.map (AV.int .i64))]⟩
def c26_0 : C := .cond (.t 14) (.seq (.reg [iI 15 (.build [(1, (.int .i64 0)), (1, (.sl 0 true []))] []), iI 16 (.mv (.t 8)), iN (.store 2 (.t 6) (.t 15)), iI 7 (.mv (.t 16))]) .ret) (.skip)
def c26_1 : C := .seq (.reg [iI 13 (.mv (.t 8)), iI 14 (.bin .neq (.t 13) (.c (.int .i64 0)))]) c26_0
def c26_2 : C := .cond (.t 30) (.seq (.reg [iI 31 (.build [(1, (.int .i64 0)), (1, (.sl 0 true []))] []), iN (.store 2 (.t 6) (.t 31)), iI 7 (.mv (.c (.int .i64 2)))]) .ret) (.skip)
def c26_3 : C := .cond (.t 40) (.skip) (.exit 0)
def c26_4 : C := .reg [iI 41 (.mv (.t 10)), iI 42 (.mv (.t 1)), iI 43 (.bin .add (.t 41) (.t 42)), iI 10 (.mv (.t 43))]
def c26_5 : C := .seq (.block 1 (.reg [iI 44 (.faddr 1 (.t 9)), iI 45 (.load 0 (.t 44)), iI 46 (.faddr 1 (.t 3)), iI 47 (.load 0 (.t 46)), iI 48 (.mv (.t 10)), iI 49 (.iaddr 0 (.t 47) (.t 48)), iI 50 (.load 0 (.t 49)), iI 51 (.mkslp 0 1 (.int .i64 0) [(0, (.t 50))]), iI 52 (.append 0 8 (.t 45) (.t 51)), iI 53 (.faddr 1 (.t 9)), iN (.store 0 (.t 53) (.t 52))])) c26_4
def c26_6 : C := .block 0 (.loop (.seq (.seq (.reg [iI 36 (.mv (.t 10)), iI 37 (.faddr 1 (.t 3)), iI 38 (.load 0 (.t 37)), iI 39 (.len 0 (.t 38)), iI 40 (.bin .lss (.t 36) (.t 39))]) c26_3) c26_5))
def c26_7 : C := .seq (.reg [iI 54 (.load 2 (.t 9)), iN (.store 2 (.t 6) (.t 54)), iI 7 (.mv (.c (.int .i64 0)))]) .ret
def c26_8 : C := .seq (.seq (.reg [iI 35 (.mv (.t 2)), iI 10 (.mv (.t 35))]) c26_6) c26_7
def c26_9 : C := .seq (.reg [iI 32 (.faddr 0 (.t 3)), iI 33 (.load 0 (.t 32)), iI 34 (.build [(1, (.int .i64 0)), (1, (.sl 0 true []))] [(0, 0, (.t 33))]), iI 9 (.alloc [(1, (.int .i64 0)), (1, (.sl 0 true []))]), iN (.store 2 (.t 9) (.t 34))]) c26_8
def c26_10 : C := .seq (.seq (.reg [iI 17 (.mv (.t 1)), iI 18 (.bin .lss (.t 17) (.c (.int .i64 1))), iI 19 (.mv (.t 18)), iG (some 20) 19 false (.mv (.t 1)), iG (some 21) 19 false (.bin .gtr (.t 20) (.c (.int .i64 256))), iI 22 (.pick (.t 19) (.c (.bool true)) (.t 21)), iI 23 (.mv (.t 22)), iG (some 24) 23 false (.mv (.t 2)), iG (some 25) 23 false (.bin .lss (.t 24) (.c (.int .i64 0))), iI 26 (.pick (.t 23) (.c (.bool true)) (.t 25)), iI 27 (.mv (.t 26)), iG (some 28) 27 false (.mv (.t 2)), iG (some 29) 27 false (.bin .gtr (.t 28) (.c (.int .i64 256))), iI 30 (.pick (.t 27) (.c (.bool true)) (.t 29))]) c26_2) c26_9
def c26_11 : C := .seq (.seq (.reg [iI 11 (.load 2 (.t 3)), iI 12 (.call (.c (.fn 20 [])) [(.t 11)]), iI 8 (.mv (.t 12))]) c26_1) c26_10
def ir26 : C := .seq (.reg [iI 3 (.box (.t 0)), iI 6 (.alloc [(1, (.int .i64 0)), (1, (.sl 0 true []))]), iI 7 (.mv (.c (.int .i64 0)))]) c26_11
theorem fd26 : fd? Try.prog 26 = some (55, [.cell 6 2, .slot 7], ir26) := by kernel_rfl
noncomputable def f26 (g_186 : ApiGroup) (step_187 : Int) (first_188 : Int) : Option (ApiGroup × Int) :=
  (f20 g_186).bind fun r_217 => (if (decide (r_217 ≠ 0)) = true then (some ((ApiGroup.mk 0 ([])), r_217)) else (if (decide (step_187 < 1)) = true then (some ((ApiGroup.mk 0 ([])), 2)) else (if (decide (256 < step_187)) = true then (some ((ApiGroup.mk 0 ([])), 2)) else (if (decide (first_188 < 0)) = true then (some ((ApiGroup.mk 0 ([])), 2)) else (if (decide (256 < first_188)) = true then (some ((ApiGroup.mk 0 ([])), 2)) else (Lp.run (f26_L1 g_186 step_187) (first_188, [])).bind fun out_230 => (some ((ApiGroup.mk g_186.fNumber out_230), 0)))))))
theorem f26_ok {g_186 : ApiGroup} {step_187 : Int} {first_188 : Int} {r_ : ApiGroup × Int} (H : f26 g_186 step_187 first_188 = some r_) : Pure Try.prog 26 [.agg [.int .i64 g_186.fNumber, .sl 0 false (g_186.fChannels.map (AV.int .i64))], .int .i64 step_187, .int .i64 first_188] (· = .tup [.agg [.int .i64 r_.1.fNumber, .sl 0 false (r_.1.fChannels.map (AV.int .i64))], .int .i64 r_.2]) := by
  refine Pure.walk2 fd26 none (Nat.le_of_ble_eq_true rfl) (by rfl) fun Q hQ => ?_
  simp only [f26] at H
  refine AW.rseq ?_
  try simp only [wk, wl, nc, evV, and_self, Option.map_some, reduceIte, Nat.reduceEqDiff, Nat.reduceAdd, Nat.reduceSub, Nat.reduceLeDiff, Nat.reduceBEq, Nat.reduceMul, Nat.reduceLT, Bool.and_self, Bool.true_and, Bool.not_true, Bool.not_false, Bool.false_eq_true, ne_eq, not_false_eq_true, reduceCtorEq, Int.reduceEq, List.length_map]
  refine AW.sseq ?_
  refine AW.rseq ?_
  try simp only [wk, wl, nc, evV, and_self, Option.map_some, reduceIte, Nat.reduceEqDiff, Nat.reduceAdd, Nat.reduceSub, Nat.reduceLeDiff, Nat.reduceBEq, Nat.reduceMul, Nat.reduceLT, Bool.and_self, Bool.true_and, Bool.not_true, Bool.not_false, Bool.false_eq_true, ne_eq, not_false_eq_true, reduceCtorEq, Int.reduceEq, List.length_map]
  refine evTs_pure hFn H (fun _ h => f20_ok h) (by rfl) (by rfl) (by rfl) (by rfl) (fun _ => rfl) ?_ <;> clear H <;> intro r_217 H
  try simp only [eL, wk, wl, nc, evV, and_self, Option.map_some, reduceIte, Nat.reduceEqDiff, Nat.reduceAdd, Nat.reduceSub, Nat.reduceLeDiff, Nat.reduceBEq, Nat.reduceMul, Nat.reduceLT, Bool.and_self, Bool.true_and, Bool.not_true, Bool.not_false, Bool.false_eq_true, ne_eq, not_false_eq_true, reduceCtorEq, Int.reduceEq, List.length_map]
  refine AW.rseq ?_
  try simp only [wk, wl, nc, evV, and_self, Option.map_some, reduceIte, Nat.reduceEqDiff, Nat.reduceAdd, Nat.reduceSub, Nat.reduceLeDiff, Nat.reduceBEq, Nat.reduceMul, Nat.reduceLT, Bool.and_self, Bool.true_and, Bool.not_true, Bool.not_false, Bool.false_eq_true, ne_eq, not_false_eq_true, reduceCtorEq, Int.reduceEq, List.length_map]
  refine AW.ifc H (by rfl) ?_ ?_ <;> clear H <;> intro H
  · refine AW.rseq ?_
    try simp only [wk, wl, nc, evV, and_self, Option.map_some, reduceIte, Nat.reduceEqDiff, Nat.reduceAdd, Nat.reduceSub, Nat.reduceLeDiff, Nat.reduceBEq, Nat.reduceMul, Nat.reduceLT, Bool.and_self, Bool.true_and, Bool.not_true, Bool.not_false, Bool.false_eq_true, ne_eq, not_false_eq_true, reduceCtorEq, Int.reduceEq, List.length_map]
    refine AW.ret ?_
    refine seqQ.ret ?_
    cases H
    exact hQ _ _ _ _ (.inr rfl) (by simp only [resVs, omap, resV, wk, wl, nc, evV, and_self, Option.map_some, reduceIte, Nat.reduceEqDiff, Nat.reduceAdd, Nat.reduceSub, Nat.reduceLeDiff, Nat.reduceBEq, Nat.reduceMul, Nat.reduceLT, Bool.and_self, Bool.true_and, Bool.not_true, Bool.not_false, Bool.false_eq_true, ne_eq, not_false_eq_true, reduceCtorEq, Int.reduceEq, List.length_map]; rfl) (hand_plain (by rfl)) (by rfl)
  · refine AW.skip ?_
    refine seqQ.norm ?_
    refine AW.sseq ?_
    refine AW.rseq ?_
    try simp only [wk, wl, nc, evV, and_self, Option.map_some, reduceIte, Nat.reduceEqDiff, Nat.reduceAdd, Nat.reduceSub, Nat.reduceLeDiff, Nat.reduceBEq, Nat.reduceMul, Nat.reduceLT, Bool.and_self, Bool.true_and, Bool.not_true, Bool.not_false, Bool.false_eq_true, ne_eq, not_false_eq_true, reduceCtorEq, Int.reduceEq, List.length_map]
    refine evTs_ifg H (by rfl) ?_ ?_ <;> clear H <;> intro H
    · try simp only [wk, wl, nc, evV, and_self, Option.map_some, reduceIte, Nat.reduceEqDiff, Nat.reduceAdd, Nat.reduceSub, Nat.reduceLeDiff, Nat.reduceBEq, Nat.reduceMul, Nat.reduceLT, Bool.and_self, Bool.true_and, Bool.not_true, Bool.not_false, Bool.false_eq_true, ne_eq, not_false_eq_true, reduceCtorEq, Int.reduceEq, List.length_map]
      refine AW.ift (by rfl) ?_
      refine AW.rseq ?_
      try simp only [wk, wl, nc, evV, and_self, Option.map_some, reduceIte, Nat.reduceEqDiff, Nat.reduceAdd, Nat.reduceSub, Nat.reduceLeDiff, Nat.reduceBEq, Nat.reduceMul, Nat.reduceLT, Bool.and_self, Bool.true_and, Bool.not_true, Bool.not_false, Bool.false_eq_true, ne_eq, not_false_eq_true, reduceCtorEq, Int.reduceEq, List.length_map]
      refine AW.ret ?_
      refine seqQ.ret ?_
      cases H
      exact hQ _ _ _ _ (.inr rfl) (by simp only [resVs, omap, resV, wk, wl, nc, evV, and_self, Option.map_some, reduceIte, Nat.reduceEqDiff, Nat.reduceAdd, Nat.reduceSub, Nat.reduceLeDiff, Nat.reduceBEq, Nat.reduceMul, Nat.reduceLT, Bool.and_self, Bool.true_and, Bool.not_true, Bool.not_false, Bool.false_eq_true, ne_eq, not_false_eq_true, reduceCtorEq, Int.reduceEq, List.length_map]; rfl) (hand_plain (by rfl)) (by rfl)
    · try simp only [wk, wl, nc, evV, and_self, Option.map_some, reduceIte, Nat.reduceEqDiff, Nat.reduceAdd, Nat.reduceSub, Nat.reduceLeDiff, Nat.reduceBEq, Nat.reduceMul, Nat.reduceLT, Bool.and_self, Bool.true_and, Bool.not_true, Bool.not_false, Bool.false_eq_true, ne_eq, not_false_eq_true, reduceCtorEq, Int.reduceEq, List.length_map]
      refine evTs_ifg H (by rfl) ?_ ?_ <;> clear H <;> intro H
      · try simp only [wk, wl, nc, evV, and_self, Option.map_some, reduceIte, Nat.reduceEqDiff, Nat.reduceAdd, Nat.reduceSub, Nat.reduceLeDiff, Nat.reduceBEq, Nat.reduceMul, Nat.reduceLT, Bool.and_self, Bool.true_and, Bool.not_true, Bool.not_false, Bool.false_eq_true, ne_eq, not_false_eq_true, reduceCtorEq, Int.reduceEq, List.length_map]
        refine AW.ift (by rfl) ?_
        refine AW.rseq ?_
        try simp only [wk, wl, nc, evV, and_self, Option.map_some, reduceIte, Nat.reduceEqDiff, Nat.reduceAdd, Nat.reduceSub, Nat.reduceLeDiff, Nat.reduceBEq, Nat.reduceMul, Nat.reduceLT, Bool.and_self, Bool.true_and, Bool.not_true, Bool.not_false, Bool.false_eq_true, ne_eq, not_false_eq_true, reduceCtorEq, Int.reduceEq, List.length_map]
        refine AW.ret ?_
        refine seqQ.ret ?_
        cases H
        exact hQ _ _ _ _ (.inr rfl) (by simp only [resVs, omap, resV, wk, wl, nc, evV, and_self, Option.map_some, reduceIte, Nat.reduceEqDiff, Nat.reduceAdd, Nat.reduceSub, Nat.reduceLeDiff, Nat.reduceBEq, Nat.reduceMul, Nat.reduceLT, Bool.and_self, Bool.true_and, Bool.not_true, Bool.not_false, Bool.false_eq_true, ne_eq, not_false_eq_true, reduceCtorEq, Int.reduceEq, List.length_map]; rfl) (hand_plain (by rfl)) (by rfl)
      · try simp only [wk, wl, nc, evV, and_self, Option.map_some, reduceIte, Nat.reduceEqDiff, Nat.reduceAdd, Nat.reduceSub, Nat.reduceLeDiff, Nat.reduceBEq, Nat.reduceMul, Nat.reduceLT, Bool.and_self, Bool.true_and, Bool.not_true, Bool.not_false, Bool.false_eq_true, ne_eq, not_false_eq_true, reduceCtorEq, Int.reduceEq, List.length_map]
        refine evTs_ifg H (by rfl) ?_ ?_ <;> clear H <;> intro H
        · try simp only [wk, wl, nc, evV, and_self, Option.map_some, reduceIte, Nat.reduceEqDiff, Nat.reduceAdd, Nat.reduceSub, Nat.reduceLeDiff, Nat.reduceBEq, Nat.reduceMul, Nat.reduceLT, Bool.and_self, Bool.true_and, Bool.not_true, Bool.not_false, Bool.false_eq_true, ne_eq, not_false_eq_true, reduceCtorEq, Int.reduceEq, List.length_map]
          refine AW.ift (by rfl) ?_
          refine AW.rseq ?_
          try simp only [wk, wl, nc, evV, and_self, Option.map_some, reduceIte, Nat.reduceEqDiff, Nat.reduceAdd, Nat.reduceSub, Nat.reduceLeDiff, Nat.reduceBEq, Nat.reduceMul, Nat.reduceLT, Bool.and_self, Bool.true_and, Bool.not_true, Bool.not_false, Bool.false_eq_true, ne_eq, not_false_eq_true, reduceCtorEq, Int.reduceEq, List.length_map]
          refine AW.ret ?_
          refine seqQ.ret ?_
          cases H
          exact hQ _ _ _ _ (.inr rfl) (by simp only [resVs, omap, resV, wk, wl, nc, evV, and_self, Option.map_some, reduceIte, Nat.reduceEqDiff, Nat.reduceAdd, Nat.reduceSub, Nat.reduceLeDiff, Nat.reduceBEq, Nat.reduceMul, Nat.reduceLT, Bool.and_self, Bool.true_and, Bool.not_true, Bool.not_false, Bool.false_eq_true, ne_eq, not_false_eq_true, reduceCtorEq, Int.reduceEq, List.length_map]; rfl) (hand_plain (by rfl)) (by rfl)
        · try simp only [wk, wl, nc, evV, and_self, Option.map_some, reduceIte, Nat.reduceEqDiff, Nat.reduceAdd, Nat.reduceSub, Nat.reduceLeDiff, Nat.reduceBEq, Nat.reduceMul, Nat.reduceLT, Bool.and_self, Bool.true_and, Bool.not_true, Bool.not_false, Bool.false_eq_true, ne_eq, not_false_eq_true, reduceCtorEq, Int.reduceEq, List.length_map]
          refine AW.ifc H (by rfl) ?_ ?_ <;> clear H <;> intro H
          · refine AW.rseq ?_
            try simp only [wk, wl, nc, evV, and_self, Option.map_some, reduceIte, Nat.reduceEqDiff, Nat.reduceAdd, Nat.reduceSub, Nat.reduceLeDiff, Nat.reduceBEq, Nat.reduceMul, Nat.reduceLT, Bool.and_self, Bool.true_and, Bool.not_true, Bool.not_false, Bool.false_eq_true, ne_eq, not_false_eq_true, reduceCtorEq, Int.reduceEq, List.length_map]
            refine AW.ret ?_
            refine seqQ.ret ?_
            cases H
            exact hQ _ _ _ _ (.inr rfl) (by simp only [resVs, omap, resV, wk, wl, nc, evV, and_self, Option.map_some, reduceIte, Nat.reduceEqDiff, Nat.reduceAdd, Nat.reduceSub, Nat.reduceLeDiff, Nat.reduceBEq, Nat.reduceMul, Nat.reduceLT, Bool.and_self, Bool.true_and, Bool.not_true, Bool.not_false, Bool.false_eq_true, ne_eq, not_false_eq_true, reduceCtorEq, Int.reduceEq, List.length_map]; rfl) (hand_plain (by rfl)) (by rfl)
          · refine AW.skip ?_
            refine seqQ.norm ?_
            refine AW.rseq ?_
            try simp only [wk, wl, nc, evV, and_self, Option.map_some, reduceIte, Nat.reduceEqDiff, Nat.reduceAdd, Nat.reduceSub, Nat.reduceLeDiff, Nat.reduceBEq, Nat.reduceMul, Nat.reduceLT, Bool.and_self, Bool.true_and, Bool.not_true, Bool.not_false, Bool.false_eq_true, ne_eq, not_false_eq_true, reduceCtorEq, Int.reduceEq, List.length_map]
            refine AW.sseq ?_
            refine AW.rseq ?_
            try simp only [wk, wl, nc, evV, and_self, Option.map_some, reduceIte, Nat.reduceEqDiff, Nat.reduceAdd, Nat.reduceSub, Nat.reduceLeDiff, Nat.reduceBEq, Nat.reduceMul, Nat.reduceLT, Bool.and_self, Bool.true_and, Bool.not_true, Bool.not_false, Bool.false_eq_true, ne_eq, not_false_eq_true, reduceCtorEq, Int.reduceEq, List.length_map]
            refine AW.bend ?_
            refine AW.iter H ((Le.trans (Le.nilCell (b := 2) (o := 1) (e := 0) (by rfl) (by rfl)) (Le.none [0, 1, 2, 3] [1, 3, 6, 9, 10] (by decide) (by simp only [f26_L1, restrict_eq, renS_nil, renS_cons, renB_els, renB_cel, renB_dead, deep_eq, map_ren_enc, ren_agg', ren_tup', ren_fn', ren_int', ren_bool', ren_str', ren_sl', ren_pro', ren_nilp', ren_nilfn', ren_junk', ren_ptr', ren_row', ren_arow', ren_eptr', vm, List.idxOf?_cons, List.idxOf?_nil, beq_self_eq_true, Option.map_none, List.getD_cons_zero, List.getD_cons_succ, wk, wl, nc, evV, and_self, Option.map_some, reduceIte, Nat.reduceEqDiff, Nat.reduceAdd, List.length_map, Nat.reduceSub, Nat.reduceLeDiff, Nat.reduceBEq, Nat.reduceMul, Nat.reduceLT, Bool.and_self, Bool.true_and, Bool.not_true, Bool.not_false, Bool.false_eq_true, ne_eq, not_false_eq_true, reduceCtorEq, Int.reduceEq])))) ?_ <;> clear H
            rintro ⟨i_226, out_227⟩ x_ st0_ H hst_
            simp only [f26_L1] at H hst_
            subst hst_
            refine AW.sseq ?_
            refine AW.rseq ?_
            try simp only [wk, wl, nc, evV, and_self, Option.map_some, reduceIte, Nat.reduceEqDiff, Nat.reduceAdd, Nat.reduceSub, Nat.reduceLeDiff, Nat.reduceBEq, Nat.reduceMul, Nat.reduceLT, Bool.and_self, Bool.true_and, Bool.not_true, Bool.not_false, Bool.false_eq_true, ne_eq, not_false_eq_true, reduceCtorEq, Int.reduceEq, List.length_map]
            refine AW.ifc H (by rfl) ?_ ?_ <;> clear H <;> intro H
            · refine AW.skip ?_
              refine seqQ.norm ?_
              refine AW.bseq ?_
              refine AW.rend ?_
              try simp only [wk, wl, nc, evV, and_self, Option.map_some, reduceIte, Nat.reduceEqDiff, Nat.reduceAdd, Nat.reduceSub, Nat.reduceLeDiff, Nat.reduceBEq, Nat.reduceMul, Nat.reduceLT, Bool.and_self, Bool.true_and, Bool.not_true, Bool.not_false, Bool.false_eq_true, ne_eq, not_false_eq_true, reduceCtorEq, Int.reduceEq, List.length_map]
              refine evTs_at (enc := (AV.int .i64)) H (by rfl) (by rfl) ?_ <;> clear H <;> intro x_231 H
              try simp only [wk, wl, nc, evV, and_self, Option.map_some, reduceIte, Nat.reduceEqDiff, Nat.reduceAdd, Nat.reduceSub, Nat.reduceLeDiff, Nat.reduceBEq, Nat.reduceMul, Nat.reduceLT, Bool.and_self, Bool.true_and, Bool.not_true, Bool.not_false, Bool.false_eq_true, ne_eq, not_false_eq_true, reduceCtorEq, Int.reduceEq, List.length_map]
              refine evTs_app (enc := (AV.int .i64)) H (by rfl) (by rfl) (by rfl) (by rfl) ?_ <;> clear H <;> intro out_232 H
              try simp only [wk, wl, nc, evV, and_self, Option.map_some, reduceIte, Nat.reduceEqDiff, Nat.reduceAdd, Nat.reduceSub, Nat.reduceLeDiff, Nat.reduceBEq, Nat.reduceMul, Nat.reduceLT, Bool.and_self, Bool.true_and, Bool.not_true, Bool.not_false, Bool.false_eq_true, ne_eq, not_false_eq_true, reduceCtorEq, Int.reduceEq, List.length_map]
              refine blkQ.norm ?_
              refine AW.rend ?_
              try simp only [wk, wl, nc, evV, and_self, Option.map_some, reduceIte, Nat.reduceEqDiff, Nat.reduceAdd, Nat.reduceSub, Nat.reduceLeDiff, Nat.reduceBEq, Nat.reduceMul, Nat.reduceLT, Bool.and_self, Bool.true_and, Bool.not_true, Bool.not_false, Bool.false_eq_true, ne_eq, not_false_eq_true, reduceCtorEq, Int.reduceEq, List.length_map]
              exact loopQ.next H ((Le.none [0, 1, 2, 4] [1, 3, 6, 9, 10] (by decide) (by simp only [f26_L1, restrict_eq, renS_nil, renS_cons, renB_els, renB_cel, renB_dead, deep_eq, map_ren_enc, ren_agg', ren_tup', ren_fn', ren_int', ren_bool', ren_str', ren_sl', ren_pro', ren_nilp', ren_nilfn', ren_junk', ren_ptr', ren_row', ren_arow', ren_eptr', vm, List.idxOf?_cons, List.idxOf?_nil, beq_self_eq_true, Option.map_none, List.getD_cons_zero, List.getD_cons_succ, wk, wl, nc, evV, and_self, Option.map_some, reduceIte, Nat.reduceEqDiff, Nat.reduceAdd, List.length_map, Nat.reduceSub, Nat.reduceLeDiff, Nat.reduceBEq, Nat.reduceMul, Nat.reduceLT, Bool.and_self, Bool.true_and, Bool.not_true, Bool.not_false, Bool.false_eq_true, ne_eq, not_false_eq_true, reduceCtorEq, Int.reduceEq])))
            · refine AW.exit ?_
              refine seqQ.exit ?_
              refine loopQ.exit H ?_ <;> clear H <;> intro H
              try dsimp only at H
              refine blk0.here ?_
              refine seqQ.norm ?_
              refine AW.rseq ?_
              try simp only [wk, wl, nc, evV, and_self, Option.map_some, reduceIte, Nat.reduceEqDiff, Nat.reduceAdd, Nat.reduceSub, Nat.reduceLeDiff, Nat.reduceBEq, Nat.reduceMul, Nat.reduceLT, Bool.and_self, Bool.true_and, Bool.not_true, Bool.not_false, Bool.false_eq_true, ne_eq, not_false_eq_true, reduceCtorEq, Int.reduceEq, List.length_map]
              refine AW.ret ?_
              cases H
              exact hQ _ _ _ _ (.inr rfl) (by simp only [resVs, omap, resV, wk, wl, nc, evV, and_self, Option.map_some, reduceIte, Nat.reduceEqDiff, Nat.reduceAdd, Nat.reduceSub, Nat.reduceLeDiff, Nat.reduceBEq, Nat.reduceMul, Nat.reduceLT, Bool.and_self, Bool.true_and, Bool.not_true, Bool.not_false, Bool.false_eq_true, ne_eq, not_false_eq_true, reduceCtorEq, Int.reduceEq, List.length_map]; rfl) (by simp only [handOver, deep_eq, imm_simps, imm_rowE, imm_ptrE, imm_enc, omap_simps, take_map_len, le_refl_true, Nat.zero_add, and_true, true_and, List.drop_zero, Option.map_some, wk, wl, nc, evV, and_self, Option.map_some, reduceIte, Nat.reduceEqDiff, Nat.reduceAdd, Nat.reduceSub, Nat.reduceLeDiff, Nat.reduceBEq, Nat.reduceMul, Nat.reduceLT, Bool.and_self, Bool.true_and, Bool.not_true, Bool.not_false, Bool.false_eq_true, ne_eq, not_false_eq_true, reduceCtorEq, Int.reduceEq, List.length_map]; rfl) (by rfl)
noncomputable def f16_L1 (s1_234 : (List Int)) (s2_235 : (List Int)) : Lp (Int) ((Unit) ⊕ (Unit)) where
  body := fun v_241 => (if (decide (v_241 < ((s1_234.length : Nat) : Int))) = true then (at? s1_234 v_241).bind fun x_244 => (at? s2_235 v_241).bind fun x_245 => (if (decide (x_244 ≠ x_245)) = true then (some (.brk (Sum.inl ()))) else (some (.next (IntKind.i64.wrap (v_241 + 1))))) else (some (.brk (Sum.inr ()))))
  cst := fun v_241 => ⟨put (put (put (put (fun _ => .junk) 13 (.int .i64 v_241)) 12 (.int .i64 ((s1_234.length : Nat) : Int))) 1 (.sl 0 false (s2_235.map (AV.int .i64)))) 0 (.sl 0 false (s1_234.map (AV.int .i64))), []⟩
def c16_0 : C := .cond (.t 10) (.seq (.reg [iI 4 (.mv (.c (.bool false)))]) .ret) (.skip)
def c16_1 : C := .cond (.t 24) (.seq (.reg [iI 4 (.mv (.c (.bool false)))]) .ret) (.skip)
def c16_2 : C := .seq (.reg [iI 16 (.mv (.t 0)), iI 17 (.mv (.t 5)), iI 18 (.iaddr 0 (.t 16) (.t 17)), iI 19 (.load 0 (.t 18)), iI 20 (.mv (.t 1)), iI 21 (.mv (.t 5)), iI 22 (.iaddr 0 (.t 20) (.t 21)), iI 23 (.load 0 (.t 22)), iI 24 (.bin .neq (.t 19) (.t 23))]) c16_1
def c16_3 : C := .reg [iI 25 (.bin .add (.t 13) (.c (.int .i64 1))), iI 13 (.mv (.t 25))]
def c16_4 : C := .seq (.block 1 (.seq (.reg [iI 15 (.mv (.t 13)), iI 5 (.mv (.t 15))]) c16_2)) c16_3
def c16_5 : C := .seq (.cond (.t 14) (.skip) (.exit 0)) c16_4
def c16_6 : C := .block 0 (.loop (.seq (.reg [iI 14 (.bin .lss (.t 13) (.t 12))]) c16_5))
def c16_7 : C := .seq (.reg [iI 4 (.mv (.c (.bool true)))]) .ret
def c16_8 : C := .seq (.seq (.reg [iI 11 (.mv (.t 0)), iI 12 (.len 0 (.t 11)), iI 13 (.mv (.c (.int .i64 0)))]) c16_6) c16_7
def c16_9 : C := .seq (.seq (.reg [iI 6 (.mv (.t 0)), iI 7 (.len 0 (.t 6)), iI 8 (.mv (.t 1)), iI 9 (.len 0 (.t 8)), iI 10 (.bin .neq (.t 7) (.t 9))]) c16_0) c16_8
def ir16 : C := .seq (.reg [iI 4 (.mv (.c (.bool false)))]) c16_9
theorem fd16 : fd? Try.prog 16 = some (26, [.slot 4], ir16) := by kernel_rfl
noncomputable def f16 (s1_234 : (List Int)) (s2_235 : (List Int)) : Option (Bool) :=
  (if (decide (((s1_234.length : Nat) : Int) ≠ ((s2_235.length : Nat) : Int))) = true then (some false) else ((Lp.run (f16_L1 s1_234 s2_235) 0).bind fun r_ => match r_ with | (Sum.inl _) => (some false) | (Sum.inr _) => (some true)))
theorem f16_ok {s1_234 : (List Int)} {s2_235 : (List Int)} {r_ : Bool} (H : f16 s1_234 s2_235 = some r_) : Pure Try.prog 16 [.sl 0 false (s1_234.map (AV.int .i64)), .sl 0 false (s2_235.map (AV.int .i64))] (· = .bool r_) := by
  refine Pure.walk2 fd16 none (Nat.le_of_ble_eq_true rfl) (by rfl) fun Q hQ => ?_
  simp only [f16] at H
  refine AW.rseq ?_
  try simp only [wk, wl, nc, evV, and_self, Option.map_some, reduceIte, Nat.reduceEqDiff, Nat.reduceAdd, Nat.reduceSub, Nat.reduceLeDiff, Nat.reduceBEq, Nat.reduceMul, Nat.reduceLT, Bool.and_self, Bool.true_and, Bool.not_true, Bool.not_false, Bool.false_eq_true, ne_eq, not_false_eq_true, reduceCtorEq, Int.reduceEq, List.length_map]
  refine AW.sseq ?_
  refine AW.rseq ?_
  try simp only [wk, wl, nc, evV, and_self, Option.map_some, reduceIte, Nat.reduceEqDiff, Nat.reduceAdd, Nat.reduceSub, Nat.reduceLeDiff, Nat.reduceBEq, Nat.reduceMul, Nat.reduceLT, Bool.and_self, Bool.true_and, Bool.not_true, Bool.not_false, Bool.false_eq_true, ne_eq, not_false_eq_true, reduceCtorEq, Int.reduceEq, List.length_map]
  refine AW.ifc H (by rfl) ?_ ?_ <;> clear H <;> intro H
  · refine AW.rseq ?_
    try simp only [wk, wl, nc, evV, and_self, Option.map_some, reduceIte, Nat.reduceEqDiff, Nat.reduceAdd, Nat.reduceSub, Nat.reduceLeDiff, Nat.reduceBEq, Nat.reduceMul, Nat.reduceLT, Bool.and_self, Bool.true_and, Bool.not_true, Bool.not_false, Bool.false_eq_true, ne_eq, not_false_eq_true, reduceCtorEq, Int.reduceEq, List.length_map]
    refine AW.ret ?_
    refine seqQ.ret ?_
    cases H
    exact hQ _ _ _ _ (.inr rfl) (by simp only [resVs, omap, resV, wk, wl, nc, evV, and_self, Option.map_some, reduceIte, Nat.reduceEqDiff, Nat.reduceAdd, Nat.reduceSub, Nat.reduceLeDiff, Nat.reduceBEq, Nat.reduceMul, Nat.reduceLT, Bool.and_self, Bool.true_and, Bool.not_true, Bool.not_false, Bool.false_eq_true, ne_eq, not_false_eq_true, reduceCtorEq, Int.reduceEq, List.length_map]; rfl) (hand_plain (by rfl)) (by rfl)
  · refine AW.skip ?_
    refine seqQ.norm ?_
    refine AW.sseq ?_
    refine AW.rseq ?_
    try simp only [wk, wl, nc, evV, and_self, Option.map_some, reduceIte, Nat.reduceEqDiff, Nat.reduceAdd, Nat.reduceSub, Nat.reduceLeDiff, Nat.reduceBEq, Nat.reduceMul, Nat.reduceLT, Bool.and_self, Bool.true_and, Bool.not_true, Bool.not_false, Bool.false_eq_true, ne_eq, not_false_eq_true, reduceCtorEq, Int.reduceEq, List.length_map]
    refine AW.bend ?_
    refine AW.iter H ((Le.none [] [0, 1, 12, 13] (by decide) (by simp only [f16_L1, restrict_eq, renS_nil, renS_cons, renB_els, renB_cel, renB_dead, deep_eq, map_ren_enc, ren_agg', ren_tup', ren_fn', ren_int', ren_bool', ren_str', ren_sl', ren_pro', ren_nilp', ren_nilfn', ren_junk', ren_ptr', ren_row', ren_arow', ren_eptr', vm, List.idxOf?_cons, List.idxOf?_nil, beq_self_eq_true, Option.map_none, List.getD_cons_zero, List.getD_cons_succ, wk, wl, nc, evV, and_self, Option.map_some, reduceIte, Nat.reduceEqDiff, Nat.reduceAdd, List.length_map, Nat.reduceSub, Nat.reduceLeDiff, Nat.reduceBEq, Nat.reduceMul, Nat.reduceLT, Bool.and_self, Bool.true_and, Bool.not_true, Bool.not_false, Bool.false_eq_true, ne_eq, not_false_eq_true, reduceCtorEq, Int.reduceEq]))) ?_ <;> clear H
    rintro v_241 x_ st0_ H hst_
    simp only [f16_L1] at H hst_
    subst hst_
    refine AW.rseq ?_
    try simp only [wk, wl, nc, evV, and_self, Option.map_some, reduceIte, Nat.reduceEqDiff, Nat.reduceAdd, Nat.reduceSub, Nat.reduceLeDiff, Nat.reduceBEq, Nat.reduceMul, Nat.reduceLT, Bool.and_self, Bool.true_and, Bool.not_true, Bool.not_false, Bool.false_eq_true, ne_eq, not_false_eq_true, reduceCtorEq, Int.reduceEq, List.length_map]
    refine AW.sseq ?_
    refine AW.ifc H (by rfl) ?_ ?_ <;> clear H <;> intro H
    · refine AW.skip ?_
      refine seqQ.norm ?_
      refine AW.bseq ?_
      refine AW.rseq ?_
      try simp only [wk, wl, nc, evV, and_self, Option.map_some, reduceIte, Nat.reduceEqDiff, Nat.reduceAdd, Nat.reduceSub, Nat.reduceLeDiff, Nat.reduceBEq, Nat.reduceMul, Nat.reduceLT, Bool.and_self, Bool.true_and, Bool.not_true, Bool.not_false, Bool.false_eq_true, ne_eq, not_false_eq_true, reduceCtorEq, Int.reduceEq, List.length_map]
      refine AW.rseq ?_
      try simp only [wk, wl, nc, evV, and_self, Option.map_some, reduceIte, Nat.reduceEqDiff, Nat.reduceAdd, Nat.reduceSub, Nat.reduceLeDiff, Nat.reduceBEq, Nat.reduceMul, Nat.reduceLT, Bool.and_self, Bool.true_and, Bool.not_true, Bool.not_false, Bool.false_eq_true, ne_eq, not_false_eq_true, reduceCtorEq, Int.reduceEq, List.length_map]
      refine evTs_at (enc := (AV.int .i64)) H (by rfl) (by rfl) ?_ <;> clear H <;> intro x_244 H
      try simp only [wk, wl, nc, evV, and_self, Option.map_some, reduceIte, Nat.reduceEqDiff, Nat.reduceAdd, Nat.reduceSub, Nat.reduceLeDiff, Nat.reduceBEq, Nat.reduceMul, Nat.reduceLT, Bool.and_self, Bool.true_and, Bool.not_true, Bool.not_false, Bool.false_eq_true, ne_eq, not_false_eq_true, reduceCtorEq, Int.reduceEq, List.length_map]
      refine evTs_at (enc := (AV.int .i64)) H (by rfl) (by rfl) ?_ <;> clear H <;> intro x_245 H
      try simp only [wk, wl, nc, evV, and_self, Option.map_some, reduceIte, Nat.reduceEqDiff, Nat.reduceAdd, Nat.reduceSub, Nat.reduceLeDiff, Nat.reduceBEq, Nat.reduceMul, Nat.reduceLT, Bool.and_self, Bool.true_and, Bool.not_true, Bool.not_false, Bool.false_eq_true, ne_eq, not_false_eq_true, reduceCtorEq, Int.reduceEq, List.length_map]
      refine AW.ifc H (by rfl) ?_ ?_ <;> clear H <;> intro H
      · refine AW.rseq ?_
        try simp only [wk, wl, nc, evV, and_self, Option.map_some, reduceIte, Nat.reduceEqDiff, Nat.reduceAdd, Nat.reduceSub, Nat.reduceLeDiff, Nat.reduceBEq, Nat.reduceMul, Nat.reduceLT, Bool.and_self, Bool.true_and, Bool.not_true, Bool.not_false, Bool.false_eq_true, ne_eq, not_false_eq_true, reduceCtorEq, Int.reduceEq, List.length_map]
        refine AW.ret ?_
        refine blkQ.ret ?_
        refine loopQ.ret H ?_ <;> clear H <;> intro H
        try dsimp only at H
        refine blk0.ret ?_
        refine seqQ.ret ?_
        cases H
        exact hQ _ _ _ _ (.inr rfl) (by simp only [resVs, omap, resV, wk, wl, nc, evV, and_self, Option.map_some, reduceIte, Nat.reduceEqDiff, Nat.reduceAdd, Nat.reduceSub, Nat.reduceLeDiff, Nat.reduceBEq, Nat.reduceMul, Nat.reduceLT, Bool.and_self, Bool.true_and, Bool.not_true, Bool.not_false, Bool.false_eq_true, ne_eq, not_false_eq_true, reduceCtorEq, Int.reduceEq, List.length_map]; rfl) (hand_plain (by rfl)) (by rfl)
      · refine AW.skip ?_
        refine blkQ.norm ?_
        refine AW.rend ?_
        try simp only [wk, wl, nc, evV, and_self, Option.map_some, reduceIte, Nat.reduceEqDiff, Nat.reduceAdd, Nat.reduceSub, Nat.reduceLeDiff, Nat.reduceBEq, Nat.reduceMul, Nat.reduceLT, Bool.and_self, Bool.true_and, Bool.not_true, Bool.not_false, Bool.false_eq_true, ne_eq, not_false_eq_true, reduceCtorEq, Int.reduceEq, List.length_map]
        exact loopQ.next H ((Le.none [] [0, 1, 12, 13] (by decide) (by simp only [f16_L1, restrict_eq, renS_nil, renS_cons, renB_els, renB_cel, renB_dead, deep_eq, map_ren_enc, ren_agg', ren_tup', ren_fn', ren_int', ren_bool', ren_str', ren_sl', ren_pro', ren_nilp', ren_nilfn', ren_junk', ren_ptr', ren_row', ren_arow', ren_eptr', vm, List.idxOf?_cons, List.idxOf?_nil, beq_self_eq_true, Option.map_none, List.getD_cons_zero, List.getD_cons_succ, wk, wl, nc, evV, and_self, Option.map_some, reduceIte, Nat.reduceEqDiff, Nat.reduceAdd, List.length_map, Nat.reduceSub, Nat.reduceLeDiff, Nat.reduceBEq, Nat.reduceMul, Nat.reduceLT, Bool.and_self, Bool.true_and, Bool.not_true, Bool.not_false, Bool.false_eq_true, ne_eq, not_false_eq_true, reduceCtorEq, Int.reduceEq])))
    · refine AW.exit ?_
      refine seqQ.exit ?_
      refine loopQ.exit H ?_ <;> clear H <;> intro H
      try dsimp only at H
      refine blk0.here ?_
      refine seqQ.norm ?_
      refine AW.rseq ?_
      try simp only [wk, wl, nc, evV, and_self, Option.map_some, reduceIte, Nat.reduceEqDiff, Nat.reduceAdd, Nat.reduceSub, Nat.reduceLeDiff, Nat.reduceBEq, Nat.reduceMul, Nat.reduceLT, Bool.and_self, Bool.true_and, Bool.not_true, Bool.not_false, Bool.false_eq_true, ne_eq, not_false_eq_true, reduceCtorEq, Int.reduceEq, List.length_map]
      refine AW.ret ?_
      cases H
      exact hQ _ _ _ _ (.inr rfl) (by simp only [resVs, omap, resV, wk, wl, nc, evV, and_self, Option.map_some, reduceIte, Nat.reduceEqDiff, Nat.reduceAdd, Nat.reduceSub, Nat.reduceLeDiff, Nat.reduceBEq, Nat.reduceMul, Nat.reduceLT, Bool.and_self, Bool.true_and, Bool.not_true, Bool.not_false, Bool.false_eq_true, ne_eq, not_false_eq_true, reduceCtorEq, Int.reduceEq, List.length_map]; rfl) (hand_plain (by rfl)) (by rfl)
def c15_0 : C := .seq (.reg [iI 33 (.mv (.t 2)), iI 34 (.mv (.t 4)), iI 35 (.bin .add (.t 33) (.t 34)), iI 36 (.mv (.t 6)), iI 37 (.bin .add (.t 35) (.t 36)), iI 38 (.mv (.t 8)), iI 39 (.bin .add (.t 37) (.t 38)), iI 40 (.mv (.t 10)), iI 41 (.bin .add (.t 39) (.t 40)), iI 42 (.bin .eql (.t 41) (.c (.int .i64 0))), iI 43 (.mv (.t 42)), iG (some 44) 43 true (.mv (.t 1)), iG (some 45) 43 true (.mkslp 0 5 (.int .i64 0) [(0, (.c (.int .i64 0))), (1, (.c (.int .i64 25))), (2, (.c (.int .i64 50))), (3, (.c (.int .i64 75))), (4, (.c (.int .i64 100)))]), iG (some 46) 43 true (.call (.c (.fn 16 [])) [(.t 44), (.t 45)]), iI 47 (.pick (.t 43) (.t 46) (.c (.bool false))), iI 48 (.mv (.t 47)), iG (some 49) 48 true (.mv (.t 3)), iG (some 50) 48 true (.mkslp 0 4 (.int .i64 0) [(0, (.c (.int .i64 0))), (1, (.c (.int .i64 3))), (2, (.c (.int .i64 7))), (3, (.c (.int .i64 10)))]), iG (some 51) 48 true (.call (.c (.fn 16 [])) [(.t 49), (.t 50)]), iI 52 (.pick (.t 48) (.t 51) (.c (.bool false))), iI 53 (.mv (.t 52)), iG (some 54) 53 true (.mv (.t 5)), iG (some 55) 53 true (.mkslp 0 5 (.int .i64 0) [(0, (.c (.int .i64 100))), (1, (.c (.int .i64 50))), (2, (.c (.int .i64 0))), (3, (.c (.int .i64 50))), (4, (.c (.int .i64 100)))]), iG (some 56) 53 true (.call (.c (.fn 16 [])) [(.t 54), (.t 55)]), iI 57 (.pick (.t 53) (.t 56) (.c (.bool false))), iI 58 (.mv (.t 57)), iG (some 59) 58 true (.mv (.t 7)), iG (some 60) 58 true (.mkslp 0 4 (.int .i64 0) [(0, (.c (.int .i64 100))), (1, (.c (.int .i64 0))), (2, (.c (.int .i64 0))), (3, (.c (.int .i64 100)))]), iG (some 61) 58 true (.call (.c (.fn 16 [])) [(.t 59), (.t 60)]), iI 62 (.pick (.t 58) (.t 61) (.c (.bool false))), iI 63 (.mv (.t 62)), iG (some 64) 63 true (.faddr 1 (.t 9)), iG (some 65) 63 true (.load 0 (.t 64)), iG (some 66) 63 true (.mkslp 0 2 (.int .i64 0) [(0, (.c (.int .i64 5))), (1, (.c (.int .i64 1)))]), iG (some 67) 63 true (.call (.c (.fn 16 [])) [(.t 65), (.t 66)]), iI 68 (.pick (.t 63) (.t 67) (.c (.bool false))), iI 69 (.mv (.t 68)), iG (some 70) 69 true (.build [(1, (.int .i64 0)), (1, (.sl 0 true []))] []), iG (some 71) 69 true (.call (.c (.fn 20 [])) [(.t 70)]), iG (some 72) 69 true (.bin .eql (.t 71) (.c (.int .i64 2))), iI 73 (.pick (.t 69) (.t 72) (.c (.bool false))), iI 0 (.mv (.t 73))]) .ret
def c15_1 : C := .seq (.reg [iI 28 (.mkslp 0 4 (.int .i64 0) [(0, (.c (.int .i64 7))), (1, (.c (.int .i64 5))), (2, (.c (.int .i64 9))), (3, (.c (.int .i64 1)))]), iI 29 (.build [(1, (.int .i64 0)), (1, (.sl 0 true []))] [(0, 0, (.c (.int .i64 1))), (1, 0, (.t 28))]), iI 30 (.call (.c (.fn 26 [])) [(.t 29), (.c (.int .i64 2)), (.c (.int .i64 1))]), iI 27 (.mv (.t 30)), iI 31 (.ext (.t 27) 0), iI 32 (.ext (.t 27) 1), iI 9 (.alloc [(1, (.int .i64 0)), (1, (.sl 0 true []))]), iN (.store 2 (.t 9) (.t 31)), iI 10 (.mv (.t 32))]) c15_0
def c15_2 : C := .seq (.reg [iI 24 (.call (.c (.fn 13 [])) [(.c (.int .i64 0)), (.c (.int .i64 100)), (.c (.int .i64 4))]), iI 23 (.mv (.t 24)), iI 25 (.ext (.t 23) 0), iI 26 (.ext (.t 23) 1), iI 7 (.mv (.t 25)), iI 8 (.mv (.t 26))]) c15_1
def c15_3 : C := .seq (.reg [iI 20 (.call (.c (.fn 13 [])) [(.c (.int .i64 0)), (.c (.int .i64 100)), (.c (.int .i64 5))]), iI 19 (.mv (.t 20)), iI 21 (.ext (.t 19) 0), iI 22 (.ext (.t 19) 1), iI 5 (.mv (.t 21)), iI 6 (.mv (.t 22))]) c15_2
def c15_4 : C := .seq (.reg [iI 16 (.call (.c (.fn 11 [])) [(.c (.int .i64 0)), (.c (.int .i64 10)), (.c (.int .i64 4))]), iI 15 (.mv (.t 16)), iI 17 (.ext (.t 15) 0), iI 18 (.ext (.t 15) 1), iI 3 (.mv (.t 17)), iI 4 (.mv (.t 18))]) c15_3
def c15_5 : C := .seq (.reg [iI 12 (.call (.c (.fn 11 [])) [(.c (.int .i64 0)), (.c (.int .i64 100)), (.c (.int .i64 5))]), iI 11 (.mv (.t 12)), iI 13 (.ext (.t 11) 0), iI 14 (.ext (.t 11) 1), iI 1 (.mv (.t 13)), iI 2 (.mv (.t 14))]) c15_4
def ir15 : C := .seq (.reg [iI 0 (.mv (.c (.bool false)))]) c15_5
theorem fd15 : fd? Try.prog 15 = some (74, [.slot 0], ir15) := by kernel_rfl
noncomputable def f15 : Option (Bool) :=
  (f11 0 100 5).bind fun r_182 => (f11 0 10 4).bind fun r_183 => (f13 0 100 5).bind fun r_184 => (f13 0 100 4).bind fun r_185 => (f26 (ApiGroup.mk 1 ([7, 5, 9, 1])) 2 1).bind fun r_233 => (if (decide ((IntKind.i64.wrap ((IntKind.i64.wrap ((IntKind.i64.wrap ((IntKind.i64.wrap (r_182.2 + r_183.2)) + r_184.2)) + r_185.2)) + r_233.2)) = 0)) = true then (f16 r_182.1 ([0, 25, 50, 75, 100])).bind fun r_246 => (if r_246 = true then (f16 r_183.1 ([0, 3, 7, 10])).bind fun r_247 => (if r_247 = true then (f16 r_184.1 ([100, 50, 0, 50, 100])).bind fun r_248 => (if r_248 = true then (f16 r_185.1 ([100, 0, 0, 100])).bind fun r_249 => (if r_249 = true then (f16 r_233.1.fChannels ([5, 1])).bind fun r_250 => (if r_250 = true then (f20 (ApiGroup.mk 0 ([]))).bind fun r_251 => (some (decide (r_251 = 2))) else (some false)) else (some false)) else (some false)) else (some false)) else (some false)) else (some false))
theorem f15_ok {r_ : Bool} (H : f15 = some r_) : Pure Try.prog 15 [] (· = .bool r_) := by
  refine Pure.walk2 fd15 none (Nat.le_of_ble_eq_true rfl) (by rfl) fun Q hQ => ?_
  simp only [f15] at H
  refine AW.rseq ?_
  try simp only [wk, wl, nc, evV, and_self, Option.map_some, reduceIte, Nat.reduceEqDiff, Nat.reduceAdd, Nat.reduceSub, Nat.reduceLeDiff, Nat.reduceBEq, Nat.reduceMul, Nat.reduceLT, Bool.and_self, Bool.true_and, Bool.not_true, Bool.not_false, Bool.false_eq_true, ne_eq, not_false_eq_true, reduceCtorEq, Int.reduceEq, List.length_map]
  refine AW.rseq ?_
  try simp only [wk, wl, nc, evV, and_self, Option.map_some, reduceIte, Nat.reduceEqDiff, Nat.reduceAdd, Nat.reduceSub, Nat.reduceLeDiff, Nat.reduceBEq, Nat.reduceMul, Nat.reduceLT, Bool.and_self, Bool.true_and, Bool.not_true, Bool.not_false, Bool.false_eq_true, ne_eq, not_false_eq_true, reduceCtorEq, Int.reduceEq, List.length_map]
  refine evTs_pure hFn H (fun _ h => f11_ok h) (by rfl) (by rfl) (by rfl) (by rfl) (fun _ => rfl) ?_ <;> clear H <;> intro r_182 H
  try simp only [eL, wk, wl, nc, evV, and_self, Option.map_some, reduceIte, Nat.reduceEqDiff, Nat.reduceAdd, Nat.reduceSub, Nat.reduceLeDiff, Nat.reduceBEq, Nat.reduceMul, Nat.reduceLT, Bool.and_self, Bool.true_and, Bool.not_true, Bool.not_false, Bool.false_eq_true, ne_eq, not_false_eq_true, reduceCtorEq, Int.reduceEq, List.length_map]
  refine AW.rseq ?_
  try simp only [wk, wl, nc, evV, and_self, Option.map_some, reduceIte, Nat.reduceEqDiff, Nat.reduceAdd, Nat.reduceSub, Nat.reduceLeDiff, Nat.reduceBEq, Nat.reduceMul, Nat.reduceLT, Bool.and_self, Bool.true_and, Bool.not_true, Bool.not_false, Bool.false_eq_true, ne_eq, not_false_eq_true, reduceCtorEq, Int.reduceEq, List.length_map]
  refine evTs_pure hFn H (fun _ h => f11_ok h) (by rfl) (by rfl) (by rfl) (by rfl) (fun _ => rfl) ?_ <;> clear H <;> intro r_183 H
  try simp only [eL, wk, wl, nc, evV, and_self, Option.map_some, reduceIte, Nat.reduceEqDiff, Nat.reduceAdd, Nat.reduceSub, Nat.reduceLeDiff, Nat.reduceBEq, Nat.reduceMul, Nat.reduceLT, Bool.and_self, Bool.true_and, Bool.not_true, Bool.not_false, Bool.false_eq_true, ne_eq, not_false_eq_true, reduceCtorEq, Int.reduceEq, List.length_map]
  refine AW.rseq ?_
  try simp only [wk, wl, nc, evV, and_self, Option.map_some, reduceIte, Nat.reduceEqDiff, Nat.reduceAdd, Nat.reduceSub, Nat.reduceLeDiff, Nat.reduceBEq, Nat.reduceMul, Nat.reduceLT, Bool.and_self, Bool.true_and, Bool.not_true, Bool.not_false, Bool.false_eq_true, ne_eq, not_false_eq_true, reduceCtorEq, Int.reduceEq, List.length_map]
  refine evTs_pure hFn H (fun _ h => f13_im h) (by rfl) (by rfl) (by rfl) (by rfl) (fun _ => rfl) ?_ <;> clear H <;> intro r_184 H
  try simp only [eL, wk, wl, nc, evV, and_self, Option.map_some, reduceIte, Nat.reduceEqDiff, Nat.reduceAdd, Nat.reduceSub, Nat.reduceLeDiff, Nat.reduceBEq, Nat.reduceMul, Nat.reduceLT, Bool.and_self, Bool.true_and, Bool.not_true, Bool.not_false, Bool.false_eq_true, ne_eq, not_false_eq_true, reduceCtorEq, Int.reduceEq, List.length_map]
  refine AW.rseq ?_
  try simp only [wk, wl, nc, evV, and_self, Option.map_some, reduceIte, Nat.reduceEqDiff, Nat.reduceAdd, Nat.reduceSub, Nat.reduceLeDiff, Nat.reduceBEq, Nat.reduceMul, Nat.reduceLT, Bool.and_self, Bool.true_and, Bool.not_true, Bool.not_false, Bool.false_eq_true, ne_eq, not_false_eq_true, reduceCtorEq, Int.reduceEq, List.length_map]
  refine evTs_pure hFn H (fun _ h => f13_im h) (by rfl) (by rfl) (by rfl) (by rfl) (fun _ => rfl) ?_ <;> clear H <;> intro r_185 H
  try simp only [eL, wk, wl, nc, evV, and_self, Option.map_some, reduceIte, Nat.reduceEqDiff, Nat.reduceAdd, Nat.reduceSub, Nat.reduceLeDiff, Nat.reduceBEq, Nat.reduceMul, Nat.reduceLT, Bool.and_self, Bool.true_and, Bool.not_true, Bool.not_false, Bool.false_eq_true, ne_eq, not_false_eq_true, reduceCtorEq, Int.reduceEq, List.length_map]
  refine AW.rseq ?_
  try simp only [wk, wl, nc, evV, and_self, Option.map_some, reduceIte, Nat.reduceEqDiff, Nat.reduceAdd, Nat.reduceSub, Nat.reduceLeDiff, Nat.reduceBEq, Nat.reduceMul, Nat.reduceLT, Bool.and_self, Bool.true_and, Bool.not_true, Bool.not_false, Bool.false_eq_true, ne_eq, not_false_eq_true, reduceCtorEq, Int.reduceEq, List.length_map]
  refine evTs_pure hFn H (fun _ h => f26_ok h) (by rfl) (by rfl) (by rfl) (by rfl) (fun _ => rfl) ?_ <;> clear H <;> intro r_233 H
  try simp only [eL, eApiGroup, wk, wl, nc, evV, and_self, Option.map_some, reduceIte, Nat.reduceEqDiff, Nat.reduceAdd, Nat.reduceSub, Nat.reduceLeDiff, Nat.reduceBEq, Nat.reduceMul, Nat.reduceLT, Bool.and_self, Bool.true_and, Bool.not_true, Bool.not_false, Bool.false_eq_true, ne_eq, not_false_eq_true, reduceCtorEq, Int.reduceEq, List.length_map]
  refine AW.rseq ?_
  try simp only [wk, wl, nc, evV, and_self, Option.map_some, reduceIte, Nat.reduceEqDiff, Nat.reduceAdd, Nat.reduceSub, Nat.reduceLeDiff, Nat.reduceBEq, Nat.reduceMul, Nat.reduceLT, Bool.and_self, Bool.true_and, Bool.not_true, Bool.not_false, Bool.false_eq_true, ne_eq, not_false_eq_true, reduceCtorEq, Int.reduceEq, List.length_map]
  refine evTs_ifg H (by rfl) ?_ ?_ <;> clear H <;> intro H
  · try simp only [wk, wl, nc, evV, and_self, Option.map_some, reduceIte, Nat.reduceEqDiff, Nat.reduceAdd, Nat.reduceSub, Nat.reduceLeDiff, Nat.reduceBEq, Nat.reduceMul, Nat.reduceLT, Bool.and_self, Bool.true_and, Bool.not_true, Bool.not_false, Bool.false_eq_true, ne_eq, not_false_eq_true, reduceCtorEq, Int.reduceEq, List.length_map]
    refine evTs_pure hFn H (fun _ h => f16_ok h) (by rfl) (by rfl) (by rfl) (by rfl) (fun _ => rfl) ?_ <;> clear H <;> intro r_246 H
    try simp only [eL, wk, wl, nc, evV, and_self, Option.map_some, reduceIte, Nat.reduceEqDiff, Nat.reduceAdd, Nat.reduceSub, Nat.reduceLeDiff, Nat.reduceBEq, Nat.reduceMul, Nat.reduceLT, Bool.and_self, Bool.true_and, Bool.not_true, Bool.not_false, Bool.false_eq_true, ne_eq, not_false_eq_true, reduceCtorEq, Int.reduceEq, List.length_map]
    refine evTs_ifg H (by rfl) ?_ ?_ <;> clear H <;> intro H
    · try simp only [wk, wl, nc, evV, and_self, Option.map_some, reduceIte, Nat.reduceEqDiff, Nat.reduceAdd, Nat.reduceSub, Nat.reduceLeDiff, Nat.reduceBEq, Nat.reduceMul, Nat.reduceLT, Bool.and_self, Bool.true_and, Bool.not_true, Bool.not_false, Bool.false_eq_true, ne_eq, not_false_eq_true, reduceCtorEq, Int.reduceEq, List.length_map]
      refine evTs_pure hFn H (fun _ h => f16_ok h) (by rfl) (by rfl) (by rfl) (by rfl) (fun _ => rfl) ?_ <;> clear H <;> intro r_247 H
      try simp only [eL, wk, wl, nc, evV, and_self, Option.map_some, reduceIte, Nat.reduceEqDiff, Nat.reduceAdd, Nat.reduceSub, Nat.reduceLeDiff, Nat.reduceBEq, Nat.reduceMul, Nat.reduceLT, Bool.and_self, Bool.true_and, Bool.not_true, Bool.not_false, Bool.false_eq_true, ne_eq, not_false_eq_true, reduceCtorEq, Int.reduceEq, List.length_map]
      refine evTs_ifg H (by rfl) ?_ ?_ <;> clear H <;> intro H
      · try simp only [wk, wl, nc, evV, and_self, Option.map_some, reduceIte, Nat.reduceEqDiff, Nat.reduceAdd, Nat.reduceSub, Nat.reduceLeDiff, Nat.reduceBEq, Nat.reduceMul, Nat.reduceLT, Bool.and_self, Bool.true_and, Bool.not_true, Bool.not_false, Bool.false_eq_true, ne_eq, not_false_eq_true, reduceCtorEq, Int.reduceEq, List.length_map]
        refine evTs_pure hFn H (fun _ h => f16_ok h) (by rfl) (by rfl) (by rfl) (by rfl) (fun _ => rfl) ?_ <;> clear H <;> intro r_248 H
        try simp only [eL, wk, wl, nc, evV, and_self, Option.map_some, reduceIte, Nat.reduceEqDiff, Nat.reduceAdd, Nat.reduceSub, Nat.reduceLeDiff, Nat.reduceBEq, Nat.reduceMul, Nat.reduceLT, Bool.and_self, Bool.true_and, Bool.not_true, Bool.not_false, Bool.false_eq_true, ne_eq, not_false_eq_true, reduceCtorEq, Int.reduceEq, List.length_map]
        refine evTs_ifg H (by rfl) ?_ ?_ <;> clear H <;> intro H
        · try simp only [wk, wl, nc, evV, and_self, Option.map_some, reduceIte, Nat.reduceEqDiff, Nat.reduceAdd, Nat.reduceSub, Nat.reduceLeDiff, Nat.reduceBEq, Nat.reduceMul, Nat.reduceLT, Bool.and_self, Bool.true_and, Bool.not_true, Bool.not_false, Bool.false_eq_true, ne_eq, not_false_eq_true, reduceCtorEq, Int.reduceEq, List.length_map]
          refine evTs_pure hFn H (fun _ h => f16_ok h) (by rfl) (by rfl) (by rfl) (by rfl) (fun _ => rfl) ?_ <;> clear H <;> intro r_249 H
          try simp only [eL, wk, wl, nc, evV, and_self, Option.map_some, reduceIte, Nat.reduceEqDiff, Nat.reduceAdd, Nat.reduceSub, Nat.reduceLeDiff, Nat.reduceBEq, Nat.reduceMul, Nat.reduceLT, Bool.and_self, Bool.true_and, Bool.not_true, Bool.not_false, Bool.false_eq_true, ne_eq, not_false_eq_true, reduceCtorEq, Int.reduceEq, List.length_map]
          refine evTs_ifg H (by rfl) ?_ ?_ <;> clear H <;> intro H
          · try simp only [wk, wl, nc, evV, and_self, Option.map_some, reduceIte, Nat.reduceEqDiff, Nat.reduceAdd, Nat.reduceSub, Nat.reduceLeDiff, Nat.reduceBEq, Nat.reduceMul, Nat.reduceLT, Bool.and_self, Bool.true_and, Bool.not_true, Bool.not_false, Bool.false_eq_true, ne_eq, not_false_eq_true, reduceCtorEq, Int.reduceEq, List.length_map]
            refine evTs_pure hFn H (fun _ h => f16_ok h) (by rfl) (by rfl) (by rfl) (by rfl) (fun _ => rfl) ?_ <;> clear H <;> intro r_250 H
            try simp only [eL, wk, wl, nc, evV, and_self, Option.map_some, reduceIte, Nat.reduceEqDiff, Nat.reduceAdd, Nat.reduceSub, Nat.reduceLeDiff, Nat.reduceBEq, Nat.reduceMul, Nat.reduceLT, Bool.and_self, Bool.true_and, Bool.not_true, Bool.not_false, Bool.false_eq_true, ne_eq, not_false_eq_true, reduceCtorEq, Int.reduceEq, List.length_map]
            refine evTs_ifg H (by rfl) ?_ ?_ <;> clear H <;> intro H
            · try simp only [wk, wl, nc, evV, and_self, Option.map_some, reduceIte, Nat.reduceEqDiff, Nat.reduceAdd, Nat.reduceSub, Nat.reduceLeDiff, Nat.reduceBEq, Nat.reduceMul, Nat.reduceLT, Bool.and_self, Bool.true_and, Bool.not_true, Bool.not_false, Bool.false_eq_true, ne_eq, not_false_eq_true, reduceCtorEq, Int.reduceEq, List.length_map]
              refine evTs_pure hFn H (fun _ h => f20_ok h) (by rfl) (by rfl) (by rfl) (by rfl) (fun _ => rfl) ?_ <;> clear H <;> intro r_251 H
              try simp only [eL, wk, wl, nc, evV, and_self, Option.map_some, reduceIte, Nat.reduceEqDiff, Nat.reduceAdd, Nat.reduceSub, Nat.reduceLeDiff, Nat.reduceBEq, Nat.reduceMul, Nat.reduceLT, Bool.and_self, Bool.true_and, Bool.not_true, Bool.not_false, Bool.false_eq_true, ne_eq, not_false_eq_true, reduceCtorEq, Int.reduceEq, List.length_map]
              refine AW.ret ?_
              cases H
              exact hQ _ _ _ _ (.inr rfl) (by simp only [resVs, omap, resV, wk, wl, nc, evV, and_self, Option.map_some, reduceIte, Nat.reduceEqDiff, Nat.reduceAdd, Nat.reduceSub, Nat.reduceLeDiff, Nat.reduceBEq, Nat.reduceMul, Nat.reduceLT, Bool.and_self, Bool.true_and, Bool.not_true, Bool.not_false, Bool.false_eq_true, ne_eq, not_false_eq_true, reduceCtorEq, Int.reduceEq, List.length_map]; rfl) (hand_plain (by rfl)) (by rfl)
            · try simp only [wk, wl, nc, evV, and_self, Option.map_some, reduceIte, Nat.reduceEqDiff, Nat.reduceAdd, Nat.reduceSub, Nat.reduceLeDiff, Nat.reduceBEq, Nat.reduceMul, Nat.reduceLT, Bool.and_self, Bool.true_and, Bool.not_true, Bool.not_false, Bool.false_eq_true, ne_eq, not_false_eq_true, reduceCtorEq, Int.reduceEq, List.length_map]
              refine AW.ret ?_
              cases H
              exact hQ _ _ _ _ (.inr rfl) (by simp only [resVs, omap, resV, wk, wl, nc, evV, and_self, Option.map_some, reduceIte, Nat.reduceEqDiff, Nat.reduceAdd, Nat.reduceSub, Nat.reduceLeDiff, Nat.reduceBEq, Nat.reduceMul, Nat.reduceLT, Bool.and_self, Bool.true_and, Bool.not_true, Bool.not_false, Bool.false_eq_true, ne_eq, not_false_eq_true, reduceCtorEq, Int.reduceEq, List.length_map]; rfl) (hand_plain (by rfl)) (by rfl)
          · try simp only [wk, wl, nc, evV, and_self, Option.map_some, reduceIte, Nat.reduceEqDiff, Nat.reduceAdd, Nat.reduceSub, Nat.reduceLeDiff, Nat.reduceBEq, Nat.reduceMul, Nat.reduceLT, Bool.and_self, Bool.true_and, Bool.not_true, Bool.not_false, Bool.false_eq_true, ne_eq, not_false_eq_true, reduceCtorEq, Int.reduceEq, List.length_map]
            refine AW.ret ?_
            cases H
            exact hQ _ _ _ _ (.inr rfl) (by simp only [resVs, omap, resV, wk, wl, nc, evV, and_self, Option.map_some, reduceIte, Nat.reduceEqDiff, Nat.reduceAdd, Nat.reduceSub, Nat.reduceLeDiff, Nat.reduceBEq, Nat.reduceMul, Nat.reduceLT, Bool.and_self, Bool.true_and, Bool.not_true, Bool.not_false, Bool.false_eq_true, ne_eq, not_false_eq_true, reduceCtorEq, Int.reduceEq, List.length_map]; rfl) (hand_plain (by rfl)) (by rfl)
        · try simp only [wk, wl, nc, evV, and_self, Option.map_some, reduceIte, Nat.reduceEqDiff, Nat.reduceAdd, Nat.reduceSub, Nat.reduceLeDiff, Nat.reduceBEq, Nat.reduceMul, Nat.reduceLT, Bool.and_self, Bool.true_and, Bool.not_true, Bool.not_false, Bool.false_eq_true, ne_eq, not_false_eq_true, reduceCtorEq, Int.reduceEq, List.length_map]
          refine AW.ret ?_
          cases H
          exact hQ _ _ _ _ (.inr rfl) (by simp only [resVs, omap, resV, wk, wl, nc, evV, and_self, Option.map_some, reduceIte, Nat.reduceEqDiff, Nat.reduceAdd, Nat.reduceSub, Nat.reduceLeDiff, Nat.reduceBEq, Nat.reduceMul, Nat.reduceLT, Bool.and_self, Bool.true_and, Bool.not_true, Bool.not_false, Bool.false_eq_true, ne_eq, not_false_eq_true, reduceCtorEq, Int.reduceEq, List.length_map]; rfl) (hand_plain (by rfl)) (by rfl)
      · try simp only [wk, wl, nc, evV, and_self, Option.map_some, reduceIte, Nat.reduceEqDiff, Nat.reduceAdd, Nat.reduceSub, Nat.reduceLeDiff, Nat.reduceBEq, Nat.reduceMul, Nat.reduceLT, Bool.and_self, Bool.true_and, Bool.not_true, Bool.not_false, Bool.false_eq_true, ne_eq, not_false_eq_true, reduceCtorEq, Int.reduceEq, List.length_map]
        refine AW.ret ?_
        cases H
        exact hQ _ _ _ _ (.inr rfl) (by simp only [resVs, omap, resV, wk, wl, nc, evV, and_self, Option.map_some, reduceIte, Nat.reduceEqDiff, Nat.reduceAdd, Nat.reduceSub, Nat.reduceLeDiff, Nat.reduceBEq, Nat.reduceMul, Nat.reduceLT, Bool.and_self, Bool.true_and, Bool.not_true, Bool.not_false, Bool.false_eq_true, ne_eq, not_false_eq_true, reduceCtorEq, Int.reduceEq, List.length_map]; rfl) (hand_plain (by rfl)) (by rfl)
    · try simp only [wk, wl, nc, evV, and_self, Option.map_some, reduceIte, Nat.reduceEqDiff, Nat.reduceAdd, Nat.reduceSub, Nat.reduceLeDiff, Nat.reduceBEq, Nat.reduceMul, Nat.reduceLT, Bool.and_self, Bool.true_and, Bool.not_true, Bool.not_false, Bool.false_eq_true, ne_eq, not_false_eq_true, reduceCtorEq, Int.reduceEq, List.length_map]
      refine AW.ret ?_
      cases H
      exact hQ _ _ _ _ (.inr rfl) (by simp only [resVs, omap, resV, wk, wl, nc, evV, and_self, Option.map_some, reduceIte, Nat.reduceEqDiff, Nat.reduceAdd, Nat.reduceSub, Nat.reduceLeDiff, Nat.reduceBEq, Nat.reduceMul, Nat.reduceLT, Bool.and_self, Bool.true_and, Bool.not_true, Bool.not_false, Bool.false_eq_true, ne_eq, not_false_eq_true, reduceCtorEq, Int.reduceEq, List.length_map]; rfl) (hand_plain (by rfl)) (by rfl)
  · try simp only [wk, wl, nc, evV, and_self, Option.map_some, reduceIte, Nat.reduceEqDiff, Nat.reduceAdd, Nat.reduceSub, Nat.reduceLeDiff, Nat.reduceBEq, Nat.reduceMul, Nat.reduceLT, Bool.and_self, Bool.true_and, Bool.not_true, Bool.not_false, Bool.false_eq_true, ne_eq, not_false_eq_true, reduceCtorEq, Int.reduceEq, List.length_map]
    refine AW.ret ?_
    cases H
    exact hQ _ _ _ _ (.inr rfl) (by simp only [resVs, omap, resV, wk, wl, nc, evV, and_self, Option.map_some, reduceIte, Nat.reduceEqDiff, Nat.reduceAdd, Nat.reduceSub, Nat.reduceLeDiff, Nat.reduceBEq, Nat.reduceMul, Nat.reduceLT, Bool.and_self, Bool.true_and, Bool.not_true, Bool.not_false, Bool.false_eq_true, ne_eq, not_false_eq_true, reduceCtorEq, Int.reduceEq, List.length_map]; rfl) (hand_plain (by rfl)) (by rfl)
def c3_0 : C := .seq (.reg [iI 43 (.call (.c (.fn 15 [])) []), iI 44 (.mv (.t 43)), iG (some 45) 44 true (.mv (.t 7)), iG (some 46) 44 true (.mv (.t 9)), iG (some 47) 44 true (.call (.c (.fn 16 [])) [(.t 45), (.t 46)]), iI 48 (.pick (.t 44) (.t 47) (.c (.bool false))), iI 49 (.mv (.t 48)), iG (some 50) 49 true (.mv (.t 8)), iG (some 51) 49 true (.mv (.t 10)), iG (some 52) 49 true (.bin .eql (.t 50) (.t 51)), iI 53 (.pick (.t 49) (.t 52) (.c (.bool false))), iI 54 (.mv (.t 53)), iG (some 55) 54 true (.mv (.t 11)), iG (some 56) 54 true (.mv (.t 13)), iG (some 57) 54 true (.call (.c (.fn 16 [])) [(.t 55), (.t 56)]), iI 58 (.pick (.t 54) (.t 57) (.c (.bool false))), iI 59 (.mv (.t 58)), iG (some 60) 59 true (.mv (.t 12)), iG (some 61) 59 true (.mv (.t 14)), iG (some 62) 59 true (.bin .eql (.t 60) (.t 61)), iI 63 (.pick (.t 59) (.t 62) (.c (.bool false))), iI 6 (.mv (.t 63))]) .ret
def c3_1 : C := .seq (.reg [iI 37 (.mv (.t 0)), iI 38 (.mv (.t 1)), iI 39 (.mv (.t 2)), iI 40 (.call (.c (.fn 14 [])) [(.t 37), (.t 38), (.t 39)]), iI 36 (.mv (.t 40)), iI 41 (.ext (.t 36) 0), iI 42 (.ext (.t 36) 1), iI 13 (.mv (.t 41)), iI 14 (.mv (.t 42))]) c3_0
def c3_2 : C := .seq (.reg [iI 30 (.mv (.t 0)), iI 31 (.mv (.t 1)), iI 32 (.mv (.t 2)), iI 33 (.call (.c (.fn 13 [])) [(.t 30), (.t 31), (.t 32)]), iI 29 (.mv (.t 33)), iI 34 (.ext (.t 29) 0), iI 35 (.ext (.t 29) 1), iI 11 (.mv (.t 34)), iI 12 (.mv (.t 35))]) c3_1
def c3_3 : C := .seq (.reg [iI 23 (.mv (.t 0)), iI 24 (.mv (.t 1)), iI 25 (.mv (.t 2)), iI 26 (.call (.c (.fn 12 [])) [(.t 23), (.t 24), (.t 25)]), iI 22 (.mv (.t 26)), iI 27 (.ext (.t 22) 0), iI 28 (.ext (.t 22) 1), iI 9 (.mv (.t 27)), iI 10 (.mv (.t 28))]) c3_2
def c3_4 : C := .seq (.reg [iI 16 (.mv (.t 0)), iI 17 (.mv (.t 1)), iI 18 (.mv (.t 2)), iI 19 (.call (.c (.fn 11 [])) [(.t 16), (.t 17), (.t 18)]), iI 15 (.mv (.t 19)), iI 20 (.ext (.t 15) 0), iI 21 (.ext (.t 15) 1), iI 7 (.mv (.t 20)), iI 8 (.mv (.t 21))]) c3_3
def ir3 : C := .seq (.reg [iI 6 (.mv (.c (.bool false)))]) c3_4
theorem fd3 : fd? Try.prog 3 = some (64, [.slot 6], ir3) := by kernel_rfl
noncomputable def f3 (from_1 : Int) (to_2 : Int) (n_3 : Int) : Option (Bool) :=
  (f11 from_1 to_2 n_3).bind fun r_78 => (f12 from_1 to_2 n_3).bind fun r_105 => (f13 from_1 to_2 n_3).bind fun r_146 => (f14 from_1 to_2 n_3).bind fun r_181 => (f15).bind fun r_252 => (if r_252 = true then (f16 r_78.1 r_105.1).bind fun r_253 => (if r_253 = true then (if (decide (r_78.2 = r_105.2)) = true then (f16 r_146.1 r_181.1).bind fun r_254 => (if r_254 = true then (some (decide (r_146.2 = r_181.2))) else (some false)) else (some false)) else (some false)) else (some false))
theorem f3_ok {from_1 : Int} {to_2 : Int} {n_3 : Int} {r_ : Bool} (H : f3 from_1 to_2 n_3 = some r_) : Pure Try.prog 3 [.int .i64 from_1, .int .i64 to_2, .int .i64 n_3] (· = .bool r_) := by
  refine Pure.walk2 fd3 none (Nat.le_of_ble_eq_true rfl) (by rfl) fun Q hQ => ?_
  simp only [f3] at H
  refine AW.rseq ?_
  try simp only [wk, wl, nc, evV, and_self, Option.map_some, reduceIte, Nat.reduceEqDiff, Nat.reduceAdd, Nat.reduceSub, Nat.reduceLeDiff, Nat.reduceBEq, Nat.reduceMul, Nat.reduceLT, Bool.and_self, Bool.true_and, Bool.not_true, Bool.not_false, Bool.false_eq_true, ne_eq, not_false_eq_true, reduceCtorEq, Int.reduceEq, List.length_map]
  refine AW.rseq ?_
  try simp only [wk, wl, nc, evV, and_self, Option.map_some, reduceIte, Nat.reduceEqDiff, Nat.reduceAdd, Nat.reduceSub, Nat.reduceLeDiff, Nat.reduceBEq, Nat.reduceMul, Nat.reduceLT, Bool.and_self, Bool.true_and, Bool.not_true, Bool.not_false, Bool.false_eq_true, ne_eq, not_false_eq_true, reduceCtorEq, Int.reduceEq, List.length_map]
  refine evTs_pure hFn H (fun _ h => f11_ok h) (by rfl) (by rfl) (by rfl) (by rfl) (fun _ => rfl) ?_ <;> clear H <;> intro r_78 H
  try simp only [eL, wk, wl, nc, evV, and_self, Option.map_some, reduceIte, Nat.reduceEqDiff, Nat.reduceAdd, Nat.reduceSub, Nat.reduceLeDiff, Nat.reduceBEq, Nat.reduceMul, Nat.reduceLT, Bool.and_self, Bool.true_and, Bool.not_true, Bool.not_false, Bool.false_eq_true, ne_eq, not_false_eq_true, reduceCtorEq, Int.reduceEq, List.length_map]
  refine AW.rseq ?_
  try simp only [wk, wl, nc, evV, and_self, Option.map_some, reduceIte, Nat.reduceEqDiff, Nat.reduceAdd, Nat.reduceSub, Nat.reduceLeDiff, Nat.reduceBEq, Nat.reduceMul, Nat.reduceLT, Bool.and_self, Bool.true_and, Bool.not_true, Bool.not_false, Bool.false_eq_true, ne_eq, not_false_eq_true, reduceCtorEq, Int.reduceEq, List.length_map]
  refine evTs_pure hFn H (fun _ h => f12_im h) (by rfl) (by rfl) (by rfl) (by rfl) (fun _ => rfl) ?_ <;> clear H <;> intro r_105 H
  try simp only [eL, wk, wl, nc, evV, and_self, Option.map_some, reduceIte, Nat.reduceEqDiff, Nat.reduceAdd, Nat.reduceSub, Nat.reduceLeDiff, Nat.reduceBEq, Nat.reduceMul, Nat.reduceLT, Bool.and_self, Bool.true_and, Bool.not_true, Bool.not_false, Bool.false_eq_true, ne_eq, not_false_eq_true, reduceCtorEq, Int.reduceEq, List.length_map]
  refine AW.rseq ?_
  try simp only [wk, wl, nc, evV, and_self, Option.map_some, reduceIte, Nat.reduceEqDiff, Nat.reduceAdd, Nat.reduceSub, Nat.reduceLeDiff, Nat.reduceBEq, Nat.reduceMul, Nat.reduceLT, Bool.and_self, Bool.true_and, Bool.not_true, Bool.not_false, Bool.false_eq_true, ne_eq, not_false_eq_true, reduceCtorEq, Int.reduceEq, List.length_map]
  refine evTs_pure hFn H (fun _ h => f13_im h) (by rfl) (by rfl) (by rfl) (by rfl) (fun _ => rfl) ?_ <;> clear H <;> intro r_146 H
  try simp only [eL, wk, wl, nc, evV, and_self, Option.map_some, reduceIte, Nat.reduceEqDiff, Nat.reduceAdd, Nat.reduceSub, Nat.reduceLeDiff, Nat.reduceBEq, Nat.reduceMul, Nat.reduceLT, Bool.and_self, Bool.true_and, Bool.not_true, Bool.not_false, Bool.false_eq_true, ne_eq, not_false_eq_true, reduceCtorEq, Int.reduceEq, List.length_map]
  refine AW.rseq ?_
  try simp only [wk, wl, nc, evV, and_self, Option.map_some, reduceIte, Nat.reduceEqDiff, Nat.reduceAdd, Nat.reduceSub, Nat.reduceLeDiff, Nat.reduceBEq, Nat.reduceMul, Nat.reduceLT, Bool.and_self, Bool.true_and, Bool.not_true, Bool.not_false, Bool.false_eq_true, ne_eq, not_false_eq_true, reduceCtorEq, Int.reduceEq, List.length_map]
  refine evTs_pure hFn H (fun _ h => f14_im h) (by rfl) (by rfl) (by rfl) (by rfl) (fun _ => rfl) ?_ <;> clear H <;> intro r_181 H
  try simp only [eL, wk, wl, nc, evV, and_self, Option.map_some, reduceIte, Nat.reduceEqDiff, Nat.reduceAdd, Nat.reduceSub, Nat.reduceLeDiff, Nat.reduceBEq, Nat.reduceMul, Nat.reduceLT, Bool.and_self, Bool.true_and, Bool.not_true, Bool.not_false, Bool.false_eq_true, ne_eq, not_false_eq_true, reduceCtorEq, Int.reduceEq, List.length_map]
  refine AW.rseq ?_
  try simp only [wk, wl, nc, evV, and_self, Option.map_some, reduceIte, Nat.reduceEqDiff, Nat.reduceAdd, Nat.reduceSub, Nat.reduceLeDiff, Nat.reduceBEq, Nat.reduceMul, Nat.reduceLT, Bool.and_self, Bool.true_and, Bool.not_true, Bool.not_false, Bool.false_eq_true, ne_eq, not_false_eq_true, reduceCtorEq, Int.reduceEq, List.length_map]
  refine evTs_pure hFn H (fun _ h => f15_ok h) (by rfl) (by rfl) (by rfl) (by rfl) (fun _ => rfl) ?_ <;> clear H <;> intro r_252 H
  try simp only [eL, wk, wl, nc, evV, and_self, Option.map_some, reduceIte, Nat.reduceEqDiff, Nat.reduceAdd, Nat.reduceSub, Nat.reduceLeDiff, Nat.reduceBEq, Nat.reduceMul, Nat.reduceLT, Bool.and_self, Bool.true_and, Bool.not_true, Bool.not_false, Bool.false_eq_true, ne_eq, not_false_eq_true, reduceCtorEq, Int.reduceEq, List.length_map]
  refine evTs_ifg H (by rfl) ?_ ?_ <;> clear H <;> intro H
  · try simp only [wk, wl, nc, evV, and_self, Option.map_some, reduceIte, Nat.reduceEqDiff, Nat.reduceAdd, Nat.reduceSub, Nat.reduceLeDiff, Nat.reduceBEq, Nat.reduceMul, Nat.reduceLT, Bool.and_self, Bool.true_and, Bool.not_true, Bool.not_false, Bool.false_eq_true, ne_eq, not_false_eq_true, reduceCtorEq, Int.reduceEq, List.length_map]
    refine evTs_pure hFn H (fun _ h => f16_ok h) (by rfl) (by rfl) (by rfl) (by rfl) (fun _ => rfl) ?_ <;> clear H <;> intro r_253 H
    try simp only [eL, wk, wl, nc, evV, and_self, Option.map_some, reduceIte, Nat.reduceEqDiff, Nat.reduceAdd, Nat.reduceSub, Nat.reduceLeDiff, Nat.reduceBEq, Nat.reduceMul, Nat.reduceLT, Bool.and_self, Bool.true_and, Bool.not_true, Bool.not_false, Bool.false_eq_true, ne_eq, not_false_eq_true, reduceCtorEq, Int.reduceEq, List.length_map]
    refine evTs_ifg H (by rfl) ?_ ?_ <;> clear H <;> intro H
    · try simp only [wk, wl, nc, evV, and_self, Option.map_some, reduceIte, Nat.reduceEqDiff, Nat.reduceAdd, Nat.reduceSub, Nat.reduceLeDiff, Nat.reduceBEq, Nat.reduceMul, Nat.reduceLT, Bool.and_self, Bool.true_and, Bool.not_true, Bool.not_false, Bool.false_eq_true, ne_eq, not_false_eq_true, reduceCtorEq, Int.reduceEq, List.length_map]
      refine evTs_ifg H (by rfl) ?_ ?_ <;> clear H <;> intro H
      · try simp only [wk, wl, nc, evV, and_self, Option.map_some, reduceIte, Nat.reduceEqDiff, Nat.reduceAdd, Nat.reduceSub, Nat.reduceLeDiff, Nat.reduceBEq, Nat.reduceMul, Nat.reduceLT, Bool.and_self, Bool.true_and, Bool.not_true, Bool.not_false, Bool.false_eq_true, ne_eq, not_false_eq_true, reduceCtorEq, Int.reduceEq, List.length_map]
        refine evTs_pure hFn H (fun _ h => f16_ok h) (by rfl) (by rfl) (by rfl) (by rfl) (fun _ => rfl) ?_ <;> clear H <;> intro r_254 H
        try simp only [eL, wk, wl, nc, evV, and_self, Option.map_some, reduceIte, Nat.reduceEqDiff, Nat.reduceAdd, Nat.reduceSub, Nat.reduceLeDiff, Nat.reduceBEq, Nat.reduceMul, Nat.reduceLT, Bool.and_self, Bool.true_and, Bool.not_true, Bool.not_false, Bool.false_eq_true, ne_eq, not_false_eq_true, reduceCtorEq, Int.reduceEq, List.length_map]
        refine evTs_ifg H (by rfl) ?_ ?_ <;> clear H <;> intro H
        · try simp only [wk, wl, nc, evV, and_self, Option.map_some, reduceIte, Nat.reduceEqDiff, Nat.reduceAdd, Nat.reduceSub, Nat.reduceLeDiff, Nat.reduceBEq, Nat.reduceMul, Nat.reduceLT, Bool.and_self, Bool.true_and, Bool.not_true, Bool.not_false, Bool.false_eq_true, ne_eq, not_false_eq_true, reduceCtorEq, Int.reduceEq, List.length_map]
          refine AW.ret ?_
          cases H
          exact hQ _ _ _ _ (.inr rfl) (by simp only [resVs, omap, resV, wk, wl, nc, evV, and_self, Option.map_some, reduceIte, Nat.reduceEqDiff, Nat.reduceAdd, Nat.reduceSub, Nat.reduceLeDiff, Nat.reduceBEq, Nat.reduceMul, Nat.reduceLT, Bool.and_self, Bool.true_and, Bool.not_true, Bool.not_false, Bool.false_eq_true, ne_eq, not_false_eq_true, reduceCtorEq, Int.reduceEq, List.length_map]; rfl) (hand_plain (by rfl)) (by rfl)
        · try simp only [wk, wl, nc, evV, and_self, Option.map_some, reduceIte, Nat.reduceEqDiff, Nat.reduceAdd, Nat.reduceSub, Nat.reduceLeDiff, Nat.reduceBEq, Nat.reduceMul, Nat.reduceLT, Bool.and_self, Bool.true_and, Bool.not_true, Bool.not_false, Bool.false_eq_true, ne_eq, not_false_eq_true, reduceCtorEq, Int.reduceEq, List.length_map]
          refine AW.ret ?_
          cases H
          exact hQ _ _ _ _ (.inr rfl) (by simp only [resVs, omap, resV, wk, wl, nc, evV, and_self, Option.map_some, reduceIte, Nat.reduceEqDiff, Nat.reduceAdd, Nat.reduceSub, Nat.reduceLeDiff, Nat.reduceBEq, Nat.reduceMul, Nat.reduceLT, Bool.and_self, Bool.true_and, Bool.not_true, Bool.not_false, Bool.false_eq_true, ne_eq, not_false_eq_true, reduceCtorEq, Int.reduceEq, List.length_map]; rfl) (hand_plain (by rfl)) (by rfl)
      · try simp only [wk, wl, nc, evV, and_self, Option.map_some, reduceIte, Nat.reduceEqDiff, Nat.reduceAdd, Nat.reduceSub, Nat.reduceLeDiff, Nat.reduceBEq, Nat.reduceMul, Nat.reduceLT, Bool.and_self, Bool.true_and, Bool.not_true, Bool.not_false, Bool.false_eq_true, ne_eq, not_false_eq_true, reduceCtorEq, Int.reduceEq, List.length_map]
        refine AW.ret ?_
        cases H
        exact hQ _ _ _ _ (.inr rfl) (by simp only [resVs, omap, resV, wk, wl, nc, evV, and_self, Option.map_some, reduceIte, Nat.reduceEqDiff, Nat.reduceAdd, Nat.reduceSub, Nat.reduceLeDiff, Nat.reduceBEq, Nat.reduceMul, Nat.reduceLT, Bool.and_self, Bool.true_and, Bool.not_true, Bool.not_false, Bool.false_eq_true, ne_eq, not_false_eq_true, reduceCtorEq, Int.reduceEq, List.length_map]; rfl) (hand_plain (by rfl)) (by rfl)
    · try simp only [wk, wl, nc, evV, and_self, Option.map_some, reduceIte, Nat.reduceEqDiff, Nat.reduceAdd, Nat.reduceSub, Nat.reduceLeDiff, Nat.reduceBEq, Nat.reduceMul, Nat.reduceLT, Bool.and_self, Bool.true_and, Bool.not_true, Bool.not_false, Bool.false_eq_true, ne_eq, not_false_eq_true, reduceCtorEq, Int.reduceEq, List.length_map]
      refine AW.ret ?_
      cases H
      exact hQ _ _ _ _ (.inr rfl) (by simp only [resVs, omap, resV, wk, wl, nc, evV, and_self, Option.map_some, reduceIte, Nat.reduceEqDiff, Nat.reduceAdd, Nat.reduceSub, Nat.reduceLeDiff, Nat.reduceBEq, Nat.reduceMul, Nat.reduceLT, Bool.and_self, Bool.true_and, Bool.not_true, Bool.not_false, Bool.false_eq_true, ne_eq, not_false_eq_true, reduceCtorEq, Int.reduceEq, List.length_map]; rfl) (hand_plain (by rfl)) (by rfl)
  · try simp only [wk, wl, nc, evV, and_self, Option.map_some, reduceIte, Nat.reduceEqDiff, Nat.reduceAdd, Nat.reduceSub, Nat.reduceLeDiff, Nat.reduceBEq, Nat.reduceMul, Nat.reduceLT, Bool.and_self, Bool.true_and, Bool.not_true, Bool.not_false, Bool.false_eq_true, ne_eq, not_false_eq_true, reduceCtorEq, Int.reduceEq, List.length_map]
    refine AW.ret ?_
    cases H
    exact hQ _ _ _ _ (.inr rfl) (by simp only [resVs, omap, resV, wk, wl, nc, evV, and_self, Option.map_some, reduceIte, Nat.reduceEqDiff, Nat.reduceAdd, Nat.reduceSub, Nat.reduceLeDiff, Nat.reduceBEq, Nat.reduceMul, Nat.reduceLT, Bool.and_self, Bool.true_and, Bool.not_true, Bool.not_false, Bool.false_eq_true, ne_eq, not_false_eq_true, reduceCtorEq, Int.reduceEq, List.length_map]; rfl) (hand_plain (by rfl)) (by rfl)
end Go.Proofs.Ytccipmhffapcmaa
