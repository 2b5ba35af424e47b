import Derived.Test.YtccipmhffapcmaaShelf
import Derived.Test.YtccipmhffapcmaaM6
import Derived.Test.YtccipmhffapcmaaProg
import Derived.KernelRfl
namespace Go.Proofs.Ytccipmhffapcmaa
open Go Go.Ab

set_option maxHeartbeats 1000000
set_option maxRecDepth 4000
set_option linter.unusedSimpArgs false
set_option linter.unusedVariables false
structure ApiGroup where
  fNumber : Int
  fChannels : (List Int)
def eApiGroup (x : ApiGroup) : AV := .agg [.int .i64 x.fNumber, .sl 0 false (x.fChannels.map (AV.int .i64))]
instance : IsEnc 2 eApiGroup := ⟨fun _ => rfl, fun _ => rfl, fun _ => rfl⟩
def c60_0 : C := .seq (.reg [iI 3 (.mv (.t 0)), iI 4 (.bin .geq (.t 3) (.c (.int .i64 0))), iI 5 (.mv (.t 4)), iG (some 6) 5 true (.mv (.t 0)), iG (some 7) 5 true (.bin .leq (.t 6) (.c (.int .i64 65535))), iI 8 (.pick (.t 5) (.t 7) (.c (.bool false))), iI 2 (.mv (.t 8))]) .ret
def ir60 : C := .seq (.reg [iI 2 (.mv (.c (.bool false)))]) c60_0
theorem fd60 : fd? Try.prog 60 = some (9, [.slot 2], ir60) := by kernel_rfl
noncomputable def f60 (v_50 : Int) : Option (Bool) :=
  (if (decide (0 ≤ v_50)) = true then (some (decide (v_50 ≤ 65535))) else (some false))
theorem f60_ok {v_50 : Int} {r_ : Bool} (H : f60 v_50 = some r_) : Pure Try.prog 60 [.int .i64 v_50] (· = .bool r_) := by
 refine Pure.walk3 fd60 none (Nat.le_of_ble_eq_true rfl) (by rfl) fun Q hQ => ?_
 simp only [f60] at H
 refine AW.rseq ?_
 try simp only [↓wk, ↓wl, nq, evV, ↓reduceIte, sevalprocAttr]
 refine AW.rseq ?_
 try simp only [↓wk, ↓wl, nq, evV, ↓reduceIte, sevalprocAttr]
 refine evTs_ifg H (by rfl) ?_ ?_ <;> clear H <;> intro H
 ·try simp only [↓wk, ↓wl, nq, evV, ↓reduceIte, sevalprocAttr]
  refine AW.ret ?_
  cases H
  exact hQ.fin
 ·try simp only [↓wk, ↓wl, nq, evV, ↓reduceIte, sevalprocAttr]
  refine AW.ret ?_
  cases H
  exact hQ.fin
def c39_0 : C := .seq (.reg [iI 3 (.mv (.t 0)), iI 2 (.mv (.t 3))]) .ret
def ir39 : C := .seq (.reg [iI 2 (.mv (.c (.int .i64 0)))]) c39_0
theorem fd39 : fd? Try.prog 39 = some (4, [.slot 2], ir39) := by kernel_rfl
noncomputable def f39 (i_55 : Int) : Option (Int) :=
  (some i_55)
theorem f39_ok {i_55 : Int} {r_ : Int} (H : f39 i_55 = some r_) : Pure Try.prog 39 [.int .i64 i_55] (· = .int .i64 r_) := by
 refine Pure.walk3 fd39 none (Nat.le_of_ble_eq_true rfl) (by rfl) fun Q hQ => ?_
 simp only [f39] at H
 refine AW.rseq ?_
 try simp only [↓wk, ↓wl, nq, evV, ↓reduceIte, sevalprocAttr]
 refine AW.rseq ?_
 try simp only [↓wk, ↓wl, nq, evV, ↓reduceIte, sevalprocAttr]
 refine AW.ret ?_
 cases H
 exact hQ.fin
noncomputable def f38_39_L1 (n_48 : Int) (whole_49 : Int) (to_47 : Int) (from_46 : Int) : Lp (Int × (List Int)) ((List Int)) where
  body := fun (v_70, out_71) => (if (decide (v_70 < n_48)) = true then (if (decide (0 < whole_49)) = true then (f39 v_70).bind fun r_77 => (nz? (IntKind.i64.wrap (2 * whole_49))).bind fun _ => (nz? (IntKind.i64.wrap (2 * whole_49))).bind fun _ => (if (decide (((IntKind.i64.wrap ((IntKind.i64.wrap ((IntKind.i64.wrap (2 * (IntKind.i64.wrap (to_47 - from_46)))) * r_77)) + whole_49)).tmod (IntKind.i64.wrap (2 * whole_49))) < 0)) = true then (app? 8 out_71 ([(IntKind.i64.wrap ((IntKind.i64.wrap (from_46 + (IntKind.i64.wrap ((IntKind.i64.wrap ((IntKind.i64.wrap ((IntKind.i64.wrap (2 * (IntKind.i64.wrap (to_47 - from_46)))) * r_77)) + whole_49)).tdiv (IntKind.i64.wrap (2 * whole_49)))))) - 1))])).bind fun out_78 => (some (.next ((IntKind.i64.wrap (v_70 + 1)), out_78))) else (app? 8 out_71 ([(IntKind.i64.wrap (from_46 + (IntKind.i64.wrap ((IntKind.i64.wrap ((IntKind.i64.wrap ((IntKind.i64.wrap (2 * (IntKind.i64.wrap (to_47 - from_46)))) * r_77)) + whole_49)).tdiv (IntKind.i64.wrap (2 * whole_49))))))])).bind fun out_79 => (some (.next ((IntKind.i64.wrap (v_70 + 1)), out_79)))) else (app? 8 out_71 ([from_46])).bind fun out_80 => (some (.next ((IntKind.i64.wrap (v_70 + 1)), out_80)))) else (some (.brk out_71)))
  cst := fun (v_70, out_71) => ⟨put (put (put (put (put (put (put (fun _ => .junk) 36 (.int .i64 v_70)) 35 (.int .i64 n_48)) 13 (.row 0 0 0 out_71.length)) 4 (.fn 39 [])) 3 (.int .i64 whole_49)) 1 (.int .i64 to_47)) 0 (.int .i64 from_46), [.els 0 (out_71.map (AV.int .i64))]⟩
theorem f38_39_L1c (n_48 : Int) (whole_49 : Int) (to_47 : Int) (from_46 : Int) (v_70 : Int) (out_71 : (List Int)) : (f38_39_L1 n_48 whole_49 to_47 from_46).cst (v_70, out_71) = ⟨put (put (put (put (put (put (put (fun _ => .junk) 36 (.int .i64 v_70)) 35 (.int .i64 n_48)) 13 (.row 0 0 0 out_71.length)) 4 (.fn 39 [])) 3 (.int .i64 whole_49)) 1 (.int .i64 to_47)) 0 (.int .i64 from_46), [.els 0 (out_71.map (AV.int .i64))]⟩ := rfl
def c38_0 : C := .cond (.t 34) (.seq (.reg [iI 10 (.mv (.c (.sl 0 true []))), iI 11 (.mv (.c (.int .i64 2)))]) .ret) (.skip)
def c38_1 : C := .cond (.t 62) (.reg [iI 63 (.mv (.t 15)), iI 64 (.bin .sub (.t 63) (.c (.int .i64 1))), iI 15 (.mv (.t 64))]) (.skip)
def c38_2 : C := .seq (.reg [iI 58 (.mv (.t 16)), iI 59 (.mv (.t 3)), iI 60 (.bin .mul (.c (.int .i64 2)) (.t 59)), iI 61 (.bin .rem (.t 58) (.t 60)), iI 62 (.bin .lss (.t 61) (.c (.int .i64 0)))]) c38_1
def c38_3 : C := .seq (.reg [iI 52 (.mv (.t 15)), iI 53 (.mv (.t 16)), iI 54 (.mv (.t 3)), iI 55 (.bin .mul (.c (.int .i64 2)) (.t 54)), iI 56 (.bin .quo (.t 53) (.t 55)), iI 57 (.bin .add (.t 52) (.t 56)), iI 15 (.mv (.t 57))]) c38_2
def c38_4 : C := .cond (.t 41) (.seq (.reg [iI 42 (.mv (.t 1)), iI 43 (.mv (.t 0)), iI 44 (.bin .sub (.t 42) (.t 43)), iI 45 (.bin .mul (.c (.int .i64 2)) (.t 44)), iI 46 (.mv (.t 4)), iI 47 (.mv (.t 14)), iI 48 (.call (.t 46) [(.t 47)]), iI 49 (.bin .mul (.t 45) (.t 48)), iI 50 (.mv (.t 3)), iI 51 (.bin .add (.t 49) (.t 50)), iI 16 (.mv (.t 51))]) c38_3) (.skip)
def c38_5 : C := .reg [iI 65 (.mv (.t 13)), iI 66 (.mv (.t 15)), iI 67 (.mkslp 0 1 (.int .i64 0) [(0, (.t 66))]), iI 68 (.append 0 8 (.t 65) (.t 67)), iI 13 (.mv (.t 68))]
def c38_6 : C := .seq (.seq (.reg [iI 40 (.mv (.t 3)), iI 41 (.bin .gtr (.t 40) (.c (.int .i64 0)))]) c38_4) c38_5
def c38_7 : C := .seq (.reg [iI 39 (.mv (.t 0)), iI 15 (.mv (.t 39))]) c38_6
def c38_8 : C := .reg [iI 69 (.bin .add (.t 36) (.c (.int .i64 1))), iI 36 (.mv (.t 69))]
def c38_9 : C := .seq (.block 1 (.seq (.reg [iI 38 (.mv (.t 36)), iI 14 (.mv (.t 38))]) c38_7)) c38_8
def c38_10 : C := .seq (.cond (.t 37) (.skip) (.exit 0)) c38_9
def c38_11 : C := .block 0 (.loop (.seq (.reg [iI 37 (.bin .lss (.t 36) (.t 35))]) c38_10))
def c38_12 : C := .seq (.reg [iI 70 (.mv (.t 13)), iI 10 (.mv (.t 70)), iI 11 (.mv (.c (.int .i64 0)))]) .ret
def c38_13 : C := .seq (.seq (.reg [iI 35 (.mv (.t 2)), iI 36 (.mv (.c (.int .i64 0)))]) c38_11) c38_12
def c38_14 : C := .seq (.reg [iI 13 (.mv (.c (.sl 0 true [])))]) c38_13
def c38_15 : C := .seq (.seq (.reg [iI 17 (.mv (.t 12)), iI 18 (.mv (.t 0)), iI 19 (.call (.t 17) [(.t 18)]), iI 20 (.un .not (.t 19)), iI 21 (.mv (.t 20)), iG (some 22) 21 false (.mv (.t 12)), iG (some 23) 21 false (.mv (.t 1)), iG (some 24) 21 false (.call (.t 22) [(.t 23)]), iG (some 25) 21 false (.un .not (.t 24)), iI 26 (.pick (.t 21) (.c (.bool true)) (.t 25)), iI 27 (.mv (.t 26)), iG (some 28) 27 false (.mv (.t 2)), iG (some 29) 27 false (.bin .lss (.t 28) (.c (.int .i64 0))), iI 30 (.pick (.t 27) (.c (.bool true)) (.t 29)), iI 31 (.mv (.t 30)), iG (some 32) 31 false (.mv (.t 2)), iG (some 33) 31 false (.bin .gtr (.t 32) (.c (.int .i64 256))), iI 34 (.pick (.t 31) (.c (.bool true)) (.t 33))]) c38_0) c38_14
def c38_16 : C := .seq (.reg [iI 12 (.mv (.c (.fn 60 [])))]) c38_15
def ir38 : C := .seq (.reg [iI 10 (.mv (.c (.sl 0 true []))), iI 11 (.mv (.c (.int .i64 0)))]) c38_16
theorem fd38 : fd? Try.prog 38 = some (71, [.slot 10, .slot 11], ir38) := by kernel_rfl
noncomputable def f38_39 (from_46 : Int) (to_47 : Int) (n_48 : Int) (whole_49 : Int) : Option ((List Int) × Int) :=
  (f60 from_46).bind fun r_53 => (if (!r_53) = true then (some ([], 2)) else (f60 to_47).bind fun r_54 => (if (!r_54) = true then (some ([], 2)) else (if (decide (n_48 < 0)) = true then (some ([], 2)) else (if (decide (256 < n_48)) = true then (some ([], 2)) else (Lp.run (f38_39_L1 n_48 whole_49 to_47 from_46) (0, [])).bind fun out_76 => (some (out_76, 0))))))
theorem f38_39_ok {from_46 : Int} {to_47 : Int} {n_48 : Int} {whole_49 : Int} {r_ : (List Int) × Int} (H : f38_39 from_46 to_47 n_48 whole_49 = some r_) : Pure Try.prog 38 [.int .i64 from_46, .int .i64 to_47, .int .i64 n_48, .int .i64 whole_49, .fn 39 []] (· = .tup [.fr 0 (r_.1.map (AV.int .i64)), .int .i64 r_.2]) := by
 refine Pure.walk3 fd38 (some 0) (Nat.le_of_ble_eq_true rfl) (by rfl) fun Q hQ => ?_
 simp only [f38_39] at H
 refine AW.rseq ?_
 try simp only [↓wk, ↓wl, nq, evV, ↓reduceIte, sevalprocAttr]
 refine AW.rseq ?_
 try simp only [↓wk, ↓wl, nq, evV, ↓reduceIte, sevalprocAttr]
 refine AW.sseq ?_
 refine AW.rseq ?_
 try simp only [↓wk, ↓wl, nq, evV, ↓reduceIte, sevalprocAttr]
 refine evTs_pure hFn H (fun _ h => f60_ok h) (by rfl) (by rfl) (by rfl) (by rfl) (fun _ => rfl) ?_ <;> clear H <;> intro r_53 H
 try simp only [eL, ↓wk, ↓wl, nq, evV, ↓reduceIte, sevalprocAttr]
 refine evTs_ifg H (by rfl) ?_ ?_ <;> clear H <;> intro H
 ·try simp only [↓wk, ↓wl, nq, evV, ↓reduceIte, sevalprocAttr]
  refine AW.ift (by rfl) ?_
  refine AW.rseq ?_
  try simp only [↓wk, ↓wl, nq, evV, ↓reduceIte, sevalprocAttr]
  refine AW.ret ?_
  refine seqQ.ret ?_
  cases H
  exact hQ _ _ _ _ (.inr rfl) (by simp only [resVs, omap, resV, ↓wk, ↓wl, nq, evV, ↓reduceIte, sevalprocAttr]; rfl) (hand_k0 (by rfl) (by rfl)) (by first | exact Or.inl rfl | exact Or.inr rfl)
 ·try simp only [↓wk, ↓wl, nq, evV, ↓reduceIte, sevalprocAttr]
  refine evTs_pure hFn H (fun _ h => f60_ok h) (by rfl) (by rfl) (by rfl) (by rfl) (fun _ => rfl) ?_ <;> clear H <;> intro r_54 H
  try simp only [eL, ↓wk, ↓wl, nq, evV, ↓reduceIte, sevalprocAttr]
  refine evTs_ifg H (by rfl) ?_ ?_ <;> clear H <;> intro H
  ·try simp only [↓wk, ↓wl, nq, evV, ↓reduceIte, sevalprocAttr]
   refine AW.ift (by rfl) ?_
   refine AW.rseq ?_
   try simp only [↓wk, ↓wl, nq, evV, ↓reduceIte, sevalprocAttr]
   refine AW.ret ?_
   refine seqQ.ret ?_
   cases H
   exact hQ _ _ _ _ (.inr rfl) (by simp only [resVs, omap, resV, ↓wk, ↓wl, nq, evV, ↓reduceIte, sevalprocAttr]; rfl) (hand_k0 (by rfl) (by rfl)) (by first | exact Or.inl rfl | exact Or.inr rfl)
  ·try simp only [↓wk, ↓wl, nq, evV, ↓reduceIte, sevalprocAttr]
   refine evTs_ifg H (by rfl) ?_ ?_ <;> clear H <;> intro H
   ·try simp only [↓wk, ↓wl, nq, evV, ↓reduceIte, sevalprocAttr]
    refine AW.ift (by rfl) ?_
    refine AW.rseq ?_
    try simp only [↓wk, ↓wl, nq, evV, ↓reduceIte, sevalprocAttr]
    refine AW.ret ?_
    refine seqQ.ret ?_
    cases H
    exact hQ _ _ _ _ (.inr rfl) (by simp only [resVs, omap, resV, ↓wk, ↓wl, nq, evV, ↓reduceIte, sevalprocAttr]; rfl) (hand_k0 (by rfl) (by rfl)) (by first | exact Or.inl rfl | exact Or.inr rfl)
   ·try simp only [↓wk, ↓wl, nq, evV, ↓reduceIte, sevalprocAttr]
    refine AW.ifc H (by rfl) ?_ ?_ <;> clear H <;> intro H
    ·refine AW.rseq ?_
     try simp only [↓wk, ↓wl, nq, evV, ↓reduceIte, sevalprocAttr]
     refine AW.ret ?_
     refine seqQ.ret ?_
     cases H
     exact hQ _ _ _ _ (.inr rfl) (by simp only [resVs, omap, resV, ↓wk, ↓wl, nq, evV, ↓reduceIte, sevalprocAttr]; rfl) (hand_k0 (by rfl) (by rfl)) (by first | exact Or.inl rfl | exact Or.inr rfl)
    ·refine AW.skip ?_
     refine seqQ.norm ?_
     refine AW.rseq ?_
     try simp only [↓wk, ↓wl, nq, evV, ↓reduceIte, sevalprocAttr]
     refine AW.sseq ?_
     refine AW.rseq ?_
     try simp only [↓wk, ↓wl, nq, evV, ↓reduceIte, sevalprocAttr]
     refine AW.bend ?_
     refine AW.iter H ((Le.trans (Le.nilRow (i := 13) (e := 0) (by simp only [↓wk, ↓wl, nq, evV, ↓reduceIte, sevalprocAttr])) (Le.tz [0] [0, 1, 3, 4, 13, 35, 36] (by simp only [f38_39_L1c, rrm, ↓wk, ↓wl, evV, ↓reduceIte, sevalprocAttr] <;> rfl)))) ?_ <;> clear H
     rintro ⟨v_70, out_71⟩ x_ st0_ H hst_
     rw [f38_39_L1c] at hst_
     simp only [f38_39_L1] at H
     subst hst_
     refine AW.rseq ?_
     try simp only [↓wk, ↓wl, nq, evV, ↓reduceIte, sevalprocAttr]
     refine AW.sseq ?_
     refine AW.ifc H (by rfl) ?_ ?_ <;> clear H <;> intro H
     ·refine AW.skip ?_
      refine seqQ.norm ?_
      refine AW.bseq ?_
      refine AW.rseq ?_
      try simp only [↓wk, ↓wl, nq, evV, ↓reduceIte, sevalprocAttr]
      refine AW.rseq ?_
      try simp only [↓wk, ↓wl, nq, evV, ↓reduceIte, sevalprocAttr]
      refine AW.sseq ?_
      refine AW.rseq ?_
      try simp only [↓wk, ↓wl, nq, evV, ↓reduceIte, sevalprocAttr]
      refine AW.ifc H (by rfl) ?_ ?_ <;> clear H <;> intro H
      ·refine AW.rseq ?_
       try simp only [↓wk, ↓wl, nq, evV, ↓reduceIte, sevalprocAttr]
       refine evTs_pure hFn H (fun _ h => f39_ok h) (by rfl) (by rfl) (by rfl) (by rfl) (fun _ => rfl) ?_ <;> clear H <;> intro r_77 H
       try simp only [eL, ↓wk, ↓wl, nq, evV, ↓reduceIte, sevalprocAttr]
       refine AW.rseq ?_
       try simp only [↓wk, ↓wl, nq, evV, ↓reduceIte, sevalprocAttr]
       refine rest_quo H ?_ <;> clear H <;> intro H
       try simp only [↓wk, ↓wl, nq, evV, ↓reduceIte, sevalprocAttr]
       refine AW.rseq ?_
       try simp only [↓wk, ↓wl, nq, evV, ↓reduceIte, sevalprocAttr]
       refine rest_rem H ?_ <;> clear H <;> intro H
       try simp only [↓wk, ↓wl, nq, evV, ↓reduceIte, sevalprocAttr]
       refine AW.ifc H (by rfl) ?_ ?_ <;> clear H <;> intro H
       ·refine AW.rend ?_
        try simp only [↓wk, ↓wl, nq, evV, ↓reduceIte, sevalprocAttr]
        refine seqQ.norm ?_
        refine AW.rend ?_
        try simp only [↓wk, ↓wl, nq, evV, ↓reduceIte, sevalprocAttr]
        refine evTs_app (enc := (AV.int .i64)) H (by rfl) (by first | rfl | simp only [List.length_set]) (by rfl) (by rfl) ?_ <;> clear H <;> intro out_78 H
        try simp only [↓wk, ↓wl, nq, evV, ↓reduceIte, sevalprocAttr]
        refine blkQ.norm ?_
        refine AW.rend ?_
        try simp only [↓wk, ↓wl, nq, evV, ↓reduceIte, sevalprocAttr]
        exact loopQ.next H ((Le.tz [1] [0, 1, 3, 4, 13, 35, 36] (by simp only [f38_39_L1c, rrm, ↓wk, ↓wl, evV, ↓reduceIte, sevalprocAttr] <;> rfl)))
       ·refine AW.skip ?_
        refine seqQ.norm ?_
        refine AW.rend ?_
        try simp only [↓wk, ↓wl, nq, evV, ↓reduceIte, sevalprocAttr]
        refine evTs_app (enc := (AV.int .i64)) H (by rfl) (by first | rfl | simp only [List.length_set]) (by rfl) (by rfl) ?_ <;> clear H <;> intro out_79 H
        try simp only [↓wk, ↓wl, nq, evV, ↓reduceIte, sevalprocAttr]
        refine blkQ.norm ?_
        refine AW.rend ?_
        try simp only [↓wk, ↓wl, nq, evV, ↓reduceIte, sevalprocAttr]
        exact loopQ.next H ((Le.tz [1] [0, 1, 3, 4, 13, 35, 36] (by simp only [f38_39_L1c, rrm, ↓wk, ↓wl, evV, ↓reduceIte, sevalprocAttr] <;> rfl)))
      ·refine AW.skip ?_
       refine seqQ.norm ?_
       refine AW.rend ?_
       try simp only [↓wk, ↓wl, nq, evV, ↓reduceIte, sevalprocAttr]
       refine evTs_app (enc := (AV.int .i64)) H (by rfl) (by first | rfl | simp only [List.length_set]) (by rfl) (by rfl) ?_ <;> clear H <;> intro out_80 H
       try simp only [↓wk, ↓wl, nq, evV, ↓reduceIte, sevalprocAttr]
       refine blkQ.norm ?_
       refine AW.rend ?_
       try simp only [↓wk, ↓wl, nq, evV, ↓reduceIte, sevalprocAttr]
       exact loopQ.next H ((Le.tz [1] [0, 1, 3, 4, 13, 35, 36] (by simp only [f38_39_L1c, rrm, ↓wk, ↓wl, evV, ↓reduceIte, sevalprocAttr] <;> rfl)))
     ·refine AW.exit ?_
      refine seqQ.exit ?_
      refine loopQ.exit H ?_ <;> clear H <;> intro H
      try dsimp only at H
      refine blk0.here ?_
      refine seqQ.norm ?_
      refine AW.rseq ?_
      try simp only [↓wk, ↓wl, nq, evV, ↓reduceIte, sevalprocAttr]
      refine AW.ret ?_
      cases H
      exact hQ _ _ _ _ (.inr rfl) (by simp only [resVs, omap, resV, ↓wk, ↓wl, nq, evV, ↓reduceIte, sevalprocAttr]; rfl) (hand_k (by rfl) (by rfl) (by simp) (enc_all _) (by rfl)) (by first | exact Or.inl rfl | exact Or.inr rfl)
theorem f38_39_im {from_46 : Int} {to_47 : Int} {n_48 : Int} {whole_49 : Int} {r_ : (List Int) × Int} (H : f38_39 from_46 to_47 n_48 whole_49 = some r_) : Pure Try.prog 38 [.int .i64 from_46, .int .i64 to_47, .int .i64 n_48, .int .i64 whole_49, .fn 39 []] (· = .tup [.sl 0 false (r_.1.map (AV.int .i64)), .int .i64 r_.2]) := (f38_39_ok H).unfr (by first | exact enc_fits _ | simp only [frFits, List.all_cons, List.all_nil, enc_fits, Bool.and_self])
def c11_0 : C := .seq (.reg [iI 8 (.mv (.t 0)), iI 9 (.mv (.t 1)), iI 10 (.mv (.t 2)), iI 11 (.mv (.t 2)), iI 12 (.bin .sub (.t 11) (.c (.int .i64 1))), iI 13 (.call (.c (.fn 38 [])) [(.t 8), (.t 9), (.t 10), (.t 12), (.c (.fn 39 []))]), iI 14 (.ext (.t 13) 0), iI 15 (.ext (.t 13) 1), iI 6 (.mv (.t 14)), iI 7 (.mv (.t 15))]) .ret
def ir11 : C := .seq (.reg [iI 6 (.mv (.c (.sl 0 true []))), iI 7 (.mv (.c (.int .i64 0)))]) c11_0
theorem fd11 : fd? Try.prog 11 = some (16, [.slot 6, .slot 7], ir11) := by kernel_rfl
noncomputable def f11 (from_43 : Int) (to_44 : Int) (n_45 : Int) : Option ((List Int) × Int) :=
  (f38_39 from_43 to_44 n_45 (IntKind.i64.wrap (n_45 - 1))).bind fun r_81 => (some (r_81.1, r_81.2))
theorem f11_ok {from_43 : Int} {to_44 : Int} {n_45 : Int} {r_ : (List Int) × Int} (H : f11 from_43 to_44 n_45 = some r_) : Pure Try.prog 11 [.int .i64 from_43, .int .i64 to_44, .int .i64 n_45] (· = .tup [.fr 0 (r_.1.map (AV.int .i64)), .int .i64 r_.2]) := by
 refine Pure.walk3 fd11 (some 0) (Nat.le_of_ble_eq_true rfl) (by rfl) fun Q hQ => ?_
 simp only [f11] at H
 refine AW.rseq ?_
 try simp only [↓wk, ↓wl, nq, evV, ↓reduceIte, sevalprocAttr]
 refine AW.rseq ?_
 try simp only [↓wk, ↓wl, nq, evV, ↓reduceIte, sevalprocAttr]
 refine evTs_fr H (fun _ h => f38_39_ok h) (by rfl) (by rfl) (by rfl) (by rfl) (fun _ => rfl) ?_ <;> clear H <;> intro r_81 H
 try simp only [eL, ↓wk, ↓wl, nq, evV, ↓reduceIte, sevalprocAttr]
 refine AW.ret ?_
 cases H
 exact hQ _ _ _ _ (.inr rfl) (by simp only [resVs, omap, resV, ↓wk, ↓wl, nq, evV, ↓reduceIte, sevalprocAttr]; rfl) (hand_k (by rfl) (by rfl) (by simp) (enc_all _) (by rfl)) (by first | exact Or.inl rfl | exact Or.inr rfl)
theorem f11_im {from_43 : Int} {to_44 : Int} {n_45 : Int} {r_ : (List Int) × Int} (H : f11 from_43 to_44 n_45 = some r_) : Pure Try.prog 11 [.int .i64 from_43, .int .i64 to_44, .int .i64 n_45] (· = .tup [.sl 0 false (r_.1.map (AV.int .i64)), .int .i64 r_.2]) := (f11_ok H).unfr (by first | exact enc_fits _ | simp only [frFits, List.all_cons, List.all_nil, enc_fits, Bool.and_self])
def c40_0 : C := .cond (.t 28) (.seq (.reg [iI 6 (.mv (.c (.int .i64 2)))]) .ret) (.skip)
def c40_1 : C := .seq (.reg [iI 6 (.mv (.c (.int .i64 0)))]) .ret
def c40_2 : C := .seq (.seq (.reg [iI 7 (.mv (.t 0)), iI 8 (.bin .lss (.t 7) (.c (.int .i64 0))), iI 9 (.mv (.t 8)), iG (some 10) 9 false (.mv (.t 0)), iG (some 11) 9 false (.bin .gtr (.t 10) (.c (.int .i64 65535))), iI 12 (.pick (.t 9) (.c (.bool true)) (.t 11)), iI 13 (.mv (.t 12)), iG (some 14) 13 false (.mv (.t 1)), iG (some 15) 13 false (.bin .lss (.t 14) (.c (.int .i64 0))), iI 16 (.pick (.t 13) (.c (.bool true)) (.t 15)), iI 17 (.mv (.t 16)), iG (some 18) 17 false (.mv (.t 1)), iG (some 19) 17 false (.bin .gtr (.t 18) (.c (.int .i64 65535))), iI 20 (.pick (.t 17) (.c (.bool true)) (.t 19)), iI 21 (.mv (.t 20)), iG (some 22) 21 false (.mv (.t 2)), iG (some 23) 21 false (.bin .lss (.t 22) (.c (.int .i64 0))), iI 24 (.pick (.t 21) (.c (.bool true)) (.t 23)), iI 25 (.mv (.t 24)), iG (some 26) 25 false (.mv (.t 2)), iG (some 27) 25 false (.bin .gtr (.t 26) (.c (.int .i64 256))), iI 28 (.pick (.t 25) (.c (.bool true)) (.t 27))]) c40_0) c40_1
def ir40 : C := .seq (.reg [iI 6 (.mv (.c (.int .i64 0)))]) c40_2
theorem fd40 : fd? Try.prog 40 = some (29, [.slot 6], ir40) := by kernel_rfl
noncomputable def f40 (from_86 : Int) (to_87 : Int) (n_88 : Int) : Option (Int) :=
  (if (decide (from_86 < 0)) = true then (some 2) else (if (decide (65535 < from_86)) = true then (some 2) else (if (decide (to_87 < 0)) = true then (some 2) else (if (decide (65535 < to_87)) = true then (some 2) else (if (decide (n_88 < 0)) = true then (some 2) else (if (decide (256 < n_88)) = true then (some 2) else (some 0)))))))
theorem f40_ok {from_86 : Int} {to_87 : Int} {n_88 : Int} {r_ : Int} (H : f40 from_86 to_87 n_88 = some r_) : Pure Try.prog 40 [.int .i64 from_86, .int .i64 to_87, .int .i64 n_88] (· = .int .i64 r_) := by
 refine Pure.walk3 fd40 none (Nat.le_of_ble_eq_true rfl) (by rfl) fun Q hQ => ?_
 simp only [f40] at H
 refine AW.rseq ?_
 try simp only [↓wk, ↓wl, nq, evV, ↓reduceIte, sevalprocAttr]
 refine AW.sseq ?_
 refine AW.rseq ?_
 try simp only [↓wk, ↓wl, nq, evV, ↓reduceIte, sevalprocAttr]
 refine evTs_ifg H (by rfl) ?_ ?_ <;> clear H <;> intro H
 ·try simp only [↓wk, ↓wl, nq, evV, ↓reduceIte, sevalprocAttr]
  refine AW.ift (by rfl) ?_
  refine AW.rseq ?_
  try simp only [↓wk, ↓wl, nq, evV, ↓reduceIte, sevalprocAttr]
  refine AW.ret ?_
  refine seqQ.ret ?_
  cases H
  exact hQ.fin
 ·try simp only [↓wk, ↓wl, nq, evV, ↓reduceIte, sevalprocAttr]
  refine evTs_ifg H (by rfl) ?_ ?_ <;> clear H <;> intro H
  ·try simp only [↓wk, ↓wl, nq, evV, ↓reduceIte, sevalprocAttr]
   refine AW.ift (by rfl) ?_
   refine AW.rseq ?_
   try simp only [↓wk, ↓wl, nq, evV, ↓reduceIte, sevalprocAttr]
   refine AW.ret ?_
   refine seqQ.ret ?_
   cases H
   exact hQ.fin
  ·try simp only [↓wk, ↓wl, nq, evV, ↓reduceIte, sevalprocAttr]
   refine evTs_ifg H (by rfl) ?_ ?_ <;> clear H <;> intro H
   ·try simp only [↓wk, ↓wl, nq, evV, ↓reduceIte, sevalprocAttr]
    refine AW.ift (by rfl) ?_
    refine AW.rseq ?_
    try simp only [↓wk, ↓wl, nq, evV, ↓reduceIte, sevalprocAttr]
    refine AW.ret ?_
    refine seqQ.ret ?_
    cases H
    exact hQ.fin
   ·try simp only [↓wk, ↓wl, nq, evV, ↓reduceIte, sevalprocAttr]
    refine evTs_ifg H (by rfl) ?_ ?_ <;> clear H <;> intro H
    ·try simp only [↓wk, ↓wl, nq, evV, ↓reduceIte, sevalprocAttr]
     refine AW.ift (by rfl) ?_
     refine AW.rseq ?_
     try simp only [↓wk, ↓wl, nq, evV, ↓reduceIte, sevalprocAttr]
     refine AW.ret ?_
     refine seqQ.ret ?_
     cases H
     exact hQ.fin
    ·try simp only [↓wk, ↓wl, nq, evV, ↓reduceIte, sevalprocAttr]
     refine evTs_ifg H (by rfl) ?_ ?_ <;> clear H <;> intro H
     ·try simp only [↓wk, ↓wl, nq, evV, ↓reduceIte, sevalprocAttr]
      refine AW.ift (by rfl) ?_
      refine AW.rseq ?_
      try simp only [↓wk, ↓wl, nq, evV, ↓reduceIte, sevalprocAttr]
      refine AW.ret ?_
      refine seqQ.ret ?_
      cases H
      exact hQ.fin
     ·try simp only [↓wk, ↓wl, nq, evV, ↓reduceIte, sevalprocAttr]
      refine AW.ifc H (by rfl) ?_ ?_ <;> clear H <;> intro H
      ·refine AW.rseq ?_
       try simp only [↓wk, ↓wl, nq, evV, ↓reduceIte, sevalprocAttr]
       refine AW.ret ?_
       refine seqQ.ret ?_
       cases H
       exact hQ.fin
      ·refine AW.skip ?_
       refine seqQ.norm ?_
       refine AW.rseq ?_
       try simp only [↓wk, ↓wl, nq, evV, ↓reduceIte, sevalprocAttr]
       refine AW.ret ?_
       cases H
       exact hQ.fin
def c41_0 : C := .cond (.t 10) (.seq (.reg [iI 11 (.mv (.t 0)), iI 8 (.mv (.t 11))]) .ret) (.skip)
def c41_1 : C := .seq (.reg [iI 12 (.mv (.t 0)), iI 13 (.mv (.t 3)), iI 14 (.bin .mul (.t 12) (.t 13)), iI 15 (.mv (.t 1)), iI 16 (.mv (.t 0)), iI 17 (.bin .sub (.t 15) (.t 16)), iI 18 (.mv (.t 2)), iI 19 (.bin .mul (.t 17) (.t 18)), iI 20 (.bin .add (.t 14) (.t 19)), iI 21 (.bin .mul (.c (.int .i64 2)) (.t 20)), iI 22 (.mv (.t 3)), iI 23 (.bin .add (.t 21) (.t 22)), iI 24 (.mv (.t 3)), iI 25 (.bin .mul (.c (.int .i64 2)) (.t 24)), iI 26 (.bin .quo (.t 23) (.t 25)), iI 8 (.mv (.t 26))]) .ret
def c41_2 : C := .seq (.seq (.reg [iI 9 (.mv (.t 3)), iI 10 (.bin .eql (.t 9) (.c (.int .i64 0)))]) c41_0) c41_1
def ir41 : C := .seq (.reg [iI 8 (.mv (.c (.int .i64 0)))]) c41_2
theorem fd41 : fd? Try.prog 41 = some (27, [.slot 8], ir41) := by kernel_rfl
noncomputable def f41 (a_91 : Int) (b_92 : Int) (part_93 : Int) (whole_94 : Int) : Option (Int) :=
  (if (decide (whole_94 = 0)) = true then (some a_91) else (nz? (IntKind.i64.wrap (2 * whole_94))).bind fun _ => (some (IntKind.i64.wrap ((IntKind.i64.wrap ((IntKind.i64.wrap (2 * (IntKind.i64.wrap ((IntKind.i64.wrap (a_91 * whole_94)) + (IntKind.i64.wrap ((IntKind.i64.wrap (b_92 - a_91)) * part_93)))))) + whole_94)).tdiv (IntKind.i64.wrap (2 * whole_94))))))
theorem f41_ok {a_91 : Int} {b_92 : Int} {part_93 : Int} {whole_94 : Int} {r_ : Int} (H : f41 a_91 b_92 part_93 whole_94 = some r_) : Pure Try.prog 41 [.int .i64 a_91, .int .i64 b_92, .int .i64 part_93, .int .i64 whole_94] (· = .int .i64 r_) := by
 refine Pure.walk3 fd41 none (Nat.le_of_ble_eq_true rfl) (by rfl) fun Q hQ => ?_
 simp only [f41] at H
 refine AW.rseq ?_
 try simp only [↓wk, ↓wl, nq, evV, ↓reduceIte, sevalprocAttr]
 refine AW.sseq ?_
 refine AW.rseq ?_
 try simp only [↓wk, ↓wl, nq, evV, ↓reduceIte, sevalprocAttr]
 refine AW.ifc H (by rfl) ?_ ?_ <;> clear H <;> intro H
 ·refine AW.rseq ?_
  try simp only [↓wk, ↓wl, nq, evV, ↓reduceIte, sevalprocAttr]
  refine AW.ret ?_
  refine seqQ.ret ?_
  cases H
  exact hQ.fin
 ·refine AW.skip ?_
  refine seqQ.norm ?_
  refine AW.rseq ?_
  try simp only [↓wk, ↓wl, nq, evV, ↓reduceIte, sevalprocAttr]
  refine rest_quo H ?_ <;> clear H <;> intro H
  try simp only [↓wk, ↓wl, nq, evV, ↓reduceIte, sevalprocAttr]
  refine AW.ret ?_
  cases H
  exact hQ.fin
noncomputable def f12_L1 (n_85 : Int) (from_83 : Int) (to_84 : Int) : Lp (Int × (List Int)) ((List Int)) where
  body := fun (i_103, out_104) => (if (decide (i_103 < n_85)) = true then (f41 from_83 to_84 i_103 (IntKind.i64.wrap (n_85 - 1))).bind fun r_108 => (app? 8 out_104 ([r_108])).bind fun out_109 => (some (.next ((IntKind.i64.wrap (i_103 + 1)), out_109))) else (some (.brk out_104)))
  cst := fun (i_103, out_104) => ⟨put (put (put (put (put (fun _ => .junk) 10 (.int .i64 i_103)) 9 (.row 0 0 0 out_104.length)) 2 (.int .i64 n_85)) 1 (.int .i64 to_84)) 0 (.int .i64 from_83), [.els 0 (out_104.map (AV.int .i64))]⟩
theorem f12_L1c (n_85 : Int) (from_83 : Int) (to_84 : Int) (i_103 : Int) (out_104 : (List Int)) : (f12_L1 n_85 from_83 to_84).cst (i_103, out_104) = ⟨put (put (put (put (put (fun _ => .junk) 10 (.int .i64 i_103)) 9 (.row 0 0 0 out_104.length)) 2 (.int .i64 n_85)) 1 (.int .i64 to_84)) 0 (.int .i64 from_83), [.els 0 (out_104.map (AV.int .i64))]⟩ := rfl
def c12_0 : C := .cond (.t 16) (.seq (.reg [iI 17 (.mv (.t 8)), iI 6 (.mv (.c (.sl 0 true []))), iI 7 (.mv (.t 17))]) .ret) (.skip)
def c12_1 : C := .seq (.reg [iI 15 (.mv (.t 8)), iI 16 (.bin .neq (.t 15) (.c (.int .i64 0)))]) c12_0
def c12_2 : C := .cond (.t 20) (.skip) (.exit 0)
def c12_3 : C := .reg [iI 21 (.mv (.t 10)), iI 22 (.bin .add (.t 21) (.c (.int .i64 1))), iI 10 (.mv (.t 22))]
def c12_4 : C := .seq (.block 1 (.reg [iI 23 (.mv (.t 9)), iI 24 (.mv (.t 0)), iI 25 (.mv (.t 1)), iI 26 (.mv (.t 10)), iI 27 (.mv (.t 2)), iI 28 (.bin .sub (.t 27) (.c (.int .i64 1))), iI 29 (.call (.c (.fn 41 [])) [(.t 24), (.t 25), (.t 26), (.t 28)]), iI 30 (.mkslp 0 1 (.int .i64 0) [(0, (.t 29))]), iI 31 (.append 0 8 (.t 23) (.t 30)), iI 9 (.mv (.t 31))])) c12_3
def c12_5 : C := .block 0 (.loop (.seq (.seq (.reg [iI 18 (.mv (.t 10)), iI 19 (.mv (.t 2)), iI 20 (.bin .lss (.t 18) (.t 19))]) c12_2) c12_4))
def c12_6 : C := .seq (.reg [iI 32 (.mv (.t 9)), iI 6 (.mv (.t 32)), iI 7 (.mv (.c (.int .i64 0)))]) .ret
def c12_7 : C := .seq (.seq (.reg [iI 10 (.mv (.c (.int .i64 0)))]) c12_5) c12_6
def c12_8 : C := .seq (.reg [iI 9 (.mv (.c (.sl 0 true [])))]) c12_7
def c12_9 : C := .seq (.seq (.reg [iI 11 (.mv (.t 0)), iI 12 (.mv (.t 1)), iI 13 (.mv (.t 2)), iI 14 (.call (.c (.fn 40 [])) [(.t 11), (.t 12), (.t 13)]), iI 8 (.mv (.t 14))]) c12_1) c12_8
def ir12 : C := .seq (.reg [iI 6 (.mv (.c (.sl 0 true []))), iI 7 (.mv (.c (.int .i64 0)))]) c12_9
theorem fd12 : fd? Try.prog 12 = some (33, [.slot 6, .slot 7], ir12) := by kernel_rfl
noncomputable def f12 (from_83 : Int) (to_84 : Int) (n_85 : Int) : Option ((List Int) × Int) :=
  (f40 from_83 to_84 n_85).bind fun r_90 => (if (decide (r_90 ≠ 0)) = true then (some ([], r_90)) else (Lp.run (f12_L1 n_85 from_83 to_84) (0, [])).bind fun out_107 => (some (out_107, 0)))
theorem f12_ok {from_83 : Int} {to_84 : Int} {n_85 : Int} {r_ : (List Int) × Int} (H : f12 from_83 to_84 n_85 = some r_) : Pure Try.prog 12 [.int .i64 from_83, .int .i64 to_84, .int .i64 n_85] (· = .tup [.fr 0 (r_.1.map (AV.int .i64)), .int .i64 r_.2]) := by
 refine Pure.walk3 fd12 (some 0) (Nat.le_of_ble_eq_true rfl) (by rfl) fun Q hQ => ?_
 simp only [f12] at H
 refine AW.rseq ?_
 try simp only [↓wk, ↓wl, nq, evV, ↓reduceIte, sevalprocAttr]
 refine AW.sseq ?_
 refine AW.rseq ?_
 try simp only [↓wk, ↓wl, nq, evV, ↓reduceIte, sevalprocAttr]
 refine evTs_pure hFn H (fun _ h => f40_ok h) (by rfl) (by rfl) (by rfl) (by rfl) (fun _ => rfl) ?_ <;> clear H <;> intro r_90 H
 try simp only [eL, ↓wk, ↓wl, nq, evV, ↓reduceIte, sevalprocAttr]
 refine AW.rseq ?_
 try simp only [↓wk, ↓wl, nq, evV, ↓reduceIte, sevalprocAttr]
 refine AW.ifc H (by rfl) ?_ ?_ <;> clear H <;> intro H
 ·refine AW.rseq ?_
  try simp only [↓wk, ↓wl, nq, evV, ↓reduceIte, sevalprocAttr]
  refine AW.ret ?_
  refine seqQ.ret ?_
  cases H
  exact hQ _ _ _ _ (.inr rfl) (by simp only [resVs, omap, resV, ↓wk, ↓wl, nq, evV, ↓reduceIte, sevalprocAttr]; rfl) (hand_k0 (by rfl) (by rfl)) (by first | exact Or.inl rfl | exact Or.inr rfl)
 ·refine AW.skip ?_
  refine seqQ.norm ?_
  refine AW.rseq ?_
  try simp only [↓wk, ↓wl, nq, evV, ↓reduceIte, sevalprocAttr]
  refine AW.sseq ?_
  refine AW.rseq ?_
  try simp only [↓wk, ↓wl, nq, evV, ↓reduceIte, sevalprocAttr]
  refine AW.bend ?_
  refine AW.iter H ((Le.trans (Le.nilRow (i := 9) (e := 0) (by simp only [↓wk, ↓wl, nq, evV, ↓reduceIte, sevalprocAttr])) (Le.tz [0] [0, 1, 2, 9, 10] (by simp only [f12_L1c, rrm, ↓wk, ↓wl, evV, ↓reduceIte, sevalprocAttr] <;> rfl)))) ?_ <;> clear H
  rintro ⟨i_103, out_104⟩ x_ st0_ H hst_
  rw [f12_L1c] at hst_
  simp only [f12_L1] at H
  subst hst_
  refine AW.sseq ?_
  refine AW.rseq ?_
  try simp only [↓wk, ↓wl, nq, evV, ↓reduceIte, sevalprocAttr]
  refine AW.ifc H (by rfl) ?_ ?_ <;> clear H <;> intro H
  ·refine AW.skip ?_
   refine seqQ.norm ?_
   refine AW.bseq ?_
   refine AW.rend ?_
   try simp only [↓wk, ↓wl, nq, evV, ↓reduceIte, sevalprocAttr]
   refine evTs_pure hFn H (fun _ h => f41_ok h) (by rfl) (by rfl) (by rfl) (by rfl) (fun _ => rfl) ?_ <;> clear H <;> intro r_108 H
   try simp only [eL, ↓wk, ↓wl, nq, evV, ↓reduceIte, sevalprocAttr]
   refine evTs_app (enc := (AV.int .i64)) H (by rfl) (by first | rfl | simp only [List.length_set]) (by rfl) (by rfl) ?_ <;> clear H <;> intro out_109 H
   try simp only [↓wk, ↓wl, nq, evV, ↓reduceIte, sevalprocAttr]
   refine blkQ.norm ?_
   refine AW.rend ?_
   try simp only [↓wk, ↓wl, nq, evV, ↓reduceIte, sevalprocAttr]
   exact loopQ.next H ((Le.tz [1] [0, 1, 2, 9, 10] (by simp only [f12_L1c, rrm, ↓wk, ↓wl, evV, ↓reduceIte, sevalprocAttr] <;> rfl)))
  ·refine AW.exit ?_
   refine seqQ.exit ?_
   refine loopQ.exit H ?_ <;> clear H <;> intro H
   try dsimp only at H
   refine blk0.here ?_
   refine seqQ.norm ?_
   refine AW.rseq ?_
   try simp only [↓wk, ↓wl, nq, evV, ↓reduceIte, sevalprocAttr]
   refine AW.ret ?_
   cases H
   exact hQ _ _ _ _ (.inr rfl) (by simp only [resVs, omap, resV, ↓wk, ↓wl, nq, evV, ↓reduceIte, sevalprocAttr]; rfl) (hand_k (by rfl) (by rfl) (by simp) (enc_all _) (by rfl)) (by first | exact Or.inl rfl | exact Or.inr rfl)
theorem f12_im {from_83 : Int} {to_84 : Int} {n_85 : Int} {r_ : (List Int) × Int} (H : f12 from_83 to_84 n_85 = some r_) : Pure Try.prog 12 [.int .i64 from_83, .int .i64 to_84, .int .i64 n_85] (· = .tup [.sl 0 false (r_.1.map (AV.int .i64)), .int .i64 r_.2]) := (f12_ok H).unfr (by first | exact enc_fits _ | simp only [frFits, List.all_cons, List.all_nil, enc_fits, Bool.and_self])
def c42_0 : C := .seq (.reg [iI 5 (.mv (.t 0)), iI 6 (.bin .mul (.c (.int .i64 2)) (.t 5)), iI 7 (.load 0 (.t 1)), iI 8 (.bin .sub (.t 7) (.c (.int .i64 1))), iI 9 (.bin .sub (.t 6) (.t 8)), iI 10 (.load 0 (.t 1)), iI 11 (.bin .sub (.t 10) (.c (.int .i64 1))), iI 12 (.mv (.t 0)), iI 13 (.bin .mul (.c (.int .i64 2)) (.t 12)), iI 14 (.bin .sub (.t 11) (.t 13)), iI 15 (.maxmin true (.t 9) [(.t 14)]), iI 16 (.load 0 (.t 2)), iI 17 (.bin .sub (.t 15) (.t 16)), iI 4 (.mv (.t 17))]) .ret
def ir42 : C := .seq (.reg [iI 4 (.mv (.c (.int .i64 0)))]) c42_0
theorem fd42 : fd? Try.prog 42 = some (18, [.slot 4], ir42) := by kernel_rfl
noncomputable def f42p (i_124 : Int) (c_125 : Int) (c_126 : Int) : Option (Int) :=
  (some (IntKind.i64.wrap ((if (IntKind.i64.wrap ((IntKind.i64.wrap (c_125 - 1)) - (IntKind.i64.wrap (2 * i_124)))) > (IntKind.i64.wrap ((IntKind.i64.wrap (2 * i_124)) - (IntKind.i64.wrap (c_125 - 1)))) then (IntKind.i64.wrap ((IntKind.i64.wrap (c_125 - 1)) - (IntKind.i64.wrap (2 * i_124)))) else (IntKind.i64.wrap ((IntKind.i64.wrap (2 * i_124)) - (IntKind.i64.wrap (c_125 - 1))))) - c_126)))
theorem f42p_ok {i_124 : Int} {c_125 : Int} {c_126 : Int} {r_ : Int} (H : f42p i_124 c_125 c_126 = some r_) : Pure Try.prog 42 [.int .i64 i_124, .pro [.int .i64 c_125], .pro [.int .i64 c_126]] (· = .int .i64 r_) := by
 refine Pure.walk3 fd42 none (Nat.le_of_ble_eq_true rfl) (by rfl) fun Q hQ => ?_
 simp only [f42p] at H
 refine AW.rseq ?_
 try simp only [↓wk, ↓wl, nq, evV, ↓reduceIte, sevalprocAttr]
 refine AW.rseq ?_
 try simp only [↓wk, ↓wl, nq, evV, ↓reduceIte, sevalprocAttr]
 refine AW.ret ?_
 cases H
 exact hQ.fin
noncomputable def f38_42_L1 (n_116 : Int) (whole_117 : Int) (part_118 : Int) (part_119 : Int) (to_115 : Int) (from_114 : Int) : Lp (Int × (List Int)) ((List Int)) where
  body := fun (v_141, out_142) => (if (decide (v_141 < n_116)) = true then (if (decide (0 < whole_117)) = true then (f42p v_141 part_118 part_119).bind fun r_148 => (nz? (IntKind.i64.wrap (2 * whole_117))).bind fun _ => (nz? (IntKind.i64.wrap (2 * whole_117))).bind fun _ => (if (decide (((IntKind.i64.wrap ((IntKind.i64.wrap ((IntKind.i64.wrap (2 * (IntKind.i64.wrap (to_115 - from_114)))) * r_148)) + whole_117)).tmod (IntKind.i64.wrap (2 * whole_117))) < 0)) = true then (app? 8 out_142 ([(IntKind.i64.wrap ((IntKind.i64.wrap (from_114 + (IntKind.i64.wrap ((IntKind.i64.wrap ((IntKind.i64.wrap ((IntKind.i64.wrap (2 * (IntKind.i64.wrap (to_115 - from_114)))) * r_148)) + whole_117)).tdiv (IntKind.i64.wrap (2 * whole_117)))))) - 1))])).bind fun out_149 => (some (.next ((IntKind.i64.wrap (v_141 + 1)), out_149))) else (app? 8 out_142 ([(IntKind.i64.wrap (from_114 + (IntKind.i64.wrap ((IntKind.i64.wrap ((IntKind.i64.wrap ((IntKind.i64.wrap (2 * (IntKind.i64.wrap (to_115 - from_114)))) * r_148)) + whole_117)).tdiv (IntKind.i64.wrap (2 * whole_117))))))])).bind fun out_150 => (some (.next ((IntKind.i64.wrap (v_141 + 1)), out_150)))) else (app? 8 out_142 ([from_114])).bind fun out_151 => (some (.next ((IntKind.i64.wrap (v_141 + 1)), out_151)))) else (some (.brk out_142)))
  cst := fun (v_141, out_142) => ⟨put (put (put (put (put (put (put (fun _ => .junk) 36 (.int .i64 v_141)) 35 (.int .i64 n_116)) 13 (.row 0 0 0 out_142.length)) 4 (.fn 42 [.pro [.int .i64 part_118], .pro [.int .i64 part_119]])) 3 (.int .i64 whole_117)) 1 (.int .i64 to_115)) 0 (.int .i64 from_114), [.els 0 (out_142.map (AV.int .i64))]⟩
theorem f38_42_L1c (n_116 : Int) (whole_117 : Int) (part_118 : Int) (part_119 : Int) (to_115 : Int) (from_114 : Int) (v_141 : Int) (out_142 : (List Int)) : (f38_42_L1 n_116 whole_117 part_118 part_119 to_115 from_114).cst (v_141, out_142) = ⟨put (put (put (put (put (put (put (fun _ => .junk) 36 (.int .i64 v_141)) 35 (.int .i64 n_116)) 13 (.row 0 0 0 out_142.length)) 4 (.fn 42 [.pro [.int .i64 part_118], .pro [.int .i64 part_119]])) 3 (.int .i64 whole_117)) 1 (.int .i64 to_115)) 0 (.int .i64 from_114), [.els 0 (out_142.map (AV.int .i64))]⟩ := rfl
noncomputable def f38_42 (from_114 : Int) (to_115 : Int) (n_116 : Int) (whole_117 : Int) (part_118 : Int) (part_119 : Int) : Option ((List Int) × Int) :=
  (f60 from_114).bind fun r_122 => (if (!r_122) = true then (some ([], 2)) else (f60 to_115).bind fun r_123 => (if (!r_123) = true then (some ([], 2)) else (if (decide (n_116 < 0)) = true then (some ([], 2)) else (if (decide (256 < n_116)) = true then (some ([], 2)) else (Lp.run (f38_42_L1 n_116 whole_117 part_118 part_119 to_115 from_114) (0, [])).bind fun out_147 => (some (out_147, 0))))))
theorem f38_42_ok {from_114 : Int} {to_115 : Int} {n_116 : Int} {whole_117 : Int} {part_118 : Int} {part_119 : Int} {r_ : (List Int) × Int} (H : f38_42 from_114 to_115 n_116 whole_117 part_118 part_119 = some r_) : Pure Try.prog 38 [.int .i64 from_114, .int .i64 to_115, .int .i64 n_116, .int .i64 whole_117, .fn 42 [.pro [.int .i64 part_118], .pro [.int .i64 part_119]]] (· = .tup [.fr 0 (r_.1.map (AV.int .i64)), .int .i64 r_.2]) := by
 refine Pure.walk3 fd38 (some 0) (Nat.le_of_ble_eq_true rfl) (by rfl) fun Q hQ => ?_
 simp only [f38_42] at H
 refine AW.rseq ?_
 try simp only [↓wk, ↓wl, nq, evV, ↓reduceIte, sevalprocAttr]
 refine AW.rseq ?_
 try simp only [↓wk, ↓wl, nq, evV, ↓reduceIte, sevalprocAttr]
 refine AW.sseq ?_
 refine AW.rseq ?_
 try simp only [↓wk, ↓wl, nq, evV, ↓reduceIte, sevalprocAttr]
 refine evTs_pure hFn H (fun _ h => f60_ok h) (by rfl) (by rfl) (by rfl) (by rfl) (fun _ => rfl) ?_ <;> clear H <;> intro r_122 H
 try simp only [eL, ↓wk, ↓wl, nq, evV, ↓reduceIte, sevalprocAttr]
 refine evTs_ifg H (by rfl) ?_ ?_ <;> clear H <;> intro H
 ·try simp only [↓wk, ↓wl, nq, evV, ↓reduceIte, sevalprocAttr]
  refine AW.ift (by rfl) ?_
  refine AW.rseq ?_
  try simp only [↓wk, ↓wl, nq, evV, ↓reduceIte, sevalprocAttr]
  refine AW.ret ?_
  refine seqQ.ret ?_
  cases H
  exact hQ _ _ _ _ (.inr rfl) (by simp only [resVs, omap, resV, ↓wk, ↓wl, nq, evV, ↓reduceIte, sevalprocAttr]; rfl) (hand_k0 (by rfl) (by rfl)) (by first | exact Or.inl rfl | exact Or.inr rfl)
 ·try simp only [↓wk, ↓wl, nq, evV, ↓reduceIte, sevalprocAttr]
  refine evTs_pure hFn H (fun _ h => f60_ok h) (by rfl) (by rfl) (by rfl) (by rfl) (fun _ => rfl) ?_ <;> clear H <;> intro r_123 H
  try simp only [eL, ↓wk, ↓wl, nq, evV, ↓reduceIte, sevalprocAttr]
  refine evTs_ifg H (by rfl) ?_ ?_ <;> clear H <;> intro H
  ·try simp only [↓wk, ↓wl, nq, evV, ↓reduceIte, sevalprocAttr]
   refine AW.ift (by rfl) ?_
   refine AW.rseq ?_
   try simp only [↓wk, ↓wl, nq, evV, ↓reduceIte, sevalprocAttr]
   refine AW.ret ?_
   refine seqQ.ret ?_
   cases H
   exact hQ _ _ _ _ (.inr rfl) (by simp only [resVs, omap, resV, ↓wk, ↓wl, nq, evV, ↓reduceIte, sevalprocAttr]; rfl) (hand_k0 (by rfl) (by rfl)) (by first | exact Or.inl rfl | exact Or.inr rfl)
  ·try simp only [↓wk, ↓wl, nq, evV, ↓reduceIte, sevalprocAttr]
   refine evTs_ifg H (by rfl) ?_ ?_ <;> clear H <;> intro H
   ·try simp only [↓wk, ↓wl, nq, evV, ↓reduceIte, sevalprocAttr]
    refine AW.ift (by rfl) ?_
    refine AW.rseq ?_
    try simp only [↓wk, ↓wl, nq, evV, ↓reduceIte, sevalprocAttr]
    refine AW.ret ?_
    refine seqQ.ret ?_
    cases H
    exact hQ _ _ _ _ (.inr rfl) (by simp only [resVs, omap, resV, ↓wk, ↓wl, nq, evV, ↓reduceIte, sevalprocAttr]; rfl) (hand_k0 (by rfl) (by rfl)) (by first | exact Or.inl rfl | exact Or.inr rfl)
   ·try simp only [↓wk, ↓wl, nq, evV, ↓reduceIte, sevalprocAttr]
    refine AW.ifc H (by rfl) ?_ ?_ <;> clear H <;> intro H
    ·refine AW.rseq ?_
     try simp only [↓wk, ↓wl, nq, evV, ↓reduceIte, sevalprocAttr]
     refine AW.ret ?_
     refine seqQ.ret ?_
     cases H
     exact hQ _ _ _ _ (.inr rfl) (by simp only [resVs, omap, resV, ↓wk, ↓wl, nq, evV, ↓reduceIte, sevalprocAttr]; rfl) (hand_k0 (by rfl) (by rfl)) (by first | exact Or.inl rfl | exact Or.inr rfl)
    ·refine AW.skip ?_
     refine seqQ.norm ?_
     refine AW.rseq ?_
     try simp only [↓wk, ↓wl, nq, evV, ↓reduceIte, sevalprocAttr]
     refine AW.sseq ?_
     refine AW.rseq ?_
     try simp only [↓wk, ↓wl, nq, evV, ↓reduceIte, sevalprocAttr]
     refine AW.bend ?_
     refine AW.iter H ((Le.trans (Le.nilRow (i := 13) (e := 0) (by simp only [↓wk, ↓wl, nq, evV, ↓reduceIte, sevalprocAttr])) (Le.tz [0] [0, 1, 3, 4, 13, 35, 36] (by simp only [f38_42_L1c, rrm, ↓wk, ↓wl, evV, ↓reduceIte, sevalprocAttr] <;> rfl)))) ?_ <;> clear H
     rintro ⟨v_141, out_142⟩ x_ st0_ H hst_
     rw [f38_42_L1c] at hst_
     simp only [f38_42_L1] at H
     subst hst_
     refine AW.rseq ?_
     try simp only [↓wk, ↓wl, nq, evV, ↓reduceIte, sevalprocAttr]
     refine AW.sseq ?_
     refine AW.ifc H (by rfl) ?_ ?_ <;> clear H <;> intro H
     ·refine AW.skip ?_
      refine seqQ.norm ?_
      refine AW.bseq ?_
      refine AW.rseq ?_
      try simp only [↓wk, ↓wl, nq, evV, ↓reduceIte, sevalprocAttr]
      refine AW.rseq ?_
      try simp only [↓wk, ↓wl, nq, evV, ↓reduceIte, sevalprocAttr]
      refine AW.sseq ?_
      refine AW.rseq ?_
      try simp only [↓wk, ↓wl, nq, evV, ↓reduceIte, sevalprocAttr]
      refine AW.ifc H (by rfl) ?_ ?_ <;> clear H <;> intro H
      ·refine AW.rseq ?_
       try simp only [↓wk, ↓wl, nq, evV, ↓reduceIte, sevalprocAttr]
       refine evTs_pure hFn H (fun _ h => f42p_ok h) (by rfl) (by rfl) (by rfl) (by rfl) (fun _ => rfl) ?_ <;> clear H <;> intro r_148 H
       try simp only [eL, ↓wk, ↓wl, nq, evV, ↓reduceIte, sevalprocAttr]
       refine AW.rseq ?_
       try simp only [↓wk, ↓wl, nq, evV, ↓reduceIte, sevalprocAttr]
       refine rest_quo H ?_ <;> clear H <;> intro H
       try simp only [↓wk, ↓wl, nq, evV, ↓reduceIte, sevalprocAttr]
       refine AW.rseq ?_
       try simp only [↓wk, ↓wl, nq, evV, ↓reduceIte, sevalprocAttr]
       refine rest_rem H ?_ <;> clear H <;> intro H
       try simp only [↓wk, ↓wl, nq, evV, ↓reduceIte, sevalprocAttr]
       refine AW.ifc H (by rfl) ?_ ?_ <;> clear H <;> intro H
       ·refine AW.rend ?_
        try simp only [↓wk, ↓wl, nq, evV, ↓reduceIte, sevalprocAttr]
        refine seqQ.norm ?_
        refine AW.rend ?_
        try simp only [↓wk, ↓wl, nq, evV, ↓reduceIte, sevalprocAttr]
        refine evTs_app (enc := (AV.int .i64)) H (by rfl) (by first | rfl | simp only [List.length_set]) (by rfl) (by rfl) ?_ <;> clear H <;> intro out_149 H
        try simp only [↓wk, ↓wl, nq, evV, ↓reduceIte, sevalprocAttr]
        refine blkQ.norm ?_
        refine AW.rend ?_
        try simp only [↓wk, ↓wl, nq, evV, ↓reduceIte, sevalprocAttr]
        exact loopQ.next H ((Le.tz [1] [0, 1, 3, 4, 13, 35, 36] (by simp only [f38_42_L1c, rrm, ↓wk, ↓wl, evV, ↓reduceIte, sevalprocAttr] <;> rfl)))
       ·refine AW.skip ?_
        refine seqQ.norm ?_
        refine AW.rend ?_
        try simp only [↓wk, ↓wl, nq, evV, ↓reduceIte, sevalprocAttr]
        refine evTs_app (enc := (AV.int .i64)) H (by rfl) (by first | rfl | simp only [List.length_set]) (by rfl) (by rfl) ?_ <;> clear H <;> intro out_150 H
        try simp only [↓wk, ↓wl, nq, evV, ↓reduceIte, sevalprocAttr]
        refine blkQ.norm ?_
        refine AW.rend ?_
        try simp only [↓wk, ↓wl, nq, evV, ↓reduceIte, sevalprocAttr]
        exact loopQ.next H ((Le.tz [1] [0, 1, 3, 4, 13, 35, 36] (by simp only [f38_42_L1c, rrm, ↓wk, ↓wl, evV, ↓reduceIte, sevalprocAttr] <;> rfl)))
      ·refine AW.skip ?_
       refine seqQ.norm ?_
       refine AW.rend ?_
       try simp only [↓wk, ↓wl, nq, evV, ↓reduceIte, sevalprocAttr]
       refine evTs_app (enc := (AV.int .i64)) H (by rfl) (by first | rfl | simp only [List.length_set]) (by rfl) (by rfl) ?_ <;> clear H <;> intro out_151 H
       try simp only [↓wk, ↓wl, nq, evV, ↓reduceIte, sevalprocAttr]
       refine blkQ.norm ?_
       refine AW.rend ?_
       try simp only [↓wk, ↓wl, nq, evV, ↓reduceIte, sevalprocAttr]
       exact loopQ.next H ((Le.tz [1] [0, 1, 3, 4, 13, 35, 36] (by simp only [f38_42_L1c, rrm, ↓wk, ↓wl, evV, ↓reduceIte, sevalprocAttr] <;> rfl)))
     ·refine AW.exit ?_
      refine seqQ.exit ?_
      refine loopQ.exit H ?_ <;> clear H <;> intro H
      try dsimp only at H
      refine blk0.here ?_
      refine seqQ.norm ?_
      refine AW.rseq ?_
      try simp only [↓wk, ↓wl, nq, evV, ↓reduceIte, sevalprocAttr]
      refine AW.ret ?_
      cases H
      exact hQ _ _ _ _ (.inr rfl) (by simp only [resVs, omap, resV, ↓wk, ↓wl, nq, evV, ↓reduceIte, sevalprocAttr]; rfl) (hand_k (by rfl) (by rfl) (by simp) (enc_all _) (by rfl)) (by first | exact Or.inl rfl | exact Or.inr rfl)
theorem f38_42_im {from_114 : Int} {to_115 : Int} {n_116 : Int} {whole_117 : Int} {part_118 : Int} {part_119 : Int} {r_ : (List Int) × Int} (H : f38_42 from_114 to_115 n_116 whole_117 part_118 part_119 = some r_) : Pure Try.prog 38 [.int .i64 from_114, .int .i64 to_115, .int .i64 n_116, .int .i64 whole_117, .fn 42 [.pro [.int .i64 part_118], .pro [.int .i64 part_119]]] (· = .tup [.sl 0 false (r_.1.map (AV.int .i64)), .int .i64 r_.2]) := (f38_42_ok H).unfr (by first | exact enc_fits _ | simp only [frFits, List.all_cons, List.all_nil, enc_fits, Bool.and_self])
def c13_0 : C := .seq (.reg [iI 12 (.mv (.t 0)), iI 13 (.mv (.t 1)), iI 14 (.load 0 (.t 5)), iI 15 (.load 0 (.t 5)), iI 16 (.bin .sub (.t 15) (.c (.int .i64 1))), iI 17 (.load 0 (.t 8)), iI 18 (.bin .sub (.t 16) (.t 17)), iI 19 (.mkfn 42 [(.t 5), (.t 8)]), iI 20 (.call (.c (.fn 38 [])) [(.t 12), (.t 13), (.t 14), (.t 18), (.t 19)]), iI 21 (.ext (.t 20) 0), iI 22 (.ext (.t 20) 1), iI 6 (.mv (.t 21)), iI 7 (.mv (.t 22))]) .ret
def c13_1 : C := .seq (.reg [iI 9 (.load 0 (.t 5)), iI 10 (.bin .rem (.t 9) (.c (.int .i64 2))), iI 11 (.bin .sub (.c (.int .i64 1)) (.t 10)), iI 8 (.alloc [(1, (.int .i64 0))]), iN (.store 0 (.t 8) (.t 11))]) c13_0
def ir13 : C := .seq (.reg [iI 5 (.box (.t 2)), iI 6 (.mv (.c (.sl 0 true []))), iI 7 (.mv (.c (.int .i64 0)))]) c13_1
theorem fd13 : fd? Try.prog 13 = some (23, [.slot 6, .slot 7], ir13) := by kernel_rfl
noncomputable def f13 (from_111 : Int) (to_112 : Int) (n_113 : Int) : Option ((List Int) × Int) :=
  (f38_42 from_111 to_112 n_113 (IntKind.i64.wrap ((IntKind.i64.wrap (n_113 - 1)) - (IntKind.i64.wrap (1 - (n_113.tmod 2))))) n_113 (IntKind.i64.wrap (1 - (n_113.tmod 2)))).bind fun r_152 => (some (r_152.1, r_152.2))
theorem f13_ok {from_111 : Int} {to_112 : Int} {n_113 : Int} {r_ : (List Int) × Int} (H : f13 from_111 to_112 n_113 = some r_) : Pure Try.prog 13 [.int .i64 from_111, .int .i64 to_112, .int .i64 n_113] (· = .tup [.fr 0 (r_.1.map (AV.int .i64)), .int .i64 r_.2]) := by
 refine Pure.walk3 fd13 (some 0) (Nat.le_of_ble_eq_true rfl) (by rfl) fun Q hQ => ?_
 simp only [f13] at H
 refine AW.rseq ?_
 try simp only [↓wk, ↓wl, nq, evV, ↓reduceIte, sevalprocAttr]
 refine AW.rseq ?_
 try simp only [↓wk, ↓wl, nq, evV, ↓reduceIte, sevalprocAttr]
 refine AW.rseq ?_
 try simp only [↓wk, ↓wl, nq, evV, ↓reduceIte, sevalprocAttr]
 refine evTs_frR H (fun _ h => f38_42_ok h) (by rfl) (by rfl) (by simp only [deep_eq, imm_simps, imm_rowE, imm_ptrE, imm_enc, omap_simps, take_map_len, take_map_set, take_map_set2, List.length_set, le_refl_true, Nat.zero_add, and_true, true_and, List.drop_zero, Option.map_some, ↓wk, ↓wl, nq, evV, ↓reduceIte, sevalprocAttr]; rfl) (by rfl) (fun _ => by simp only [flatR, List.all_cons, List.all_nil, flat_all, Bool.and_true]; try rfl) (fun _ => rfl) ?_ <;> clear H <;> intro r_152 H
 try simp only [eL, ↓wk, ↓wl, nq, evV, ↓reduceIte, sevalprocAttr]
 refine AW.ret ?_
 cases H
 exact hQ _ _ _ _ (.inr rfl) (by simp only [resVs, omap, resV, ↓wk, ↓wl, nq, evV, ↓reduceIte, sevalprocAttr]; rfl) (hand_k (by rfl) (by rfl) (by simp) (enc_all _) (by rfl)) (by first | exact Or.inl rfl | exact Or.inr rfl)
theorem f13_im {from_111 : Int} {to_112 : Int} {n_113 : Int} {r_ : (List Int) × Int} (H : f13 from_111 to_112 n_113 = some r_) : Pure Try.prog 13 [.int .i64 from_111, .int .i64 to_112, .int .i64 n_113] (· = .tup [.sl 0 false (r_.1.map (AV.int .i64)), .int .i64 r_.2]) := (f13_ok H).unfr (by first | exact enc_fits _ | simp only [frFits, List.all_cons, List.all_nil, enc_fits, Bool.and_self])
noncomputable def f14_L2 (n_156 : Int) (from_154 : Int) (to_155 : Int) (m_159 : Int) : Lp (Int × (List Int)) ((List Int)) where
  body := fun (i_168, out_169) => (if (decide (i_168 < n_156)) = true then (f41 from_154 to_155 (IntKind.i64.wrap ((if (IntKind.i64.wrap ((IntKind.i64.wrap (n_156 - 1)) - (IntKind.i64.wrap (2 * i_168)))) > (IntKind.i64.wrap ((IntKind.i64.wrap (2 * i_168)) - (IntKind.i64.wrap (n_156 - 1)))) then (IntKind.i64.wrap ((IntKind.i64.wrap (n_156 - 1)) - (IntKind.i64.wrap (2 * i_168)))) else (IntKind.i64.wrap ((IntKind.i64.wrap (2 * i_168)) - (IntKind.i64.wrap (n_156 - 1))))) - m_159)) (IntKind.i64.wrap ((IntKind.i64.wrap (n_156 - 1)) - m_159))).bind fun r_173 => (app? 8 out_169 ([r_173])).bind fun out_174 => (some (.next ((IntKind.i64.wrap (i_168 + 1)), out_174))) else (some (.brk out_169)))
  cst := fun (i_168, out_169) => ⟨put (put (put (put (put (put (fun _ => .junk) 11 (.int .i64 i_168)) 10 (.row 0 0 0 out_169.length)) 9 (.int .i64 m_159)) 2 (.int .i64 n_156)) 1 (.int .i64 to_155)) 0 (.int .i64 from_154), [.els 0 (out_169.map (AV.int .i64))]⟩
theorem f14_L2c (n_156 : Int) (from_154 : Int) (to_155 : Int) (m_159 : Int) (i_168 : Int) (out_169 : (List Int)) : (f14_L2 n_156 from_154 to_155 m_159).cst (i_168, out_169) = ⟨put (put (put (put (put (put (fun _ => .junk) 11 (.int .i64 i_168)) 10 (.row 0 0 0 out_169.length)) 9 (.int .i64 m_159)) 2 (.int .i64 n_156)) 1 (.int .i64 to_155)) 0 (.int .i64 from_154), [.els 0 (out_169.map (AV.int .i64))]⟩ := rfl
noncomputable def f14_J1 (n_156 : Int) (from_154 : Int) (to_155 : Int) : Jn (Int) ((List Int) × Int) where
  run := fun m_159 => (Lp.run (f14_L2 n_156 from_154 to_155 m_159) (0, [])).bind fun out_172 => (some (out_172, 0))
  cst := fun m_159 => ⟨put (put (put (put (fun _ => .junk) 9 (.int .i64 m_159)) 2 (.int .i64 n_156)) 1 (.int .i64 to_155)) 0 (.int .i64 from_154), []⟩
theorem f14_J1c (n_156 : Int) (from_154 : Int) (to_155 : Int) (m_159 : Int) : (f14_J1 n_156 from_154 to_155).cst m_159 = ⟨put (put (put (put (fun _ => .junk) 9 (.int .i64 m_159)) 2 (.int .i64 n_156)) 1 (.int .i64 to_155)) 0 (.int .i64 from_154), []⟩ := rfl
def c14_0 : C := .cond (.t 18) (.seq (.reg [iI 19 (.mv (.t 8)), iI 6 (.mv (.c (.sl 0 true []))), iI 7 (.mv (.t 19))]) .ret) (.skip)
def c14_1 : C := .seq (.reg [iI 17 (.mv (.t 8)), iI 18 (.bin .neq (.t 17) (.c (.int .i64 0)))]) c14_0
def c14_2 : C := .cond (.t 22) (.reg [iI 9 (.mv (.c (.int .i64 1)))]) (.skip)
def c14_3 : C := .cond (.t 25) (.skip) (.exit 0)
def c14_4 : C := .reg [iI 39 (.mv (.t 10)), iI 40 (.mv (.t 0)), iI 41 (.mv (.t 1)), iI 42 (.mv (.t 12)), iI 43 (.mv (.t 9)), iI 44 (.bin .sub (.t 42) (.t 43)), iI 45 (.mv (.t 2)), iI 46 (.bin .sub (.t 45) (.c (.int .i64 1))), iI 47 (.mv (.t 9)), iI 48 (.bin .sub (.t 46) (.t 47)), iI 49 (.call (.c (.fn 41 [])) [(.t 40), (.t 41), (.t 44), (.t 48)]), iI 50 (.mkslp 0 1 (.int .i64 0) [(0, (.t 49))]), iI 51 (.append 0 8 (.t 39) (.t 50)), iI 10 (.mv (.t 51))]
def c14_5 : C := .reg [iI 26 (.mv (.t 11)), iI 27 (.bin .add (.t 26) (.c (.int .i64 1))), iI 11 (.mv (.t 27))]
def c14_6 : C := .seq (.block 1 (.seq (.reg [iI 28 (.mv (.t 11)), iI 29 (.bin .mul (.c (.int .i64 2)) (.t 28)), iI 30 (.mv (.t 2)), iI 31 (.bin .sub (.t 30) (.c (.int .i64 1))), iI 32 (.bin .sub (.t 29) (.t 31)), iI 33 (.mv (.t 2)), iI 34 (.bin .sub (.t 33) (.c (.int .i64 1))), iI 35 (.mv (.t 11)), iI 36 (.bin .mul (.c (.int .i64 2)) (.t 35)), iI 37 (.bin .sub (.t 34) (.t 36)), iI 38 (.maxmin true (.t 32) [(.t 37)]), iI 12 (.mv (.t 38))]) c14_4)) c14_5
def c14_7 : C := .block 0 (.loop (.seq (.seq (.reg [iI 23 (.mv (.t 11)), iI 24 (.mv (.t 2)), iI 25 (.bin .lss (.t 23) (.t 24))]) c14_3) c14_6))
def c14_8 : C := .seq (.reg [iI 52 (.mv (.t 10)), iI 6 (.mv (.t 52)), iI 7 (.mv (.c (.int .i64 0)))]) .ret
def c14_9 : C := .seq (.seq (.reg [iI 11 (.mv (.c (.int .i64 0)))]) c14_7) c14_8
def c14_10 : C := .seq (.reg [iI 10 (.mv (.c (.sl 0 true [])))]) c14_9
def c14_11 : C := .seq (.seq (.reg [iI 20 (.mv (.t 2)), iI 21 (.bin .rem (.t 20) (.c (.int .i64 2))), iI 22 (.bin .eql (.t 21) (.c (.int .i64 0)))]) c14_2) c14_10
def c14_12 : C := .seq (.reg [iI 9 (.mv (.c (.int .i64 0)))]) c14_11
def c14_13 : C := .seq (.seq (.reg [iI 13 (.mv (.t 0)), iI 14 (.mv (.t 1)), iI 15 (.mv (.t 2)), iI 16 (.call (.c (.fn 40 [])) [(.t 13), (.t 14), (.t 15)]), iI 8 (.mv (.t 16))]) c14_1) c14_12
def ir14 : C := .seq (.reg [iI 6 (.mv (.c (.sl 0 true []))), iI 7 (.mv (.c (.int .i64 0)))]) c14_13
theorem fd14 : fd? Try.prog 14 = some (53, [.slot 6, .slot 7], ir14) := by kernel_rfl
noncomputable def f14 (from_154 : Int) (to_155 : Int) (n_156 : Int) : Option ((List Int) × Int) :=
  (f40 from_154 to_155 n_156).bind fun r_158 => (if (decide (r_158 ≠ 0)) = true then (some ([], r_158)) else (if (decide ((n_156.tmod 2) = 0)) = true then ((f14_J1 n_156 from_154 to_155).run 1) else ((f14_J1 n_156 from_154 to_155).run 0)))
theorem f14_ok {from_154 : Int} {to_155 : Int} {n_156 : Int} {r_ : (List Int) × Int} (H : f14 from_154 to_155 n_156 = some r_) : Pure Try.prog 14 [.int .i64 from_154, .int .i64 to_155, .int .i64 n_156] (· = .tup [.fr 0 (r_.1.map (AV.int .i64)), .int .i64 r_.2]) := by
 refine Pure.walk3 fd14 (some 0) (Nat.le_of_ble_eq_true rfl) (by rfl) fun Q hQ => ?_
 simp only [f14] at H
 refine AW.rseq ?_
 try simp only [↓wk, ↓wl, nq, evV, ↓reduceIte, sevalprocAttr]
 refine AW.sseq ?_
 refine AW.rseq ?_
 try simp only [↓wk, ↓wl, nq, evV, ↓reduceIte, sevalprocAttr]
 refine evTs_pure hFn H (fun _ h => f40_ok h) (by rfl) (by rfl) (by rfl) (by rfl) (fun _ => rfl) ?_ <;> clear H <;> intro r_158 H
 try simp only [eL, ↓wk, ↓wl, nq, evV, ↓reduceIte, sevalprocAttr]
 refine AW.rseq ?_
 try simp only [↓wk, ↓wl, nq, evV, ↓reduceIte, sevalprocAttr]
 refine AW.ifc H (by rfl) ?_ ?_ <;> clear H <;> intro H
 ·refine AW.rseq ?_
  try simp only [↓wk, ↓wl, nq, evV, ↓reduceIte, sevalprocAttr]
  refine AW.ret ?_
  refine seqQ.ret ?_
  cases H
  exact hQ _ _ _ _ (.inr rfl) (by simp only [resVs, omap, resV, ↓wk, ↓wl, nq, evV, ↓reduceIte, sevalprocAttr]; rfl) (hand_k0 (by rfl) (by rfl)) (by first | exact Or.inl rfl | exact Or.inr rfl)
 ·refine AW.skip ?_
  refine seqQ.norm ?_
  refine AW.rseq ?_
  try simp only [↓wk, ↓wl, nq, evV, ↓reduceIte, sevalprocAttr]
  refine AW.join (f14_J1 n_156 from_154 to_155) H ?_ fun hf14_J1 => ?_
  ·clear H
   rintro m_159 st0_ H hst_
   rw [f14_J1c] at hst_
   simp only [f14_J1] at H
   subst hst_
   refine AW.rseq ?_
   try simp only [↓wk, ↓wl, nq, evV, ↓reduceIte, sevalprocAttr]
   refine AW.sseq ?_
   refine AW.rseq ?_
   try simp only [↓wk, ↓wl, nq, evV, ↓reduceIte, sevalprocAttr]
   refine AW.bend ?_
   refine AW.iter H ((Le.trans (Le.nilRow (i := 10) (e := 0) (by simp only [↓wk, ↓wl, nq, evV, ↓reduceIte, sevalprocAttr])) (Le.tz [0] [0, 1, 2, 9, 10, 11] (by simp only [f14_L2c, rrm, ↓wk, ↓wl, evV, ↓reduceIte, sevalprocAttr] <;> rfl)))) ?_ <;> clear H
   rintro ⟨i_168, out_169⟩ x_ st0_ H hst_
   rw [f14_L2c] at hst_
   simp only [f14_L2] at H
   subst hst_
   refine AW.sseq ?_
   refine AW.rseq ?_
   try simp only [↓wk, ↓wl, nq, evV, ↓reduceIte, sevalprocAttr]
   refine AW.ifc H (by rfl) ?_ ?_ <;> clear H <;> intro H
   ·refine AW.skip ?_
    refine seqQ.norm ?_
    refine AW.bseq ?_
    refine AW.rseq ?_
    try simp only [↓wk, ↓wl, nq, evV, ↓reduceIte, sevalprocAttr]
    refine AW.rend ?_
    try simp only [↓wk, ↓wl, nq, evV, ↓reduceIte, sevalprocAttr]
    refine evTs_pure hFn H (fun _ h => f41_ok h) (by rfl) (by rfl) (by rfl) (by rfl) (fun _ => rfl) ?_ <;> clear H <;> intro r_173 H
    try simp only [eL, ↓wk, ↓wl, nq, evV, ↓reduceIte, sevalprocAttr]
    refine evTs_app (enc := (AV.int .i64)) H (by rfl) (by first | rfl | simp only [List.length_set]) (by rfl) (by rfl) ?_ <;> clear H <;> intro out_174 H
    try simp only [↓wk, ↓wl, nq, evV, ↓reduceIte, sevalprocAttr]
    refine blkQ.norm ?_
    refine AW.rend ?_
    try simp only [↓wk, ↓wl, nq, evV, ↓reduceIte, sevalprocAttr]
    exact loopQ.next H ((Le.tz [1] [0, 1, 2, 9, 10, 11] (by simp only [f14_L2c, rrm, ↓wk, ↓wl, evV, ↓reduceIte, sevalprocAttr] <;> rfl)))
   ·refine AW.exit ?_
    refine seqQ.exit ?_
    refine loopQ.exit H ?_ <;> clear H <;> intro H
    try dsimp only at H
    refine blk0.here ?_
    refine seqQ.norm ?_
    refine AW.rseq ?_
    try simp only [↓wk, ↓wl, nq, evV, ↓reduceIte, sevalprocAttr]
    refine AW.ret ?_
    cases H
    exact hQ _ _ _ _ (.inr rfl) (by simp only [resVs, omap, resV, ↓wk, ↓wl, nq, evV, ↓reduceIte, sevalprocAttr]; rfl) (hand_k (by rfl) (by rfl) (by simp) (enc_all _) (by rfl)) (by first | exact Or.inl rfl | exact Or.inr rfl)
  ·refine AW.rseq ?_
   try simp only [↓wk, ↓wl, nq, evV, ↓reduceIte, sevalprocAttr]
   refine AW.ifc H (by rfl) ?_ ?_ <;> clear H <;> intro H
   ·refine AW.rend ?_
    try simp only [↓wk, ↓wl, nq, evV, ↓reduceIte, sevalprocAttr]
    refine seqQ.norm ?_
    exact hf14_J1 _ _ H ((Le.tz [] [0, 1, 2, 9] (by simp only [f14_J1c, rrm, ↓wk, ↓wl, evV, ↓reduceIte, sevalprocAttr] <;> rfl)))
   ·refine AW.skip ?_
    refine seqQ.norm ?_
    exact hf14_J1 _ _ H ((Le.tz [] [0, 1, 2, 9] (by simp only [f14_J1c, rrm, ↓wk, ↓wl, evV, ↓reduceIte, sevalprocAttr] <;> rfl)))
theorem f14_im {from_154 : Int} {to_155 : Int} {n_156 : Int} {r_ : (List Int) × Int} (H : f14 from_154 to_155 n_156 = some r_) : Pure Try.prog 14 [.int .i64 from_154, .int .i64 to_155, .int .i64 n_156] (· = .tup [.sl 0 false (r_.1.map (AV.int .i64)), .int .i64 r_.2]) := (f14_ok H).unfr (by first | exact enc_fits _ | simp only [frFits, List.all_cons, List.all_nil, enc_fits, Bool.and_self])
noncomputable def f61_L1 (s_188 : (List Int)) (v_189 : Int) : Lp (Int) ((Unit) ⊕ (Int)) where
  body := fun v_193 => (if (decide (v_193 < ((s_188.length : Nat) : Int))) = true then (at? s_188 v_193).bind fun x_196 => (if (decide (v_189 = x_196)) = true then (some (.brk (Sum.inr v_193))) else (some (.next (IntKind.i64.wrap (v_193 + 1))))) else (some (.brk (Sum.inl ()))))
  cst := fun v_193 => ⟨put (put (put (put (fun _ => .junk) 8 (.int .i64 v_193)) 7 (.int .i64 ((s_188.length : Nat) : Int))) 1 (.int .i64 v_189)) 0 (.sl 0 false (s_188.map (AV.int .i64))), []⟩
theorem f61_L1c (s_188 : (List Int)) (v_189 : Int) (v_193 : Int) : (f61_L1 s_188 v_189).cst v_193 = ⟨put (put (put (put (fun _ => .junk) 8 (.int .i64 v_193)) 7 (.int .i64 ((s_188.length : Nat) : Int))) 1 (.int .i64 v_189)) 0 (.sl 0 false (s_188.map (AV.int .i64))), []⟩ := rfl
def c61_0 : C := .cond (.t 16) (.seq (.reg [iI 17 (.mv (.t 5)), iI 4 (.mv (.t 17))]) .ret) (.skip)
def c61_1 : C := .seq (.reg [iI 11 (.mv (.t 1)), iI 12 (.mv (.t 0)), iI 13 (.mv (.t 5)), iI 14 (.iaddr 0 (.t 12) (.t 13)), iI 15 (.load 0 (.t 14)), iI 16 (.bin .eql (.t 11) (.t 15))]) c61_0
def c61_2 : C := .reg [iI 18 (.bin .add (.t 8) (.c (.int .i64 1))), iI 8 (.mv (.t 18))]
def c61_3 : C := .seq (.block 1 (.seq (.reg [iI 10 (.mv (.t 8)), iI 5 (.mv (.t 10))]) c61_1)) c61_2
def c61_4 : C := .seq (.cond (.t 9) (.skip) (.exit 0)) c61_3
def c61_5 : C := .block 0 (.loop (.seq (.reg [iI 9 (.bin .lss (.t 8) (.t 7))]) c61_4))
def c61_6 : C := .seq (.reg [iI 4 (.mv (.c (.int .i64 (-1))))]) .ret
def c61_7 : C := .seq (.seq (.reg [iI 6 (.mv (.t 0)), iI 7 (.len 0 (.t 6)), iI 8 (.mv (.c (.int .i64 0)))]) c61_5) c61_6
def ir61 : C := .seq (.reg [iI 4 (.mv (.c (.int .i64 0)))]) c61_7
theorem fd61 : fd? Try.prog 61 = some (19, [.slot 4], ir61) := by kernel_rfl
noncomputable def f61 (s_188 : (List Int)) (v_189 : Int) : Option (Int) :=
  ((Lp.run (f61_L1 s_188 v_189) 0).bind fun r_ => match r_ with | (Sum.inl _) => (some (-1)) | (Sum.inr v_195) => (some v_195))
theorem f61_ok {s_188 : (List Int)} {v_189 : Int} {r_ : Int} (H : f61 s_188 v_189 = some r_) : Pure Try.prog 61 [.sl 0 false (s_188.map (AV.int .i64)), .int .i64 v_189] (· = .int .i64 r_) := by
 refine Pure.walk3 fd61 none (Nat.le_of_ble_eq_true rfl) (by rfl) fun Q hQ => ?_
 simp only [f61] at H
 refine AW.rseq ?_
 try simp only [↓wk, ↓wl, nq, evV, ↓reduceIte, sevalprocAttr]
 refine AW.sseq ?_
 refine AW.rseq ?_
 try simp only [↓wk, ↓wl, nq, evV, ↓reduceIte, sevalprocAttr]
 refine AW.bend ?_
 refine AW.iter H ((Le.tz [] [0, 1, 7, 8] (by simp only [f61_L1c, rrm, ↓wk, ↓wl, evV, ↓reduceIte, sevalprocAttr] <;> rfl))) ?_ <;> clear H
 rintro v_193 x_ st0_ H hst_
 rw [f61_L1c] at hst_
 simp only [f61_L1] at H
 subst hst_
 refine AW.rseq ?_
 try simp only [↓wk, ↓wl, nq, evV, ↓reduceIte, sevalprocAttr]
 refine AW.sseq ?_
 refine AW.ifc H (by rfl) ?_ ?_ <;> clear H <;> intro H
 ·refine AW.skip ?_
  refine seqQ.norm ?_
  refine AW.bseq ?_
  refine AW.rseq ?_
  try simp only [↓wk, ↓wl, nq, evV, ↓reduceIte, sevalprocAttr]
  refine AW.rseq ?_
  try simp only [↓wk, ↓wl, nq, evV, ↓reduceIte, sevalprocAttr]
  refine evTs_at (enc := (AV.int .i64)) H (by rfl) (by rfl) ?_ <;> clear H <;> intro x_196 H
  try simp only [↓wk, ↓wl, nq, evV, ↓reduceIte, sevalprocAttr]
  refine AW.ifc H (by rfl) ?_ ?_ <;> clear H <;> intro H
  ·refine AW.rseq ?_
   try simp only [↓wk, ↓wl, nq, evV, ↓reduceIte, sevalprocAttr]
   refine AW.ret ?_
   refine blkQ.ret ?_
   refine loopQ.ret H ?_ <;> clear H <;> intro H
   try dsimp only at H
   refine blk0.ret ?_
   refine seqQ.ret ?_
   cases H
   exact hQ.fin
  ·refine AW.skip ?_
   refine blkQ.norm ?_
   refine AW.rend ?_
   try simp only [↓wk, ↓wl, nq, evV, ↓reduceIte, sevalprocAttr]
   exact loopQ.next H ((Le.tz [] [0, 1, 7, 8] (by simp only [f61_L1c, rrm, ↓wk, ↓wl, evV, ↓reduceIte, sevalprocAttr] <;> rfl)))
 ·refine AW.exit ?_
  refine seqQ.exit ?_
  refine loopQ.exit H ?_ <;> clear H <;> intro H
  try dsimp only at H
  refine blk0.here ?_
  refine seqQ.norm ?_
  refine AW.rseq ?_
  try simp only [↓wk, ↓wl, nq, evV, ↓reduceIte, sevalprocAttr]
  refine AW.ret ?_
  cases H
  exact hQ.fin
def c44_0 : C := .seq (.reg [iI 5 (.mv (.t 0)), iI 6 (.mv (.t 1)), iI 7 (.call (.c (.fn 61 [])) [(.t 5), (.t 6)]), iI 8 (.bin .geq (.t 7) (.c (.int .i64 0))), iI 4 (.mv (.t 8))]) .ret
def ir44 : C := .seq (.reg [iI 4 (.mv (.c (.bool false)))]) c44_0
theorem fd44 : fd? Try.prog 44 = some (9, [.slot 4], ir44) := by kernel_rfl
noncomputable def f44 (s_186 : (List Int)) (v_187 : Int) : Option (Bool) :=
  (f61 s_186 v_187).bind fun r_197 => (some (decide (0 ≤ r_197)))
theorem f44_ok {s_186 : (List Int)} {v_187 : Int} {r_ : Bool} (H : f44 s_186 v_187 = some r_) : Pure Try.prog 44 [.sl 0 false (s_186.map (AV.int .i64)), .int .i64 v_187] (· = .bool r_) := by
 refine Pure.walk3 fd44 none (Nat.le_of_ble_eq_true rfl) (by rfl) fun Q hQ => ?_
 simp only [f44] at H
 refine AW.rseq ?_
 try simp only [↓wk, ↓wl, nq, evV, ↓reduceIte, sevalprocAttr]
 refine AW.rseq ?_
 try simp only [↓wk, ↓wl, nq, evV, ↓reduceIte, sevalprocAttr]
 refine evTs_pure hFn H (fun _ h => f61_ok h) (by rfl) (by rfl) (by rfl) (by rfl) (fun _ => rfl) ?_ <;> clear H <;> intro r_197 H
 try simp only [eL, ↓wk, ↓wl, nq, evV, ↓reduceIte, sevalprocAttr]
 refine AW.ret ?_
 cases H
 exact hQ.fin
noncomputable def f20_L1 (g_183 : ApiGroup) : Lp (Int) ((Unit) ⊕ (Int)) where
  body := fun v_203 => (if (decide (v_203 < ((g_183.fChannels.length : Nat) : Int))) = true then (at? g_183.fChannels v_203).bind fun x_208 => (if (decide (x_208 < 1)) = true then (some (.brk (Sum.inr 2))) else (if (decide (999 < x_208)) = true then (some (.brk (Sum.inr 2))) else (slc? g_183.fChannels 0 v_203).bind fun s_209 => (f44 s_209 x_208).bind fun r_210 => (if r_210 = true then (some (.brk (Sum.inr 7))) else (some (.next (IntKind.i64.wrap (v_203 + 1))))))) else (some (.brk (Sum.inl ()))))
  cst := fun v_203 => ⟨put (put (put (put (fun _ => .junk) 20 (.int .i64 v_203)) 19 (.int .i64 ((g_183.fChannels.length : Nat) : Int))) 18 (.sl 0 false (g_183.fChannels.map (AV.int .i64)))) 1 (.ptr 0 0), [.cel [.int .i64 g_183.fNumber, .sl 0 false (g_183.fChannels.map (AV.int .i64))]]⟩
theorem f20_L1c (g_183 : ApiGroup) (v_203 : Int) : (f20_L1 g_183).cst v_203 = ⟨put (put (put (put (fun _ => .junk) 20 (.int .i64 v_203)) 19 (.int .i64 ((g_183.fChannels.length : Nat) : Int))) 18 (.sl 0 false (g_183.fChannels.map (AV.int .i64)))) 1 (.ptr 0 0), [.cel [.int .i64 g_183.fNumber, .sl 0 false (g_183.fChannels.map (AV.int .i64))]]⟩ := rfl
def c20_0 : C := .cond (.t 12) (.seq (.reg [iI 2 (.mv (.c (.int .i64 2)))]) .ret) (.skip)
def c20_1 : C := .cond (.t 16) (.seq (.reg [iI 2 (.mv (.c (.int .i64 5)))]) .ret) (.skip)
def c20_2 : C := .cond (.t 30) (.seq (.reg [iI 2 (.mv (.c (.int .i64 2)))]) .ret) (.skip)
def c20_3 : C := .cond (.t 36) (.seq (.reg [iI 2 (.mv (.c (.int .i64 7)))]) .ret) (.skip)
def c20_4 : C := .seq (.reg [iI 31 (.faddr 1 (.t 1)), iI 32 (.load 0 (.t 31)), iI 33 (.mv (.t 3)), iI 34 (.slice 0 (.t 32) none (some (.t 33))), iI 35 (.mv (.t 4)), iI 36 (.call (.c (.fn 44 [])) [(.t 34), (.t 35)])]) c20_3
def c20_5 : C := .seq (.seq (.reg [iI 25 (.mv (.t 4)), iI 26 (.bin .lss (.t 25) (.c (.int .i64 1))), iI 27 (.mv (.t 26)), iG (some 28) 27 false (.mv (.t 4)), iG (some 29) 27 false (.bin .gtr (.t 28) (.c (.int .i64 999))), iI 30 (.pick (.t 27) (.c (.bool true)) (.t 29))]) c20_2) c20_4
def c20_6 : C := .reg [iI 37 (.bin .add (.t 20) (.c (.int .i64 1))), iI 20 (.mv (.t 37))]
def c20_7 : C := .seq (.block 1 (.seq (.reg [iI 22 (.mv (.t 20)), iI 23 (.iaddr 0 (.t 18) (.t 20)), iI 24 (.load 0 (.t 23)), iI 3 (.mv (.t 22)), iI 4 (.mv (.t 24))]) c20_5)) c20_6
def c20_8 : C := .seq (.cond (.t 21) (.skip) (.exit 0)) c20_7
def c20_9 : C := .block 0 (.loop (.seq (.reg [iI 21 (.bin .lss (.t 20) (.t 19))]) c20_8))
def c20_10 : C := .seq (.reg [iI 2 (.mv (.c (.int .i64 0)))]) .ret
def c20_11 : C := .seq (.seq (.reg [iI 17 (.faddr 1 (.t 1)), iI 18 (.load 0 (.t 17)), iI 19 (.len 0 (.t 18)), iI 20 (.mv (.c (.int .i64 0)))]) c20_9) c20_10
def c20_12 : C := .seq (.seq (.reg [iI 13 (.faddr 1 (.t 1)), iI 14 (.load 0 (.t 13)), iI 15 (.len 0 (.t 14)), iI 16 (.bin .gtr (.t 15) (.c (.int .i64 256)))]) c20_1) c20_11
def c20_13 : C := .seq (.seq (.reg [iI 5 (.faddr 0 (.t 1)), iI 6 (.load 0 (.t 5)), iI 7 (.bin .lss (.t 6) (.c (.int .i64 1))), iI 8 (.mv (.t 7)), iG (some 9) 8 false (.faddr 0 (.t 1)), iG (some 10) 8 false (.load 0 (.t 9)), iG (some 11) 8 false (.bin .gtr (.t 10) (.c (.int .i64 1048576))), iI 12 (.pick (.t 8) (.c (.bool true)) (.t 11))]) c20_0) c20_12
def ir20 : C := .seq (.reg [iI 1 (.box (.t 0)), iI 2 (.mv (.c (.int .i64 0)))]) c20_13
theorem fd20 : fd? Try.prog 20 = some (38, [.slot 2], ir20) := by kernel_rfl
noncomputable def f20 (g_183 : ApiGroup) : Option (Int) :=
  (if (decide (g_183.fNumber < 1)) = true then (some 2) else (if (decide (1048576 < g_183.fNumber)) = true then (some 2) else (if (decide (256 < ((g_183.fChannels.length : Nat) : Int))) = true then (some 5) else ((Lp.run (f20_L1 g_183) 0).bind fun r_ => match r_ with | (Sum.inl _) => (some 0) | (Sum.inr v_207) => (some v_207)))))
theorem f20_ok {g_183 : ApiGroup} {r_ : Int} (H : f20 g_183 = some r_) : Pure Try.prog 20 [.agg [.int .i64 g_183.fNumber, .sl 0 false (g_183.fChannels.map (AV.int .i64))]] (· = .int .i64 r_) := by
 refine Pure.walk3 fd20 none (Nat.le_of_ble_eq_true rfl) (by rfl) fun Q hQ => ?_
 simp only [f20] at H
 refine AW.rseq ?_
 try simp only [↓wk, ↓wl, nq, evV, ↓reduceIte, sevalprocAttr]
 refine AW.sseq ?_
 refine AW.rseq ?_
 try simp only [↓wk, ↓wl, nq, evV, ↓reduceIte, sevalprocAttr]
 refine evTs_ifg H (by rfl) ?_ ?_ <;> clear H <;> intro H
 ·try simp only [↓wk, ↓wl, nq, evV, ↓reduceIte, sevalprocAttr]
  refine AW.ift (by rfl) ?_
  refine AW.rseq ?_
  try simp only [↓wk, ↓wl, nq, evV, ↓reduceIte, sevalprocAttr]
  refine AW.ret ?_
  refine seqQ.ret ?_
  cases H
  exact hQ.fin
 ·try simp only [↓wk, ↓wl, nq, evV, ↓reduceIte, sevalprocAttr]
  refine AW.ifc H (by rfl) ?_ ?_ <;> clear H <;> intro H
  ·refine AW.rseq ?_
   try simp only [↓wk, ↓wl, nq, evV, ↓reduceIte, sevalprocAttr]
   refine AW.ret ?_
   refine seqQ.ret ?_
   cases H
   exact hQ.fin
  ·refine AW.skip ?_
   refine seqQ.norm ?_
   refine AW.sseq ?_
   refine AW.rseq ?_
   try simp only [↓wk, ↓wl, nq, evV, ↓reduceIte, sevalprocAttr]
   refine AW.ifc H (by rfl) ?_ ?_ <;> clear H <;> intro H
   ·refine AW.rseq ?_
    try simp only [↓wk, ↓wl, nq, evV, ↓reduceIte, sevalprocAttr]
    refine AW.ret ?_
    refine seqQ.ret ?_
    cases H
    exact hQ.fin
   ·refine AW.skip ?_
    refine seqQ.norm ?_
    refine AW.sseq ?_
    refine AW.rseq ?_
    try simp only [↓wk, ↓wl, nq, evV, ↓reduceIte, sevalprocAttr]
    refine AW.bend ?_
    refine AW.iter H ((Le.tz [0] [1, 18, 19, 20] (by simp only [f20_L1c, rrm, ↓wk, ↓wl, evV, ↓reduceIte, sevalprocAttr] <;> rfl))) ?_ <;> clear H
    rintro v_203 x_ st0_ H hst_
    rw [f20_L1c] at hst_
    simp only [f20_L1] at H
    subst hst_
    refine AW.rseq ?_
    try simp only [↓wk, ↓wl, nq, evV, ↓reduceIte, sevalprocAttr]
    refine AW.sseq ?_
    refine AW.ifc H (by rfl) ?_ ?_ <;> clear H <;> intro H
    ·refine AW.skip ?_
     refine seqQ.norm ?_
     refine AW.bseq ?_
     refine AW.rseq ?_
     try simp only [↓wk, ↓wl, nq, evV, ↓reduceIte, sevalprocAttr]
     refine evTs_at (enc := (AV.int .i64)) H (by rfl) (by rfl) ?_ <;> clear H <;> intro x_208 H
     try simp only [↓wk, ↓wl, nq, evV, ↓reduceIte, sevalprocAttr]
     refine AW.sseq ?_
     refine AW.rseq ?_
     try simp only [↓wk, ↓wl, nq, evV, ↓reduceIte, sevalprocAttr]
     refine evTs_ifg H (by rfl) ?_ ?_ <;> clear H <;> intro H
     ·try simp only [↓wk, ↓wl, nq, evV, ↓reduceIte, sevalprocAttr]
      refine AW.ift (by rfl) ?_
      refine AW.rseq ?_
      try simp only [↓wk, ↓wl, nq, evV, ↓reduceIte, sevalprocAttr]
      refine AW.ret ?_
      refine seqQ.ret ?_
      refine blkQ.ret ?_
      refine loopQ.ret H ?_ <;> clear H <;> intro H
      try dsimp only at H
      refine blk0.ret ?_
      refine seqQ.ret ?_
      cases H
      exact hQ.fin
     ·try simp only [↓wk, ↓wl, nq, evV, ↓reduceIte, sevalprocAttr]
      refine AW.ifc H (by rfl) ?_ ?_ <;> clear H <;> intro H
      ·refine AW.rseq ?_
       try simp only [↓wk, ↓wl, nq, evV, ↓reduceIte, sevalprocAttr]
       refine AW.ret ?_
       refine seqQ.ret ?_
       refine blkQ.ret ?_
       refine loopQ.ret H ?_ <;> clear H <;> intro H
       try dsimp only at H
       refine blk0.ret ?_
       refine seqQ.ret ?_
       cases H
       exact hQ.fin
      ·refine AW.skip ?_
       refine seqQ.norm ?_
       refine AW.rseq ?_
       try simp only [↓wk, ↓wl, nq, evV, ↓reduceIte, sevalprocAttr]
       refine evTs_slc (enc := (AV.int .i64)) H (by rfl) (by rfl) (by simp only [loI, hiI, ↓wk, ↓wl, nq, evV, ↓reduceIte, sevalprocAttr]; rfl) (by simp only [loI, hiI, ↓wk, ↓wl, nq, evV, ↓reduceIte, sevalprocAttr]; rfl) ?_ <;> clear H <;> intro s_209 H
       try simp only [↓wk, ↓wl, nq, evV, ↓reduceIte, sevalprocAttr]
       refine evTs_pure hFn H (fun _ h => f44_ok h) (by rfl) (by rfl) (by rfl) (by rfl) (fun _ => rfl) ?_ <;> clear H <;> intro r_210 H
       try simp only [eL, ↓wk, ↓wl, nq, evV, ↓reduceIte, sevalprocAttr]
       refine AW.ifc H (by rfl) ?_ ?_ <;> clear H <;> intro H
       ·refine AW.rseq ?_
        try simp only [↓wk, ↓wl, nq, evV, ↓reduceIte, sevalprocAttr]
        refine AW.ret ?_
        refine blkQ.ret ?_
        refine loopQ.ret H ?_ <;> clear H <;> intro H
        try dsimp only at H
        refine blk0.ret ?_
        refine seqQ.ret ?_
        cases H
        exact hQ.fin
       ·refine AW.skip ?_
        refine blkQ.norm ?_
        refine AW.rend ?_
        try simp only [↓wk, ↓wl, nq, evV, ↓reduceIte, sevalprocAttr]
        exact loopQ.next H ((Le.tz [0] [1, 18, 19, 20] (by simp only [f20_L1c, rrm, ↓wk, ↓wl, evV, ↓reduceIte, sevalprocAttr] <;> rfl)))
    ·refine AW.exit ?_
     refine seqQ.exit ?_
     refine loopQ.exit H ?_ <;> clear H <;> intro H
     try dsimp only at H
     refine blk0.here ?_
     refine seqQ.norm ?_
     refine AW.rseq ?_
     try simp only [↓wk, ↓wl, nq, evV, ↓reduceIte, sevalprocAttr]
     refine AW.ret ?_
     cases H
     exact hQ.fin
noncomputable def f26_L1 (g_180 : ApiGroup) (step_181 : Int) : Lp (Int × (List Int)) ((List Int)) where
  body := fun (i_221, out_222) => (if (decide (i_221 < ((g_180.fChannels.length : Nat) : Int))) = true then (at? g_180.fChannels i_221).bind fun x_226 => (app? 8 out_222 ([x_226])).bind fun out_227 => (some (.next ((IntKind.i64.wrap (i_221 + step_181)), out_227))) else (some (.brk out_222)))
  cst := fun (i_221, out_222) => ⟨put (put (put (put (put (fun _ => .junk) 10 (.int .i64 i_221)) 9 (.ptr 2 0)) 6 (.ptr 1 0)) 3 (.ptr 0 0)) 1 (.int .i64 step_181), [.cel [.int .i64 g_180.fNumber, .sl 0 false (g_180.fChannels.map (AV.int .i64))], .cel [.int .i64 0, .sl 0 true []], .cel [.int .i64 g_180.fNumber, .row 0 3 0 out_222.length], .els 0 (out_222.map (AV.int .i64))]⟩
theorem f26_L1c (g_180 : ApiGroup) (step_181 : Int) (i_221 : Int) (out_222 : (List Int)) : (f26_L1 g_180 step_181).cst (i_221, out_222) = ⟨put (put (put (put (put (fun _ => .junk) 10 (.int .i64 i_221)) 9 (.ptr 2 0)) 6 (.ptr 1 0)) 3 (.ptr 0 0)) 1 (.int .i64 step_181), [.cel [.int .i64 g_180.fNumber, .sl 0 false (g_180.fChannels.map (AV.int .i64))], .cel [.int .i64 0, .sl 0 true []], .cel [.int .i64 g_180.fNumber, .row 0 3 0 out_222.length], .els 0 (out_222.map (AV.int .i64))]⟩ := rfl
def c26_0 : C := .cond (.t 14) (.seq (.reg [iI 15 (.build [(1, (.int .i64 0)), (1, (.sl 0 true []))] []), iI 16 (.mv (.t 8)), iN (.store 2 (.t 6) (.t 15)), iI 7 (.mv (.t 16))]) .ret) (.skip)
def c26_1 : C := .seq (.reg [iI 13 (.mv (.t 8)), iI 14 (.bin .neq (.t 13) (.c (.int .i64 0)))]) c26_0
def c26_2 : C := .cond (.t 30) (.seq (.reg [iI 31 (.build [(1, (.int .i64 0)), (1, (.sl 0 true []))] []), iN (.store 2 (.t 6) (.t 31)), iI 7 (.mv (.c (.int .i64 2)))]) .ret) (.skip)
def c26_3 : C := .cond (.t 40) (.skip) (.exit 0)
def c26_4 : C := .reg [iI 41 (.mv (.t 10)), iI 42 (.mv (.t 1)), iI 43 (.bin .add (.t 41) (.t 42)), iI 10 (.mv (.t 43))]
def c26_5 : C := .seq (.block 1 (.reg [iI 44 (.faddr 1 (.t 9)), iI 45 (.load 0 (.t 44)), iI 46 (.faddr 1 (.t 3)), iI 47 (.load 0 (.t 46)), iI 48 (.mv (.t 10)), iI 49 (.iaddr 0 (.t 47) (.t 48)), iI 50 (.load 0 (.t 49)), iI 51 (.mkslp 0 1 (.int .i64 0) [(0, (.t 50))]), iI 52 (.append 0 8 (.t 45) (.t 51)), iI 53 (.faddr 1 (.t 9)), iN (.store 0 (.t 53) (.t 52))])) c26_4
def c26_6 : C := .block 0 (.loop (.seq (.seq (.reg [iI 36 (.mv (.t 10)), iI 37 (.faddr 1 (.t 3)), iI 38 (.load 0 (.t 37)), iI 39 (.len 0 (.t 38)), iI 40 (.bin .lss (.t 36) (.t 39))]) c26_3) c26_5))
def c26_7 : C := .seq (.reg [iI 54 (.load 2 (.t 9)), iN (.store 2 (.t 6) (.t 54)), iI 7 (.mv (.c (.int .i64 0)))]) .ret
def c26_8 : C := .seq (.seq (.reg [iI 35 (.mv (.t 2)), iI 10 (.mv (.t 35))]) c26_6) c26_7
def c26_9 : C := .seq (.reg [iI 32 (.faddr 0 (.t 3)), iI 33 (.load 0 (.t 32)), iI 34 (.build [(1, (.int .i64 0)), (1, (.sl 0 true []))] [(0, 0, (.t 33))]), iI 9 (.alloc [(1, (.int .i64 0)), (1, (.sl 0 true []))]), iN (.store 2 (.t 9) (.t 34))]) c26_8
def c26_10 : C := .seq (.seq (.reg [iI 17 (.mv (.t 1)), iI 18 (.bin .lss (.t 17) (.c (.int .i64 1))), iI 19 (.mv (.t 18)), iG (some 20) 19 false (.mv (.t 1)), iG (some 21) 19 false (.bin .gtr (.t 20) (.c (.int .i64 256))), iI 22 (.pick (.t 19) (.c (.bool true)) (.t 21)), iI 23 (.mv (.t 22)), iG (some 24) 23 false (.mv (.t 2)), iG (some 25) 23 false (.bin .lss (.t 24) (.c (.int .i64 0))), iI 26 (.pick (.t 23) (.c (.bool true)) (.t 25)), iI 27 (.mv (.t 26)), iG (some 28) 27 false (.mv (.t 2)), iG (some 29) 27 false (.bin .gtr (.t 28) (.c (.int .i64 256))), iI 30 (.pick (.t 27) (.c (.bool true)) (.t 29))]) c26_2) c26_9
def c26_11 : C := .seq (.seq (.reg [iI 11 (.load 2 (.t 3)), iI 12 (.call (.c (.fn 20 [])) [(.t 11)]), iI 8 (.mv (.t 12))]) c26_1) c26_10
def ir26 : C := .seq (.reg [iI 3 (.box (.t 0)), iI 6 (.alloc [(1, (.int .i64 0)), (1, (.sl 0 true []))]), iI 7 (.mv (.c (.int .i64 0)))]) c26_11
theorem fd26 : fd? Try.prog 26 = some (55, [.cell 6 2, .slot 7], ir26) := by kernel_rfl
noncomputable def f26 (g_180 : ApiGroup) (step_181 : Int) (first_182 : Int) : Option (ApiGroup × Int) :=
  (f20 g_180).bind fun r_212 => (if (decide (r_212 ≠ 0)) = true then (some ((ApiGroup.mk 0 ([])), r_212)) else (if (decide (step_181 < 1)) = true then (some ((ApiGroup.mk 0 ([])), 2)) else (if (decide (256 < step_181)) = true then (some ((ApiGroup.mk 0 ([])), 2)) else (if (decide (first_182 < 0)) = true then (some ((ApiGroup.mk 0 ([])), 2)) else (if (decide (256 < first_182)) = true then (some ((ApiGroup.mk 0 ([])), 2)) else (Lp.run (f26_L1 g_180 step_181) (first_182, [])).bind fun out_225 => (some ((ApiGroup.mk g_180.fNumber out_225), 0)))))))
theorem f26_ok {g_180 : ApiGroup} {step_181 : Int} {first_182 : Int} {r_ : ApiGroup × Int} (H : f26 g_180 step_181 first_182 = some r_) : Pure Try.prog 26 [.agg [.int .i64 g_180.fNumber, .sl 0 false (g_180.fChannels.map (AV.int .i64))], .int .i64 step_181, .int .i64 first_182] (· = .tup [.agg [.int .i64 r_.1.fNumber, .sl 0 false (r_.1.fChannels.map (AV.int .i64))], .int .i64 r_.2]) := by
 refine Pure.walk3 fd26 none (Nat.le_of_ble_eq_true rfl) (by rfl) fun Q hQ => ?_
 simp only [f26] at H
 refine AW.rseq ?_
 try simp only [↓wk, ↓wl, nq, evV, ↓reduceIte, sevalprocAttr]
 refine AW.sseq ?_
 refine AW.rseq ?_
 try simp only [↓wk, ↓wl, nq, evV, ↓reduceIte, sevalprocAttr]
 refine evTs_pure hFn H (fun _ h => f20_ok h) (by rfl) (by rfl) (by rfl) (by rfl) (fun _ => rfl) ?_ <;> clear H <;> intro r_212 H
 try simp only [eL, ↓wk, ↓wl, nq, evV, ↓reduceIte, sevalprocAttr]
 refine AW.rseq ?_
 try simp only [↓wk, ↓wl, nq, evV, ↓reduceIte, sevalprocAttr]
 refine AW.ifc H (by rfl) ?_ ?_ <;> clear H <;> intro H
 ·refine AW.rseq ?_
  try simp only [↓wk, ↓wl, nq, evV, ↓reduceIte, sevalprocAttr]
  refine AW.ret ?_
  refine seqQ.ret ?_
  cases H
  exact hQ.fin
 ·refine AW.skip ?_
  refine seqQ.norm ?_
  refine AW.sseq ?_
  refine AW.rseq ?_
  try simp only [↓wk, ↓wl, nq, evV, ↓reduceIte, sevalprocAttr]
  refine evTs_ifg H (by rfl) ?_ ?_ <;> clear H <;> intro H
  ·try simp only [↓wk, ↓wl, nq, evV, ↓reduceIte, sevalprocAttr]
   refine AW.ift (by rfl) ?_
   refine AW.rseq ?_
   try simp only [↓wk, ↓wl, nq, evV, ↓reduceIte, sevalprocAttr]
   refine AW.ret ?_
   refine seqQ.ret ?_
   cases H
   exact hQ.fin
  ·try simp only [↓wk, ↓wl, nq, evV, ↓reduceIte, sevalprocAttr]
   refine evTs_ifg H (by rfl) ?_ ?_ <;> clear H <;> intro H
   ·try simp only [↓wk, ↓wl, nq, evV, ↓reduceIte, sevalprocAttr]
    refine AW.ift (by rfl) ?_
    refine AW.rseq ?_
    try simp only [↓wk, ↓wl, nq, evV, ↓reduceIte, sevalprocAttr]
    refine AW.ret ?_
    refine seqQ.ret ?_
    cases H
    exact hQ.fin
   ·try simp only [↓wk, ↓wl, nq, evV, ↓reduceIte, sevalprocAttr]
    refine evTs_ifg H (by rfl) ?_ ?_ <;> clear H <;> intro H
    ·try simp only [↓wk, ↓wl, nq, evV, ↓reduceIte, sevalprocAttr]
     refine AW.ift (by rfl) ?_
     refine AW.rseq ?_
     try simp only [↓wk, ↓wl, nq, evV, ↓reduceIte, sevalprocAttr]
     refine AW.ret ?_
     refine seqQ.ret ?_
     cases H
     exact hQ.fin
    ·try simp only [↓wk, ↓wl, nq, evV, ↓reduceIte, sevalprocAttr]
     refine AW.ifc H (by rfl) ?_ ?_ <;> clear H <;> intro H
     ·refine AW.rseq ?_
      try simp only [↓wk, ↓wl, nq, evV, ↓reduceIte, sevalprocAttr]
      refine AW.ret ?_
      refine seqQ.ret ?_
      cases H
      exact hQ.fin
     ·refine AW.skip ?_
      refine seqQ.norm ?_
      refine AW.rseq ?_
      try simp only [↓wk, ↓wl, nq, evV, ↓reduceIte, sevalprocAttr]
      refine AW.sseq ?_
      refine AW.rseq ?_
      try simp only [↓wk, ↓wl, nq, evV, ↓reduceIte, sevalprocAttr]
      refine AW.bend ?_
      refine AW.iter H ((Le.trans (Le.nilCell (b := 2) (o := 1) (e := 0) (by rfl) (by rfl)) (Le.tz [0, 1, 2, 3] [1, 3, 6, 9, 10] (by simp only [f26_L1c, rrm, ↓wk, ↓wl, evV, ↓reduceIte, sevalprocAttr] <;> rfl)))) ?_ <;> clear H
      rintro ⟨i_221, out_222⟩ x_ st0_ H hst_
      rw [f26_L1c] at hst_
      simp only [f26_L1] at H
      subst hst_
      refine AW.sseq ?_
      refine AW.rseq ?_
      try simp only [↓wk, ↓wl, nq, evV, ↓reduceIte, sevalprocAttr]
      refine AW.ifc H (by rfl) ?_ ?_ <;> clear H <;> intro H
      ·refine AW.skip ?_
       refine seqQ.norm ?_
       refine AW.bseq ?_
       refine AW.rend ?_
       try simp only [↓wk, ↓wl, nq, evV, ↓reduceIte, sevalprocAttr]
       refine evTs_at (enc := (AV.int .i64)) H (by rfl) (by rfl) ?_ <;> clear H <;> intro x_226 H
       try simp only [↓wk, ↓wl, nq, evV, ↓reduceIte, sevalprocAttr]
       refine evTs_app (enc := (AV.int .i64)) H (by rfl) (by first | rfl | simp only [List.length_set]) (by rfl) (by rfl) ?_ <;> clear H <;> intro out_227 H
       try simp only [↓wk, ↓wl, nq, evV, ↓reduceIte, sevalprocAttr]
       refine blkQ.norm ?_
       refine AW.rend ?_
       try simp only [↓wk, ↓wl, nq, evV, ↓reduceIte, sevalprocAttr]
       exact loopQ.next H ((Le.tz [0, 1, 2, 4] [1, 3, 6, 9, 10] (by simp only [f26_L1c, rrm, ↓wk, ↓wl, evV, ↓reduceIte, sevalprocAttr] <;> rfl)))
      ·refine AW.exit ?_
       refine seqQ.exit ?_
       refine loopQ.exit H ?_ <;> clear H <;> intro H
       try dsimp only at H
       refine blk0.here ?_
       refine seqQ.norm ?_
       refine AW.rseq ?_
       try simp only [↓wk, ↓wl, nq, evV, ↓reduceIte, sevalprocAttr]
       refine AW.ret ?_
       cases H
       exact hQ _ _ _ _ (.inr rfl) (by simp only [resVs, omap, resV, ↓wk, ↓wl, nq, evV, ↓reduceIte, sevalprocAttr]; rfl) (by simp only [handOver, deep_eq, imm_simps, imm_rowE, imm_ptrE, imm_enc, omap_simps, take_map_len, take_map_set, take_map_set2, List.length_set, le_refl_true, Nat.zero_add, and_true, true_and, List.drop_zero, Option.map_some, ↓wk, ↓wl, nq, evV, ↓reduceIte, sevalprocAttr]; rfl) (by first | exact Or.inl rfl | exact Or.inr rfl)
noncomputable def f16_L1 (s1_229 : (List Int)) (s2_230 : (List Int)) : Lp (Int) ((Unit) ⊕ (Unit)) where
  body := fun v_236 => (if (decide (v_236 < ((s1_229.length : Nat) : Int))) = true then (at? s1_229 v_236).bind fun x_239 => (at? s2_230 v_236).bind fun x_240 => (if (decide (x_239 ≠ x_240)) = true then (some (.brk (Sum.inr ()))) else (some (.next (IntKind.i64.wrap (v_236 + 1))))) else (some (.brk (Sum.inl ()))))
  cst := fun v_236 => ⟨put (put (put (put (fun _ => .junk) 13 (.int .i64 v_236)) 12 (.int .i64 ((s1_229.length : Nat) : Int))) 1 (.sl 0 false (s2_230.map (AV.int .i64)))) 0 (.sl 0 false (s1_229.map (AV.int .i64))), []⟩
theorem f16_L1c (s1_229 : (List Int)) (s2_230 : (List Int)) (v_236 : Int) : (f16_L1 s1_229 s2_230).cst v_236 = ⟨put (put (put (put (fun _ => .junk) 13 (.int .i64 v_236)) 12 (.int .i64 ((s1_229.length : Nat) : Int))) 1 (.sl 0 false (s2_230.map (AV.int .i64)))) 0 (.sl 0 false (s1_229.map (AV.int .i64))), []⟩ := rfl
def c16_0 : C := .cond (.t 10) (.seq (.reg [iI 4 (.mv (.c (.bool false)))]) .ret) (.skip)
def c16_1 : C := .cond (.t 24) (.seq (.reg [iI 4 (.mv (.c (.bool false)))]) .ret) (.skip)
def c16_2 : C := .seq (.reg [iI 16 (.mv (.t 0)), iI 17 (.mv (.t 5)), iI 18 (.iaddr 0 (.t 16) (.t 17)), iI 19 (.load 0 (.t 18)), iI 20 (.mv (.t 1)), iI 21 (.mv (.t 5)), iI 22 (.iaddr 0 (.t 20) (.t 21)), iI 23 (.load 0 (.t 22)), iI 24 (.bin .neq (.t 19) (.t 23))]) c16_1
def c16_3 : C := .reg [iI 25 (.bin .add (.t 13) (.c (.int .i64 1))), iI 13 (.mv (.t 25))]
def c16_4 : C := .seq (.block 1 (.seq (.reg [iI 15 (.mv (.t 13)), iI 5 (.mv (.t 15))]) c16_2)) c16_3
def c16_5 : C := .seq (.cond (.t 14) (.skip) (.exit 0)) c16_4
def c16_6 : C := .block 0 (.loop (.seq (.reg [iI 14 (.bin .lss (.t 13) (.t 12))]) c16_5))
def c16_7 : C := .seq (.reg [iI 4 (.mv (.c (.bool true)))]) .ret
def c16_8 : C := .seq (.seq (.reg [iI 11 (.mv (.t 0)), iI 12 (.len 0 (.t 11)), iI 13 (.mv (.c (.int .i64 0)))]) c16_6) c16_7
def c16_9 : C := .seq (.seq (.reg [iI 6 (.mv (.t 0)), iI 7 (.len 0 (.t 6)), iI 8 (.mv (.t 1)), iI 9 (.len 0 (.t 8)), iI 10 (.bin .neq (.t 7) (.t 9))]) c16_0) c16_8
def ir16 : C := .seq (.reg [iI 4 (.mv (.c (.bool false)))]) c16_9
theorem fd16 : fd? Try.prog 16 = some (26, [.slot 4], ir16) := by kernel_rfl
noncomputable def f16 (s1_229 : (List Int)) (s2_230 : (List Int)) : Option (Bool) :=
  (if (decide (((s1_229.length : Nat) : Int) ≠ ((s2_230.length : Nat) : Int))) = true then (some false) else ((Lp.run (f16_L1 s1_229 s2_230) 0).bind fun r_ => match r_ with | (Sum.inl _) => (some true) | (Sum.inr _) => (some false)))
theorem f16_ok {s1_229 : (List Int)} {s2_230 : (List Int)} {r_ : Bool} (H : f16 s1_229 s2_230 = some r_) : Pure Try.prog 16 [.sl 0 false (s1_229.map (AV.int .i64)), .sl 0 false (s2_230.map (AV.int .i64))] (· = .bool r_) := by
 refine Pure.walk3 fd16 none (Nat.le_of_ble_eq_true rfl) (by rfl) fun Q hQ => ?_
 simp only [f16] at H
 refine AW.rseq ?_
 try simp only [↓wk, ↓wl, nq, evV, ↓reduceIte, sevalprocAttr]
 refine AW.sseq ?_
 refine AW.rseq ?_
 try simp only [↓wk, ↓wl, nq, evV, ↓reduceIte, sevalprocAttr]
 refine AW.ifc H (by rfl) ?_ ?_ <;> clear H <;> intro H
 ·refine AW.rseq ?_
  try simp only [↓wk, ↓wl, nq, evV, ↓reduceIte, sevalprocAttr]
  refine AW.ret ?_
  refine seqQ.ret ?_
  cases H
  exact hQ.fin
 ·refine AW.skip ?_
  refine seqQ.norm ?_
  refine AW.sseq ?_
  refine AW.rseq ?_
  try simp only [↓wk, ↓wl, nq, evV, ↓reduceIte, sevalprocAttr]
  refine AW.bend ?_
  refine AW.iter H ((Le.tz [] [0, 1, 12, 13] (by simp only [f16_L1c, rrm, ↓wk, ↓wl, evV, ↓reduceIte, sevalprocAttr] <;> rfl))) ?_ <;> clear H
  rintro v_236 x_ st0_ H hst_
  rw [f16_L1c] at hst_
  simp only [f16_L1] at H
  subst hst_
  refine AW.rseq ?_
  try simp only [↓wk, ↓wl, nq, evV, ↓reduceIte, sevalprocAttr]
  refine AW.sseq ?_
  refine AW.ifc H (by rfl) ?_ ?_ <;> clear H <;> intro H
  ·refine AW.skip ?_
   refine seqQ.norm ?_
   refine AW.bseq ?_
   refine AW.rseq ?_
   try simp only [↓wk, ↓wl, nq, evV, ↓reduceIte, sevalprocAttr]
   refine AW.rseq ?_
   try simp only [↓wk, ↓wl, nq, evV, ↓reduceIte, sevalprocAttr]
   refine evTs_at (enc := (AV.int .i64)) H (by rfl) (by rfl) ?_ <;> clear H <;> intro x_239 H
   try simp only [↓wk, ↓wl, nq, evV, ↓reduceIte, sevalprocAttr]
   refine evTs_at (enc := (AV.int .i64)) H (by rfl) (by rfl) ?_ <;> clear H <;> intro x_240 H
   try simp only [↓wk, ↓wl, nq, evV, ↓reduceIte, sevalprocAttr]
   refine AW.ifc H (by rfl) ?_ ?_ <;> clear H <;> intro H
   ·refine AW.rseq ?_
    try simp only [↓wk, ↓wl, nq, evV, ↓reduceIte, sevalprocAttr]
    refine AW.ret ?_
    refine blkQ.ret ?_
    refine loopQ.ret H ?_ <;> clear H <;> intro H
    try dsimp only at H
    refine blk0.ret ?_
    refine seqQ.ret ?_
    cases H
    exact hQ.fin
   ·refine AW.skip ?_
    refine blkQ.norm ?_
    refine AW.rend ?_
    try simp only [↓wk, ↓wl, nq, evV, ↓reduceIte, sevalprocAttr]
    exact loopQ.next H ((Le.tz [] [0, 1, 12, 13] (by simp only [f16_L1c, rrm, ↓wk, ↓wl, evV, ↓reduceIte, sevalprocAttr] <;> rfl)))
  ·refine AW.exit ?_
   refine seqQ.exit ?_
   refine loopQ.exit H ?_ <;> clear H <;> intro H
   try dsimp only at H
   refine blk0.here ?_
   refine seqQ.norm ?_
   refine AW.rseq ?_
   try simp only [↓wk, ↓wl, nq, evV, ↓reduceIte, sevalprocAttr]
   refine AW.ret ?_
   cases H
   exact hQ.fin
def c15_0 : C := .seq (.reg [iI 33 (.mv (.t 2)), iI 34 (.mv (.t 4)), iI 35 (.bin .add (.t 33) (.t 34)), iI 36 (.mv (.t 6)), iI 37 (.bin .add (.t 35) (.t 36)), iI 38 (.mv (.t 8)), iI 39 (.bin .add (.t 37) (.t 38)), iI 40 (.mv (.t 10)), iI 41 (.bin .add (.t 39) (.t 40)), iI 42 (.bin .eql (.t 41) (.c (.int .i64 0))), iI 43 (.mv (.t 42)), iG (some 44) 43 true (.mv (.t 1)), iG (some 45) 43 true (.mkslp 0 5 (.int .i64 0) [(0, (.c (.int .i64 0))), (1, (.c (.int .i64 25))), (2, (.c (.int .i64 50))), (3, (.c (.int .i64 75))), (4, (.c (.int .i64 100)))]), iG (some 46) 43 true (.call (.c (.fn 16 [])) [(.t 44), (.t 45)]), iI 47 (.pick (.t 43) (.t 46) (.c (.bool false))), iI 48 (.mv (.t 47)), iG (some 49) 48 true (.mv (.t 3)), iG (some 50) 48 true (.mkslp 0 4 (.int .i64 0) [(0, (.c (.int .i64 0))), (1, (.c (.int .i64 3))), (2, (.c (.int .i64 7))), (3, (.c (.int .i64 10)))]), iG (some 51) 48 true (.call (.c (.fn 16 [])) [(.t 49), (.t 50)]), iI 52 (.pick (.t 48) (.t 51) (.c (.bool false))), iI 53 (.mv (.t 52)), iG (some 54) 53 true (.mv (.t 5)), iG (some 55) 53 true (.mkslp 0 5 (.int .i64 0) [(0, (.c (.int .i64 100))), (1, (.c (.int .i64 50))), (2, (.c (.int .i64 0))), (3, (.c (.int .i64 50))), (4, (.c (.int .i64 100)))]), iG (some 56) 53 true (.call (.c (.fn 16 [])) [(.t 54), (.t 55)]), iI 57 (.pick (.t 53) (.t 56) (.c (.bool false))), iI 58 (.mv (.t 57)), iG (some 59) 58 true (.mv (.t 7)), iG (some 60) 58 true (.mkslp 0 4 (.int .i64 0) [(0, (.c (.int .i64 100))), (1, (.c (.int .i64 0))), (2, (.c (.int .i64 0))), (3, (.c (.int .i64 100)))]), iG (some 61) 58 true (.call (.c (.fn 16 [])) [(.t 59), (.t 60)]), iI 62 (.pick (.t 58) (.t 61) (.c (.bool false))), iI 63 (.mv (.t 62)), iG (some 64) 63 true (.faddr 1 (.t 9)), iG (some 65) 63 true (.load 0 (.t 64)), iG (some 66) 63 true (.mkslp 0 2 (.int .i64 0) [(0, (.c (.int .i64 5))), (1, (.c (.int .i64 1)))]), iG (some 67) 63 true (.call (.c (.fn 16 [])) [(.t 65), (.t 66)]), iI 68 (.pick (.t 63) (.t 67) (.c (.bool false))), iI 69 (.mv (.t 68)), iG (some 70) 69 true (.build [(1, (.int .i64 0)), (1, (.sl 0 true []))] []), iG (some 71) 69 true (.call (.c (.fn 20 [])) [(.t 70)]), iG (some 72) 69 true (.bin .eql (.t 71) (.c (.int .i64 2))), iI 73 (.pick (.t 69) (.t 72) (.c (.bool false))), iI 0 (.mv (.t 73))]) .ret
def c15_1 : C := .seq (.reg [iI 28 (.mkslp 0 4 (.int .i64 0) [(0, (.c (.int .i64 7))), (1, (.c (.int .i64 5))), (2, (.c (.int .i64 9))), (3, (.c (.int .i64 1)))]), iI 29 (.build [(1, (.int .i64 0)), (1, (.sl 0 true []))] [(0, 0, (.c (.int .i64 1))), (1, 0, (.t 28))]), iI 30 (.call (.c (.fn 26 [])) [(.t 29), (.c (.int .i64 2)), (.c (.int .i64 1))]), iI 27 (.mv (.t 30)), iI 31 (.ext (.t 27) 0), iI 32 (.ext (.t 27) 1), iI 9 (.alloc [(1, (.int .i64 0)), (1, (.sl 0 true []))]), iN (.store 2 (.t 9) (.t 31)), iI 10 (.mv (.t 32))]) c15_0
def c15_2 : C := .seq (.reg [iI 24 (.call (.c (.fn 13 [])) [(.c (.int .i64 0)), (.c (.int .i64 100)), (.c (.int .i64 4))]), iI 23 (.mv (.t 24)), iI 25 (.ext (.t 23) 0), iI 26 (.ext (.t 23) 1), iI 7 (.mv (.t 25)), iI 8 (.mv (.t 26))]) c15_1
def c15_3 : C := .seq (.reg [iI 20 (.call (.c (.fn 13 [])) [(.c (.int .i64 0)), (.c (.int .i64 100)), (.c (.int .i64 5))]), iI 19 (.mv (.t 20)), iI 21 (.ext (.t 19) 0), iI 22 (.ext (.t 19) 1), iI 5 (.mv (.t 21)), iI 6 (.mv (.t 22))]) c15_2
def c15_4 : C := .seq (.reg [iI 16 (.call (.c (.fn 11 [])) [(.c (.int .i64 0)), (.c (.int .i64 10)), (.c (.int .i64 4))]), iI 15 (.mv (.t 16)), iI 17 (.ext (.t 15) 0), iI 18 (.ext (.t 15) 1), iI 3 (.mv (.t 17)), iI 4 (.mv (.t 18))]) c15_3
def c15_5 : C := .seq (.reg [iI 12 (.call (.c (.fn 11 [])) [(.c (.int .i64 0)), (.c (.int .i64 100)), (.c (.int .i64 5))]), iI 11 (.mv (.t 12)), iI 13 (.ext (.t 11) 0), iI 14 (.ext (.t 11) 1), iI 1 (.mv (.t 13)), iI 2 (.mv (.t 14))]) c15_4
def ir15 : C := .seq (.reg [iI 0 (.mv (.c (.bool false)))]) c15_5
theorem fd15 : fd? Try.prog 15 = some (74, [.slot 0], ir15) := by kernel_rfl
noncomputable def f15 : Option (Bool) :=
  (f11 0 100 5).bind fun r_176 => (f11 0 10 4).bind fun r_177 => (f13 0 100 5).bind fun r_178 => (f13 0 100 4).bind fun r_179 => (f26 (ApiGroup.mk 1 ([7, 5, 9, 1])) 2 1).bind fun r_228 => (if (decide ((IntKind.i64.wrap ((IntKind.i64.wrap ((IntKind.i64.wrap ((IntKind.i64.wrap (r_176.2 + r_177.2)) + r_178.2)) + r_179.2)) + r_228.2)) = 0)) = true then (f16 r_176.1 ([0, 25, 50, 75, 100])).bind fun r_241 => (if r_241 = true then (f16 r_177.1 ([0, 3, 7, 10])).bind fun r_242 => (if r_242 = true then (f16 r_178.1 ([100, 50, 0, 50, 100])).bind fun r_243 => (if r_243 = true then (f16 r_179.1 ([100, 0, 0, 100])).bind fun r_244 => (if r_244 = true then (f16 r_228.1.fChannels ([5, 1])).bind fun r_245 => (if r_245 = true then (f20 (ApiGroup.mk 0 ([]))).bind fun r_246 => (some (decide (r_246 = 2))) else (some false)) else (some false)) else (some false)) else (some false)) else (some false)) else (some false))
theorem f15_ok {r_ : Bool} (H : f15 = some r_) : Pure Try.prog 15 [] (· = .bool r_) := by
 refine Pure.walk3 fd15 none (Nat.le_of_ble_eq_true rfl) (by rfl) fun Q hQ => ?_
 simp only [f15] at H
 refine AW.rseq ?_
 try simp only [↓wk, ↓wl, nq, evV, ↓reduceIte, sevalprocAttr]
 refine AW.rseq ?_
 try simp only [↓wk, ↓wl, nq, evV, ↓reduceIte, sevalprocAttr]
 refine evTs_pure hFn H (fun _ h => f11_im h) (by rfl) (by rfl) (by rfl) (by rfl) (fun _ => rfl) ?_ <;> clear H <;> intro r_176 H
 try simp only [eL, ↓wk, ↓wl, nq, evV, ↓reduceIte, sevalprocAttr]
 refine AW.rseq ?_
 try simp only [↓wk, ↓wl, nq, evV, ↓reduceIte, sevalprocAttr]
 refine evTs_pure hFn H (fun _ h => f11_im h) (by rfl) (by rfl) (by rfl) (by rfl) (fun _ => rfl) ?_ <;> clear H <;> intro r_177 H
 try simp only [eL, ↓wk, ↓wl, nq, evV, ↓reduceIte, sevalprocAttr]
 refine AW.rseq ?_
 try simp only [↓wk, ↓wl, nq, evV, ↓reduceIte, sevalprocAttr]
 refine evTs_pure hFn H (fun _ h => f13_im h) (by rfl) (by rfl) (by rfl) (by rfl) (fun _ => rfl) ?_ <;> clear H <;> intro r_178 H
 try simp only [eL, ↓wk, ↓wl, nq, evV, ↓reduceIte, sevalprocAttr]
 refine AW.rseq ?_
 try simp only [↓wk, ↓wl, nq, evV, ↓reduceIte, sevalprocAttr]
 refine evTs_pure hFn H (fun _ h => f13_im h) (by rfl) (by rfl) (by rfl) (by rfl) (fun _ => rfl) ?_ <;> clear H <;> intro r_179 H
 try simp only [eL, ↓wk, ↓wl, nq, evV, ↓reduceIte, sevalprocAttr]
 refine AW.rseq ?_
 try simp only [↓wk, ↓wl, nq, evV, ↓reduceIte, sevalprocAttr]
 refine evTs_pure hFn H (fun _ h => f26_ok h) (by rfl) (by rfl) (by rfl) (by rfl) (fun _ => rfl) ?_ <;> clear H <;> intro r_228 H
 try simp only [eL, eApiGroup, ↓wk, ↓wl, nq, evV, ↓reduceIte, sevalprocAttr]
 refine AW.rseq ?_
 try simp only [↓wk, ↓wl, nq, evV, ↓reduceIte, sevalprocAttr]
 refine evTs_ifg H (by rfl) ?_ ?_ <;> clear H <;> intro H
 ·try simp only [↓wk, ↓wl, nq, evV, ↓reduceIte, sevalprocAttr]
  refine evTs_pure hFn H (fun _ h => f16_ok h) (by rfl) (by rfl) (by rfl) (by rfl) (fun _ => rfl) ?_ <;> clear H <;> intro r_241 H
  try simp only [eL, ↓wk, ↓wl, nq, evV, ↓reduceIte, sevalprocAttr]
  refine evTs_ifg H (by rfl) ?_ ?_ <;> clear H <;> intro H
  ·try simp only [↓wk, ↓wl, nq, evV, ↓reduceIte, sevalprocAttr]
   refine evTs_pure hFn H (fun _ h => f16_ok h) (by rfl) (by rfl) (by rfl) (by rfl) (fun _ => rfl) ?_ <;> clear H <;> intro r_242 H
   try simp only [eL, ↓wk, ↓wl, nq, evV, ↓reduceIte, sevalprocAttr]
   refine evTs_ifg H (by rfl) ?_ ?_ <;> clear H <;> intro H
   ·try simp only [↓wk, ↓wl, nq, evV, ↓reduceIte, sevalprocAttr]
    refine evTs_pure hFn H (fun _ h => f16_ok h) (by rfl) (by rfl) (by rfl) (by rfl) (fun _ => rfl) ?_ <;> clear H <;> intro r_243 H
    try simp only [eL, ↓wk, ↓wl, nq, evV, ↓reduceIte, sevalprocAttr]
    refine evTs_ifg H (by rfl) ?_ ?_ <;> clear H <;> intro H
    ·try simp only [↓wk, ↓wl, nq, evV, ↓reduceIte, sevalprocAttr]
     refine evTs_pure hFn H (fun _ h => f16_ok h) (by rfl) (by rfl) (by rfl) (by rfl) (fun _ => rfl) ?_ <;> clear H <;> intro r_244 H
     try simp only [eL, ↓wk, ↓wl, nq, evV, ↓reduceIte, sevalprocAttr]
     refine evTs_ifg H (by rfl) ?_ ?_ <;> clear H <;> intro H
     ·try simp only [↓wk, ↓wl, nq, evV, ↓reduceIte, sevalprocAttr]
      refine evTs_pure hFn H (fun _ h => f16_ok h) (by rfl) (by rfl) (by rfl) (by rfl) (fun _ => rfl) ?_ <;> clear H <;> intro r_245 H
      try simp only [eL, ↓wk, ↓wl, nq, evV, ↓reduceIte, sevalprocAttr]
      refine evTs_ifg H (by rfl) ?_ ?_ <;> clear H <;> intro H
      ·try simp only [↓wk, ↓wl, nq, evV, ↓reduceIte, sevalprocAttr]
       refine evTs_pure hFn H (fun _ h => f20_ok h) (by rfl) (by rfl) (by rfl) (by rfl) (fun _ => rfl) ?_ <;> clear H <;> intro r_246 H
       try simp only [eL, ↓wk, ↓wl, nq, evV, ↓reduceIte, sevalprocAttr]
       refine AW.ret ?_
       cases H
       exact hQ.fin
      ·try simp only [↓wk, ↓wl, nq, evV, ↓reduceIte, sevalprocAttr]
       refine AW.ret ?_
       cases H
       exact hQ.fin
     ·try simp only [↓wk, ↓wl, nq, evV, ↓reduceIte, sevalprocAttr]
      refine AW.ret ?_
      cases H
      exact hQ.fin
    ·try simp only [↓wk, ↓wl, nq, evV, ↓reduceIte, sevalprocAttr]
     refine AW.ret ?_
     cases H
     exact hQ.fin
   ·try simp only [↓wk, ↓wl, nq, evV, ↓reduceIte, sevalprocAttr]
    refine AW.ret ?_
    cases H
    exact hQ.fin
  ·try simp only [↓wk, ↓wl, nq, evV, ↓reduceIte, sevalprocAttr]
   refine AW.ret ?_
   cases H
   exact hQ.fin
 ·try simp only [↓wk, ↓wl, nq, evV, ↓reduceIte, sevalprocAttr]
  refine AW.ret ?_
  cases H
  exact hQ.fin
def c3_0 : C := .seq (.reg [iI 43 (.call (.c (.fn 15 [])) []), iI 44 (.mv (.t 43)), iG (some 45) 44 true (.mv (.t 7)), iG (some 46) 44 true (.mv (.t 9)), iG (some 47) 44 true (.call (.c (.fn 16 [])) [(.t 45), (.t 46)]), iI 48 (.pick (.t 44) (.t 47) (.c (.bool false))), iI 49 (.mv (.t 48)), iG (some 50) 49 true (.mv (.t 8)), iG (some 51) 49 true (.mv (.t 10)), iG (some 52) 49 true (.bin .eql (.t 50) (.t 51)), iI 53 (.pick (.t 49) (.t 52) (.c (.bool false))), iI 54 (.mv (.t 53)), iG (some 55) 54 true (.mv (.t 11)), iG (some 56) 54 true (.mv (.t 13)), iG (some 57) 54 true (.call (.c (.fn 16 [])) [(.t 55), (.t 56)]), iI 58 (.pick (.t 54) (.t 57) (.c (.bool false))), iI 59 (.mv (.t 58)), iG (some 60) 59 true (.mv (.t 12)), iG (some 61) 59 true (.mv (.t 14)), iG (some 62) 59 true (.bin .eql (.t 60) (.t 61)), iI 63 (.pick (.t 59) (.t 62) (.c (.bool false))), iI 6 (.mv (.t 63))]) .ret
def c3_1 : C := .seq (.reg [iI 37 (.mv (.t 0)), iI 38 (.mv (.t 1)), iI 39 (.mv (.t 2)), iI 40 (.call (.c (.fn 14 [])) [(.t 37), (.t 38), (.t 39)]), iI 36 (.mv (.t 40)), iI 41 (.ext (.t 36) 0), iI 42 (.ext (.t 36) 1), iI 13 (.mv (.t 41)), iI 14 (.mv (.t 42))]) c3_0
def c3_2 : C := .seq (.reg [iI 30 (.mv (.t 0)), iI 31 (.mv (.t 1)), iI 32 (.mv (.t 2)), iI 33 (.call (.c (.fn 13 [])) [(.t 30), (.t 31), (.t 32)]), iI 29 (.mv (.t 33)), iI 34 (.ext (.t 29) 0), iI 35 (.ext (.t 29) 1), iI 11 (.mv (.t 34)), iI 12 (.mv (.t 35))]) c3_1
def c3_3 : C := .seq (.reg [iI 23 (.mv (.t 0)), iI 24 (.mv (.t 1)), iI 25 (.mv (.t 2)), iI 26 (.call (.c (.fn 12 [])) [(.t 23), (.t 24), (.t 25)]), iI 22 (.mv (.t 26)), iI 27 (.ext (.t 22) 0), iI 28 (.ext (.t 22) 1), iI 9 (.mv (.t 27)), iI 10 (.mv (.t 28))]) c3_2
def c3_4 : C := .seq (.reg [iI 16 (.mv (.t 0)), iI 17 (.mv (.t 1)), iI 18 (.mv (.t 2)), iI 19 (.call (.c (.fn 11 [])) [(.t 16), (.t 17), (.t 18)]), iI 15 (.mv (.t 19)), iI 20 (.ext (.t 15) 0), iI 21 (.ext (.t 15) 1), iI 7 (.mv (.t 20)), iI 8 (.mv (.t 21))]) c3_3
def ir3 : C := .seq (.reg [iI 6 (.mv (.c (.bool false)))]) c3_4
theorem fd3 : fd? Try.prog 3 = some (64, [.slot 6], ir3) := by kernel_rfl
noncomputable def f3 (from_1 : Int) (to_2 : Int) (n_3 : Int) : Option (Bool) :=
  (f11 from_1 to_2 n_3).bind fun r_82 => (f12 from_1 to_2 n_3).bind fun r_110 => (f13 from_1 to_2 n_3).bind fun r_153 => (f14 from_1 to_2 n_3).bind fun r_175 => (f15).bind fun r_247 => (if r_247 = true then (f16 r_82.1 r_110.1).bind fun r_248 => (if r_248 = true then (if (decide (r_82.2 = r_110.2)) = true then (f16 r_153.1 r_175.1).bind fun r_249 => (if r_249 = true then (some (decide (r_153.2 = r_175.2))) else (some false)) else (some false)) else (some false)) else (some false))
theorem f3_ok {from_1 : Int} {to_2 : Int} {n_3 : Int} {r_ : Bool} (H : f3 from_1 to_2 n_3 = some r_) : Pure Try.prog 3 [.int .i64 from_1, .int .i64 to_2, .int .i64 n_3] (· = .bool r_) := by
 refine Pure.walk3 fd3 none (Nat.le_of_ble_eq_true rfl) (by rfl) fun Q hQ => ?_
 simp only [f3] at H
 refine AW.rseq ?_
 try simp only [↓wk, ↓wl, nq, evV, ↓reduceIte, sevalprocAttr]
 refine AW.rseq ?_
 try simp only [↓wk, ↓wl, nq, evV, ↓reduceIte, sevalprocAttr]
 refine evTs_pure hFn H (fun _ h => f11_im h) (by rfl) (by rfl) (by rfl) (by rfl) (fun _ => rfl) ?_ <;> clear H <;> intro r_82 H
 try simp only [eL, ↓wk, ↓wl, nq, evV, ↓reduceIte, sevalprocAttr]
 refine AW.rseq ?_
 try simp only [↓wk, ↓wl, nq, evV, ↓reduceIte, sevalprocAttr]
 refine evTs_pure hFn H (fun _ h => f12_im h) (by rfl) (by rfl) (by rfl) (by rfl) (fun _ => rfl) ?_ <;> clear H <;> intro r_110 H
 try simp only [eL, ↓wk, ↓wl, nq, evV, ↓reduceIte, sevalprocAttr]
 refine AW.rseq ?_
 try simp only [↓wk, ↓wl, nq, evV, ↓reduceIte, sevalprocAttr]
 refine evTs_pure hFn H (fun _ h => f13_im h) (by rfl) (by rfl) (by rfl) (by rfl) (fun _ => rfl) ?_ <;> clear H <;> intro r_153 H
 try simp only [eL, ↓wk, ↓wl, nq, evV, ↓reduceIte, sevalprocAttr]
 refine AW.rseq ?_
 try simp only [↓wk, ↓wl, nq, evV, ↓reduceIte, sevalprocAttr]
 refine evTs_pure hFn H (fun _ h => f14_im h) (by rfl) (by rfl) (by rfl) (by rfl) (fun _ => rfl) ?_ <;> clear H <;> intro r_175 H
 try simp only [eL, ↓wk, ↓wl, nq, evV, ↓reduceIte, sevalprocAttr]
 refine AW.rseq ?_
 try simp only [↓wk, ↓wl, nq, evV, ↓reduceIte, sevalprocAttr]
 refine evTs_pure hFn H (fun _ h => f15_ok h) (by rfl) (by rfl) (by rfl) (by rfl) (fun _ => rfl) ?_ <;> clear H <;> intro r_247 H
 try simp only [eL, ↓wk, ↓wl, nq, evV, ↓reduceIte, sevalprocAttr]
 refine evTs_ifg H (by rfl) ?_ ?_ <;> clear H <;> intro H
 ·try simp only [↓wk, ↓wl, nq, evV, ↓reduceIte, sevalprocAttr]
  refine evTs_pure hFn H (fun _ h => f16_ok h) (by rfl) (by rfl) (by rfl) (by rfl) (fun _ => rfl) ?_ <;> clear H <;> intro r_248 H
  try simp only [eL, ↓wk, ↓wl, nq, evV, ↓reduceIte, sevalprocAttr]
  refine evTs_ifg H (by rfl) ?_ ?_ <;> clear H <;> intro H
  ·try simp only [↓wk, ↓wl, nq, evV, ↓reduceIte, sevalprocAttr]
   refine evTs_ifg H (by rfl) ?_ ?_ <;> clear H <;> intro H
   ·try simp only [↓wk, ↓wl, nq, evV, ↓reduceIte, sevalprocAttr]
    refine evTs_pure hFn H (fun _ h => f16_ok h) (by rfl) (by rfl) (by rfl) (by rfl) (fun _ => rfl) ?_ <;> clear H <;> intro r_249 H
    try simp only [eL, ↓wk, ↓wl, nq, evV, ↓reduceIte, sevalprocAttr]
    refine evTs_ifg H (by rfl) ?_ ?_ <;> clear H <;> intro H
    ·try simp only [↓wk, ↓wl, nq, evV, ↓reduceIte, sevalprocAttr]
     refine AW.ret ?_
     cases H
     exact hQ.fin
    ·try simp only [↓wk, ↓wl, nq, evV, ↓reduceIte, sevalprocAttr]
     refine AW.ret ?_
     cases H
     exact hQ.fin
   ·try simp only [↓wk, ↓wl, nq, evV, ↓reduceIte, sevalprocAttr]
    refine AW.ret ?_
    cases H
    exact hQ.fin
  ·try simp only [↓wk, ↓wl, nq, evV, ↓reduceIte, sevalprocAttr]
   refine AW.ret ?_
   cases H
   exact hQ.fin
 ·try simp only [↓wk, ↓wl, nq, evV, ↓reduceIte, sevalprocAttr]
  refine AW.ret ?_
  cases H
  exact hQ.fin
noncomputable def f17_L1 (l_252 : (List ApiGroup)) : Lp (Int) ((Unit) ⊕ (Unit)) where
  body := fun i_258 => (if (decide (i_258 < ((l_252.length : Nat) : Int))) = true then (if (decide (i_258 < 60)) = true then (at? l_252 i_258).bind fun x_261 => (if (decide (40 < ((x_261.fChannels.length : Nat) : Int))) = true then (at? l_252 i_258).bind fun x_262 => (if (decide (((x_262.fChannels.length : Nat) : Int) ≤ 256)) = true then (some (.brk (Sum.inr ()))) else (some (.next (IntKind.i64.wrap (i_258 + 1))))) else (some (.next (IntKind.i64.wrap (i_258 + 1))))) else (some (.brk (Sum.inl ())))) else (some (.brk (Sum.inl ()))))
  cst := fun i_258 => ⟨put (put (fun _ => .junk) 3 (.int .i64 i_258)) 0 (.sl 2 false (l_252.map eApiGroup)), []⟩
theorem f17_L1c (l_252 : (List ApiGroup)) (i_258 : Int) : (f17_L1 l_252).cst i_258 = ⟨put (put (fun _ => .junk) 3 (.int .i64 i_258)) 0 (.sl 2 false (l_252.map eApiGroup)), []⟩ := rfl
def c17_0 : C := .cond (.t 11) (.skip) (.exit 0)
def c17_1 : C := .cond (.t 29) (.seq (.reg [iI 2 (.mv (.c (.bool false)))]) .ret) (.skip)
def c17_2 : C := .reg [iI 12 (.mv (.t 3)), iI 13 (.bin .add (.t 12) (.c (.int .i64 1))), iI 3 (.mv (.t 13))]
def c17_3 : C := .seq (.block 1 (.seq (.reg [iI 14 (.mv (.t 0)), iI 15 (.mv (.t 3)), iI 16 (.iaddr 2 (.t 14) (.t 15)), iI 17 (.faddr 1 (.t 16)), iI 18 (.load 0 (.t 17)), iI 19 (.len 0 (.t 18)), iI 20 (.bin .gtr (.t 19) (.c (.int .i64 40))), iI 21 (.mv (.t 20)), iG (some 22) 21 true (.mv (.t 0)), iG (some 23) 21 true (.mv (.t 3)), iG (some 24) 21 true (.iaddr 2 (.t 22) (.t 23)), iG (some 25) 21 true (.faddr 1 (.t 24)), iG (some 26) 21 true (.load 0 (.t 25)), iG (some 27) 21 true (.len 0 (.t 26)), iG (some 28) 21 true (.bin .leq (.t 27) (.c (.int .i64 256))), iI 29 (.pick (.t 21) (.t 28) (.c (.bool false)))]) c17_1)) c17_2
def c17_4 : C := .block 0 (.loop (.seq (.seq (.reg [iI 4 (.mv (.t 3)), iI 5 (.mv (.t 0)), iI 6 (.len 0 (.t 5)), iI 7 (.bin .lss (.t 4) (.t 6)), iI 8 (.mv (.t 7)), iG (some 9) 8 true (.mv (.t 3)), iG (some 10) 8 true (.bin .lss (.t 9) (.c (.int .i64 60))), iI 11 (.pick (.t 8) (.t 10) (.c (.bool false)))]) c17_0) c17_3))
def c17_5 : C := .seq (.reg [iI 30 (.mv (.t 0)), iI 31 (.len 0 (.t 30)), iI 32 (.bin .leq (.t 31) (.c (.int .i64 60))), iI 2 (.mv (.t 32))]) .ret
def c17_6 : C := .seq (.seq (.reg [iI 3 (.mv (.c (.int .i64 0)))]) c17_4) c17_5
def ir17 : C := .seq (.reg [iI 2 (.mv (.c (.bool false)))]) c17_6
theorem fd17 : fd? Try.prog 17 = some (33, [.slot 2], ir17) := by kernel_rfl
noncomputable def f17 (l_252 : (List ApiGroup)) : Option (Bool) :=
  ((Lp.run (f17_L1 l_252) 0).bind fun r_ => match r_ with | (Sum.inl _) => (some (decide (((l_252.length : Nat) : Int) ≤ 60))) | (Sum.inr _) => (some false))
theorem f17_ok {l_252 : (List ApiGroup)} {r_ : Bool} (H : f17 l_252 = some r_) : Pure Try.prog 17 [.sl 2 false (l_252.map eApiGroup)] (· = .bool r_) := by
 refine Pure.walk3 fd17 none (Nat.le_of_ble_eq_true rfl) (by rfl) fun Q hQ => ?_
 simp only [f17] at H
 refine AW.rseq ?_
 try simp only [↓wk, ↓wl, nq, evV, ↓reduceIte, sevalprocAttr]
 refine AW.sseq ?_
 refine AW.rseq ?_
 try simp only [↓wk, ↓wl, nq, evV, ↓reduceIte, sevalprocAttr]
 refine AW.bend ?_
 refine AW.iter H ((Le.tz [] [0, 3] (by simp only [f17_L1c, rrm, ↓wk, ↓wl, evV, ↓reduceIte, sevalprocAttr] <;> rfl))) ?_ <;> clear H
 rintro i_258 x_ st0_ H hst_
 rw [f17_L1c] at hst_
 simp only [f17_L1] at H
 subst hst_
 refine AW.sseq ?_
 refine AW.rseq ?_
 try simp only [↓wk, ↓wl, nq, evV, ↓reduceIte, sevalprocAttr]
 refine evTs_ifg H (by rfl) ?_ ?_ <;> clear H <;> intro H
 ·try simp only [↓wk, ↓wl, nq, evV, ↓reduceIte, sevalprocAttr]
  refine AW.ifc H (by rfl) ?_ ?_ <;> clear H <;> intro H
  ·refine AW.skip ?_
   refine seqQ.norm ?_
   refine AW.bseq ?_
   refine AW.rseq ?_
   try simp only [↓wk, ↓wl, nq, evV, ↓reduceIte, sevalprocAttr]
   refine evTs_at (enc := eApiGroup) H (by rfl) (by rfl) ?_ <;> clear H <;> intro x_261 H
   try simp only [eApiGroup, eL, ↓wk, ↓wl, nq, evV, ↓reduceIte, sevalprocAttr]
   refine evTs_ifg H (by rfl) ?_ ?_ <;> clear H <;> intro H
   ·try simp only [↓wk, ↓wl, nq, evV, ↓reduceIte, sevalprocAttr]
    refine evTs_at (enc := eApiGroup) H (by rfl) (by rfl) ?_ <;> clear H <;> intro x_262 H
    try simp only [eApiGroup, eL, ↓wk, ↓wl, nq, evV, ↓reduceIte, sevalprocAttr]
    refine AW.ifc H (by rfl) ?_ ?_ <;> clear H <;> intro H
    ·refine AW.rseq ?_
     try simp only [↓wk, ↓wl, nq, evV, ↓reduceIte, sevalprocAttr]
     refine AW.ret ?_
     refine blkQ.ret ?_
     refine loopQ.ret H ?_ <;> clear H <;> intro H
     try dsimp only at H
     refine blk0.ret ?_
     refine seqQ.ret ?_
     cases H
     exact hQ.fin
    ·refine AW.skip ?_
     refine blkQ.norm ?_
     refine AW.rend ?_
     try simp only [↓wk, ↓wl, nq, evV, ↓reduceIte, sevalprocAttr]
     exact loopQ.next H ((Le.tz [] [0, 3] (by simp only [f17_L1c, rrm, ↓wk, ↓wl, evV, ↓reduceIte, sevalprocAttr] <;> rfl)))
   ·try simp only [↓wk, ↓wl, nq, evV, ↓reduceIte, sevalprocAttr]
    refine AW.iff (by rfl) ?_
    refine AW.skip ?_
    refine blkQ.norm ?_
    refine AW.rend ?_
    try simp only [↓wk, ↓wl, nq, evV, ↓reduceIte, sevalprocAttr]
    exact loopQ.next H ((Le.tz [] [0, 3] (by simp only [f17_L1c, rrm, ↓wk, ↓wl, evV, ↓reduceIte, sevalprocAttr] <;> rfl)))
  ·refine AW.exit ?_
   refine seqQ.exit ?_
   refine loopQ.exit H ?_ <;> clear H <;> intro H
   try dsimp only at H
   refine blk0.here ?_
   refine seqQ.norm ?_
   refine AW.rseq ?_
   try simp only [↓wk, ↓wl, nq, evV, ↓reduceIte, sevalprocAttr]
   refine AW.ret ?_
   cases H
   exact hQ.fin
 ·try simp only [↓wk, ↓wl, nq, evV, ↓reduceIte, sevalprocAttr]
  refine AW.iff (by rfl) ?_
  refine AW.exit ?_
  refine seqQ.exit ?_
  refine loopQ.exit H ?_ <;> clear H <;> intro H
  try dsimp only at H
  refine blk0.here ?_
  refine seqQ.norm ?_
  refine AW.rseq ?_
  try simp only [↓wk, ↓wl, nq, evV, ↓reduceIte, sevalprocAttr]
  refine AW.ret ?_
  cases H
  exact hQ.fin
def c18_0 : C := .seq (.reg [iI 5 (.faddr 0 (.t 2)), iI 6 (.load 0 (.t 5)), iI 7 (.faddr 0 (.t 3)), iI 8 (.load 0 (.t 7)), iI 9 (.bin .eql (.t 6) (.t 8)), iI 10 (.mv (.t 9)), iG (some 11) 10 true (.faddr 1 (.t 2)), iG (some 12) 10 true (.load 0 (.t 11)), iG (some 13) 10 true (.faddr 1 (.t 3)), iG (some 14) 10 true (.load 0 (.t 13)), iG (some 15) 10 true (.call (.c (.fn 16 [])) [(.t 12), (.t 14)]), iI 16 (.pick (.t 10) (.t 15) (.c (.bool false))), iI 4 (.mv (.t 16))]) .ret
def ir18 : C := .seq (.reg [iI 2 (.box (.t 0)), iI 3 (.box (.t 1)), iI 4 (.mv (.c (.bool false)))]) c18_0
theorem fd18 : fd? Try.prog 18 = some (17, [.slot 4], ir18) := by kernel_rfl
noncomputable def f18 (a_272 : ApiGroup) (b_273 : ApiGroup) : Option (Bool) :=
  (if (decide (a_272.fNumber = b_273.fNumber)) = true then (f16 a_272.fChannels b_273.fChannels).bind fun r_274 => (some r_274) else (some false))
theorem f18_ok {a_272 : ApiGroup} {b_273 : ApiGroup} {r_ : Bool} (H : f18 a_272 b_273 = some r_) : Pure Try.prog 18 [.agg [.int .i64 a_272.fNumber, .sl 0 false (a_272.fChannels.map (AV.int .i64))], .agg [.int .i64 b_273.fNumber, .sl 0 false (b_273.fChannels.map (AV.int .i64))]] (· = .bool r_) := by
 refine Pure.walk3 fd18 none (Nat.le_of_ble_eq_true rfl) (by rfl) fun Q hQ => ?_
 simp only [f18] at H
 refine AW.rseq ?_
 try simp only [↓wk, ↓wl, nq, evV, ↓reduceIte, sevalprocAttr]
 refine AW.rseq ?_
 try simp only [↓wk, ↓wl, nq, evV, ↓reduceIte, sevalprocAttr]
 refine evTs_ifg H (by rfl) ?_ ?_ <;> clear H <;> intro H
 ·try simp only [↓wk, ↓wl, nq, evV, ↓reduceIte, sevalprocAttr]
  refine evTs_pure hFn H (fun _ h => f16_ok h) (by rfl) (by rfl) (by rfl) (by rfl) (fun _ => rfl) ?_ <;> clear H <;> intro r_274 H
  try simp only [eL, ↓wk, ↓wl, nq, evV, ↓reduceIte, sevalprocAttr]
  refine AW.ret ?_
  cases H
  exact hQ.fin
 ·try simp only [↓wk, ↓wl, nq, evV, ↓reduceIte, sevalprocAttr]
  refine AW.ret ?_
  cases H
  exact hQ.fin
noncomputable def f43_L1 (a_278 : (List Int)) (b_279 : (List Int)) : Lp (Int) ((Unit) ⊕ (Unit)) where
  body := fun i_285 => (if (decide (i_285 < ((a_278.length : Nat) : Int))) = true then (at? a_278 i_285).bind fun x_288 => (at? b_279 i_285).bind fun x_289 => (if (decide (x_288 ≠ x_289)) = true then (some (.brk (Sum.inr ()))) else (some (.next (IntKind.i64.wrap (i_285 + 1))))) else (some (.brk (Sum.inl ()))))
  cst := fun i_285 => ⟨put (put (put (fun _ => .junk) 5 (.int .i64 i_285)) 1 (.sl 0 false (b_279.map (AV.int .i64)))) 0 (.sl 0 false (a_278.map (AV.int .i64))), []⟩
theorem f43_L1c (a_278 : (List Int)) (b_279 : (List Int)) (i_285 : Int) : (f43_L1 a_278 b_279).cst i_285 = ⟨put (put (put (fun _ => .junk) 5 (.int .i64 i_285)) 1 (.sl 0 false (b_279.map (AV.int .i64)))) 0 (.sl 0 false (a_278.map (AV.int .i64))), []⟩ := rfl
def c43_0 : C := .cond (.t 10) (.seq (.reg [iI 4 (.mv (.c (.bool false)))]) .ret) (.skip)
def c43_1 : C := .cond (.t 14) (.skip) (.exit 0)
def c43_2 : C := .cond (.t 25) (.seq (.reg [iI 4 (.mv (.c (.bool false)))]) .ret) (.skip)
def c43_3 : C := .reg [iI 15 (.mv (.t 5)), iI 16 (.bin .add (.t 15) (.c (.int .i64 1))), iI 5 (.mv (.t 16))]
def c43_4 : C := .seq (.block 1 (.seq (.reg [iI 17 (.mv (.t 0)), iI 18 (.mv (.t 5)), iI 19 (.iaddr 0 (.t 17) (.t 18)), iI 20 (.load 0 (.t 19)), iI 21 (.mv (.t 1)), iI 22 (.mv (.t 5)), iI 23 (.iaddr 0 (.t 21) (.t 22)), iI 24 (.load 0 (.t 23)), iI 25 (.bin .neq (.t 20) (.t 24))]) c43_2)) c43_3
def c43_5 : C := .block 0 (.loop (.seq (.seq (.reg [iI 11 (.mv (.t 5)), iI 12 (.mv (.t 0)), iI 13 (.len 0 (.t 12)), iI 14 (.bin .lss (.t 11) (.t 13))]) c43_1) c43_4))
def c43_6 : C := .seq (.reg [iI 4 (.mv (.c (.bool true)))]) .ret
def c43_7 : C := .seq (.seq (.reg [iI 5 (.mv (.c (.int .i64 0)))]) c43_5) c43_6
def c43_8 : C := .seq (.seq (.reg [iI 6 (.mv (.t 0)), iI 7 (.len 0 (.t 6)), iI 8 (.mv (.t 1)), iI 9 (.len 0 (.t 8)), iI 10 (.bin .neq (.t 7) (.t 9))]) c43_0) c43_7
def ir43 : C := .seq (.reg [iI 4 (.mv (.c (.bool false)))]) c43_8
theorem fd43 : fd? Try.prog 43 = some (26, [.slot 4], ir43) := by kernel_rfl
noncomputable def f43 (a_278 : (List Int)) (b_279 : (List Int)) : Option (Bool) :=
  (if (decide (((a_278.length : Nat) : Int) ≠ ((b_279.length : Nat) : Int))) = true then (some false) else ((Lp.run (f43_L1 a_278 b_279) 0).bind fun r_ => match r_ with | (Sum.inl _) => (some true) | (Sum.inr _) => (some false)))
theorem f43_ok {a_278 : (List Int)} {b_279 : (List Int)} {r_ : Bool} (H : f43 a_278 b_279 = some r_) : Pure Try.prog 43 [.sl 0 false (a_278.map (AV.int .i64)), .sl 0 false (b_279.map (AV.int .i64))] (· = .bool r_) := by
 refine Pure.walk3 fd43 none (Nat.le_of_ble_eq_true rfl) (by rfl) fun Q hQ => ?_
 simp only [f43] at H
 refine AW.rseq ?_
 try simp only [↓wk, ↓wl, nq, evV, ↓reduceIte, sevalprocAttr]
 refine AW.sseq ?_
 refine AW.rseq ?_
 try simp only [↓wk, ↓wl, nq, evV, ↓reduceIte, sevalprocAttr]
 refine AW.ifc H (by rfl) ?_ ?_ <;> clear H <;> intro H
 ·refine AW.rseq ?_
  try simp only [↓wk, ↓wl, nq, evV, ↓reduceIte, sevalprocAttr]
  refine AW.ret ?_
  refine seqQ.ret ?_
  cases H
  exact hQ.fin
 ·refine AW.skip ?_
  refine seqQ.norm ?_
  refine AW.sseq ?_
  refine AW.rseq ?_
  try simp only [↓wk, ↓wl, nq, evV, ↓reduceIte, sevalprocAttr]
  refine AW.bend ?_
  refine AW.iter H ((Le.tz [] [0, 1, 5] (by simp only [f43_L1c, rrm, ↓wk, ↓wl, evV, ↓reduceIte, sevalprocAttr] <;> rfl))) ?_ <;> clear H
  rintro i_285 x_ st0_ H hst_
  rw [f43_L1c] at hst_
  simp only [f43_L1] at H
  subst hst_
  refine AW.sseq ?_
  refine AW.rseq ?_
  try simp only [↓wk, ↓wl, nq, evV, ↓reduceIte, sevalprocAttr]
  refine AW.ifc H (by rfl) ?_ ?_ <;> clear H <;> intro H
  ·refine AW.skip ?_
   refine seqQ.norm ?_
   refine AW.bseq ?_
   refine AW.rseq ?_
   try simp only [↓wk, ↓wl, nq, evV, ↓reduceIte, sevalprocAttr]
   refine evTs_at (enc := (AV.int .i64)) H (by rfl) (by rfl) ?_ <;> clear H <;> intro x_288 H
   try simp only [↓wk, ↓wl, nq, evV, ↓reduceIte, sevalprocAttr]
   refine evTs_at (enc := (AV.int .i64)) H (by rfl) (by rfl) ?_ <;> clear H <;> intro x_289 H
   try simp only [↓wk, ↓wl, nq, evV, ↓reduceIte, sevalprocAttr]
   refine AW.ifc H (by rfl) ?_ ?_ <;> clear H <;> intro H
   ·refine AW.rseq ?_
    try simp only [↓wk, ↓wl, nq, evV, ↓reduceIte, sevalprocAttr]
    refine AW.ret ?_
    refine blkQ.ret ?_
    refine loopQ.ret H ?_ <;> clear H <;> intro H
    try dsimp only at H
    refine blk0.ret ?_
    refine seqQ.ret ?_
    cases H
    exact hQ.fin
   ·refine AW.skip ?_
    refine blkQ.norm ?_
    refine AW.rend ?_
    try simp only [↓wk, ↓wl, nq, evV, ↓reduceIte, sevalprocAttr]
    exact loopQ.next H ((Le.tz [] [0, 1, 5] (by simp only [f43_L1c, rrm, ↓wk, ↓wl, evV, ↓reduceIte, sevalprocAttr] <;> rfl)))
  ·refine AW.exit ?_
   refine seqQ.exit ?_
   refine loopQ.exit H ?_ <;> clear H <;> intro H
   try dsimp only at H
   refine blk0.here ?_
   refine seqQ.norm ?_
   refine AW.rseq ?_
   try simp only [↓wk, ↓wl, nq, evV, ↓reduceIte, sevalprocAttr]
   refine AW.ret ?_
   cases H
   exact hQ.fin
def c19_0 : C := .seq (.reg [iI 5 (.faddr 0 (.t 2)), iI 6 (.load 0 (.t 5)), iI 7 (.faddr 0 (.t 3)), iI 8 (.load 0 (.t 7)), iI 9 (.bin .eql (.t 6) (.t 8)), iI 10 (.mv (.t 9)), iG (some 11) 10 true (.faddr 1 (.t 2)), iG (some 12) 10 true (.load 0 (.t 11)), iG (some 13) 10 true (.faddr 1 (.t 3)), iG (some 14) 10 true (.load 0 (.t 13)), iG (some 15) 10 true (.call (.c (.fn 43 [])) [(.t 12), (.t 14)]), iI 16 (.pick (.t 10) (.t 15) (.c (.bool false))), iI 4 (.mv (.t 16))]) .ret
def ir19 : C := .seq (.reg [iI 2 (.box (.t 0)), iI 3 (.box (.t 1)), iI 4 (.mv (.c (.bool false)))]) c19_0
theorem fd19 : fd? Try.prog 19 = some (17, [.slot 4], ir19) := by kernel_rfl
noncomputable def f19 (a_276 : ApiGroup) (b_277 : ApiGroup) : Option (Bool) :=
  (if (decide (a_276.fNumber = b_277.fNumber)) = true then (f43 a_276.fChannels b_277.fChannels).bind fun r_290 => (some r_290) else (some false))
theorem f19_ok {a_276 : ApiGroup} {b_277 : ApiGroup} {r_ : Bool} (H : f19 a_276 b_277 = some r_) : Pure Try.prog 19 [.agg [.int .i64 a_276.fNumber, .sl 0 false (a_276.fChannels.map (AV.int .i64))], .agg [.int .i64 b_277.fNumber, .sl 0 false (b_277.fChannels.map (AV.int .i64))]] (· = .bool r_) := by
 refine Pure.walk3 fd19 none (Nat.le_of_ble_eq_true rfl) (by rfl) fun Q hQ => ?_
 simp only [f19] at H
 refine AW.rseq ?_
 try simp only [↓wk, ↓wl, nq, evV, ↓reduceIte, sevalprocAttr]
 refine AW.rseq ?_
 try simp only [↓wk, ↓wl, nq, evV, ↓reduceIte, sevalprocAttr]
 refine evTs_ifg H (by rfl) ?_ ?_ <;> clear H <;> intro H
 ·try simp only [↓wk, ↓wl, nq, evV, ↓reduceIte, sevalprocAttr]
  refine evTs_pure hFn H (fun _ h => f43_ok h) (by rfl) (by rfl) (by rfl) (by rfl) (fun _ => rfl) ?_ <;> clear H <;> intro r_290 H
  try simp only [eL, ↓wk, ↓wl, nq, evV, ↓reduceIte, sevalprocAttr]
  refine AW.ret ?_
  cases H
  exact hQ.fin
 ·try simp only [↓wk, ↓wl, nq, evV, ↓reduceIte, sevalprocAttr]
  refine AW.ret ?_
  cases H
  exact hQ.fin
noncomputable def f45_L1 (l_320 : (List Int)) (v_321 : Int) : Lp (Int) ((Unit) ⊕ (Unit)) where
  body := fun i_325 => (if (decide (i_325 < ((l_320.length : Nat) : Int))) = true then (at? l_320 i_325).bind fun x_327 => (if (decide (x_327 = v_321)) = true then (some (.brk (Sum.inr ()))) else (some (.next (IntKind.i64.wrap (i_325 + 1))))) else (some (.brk (Sum.inl ()))))
  cst := fun i_325 => ⟨put (put (put (fun _ => .junk) 5 (.int .i64 i_325)) 1 (.int .i64 v_321)) 0 (.sl 0 false (l_320.map (AV.int .i64))), []⟩
theorem f45_L1c (l_320 : (List Int)) (v_321 : Int) (i_325 : Int) : (f45_L1 l_320 v_321).cst i_325 = ⟨put (put (put (fun _ => .junk) 5 (.int .i64 i_325)) 1 (.int .i64 v_321)) 0 (.sl 0 false (l_320.map (AV.int .i64))), []⟩ := rfl
def c45_0 : C := .cond (.t 9) (.skip) (.exit 0)
def c45_1 : C := .cond (.t 17) (.seq (.reg [iI 4 (.mv (.c (.bool true)))]) .ret) (.skip)
def c45_2 : C := .reg [iI 10 (.mv (.t 5)), iI 11 (.bin .add (.t 10) (.c (.int .i64 1))), iI 5 (.mv (.t 11))]
def c45_3 : C := .seq (.block 1 (.seq (.reg [iI 12 (.mv (.t 0)), iI 13 (.mv (.t 5)), iI 14 (.iaddr 0 (.t 12) (.t 13)), iI 15 (.load 0 (.t 14)), iI 16 (.mv (.t 1)), iI 17 (.bin .eql (.t 15) (.t 16))]) c45_1)) c45_2
def c45_4 : C := .block 0 (.loop (.seq (.seq (.reg [iI 6 (.mv (.t 5)), iI 7 (.mv (.t 0)), iI 8 (.len 0 (.t 7)), iI 9 (.bin .lss (.t 6) (.t 8))]) c45_0) c45_3))
def c45_5 : C := .seq (.reg [iI 4 (.mv (.c (.bool false)))]) .ret
def c45_6 : C := .seq (.seq (.reg [iI 5 (.mv (.c (.int .i64 0)))]) c45_4) c45_5
def ir45 : C := .seq (.reg [iI 4 (.mv (.c (.bool false)))]) c45_6
theorem fd45 : fd? Try.prog 45 = some (18, [.slot 4], ir45) := by kernel_rfl
noncomputable def f45 (l_320 : (List Int)) (v_321 : Int) : Option (Bool) :=
  ((Lp.run (f45_L1 l_320 v_321) 0).bind fun r_ => match r_ with | (Sum.inl _) => (some false) | (Sum.inr _) => (some true))
theorem f45_ok {l_320 : (List Int)} {v_321 : Int} {r_ : Bool} (H : f45 l_320 v_321 = some r_) : Pure Try.prog 45 [.sl 0 false (l_320.map (AV.int .i64)), .int .i64 v_321] (· = .bool r_) := by
 refine Pure.walk3 fd45 none (Nat.le_of_ble_eq_true rfl) (by rfl) fun Q hQ => ?_
 simp only [f45] at H
 refine AW.rseq ?_
 try simp only [↓wk, ↓wl, nq, evV, ↓reduceIte, sevalprocAttr]
 refine AW.sseq ?_
 refine AW.rseq ?_
 try simp only [↓wk, ↓wl, nq, evV, ↓reduceIte, sevalprocAttr]
 refine AW.bend ?_
 refine AW.iter H ((Le.tz [] [0, 1, 5] (by simp only [f45_L1c, rrm, ↓wk, ↓wl, evV, ↓reduceIte, sevalprocAttr] <;> rfl))) ?_ <;> clear H
 rintro i_325 x_ st0_ H hst_
 rw [f45_L1c] at hst_
 simp only [f45_L1] at H
 subst hst_
 refine AW.sseq ?_
 refine AW.rseq ?_
 try simp only [↓wk, ↓wl, nq, evV, ↓reduceIte, sevalprocAttr]
 refine AW.ifc H (by rfl) ?_ ?_ <;> clear H <;> intro H
 ·refine AW.skip ?_
  refine seqQ.norm ?_
  refine AW.bseq ?_
  refine AW.rseq ?_
  try simp only [↓wk, ↓wl, nq, evV, ↓reduceIte, sevalprocAttr]
  refine evTs_at (enc := (AV.int .i64)) H (by rfl) (by rfl) ?_ <;> clear H <;> intro x_327 H
  try simp only [↓wk, ↓wl, nq, evV, ↓reduceIte, sevalprocAttr]
  refine AW.ifc H (by rfl) ?_ ?_ <;> clear H <;> intro H
  ·refine AW.rseq ?_
   try simp only [↓wk, ↓wl, nq, evV, ↓reduceIte, sevalprocAttr]
   refine AW.ret ?_
   refine blkQ.ret ?_
   refine loopQ.ret H ?_ <;> clear H <;> intro H
   try dsimp only at H
   refine blk0.ret ?_
   refine seqQ.ret ?_
   cases H
   exact hQ.fin
  ·refine AW.skip ?_
   refine blkQ.norm ?_
   refine AW.rend ?_
   try simp only [↓wk, ↓wl, nq, evV, ↓reduceIte, sevalprocAttr]
   exact loopQ.next H ((Le.tz [] [0, 1, 5] (by simp only [f45_L1c, rrm, ↓wk, ↓wl, evV, ↓reduceIte, sevalprocAttr] <;> rfl)))
 ·refine AW.exit ?_
  refine seqQ.exit ?_
  refine loopQ.exit H ?_ <;> clear H <;> intro H
  try dsimp only at H
  refine blk0.here ?_
  refine seqQ.norm ?_
  refine AW.rseq ?_
  try simp only [↓wk, ↓wl, nq, evV, ↓reduceIte, sevalprocAttr]
  refine AW.ret ?_
  cases H
  exact hQ.fin
noncomputable def f21_L1 (g_313 : ApiGroup) : Lp (Int) ((Unit) ⊕ (Int)) where
  body := fun i_337 => (if (decide (i_337 < ((g_313.fChannels.length : Nat) : Int))) = true then (at? g_313.fChannels i_337).bind fun x_348 => (if (decide (x_348 < 1)) = true then (some (.brk (Sum.inr 2))) else (at? g_313.fChannels i_337).bind fun x_349 => (if (decide (999 < x_349)) = true then (some (.brk (Sum.inr 2))) else (slc? g_313.fChannels 0 i_337).bind fun s_350 => (at? g_313.fChannels i_337).bind fun x_351 => (f45 s_350 x_351).bind fun r_352 => (if r_352 = true then (some (.brk (Sum.inr 7))) else (some (.next (IntKind.i64.wrap (i_337 + 1))))))) else (some (.brk (Sum.inl ()))))
  cst := fun i_337 => ⟨put (put (fun _ => .junk) 3 (.int .i64 i_337)) 1 (.ptr 0 0), [.cel [.int .i64 g_313.fNumber, .sl 0 false (g_313.fChannels.map (AV.int .i64))]]⟩
theorem f21_L1c (g_313 : ApiGroup) (i_337 : Int) : (f21_L1 g_313).cst i_337 = ⟨put (put (fun _ => .junk) 3 (.int .i64 i_337)) 1 (.ptr 0 0), [.cel [.int .i64 g_313.fNumber, .sl 0 false (g_313.fChannels.map (AV.int .i64))]]⟩ := rfl
def c21_0 : C := .cond (.t 11) (.seq (.reg [iI 2 (.mv (.c (.int .i64 2)))]) .ret) (.skip)
def c21_1 : C := .cond (.t 15) (.seq (.reg [iI 2 (.mv (.c (.int .i64 5)))]) .ret) (.skip)
def c21_2 : C := .cond (.t 20) (.skip) (.exit 0)
def c21_3 : C := .cond (.t 36) (.seq (.reg [iI 2 (.mv (.c (.int .i64 2)))]) .ret) (.skip)
def c21_4 : C := .cond (.t 46) (.seq (.reg [iI 2 (.mv (.c (.int .i64 7)))]) .ret) (.skip)
def c21_5 : C := .seq (.reg [iI 37 (.faddr 1 (.t 1)), iI 38 (.load 0 (.t 37)), iI 39 (.mv (.t 3)), iI 40 (.slice 0 (.t 38) none (some (.t 39))), iI 41 (.faddr 1 (.t 1)), iI 42 (.load 0 (.t 41)), iI 43 (.mv (.t 3)), iI 44 (.iaddr 0 (.t 42) (.t 43)), iI 45 (.load 0 (.t 44)), iI 46 (.call (.c (.fn 45 [])) [(.t 40), (.t 45)])]) c21_4
def c21_6 : C := .reg [iI 21 (.mv (.t 3)), iI 22 (.bin .add (.t 21) (.c (.int .i64 1))), iI 3 (.mv (.t 22))]
def c21_7 : C := .seq (.block 1 (.seq (.seq (.reg [iI 23 (.faddr 1 (.t 1)), iI 24 (.load 0 (.t 23)), iI 25 (.mv (.t 3)), iI 26 (.iaddr 0 (.t 24) (.t 25)), iI 27 (.load 0 (.t 26)), iI 28 (.bin .lss (.t 27) (.c (.int .i64 1))), iI 29 (.mv (.t 28)), iG (some 30) 29 false (.faddr 1 (.t 1)), iG (some 31) 29 false (.load 0 (.t 30)), iG (some 32) 29 false (.mv (.t 3)), iG (some 33) 29 false (.iaddr 0 (.t 31) (.t 32)), iG (some 34) 29 false (.load 0 (.t 33)), iG (some 35) 29 false (.bin .gtr (.t 34) (.c (.int .i64 999))), iI 36 (.pick (.t 29) (.c (.bool true)) (.t 35))]) c21_3) c21_5)) c21_6
def c21_8 : C := .block 0 (.loop (.seq (.seq (.reg [iI 16 (.mv (.t 3)), iI 17 (.faddr 1 (.t 1)), iI 18 (.load 0 (.t 17)), iI 19 (.len 0 (.t 18)), iI 20 (.bin .lss (.t 16) (.t 19))]) c21_2) c21_7))
def c21_9 : C := .seq (.reg [iI 2 (.mv (.c (.int .i64 0)))]) .ret
def c21_10 : C := .seq (.seq (.reg [iI 3 (.mv (.c (.int .i64 0)))]) c21_8) c21_9
def c21_11 : C := .seq (.seq (.reg [iI 12 (.faddr 1 (.t 1)), iI 13 (.load 0 (.t 12)), iI 14 (.len 0 (.t 13)), iI 15 (.bin .gtr (.t 14) (.c (.int .i64 256)))]) c21_1) c21_10
def c21_12 : C := .seq (.seq (.reg [iI 4 (.faddr 0 (.t 1)), iI 5 (.load 0 (.t 4)), iI 6 (.bin .lss (.t 5) (.c (.int .i64 1))), iI 7 (.mv (.t 6)), iG (some 8) 7 false (.faddr 0 (.t 1)), iG (some 9) 7 false (.load 0 (.t 8)), iG (some 10) 7 false (.bin .gtr (.t 9) (.c (.int .i64 1048576))), iI 11 (.pick (.t 7) (.c (.bool true)) (.t 10))]) c21_0) c21_11
def ir21 : C := .seq (.reg [iI 1 (.box (.t 0)), iI 2 (.mv (.c (.int .i64 0)))]) c21_12
theorem fd21 : fd? Try.prog 21 = some (47, [.slot 2], ir21) := by kernel_rfl
noncomputable def f21 (g_313 : ApiGroup) : Option (Int) :=
  (if (decide (g_313.fNumber < 1)) = true then (some 2) else (if (decide (1048576 < g_313.fNumber)) = true then (some 2) else (if (decide (256 < ((g_313.fChannels.length : Nat) : Int))) = true then (some 5) else ((Lp.run (f21_L1 g_313) 0).bind fun r_ => match r_ with | (Sum.inl _) => (some 0) | (Sum.inr v_345) => (some v_345)))))
theorem f21_ok {g_313 : ApiGroup} {r_ : Int} (H : f21 g_313 = some r_) : Pure Try.prog 21 [.agg [.int .i64 g_313.fNumber, .sl 0 false (g_313.fChannels.map (AV.int .i64))]] (· = .int .i64 r_) := by
 refine Pure.walk3 fd21 none (Nat.le_of_ble_eq_true rfl) (by rfl) fun Q hQ => ?_
 simp only [f21] at H
 refine AW.rseq ?_
 try simp only [↓wk, ↓wl, nq, evV, ↓reduceIte, sevalprocAttr]
 refine AW.sseq ?_
 refine AW.rseq ?_
 try simp only [↓wk, ↓wl, nq, evV, ↓reduceIte, sevalprocAttr]
 refine evTs_ifg H (by rfl) ?_ ?_ <;> clear H <;> intro H
 ·try simp only [↓wk, ↓wl, nq, evV, ↓reduceIte, sevalprocAttr]
  refine AW.ift (by rfl) ?_
  refine AW.rseq ?_
  try simp only [↓wk, ↓wl, nq, evV, ↓reduceIte, sevalprocAttr]
  refine AW.ret ?_
  refine seqQ.ret ?_
  cases H
  exact hQ.fin
 ·try simp only [↓wk, ↓wl, nq, evV, ↓reduceIte, sevalprocAttr]
  refine AW.ifc H (by rfl) ?_ ?_ <;> clear H <;> intro H
  ·refine AW.rseq ?_
   try simp only [↓wk, ↓wl, nq, evV, ↓reduceIte, sevalprocAttr]
   refine AW.ret ?_
   refine seqQ.ret ?_
   cases H
   exact hQ.fin
  ·refine AW.skip ?_
   refine seqQ.norm ?_
   refine AW.sseq ?_
   refine AW.rseq ?_
   try simp only [↓wk, ↓wl, nq, evV, ↓reduceIte, sevalprocAttr]
   refine AW.ifc H (by rfl) ?_ ?_ <;> clear H <;> intro H
   ·refine AW.rseq ?_
    try simp only [↓wk, ↓wl, nq, evV, ↓reduceIte, sevalprocAttr]
    refine AW.ret ?_
    refine seqQ.ret ?_
    cases H
    exact hQ.fin
   ·refine AW.skip ?_
    refine seqQ.norm ?_
    refine AW.sseq ?_
    refine AW.rseq ?_
    try simp only [↓wk, ↓wl, nq, evV, ↓reduceIte, sevalprocAttr]
    refine AW.bend ?_
    refine AW.iter H ((Le.tz [0] [1, 3] (by simp only [f21_L1c, rrm, ↓wk, ↓wl, evV, ↓reduceIte, sevalprocAttr] <;> rfl))) ?_ <;> clear H
    rintro i_337 x_ st0_ H hst_
    rw [f21_L1c] at hst_
    simp only [f21_L1] at H
    subst hst_
    refine AW.sseq ?_
    refine AW.rseq ?_
    try simp only [↓wk, ↓wl, nq, evV, ↓reduceIte, sevalprocAttr]
    refine AW.ifc H (by rfl) ?_ ?_ <;> clear H <;> intro H
    ·refine AW.skip ?_
     refine seqQ.norm ?_
     refine AW.bseq ?_
     refine AW.sseq ?_
     refine AW.rseq ?_
     try simp only [↓wk, ↓wl, nq, evV, ↓reduceIte, sevalprocAttr]
     refine evTs_at (enc := (AV.int .i64)) H (by rfl) (by rfl) ?_ <;> clear H <;> intro x_348 H
     try simp only [↓wk, ↓wl, nq, evV, ↓reduceIte, sevalprocAttr]
     refine evTs_ifg H (by rfl) ?_ ?_ <;> clear H <;> intro H
     ·try simp only [↓wk, ↓wl, nq, evV, ↓reduceIte, sevalprocAttr]
      refine AW.ift (by rfl) ?_
      refine AW.rseq ?_
      try simp only [↓wk, ↓wl, nq, evV, ↓reduceIte, sevalprocAttr]
      refine AW.ret ?_
      refine seqQ.ret ?_
      refine blkQ.ret ?_
      refine loopQ.ret H ?_ <;> clear H <;> intro H
      try dsimp only at H
      refine blk0.ret ?_
      refine seqQ.ret ?_
      cases H
      exact hQ.fin
     ·try simp only [↓wk, ↓wl, nq, evV, ↓reduceIte, sevalprocAttr]
      refine evTs_at (enc := (AV.int .i64)) H (by rfl) (by rfl) ?_ <;> clear H <;> intro x_349 H
      try simp only [↓wk, ↓wl, nq, evV, ↓reduceIte, sevalprocAttr]
      refine AW.ifc H (by rfl) ?_ ?_ <;> clear H <;> intro H
      ·refine AW.rseq ?_
       try simp only [↓wk, ↓wl, nq, evV, ↓reduceIte, sevalprocAttr]
       refine AW.ret ?_
       refine seqQ.ret ?_
       refine blkQ.ret ?_
       refine loopQ.ret H ?_ <;> clear H <;> intro H
       try dsimp only at H
       refine blk0.ret ?_
       refine seqQ.ret ?_
       cases H
       exact hQ.fin
      ·refine AW.skip ?_
       refine seqQ.norm ?_
       refine AW.rseq ?_
       try simp only [↓wk, ↓wl, nq, evV, ↓reduceIte, sevalprocAttr]
       refine evTs_slc (enc := (AV.int .i64)) H (by rfl) (by rfl) (by simp only [loI, hiI, ↓wk, ↓wl, nq, evV, ↓reduceIte, sevalprocAttr]; rfl) (by simp only [loI, hiI, ↓wk, ↓wl, nq, evV, ↓reduceIte, sevalprocAttr]; rfl) ?_ <;> clear H <;> intro s_350 H
       try simp only [↓wk, ↓wl, nq, evV, ↓reduceIte, sevalprocAttr]
       refine evTs_at (enc := (AV.int .i64)) H (by rfl) (by rfl) ?_ <;> clear H <;> intro x_351 H
       try simp only [↓wk, ↓wl, nq, evV, ↓reduceIte, sevalprocAttr]
       refine evTs_pure hFn H (fun _ h => f45_ok h) (by rfl) (by rfl) (by rfl) (by rfl) (fun _ => rfl) ?_ <;> clear H <;> intro r_352 H
       try simp only [eL, ↓wk, ↓wl, nq, evV, ↓reduceIte, sevalprocAttr]
       refine AW.ifc H (by rfl) ?_ ?_ <;> clear H <;> intro H
       ·refine AW.rseq ?_
        try simp only [↓wk, ↓wl, nq, evV, ↓reduceIte, sevalprocAttr]
        refine AW.ret ?_
        refine blkQ.ret ?_
        refine loopQ.ret H ?_ <;> clear H <;> intro H
        try dsimp only at H
        refine blk0.ret ?_
        refine seqQ.ret ?_
        cases H
        exact hQ.fin
       ·refine AW.skip ?_
        refine blkQ.norm ?_
        refine AW.rend ?_
        try simp only [↓wk, ↓wl, nq, evV, ↓reduceIte, sevalprocAttr]
        exact loopQ.next H ((Le.tz [0] [1, 3] (by simp only [f21_L1c, rrm, ↓wk, ↓wl, evV, ↓reduceIte, sevalprocAttr] <;> rfl)))
    ·refine AW.exit ?_
     refine seqQ.exit ?_
     refine loopQ.exit H ?_ <;> clear H <;> intro H
     try dsimp only at H
     refine blk0.here ?_
     refine seqQ.norm ?_
     refine AW.rseq ?_
     try simp only [↓wk, ↓wl, nq, evV, ↓reduceIte, sevalprocAttr]
     refine AW.ret ?_
     cases H
     exact hQ.fin
noncomputable def f22_L1 (l_354 : (List ApiGroup)) : Lp (Int) ((Unit) ⊕ (Int)) where
  body := fun v_363 => (if (decide (v_363 < ((l_354.length : Nat) : Int))) = true then (at? l_354 v_363).bind fun x_369 => (f20 x_369).bind fun r_371 => (if (decide (r_371 ≠ 0)) = true then (some (.brk (Sum.inr r_371))) else (if (decide (0 < v_363)) = true then (at? l_354 (IntKind.i64.wrap (v_363 - 1))).bind fun x_372 => (if (decide (x_369.fNumber ≤ x_372.fNumber)) = true then (some (.brk (Sum.inr 9))) else (some (.next (IntKind.i64.wrap (v_363 + 1))))) else (some (.next (IntKind.i64.wrap (v_363 + 1)))))) else (some (.brk (Sum.inl ()))))
  cst := fun v_363 => ⟨put (put (put (put (fun _ => .junk) 11 (.int .i64 v_363)) 10 (.int .i64 ((l_354.length : Nat) : Int))) 9 (.sl 2 false (l_354.map eApiGroup))) 0 (.sl 2 false (l_354.map eApiGroup)), []⟩
theorem f22_L1c (l_354 : (List ApiGroup)) (v_363 : Int) : (f22_L1 l_354).cst v_363 = ⟨put (put (put (put (fun _ => .junk) 11 (.int .i64 v_363)) 10 (.int .i64 ((l_354.length : Nat) : Int))) 9 (.sl 2 false (l_354.map eApiGroup))) 0 (.sl 2 false (l_354.map eApiGroup)), []⟩ := rfl
def c22_0 : C := .cond (.t 8) (.seq (.reg [iI 2 (.mv (.c (.int .i64 5)))]) .ret) (.skip)
def c22_1 : C := .cond (.t 19) (.seq (.reg [iI 20 (.mv (.t 5)), iI 2 (.mv (.t 20))]) .ret) (.skip)
def c22_2 : C := .seq (.reg [iI 18 (.mv (.t 5)), iI 19 (.bin .neq (.t 18) (.c (.int .i64 0)))]) c22_1
def c22_3 : C := .cond (.t 33) (.seq (.reg [iI 2 (.mv (.c (.int .i64 9)))]) .ret) (.skip)
def c22_4 : C := .seq (.reg [iI 21 (.mv (.t 3)), iI 22 (.bin .gtr (.t 21) (.c (.int .i64 0))), iI 23 (.mv (.t 22)), iG (some 24) 23 true (.faddr 0 (.t 4)), iG (some 25) 23 true (.load 0 (.t 24)), iG (some 26) 23 true (.mv (.t 0)), iG (some 27) 23 true (.mv (.t 3)), iG (some 28) 23 true (.bin .sub (.t 27) (.c (.int .i64 1))), iG (some 29) 23 true (.iaddr 2 (.t 26) (.t 28)), iG (some 30) 23 true (.faddr 0 (.t 29)), iG (some 31) 23 true (.load 0 (.t 30)), iG (some 32) 23 true (.bin .leq (.t 25) (.t 31)), iI 33 (.pick (.t 23) (.t 32) (.c (.bool false)))]) c22_3
def c22_5 : C := .seq (.seq (.reg [iI 16 (.load 2 (.t 4)), iI 17 (.call (.c (.fn 20 [])) [(.t 16)]), iI 5 (.mv (.t 17))]) c22_2) c22_4
def c22_6 : C := .reg [iI 34 (.bin .add (.t 11) (.c (.int .i64 1))), iI 11 (.mv (.t 34))]
def c22_7 : C := .seq (.block 1 (.seq (.reg [iI 13 (.mv (.t 11)), iI 14 (.iaddr 2 (.t 9) (.t 11)), iI 15 (.load 2 (.t 14)), iI 4 (.alloc [(1, (.int .i64 0)), (1, (.sl 0 true []))]), iI 3 (.mv (.t 13)), iN (.store 2 (.t 4) (.t 15))]) c22_5)) c22_6
def c22_8 : C := .seq (.cond (.t 12) (.skip) (.exit 0)) c22_7
def c22_9 : C := .block 0 (.loop (.seq (.reg [iI 12 (.bin .lss (.t 11) (.t 10))]) c22_8))
def c22_10 : C := .seq (.reg [iI 2 (.mv (.c (.int .i64 0)))]) .ret
def c22_11 : C := .seq (.seq (.reg [iI 9 (.mv (.t 0)), iI 10 (.len 0 (.t 9)), iI 11 (.mv (.c (.int .i64 0)))]) c22_9) c22_10
def c22_12 : C := .seq (.seq (.reg [iI 6 (.mv (.t 0)), iI 7 (.len 0 (.t 6)), iI 8 (.bin .gtr (.t 7) (.c (.int .i64 32)))]) c22_0) c22_11
def ir22 : C := .seq (.reg [iI 2 (.mv (.c (.int .i64 0)))]) c22_12
theorem fd22 : fd? Try.prog 22 = some (35, [.slot 2], ir22) := by kernel_rfl
noncomputable def f22 (l_354 : (List ApiGroup)) : Option (Int) :=
  (if (decide (32 < ((l_354.length : Nat) : Int))) = true then (some 5) else ((Lp.run (f22_L1 l_354) 0).bind fun r_ => match r_ with | (Sum.inl _) => (some 0) | (Sum.inr v_368) => (some v_368)))
theorem f22_ok {l_354 : (List ApiGroup)} {r_ : Int} (H : f22 l_354 = some r_) : Pure Try.prog 22 [.sl 2 false (l_354.map eApiGroup)] (· = .int .i64 r_) := by
 refine Pure.walk3 fd22 none (Nat.le_of_ble_eq_true rfl) (by rfl) fun Q hQ => ?_
 simp only [f22] at H
 refine AW.rseq ?_
 try simp only [↓wk, ↓wl, nq, evV, ↓reduceIte, sevalprocAttr]
 refine AW.sseq ?_
 refine AW.rseq ?_
 try simp only [↓wk, ↓wl, nq, evV, ↓reduceIte, sevalprocAttr]
 refine AW.ifc H (by rfl) ?_ ?_ <;> clear H <;> intro H
 ·refine AW.rseq ?_
  try simp only [↓wk, ↓wl, nq, evV, ↓reduceIte, sevalprocAttr]
  refine AW.ret ?_
  refine seqQ.ret ?_
  cases H
  exact hQ.fin
 ·refine AW.skip ?_
  refine seqQ.norm ?_
  refine AW.sseq ?_
  refine AW.rseq ?_
  try simp only [↓wk, ↓wl, nq, evV, ↓reduceIte, sevalprocAttr]
  refine AW.bend ?_
  refine AW.iter H ((Le.tz [] [0, 9, 10, 11] (by simp only [f22_L1c, rrm, ↓wk, ↓wl, evV, ↓reduceIte, sevalprocAttr] <;> rfl))) ?_ <;> clear H
  rintro v_363 x_ st0_ H hst_
  rw [f22_L1c] at hst_
  simp only [f22_L1] at H
  subst hst_
  refine AW.rseq ?_
  try simp only [↓wk, ↓wl, nq, evV, ↓reduceIte, sevalprocAttr]
  refine AW.sseq ?_
  refine AW.ifc H (by rfl) ?_ ?_ <;> clear H <;> intro H
  ·refine AW.skip ?_
   refine seqQ.norm ?_
   refine AW.bseq ?_
   refine AW.rseq ?_
   try simp only [↓wk, ↓wl, nq, evV, ↓reduceIte, sevalprocAttr]
   refine evTs_at (enc := eApiGroup) H (by rfl) (by rfl) ?_ <;> clear H <;> intro x_369 H
   try simp only [eApiGroup, eL, ↓wk, ↓wl, nq, evV, ↓reduceIte, sevalprocAttr]
   refine AW.sseq ?_
   refine AW.rseq ?_
   try simp only [↓wk, ↓wl, nq, evV, ↓reduceIte, sevalprocAttr]
   refine evTs_pure hFn H (fun _ h => f20_ok h) (by rfl) (by rfl) (by rfl) (by rfl) (fun _ => rfl) ?_ <;> clear H <;> intro r_371 H
   try simp only [eL, ↓wk, ↓wl, nq, evV, ↓reduceIte, sevalprocAttr]
   refine AW.rseq ?_
   try simp only [↓wk, ↓wl, nq, evV, ↓reduceIte, sevalprocAttr]
   refine AW.ifc H (by rfl) ?_ ?_ <;> clear H <;> intro H
   ·refine AW.rseq ?_
    try simp only [↓wk, ↓wl, nq, evV, ↓reduceIte, sevalprocAttr]
    refine AW.ret ?_
    refine seqQ.ret ?_
    refine blkQ.ret ?_
    refine loopQ.ret H ?_ <;> clear H <;> intro H
    try dsimp only at H
    refine blk0.ret ?_
    refine seqQ.ret ?_
    cases H
    exact hQ.fin
   ·refine AW.skip ?_
    refine seqQ.norm ?_
    refine AW.rseq ?_
    try simp only [↓wk, ↓wl, nq, evV, ↓reduceIte, sevalprocAttr]
    refine evTs_ifg H (by rfl) ?_ ?_ <;> clear H <;> intro H
    ·try simp only [↓wk, ↓wl, nq, evV, ↓reduceIte, sevalprocAttr]
     refine evTs_at (enc := eApiGroup) H (by rfl) (by rfl) ?_ <;> clear H <;> intro x_372 H
     try simp only [eApiGroup, eL, ↓wk, ↓wl, nq, evV, ↓reduceIte, sevalprocAttr]
     refine AW.ifc H (by rfl) ?_ ?_ <;> clear H <;> intro H
     ·refine AW.rseq ?_
      try simp only [↓wk, ↓wl, nq, evV, ↓reduceIte, sevalprocAttr]
      refine AW.ret ?_
      refine blkQ.ret ?_
      refine loopQ.ret H ?_ <;> clear H <;> intro H
      try dsimp only at H
      refine blk0.ret ?_
      refine seqQ.ret ?_
      cases H
      exact hQ.fin
     ·refine AW.skip ?_
      refine blkQ.norm ?_
      refine AW.rend ?_
      try simp only [↓wk, ↓wl, nq, evV, ↓reduceIte, sevalprocAttr]
      exact loopQ.next H ((Le.tz [] [0, 9, 10, 11] (by simp only [f22_L1c, rrm, ↓wk, ↓wl, evV, ↓reduceIte, sevalprocAttr] <;> rfl)))
    ·try simp only [↓wk, ↓wl, nq, evV, ↓reduceIte, sevalprocAttr]
     refine AW.iff (by rfl) ?_
     refine AW.skip ?_
     refine blkQ.norm ?_
     refine AW.rend ?_
     try simp only [↓wk, ↓wl, nq, evV, ↓reduceIte, sevalprocAttr]
     exact loopQ.next H ((Le.tz [] [0, 9, 10, 11] (by simp only [f22_L1c, rrm, ↓wk, ↓wl, evV, ↓reduceIte, sevalprocAttr] <;> rfl)))
  ·refine AW.exit ?_
   refine seqQ.exit ?_
   refine loopQ.exit H ?_ <;> clear H <;> intro H
   try dsimp only at H
   refine blk0.here ?_
   refine seqQ.norm ?_
   refine AW.rseq ?_
   try simp only [↓wk, ↓wl, nq, evV, ↓reduceIte, sevalprocAttr]
   refine AW.ret ?_
   cases H
   exact hQ.fin
noncomputable def f23_L1 (l_374 : (List ApiGroup)) : Lp (Int) ((Unit) ⊕ (Int)) where
  body := fun i_386 => (if (decide (i_386 < ((l_374.length : Nat) : Int))) = true then (at? l_374 i_386).bind fun x_396 => (f21 x_396).bind fun r_397 => (if (decide (r_397 ≠ 0)) = true then (some (.brk (Sum.inr r_397))) else (if (decide (0 < i_386)) = true then (at? l_374 i_386).bind fun x_398 => (at? l_374 (IntKind.i64.wrap (i_386 - 1))).bind fun x_399 => (if (decide (x_398.fNumber ≤ x_399.fNumber)) = true then (some (.brk (Sum.inr 9))) else (some (.next (IntKind.i64.wrap (i_386 + 1))))) else (some (.next (IntKind.i64.wrap (i_386 + 1)))))) else (some (.brk (Sum.inl ()))))
  cst := fun i_386 => ⟨put (put (fun _ => .junk) 3 (.int .i64 i_386)) 0 (.sl 2 false (l_374.map eApiGroup)), []⟩
theorem f23_L1c (l_374 : (List ApiGroup)) (i_386 : Int) : (f23_L1 l_374).cst i_386 = ⟨put (put (fun _ => .junk) 3 (.int .i64 i_386)) 0 (.sl 2 false (l_374.map eApiGroup)), []⟩ := rfl
def c23_0 : C := .cond (.t 7) (.seq (.reg [iI 2 (.mv (.c (.int .i64 5)))]) .ret) (.skip)
def c23_1 : C := .cond (.t 11) (.skip) (.exit 0)
def c23_2 : C := .cond (.t 20) (.seq (.reg [iI 21 (.mv (.t 4)), iI 2 (.mv (.t 21))]) .ret) (.skip)
def c23_3 : C := .seq (.reg [iI 19 (.mv (.t 4)), iI 20 (.bin .neq (.t 19) (.c (.int .i64 0)))]) c23_2
def c23_4 : C := .cond (.t 37) (.seq (.reg [iI 2 (.mv (.c (.int .i64 9)))]) .ret) (.skip)
def c23_5 : C := .seq (.reg [iI 22 (.mv (.t 3)), iI 23 (.bin .gtr (.t 22) (.c (.int .i64 0))), iI 24 (.mv (.t 23)), iG (some 25) 24 true (.mv (.t 0)), iG (some 26) 24 true (.mv (.t 3)), iG (some 27) 24 true (.iaddr 2 (.t 25) (.t 26)), iG (some 28) 24 true (.faddr 0 (.t 27)), iG (some 29) 24 true (.load 0 (.t 28)), iG (some 30) 24 true (.mv (.t 0)), iG (some 31) 24 true (.mv (.t 3)), iG (some 32) 24 true (.bin .sub (.t 31) (.c (.int .i64 1))), iG (some 33) 24 true (.iaddr 2 (.t 30) (.t 32)), iG (some 34) 24 true (.faddr 0 (.t 33)), iG (some 35) 24 true (.load 0 (.t 34)), iG (some 36) 24 true (.bin .leq (.t 29) (.t 35)), iI 37 (.pick (.t 24) (.t 36) (.c (.bool false)))]) c23_4
def c23_6 : C := .reg [iI 12 (.mv (.t 3)), iI 13 (.bin .add (.t 12) (.c (.int .i64 1))), iI 3 (.mv (.t 13))]
def c23_7 : C := .seq (.block 1 (.seq (.seq (.reg [iI 14 (.mv (.t 0)), iI 15 (.mv (.t 3)), iI 16 (.iaddr 2 (.t 14) (.t 15)), iI 17 (.load 2 (.t 16)), iI 18 (.call (.c (.fn 21 [])) [(.t 17)]), iI 4 (.mv (.t 18))]) c23_3) c23_5)) c23_6
def c23_8 : C := .block 0 (.loop (.seq (.seq (.reg [iI 8 (.mv (.t 3)), iI 9 (.mv (.t 0)), iI 10 (.len 0 (.t 9)), iI 11 (.bin .lss (.t 8) (.t 10))]) c23_1) c23_7))
def c23_9 : C := .seq (.reg [iI 2 (.mv (.c (.int .i64 0)))]) .ret
def c23_10 : C := .seq (.seq (.reg [iI 3 (.mv (.c (.int .i64 0)))]) c23_8) c23_9
def c23_11 : C := .seq (.seq (.reg [iI 5 (.mv (.t 0)), iI 6 (.len 0 (.t 5)), iI 7 (.bin .gtr (.t 6) (.c (.int .i64 32)))]) c23_0) c23_10
def ir23 : C := .seq (.reg [iI 2 (.mv (.c (.int .i64 0)))]) c23_11
theorem fd23 : fd? Try.prog 23 = some (38, [.slot 2], ir23) := by kernel_rfl
noncomputable def f23 (l_374 : (List ApiGroup)) : Option (Int) :=
  (if (decide (32 < ((l_374.length : Nat) : Int))) = true then (some 5) else ((Lp.run (f23_L1 l_374) 0).bind fun r_ => match r_ with | (Sum.inl _) => (some 0) | (Sum.inr v_393) => (some v_393)))
theorem f23_ok {l_374 : (List ApiGroup)} {r_ : Int} (H : f23 l_374 = some r_) : Pure Try.prog 23 [.sl 2 false (l_374.map eApiGroup)] (· = .int .i64 r_) := by
 refine Pure.walk3 fd23 none (Nat.le_of_ble_eq_true rfl) (by rfl) fun Q hQ => ?_
 simp only [f23] at H
 refine AW.rseq ?_
 try simp only [↓wk, ↓wl, nq, evV, ↓reduceIte, sevalprocAttr]
 refine AW.sseq ?_
 refine AW.rseq ?_
 try simp only [↓wk, ↓wl, nq, evV, ↓reduceIte, sevalprocAttr]
 refine AW.ifc H (by rfl) ?_ ?_ <;> clear H <;> intro H
 ·refine AW.rseq ?_
  try simp only [↓wk, ↓wl, nq, evV, ↓reduceIte, sevalprocAttr]
  refine AW.ret ?_
  refine seqQ.ret ?_
  cases H
  exact hQ.fin
 ·refine AW.skip ?_
  refine seqQ.norm ?_
  refine AW.sseq ?_
  refine AW.rseq ?_
  try simp only [↓wk, ↓wl, nq, evV, ↓reduceIte, sevalprocAttr]
  refine AW.bend ?_
  refine AW.iter H ((Le.tz [] [0, 3] (by simp only [f23_L1c, rrm, ↓wk, ↓wl, evV, ↓reduceIte, sevalprocAttr] <;> rfl))) ?_ <;> clear H
  rintro i_386 x_ st0_ H hst_
  rw [f23_L1c] at hst_
  simp only [f23_L1] at H
  subst hst_
  refine AW.sseq ?_
  refine AW.rseq ?_
  try simp only [↓wk, ↓wl, nq, evV, ↓reduceIte, sevalprocAttr]
  refine AW.ifc H (by rfl) ?_ ?_ <;> clear H <;> intro H
  ·refine AW.skip ?_
   refine seqQ.norm ?_
   refine AW.bseq ?_
   refine AW.sseq ?_
   refine AW.rseq ?_
   try simp only [↓wk, ↓wl, nq, evV, ↓reduceIte, sevalprocAttr]
   refine evTs_at (enc := eApiGroup) H (by rfl) (by rfl) ?_ <;> clear H <;> intro x_396 H
   try simp only [eApiGroup, eL, ↓wk, ↓wl, nq, evV, ↓reduceIte, sevalprocAttr]
   refine evTs_pure hFn H (fun _ h => f21_ok h) (by rfl) (by rfl) (by rfl) (by rfl) (fun _ => rfl) ?_ <;> clear H <;> intro r_397 H
   try simp only [eL, ↓wk, ↓wl, nq, evV, ↓reduceIte, sevalprocAttr]
   refine AW.rseq ?_
   try simp only [↓wk, ↓wl, nq, evV, ↓reduceIte, sevalprocAttr]
   refine AW.ifc H (by rfl) ?_ ?_ <;> clear H <;> intro H
   ·refine AW.rseq ?_
    try simp only [↓wk, ↓wl, nq, evV, ↓reduceIte, sevalprocAttr]
    refine AW.ret ?_
    refine seqQ.ret ?_
    refine blkQ.ret ?_
    refine loopQ.ret H ?_ <;> clear H <;> intro H
    try dsimp only at H
    refine blk0.ret ?_
    refine seqQ.ret ?_
    cases H
    exact hQ.fin
   ·refine AW.skip ?_
    refine seqQ.norm ?_
    refine AW.rseq ?_
    try simp only [↓wk, ↓wl, nq, evV, ↓reduceIte, sevalprocAttr]
    refine evTs_ifg H (by rfl) ?_ ?_ <;> clear H <;> intro H
    ·try simp only [↓wk, ↓wl, nq, evV, ↓reduceIte, sevalprocAttr]
     refine evTs_at (enc := eApiGroup) H (by rfl) (by rfl) ?_ <;> clear H <;> intro x_398 H
     try simp only [eApiGroup, eL, ↓wk, ↓wl, nq, evV, ↓reduceIte, sevalprocAttr]
     refine evTs_at (enc := eApiGroup) H (by rfl) (by rfl) ?_ <;> clear H <;> intro x_399 H
     try simp only [eApiGroup, eL, ↓wk, ↓wl, nq, evV, ↓reduceIte, sevalprocAttr]
     refine AW.ifc H (by rfl) ?_ ?_ <;> clear H <;> intro H
     ·refine AW.rseq ?_
      try simp only [↓wk, ↓wl, nq, evV, ↓reduceIte, sevalprocAttr]
      refine AW.ret ?_
      refine blkQ.ret ?_
      refine loopQ.ret H ?_ <;> clear H <;> intro H
      try dsimp only at H
      refine blk0.ret ?_
      refine seqQ.ret ?_
      cases H
      exact hQ.fin
     ·refine AW.skip ?_
      refine blkQ.norm ?_
      refine AW.rend ?_
      try simp only [↓wk, ↓wl, nq, evV, ↓reduceIte, sevalprocAttr]
      exact loopQ.next H ((Le.tz [] [0, 3] (by simp only [f23_L1c, rrm, ↓wk, ↓wl, evV, ↓reduceIte, sevalprocAttr] <;> rfl)))
    ·try simp only [↓wk, ↓wl, nq, evV, ↓reduceIte, sevalprocAttr]
     refine AW.iff (by rfl) ?_
     refine AW.skip ?_
     refine blkQ.norm ?_
     refine AW.rend ?_
     try simp only [↓wk, ↓wl, nq, evV, ↓reduceIte, sevalprocAttr]
     exact loopQ.next H ((Le.tz [] [0, 3] (by simp only [f23_L1c, rrm, ↓wk, ↓wl, evV, ↓reduceIte, sevalprocAttr] <;> rfl)))
  ·refine AW.exit ?_
   refine seqQ.exit ?_
   refine loopQ.exit H ?_ <;> clear H <;> intro H
   try dsimp only at H
   refine blk0.here ?_
   refine seqQ.norm ?_
   refine AW.rseq ?_
   try simp only [↓wk, ↓wl, nq, evV, ↓reduceIte, sevalprocAttr]
   refine AW.ret ?_
   cases H
   exact hQ.fin
noncomputable def f6_L1 (l_250 : (List ApiGroup)) (g_251 : ApiGroup) : Lp (Int) ((Unit) ⊕ (Unit)) where
  body := fun v_307 => (if (decide (v_307 < ((l_250.length : Nat) : Int))) = true then (at? l_250 v_307).bind fun x_408 => (f18 x_408 g_251).bind fun r_409 => (f19 x_408 g_251).bind fun r_410 => (if (!(r_409 == r_410)) = true then (some (.brk (Sum.inr ()))) else (some (.next (IntKind.i64.wrap (v_307 + 1))))) else (some (.brk (Sum.inl ()))))
  cst := fun v_307 => ⟨put (put (put (put (put (fun _ => .junk) 19 (.int .i64 v_307)) 18 (.int .i64 ((l_250.length : Nat) : Int))) 17 (.sl 2 false (l_250.map eApiGroup))) 3 (.ptr 0 0)) 0 (.sl 2 false (l_250.map eApiGroup)), [.cel [.int .i64 g_251.fNumber, .sl 0 false (g_251.fChannels.map (AV.int .i64))]]⟩
theorem f6_L1c (l_250 : (List ApiGroup)) (g_251 : ApiGroup) (v_307 : Int) : (f6_L1 l_250 g_251).cst v_307 = ⟨put (put (put (put (put (fun _ => .junk) 19 (.int .i64 v_307)) 18 (.int .i64 ((l_250.length : Nat) : Int))) 17 (.sl 2 false (l_250.map eApiGroup))) 3 (.ptr 0 0)) 0 (.sl 2 false (l_250.map eApiGroup)), [.cel [.int .i64 g_251.fNumber, .sl 0 false (g_251.fChannels.map (AV.int .i64))]]⟩ := rfl
def c6_0 : C := .cond (.t 15) (.seq (.reg [iI 16 (.call (.c (.fn 15 [])) []), iI 4 (.mv (.t 16))]) .ret) (.skip)
def c6_1 : C := .cond (.t 29) (.seq (.reg [iI 4 (.mv (.c (.bool false)))]) .ret) (.skip)
def c6_2 : C := .seq (.regq [iI 23 (.load 2 (.t 6)), iI 24 (.load 2 (.t 3)), iI 25 (.call (.c (.fn 18 [])) [(.t 23), (.t 24)]), iI 26 (.load 2 (.t 6)), iI 27 (.load 2 (.t 3)), iI 28 (.call (.c (.fn 19 [])) [(.t 26), (.t 27)]), iI 29 (.binb .neq (.t 25) (.t 28))]) c6_1
def c6_3 : C := .reg [iI 30 (.bin .add (.t 19) (.c (.int .i64 1))), iI 19 (.mv (.t 30))]
def c6_4 : C := .seq (.block 1 (.seq (.reg [iI 21 (.iaddr 2 (.t 17) (.t 19)), iI 22 (.load 2 (.t 21)), iI 6 (.alloc [(1, (.int .i64 0)), (1, (.sl 0 true []))]), iN (.store 2 (.t 6) (.t 22))]) c6_2)) c6_3
def c6_5 : C := .seq (.cond (.t 20) (.skip) (.exit 0)) c6_4
def c6_6 : C := .block 0 (.loop (.seq (.reg [iI 20 (.bin .lss (.t 19) (.t 18))]) c6_5))
def c6_7 : C := .seq (.regq [iI 31 (.call (.c (.fn 15 [])) []), iI 32 (.mv (.t 31)), iG (some 33) 32 true (.load 2 (.t 3)), iG (some 34) 32 true (.call (.c (.fn 20 [])) [(.t 33)]), iG (some 35) 32 true (.load 2 (.t 3)), iG (some 36) 32 true (.call (.c (.fn 21 [])) [(.t 35)]), iG (some 37) 32 true (.bin .eql (.t 34) (.t 36)), iI 38 (.pick (.t 32) (.t 37) (.c (.bool false))), iI 39 (.mv (.t 38)), iG (some 40) 39 true (.mv (.t 0)), iG (some 41) 39 true (.call (.c (.fn 22 [])) [(.t 40)]), iG (some 42) 39 true (.mv (.t 0)), iG (some 43) 39 true (.call (.c (.fn 23 [])) [(.t 42)]), iG (some 44) 39 true (.bin .eql (.t 41) (.t 43)), iI 45 (.pick (.t 39) (.t 44) (.c (.bool false))), iI 46 (.mv (.t 45)), iG (some 47) 46 true (.load 2 (.t 3)), iG (some 48) 46 true (.load 2 (.t 3)), iG (some 49) 46 true (.call (.c (.fn 18 [])) [(.t 47), (.t 48)]), iI 50 (.pick (.t 46) (.t 49) (.c (.bool false))), iI 4 (.mv (.t 50))]) .ret
def c6_8 : C := .seq (.seq (.reg [iI 17 (.mv (.t 0)), iI 18 (.len 0 (.t 17)), iI 19 (.mv (.c (.int .i64 0)))]) c6_6) c6_7
def c6_9 : C := .seq (.seq (.reg [iI 7 (.mv (.t 0)), iI 8 (.call (.c (.fn 17 [])) [(.t 7)]), iI 9 (.un .not (.t 8)), iI 10 (.mv (.t 9)), iG (some 11) 10 false (.load 2 (.t 3)), iG (some 12) 10 false (.mksl 2 1 (.agg [(.int .i64 0), (.sl 0 true [])]) [(0, (.t 11))]), iG (some 13) 10 false (.call (.c (.fn 17 [])) [(.t 12)]), iG (some 14) 10 false (.un .not (.t 13)), iI 15 (.pick (.t 10) (.c (.bool true)) (.t 14))]) c6_0) c6_8
def ir6 : C := .seq (.reg [iI 3 (.box (.t 1)), iI 4 (.mv (.c (.bool false)))]) c6_9
theorem fd6 : fd? Try.prog 6 = some (51, [.slot 4], ir6) := by kernel_rfl
noncomputable def f6 (l_250 : (List ApiGroup)) (g_251 : ApiGroup) : Option (Bool) :=
  (f17 l_250).bind fun r_267 => (if (!r_267) = true then (f15).bind fun r_268 => (some r_268) else (f17 ([g_251])).bind fun r_269 => (if (!r_269) = true then (f15).bind fun r_270 => (some r_270) else ((Lp.run (f6_L1 l_250 g_251) 0).bind fun r_ => match r_ with | (Sum.inl _) => (f15).bind fun r_311 => (if r_311 = true then (f20 g_251).bind fun r_312 => (f21 g_251).bind fun r_353 => (if (decide (r_312 = r_353)) = true then (f22 l_250).bind fun r_373 => (f23 l_250).bind fun r_400 => (if (decide (r_373 = r_400)) = true then (f18 g_251 g_251).bind fun r_401 => (some r_401) else (some false)) else (some false)) else (some false)) | (Sum.inr _) => (some false))))
theorem f6_ok {l_250 : (List ApiGroup)} {g_251 : ApiGroup} {r_ : Bool} (H : f6 l_250 g_251 = some r_) : Pure Try.prog 6 [.sl 2 false (l_250.map eApiGroup), .agg [.int .i64 g_251.fNumber, .sl 0 false (g_251.fChannels.map (AV.int .i64))]] (· = .bool r_) := by
 refine Pure.walk3 fd6 none (Nat.le_of_ble_eq_true rfl) (by rfl) fun Q hQ => ?_
 simp only [f6] at H
 refine AW.rseq ?_
 try simp only [↓wk, ↓wl, nq, evV, ↓reduceIte, sevalprocAttr]
 refine AW.sseq ?_
 refine AW.rseq ?_
 try simp only [↓wk, ↓wl, nq, evV, ↓reduceIte, sevalprocAttr]
 refine evTs_pure hFn H (fun _ h => f17_ok h) (by rfl) (by rfl) (by rfl) (by rfl) (fun _ => rfl) ?_ <;> clear H <;> intro r_267 H
 try simp only [eL, ↓wk, ↓wl, nq, evV, ↓reduceIte, sevalprocAttr]
 refine evTs_ifg H (by rfl) ?_ ?_ <;> clear H <;> intro H
 ·try simp only [↓wk, ↓wl, nq, evV, ↓reduceIte, sevalprocAttr]
  refine AW.ift (by rfl) ?_
  refine AW.rseq ?_
  try simp only [↓wk, ↓wl, nq, evV, ↓reduceIte, sevalprocAttr]
  refine evTs_pure hFn H (fun _ h => f15_ok h) (by rfl) (by rfl) (by rfl) (by rfl) (fun _ => rfl) ?_ <;> clear H <;> intro r_268 H
  try simp only [eL, ↓wk, ↓wl, nq, evV, ↓reduceIte, sevalprocAttr]
  refine AW.ret ?_
  refine seqQ.ret ?_
  cases H
  exact hQ.fin
 ·try simp only [↓wk, ↓wl, nq, evV, ↓reduceIte, sevalprocAttr]
  refine evTs_pure hFn H (fun _ h => f17_ok h) (by rfl) (by rfl) (by rfl) (by rfl) (fun _ => rfl) ?_ <;> clear H <;> intro r_269 H
  try simp only [eL, ↓wk, ↓wl, nq, evV, ↓reduceIte, sevalprocAttr]
  refine AW.ifc H (by rfl) ?_ ?_ <;> clear H <;> intro H
  ·refine AW.rseq ?_
   try simp only [↓wk, ↓wl, nq, evV, ↓reduceIte, sevalprocAttr]
   refine evTs_pure hFn H (fun _ h => f15_ok h) (by rfl) (by rfl) (by rfl) (by rfl) (fun _ => rfl) ?_ <;> clear H <;> intro r_270 H
   try simp only [eL, ↓wk, ↓wl, nq, evV, ↓reduceIte, sevalprocAttr]
   refine AW.ret ?_
   refine seqQ.ret ?_
   cases H
   exact hQ.fin
  ·refine AW.skip ?_
   refine seqQ.norm ?_
   refine AW.sseq ?_
   refine AW.rseq ?_
   try simp only [↓wk, ↓wl, nq, evV, ↓reduceIte, sevalprocAttr]
   refine AW.bend ?_
   refine AW.iter H ((Le.tz [0] [0, 3, 17, 18, 19] (by simp only [f6_L1c, rrm, ↓wk, ↓wl, evV, ↓reduceIte, sevalprocAttr] <;> rfl))) ?_ <;> clear H
   rintro v_307 x_ st0_ H hst_
   rw [f6_L1c] at hst_
   simp only [f6_L1] at H
   subst hst_
   refine AW.rseq ?_
   try simp only [↓wk, ↓wl, nq, evV, ↓reduceIte, sevalprocAttr]
   refine AW.sseq ?_
   refine AW.ifc H (by rfl) ?_ ?_ <;> clear H <;> intro H
   ·refine AW.skip ?_
    refine seqQ.norm ?_
    refine AW.bseq ?_
    refine AW.rseq ?_
    try simp only [↓wk, ↓wl, nq, evV, ↓reduceIte, sevalprocAttr]
    refine evTs_at (enc := eApiGroup) H (by rfl) (by rfl) ?_ <;> clear H <;> intro x_408 H
    try simp only [eApiGroup, eL, ↓wk, ↓wl, nq, evV, ↓reduceIte, sevalprocAttr]
    refine AW.rqseq ?_
    try simp only [↓wk, ↓wl, nq, evV, ↓reduceIte, sevalprocAttr]
    refine evTs_pure hFnq H (fun _ h => f18_ok h) (by rfl) (by rfl) (by rfl) (by rfl) (fun _ => rfl) ?_ <;> clear H <;> intro r_409 H
    try simp only [eL, ↓wk, ↓wl, nq, evV, ↓reduceIte, sevalprocAttr]
    refine evTs_pure hFnq H (fun _ h => f19_ok h) (by rfl) (by rfl) (by rfl) (by rfl) (fun _ => rfl) ?_ <;> clear H <;> intro r_410 H
    try simp only [eL, ↓wk, ↓wl, nq, evV, ↓reduceIte, sevalprocAttr]
    refine AW.ifc H (by rfl) ?_ ?_ <;> clear H <;> intro H
    ·refine AW.rseq ?_
     try simp only [↓wk, ↓wl, nq, evV, ↓reduceIte, sevalprocAttr]
     refine AW.ret ?_
     refine blkQ.ret ?_
     refine loopQ.ret H ?_ <;> clear H <;> intro H
     try dsimp only at H
     refine blk0.ret ?_
     refine seqQ.ret ?_
     cases H
     exact hQ.fin
    ·refine AW.skip ?_
     refine blkQ.norm ?_
     refine AW.rend ?_
     try simp only [↓wk, ↓wl, nq, evV, ↓reduceIte, sevalprocAttr]
     exact loopQ.next H ((Le.tz [0] [0, 3, 17, 18, 19] (by simp only [f6_L1c, rrm, ↓wk, ↓wl, evV, ↓reduceIte, sevalprocAttr] <;> rfl)))
   ·refine AW.exit ?_
    refine seqQ.exit ?_
    refine loopQ.exit H ?_ <;> clear H <;> intro H
    try dsimp only at H
    refine blk0.here ?_
    refine seqQ.norm ?_
    refine AW.rqseq ?_
    try simp only [↓wk, ↓wl, nq, evV, ↓reduceIte, sevalprocAttr]
    refine evTs_pure hFnq H (fun _ h => f15_ok h) (by rfl) (by rfl) (by rfl) (by rfl) (fun _ => rfl) ?_ <;> clear H <;> intro r_411 H
    try simp only [eL, ↓wk, ↓wl, nq, evV, ↓reduceIte, sevalprocAttr]
    refine evTs_ifg H (by rfl) ?_ ?_ <;> clear H <;> intro H
    ·try simp only [↓wk, ↓wl, nq, evV, ↓reduceIte, sevalprocAttr]
     refine evTs_pure hFnq H (fun _ h => f20_ok h) (by rfl) (by rfl) (by rfl) (by rfl) (fun _ => rfl) ?_ <;> clear H <;> intro r_412 H
     try simp only [eL, ↓wk, ↓wl, nq, evV, ↓reduceIte, sevalprocAttr]
     refine evTs_pure hFnq H (fun _ h => f21_ok h) (by rfl) (by rfl) (by rfl) (by rfl) (fun _ => rfl) ?_ <;> clear H <;> intro r_413 H
     try simp only [eL, ↓wk, ↓wl, nq, evV, ↓reduceIte, sevalprocAttr]
     refine evTs_ifg H (by rfl) ?_ ?_ <;> clear H <;> intro H
     ·try simp only [↓wk, ↓wl, nq, evV, ↓reduceIte, sevalprocAttr]
      refine evTs_pure hFnq H (fun _ h => f22_ok h) (by rfl) (by rfl) (by rfl) (by rfl) (fun _ => rfl) ?_ <;> clear H <;> intro r_414 H
      try simp only [eL, ↓wk, ↓wl, nq, evV, ↓reduceIte, sevalprocAttr]
      refine evTs_pure hFnq H (fun _ h => f23_ok h) (by rfl) (by rfl) (by rfl) (by rfl) (fun _ => rfl) ?_ <;> clear H <;> intro r_415 H
      try simp only [eL, ↓wk, ↓wl, nq, evV, ↓reduceIte, sevalprocAttr]
      refine evTs_ifg H (by rfl) ?_ ?_ <;> clear H <;> intro H
      ·try simp only [↓wk, ↓wl, nq, evV, ↓reduceIte, sevalprocAttr]
       refine evTs_pure hFnq H (fun _ h => f18_ok h) (by rfl) (by rfl) (by rfl) (by rfl) (fun _ => rfl) ?_ <;> clear H <;> intro r_416 H
       try simp only [eL, ↓wk, ↓wl, nq, evV, ↓reduceIte, sevalprocAttr]
       refine AW.ret ?_
       cases H
       exact hQ.fin
      ·try simp only [↓wk, ↓wl, nq, evV, ↓reduceIte, sevalprocAttr]
       refine AW.ret ?_
       cases H
       exact hQ.fin
     ·try simp only [↓wk, ↓wl, nq, evV, ↓reduceIte, sevalprocAttr]
      refine AW.ret ?_
      cases H
      exact hQ.fin
    ·try simp only [↓wk, ↓wl, nq, evV, ↓reduceIte, sevalprocAttr]
     refine AW.ret ?_
     cases H
     exact hQ.fin
def c46_0 : C := .cond (.t 4) (.seq (.reg [iI 2 (.mv (.c (.sl 0 true [])))]) .ret) (.skip)
def c46_1 : C := .seq (.reg [iI 5 (.mkslp 0 0 (.int .i64 0) []), iI 6 (.mv (.t 0)), iI 7 (.append 0 8 (.t 5) (.t 6)), iI 2 (.mv (.t 7))]) .ret
def c46_2 : C := .seq (.seq (.reg [iI 3 (.mv (.t 0)), iI 4 (.isnil false (.t 3))]) c46_0) c46_1
def ir46 : C := .seq (.reg [iI 2 (.mv (.c (.sl 0 true [])))]) c46_2
theorem fd46 : fd? Try.prog 46 = some (8, [.slot 2], ir46) := by kernel_rfl
noncomputable def f46 (s_448 : (List Int)) : Option ((List Int)) :=
  (nil? (s_448 : List Int) false fun b_449 => (if b_449 = true then (some []) else (app? 8 [] s_448).bind fun out_450 => (some out_450)))
theorem f46_ok {s_448 : (List Int)} {r_ : (List Int)} (H : f46 s_448 = some r_) : Pure Try.prog 46 [.sl 0 false (s_448.map (AV.int .i64))] (· = .fr 0 (r_.map (AV.int .i64))) := by
 refine Pure.walk3 fd46 (some 0) (Nat.le_of_ble_eq_true rfl) (by rfl) fun Q hQ => ?_
 simp only [f46] at H
 refine AW.rseq ?_
 try simp only [↓wk, ↓wl, nq, evV, ↓reduceIte, sevalprocAttr]
 refine AW.sseq ?_
 refine AW.rseq ?_
 try simp only [↓wk, ↓wl, nq, evV, ↓reduceIte, sevalprocAttr]
 refine evTs_isnil (enc := (AV.int .i64)) H (by rfl) ?_ <;> clear H <;> intro b_449 H
 try simp only [↓wk, ↓wl, nq, evV, ↓reduceIte, sevalprocAttr]
 refine AW.ifc H (by rfl) ?_ ?_ <;> clear H <;> intro H
 ·refine AW.rseq ?_
  try simp only [↓wk, ↓wl, nq, evV, ↓reduceIte, sevalprocAttr]
  refine AW.ret ?_
  refine seqQ.ret ?_
  cases H
  exact hQ _ _ _ _ (.inr rfl) (by simp only [resVs, omap, resV, ↓wk, ↓wl, nq, evV, ↓reduceIte, sevalprocAttr]; rfl) hand_10 (by first | exact Or.inl rfl | exact Or.inr rfl)
 ·refine AW.skip ?_
  refine seqQ.norm ?_
  refine AW.rseq ?_
  try simp only [↓wk, ↓wl, nq, evV, ↓reduceIte, sevalprocAttr]
  refine evTs_app0 (enc := (AV.int .i64)) H (by rfl) (by rfl) ?_ <;> clear H <;> intro out_450 H
  try simp only [↓wk, ↓wl, nq, evV, ↓reduceIte, sevalprocAttr]
  refine AW.ret ?_
  cases H
  exact hQ _ _ _ _ (.inr rfl) (by simp only [resVs, omap, resV, ↓wk, ↓wl, nq, evV, ↓reduceIte, sevalprocAttr]; rfl) (hand_1 (by rfl) (by simp) (enc_all _)) (by first | exact Or.inl rfl | exact Or.inr rfl)
theorem f46_im {s_448 : (List Int)} {r_ : (List Int)} (H : f46 s_448 = some r_) : Pure Try.prog 46 [.sl 0 false (s_448.map (AV.int .i64))] (· = .sl 0 false (r_.map (AV.int .i64))) := (f46_ok H).unfr (by first | exact enc_fits _ | simp only [frFits, List.all_cons, List.all_nil, enc_fits, Bool.and_self])
def c47_0 : C := .cond (.t 9) (.skip) (.exit 0)
def c47_1 : C := .reg [iI 10 (.mv (.t 2)), iI 11 (.bin .add (.t 10) (.c (.int .i64 1))), iI 12 (.mv (.t 3)), iI 13 (.bin .sub (.t 12) (.c (.int .i64 1))), iI 2 (.mv (.t 11)), iI 3 (.mv (.t 13))]
def c47_2 : C := .seq (.block 1 (.reg [iI 14 (.mv (.t 0)), iI 15 (.mv (.t 2)), iI 16 (.mv (.t 0)), iI 17 (.mv (.t 3)), iI 18 (.mv (.t 0)), iI 19 (.mv (.t 3)), iI 20 (.iaddr 0 (.t 18) (.t 19)), iI 21 (.load 0 (.t 20)), iI 22 (.mv (.t 0)), iI 23 (.mv (.t 2)), iI 24 (.iaddr 0 (.t 22) (.t 23)), iI 25 (.load 0 (.t 24)), iI 26 (.iaddr 0 (.t 14) (.t 15)), iN (.store 0 (.t 26) (.t 21)), iI 27 (.iaddr 0 (.t 16) (.t 17)), iN (.store 0 (.t 27) (.t 25))])) c47_1
def c47_3 : C := .block 0 (.loop (.seq (.seq (.reg [iI 7 (.mv (.t 2)), iI 8 (.mv (.t 3)), iI 9 (.bin .lss (.t 7) (.t 8))]) c47_0) c47_2))
def ir47 : C := .seq (.reg [iI 4 (.mv (.t 0)), iI 5 (.len 0 (.t 4)), iI 6 (.bin .sub (.t 5) (.c (.int .i64 1))), iI 2 (.mv (.c (.int .i64 0))), iI 3 (.mv (.t 6))]) c47_3
theorem fd47 : fd? Try.prog 47 = some (28, [], ir47) := by kernel_rfl
noncomputable def f24_L2 (g_445 : ApiGroup) : Lp (Int × Int × (List Int)) ((List Int)) where
  body := fun (i_493, j_494, v_495) => (if (decide (i_493 < j_494)) = true then (at? v_495 j_494).bind fun x_503 => (at? v_495 i_493).bind fun x_504 => (at? v_495 i_493).bind fun x_505 => (at? (v_495.set i_493.toNat x_503) j_494).bind fun x_507 => (some (.next ((IntKind.i64.wrap (i_493 + 1)), (IntKind.i64.wrap (j_494 - 1)), ((v_495.set i_493.toNat x_503).set j_494.toNat x_504)))) else (some (.brk v_495)))
  cst := fun (i_493, j_494, v_495) => ⟨put (put (put (fun _ => .junk) 3 (.int .i64 j_494)) 2 (.int .i64 i_493)) 0 (.row 0 2 0 v_495.length), [.cel [.int .i64 g_445.fNumber, .row 0 2 0 v_495.length], .cel [.int .i64 0, .sl 0 true []], .els 0 (v_495.map (AV.int .i64))]⟩
theorem f24_L2c (g_445 : ApiGroup) (i_493 : Int) (j_494 : Int) (v_495 : (List Int)) : (f24_L2 g_445).cst (i_493, j_494, v_495) = ⟨put (put (put (fun _ => .junk) 3 (.int .i64 j_494)) 2 (.int .i64 i_493)) 0 (.row 0 2 0 v_495.length), [.cel [.int .i64 g_445.fNumber, .row 0 2 0 v_495.length], .cel [.int .i64 0, .sl 0 true []], .els 0 (v_495.map (AV.int .i64))]⟩ := rfl
noncomputable def f24_C1 (g_445 : ApiGroup) (r_451 : (List Int)) : Il ((List Int)) where
  run := (Lp.run (f24_L2 g_445) (0, (IntKind.i64.wrap (((r_451.length : Nat) : Int) - 1)), r_451)).bind fun v_502 => (some v_502)
  res := fun v_477 => .tup []
  hp := fun v_477 => [.cel [.int .i64 g_445.fNumber, .row 0 2 0 v_477.length], .cel [.int .i64 0, .sl 0 true []], .els 0 (v_477.map (AV.int .i64))]
def c24_0 : C := .cond (.t 8) (.seq (.reg [iI 9 (.build [(1, (.int .i64 0)), (1, (.sl 0 true []))] []), iI 10 (.mv (.t 4)), iN (.store 2 (.t 2) (.t 9)), iI 3 (.mv (.t 10))]) .ret) (.skip)
def c24_1 : C := .seq (.reg [iI 7 (.mv (.t 4)), iI 8 (.bin .neq (.t 7) (.c (.int .i64 0)))]) c24_0
def c24_2 : C := .seq (.reg [iI 18 (.load 2 (.t 1)), iN (.store 2 (.t 2) (.t 18)), iI 3 (.mv (.c (.int .i64 0)))]) .ret
def c24_3 : C := .seq (.reg [iI 15 (.faddr 1 (.t 1)), iI 16 (.load 0 (.t 15)), iI 17 (.call (.c (.fn 47 [])) [(.t 16)])]) c24_2
def c24_4 : C := .seq (.reg [iI 11 (.faddr 1 (.t 1)), iI 12 (.load 0 (.t 11)), iI 13 (.call (.c (.fn 46 [])) [(.t 12)]), iI 14 (.faddr 1 (.t 1)), iN (.store 0 (.t 14) (.t 13))]) c24_3
def c24_5 : C := .seq (.seq (.reg [iI 5 (.load 2 (.t 1)), iI 6 (.call (.c (.fn 20 [])) [(.t 5)]), iI 4 (.mv (.t 6))]) c24_1) c24_4
def ir24 : C := .seq (.reg [iI 1 (.box (.t 0)), iI 2 (.alloc [(1, (.int .i64 0)), (1, (.sl 0 true []))]), iI 3 (.mv (.c (.int .i64 0)))]) c24_5
theorem fd24 : fd? Try.prog 24 = some (19, [.cell 2 2, .slot 3], ir24) := by kernel_rfl
noncomputable def f24 (g_445 : ApiGroup) : Option (ApiGroup × Int) :=
  (f20 g_445).bind fun r_447 => (if (decide (r_447 ≠ 0)) = true then (some ((ApiGroup.mk 0 ([])), r_447)) else (f46 g_445.fChannels).bind fun r_451 => ((f24_C1 g_445 r_451).run.bind fun v_477 => (must? (v_477.length = r_451.length)).bind fun _ => (some ((ApiGroup.mk g_445.fNumber v_477), 0))))
theorem f24_ok {g_445 : ApiGroup} {r_ : ApiGroup × Int} (H : f24 g_445 = some r_) : Pure Try.prog 24 [.agg [.int .i64 g_445.fNumber, .sl 0 false (g_445.fChannels.map (AV.int .i64))]] (· = .tup [.agg [.int .i64 r_.1.fNumber, .sl 0 false (r_.1.fChannels.map (AV.int .i64))], .int .i64 r_.2]) := by
 refine Pure.walk3 fd24 none (Nat.le_of_ble_eq_true rfl) (by rfl) fun Q hQ => ?_
 simp only [f24] at H
 refine AW.rseq ?_
 try simp only [↓wk, ↓wl, nqs, evV, ↓reduceIte, sevalprocAttr]
 refine AW.sseq ?_
 refine AW.rseq ?_
 try simp only [↓wk, ↓wl, nqs, evV, ↓reduceIte, sevalprocAttr]
 refine evTs_pure hFn H (fun _ h => f20_ok h) (by rfl) (by rfl) (by rfl) (by rfl) (fun _ => rfl) ?_ <;> clear H <;> intro r_447 H
 try simp only [eL, ↓wk, ↓wl, nqs, evV, ↓reduceIte, sevalprocAttr]
 refine AW.rseq ?_
 try simp only [↓wk, ↓wl, nqs, evV, ↓reduceIte, sevalprocAttr]
 refine AW.ifc H (by rfl) ?_ ?_ <;> clear H <;> intro H
 ·refine AW.rseq ?_
  try simp only [↓wk, ↓wl, nqs, evV, ↓reduceIte, sevalprocAttr]
  refine evTs_st (by simp only [↓wk, ↓wl, nqs, evV, ↓reduceIte, sevalprocAttr, Nat.reduceLeDiff]; rfl) ?_
  try simp only [↓wk, ↓wl, nqs, evV, ↓reduceIte, sevalprocAttr]
  refine AW.ret ?_
  refine seqQ.ret ?_
  cases H
  exact hQ _ _ _ _ (.inr rfl) (by simp only [resVs, omap, resV, ↓wk, ↓wl, nqs, evV, ↓reduceIte, sevalprocAttr]; rfl) (hand_plain (by rfl)) (by first | exact Or.inl rfl | exact Or.inr rfl)
 ·refine AW.skip ?_
  refine seqQ.norm ?_
  refine AW.rseq ?_
  try simp only [↓wk, ↓wl, nqs, evV, ↓reduceIte, sevalprocAttr]
  refine evTs_fr H (fun _ h => f46_ok h) (by rfl) (by rfl) (by rfl) (by rfl) (fun _ => rfl) ?_ <;> clear H <;> intro r_451 H
  try simp only [eL, ↓wk, ↓wl, nqs, evV, ↓reduceIte, sevalprocAttr]
  refine evTs_st (by simp only [↓wk, ↓wl, nqs, evV, ↓reduceIte, sevalprocAttr, Nat.reduceLeDiff]; rfl) ?_
  try simp only [↓wk, ↓wl, nqs, evV, ↓reduceIte, sevalprocAttr]
  refine AW.rseq ?_
  try simp only [↓wk, ↓wl, nqs, evV, ↓reduceIte, sevalprocAttr]
  refine evTs_inl (I := f24_C1 g_445 r_451) (args := [.row 0 2 0 r_451.length]) H (by rfl) fd47 (by rfl) (Nat.le_of_ble_eq_true rfl) ?_ ?_ <;> clear H
  ·rintro v_ Q_ H hqf24_C1
   simp only [f24_C1] at H
   dsimp only [List.length_cons, List.length_nil]
   refine AW.rseq ?_
   try simp only [↓wk, ↓wl, nqs, evV, ↓reduceIte, sevalprocAttr]
   refine AW.bend ?_
   refine AW.iter H ((Le.tq 3 [0, 1, 2] [0, 2, 3] (by simp only [f24_L2c, rrm, ↓wk, ↓wl, evV, ↓reduceIte, sevalprocAttr] <;> rfl))) ?_ <;> clear H
   rintro ⟨i_493, j_494, v_495⟩ x_ st0_ H hst_
   rw [f24_L2c] at hst_
   simp only [f24_L2] at H
   subst hst_
   refine AW.sseq ?_
   refine AW.rseq ?_
   try simp only [↓wk, ↓wl, nqs, evV, ↓reduceIte, sevalprocAttr]
   refine AW.ifc H (by rfl) ?_ ?_ <;> clear H <;> intro H
   ·refine AW.skip ?_
    refine seqQ.norm ?_
    refine AW.bseq ?_
    refine AW.rend ?_
    try simp only [↓wk, ↓wl, nqs, evV, ↓reduceIte, sevalprocAttr]
    refine evTs_atr (enc := (AV.int .i64)) H (by rfl) (by first | rfl | simp only [List.length_set]) (by rfl) ?_ <;> clear H <;> intro x_503 hx_503 H
    try simp only [↓wk, ↓wl, nqs, evV, ↓reduceIte, sevalprocAttr, hx_503]
    refine evTs_atr (enc := (AV.int .i64)) H (by rfl) (by first | rfl | simp only [List.length_set, hx_503]) (by rfl) ?_ <;> clear H <;> intro x_504 hx_504 H
    try simp only [↓wk, ↓wl, nqs, evV, ↓reduceIte, sevalprocAttr, hx_503, hx_504]
    refine evTs_atr (enc := (AV.int .i64)) H (by rfl) (by first | rfl | simp only [List.length_set, hx_503, hx_504]) (by rfl) ?_ <;> clear H <;> intro x_505 hx_505 H
    try simp only [↓wk, ↓wl, nqs, evV, ↓reduceIte, sevalprocAttr, hx_503, hx_505]
    refine evTs_stW (enc := (AV.int .i64)) x_503 (by rfl) (by rfl) (by first | exact lt_map hx_505 | (simp only [List.length_set, hx_503]; exact lt_map hx_505)) (fun _ => by rfl) ?_
    have hw_506 := set_get hx_505 x_503
    try simp only [↓wk, ↓wl, nqs, evV, ↓reduceIte, sevalprocAttr, hx_503, hx_505, hw_506]
    refine evTs_atr (enc := (AV.int .i64)) H (by rfl) (by first | rfl | simp only [List.length_set, hx_503, hx_505, hw_506]) (by rfl) ?_ <;> clear H <;> intro x_507 hx_507 H
    try simp only [↓wk, ↓wl, nqs, evV, ↓reduceIte, sevalprocAttr, hx_503, hx_505, hw_506, hx_507]
    refine evTs_stW (enc := (AV.int .i64)) x_504 (by rfl) (by rfl) (by first | exact lt_map hx_507 | (simp only [List.length_set, hx_503, hx_505, hw_506]; exact lt_map hx_507)) (fun _ => by rfl) ?_
    have hw_508 := set_get hx_507 x_504
    try simp only [↓wk, ↓wl, nqs, evV, ↓reduceIte, sevalprocAttr, hx_503, hx_505, hw_506, hx_507, hw_508]
    refine blkQ.norm ?_
    refine AW.rend ?_
    try simp only [↓wk, ↓wl, nqs, evV, ↓reduceIte, sevalprocAttr, hx_503, hx_505, hw_506, hx_507, hw_508]
    exact loopQ.next H ((Le.tq 3 [0, 1, 2] [0, 2, 3] (by simp only [f24_L2c, rrm, ↓wk, ↓wl, evV, ↓reduceIte, sevalprocAttr, hx_503, hx_505, hw_506, hx_507, hw_508] <;> rfl)))
   ·refine AW.exit ?_
    refine seqQ.exit ?_
    refine loopQ.exit H ?_ <;> clear H <;> intro H
    try dsimp only at H
    refine blk0.here ?_
    cases H
    exact hqf24_C1 _ _ _ (.inl rfl) (Le.tq 3 [0, 1, 2] [] rfl) (by simp only [resVs, omap, resV, f24_C1, rrm, ↓wk, ↓wl, evV, ↓reduceIte, sevalprocAttr]) (by simp only [f24_C1, rrm, ↓wk, ↓wl, evV, ↓reduceIte, sevalprocAttr])
  ·rintro v_477 s_ h_ H hs_ hh_
   simp only [f24_C1] at H hs_ hh_
   subst hs_
   subst hh_
   have hlv_477 := (must_inv H).1
   have thlv_477 := fun f => take_map_eq hlv_477 f
   replace H := (must_inv H).2
   try simp only [↓wk, ↓wl, nqs, evV, ↓reduceIte, sevalprocAttr, hlv_477, thlv_477]
   refine AW.rseq ?_
   try simp only [↓wk, ↓wl, nqs, evV, ↓reduceIte, sevalprocAttr, hlv_477, thlv_477]
   refine evTs_st (by simp only [↓wk, ↓wl, nqs, evV, ↓reduceIte, sevalprocAttr, hlv_477, thlv_477, Nat.reduceLeDiff]; rfl) ?_
   try simp only [↓wk, ↓wl, nqs, evV, ↓reduceIte, sevalprocAttr, hlv_477, thlv_477]
   refine AW.ret ?_
   cases H
   exact hQ _ _ _ _ (.inr rfl) (by simp only [resVs, omap, resV, ↓wk, ↓wl, nqs, evV, ↓reduceIte, sevalprocAttr, hlv_477, thlv_477]; rfl) (by simp only [handOver, deep_eq, imm_simps, imm_rowE, imm_ptrE, imm_enc, omap_simps, take_map_len, take_map_set, take_map_set2, List.length_set, le_refl_true, Nat.zero_add, and_true, true_and, List.drop_zero, Option.map_some, ↓wk, ↓wl, nqs, evV, ↓reduceIte, sevalprocAttr, hlv_477, thlv_477]; rfl) (by first | exact Or.inl rfl | exact Or.inr rfl)
noncomputable def f25_L1 (g_510 : ApiGroup) : Lp (Int × (List Int)) ((List Int)) where
  body := fun (i_521, out_522) => (if (decide (0 ≤ i_521)) = true then (at? g_510.fChannels i_521).bind fun x_526 => (app? 8 out_522 ([x_526])).bind fun out_527 => (some (.next ((IntKind.i64.wrap (i_521 - 1)), out_527))) else (some (.brk out_522)))
  cst := fun (i_521, out_522) => ⟨put (put (put (put (fun _ => .junk) 6 (.int .i64 i_521)) 5 (.ptr 2 0)) 2 (.ptr 1 0)) 1 (.ptr 0 0), [.cel [.int .i64 g_510.fNumber, .sl 0 false (g_510.fChannels.map (AV.int .i64))], .cel [.int .i64 0, .sl 0 true []], .cel [.int .i64 g_510.fNumber, .row 0 3 0 out_522.length], .els 0 (out_522.map (AV.int .i64))]⟩
theorem f25_L1c (g_510 : ApiGroup) (i_521 : Int) (out_522 : (List Int)) : (f25_L1 g_510).cst (i_521, out_522) = ⟨put (put (put (put (fun _ => .junk) 6 (.int .i64 i_521)) 5 (.ptr 2 0)) 2 (.ptr 1 0)) 1 (.ptr 0 0), [.cel [.int .i64 g_510.fNumber, .sl 0 false (g_510.fChannels.map (AV.int .i64))], .cel [.int .i64 0, .sl 0 true []], .cel [.int .i64 g_510.fNumber, .row 0 3 0 out_522.length], .els 0 (out_522.map (AV.int .i64))]⟩ := rfl
def c25_0 : C := .cond (.t 10) (.seq (.reg [iI 11 (.build [(1, (.int .i64 0)), (1, (.sl 0 true []))] []), iI 12 (.mv (.t 4)), iN (.store 2 (.t 2) (.t 11)), iI 3 (.mv (.t 12))]) .ret) (.skip)
def c25_1 : C := .seq (.reg [iI 9 (.mv (.t 4)), iI 10 (.bin .neq (.t 9) (.c (.int .i64 0)))]) c25_0
def c25_2 : C := .cond (.t 21) (.skip) (.exit 0)
def c25_3 : C := .reg [iI 22 (.mv (.t 6)), iI 23 (.bin .sub (.t 22) (.c (.int .i64 1))), iI 6 (.mv (.t 23))]
def c25_4 : C := .seq (.block 1 (.reg [iI 24 (.faddr 1 (.t 5)), iI 25 (.load 0 (.t 24)), iI 26 (.faddr 1 (.t 1)), iI 27 (.load 0 (.t 26)), iI 28 (.mv (.t 6)), iI 29 (.iaddr 0 (.t 27) (.t 28)), iI 30 (.load 0 (.t 29)), iI 31 (.mkslp 0 1 (.int .i64 0) [(0, (.t 30))]), iI 32 (.append 0 8 (.t 25) (.t 31)), iI 33 (.faddr 1 (.t 5)), iN (.store 0 (.t 33) (.t 32))])) c25_3
def c25_5 : C := .block 0 (.loop (.seq (.seq (.reg [iI 20 (.mv (.t 6)), iI 21 (.bin .geq (.t 20) (.c (.int .i64 0)))]) c25_2) c25_4))
def c25_6 : C := .seq (.reg [iI 34 (.load 2 (.t 5)), iN (.store 2 (.t 2) (.t 34)), iI 3 (.mv (.c (.int .i64 0)))]) .ret
def c25_7 : C := .seq (.seq (.reg [iI 16 (.faddr 1 (.t 1)), iI 17 (.load 0 (.t 16)), iI 18 (.len 0 (.t 17)), iI 19 (.bin .sub (.t 18) (.c (.int .i64 1))), iI 6 (.mv (.t 19))]) c25_5) c25_6
def c25_8 : C := .seq (.reg [iI 13 (.faddr 0 (.t 1)), iI 14 (.load 0 (.t 13)), iI 15 (.build [(1, (.int .i64 0)), (1, (.sl 0 true []))] [(0, 0, (.t 14))]), iI 5 (.alloc [(1, (.int .i64 0)), (1, (.sl 0 true []))]), iN (.store 2 (.t 5) (.t 15))]) c25_7
def c25_9 : C := .seq (.seq (.reg [iI 7 (.load 2 (.t 1)), iI 8 (.call (.c (.fn 21 [])) [(.t 7)]), iI 4 (.mv (.t 8))]) c25_1) c25_8
def ir25 : C := .seq (.reg [iI 1 (.box (.t 0)), iI 2 (.alloc [(1, (.int .i64 0)), (1, (.sl 0 true []))]), iI 3 (.mv (.c (.int .i64 0)))]) c25_9
theorem fd25 : fd? Try.prog 25 = some (35, [.cell 2 2, .slot 3], ir25) := by kernel_rfl
noncomputable def f25 (g_510 : ApiGroup) : Option (ApiGroup × Int) :=
  (f21 g_510).bind fun r_512 => (if (decide (r_512 ≠ 0)) = true then (some ((ApiGroup.mk 0 ([])), r_512)) else (Lp.run (f25_L1 g_510) ((IntKind.i64.wrap (((g_510.fChannels.length : Nat) : Int) - 1)), [])).bind fun out_525 => (some ((ApiGroup.mk g_510.fNumber out_525), 0)))
theorem f25_ok {g_510 : ApiGroup} {r_ : ApiGroup × Int} (H : f25 g_510 = some r_) : Pure Try.prog 25 [.agg [.int .i64 g_510.fNumber, .sl 0 false (g_510.fChannels.map (AV.int .i64))]] (· = .tup [.agg [.int .i64 r_.1.fNumber, .sl 0 false (r_.1.fChannels.map (AV.int .i64))], .int .i64 r_.2]) := by
 refine Pure.walk3 fd25 none (Nat.le_of_ble_eq_true rfl) (by rfl) fun Q hQ => ?_
 simp only [f25] at H
 refine AW.rseq ?_
 try simp only [↓wk, ↓wl, nq, evV, ↓reduceIte, sevalprocAttr]
 refine AW.sseq ?_
 refine AW.rseq ?_
 try simp only [↓wk, ↓wl, nq, evV, ↓reduceIte, sevalprocAttr]
 refine evTs_pure hFn H (fun _ h => f21_ok h) (by rfl) (by rfl) (by rfl) (by rfl) (fun _ => rfl) ?_ <;> clear H <;> intro r_512 H
 try simp only [eL, ↓wk, ↓wl, nq, evV, ↓reduceIte, sevalprocAttr]
 refine AW.rseq ?_
 try simp only [↓wk, ↓wl, nq, evV, ↓reduceIte, sevalprocAttr]
 refine AW.ifc H (by rfl) ?_ ?_ <;> clear H <;> intro H
 ·refine AW.rseq ?_
  try simp only [↓wk, ↓wl, nq, evV, ↓reduceIte, sevalprocAttr]
  refine AW.ret ?_
  refine seqQ.ret ?_
  cases H
  exact hQ.fin
 ·refine AW.skip ?_
  refine seqQ.norm ?_
  refine AW.rseq ?_
  try simp only [↓wk, ↓wl, nq, evV, ↓reduceIte, sevalprocAttr]
  refine AW.sseq ?_
  refine AW.rseq ?_
  try simp only [↓wk, ↓wl, nq, evV, ↓reduceIte, sevalprocAttr]
  refine AW.bend ?_
  refine AW.iter H ((Le.trans (Le.nilCell (b := 2) (o := 1) (e := 0) (by rfl) (by rfl)) (Le.tz [0, 1, 2, 3] [1, 2, 5, 6] (by simp only [f25_L1c, rrm, ↓wk, ↓wl, evV, ↓reduceIte, sevalprocAttr] <;> rfl)))) ?_ <;> clear H
  rintro ⟨i_521, out_522⟩ x_ st0_ H hst_
  rw [f25_L1c] at hst_
  simp only [f25_L1] at H
  subst hst_
  refine AW.sseq ?_
  refine AW.rseq ?_
  try simp only [↓wk, ↓wl, nq, evV, ↓reduceIte, sevalprocAttr]
  refine AW.ifc H (by rfl) ?_ ?_ <;> clear H <;> intro H
  ·refine AW.skip ?_
   refine seqQ.norm ?_
   refine AW.bseq ?_
   refine AW.rend ?_
   try simp only [↓wk, ↓wl, nq, evV, ↓reduceIte, sevalprocAttr]
   refine evTs_at (enc := (AV.int .i64)) H (by rfl) (by rfl) ?_ <;> clear H <;> intro x_526 H
   try simp only [↓wk, ↓wl, nq, evV, ↓reduceIte, sevalprocAttr]
   refine evTs_app (enc := (AV.int .i64)) H (by rfl) (by first | rfl | simp only [List.length_set]) (by rfl) (by rfl) ?_ <;> clear H <;> intro out_527 H
   try simp only [↓wk, ↓wl, nq, evV, ↓reduceIte, sevalprocAttr]
   refine blkQ.norm ?_
   refine AW.rend ?_
   try simp only [↓wk, ↓wl, nq, evV, ↓reduceIte, sevalprocAttr]
   exact loopQ.next H ((Le.tz [0, 1, 2, 4] [1, 2, 5, 6] (by simp only [f25_L1c, rrm, ↓wk, ↓wl, evV, ↓reduceIte, sevalprocAttr] <;> rfl)))
  ·refine AW.exit ?_
   refine seqQ.exit ?_
   refine loopQ.exit H ?_ <;> clear H <;> intro H
   try dsimp only at H
   refine blk0.here ?_
   refine seqQ.norm ?_
   refine AW.rseq ?_
   try simp only [↓wk, ↓wl, nq, evV, ↓reduceIte, sevalprocAttr]
   refine AW.ret ?_
   cases H
   exact hQ _ _ _ _ (.inr rfl) (by simp only [resVs, omap, resV, ↓wk, ↓wl, nq, evV, ↓reduceIte, sevalprocAttr]; rfl) (by simp only [handOver, deep_eq, imm_simps, imm_rowE, imm_ptrE, imm_enc, omap_simps, take_map_len, take_map_set, take_map_set2, List.length_set, le_refl_true, Nat.zero_add, and_true, true_and, List.drop_zero, Option.map_some, ↓wk, ↓wl, nq, evV, ↓reduceIte, sevalprocAttr]; rfl) (by first | exact Or.inl rfl | exact Or.inr rfl)
noncomputable def f27_L1 (g_530 : ApiGroup) (step_531 : Int) : Lp (Int × (List Int)) ((List Int)) where
  body := fun (i_543, out_544) => (if (decide (i_543 < ((g_530.fChannels.length : Nat) : Int))) = true then (at? g_530.fChannels i_543).bind fun x_548 => (app? 8 out_544 ([x_548])).bind fun out_549 => (some (.next ((IntKind.i64.wrap (i_543 + step_531)), out_549))) else (some (.brk out_544)))
  cst := fun (i_543, out_544) => ⟨put (put (put (put (put (fun _ => .junk) 10 (.int .i64 i_543)) 9 (.ptr 2 0)) 6 (.ptr 1 0)) 3 (.ptr 0 0)) 1 (.int .i64 step_531), [.cel [.int .i64 g_530.fNumber, .sl 0 false (g_530.fChannels.map (AV.int .i64))], .cel [.int .i64 0, .sl 0 true []], .cel [.int .i64 g_530.fNumber, .row 0 3 0 out_544.length], .els 0 (out_544.map (AV.int .i64))]⟩
theorem f27_L1c (g_530 : ApiGroup) (step_531 : Int) (i_543 : Int) (out_544 : (List Int)) : (f27_L1 g_530 step_531).cst (i_543, out_544) = ⟨put (put (put (put (put (fun _ => .junk) 10 (.int .i64 i_543)) 9 (.ptr 2 0)) 6 (.ptr 1 0)) 3 (.ptr 0 0)) 1 (.int .i64 step_531), [.cel [.int .i64 g_530.fNumber, .sl 0 false (g_530.fChannels.map (AV.int .i64))], .cel [.int .i64 0, .sl 0 true []], .cel [.int .i64 g_530.fNumber, .row 0 3 0 out_544.length], .els 0 (out_544.map (AV.int .i64))]⟩ := rfl
def c27_0 : C := .cond (.t 14) (.seq (.reg [iI 15 (.build [(1, (.int .i64 0)), (1, (.sl 0 true []))] []), iI 16 (.mv (.t 8)), iN (.store 2 (.t 6) (.t 15)), iI 7 (.mv (.t 16))]) .ret) (.skip)
def c27_1 : C := .seq (.reg [iI 13 (.mv (.t 8)), iI 14 (.bin .neq (.t 13) (.c (.int .i64 0)))]) c27_0
def c27_2 : C := .cond (.t 30) (.seq (.reg [iI 31 (.build [(1, (.int .i64 0)), (1, (.sl 0 true []))] []), iN (.store 2 (.t 6) (.t 31)), iI 7 (.mv (.c (.int .i64 2)))]) .ret) (.skip)
def c27_3 : C := .cond (.t 40) (.skip) (.exit 0)
def c27_4 : C := .reg [iI 41 (.mv (.t 10)), iI 42 (.mv (.t 1)), iI 43 (.bin .add (.t 41) (.t 42)), iI 10 (.mv (.t 43))]
def c27_5 : C := .seq (.block 1 (.reg [iI 44 (.faddr 1 (.t 9)), iI 45 (.load 0 (.t 44)), iI 46 (.faddr 1 (.t 3)), iI 47 (.load 0 (.t 46)), iI 48 (.mv (.t 10)), iI 49 (.iaddr 0 (.t 47) (.t 48)), iI 50 (.load 0 (.t 49)), iI 51 (.mkslp 0 1 (.int .i64 0) [(0, (.t 50))]), iI 52 (.append 0 8 (.t 45) (.t 51)), iI 53 (.faddr 1 (.t 9)), iN (.store 0 (.t 53) (.t 52))])) c27_4
def c27_6 : C := .block 0 (.loop (.seq (.seq (.reg [iI 36 (.mv (.t 10)), iI 37 (.faddr 1 (.t 3)), iI 38 (.load 0 (.t 37)), iI 39 (.len 0 (.t 38)), iI 40 (.bin .lss (.t 36) (.t 39))]) c27_3) c27_5))
def c27_7 : C := .seq (.reg [iI 54 (.load 2 (.t 9)), iN (.store 2 (.t 6) (.t 54)), iI 7 (.mv (.c (.int .i64 0)))]) .ret
def c27_8 : C := .seq (.seq (.reg [iI 35 (.mv (.t 2)), iI 10 (.mv (.t 35))]) c27_6) c27_7
def c27_9 : C := .seq (.reg [iI 32 (.faddr 0 (.t 3)), iI 33 (.load 0 (.t 32)), iI 34 (.build [(1, (.int .i64 0)), (1, (.sl 0 true []))] [(0, 0, (.t 33))]), iI 9 (.alloc [(1, (.int .i64 0)), (1, (.sl 0 true []))]), iN (.store 2 (.t 9) (.t 34))]) c27_8
def c27_10 : C := .seq (.seq (.reg [iI 17 (.mv (.t 1)), iI 18 (.bin .lss (.t 17) (.c (.int .i64 1))), iI 19 (.mv (.t 18)), iG (some 20) 19 false (.mv (.t 1)), iG (some 21) 19 false (.bin .gtr (.t 20) (.c (.int .i64 256))), iI 22 (.pick (.t 19) (.c (.bool true)) (.t 21)), iI 23 (.mv (.t 22)), iG (some 24) 23 false (.mv (.t 2)), iG (some 25) 23 false (.bin .lss (.t 24) (.c (.int .i64 0))), iI 26 (.pick (.t 23) (.c (.bool true)) (.t 25)), iI 27 (.mv (.t 26)), iG (some 28) 27 false (.mv (.t 2)), iG (some 29) 27 false (.bin .gtr (.t 28) (.c (.int .i64 256))), iI 30 (.pick (.t 27) (.c (.bool true)) (.t 29))]) c27_2) c27_9
def c27_11 : C := .seq (.seq (.reg [iI 11 (.load 2 (.t 3)), iI 12 (.call (.c (.fn 21 [])) [(.t 11)]), iI 8 (.mv (.t 12))]) c27_1) c27_10
def ir27 : C := .seq (.reg [iI 3 (.box (.t 0)), iI 6 (.alloc [(1, (.int .i64 0)), (1, (.sl 0 true []))]), iI 7 (.mv (.c (.int .i64 0)))]) c27_11
theorem fd27 : fd? Try.prog 27 = some (55, [.cell 6 2, .slot 7], ir27) := by kernel_rfl
noncomputable def f27 (g_530 : ApiGroup) (step_531 : Int) (first_532 : Int) : Option (ApiGroup × Int) :=
  (f21 g_530).bind fun r_534 => (if (decide (r_534 ≠ 0)) = true then (some ((ApiGroup.mk 0 ([])), r_534)) else (if (decide (step_531 < 1)) = true then (some ((ApiGroup.mk 0 ([])), 2)) else (if (decide (256 < step_531)) = true then (some ((ApiGroup.mk 0 ([])), 2)) else (if (decide (first_532 < 0)) = true then (some ((ApiGroup.mk 0 ([])), 2)) else (if (decide (256 < first_532)) = true then (some ((ApiGroup.mk 0 ([])), 2)) else (Lp.run (f27_L1 g_530 step_531) (first_532, [])).bind fun out_547 => (some ((ApiGroup.mk g_530.fNumber out_547), 0)))))))
theorem f27_ok {g_530 : ApiGroup} {step_531 : Int} {first_532 : Int} {r_ : ApiGroup × Int} (H : f27 g_530 step_531 first_532 = some r_) : Pure Try.prog 27 [.agg [.int .i64 g_530.fNumber, .sl 0 false (g_530.fChannels.map (AV.int .i64))], .int .i64 step_531, .int .i64 first_532] (· = .tup [.agg [.int .i64 r_.1.fNumber, .sl 0 false (r_.1.fChannels.map (AV.int .i64))], .int .i64 r_.2]) := by
 refine Pure.walk3 fd27 none (Nat.le_of_ble_eq_true rfl) (by rfl) fun Q hQ => ?_
 simp only [f27] at H
 refine AW.rseq ?_
 try simp only [↓wk, ↓wl, nq, evV, ↓reduceIte, sevalprocAttr]
 refine AW.sseq ?_
 refine AW.rseq ?_
 try simp only [↓wk, ↓wl, nq, evV, ↓reduceIte, sevalprocAttr]
 refine evTs_pure hFn H (fun _ h => f21_ok h) (by rfl) (by rfl) (by rfl) (by rfl) (fun _ => rfl) ?_ <;> clear H <;> intro r_534 H
 try simp only [eL, ↓wk, ↓wl, nq, evV, ↓reduceIte, sevalprocAttr]
 refine AW.rseq ?_
 try simp only [↓wk, ↓wl, nq, evV, ↓reduceIte, sevalprocAttr]
 refine AW.ifc H (by rfl) ?_ ?_ <;> clear H <;> intro H
 ·refine AW.rseq ?_
  try simp only [↓wk, ↓wl, nq, evV, ↓reduceIte, sevalprocAttr]
  refine AW.ret ?_
  refine seqQ.ret ?_
  cases H
  exact hQ.fin
 ·refine AW.skip ?_
  refine seqQ.norm ?_
  refine AW.sseq ?_
  refine AW.rseq ?_
  try simp only [↓wk, ↓wl, nq, evV, ↓reduceIte, sevalprocAttr]
  refine evTs_ifg H (by rfl) ?_ ?_ <;> clear H <;> intro H
  ·try simp only [↓wk, ↓wl, nq, evV, ↓reduceIte, sevalprocAttr]
   refine AW.ift (by rfl) ?_
   refine AW.rseq ?_
   try simp only [↓wk, ↓wl, nq, evV, ↓reduceIte, sevalprocAttr]
   refine AW.ret ?_
   refine seqQ.ret ?_
   cases H
   exact hQ.fin
  ·try simp only [↓wk, ↓wl, nq, evV, ↓reduceIte, sevalprocAttr]
   refine evTs_ifg H (by rfl) ?_ ?_ <;> clear H <;> intro H
   ·try simp only [↓wk, ↓wl, nq, evV, ↓reduceIte, sevalprocAttr]
    refine AW.ift (by rfl) ?_
    refine AW.rseq ?_
    try simp only [↓wk, ↓wl, nq, evV, ↓reduceIte, sevalprocAttr]
    refine AW.ret ?_
    refine seqQ.ret ?_
    cases H
    exact hQ.fin
   ·try simp only [↓wk, ↓wl, nq, evV, ↓reduceIte, sevalprocAttr]
    refine evTs_ifg H (by rfl) ?_ ?_ <;> clear H <;> intro H
    ·try simp only [↓wk, ↓wl, nq, evV, ↓reduceIte, sevalprocAttr]
     refine AW.ift (by rfl) ?_
     refine AW.rseq ?_
     try simp only [↓wk, ↓wl, nq, evV, ↓reduceIte, sevalprocAttr]
     refine AW.ret ?_
     refine seqQ.ret ?_
     cases H
     exact hQ.fin
    ·try simp only [↓wk, ↓wl, nq, evV, ↓reduceIte, sevalprocAttr]
     refine AW.ifc H (by rfl) ?_ ?_ <;> clear H <;> intro H
     ·refine AW.rseq ?_
      try simp only [↓wk, ↓wl, nq, evV, ↓reduceIte, sevalprocAttr]
      refine AW.ret ?_
      refine seqQ.ret ?_
      cases H
      exact hQ.fin
     ·refine AW.skip ?_
      refine seqQ.norm ?_
      refine AW.rseq ?_
      try simp only [↓wk, ↓wl, nq, evV, ↓reduceIte, sevalprocAttr]
      refine AW.sseq ?_
      refine AW.rseq ?_
      try simp only [↓wk, ↓wl, nq, evV, ↓reduceIte, sevalprocAttr]
      refine AW.bend ?_
      refine AW.iter H ((Le.trans (Le.nilCell (b := 2) (o := 1) (e := 0) (by rfl) (by rfl)) (Le.tz [0, 1, 2, 3] [1, 3, 6, 9, 10] (by simp only [f27_L1c, rrm, ↓wk, ↓wl, evV, ↓reduceIte, sevalprocAttr] <;> rfl)))) ?_ <;> clear H
      rintro ⟨i_543, out_544⟩ x_ st0_ H hst_
      rw [f27_L1c] at hst_
      simp only [f27_L1] at H
      subst hst_
      refine AW.sseq ?_
      refine AW.rseq ?_
      try simp only [↓wk, ↓wl, nq, evV, ↓reduceIte, sevalprocAttr]
      refine AW.ifc H (by rfl) ?_ ?_ <;> clear H <;> intro H
      ·refine AW.skip ?_
       refine seqQ.norm ?_
       refine AW.bseq ?_
       refine AW.rend ?_
       try simp only [↓wk, ↓wl, nq, evV, ↓reduceIte, sevalprocAttr]
       refine evTs_at (enc := (AV.int .i64)) H (by rfl) (by rfl) ?_ <;> clear H <;> intro x_548 H
       try simp only [↓wk, ↓wl, nq, evV, ↓reduceIte, sevalprocAttr]
       refine evTs_app (enc := (AV.int .i64)) H (by rfl) (by first | rfl | simp only [List.length_set]) (by rfl) (by rfl) ?_ <;> clear H <;> intro out_549 H
       try simp only [↓wk, ↓wl, nq, evV, ↓reduceIte, sevalprocAttr]
       refine blkQ.norm ?_
       refine AW.rend ?_
       try simp only [↓wk, ↓wl, nq, evV, ↓reduceIte, sevalprocAttr]
       exact loopQ.next H ((Le.tz [0, 1, 2, 4] [1, 3, 6, 9, 10] (by simp only [f27_L1c, rrm, ↓wk, ↓wl, evV, ↓reduceIte, sevalprocAttr] <;> rfl)))
      ·refine AW.exit ?_
       refine seqQ.exit ?_
       refine loopQ.exit H ?_ <;> clear H <;> intro H
       try dsimp only at H
       refine blk0.here ?_
       refine seqQ.norm ?_
       refine AW.rseq ?_
       try simp only [↓wk, ↓wl, nq, evV, ↓reduceIte, sevalprocAttr]
       refine AW.ret ?_
       cases H
       exact hQ _ _ _ _ (.inr rfl) (by simp only [resVs, omap, resV, ↓wk, ↓wl, nq, evV, ↓reduceIte, sevalprocAttr]; rfl) (by simp only [handOver, deep_eq, imm_simps, imm_rowE, imm_ptrE, imm_enc, omap_simps, take_map_len, take_map_set, take_map_set2, List.length_set, le_refl_true, Nat.zero_add, and_true, true_and, List.drop_zero, Option.map_some, ↓wk, ↓wl, nq, evV, ↓reduceIte, sevalprocAttr]; rfl) (by first | exact Or.inl rfl | exact Or.inr rfl)
def c7_0 : C := .cond (.t 18) (.seq (.reg [iI 19 (.call (.c (.fn 15 [])) []), iI 6 (.mv (.t 19))]) .ret) (.skip)
def c7_1 : C := .seq (.reg [iI 44 (.call (.c (.fn 15 [])) []), iI 45 (.mv (.t 44)), iG (some 46) 45 true (.load 2 (.t 7)), iG (some 47) 45 true (.load 2 (.t 9)), iG (some 48) 45 true (.call (.c (.fn 19 [])) [(.t 46), (.t 47)]), iI 49 (.pick (.t 45) (.t 48) (.c (.bool false))), iI 50 (.mv (.t 49)), iG (some 51) 50 true (.mv (.t 8)), iG (some 52) 50 true (.mv (.t 10)), iG (some 53) 50 true (.bin .eql (.t 51) (.t 52)), iI 54 (.pick (.t 50) (.t 53) (.c (.bool false))), iI 55 (.mv (.t 54)), iG (some 56) 55 true (.load 2 (.t 11)), iG (some 57) 55 true (.load 2 (.t 13)), iG (some 58) 55 true (.call (.c (.fn 19 [])) [(.t 56), (.t 57)]), iI 59 (.pick (.t 55) (.t 58) (.c (.bool false))), iI 60 (.mv (.t 59)), iG (some 61) 60 true (.mv (.t 12)), iG (some 62) 60 true (.mv (.t 14)), iG (some 63) 60 true (.bin .eql (.t 61) (.t 62)), iI 64 (.pick (.t 60) (.t 63) (.c (.bool false))), iI 6 (.mv (.t 64))]) .ret
def c7_2 : C := .seq (.reg [iI 38 (.load 2 (.t 3)), iI 39 (.mv (.t 1)), iI 40 (.mv (.t 2)), iI 41 (.call (.c (.fn 27 [])) [(.t 38), (.t 39), (.t 40)]), iI 37 (.mv (.t 41)), iI 42 (.ext (.t 37) 0), iI 43 (.ext (.t 37) 1), iI 13 (.alloc [(1, (.int .i64 0)), (1, (.sl 0 true []))]), iN (.store 2 (.t 13) (.t 42)), iI 14 (.mv (.t 43))]) c7_1
def c7_3 : C := .seq (.reg [iI 31 (.load 2 (.t 3)), iI 32 (.mv (.t 1)), iI 33 (.mv (.t 2)), iI 34 (.call (.c (.fn 26 [])) [(.t 31), (.t 32), (.t 33)]), iI 30 (.mv (.t 34)), iI 35 (.ext (.t 30) 0), iI 36 (.ext (.t 30) 1), iI 11 (.alloc [(1, (.int .i64 0)), (1, (.sl 0 true []))]), iN (.store 2 (.t 11) (.t 35)), iI 12 (.mv (.t 36))]) c7_2
def c7_4 : C := .seq (.reg [iI 26 (.load 2 (.t 3)), iI 27 (.call (.c (.fn 25 [])) [(.t 26)]), iI 25 (.mv (.t 27)), iI 28 (.ext (.t 25) 0), iI 29 (.ext (.t 25) 1), iI 9 (.alloc [(1, (.int .i64 0)), (1, (.sl 0 true []))]), iN (.store 2 (.t 9) (.t 28)), iI 10 (.mv (.t 29))]) c7_3
def c7_5 : C := .seq (.reg [iI 21 (.load 2 (.t 3)), iI 22 (.call (.c (.fn 24 [])) [(.t 21)]), iI 20 (.mv (.t 22)), iI 23 (.ext (.t 20) 0), iI 24 (.ext (.t 20) 1), iI 7 (.alloc [(1, (.int .i64 0)), (1, (.sl 0 true []))]), iN (.store 2 (.t 7) (.t 23)), iI 8 (.mv (.t 24))]) c7_4
def c7_6 : C := .seq (.seq (.reg [iI 15 (.load 2 (.t 3)), iI 16 (.mksl 2 1 (.agg [(.int .i64 0), (.sl 0 true [])]) [(0, (.t 15))]), iI 17 (.call (.c (.fn 17 [])) [(.t 16)]), iI 18 (.un .not (.t 17))]) c7_0) c7_5
def ir7 : C := .seq (.reg [iI 3 (.box (.t 0)), iI 6 (.mv (.c (.bool false)))]) c7_6
theorem fd7 : fd? Try.prog 7 = some (65, [.slot 6], ir7) := by kernel_rfl
noncomputable def f7 (x_417 : ApiGroup) (step_418 : Int) (first_419 : Int) : Option (Bool) :=
  (f17 ([x_417])).bind fun r_422 => (if (!r_422) = true then (f15).bind fun r_423 => (some r_423) else (f24 x_417).bind fun r_509 => (f25 x_417).bind fun r_528 => (f26 x_417 step_418 first_419).bind fun r_529 => (f27 x_417 step_418 first_419).bind fun r_550 => (f15).bind fun r_551 => (if r_551 = true then (f19 r_509.1 r_528.1).bind fun r_552 => (if r_552 = true then (if (decide (r_509.2 = r_528.2)) = true then (f19 r_529.1 r_550.1).bind fun r_553 => (if r_553 = true then (some (decide (r_529.2 = r_550.2))) else (some false)) else (some false)) else (some false)) else (some false)))
theorem f7_ok {x_417 : ApiGroup} {step_418 : Int} {first_419 : Int} {r_ : Bool} (H : f7 x_417 step_418 first_419 = some r_) : Pure Try.prog 7 [.agg [.int .i64 x_417.fNumber, .sl 0 false (x_417.fChannels.map (AV.int .i64))], .int .i64 step_418, .int .i64 first_419] (· = .bool r_) := by
 refine Pure.walk3 fd7 none (Nat.le_of_ble_eq_true rfl) (by rfl) fun Q hQ => ?_
 simp only [f7] at H
 refine AW.rseq ?_
 try simp only [↓wk, ↓wl, nq, evV, ↓reduceIte, sevalprocAttr]
 refine AW.sseq ?_
 refine AW.rseq ?_
 try simp only [↓wk, ↓wl, nq, evV, ↓reduceIte, sevalprocAttr]
 refine evTs_pure hFn H (fun _ h => f17_ok h) (by rfl) (by rfl) (by rfl) (by rfl) (fun _ => rfl) ?_ <;> clear H <;> intro r_422 H
 try simp only [eL, ↓wk, ↓wl, nq, evV, ↓reduceIte, sevalprocAttr]
 refine AW.ifc H (by rfl) ?_ ?_ <;> clear H <;> intro H
 ·refine AW.rseq ?_
  try simp only [↓wk, ↓wl, nq, evV, ↓reduceIte, sevalprocAttr]
  refine evTs_pure hFn H (fun _ h => f15_ok h) (by rfl) (by rfl) (by rfl) (by rfl) (fun _ => rfl) ?_ <;> clear H <;> intro r_423 H
  try simp only [eL, ↓wk, ↓wl, nq, evV, ↓reduceIte, sevalprocAttr]
  refine AW.ret ?_
  refine seqQ.ret ?_
  cases H
  exact hQ.fin
 ·refine AW.skip ?_
  refine seqQ.norm ?_
  refine AW.rseq ?_
  try simp only [↓wk, ↓wl, nq, evV, ↓reduceIte, sevalprocAttr]
  refine evTs_pure hFn H (fun _ h => f24_ok h) (by rfl) (by rfl) (by rfl) (by rfl) (fun _ => rfl) ?_ <;> clear H <;> intro r_509 H
  try simp only [eL, eApiGroup, ↓wk, ↓wl, nq, evV, ↓reduceIte, sevalprocAttr]
  refine AW.rseq ?_
  try simp only [↓wk, ↓wl, nq, evV, ↓reduceIte, sevalprocAttr]
  refine evTs_pure hFn H (fun _ h => f25_ok h) (by rfl) (by rfl) (by rfl) (by rfl) (fun _ => rfl) ?_ <;> clear H <;> intro r_528 H
  try simp only [eL, eApiGroup, ↓wk, ↓wl, nq, evV, ↓reduceIte, sevalprocAttr]
  refine AW.rseq ?_
  try simp only [↓wk, ↓wl, nq, evV, ↓reduceIte, sevalprocAttr]
  refine evTs_pure hFn H (fun _ h => f26_ok h) (by rfl) (by rfl) (by rfl) (by rfl) (fun _ => rfl) ?_ <;> clear H <;> intro r_529 H
  try simp only [eL, eApiGroup, ↓wk, ↓wl, nq, evV, ↓reduceIte, sevalprocAttr]
  refine AW.rseq ?_
  try simp only [↓wk, ↓wl, nq, evV, ↓reduceIte, sevalprocAttr]
  refine evTs_pure hFn H (fun _ h => f27_ok h) (by rfl) (by rfl) (by rfl) (by rfl) (fun _ => rfl) ?_ <;> clear H <;> intro r_550 H
  try simp only [eL, eApiGroup, ↓wk, ↓wl, nq, evV, ↓reduceIte, sevalprocAttr]
  refine AW.rseq ?_
  try simp only [↓wk, ↓wl, nq, evV, ↓reduceIte, sevalprocAttr]
  refine evTs_pure hFn H (fun _ h => f15_ok h) (by rfl) (by rfl) (by rfl) (by rfl) (fun _ => rfl) ?_ <;> clear H <;> intro r_551 H
  try simp only [eL, ↓wk, ↓wl, nq, evV, ↓reduceIte, sevalprocAttr]
  refine evTs_ifg H (by rfl) ?_ ?_ <;> clear H <;> intro H
  ·try simp only [↓wk, ↓wl, nq, evV, ↓reduceIte, sevalprocAttr]
   refine evTs_pure hFn H (fun _ h => f19_ok h) (by rfl) (by rfl) (by rfl) (by rfl) (fun _ => rfl) ?_ <;> clear H <;> intro r_552 H
   try simp only [eL, ↓wk, ↓wl, nq, evV, ↓reduceIte, sevalprocAttr]
   refine evTs_ifg H (by rfl) ?_ ?_ <;> clear H <;> intro H
   ·try simp only [↓wk, ↓wl, nq, evV, ↓reduceIte, sevalprocAttr]
    refine evTs_ifg H (by rfl) ?_ ?_ <;> clear H <;> intro H
    ·try simp only [↓wk, ↓wl, nq, evV, ↓reduceIte, sevalprocAttr]
     refine evTs_pure hFn H (fun _ h => f19_ok h) (by rfl) (by rfl) (by rfl) (by rfl) (fun _ => rfl) ?_ <;> clear H <;> intro r_553 H
     try simp only [eL, ↓wk, ↓wl, nq, evV, ↓reduceIte, sevalprocAttr]
     refine evTs_ifg H (by rfl) ?_ ?_ <;> clear H <;> intro H
     ·try simp only [↓wk, ↓wl, nq, evV, ↓reduceIte, sevalprocAttr]
      refine AW.ret ?_
      cases H
      exact hQ.fin
     ·try simp only [↓wk, ↓wl, nq, evV, ↓reduceIte, sevalprocAttr]
      refine AW.ret ?_
      cases H
      exact hQ.fin
    ·try simp only [↓wk, ↓wl, nq, evV, ↓reduceIte, sevalprocAttr]
     refine AW.ret ?_
     cases H
     exact hQ.fin
   ·try simp only [↓wk, ↓wl, nq, evV, ↓reduceIte, sevalprocAttr]
    refine AW.ret ?_
    cases H
    exact hQ.fin
  ·try simp only [↓wk, ↓wl, nq, evV, ↓reduceIte, sevalprocAttr]
   refine AW.ret ?_
   cases H
   exact hQ.fin
end Go.Proofs.Ytccipmhffapcmaa
