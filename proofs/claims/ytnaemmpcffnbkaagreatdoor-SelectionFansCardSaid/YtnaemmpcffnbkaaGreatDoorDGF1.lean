import Derived.Test.YtnaemmpcffnbkaaGreatDoorDG3
import Derived.Test.YtnaemmpcffnbkaaGreatDoorDM6
import Derived.Test.YtnaemmpcffnbkaaGreatDoorProg
import Derived.KernelRfl
namespace Go.Proofs.YtnaemmpcffnbkaaGreatDoor
open Go Go.Ab

set_option maxHeartbeats 1000000
set_option maxRecDepth 4000
set_option linter.unusedSimpArgs false
set_option linter.unusedVariables false
noncomputable def f67_L1 (x0 : (List Int)) (x1 : Int) : Lp (Int) ((Unit) ⊕ (Unit)) where
  body := fun x2 => (if (decide (x2 < ((x0.length : Nat) : Int))) = true then (at? x0 x2).bind fun x3 => (if (decide (x3 = x1)) = true then (some (.brk (Sum.inr ()))) else (some (.next (IntKind.i64.wrap (x2 + 1))))) else (some (.brk (Sum.inl ()))))
  cst := fun x2 => ⟨put (put (put (fun _ => .junk) 5 (.int .i64 x2)) 1 (.int .i64 x1)) 0 (.sl 0 false (x0.map (AV.int .i64))), []⟩
theorem f67_L1c (x0 : (List Int)) (x1 : Int) (x2 : Int) : (f67_L1 x0 x1).cst x2 = ⟨put (put (put (fun _ => .junk) 5 (.int .i64 x2)) 1 (.int .i64 x1)) 0 (.sl 0 false (x0.map (AV.int .i64))), []⟩ := rfl
def c67_0 : C := .cond (.t 9) (.skip) (.exit 0)
def c67_1 : C := .cond (.t 17) (.seq (.reg [iI 4 (.mv (.c (.bool true)))]) .ret) (.skip)
def c67_2 : C := .reg [iI 10 (.mv (.t 5)), iI 11 (.bin .add (.t 10) (.c (.int .i64 1))), iI 5 (.mv (.t 11))]
def c67_3 : C := .seq (.block 1 (.seq (.reg [iI 12 (.mv (.t 0)), iI 13 (.mv (.t 5)), iI 14 (.iaddr 0 (.t 12) (.t 13)), iI 15 (.load 0 (.t 14)), iI 16 (.mv (.t 1)), iI 17 (.bin .eql (.t 15) (.t 16))]) c67_1)) c67_2
def c67_4 : C := .block 0 (.loop (.seq (.seq (.reg [iI 6 (.mv (.t 5)), iI 7 (.mv (.t 0)), iI 8 (.len 0 (.t 7)), iI 9 (.bin .lss (.t 6) (.t 8))]) c67_0) c67_3))
def c67_5 : C := .seq (.reg [iI 4 (.mv (.c (.bool false)))]) .ret
def c67_6 : C := .seq (.seq (.reg [iI 5 (.mv (.c (.int .i64 0)))]) c67_4) c67_5
def ir67 : C := .seq (.reg [iI 4 (.mv (.c (.bool false)))]) c67_6
theorem fd67 : fd? Tryz.prog 67 = some (18, [.slot 4], ir67) := by kernel_rfl
noncomputable def f67 (x0 : (List Int)) (x1 : Int) : Option (Bool) :=
  ((Lp.run (f67_L1 x0 x1) 0).bind fun r_ => match r_ with | (Sum.inl _) => (some false) | (Sum.inr _) => (some true))
theorem f67_ok {x0 : (List Int)} {x1 : Int} {r_ : Bool} (H : f67 x0 x1 = some r_) : Pure Tryz.prog 67 [.sl 0 false (x0.map (AV.int .i64)), .int .i64 x1] (· = .bool r_) := by
 refine Pure.walk3 fd67 none (Nat.le_of_ble_eq_true rfl) (by rfl) fun Q hQ => ?_
 simp only [f67] at H
 refine AW.rseq ?_
 try simp only [wm, ↓wk, ↓wl, nq, evV, ↓reduceIte, sevalprocAttr]
 refine AW.sseq ?_
 refine AW.rseq ?_
 try simp only [wm, ↓wk, ↓wl, nq, evV, ↓reduceIte, sevalprocAttr]
 refine AW.bend ?_
 refine AW.iter H ((Le.tz [] [0, 1, 5] (by simp only [f67_L1c, wm, wmr, rrm, ↓wk, ↓wl, evV, ↓reduceIte, sevalprocAttr] <;> rfl))) ?_ <;> clear H
 rintro x2 x_ st0_ H hst_
 rw [f67_L1c] at hst_
 simp only [f67_L1] at H
 subst hst_
 refine AW.sseq ?_
 refine AW.rseq ?_
 try simp only [wm, ↓wk, ↓wl, nq, evV, ↓reduceIte, sevalprocAttr]
 refine AW.ifc H (by rfl) ?_ ?_ <;> clear H <;> intro H
 ·refine AW.skip ?_
  refine seqQ.norm ?_
  refine AW.bseq ?_
  refine AW.rseq ?_
  try simp only [wm, ↓wk, ↓wl, nq, evV, ↓reduceIte, sevalprocAttr]
  refine evTs_at (enc := (AV.int .i64)) H (by rfl) (by rfl) ?_ <;> clear H <;> intro x3 H
  try simp only [wm, ↓wk, ↓wl, nq, evV, ↓reduceIte, sevalprocAttr]
  refine AW.ifc H (by rfl) ?_ ?_ <;> clear H <;> intro H
  ·refine AW.rseq ?_
   try simp only [wm, ↓wk, ↓wl, nq, evV, ↓reduceIte, sevalprocAttr]
   refine AW.ret ?_
   refine blkQ.ret ?_
   refine loopQ.ret H ?_ <;> clear H <;> intro H
   try dsimp only at H
   refine blk0.ret ?_
   refine seqQ.ret ?_
   cases H
   exact hQ _ _ _ _ (.inr rfl) (by simp only [resVs, omap, resV, wm, ↓wk, ↓wl, nq, evV, ↓reduceIte, sevalprocAttr]; rfl) (hand_plain (by rfl)) (by first | exact Or.inl rfl | exact Or.inr rfl)
  ·refine AW.skip ?_
   refine blkQ.norm ?_
   refine AW.rend ?_
   try simp only [wm, ↓wk, ↓wl, nq, evV, ↓reduceIte, sevalprocAttr]
   exact loopQ.next H ((Le.tz [] [0, 1, 5] (by simp only [f67_L1c, wm, wmr, rrm, ↓wk, ↓wl, evV, ↓reduceIte, sevalprocAttr] <;> rfl)))
 ·refine AW.exit ?_
  refine seqQ.exit ?_
  refine loopQ.exit H ?_ <;> clear H <;> intro H
  try dsimp only at H
  refine blk0.here ?_
  refine seqQ.norm ?_
  refine AW.rseq ?_
  try simp only [wm, ↓wk, ↓wl, nq, evV, ↓reduceIte, sevalprocAttr]
  refine AW.ret ?_
  cases H
  exact hQ _ _ _ _ (.inr rfl) (by simp only [resVs, omap, resV, wm, ↓wk, ↓wl, nq, evV, ↓reduceIte, sevalprocAttr]; rfl) (hand_plain (by rfl)) (by first | exact Or.inl rfl | exact Or.inr rfl)
def c109_0 : C := .cond (.t 28) (.seq (.reg [iI 6 (.mv (.c (.int .i64 2)))]) .ret) (.skip)
def c109_1 : C := .seq (.reg [iI 6 (.mv (.c (.int .i64 0)))]) .ret
def c109_2 : C := .seq (.seq (.reg [iI 7 (.mv (.t 0)), iI 8 (.bin .lss (.t 7) (.c (.int .i64 0))), iI 9 (.mv (.t 8)), iG (some 10) 9 false (.mv (.t 0)), iG (some 11) 9 false (.bin .gtr (.t 10) (.c (.int .i64 65535))), iI 12 (.pick (.t 9) (.c (.bool true)) (.t 11)), iI 13 (.mv (.t 12)), iG (some 14) 13 false (.mv (.t 1)), iG (some 15) 13 false (.bin .lss (.t 14) (.c (.int .i64 0))), iI 16 (.pick (.t 13) (.c (.bool true)) (.t 15)), iI 17 (.mv (.t 16)), iG (some 18) 17 false (.mv (.t 1)), iG (some 19) 17 false (.bin .gtr (.t 18) (.c (.int .i64 65535))), iI 20 (.pick (.t 17) (.c (.bool true)) (.t 19)), iI 21 (.mv (.t 20)), iG (some 22) 21 false (.mv (.t 2)), iG (some 23) 21 false (.bin .lss (.t 22) (.c (.int .i64 0))), iI 24 (.pick (.t 21) (.c (.bool true)) (.t 23)), iI 25 (.mv (.t 24)), iG (some 26) 25 false (.mv (.t 2)), iG (some 27) 25 false (.bin .gtr (.t 26) (.c (.int .i64 256))), iI 28 (.pick (.t 25) (.c (.bool true)) (.t 27))]) c109_0) c109_1
def ir109 : C := .seq (.reg [iI 6 (.mv (.c (.int .i64 0)))]) c109_2
theorem fd109 : fd? Tryz.prog 109 = some (29, [.slot 6], ir109) := by kernel_rfl
noncomputable def f109 (x0 : Int) (x1 : Int) (x2 : Int) : Option (Int) :=
  (if (decide (x0 < 0)) = true then (some 2) else (if (decide (65535 < x0)) = true then (some 2) else (if (decide (x1 < 0)) = true then (some 2) else (if (decide (65535 < x1)) = true then (some 2) else (if (decide (x2 < 0)) = true then (some 2) else (if (decide (256 < x2)) = true then (some 2) else (some 0)))))))
theorem f109_ok {x0 : Int} {x1 : Int} {x2 : Int} {r_ : Int} (H : f109 x0 x1 x2 = some r_) : Pure Tryz.prog 109 [.int .i64 x0, .int .i64 x1, .int .i64 x2] (· = .int .i64 r_) := by
 refine Pure.walk3 fd109 none (Nat.le_of_ble_eq_true rfl) (by rfl) fun Q hQ => ?_
 simp only [f109] at H
 refine AW.rseq ?_
 try simp only [wm, ↓wk, ↓wl, nq, evV, ↓reduceIte, sevalprocAttr]
 refine AW.sseq ?_
 refine AW.rseq ?_
 try simp only [wm, ↓wk, ↓wl, nq, evV, ↓reduceIte, sevalprocAttr]
 refine evTs_ifg H (by rfl) ?_ ?_ <;> clear H <;> intro H
 ·try simp only [wm, ↓wk, ↓wl, nq, evV, ↓reduceIte, sevalprocAttr]
  refine AW.ift (by rfl) ?_
  refine AW.rseq ?_
  try simp only [wm, ↓wk, ↓wl, nq, evV, ↓reduceIte, sevalprocAttr]
  refine AW.ret ?_
  refine seqQ.ret ?_
  cases H
  exact hQ _ _ _ _ (.inr rfl) (by simp only [resVs, omap, resV, wm, ↓wk, ↓wl, nq, evV, ↓reduceIte, sevalprocAttr]; rfl) (hand_plain (by rfl)) (by first | exact Or.inl rfl | exact Or.inr rfl)
 ·try simp only [wm, ↓wk, ↓wl, nq, evV, ↓reduceIte, sevalprocAttr]
  refine evTs_ifg H (by rfl) ?_ ?_ <;> clear H <;> intro H
  ·try simp only [wm, ↓wk, ↓wl, nq, evV, ↓reduceIte, sevalprocAttr]
   refine AW.ift (by rfl) ?_
   refine AW.rseq ?_
   try simp only [wm, ↓wk, ↓wl, nq, evV, ↓reduceIte, sevalprocAttr]
   refine AW.ret ?_
   refine seqQ.ret ?_
   cases H
   exact hQ _ _ _ _ (.inr rfl) (by simp only [resVs, omap, resV, wm, ↓wk, ↓wl, nq, evV, ↓reduceIte, sevalprocAttr]; rfl) (hand_plain (by rfl)) (by first | exact Or.inl rfl | exact Or.inr rfl)
  ·try simp only [wm, ↓wk, ↓wl, nq, evV, ↓reduceIte, sevalprocAttr]
   refine evTs_ifg H (by rfl) ?_ ?_ <;> clear H <;> intro H
   ·try simp only [wm, ↓wk, ↓wl, nq, evV, ↓reduceIte, sevalprocAttr]
    refine AW.ift (by rfl) ?_
    refine AW.rseq ?_
    try simp only [wm, ↓wk, ↓wl, nq, evV, ↓reduceIte, sevalprocAttr]
    refine AW.ret ?_
    refine seqQ.ret ?_
    cases H
    exact hQ _ _ _ _ (.inr rfl) (by simp only [resVs, omap, resV, wm, ↓wk, ↓wl, nq, evV, ↓reduceIte, sevalprocAttr]; rfl) (hand_plain (by rfl)) (by first | exact Or.inl rfl | exact Or.inr rfl)
   ·try simp only [wm, ↓wk, ↓wl, nq, evV, ↓reduceIte, sevalprocAttr]
    refine evTs_ifg H (by rfl) ?_ ?_ <;> clear H <;> intro H
    ·try simp only [wm, ↓wk, ↓wl, nq, evV, ↓reduceIte, sevalprocAttr]
     refine AW.ift (by rfl) ?_
     refine AW.rseq ?_
     try simp only [wm, ↓wk, ↓wl, nq, evV, ↓reduceIte, sevalprocAttr]
     refine AW.ret ?_
     refine seqQ.ret ?_
     cases H
     exact hQ _ _ _ _ (.inr rfl) (by simp only [resVs, omap, resV, wm, ↓wk, ↓wl, nq, evV, ↓reduceIte, sevalprocAttr]; rfl) (hand_plain (by rfl)) (by first | exact Or.inl rfl | exact Or.inr rfl)
    ·try simp only [wm, ↓wk, ↓wl, nq, evV, ↓reduceIte, sevalprocAttr]
     refine evTs_ifg H (by rfl) ?_ ?_ <;> clear H <;> intro H
     ·try simp only [wm, ↓wk, ↓wl, nq, evV, ↓reduceIte, sevalprocAttr]
      refine AW.ift (by rfl) ?_
      refine AW.rseq ?_
      try simp only [wm, ↓wk, ↓wl, nq, evV, ↓reduceIte, sevalprocAttr]
      refine AW.ret ?_
      refine seqQ.ret ?_
      cases H
      exact hQ _ _ _ _ (.inr rfl) (by simp only [resVs, omap, resV, wm, ↓wk, ↓wl, nq, evV, ↓reduceIte, sevalprocAttr]; rfl) (hand_plain (by rfl)) (by first | exact Or.inl rfl | exact Or.inr rfl)
     ·try simp only [wm, ↓wk, ↓wl, nq, evV, ↓reduceIte, sevalprocAttr]
      refine AW.ifc H (by rfl) ?_ ?_ <;> clear H <;> intro H
      ·refine AW.rseq ?_
       try simp only [wm, ↓wk, ↓wl, nq, evV, ↓reduceIte, sevalprocAttr]
       refine AW.ret ?_
       refine seqQ.ret ?_
       cases H
       exact hQ _ _ _ _ (.inr rfl) (by simp only [resVs, omap, resV, wm, ↓wk, ↓wl, nq, evV, ↓reduceIte, sevalprocAttr]; rfl) (hand_plain (by rfl)) (by first | exact Or.inl rfl | exact Or.inr rfl)
      ·refine AW.skip ?_
       refine seqQ.norm ?_
       refine AW.rseq ?_
       try simp only [wm, ↓wk, ↓wl, nq, evV, ↓reduceIte, sevalprocAttr]
       refine AW.ret ?_
       cases H
       exact hQ _ _ _ _ (.inr rfl) (by simp only [resVs, omap, resV, wm, ↓wk, ↓wl, nq, evV, ↓reduceIte, sevalprocAttr]; rfl) (hand_plain (by rfl)) (by first | exact Or.inl rfl | exact Or.inr rfl)
def c110_0 : C := .cond (.t 10) (.seq (.reg [iI 11 (.mv (.t 0)), iI 8 (.mv (.t 11))]) .ret) (.skip)
def c110_1 : C := .seq (.reg [iI 12 (.mv (.t 0)), iI 13 (.mv (.t 3)), iI 14 (.bin .mul (.t 12) (.t 13)), iI 15 (.mv (.t 1)), iI 16 (.mv (.t 0)), iI 17 (.bin .sub (.t 15) (.t 16)), iI 18 (.mv (.t 2)), iI 19 (.bin .mul (.t 17) (.t 18)), iI 20 (.bin .add (.t 14) (.t 19)), iI 21 (.bin .mul (.c (.int .i64 2)) (.t 20)), iI 22 (.mv (.t 3)), iI 23 (.bin .add (.t 21) (.t 22)), iI 24 (.mv (.t 3)), iI 25 (.bin .mul (.c (.int .i64 2)) (.t 24)), iI 26 (.bin .quo (.t 23) (.t 25)), iI 8 (.mv (.t 26))]) .ret
def c110_2 : C := .seq (.seq (.reg [iI 9 (.mv (.t 3)), iI 10 (.bin .eql (.t 9) (.c (.int .i64 0)))]) c110_0) c110_1
def ir110 : C := .seq (.reg [iI 8 (.mv (.c (.int .i64 0)))]) c110_2
theorem fd110 : fd? Tryz.prog 110 = some (27, [.slot 8], ir110) := by kernel_rfl
noncomputable def f110 (x0 : Int) (x1 : Int) (x2 : Int) (x3 : Int) : Option (Int) :=
  (if (decide (x3 = 0)) = true then (some x0) else (nz? (IntKind.i64.wrap (2 * x3))).bind fun _ => (some (IntKind.i64.wrap ((IntKind.i64.wrap ((IntKind.i64.wrap (2 * (IntKind.i64.wrap ((IntKind.i64.wrap (x0 * x3)) + (IntKind.i64.wrap ((IntKind.i64.wrap (x1 - x0)) * x2)))))) + x3)).tdiv (IntKind.i64.wrap (2 * x3))))))
theorem f110_ok {x0 : Int} {x1 : Int} {x2 : Int} {x3 : Int} {r_ : Int} (H : f110 x0 x1 x2 x3 = some r_) : Pure Tryz.prog 110 [.int .i64 x0, .int .i64 x1, .int .i64 x2, .int .i64 x3] (· = .int .i64 r_) := by
 refine Pure.walk3 fd110 none (Nat.le_of_ble_eq_true rfl) (by rfl) fun Q hQ => ?_
 simp only [f110] at H
 refine AW.rseq ?_
 try simp only [wm, ↓wk, ↓wl, nq, evV, ↓reduceIte, sevalprocAttr]
 refine AW.sseq ?_
 refine AW.rseq ?_
 try simp only [wm, ↓wk, ↓wl, nq, evV, ↓reduceIte, sevalprocAttr]
 refine AW.ifc H (by rfl) ?_ ?_ <;> clear H <;> intro H
 ·refine AW.rseq ?_
  try simp only [wm, ↓wk, ↓wl, nq, evV, ↓reduceIte, sevalprocAttr]
  refine AW.ret ?_
  refine seqQ.ret ?_
  cases H
  exact hQ _ _ _ _ (.inr rfl) (by simp only [resVs, omap, resV, wm, ↓wk, ↓wl, nq, evV, ↓reduceIte, sevalprocAttr]; rfl) (hand_plain (by rfl)) (by first | exact Or.inl rfl | exact Or.inr rfl)
 ·refine AW.skip ?_
  refine seqQ.norm ?_
  refine AW.rseq ?_
  try simp only [wm, ↓wk, ↓wl, nq, evV, ↓reduceIte, sevalprocAttr]
  refine rest_quo H ?_ <;> clear H <;> intro H
  try simp only [wm, ↓wk, ↓wl, nq, evV, ↓reduceIte, sevalprocAttr]
  refine AW.ret ?_
  cases H
  exact hQ _ _ _ _ (.inr rfl) (by simp only [resVs, omap, resV, wm, ↓wk, ↓wl, nq, evV, ↓reduceIte, sevalprocAttr]; rfl) (hand_plain (by rfl)) (by first | exact Or.inl rfl | exact Or.inr rfl)
noncomputable def f68_L1 (x0 : Int) (x1 : Int) (x2 : Int) : Lp (Int × (List Int)) ((List Int)) where
  body := fun (x3, x4) => (if (decide (x3 < x0)) = true then (f110 x1 x2 x3 (IntKind.i64.wrap (x0 - 1))).bind fun x5 => (app? 8 x4 ([x5])).bind fun x6 => (some (.next ((IntKind.i64.wrap (x3 + 1)), x6))) else (some (.brk x4)))
  cst := fun (x3, x4) => ⟨put (put (put (put (put (fun _ => .junk) 10 (.int .i64 x3)) 9 (.row 0 0 0 x4.length)) 2 (.int .i64 x0)) 1 (.int .i64 x2)) 0 (.int .i64 x1), [.els 0 (x4.map (AV.int .i64))]⟩
theorem f68_L1c (x0 : Int) (x1 : Int) (x2 : Int) (x3 : Int) (x4 : (List Int)) : (f68_L1 x0 x1 x2).cst (x3, x4) = ⟨put (put (put (put (put (fun _ => .junk) 10 (.int .i64 x3)) 9 (.row 0 0 0 x4.length)) 2 (.int .i64 x0)) 1 (.int .i64 x2)) 0 (.int .i64 x1), [.els 0 (x4.map (AV.int .i64))]⟩ := rfl
def c68_0 : C := .cond (.t 16) (.seq (.reg [iI 17 (.mv (.t 8)), iI 6 (.mv (.c (.sl 0 true []))), iI 7 (.mv (.t 17))]) .ret) (.skip)
def c68_1 : C := .seq (.reg [iI 15 (.mv (.t 8)), iI 16 (.bin .neq (.t 15) (.c (.int .i64 0)))]) c68_0
def c68_2 : C := .cond (.t 20) (.skip) (.exit 0)
def c68_3 : C := .reg [iI 21 (.mv (.t 10)), iI 22 (.bin .add (.t 21) (.c (.int .i64 1))), iI 10 (.mv (.t 22))]
def c68_4 : C := .seq (.block 1 (.reg [iI 23 (.mv (.t 9)), iI 24 (.mv (.t 0)), iI 25 (.mv (.t 1)), iI 26 (.mv (.t 10)), iI 27 (.mv (.t 2)), iI 28 (.bin .sub (.t 27) (.c (.int .i64 1))), iI 29 (.call (.c (.fn 110 [])) [(.t 24), (.t 25), (.t 26), (.t 28)]), iI 30 (.mkslp 0 1 (.int .i64 0) [(0, (.t 29))]), iI 31 (.append 0 8 (.t 23) (.t 30)), iI 9 (.mv (.t 31))])) c68_3
def c68_5 : C := .block 0 (.loop (.seq (.seq (.reg [iI 18 (.mv (.t 10)), iI 19 (.mv (.t 2)), iI 20 (.bin .lss (.t 18) (.t 19))]) c68_2) c68_4))
def c68_6 : C := .seq (.reg [iI 32 (.mv (.t 9)), iI 6 (.mv (.t 32)), iI 7 (.mv (.c (.int .i64 0)))]) .ret
def c68_7 : C := .seq (.seq (.reg [iI 10 (.mv (.c (.int .i64 0)))]) c68_5) c68_6
def c68_8 : C := .seq (.reg [iI 9 (.mv (.c (.sl 0 true [])))]) c68_7
def c68_9 : C := .seq (.seq (.reg [iI 11 (.mv (.t 0)), iI 12 (.mv (.t 1)), iI 13 (.mv (.t 2)), iI 14 (.call (.c (.fn 109 [])) [(.t 11), (.t 12), (.t 13)]), iI 8 (.mv (.t 14))]) c68_1) c68_8
def ir68 : C := .seq (.reg [iI 6 (.mv (.c (.sl 0 true []))), iI 7 (.mv (.c (.int .i64 0)))]) c68_9
theorem fd68 : fd? Tryz.prog 68 = some (33, [.slot 6, .slot 7], ir68) := by kernel_rfl
noncomputable def f68 (x0 : Int) (x1 : Int) (x2 : Int) : Option ((List Int) × Int) :=
  (f109 x0 x1 x2).bind fun x3 => (if (decide (x3 ≠ 0)) = true then (some ([], x3)) else (Lp.run (f68_L1 x2 x0 x1) (0, [])).bind fun x4 => (some (x4, 0)))
theorem f68_ok {x0 : Int} {x1 : Int} {x2 : Int} {r_ : (List Int) × Int} (H : f68 x0 x1 x2 = some r_) : Pure Tryz.prog 68 [.int .i64 x0, .int .i64 x1, .int .i64 x2] (· = .tup [.fr 0 (r_.1.map (AV.int .i64)), .int .i64 r_.2]) := by
 refine Pure.walk3 fd68 (some 0) (Nat.le_of_ble_eq_true rfl) (by rfl) fun Q hQ => ?_
 simp only [f68] at H
 refine AW.rseq ?_
 try simp only [wm, ↓wk, ↓wl, nq, evV, ↓reduceIte, sevalprocAttr]
 refine AW.sseq ?_
 refine AW.rseq ?_
 try simp only [wm, ↓wk, ↓wl, nq, evV, ↓reduceIte, sevalprocAttr]
 refine evTs_pure hFn H (fun _ h => f109_ok h) (by rfl) (by rfl) (by rfl) (by rfl) (fun _ => rfl) ?_ <;> clear H <;> intro x3 H
 try simp only [eL, wm, ↓wk, ↓wl, nq, evV, ↓reduceIte, sevalprocAttr]
 refine AW.rseq ?_
 try simp only [wm, ↓wk, ↓wl, nq, evV, ↓reduceIte, sevalprocAttr]
 refine AW.ifc H (by rfl) ?_ ?_ <;> clear H <;> intro H
 ·refine AW.rseq ?_
  try simp only [wm, ↓wk, ↓wl, nq, evV, ↓reduceIte, sevalprocAttr]
  refine AW.ret ?_
  refine seqQ.ret ?_
  cases H
  exact hQ _ _ _ _ (.inr rfl) (by simp only [resVs, omap, resV, wm, ↓wk, ↓wl, nq, evV, ↓reduceIte, sevalprocAttr]; rfl) (hand_k0 (by rfl) (by rfl)) (by first | exact Or.inl rfl | exact Or.inr rfl)
 ·refine AW.skip ?_
  refine seqQ.norm ?_
  refine AW.rseq ?_
  try simp only [wm, ↓wk, ↓wl, nq, evV, ↓reduceIte, sevalprocAttr]
  refine AW.sseq ?_
  refine AW.rseq ?_
  try simp only [wm, ↓wk, ↓wl, nq, evV, ↓reduceIte, sevalprocAttr]
  refine AW.bend ?_
  refine AW.iter H ((Le.trans (Le.nilRow (i := 9) (e := 0) (by simp only [↓wk, ↓wl, nq, evV, ↓reduceIte, sevalprocAttr])) (Le.tz [0] [0, 1, 2, 9, 10] (by simp only [f68_L1c, wm, wmr, rrm, ↓wk, ↓wl, evV, ↓reduceIte, sevalprocAttr] <;> rfl)))) ?_ <;> clear H
  rintro ⟨x4, x5⟩ x_ st0_ H hst_
  rw [f68_L1c] at hst_
  simp only [f68_L1] at H
  subst hst_
  refine AW.sseq ?_
  refine AW.rseq ?_
  try simp only [wm, ↓wk, ↓wl, nq, evV, ↓reduceIte, sevalprocAttr]
  refine AW.ifc H (by rfl) ?_ ?_ <;> clear H <;> intro H
  ·refine AW.skip ?_
   refine seqQ.norm ?_
   refine AW.bseq ?_
   refine AW.rend ?_
   try simp only [wm, ↓wk, ↓wl, nq, evV, ↓reduceIte, sevalprocAttr]
   refine evTs_pure hFn H (fun _ h => f110_ok h) (by rfl) (by rfl) (by rfl) (by rfl) (fun _ => rfl) ?_ <;> clear H <;> intro x6 H
   try simp only [eL, wm, ↓wk, ↓wl, nq, evV, ↓reduceIte, sevalprocAttr]
   refine evTs_app (enc := (AV.int .i64)) H (by rfl) (by first | rfl | simp only [List.length_set]) (by rfl) (by rfl) ?_ <;> clear H <;> intro x7 H
   try simp only [wm, ↓wk, ↓wl, nq, evV, ↓reduceIte, sevalprocAttr]
   refine blkQ.norm ?_
   refine AW.rend ?_
   try simp only [wm, ↓wk, ↓wl, nq, evV, ↓reduceIte, sevalprocAttr]
   exact loopQ.next H ((Le.tz [1] [0, 1, 2, 9, 10] (by simp only [f68_L1c, wm, wmr, rrm, ↓wk, ↓wl, evV, ↓reduceIte, sevalprocAttr] <;> rfl)))
  ·refine AW.exit ?_
   refine seqQ.exit ?_
   refine loopQ.exit H ?_ <;> clear H <;> intro H
   try dsimp only at H
   refine blk0.here ?_
   refine seqQ.norm ?_
   refine AW.rseq ?_
   try simp only [wm, ↓wk, ↓wl, nq, evV, ↓reduceIte, sevalprocAttr]
   refine AW.ret ?_
   cases H
   exact hQ _ _ _ _ (.inr rfl) (by simp only [resVs, omap, resV, wm, ↓wk, ↓wl, nq, evV, ↓reduceIte, sevalprocAttr]; rfl) (hand_k (by rfl) (by rfl) (by simp) (enc_all _) (by rfl)) (by first | exact Or.inl rfl | exact Or.inr rfl)
theorem f68_im {x0 : Int} {x1 : Int} {x2 : Int} {r_ : (List Int) × Int} (H : f68 x0 x1 x2 = some r_) : Pure Tryz.prog 68 [.int .i64 x0, .int .i64 x1, .int .i64 x2] (· = .tup [.sl 0 false (r_.1.map (AV.int .i64)), .int .i64 r_.2]) := (f68_ok H).unfr (by first | exact enc_fits _ | simp only [frFits, List.all_cons, List.all_nil, enc_fits, Bool.and_self])
noncomputable def f25_L3 (x0 : (List Int)) (x1 : Int) (x2 : (List Int) × Int) (x3 : Int) : Lp (Int × (List ApiEntry)) ((List ApiEntry)) where
  body := fun (x4, x5) => (if (decide (x4 < ((x0.length : Nat) : Int))) = true then (at? x0 x4).bind fun x6 => (if (decide (x6 = x1)) = true then (at? x2.1 x4).bind fun x7 => (app? 32 x5 ([(ApiEntry.mk (ApiParam.mk x1 x3) (ApiValue.mk 0 x7))])).bind fun x8 => (some (.next ((IntKind.i64.wrap (x4 + 1)), x8))) else (some (.next ((IntKind.i64.wrap (x4 + 1)), x5)))) else (some (.brk x5)))
  cst := fun (x4, x5) => ⟨put (put (put (put (put (put (fun _ => .junk) 15 (.int .i64 x4)) 14 (.int .i64 x1)) 13 (.row 4 0 0 x5.length)) 11 (.sl 0 false (x2.1.map (AV.int .i64)))) 1 (.int .i64 x3)) 0 (.sl 0 false (x0.map (AV.int .i64))), [.els 4 (x5.map eApiEntry)]⟩
theorem f25_L3c (x0 : (List Int)) (x1 : Int) (x2 : (List Int) × Int) (x3 : Int) (x4 : Int) (x5 : (List ApiEntry)) : (f25_L3 x0 x1 x2 x3).cst (x4, x5) = ⟨put (put (put (put (put (put (fun _ => .junk) 15 (.int .i64 x4)) 14 (.int .i64 x1)) 13 (.row 4 0 0 x5.length)) 11 (.sl 0 false (x2.1.map (AV.int .i64)))) 1 (.int .i64 x3)) 0 (.sl 0 false (x0.map (AV.int .i64))), [.els 4 (x5.map eApiEntry)]⟩ := rfl
noncomputable def f25_L2 (x0 : (List Int)) (x1 : (List Int) × Int) (x2 : Int) : Lp (Int × (List ApiEntry)) ((List ApiEntry)) where
  body := fun (x3, x4) => (if (decide (x3 ≤ 999)) = true then (Lp.run (f25_L3 x0 x3 x1 x2) (0, x4)).bind fun x5 => (some (.next ((IntKind.i64.wrap (x3 + 1)), x5))) else (some (.brk x4)))
  cst := fun (x3, x4) => ⟨put (put (put (put (put (fun _ => .junk) 14 (.int .i64 x3)) 13 (.row 4 0 0 x4.length)) 11 (.sl 0 false (x1.1.map (AV.int .i64)))) 1 (.int .i64 x2)) 0 (.sl 0 false (x0.map (AV.int .i64))), [.els 4 (x4.map eApiEntry)]⟩
theorem f25_L2c (x0 : (List Int)) (x1 : (List Int) × Int) (x2 : Int) (x3 : Int) (x4 : (List ApiEntry)) : (f25_L2 x0 x1 x2).cst (x3, x4) = ⟨put (put (put (put (put (fun _ => .junk) 14 (.int .i64 x3)) 13 (.row 4 0 0 x4.length)) 11 (.sl 0 false (x1.1.map (AV.int .i64)))) 1 (.int .i64 x2)) 0 (.sl 0 false (x0.map (AV.int .i64))), [.els 4 (x4.map eApiEntry)]⟩ := rfl
noncomputable def f25_L1 (x0 : (List Int)) (x1 : Int) (x2 : Int) (x3 : Int) : Lp (Int) ((Unit) ⊕ (Int)) where
  body := fun x4 => (if (decide (x4 < ((x0.length : Nat) : Int))) = true then (at? x0 x4).bind fun x5 => (if (decide (x5 < 1)) = true then (some (.brk (Sum.inr 2))) else (at? x0 x4).bind fun x6 => (if (decide (999 < x6)) = true then (some (.brk (Sum.inr 2))) else (slc? x0 0 x4).bind fun x7 => (at? x0 x4).bind fun x8 => (f67 x7 x8).bind fun x9 => (if x9 = true then (some (.brk (Sum.inr 7))) else (some (.next (IntKind.i64.wrap (x4 + 1))))))) else (some (.brk (Sum.inl ()))))
  cst := fun x4 => ⟨put (put (put (put (put (fun _ => .junk) 10 (.int .i64 x4)) 3 (.int .i64 x1)) 2 (.int .i64 x2)) 1 (.int .i64 x3)) 0 (.sl 0 false (x0.map (AV.int .i64))), []⟩
theorem f25_L1c (x0 : (List Int)) (x1 : Int) (x2 : Int) (x3 : Int) (x4 : Int) : (f25_L1 x0 x1 x2 x3).cst x4 = ⟨put (put (put (put (put (fun _ => .junk) 10 (.int .i64 x4)) 3 (.int .i64 x1)) 2 (.int .i64 x2)) 1 (.int .i64 x3)) 0 (.sl 0 false (x0.map (AV.int .i64))), []⟩ := rfl
def c25_0 : C := .cond (.t 18) (.seq (.reg [iI 8 (.mv (.c (.sl 4 true []))), iI 9 (.mv (.c (.int .i64 5)))]) .ret) (.skip)
def c25_1 : C := .cond (.t 22) (.skip) (.exit 0)
def c25_2 : C := .cond (.t 36) (.seq (.reg [iI 8 (.mv (.c (.sl 4 true []))), iI 9 (.mv (.c (.int .i64 2)))]) .ret) (.skip)
def c25_3 : C := .cond (.t 44) (.seq (.reg [iI 8 (.mv (.c (.sl 4 true []))), iI 9 (.mv (.c (.int .i64 7)))]) .ret) (.skip)
def c25_4 : C := .seq (.reg [iI 37 (.mv (.t 0)), iI 38 (.mv (.t 10)), iI 39 (.slice 0 (.t 37) none (some (.t 38))), iI 40 (.mv (.t 0)), iI 41 (.mv (.t 10)), iI 42 (.iaddr 0 (.t 40) (.t 41)), iI 43 (.load 0 (.t 42)), iI 44 (.call (.c (.fn 67 [])) [(.t 39), (.t 43)])]) c25_3
def c25_5 : C := .reg [iI 23 (.mv (.t 10)), iI 24 (.bin .add (.t 23) (.c (.int .i64 1))), iI 10 (.mv (.t 24))]
def c25_6 : C := .seq (.block 1 (.seq (.seq (.reg [iI 25 (.mv (.t 0)), iI 26 (.mv (.t 10)), iI 27 (.iaddr 0 (.t 25) (.t 26)), iI 28 (.load 0 (.t 27)), iI 29 (.bin .lss (.t 28) (.c (.int .i64 1))), iI 30 (.mv (.t 29)), iG (some 31) 30 false (.mv (.t 0)), iG (some 32) 30 false (.mv (.t 10)), iG (some 33) 30 false (.iaddr 0 (.t 31) (.t 32)), iG (some 34) 30 false (.load 0 (.t 33)), iG (some 35) 30 false (.bin .gtr (.t 34) (.c (.int .i64 999))), iI 36 (.pick (.t 30) (.c (.bool true)) (.t 35))]) c25_2) c25_4)) c25_5
def c25_7 : C := .block 0 (.loop (.seq (.seq (.reg [iI 19 (.mv (.t 10)), iI 20 (.mv (.t 0)), iI 21 (.len 0 (.t 20)), iI 22 (.bin .lss (.t 19) (.t 21))]) c25_1) c25_6))
def c25_8 : C := .cond (.t 50) (.seq (.reg [iI 8 (.mv (.c (.sl 4 true []))), iI 9 (.mv (.c (.int .i64 1)))]) .ret) (.skip)
def c25_9 : C := .cond (.t 60) (.seq (.reg [iI 61 (.mv (.t 12)), iI 8 (.mv (.c (.sl 4 true []))), iI 9 (.mv (.t 61))]) .ret) (.skip)
def c25_10 : C := .cond (.t 63) (.skip) (.exit 2)
def c25_11 : C := .cond (.t 69) (.skip) (.exit 4)
def c25_12 : C := .cond (.t 77) (.reg [iI 78 (.mv (.t 13)), iI 79 (.mv (.t 14)), iI 80 (.mv (.t 1)), iI 81 (.build [(1, (.int .i64 0)), (1, (.int .i64 0))] [(0, 0, (.t 79)), (1, 0, (.t 80))]), iI 82 (.mv (.t 11)), iI 83 (.mv (.t 15)), iI 84 (.iaddr 0 (.t 82) (.t 83)), iI 85 (.load 0 (.t 84)), iI 86 (.build [(1, (.int .i64 0)), (1, (.int .i64 0))] [(1, 0, (.t 85))]), iI 87 (.build [(1, (.int .i64 0)), (1, (.int .i64 0)), (1, (.int .i64 0)), (1, (.int .i64 0))] [(0, 2, (.t 81)), (2, 2, (.t 86))]), iI 88 (.mkslp 4 1 (.agg [(.int .i64 0), (.int .i64 0), (.int .i64 0), (.int .i64 0)]) [(0, (.t 87))]), iI 89 (.append 4 32 (.t 78) (.t 88)), iI 13 (.mv (.t 89))]) (.skip)
def c25_13 : C := .reg [iI 70 (.mv (.t 15)), iI 71 (.bin .add (.t 70) (.c (.int .i64 1))), iI 15 (.mv (.t 71))]
def c25_14 : C := .seq (.block 5 (.seq (.reg [iI 72 (.mv (.t 0)), iI 73 (.mv (.t 15)), iI 74 (.iaddr 0 (.t 72) (.t 73)), iI 75 (.load 0 (.t 74)), iI 76 (.mv (.t 14)), iI 77 (.bin .eql (.t 75) (.t 76))]) c25_12)) c25_13
def c25_15 : C := .block 4 (.loop (.seq (.seq (.reg [iI 66 (.mv (.t 15)), iI 67 (.mv (.t 0)), iI 68 (.len 0 (.t 67)), iI 69 (.bin .lss (.t 66) (.t 68))]) c25_11) c25_14))
def c25_16 : C := .reg [iI 64 (.mv (.t 14)), iI 65 (.bin .add (.t 64) (.c (.int .i64 1))), iI 14 (.mv (.t 65))]
def c25_17 : C := .seq (.block 3 (.seq (.reg [iI 15 (.mv (.c (.int .i64 0)))]) c25_15)) c25_16
def c25_18 : C := .block 2 (.loop (.seq (.seq (.reg [iI 62 (.mv (.t 14)), iI 63 (.bin .leq (.t 62) (.c (.int .i64 999)))]) c25_10) c25_17))
def c25_19 : C := .seq (.reg [iI 90 (.mv (.t 13)), iI 8 (.mv (.t 90)), iI 9 (.mv (.c (.int .i64 0)))]) .ret
def c25_20 : C := .seq (.seq (.reg [iI 14 (.mv (.c (.int .i64 1)))]) c25_18) c25_19
def c25_21 : C := .seq (.reg [iI 13 (.mv (.c (.sl 4 true [])))]) c25_20
def c25_22 : C := .seq (.seq (.reg [iI 59 (.mv (.t 12)), iI 60 (.bin .neq (.t 59) (.c (.int .i64 0)))]) c25_9) c25_21
def c25_23 : C := .seq (.reg [iI 52 (.mv (.t 2)), iI 53 (.mv (.t 3)), iI 54 (.mv (.t 0)), iI 55 (.len 0 (.t 54)), iI 56 (.call (.c (.fn 68 [])) [(.t 52), (.t 53), (.t 55)]), iI 51 (.mv (.t 56)), iI 57 (.ext (.t 51) 0), iI 58 (.ext (.t 51) 1), iI 11 (.mv (.t 57)), iI 12 (.mv (.t 58))]) c25_22
def c25_24 : C := .seq (.seq (.reg [iI 45 (.mv (.t 1)), iI 46 (.bin .lss (.t 45) (.c (.int .i64 0))), iI 47 (.mv (.t 46)), iG (some 48) 47 false (.mv (.t 1)), iG (some 49) 47 false (.bin .geq (.t 48) (.c (.int .i64 15))), iI 50 (.pick (.t 47) (.c (.bool true)) (.t 49))]) c25_8) c25_23
def c25_25 : C := .seq (.seq (.reg [iI 10 (.mv (.c (.int .i64 0)))]) c25_7) c25_24
def c25_26 : C := .seq (.seq (.reg [iI 16 (.mv (.t 0)), iI 17 (.len 0 (.t 16)), iI 18 (.bin .gtr (.t 17) (.c (.int .i64 256)))]) c25_0) c25_25
def ir25 : C := .seq (.reg [iI 8 (.mv (.c (.sl 4 true []))), iI 9 (.mv (.c (.int .i64 0)))]) c25_26
theorem fd25 : fd? Tryz.prog 25 = some (91, [.slot 8, .slot 9], ir25) := by kernel_rfl
noncomputable def f25 (x0 : (List Int)) (x1 : Int) (x2 : Int) (x3 : Int) : Option ((List ApiEntry) × Int) :=
  (if (decide (256 < ((x0.length : Nat) : Int))) = true then (some ([], 5)) else ((Lp.run (f25_L1 x0 x3 x2 x1) 0).bind fun r_ => match r_ with | (Sum.inl _) => (if (decide (x1 < 0)) = true then (some ([], 1)) else (if (decide (15 ≤ x1)) = true then (some ([], 1)) else (f68 x2 x3 ((x0.length : Nat) : Int)).bind fun x4 => (if (decide (x4.2 ≠ 0)) = true then (some ([], x4.2)) else (Lp.run (f25_L2 x0 x4 x1) (1, [])).bind fun x5 => (some (x5, 0))))) | (Sum.inr x6) => (some ([], x6))))
theorem f25_ok {x0 : (List Int)} {x1 : Int} {x2 : Int} {x3 : Int} {r_ : (List ApiEntry) × Int} (H : f25 x0 x1 x2 x3 = some r_) : Pure Tryz.prog 25 [.sl 0 false (x0.map (AV.int .i64)), .int .i64 x1, .int .i64 x2, .int .i64 x3] (· = .tup [.fr 4 (r_.1.map eApiEntry), .int .i64 r_.2]) := by
 refine Pure.walk3 fd25 (some 0) (Nat.le_of_ble_eq_true rfl) (by rfl) fun Q hQ => ?_
 simp only [f25] at H
 refine AW.rseq ?_
 try simp only [wm, ↓wk, ↓wl, nq, evV, ↓reduceIte, sevalprocAttr]
 refine AW.sseq ?_
 refine AW.rseq ?_
 try simp only [wm, ↓wk, ↓wl, nq, evV, ↓reduceIte, sevalprocAttr]
 refine AW.ifc H (by rfl) ?_ ?_ <;> clear H <;> intro H
 ·refine AW.rseq ?_
  try simp only [wm, ↓wk, ↓wl, nq, evV, ↓reduceIte, sevalprocAttr]
  refine AW.ret ?_
  refine seqQ.ret ?_
  cases H
  exact hQ _ _ _ _ (.inr rfl) (by simp only [resVs, omap, resV, wm, ↓wk, ↓wl, nq, evV, ↓reduceIte, sevalprocAttr]; rfl) (hand_k0 (by rfl) (by rfl)) (by first | exact Or.inl rfl | exact Or.inr rfl)
 ·refine AW.skip ?_
  refine seqQ.norm ?_
  refine AW.sseq ?_
  refine AW.rseq ?_
  try simp only [wm, ↓wk, ↓wl, nq, evV, ↓reduceIte, sevalprocAttr]
  refine AW.bend ?_
  refine AW.iter H ((Le.tz [] [0, 1, 2, 3, 10] (by simp only [f25_L1c, wm, wmr, rrm, ↓wk, ↓wl, evV, ↓reduceIte, sevalprocAttr] <;> rfl))) ?_ <;> clear H
  rintro x4 x_ st0_ H hst_
  rw [f25_L1c] at hst_
  simp only [f25_L1] at H
  subst hst_
  refine AW.sseq ?_
  refine AW.rseq ?_
  try simp only [wm, ↓wk, ↓wl, nq, evV, ↓reduceIte, sevalprocAttr]
  refine AW.ifc H (by rfl) ?_ ?_ <;> clear H <;> intro H
  ·refine AW.skip ?_
   refine seqQ.norm ?_
   refine AW.bseq ?_
   refine AW.sseq ?_
   refine AW.rseq ?_
   try simp only [wm, ↓wk, ↓wl, nq, evV, ↓reduceIte, sevalprocAttr]
   refine evTs_at (enc := (AV.int .i64)) H (by rfl) (by rfl) ?_ <;> clear H <;> intro x5 H
   try simp only [wm, ↓wk, ↓wl, nq, evV, ↓reduceIte, sevalprocAttr]
   refine evTs_ifg H (by rfl) ?_ ?_ <;> clear H <;> intro H
   ·try simp only [wm, ↓wk, ↓wl, nq, evV, ↓reduceIte, sevalprocAttr]
    refine AW.ift (by rfl) ?_
    refine AW.rseq ?_
    try simp only [wm, ↓wk, ↓wl, nq, evV, ↓reduceIte, sevalprocAttr]
    refine AW.ret ?_
    refine seqQ.ret ?_
    refine blkQ.ret ?_
    refine loopQ.ret H ?_ <;> clear H <;> intro H
    try dsimp only at H
    refine blk0.ret ?_
    refine seqQ.ret ?_
    cases H
    exact hQ _ _ _ _ (.inr rfl) (by simp only [resVs, omap, resV, wm, ↓wk, ↓wl, nq, evV, ↓reduceIte, sevalprocAttr]; rfl) (hand_k0 (by rfl) (by rfl)) (by first | exact Or.inl rfl | exact Or.inr rfl)
   ·try simp only [wm, ↓wk, ↓wl, nq, evV, ↓reduceIte, sevalprocAttr]
    refine evTs_at (enc := (AV.int .i64)) H (by rfl) (by rfl) ?_ <;> clear H <;> intro x6 H
    try simp only [wm, ↓wk, ↓wl, nq, evV, ↓reduceIte, sevalprocAttr]
    refine AW.ifc H (by rfl) ?_ ?_ <;> clear H <;> intro H
    ·refine AW.rseq ?_
     try simp only [wm, ↓wk, ↓wl, nq, evV, ↓reduceIte, sevalprocAttr]
     refine AW.ret ?_
     refine seqQ.ret ?_
     refine blkQ.ret ?_
     refine loopQ.ret H ?_ <;> clear H <;> intro H
     try dsimp only at H
     refine blk0.ret ?_
     refine seqQ.ret ?_
     cases H
     exact hQ _ _ _ _ (.inr rfl) (by simp only [resVs, omap, resV, wm, ↓wk, ↓wl, nq, evV, ↓reduceIte, sevalprocAttr]; rfl) (hand_k0 (by rfl) (by rfl)) (by first | exact Or.inl rfl | exact Or.inr rfl)
    ·refine AW.skip ?_
     refine seqQ.norm ?_
     refine AW.rseq ?_
     try simp only [wm, ↓wk, ↓wl, nq, evV, ↓reduceIte, sevalprocAttr]
     refine evTs_slc (enc := (AV.int .i64)) H (by rfl) (by rfl) (by simp only [loI, hiI, wm, ↓wk, ↓wl, nq, evV, ↓reduceIte, sevalprocAttr]; rfl) (by simp only [loI, hiI, wm, ↓wk, ↓wl, nq, evV, ↓reduceIte, sevalprocAttr]; rfl) ?_ <;> clear H <;> intro x7 H
     try simp only [wm, ↓wk, ↓wl, nq, evV, ↓reduceIte, sevalprocAttr]
     refine evTs_at (enc := (AV.int .i64)) H (by rfl) (by rfl) ?_ <;> clear H <;> intro x8 H
     try simp only [wm, ↓wk, ↓wl, nq, evV, ↓reduceIte, sevalprocAttr]
     refine evTs_pure hFn H (fun _ h => f67_ok h) (by rfl) (by rfl) (by rfl) (by rfl) (fun _ => rfl) ?_ <;> clear H <;> intro x9 H
     try simp only [eL, wm, ↓wk, ↓wl, nq, evV, ↓reduceIte, sevalprocAttr]
     refine AW.ifc H (by rfl) ?_ ?_ <;> clear H <;> intro H
     ·refine AW.rseq ?_
      try simp only [wm, ↓wk, ↓wl, nq, evV, ↓reduceIte, sevalprocAttr]
      refine AW.ret ?_
      refine blkQ.ret ?_
      refine loopQ.ret H ?_ <;> clear H <;> intro H
      try dsimp only at H
      refine blk0.ret ?_
      refine seqQ.ret ?_
      cases H
      exact hQ _ _ _ _ (.inr rfl) (by simp only [resVs, omap, resV, wm, ↓wk, ↓wl, nq, evV, ↓reduceIte, sevalprocAttr]; rfl) (hand_k0 (by rfl) (by rfl)) (by first | exact Or.inl rfl | exact Or.inr rfl)
     ·refine AW.skip ?_
      refine blkQ.norm ?_
      refine AW.rend ?_
      try simp only [wm, ↓wk, ↓wl, nq, evV, ↓reduceIte, sevalprocAttr]
      exact loopQ.next H ((Le.tz [] [0, 1, 2, 3, 10] (by simp only [f25_L1c, wm, wmr, rrm, ↓wk, ↓wl, evV, ↓reduceIte, sevalprocAttr] <;> rfl)))
  ·refine AW.exit ?_
   refine seqQ.exit ?_
   refine loopQ.exit H ?_ <;> clear H <;> intro H
   try dsimp only at H
   refine blk0.here ?_
   refine seqQ.norm ?_
   refine AW.sseq ?_
   refine AW.rseq ?_
   try simp only [wm, ↓wk, ↓wl, nq, evV, ↓reduceIte, sevalprocAttr]
   refine evTs_ifg H (by rfl) ?_ ?_ <;> clear H <;> intro H
   ·try simp only [wm, ↓wk, ↓wl, nq, evV, ↓reduceIte, sevalprocAttr]
    refine AW.ift (by rfl) ?_
    refine AW.rseq ?_
    try simp only [wm, ↓wk, ↓wl, nq, evV, ↓reduceIte, sevalprocAttr]
    refine AW.ret ?_
    refine seqQ.ret ?_
    cases H
    exact hQ _ _ _ _ (.inr rfl) (by simp only [resVs, omap, resV, wm, ↓wk, ↓wl, nq, evV, ↓reduceIte, sevalprocAttr]; rfl) (hand_k0 (by rfl) (by rfl)) (by first | exact Or.inl rfl | exact Or.inr rfl)
   ·try simp only [wm, ↓wk, ↓wl, nq, evV, ↓reduceIte, sevalprocAttr]
    refine AW.ifc H (by rfl) ?_ ?_ <;> clear H <;> intro H
    ·refine AW.rseq ?_
     try simp only [wm, ↓wk, ↓wl, nq, evV, ↓reduceIte, sevalprocAttr]
     refine AW.ret ?_
     refine seqQ.ret ?_
     cases H
     exact hQ _ _ _ _ (.inr rfl) (by simp only [resVs, omap, resV, wm, ↓wk, ↓wl, nq, evV, ↓reduceIte, sevalprocAttr]; rfl) (hand_k0 (by rfl) (by rfl)) (by first | exact Or.inl rfl | exact Or.inr rfl)
    ·refine AW.skip ?_
     refine seqQ.norm ?_
     refine AW.rseq ?_
     try simp only [wm, ↓wk, ↓wl, nq, evV, ↓reduceIte, sevalprocAttr]
     refine evTs_pure hFn H (fun _ h => f68_im h) (by rfl) (by rfl) (by rfl) (by rfl) (fun _ => rfl) ?_ <;> clear H <;> intro xa H
     try simp only [eL, wm, ↓wk, ↓wl, nq, evV, ↓reduceIte, sevalprocAttr]
     refine AW.sseq ?_
     refine AW.rseq ?_
     try simp only [wm, ↓wk, ↓wl, nq, evV, ↓reduceIte, sevalprocAttr]
     refine AW.ifc H (by rfl) ?_ ?_ <;> clear H <;> intro H
     ·refine AW.rseq ?_
      try simp only [wm, ↓wk, ↓wl, nq, evV, ↓reduceIte, sevalprocAttr]
      refine AW.ret ?_
      refine seqQ.ret ?_
      cases H
      exact hQ _ _ _ _ (.inr rfl) (by simp only [resVs, omap, resV, wm, ↓wk, ↓wl, nq, evV, ↓reduceIte, sevalprocAttr]; rfl) (hand_k0 (by rfl) (by rfl)) (by first | exact Or.inl rfl | exact Or.inr rfl)
     ·refine AW.skip ?_
      refine seqQ.norm ?_
      refine AW.rseq ?_
      try simp only [wm, ↓wk, ↓wl, nq, evV, ↓reduceIte, sevalprocAttr]
      refine AW.sseq ?_
      refine AW.rseq ?_
      try simp only [wm, ↓wk, ↓wl, nq, evV, ↓reduceIte, sevalprocAttr]
      refine AW.bend ?_
      refine AW.iter H ((Le.trans (Le.nilRow (i := 13) (e := 4) (by simp only [↓wk, ↓wl, nq, evV, ↓reduceIte, sevalprocAttr])) (Le.tz [0] [0, 1, 11, 13, 14] (by simp only [f25_L2c, wm, wmr, rrm, ↓wk, ↓wl, evV, ↓reduceIte, sevalprocAttr] <;> rfl)))) ?_ <;> clear H
      rintro ⟨xb, xc⟩ x_ st0_ H hst_
      rw [f25_L2c] at hst_
      simp only [f25_L2] at H
      subst hst_
      refine AW.sseq ?_
      refine AW.rseq ?_
      try simp only [wm, ↓wk, ↓wl, nq, evV, ↓reduceIte, sevalprocAttr]
      refine AW.ifc H (by rfl) ?_ ?_ <;> clear H <;> intro H
      ·refine AW.skip ?_
       refine seqQ.norm ?_
       refine AW.bseq ?_
       refine AW.rseq ?_
       try simp only [wm, ↓wk, ↓wl, nq, evV, ↓reduceIte, sevalprocAttr]
       refine AW.bend ?_
       refine AW.iter H ((Le.tz [0] [0, 1, 11, 13, 14, 15] (by simp only [f25_L3c, wm, wmr, rrm, ↓wk, ↓wl, evV, ↓reduceIte, sevalprocAttr] <;> rfl))) ?_ <;> clear H
       rintro ⟨xd, xe⟩ x_ st0_ H hst_
       rw [f25_L3c] at hst_
       simp only [f25_L3] at H
       subst hst_
       refine AW.sseq ?_
       refine AW.rseq ?_
       try simp only [wm, ↓wk, ↓wl, nq, evV, ↓reduceIte, sevalprocAttr]
       refine AW.ifc H (by rfl) ?_ ?_ <;> clear H <;> intro H
       ·refine AW.skip ?_
        refine seqQ.norm ?_
        refine AW.bseq ?_
        refine AW.rseq ?_
        try simp only [wm, ↓wk, ↓wl, nq, evV, ↓reduceIte, sevalprocAttr]
        refine evTs_at (enc := (AV.int .i64)) H (by rfl) (by rfl) ?_ <;> clear H <;> intro xf H
        try simp only [wm, ↓wk, ↓wl, nq, evV, ↓reduceIte, sevalprocAttr]
        refine AW.ifc H (by rfl) ?_ ?_ <;> clear H <;> intro H
        ·refine AW.rend ?_
         try simp only [wm, ↓wk, ↓wl, nq, evV, ↓reduceIte, sevalprocAttr]
         refine evTs_at (enc := (AV.int .i64)) H (by rfl) (by rfl) ?_ <;> clear H <;> intro xg H
         try simp only [wm, ↓wk, ↓wl, nq, evV, ↓reduceIte, sevalprocAttr]
         refine evTs_app (enc := eApiEntry) H (by rfl) (by first | rfl | simp only [List.length_set]) (by rfl) (by rfl) ?_ <;> clear H <;> intro xh H
         try simp only [wm, ↓wk, ↓wl, nq, evV, ↓reduceIte, sevalprocAttr]
         refine blkQ.norm ?_
         refine AW.rend ?_
         try simp only [wm, ↓wk, ↓wl, nq, evV, ↓reduceIte, sevalprocAttr]
         exact loopQ.next H ((Le.tz [1] [0, 1, 11, 13, 14, 15] (by simp only [f25_L3c, wm, wmr, rrm, ↓wk, ↓wl, evV, ↓reduceIte, sevalprocAttr] <;> rfl)))
        ·refine AW.skip ?_
         refine blkQ.norm ?_
         refine AW.rend ?_
         try simp only [wm, ↓wk, ↓wl, nq, evV, ↓reduceIte, sevalprocAttr]
         exact loopQ.next H ((Le.tz [0] [0, 1, 11, 13, 14, 15] (by simp only [f25_L3c, wm, wmr, rrm, ↓wk, ↓wl, evV, ↓reduceIte, sevalprocAttr] <;> rfl)))
       ·refine AW.exit ?_
        refine seqQ.exit ?_
        refine loopQ.exit H ?_ <;> clear H <;> intro H
        try dsimp only at H
        refine blk0.here ?_
        refine blkQ.norm ?_
        refine AW.rend ?_
        try simp only [wm, ↓wk, ↓wl, nq, evV, ↓reduceIte, sevalprocAttr]
        exact loopQ.next H ((Le.tz [0] [0, 1, 11, 13, 14] (by simp only [f25_L2c, wm, wmr, rrm, ↓wk, ↓wl, evV, ↓reduceIte, sevalprocAttr] <;> rfl)))
      ·refine AW.exit ?_
       refine seqQ.exit ?_
       refine loopQ.exit H ?_ <;> clear H <;> intro H
       try dsimp only at H
       refine blk0.here ?_
       refine seqQ.norm ?_
       refine AW.rseq ?_
       try simp only [wm, ↓wk, ↓wl, nq, evV, ↓reduceIte, sevalprocAttr]
       refine AW.ret ?_
       cases H
       exact hQ _ _ _ _ (.inr rfl) (by simp only [resVs, omap, resV, wm, ↓wk, ↓wl, nq, evV, ↓reduceIte, sevalprocAttr]; rfl) (hand_k (by rfl) (by rfl) (by simp) (enc_all _) (by rfl)) (by first | exact Or.inl rfl | exact Or.inr rfl)
theorem f25_im {x0 : (List Int)} {x1 : Int} {x2 : Int} {x3 : Int} {r_ : (List ApiEntry) × Int} (H : f25 x0 x1 x2 x3 = some r_) : Pure Tryz.prog 25 [.sl 0 false (x0.map (AV.int .i64)), .int .i64 x1, .int .i64 x2, .int .i64 x3] (· = .tup [.sl 4 false (r_.1.map eApiEntry), .int .i64 r_.2]) := (f25_ok H).unfr (by first | exact enc_fits _ | simp only [frFits, List.all_cons, List.all_nil, enc_fits, Bool.and_self])
noncomputable def f26_L1 (x0 : (List ApiEntry)) (x1 : (List ApiEntry)) : Lp (Int) ((Unit) ⊕ (Unit)) where
  body := fun x2 => (if (decide (x2 < ((x0.length : Nat) : Int))) = true then (at? x0 x2).bind fun x3 => (at? x1 x2).bind fun x4 => (if (!((x3.fParam.fChannel == x4.fParam.fChannel) && ((x3.fParam.fAttr == x4.fParam.fAttr) && ((x3.fValue.fPalette == x4.fValue.fPalette) && ((x3.fValue.fLevel == x4.fValue.fLevel) && true))))) = true then (some (.brk (Sum.inr ()))) else (some (.next (IntKind.i64.wrap (x2 + 1))))) else (some (.brk (Sum.inl ()))))
  cst := fun x2 => ⟨put (put (put (fun _ => .junk) 5 (.int .i64 x2)) 1 (.sl 4 false (x1.map eApiEntry))) 0 (.sl 4 false (x0.map eApiEntry)), []⟩
theorem f26_L1c (x0 : (List ApiEntry)) (x1 : (List ApiEntry)) (x2 : Int) : (f26_L1 x0 x1).cst x2 = ⟨put (put (put (fun _ => .junk) 5 (.int .i64 x2)) 1 (.sl 4 false (x1.map eApiEntry))) 0 (.sl 4 false (x0.map eApiEntry)), []⟩ := rfl
def c26_0 : C := .cond (.t 10) (.seq (.reg [iI 4 (.mv (.c (.bool false)))]) .ret) (.skip)
def c26_1 : C := .cond (.t 14) (.skip) (.exit 0)
def c26_2 : C := .cond (.t 25) (.seq (.reg [iI 4 (.mv (.c (.bool false)))]) .ret) (.skip)
def c26_3 : C := .reg [iI 15 (.mv (.t 5)), iI 16 (.bin .add (.t 15) (.c (.int .i64 1))), iI 5 (.mv (.t 16))]
def c26_4 : C := .seq (.block 1 (.seq (.reg [iI 17 (.mv (.t 0)), iI 18 (.mv (.t 5)), iI 19 (.iaddr 4 (.t 17) (.t 18)), iI 20 (.load 4 (.t 19)), iI 21 (.mv (.t 1)), iI 22 (.mv (.t 5)), iI 23 (.iaddr 4 (.t 21) (.t 22)), iI 24 (.load 4 (.t 23)), iI 25 (.eqs true [0, 0, 0, 0] (.t 20) (.t 24))]) c26_2)) c26_3
def c26_5 : C := .block 0 (.loop (.seq (.seq (.reg [iI 11 (.mv (.t 5)), iI 12 (.mv (.t 0)), iI 13 (.len 0 (.t 12)), iI 14 (.bin .lss (.t 11) (.t 13))]) c26_1) c26_4))
def c26_6 : C := .seq (.reg [iI 4 (.mv (.c (.bool true)))]) .ret
def c26_7 : C := .seq (.seq (.reg [iI 5 (.mv (.c (.int .i64 0)))]) c26_5) c26_6
def c26_8 : C := .seq (.seq (.reg [iI 6 (.mv (.t 0)), iI 7 (.len 0 (.t 6)), iI 8 (.mv (.t 1)), iI 9 (.len 0 (.t 8)), iI 10 (.bin .neq (.t 7) (.t 9))]) c26_0) c26_7
def ir26 : C := .seq (.reg [iI 4 (.mv (.c (.bool false)))]) c26_8
theorem fd26 : fd? Tryz.prog 26 = some (26, [.slot 4], ir26) := by kernel_rfl
noncomputable def f26 (x0 : (List ApiEntry)) (x1 : (List ApiEntry)) : Option (Bool) :=
  (if (decide (((x0.length : Nat) : Int) ≠ ((x1.length : Nat) : Int))) = true then (some false) else ((Lp.run (f26_L1 x0 x1) 0).bind fun r_ => match r_ with | (Sum.inl _) => (some true) | (Sum.inr _) => (some false)))
theorem f26_ok {x0 : (List ApiEntry)} {x1 : (List ApiEntry)} {r_ : Bool} (H : f26 x0 x1 = some r_) : Pure Tryz.prog 26 [.sl 4 false (x0.map eApiEntry), .sl 4 false (x1.map eApiEntry)] (· = .bool r_) := by
 refine Pure.walk3 fd26 none (Nat.le_of_ble_eq_true rfl) (by rfl) fun Q hQ => ?_
 simp only [f26] at H
 refine AW.rseq ?_
 try simp only [wm, ↓wk, ↓wl, nq, evV, ↓reduceIte, sevalprocAttr]
 refine AW.sseq ?_
 refine AW.rseq ?_
 try simp only [wm, ↓wk, ↓wl, nq, evV, ↓reduceIte, sevalprocAttr]
 refine AW.ifc H (by rfl) ?_ ?_ <;> clear H <;> intro H
 ·refine AW.rseq ?_
  try simp only [wm, ↓wk, ↓wl, nq, evV, ↓reduceIte, sevalprocAttr]
  refine AW.ret ?_
  refine seqQ.ret ?_
  cases H
  exact hQ _ _ _ _ (.inr rfl) (by simp only [resVs, omap, resV, wm, ↓wk, ↓wl, nq, evV, ↓reduceIte, sevalprocAttr]; rfl) (hand_plain (by rfl)) (by first | exact Or.inl rfl | exact Or.inr rfl)
 ·refine AW.skip ?_
  refine seqQ.norm ?_
  refine AW.sseq ?_
  refine AW.rseq ?_
  try simp only [wm, ↓wk, ↓wl, nq, evV, ↓reduceIte, sevalprocAttr]
  refine AW.bend ?_
  refine AW.iter H ((Le.tz [] [0, 1, 5] (by simp only [f26_L1c, wm, wmr, rrm, ↓wk, ↓wl, evV, ↓reduceIte, sevalprocAttr] <;> rfl))) ?_ <;> clear H
  rintro x2 x_ st0_ H hst_
  rw [f26_L1c] at hst_
  simp only [f26_L1] at H
  subst hst_
  refine AW.sseq ?_
  refine AW.rseq ?_
  try simp only [wm, ↓wk, ↓wl, nq, evV, ↓reduceIte, sevalprocAttr]
  refine AW.ifc H (by rfl) ?_ ?_ <;> clear H <;> intro H
  ·refine AW.skip ?_
   refine seqQ.norm ?_
   refine AW.bseq ?_
   refine AW.rseq ?_
   try simp only [wm, ↓wk, ↓wl, nq, evV, ↓reduceIte, sevalprocAttr]
   refine evTs_at (enc := eApiEntry) H (by rfl) (by rfl) ?_ <;> clear H <;> intro x3 H
   try simp only [eApiEntry, eL, eM, wm, ↓wk, ↓wl, nq, evV, ↓reduceIte, sevalprocAttr]
   refine evTs_at (enc := eApiEntry) H (by rfl) (by rfl) ?_ <;> clear H <;> intro x4 H
   try simp only [eApiEntry, eL, eM, wm, ↓wk, ↓wl, nq, evV, ↓reduceIte, sevalprocAttr]
   refine rest_neqs (by rfl) ?_
   try simp only [wm, ↓wk, ↓wl, nq, evV, ↓reduceIte, sevalprocAttr]
   refine AW.ifc H (by rfl) ?_ ?_ <;> clear H <;> intro H
   ·refine AW.rseq ?_
    try simp only [wm, ↓wk, ↓wl, nq, evV, ↓reduceIte, sevalprocAttr]
    refine AW.ret ?_
    refine blkQ.ret ?_
    refine loopQ.ret H ?_ <;> clear H <;> intro H
    try dsimp only at H
    refine blk0.ret ?_
    refine seqQ.ret ?_
    cases H
    exact hQ _ _ _ _ (.inr rfl) (by simp only [resVs, omap, resV, wm, ↓wk, ↓wl, nq, evV, ↓reduceIte, sevalprocAttr]; rfl) (hand_plain (by rfl)) (by first | exact Or.inl rfl | exact Or.inr rfl)
   ·refine AW.skip ?_
    refine blkQ.norm ?_
    refine AW.rend ?_
    try simp only [wm, ↓wk, ↓wl, nq, evV, ↓reduceIte, sevalprocAttr]
    exact loopQ.next H ((Le.tz [] [0, 1, 5] (by simp only [f26_L1c, wm, wmr, rrm, ↓wk, ↓wl, evV, ↓reduceIte, sevalprocAttr] <;> rfl)))
  ·refine AW.exit ?_
   refine seqQ.exit ?_
   refine loopQ.exit H ?_ <;> clear H <;> intro H
   try dsimp only at H
   refine blk0.here ?_
   refine seqQ.norm ?_
   refine AW.rseq ?_
   try simp only [wm, ↓wk, ↓wl, nq, evV, ↓reduceIte, sevalprocAttr]
   refine AW.ret ?_
   cases H
   exact hQ _ _ _ _ (.inr rfl) (by simp only [resVs, omap, resV, wm, ↓wk, ↓wl, nq, evV, ↓reduceIte, sevalprocAttr]; rfl) (hand_plain (by rfl)) (by first | exact Or.inl rfl | exact Or.inr rfl)
noncomputable def f6_J1 (x0 : (List Int)) (x1 : Int) (x2 : Arr2_54) : Jn (Unit) (Bool) where
  run := fun _ => (f24 x0 x1 x2.fE0 x2.fE1).bind fun x3 => (f25 x0 x1 x2.fE0 x2.fE1).bind fun x4 => (f12).bind fun x5 => (if x5 = true then (f26 x3.1 x4.1).bind fun x6 => (if x6 = true then (some (decide (x3.2 = x4.2))) else (some false)) else (some false))
  cst := fun _ => ⟨put (put (put (fun _ => .junk) 5 (.ptr 0 0)) 1 (.int .i64 x1)) 0 (.sl 0 false (x0.map (AV.int .i64))), [.cel [.int .i64 x2.fE0, .int .i64 x2.fE1]]⟩
theorem f6_J1c (x0 : (List Int)) (x1 : Int) (x2 : Arr2_54) (x_ : Unit) : (f6_J1 x0 x1 x2).cst x_ = ⟨put (put (put (fun _ => .junk) 5 (.ptr 0 0)) 1 (.int .i64 x1)) 0 (.sl 0 false (x0.map (AV.int .i64))), [.cel [.int .i64 x2.fE0, .int .i64 x2.fE1]]⟩ := rfl
def c6_0 : C := .cond (.t 18) (.seq (.reg [iI 19 (.call (.c (.fn 12 [])) []), iI 6 (.mv (.t 19))]) .ret) (.skip)
def c6_1 : C := .seq (.reg [iI 40 (.call (.c (.fn 12 [])) []), iI 41 (.mv (.t 40)), iG (some 42) 41 true (.mv (.t 7)), iG (some 43) 41 true (.mv (.t 9)), iG (some 44) 41 true (.call (.c (.fn 26 [])) [(.t 42), (.t 43)]), iI 45 (.pick (.t 41) (.t 44) (.c (.bool false))), iI 46 (.mv (.t 45)), iG (some 47) 46 true (.mv (.t 8)), iG (some 48) 46 true (.mv (.t 10)), iG (some 49) 46 true (.bin .eql (.t 47) (.t 48)), iI 50 (.pick (.t 46) (.t 49) (.c (.bool false))), iI 6 (.mv (.t 50))]) .ret
def c6_2 : C := .seq (.reg [iI 31 (.mv (.t 0)), iI 32 (.mv (.t 1)), iI 33 (.aiaddr 0 2 (.t 5) (.c (.int .i64 0))), iI 34 (.load 0 (.t 33)), iI 35 (.aiaddr 0 2 (.t 5) (.c (.int .i64 1))), iI 36 (.load 0 (.t 35)), iI 37 (.call (.c (.fn 25 [])) [(.t 31), (.t 32), (.t 34), (.t 36)]), iI 30 (.mv (.t 37)), iI 38 (.ext (.t 30) 0), iI 39 (.ext (.t 30) 1), iI 9 (.mv (.t 38)), iI 10 (.mv (.t 39))]) c6_1
def c6_3 : C := .seq (.reg [iI 21 (.mv (.t 0)), iI 22 (.mv (.t 1)), iI 23 (.aiaddr 0 2 (.t 5) (.c (.int .i64 0))), iI 24 (.load 0 (.t 23)), iI 25 (.aiaddr 0 2 (.t 5) (.c (.int .i64 1))), iI 26 (.load 0 (.t 25)), iI 27 (.call (.c (.fn 24 [])) [(.t 21), (.t 22), (.t 24), (.t 26)]), iI 20 (.mv (.t 27)), iI 28 (.ext (.t 20) 0), iI 29 (.ext (.t 20) 1), iI 7 (.mv (.t 28)), iI 8 (.mv (.t 29))]) c6_2
def c6_4 : C := .seq (.seq (.reg [iI 11 (.mv (.t 0)), iI 12 (.len 0 (.t 11)), iI 13 (.bin .gtr (.t 12) (.c (.int .i64 60))), iI 14 (.mv (.t 13)), iG (some 15) 14 true (.mv (.t 0)), iG (some 16) 14 true (.len 0 (.t 15)), iG (some 17) 14 true (.bin .leq (.t 16) (.c (.int .i64 256))), iI 18 (.pick (.t 14) (.t 17) (.c (.bool false)))]) c6_0) c6_3
def ir6 : C := .seq (.reg [iI 5 (.box (.t 2)), iI 6 (.mv (.c (.bool false)))]) c6_4
theorem fd6 : fd? Tryz.prog 6 = some (51, [.slot 6], ir6) := by kernel_rfl
noncomputable def f6 (x0 : (List Int)) (x1 : Int) (x2 : Arr2_54) : Option (Bool) :=
  (if (decide (60 < ((x0.length : Nat) : Int))) = true then (if (decide (((x0.length : Nat) : Int) ≤ 256)) = true then (f12).bind fun x3 => (some x3) else ((f6_J1 x0 x1 x2).run ())) else ((f6_J1 x0 x1 x2).run ()))
theorem f6_ok {x0 : (List Int)} {x1 : Int} {x2 : Arr2_54} {r_ : Bool} (H : f6 x0 x1 x2 = some r_) : Pure Tryz.prog 6 [.sl 0 false (x0.map (AV.int .i64)), .int .i64 x1, .agg [.int .i64 x2.fE0, .int .i64 x2.fE1]] (· = .bool r_) := by
 refine Pure.walk3 fd6 none (Nat.le_of_ble_eq_true rfl) (by rfl) fun Q hQ => ?_
 simp only [f6] at H
 refine AW.rseq ?_
 try simp only [wm, ↓wk, ↓wl, nq, evV, ↓reduceIte, sevalprocAttr]
 refine AW.join (f6_J1 x0 x1 x2) H ?_ fun hf6_J1 => ?_
 ·clear H
  rintro _ st0_ H hst_
  rw [f6_J1c] at hst_
  simp only [f6_J1] at H
  subst hst_
  refine AW.rseq ?_
  try simp only [wm, ↓wk, ↓wl, nq, evV, ↓reduceIte, sevalprocAttr]
  refine evTs_any (v := .ptr 0 0) rfl (by rfl) ?_
  try simp only [wm, ↓wk, ↓wl, nq, evV, ↓reduceIte, sevalprocAttr]
  refine evTs_any (v := .ptr 0 1) rfl (by rfl) ?_
  try simp only [wm, ↓wk, ↓wl, nq, evV, ↓reduceIte, sevalprocAttr]
  refine evTs_pure hFn H (fun _ h => f24_im h) (by rfl) (by rfl) (by rfl) (by rfl) (fun _ => rfl) ?_ <;> clear H <;> intro x3 H
  try simp only [eL, wm, ↓wk, ↓wl, nq, evV, ↓reduceIte, sevalprocAttr]
  refine AW.rseq ?_
  try simp only [wm, ↓wk, ↓wl, nq, evV, ↓reduceIte, sevalprocAttr]
  refine evTs_any (v := .ptr 0 0) rfl (by rfl) ?_
  try simp only [wm, ↓wk, ↓wl, nq, evV, ↓reduceIte, sevalprocAttr]
  refine evTs_any (v := .ptr 0 1) rfl (by rfl) ?_
  try simp only [wm, ↓wk, ↓wl, nq, evV, ↓reduceIte, sevalprocAttr]
  refine evTs_pure hFn H (fun _ h => f25_im h) (by rfl) (by rfl) (by rfl) (by rfl) (fun _ => rfl) ?_ <;> clear H <;> intro x4 H
  try simp only [eL, wm, ↓wk, ↓wl, nq, evV, ↓reduceIte, sevalprocAttr]
  refine AW.rseq ?_
  try simp only [wm, ↓wk, ↓wl, nq, evV, ↓reduceIte, sevalprocAttr]
  refine evTs_pure hFn H (fun _ h => f12_ok h) (by rfl) (by rfl) (by rfl) (by rfl) (fun _ => rfl) ?_ <;> clear H <;> intro x5 H
  try simp only [eL, wm, ↓wk, ↓wl, nq, evV, ↓reduceIte, sevalprocAttr]
  refine evTs_ifg H (by rfl) ?_ ?_ <;> clear H <;> intro H
  ·try simp only [wm, ↓wk, ↓wl, nq, evV, ↓reduceIte, sevalprocAttr]
   refine evTs_pure hFn H (fun _ h => f26_ok h) (by rfl) (by rfl) (by rfl) (by rfl) (fun _ => rfl) ?_ <;> clear H <;> intro x6 H
   try simp only [eL, wm, ↓wk, ↓wl, nq, evV, ↓reduceIte, sevalprocAttr]
   refine evTs_ifg H (by rfl) ?_ ?_ <;> clear H <;> intro H
   ·try simp only [wm, ↓wk, ↓wl, nq, evV, ↓reduceIte, sevalprocAttr]
    refine AW.ret ?_
    cases H
    exact hQ _ _ _ _ (.inr rfl) (by simp only [resVs, omap, resV, wm, ↓wk, ↓wl, nq, evV, ↓reduceIte, sevalprocAttr]; rfl) (hand_plain (by rfl)) (by first | exact Or.inl rfl | exact Or.inr rfl)
   ·try simp only [wm, ↓wk, ↓wl, nq, evV, ↓reduceIte, sevalprocAttr]
    refine AW.ret ?_
    cases H
    exact hQ _ _ _ _ (.inr rfl) (by simp only [resVs, omap, resV, wm, ↓wk, ↓wl, nq, evV, ↓reduceIte, sevalprocAttr]; rfl) (hand_plain (by rfl)) (by first | exact Or.inl rfl | exact Or.inr rfl)
  ·try simp only [wm, ↓wk, ↓wl, nq, evV, ↓reduceIte, sevalprocAttr]
   refine AW.ret ?_
   cases H
   exact hQ _ _ _ _ (.inr rfl) (by simp only [resVs, omap, resV, wm, ↓wk, ↓wl, nq, evV, ↓reduceIte, sevalprocAttr]; rfl) (hand_plain (by rfl)) (by first | exact Or.inl rfl | exact Or.inr rfl)
 ·refine AW.rseq ?_
  try simp only [wm, ↓wk, ↓wl, nq, evV, ↓reduceIte, sevalprocAttr]
  refine evTs_ifg H (by rfl) ?_ ?_ <;> clear H <;> intro H
  ·try simp only [wm, ↓wk, ↓wl, nq, evV, ↓reduceIte, sevalprocAttr]
   refine AW.ifc H (by rfl) ?_ ?_ <;> clear H <;> intro H
   ·refine AW.rseq ?_
    try simp only [wm, ↓wk, ↓wl, nq, evV, ↓reduceIte, sevalprocAttr]
    refine evTs_pure hFn H (fun _ h => f12_ok h) (by rfl) (by rfl) (by rfl) (by rfl) (fun _ => rfl) ?_ <;> clear H <;> intro x7 H
    try simp only [eL, wm, ↓wk, ↓wl, nq, evV, ↓reduceIte, sevalprocAttr]
    refine AW.ret ?_
    refine seqQ.ret ?_
    cases H
    exact hQ _ _ _ _ (.inr rfl) (by simp only [resVs, omap, resV, wm, ↓wk, ↓wl, nq, evV, ↓reduceIte, sevalprocAttr]; rfl) (hand_plain (by rfl)) (by first | exact Or.inl rfl | exact Or.inr rfl)
   ·refine AW.skip ?_
    refine seqQ.norm ?_
    exact hf6_J1 _ _ H ((Le.tz [0] [0, 1, 5] (by simp only [f6_J1c, wm, wmr, rrm, ↓wk, ↓wl, evV, ↓reduceIte, sevalprocAttr] <;> rfl)))
  ·try simp only [wm, ↓wk, ↓wl, nq, evV, ↓reduceIte, sevalprocAttr]
   refine AW.iff (by rfl) ?_
   refine AW.skip ?_
   refine seqQ.norm ?_
   exact hf6_J1 _ _ H ((Le.tz [0] [0, 1, 5] (by simp only [f6_J1c, wm, wmr, rrm, ↓wk, ↓wl, evV, ↓reduceIte, sevalprocAttr] <;> rfl)))
end Go.Proofs.YtnaemmpcffnbkaaGreatDoor
