import Derived.Test.YtnaemmpcffnbkaaGreatDoorEX3
import Derived.Test.YtnaemmpcffnbkaaGreatDoorEM6
import Derived.Test.YtnaemmpcffnbkaaGreatDoorProg
import Derived.KernelRfl
namespace Go.Proofs.YtnaemmpcffnbkaaGreatDoor
open Go Go.Ab

set_option maxHeartbeats 1000000
set_option maxRecDepth 4000
set_option linter.unusedSimpArgs false
set_option linter.unusedVariables false
def c122_0 : C := .cond (.t 23) (.seq (.reg [iI 4 (.mv (.c (.int .i64 2)))]) .ret) (.skip)
def c122_1 : C := .seq (.reg [iI 4 (.mv (.c (.int .i64 0)))]) .ret
def c122_2 : C := .seq (.seq (.reg [iI 5 (.faddr 0 (.t 2)), iI 6 (.load 0 (.t 5)), iI 7 (.mv (.t 1)), iI 8 (.bin .lss (.t 6) (.t 7)), iI 9 (.mv (.t 8)), iG (some 10) 9 false (.faddr 0 (.t 2)), iG (some 11) 9 false (.load 0 (.t 10)), iG (some 12) 9 false (.bin .gtr (.t 11) (.c (.int .i64 999))), iI 13 (.pick (.t 9) (.c (.bool true)) (.t 12)), iI 14 (.mv (.t 13)), iG (some 15) 14 false (.faddr 1 (.t 2)), iG (some 16) 14 false (.load 0 (.t 15)), iG (some 17) 14 false (.bin .lss (.t 16) (.c (.int .i64 0))), iI 18 (.pick (.t 14) (.c (.bool true)) (.t 17)), iI 19 (.mv (.t 18)), iG (some 20) 19 false (.faddr 1 (.t 2)), iG (some 21) 19 false (.load 0 (.t 20)), iG (some 22) 19 false (.bin .geq (.t 21) (.c (.int .i64 15))), iI 23 (.pick (.t 19) (.c (.bool true)) (.t 22))]) c122_0) c122_1
def ir122 : C := .seq (.reg [iI 2 (.box (.t 0)), iI 4 (.mv (.c (.int .i64 0)))]) c122_2
theorem fd122 : fd? Tryz.prog 122 = some (24, [.slot 4], ir122) := by kernel_rfl
noncomputable def f122 (x0 : ApiParam) (x1 : Int) : Option (Int) :=
  (if (decide (x0.fChannel < x1)) = true then (some 2) else (if (decide (999 < x0.fChannel)) = true then (some 2) else (if (decide (x0.fAttr < 0)) = true then (some 2) else (if (decide (15 ≤ x0.fAttr)) = true then (some 2) else (some 0)))))
theorem f122_ok {x0 : ApiParam} {x1 : Int} {r_ : Int} (H : f122 x0 x1 = some r_) : Pure Tryz.prog 122 [.agg [.int .i64 x0.fChannel, .int .i64 x0.fAttr], .int .i64 x1] (· = .int .i64 r_) := by
 refine Pure.walk3 fd122 none (Nat.le_of_ble_eq_true rfl) (by rfl) fun Q hQ => ?_
 simp only [f122] at H
 refine AW.rseq ?_
 try simp only [wm, ↓wk, ↓wl, nq, evV, ↓reduceIte, sevalprocAttr]
 refine AW.sseq ?_
 refine AW.rseq ?_
 try simp only [wm, ↓wk, ↓wl, nq, evV, ↓reduceIte, sevalprocAttr]
 refine evTs_ifg H (by rfl) ?_ ?_ <;> clear H <;> intro H
 ·try simp only [wm, ↓wk, ↓wl, nq, evV, ↓reduceIte, sevalprocAttr]
  refine AW.ift (by rfl) ?_
  refine AW.rseq ?_
  try simp only [wm, ↓wk, ↓wl, nq, evV, ↓reduceIte, sevalprocAttr]
  refine AW.ret ?_
  refine seqQ.ret ?_
  cases H
  exact hQ _ _ _ _ (.inr rfl) (by simp only [resVs, omap, resV, wm, ↓wk, ↓wl, nq, evV, ↓reduceIte, sevalprocAttr]; rfl) (hand_plain (by rfl)) (by first | exact Or.inl rfl | exact Or.inr rfl)
 ·try simp only [wm, ↓wk, ↓wl, nq, evV, ↓reduceIte, sevalprocAttr]
  refine evTs_ifg H (by rfl) ?_ ?_ <;> clear H <;> intro H
  ·try simp only [wm, ↓wk, ↓wl, nq, evV, ↓reduceIte, sevalprocAttr]
   refine AW.ift (by rfl) ?_
   refine AW.rseq ?_
   try simp only [wm, ↓wk, ↓wl, nq, evV, ↓reduceIte, sevalprocAttr]
   refine AW.ret ?_
   refine seqQ.ret ?_
   cases H
   exact hQ _ _ _ _ (.inr rfl) (by simp only [resVs, omap, resV, wm, ↓wk, ↓wl, nq, evV, ↓reduceIte, sevalprocAttr]; rfl) (hand_plain (by rfl)) (by first | exact Or.inl rfl | exact Or.inr rfl)
  ·try simp only [wm, ↓wk, ↓wl, nq, evV, ↓reduceIte, sevalprocAttr]
   refine evTs_ifg H (by rfl) ?_ ?_ <;> clear H <;> intro H
   ·try simp only [wm, ↓wk, ↓wl, nq, evV, ↓reduceIte, sevalprocAttr]
    refine AW.ift (by rfl) ?_
    refine AW.rseq ?_
    try simp only [wm, ↓wk, ↓wl, nq, evV, ↓reduceIte, sevalprocAttr]
    refine AW.ret ?_
    refine seqQ.ret ?_
    cases H
    exact hQ _ _ _ _ (.inr rfl) (by simp only [resVs, omap, resV, wm, ↓wk, ↓wl, nq, evV, ↓reduceIte, sevalprocAttr]; rfl) (hand_plain (by rfl)) (by first | exact Or.inl rfl | exact Or.inr rfl)
   ·try simp only [wm, ↓wk, ↓wl, nq, evV, ↓reduceIte, sevalprocAttr]
    refine AW.ifc H (by rfl) ?_ ?_ <;> clear H <;> intro H
    ·refine AW.rseq ?_
     try simp only [wm, ↓wk, ↓wl, nq, evV, ↓reduceIte, sevalprocAttr]
     refine AW.ret ?_
     refine seqQ.ret ?_
     cases H
     exact hQ _ _ _ _ (.inr rfl) (by simp only [resVs, omap, resV, wm, ↓wk, ↓wl, nq, evV, ↓reduceIte, sevalprocAttr]; rfl) (hand_plain (by rfl)) (by first | exact Or.inl rfl | exact Or.inr rfl)
    ·refine AW.skip ?_
     refine seqQ.norm ?_
     refine AW.rseq ?_
     try simp only [wm, ↓wk, ↓wl, nq, evV, ↓reduceIte, sevalprocAttr]
     refine AW.ret ?_
     cases H
     exact hQ _ _ _ _ (.inr rfl) (by simp only [resVs, omap, resV, wm, ↓wk, ↓wl, nq, evV, ↓reduceIte, sevalprocAttr]; rfl) (hand_plain (by rfl)) (by first | exact Or.inl rfl | exact Or.inr rfl)
def c126_0 : C := .seq (.reg [iI 3 (.mv (.t 0)), iI 4 (.bin .geq (.t 3) (.c (.int .i64 0))), iI 5 (.mv (.t 4)), iG (some 6) 5 true (.mv (.t 0)), iG (some 7) 5 true (.bin .leq (.t 6) (.c (.int .i64 65535))), iI 8 (.pick (.t 5) (.t 7) (.c (.bool false))), iI 2 (.mv (.t 8))]) .ret
def ir126 : C := .seq (.reg [iI 2 (.mv (.c (.bool false)))]) c126_0
theorem fd126 : fd? Tryz.prog 126 = some (9, [.slot 2], ir126) := by kernel_rfl
noncomputable def f126 (x0 : Int) : Option (Bool) :=
  (if (decide (0 ≤ x0)) = true then (some (decide (x0 ≤ 65535))) else (some false))
theorem f126_ok {x0 : Int} {r_ : Bool} (H : f126 x0 = some r_) : Pure Tryz.prog 126 [.int .i64 x0] (· = .bool r_) := by
 refine Pure.walk3 fd126 none (Nat.le_of_ble_eq_true rfl) (by rfl) fun Q hQ => ?_
 simp only [f126] at H
 refine AW.rseq ?_
 try simp only [wm, ↓wk, ↓wl, nq, evV, ↓reduceIte, sevalprocAttr]
 refine AW.rseq ?_
 try simp only [wm, ↓wk, ↓wl, nq, evV, ↓reduceIte, sevalprocAttr]
 refine evTs_ifg H (by rfl) ?_ ?_ <;> clear H <;> intro H
 ·try simp only [wm, ↓wk, ↓wl, nq, evV, ↓reduceIte, sevalprocAttr]
  refine AW.ret ?_
  cases H
  exact hQ _ _ _ _ (.inr rfl) (by simp only [resVs, omap, resV, wm, ↓wk, ↓wl, nq, evV, ↓reduceIte, sevalprocAttr]; rfl) (hand_plain (by rfl)) (by first | exact Or.inl rfl | exact Or.inr rfl)
 ·try simp only [wm, ↓wk, ↓wl, nq, evV, ↓reduceIte, sevalprocAttr]
  refine AW.ret ?_
  cases H
  exact hQ _ _ _ _ (.inr rfl) (by simp only [resVs, omap, resV, wm, ↓wk, ↓wl, nq, evV, ↓reduceIte, sevalprocAttr]; rfl) (hand_plain (by rfl)) (by first | exact Or.inl rfl | exact Or.inr rfl)
def c83_0 : C := .cond (.t 12) (.seq (.reg [iI 2 (.mv (.c (.int .i64 0)))]) .ret) (.skip)
def c83_1 : C := .cond (.t 3) (.seq (.reg [iI 2 (.mv (.c (.int .i64 0)))]) .ret) (.seq (.reg [iI 13 (.faddr 0 (.t 1)), iI 14 (.load 0 (.t 13)), iI 15 (.bin .geq (.t 14) (.c (.int .i64 (-1)))), iI 16 (.mv (.t 15)), iG (some 17) 16 true (.faddr 0 (.t 1)), iG (some 18) 16 true (.load 0 (.t 17)), iG (some 19) 16 true (.bin .neq (.t 18) (.c (.int .i64 0))), iI 20 (.pick (.t 16) (.t 19) (.c (.bool false))), iI 21 (.mv (.t 20)), iG (some 22) 21 true (.faddr 0 (.t 1)), iG (some 23) 21 true (.load 0 (.t 22)), iG (some 24) 21 true (.bin .leq (.t 23) (.c (.int .i64 1048576))), iI 25 (.pick (.t 21) (.t 24) (.c (.bool false))), iI 26 (.mv (.t 25)), iG (some 27) 26 true (.faddr 1 (.t 1)), iG (some 28) 26 true (.load 0 (.t 27)), iG (some 29) 26 true (.bin .eql (.t 28) (.c (.int .i64 0))), iI 30 (.pick (.t 26) (.t 29) (.c (.bool false))), iI 12 (.mv (.t 30))]) c83_0)
def c83_2 : C := .seq (.reg [iI 2 (.mv (.c (.int .i64 2)))]) .ret
def c83_3 : C := .seq (.block 0 (.seq (.reg [iI 4 (.faddr 0 (.t 1)), iI 5 (.load 0 (.t 4)), iI 6 (.bin .eql (.t 5) (.c (.int .i64 0))), iI 7 (.mv (.t 6)), iG (some 8) 7 true (.faddr 1 (.t 1)), iG (some 9) 7 true (.load 0 (.t 8)), iG (some 10) 7 true (.call (.c (.fn 126 [])) [(.t 9)]), iI 11 (.pick (.t 7) (.t 10) (.c (.bool false))), iI 3 (.mv (.t 11))]) c83_1)) c83_2
def ir83 : C := .seq (.reg [iI 1 (.box (.t 0)), iI 2 (.mv (.c (.int .i64 0)))]) c83_3
theorem fd83 : fd? Tryz.prog 83 = some (31, [.slot 2], ir83) := by kernel_rfl
noncomputable def f83 (x0 : ApiValue) : Option (Int) :=
  (if (decide (x0.fPalette = 0)) = true then (f126 x0.fLevel).bind fun x1 => (if x1 = true then (some 0) else (if (decide ((-1) ≤ x0.fPalette)) = true then (if (decide (x0.fPalette ≠ 0)) = true then (if (decide (x0.fPalette ≤ 1048576)) = true then (if (decide (x0.fLevel = 0)) = true then (some 0) else (some 2)) else (some 2)) else (some 2)) else (some 2))) else (if (decide ((-1) ≤ x0.fPalette)) = true then (if (decide (x0.fPalette ≠ 0)) = true then (if (decide (x0.fPalette ≤ 1048576)) = true then (if (decide (x0.fLevel = 0)) = true then (some 0) else (some 2)) else (some 2)) else (some 2)) else (some 2)))
theorem f83_ok {x0 : ApiValue} {r_ : Int} (H : f83 x0 = some r_) : Pure Tryz.prog 83 [.agg [.int .i64 x0.fPalette, .int .i64 x0.fLevel]] (· = .int .i64 r_) := by
 refine Pure.walk3 fd83 none (Nat.le_of_ble_eq_true rfl) (by rfl) fun Q hQ => ?_
 simp only [f83] at H
 refine AW.rseq ?_
 try simp only [wm, ↓wk, ↓wl, nq, evV, ↓reduceIte, sevalprocAttr]
 refine AW.bseq ?_
 refine AW.rseq ?_
 try simp only [wm, ↓wk, ↓wl, nq, evV, ↓reduceIte, sevalprocAttr]
 refine evTs_ifg H (by rfl) ?_ ?_ <;> clear H <;> intro H
 ·try simp only [wm, ↓wk, ↓wl, nq, evV, ↓reduceIte, sevalprocAttr]
  refine evTs_pure hFn H (fun _ h => f126_ok h) (by rfl) (by rfl) (by rfl) (by rfl) (fun _ => rfl) ?_ <;> clear H <;> intro x1 H
  try simp only [eL, wm, ↓wk, ↓wl, nq, evV, ↓reduceIte, sevalprocAttr]
  refine AW.ifc H (by rfl) ?_ ?_ <;> clear H <;> intro H
  ·refine AW.rseq ?_
   try simp only [wm, ↓wk, ↓wl, nq, evV, ↓reduceIte, sevalprocAttr]
   refine AW.ret ?_
   refine blkQ.ret ?_
   cases H
   exact hQ _ _ _ _ (.inr rfl) (by simp only [resVs, omap, resV, wm, ↓wk, ↓wl, nq, evV, ↓reduceIte, sevalprocAttr]; rfl) (hand_plain (by rfl)) (by first | exact Or.inl rfl | exact Or.inr rfl)
  ·refine AW.rseq ?_
   try simp only [wm, ↓wk, ↓wl, nq, evV, ↓reduceIte, sevalprocAttr]
   refine evTs_ifg H (by rfl) ?_ ?_ <;> clear H <;> intro H
   ·try simp only [wm, ↓wk, ↓wl, nq, evV, ↓reduceIte, sevalprocAttr]
    refine evTs_ifg H (by rfl) ?_ ?_ <;> clear H <;> intro H
    ·try simp only [wm, ↓wk, ↓wl, nq, evV, ↓reduceIte, sevalprocAttr]
     refine evTs_ifg H (by rfl) ?_ ?_ <;> clear H <;> intro H
     ·try simp only [wm, ↓wk, ↓wl, nq, evV, ↓reduceIte, sevalprocAttr]
      refine AW.ifc H (by rfl) ?_ ?_ <;> clear H <;> intro H
      ·refine AW.rseq ?_
       try simp only [wm, ↓wk, ↓wl, nq, evV, ↓reduceIte, sevalprocAttr]
       refine AW.ret ?_
       refine blkQ.ret ?_
       cases H
       exact hQ _ _ _ _ (.inr rfl) (by simp only [resVs, omap, resV, wm, ↓wk, ↓wl, nq, evV, ↓reduceIte, sevalprocAttr]; rfl) (hand_plain (by rfl)) (by first | exact Or.inl rfl | exact Or.inr rfl)
      ·refine AW.skip ?_
       refine blkQ.norm ?_
       refine AW.rseq ?_
       try simp only [wm, ↓wk, ↓wl, nq, evV, ↓reduceIte, sevalprocAttr]
       refine AW.ret ?_
       cases H
       exact hQ _ _ _ _ (.inr rfl) (by simp only [resVs, omap, resV, wm, ↓wk, ↓wl, nq, evV, ↓reduceIte, sevalprocAttr]; rfl) (hand_plain (by rfl)) (by first | exact Or.inl rfl | exact Or.inr rfl)
     ·try simp only [wm, ↓wk, ↓wl, nq, evV, ↓reduceIte, sevalprocAttr]
      refine AW.iff (by rfl) ?_
      refine AW.skip ?_
      refine blkQ.norm ?_
      refine AW.rseq ?_
      try simp only [wm, ↓wk, ↓wl, nq, evV, ↓reduceIte, sevalprocAttr]
      refine AW.ret ?_
      cases H
      exact hQ _ _ _ _ (.inr rfl) (by simp only [resVs, omap, resV, wm, ↓wk, ↓wl, nq, evV, ↓reduceIte, sevalprocAttr]; rfl) (hand_plain (by rfl)) (by first | exact Or.inl rfl | exact Or.inr rfl)
    ·try simp only [wm, ↓wk, ↓wl, nq, evV, ↓reduceIte, sevalprocAttr]
     refine AW.iff (by rfl) ?_
     refine AW.skip ?_
     refine blkQ.norm ?_
     refine AW.rseq ?_
     try simp only [wm, ↓wk, ↓wl, nq, evV, ↓reduceIte, sevalprocAttr]
     refine AW.ret ?_
     cases H
     exact hQ _ _ _ _ (.inr rfl) (by simp only [resVs, omap, resV, wm, ↓wk, ↓wl, nq, evV, ↓reduceIte, sevalprocAttr]; rfl) (hand_plain (by rfl)) (by first | exact Or.inl rfl | exact Or.inr rfl)
   ·try simp only [wm, ↓wk, ↓wl, nq, evV, ↓reduceIte, sevalprocAttr]
    refine AW.iff (by rfl) ?_
    refine AW.skip ?_
    refine blkQ.norm ?_
    refine AW.rseq ?_
    try simp only [wm, ↓wk, ↓wl, nq, evV, ↓reduceIte, sevalprocAttr]
    refine AW.ret ?_
    cases H
    exact hQ _ _ _ _ (.inr rfl) (by simp only [resVs, omap, resV, wm, ↓wk, ↓wl, nq, evV, ↓reduceIte, sevalprocAttr]; rfl) (hand_plain (by rfl)) (by first | exact Or.inl rfl | exact Or.inr rfl)
 ·try simp only [wm, ↓wk, ↓wl, nq, evV, ↓reduceIte, sevalprocAttr]
  refine AW.iff (by rfl) ?_
  refine AW.rseq ?_
  try simp only [wm, ↓wk, ↓wl, nq, evV, ↓reduceIte, sevalprocAttr]
  refine evTs_ifg H (by rfl) ?_ ?_ <;> clear H <;> intro H
  ·try simp only [wm, ↓wk, ↓wl, nq, evV, ↓reduceIte, sevalprocAttr]
   refine evTs_ifg H (by rfl) ?_ ?_ <;> clear H <;> intro H
   ·try simp only [wm, ↓wk, ↓wl, nq, evV, ↓reduceIte, sevalprocAttr]
    refine evTs_ifg H (by rfl) ?_ ?_ <;> clear H <;> intro H
    ·try simp only [wm, ↓wk, ↓wl, nq, evV, ↓reduceIte, sevalprocAttr]
     refine AW.ifc H (by rfl) ?_ ?_ <;> clear H <;> intro H
     ·refine AW.rseq ?_
      try simp only [wm, ↓wk, ↓wl, nq, evV, ↓reduceIte, sevalprocAttr]
      refine AW.ret ?_
      refine blkQ.ret ?_
      cases H
      exact hQ _ _ _ _ (.inr rfl) (by simp only [resVs, omap, resV, wm, ↓wk, ↓wl, nq, evV, ↓reduceIte, sevalprocAttr]; rfl) (hand_plain (by rfl)) (by first | exact Or.inl rfl | exact Or.inr rfl)
     ·refine AW.skip ?_
      refine blkQ.norm ?_
      refine AW.rseq ?_
      try simp only [wm, ↓wk, ↓wl, nq, evV, ↓reduceIte, sevalprocAttr]
      refine AW.ret ?_
      cases H
      exact hQ _ _ _ _ (.inr rfl) (by simp only [resVs, omap, resV, wm, ↓wk, ↓wl, nq, evV, ↓reduceIte, sevalprocAttr]; rfl) (hand_plain (by rfl)) (by first | exact Or.inl rfl | exact Or.inr rfl)
    ·try simp only [wm, ↓wk, ↓wl, nq, evV, ↓reduceIte, sevalprocAttr]
     refine AW.iff (by rfl) ?_
     refine AW.skip ?_
     refine blkQ.norm ?_
     refine AW.rseq ?_
     try simp only [wm, ↓wk, ↓wl, nq, evV, ↓reduceIte, sevalprocAttr]
     refine AW.ret ?_
     cases H
     exact hQ _ _ _ _ (.inr rfl) (by simp only [resVs, omap, resV, wm, ↓wk, ↓wl, nq, evV, ↓reduceIte, sevalprocAttr]; rfl) (hand_plain (by rfl)) (by first | exact Or.inl rfl | exact Or.inr rfl)
   ·try simp only [wm, ↓wk, ↓wl, nq, evV, ↓reduceIte, sevalprocAttr]
    refine AW.iff (by rfl) ?_
    refine AW.skip ?_
    refine blkQ.norm ?_
    refine AW.rseq ?_
    try simp only [wm, ↓wk, ↓wl, nq, evV, ↓reduceIte, sevalprocAttr]
    refine AW.ret ?_
    cases H
    exact hQ _ _ _ _ (.inr rfl) (by simp only [resVs, omap, resV, wm, ↓wk, ↓wl, nq, evV, ↓reduceIte, sevalprocAttr]; rfl) (hand_plain (by rfl)) (by first | exact Or.inl rfl | exact Or.inr rfl)
  ·try simp only [wm, ↓wk, ↓wl, nq, evV, ↓reduceIte, sevalprocAttr]
   refine AW.iff (by rfl) ?_
   refine AW.skip ?_
   refine blkQ.norm ?_
   refine AW.rseq ?_
   try simp only [wm, ↓wk, ↓wl, nq, evV, ↓reduceIte, sevalprocAttr]
   refine AW.ret ?_
   cases H
   exact hQ _ _ _ _ (.inr rfl) (by simp only [resVs, omap, resV, wm, ↓wk, ↓wl, nq, evV, ↓reduceIte, sevalprocAttr]; rfl) (hand_plain (by rfl)) (by first | exact Or.inl rfl | exact Or.inr rfl)
def c121_0 : C := .cond (.t 8) (.seq (.reg [iI 9 (.mv (.t 3)), iI 2 (.mv (.t 9))]) .ret) (.skip)
def c121_1 : C := .seq (.reg [iI 7 (.mv (.t 3)), iI 8 (.bin .neq (.t 7) (.c (.int .i64 0)))]) c121_0
def c121_2 : C := .seq (.reg [iI 10 (.faddr 2 (.t 1)), iI 11 (.load 2 (.t 10)), iI 12 (.call (.c (.fn 83 [])) [(.t 11)]), iI 2 (.mv (.t 12))]) .ret
def c121_3 : C := .seq (.seq (.reg [iI 4 (.faddr 0 (.t 1)), iI 5 (.load 2 (.t 4)), iI 6 (.call (.c (.fn 122 [])) [(.t 5), (.c (.int .i64 1))]), iI 3 (.mv (.t 6))]) c121_1) c121_2
def ir121 : C := .seq (.reg [iI 1 (.box (.t 0)), iI 2 (.mv (.c (.int .i64 0)))]) c121_3
theorem fd121 : fd? Tryz.prog 121 = some (13, [.slot 2], ir121) := by kernel_rfl
noncomputable def f121 (x0 : ApiEntry) : Option (Int) :=
  (f122 x0.fParam 1).bind fun x1 => (if (decide (x1 ≠ 0)) = true then (some x1) else (f83 x0.fValue).bind fun x2 => (some x2))
theorem f121_ok {x0 : ApiEntry} {r_ : Int} (H : f121 x0 = some r_) : Pure Tryz.prog 121 [.agg [.int .i64 x0.fParam.fChannel, .int .i64 x0.fParam.fAttr, .int .i64 x0.fValue.fPalette, .int .i64 x0.fValue.fLevel]] (· = .int .i64 r_) := by
 refine Pure.walk3 fd121 none (Nat.le_of_ble_eq_true rfl) (by rfl) fun Q hQ => ?_
 simp only [f121] at H
 refine AW.rseq ?_
 try simp only [wm, ↓wk, ↓wl, nq, evV, ↓reduceIte, sevalprocAttr]
 refine AW.sseq ?_
 refine AW.rseq ?_
 try simp only [wm, ↓wk, ↓wl, nq, evV, ↓reduceIte, sevalprocAttr]
 refine evTs_pure hFn H (fun _ h => f122_ok h) (by rfl) (by rfl) (by rfl) (by rfl) (fun _ => rfl) ?_ <;> clear H <;> intro x1 H
 try simp only [eL, wm, ↓wk, ↓wl, nq, evV, ↓reduceIte, sevalprocAttr]
 refine AW.rseq ?_
 try simp only [wm, ↓wk, ↓wl, nq, evV, ↓reduceIte, sevalprocAttr]
 refine AW.ifc H (by rfl) ?_ ?_ <;> clear H <;> intro H
 ·refine AW.rseq ?_
  try simp only [wm, ↓wk, ↓wl, nq, evV, ↓reduceIte, sevalprocAttr]
  refine AW.ret ?_
  refine seqQ.ret ?_
  cases H
  exact hQ _ _ _ _ (.inr rfl) (by simp only [resVs, omap, resV, wm, ↓wk, ↓wl, nq, evV, ↓reduceIte, sevalprocAttr]; rfl) (hand_plain (by rfl)) (by first | exact Or.inl rfl | exact Or.inr rfl)
 ·refine AW.skip ?_
  refine seqQ.norm ?_
  refine AW.rseq ?_
  try simp only [wm, ↓wk, ↓wl, nq, evV, ↓reduceIte, sevalprocAttr]
  refine evTs_pure hFn H (fun _ h => f83_ok h) (by rfl) (by rfl) (by rfl) (by rfl) (fun _ => rfl) ?_ <;> clear H <;> intro x2 H
  try simp only [eL, wm, ↓wk, ↓wl, nq, evV, ↓reduceIte, sevalprocAttr]
  refine AW.ret ?_
  cases H
  exact hQ _ _ _ _ (.inr rfl) (by simp only [resVs, omap, resV, wm, ↓wk, ↓wl, nq, evV, ↓reduceIte, sevalprocAttr]; rfl) (hand_plain (by rfl)) (by first | exact Or.inl rfl | exact Or.inr rfl)
def c125_0 : C := .cond (.t 9) (.seq (.reg [iI 10 (.faddr 0 (.t 2)), iI 11 (.load 0 (.t 10)), iI 12 (.faddr 0 (.t 3)), iI 13 (.load 0 (.t 12)), iI 14 (.bin .sub (.t 11) (.t 13)), iI 4 (.mv (.t 14))]) .ret) (.skip)
def c125_1 : C := .seq (.reg [iI 15 (.faddr 1 (.t 2)), iI 16 (.load 0 (.t 15)), iI 17 (.faddr 1 (.t 3)), iI 18 (.load 0 (.t 17)), iI 19 (.bin .sub (.t 16) (.t 18)), iI 4 (.mv (.t 19))]) .ret
def c125_2 : C := .seq (.seq (.reg [iI 5 (.faddr 0 (.t 2)), iI 6 (.load 0 (.t 5)), iI 7 (.faddr 0 (.t 3)), iI 8 (.load 0 (.t 7)), iI 9 (.bin .neq (.t 6) (.t 8))]) c125_0) c125_1
def ir125 : C := .seq (.reg [iI 2 (.box (.t 0)), iI 3 (.box (.t 1)), iI 4 (.mv (.c (.int .i64 0)))]) c125_2
theorem fd125 : fd? Tryz.prog 125 = some (20, [.slot 4], ir125) := by kernel_rfl
noncomputable def f125 (x0 : ApiParam) (x1 : ApiParam) : Option (Int) :=
  (if (decide (x0.fChannel ≠ x1.fChannel)) = true then (some (IntKind.i64.wrap (x0.fChannel - x1.fChannel))) else (some (IntKind.i64.wrap (x0.fAttr - x1.fAttr))))
theorem f125_ok {x0 : ApiParam} {x1 : ApiParam} {r_ : Int} (H : f125 x0 x1 = some r_) : Pure Tryz.prog 125 [.agg [.int .i64 x0.fChannel, .int .i64 x0.fAttr], .agg [.int .i64 x1.fChannel, .int .i64 x1.fAttr]] (· = .int .i64 r_) := by
 refine Pure.walk3 fd125 none (Nat.le_of_ble_eq_true rfl) (by rfl) fun Q hQ => ?_
 simp only [f125] at H
 refine AW.rseq ?_
 try simp only [wm, ↓wk, ↓wl, nq, evV, ↓reduceIte, sevalprocAttr]
 refine AW.sseq ?_
 refine AW.rseq ?_
 try simp only [wm, ↓wk, ↓wl, nq, evV, ↓reduceIte, sevalprocAttr]
 refine AW.ifc H (by rfl) ?_ ?_ <;> clear H <;> intro H
 ·refine AW.rseq ?_
  try simp only [wm, ↓wk, ↓wl, nq, evV, ↓reduceIte, sevalprocAttr]
  refine AW.ret ?_
  refine seqQ.ret ?_
  cases H
  exact hQ _ _ _ _ (.inr rfl) (by simp only [resVs, omap, resV, wm, ↓wk, ↓wl, nq, evV, ↓reduceIte, sevalprocAttr]; rfl) (hand_plain (by rfl)) (by first | exact Or.inl rfl | exact Or.inr rfl)
 ·refine AW.skip ?_
  refine seqQ.norm ?_
  refine AW.rseq ?_
  try simp only [wm, ↓wk, ↓wl, nq, evV, ↓reduceIte, sevalprocAttr]
  refine AW.ret ?_
  cases H
  exact hQ _ _ _ _ (.inr rfl) (by simp only [resVs, omap, resV, wm, ↓wk, ↓wl, nq, evV, ↓reduceIte, sevalprocAttr]; rfl) (hand_plain (by rfl)) (by first | exact Or.inl rfl | exact Or.inr rfl)
def c124_0 : C := .seq (.reg [iI 5 (.faddr 0 (.t 2)), iI 6 (.load 2 (.t 5)), iI 7 (.faddr 0 (.t 3)), iI 8 (.load 2 (.t 7)), iI 9 (.call (.c (.fn 125 [])) [(.t 6), (.t 8)]), iI 4 (.mv (.t 9))]) .ret
def ir124 : C := .seq (.reg [iI 2 (.box (.t 0)), iI 3 (.box (.t 1)), iI 4 (.mv (.c (.int .i64 0)))]) c124_0
theorem fd124 : fd? Tryz.prog 124 = some (10, [.slot 4], ir124) := by kernel_rfl
noncomputable def f124 (x0 : ApiEntry) (x1 : ApiEntry) : Option (Int) :=
  (f125 x0.fParam x1.fParam).bind fun x2 => (some x2)
theorem f124_ok {x0 : ApiEntry} {x1 : ApiEntry} {r_ : Int} (H : f124 x0 x1 = some r_) : Pure Tryz.prog 124 [.agg [.int .i64 x0.fParam.fChannel, .int .i64 x0.fParam.fAttr, .int .i64 x0.fValue.fPalette, .int .i64 x0.fValue.fLevel], .agg [.int .i64 x1.fParam.fChannel, .int .i64 x1.fParam.fAttr, .int .i64 x1.fValue.fPalette, .int .i64 x1.fValue.fLevel]] (· = .int .i64 r_) := by
 refine Pure.walk3 fd124 none (Nat.le_of_ble_eq_true rfl) (by rfl) fun Q hQ => ?_
 simp only [f124] at H
 refine AW.rseq ?_
 try simp only [wm, ↓wk, ↓wl, nq, evV, ↓reduceIte, sevalprocAttr]
 refine AW.rseq ?_
 try simp only [wm, ↓wk, ↓wl, nq, evV, ↓reduceIte, sevalprocAttr]
 refine evTs_pure hFn H (fun _ h => f125_ok h) (by rfl) (by rfl) (by rfl) (by rfl) (fun _ => rfl) ?_ <;> clear H <;> intro x2 H
 try simp only [eL, wm, ↓wk, ↓wl, nq, evV, ↓reduceIte, sevalprocAttr]
 refine AW.ret ?_
 cases H
 exact hQ _ _ _ _ (.inr rfl) (by simp only [resVs, omap, resV, wm, ↓wk, ↓wl, nq, evV, ↓reduceIte, sevalprocAttr]; rfl) (hand_plain (by rfl)) (by first | exact Or.inl rfl | exact Or.inr rfl)
noncomputable def f123_121_124_L1 (x0 : (List ApiEntry)) : Lp (Int) ((Unit) ⊕ (Int)) where
  body := fun x1 => (if (decide (x1 < ((x0.length : Nat) : Int))) = true then (at? x0 x1).bind fun x2 => (f121 x2).bind fun x3 => (if (decide (x3 ≠ 0)) = true then (some (.brk (Sum.inr x3))) else (if (decide (0 < x1)) = true then (at? x0 (IntKind.i64.wrap (x1 - 1))).bind fun x4 => (f124 x4 x2).bind fun x5 => (if (decide (0 ≤ x5)) = true then (some (.brk (Sum.inr 9))) else (some (.next (IntKind.i64.wrap (x1 + 1))))) else (some (.next (IntKind.i64.wrap (x1 + 1)))))) else (some (.brk (Sum.inl ()))))
  cst := fun x1 => ⟨put (put (put (put (put (put (fun _ => .junk) 18 (.int .i64 x1)) 17 (.int .i64 ((x0.length : Nat) : Int))) 16 (.sl 4 false (x0.map eApiEntry))) 3 (.fn 124 [])) 2 (.fn 121 [])) 0 (.sl 4 false (x0.map eApiEntry)), []⟩
theorem f123_121_124_L1c (x0 : (List ApiEntry)) (x1 : Int) : (f123_121_124_L1 x0).cst x1 = ⟨put (put (put (put (put (put (fun _ => .junk) 18 (.int .i64 x1)) 17 (.int .i64 ((x0.length : Nat) : Int))) 16 (.sl 4 false (x0.map eApiEntry))) 3 (.fn 124 [])) 2 (.fn 121 [])) 0 (.sl 4 false (x0.map eApiEntry)), []⟩ := rfl
def c123_0 : C := .cond (.t 15) (.seq (.reg [iI 8 (.mv (.c (.int .i64 5)))]) .ret) (.skip)
def c123_1 : C := .cond (.t 27) (.seq (.reg [iI 28 (.mv (.t 11)), iI 8 (.mv (.t 28))]) .ret) (.skip)
def c123_2 : C := .seq (.reg [iI 26 (.mv (.t 11)), iI 27 (.bin .neq (.t 26) (.c (.int .i64 0)))]) c123_1
def c123_3 : C := .cond (.t 41) (.seq (.reg [iI 8 (.mv (.c (.int .i64 9)))]) .ret) (.skip)
def c123_4 : C := .seq (.reg [iI 29 (.mv (.t 9)), iI 30 (.bin .gtr (.t 29) (.c (.int .i64 0))), iI 31 (.mv (.t 30)), iG (some 32) 31 true (.mv (.t 3)), iG (some 33) 31 true (.mv (.t 0)), iG (some 34) 31 true (.mv (.t 9)), iG (some 35) 31 true (.bin .sub (.t 34) (.c (.int .i64 1))), iG (some 36) 31 true (.iaddr 4 (.t 33) (.t 35)), iG (some 37) 31 true (.load 4 (.t 36)), iG (some 38) 31 true (.load 4 (.t 10)), iG (some 39) 31 true (.call (.t 32) [(.t 37), (.t 38)]), iG (some 40) 31 true (.bin .geq (.t 39) (.c (.int .i64 0))), iI 41 (.pick (.t 31) (.t 40) (.c (.bool false)))]) c123_3
def c123_5 : C := .seq (.seq (.reg [iI 23 (.mv (.t 2)), iI 24 (.load 4 (.t 10)), iI 25 (.call (.t 23) [(.t 24)]), iI 11 (.mv (.t 25))]) c123_2) c123_4
def c123_6 : C := .reg [iI 42 (.bin .add (.t 18) (.c (.int .i64 1))), iI 18 (.mv (.t 42))]
def c123_7 : C := .seq (.block 1 (.seq (.reg [iI 20 (.mv (.t 18)), iI 21 (.iaddr 4 (.t 16) (.t 18)), iI 22 (.load 4 (.t 21)), iI 10 (.alloc [(1, (.int .i64 0)), (1, (.int .i64 0)), (1, (.int .i64 0)), (1, (.int .i64 0))]), iI 9 (.mv (.t 20)), iN (.store 4 (.t 10) (.t 22))]) c123_5)) c123_6
def c123_8 : C := .seq (.cond (.t 19) (.skip) (.exit 0)) c123_7
def c123_9 : C := .block 0 (.loop (.seq (.reg [iI 19 (.bin .lss (.t 18) (.t 17))]) c123_8))
def c123_10 : C := .seq (.reg [iI 8 (.mv (.c (.int .i64 0)))]) .ret
def c123_11 : C := .seq (.seq (.reg [iI 16 (.mv (.t 0)), iI 17 (.len 0 (.t 16)), iI 18 (.mv (.c (.int .i64 0)))]) c123_9) c123_10
def c123_12 : C := .seq (.seq (.reg [iI 12 (.mv (.t 0)), iI 13 (.len 0 (.t 12)), iI 14 (.mv (.t 1)), iI 15 (.bin .gtr (.t 13) (.t 14))]) c123_0) c123_11
def ir123 : C := .seq (.reg [iI 8 (.mv (.c (.int .i64 0)))]) c123_12
theorem fd123 : fd? Tryz.prog 123 = some (43, [.slot 8], ir123) := by kernel_rfl
noncomputable def f123_121_124 (x0 : (List ApiEntry)) (x1 : Int) : Option (Int) :=
  (if (decide (x1 < ((x0.length : Nat) : Int))) = true then (some 5) else ((Lp.run (f123_121_124_L1 x0) 0).bind fun r_ => match r_ with | (Sum.inl _) => (some 0) | (Sum.inr x2) => (some x2)))
theorem f123_121_124_ok {x0 : (List ApiEntry)} {x1 : Int} {r_ : Int} (H : f123_121_124 x0 x1 = some r_) : Pure Tryz.prog 123 [.sl 4 false (x0.map eApiEntry), .int .i64 x1, .fn 121 [], .fn 124 []] (· = .int .i64 r_) := by
 refine Pure.walk3 fd123 none (Nat.le_of_ble_eq_true rfl) (by rfl) fun Q hQ => ?_
 simp only [f123_121_124] at H
 refine AW.rseq ?_
 try simp only [wm, ↓wk, ↓wl, nq, evV, ↓reduceIte, sevalprocAttr]
 refine AW.sseq ?_
 refine AW.rseq ?_
 try simp only [wm, ↓wk, ↓wl, nq, evV, ↓reduceIte, sevalprocAttr]
 refine AW.ifc H (by rfl) ?_ ?_ <;> clear H <;> intro H
 ·refine AW.rseq ?_
  try simp only [wm, ↓wk, ↓wl, nq, evV, ↓reduceIte, sevalprocAttr]
  refine AW.ret ?_
  refine seqQ.ret ?_
  cases H
  exact hQ _ _ _ _ (.inr rfl) (by simp only [resVs, omap, resV, wm, ↓wk, ↓wl, nq, evV, ↓reduceIte, sevalprocAttr]; rfl) (hand_plain (by rfl)) (by first | exact Or.inl rfl | exact Or.inr rfl)
 ·refine AW.skip ?_
  refine seqQ.norm ?_
  refine AW.sseq ?_
  refine AW.rseq ?_
  try simp only [wm, ↓wk, ↓wl, nq, evV, ↓reduceIte, sevalprocAttr]
  refine AW.bend ?_
  refine AW.iter H ((Le.tz [] [0, 2, 3, 16, 17, 18] (by simp only [f123_121_124_L1c, wm, wmr, rrm, ↓wk, ↓wl, evV, ↓reduceIte, sevalprocAttr] <;> rfl))) ?_ <;> clear H
  rintro x2 x_ st0_ H hst_
  rw [f123_121_124_L1c] at hst_
  simp only [f123_121_124_L1] at H
  subst hst_
  refine AW.rseq ?_
  try simp only [wm, ↓wk, ↓wl, nq, evV, ↓reduceIte, sevalprocAttr]
  refine AW.sseq ?_
  refine AW.ifc H (by rfl) ?_ ?_ <;> clear H <;> intro H
  ·refine AW.skip ?_
   refine seqQ.norm ?_
   refine AW.bseq ?_
   refine AW.rseq ?_
   try simp only [wm, ↓wk, ↓wl, nq, evV, ↓reduceIte, sevalprocAttr]
   refine evTs_at (enc := eApiEntry) H (by rfl) (by rfl) ?_ <;> clear H <;> intro x3 H
   try simp only [eApiEntry, eL, eM, wm, ↓wk, ↓wl, nq, evV, ↓reduceIte, sevalprocAttr]
   refine AW.sseq ?_
   refine AW.rseq ?_
   try simp only [wm, ↓wk, ↓wl, nq, evV, ↓reduceIte, sevalprocAttr]
   refine evTs_pure hFn H (fun _ h => f121_ok h) (by rfl) (by rfl) (by rfl) (by rfl) (fun _ => rfl) ?_ <;> clear H <;> intro x4 H
   try simp only [eL, wm, ↓wk, ↓wl, nq, evV, ↓reduceIte, sevalprocAttr]
   refine AW.rseq ?_
   try simp only [wm, ↓wk, ↓wl, nq, evV, ↓reduceIte, sevalprocAttr]
   refine AW.ifc H (by rfl) ?_ ?_ <;> clear H <;> intro H
   ·refine AW.rseq ?_
    try simp only [wm, ↓wk, ↓wl, nq, evV, ↓reduceIte, sevalprocAttr]
    refine AW.ret ?_
    refine seqQ.ret ?_
    refine blkQ.ret ?_
    refine loopQ.ret H ?_ <;> clear H <;> intro H
    try dsimp only at H
    refine blk0.ret ?_
    refine seqQ.ret ?_
    cases H
    exact hQ _ _ _ _ (.inr rfl) (by simp only [resVs, omap, resV, wm, ↓wk, ↓wl, nq, evV, ↓reduceIte, sevalprocAttr]; rfl) (hand_plain (by rfl)) (by first | exact Or.inl rfl | exact Or.inr rfl)
   ·refine AW.skip ?_
    refine seqQ.norm ?_
    refine AW.rseq ?_
    try simp only [wm, ↓wk, ↓wl, nq, evV, ↓reduceIte, sevalprocAttr]
    refine evTs_ifg H (by rfl) ?_ ?_ <;> clear H <;> intro H
    ·try simp only [wm, ↓wk, ↓wl, nq, evV, ↓reduceIte, sevalprocAttr]
     refine evTs_at (enc := eApiEntry) H (by rfl) (by rfl) ?_ <;> clear H <;> intro x5 H
     try simp only [eApiEntry, eL, eM, wm, ↓wk, ↓wl, nq, evV, ↓reduceIte, sevalprocAttr]
     refine evTs_pure hFn H (fun _ h => f124_ok h) (by rfl) (by rfl) (by rfl) (by rfl) (fun _ => rfl) ?_ <;> clear H <;> intro x6 H
     try simp only [eL, wm, ↓wk, ↓wl, nq, evV, ↓reduceIte, sevalprocAttr]
     refine AW.ifc H (by rfl) ?_ ?_ <;> clear H <;> intro H
     ·refine AW.rseq ?_
      try simp only [wm, ↓wk, ↓wl, nq, evV, ↓reduceIte, sevalprocAttr]
      refine AW.ret ?_
      refine blkQ.ret ?_
      refine loopQ.ret H ?_ <;> clear H <;> intro H
      try dsimp only at H
      refine blk0.ret ?_
      refine seqQ.ret ?_
      cases H
      exact hQ _ _ _ _ (.inr rfl) (by simp only [resVs, omap, resV, wm, ↓wk, ↓wl, nq, evV, ↓reduceIte, sevalprocAttr]; rfl) (hand_plain (by rfl)) (by first | exact Or.inl rfl | exact Or.inr rfl)
     ·refine AW.skip ?_
      refine blkQ.norm ?_
      refine AW.rend ?_
      try simp only [wm, ↓wk, ↓wl, nq, evV, ↓reduceIte, sevalprocAttr]
      exact loopQ.next H ((Le.tz [] [0, 2, 3, 16, 17, 18] (by simp only [f123_121_124_L1c, wm, wmr, rrm, ↓wk, ↓wl, evV, ↓reduceIte, sevalprocAttr] <;> rfl)))
    ·try simp only [wm, ↓wk, ↓wl, nq, evV, ↓reduceIte, sevalprocAttr]
     refine AW.iff (by rfl) ?_
     refine AW.skip ?_
     refine blkQ.norm ?_
     refine AW.rend ?_
     try simp only [wm, ↓wk, ↓wl, nq, evV, ↓reduceIte, sevalprocAttr]
     exact loopQ.next H ((Le.tz [] [0, 2, 3, 16, 17, 18] (by simp only [f123_121_124_L1c, wm, wmr, rrm, ↓wk, ↓wl, evV, ↓reduceIte, sevalprocAttr] <;> rfl)))
  ·refine AW.exit ?_
   refine seqQ.exit ?_
   refine loopQ.exit H ?_ <;> clear H <;> intro H
   try dsimp only at H
   refine blk0.here ?_
   refine seqQ.norm ?_
   refine AW.rseq ?_
   try simp only [wm, ↓wk, ↓wl, nq, evV, ↓reduceIte, sevalprocAttr]
   refine AW.ret ?_
   cases H
   exact hQ _ _ _ _ (.inr rfl) (by simp only [resVs, omap, resV, wm, ↓wk, ↓wl, nq, evV, ↓reduceIte, sevalprocAttr]; rfl) (hand_plain (by rfl)) (by first | exact Or.inl rfl | exact Or.inr rfl)
def c82_0 : C := .seq (.reg [iI 4 (.mv (.t 0)), iI 5 (.mv (.t 3)), iI 6 (.call (.c (.fn 123 [])) [(.t 4), (.c (.int .i64 4096)), (.t 5), (.c (.fn 124 []))]), iI 2 (.mv (.t 6))]) .ret
def c82_1 : C := .seq (.reg [iI 3 (.mv (.c (.fn 121 [])))]) c82_0
def ir82 : C := .seq (.reg [iI 2 (.mv (.c (.int .i64 0)))]) c82_1
theorem fd82 : fd? Tryz.prog 82 = some (7, [.slot 2], ir82) := by kernel_rfl
noncomputable def f82 (x0 : (List ApiEntry)) : Option (Int) :=
  (f123_121_124 x0 4096).bind fun x1 => (some x1)
theorem f82_ok {x0 : (List ApiEntry)} {r_ : Int} (H : f82 x0 = some r_) : Pure Tryz.prog 82 [.sl 4 false (x0.map eApiEntry)] (· = .int .i64 r_) := by
 refine Pure.walk3 fd82 none (Nat.le_of_ble_eq_true rfl) (by rfl) fun Q hQ => ?_
 simp only [f82] at H
 refine AW.rseq ?_
 try simp only [wm, ↓wk, ↓wl, nq, evV, ↓reduceIte, sevalprocAttr]
 refine AW.rseq ?_
 try simp only [wm, ↓wk, ↓wl, nq, evV, ↓reduceIte, sevalprocAttr]
 refine AW.rseq ?_
 try simp only [wm, ↓wk, ↓wl, nq, evV, ↓reduceIte, sevalprocAttr]
 refine evTs_pure hFn H (fun _ h => f123_121_124_ok h) (by rfl) (by rfl) (by rfl) (by rfl) (fun _ => rfl) ?_ <;> clear H <;> intro x1 H
 try simp only [eL, wm, ↓wk, ↓wl, nq, evV, ↓reduceIte, sevalprocAttr]
 refine AW.ret ?_
 cases H
 exact hQ _ _ _ _ (.inr rfl) (by simp only [resVs, omap, resV, wm, ↓wk, ↓wl, nq, evV, ↓reduceIte, sevalprocAttr]; rfl) (hand_plain (by rfl)) (by first | exact Or.inl rfl | exact Or.inr rfl)
noncomputable def f39_L2 (x0 : (List ApiEntry)) (x1 : ApiValue) : Lp (Int × (List ApiEntry)) ((List ApiEntry)) where
  body := fun (x2, x3) => (if (decide (x2 < ((x0.length : Nat) : Int))) = true then (at? x3 x2).bind fun x4 => (some (.next ((IntKind.i64.wrap (x2 + 1)), (x3.set x2.toNat (ApiEntry.mk x4.fParam x1))))) else (some (.brk x3)))
  cst := fun (x2, x3) => ⟨put (put (put (put (fun _ => .junk) 37 (.int .i64 x2)) 36 (.int .i64 ((x0.length : Nat) : Int))) 6 (.row 4 1 0 x3.length)) 3 (.ptr 0 0), [.cel [.int .i64 x1.fPalette, .int .i64 x1.fLevel], .els 4 (x3.map eApiEntry)]⟩
theorem f39_L2c (x0 : (List ApiEntry)) (x1 : ApiValue) (x2 : Int) (x3 : (List ApiEntry)) : (f39_L2 x0 x1).cst (x2, x3) = ⟨put (put (put (put (fun _ => .junk) 37 (.int .i64 x2)) 36 (.int .i64 ((x0.length : Nat) : Int))) 6 (.row 4 1 0 x3.length)) 3 (.ptr 0 0), [.cel [.int .i64 x1.fPalette, .int .i64 x1.fLevel], .els 4 (x3.map eApiEntry)]⟩ := rfl
noncomputable def f39_L1 (x0 : (List ApiParam)) (x1 : ApiValue) : Lp (Int × (List ApiEntry)) ((List ApiEntry)) where
  body := fun (x2, x3) => (if (decide (x2 < ((x0.length : Nat) : Int))) = true then (at? x0 x2).bind fun x4 => (app? 32 x3 ([(ApiEntry.mk x4 (ApiValue.mk (-1) 0))])).bind fun x5 => (some (.next ((IntKind.i64.wrap (x2 + 1)), x5))) else (some (.brk x3)))
  cst := fun (x2, x3) => ⟨put (put (put (put (put (fun _ => .junk) 14 (.int .i64 x2)) 13 (.int .i64 ((x0.length : Nat) : Int))) 12 (.sl 2 false (x0.map eApiParam))) 6 (.row 4 1 0 x3.length)) 3 (.ptr 0 0), [.cel [.int .i64 x1.fPalette, .int .i64 x1.fLevel], .els 4 (x3.map eApiEntry)]⟩
theorem f39_L1c (x0 : (List ApiParam)) (x1 : ApiValue) (x2 : Int) (x3 : (List ApiEntry)) : (f39_L1 x0 x1).cst (x2, x3) = ⟨put (put (put (put (put (fun _ => .junk) 14 (.int .i64 x2)) 13 (.int .i64 ((x0.length : Nat) : Int))) 12 (.sl 2 false (x0.map eApiParam))) 6 (.row 4 1 0 x3.length)) 3 (.ptr 0 0), [.cel [.int .i64 x1.fPalette, .int .i64 x1.fLevel], .els 4 (x3.map eApiEntry)]⟩ := rfl
def c39_0 : C := .reg [iI 18 (.mv (.t 6)), iI 19 (.load 2 (.t 8)), iI 20 (.build [(1, (.int .i64 0)), (1, (.int .i64 0))] [(0, 0, (.c (.int .i64 (-1))))]), iI 21 (.build [(1, (.int .i64 0)), (1, (.int .i64 0)), (1, (.int .i64 0)), (1, (.int .i64 0))] [(0, 2, (.t 19)), (2, 2, (.t 20))]), iI 22 (.mkslp 4 1 (.agg [(.int .i64 0), (.int .i64 0), (.int .i64 0), (.int .i64 0)]) [(0, (.t 21))]), iI 23 (.append 4 32 (.t 18) (.t 22)), iI 6 (.mv (.t 23))]
def c39_1 : C := .reg [iI 24 (.bin .add (.t 14) (.c (.int .i64 1))), iI 14 (.mv (.t 24))]
def c39_2 : C := .seq (.block 1 (.seq (.reg [iI 16 (.iaddr 2 (.t 12) (.t 14)), iI 17 (.load 2 (.t 16)), iI 8 (.alloc [(1, (.int .i64 0)), (1, (.int .i64 0))]), iN (.store 2 (.t 8) (.t 17))]) c39_0)) c39_1
def c39_3 : C := .seq (.cond (.t 15) (.skip) (.exit 0)) c39_2
def c39_4 : C := .block 0 (.loop (.seq (.reg [iI 15 (.bin .lss (.t 14) (.t 13))]) c39_3))
def c39_5 : C := .cond (.t 28) (.seq (.reg [iI 29 (.mv (.t 9)), iI 4 (.mv (.c (.sl 4 true []))), iI 5 (.mv (.t 29))]) .ret) (.skip)
def c39_6 : C := .seq (.reg [iI 27 (.mv (.t 9)), iI 28 (.bin .neq (.t 27) (.c (.int .i64 0)))]) c39_5
def c39_7 : C := .cond (.t 33) (.seq (.reg [iI 34 (.mv (.t 10)), iI 4 (.mv (.c (.sl 4 true []))), iI 5 (.mv (.t 34))]) .ret) (.skip)
def c39_8 : C := .seq (.reg [iI 32 (.mv (.t 10)), iI 33 (.bin .neq (.t 32) (.c (.int .i64 0)))]) c39_7
def c39_9 : C := .reg [iI 40 (.mv (.t 6)), iI 41 (.mv (.t 11)), iI 42 (.load 2 (.t 3)), iI 43 (.iaddr 4 (.t 40) (.t 41)), iI 44 (.faddr 2 (.t 43)), iN (.store 2 (.t 44) (.t 42))]
def c39_10 : C := .reg [iI 45 (.bin .add (.t 37) (.c (.int .i64 1))), iI 37 (.mv (.t 45))]
def c39_11 : C := .seq (.block 3 (.seq (.reg [iI 39 (.mv (.t 37)), iI 11 (.mv (.t 39))]) c39_9)) c39_10
def c39_12 : C := .seq (.cond (.t 38) (.skip) (.exit 2)) c39_11
def c39_13 : C := .block 2 (.loop (.seq (.reg [iI 38 (.bin .lss (.t 37) (.t 36))]) c39_12))
def c39_14 : C := .seq (.reg [iI 46 (.mv (.t 6)), iI 4 (.mv (.t 46)), iI 5 (.mv (.c (.int .i64 0)))]) .ret
def c39_15 : C := .seq (.seq (.reg [iI 35 (.mv (.t 6)), iI 36 (.len 0 (.t 35)), iI 37 (.mv (.c (.int .i64 0)))]) c39_13) c39_14
def c39_16 : C := .seq (.seq (.reg [iI 30 (.load 2 (.t 3)), iI 31 (.call (.c (.fn 83 [])) [(.t 30)]), iI 10 (.mv (.t 31))]) c39_8) c39_15
def c39_17 : C := .seq (.seq (.reg [iI 25 (.mv (.t 6)), iI 26 (.call (.c (.fn 82 [])) [(.t 25)]), iI 9 (.mv (.t 26))]) c39_6) c39_16
def c39_18 : C := .seq (.seq (.reg [iI 12 (.mv (.t 0)), iI 13 (.len 0 (.t 12)), iI 14 (.mv (.c (.int .i64 0)))]) c39_4) c39_17
def c39_19 : C := .seq (.reg [iI 6 (.mv (.c (.sl 4 true [])))]) c39_18
def ir39 : C := .seq (.reg [iI 3 (.box (.t 1)), iI 4 (.mv (.c (.sl 4 true []))), iI 5 (.mv (.c (.int .i64 0)))]) c39_19
theorem fd39 : fd? Tryz.prog 39 = some (47, [.slot 4, .slot 5], ir39) := by kernel_rfl
noncomputable def f39 (x0 : (List ApiParam)) (x1 : ApiValue) : Option ((List ApiEntry) × Int) :=
  (Lp.run (f39_L1 x0 x1) (0, [])).bind fun x2 => (f82 x2).bind fun x3 => (if (decide (x3 ≠ 0)) = true then (some ([], x3)) else (f83 x1).bind fun x4 => (if (decide (x4 ≠ 0)) = true then (some ([], x4)) else (Lp.run (f39_L2 x2 x1) (0, x2)).bind fun x5 => (some (x5, 0))))
theorem f39_ok {x0 : (List ApiParam)} {x1 : ApiValue} {r_ : (List ApiEntry) × Int} (H : f39 x0 x1 = some r_) : Pure Tryz.prog 39 [.sl 2 false (x0.map eApiParam), .agg [.int .i64 x1.fPalette, .int .i64 x1.fLevel]] (· = .tup [.fr 4 (r_.1.map eApiEntry), .int .i64 r_.2]) := by
 refine Pure.walk3 fd39 (some 0) (Nat.le_of_ble_eq_true rfl) (by rfl) fun Q hQ => ?_
 simp only [f39] at H
 refine AW.rseq ?_
 try simp only [wm, ↓wk, ↓wl, nqs, evV, ↓reduceIte, sevalprocAttr]
 refine AW.rseq ?_
 try simp only [wm, ↓wk, ↓wl, nqs, evV, ↓reduceIte, sevalprocAttr]
 refine AW.sseq ?_
 refine AW.rseq ?_
 try simp only [wm, ↓wk, ↓wl, nqs, evV, ↓reduceIte, sevalprocAttr]
 refine AW.bend ?_
 refine AW.iter H ((Le.trans (Le.nilRow (i := 6) (e := 4) (by simp only [↓wk, ↓wl, nq, evV, ↓reduceIte, sevalprocAttr])) (Le.tz [0, 1] [3, 6, 12, 13, 14] (by simp only [f39_L1c, wm, wmr, rrm, ↓wk, ↓wl, evV, ↓reduceIte, sevalprocAttr] <;> rfl)))) ?_ <;> clear H
 rintro ⟨x2, x3⟩ x_ st0_ H hst_
 rw [f39_L1c] at hst_
 simp only [f39_L1] at H
 subst hst_
 refine AW.rseq ?_
 try simp only [wm, ↓wk, ↓wl, nqs, evV, ↓reduceIte, sevalprocAttr]
 refine AW.sseq ?_
 refine AW.ifc H (by rfl) ?_ ?_ <;> clear H <;> intro H
 ·refine AW.skip ?_
  refine seqQ.norm ?_
  refine AW.bseq ?_
  refine AW.rseq ?_
  try simp only [wm, ↓wk, ↓wl, nqs, evV, ↓reduceIte, sevalprocAttr]
  refine evTs_at (enc := eApiParam) H (by rfl) (by rfl) ?_ <;> clear H <;> intro x4 H
  try simp only [eApiParam, eL, eM, wm, ↓wk, ↓wl, nqs, evV, ↓reduceIte, sevalprocAttr]
  refine evTs_st (by simp only [wm, ↓wk, ↓wl, nqs, evV, ↓reduceIte, sevalprocAttr, Nat.reduceLeDiff]; rfl) ?_
  try simp only [wm, ↓wk, ↓wl, nqs, evV, ↓reduceIte, sevalprocAttr]
  refine AW.rend ?_
  try simp only [wm, ↓wk, ↓wl, nqs, evV, ↓reduceIte, sevalprocAttr]
  refine evTs_app (enc := eApiEntry) H (by rfl) (by first | rfl | simp only [List.length_set]) (by rfl) (by rfl) ?_ <;> clear H <;> intro x5 H
  try simp only [wm, ↓wk, ↓wl, nqs, evV, ↓reduceIte, sevalprocAttr]
  refine blkQ.norm ?_
  refine AW.rend ?_
  try simp only [wm, ↓wk, ↓wl, nqs, evV, ↓reduceIte, sevalprocAttr]
  exact loopQ.next H ((Le.tz [0, 3] [3, 6, 12, 13, 14] (by simp only [f39_L1c, wm, wmr, rrm, ↓wk, ↓wl, evV, ↓reduceIte, sevalprocAttr] <;> rfl)))
 ·refine AW.exit ?_
  refine seqQ.exit ?_
  refine loopQ.exit H ?_ <;> clear H <;> intro H
  try dsimp only at H
  refine blk0.here ?_
  refine seqQ.norm ?_
  refine AW.sseq ?_
  refine AW.rseq ?_
  try simp only [wm, ↓wk, ↓wl, nqs, evV, ↓reduceIte, sevalprocAttr]
  refine evTs_flat hFn H (fun _ h => f82_ok h) (by rfl) (by rfl) (by simp only [deep_eq, imm_simps, imm_rowE, imm_ptrE, imm_enc, imm_mrefE, imm_mpE, imm_arowE, omap_simps, take_map_len, take_map_set, take_map_set2, List.length_set, le_refl_true, Nat.zero_add, and_true, true_and, List.drop_zero, Option.map_some, wm, ↓wk, ↓wl, nqs, evV, ↓reduceIte, sevalprocAttr]; rfl) (by rfl) (fun _ => rfl) (fun _ => rfl) ?_ <;> clear H <;> intro x6 H
  try simp only [eL, wm, ↓wk, ↓wl, nqs, evV, ↓reduceIte, sevalprocAttr]
  refine AW.rseq ?_
  try simp only [wm, ↓wk, ↓wl, nqs, evV, ↓reduceIte, sevalprocAttr]
  refine AW.ifc H (by rfl) ?_ ?_ <;> clear H <;> intro H
  ·refine AW.rseq ?_
   try simp only [wm, ↓wk, ↓wl, nqs, evV, ↓reduceIte, sevalprocAttr]
   refine AW.ret ?_
   refine seqQ.ret ?_
   cases H
   exact hQ _ _ _ _ (.inr rfl) (by simp only [resVs, omap, resV, wm, ↓wk, ↓wl, nqs, evV, ↓reduceIte, sevalprocAttr]; rfl) (hand_k0 (by rfl) (by rfl)) (by first | exact Or.inl rfl | exact Or.inr rfl)
  ·refine AW.skip ?_
   refine seqQ.norm ?_
   refine AW.sseq ?_
   refine AW.rseq ?_
   try simp only [wm, ↓wk, ↓wl, nqs, evV, ↓reduceIte, sevalprocAttr]
   refine evTs_pure hFn H (fun _ h => f83_ok h) (by rfl) (by rfl) (by rfl) (by rfl) (fun _ => rfl) ?_ <;> clear H <;> intro x7 H
   try simp only [eL, wm, ↓wk, ↓wl, nqs, evV, ↓reduceIte, sevalprocAttr]
   refine AW.rseq ?_
   try simp only [wm, ↓wk, ↓wl, nqs, evV, ↓reduceIte, sevalprocAttr]
   refine AW.ifc H (by rfl) ?_ ?_ <;> clear H <;> intro H
   ·refine AW.rseq ?_
    try simp only [wm, ↓wk, ↓wl, nqs, evV, ↓reduceIte, sevalprocAttr]
    refine AW.ret ?_
    refine seqQ.ret ?_
    cases H
    exact hQ _ _ _ _ (.inr rfl) (by simp only [resVs, omap, resV, wm, ↓wk, ↓wl, nqs, evV, ↓reduceIte, sevalprocAttr]; rfl) (hand_k0 (by rfl) (by rfl)) (by first | exact Or.inl rfl | exact Or.inr rfl)
   ·refine AW.skip ?_
    refine seqQ.norm ?_
    refine AW.sseq ?_
    refine AW.rseq ?_
    try simp only [wm, ↓wk, ↓wl, nqs, evV, ↓reduceIte, sevalprocAttr]
    refine AW.bend ?_
    refine AW.iter H ((Le.tz [0, 1] [3, 6, 36, 37] (by simp only [f39_L2c, wm, wmr, rrm, ↓wk, ↓wl, evV, ↓reduceIte, sevalprocAttr] <;> rfl))) ?_ <;> clear H
    rintro ⟨x8, x9⟩ x_ st0_ H hst_
    rw [f39_L2c] at hst_
    simp only [f39_L2] at H
    subst hst_
    refine AW.rseq ?_
    try simp only [wm, ↓wk, ↓wl, nqs, evV, ↓reduceIte, sevalprocAttr]
    refine AW.sseq ?_
    refine AW.ifc H (by rfl) ?_ ?_ <;> clear H <;> intro H
    ·refine AW.skip ?_
     refine seqQ.norm ?_
     refine AW.bseq ?_
     refine AW.rseq ?_
     try simp only [wm, ↓wk, ↓wl, nqs, evV, ↓reduceIte, sevalprocAttr]
     refine AW.rend ?_
     try simp only [wm, ↓wk, ↓wl, nqs, evV, ↓reduceIte, sevalprocAttr]
     refine evTs_atr (enc := eApiEntry) H (by rfl) (by first | rfl | simp only [List.length_set]) (by rfl) ?_ <;> clear H <;> intro xa xb H
     try simp only [eApiEntry, eL, eM, wm, ↓wk, ↓wl, nqs, evV, ↓reduceIte, sevalprocAttr, xb, eApiEntry, eL, eM]
     refine evTs_stE (enc := eApiEntry) xa (ApiEntry.mk xa.fParam x1) (by rfl) (by rfl) xb (by rfl) ?_
     have xc := set_get xb (ApiEntry.mk xa.fParam x1)
     try simp only [eApiEntry, eL, eM, wm, ↓wk, ↓wl, nqs, evV, ↓reduceIte, sevalprocAttr, xb, eApiEntry, eL, eM, xc]
     refine blkQ.norm ?_
     refine AW.rend ?_
     try simp only [wm, ↓wk, ↓wl, nqs, evV, ↓reduceIte, sevalprocAttr, xb, eApiEntry, eL, eM, xc]
     exact loopQ.next H ((Le.tz [0, 1] [3, 6, 36, 37] (by simp only [f39_L2c, wm, wmr, rrm, ↓wk, ↓wl, evV, ↓reduceIte, sevalprocAttr, xb, eApiEntry, eL, eM, xc] <;> rfl)))
    ·refine AW.exit ?_
     refine seqQ.exit ?_
     refine loopQ.exit H ?_ <;> clear H <;> intro H
     try dsimp only at H
     refine blk0.here ?_
     refine seqQ.norm ?_
     refine AW.rseq ?_
     try simp only [wm, ↓wk, ↓wl, nqs, evV, ↓reduceIte, sevalprocAttr]
     refine AW.ret ?_
     cases H
     exact hQ _ _ _ _ (.inr rfl) (by simp only [resVs, omap, resV, wm, ↓wk, ↓wl, nqs, evV, ↓reduceIte, sevalprocAttr]; rfl) (hand_k (by rfl) (by rfl) (by simp) (enc_all _) (by rfl)) (by first | exact Or.inl rfl | exact Or.inr rfl)
theorem f39_im {x0 : (List ApiParam)} {x1 : ApiValue} {r_ : (List ApiEntry) × Int} (H : f39 x0 x1 = some r_) : Pure Tryz.prog 39 [.sl 2 false (x0.map eApiParam), .agg [.int .i64 x1.fPalette, .int .i64 x1.fLevel]] (· = .tup [.sl 4 false (r_.1.map eApiEntry), .int .i64 r_.2]) := (f39_ok H).unfr (by first | exact enc_fits _ | simp only [frFits, List.all_cons, List.all_nil, enc_fits, Bool.and_self])
def c84_0 : C := .cond (.t 20) (.seq (.reg [iI 2 (.mv (.c (.int .i64 2)))]) .ret) (.skip)
def c84_1 : C := .seq (.reg [iI 2 (.mv (.c (.int .i64 0)))]) .ret
def c84_2 : C := .seq (.seq (.reg [iI 3 (.faddr 0 (.t 1)), iI 4 (.load 0 (.t 3)), iI 5 (.bin .lss (.t 4) (.c (.int .i64 1))), iI 6 (.mv (.t 5)), iG (some 7) 6 false (.faddr 0 (.t 1)), iG (some 8) 6 false (.load 0 (.t 7)), iG (some 9) 6 false (.bin .gtr (.t 8) (.c (.int .i64 999))), iI 10 (.pick (.t 6) (.c (.bool true)) (.t 9)), iI 11 (.mv (.t 10)), iG (some 12) 11 false (.faddr 1 (.t 1)), iG (some 13) 11 false (.load 0 (.t 12)), iG (some 14) 11 false (.bin .lss (.t 13) (.c (.int .i64 0))), iI 15 (.pick (.t 11) (.c (.bool true)) (.t 14)), iI 16 (.mv (.t 15)), iG (some 17) 16 false (.faddr 1 (.t 1)), iG (some 18) 16 false (.load 0 (.t 17)), iG (some 19) 16 false (.bin .geq (.t 18) (.c (.int .i64 15))), iI 20 (.pick (.t 16) (.c (.bool true)) (.t 19))]) c84_0) c84_1
def ir84 : C := .seq (.reg [iI 1 (.box (.t 0)), iI 2 (.mv (.c (.int .i64 0)))]) c84_2
theorem fd84 : fd? Tryz.prog 84 = some (21, [.slot 2], ir84) := by kernel_rfl
noncomputable def f84 (x0 : ApiParam) : Option (Int) :=
  (if (decide (x0.fChannel < 1)) = true then (some 2) else (if (decide (999 < x0.fChannel)) = true then (some 2) else (if (decide (x0.fAttr < 0)) = true then (some 2) else (if (decide (15 ≤ x0.fAttr)) = true then (some 2) else (some 0)))))
theorem f84_ok {x0 : ApiParam} {r_ : Int} (H : f84 x0 = some r_) : Pure Tryz.prog 84 [.agg [.int .i64 x0.fChannel, .int .i64 x0.fAttr]] (· = .int .i64 r_) := by
 refine Pure.walk3 fd84 none (Nat.le_of_ble_eq_true rfl) (by rfl) fun Q hQ => ?_
 simp only [f84] at H
 refine AW.rseq ?_
 try simp only [wm, ↓wk, ↓wl, nq, evV, ↓reduceIte, sevalprocAttr]
 refine AW.sseq ?_
 refine AW.rseq ?_
 try simp only [wm, ↓wk, ↓wl, nq, evV, ↓reduceIte, sevalprocAttr]
 refine evTs_ifg H (by rfl) ?_ ?_ <;> clear H <;> intro H
 ·try simp only [wm, ↓wk, ↓wl, nq, evV, ↓reduceIte, sevalprocAttr]
  refine AW.ift (by rfl) ?_
  refine AW.rseq ?_
  try simp only [wm, ↓wk, ↓wl, nq, evV, ↓reduceIte, sevalprocAttr]
  refine AW.ret ?_
  refine seqQ.ret ?_
  cases H
  exact hQ _ _ _ _ (.inr rfl) (by simp only [resVs, omap, resV, wm, ↓wk, ↓wl, nq, evV, ↓reduceIte, sevalprocAttr]; rfl) (hand_plain (by rfl)) (by first | exact Or.inl rfl | exact Or.inr rfl)
 ·try simp only [wm, ↓wk, ↓wl, nq, evV, ↓reduceIte, sevalprocAttr]
  refine evTs_ifg H (by rfl) ?_ ?_ <;> clear H <;> intro H
  ·try simp only [wm, ↓wk, ↓wl, nq, evV, ↓reduceIte, sevalprocAttr]
   refine AW.ift (by rfl) ?_
   refine AW.rseq ?_
   try simp only [wm, ↓wk, ↓wl, nq, evV, ↓reduceIte, sevalprocAttr]
   refine AW.ret ?_
   refine seqQ.ret ?_
   cases H
   exact hQ _ _ _ _ (.inr rfl) (by simp only [resVs, omap, resV, wm, ↓wk, ↓wl, nq, evV, ↓reduceIte, sevalprocAttr]; rfl) (hand_plain (by rfl)) (by first | exact Or.inl rfl | exact Or.inr rfl)
  ·try simp only [wm, ↓wk, ↓wl, nq, evV, ↓reduceIte, sevalprocAttr]
   refine evTs_ifg H (by rfl) ?_ ?_ <;> clear H <;> intro H
   ·try simp only [wm, ↓wk, ↓wl, nq, evV, ↓reduceIte, sevalprocAttr]
    refine AW.ift (by rfl) ?_
    refine AW.rseq ?_
    try simp only [wm, ↓wk, ↓wl, nq, evV, ↓reduceIte, sevalprocAttr]
    refine AW.ret ?_
    refine seqQ.ret ?_
    cases H
    exact hQ _ _ _ _ (.inr rfl) (by simp only [resVs, omap, resV, wm, ↓wk, ↓wl, nq, evV, ↓reduceIte, sevalprocAttr]; rfl) (hand_plain (by rfl)) (by first | exact Or.inl rfl | exact Or.inr rfl)
   ·try simp only [wm, ↓wk, ↓wl, nq, evV, ↓reduceIte, sevalprocAttr]
    refine AW.ifc H (by rfl) ?_ ?_ <;> clear H <;> intro H
    ·refine AW.rseq ?_
     try simp only [wm, ↓wk, ↓wl, nq, evV, ↓reduceIte, sevalprocAttr]
     refine AW.ret ?_
     refine seqQ.ret ?_
     cases H
     exact hQ _ _ _ _ (.inr rfl) (by simp only [resVs, omap, resV, wm, ↓wk, ↓wl, nq, evV, ↓reduceIte, sevalprocAttr]; rfl) (hand_plain (by rfl)) (by first | exact Or.inl rfl | exact Or.inr rfl)
    ·refine AW.skip ?_
     refine seqQ.norm ?_
     refine AW.rseq ?_
     try simp only [wm, ↓wk, ↓wl, nq, evV, ↓reduceIte, sevalprocAttr]
     refine AW.ret ?_
     cases H
     exact hQ _ _ _ _ (.inr rfl) (by simp only [resVs, omap, resV, wm, ↓wk, ↓wl, nq, evV, ↓reduceIte, sevalprocAttr]; rfl) (hand_plain (by rfl)) (by first | exact Or.inl rfl | exact Or.inr rfl)
def c85_0 : C := .seq (.reg [iI 5 (.faddr 0 (.t 2)), iI 6 (.load 0 (.t 5)), iI 7 (.faddr 0 (.t 3)), iI 8 (.load 0 (.t 7)), iI 9 (.bin .lss (.t 6) (.t 8)), iI 10 (.mv (.t 9)), iG (some 11) 10 false (.faddr 0 (.t 2)), iG (some 12) 10 false (.load 0 (.t 11)), iG (some 13) 10 false (.faddr 0 (.t 3)), iG (some 14) 10 false (.load 0 (.t 13)), iG (some 15) 10 false (.bin .eql (.t 12) (.t 14)), iG (some 16) 10 false (.mv (.t 15)), iG (some 17) 16 true (.faddr 1 (.t 2)), iG (some 18) 16 true (.load 0 (.t 17)), iG (some 19) 16 true (.faddr 1 (.t 3)), iG (some 20) 16 true (.load 0 (.t 19)), iG (some 21) 16 true (.bin .lss (.t 18) (.t 20)), iG (some 22) 10 false (.pick (.t 16) (.t 21) (.c (.bool false))), iI 23 (.pick (.t 10) (.c (.bool true)) (.t 22)), iI 4 (.mv (.t 23))]) .ret
def ir85 : C := .seq (.reg [iI 2 (.box (.t 0)), iI 3 (.box (.t 1)), iI 4 (.mv (.c (.bool false)))]) c85_0
theorem fd85 : fd? Tryz.prog 85 = some (24, [.slot 4], ir85) := by kernel_rfl
noncomputable def f85 (x0 : ApiParam) (x1 : ApiParam) : Option (Bool) :=
  (if (decide (x0.fChannel < x1.fChannel)) = true then (some true) else (if (decide (x0.fChannel = x1.fChannel)) = true then (some (decide (x0.fAttr < x1.fAttr))) else (some false)))
theorem f85_ok {x0 : ApiParam} {x1 : ApiParam} {r_ : Bool} (H : f85 x0 x1 = some r_) : Pure Tryz.prog 85 [.agg [.int .i64 x0.fChannel, .int .i64 x0.fAttr], .agg [.int .i64 x1.fChannel, .int .i64 x1.fAttr]] (· = .bool r_) := by
 refine Pure.walk3 fd85 none (Nat.le_of_ble_eq_true rfl) (by rfl) fun Q hQ => ?_
 simp only [f85] at H
 refine AW.rseq ?_
 try simp only [wm, ↓wk, ↓wl, nq, evV, ↓reduceIte, sevalprocAttr]
 refine AW.rseq ?_
 try simp only [wm, ↓wk, ↓wl, nq, evV, ↓reduceIte, sevalprocAttr]
 refine evTs_ifg H (by rfl) ?_ ?_ <;> clear H <;> intro H
 ·try simp only [wm, ↓wk, ↓wl, nq, evV, ↓reduceIte, sevalprocAttr]
  refine AW.ret ?_
  cases H
  exact hQ _ _ _ _ (.inr rfl) (by simp only [resVs, omap, resV, wm, ↓wk, ↓wl, nq, evV, ↓reduceIte, sevalprocAttr]; rfl) (hand_plain (by rfl)) (by first | exact Or.inl rfl | exact Or.inr rfl)
 ·try simp only [wm, ↓wk, ↓wl, nq, evV, ↓reduceIte, sevalprocAttr]
  refine evTs_ifg H (by rfl) ?_ ?_ <;> clear H <;> intro H
  ·try simp only [wm, ↓wk, ↓wl, nq, evV, ↓reduceIte, sevalprocAttr]
   refine AW.ret ?_
   cases H
   exact hQ _ _ _ _ (.inr rfl) (by simp only [resVs, omap, resV, wm, ↓wk, ↓wl, nq, evV, ↓reduceIte, sevalprocAttr]; rfl) (hand_plain (by rfl)) (by first | exact Or.inl rfl | exact Or.inr rfl)
  ·try simp only [wm, ↓wk, ↓wl, nq, evV, ↓reduceIte, sevalprocAttr]
   refine AW.ret ?_
   cases H
   exact hQ _ _ _ _ (.inr rfl) (by simp only [resVs, omap, resV, wm, ↓wk, ↓wl, nq, evV, ↓reduceIte, sevalprocAttr]; rfl) (hand_plain (by rfl)) (by first | exact Or.inl rfl | exact Or.inr rfl)
def c127_0 : C := .seq (.reg [iI 3 (.mv (.t 0)), iI 4 (.bin .geq (.t 3) (.c (.int .i64 0))), iI 5 (.mv (.t 4)), iG (some 6) 5 true (.mv (.t 0)), iG (some 7) 5 true (.bin .leq (.t 6) (.c (.int .i64 65535))), iI 8 (.pick (.t 5) (.t 7) (.c (.bool false))), iI 2 (.mv (.t 8))]) .ret
def ir127 : C := .seq (.reg [iI 2 (.mv (.c (.bool false)))]) c127_0
theorem fd127 : fd? Tryz.prog 127 = some (9, [.slot 2], ir127) := by kernel_rfl
noncomputable def f127 (x0 : Int) : Option (Bool) :=
  (if (decide (0 ≤ x0)) = true then (some (decide (x0 ≤ 65535))) else (some false))
theorem f127_ok {x0 : Int} {r_ : Bool} (H : f127 x0 = some r_) : Pure Tryz.prog 127 [.int .i64 x0] (· = .bool r_) := by
 refine Pure.walk3 fd127 none (Nat.le_of_ble_eq_true rfl) (by rfl) fun Q hQ => ?_
 simp only [f127] at H
 refine AW.rseq ?_
 try simp only [wm, ↓wk, ↓wl, nq, evV, ↓reduceIte, sevalprocAttr]
 refine AW.rseq ?_
 try simp only [wm, ↓wk, ↓wl, nq, evV, ↓reduceIte, sevalprocAttr]
 refine evTs_ifg H (by rfl) ?_ ?_ <;> clear H <;> intro H
 ·try simp only [wm, ↓wk, ↓wl, nq, evV, ↓reduceIte, sevalprocAttr]
  refine AW.ret ?_
  cases H
  exact hQ _ _ _ _ (.inr rfl) (by simp only [resVs, omap, resV, wm, ↓wk, ↓wl, nq, evV, ↓reduceIte, sevalprocAttr]; rfl) (hand_plain (by rfl)) (by first | exact Or.inl rfl | exact Or.inr rfl)
 ·try simp only [wm, ↓wk, ↓wl, nq, evV, ↓reduceIte, sevalprocAttr]
  refine AW.ret ?_
  cases H
  exact hQ _ _ _ _ (.inr rfl) (by simp only [resVs, omap, resV, wm, ↓wk, ↓wl, nq, evV, ↓reduceIte, sevalprocAttr]; rfl) (hand_plain (by rfl)) (by first | exact Or.inl rfl | exact Or.inr rfl)
def c86_0 : C := .cond (.t 30) (.seq (.reg [iI 2 (.mv (.c (.int .i64 0)))]) .ret) (.skip)
def c86_1 : C := .seq (.reg [iI 2 (.mv (.c (.int .i64 2)))]) .ret
def c86_2 : C := .seq (.seq (.reg [iI 3 (.faddr 0 (.t 1)), iI 4 (.load 0 (.t 3)), iI 5 (.bin .eql (.t 4) (.c (.int .i64 0))), iI 6 (.mv (.t 5)), iG (some 7) 6 true (.faddr 1 (.t 1)), iG (some 8) 6 true (.load 0 (.t 7)), iG (some 9) 6 true (.call (.c (.fn 127 [])) [(.t 8)]), iI 10 (.pick (.t 6) (.t 9) (.c (.bool false))), iI 11 (.mv (.t 10)), iG (some 12) 11 false (.faddr 0 (.t 1)), iG (some 13) 11 false (.load 0 (.t 12)), iG (some 14) 11 false (.bin .geq (.t 13) (.c (.int .i64 (-1)))), iG (some 15) 11 false (.mv (.t 14)), iG (some 16) 15 true (.faddr 0 (.t 1)), iG (some 17) 15 true (.load 0 (.t 16)), iG (some 18) 15 true (.bin .leq (.t 17) (.c (.int .i64 1048576))), iG (some 19) 11 false (.pick (.t 15) (.t 18) (.c (.bool false))), iG (some 20) 11 false (.mv (.t 19)), iG (some 21) 20 true (.faddr 0 (.t 1)), iG (some 22) 20 true (.load 0 (.t 21)), iG (some 23) 20 true (.bin .neq (.t 22) (.c (.int .i64 0))), iG (some 24) 11 false (.pick (.t 20) (.t 23) (.c (.bool false))), iG (some 25) 11 false (.mv (.t 24)), iG (some 26) 25 true (.faddr 1 (.t 1)), iG (some 27) 25 true (.load 0 (.t 26)), iG (some 28) 25 true (.bin .eql (.t 27) (.c (.int .i64 0))), iG (some 29) 11 false (.pick (.t 25) (.t 28) (.c (.bool false))), iI 30 (.pick (.t 11) (.c (.bool true)) (.t 29))]) c86_0) c86_1
def ir86 : C := .seq (.reg [iI 1 (.box (.t 0)), iI 2 (.mv (.c (.int .i64 0)))]) c86_2
theorem fd86 : fd? Tryz.prog 86 = some (31, [.slot 2], ir86) := by kernel_rfl
noncomputable def f86 (x0 : ApiValue) : Option (Int) :=
  (if (decide (x0.fPalette = 0)) = true then (f127 x0.fLevel).bind fun x1 => (if x1 = true then (some 0) else (if (decide ((-1) ≤ x0.fPalette)) = true then (if (decide (x0.fPalette ≤ 1048576)) = true then (if (decide (x0.fPalette ≠ 0)) = true then (if (decide (x0.fLevel = 0)) = true then (some 0) else (some 2)) else (some 2)) else (some 2)) else (some 2))) else (if (decide ((-1) ≤ x0.fPalette)) = true then (if (decide (x0.fPalette ≤ 1048576)) = true then (if (decide (x0.fPalette ≠ 0)) = true then (if (decide (x0.fLevel = 0)) = true then (some 0) else (some 2)) else (some 2)) else (some 2)) else (some 2)))
theorem f86_ok {x0 : ApiValue} {r_ : Int} (H : f86 x0 = some r_) : Pure Tryz.prog 86 [.agg [.int .i64 x0.fPalette, .int .i64 x0.fLevel]] (· = .int .i64 r_) := by
 refine Pure.walk3 fd86 none (Nat.le_of_ble_eq_true rfl) (by rfl) fun Q hQ => ?_
 simp only [f86] at H
 refine AW.rseq ?_
 try simp only [wm, ↓wk, ↓wl, nq, evV, ↓reduceIte, sevalprocAttr]
 refine AW.sseq ?_
 refine AW.rseq ?_
 try simp only [wm, ↓wk, ↓wl, nq, evV, ↓reduceIte, sevalprocAttr]
 refine evTs_ifg H (by rfl) ?_ ?_ <;> clear H <;> intro H
 ·try simp only [wm, ↓wk, ↓wl, nq, evV, ↓reduceIte, sevalprocAttr]
  refine evTs_pure hFn H (fun _ h => f127_ok h) (by rfl) (by rfl) (by rfl) (by rfl) (fun _ => rfl) ?_ <;> clear H <;> intro x1 H
  try simp only [eL, wm, ↓wk, ↓wl, nq, evV, ↓reduceIte, sevalprocAttr]
  refine evTs_ifg H (by rfl) ?_ ?_ <;> clear H <;> intro H
  ·try simp only [wm, ↓wk, ↓wl, nq, evV, ↓reduceIte, sevalprocAttr]
   refine AW.ift (by rfl) ?_
   refine AW.rseq ?_
   try simp only [wm, ↓wk, ↓wl, nq, evV, ↓reduceIte, sevalprocAttr]
   refine AW.ret ?_
   refine seqQ.ret ?_
   cases H
   exact hQ _ _ _ _ (.inr rfl) (by simp only [resVs, omap, resV, wm, ↓wk, ↓wl, nq, evV, ↓reduceIte, sevalprocAttr]; rfl) (hand_plain (by rfl)) (by first | exact Or.inl rfl | exact Or.inr rfl)
  ·try simp only [wm, ↓wk, ↓wl, nq, evV, ↓reduceIte, sevalprocAttr]
   refine evTs_ifg H (by rfl) ?_ ?_ <;> clear H <;> intro H
   ·try simp only [wm, ↓wk, ↓wl, nq, evV, ↓reduceIte, sevalprocAttr]
    refine evTs_ifg H (by rfl) ?_ ?_ <;> clear H <;> intro H
    ·try simp only [wm, ↓wk, ↓wl, nq, evV, ↓reduceIte, sevalprocAttr]
     refine evTs_ifg H (by rfl) ?_ ?_ <;> clear H <;> intro H
     ·try simp only [wm, ↓wk, ↓wl, nq, evV, ↓reduceIte, sevalprocAttr]
      refine AW.ifc H (by rfl) ?_ ?_ <;> clear H <;> intro H
      ·refine AW.rseq ?_
       try simp only [wm, ↓wk, ↓wl, nq, evV, ↓reduceIte, sevalprocAttr]
       refine AW.ret ?_
       refine seqQ.ret ?_
       cases H
       exact hQ _ _ _ _ (.inr rfl) (by simp only [resVs, omap, resV, wm, ↓wk, ↓wl, nq, evV, ↓reduceIte, sevalprocAttr]; rfl) (hand_plain (by rfl)) (by first | exact Or.inl rfl | exact Or.inr rfl)
      ·refine AW.skip ?_
       refine seqQ.norm ?_
       refine AW.rseq ?_
       try simp only [wm, ↓wk, ↓wl, nq, evV, ↓reduceIte, sevalprocAttr]
       refine AW.ret ?_
       cases H
       exact hQ _ _ _ _ (.inr rfl) (by simp only [resVs, omap, resV, wm, ↓wk, ↓wl, nq, evV, ↓reduceIte, sevalprocAttr]; rfl) (hand_plain (by rfl)) (by first | exact Or.inl rfl | exact Or.inr rfl)
     ·try simp only [wm, ↓wk, ↓wl, nq, evV, ↓reduceIte, sevalprocAttr]
      refine AW.iff (by rfl) ?_
      refine AW.skip ?_
      refine seqQ.norm ?_
      refine AW.rseq ?_
      try simp only [wm, ↓wk, ↓wl, nq, evV, ↓reduceIte, sevalprocAttr]
      refine AW.ret ?_
      cases H
      exact hQ _ _ _ _ (.inr rfl) (by simp only [resVs, omap, resV, wm, ↓wk, ↓wl, nq, evV, ↓reduceIte, sevalprocAttr]; rfl) (hand_plain (by rfl)) (by first | exact Or.inl rfl | exact Or.inr rfl)
    ·try simp only [wm, ↓wk, ↓wl, nq, evV, ↓reduceIte, sevalprocAttr]
     refine AW.iff (by rfl) ?_
     refine AW.skip ?_
     refine seqQ.norm ?_
     refine AW.rseq ?_
     try simp only [wm, ↓wk, ↓wl, nq, evV, ↓reduceIte, sevalprocAttr]
     refine AW.ret ?_
     cases H
     exact hQ _ _ _ _ (.inr rfl) (by simp only [resVs, omap, resV, wm, ↓wk, ↓wl, nq, evV, ↓reduceIte, sevalprocAttr]; rfl) (hand_plain (by rfl)) (by first | exact Or.inl rfl | exact Or.inr rfl)
   ·try simp only [wm, ↓wk, ↓wl, nq, evV, ↓reduceIte, sevalprocAttr]
    refine AW.iff (by rfl) ?_
    refine AW.skip ?_
    refine seqQ.norm ?_
    refine AW.rseq ?_
    try simp only [wm, ↓wk, ↓wl, nq, evV, ↓reduceIte, sevalprocAttr]
    refine AW.ret ?_
    cases H
    exact hQ _ _ _ _ (.inr rfl) (by simp only [resVs, omap, resV, wm, ↓wk, ↓wl, nq, evV, ↓reduceIte, sevalprocAttr]; rfl) (hand_plain (by rfl)) (by first | exact Or.inl rfl | exact Or.inr rfl)
 ·try simp only [wm, ↓wk, ↓wl, nq, evV, ↓reduceIte, sevalprocAttr]
  refine evTs_ifg H (by rfl) ?_ ?_ <;> clear H <;> intro H
  ·try simp only [wm, ↓wk, ↓wl, nq, evV, ↓reduceIte, sevalprocAttr]
   refine evTs_ifg H (by rfl) ?_ ?_ <;> clear H <;> intro H
   ·try simp only [wm, ↓wk, ↓wl, nq, evV, ↓reduceIte, sevalprocAttr]
    refine evTs_ifg H (by rfl) ?_ ?_ <;> clear H <;> intro H
    ·try simp only [wm, ↓wk, ↓wl, nq, evV, ↓reduceIte, sevalprocAttr]
     refine AW.ifc H (by rfl) ?_ ?_ <;> clear H <;> intro H
     ·refine AW.rseq ?_
      try simp only [wm, ↓wk, ↓wl, nq, evV, ↓reduceIte, sevalprocAttr]
      refine AW.ret ?_
      refine seqQ.ret ?_
      cases H
      exact hQ _ _ _ _ (.inr rfl) (by simp only [resVs, omap, resV, wm, ↓wk, ↓wl, nq, evV, ↓reduceIte, sevalprocAttr]; rfl) (hand_plain (by rfl)) (by first | exact Or.inl rfl | exact Or.inr rfl)
     ·refine AW.skip ?_
      refine seqQ.norm ?_
      refine AW.rseq ?_
      try simp only [wm, ↓wk, ↓wl, nq, evV, ↓reduceIte, sevalprocAttr]
      refine AW.ret ?_
      cases H
      exact hQ _ _ _ _ (.inr rfl) (by simp only [resVs, omap, resV, wm, ↓wk, ↓wl, nq, evV, ↓reduceIte, sevalprocAttr]; rfl) (hand_plain (by rfl)) (by first | exact Or.inl rfl | exact Or.inr rfl)
    ·try simp only [wm, ↓wk, ↓wl, nq, evV, ↓reduceIte, sevalprocAttr]
     refine AW.iff (by rfl) ?_
     refine AW.skip ?_
     refine seqQ.norm ?_
     refine AW.rseq ?_
     try simp only [wm, ↓wk, ↓wl, nq, evV, ↓reduceIte, sevalprocAttr]
     refine AW.ret ?_
     cases H
     exact hQ _ _ _ _ (.inr rfl) (by simp only [resVs, omap, resV, wm, ↓wk, ↓wl, nq, evV, ↓reduceIte, sevalprocAttr]; rfl) (hand_plain (by rfl)) (by first | exact Or.inl rfl | exact Or.inr rfl)
   ·try simp only [wm, ↓wk, ↓wl, nq, evV, ↓reduceIte, sevalprocAttr]
    refine AW.iff (by rfl) ?_
    refine AW.skip ?_
    refine seqQ.norm ?_
    refine AW.rseq ?_
    try simp only [wm, ↓wk, ↓wl, nq, evV, ↓reduceIte, sevalprocAttr]
    refine AW.ret ?_
    cases H
    exact hQ _ _ _ _ (.inr rfl) (by simp only [resVs, omap, resV, wm, ↓wk, ↓wl, nq, evV, ↓reduceIte, sevalprocAttr]; rfl) (hand_plain (by rfl)) (by first | exact Or.inl rfl | exact Or.inr rfl)
  ·try simp only [wm, ↓wk, ↓wl, nq, evV, ↓reduceIte, sevalprocAttr]
   refine AW.iff (by rfl) ?_
   refine AW.skip ?_
   refine seqQ.norm ?_
   refine AW.rseq ?_
   try simp only [wm, ↓wk, ↓wl, nq, evV, ↓reduceIte, sevalprocAttr]
   refine AW.ret ?_
   cases H
   exact hQ _ _ _ _ (.inr rfl) (by simp only [resVs, omap, resV, wm, ↓wk, ↓wl, nq, evV, ↓reduceIte, sevalprocAttr]; rfl) (hand_plain (by rfl)) (by first | exact Or.inl rfl | exact Or.inr rfl)
noncomputable def f87_L1 (x0 : (List ApiParam)) (x1 : ApiValue) : Lp (Int × (List ApiEntry)) ((List ApiEntry)) where
  body := fun (x2, x3) => (if (decide (x2 < ((x0.length : Nat) : Int))) = true then (at? x0 x2).bind fun x4 => (app? 32 x3 ([(ApiEntry.mk x4 x1)])).bind fun x5 => (some (.next ((IntKind.i64.wrap (x2 + 1)), x5))) else (some (.brk x3)))
  cst := fun (x2, x3) => ⟨put (put (put (put (fun _ => .junk) 6 (.int .i64 x2)) 5 (.row 4 1 0 x3.length)) 3 (.ptr 0 0)) 0 (.sl 2 false (x0.map eApiParam)), [.cel [.int .i64 x1.fPalette, .int .i64 x1.fLevel], .els 4 (x3.map eApiEntry)]⟩
theorem f87_L1c (x0 : (List ApiParam)) (x1 : ApiValue) (x2 : Int) (x3 : (List ApiEntry)) : (f87_L1 x0 x1).cst (x2, x3) = ⟨put (put (put (put (fun _ => .junk) 6 (.int .i64 x2)) 5 (.row 4 1 0 x3.length)) 3 (.ptr 0 0)) 0 (.sl 2 false (x0.map eApiParam)), [.cel [.int .i64 x1.fPalette, .int .i64 x1.fLevel], .els 4 (x3.map eApiEntry)]⟩ := rfl
def c87_0 : C := .cond (.t 10) (.skip) (.exit 0)
def c87_1 : C := .reg [iI 11 (.mv (.t 6)), iI 12 (.bin .add (.t 11) (.c (.int .i64 1))), iI 6 (.mv (.t 12))]
def c87_2 : C := .seq (.block 1 (.reg [iI 13 (.mv (.t 5)), iI 14 (.mv (.t 0)), iI 15 (.mv (.t 6)), iI 16 (.iaddr 2 (.t 14) (.t 15)), iI 17 (.load 2 (.t 16)), iI 18 (.load 2 (.t 3)), iI 19 (.build [(1, (.int .i64 0)), (1, (.int .i64 0)), (1, (.int .i64 0)), (1, (.int .i64 0))] [(0, 2, (.t 17)), (2, 2, (.t 18))]), iI 20 (.mkslp 4 1 (.agg [(.int .i64 0), (.int .i64 0), (.int .i64 0), (.int .i64 0)]) [(0, (.t 19))]), iI 21 (.append 4 32 (.t 13) (.t 20)), iI 5 (.mv (.t 21))])) c87_1
def c87_3 : C := .block 0 (.loop (.seq (.seq (.reg [iI 7 (.mv (.t 6)), iI 8 (.mv (.t 0)), iI 9 (.len 0 (.t 8)), iI 10 (.bin .lss (.t 7) (.t 9))]) c87_0) c87_2))
def c87_4 : C := .seq (.reg [iI 22 (.mv (.t 5)), iI 4 (.mv (.t 22))]) .ret
def c87_5 : C := .seq (.seq (.reg [iI 6 (.mv (.c (.int .i64 0)))]) c87_3) c87_4
def c87_6 : C := .seq (.reg [iI 5 (.mv (.c (.sl 4 true [])))]) c87_5
def ir87 : C := .seq (.reg [iI 3 (.box (.t 1)), iI 4 (.mv (.c (.sl 4 true [])))]) c87_6
theorem fd87 : fd? Tryz.prog 87 = some (23, [.slot 4], ir87) := by kernel_rfl
noncomputable def f87 (x0 : (List ApiParam)) (x1 : ApiValue) : Option ((List ApiEntry)) :=
  (Lp.run (f87_L1 x0 x1) (0, [])).bind fun x2 => (some x2)
theorem f87_ok {x0 : (List ApiParam)} {x1 : ApiValue} {r_ : (List ApiEntry)} (H : f87 x0 x1 = some r_) : Pure Tryz.prog 87 [.sl 2 false (x0.map eApiParam), .agg [.int .i64 x1.fPalette, .int .i64 x1.fLevel]] (· = .fr 4 (r_.map eApiEntry)) := by
 refine Pure.walk3 fd87 (some 0) (Nat.le_of_ble_eq_true rfl) (by rfl) fun Q hQ => ?_
 simp only [f87] at H
 refine AW.rseq ?_
 try simp only [wm, ↓wk, ↓wl, nq, evV, ↓reduceIte, sevalprocAttr]
 refine AW.rseq ?_
 try simp only [wm, ↓wk, ↓wl, nq, evV, ↓reduceIte, sevalprocAttr]
 refine AW.sseq ?_
 refine AW.rseq ?_
 try simp only [wm, ↓wk, ↓wl, nq, evV, ↓reduceIte, sevalprocAttr]
 refine AW.bend ?_
 refine AW.iter H ((Le.trans (Le.nilRow (i := 5) (e := 4) (by simp only [↓wk, ↓wl, nq, evV, ↓reduceIte, sevalprocAttr])) (Le.tz [0, 1] [0, 3, 5, 6] (by simp only [f87_L1c, wm, wmr, rrm, ↓wk, ↓wl, evV, ↓reduceIte, sevalprocAttr] <;> rfl)))) ?_ <;> clear H
 rintro ⟨x2, x3⟩ x_ st0_ H hst_
 rw [f87_L1c] at hst_
 simp only [f87_L1] at H
 subst hst_
 refine AW.sseq ?_
 refine AW.rseq ?_
 try simp only [wm, ↓wk, ↓wl, nq, evV, ↓reduceIte, sevalprocAttr]
 refine AW.ifc H (by rfl) ?_ ?_ <;> clear H <;> intro H
 ·refine AW.skip ?_
  refine seqQ.norm ?_
  refine AW.bseq ?_
  refine AW.rend ?_
  try simp only [wm, ↓wk, ↓wl, nq, evV, ↓reduceIte, sevalprocAttr]
  refine evTs_at (enc := eApiParam) H (by rfl) (by rfl) ?_ <;> clear H <;> intro x4 H
  try simp only [eApiParam, eL, eM, wm, ↓wk, ↓wl, nq, evV, ↓reduceIte, sevalprocAttr]
  refine evTs_app (enc := eApiEntry) H (by rfl) (by first | rfl | simp only [List.length_set]) (by rfl) (by rfl) ?_ <;> clear H <;> intro x5 H
  try simp only [wm, ↓wk, ↓wl, nq, evV, ↓reduceIte, sevalprocAttr]
  refine blkQ.norm ?_
  refine AW.rend ?_
  try simp only [wm, ↓wk, ↓wl, nq, evV, ↓reduceIte, sevalprocAttr]
  exact loopQ.next H ((Le.tz [0, 2] [0, 3, 5, 6] (by simp only [f87_L1c, wm, wmr, rrm, ↓wk, ↓wl, evV, ↓reduceIte, sevalprocAttr] <;> rfl)))
 ·refine AW.exit ?_
  refine seqQ.exit ?_
  refine loopQ.exit H ?_ <;> clear H <;> intro H
  try dsimp only at H
  refine blk0.here ?_
  refine seqQ.norm ?_
  refine AW.rseq ?_
  try simp only [wm, ↓wk, ↓wl, nq, evV, ↓reduceIte, sevalprocAttr]
  refine AW.ret ?_
  cases H
  exact hQ _ _ _ _ (.inr rfl) (by simp only [resVs, omap, resV, wm, ↓wk, ↓wl, nq, evV, ↓reduceIte, sevalprocAttr]; rfl) (hand_1 (by rfl) (by simp) (enc_all _)) (by first | exact Or.inl rfl | exact Or.inr rfl)
theorem f87_im {x0 : (List ApiParam)} {x1 : ApiValue} {r_ : (List ApiEntry)} (H : f87 x0 x1 = some r_) : Pure Tryz.prog 87 [.sl 2 false (x0.map eApiParam), .agg [.int .i64 x1.fPalette, .int .i64 x1.fLevel]] (· = .sl 4 false (r_.map eApiEntry)) := (f87_ok H).unfr (by first | exact enc_fits _ | simp only [frFits, List.all_cons, List.all_nil, enc_fits, Bool.and_self])
noncomputable def f40_L1 (x0 : (List ApiParam)) (x1 : ApiValue) : Lp (Int) ((Unit) ⊕ (Int)) where
  body := fun x2 => (if (decide (x2 < ((x0.length : Nat) : Int))) = true then (at? x0 x2).bind fun x3 => (f84 x3).bind fun x4 => (if (decide (x4 ≠ 0)) = true then (some (.brk (Sum.inr x4))) else (if (decide (0 < x2)) = true then (at? x0 (IntKind.i64.wrap (x2 - 1))).bind fun x5 => (at? x0 x2).bind fun x6 => (f85 x5 x6).bind fun x7 => (if (!x7) = true then (some (.brk (Sum.inr 9))) else (some (.next (IntKind.i64.wrap (x2 + 1))))) else (some (.next (IntKind.i64.wrap (x2 + 1)))))) else (some (.brk (Sum.inl ()))))
  cst := fun x2 => ⟨put (put (put (fun _ => .junk) 6 (.int .i64 x2)) 3 (.ptr 0 0)) 0 (.sl 2 false (x0.map eApiParam)), [.cel [.int .i64 x1.fPalette, .int .i64 x1.fLevel]]⟩
theorem f40_L1c (x0 : (List ApiParam)) (x1 : ApiValue) (x2 : Int) : (f40_L1 x0 x1).cst x2 = ⟨put (put (put (fun _ => .junk) 6 (.int .i64 x2)) 3 (.ptr 0 0)) 0 (.sl 2 false (x0.map eApiParam)), [.cel [.int .i64 x1.fPalette, .int .i64 x1.fLevel]]⟩ := rfl
def c40_0 : C := .cond (.t 11) (.seq (.reg [iI 4 (.mv (.c (.sl 4 true []))), iI 5 (.mv (.c (.int .i64 5)))]) .ret) (.skip)
def c40_1 : C := .cond (.t 15) (.skip) (.exit 0)
def c40_2 : C := .cond (.t 24) (.seq (.reg [iI 25 (.mv (.t 7)), iI 4 (.mv (.c (.sl 4 true []))), iI 5 (.mv (.t 25))]) .ret) (.skip)
def c40_3 : C := .seq (.reg [iI 23 (.mv (.t 7)), iI 24 (.bin .neq (.t 23) (.c (.int .i64 0)))]) c40_2
def c40_4 : C := .cond (.t 40) (.seq (.reg [iI 4 (.mv (.c (.sl 4 true []))), iI 5 (.mv (.c (.int .i64 9)))]) .ret) (.skip)
def c40_5 : C := .seq (.reg [iI 26 (.mv (.t 6)), iI 27 (.bin .gtr (.t 26) (.c (.int .i64 0))), iI 28 (.mv (.t 27)), iG (some 29) 28 true (.mv (.t 0)), iG (some 30) 28 true (.mv (.t 6)), iG (some 31) 28 true (.bin .sub (.t 30) (.c (.int .i64 1))), iG (some 32) 28 true (.iaddr 2 (.t 29) (.t 31)), iG (some 33) 28 true (.load 2 (.t 32)), iG (some 34) 28 true (.mv (.t 0)), iG (some 35) 28 true (.mv (.t 6)), iG (some 36) 28 true (.iaddr 2 (.t 34) (.t 35)), iG (some 37) 28 true (.load 2 (.t 36)), iG (some 38) 28 true (.call (.c (.fn 85 [])) [(.t 33), (.t 37)]), iG (some 39) 28 true (.un .not (.t 38)), iI 40 (.pick (.t 28) (.t 39) (.c (.bool false)))]) c40_4
def c40_6 : C := .reg [iI 16 (.mv (.t 6)), iI 17 (.bin .add (.t 16) (.c (.int .i64 1))), iI 6 (.mv (.t 17))]
def c40_7 : C := .seq (.block 1 (.seq (.seq (.reg [iI 18 (.mv (.t 0)), iI 19 (.mv (.t 6)), iI 20 (.iaddr 2 (.t 18) (.t 19)), iI 21 (.load 2 (.t 20)), iI 22 (.call (.c (.fn 84 [])) [(.t 21)]), iI 7 (.mv (.t 22))]) c40_3) c40_5)) c40_6
def c40_8 : C := .block 0 (.loop (.seq (.seq (.reg [iI 12 (.mv (.t 6)), iI 13 (.mv (.t 0)), iI 14 (.len 0 (.t 13)), iI 15 (.bin .lss (.t 12) (.t 14))]) c40_1) c40_7))
def c40_9 : C := .cond (.t 44) (.seq (.reg [iI 45 (.mv (.t 8)), iI 4 (.mv (.c (.sl 4 true []))), iI 5 (.mv (.t 45))]) .ret) (.skip)
def c40_10 : C := .seq (.reg [iI 43 (.mv (.t 8)), iI 44 (.bin .neq (.t 43) (.c (.int .i64 0)))]) c40_9
def c40_11 : C := .seq (.reg [iI 46 (.mv (.t 0)), iI 47 (.load 2 (.t 3)), iI 48 (.call (.c (.fn 87 [])) [(.t 46), (.t 47)]), iI 4 (.mv (.t 48)), iI 5 (.mv (.c (.int .i64 0)))]) .ret
def c40_12 : C := .seq (.seq (.reg [iI 41 (.load 2 (.t 3)), iI 42 (.call (.c (.fn 86 [])) [(.t 41)]), iI 8 (.mv (.t 42))]) c40_10) c40_11
def c40_13 : C := .seq (.seq (.reg [iI 6 (.mv (.c (.int .i64 0)))]) c40_8) c40_12
def c40_14 : C := .seq (.seq (.reg [iI 9 (.mv (.t 0)), iI 10 (.len 0 (.t 9)), iI 11 (.bin .gtr (.t 10) (.c (.int .i64 4096)))]) c40_0) c40_13
def ir40 : C := .seq (.reg [iI 3 (.box (.t 1)), iI 4 (.mv (.c (.sl 4 true []))), iI 5 (.mv (.c (.int .i64 0)))]) c40_14
theorem fd40 : fd? Tryz.prog 40 = some (49, [.slot 4, .slot 5], ir40) := by kernel_rfl
noncomputable def f40 (x0 : (List ApiParam)) (x1 : ApiValue) : Option ((List ApiEntry) × Int) :=
  (if (decide (4096 < ((x0.length : Nat) : Int))) = true then (some ([], 5)) else ((Lp.run (f40_L1 x0 x1) 0).bind fun r_ => match r_ with | (Sum.inl _) => (f86 x1).bind fun x2 => (if (decide (x2 ≠ 0)) = true then (some ([], x2)) else (f87 x0 x1).bind fun x3 => (some (x3, 0))) | (Sum.inr x4) => (some ([], x4))))
theorem f40_ok {x0 : (List ApiParam)} {x1 : ApiValue} {r_ : (List ApiEntry) × Int} (H : f40 x0 x1 = some r_) : Pure Tryz.prog 40 [.sl 2 false (x0.map eApiParam), .agg [.int .i64 x1.fPalette, .int .i64 x1.fLevel]] (· = .tup [.fr 4 (r_.1.map eApiEntry), .int .i64 r_.2]) := by
 refine Pure.walk3 fd40 (some 0) (Nat.le_of_ble_eq_true rfl) (by rfl) fun Q hQ => ?_
 simp only [f40] at H
 refine AW.rseq ?_
 try simp only [wm, ↓wk, ↓wl, nq, evV, ↓reduceIte, sevalprocAttr]
 refine AW.sseq ?_
 refine AW.rseq ?_
 try simp only [wm, ↓wk, ↓wl, nq, evV, ↓reduceIte, sevalprocAttr]
 refine AW.ifc H (by rfl) ?_ ?_ <;> clear H <;> intro H
 ·refine AW.rseq ?_
  try simp only [wm, ↓wk, ↓wl, nq, evV, ↓reduceIte, sevalprocAttr]
  refine AW.ret ?_
  refine seqQ.ret ?_
  cases H
  exact hQ _ _ _ _ (.inr rfl) (by simp only [resVs, omap, resV, wm, ↓wk, ↓wl, nq, evV, ↓reduceIte, sevalprocAttr]; rfl) (hand_k0 (by rfl) (by rfl)) (by first | exact Or.inl rfl | exact Or.inr rfl)
 ·refine AW.skip ?_
  refine seqQ.norm ?_
  refine AW.sseq ?_
  refine AW.rseq ?_
  try simp only [wm, ↓wk, ↓wl, nq, evV, ↓reduceIte, sevalprocAttr]
  refine AW.bend ?_
  refine AW.iter H ((Le.tz [0] [0, 3, 6] (by simp only [f40_L1c, wm, wmr, rrm, ↓wk, ↓wl, evV, ↓reduceIte, sevalprocAttr] <;> rfl))) ?_ <;> clear H
  rintro x2 x_ st0_ H hst_
  rw [f40_L1c] at hst_
  simp only [f40_L1] at H
  subst hst_
  refine AW.sseq ?_
  refine AW.rseq ?_
  try simp only [wm, ↓wk, ↓wl, nq, evV, ↓reduceIte, sevalprocAttr]
  refine AW.ifc H (by rfl) ?_ ?_ <;> clear H <;> intro H
  ·refine AW.skip ?_
   refine seqQ.norm ?_
   refine AW.bseq ?_
   refine AW.sseq ?_
   refine AW.rseq ?_
   try simp only [wm, ↓wk, ↓wl, nq, evV, ↓reduceIte, sevalprocAttr]
   refine evTs_at (enc := eApiParam) H (by rfl) (by rfl) ?_ <;> clear H <;> intro x3 H
   try simp only [eApiParam, eL, eM, wm, ↓wk, ↓wl, nq, evV, ↓reduceIte, sevalprocAttr]
   refine evTs_pure hFn H (fun _ h => f84_ok h) (by rfl) (by rfl) (by rfl) (by rfl) (fun _ => rfl) ?_ <;> clear H <;> intro x4 H
   try simp only [eL, wm, ↓wk, ↓wl, nq, evV, ↓reduceIte, sevalprocAttr]
   refine AW.rseq ?_
   try simp only [wm, ↓wk, ↓wl, nq, evV, ↓reduceIte, sevalprocAttr]
   refine AW.ifc H (by rfl) ?_ ?_ <;> clear H <;> intro H
   ·refine AW.rseq ?_
    try simp only [wm, ↓wk, ↓wl, nq, evV, ↓reduceIte, sevalprocAttr]
    refine AW.ret ?_
    refine seqQ.ret ?_
    refine blkQ.ret ?_
    refine loopQ.ret H ?_ <;> clear H <;> intro H
    try dsimp only at H
    refine blk0.ret ?_
    refine seqQ.ret ?_
    cases H
    exact hQ _ _ _ _ (.inr rfl) (by simp only [resVs, omap, resV, wm, ↓wk, ↓wl, nq, evV, ↓reduceIte, sevalprocAttr]; rfl) (hand_k0 (by rfl) (by rfl)) (by first | exact Or.inl rfl | exact Or.inr rfl)
   ·refine AW.skip ?_
    refine seqQ.norm ?_
    refine AW.rseq ?_
    try simp only [wm, ↓wk, ↓wl, nq, evV, ↓reduceIte, sevalprocAttr]
    refine evTs_ifg H (by rfl) ?_ ?_ <;> clear H <;> intro H
    ·try simp only [wm, ↓wk, ↓wl, nq, evV, ↓reduceIte, sevalprocAttr]
     refine evTs_at (enc := eApiParam) H (by rfl) (by rfl) ?_ <;> clear H <;> intro x5 H
     try simp only [eApiParam, eL, eM, wm, ↓wk, ↓wl, nq, evV, ↓reduceIte, sevalprocAttr]
     refine evTs_at (enc := eApiParam) H (by rfl) (by rfl) ?_ <;> clear H <;> intro x6 H
     try simp only [eApiParam, eL, eM, wm, ↓wk, ↓wl, nq, evV, ↓reduceIte, sevalprocAttr]
     refine evTs_pure hFn H (fun _ h => f85_ok h) (by rfl) (by rfl) (by rfl) (by rfl) (fun _ => rfl) ?_ <;> clear H <;> intro x7 H
     try simp only [eL, wm, ↓wk, ↓wl, nq, evV, ↓reduceIte, sevalprocAttr]
     refine AW.ifc H (by rfl) ?_ ?_ <;> clear H <;> intro H
     ·refine AW.rseq ?_
      try simp only [wm, ↓wk, ↓wl, nq, evV, ↓reduceIte, sevalprocAttr]
      refine AW.ret ?_
      refine blkQ.ret ?_
      refine loopQ.ret H ?_ <;> clear H <;> intro H
      try dsimp only at H
      refine blk0.ret ?_
      refine seqQ.ret ?_
      cases H
      exact hQ _ _ _ _ (.inr rfl) (by simp only [resVs, omap, resV, wm, ↓wk, ↓wl, nq, evV, ↓reduceIte, sevalprocAttr]; rfl) (hand_k0 (by rfl) (by rfl)) (by first | exact Or.inl rfl | exact Or.inr rfl)
     ·refine AW.skip ?_
      refine blkQ.norm ?_
      refine AW.rend ?_
      try simp only [wm, ↓wk, ↓wl, nq, evV, ↓reduceIte, sevalprocAttr]
      exact loopQ.next H ((Le.tz [0] [0, 3, 6] (by simp only [f40_L1c, wm, wmr, rrm, ↓wk, ↓wl, evV, ↓reduceIte, sevalprocAttr] <;> rfl)))
    ·try simp only [wm, ↓wk, ↓wl, nq, evV, ↓reduceIte, sevalprocAttr]
     refine AW.iff (by rfl) ?_
     refine AW.skip ?_
     refine blkQ.norm ?_
     refine AW.rend ?_
     try simp only [wm, ↓wk, ↓wl, nq, evV, ↓reduceIte, sevalprocAttr]
     exact loopQ.next H ((Le.tz [0] [0, 3, 6] (by simp only [f40_L1c, wm, wmr, rrm, ↓wk, ↓wl, evV, ↓reduceIte, sevalprocAttr] <;> rfl)))
  ·refine AW.exit ?_
   refine seqQ.exit ?_
   refine loopQ.exit H ?_ <;> clear H <;> intro H
   try dsimp only at H
   refine blk0.here ?_
   refine seqQ.norm ?_
   refine AW.sseq ?_
   refine AW.rseq ?_
   try simp only [wm, ↓wk, ↓wl, nq, evV, ↓reduceIte, sevalprocAttr]
   refine evTs_pure hFn H (fun _ h => f86_ok h) (by rfl) (by rfl) (by rfl) (by rfl) (fun _ => rfl) ?_ <;> clear H <;> intro x8 H
   try simp only [eL, wm, ↓wk, ↓wl, nq, evV, ↓reduceIte, sevalprocAttr]
   refine AW.rseq ?_
   try simp only [wm, ↓wk, ↓wl, nq, evV, ↓reduceIte, sevalprocAttr]
   refine AW.ifc H (by rfl) ?_ ?_ <;> clear H <;> intro H
   ·refine AW.rseq ?_
    try simp only [wm, ↓wk, ↓wl, nq, evV, ↓reduceIte, sevalprocAttr]
    refine AW.ret ?_
    refine seqQ.ret ?_
    cases H
    exact hQ _ _ _ _ (.inr rfl) (by simp only [resVs, omap, resV, wm, ↓wk, ↓wl, nq, evV, ↓reduceIte, sevalprocAttr]; rfl) (hand_k0 (by rfl) (by rfl)) (by first | exact Or.inl rfl | exact Or.inr rfl)
   ·refine AW.skip ?_
    refine seqQ.norm ?_
    refine AW.rseq ?_
    try simp only [wm, ↓wk, ↓wl, nq, evV, ↓reduceIte, sevalprocAttr]
    refine evTs_fr H (fun _ h => f87_ok h) (by rfl) (by rfl) (by rfl) (by rfl) (fun _ => rfl) ?_ <;> clear H <;> intro x9 H
    try simp only [eL, wm, ↓wk, ↓wl, nq, evV, ↓reduceIte, sevalprocAttr]
    refine AW.ret ?_
    cases H
    exact hQ _ _ _ _ (.inr rfl) (by simp only [resVs, omap, resV, wm, ↓wk, ↓wl, nq, evV, ↓reduceIte, sevalprocAttr]; rfl) (hand_k (by rfl) (by rfl) (by simp) (enc_all _) (by rfl)) (by first | exact Or.inl rfl | exact Or.inr rfl)
theorem f40_im {x0 : (List ApiParam)} {x1 : ApiValue} {r_ : (List ApiEntry) × Int} (H : f40 x0 x1 = some r_) : Pure Tryz.prog 40 [.sl 2 false (x0.map eApiParam), .agg [.int .i64 x1.fPalette, .int .i64 x1.fLevel]] (· = .tup [.sl 4 false (r_.1.map eApiEntry), .int .i64 r_.2]) := (f40_ok H).unfr (by first | exact enc_fits _ | simp only [frFits, List.all_cons, List.all_nil, enc_fits, Bool.and_self])
noncomputable def f26_L1 (x0 : (List ApiEntry)) (x1 : (List ApiEntry)) : Lp (Int) ((Unit) ⊕ (Unit)) where
  body := fun x2 => (if (decide (x2 < ((x0.length : Nat) : Int))) = true then (at? x0 x2).bind fun x3 => (at? x1 x2).bind fun x4 => (if (!((x3.fParam.fChannel == x4.fParam.fChannel) && ((x3.fParam.fAttr == x4.fParam.fAttr) && ((x3.fValue.fPalette == x4.fValue.fPalette) && ((x3.fValue.fLevel == x4.fValue.fLevel) && true))))) = true then (some (.brk (Sum.inr ()))) else (some (.next (IntKind.i64.wrap (x2 + 1))))) else (some (.brk (Sum.inl ()))))
  cst := fun x2 => ⟨put (put (put (fun _ => .junk) 5 (.int .i64 x2)) 1 (.sl 4 false (x1.map eApiEntry))) 0 (.sl 4 false (x0.map eApiEntry)), []⟩
theorem f26_L1c (x0 : (List ApiEntry)) (x1 : (List ApiEntry)) (x2 : Int) : (f26_L1 x0 x1).cst x2 = ⟨put (put (put (fun _ => .junk) 5 (.int .i64 x2)) 1 (.sl 4 false (x1.map eApiEntry))) 0 (.sl 4 false (x0.map eApiEntry)), []⟩ := rfl
def c26_0 : C := .cond (.t 10) (.seq (.reg [iI 4 (.mv (.c (.bool false)))]) .ret) (.skip)
def c26_1 : C := .cond (.t 14) (.skip) (.exit 0)
def c26_2 : C := .cond (.t 25) (.seq (.reg [iI 4 (.mv (.c (.bool false)))]) .ret) (.skip)
def c26_3 : C := .reg [iI 15 (.mv (.t 5)), iI 16 (.bin .add (.t 15) (.c (.int .i64 1))), iI 5 (.mv (.t 16))]
def c26_4 : C := .seq (.block 1 (.seq (.reg [iI 17 (.mv (.t 0)), iI 18 (.mv (.t 5)), iI 19 (.iaddr 4 (.t 17) (.t 18)), iI 20 (.load 4 (.t 19)), iI 21 (.mv (.t 1)), iI 22 (.mv (.t 5)), iI 23 (.iaddr 4 (.t 21) (.t 22)), iI 24 (.load 4 (.t 23)), iI 25 (.eqs true [0, 0, 0, 0] (.t 20) (.t 24))]) c26_2)) c26_3
def c26_5 : C := .block 0 (.loop (.seq (.seq (.reg [iI 11 (.mv (.t 5)), iI 12 (.mv (.t 0)), iI 13 (.len 0 (.t 12)), iI 14 (.bin .lss (.t 11) (.t 13))]) c26_1) c26_4))
def c26_6 : C := .seq (.reg [iI 4 (.mv (.c (.bool true)))]) .ret
def c26_7 : C := .seq (.seq (.reg [iI 5 (.mv (.c (.int .i64 0)))]) c26_5) c26_6
def c26_8 : C := .seq (.seq (.reg [iI 6 (.mv (.t 0)), iI 7 (.len 0 (.t 6)), iI 8 (.mv (.t 1)), iI 9 (.len 0 (.t 8)), iI 10 (.bin .neq (.t 7) (.t 9))]) c26_0) c26_7
def ir26 : C := .seq (.reg [iI 4 (.mv (.c (.bool false)))]) c26_8
theorem fd26 : fd? Tryz.prog 26 = some (26, [.slot 4], ir26) := by kernel_rfl
noncomputable def f26 (x0 : (List ApiEntry)) (x1 : (List ApiEntry)) : Option (Bool) :=
  (if (decide (((x0.length : Nat) : Int) ≠ ((x1.length : Nat) : Int))) = true then (some false) else ((Lp.run (f26_L1 x0 x1) 0).bind fun r_ => match r_ with | (Sum.inl _) => (some true) | (Sum.inr _) => (some false)))
theorem f26_ok {x0 : (List ApiEntry)} {x1 : (List ApiEntry)} {r_ : Bool} (H : f26 x0 x1 = some r_) : Pure Tryz.prog 26 [.sl 4 false (x0.map eApiEntry), .sl 4 false (x1.map eApiEntry)] (· = .bool r_) := by
 refine Pure.walk3 fd26 none (Nat.le_of_ble_eq_true rfl) (by rfl) fun Q hQ => ?_
 simp only [f26] at H
 refine AW.rseq ?_
 try simp only [wm, ↓wk, ↓wl, nq, evV, ↓reduceIte, sevalprocAttr]
 refine AW.sseq ?_
 refine AW.rseq ?_
 try simp only [wm, ↓wk, ↓wl, nq, evV, ↓reduceIte, sevalprocAttr]
 refine AW.ifc H (by rfl) ?_ ?_ <;> clear H <;> intro H
 ·refine AW.rseq ?_
  try simp only [wm, ↓wk, ↓wl, nq, evV, ↓reduceIte, sevalprocAttr]
  refine AW.ret ?_
  refine seqQ.ret ?_
  cases H
  exact hQ _ _ _ _ (.inr rfl) (by simp only [resVs, omap, resV, wm, ↓wk, ↓wl, nq, evV, ↓reduceIte, sevalprocAttr]; rfl) (hand_plain (by rfl)) (by first | exact Or.inl rfl | exact Or.inr rfl)
 ·refine AW.skip ?_
  refine seqQ.norm ?_
  refine AW.sseq ?_
  refine AW.rseq ?_
  try simp only [wm, ↓wk, ↓wl, nq, evV, ↓reduceIte, sevalprocAttr]
  refine AW.bend ?_
  refine AW.iter H ((Le.tz [] [0, 1, 5] (by simp only [f26_L1c, wm, wmr, rrm, ↓wk, ↓wl, evV, ↓reduceIte, sevalprocAttr] <;> rfl))) ?_ <;> clear H
  rintro x2 x_ st0_ H hst_
  rw [f26_L1c] at hst_
  simp only [f26_L1] at H
  subst hst_
  refine AW.sseq ?_
  refine AW.rseq ?_
  try simp only [wm, ↓wk, ↓wl, nq, evV, ↓reduceIte, sevalprocAttr]
  refine AW.ifc H (by rfl) ?_ ?_ <;> clear H <;> intro H
  ·refine AW.skip ?_
   refine seqQ.norm ?_
   refine AW.bseq ?_
   refine AW.rseq ?_
   try simp only [wm, ↓wk, ↓wl, nq, evV, ↓reduceIte, sevalprocAttr]
   refine evTs_at (enc := eApiEntry) H (by rfl) (by rfl) ?_ <;> clear H <;> intro x3 H
   try simp only [eApiEntry, eL, eM, wm, ↓wk, ↓wl, nq, evV, ↓reduceIte, sevalprocAttr]
   refine evTs_at (enc := eApiEntry) H (by rfl) (by rfl) ?_ <;> clear H <;> intro x4 H
   try simp only [eApiEntry, eL, eM, wm, ↓wk, ↓wl, nq, evV, ↓reduceIte, sevalprocAttr]
   refine rest_neqs (by rfl) ?_
   try simp only [wm, ↓wk, ↓wl, nq, evV, ↓reduceIte, sevalprocAttr]
   refine AW.ifc H (by rfl) ?_ ?_ <;> clear H <;> intro H
   ·refine AW.rseq ?_
    try simp only [wm, ↓wk, ↓wl, nq, evV, ↓reduceIte, sevalprocAttr]
    refine AW.ret ?_
    refine blkQ.ret ?_
    refine loopQ.ret H ?_ <;> clear H <;> intro H
    try dsimp only at H
    refine blk0.ret ?_
    refine seqQ.ret ?_
    cases H
    exact hQ _ _ _ _ (.inr rfl) (by simp only [resVs, omap, resV, wm, ↓wk, ↓wl, nq, evV, ↓reduceIte, sevalprocAttr]; rfl) (hand_plain (by rfl)) (by first | exact Or.inl rfl | exact Or.inr rfl)
   ·refine AW.skip ?_
    refine blkQ.norm ?_
    refine AW.rend ?_
    try simp only [wm, ↓wk, ↓wl, nq, evV, ↓reduceIte, sevalprocAttr]
    exact loopQ.next H ((Le.tz [] [0, 1, 5] (by simp only [f26_L1c, wm, wmr, rrm, ↓wk, ↓wl, evV, ↓reduceIte, sevalprocAttr] <;> rfl)))
  ·refine AW.exit ?_
   refine seqQ.exit ?_
   refine loopQ.exit H ?_ <;> clear H <;> intro H
   try dsimp only at H
   refine blk0.here ?_
   refine seqQ.norm ?_
   refine AW.rseq ?_
   try simp only [wm, ↓wk, ↓wl, nq, evV, ↓reduceIte, sevalprocAttr]
   refine AW.ret ?_
   cases H
   exact hQ _ _ _ _ (.inr rfl) (by simp only [resVs, omap, resV, wm, ↓wk, ↓wl, nq, evV, ↓reduceIte, sevalprocAttr]; rfl) (hand_plain (by rfl)) (by first | exact Or.inl rfl | exact Or.inr rfl)
noncomputable def f10_J1 (x0 : (List ApiParam)) (x1 : ApiValue) : Jn (Unit) (Bool) where
  run := fun _ => (f39 x0 x1).bind fun x2 => (f40 x0 x1).bind fun x3 => (f12).bind fun x4 => (if x4 = true then (f26 x2.1 x3.1).bind fun x5 => (if x5 = true then (some (decide (x2.2 = x3.2))) else (some false)) else (some false))
  cst := fun _ => ⟨put (put (fun _ => .junk) 3 (.ptr 0 0)) 0 (.sl 2 false (x0.map eApiParam)), [.cel [.int .i64 x1.fPalette, .int .i64 x1.fLevel]]⟩
theorem f10_J1c (x0 : (List ApiParam)) (x1 : ApiValue) (x_ : Unit) : (f10_J1 x0 x1).cst x_ = ⟨put (put (fun _ => .junk) 3 (.ptr 0 0)) 0 (.sl 2 false (x0.map eApiParam)), [.cel [.int .i64 x1.fPalette, .int .i64 x1.fLevel]]⟩ := rfl
def c10_0 : C := .cond (.t 16) (.seq (.reg [iI 17 (.call (.c (.fn 12 [])) []), iI 4 (.mv (.t 17))]) .ret) (.skip)
def c10_1 : C := .seq (.reg [iI 30 (.call (.c (.fn 12 [])) []), iI 31 (.mv (.t 30)), iG (some 32) 31 true (.mv (.t 5)), iG (some 33) 31 true (.mv (.t 7)), iG (some 34) 31 true (.call (.c (.fn 26 [])) [(.t 32), (.t 33)]), iI 35 (.pick (.t 31) (.t 34) (.c (.bool false))), iI 36 (.mv (.t 35)), iG (some 37) 36 true (.mv (.t 6)), iG (some 38) 36 true (.mv (.t 8)), iG (some 39) 36 true (.bin .eql (.t 37) (.t 38)), iI 40 (.pick (.t 36) (.t 39) (.c (.bool false))), iI 4 (.mv (.t 40))]) .ret
def c10_2 : C := .seq (.reg [iI 25 (.mv (.t 0)), iI 26 (.load 2 (.t 3)), iI 27 (.call (.c (.fn 40 [])) [(.t 25), (.t 26)]), iI 24 (.mv (.t 27)), iI 28 (.ext (.t 24) 0), iI 29 (.ext (.t 24) 1), iI 7 (.mv (.t 28)), iI 8 (.mv (.t 29))]) c10_1
def c10_3 : C := .seq (.reg [iI 19 (.mv (.t 0)), iI 20 (.load 2 (.t 3)), iI 21 (.call (.c (.fn 39 [])) [(.t 19), (.t 20)]), iI 18 (.mv (.t 21)), iI 22 (.ext (.t 18) 0), iI 23 (.ext (.t 18) 1), iI 5 (.mv (.t 22)), iI 6 (.mv (.t 23))]) c10_2
def c10_4 : C := .seq (.seq (.reg [iI 9 (.mv (.t 0)), iI 10 (.len 0 (.t 9)), iI 11 (.bin .gtr (.t 10) (.c (.int .i64 60))), iI 12 (.mv (.t 11)), iG (some 13) 12 true (.mv (.t 0)), iG (some 14) 12 true (.len 0 (.t 13)), iG (some 15) 12 true (.bin .leq (.t 14) (.c (.int .i64 4096))), iI 16 (.pick (.t 12) (.t 15) (.c (.bool false)))]) c10_0) c10_3
def ir10 : C := .seq (.reg [iI 3 (.box (.t 1)), iI 4 (.mv (.c (.bool false)))]) c10_4
theorem fd10 : fd? Tryz.prog 10 = some (41, [.slot 4], ir10) := by kernel_rfl
noncomputable def f10 (x0 : (List ApiParam)) (x1 : ApiValue) : Option (Bool) :=
  (if (decide (60 < ((x0.length : Nat) : Int))) = true then (if (decide (((x0.length : Nat) : Int) ≤ 4096)) = true then (f12).bind fun x2 => (some x2) else ((f10_J1 x0 x1).run ())) else ((f10_J1 x0 x1).run ()))
theorem f10_ok {x0 : (List ApiParam)} {x1 : ApiValue} {r_ : Bool} (H : f10 x0 x1 = some r_) : Pure Tryz.prog 10 [.sl 2 false (x0.map eApiParam), .agg [.int .i64 x1.fPalette, .int .i64 x1.fLevel]] (· = .bool r_) := by
 refine Pure.walk3 fd10 none (Nat.le_of_ble_eq_true rfl) (by rfl) fun Q hQ => ?_
 simp only [f10] at H
 refine AW.rseq ?_
 try simp only [wm, ↓wk, ↓wl, nq, evV, ↓reduceIte, sevalprocAttr]
 refine AW.join (f10_J1 x0 x1) H ?_ fun hf10_J1 => ?_
 ·clear H
  rintro _ st0_ H hst_
  rw [f10_J1c] at hst_
  simp only [f10_J1] at H
  subst hst_
  refine AW.rseq ?_
  try simp only [wm, ↓wk, ↓wl, nq, evV, ↓reduceIte, sevalprocAttr]
  refine evTs_pure hFn H (fun _ h => f39_im h) (by rfl) (by rfl) (by rfl) (by rfl) (fun _ => rfl) ?_ <;> clear H <;> intro x2 H
  try simp only [eL, wm, ↓wk, ↓wl, nq, evV, ↓reduceIte, sevalprocAttr]
  refine AW.rseq ?_
  try simp only [wm, ↓wk, ↓wl, nq, evV, ↓reduceIte, sevalprocAttr]
  refine evTs_pure hFn H (fun _ h => f40_im h) (by rfl) (by rfl) (by rfl) (by rfl) (fun _ => rfl) ?_ <;> clear H <;> intro x3 H
  try simp only [eL, wm, ↓wk, ↓wl, nq, evV, ↓reduceIte, sevalprocAttr]
  refine AW.rseq ?_
  try simp only [wm, ↓wk, ↓wl, nq, evV, ↓reduceIte, sevalprocAttr]
  refine evTs_pure hFn H (fun _ h => f12_ok h) (by rfl) (by rfl) (by rfl) (by rfl) (fun _ => rfl) ?_ <;> clear H <;> intro x4 H
  try simp only [eL, wm, ↓wk, ↓wl, nq, evV, ↓reduceIte, sevalprocAttr]
  refine evTs_ifg H (by rfl) ?_ ?_ <;> clear H <;> intro H
  ·try simp only [wm, ↓wk, ↓wl, nq, evV, ↓reduceIte, sevalprocAttr]
   refine evTs_pure hFn H (fun _ h => f26_ok h) (by rfl) (by rfl) (by rfl) (by rfl) (fun _ => rfl) ?_ <;> clear H <;> intro x5 H
   try simp only [eL, wm, ↓wk, ↓wl, nq, evV, ↓reduceIte, sevalprocAttr]
   refine evTs_ifg H (by rfl) ?_ ?_ <;> clear H <;> intro H
   ·try simp only [wm, ↓wk, ↓wl, nq, evV, ↓reduceIte, sevalprocAttr]
    refine AW.ret ?_
    cases H
    exact hQ _ _ _ _ (.inr rfl) (by simp only [resVs, omap, resV, wm, ↓wk, ↓wl, nq, evV, ↓reduceIte, sevalprocAttr]; rfl) (hand_plain (by rfl)) (by first | exact Or.inl rfl | exact Or.inr rfl)
   ·try simp only [wm, ↓wk, ↓wl, nq, evV, ↓reduceIte, sevalprocAttr]
    refine AW.ret ?_
    cases H
    exact hQ _ _ _ _ (.inr rfl) (by simp only [resVs, omap, resV, wm, ↓wk, ↓wl, nq, evV, ↓reduceIte, sevalprocAttr]; rfl) (hand_plain (by rfl)) (by first | exact Or.inl rfl | exact Or.inr rfl)
  ·try simp only [wm, ↓wk, ↓wl, nq, evV, ↓reduceIte, sevalprocAttr]
   refine AW.ret ?_
   cases H
   exact hQ _ _ _ _ (.inr rfl) (by simp only [resVs, omap, resV, wm, ↓wk, ↓wl, nq, evV, ↓reduceIte, sevalprocAttr]; rfl) (hand_plain (by rfl)) (by first | exact Or.inl rfl | exact Or.inr rfl)
 ·refine AW.rseq ?_
  try simp only [wm, ↓wk, ↓wl, nq, evV, ↓reduceIte, sevalprocAttr]
  refine evTs_ifg H (by rfl) ?_ ?_ <;> clear H <;> intro H
  ·try simp only [wm, ↓wk, ↓wl, nq, evV, ↓reduceIte, sevalprocAttr]
   refine AW.ifc H (by rfl) ?_ ?_ <;> clear H <;> intro H
   ·refine AW.rseq ?_
    try simp only [wm, ↓wk, ↓wl, nq, evV, ↓reduceIte, sevalprocAttr]
    refine evTs_pure hFn H (fun _ h => f12_ok h) (by rfl) (by rfl) (by rfl) (by rfl) (fun _ => rfl) ?_ <;> clear H <;> intro x6 H
    try simp only [eL, wm, ↓wk, ↓wl, nq, evV, ↓reduceIte, sevalprocAttr]
    refine AW.ret ?_
    refine seqQ.ret ?_
    cases H
    exact hQ _ _ _ _ (.inr rfl) (by simp only [resVs, omap, resV, wm, ↓wk, ↓wl, nq, evV, ↓reduceIte, sevalprocAttr]; rfl) (hand_plain (by rfl)) (by first | exact Or.inl rfl | exact Or.inr rfl)
   ·refine AW.skip ?_
    refine seqQ.norm ?_
    exact hf10_J1 _ _ H ((Le.tz [0] [0, 3] (by simp only [f10_J1c, wm, wmr, rrm, ↓wk, ↓wl, evV, ↓reduceIte, sevalprocAttr] <;> rfl)))
  ·try simp only [wm, ↓wk, ↓wl, nq, evV, ↓reduceIte, sevalprocAttr]
   refine AW.iff (by rfl) ?_
   refine AW.skip ?_
   refine seqQ.norm ?_
   exact hf10_J1 _ _ H ((Le.tz [0] [0, 3] (by simp only [f10_J1c, wm, wmr, rrm, ↓wk, ↓wl, evV, ↓reduceIte, sevalprocAttr] <;> rfl)))
end Go.Proofs.YtnaemmpcffnbkaaGreatDoor
