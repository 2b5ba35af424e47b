import Derived.Test.YthikbfhdebaceaaX1
import Derived.Test.YthikbfhdebaceaaM6
import Derived.Test.YthikbfhdebaceaaProg
import Derived.KernelRfl
namespace Go.Proofs.Ythikbfhdebaceaa
open Go Go.Ab

set_option maxHeartbeats 1000000
set_option maxRecDepth 4000
set_option linter.unusedSimpArgs false
set_option linter.unusedVariables false
theorem f10_ok {l_590 : (List ApiFixture)} {profiles_591 : (List ApiProfile)} {r_ : Bool} (H : f10 l_590 profiles_591 = some r_) : Pure Try.prog 10 [.sl 7 false (l_590.map eApiFixture), .sl 4 false (profiles_591.map eApiProfile)] (· = .bool r_) := by
 refine Pure.walk3 fd10 none (Nat.le_of_ble_eq_true rfl) (by rfl) fun Q hQ => ?_
 simp only [f10] at H
 refine AW.rseq ?_
 try simp only [wm, ↓wk, ↓wl, nq, evV, ↓reduceIte, sevalprocAttr]
 refine AW.join (f10_J1 profiles_591) H ?_ fun hf10_J1 => ?_
 ·clear H
  rintro _ st0_ H hst_
  rw [f10_J1c] at hst_
  simp only [f10_J1] at H
  subst hst_
  refine AW.sseq ?_
  refine AW.rseq ?_
  try simp only [wm, ↓wk, ↓wl, nq, evV, ↓reduceIte, sevalprocAttr]
  refine AW.bend ?_
  refine AW.iter H ((Le.tz [] [1, 5] (by simp only [f10_L2c, wm, wmr, rrm, ↓wk, ↓wl, evV, ↓reduceIte, sevalprocAttr] <;> rfl))) ?_ <;> clear H
  rintro i_595 x_ st0_ H hst_
  rw [f10_L2c] at hst_
  simp only [f10_L2] at H
  subst hst_
  refine AW.sseq ?_
  refine AW.rseq ?_
  try simp only [wm, ↓wk, ↓wl, nq, evV, ↓reduceIte, sevalprocAttr]
  refine evTs_ifg H (by rfl) ?_ ?_ <;> clear H <;> intro H
  ·try simp only [wm, ↓wk, ↓wl, nq, evV, ↓reduceIte, sevalprocAttr]
   refine AW.ifc H (by rfl) ?_ ?_ <;> clear H <;> intro H
   ·refine AW.skip ?_
    refine seqQ.norm ?_
    refine AW.bseq ?_
    refine AW.rseq ?_
    try simp only [wm, ↓wk, ↓wl, nq, evV, ↓reduceIte, sevalprocAttr]
    refine evTs_at (enc := eApiProfile) H (by rfl) (by rfl) ?_ <;> clear H <;> intro x_597 H
    try simp only [eApiProfile, eL, eM, wm, ↓wk, ↓wl, nq, evV, ↓reduceIte, sevalprocAttr]
    refine AW.ifc H (by rfl) ?_ ?_ <;> clear H <;> intro H
    ·refine AW.rseq ?_
     try simp only [wm, ↓wk, ↓wl, nq, evV, ↓reduceIte, sevalprocAttr]
     refine AW.ret ?_
     refine blkQ.ret ?_
     refine loopQ.ret H ?_ <;> clear H <;> intro H
     try dsimp only at H
     refine blk0.ret ?_
     refine seqQ.ret ?_
     cases H
     exact hQ _ _ _ _ (.inr rfl) (by simp only [resVs, omap, resV, wm, ↓wk, ↓wl, nq, evV, ↓reduceIte, sevalprocAttr]; rfl) (hand_plain (by rfl)) (by first | exact Or.inl rfl | exact Or.inr rfl)
    ·refine AW.skip ?_
     refine blkQ.norm ?_
     refine AW.rend ?_
     try simp only [wm, ↓wk, ↓wl, nq, evV, ↓reduceIte, sevalprocAttr]
     exact loopQ.next H ((Le.tz [] [1, 5] (by simp only [f10_L2c, wm, wmr, rrm, ↓wk, ↓wl, evV, ↓reduceIte, sevalprocAttr] <;> rfl)))
   ·refine AW.exit ?_
    refine seqQ.exit ?_
    refine loopQ.exit H ?_ <;> clear H <;> intro H
    try dsimp only at H
    refine blk0.here ?_
    refine seqQ.norm ?_
    refine AW.rseq ?_
    try simp only [wm, ↓wk, ↓wl, nq, evV, ↓reduceIte, sevalprocAttr]
    refine AW.ret ?_
    cases H
    exact hQ _ _ _ _ (.inr rfl) (by simp only [resVs, omap, resV, wm, ↓wk, ↓wl, nq, evV, ↓reduceIte, sevalprocAttr]; rfl) (hand_plain (by rfl)) (by first | exact Or.inl rfl | exact Or.inr rfl)
  ·try simp only [wm, ↓wk, ↓wl, nq, evV, ↓reduceIte, sevalprocAttr]
   refine AW.iff (by rfl) ?_
   refine AW.exit ?_
   refine seqQ.exit ?_
   refine loopQ.exit H ?_ <;> clear H <;> intro H
   try dsimp only at H
   refine blk0.here ?_
   refine seqQ.norm ?_
   refine AW.rseq ?_
   try simp only [wm, ↓wk, ↓wl, nq, evV, ↓reduceIte, sevalprocAttr]
   refine AW.ret ?_
   cases H
   exact hQ _ _ _ _ (.inr rfl) (by simp only [resVs, omap, resV, wm, ↓wk, ↓wl, nq, evV, ↓reduceIte, sevalprocAttr]; rfl) (hand_plain (by rfl)) (by first | exact Or.inl rfl | exact Or.inr rfl)
 ·refine AW.rseq ?_
  try simp only [wm, ↓wk, ↓wl, nq, evV, ↓reduceIte, sevalprocAttr]
  refine evTs_ifg H (by rfl) ?_ ?_ <;> clear H <;> intro H
  ·try simp only [wm, ↓wk, ↓wl, nq, evV, ↓reduceIte, sevalprocAttr]
   refine evTs_ifg H (by rfl) ?_ ?_ <;> clear H <;> intro H
   ·try simp only [wm, ↓wk, ↓wl, nq, evV, ↓reduceIte, sevalprocAttr]
    refine AW.ift (by rfl) ?_
    refine AW.rseq ?_
    try simp only [wm, ↓wk, ↓wl, nq, evV, ↓reduceIte, sevalprocAttr]
    refine AW.ret ?_
    refine seqQ.ret ?_
    cases H
    exact hQ _ _ _ _ (.inr rfl) (by simp only [resVs, omap, resV, wm, ↓wk, ↓wl, nq, evV, ↓reduceIte, sevalprocAttr]; rfl) (hand_plain (by rfl)) (by first | exact Or.inl rfl | exact Or.inr rfl)
   ·try simp only [wm, ↓wk, ↓wl, nq, evV, ↓reduceIte, sevalprocAttr]
    refine evTs_ifg H (by rfl) ?_ ?_ <;> clear H <;> intro H
    ·try simp only [wm, ↓wk, ↓wl, nq, evV, ↓reduceIte, sevalprocAttr]
     refine AW.ifc H (by rfl) ?_ ?_ <;> clear H <;> intro H
     ·refine AW.rseq ?_
      try simp only [wm, ↓wk, ↓wl, nq, evV, ↓reduceIte, sevalprocAttr]
      refine AW.ret ?_
      refine seqQ.ret ?_
      cases H
      exact hQ _ _ _ _ (.inr rfl) (by simp only [resVs, omap, resV, wm, ↓wk, ↓wl, nq, evV, ↓reduceIte, sevalprocAttr]; rfl) (hand_plain (by rfl)) (by first | exact Or.inl rfl | exact Or.inr rfl)
     ·refine AW.skip ?_
      refine seqQ.norm ?_
      exact hf10_J1 _ _ H ((Le.tz [] [1] (by simp only [f10_J1c, wm, wmr, rrm, ↓wk, ↓wl, evV, ↓reduceIte, sevalprocAttr] <;> rfl)))
    ·try simp only [wm, ↓wk, ↓wl, nq, evV, ↓reduceIte, sevalprocAttr]
     refine AW.iff (by rfl) ?_
     refine AW.skip ?_
     refine seqQ.norm ?_
     exact hf10_J1 _ _ H ((Le.tz [] [1] (by simp only [f10_J1c, wm, wmr, rrm, ↓wk, ↓wl, evV, ↓reduceIte, sevalprocAttr] <;> rfl)))
  ·try simp only [wm, ↓wk, ↓wl, nq, evV, ↓reduceIte, sevalprocAttr]
   refine evTs_ifg H (by rfl) ?_ ?_ <;> clear H <;> intro H
   ·try simp only [wm, ↓wk, ↓wl, nq, evV, ↓reduceIte, sevalprocAttr]
    refine AW.ifc H (by rfl) ?_ ?_ <;> clear H <;> intro H
    ·refine AW.rseq ?_
     try simp only [wm, ↓wk, ↓wl, nq, evV, ↓reduceIte, sevalprocAttr]
     refine AW.ret ?_
     refine seqQ.ret ?_
     cases H
     exact hQ _ _ _ _ (.inr rfl) (by simp only [resVs, omap, resV, wm, ↓wk, ↓wl, nq, evV, ↓reduceIte, sevalprocAttr]; rfl) (hand_plain (by rfl)) (by first | exact Or.inl rfl | exact Or.inr rfl)
    ·refine AW.skip ?_
     refine seqQ.norm ?_
     exact hf10_J1 _ _ H ((Le.tz [] [1] (by simp only [f10_J1c, wm, wmr, rrm, ↓wk, ↓wl, evV, ↓reduceIte, sevalprocAttr] <;> rfl)))
   ·try simp only [wm, ↓wk, ↓wl, nq, evV, ↓reduceIte, sevalprocAttr]
    refine AW.iff (by rfl) ?_
    refine AW.skip ?_
    refine seqQ.norm ?_
    exact hf10_J1 _ _ H ((Le.tz [] [1] (by simp only [f10_J1c, wm, wmr, rrm, ↓wk, ↓wl, evV, ↓reduceIte, sevalprocAttr] <;> rfl)))
def c79_0 : C := .cond (.t 20) (.seq (.reg [iI 2 (.mv (.c (.int .i64 2)))]) .ret) (.skip)
def c79_1 : C := .cond (.t 48) (.seq (.reg [iI 2 (.mv (.c (.int .i64 2)))]) .ret) (.skip)
def c79_2 : C := .seq (.reg [iI 2 (.mv (.c (.int .i64 0)))]) .ret
def c79_3 : C := .seq (.seq (.reg [iI 21 (.faddr 3 (.t 1)), iI 22 (.load 0 (.t 21)), iI 23 (.bin .lss (.t 22) (.c (.int .i64 1))), iI 24 (.mv (.t 23)), iG (some 25) 24 false (.faddr 3 (.t 1)), iG (some 26) 24 false (.load 0 (.t 25)), iG (some 27) 24 false (.bin .gtr (.t 26) (.c (.int .i64 8))), iI 28 (.pick (.t 24) (.c (.bool true)) (.t 27)), iI 29 (.mv (.t 28)), iG (some 30) 29 false (.faddr 4 (.t 1)), iG (some 31) 29 false (.load 0 (.t 30)), iG (some 32) 29 false (.bin .lss (.t 31) (.c (.int .i64 1))), iI 33 (.pick (.t 29) (.c (.bool true)) (.t 32)), iI 34 (.mv (.t 33)), iG (some 35) 34 false (.faddr 4 (.t 1)), iG (some 36) 34 false (.load 0 (.t 35)), iG (some 37) 34 false (.bin .gtr (.t 36) (.c (.int .i64 512))), iI 38 (.pick (.t 34) (.c (.bool true)) (.t 37)), iI 39 (.mv (.t 38)), iG (some 40) 39 false (.faddr 5 (.t 1)), iG (some 41) 39 false (.load 0 (.t 40)), iG (some 42) 39 false (.bin .lss (.t 41) (.c (.int .i64 1))), iI 43 (.pick (.t 39) (.c (.bool true)) (.t 42)), iI 44 (.mv (.t 43)), iG (some 45) 44 false (.faddr 5 (.t 1)), iG (some 46) 44 false (.load 0 (.t 45)), iG (some 47) 44 false (.bin .gtr (.t 46) (.c (.int .i64 3))), iI 48 (.pick (.t 44) (.c (.bool true)) (.t 47))]) c79_1) c79_2
def c79_4 : C := .seq (.seq (.reg [iI 3 (.faddr 0 (.t 1)), iI 4 (.load 0 (.t 3)), iI 5 (.bin .lss (.t 4) (.c (.int .i64 1))), iI 6 (.mv (.t 5)), iG (some 7) 6 false (.faddr 0 (.t 1)), iG (some 8) 6 false (.load 0 (.t 7)), iG (some 9) 6 false (.bin .gtr (.t 8) (.c (.int .i64 999))), iI 10 (.pick (.t 6) (.c (.bool true)) (.t 9)), iI 11 (.mv (.t 10)), iG (some 12) 11 false (.faddr 1 (.t 1)), iG (some 13) 11 false (.load 0 (.t 12)), iG (some 14) 11 false (.bin .lss (.t 13) (.c (.int .i64 1))), iI 15 (.pick (.t 11) (.c (.bool true)) (.t 14)), iI 16 (.mv (.t 15)), iG (some 17) 16 false (.faddr 1 (.t 1)), iG (some 18) 16 false (.load 0 (.t 17)), iG (some 19) 16 false (.bin .gtr (.t 18) (.c (.int .i64 64))), iI 20 (.pick (.t 16) (.c (.bool true)) (.t 19))]) c79_0) c79_3
def ir79 : C := .seq (.reg [iI 1 (.box (.t 0)), iI 2 (.mv (.c (.int .i64 0)))]) c79_4
theorem fd79 : fd? Try.prog 79 = some (49, [.slot 2], ir79) := by kernel_rfl
noncomputable def f79 (x_603 : ApiFixture) : Option (Int) :=
  (if (decide (x_603.fChannel < 1)) = true then (some 2) else (if (decide (999 < x_603.fChannel)) = true then (some 2) else (if (decide (x_603.fPart < 1)) = true then (some 2) else (if (decide (64 < x_603.fPart)) = true then (some 2) else (if (decide (x_603.fUniverse < 1)) = true then (some 2) else (if (decide (8 < x_603.fUniverse)) = true then (some 2) else (if (decide (x_603.fAddress < 1)) = true then (some 2) else (if (decide (512 < x_603.fAddress)) = true then (some 2) else (if (decide (x_603.fPhase < 1)) = true then (some 2) else (if (decide (3 < x_603.fPhase)) = true then (some 2) else (some 0)))))))))))
theorem f79_ok {x_603 : ApiFixture} {r_ : Int} (H : f79 x_603 = some r_) : Pure Try.prog 79 [.agg [.int .i64 x_603.fChannel, .int .i64 x_603.fPart, .str x_603.fProfile, .int .i64 x_603.fUniverse, .int .i64 x_603.fAddress, .int .i64 x_603.fPhase, .str x_603.fCable]] (· = .int .i64 r_) := by
 refine Pure.walk3 fd79 none (Nat.le_of_ble_eq_true rfl) (by rfl) fun Q hQ => ?_
 simp only [f79] at H
 refine AW.rseq ?_
 try simp only [wm, ↓wk, ↓wl, nq, evV, ↓reduceIte, sevalprocAttr]
 refine AW.sseq ?_
 refine AW.rseq ?_
 try simp only [wm, ↓wk, ↓wl, nq, evV, ↓reduceIte, sevalprocAttr]
 refine evTs_ifg H (by rfl) ?_ ?_ <;> clear H <;> intro H
 ·try simp only [wm, ↓wk, ↓wl, nq, evV, ↓reduceIte, sevalprocAttr]
  refine AW.ift (by rfl) ?_
  refine AW.rseq ?_
  try simp only [wm, ↓wk, ↓wl, nq, evV, ↓reduceIte, sevalprocAttr]
  refine AW.ret ?_
  refine seqQ.ret ?_
  cases H
  exact hQ _ _ _ _ (.inr rfl) (by simp only [resVs, omap, resV, wm, ↓wk, ↓wl, nq, evV, ↓reduceIte, sevalprocAttr]; rfl) (hand_plain (by rfl)) (by first | exact Or.inl rfl | exact Or.inr rfl)
 ·try simp only [wm, ↓wk, ↓wl, nq, evV, ↓reduceIte, sevalprocAttr]
  refine evTs_ifg H (by rfl) ?_ ?_ <;> clear H <;> intro H
  ·try simp only [wm, ↓wk, ↓wl, nq, evV, ↓reduceIte, sevalprocAttr]
   refine AW.ift (by rfl) ?_
   refine AW.rseq ?_
   try simp only [wm, ↓wk, ↓wl, nq, evV, ↓reduceIte, sevalprocAttr]
   refine AW.ret ?_
   refine seqQ.ret ?_
   cases H
   exact hQ _ _ _ _ (.inr rfl) (by simp only [resVs, omap, resV, wm, ↓wk, ↓wl, nq, evV, ↓reduceIte, sevalprocAttr]; rfl) (hand_plain (by rfl)) (by first | exact Or.inl rfl | exact Or.inr rfl)
  ·try simp only [wm, ↓wk, ↓wl, nq, evV, ↓reduceIte, sevalprocAttr]
   refine evTs_ifg H (by rfl) ?_ ?_ <;> clear H <;> intro H
   ·try simp only [wm, ↓wk, ↓wl, nq, evV, ↓reduceIte, sevalprocAttr]
    refine AW.ift (by rfl) ?_
    refine AW.rseq ?_
    try simp only [wm, ↓wk, ↓wl, nq, evV, ↓reduceIte, sevalprocAttr]
    refine AW.ret ?_
    refine seqQ.ret ?_
    cases H
    exact hQ _ _ _ _ (.inr rfl) (by simp only [resVs, omap, resV, wm, ↓wk, ↓wl, nq, evV, ↓reduceIte, sevalprocAttr]; rfl) (hand_plain (by rfl)) (by first | exact Or.inl rfl | exact Or.inr rfl)
   ·try simp only [wm, ↓wk, ↓wl, nq, evV, ↓reduceIte, sevalprocAttr]
    refine AW.ifc H (by rfl) ?_ ?_ <;> clear H <;> intro H
    ·refine AW.rseq ?_
     try simp only [wm, ↓wk, ↓wl, nq, evV, ↓reduceIte, sevalprocAttr]
     refine AW.ret ?_
     refine seqQ.ret ?_
     cases H
     exact hQ _ _ _ _ (.inr rfl) (by simp only [resVs, omap, resV, wm, ↓wk, ↓wl, nq, evV, ↓reduceIte, sevalprocAttr]; rfl) (hand_plain (by rfl)) (by first | exact Or.inl rfl | exact Or.inr rfl)
    ·refine AW.skip ?_
     refine seqQ.norm ?_
     refine AW.sseq ?_
     refine AW.rseq ?_
     try simp only [wm, ↓wk, ↓wl, nq, evV, ↓reduceIte, sevalprocAttr]
     refine evTs_ifg H (by rfl) ?_ ?_ <;> clear H <;> intro H
     ·try simp only [wm, ↓wk, ↓wl, nq, evV, ↓reduceIte, sevalprocAttr]
      refine AW.ift (by rfl) ?_
      refine AW.rseq ?_
      try simp only [wm, ↓wk, ↓wl, nq, evV, ↓reduceIte, sevalprocAttr]
      refine AW.ret ?_
      refine seqQ.ret ?_
      cases H
      exact hQ _ _ _ _ (.inr rfl) (by simp only [resVs, omap, resV, wm, ↓wk, ↓wl, nq, evV, ↓reduceIte, sevalprocAttr]; rfl) (hand_plain (by rfl)) (by first | exact Or.inl rfl | exact Or.inr rfl)
     ·try simp only [wm, ↓wk, ↓wl, nq, evV, ↓reduceIte, sevalprocAttr]
      refine evTs_ifg H (by rfl) ?_ ?_ <;> clear H <;> intro H
      ·try simp only [wm, ↓wk, ↓wl, nq, evV, ↓reduceIte, sevalprocAttr]
       refine AW.ift (by rfl) ?_
       refine AW.rseq ?_
       try simp only [wm, ↓wk, ↓wl, nq, evV, ↓reduceIte, sevalprocAttr]
       refine AW.ret ?_
       refine seqQ.ret ?_
       cases H
       exact hQ _ _ _ _ (.inr rfl) (by simp only [resVs, omap, resV, wm, ↓wk, ↓wl, nq, evV, ↓reduceIte, sevalprocAttr]; rfl) (hand_plain (by rfl)) (by first | exact Or.inl rfl | exact Or.inr rfl)
      ·try simp only [wm, ↓wk, ↓wl, nq, evV, ↓reduceIte, sevalprocAttr]
       refine evTs_ifg H (by rfl) ?_ ?_ <;> clear H <;> intro H
       ·try simp only [wm, ↓wk, ↓wl, nq, evV, ↓reduceIte, sevalprocAttr]
        refine AW.ift (by rfl) ?_
        refine AW.rseq ?_
        try simp only [wm, ↓wk, ↓wl, nq, evV, ↓reduceIte, sevalprocAttr]
        refine AW.ret ?_
        refine seqQ.ret ?_
        cases H
        exact hQ _ _ _ _ (.inr rfl) (by simp only [resVs, omap, resV, wm, ↓wk, ↓wl, nq, evV, ↓reduceIte, sevalprocAttr]; rfl) (hand_plain (by rfl)) (by first | exact Or.inl rfl | exact Or.inr rfl)
       ·try simp only [wm, ↓wk, ↓wl, nq, evV, ↓reduceIte, sevalprocAttr]
        refine evTs_ifg H (by rfl) ?_ ?_ <;> clear H <;> intro H
        ·try simp only [wm, ↓wk, ↓wl, nq, evV, ↓reduceIte, sevalprocAttr]
         refine AW.ift (by rfl) ?_
         refine AW.rseq ?_
         try simp only [wm, ↓wk, ↓wl, nq, evV, ↓reduceIte, sevalprocAttr]
         refine AW.ret ?_
         refine seqQ.ret ?_
         cases H
         exact hQ _ _ _ _ (.inr rfl) (by simp only [resVs, omap, resV, wm, ↓wk, ↓wl, nq, evV, ↓reduceIte, sevalprocAttr]; rfl) (hand_plain (by rfl)) (by first | exact Or.inl rfl | exact Or.inr rfl)
        ·try simp only [wm, ↓wk, ↓wl, nq, evV, ↓reduceIte, sevalprocAttr]
         refine evTs_ifg H (by rfl) ?_ ?_ <;> clear H <;> intro H
         ·try simp only [wm, ↓wk, ↓wl, nq, evV, ↓reduceIte, sevalprocAttr]
          refine AW.ift (by rfl) ?_
          refine AW.rseq ?_
          try simp only [wm, ↓wk, ↓wl, nq, evV, ↓reduceIte, sevalprocAttr]
          refine AW.ret ?_
          refine seqQ.ret ?_
          cases H
          exact hQ _ _ _ _ (.inr rfl) (by simp only [resVs, omap, resV, wm, ↓wk, ↓wl, nq, evV, ↓reduceIte, sevalprocAttr]; rfl) (hand_plain (by rfl)) (by first | exact Or.inl rfl | exact Or.inr rfl)
         ·try simp only [wm, ↓wk, ↓wl, nq, evV, ↓reduceIte, sevalprocAttr]
          refine AW.ifc H (by rfl) ?_ ?_ <;> clear H <;> intro H
          ·refine AW.rseq ?_
           try simp only [wm, ↓wk, ↓wl, nq, evV, ↓reduceIte, sevalprocAttr]
           refine AW.ret ?_
           refine seqQ.ret ?_
           cases H
           exact hQ _ _ _ _ (.inr rfl) (by simp only [resVs, omap, resV, wm, ↓wk, ↓wl, nq, evV, ↓reduceIte, sevalprocAttr]; rfl) (hand_plain (by rfl)) (by first | exact Or.inl rfl | exact Or.inr rfl)
          ·refine AW.skip ?_
           refine seqQ.norm ?_
           refine AW.rseq ?_
           try simp only [wm, ↓wk, ↓wl, nq, evV, ↓reduceIte, sevalprocAttr]
           refine AW.ret ?_
           cases H
           exact hQ _ _ _ _ (.inr rfl) (by simp only [resVs, omap, resV, wm, ↓wk, ↓wl, nq, evV, ↓reduceIte, sevalprocAttr]; rfl) (hand_plain (by rfl)) (by first | exact Or.inl rfl | exact Or.inr rfl)
noncomputable def f80_L1 (s_606 : (List UInt8)) : Lp (Int) ((Unit) ⊕ (Unit)) where
  body := fun i_618 => (if (decide (i_618 < ((s_606.length : Nat) : Int))) = true then (at? s_606 i_618).bind fun b_627 => (if (decide (97 ≤ (b_627.toNat : Int))) = true then (at? s_606 i_618).bind fun b_628 => (if (!(decide ((b_628.toNat : Int) ≤ 122))) = true then (if (decide (i_618 = 0)) = true then (some (.brk (Sum.inr ()))) else (at? s_606 i_618).bind fun b_629 => (if (decide ((b_629.toNat : Int) ≠ 95)) = true then (at? s_606 i_618).bind fun b_630 => (if (decide ((b_630.toNat : Int) < 48)) = true then (some (.brk (Sum.inr ()))) else (at? s_606 i_618).bind fun b_631 => (if (decide (57 < (b_631.toNat : Int))) = true then (some (.brk (Sum.inr ()))) else (some (.next (IntKind.i64.wrap (i_618 + 1)))))) else (some (.next (IntKind.i64.wrap (i_618 + 1)))))) else (some (.next (IntKind.i64.wrap (i_618 + 1))))) else (if (decide (i_618 = 0)) = true then (some (.brk (Sum.inr ()))) else (at? s_606 i_618).bind fun b_632 => (if (decide ((b_632.toNat : Int) ≠ 95)) = true then (at? s_606 i_618).bind fun b_633 => (if (decide ((b_633.toNat : Int) < 48)) = true then (some (.brk (Sum.inr ()))) else (at? s_606 i_618).bind fun b_634 => (if (decide (57 < (b_634.toNat : Int))) = true then (some (.brk (Sum.inr ()))) else (some (.next (IntKind.i64.wrap (i_618 + 1)))))) else (some (.next (IntKind.i64.wrap (i_618 + 1))))))) else (some (.brk (Sum.inl ()))))
  cst := fun i_618 => ⟨put (put (fun _ => .junk) 3 (.int .i64 i_618)) 0 (.str s_606), []⟩
theorem f80_L1c (s_606 : (List UInt8)) (i_618 : Int) : (f80_L1 s_606).cst i_618 = ⟨put (put (fun _ => .junk) 3 (.int .i64 i_618)) 0 (.str s_606), []⟩ := rfl
def c80_0 : C := .cond (.t 8) (.skip) (.exit 0)
def c80_1 : C := .cond (.t 44) (.seq (.reg [iI 2 (.mv (.c (.bool false)))]) .ret) (.skip)
def c80_2 : C := .seq (.reg [iI 21 (.mv (.t 4)), iI 22 (.un .not (.t 21)), iI 23 (.mv (.t 22)), iG (some 24) 23 true (.mv (.t 3)), iG (some 25) 23 true (.bin .eql (.t 24) (.c (.int .i64 0))), iG (some 26) 23 true (.mv (.t 25)), iG (some 27) 26 false (.mv (.t 0)), iG (some 28) 26 false (.mv (.t 3)), iG (some 29) 26 false (.sidx (.t 27) (.t 28)), iG (some 30) 26 false (.bin .neq (.t 29) (.c (.int .u8 95))), iG (some 31) 26 false (.mv (.t 30)), iG (some 32) 31 true (.mv (.t 0)), iG (some 33) 31 true (.mv (.t 3)), iG (some 34) 31 true (.sidx (.t 32) (.t 33)), iG (some 35) 31 true (.bin .lss (.t 34) (.c (.int .u8 48))), iG (some 36) 31 true (.mv (.t 35)), iG (some 37) 36 false (.mv (.t 0)), iG (some 38) 36 false (.mv (.t 3)), iG (some 39) 36 false (.sidx (.t 37) (.t 38)), iG (some 40) 36 false (.bin .gtr (.t 39) (.c (.int .u8 57))), iG (some 41) 31 true (.pick (.t 36) (.c (.bool true)) (.t 40)), iG (some 42) 26 false (.pick (.t 31) (.t 41) (.c (.bool false))), iG (some 43) 23 true (.pick (.t 26) (.c (.bool true)) (.t 42)), iI 44 (.pick (.t 23) (.t 43) (.c (.bool false)))]) c80_1
def c80_3 : C := .reg [iI 9 (.mv (.t 3)), iI 10 (.bin .add (.t 9) (.c (.int .i64 1))), iI 3 (.mv (.t 10))]
def c80_4 : C := .seq (.block 1 (.seq (.reg [iI 11 (.mv (.t 0)), iI 12 (.mv (.t 3)), iI 13 (.sidx (.t 11) (.t 12)), iI 14 (.bin .geq (.t 13) (.c (.int .u8 97))), iI 15 (.mv (.t 14)), iG (some 16) 15 true (.mv (.t 0)), iG (some 17) 15 true (.mv (.t 3)), iG (some 18) 15 true (.sidx (.t 16) (.t 17)), iG (some 19) 15 true (.bin .leq (.t 18) (.c (.int .u8 122))), iI 20 (.pick (.t 15) (.t 19) (.c (.bool false))), iI 4 (.mv (.t 20))]) c80_2)) c80_3
def c80_5 : C := .block 0 (.loop (.seq (.seq (.reg [iI 5 (.mv (.t 3)), iI 6 (.mv (.t 0)), iI 7 (.len 1 (.t 6)), iI 8 (.bin .lss (.t 5) (.t 7))]) c80_0) c80_4))
def c80_6 : C := .seq (.reg [iI 45 (.mv (.t 0)), iI 46 (.len 1 (.t 45)), iI 47 (.bin .geq (.t 46) (.c (.int .i64 1))), iI 48 (.mv (.t 47)), iG (some 49) 48 true (.mv (.t 0)), iG (some 50) 48 true (.len 1 (.t 49)), iG (some 51) 48 true (.bin .leq (.t 50) (.c (.int .i64 24))), iI 52 (.pick (.t 48) (.t 51) (.c (.bool false))), iI 2 (.mv (.t 52))]) .ret
def c80_7 : C := .seq (.seq (.reg [iI 3 (.mv (.c (.int .i64 0)))]) c80_5) c80_6
def ir80 : C := .seq (.reg [iI 2 (.mv (.c (.bool false)))]) c80_7
theorem fd80 : fd? Try.prog 80 = some (53, [.slot 2], ir80) := by kernel_rfl
noncomputable def f80 (s_606 : (List UInt8)) : Option (Bool) :=
  ((Lp.run (f80_L1 s_606) 0).bind fun r_ => match r_ with | (Sum.inl _) => (if (decide (1 ≤ ((s_606.length : Nat) : Int))) = true then (some (decide (((s_606.length : Nat) : Int) ≤ 24))) else (some false)) | (Sum.inr _) => (some false))
theorem f80_ok {s_606 : (List UInt8)} {r_ : Bool} (H : f80 s_606 = some r_) : Pure Try.prog 80 [.str s_606] (· = .bool r_) := by
 refine Pure.walk3 fd80 none (Nat.le_of_ble_eq_true rfl) (by rfl) fun Q hQ => ?_
 simp only [f80] at H
 refine AW.rseq ?_
 try simp only [wm, ↓wk, ↓wl, nq, evV, ↓reduceIte, sevalprocAttr]
 refine AW.sseq ?_
 refine AW.rseq ?_
 try simp only [wm, ↓wk, ↓wl, nq, evV, ↓reduceIte, sevalprocAttr]
 refine AW.bend ?_
 refine AW.iter H ((Le.tz [] [0, 3] (by simp only [f80_L1c, wm, wmr, rrm, ↓wk, ↓wl, evV, ↓reduceIte, sevalprocAttr] <;> rfl))) ?_ <;> clear H
 rintro i_618 x_ st0_ H hst_
 rw [f80_L1c] at hst_
 simp only [f80_L1] at H
 subst hst_
 refine AW.sseq ?_
 refine AW.rseq ?_
 try simp only [wm, ↓wk, ↓wl, nq, evV, ↓reduceIte, sevalprocAttr]
 refine AW.ifc H (by rfl) ?_ ?_ <;> clear H <;> intro H
 ·refine AW.skip ?_
  refine seqQ.norm ?_
  refine AW.bseq ?_
  refine AW.rseq ?_
  try simp only [wm, ↓wk, ↓wl, nq, evV, ↓reduceIte, sevalprocAttr]
  refine evTs_sat H (by rfl) (by rfl) ?_ <;> clear H <;> intro b_627 H
  try simp only [wm, ↓wk, ↓wl, nq, evV, ↓reduceIte, sevalprocAttr]
  refine evTs_ifg H (by rfl) ?_ ?_ <;> clear H <;> intro H
  ·try simp only [wm, ↓wk, ↓wl, nq, evV, ↓reduceIte, sevalprocAttr]
   refine evTs_sat H (by rfl) (by rfl) ?_ <;> clear H <;> intro b_628 H
   try simp only [wm, ↓wk, ↓wl, nq, evV, ↓reduceIte, sevalprocAttr]
   refine AW.rseq ?_
   try simp only [wm, ↓wk, ↓wl, nq, evV, ↓reduceIte, sevalprocAttr]
   refine evTs_ifg H (by rfl) ?_ ?_ <;> clear H <;> intro H
   ·try simp only [wm, ↓wk, ↓wl, nq, evV, ↓reduceIte, sevalprocAttr]
    refine evTs_ifg H (by rfl) ?_ ?_ <;> clear H <;> intro H
    ·try simp only [wm, ↓wk, ↓wl, nq, evV, ↓reduceIte, sevalprocAttr]
     refine AW.ift (by rfl) ?_
     refine AW.rseq ?_
     try simp only [wm, ↓wk, ↓wl, nq, evV, ↓reduceIte, sevalprocAttr]
     refine AW.ret ?_
     refine blkQ.ret ?_
     refine loopQ.ret H ?_ <;> clear H <;> intro H
     try dsimp only at H
     refine blk0.ret ?_
     refine seqQ.ret ?_
     cases H
     exact hQ _ _ _ _ (.inr rfl) (by simp only [resVs, omap, resV, wm, ↓wk, ↓wl, nq, evV, ↓reduceIte, sevalprocAttr]; rfl) (hand_plain (by rfl)) (by first | exact Or.inl rfl | exact Or.inr rfl)
    ·try simp only [wm, ↓wk, ↓wl, nq, evV, ↓reduceIte, sevalprocAttr]
     refine evTs_sat H (by rfl) (by rfl) ?_ <;> clear H <;> intro b_629 H
     try simp only [wm, ↓wk, ↓wl, nq, evV, ↓reduceIte, sevalprocAttr]
     refine evTs_ifg H (by rfl) ?_ ?_ <;> clear H <;> intro H
     ·try simp only [wm, ↓wk, ↓wl, nq, evV, ↓reduceIte, sevalprocAttr]
      refine evTs_sat H (by rfl) (by rfl) ?_ <;> clear H <;> intro b_630 H
      try simp only [wm, ↓wk, ↓wl, nq, evV, ↓reduceIte, sevalprocAttr]
      refine evTs_ifg H (by rfl) ?_ ?_ <;> clear H <;> intro H
      ·try simp only [wm, ↓wk, ↓wl, nq, evV, ↓reduceIte, sevalprocAttr]
       refine AW.ift (by rfl) ?_
       refine AW.rseq ?_
       try simp only [wm, ↓wk, ↓wl, nq, evV, ↓reduceIte, sevalprocAttr]
       refine AW.ret ?_
       refine blkQ.ret ?_
       refine loopQ.ret H ?_ <;> clear H <;> intro H
       try dsimp only at H
       refine blk0.ret ?_
       refine seqQ.ret ?_
       cases H
       exact hQ _ _ _ _ (.inr rfl) (by simp only [resVs, omap, resV, wm, ↓wk, ↓wl, nq, evV, ↓reduceIte, sevalprocAttr]; rfl) (hand_plain (by rfl)) (by first | exact Or.inl rfl | exact Or.inr rfl)
      ·try simp only [wm, ↓wk, ↓wl, nq, evV, ↓reduceIte, sevalprocAttr]
       refine evTs_sat H (by rfl) (by rfl) ?_ <;> clear H <;> intro b_631 H
       try simp only [wm, ↓wk, ↓wl, nq, evV, ↓reduceIte, sevalprocAttr]
       refine AW.ifc H (by rfl) ?_ ?_ <;> clear H <;> intro H
       ·refine AW.rseq ?_
        try simp only [wm, ↓wk, ↓wl, nq, evV, ↓reduceIte, sevalprocAttr]
        refine AW.ret ?_
        refine blkQ.ret ?_
        refine loopQ.ret H ?_ <;> clear H <;> intro H
        try dsimp only at H
        refine blk0.ret ?_
        refine seqQ.ret ?_
        cases H
        exact hQ _ _ _ _ (.inr rfl) (by simp only [resVs, omap, resV, wm, ↓wk, ↓wl, nq, evV, ↓reduceIte, sevalprocAttr]; rfl) (hand_plain (by rfl)) (by first | exact Or.inl rfl | exact Or.inr rfl)
       ·refine AW.skip ?_
        refine blkQ.norm ?_
        refine AW.rend ?_
        try simp only [wm, ↓wk, ↓wl, nq, evV, ↓reduceIte, sevalprocAttr]
        exact loopQ.next H ((Le.tz [] [0, 3] (by simp only [f80_L1c, wm, wmr, rrm, ↓wk, ↓wl, evV, ↓reduceIte, sevalprocAttr] <;> rfl)))
     ·try simp only [wm, ↓wk, ↓wl, nq, evV, ↓reduceIte, sevalprocAttr]
      refine AW.iff (by rfl) ?_
      refine AW.skip ?_
      refine blkQ.norm ?_
      refine AW.rend ?_
      try simp only [wm, ↓wk, ↓wl, nq, evV, ↓reduceIte, sevalprocAttr]
      exact loopQ.next H ((Le.tz [] [0, 3] (by simp only [f80_L1c, wm, wmr, rrm, ↓wk, ↓wl, evV, ↓reduceIte, sevalprocAttr] <;> rfl)))
   ·try simp only [wm, ↓wk, ↓wl, nq, evV, ↓reduceIte, sevalprocAttr]
    refine AW.iff (by rfl) ?_
    refine AW.skip ?_
    refine blkQ.norm ?_
    refine AW.rend ?_
    try simp only [wm, ↓wk, ↓wl, nq, evV, ↓reduceIte, sevalprocAttr]
    exact loopQ.next H ((Le.tz [] [0, 3] (by simp only [f80_L1c, wm, wmr, rrm, ↓wk, ↓wl, evV, ↓reduceIte, sevalprocAttr] <;> rfl)))
  ·try simp only [wm, ↓wk, ↓wl, nq, evV, ↓reduceIte, sevalprocAttr]
   refine AW.rseq ?_
   try simp only [wm, ↓wk, ↓wl, nq, evV, ↓reduceIte, sevalprocAttr]
   refine evTs_ifg H (by rfl) ?_ ?_ <;> clear H <;> intro H
   ·try simp only [wm, ↓wk, ↓wl, nq, evV, ↓reduceIte, sevalprocAttr]
    refine AW.ift (by rfl) ?_
    refine AW.rseq ?_
    try simp only [wm, ↓wk, ↓wl, nq, evV, ↓reduceIte, sevalprocAttr]
    refine AW.ret ?_
    refine blkQ.ret ?_
    refine loopQ.ret H ?_ <;> clear H <;> intro H
    try dsimp only at H
    refine blk0.ret ?_
    refine seqQ.ret ?_
    cases H
    exact hQ _ _ _ _ (.inr rfl) (by simp only [resVs, omap, resV, wm, ↓wk, ↓wl, nq, evV, ↓reduceIte, sevalprocAttr]; rfl) (hand_plain (by rfl)) (by first | exact Or.inl rfl | exact Or.inr rfl)
   ·try simp only [wm, ↓wk, ↓wl, nq, evV, ↓reduceIte, sevalprocAttr]
    refine evTs_sat H (by rfl) (by rfl) ?_ <;> clear H <;> intro b_632 H
    try simp only [wm, ↓wk, ↓wl, nq, evV, ↓reduceIte, sevalprocAttr]
    refine evTs_ifg H (by rfl) ?_ ?_ <;> clear H <;> intro H
    ·try simp only [wm, ↓wk, ↓wl, nq, evV, ↓reduceIte, sevalprocAttr]
     refine evTs_sat H (by rfl) (by rfl) ?_ <;> clear H <;> intro b_633 H
     try simp only [wm, ↓wk, ↓wl, nq, evV, ↓reduceIte, sevalprocAttr]
     refine evTs_ifg H (by rfl) ?_ ?_ <;> clear H <;> intro H
     ·try simp only [wm, ↓wk, ↓wl, nq, evV, ↓reduceIte, sevalprocAttr]
      refine AW.ift (by rfl) ?_
      refine AW.rseq ?_
      try simp only [wm, ↓wk, ↓wl, nq, evV, ↓reduceIte, sevalprocAttr]
      refine AW.ret ?_
      refine blkQ.ret ?_
      refine loopQ.ret H ?_ <;> clear H <;> intro H
      try dsimp only at H
      refine blk0.ret ?_
      refine seqQ.ret ?_
      cases H
      exact hQ _ _ _ _ (.inr rfl) (by simp only [resVs, omap, resV, wm, ↓wk, ↓wl, nq, evV, ↓reduceIte, sevalprocAttr]; rfl) (hand_plain (by rfl)) (by first | exact Or.inl rfl | exact Or.inr rfl)
     ·try simp only [wm, ↓wk, ↓wl, nq, evV, ↓reduceIte, sevalprocAttr]
      refine evTs_sat H (by rfl) (by rfl) ?_ <;> clear H <;> intro b_634 H
      try simp only [wm, ↓wk, ↓wl, nq, evV, ↓reduceIte, sevalprocAttr]
      refine AW.ifc H (by rfl) ?_ ?_ <;> clear H <;> intro H
      ·refine AW.rseq ?_
       try simp only [wm, ↓wk, ↓wl, nq, evV, ↓reduceIte, sevalprocAttr]
       refine AW.ret ?_
       refine blkQ.ret ?_
       refine loopQ.ret H ?_ <;> clear H <;> intro H
       try dsimp only at H
       refine blk0.ret ?_
       refine seqQ.ret ?_
       cases H
       exact hQ _ _ _ _ (.inr rfl) (by simp only [resVs, omap, resV, wm, ↓wk, ↓wl, nq, evV, ↓reduceIte, sevalprocAttr]; rfl) (hand_plain (by rfl)) (by first | exact Or.inl rfl | exact Or.inr rfl)
      ·refine AW.skip ?_
       refine blkQ.norm ?_
       refine AW.rend ?_
       try simp only [wm, ↓wk, ↓wl, nq, evV, ↓reduceIte, sevalprocAttr]
       exact loopQ.next H ((Le.tz [] [0, 3] (by simp only [f80_L1c, wm, wmr, rrm, ↓wk, ↓wl, evV, ↓reduceIte, sevalprocAttr] <;> rfl)))
    ·try simp only [wm, ↓wk, ↓wl, nq, evV, ↓reduceIte, sevalprocAttr]
     refine AW.iff (by rfl) ?_
     refine AW.skip ?_
     refine blkQ.norm ?_
     refine AW.rend ?_
     try simp only [wm, ↓wk, ↓wl, nq, evV, ↓reduceIte, sevalprocAttr]
     exact loopQ.next H ((Le.tz [] [0, 3] (by simp only [f80_L1c, wm, wmr, rrm, ↓wk, ↓wl, evV, ↓reduceIte, sevalprocAttr] <;> rfl)))
 ·refine AW.exit ?_
  refine seqQ.exit ?_
  refine loopQ.exit H ?_ <;> clear H <;> intro H
  try dsimp only at H
  refine blk0.here ?_
  refine seqQ.norm ?_
  refine AW.rseq ?_
  try simp only [wm, ↓wk, ↓wl, nq, evV, ↓reduceIte, sevalprocAttr]
  refine evTs_ifg H (by rfl) ?_ ?_ <;> clear H <;> intro H
  ·try simp only [wm, ↓wk, ↓wl, nq, evV, ↓reduceIte, sevalprocAttr]
   refine AW.ret ?_
   cases H
   exact hQ _ _ _ _ (.inr rfl) (by simp only [resVs, omap, resV, wm, ↓wk, ↓wl, nq, evV, ↓reduceIte, sevalprocAttr]; rfl) (hand_plain (by rfl)) (by first | exact Or.inl rfl | exact Or.inr rfl)
  ·try simp only [wm, ↓wk, ↓wl, nq, evV, ↓reduceIte, sevalprocAttr]
   refine AW.ret ?_
   cases H
   exact hQ _ _ _ _ (.inr rfl) (by simp only [resVs, omap, resV, wm, ↓wk, ↓wl, nq, evV, ↓reduceIte, sevalprocAttr]; rfl) (hand_plain (by rfl)) (by first | exact Or.inl rfl | exact Or.inr rfl)
noncomputable def f34_L1 (profiles_636 : (List ApiProfile)) (name_637 : (List UInt8)) : Lp (Int) ((Unit) ⊕ (Int)) where
  body := fun i_641 => (if (decide (i_641 < ((profiles_636.length : Nat) : Int))) = true then (at? profiles_636 i_641).bind fun x_644 => (if (x_644.fName == name_637) = true then (some (.brk (Sum.inr i_641))) else (some (.next (IntKind.i64.wrap (i_641 + 1))))) else (some (.brk (Sum.inl ()))))
  cst := fun i_641 => ⟨put (put (put (fun _ => .junk) 5 (.int .i64 i_641)) 1 (.str name_637)) 0 (.sl 4 false (profiles_636.map eApiProfile)), []⟩
theorem f34_L1c (profiles_636 : (List ApiProfile)) (name_637 : (List UInt8)) (i_641 : Int) : (f34_L1 profiles_636 name_637).cst i_641 = ⟨put (put (put (fun _ => .junk) 5 (.int .i64 i_641)) 1 (.str name_637)) 0 (.sl 4 false (profiles_636.map eApiProfile)), []⟩ := rfl
def c34_0 : C := .cond (.t 9) (.skip) (.exit 0)
def c34_1 : C := .cond (.t 18) (.seq (.reg [iI 19 (.mv (.t 5)), iI 4 (.mv (.t 19))]) .ret) (.skip)
def c34_2 : C := .reg [iI 10 (.mv (.t 5)), iI 11 (.bin .add (.t 10) (.c (.int .i64 1))), iI 5 (.mv (.t 11))]
def c34_3 : C := .seq (.block 1 (.seq (.reg [iI 12 (.mv (.t 0)), iI 13 (.mv (.t 5)), iI 14 (.iaddr 4 (.t 12) (.t 13)), iI 15 (.faddr 0 (.t 14)), iI 16 (.load 0 (.t 15)), iI 17 (.mv (.t 1)), iI 18 (.bin .eql (.t 16) (.t 17))]) c34_1)) c34_2
def c34_4 : C := .block 0 (.loop (.seq (.seq (.reg [iI 6 (.mv (.t 5)), iI 7 (.mv (.t 0)), iI 8 (.len 0 (.t 7)), iI 9 (.bin .lss (.t 6) (.t 8))]) c34_0) c34_3))
def c34_5 : C := .seq (.reg [iI 4 (.mv (.c (.int .i64 (-1))))]) .ret
def c34_6 : C := .seq (.seq (.reg [iI 5 (.mv (.c (.int .i64 0)))]) c34_4) c34_5
def ir34 : C := .seq (.reg [iI 4 (.mv (.c (.int .i64 0)))]) c34_6
theorem fd34 : fd? Try.prog 34 = some (20, [.slot 4], ir34) := by kernel_rfl
noncomputable def f34 (profiles_636 : (List ApiProfile)) (name_637 : (List UInt8)) : Option (Int) :=
  ((Lp.run (f34_L1 profiles_636 name_637) 0).bind fun r_ => match r_ with | (Sum.inl _) => (some (-1)) | (Sum.inr v_643) => (some v_643))
theorem f34_ok {profiles_636 : (List ApiProfile)} {name_637 : (List UInt8)} {r_ : Int} (H : f34 profiles_636 name_637 = some r_) : Pure Try.prog 34 [.sl 4 false (profiles_636.map eApiProfile), .str name_637] (· = .int .i64 r_) := by
 refine Pure.walk3 fd34 none (Nat.le_of_ble_eq_true rfl) (by rfl) fun Q hQ => ?_
 simp only [f34] at H
 refine AW.rseq ?_
 try simp only [wm, ↓wk, ↓wl, nq, evV, ↓reduceIte, sevalprocAttr]
 refine AW.sseq ?_
 refine AW.rseq ?_
 try simp only [wm, ↓wk, ↓wl, nq, evV, ↓reduceIte, sevalprocAttr]
 refine AW.bend ?_
 refine AW.iter H ((Le.tz [] [0, 1, 5] (by simp only [f34_L1c, wm, wmr, rrm, ↓wk, ↓wl, evV, ↓reduceIte, sevalprocAttr] <;> rfl))) ?_ <;> clear H
 rintro i_641 x_ st0_ H hst_
 rw [f34_L1c] at hst_
 simp only [f34_L1] at H
 subst hst_
 refine AW.sseq ?_
 refine AW.rseq ?_
 try simp only [wm, ↓wk, ↓wl, nq, evV, ↓reduceIte, sevalprocAttr]
 refine AW.ifc H (by rfl) ?_ ?_ <;> clear H <;> intro H
 ·refine AW.skip ?_
  refine seqQ.norm ?_
  refine AW.bseq ?_
  refine AW.rseq ?_
  try simp only [wm, ↓wk, ↓wl, nq, evV, ↓reduceIte, sevalprocAttr]
  refine evTs_at (enc := eApiProfile) H (by rfl) (by rfl) ?_ <;> clear H <;> intro x_644 H
  try simp only [eApiProfile, eL, eM, wm, ↓wk, ↓wl, nq, evV, ↓reduceIte, sevalprocAttr]
  refine AW.ifc H (by rfl) ?_ ?_ <;> clear H <;> intro H
  ·refine AW.rseq ?_
   try simp only [wm, ↓wk, ↓wl, nq, evV, ↓reduceIte, sevalprocAttr]
   refine AW.ret ?_
   refine blkQ.ret ?_
   refine loopQ.ret H ?_ <;> clear H <;> intro H
   try dsimp only at H
   refine blk0.ret ?_
   refine seqQ.ret ?_
   cases H
   exact hQ _ _ _ _ (.inr rfl) (by simp only [resVs, omap, resV, wm, ↓wk, ↓wl, nq, evV, ↓reduceIte, sevalprocAttr]; rfl) (hand_plain (by rfl)) (by first | exact Or.inl rfl | exact Or.inr rfl)
  ·refine AW.skip ?_
   refine blkQ.norm ?_
   refine AW.rend ?_
   try simp only [wm, ↓wk, ↓wl, nq, evV, ↓reduceIte, sevalprocAttr]
   exact loopQ.next H ((Le.tz [] [0, 1, 5] (by simp only [f34_L1c, wm, wmr, rrm, ↓wk, ↓wl, evV, ↓reduceIte, sevalprocAttr] <;> rfl)))
 ·refine AW.exit ?_
  refine seqQ.exit ?_
  refine loopQ.exit H ?_ <;> clear H <;> intro H
  try dsimp only at H
  refine blk0.here ?_
  refine seqQ.norm ?_
  refine AW.rseq ?_
  try simp only [wm, ↓wk, ↓wl, nq, evV, ↓reduceIte, sevalprocAttr]
  refine AW.ret ?_
  cases H
  exact hQ _ _ _ _ (.inr rfl) (by simp only [resVs, omap, resV, wm, ↓wk, ↓wl, nq, evV, ↓reduceIte, sevalprocAttr]; rfl) (hand_plain (by rfl)) (by first | exact Or.inl rfl | exact Or.inr rfl)
noncomputable def f52_J1 (profiles_601 : (List ApiProfile)) (x_602 : ApiFixture) : Jn (Unit) (Int) where
  run := fun _ => (f34 profiles_601 x_602.fProfile).bind fun r_645 => (if (decide (r_645 < 0)) = true then (some 6) else (at? profiles_601 r_645).bind fun x_646 => (if (decide (x_646.fFootprint < 1)) = true then (some 2) else (if (decide ((IntKind.i64.wrap ((IntKind.i64.wrap (512 - x_602.fAddress)) + 1)) < x_646.fFootprint)) = true then (some 2) else (some 0))))
  cst := fun _ => ⟨put (put (fun _ => .junk) 3 (.ptr 0 0)) 0 (.sl 4 false (profiles_601.map eApiProfile)), [.cel [.int .i64 x_602.fChannel, .int .i64 x_602.fPart, .str x_602.fProfile, .int .i64 x_602.fUniverse, .int .i64 x_602.fAddress, .int .i64 x_602.fPhase, .str x_602.fCable]]⟩
theorem f52_J1c (profiles_601 : (List ApiProfile)) (x_602 : ApiFixture) (x_ : Unit) : (f52_J1 profiles_601 x_602).cst x_ = ⟨put (put (fun _ => .junk) 3 (.ptr 0 0)) 0 (.sl 4 false (profiles_601.map eApiProfile)), [.cel [.int .i64 x_602.fChannel, .int .i64 x_602.fPart, .str x_602.fProfile, .int .i64 x_602.fUniverse, .int .i64 x_602.fAddress, .int .i64 x_602.fPhase, .str x_602.fCable]]⟩ := rfl
def c52_0 : C := .cond (.t 11) (.seq (.reg [iI 12 (.mv (.t 5)), iI 4 (.mv (.t 12))]) .ret) (.skip)
def c52_1 : C := .seq (.reg [iI 10 (.mv (.t 5)), iI 11 (.bin .neq (.t 10) (.c (.int .i64 0)))]) c52_0
def c52_2 : C := .cond (.t 21) (.seq (.reg [iI 4 (.mv (.c (.int .i64 8)))]) .ret) (.skip)
def c52_3 : C := .cond (.t 27) (.seq (.reg [iI 4 (.mv (.c (.int .i64 6)))]) .ret) (.skip)
def c52_4 : C := .cond (.t 42) (.seq (.reg [iI 4 (.mv (.c (.int .i64 2)))]) .ret) (.skip)
def c52_5 : C := .seq (.reg [iI 33 (.mv (.t 7)), iI 34 (.bin .lss (.t 33) (.c (.int .i64 1))), iI 35 (.mv (.t 34)), iG (some 36) 35 false (.mv (.t 7)), iG (some 37) 35 false (.faddr 4 (.t 3)), iG (some 38) 35 false (.load 0 (.t 37)), iG (some 39) 35 false (.bin .sub (.c (.int .i64 512)) (.t 38)), iG (some 40) 35 false (.bin .add (.t 39) (.c (.int .i64 1))), iG (some 41) 35 false (.bin .gtr (.t 36) (.t 40)), iI 42 (.pick (.t 35) (.c (.bool true)) (.t 41))]) c52_4
def c52_6 : C := .seq (.reg [iI 4 (.mv (.c (.int .i64 0)))]) .ret
def c52_7 : C := .seq (.seq (.reg [iI 28 (.mv (.t 0)), iI 29 (.mv (.t 6)), iI 30 (.iaddr 4 (.t 28) (.t 29)), iI 31 (.faddr 1 (.t 30)), iI 32 (.load 0 (.t 31)), iI 7 (.mv (.t 32))]) c52_5) c52_6
def c52_8 : C := .seq (.seq (.reg [iI 26 (.mv (.t 6)), iI 27 (.bin .lss (.t 26) (.c (.int .i64 0)))]) c52_3) c52_7
def c52_9 : C := .seq (.reg [iI 22 (.mv (.t 0)), iI 23 (.faddr 2 (.t 3)), iI 24 (.load 0 (.t 23)), iI 25 (.call (.c (.fn 34 [])) [(.t 22), (.t 24)]), iI 6 (.mv (.t 25))]) c52_8
def c52_10 : C := .seq (.seq (.reg [iI 13 (.faddr 6 (.t 3)), iI 14 (.load 0 (.t 13)), iI 15 (.bin .neq (.t 14) (.c (.str []))), iI 16 (.mv (.t 15)), iG (some 17) 16 true (.faddr 6 (.t 3)), iG (some 18) 16 true (.load 0 (.t 17)), iG (some 19) 16 true (.call (.c (.fn 80 [])) [(.t 18)]), iG (some 20) 16 true (.un .not (.t 19)), iI 21 (.pick (.t 16) (.t 20) (.c (.bool false)))]) c52_2) c52_9
def c52_11 : C := .seq (.seq (.reg [iI 8 (.load 7 (.t 3)), iI 9 (.call (.c (.fn 79 [])) [(.t 8)]), iI 5 (.mv (.t 9))]) c52_1) c52_10
def ir52 : C := .seq (.reg [iI 3 (.box (.t 1)), iI 4 (.mv (.c (.int .i64 0)))]) c52_11
theorem fd52 : fd? Try.prog 52 = some (43, [.slot 4], ir52) := by kernel_rfl
noncomputable def f52 (profiles_601 : (List ApiProfile)) (x_602 : ApiFixture) : Option (Int) :=
  (f79 x_602).bind fun r_605 => (if (decide (r_605 ≠ 0)) = true then (some r_605) else (if (!(x_602.fCable == ([]))) = true then (f80 x_602.fCable).bind fun r_647 => (if (!r_647) = true then (some 8) else ((f52_J1 profiles_601 x_602).run ())) else ((f52_J1 profiles_601 x_602).run ())))
theorem f52_ok {profiles_601 : (List ApiProfile)} {x_602 : ApiFixture} {r_ : Int} (H : f52 profiles_601 x_602 = some r_) : Pure Try.prog 52 [.sl 4 false (profiles_601.map eApiProfile), .agg [.int .i64 x_602.fChannel, .int .i64 x_602.fPart, .str x_602.fProfile, .int .i64 x_602.fUniverse, .int .i64 x_602.fAddress, .int .i64 x_602.fPhase, .str x_602.fCable]] (· = .int .i64 r_) := by
 refine Pure.walk3 fd52 none (Nat.le_of_ble_eq_true rfl) (by rfl) fun Q hQ => ?_
 simp only [f52] at H
 refine AW.rseq ?_
 try simp only [wm, ↓wk, ↓wl, nq, evV, ↓reduceIte, sevalprocAttr]
 refine AW.sseq ?_
 refine AW.rseq ?_
 try simp only [wm, ↓wk, ↓wl, nq, evV, ↓reduceIte, sevalprocAttr]
 refine evTs_pure hFn H (fun _ h => f79_ok h) (by rfl) (by rfl) (by rfl) (by rfl) (fun _ => rfl) ?_ <;> clear H <;> intro r_605 H
 try simp only [eL, wm, ↓wk, ↓wl, nq, evV, ↓reduceIte, sevalprocAttr]
 refine AW.rseq ?_
 try simp only [wm, ↓wk, ↓wl, nq, evV, ↓reduceIte, sevalprocAttr]
 refine AW.ifc H (by rfl) ?_ ?_ <;> clear H <;> intro H
 ·refine AW.rseq ?_
  try simp only [wm, ↓wk, ↓wl, nq, evV, ↓reduceIte, sevalprocAttr]
  refine AW.ret ?_
  refine seqQ.ret ?_
  cases H
  exact hQ _ _ _ _ (.inr rfl) (by simp only [resVs, omap, resV, wm, ↓wk, ↓wl, nq, evV, ↓reduceIte, sevalprocAttr]; rfl) (hand_plain (by rfl)) (by first | exact Or.inl rfl | exact Or.inr rfl)
 ·refine AW.skip ?_
  refine seqQ.norm ?_
  refine AW.join (f52_J1 profiles_601 x_602) H ?_ fun hf52_J1 => ?_
  ·clear H
   rintro _ st0_ H hst_
   rw [f52_J1c] at hst_
   simp only [f52_J1] at H
   subst hst_
   refine AW.rseq ?_
   try simp only [wm, ↓wk, ↓wl, nq, evV, ↓reduceIte, sevalprocAttr]
   refine evTs_pure hFn H (fun _ h => f34_ok h) (by rfl) (by rfl) (by rfl) (by rfl) (fun _ => rfl) ?_ <;> clear H <;> intro r_645 H
   try simp only [eL, wm, ↓wk, ↓wl, nq, evV, ↓reduceIte, sevalprocAttr]
   refine AW.sseq ?_
   refine AW.rseq ?_
   try simp only [wm, ↓wk, ↓wl, nq, evV, ↓reduceIte, sevalprocAttr]
   refine AW.ifc H (by rfl) ?_ ?_ <;> clear H <;> intro H
   ·refine AW.rseq ?_
    try simp only [wm, ↓wk, ↓wl, nq, evV, ↓reduceIte, sevalprocAttr]
    refine AW.ret ?_
    refine seqQ.ret ?_
    cases H
    exact hQ _ _ _ _ (.inr rfl) (by simp only [resVs, omap, resV, wm, ↓wk, ↓wl, nq, evV, ↓reduceIte, sevalprocAttr]; rfl) (hand_plain (by rfl)) (by first | exact Or.inl rfl | exact Or.inr rfl)
   ·refine AW.skip ?_
    refine seqQ.norm ?_
    refine AW.sseq ?_
    refine AW.rseq ?_
    try simp only [wm, ↓wk, ↓wl, nq, evV, ↓reduceIte, sevalprocAttr]
    refine evTs_at (enc := eApiProfile) H (by rfl) (by rfl) ?_ <;> clear H <;> intro x_646 H
    try simp only [eApiProfile, eL, eM, wm, ↓wk, ↓wl, nq, evV, ↓reduceIte, sevalprocAttr]
    refine AW.rseq ?_
    try simp only [wm, ↓wk, ↓wl, nq, evV, ↓reduceIte, sevalprocAttr]
    refine evTs_ifg H (by rfl) ?_ ?_ <;> clear H <;> intro H
    ·try simp only [wm, ↓wk, ↓wl, nq, evV, ↓reduceIte, sevalprocAttr]
     refine AW.ift (by rfl) ?_
     refine AW.rseq ?_
     try simp only [wm, ↓wk, ↓wl, nq, evV, ↓reduceIte, sevalprocAttr]
     refine AW.ret ?_
     refine seqQ.ret ?_
     cases H
     exact hQ _ _ _ _ (.inr rfl) (by simp only [resVs, omap, resV, wm, ↓wk, ↓wl, nq, evV, ↓reduceIte, sevalprocAttr]; rfl) (hand_plain (by rfl)) (by first | exact Or.inl rfl | exact Or.inr rfl)
    ·try simp only [wm, ↓wk, ↓wl, nq, evV, ↓reduceIte, sevalprocAttr]
     refine AW.ifc H (by rfl) ?_ ?_ <;> clear H <;> intro H
     ·refine AW.rseq ?_
      try simp only [wm, ↓wk, ↓wl, nq, evV, ↓reduceIte, sevalprocAttr]
      refine AW.ret ?_
      refine seqQ.ret ?_
      cases H
      exact hQ _ _ _ _ (.inr rfl) (by simp only [resVs, omap, resV, wm, ↓wk, ↓wl, nq, evV, ↓reduceIte, sevalprocAttr]; rfl) (hand_plain (by rfl)) (by first | exact Or.inl rfl | exact Or.inr rfl)
     ·refine AW.skip ?_
      refine seqQ.norm ?_
      refine AW.rseq ?_
      try simp only [wm, ↓wk, ↓wl, nq, evV, ↓reduceIte, sevalprocAttr]
      refine AW.ret ?_
      cases H
      exact hQ _ _ _ _ (.inr rfl) (by simp only [resVs, omap, resV, wm, ↓wk, ↓wl, nq, evV, ↓reduceIte, sevalprocAttr]; rfl) (hand_plain (by rfl)) (by first | exact Or.inl rfl | exact Or.inr rfl)
  ·refine AW.rseq ?_
   try simp only [wm, ↓wk, ↓wl, nq, evV, ↓reduceIte, sevalprocAttr]
   refine evTs_ifg H (by rfl) ?_ ?_ <;> clear H <;> intro H
   ·try simp only [wm, ↓wk, ↓wl, nq, evV, ↓reduceIte, sevalprocAttr]
    refine evTs_pure hFn H (fun _ h => f80_ok h) (by rfl) (by rfl) (by rfl) (by rfl) (fun _ => rfl) ?_ <;> clear H <;> intro r_647 H
    try simp only [eL, wm, ↓wk, ↓wl, nq, evV, ↓reduceIte, sevalprocAttr]
    refine AW.ifc H (by rfl) ?_ ?_ <;> clear H <;> intro H
    ·refine AW.rseq ?_
     try simp only [wm, ↓wk, ↓wl, nq, evV, ↓reduceIte, sevalprocAttr]
     refine AW.ret ?_
     refine seqQ.ret ?_
     cases H
     exact hQ _ _ _ _ (.inr rfl) (by simp only [resVs, omap, resV, wm, ↓wk, ↓wl, nq, evV, ↓reduceIte, sevalprocAttr]; rfl) (hand_plain (by rfl)) (by first | exact Or.inl rfl | exact Or.inr rfl)
    ·refine AW.skip ?_
     refine seqQ.norm ?_
     exact hf52_J1 _ _ H ((Le.tz [0] [0, 3] (by simp only [f52_J1c, wm, wmr, rrm, ↓wk, ↓wl, evV, ↓reduceIte, sevalprocAttr] <;> rfl)))
   ·try simp only [wm, ↓wk, ↓wl, nq, evV, ↓reduceIte, sevalprocAttr]
    refine AW.iff (by rfl) ?_
    refine AW.skip ?_
    refine seqQ.norm ?_
    exact hf52_J1 _ _ H ((Le.tz [0] [0, 3] (by simp only [f52_J1c, wm, wmr, rrm, ↓wk, ↓wl, evV, ↓reduceIte, sevalprocAttr] <;> rfl)))
def c81_0 : C := .seq (.reg [iI 5 (.mv (.t 0)), iI 6 (.mv (.t 0)), iI 7 (.faddr 2 (.t 3)), iI 8 (.load 0 (.t 7)), iI 9 (.call (.c (.fn 34 [])) [(.t 6), (.t 8)]), iI 10 (.iaddr 4 (.t 5) (.t 9)), iI 11 (.faddr 1 (.t 10)), iI 12 (.load 0 (.t 11)), iI 4 (.mv (.t 12))]) .ret
def ir81 : C := .seq (.reg [iI 3 (.box (.t 1)), iI 4 (.mv (.c (.int .i64 0)))]) c81_0
theorem fd81 : fd? Try.prog 81 = some (13, [.slot 4], ir81) := by kernel_rfl
noncomputable def f81 (profiles_689 : (List ApiProfile)) (x_690 : ApiFixture) : Option (Int) :=
  (f34 profiles_689 x_690.fProfile).bind fun r_691 => (at? profiles_689 r_691).bind fun x_692 => (some x_692.fFootprint)
theorem f81_ok {profiles_689 : (List ApiProfile)} {x_690 : ApiFixture} {r_ : Int} (H : f81 profiles_689 x_690 = some r_) : Pure Try.prog 81 [.sl 4 false (profiles_689.map eApiProfile), .agg [.int .i64 x_690.fChannel, .int .i64 x_690.fPart, .str x_690.fProfile, .int .i64 x_690.fUniverse, .int .i64 x_690.fAddress, .int .i64 x_690.fPhase, .str x_690.fCable]] (· = .int .i64 r_) := by
 refine Pure.walk3 fd81 none (Nat.le_of_ble_eq_true rfl) (by rfl) fun Q hQ => ?_
 simp only [f81] at H
 refine AW.rseq ?_
 try simp only [wm, ↓wk, ↓wl, nq, evV, ↓reduceIte, sevalprocAttr]
 refine AW.rseq ?_
 try simp only [wm, ↓wk, ↓wl, nq, evV, ↓reduceIte, sevalprocAttr]
 refine evTs_pure hFn H (fun _ h => f34_ok h) (by rfl) (by rfl) (by rfl) (by rfl) (fun _ => rfl) ?_ <;> clear H <;> intro r_691 H
 try simp only [eL, wm, ↓wk, ↓wl, nq, evV, ↓reduceIte, sevalprocAttr]
 refine evTs_at (enc := eApiProfile) H (by rfl) (by rfl) ?_ <;> clear H <;> intro x_692 H
 try simp only [eApiProfile, eL, eM, wm, ↓wk, ↓wl, nq, evV, ↓reduceIte, sevalprocAttr]
 refine AW.ret ?_
 cases H
 exact hQ _ _ _ _ (.inr rfl) (by simp only [resVs, omap, resV, wm, ↓wk, ↓wl, nq, evV, ↓reduceIte, sevalprocAttr]; rfl) (hand_plain (by rfl)) (by first | exact Or.inl rfl | exact Or.inr rfl)
def c53_0 : C := .seq (.regq [iI 7 (.faddr 3 (.t 4)), iI 8 (.load 0 (.t 7)), iI 9 (.faddr 3 (.t 5)), iI 10 (.load 0 (.t 9)), iI 11 (.bin .eql (.t 8) (.t 10)), iI 12 (.mv (.t 11)), iG (some 13) 12 true (.faddr 4 (.t 4)), iG (some 14) 12 true (.load 0 (.t 13)), iG (some 15) 12 true (.faddr 4 (.t 5)), iG (some 16) 12 true (.load 0 (.t 15)), iG (some 17) 12 true (.mv (.t 0)), iG (some 18) 12 true (.load 7 (.t 5)), iG (some 19) 12 true (.call (.c (.fn 81 [])) [(.t 17), (.t 18)]), iG (some 20) 12 true (.bin .add (.t 16) (.t 19)), iG (some 21) 12 true (.bin .lss (.t 14) (.t 20)), iI 22 (.pick (.t 12) (.t 21) (.c (.bool false))), iI 23 (.mv (.t 22)), iG (some 24) 23 true (.faddr 4 (.t 5)), iG (some 25) 23 true (.load 0 (.t 24)), iG (some 26) 23 true (.faddr 4 (.t 4)), iG (some 27) 23 true (.load 0 (.t 26)), iG (some 28) 23 true (.mv (.t 0)), iG (some 29) 23 true (.load 7 (.t 4)), iG (some 30) 23 true (.call (.c (.fn 81 [])) [(.t 28), (.t 29)]), iG (some 31) 23 true (.bin .add (.t 27) (.t 30)), iG (some 32) 23 true (.bin .lss (.t 25) (.t 31)), iI 33 (.pick (.t 23) (.t 32) (.c (.bool false))), iI 6 (.mv (.t 33))]) .ret
def ir53 : C := .seq (.reg [iI 4 (.box (.t 1)), iI 5 (.box (.t 2)), iI 6 (.mv (.c (.bool false)))]) c53_0
theorem fd53 : fd? Try.prog 53 = some (34, [.slot 6], ir53) := by kernel_rfl
noncomputable def f53 (profiles_686 : (List ApiProfile)) (x_687 : ApiFixture) (y_688 : ApiFixture) : Option (Bool) :=
  (if (decide (x_687.fUniverse = y_688.fUniverse)) = true then (f81 profiles_686 y_688).bind fun r_693 => (if (decide (x_687.fAddress < (IntKind.i64.wrap (y_688.fAddress + r_693)))) = true then (f81 profiles_686 x_687).bind fun r_694 => (some (decide (y_688.fAddress < (IntKind.i64.wrap (x_687.fAddress + r_694))))) else (some false)) else (some false))
theorem f53_ok {profiles_686 : (List ApiProfile)} {x_687 : ApiFixture} {y_688 : ApiFixture} {r_ : Bool} (H : f53 profiles_686 x_687 y_688 = some r_) : Pure Try.prog 53 [.sl 4 false (profiles_686.map eApiProfile), .agg [.int .i64 x_687.fChannel, .int .i64 x_687.fPart, .str x_687.fProfile, .int .i64 x_687.fUniverse, .int .i64 x_687.fAddress, .int .i64 x_687.fPhase, .str x_687.fCable], .agg [.int .i64 y_688.fChannel, .int .i64 y_688.fPart, .str y_688.fProfile, .int .i64 y_688.fUniverse, .int .i64 y_688.fAddress, .int .i64 y_688.fPhase, .str y_688.fCable]] (· = .bool r_) := by
 refine Pure.walk3 fd53 none (Nat.le_of_ble_eq_true rfl) (by rfl) fun Q hQ => ?_
 simp only [f53] at H
 refine AW.rseq ?_
 try simp only [wm, ↓wk, ↓wl, nq, evV, ↓reduceIte, sevalprocAttr]
 refine AW.rqseq ?_
 try simp only [wm, ↓wk, ↓wl, nq, evV, ↓reduceIte, sevalprocAttr]
 refine evTs_ifg H (by rfl) ?_ ?_ <;> clear H <;> intro H
 ·try simp only [wm, ↓wk, ↓wl, nq, evV, ↓reduceIte, sevalprocAttr]
  refine evTs_pure hFnq H (fun _ h => f81_ok h) (by rfl) (by rfl) (by rfl) (by rfl) (fun _ => rfl) ?_ <;> clear H <;> intro r_693 H
  try simp only [eL, wm, ↓wk, ↓wl, nq, evV, ↓reduceIte, sevalprocAttr]
  refine evTs_ifg H (by rfl) ?_ ?_ <;> clear H <;> intro H
  ·try simp only [wm, ↓wk, ↓wl, nq, evV, ↓reduceIte, sevalprocAttr]
   refine evTs_pure hFnq H (fun _ h => f81_ok h) (by rfl) (by rfl) (by rfl) (by rfl) (fun _ => rfl) ?_ <;> clear H <;> intro r_694 H
   try simp only [eL, wm, ↓wk, ↓wl, nq, evV, ↓reduceIte, sevalprocAttr]
   refine AW.ret ?_
   cases H
   exact hQ _ _ _ _ (.inr rfl) (by simp only [resVs, omap, resV, wm, ↓wk, ↓wl, nq, evV, ↓reduceIte, sevalprocAttr]; rfl) (hand_plain (by rfl)) (by first | exact Or.inl rfl | exact Or.inr rfl)
  ·try simp only [wm, ↓wk, ↓wl, nq, evV, ↓reduceIte, sevalprocAttr]
   refine AW.ret ?_
   cases H
   exact hQ _ _ _ _ (.inr rfl) (by simp only [resVs, omap, resV, wm, ↓wk, ↓wl, nq, evV, ↓reduceIte, sevalprocAttr]; rfl) (hand_plain (by rfl)) (by first | exact Or.inl rfl | exact Or.inr rfl)
 ·try simp only [wm, ↓wk, ↓wl, nq, evV, ↓reduceIte, sevalprocAttr]
  refine AW.ret ?_
  cases H
  exact hQ _ _ _ _ (.inr rfl) (by simp only [resVs, omap, resV, wm, ↓wk, ↓wl, nq, evV, ↓reduceIte, sevalprocAttr]; rfl) (hand_plain (by rfl)) (by first | exact Or.inl rfl | exact Or.inr rfl)
noncomputable def f17_L3 (i_704 : Int) (l_598 : (List ApiFixture)) (profiles_599 : (List ApiProfile)) : Lp (Int) ((Unit) ⊕ (Unit)) where
  body := fun k_788 => (if (decide (k_788 < i_704)) = true then (at? l_598 k_788).bind fun x_792 => (at? l_598 i_704).bind fun x_793 => (f53 profiles_599 x_792 x_793).bind fun r_794 => (if r_794 = true then (some (.brk (Sum.inr ()))) else (some (.next (IntKind.i64.wrap (k_788 + 1))))) else (some (.brk (Sum.inl ()))))
  cst := fun k_788 => ⟨put (put (put (put (fun _ => .junk) 8 (.int .i64 k_788)) 5 (.int .i64 i_704)) 1 (.sl 4 false (profiles_599.map eApiProfile))) 0 (.sl 7 false (l_598.map eApiFixture)), []⟩
theorem f17_L3c (i_704 : Int) (l_598 : (List ApiFixture)) (profiles_599 : (List ApiProfile)) (k_788 : Int) : (f17_L3 i_704 l_598 profiles_599).cst k_788 = ⟨put (put (put (put (fun _ => .junk) 8 (.int .i64 k_788)) 5 (.int .i64 i_704)) 1 (.sl 4 false (profiles_599.map eApiProfile))) 0 (.sl 7 false (l_598.map eApiFixture)), []⟩ := rfl
noncomputable def f17_L2 (i_704 : Int) (l_598 : (List ApiFixture)) (profiles_599 : (List ApiProfile)) : Lp (Int) ((Unit) ⊕ (Unit)) where
  body := fun k_776 => (if (decide (k_776 < i_704)) = true then (at? l_598 k_776).bind fun x_806 => (at? l_598 i_704).bind fun x_807 => (if (decide (x_806.fChannel = x_807.fChannel)) = true then (at? l_598 k_776).bind fun x_808 => (at? l_598 i_704).bind fun x_809 => (if (decide (x_808.fPart = x_809.fPart)) = true then (some (.brk (Sum.inr ()))) else (some (.next (IntKind.i64.wrap (k_776 + 1))))) else (some (.next (IntKind.i64.wrap (k_776 + 1))))) else (some (.brk (Sum.inl ()))))
  cst := fun k_776 => ⟨put (put (put (put (fun _ => .junk) 7 (.int .i64 k_776)) 5 (.int .i64 i_704)) 1 (.sl 4 false (profiles_599.map eApiProfile))) 0 (.sl 7 false (l_598.map eApiFixture)), []⟩
theorem f17_L2c (i_704 : Int) (l_598 : (List ApiFixture)) (profiles_599 : (List ApiProfile)) (k_776 : Int) : (f17_L2 i_704 l_598 profiles_599).cst k_776 = ⟨put (put (put (put (fun _ => .junk) 7 (.int .i64 k_776)) 5 (.int .i64 i_704)) 1 (.sl 4 false (profiles_599.map eApiProfile))) 0 (.sl 7 false (l_598.map eApiFixture)), []⟩ := rfl
noncomputable def f17_L1 (l_598 : (List ApiFixture)) (profiles_599 : (List ApiProfile)) : Lp (Int) ((Unit) ⊕ (Int)) where
  body := fun i_704 => (if (decide (i_704 < ((l_598.length : Nat) : Int))) = true then (at? l_598 i_704).bind fun x_751 => (f52 profiles_599 x_751).bind fun r_752 => (if (decide (r_752 ≠ 0)) = true then (some (.brk (Sum.inr r_752))) else ((Lp.run (f17_L2 i_704 l_598 profiles_599) 0).bind fun r_ => match r_ with | (Sum.inl _) => ((Lp.run (f17_L3 i_704 l_598 profiles_599) 0).bind fun r_ => match r_ with | (Sum.inl _) => (some (.next (IntKind.i64.wrap (i_704 + 1)))) | (Sum.inr _) => (some (.brk (Sum.inr 10)))) | (Sum.inr _) => (some (.brk (Sum.inr 7))))) else (some (.brk (Sum.inl ()))))
  cst := fun i_704 => ⟨put (put (put (fun _ => .junk) 5 (.int .i64 i_704)) 1 (.sl 4 false (profiles_599.map eApiProfile))) 0 (.sl 7 false (l_598.map eApiFixture)), []⟩
theorem f17_L1c (l_598 : (List ApiFixture)) (profiles_599 : (List ApiProfile)) (i_704 : Int) : (f17_L1 l_598 profiles_599).cst i_704 = ⟨put (put (put (fun _ => .junk) 5 (.int .i64 i_704)) 1 (.sl 4 false (profiles_599.map eApiProfile))) 0 (.sl 7 false (l_598.map eApiFixture)), []⟩ := rfl
def c17_0 : C := .cond (.t 16) (.seq (.reg [iI 4 (.mv (.c (.int .i64 5)))]) .ret) (.skip)
def c17_1 : C := .cond (.t 20) (.skip) (.exit 0)
def c17_2 : C := .cond (.t 30) (.seq (.reg [iI 31 (.mv (.t 6)), iI 4 (.mv (.t 31))]) .ret) (.skip)
def c17_3 : C := .seq (.reg [iI 29 (.mv (.t 6)), iI 30 (.bin .neq (.t 29) (.c (.int .i64 0)))]) c17_2
def c17_4 : C := .cond (.t 34) (.skip) (.exit 2)
def c17_5 : C := .cond (.t 60) (.seq (.reg [iI 4 (.mv (.c (.int .i64 7)))]) .ret) (.skip)
def c17_6 : C := .reg [iI 35 (.mv (.t 7)), iI 36 (.bin .add (.t 35) (.c (.int .i64 1))), iI 7 (.mv (.t 36))]
def c17_7 : C := .seq (.block 3 (.seq (.reg [iI 37 (.mv (.t 0)), iI 38 (.mv (.t 7)), iI 39 (.iaddr 7 (.t 37) (.t 38)), iI 40 (.faddr 0 (.t 39)), iI 41 (.load 0 (.t 40)), iI 42 (.mv (.t 0)), iI 43 (.mv (.t 5)), iI 44 (.iaddr 7 (.t 42) (.t 43)), iI 45 (.faddr 0 (.t 44)), iI 46 (.load 0 (.t 45)), iI 47 (.bin .eql (.t 41) (.t 46)), iI 48 (.mv (.t 47)), iG (some 49) 48 true (.mv (.t 0)), iG (some 50) 48 true (.mv (.t 7)), iG (some 51) 48 true (.iaddr 7 (.t 49) (.t 50)), iG (some 52) 48 true (.faddr 1 (.t 51)), iG (some 53) 48 true (.load 0 (.t 52)), iG (some 54) 48 true (.mv (.t 0)), iG (some 55) 48 true (.mv (.t 5)), iG (some 56) 48 true (.iaddr 7 (.t 54) (.t 55)), iG (some 57) 48 true (.faddr 1 (.t 56)), iG (some 58) 48 true (.load 0 (.t 57)), iG (some 59) 48 true (.bin .eql (.t 53) (.t 58)), iI 60 (.pick (.t 48) (.t 59) (.c (.bool false)))]) c17_5)) c17_6
def c17_8 : C := .block 2 (.loop (.seq (.seq (.reg [iI 32 (.mv (.t 7)), iI 33 (.mv (.t 5)), iI 34 (.bin .lss (.t 32) (.t 33))]) c17_4) c17_7))
def c17_9 : C := .cond (.t 63) (.skip) (.exit 4)
def c17_10 : C := .cond (.t 75) (.seq (.reg [iI 4 (.mv (.c (.int .i64 10)))]) .ret) (.skip)
def c17_11 : C := .reg [iI 64 (.mv (.t 8)), iI 65 (.bin .add (.t 64) (.c (.int .i64 1))), iI 8 (.mv (.t 65))]
def c17_12 : C := .seq (.block 5 (.seq (.reg [iI 66 (.mv (.t 1)), iI 67 (.mv (.t 0)), iI 68 (.mv (.t 8)), iI 69 (.iaddr 7 (.t 67) (.t 68)), iI 70 (.load 7 (.t 69)), iI 71 (.mv (.t 0)), iI 72 (.mv (.t 5)), iI 73 (.iaddr 7 (.t 71) (.t 72)), iI 74 (.load 7 (.t 73)), iI 75 (.call (.c (.fn 53 [])) [(.t 66), (.t 70), (.t 74)])]) c17_10)) c17_11
def c17_13 : C := .block 4 (.loop (.seq (.seq (.reg [iI 61 (.mv (.t 8)), iI 62 (.mv (.t 5)), iI 63 (.bin .lss (.t 61) (.t 62))]) c17_9) c17_12))
def c17_14 : C := .seq (.reg [iI 8 (.mv (.c (.int .i64 0)))]) c17_13
def c17_15 : C := .seq (.seq (.reg [iI 7 (.mv (.c (.int .i64 0)))]) c17_8) c17_14
def c17_16 : C := .reg [iI 21 (.mv (.t 5)), iI 22 (.bin .add (.t 21) (.c (.int .i64 1))), iI 5 (.mv (.t 22))]
def c17_17 : C := .seq (.block 1 (.seq (.seq (.reg [iI 23 (.mv (.t 1)), iI 24 (.mv (.t 0)), iI 25 (.mv (.t 5)), iI 26 (.iaddr 7 (.t 24) (.t 25)), iI 27 (.load 7 (.t 26)), iI 28 (.call (.c (.fn 52 [])) [(.t 23), (.t 27)]), iI 6 (.mv (.t 28))]) c17_3) c17_15)) c17_16
def c17_18 : C := .block 0 (.loop (.seq (.seq (.reg [iI 17 (.mv (.t 5)), iI 18 (.mv (.t 0)), iI 19 (.len 0 (.t 18)), iI 20 (.bin .lss (.t 17) (.t 19))]) c17_1) c17_17))
def c17_19 : C := .seq (.reg [iI 4 (.mv (.c (.int .i64 0)))]) .ret
def c17_20 : C := .seq (.seq (.reg [iI 5 (.mv (.c (.int .i64 0)))]) c17_18) c17_19
def c17_21 : C := .seq (.seq (.reg [iI 9 (.mv (.t 1)), iI 10 (.len 0 (.t 9)), iI 11 (.bin .gtr (.t 10) (.c (.int .i64 32))), iI 12 (.mv (.t 11)), iG (some 13) 12 false (.mv (.t 0)), iG (some 14) 12 false (.len 0 (.t 13)), iG (some 15) 12 false (.bin .gtr (.t 14) (.c (.int .i64 64))), iI 16 (.pick (.t 12) (.c (.bool true)) (.t 15))]) c17_0) c17_20
def ir17 : C := .seq (.reg [iI 4 (.mv (.c (.int .i64 0)))]) c17_21
theorem fd17 : fd? Try.prog 17 = some (76, [.slot 4], ir17) := by kernel_rfl
noncomputable def f17 (l_598 : (List ApiFixture)) (profiles_599 : (List ApiProfile)) : Option (Int) :=
  (if (decide (32 < ((profiles_599.length : Nat) : Int))) = true then (some 5) else (if (decide (64 < ((l_598.length : Nat) : Int))) = true then (some 5) else ((Lp.run (f17_L1 l_598 profiles_599) 0).bind fun r_ => match r_ with | (Sum.inl _) => (some 0) | (Sum.inr v_748) => (some v_748))))
theorem f17_ok {l_598 : (List ApiFixture)} {profiles_599 : (List ApiProfile)} {r_ : Int} (H : f17 l_598 profiles_599 = some r_) : Pure Try.prog 17 [.sl 7 false (l_598.map eApiFixture), .sl 4 false (profiles_599.map eApiProfile)] (· = .int .i64 r_) := by
 refine Pure.walk3 fd17 none (Nat.le_of_ble_eq_true rfl) (by rfl) fun Q hQ => ?_
 simp only [f17] at H
 refine AW.rseq ?_
 try simp only [wm, ↓wk, ↓wl, nq, evV, ↓reduceIte, sevalprocAttr]
 refine AW.sseq ?_
 refine AW.rseq ?_
 try simp only [wm, ↓wk, ↓wl, nq, evV, ↓reduceIte, sevalprocAttr]
 refine evTs_ifg H (by rfl) ?_ ?_ <;> clear H <;> intro H
 ·try simp only [wm, ↓wk, ↓wl, nq, evV, ↓reduceIte, sevalprocAttr]
  refine AW.ift (by rfl) ?_
  refine AW.rseq ?_
  try simp only [wm, ↓wk, ↓wl, nq, evV, ↓reduceIte, sevalprocAttr]
  refine AW.ret ?_
  refine seqQ.ret ?_
  cases H
  exact hQ _ _ _ _ (.inr rfl) (by simp only [resVs, omap, resV, wm, ↓wk, ↓wl, nq, evV, ↓reduceIte, sevalprocAttr]; rfl) (hand_plain (by rfl)) (by first | exact Or.inl rfl | exact Or.inr rfl)
 ·try simp only [wm, ↓wk, ↓wl, nq, evV, ↓reduceIte, sevalprocAttr]
  refine AW.ifc H (by rfl) ?_ ?_ <;> clear H <;> intro H
  ·refine AW.rseq ?_
   try simp only [wm, ↓wk, ↓wl, nq, evV, ↓reduceIte, sevalprocAttr]
   refine AW.ret ?_
   refine seqQ.ret ?_
   cases H
   exact hQ _ _ _ _ (.inr rfl) (by simp only [resVs, omap, resV, wm, ↓wk, ↓wl, nq, evV, ↓reduceIte, sevalprocAttr]; rfl) (hand_plain (by rfl)) (by first | exact Or.inl rfl | exact Or.inr rfl)
  ·refine AW.skip ?_
   refine seqQ.norm ?_
   refine AW.sseq ?_
   refine AW.rseq ?_
   try simp only [wm, ↓wk, ↓wl, nq, evV, ↓reduceIte, sevalprocAttr]
   refine AW.bend ?_
   refine AW.iter H ((Le.tz [] [0, 1, 5] (by simp only [f17_L1c, wm, wmr, rrm, ↓wk, ↓wl, evV, ↓reduceIte, sevalprocAttr] <;> rfl))) ?_ <;> clear H
   rintro i_704 x_ st0_ H hst_
   rw [f17_L1c] at hst_
   simp only [f17_L1] at H
   subst hst_
   refine AW.sseq ?_
   refine AW.rseq ?_
   try simp only [wm, ↓wk, ↓wl, nq, evV, ↓reduceIte, sevalprocAttr]
   refine AW.ifc H (by rfl) ?_ ?_ <;> clear H <;> intro H
   ·refine AW.skip ?_
    refine seqQ.norm ?_
    refine AW.bseq ?_
    refine AW.sseq ?_
    refine AW.rseq ?_
    try simp only [wm, ↓wk, ↓wl, nq, evV, ↓reduceIte, sevalprocAttr]
    refine evTs_at (enc := eApiFixture) H (by rfl) (by rfl) ?_ <;> clear H <;> intro x_751 H
    try simp only [eApiFixture, eL, eM, wm, ↓wk, ↓wl, nq, evV, ↓reduceIte, sevalprocAttr]
    refine evTs_pure hFn H (fun _ h => f52_ok h) (by rfl) (by rfl) (by rfl) (by rfl) (fun _ => rfl) ?_ <;> clear H <;> intro r_752 H
    try simp only [eL, wm, ↓wk, ↓wl, nq, evV, ↓reduceIte, sevalprocAttr]
    refine AW.rseq ?_
    try simp only [wm, ↓wk, ↓wl, nq, evV, ↓reduceIte, sevalprocAttr]
    refine AW.ifc H (by rfl) ?_ ?_ <;> clear H <;> intro H
    ·refine AW.rseq ?_
     try simp only [wm, ↓wk, ↓wl, nq, evV, ↓reduceIte, sevalprocAttr]
     refine AW.ret ?_
     refine seqQ.ret ?_
     refine blkQ.ret ?_
     refine loopQ.ret H ?_ <;> clear H <;> intro H
     try dsimp only at H
     refine blk0.ret ?_
     refine seqQ.ret ?_
     cases H
     exact hQ _ _ _ _ (.inr rfl) (by simp only [resVs, omap, resV, wm, ↓wk, ↓wl, nq, evV, ↓reduceIte, sevalprocAttr]; rfl) (hand_plain (by rfl)) (by first | exact Or.inl rfl | exact Or.inr rfl)
    ·refine AW.skip ?_
     refine seqQ.norm ?_
     refine AW.sseq ?_
     refine AW.rseq ?_
     try simp only [wm, ↓wk, ↓wl, nq, evV, ↓reduceIte, sevalprocAttr]
     refine AW.bend ?_
     refine AW.iter H ((Le.tz [] [0, 1, 5, 7] (by simp only [f17_L2c, wm, wmr, rrm, ↓wk, ↓wl, evV, ↓reduceIte, sevalprocAttr] <;> rfl))) ?_ <;> clear H
     rintro k_776 x_ st0_ H hst_
     rw [f17_L2c] at hst_
     simp only [f17_L2] at H
     subst hst_
     refine AW.sseq ?_
     refine AW.rseq ?_
     try simp only [wm, ↓wk, ↓wl, nq, evV, ↓reduceIte, sevalprocAttr]
     refine AW.ifc H (by rfl) ?_ ?_ <;> clear H <;> intro H
     ·refine AW.skip ?_
      refine seqQ.norm ?_
      refine AW.bseq ?_
      refine AW.rseq ?_
      try simp only [wm, ↓wk, ↓wl, nq, evV, ↓reduceIte, sevalprocAttr]
      refine evTs_at (enc := eApiFixture) H (by rfl) (by rfl) ?_ <;> clear H <;> intro x_806 H
      try simp only [eApiFixture, eL, eM, wm, ↓wk, ↓wl, nq, evV, ↓reduceIte, sevalprocAttr]
      refine evTs_at (enc := eApiFixture) H (by rfl) (by rfl) ?_ <;> clear H <;> intro x_807 H
      try simp only [eApiFixture, eL, eM, wm, ↓wk, ↓wl, nq, evV, ↓reduceIte, sevalprocAttr]
      refine evTs_ifg H (by rfl) ?_ ?_ <;> clear H <;> intro H
      ·try simp only [wm, ↓wk, ↓wl, nq, evV, ↓reduceIte, sevalprocAttr]
       refine evTs_at (enc := eApiFixture) H (by rfl) (by rfl) ?_ <;> clear H <;> intro x_808 H
       try simp only [eApiFixture, eL, eM, wm, ↓wk, ↓wl, nq, evV, ↓reduceIte, sevalprocAttr]
       refine evTs_at (enc := eApiFixture) H (by rfl) (by rfl) ?_ <;> clear H <;> intro x_809 H
       try simp only [eApiFixture, eL, eM, wm, ↓wk, ↓wl, nq, evV, ↓reduceIte, sevalprocAttr]
       refine AW.ifc H (by rfl) ?_ ?_ <;> clear H <;> intro H
       ·refine AW.rseq ?_
        try simp only [wm, ↓wk, ↓wl, nq, evV, ↓reduceIte, sevalprocAttr]
        refine AW.ret ?_
        refine blkQ.ret ?_
        refine loopQ.ret H ?_ <;> clear H <;> intro H
        try dsimp only at H
        refine blk0.ret ?_
        refine seqQ.ret ?_
        refine blkQ.ret ?_
        refine loopQ.ret H ?_ <;> clear H <;> intro H
        try dsimp only at H
        refine blk0.ret ?_
        refine seqQ.ret ?_
        cases H
        exact hQ _ _ _ _ (.inr rfl) (by simp only [resVs, omap, resV, wm, ↓wk, ↓wl, nq, evV, ↓reduceIte, sevalprocAttr]; rfl) (hand_plain (by rfl)) (by first | exact Or.inl rfl | exact Or.inr rfl)
       ·refine AW.skip ?_
        refine blkQ.norm ?_
        refine AW.rend ?_
        try simp only [wm, ↓wk, ↓wl, nq, evV, ↓reduceIte, sevalprocAttr]
        exact loopQ.next H ((Le.tz [] [0, 1, 5, 7] (by simp only [f17_L2c, wm, wmr, rrm, ↓wk, ↓wl, evV, ↓reduceIte, sevalprocAttr] <;> rfl)))
      ·try simp only [wm, ↓wk, ↓wl, nq, evV, ↓reduceIte, sevalprocAttr]
       refine AW.iff (by rfl) ?_
       refine AW.skip ?_
       refine blkQ.norm ?_
       refine AW.rend ?_
       try simp only [wm, ↓wk, ↓wl, nq, evV, ↓reduceIte, sevalprocAttr]
       exact loopQ.next H ((Le.tz [] [0, 1, 5, 7] (by simp only [f17_L2c, wm, wmr, rrm, ↓wk, ↓wl, evV, ↓reduceIte, sevalprocAttr] <;> rfl)))
     ·refine AW.exit ?_
      refine seqQ.exit ?_
      refine loopQ.exit H ?_ <;> clear H <;> intro H
      try dsimp only at H
      refine blk0.here ?_
      refine seqQ.norm ?_
      refine AW.rseq ?_
      try simp only [wm, ↓wk, ↓wl, nq, evV, ↓reduceIte, sevalprocAttr]
      refine AW.bend ?_
      refine AW.iter H ((Le.tz [] [0, 1, 5, 8] (by simp only [f17_L3c, wm, wmr, rrm, ↓wk, ↓wl, evV, ↓reduceIte, sevalprocAttr] <;> rfl))) ?_ <;> clear H
      rintro k_817 x_ st0_ H hst_
      rw [f17_L3c] at hst_
      simp only [f17_L3] at H
      subst hst_
      refine AW.sseq ?_
      refine AW.rseq ?_
      try simp only [wm, ↓wk, ↓wl, nq, evV, ↓reduceIte, sevalprocAttr]
      refine AW.ifc H (by rfl) ?_ ?_ <;> clear H <;> intro H
      ·refine AW.skip ?_
       refine seqQ.norm ?_
       refine AW.bseq ?_
       refine AW.rseq ?_
       try simp only [wm, ↓wk, ↓wl, nq, evV, ↓reduceIte, sevalprocAttr]
       refine evTs_at (enc := eApiFixture) H (by rfl) (by rfl) ?_ <;> clear H <;> intro x_821 H
       try simp only [eApiFixture, eL, eM, wm, ↓wk, ↓wl, nq, evV, ↓reduceIte, sevalprocAttr]
       refine evTs_at (enc := eApiFixture) H (by rfl) (by rfl) ?_ <;> clear H <;> intro x_822 H
       try simp only [eApiFixture, eL, eM, wm, ↓wk, ↓wl, nq, evV, ↓reduceIte, sevalprocAttr]
       refine evTs_pure hFn H (fun _ h => f53_ok h) (by rfl) (by rfl) (by rfl) (by rfl) (fun _ => rfl) ?_ <;> clear H <;> intro r_823 H
       try simp only [eL, wm, ↓wk, ↓wl, nq, evV, ↓reduceIte, sevalprocAttr]
       refine AW.ifc H (by rfl) ?_ ?_ <;> clear H <;> intro H
       ·refine AW.rseq ?_
        try simp only [wm, ↓wk, ↓wl, nq, evV, ↓reduceIte, sevalprocAttr]
        refine AW.ret ?_
        refine blkQ.ret ?_
        refine loopQ.ret H ?_ <;> clear H <;> intro H
        try dsimp only at H
        refine blk0.ret ?_
        refine blkQ.ret ?_
        refine loopQ.ret H ?_ <;> clear H <;> intro H
        try dsimp only at H
        refine blk0.ret ?_
        refine seqQ.ret ?_
        cases H
        exact hQ _ _ _ _ (.inr rfl) (by simp only [resVs, omap, resV, wm, ↓wk, ↓wl, nq, evV, ↓reduceIte, sevalprocAttr]; rfl) (hand_plain (by rfl)) (by first | exact Or.inl rfl | exact Or.inr rfl)
       ·refine AW.skip ?_
        refine blkQ.norm ?_
        refine AW.rend ?_
        try simp only [wm, ↓wk, ↓wl, nq, evV, ↓reduceIte, sevalprocAttr]
        exact loopQ.next H ((Le.tz [] [0, 1, 5, 8] (by simp only [f17_L3c, wm, wmr, rrm, ↓wk, ↓wl, evV, ↓reduceIte, sevalprocAttr] <;> rfl)))
      ·refine AW.exit ?_
       refine seqQ.exit ?_
       refine loopQ.exit H ?_ <;> clear H <;> intro H
       try dsimp only at H
       refine blk0.here ?_
       refine blkQ.norm ?_
       refine AW.rend ?_
       try simp only [wm, ↓wk, ↓wl, nq, evV, ↓reduceIte, sevalprocAttr]
       exact loopQ.next H ((Le.tz [] [0, 1, 5] (by simp only [f17_L1c, wm, wmr, rrm, ↓wk, ↓wl, evV, ↓reduceIte, sevalprocAttr] <;> rfl)))
   ·refine AW.exit ?_
    refine seqQ.exit ?_
    refine loopQ.exit H ?_ <;> clear H <;> intro H
    try dsimp only at H
    refine blk0.here ?_
    refine seqQ.norm ?_
    refine AW.rseq ?_
    try simp only [wm, ↓wk, ↓wl, nq, evV, ↓reduceIte, sevalprocAttr]
    refine AW.ret ?_
    cases H
    exact hQ _ _ _ _ (.inr rfl) (by simp only [resVs, omap, resV, wm, ↓wk, ↓wl, nq, evV, ↓reduceIte, sevalprocAttr]; rfl) (hand_plain (by rfl)) (by first | exact Or.inl rfl | exact Or.inr rfl)
end Go.Proofs.Ythikbfhdebaceaa
