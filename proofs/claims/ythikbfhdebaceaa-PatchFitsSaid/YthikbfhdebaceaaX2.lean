import Derived.Test.YthikbfhdebaceaaX1
import Derived.Test.YthikbfhdebaceaaM6
import Derived.Test.YthikbfhdebaceaaProg
import Derived.KernelRfl
namespace Go.Proofs.Ythikbfhdebaceaa
open Go Go.Ab

set_option maxHeartbeats 1000000
set_option maxRecDepth 4000
set_option linter.unusedSimpArgs false
set_option linter.unusedVariables false
theorem f79_ok {x_585 : ApiFixture} {r_ : Int} (H : f79 x_585 = some r_) : Pure Try.prog 79 [.agg [.int .i64 x_585.fChannel, .int .i64 x_585.fPart, .str x_585.fProfile, .int .i64 x_585.fUniverse, .int .i64 x_585.fAddress, .int .i64 x_585.fPhase, .str x_585.fCable]] (· = .int .i64 r_) := by
 refine Pure.walk3 fd79 none (Nat.le_of_ble_eq_true rfl) (by rfl) fun Q hQ => ?_
 simp only [f79] at H
 refine AW.rseq ?_
 try simp only [wm, ↓wk, ↓wl, nq, evV, ↓reduceIte, sevalprocAttr]
 refine AW.sseq ?_
 refine AW.rseq ?_
 try simp only [wm, ↓wk, ↓wl, nq, evV, ↓reduceIte, sevalprocAttr]
 refine evTs_ifg H (by rfl) ?_ ?_ <;> clear H <;> intro H
 ·try simp only [wm, ↓wk, ↓wl, nq, evV, ↓reduceIte, sevalprocAttr]
  refine AW.ift (by rfl) ?_
  refine AW.rseq ?_
  try simp only [wm, ↓wk, ↓wl, nq, evV, ↓reduceIte, sevalprocAttr]
  refine AW.ret ?_
  refine seqQ.ret ?_
  cases H
  exact hQ _ _ _ _ (.inr rfl) (by simp only [resVs, omap, resV, wm, ↓wk, ↓wl, nq, evV, ↓reduceIte, sevalprocAttr]; rfl) (hand_plain (by rfl)) (by first | exact Or.inl rfl | exact Or.inr rfl)
 ·try simp only [wm, ↓wk, ↓wl, nq, evV, ↓reduceIte, sevalprocAttr]
  refine evTs_ifg H (by rfl) ?_ ?_ <;> clear H <;> intro H
  ·try simp only [wm, ↓wk, ↓wl, nq, evV, ↓reduceIte, sevalprocAttr]
   refine AW.ift (by rfl) ?_
   refine AW.rseq ?_
   try simp only [wm, ↓wk, ↓wl, nq, evV, ↓reduceIte, sevalprocAttr]
   refine AW.ret ?_
   refine seqQ.ret ?_
   cases H
   exact hQ _ _ _ _ (.inr rfl) (by simp only [resVs, omap, resV, wm, ↓wk, ↓wl, nq, evV, ↓reduceIte, sevalprocAttr]; rfl) (hand_plain (by rfl)) (by first | exact Or.inl rfl | exact Or.inr rfl)
  ·try simp only [wm, ↓wk, ↓wl, nq, evV, ↓reduceIte, sevalprocAttr]
   refine evTs_ifg H (by rfl) ?_ ?_ <;> clear H <;> intro H
   ·try simp only [wm, ↓wk, ↓wl, nq, evV, ↓reduceIte, sevalprocAttr]
    refine AW.ift (by rfl) ?_
    refine AW.rseq ?_
    try simp only [wm, ↓wk, ↓wl, nq, evV, ↓reduceIte, sevalprocAttr]
    refine AW.ret ?_
    refine seqQ.ret ?_
    cases H
    exact hQ _ _ _ _ (.inr rfl) (by simp only [resVs, omap, resV, wm, ↓wk, ↓wl, nq, evV, ↓reduceIte, sevalprocAttr]; rfl) (hand_plain (by rfl)) (by first | exact Or.inl rfl | exact Or.inr rfl)
   ·try simp only [wm, ↓wk, ↓wl, nq, evV, ↓reduceIte, sevalprocAttr]
    refine AW.ifc H (by rfl) ?_ ?_ <;> clear H <;> intro H
    ·refine AW.rseq ?_
     try simp only [wm, ↓wk, ↓wl, nq, evV, ↓reduceIte, sevalprocAttr]
     refine AW.ret ?_
     refine seqQ.ret ?_
     cases H
     exact hQ _ _ _ _ (.inr rfl) (by simp only [resVs, omap, resV, wm, ↓wk, ↓wl, nq, evV, ↓reduceIte, sevalprocAttr]; rfl) (hand_plain (by rfl)) (by first | exact Or.inl rfl | exact Or.inr rfl)
    ·refine AW.skip ?_
     refine seqQ.norm ?_
     refine AW.sseq ?_
     refine AW.rseq ?_
     try simp only [wm, ↓wk, ↓wl, nq, evV, ↓reduceIte, sevalprocAttr]
     refine evTs_ifg H (by rfl) ?_ ?_ <;> clear H <;> intro H
     ·try simp only [wm, ↓wk, ↓wl, nq, evV, ↓reduceIte, sevalprocAttr]
      refine AW.ift (by rfl) ?_
      refine AW.rseq ?_
      try simp only [wm, ↓wk, ↓wl, nq, evV, ↓reduceIte, sevalprocAttr]
      refine AW.ret ?_
      refine seqQ.ret ?_
      cases H
      exact hQ _ _ _ _ (.inr rfl) (by simp only [resVs, omap, resV, wm, ↓wk, ↓wl, nq, evV, ↓reduceIte, sevalprocAttr]; rfl) (hand_plain (by rfl)) (by first | exact Or.inl rfl | exact Or.inr rfl)
     ·try simp only [wm, ↓wk, ↓wl, nq, evV, ↓reduceIte, sevalprocAttr]
      refine evTs_ifg H (by rfl) ?_ ?_ <;> clear H <;> intro H
      ·try simp only [wm, ↓wk, ↓wl, nq, evV, ↓reduceIte, sevalprocAttr]
       refine AW.ift (by rfl) ?_
       refine AW.rseq ?_
       try simp only [wm, ↓wk, ↓wl, nq, evV, ↓reduceIte, sevalprocAttr]
       refine AW.ret ?_
       refine seqQ.ret ?_
       cases H
       exact hQ _ _ _ _ (.inr rfl) (by simp only [resVs, omap, resV, wm, ↓wk, ↓wl, nq, evV, ↓reduceIte, sevalprocAttr]; rfl) (hand_plain (by rfl)) (by first | exact Or.inl rfl | exact Or.inr rfl)
      ·try simp only [wm, ↓wk, ↓wl, nq, evV, ↓reduceIte, sevalprocAttr]
       refine evTs_ifg H (by rfl) ?_ ?_ <;> clear H <;> intro H
       ·try simp only [wm, ↓wk, ↓wl, nq, evV, ↓reduceIte, sevalprocAttr]
        refine AW.ift (by rfl) ?_
        refine AW.rseq ?_
        try simp only [wm, ↓wk, ↓wl, nq, evV, ↓reduceIte, sevalprocAttr]
        refine AW.ret ?_
        refine seqQ.ret ?_
        cases H
        exact hQ _ _ _ _ (.inr rfl) (by simp only [resVs, omap, resV, wm, ↓wk, ↓wl, nq, evV, ↓reduceIte, sevalprocAttr]; rfl) (hand_plain (by rfl)) (by first | exact Or.inl rfl | exact Or.inr rfl)
       ·try simp only [wm, ↓wk, ↓wl, nq, evV, ↓reduceIte, sevalprocAttr]
        refine evTs_ifg H (by rfl) ?_ ?_ <;> clear H <;> intro H
        ·try simp only [wm, ↓wk, ↓wl, nq, evV, ↓reduceIte, sevalprocAttr]
         refine AW.ift (by rfl) ?_
         refine AW.rseq ?_
         try simp only [wm, ↓wk, ↓wl, nq, evV, ↓reduceIte, sevalprocAttr]
         refine AW.ret ?_
         refine seqQ.ret ?_
         cases H
         exact hQ _ _ _ _ (.inr rfl) (by simp only [resVs, omap, resV, wm, ↓wk, ↓wl, nq, evV, ↓reduceIte, sevalprocAttr]; rfl) (hand_plain (by rfl)) (by first | exact Or.inl rfl | exact Or.inr rfl)
        ·try simp only [wm, ↓wk, ↓wl, nq, evV, ↓reduceIte, sevalprocAttr]
         refine evTs_ifg H (by rfl) ?_ ?_ <;> clear H <;> intro H
         ·try simp only [wm, ↓wk, ↓wl, nq, evV, ↓reduceIte, sevalprocAttr]
          refine AW.ift (by rfl) ?_
          refine AW.rseq ?_
          try simp only [wm, ↓wk, ↓wl, nq, evV, ↓reduceIte, sevalprocAttr]
          refine AW.ret ?_
          refine seqQ.ret ?_
          cases H
          exact hQ _ _ _ _ (.inr rfl) (by simp only [resVs, omap, resV, wm, ↓wk, ↓wl, nq, evV, ↓reduceIte, sevalprocAttr]; rfl) (hand_plain (by rfl)) (by first | exact Or.inl rfl | exact Or.inr rfl)
         ·try simp only [wm, ↓wk, ↓wl, nq, evV, ↓reduceIte, sevalprocAttr]
          refine AW.ifc H (by rfl) ?_ ?_ <;> clear H <;> intro H
          ·refine AW.rseq ?_
           try simp only [wm, ↓wk, ↓wl, nq, evV, ↓reduceIte, sevalprocAttr]
           refine AW.ret ?_
           refine seqQ.ret ?_
           cases H
           exact hQ _ _ _ _ (.inr rfl) (by simp only [resVs, omap, resV, wm, ↓wk, ↓wl, nq, evV, ↓reduceIte, sevalprocAttr]; rfl) (hand_plain (by rfl)) (by first | exact Or.inl rfl | exact Or.inr rfl)
          ·refine AW.skip ?_
           refine seqQ.norm ?_
           refine AW.rseq ?_
           try simp only [wm, ↓wk, ↓wl, nq, evV, ↓reduceIte, sevalprocAttr]
           refine AW.ret ?_
           cases H
           exact hQ _ _ _ _ (.inr rfl) (by simp only [resVs, omap, resV, wm, ↓wk, ↓wl, nq, evV, ↓reduceIte, sevalprocAttr]; rfl) (hand_plain (by rfl)) (by first | exact Or.inl rfl | exact Or.inr rfl)
noncomputable def f80_L1 (s_588 : (List UInt8)) : Lp (Int) ((Unit) ⊕ (Unit)) where
  body := fun i_600 => (if (decide (i_600 < ((s_588.length : Nat) : Int))) = true then (at? s_588 i_600).bind fun b_609 => (if (decide (97 ≤ (b_609.toNat : Int))) = true then (at? s_588 i_600).bind fun b_610 => (if (!(decide ((b_610.toNat : Int) ≤ 122))) = true then (if (decide (i_600 = 0)) = true then (some (.brk (Sum.inr ()))) else (at? s_588 i_600).bind fun b_611 => (if (decide ((b_611.toNat : Int) ≠ 95)) = true then (at? s_588 i_600).bind fun b_612 => (if (decide ((b_612.toNat : Int) < 48)) = true then (some (.brk (Sum.inr ()))) else (at? s_588 i_600).bind fun b_613 => (if (decide (57 < (b_613.toNat : Int))) = true then (some (.brk (Sum.inr ()))) else (some (.next (IntKind.i64.wrap (i_600 + 1)))))) else (some (.next (IntKind.i64.wrap (i_600 + 1)))))) else (some (.next (IntKind.i64.wrap (i_600 + 1))))) else (if (decide (i_600 = 0)) = true then (some (.brk (Sum.inr ()))) else (at? s_588 i_600).bind fun b_614 => (if (decide ((b_614.toNat : Int) ≠ 95)) = true then (at? s_588 i_600).bind fun b_615 => (if (decide ((b_615.toNat : Int) < 48)) = true then (some (.brk (Sum.inr ()))) else (at? s_588 i_600).bind fun b_616 => (if (decide (57 < (b_616.toNat : Int))) = true then (some (.brk (Sum.inr ()))) else (some (.next (IntKind.i64.wrap (i_600 + 1)))))) else (some (.next (IntKind.i64.wrap (i_600 + 1))))))) else (some (.brk (Sum.inl ()))))
  cst := fun i_600 => ⟨put (put (fun _ => .junk) 3 (.int .i64 i_600)) 0 (.str s_588), []⟩
theorem f80_L1c (s_588 : (List UInt8)) (i_600 : Int) : (f80_L1 s_588).cst i_600 = ⟨put (put (fun _ => .junk) 3 (.int .i64 i_600)) 0 (.str s_588), []⟩ := rfl
def c80_0 : C := .cond (.t 8) (.skip) (.exit 0)
def c80_1 : C := .cond (.t 44) (.seq (.reg [iI 2 (.mv (.c (.bool false)))]) .ret) (.skip)
def c80_2 : C := .seq (.reg [iI 21 (.mv (.t 4)), iI 22 (.un .not (.t 21)), iI 23 (.mv (.t 22)), iG (some 24) 23 true (.mv (.t 3)), iG (some 25) 23 true (.bin .eql (.t 24) (.c (.int .i64 0))), iG (some 26) 23 true (.mv (.t 25)), iG (some 27) 26 false (.mv (.t 0)), iG (some 28) 26 false (.mv (.t 3)), iG (some 29) 26 false (.sidx (.t 27) (.t 28)), iG (some 30) 26 false (.bin .neq (.t 29) (.c (.int .u8 95))), iG (some 31) 26 false (.mv (.t 30)), iG (some 32) 31 true (.mv (.t 0)), iG (some 33) 31 true (.mv (.t 3)), iG (some 34) 31 true (.sidx (.t 32) (.t 33)), iG (some 35) 31 true (.bin .lss (.t 34) (.c (.int .u8 48))), iG (some 36) 31 true (.mv (.t 35)), iG (some 37) 36 false (.mv (.t 0)), iG (some 38) 36 false (.mv (.t 3)), iG (some 39) 36 false (.sidx (.t 37) (.t 38)), iG (some 40) 36 false (.bin .gtr (.t 39) (.c (.int .u8 57))), iG (some 41) 31 true (.pick (.t 36) (.c (.bool true)) (.t 40)), iG (some 42) 26 false (.pick (.t 31) (.t 41) (.c (.bool false))), iG (some 43) 23 true (.pick (.t 26) (.c (.bool true)) (.t 42)), iI 44 (.pick (.t 23) (.t 43) (.c (.bool false)))]) c80_1
def c80_3 : C := .reg [iI 9 (.mv (.t 3)), iI 10 (.bin .add (.t 9) (.c (.int .i64 1))), iI 3 (.mv (.t 10))]
def c80_4 : C := .seq (.block 1 (.seq (.reg [iI 11 (.mv (.t 0)), iI 12 (.mv (.t 3)), iI 13 (.sidx (.t 11) (.t 12)), iI 14 (.bin .geq (.t 13) (.c (.int .u8 97))), iI 15 (.mv (.t 14)), iG (some 16) 15 true (.mv (.t 0)), iG (some 17) 15 true (.mv (.t 3)), iG (some 18) 15 true (.sidx (.t 16) (.t 17)), iG (some 19) 15 true (.bin .leq (.t 18) (.c (.int .u8 122))), iI 20 (.pick (.t 15) (.t 19) (.c (.bool false))), iI 4 (.mv (.t 20))]) c80_2)) c80_3
def c80_5 : C := .block 0 (.loop (.seq (.seq (.reg [iI 5 (.mv (.t 3)), iI 6 (.mv (.t 0)), iI 7 (.len 1 (.t 6)), iI 8 (.bin .lss (.t 5) (.t 7))]) c80_0) c80_4))
def c80_6 : C := .seq (.reg [iI 45 (.mv (.t 0)), iI 46 (.len 1 (.t 45)), iI 47 (.bin .geq (.t 46) (.c (.int .i64 1))), iI 48 (.mv (.t 47)), iG (some 49) 48 true (.mv (.t 0)), iG (some 50) 48 true (.len 1 (.t 49)), iG (some 51) 48 true (.bin .leq (.t 50) (.c (.int .i64 24))), iI 52 (.pick (.t 48) (.t 51) (.c (.bool false))), iI 2 (.mv (.t 52))]) .ret
def c80_7 : C := .seq (.seq (.reg [iI 3 (.mv (.c (.int .i64 0)))]) c80_5) c80_6
def ir80 : C := .seq (.reg [iI 2 (.mv (.c (.bool false)))]) c80_7
theorem fd80 : fd? Try.prog 80 = some (53, [.slot 2], ir80) := by kernel_rfl
noncomputable def f80 (s_588 : (List UInt8)) : Option (Bool) :=
  ((Lp.run (f80_L1 s_588) 0).bind fun r_ => match r_ with | (Sum.inl _) => (if (decide (1 ≤ ((s_588.length : Nat) : Int))) = true then (some (decide (((s_588.length : Nat) : Int) ≤ 24))) else (some false)) | (Sum.inr _) => (some false))
theorem f80_ok {s_588 : (List UInt8)} {r_ : Bool} (H : f80 s_588 = some r_) : Pure Try.prog 80 [.str s_588] (· = .bool r_) := by
 refine Pure.walk3 fd80 none (Nat.le_of_ble_eq_true rfl) (by rfl) fun Q hQ => ?_
 simp only [f80] at H
 refine AW.rseq ?_
 try simp only [wm, ↓wk, ↓wl, nq, evV, ↓reduceIte, sevalprocAttr]
 refine AW.sseq ?_
 refine AW.rseq ?_
 try simp only [wm, ↓wk, ↓wl, nq, evV, ↓reduceIte, sevalprocAttr]
 refine AW.bend ?_
 refine AW.iter H ((Le.tz [] [0, 3] (by simp only [f80_L1c, wm, wmr, rrm, ↓wk, ↓wl, evV, ↓reduceIte, sevalprocAttr] <;> rfl))) ?_ <;> clear H
 rintro i_600 x_ st0_ H hst_
 rw [f80_L1c] at hst_
 simp only [f80_L1] at H
 subst hst_
 refine AW.sseq ?_
 refine AW.rseq ?_
 try simp only [wm, ↓wk, ↓wl, nq, evV, ↓reduceIte, sevalprocAttr]
 refine AW.ifc H (by rfl) ?_ ?_ <;> clear H <;> intro H
 ·refine AW.skip ?_
  refine seqQ.norm ?_
  refine AW.bseq ?_
  refine AW.rseq ?_
  try simp only [wm, ↓wk, ↓wl, nq, evV, ↓reduceIte, sevalprocAttr]
  refine evTs_sat H (by rfl) (by rfl) ?_ <;> clear H <;> intro b_609 H
  try simp only [wm, ↓wk, ↓wl, nq, evV, ↓reduceIte, sevalprocAttr]
  refine evTs_ifg H (by rfl) ?_ ?_ <;> clear H <;> intro H
  ·try simp only [wm, ↓wk, ↓wl, nq, evV, ↓reduceIte, sevalprocAttr]
   refine evTs_sat H (by rfl) (by rfl) ?_ <;> clear H <;> intro b_610 H
   try simp only [wm, ↓wk, ↓wl, nq, evV, ↓reduceIte, sevalprocAttr]
   refine AW.rseq ?_
   try simp only [wm, ↓wk, ↓wl, nq, evV, ↓reduceIte, sevalprocAttr]
   refine evTs_ifg H (by rfl) ?_ ?_ <;> clear H <;> intro H
   ·try simp only [wm, ↓wk, ↓wl, nq, evV, ↓reduceIte, sevalprocAttr]
    refine evTs_ifg H (by rfl) ?_ ?_ <;> clear H <;> intro H
    ·try simp only [wm, ↓wk, ↓wl, nq, evV, ↓reduceIte, sevalprocAttr]
     refine AW.ift (by rfl) ?_
     refine AW.rseq ?_
     try simp only [wm, ↓wk, ↓wl, nq, evV, ↓reduceIte, sevalprocAttr]
     refine AW.ret ?_
     refine blkQ.ret ?_
     refine loopQ.ret H ?_ <;> clear H <;> intro H
     try dsimp only at H
     refine blk0.ret ?_
     refine seqQ.ret ?_
     cases H
     exact hQ _ _ _ _ (.inr rfl) (by simp only [resVs, omap, resV, wm, ↓wk, ↓wl, nq, evV, ↓reduceIte, sevalprocAttr]; rfl) (hand_plain (by rfl)) (by first | exact Or.inl rfl | exact Or.inr rfl)
    ·try simp only [wm, ↓wk, ↓wl, nq, evV, ↓reduceIte, sevalprocAttr]
     refine evTs_sat H (by rfl) (by rfl) ?_ <;> clear H <;> intro b_611 H
     try simp only [wm, ↓wk, ↓wl, nq, evV, ↓reduceIte, sevalprocAttr]
     refine evTs_ifg H (by rfl) ?_ ?_ <;> clear H <;> intro H
     ·try simp only [wm, ↓wk, ↓wl, nq, evV, ↓reduceIte, sevalprocAttr]
      refine evTs_sat H (by rfl) (by rfl) ?_ <;> clear H <;> intro b_612 H
      try simp only [wm, ↓wk, ↓wl, nq, evV, ↓reduceIte, sevalprocAttr]
      refine evTs_ifg H (by rfl) ?_ ?_ <;> clear H <;> intro H
      ·try simp only [wm, ↓wk, ↓wl, nq, evV, ↓reduceIte, sevalprocAttr]
       refine AW.ift (by rfl) ?_
       refine AW.rseq ?_
       try simp only [wm, ↓wk, ↓wl, nq, evV, ↓reduceIte, sevalprocAttr]
       refine AW.ret ?_
       refine blkQ.ret ?_
       refine loopQ.ret H ?_ <;> clear H <;> intro H
       try dsimp only at H
       refine blk0.ret ?_
       refine seqQ.ret ?_
       cases H
       exact hQ _ _ _ _ (.inr rfl) (by simp only [resVs, omap, resV, wm, ↓wk, ↓wl, nq, evV, ↓reduceIte, sevalprocAttr]; rfl) (hand_plain (by rfl)) (by first | exact Or.inl rfl | exact Or.inr rfl)
      ·try simp only [wm, ↓wk, ↓wl, nq, evV, ↓reduceIte, sevalprocAttr]
       refine evTs_sat H (by rfl) (by rfl) ?_ <;> clear H <;> intro b_613 H
       try simp only [wm, ↓wk, ↓wl, nq, evV, ↓reduceIte, sevalprocAttr]
       refine AW.ifc H (by rfl) ?_ ?_ <;> clear H <;> intro H
       ·refine AW.rseq ?_
        try simp only [wm, ↓wk, ↓wl, nq, evV, ↓reduceIte, sevalprocAttr]
        refine AW.ret ?_
        refine blkQ.ret ?_
        refine loopQ.ret H ?_ <;> clear H <;> intro H
        try dsimp only at H
        refine blk0.ret ?_
        refine seqQ.ret ?_
        cases H
        exact hQ _ _ _ _ (.inr rfl) (by simp only [resVs, omap, resV, wm, ↓wk, ↓wl, nq, evV, ↓reduceIte, sevalprocAttr]; rfl) (hand_plain (by rfl)) (by first | exact Or.inl rfl | exact Or.inr rfl)
       ·refine AW.skip ?_
        refine blkQ.norm ?_
        refine AW.rend ?_
        try simp only [wm, ↓wk, ↓wl, nq, evV, ↓reduceIte, sevalprocAttr]
        exact loopQ.next H ((Le.tz [] [0, 3] (by simp only [f80_L1c, wm, wmr, rrm, ↓wk, ↓wl, evV, ↓reduceIte, sevalprocAttr] <;> rfl)))
     ·try simp only [wm, ↓wk, ↓wl, nq, evV, ↓reduceIte, sevalprocAttr]
      refine AW.iff (by rfl) ?_
      refine AW.skip ?_
      refine blkQ.norm ?_
      refine AW.rend ?_
      try simp only [wm, ↓wk, ↓wl, nq, evV, ↓reduceIte, sevalprocAttr]
      exact loopQ.next H ((Le.tz [] [0, 3] (by simp only [f80_L1c, wm, wmr, rrm, ↓wk, ↓wl, evV, ↓reduceIte, sevalprocAttr] <;> rfl)))
   ·try simp only [wm, ↓wk, ↓wl, nq, evV, ↓reduceIte, sevalprocAttr]
    refine AW.iff (by rfl) ?_
    refine AW.skip ?_
    refine blkQ.norm ?_
    refine AW.rend ?_
    try simp only [wm, ↓wk, ↓wl, nq, evV, ↓reduceIte, sevalprocAttr]
    exact loopQ.next H ((Le.tz [] [0, 3] (by simp only [f80_L1c, wm, wmr, rrm, ↓wk, ↓wl, evV, ↓reduceIte, sevalprocAttr] <;> rfl)))
  ·try simp only [wm, ↓wk, ↓wl, nq, evV, ↓reduceIte, sevalprocAttr]
   refine AW.rseq ?_
   try simp only [wm, ↓wk, ↓wl, nq, evV, ↓reduceIte, sevalprocAttr]
   refine evTs_ifg H (by rfl) ?_ ?_ <;> clear H <;> intro H
   ·try simp only [wm, ↓wk, ↓wl, nq, evV, ↓reduceIte, sevalprocAttr]
    refine AW.ift (by rfl) ?_
    refine AW.rseq ?_
    try simp only [wm, ↓wk, ↓wl, nq, evV, ↓reduceIte, sevalprocAttr]
    refine AW.ret ?_
    refine blkQ.ret ?_
    refine loopQ.ret H ?_ <;> clear H <;> intro H
    try dsimp only at H
    refine blk0.ret ?_
    refine seqQ.ret ?_
    cases H
    exact hQ _ _ _ _ (.inr rfl) (by simp only [resVs, omap, resV, wm, ↓wk, ↓wl, nq, evV, ↓reduceIte, sevalprocAttr]; rfl) (hand_plain (by rfl)) (by first | exact Or.inl rfl | exact Or.inr rfl)
   ·try simp only [wm, ↓wk, ↓wl, nq, evV, ↓reduceIte, sevalprocAttr]
    refine evTs_sat H (by rfl) (by rfl) ?_ <;> clear H <;> intro b_614 H
    try simp only [wm, ↓wk, ↓wl, nq, evV, ↓reduceIte, sevalprocAttr]
    refine evTs_ifg H (by rfl) ?_ ?_ <;> clear H <;> intro H
    ·try simp only [wm, ↓wk, ↓wl, nq, evV, ↓reduceIte, sevalprocAttr]
     refine evTs_sat H (by rfl) (by rfl) ?_ <;> clear H <;> intro b_615 H
     try simp only [wm, ↓wk, ↓wl, nq, evV, ↓reduceIte, sevalprocAttr]
     refine evTs_ifg H (by rfl) ?_ ?_ <;> clear H <;> intro H
     ·try simp only [wm, ↓wk, ↓wl, nq, evV, ↓reduceIte, sevalprocAttr]
      refine AW.ift (by rfl) ?_
      refine AW.rseq ?_
      try simp only [wm, ↓wk, ↓wl, nq, evV, ↓reduceIte, sevalprocAttr]
      refine AW.ret ?_
      refine blkQ.ret ?_
      refine loopQ.ret H ?_ <;> clear H <;> intro H
      try dsimp only at H
      refine blk0.ret ?_
      refine seqQ.ret ?_
      cases H
      exact hQ _ _ _ _ (.inr rfl) (by simp only [resVs, omap, resV, wm, ↓wk, ↓wl, nq, evV, ↓reduceIte, sevalprocAttr]; rfl) (hand_plain (by rfl)) (by first | exact Or.inl rfl | exact Or.inr rfl)
     ·try simp only [wm, ↓wk, ↓wl, nq, evV, ↓reduceIte, sevalprocAttr]
      refine evTs_sat H (by rfl) (by rfl) ?_ <;> clear H <;> intro b_616 H
      try simp only [wm, ↓wk, ↓wl, nq, evV, ↓reduceIte, sevalprocAttr]
      refine AW.ifc H (by rfl) ?_ ?_ <;> clear H <;> intro H
      ·refine AW.rseq ?_
       try simp only [wm, ↓wk, ↓wl, nq, evV, ↓reduceIte, sevalprocAttr]
       refine AW.ret ?_
       refine blkQ.ret ?_
       refine loopQ.ret H ?_ <;> clear H <;> intro H
       try dsimp only at H
       refine blk0.ret ?_
       refine seqQ.ret ?_
       cases H
       exact hQ _ _ _ _ (.inr rfl) (by simp only [resVs, omap, resV, wm, ↓wk, ↓wl, nq, evV, ↓reduceIte, sevalprocAttr]; rfl) (hand_plain (by rfl)) (by first | exact Or.inl rfl | exact Or.inr rfl)
      ·refine AW.skip ?_
       refine blkQ.norm ?_
       refine AW.rend ?_
       try simp only [wm, ↓wk, ↓wl, nq, evV, ↓reduceIte, sevalprocAttr]
       exact loopQ.next H ((Le.tz [] [0, 3] (by simp only [f80_L1c, wm, wmr, rrm, ↓wk, ↓wl, evV, ↓reduceIte, sevalprocAttr] <;> rfl)))
    ·try simp only [wm, ↓wk, ↓wl, nq, evV, ↓reduceIte, sevalprocAttr]
     refine AW.iff (by rfl) ?_
     refine AW.skip ?_
     refine blkQ.norm ?_
     refine AW.rend ?_
     try simp only [wm, ↓wk, ↓wl, nq, evV, ↓reduceIte, sevalprocAttr]
     exact loopQ.next H ((Le.tz [] [0, 3] (by simp only [f80_L1c, wm, wmr, rrm, ↓wk, ↓wl, evV, ↓reduceIte, sevalprocAttr] <;> rfl)))
 ·refine AW.exit ?_
  refine seqQ.exit ?_
  refine loopQ.exit H ?_ <;> clear H <;> intro H
  try dsimp only at H
  refine blk0.here ?_
  refine seqQ.norm ?_
  refine AW.rseq ?_
  try simp only [wm, ↓wk, ↓wl, nq, evV, ↓reduceIte, sevalprocAttr]
  refine evTs_ifg H (by rfl) ?_ ?_ <;> clear H <;> intro H
  ·try simp only [wm, ↓wk, ↓wl, nq, evV, ↓reduceIte, sevalprocAttr]
   refine AW.ret ?_
   cases H
   exact hQ _ _ _ _ (.inr rfl) (by simp only [resVs, omap, resV, wm, ↓wk, ↓wl, nq, evV, ↓reduceIte, sevalprocAttr]; rfl) (hand_plain (by rfl)) (by first | exact Or.inl rfl | exact Or.inr rfl)
  ·try simp only [wm, ↓wk, ↓wl, nq, evV, ↓reduceIte, sevalprocAttr]
   refine AW.ret ?_
   cases H
   exact hQ _ _ _ _ (.inr rfl) (by simp only [resVs, omap, resV, wm, ↓wk, ↓wl, nq, evV, ↓reduceIte, sevalprocAttr]; rfl) (hand_plain (by rfl)) (by first | exact Or.inl rfl | exact Or.inr rfl)
noncomputable def f34_L1 (profiles_618 : (List ApiProfile)) (name_619 : (List UInt8)) : Lp (Int) ((Unit) ⊕ (Int)) where
  body := fun i_623 => (if (decide (i_623 < ((profiles_618.length : Nat) : Int))) = true then (at? profiles_618 i_623).bind fun x_626 => (if (x_626.fName == name_619) = true then (some (.brk (Sum.inr i_623))) else (some (.next (IntKind.i64.wrap (i_623 + 1))))) else (some (.brk (Sum.inl ()))))
  cst := fun i_623 => ⟨put (put (put (fun _ => .junk) 5 (.int .i64 i_623)) 1 (.str name_619)) 0 (.sl 4 false (profiles_618.map eApiProfile)), []⟩
theorem f34_L1c (profiles_618 : (List ApiProfile)) (name_619 : (List UInt8)) (i_623 : Int) : (f34_L1 profiles_618 name_619).cst i_623 = ⟨put (put (put (fun _ => .junk) 5 (.int .i64 i_623)) 1 (.str name_619)) 0 (.sl 4 false (profiles_618.map eApiProfile)), []⟩ := rfl
def c34_0 : C := .cond (.t 9) (.skip) (.exit 0)
def c34_1 : C := .cond (.t 18) (.seq (.reg [iI 19 (.mv (.t 5)), iI 4 (.mv (.t 19))]) .ret) (.skip)
def c34_2 : C := .reg [iI 10 (.mv (.t 5)), iI 11 (.bin .add (.t 10) (.c (.int .i64 1))), iI 5 (.mv (.t 11))]
def c34_3 : C := .seq (.block 1 (.seq (.reg [iI 12 (.mv (.t 0)), iI 13 (.mv (.t 5)), iI 14 (.iaddr 4 (.t 12) (.t 13)), iI 15 (.faddr 0 (.t 14)), iI 16 (.load 0 (.t 15)), iI 17 (.mv (.t 1)), iI 18 (.bin .eql (.t 16) (.t 17))]) c34_1)) c34_2
def c34_4 : C := .block 0 (.loop (.seq (.seq (.reg [iI 6 (.mv (.t 5)), iI 7 (.mv (.t 0)), iI 8 (.len 0 (.t 7)), iI 9 (.bin .lss (.t 6) (.t 8))]) c34_0) c34_3))
def c34_5 : C := .seq (.reg [iI 4 (.mv (.c (.int .i64 (-1))))]) .ret
def c34_6 : C := .seq (.seq (.reg [iI 5 (.mv (.c (.int .i64 0)))]) c34_4) c34_5
def ir34 : C := .seq (.reg [iI 4 (.mv (.c (.int .i64 0)))]) c34_6
theorem fd34 : fd? Try.prog 34 = some (20, [.slot 4], ir34) := by kernel_rfl
noncomputable def f34 (profiles_618 : (List ApiProfile)) (name_619 : (List UInt8)) : Option (Int) :=
  ((Lp.run (f34_L1 profiles_618 name_619) 0).bind fun r_ => match r_ with | (Sum.inl _) => (some (-1)) | (Sum.inr v_625) => (some v_625))
theorem f34_ok {profiles_618 : (List ApiProfile)} {name_619 : (List UInt8)} {r_ : Int} (H : f34 profiles_618 name_619 = some r_) : Pure Try.prog 34 [.sl 4 false (profiles_618.map eApiProfile), .str name_619] (· = .int .i64 r_) := by
 refine Pure.walk3 fd34 none (Nat.le_of_ble_eq_true rfl) (by rfl) fun Q hQ => ?_
 simp only [f34] at H
 refine AW.rseq ?_
 try simp only [wm, ↓wk, ↓wl, nq, evV, ↓reduceIte, sevalprocAttr]
 refine AW.sseq ?_
 refine AW.rseq ?_
 try simp only [wm, ↓wk, ↓wl, nq, evV, ↓reduceIte, sevalprocAttr]
 refine AW.bend ?_
 refine AW.iter H ((Le.tz [] [0, 1, 5] (by simp only [f34_L1c, wm, wmr, rrm, ↓wk, ↓wl, evV, ↓reduceIte, sevalprocAttr] <;> rfl))) ?_ <;> clear H
 rintro i_623 x_ st0_ H hst_
 rw [f34_L1c] at hst_
 simp only [f34_L1] at H
 subst hst_
 refine AW.sseq ?_
 refine AW.rseq ?_
 try simp only [wm, ↓wk, ↓wl, nq, evV, ↓reduceIte, sevalprocAttr]
 refine AW.ifc H (by rfl) ?_ ?_ <;> clear H <;> intro H
 ·refine AW.skip ?_
  refine seqQ.norm ?_
  refine AW.bseq ?_
  refine AW.rseq ?_
  try simp only [wm, ↓wk, ↓wl, nq, evV, ↓reduceIte, sevalprocAttr]
  refine evTs_at (enc := eApiProfile) H (by rfl) (by rfl) ?_ <;> clear H <;> intro x_626 H
  try simp only [eApiProfile, eL, eM, wm, ↓wk, ↓wl, nq, evV, ↓reduceIte, sevalprocAttr]
  refine AW.ifc H (by rfl) ?_ ?_ <;> clear H <;> intro H
  ·refine AW.rseq ?_
   try simp only [wm, ↓wk, ↓wl, nq, evV, ↓reduceIte, sevalprocAttr]
   refine AW.ret ?_
   refine blkQ.ret ?_
   refine loopQ.ret H ?_ <;> clear H <;> intro H
   try dsimp only at H
   refine blk0.ret ?_
   refine seqQ.ret ?_
   cases H
   exact hQ _ _ _ _ (.inr rfl) (by simp only [resVs, omap, resV, wm, ↓wk, ↓wl, nq, evV, ↓reduceIte, sevalprocAttr]; rfl) (hand_plain (by rfl)) (by first | exact Or.inl rfl | exact Or.inr rfl)
  ·refine AW.skip ?_
   refine blkQ.norm ?_
   refine AW.rend ?_
   try simp only [wm, ↓wk, ↓wl, nq, evV, ↓reduceIte, sevalprocAttr]
   exact loopQ.next H ((Le.tz [] [0, 1, 5] (by simp only [f34_L1c, wm, wmr, rrm, ↓wk, ↓wl, evV, ↓reduceIte, sevalprocAttr] <;> rfl)))
 ·refine AW.exit ?_
  refine seqQ.exit ?_
  refine loopQ.exit H ?_ <;> clear H <;> intro H
  try dsimp only at H
  refine blk0.here ?_
  refine seqQ.norm ?_
  refine AW.rseq ?_
  try simp only [wm, ↓wk, ↓wl, nq, evV, ↓reduceIte, sevalprocAttr]
  refine AW.ret ?_
  cases H
  exact hQ _ _ _ _ (.inr rfl) (by simp only [resVs, omap, resV, wm, ↓wk, ↓wl, nq, evV, ↓reduceIte, sevalprocAttr]; rfl) (hand_plain (by rfl)) (by first | exact Or.inl rfl | exact Or.inr rfl)
noncomputable def f52_J1 (profiles_583 : (List ApiProfile)) (x_584 : ApiFixture) : Jn (Unit) (Int) where
  run := fun _ => (f34 profiles_583 x_584.fProfile).bind fun r_627 => (if (decide (r_627 < 0)) = true then (some 6) else (at? profiles_583 r_627).bind fun x_628 => (if (decide (x_628.fFootprint < 1)) = true then (some 2) else (if (decide ((IntKind.i64.wrap ((IntKind.i64.wrap (512 - x_584.fAddress)) + 1)) < x_628.fFootprint)) = true then (some 2) else (some 0))))
  cst := fun _ => ⟨put (put (fun _ => .junk) 3 (.ptr 0 0)) 0 (.sl 4 false (profiles_583.map eApiProfile)), [.cel [.int .i64 x_584.fChannel, .int .i64 x_584.fPart, .str x_584.fProfile, .int .i64 x_584.fUniverse, .int .i64 x_584.fAddress, .int .i64 x_584.fPhase, .str x_584.fCable]]⟩
theorem f52_J1c (profiles_583 : (List ApiProfile)) (x_584 : ApiFixture) (x_ : Unit) : (f52_J1 profiles_583 x_584).cst x_ = ⟨put (put (fun _ => .junk) 3 (.ptr 0 0)) 0 (.sl 4 false (profiles_583.map eApiProfile)), [.cel [.int .i64 x_584.fChannel, .int .i64 x_584.fPart, .str x_584.fProfile, .int .i64 x_584.fUniverse, .int .i64 x_584.fAddress, .int .i64 x_584.fPhase, .str x_584.fCable]]⟩ := rfl
def c52_0 : C := .cond (.t 11) (.seq (.reg [iI 12 (.mv (.t 5)), iI 4 (.mv (.t 12))]) .ret) (.skip)
def c52_1 : C := .seq (.reg [iI 10 (.mv (.t 5)), iI 11 (.bin .neq (.t 10) (.c (.int .i64 0)))]) c52_0
def c52_2 : C := .cond (.t 21) (.seq (.reg [iI 4 (.mv (.c (.int .i64 8)))]) .ret) (.skip)
def c52_3 : C := .cond (.t 27) (.seq (.reg [iI 4 (.mv (.c (.int .i64 6)))]) .ret) (.skip)
def c52_4 : C := .cond (.t 42) (.seq (.reg [iI 4 (.mv (.c (.int .i64 2)))]) .ret) (.skip)
def c52_5 : C := .seq (.reg [iI 33 (.mv (.t 7)), iI 34 (.bin .lss (.t 33) (.c (.int .i64 1))), iI 35 (.mv (.t 34)), iG (some 36) 35 false (.mv (.t 7)), iG (some 37) 35 false (.faddr 4 (.t 3)), iG (some 38) 35 false (.load 0 (.t 37)), iG (some 39) 35 false (.bin .sub (.c (.int .i64 512)) (.t 38)), iG (some 40) 35 false (.bin .add (.t 39) (.c (.int .i64 1))), iG (some 41) 35 false (.bin .gtr (.t 36) (.t 40)), iI 42 (.pick (.t 35) (.c (.bool true)) (.t 41))]) c52_4
def c52_6 : C := .seq (.reg [iI 4 (.mv (.c (.int .i64 0)))]) .ret
def c52_7 : C := .seq (.seq (.reg [iI 28 (.mv (.t 0)), iI 29 (.mv (.t 6)), iI 30 (.iaddr 4 (.t 28) (.t 29)), iI 31 (.faddr 1 (.t 30)), iI 32 (.load 0 (.t 31)), iI 7 (.mv (.t 32))]) c52_5) c52_6
def c52_8 : C := .seq (.seq (.reg [iI 26 (.mv (.t 6)), iI 27 (.bin .lss (.t 26) (.c (.int .i64 0)))]) c52_3) c52_7
def c52_9 : C := .seq (.reg [iI 22 (.mv (.t 0)), iI 23 (.faddr 2 (.t 3)), iI 24 (.load 0 (.t 23)), iI 25 (.call (.c (.fn 34 [])) [(.t 22), (.t 24)]), iI 6 (.mv (.t 25))]) c52_8
def c52_10 : C := .seq (.seq (.reg [iI 13 (.faddr 6 (.t 3)), iI 14 (.load 0 (.t 13)), iI 15 (.bin .neq (.t 14) (.c (.str []))), iI 16 (.mv (.t 15)), iG (some 17) 16 true (.faddr 6 (.t 3)), iG (some 18) 16 true (.load 0 (.t 17)), iG (some 19) 16 true (.call (.c (.fn 80 [])) [(.t 18)]), iG (some 20) 16 true (.un .not (.t 19)), iI 21 (.pick (.t 16) (.t 20) (.c (.bool false)))]) c52_2) c52_9
def c52_11 : C := .seq (.seq (.reg [iI 8 (.load 7 (.t 3)), iI 9 (.call (.c (.fn 79 [])) [(.t 8)]), iI 5 (.mv (.t 9))]) c52_1) c52_10
def ir52 : C := .seq (.reg [iI 3 (.box (.t 1)), iI 4 (.mv (.c (.int .i64 0)))]) c52_11
theorem fd52 : fd? Try.prog 52 = some (43, [.slot 4], ir52) := by kernel_rfl
noncomputable def f52 (profiles_583 : (List ApiProfile)) (x_584 : ApiFixture) : Option (Int) :=
  (f79 x_584).bind fun r_587 => (if (decide (r_587 ≠ 0)) = true then (some r_587) else (if (!(x_584.fCable == ([]))) = true then (f80 x_584.fCable).bind fun r_629 => (if (!r_629) = true then (some 8) else ((f52_J1 profiles_583 x_584).run ())) else ((f52_J1 profiles_583 x_584).run ())))
theorem f52_ok {profiles_583 : (List ApiProfile)} {x_584 : ApiFixture} {r_ : Int} (H : f52 profiles_583 x_584 = some r_) : Pure Try.prog 52 [.sl 4 false (profiles_583.map eApiProfile), .agg [.int .i64 x_584.fChannel, .int .i64 x_584.fPart, .str x_584.fProfile, .int .i64 x_584.fUniverse, .int .i64 x_584.fAddress, .int .i64 x_584.fPhase, .str x_584.fCable]] (· = .int .i64 r_) := by
 refine Pure.walk3 fd52 none (Nat.le_of_ble_eq_true rfl) (by rfl) fun Q hQ => ?_
 simp only [f52] at H
 refine AW.rseq ?_
 try simp only [wm, ↓wk, ↓wl, nq, evV, ↓reduceIte, sevalprocAttr]
 refine AW.sseq ?_
 refine AW.rseq ?_
 try simp only [wm, ↓wk, ↓wl, nq, evV, ↓reduceIte, sevalprocAttr]
 refine evTs_pure hFn H (fun _ h => f79_ok h) (by rfl) (by rfl) (by rfl) (by rfl) (fun _ => rfl) ?_ <;> clear H <;> intro r_587 H
 try simp only [eL, wm, ↓wk, ↓wl, nq, evV, ↓reduceIte, sevalprocAttr]
 refine AW.rseq ?_
 try simp only [wm, ↓wk, ↓wl, nq, evV, ↓reduceIte, sevalprocAttr]
 refine AW.ifc H (by rfl) ?_ ?_ <;> clear H <;> intro H
 ·refine AW.rseq ?_
  try simp only [wm, ↓wk, ↓wl, nq, evV, ↓reduceIte, sevalprocAttr]
  refine AW.ret ?_
  refine seqQ.ret ?_
  cases H
  exact hQ _ _ _ _ (.inr rfl) (by simp only [resVs, omap, resV, wm, ↓wk, ↓wl, nq, evV, ↓reduceIte, sevalprocAttr]; rfl) (hand_plain (by rfl)) (by first | exact Or.inl rfl | exact Or.inr rfl)
 ·refine AW.skip ?_
  refine seqQ.norm ?_
  refine AW.join (f52_J1 profiles_583 x_584) H ?_ fun hf52_J1 => ?_
  ·clear H
   rintro _ st0_ H hst_
   rw [f52_J1c] at hst_
   simp only [f52_J1] at H
   subst hst_
   refine AW.rseq ?_
   try simp only [wm, ↓wk, ↓wl, nq, evV, ↓reduceIte, sevalprocAttr]
   refine evTs_pure hFn H (fun _ h => f34_ok h) (by rfl) (by rfl) (by rfl) (by rfl) (fun _ => rfl) ?_ <;> clear H <;> intro r_627 H
   try simp only [eL, wm, ↓wk, ↓wl, nq, evV, ↓reduceIte, sevalprocAttr]
   refine AW.sseq ?_
   refine AW.rseq ?_
   try simp only [wm, ↓wk, ↓wl, nq, evV, ↓reduceIte, sevalprocAttr]
   refine AW.ifc H (by rfl) ?_ ?_ <;> clear H <;> intro H
   ·refine AW.rseq ?_
    try simp only [wm, ↓wk, ↓wl, nq, evV, ↓reduceIte, sevalprocAttr]
    refine AW.ret ?_
    refine seqQ.ret ?_
    cases H
    exact hQ _ _ _ _ (.inr rfl) (by simp only [resVs, omap, resV, wm, ↓wk, ↓wl, nq, evV, ↓reduceIte, sevalprocAttr]; rfl) (hand_plain (by rfl)) (by first | exact Or.inl rfl | exact Or.inr rfl)
   ·refine AW.skip ?_
    refine seqQ.norm ?_
    refine AW.sseq ?_
    refine AW.rseq ?_
    try simp only [wm, ↓wk, ↓wl, nq, evV, ↓reduceIte, sevalprocAttr]
    refine evTs_at (enc := eApiProfile) H (by rfl) (by rfl) ?_ <;> clear H <;> intro x_628 H
    try simp only [eApiProfile, eL, eM, wm, ↓wk, ↓wl, nq, evV, ↓reduceIte, sevalprocAttr]
    refine AW.rseq ?_
    try simp only [wm, ↓wk, ↓wl, nq, evV, ↓reduceIte, sevalprocAttr]
    refine evTs_ifg H (by rfl) ?_ ?_ <;> clear H <;> intro H
    ·try simp only [wm, ↓wk, ↓wl, nq, evV, ↓reduceIte, sevalprocAttr]
     refine AW.ift (by rfl) ?_
     refine AW.rseq ?_
     try simp only [wm, ↓wk, ↓wl, nq, evV, ↓reduceIte, sevalprocAttr]
     refine AW.ret ?_
     refine seqQ.ret ?_
     cases H
     exact hQ _ _ _ _ (.inr rfl) (by simp only [resVs, omap, resV, wm, ↓wk, ↓wl, nq, evV, ↓reduceIte, sevalprocAttr]; rfl) (hand_plain (by rfl)) (by first | exact Or.inl rfl | exact Or.inr rfl)
    ·try simp only [wm, ↓wk, ↓wl, nq, evV, ↓reduceIte, sevalprocAttr]
     refine AW.ifc H (by rfl) ?_ ?_ <;> clear H <;> intro H
     ·refine AW.rseq ?_
      try simp only [wm, ↓wk, ↓wl, nq, evV, ↓reduceIte, sevalprocAttr]
      refine AW.ret ?_
      refine seqQ.ret ?_
      cases H
      exact hQ _ _ _ _ (.inr rfl) (by simp only [resVs, omap, resV, wm, ↓wk, ↓wl, nq, evV, ↓reduceIte, sevalprocAttr]; rfl) (hand_plain (by rfl)) (by first | exact Or.inl rfl | exact Or.inr rfl)
     ·refine AW.skip ?_
      refine seqQ.norm ?_
      refine AW.rseq ?_
      try simp only [wm, ↓wk, ↓wl, nq, evV, ↓reduceIte, sevalprocAttr]
      refine AW.ret ?_
      cases H
      exact hQ _ _ _ _ (.inr rfl) (by simp only [resVs, omap, resV, wm, ↓wk, ↓wl, nq, evV, ↓reduceIte, sevalprocAttr]; rfl) (hand_plain (by rfl)) (by first | exact Or.inl rfl | exact Or.inr rfl)
  ·refine AW.rseq ?_
   try simp only [wm, ↓wk, ↓wl, nq, evV, ↓reduceIte, sevalprocAttr]
   refine evTs_ifg H (by rfl) ?_ ?_ <;> clear H <;> intro H
   ·try simp only [wm, ↓wk, ↓wl, nq, evV, ↓reduceIte, sevalprocAttr]
    refine evTs_pure hFn H (fun _ h => f80_ok h) (by rfl) (by rfl) (by rfl) (by rfl) (fun _ => rfl) ?_ <;> clear H <;> intro r_629 H
    try simp only [eL, wm, ↓wk, ↓wl, nq, evV, ↓reduceIte, sevalprocAttr]
    refine AW.ifc H (by rfl) ?_ ?_ <;> clear H <;> intro H
    ·refine AW.rseq ?_
     try simp only [wm, ↓wk, ↓wl, nq, evV, ↓reduceIte, sevalprocAttr]
     refine AW.ret ?_
     refine seqQ.ret ?_
     cases H
     exact hQ _ _ _ _ (.inr rfl) (by simp only [resVs, omap, resV, wm, ↓wk, ↓wl, nq, evV, ↓reduceIte, sevalprocAttr]; rfl) (hand_plain (by rfl)) (by first | exact Or.inl rfl | exact Or.inr rfl)
    ·refine AW.skip ?_
     refine seqQ.norm ?_
     exact hf52_J1 _ _ H ((Le.tz [0] [0, 3] (by simp only [f52_J1c, wm, wmr, rrm, ↓wk, ↓wl, evV, ↓reduceIte, sevalprocAttr] <;> rfl)))
   ·try simp only [wm, ↓wk, ↓wl, nq, evV, ↓reduceIte, sevalprocAttr]
    refine AW.iff (by rfl) ?_
    refine AW.skip ?_
    refine seqQ.norm ?_
    exact hf52_J1 _ _ H ((Le.tz [0] [0, 3] (by simp only [f52_J1c, wm, wmr, rrm, ↓wk, ↓wl, evV, ↓reduceIte, sevalprocAttr] <;> rfl)))
def c81_0 : C := .seq (.reg [iI 5 (.mv (.t 0)), iI 6 (.mv (.t 0)), iI 7 (.faddr 2 (.t 3)), iI 8 (.load 0 (.t 7)), iI 9 (.call (.c (.fn 34 [])) [(.t 6), (.t 8)]), iI 10 (.iaddr 4 (.t 5) (.t 9)), iI 11 (.faddr 1 (.t 10)), iI 12 (.load 0 (.t 11)), iI 4 (.mv (.t 12))]) .ret
def ir81 : C := .seq (.reg [iI 3 (.box (.t 1)), iI 4 (.mv (.c (.int .i64 0)))]) c81_0
theorem fd81 : fd? Try.prog 81 = some (13, [.slot 4], ir81) := by kernel_rfl
noncomputable def f81 (profiles_671 : (List ApiProfile)) (x_672 : ApiFixture) : Option (Int) :=
  (f34 profiles_671 x_672.fProfile).bind fun r_673 => (at? profiles_671 r_673).bind fun x_674 => (some x_674.fFootprint)
theorem f81_ok {profiles_671 : (List ApiProfile)} {x_672 : ApiFixture} {r_ : Int} (H : f81 profiles_671 x_672 = some r_) : Pure Try.prog 81 [.sl 4 false (profiles_671.map eApiProfile), .agg [.int .i64 x_672.fChannel, .int .i64 x_672.fPart, .str x_672.fProfile, .int .i64 x_672.fUniverse, .int .i64 x_672.fAddress, .int .i64 x_672.fPhase, .str x_672.fCable]] (· = .int .i64 r_) := by
 refine Pure.walk3 fd81 none (Nat.le_of_ble_eq_true rfl) (by rfl) fun Q hQ => ?_
 simp only [f81] at H
 refine AW.rseq ?_
 try simp only [wm, ↓wk, ↓wl, nq, evV, ↓reduceIte, sevalprocAttr]
 refine AW.rseq ?_
 try simp only [wm, ↓wk, ↓wl, nq, evV, ↓reduceIte, sevalprocAttr]
 refine evTs_pure hFn H (fun _ h => f34_ok h) (by rfl) (by rfl) (by rfl) (by rfl) (fun _ => rfl) ?_ <;> clear H <;> intro r_673 H
 try simp only [eL, wm, ↓wk, ↓wl, nq, evV, ↓reduceIte, sevalprocAttr]
 refine evTs_at (enc := eApiProfile) H (by rfl) (by rfl) ?_ <;> clear H <;> intro x_674 H
 try simp only [eApiProfile, eL, eM, wm, ↓wk, ↓wl, nq, evV, ↓reduceIte, sevalprocAttr]
 refine AW.ret ?_
 cases H
 exact hQ _ _ _ _ (.inr rfl) (by simp only [resVs, omap, resV, wm, ↓wk, ↓wl, nq, evV, ↓reduceIte, sevalprocAttr]; rfl) (hand_plain (by rfl)) (by first | exact Or.inl rfl | exact Or.inr rfl)
def c53_0 : C := .seq (.regq [iI 7 (.faddr 3 (.t 4)), iI 8 (.load 0 (.t 7)), iI 9 (.faddr 3 (.t 5)), iI 10 (.load 0 (.t 9)), iI 11 (.bin .eql (.t 8) (.t 10)), iI 12 (.mv (.t 11)), iG (some 13) 12 true (.faddr 4 (.t 4)), iG (some 14) 12 true (.load 0 (.t 13)), iG (some 15) 12 true (.faddr 4 (.t 5)), iG (some 16) 12 true (.load 0 (.t 15)), iG (some 17) 12 true (.mv (.t 0)), iG (some 18) 12 true (.load 7 (.t 5)), iG (some 19) 12 true (.call (.c (.fn 81 [])) [(.t 17), (.t 18)]), iG (some 20) 12 true (.bin .add (.t 16) (.t 19)), iG (some 21) 12 true (.bin .lss (.t 14) (.t 20)), iI 22 (.pick (.t 12) (.t 21) (.c (.bool false))), iI 23 (.mv (.t 22)), iG (some 24) 23 true (.faddr 4 (.t 5)), iG (some 25) 23 true (.load 0 (.t 24)), iG (some 26) 23 true (.faddr 4 (.t 4)), iG (some 27) 23 true (.load 0 (.t 26)), iG (some 28) 23 true (.mv (.t 0)), iG (some 29) 23 true (.load 7 (.t 4)), iG (some 30) 23 true (.call (.c (.fn 81 [])) [(.t 28), (.t 29)]), iG (some 31) 23 true (.bin .add (.t 27) (.t 30)), iG (some 32) 23 true (.bin .lss (.t 25) (.t 31)), iI 33 (.pick (.t 23) (.t 32) (.c (.bool false))), iI 6 (.mv (.t 33))]) .ret
def ir53 : C := .seq (.reg [iI 4 (.box (.t 1)), iI 5 (.box (.t 2)), iI 6 (.mv (.c (.bool false)))]) c53_0
theorem fd53 : fd? Try.prog 53 = some (34, [.slot 6], ir53) := by kernel_rfl
noncomputable def f53 (profiles_668 : (List ApiProfile)) (x_669 : ApiFixture) (y_670 : ApiFixture) : Option (Bool) :=
  (if (decide (x_669.fUniverse = y_670.fUniverse)) = true then (f81 profiles_668 y_670).bind fun r_675 => (if (decide (x_669.fAddress < (IntKind.i64.wrap (y_670.fAddress + r_675)))) = true then (f81 profiles_668 x_669).bind fun r_676 => (some (decide (y_670.fAddress < (IntKind.i64.wrap (x_669.fAddress + r_676))))) else (some false)) else (some false))
theorem f53_ok {profiles_668 : (List ApiProfile)} {x_669 : ApiFixture} {y_670 : ApiFixture} {r_ : Bool} (H : f53 profiles_668 x_669 y_670 = some r_) : Pure Try.prog 53 [.sl 4 false (profiles_668.map eApiProfile), .agg [.int .i64 x_669.fChannel, .int .i64 x_669.fPart, .str x_669.fProfile, .int .i64 x_669.fUniverse, .int .i64 x_669.fAddress, .int .i64 x_669.fPhase, .str x_669.fCable], .agg [.int .i64 y_670.fChannel, .int .i64 y_670.fPart, .str y_670.fProfile, .int .i64 y_670.fUniverse, .int .i64 y_670.fAddress, .int .i64 y_670.fPhase, .str y_670.fCable]] (· = .bool r_) := by
 refine Pure.walk3 fd53 none (Nat.le_of_ble_eq_true rfl) (by rfl) fun Q hQ => ?_
 simp only [f53] at H
 refine AW.rseq ?_
 try simp only [wm, ↓wk, ↓wl, nq, evV, ↓reduceIte, sevalprocAttr]
 refine AW.rqseq ?_
 try simp only [wm, ↓wk, ↓wl, nq, evV, ↓reduceIte, sevalprocAttr]
 refine evTs_ifg H (by rfl) ?_ ?_ <;> clear H <;> intro H
 ·try simp only [wm, ↓wk, ↓wl, nq, evV, ↓reduceIte, sevalprocAttr]
  refine evTs_pure hFnq H (fun _ h => f81_ok h) (by rfl) (by rfl) (by rfl) (by rfl) (fun _ => rfl) ?_ <;> clear H <;> intro r_675 H
  try simp only [eL, wm, ↓wk, ↓wl, nq, evV, ↓reduceIte, sevalprocAttr]
  refine evTs_ifg H (by rfl) ?_ ?_ <;> clear H <;> intro H
  ·try simp only [wm, ↓wk, ↓wl, nq, evV, ↓reduceIte, sevalprocAttr]
   refine evTs_pure hFnq H (fun _ h => f81_ok h) (by rfl) (by rfl) (by rfl) (by rfl) (fun _ => rfl) ?_ <;> clear H <;> intro r_676 H
   try simp only [eL, wm, ↓wk, ↓wl, nq, evV, ↓reduceIte, sevalprocAttr]
   refine AW.ret ?_
   cases H
   exact hQ _ _ _ _ (.inr rfl) (by simp only [resVs, omap, resV, wm, ↓wk, ↓wl, nq, evV, ↓reduceIte, sevalprocAttr]; rfl) (hand_plain (by rfl)) (by first | exact Or.inl rfl | exact Or.inr rfl)
  ·try simp only [wm, ↓wk, ↓wl, nq, evV, ↓reduceIte, sevalprocAttr]
   refine AW.ret ?_
   cases H
   exact hQ _ _ _ _ (.inr rfl) (by simp only [resVs, omap, resV, wm, ↓wk, ↓wl, nq, evV, ↓reduceIte, sevalprocAttr]; rfl) (hand_plain (by rfl)) (by first | exact Or.inl rfl | exact Or.inr rfl)
 ·try simp only [wm, ↓wk, ↓wl, nq, evV, ↓reduceIte, sevalprocAttr]
  refine AW.ret ?_
  cases H
  exact hQ _ _ _ _ (.inr rfl) (by simp only [resVs, omap, resV, wm, ↓wk, ↓wl, nq, evV, ↓reduceIte, sevalprocAttr]; rfl) (hand_plain (by rfl)) (by first | exact Or.inl rfl | exact Or.inr rfl)
noncomputable def f17_L3 (i_686 : Int) (l_580 : (List ApiFixture)) (profiles_581 : (List ApiProfile)) : Lp (Int) ((Unit) ⊕ (Unit)) where
  body := fun k_770 => (if (decide (k_770 < i_686)) = true then (at? l_580 k_770).bind fun x_774 => (at? l_580 i_686).bind fun x_775 => (f53 profiles_581 x_774 x_775).bind fun r_776 => (if r_776 = true then (some (.brk (Sum.inr ()))) else (some (.next (IntKind.i64.wrap (k_770 + 1))))) else (some (.brk (Sum.inl ()))))
  cst := fun k_770 => ⟨put (put (put (put (fun _ => .junk) 8 (.int .i64 k_770)) 5 (.int .i64 i_686)) 1 (.sl 4 false (profiles_581.map eApiProfile))) 0 (.sl 7 false (l_580.map eApiFixture)), []⟩
theorem f17_L3c (i_686 : Int) (l_580 : (List ApiFixture)) (profiles_581 : (List ApiProfile)) (k_770 : Int) : (f17_L3 i_686 l_580 profiles_581).cst k_770 = ⟨put (put (put (put (fun _ => .junk) 8 (.int .i64 k_770)) 5 (.int .i64 i_686)) 1 (.sl 4 false (profiles_581.map eApiProfile))) 0 (.sl 7 false (l_580.map eApiFixture)), []⟩ := rfl
noncomputable def f17_L2 (i_686 : Int) (l_580 : (List ApiFixture)) (profiles_581 : (List ApiProfile)) : Lp (Int) ((Unit) ⊕ (Unit)) where
  body := fun k_758 => (if (decide (k_758 < i_686)) = true then (at? l_580 k_758).bind fun x_788 => (at? l_580 i_686).bind fun x_789 => (if (decide (x_788.fChannel = x_789.fChannel)) = true then (at? l_580 k_758).bind fun x_790 => (at? l_580 i_686).bind fun x_791 => (if (decide (x_790.fPart = x_791.fPart)) = true then (some (.brk (Sum.inr ()))) else (some (.next (IntKind.i64.wrap (k_758 + 1))))) else (some (.next (IntKind.i64.wrap (k_758 + 1))))) else (some (.brk (Sum.inl ()))))
  cst := fun k_758 => ⟨put (put (put (put (fun _ => .junk) 7 (.int .i64 k_758)) 5 (.int .i64 i_686)) 1 (.sl 4 false (profiles_581.map eApiProfile))) 0 (.sl 7 false (l_580.map eApiFixture)), []⟩
theorem f17_L2c (i_686 : Int) (l_580 : (List ApiFixture)) (profiles_581 : (List ApiProfile)) (k_758 : Int) : (f17_L2 i_686 l_580 profiles_581).cst k_758 = ⟨put (put (put (put (fun _ => .junk) 7 (.int .i64 k_758)) 5 (.int .i64 i_686)) 1 (.sl 4 false (profiles_581.map eApiProfile))) 0 (.sl 7 false (l_580.map eApiFixture)), []⟩ := rfl
noncomputable def f17_L1 (l_580 : (List ApiFixture)) (profiles_581 : (List ApiProfile)) : Lp (Int) ((Unit) ⊕ (Int)) where
  body := fun i_686 => (if (decide (i_686 < ((l_580.length : Nat) : Int))) = true then (at? l_580 i_686).bind fun x_733 => (f52 profiles_581 x_733).bind fun r_734 => (if (decide (r_734 ≠ 0)) = true then (some (.brk (Sum.inr r_734))) else ((Lp.run (f17_L2 i_686 l_580 profiles_581) 0).bind fun r_ => match r_ with | (Sum.inl _) => ((Lp.run (f17_L3 i_686 l_580 profiles_581) 0).bind fun r_ => match r_ with | (Sum.inl _) => (some (.next (IntKind.i64.wrap (i_686 + 1)))) | (Sum.inr _) => (some (.brk (Sum.inr 10)))) | (Sum.inr _) => (some (.brk (Sum.inr 7))))) else (some (.brk (Sum.inl ()))))
  cst := fun i_686 => ⟨put (put (put (fun _ => .junk) 5 (.int .i64 i_686)) 1 (.sl 4 false (profiles_581.map eApiProfile))) 0 (.sl 7 false (l_580.map eApiFixture)), []⟩
theorem f17_L1c (l_580 : (List ApiFixture)) (profiles_581 : (List ApiProfile)) (i_686 : Int) : (f17_L1 l_580 profiles_581).cst i_686 = ⟨put (put (put (fun _ => .junk) 5 (.int .i64 i_686)) 1 (.sl 4 false (profiles_581.map eApiProfile))) 0 (.sl 7 false (l_580.map eApiFixture)), []⟩ := rfl
def c17_0 : C := .cond (.t 16) (.seq (.reg [iI 4 (.mv (.c (.int .i64 5)))]) .ret) (.skip)
def c17_1 : C := .cond (.t 20) (.skip) (.exit 0)
def c17_2 : C := .cond (.t 30) (.seq (.reg [iI 31 (.mv (.t 6)), iI 4 (.mv (.t 31))]) .ret) (.skip)
def c17_3 : C := .seq (.reg [iI 29 (.mv (.t 6)), iI 30 (.bin .neq (.t 29) (.c (.int .i64 0)))]) c17_2
def c17_4 : C := .cond (.t 34) (.skip) (.exit 2)
def c17_5 : C := .cond (.t 60) (.seq (.reg [iI 4 (.mv (.c (.int .i64 7)))]) .ret) (.skip)
def c17_6 : C := .reg [iI 35 (.mv (.t 7)), iI 36 (.bin .add (.t 35) (.c (.int .i64 1))), iI 7 (.mv (.t 36))]
def c17_7 : C := .seq (.block 3 (.seq (.reg [iI 37 (.mv (.t 0)), iI 38 (.mv (.t 7)), iI 39 (.iaddr 7 (.t 37) (.t 38)), iI 40 (.faddr 0 (.t 39)), iI 41 (.load 0 (.t 40)), iI 42 (.mv (.t 0)), iI 43 (.mv (.t 5)), iI 44 (.iaddr 7 (.t 42) (.t 43)), iI 45 (.faddr 0 (.t 44)), iI 46 (.load 0 (.t 45)), iI 47 (.bin .eql (.t 41) (.t 46)), iI 48 (.mv (.t 47)), iG (some 49) 48 true (.mv (.t 0)), iG (some 50) 48 true (.mv (.t 7)), iG (some 51) 48 true (.iaddr 7 (.t 49) (.t 50)), iG (some 52) 48 true (.faddr 1 (.t 51)), iG (some 53) 48 true (.load 0 (.t 52)), iG (some 54) 48 true (.mv (.t 0)), iG (some 55) 48 true (.mv (.t 5)), iG (some 56) 48 true (.iaddr 7 (.t 54) (.t 55)), iG (some 57) 48 true (.faddr 1 (.t 56)), iG (some 58) 48 true (.load 0 (.t 57)), iG (some 59) 48 true (.bin .eql (.t 53) (.t 58)), iI 60 (.pick (.t 48) (.t 59) (.c (.bool false)))]) c17_5)) c17_6
def c17_8 : C := .block 2 (.loop (.seq (.seq (.reg [iI 32 (.mv (.t 7)), iI 33 (.mv (.t 5)), iI 34 (.bin .lss (.t 32) (.t 33))]) c17_4) c17_7))
def c17_9 : C := .cond (.t 63) (.skip) (.exit 4)
def c17_10 : C := .cond (.t 75) (.seq (.reg [iI 4 (.mv (.c (.int .i64 10)))]) .ret) (.skip)
def c17_11 : C := .reg [iI 64 (.mv (.t 8)), iI 65 (.bin .add (.t 64) (.c (.int .i64 1))), iI 8 (.mv (.t 65))]
def c17_12 : C := .seq (.block 5 (.seq (.reg [iI 66 (.mv (.t 1)), iI 67 (.mv (.t 0)), iI 68 (.mv (.t 8)), iI 69 (.iaddr 7 (.t 67) (.t 68)), iI 70 (.load 7 (.t 69)), iI 71 (.mv (.t 0)), iI 72 (.mv (.t 5)), iI 73 (.iaddr 7 (.t 71) (.t 72)), iI 74 (.load 7 (.t 73)), iI 75 (.call (.c (.fn 53 [])) [(.t 66), (.t 70), (.t 74)])]) c17_10)) c17_11
def c17_13 : C := .block 4 (.loop (.seq (.seq (.reg [iI 61 (.mv (.t 8)), iI 62 (.mv (.t 5)), iI 63 (.bin .lss (.t 61) (.t 62))]) c17_9) c17_12))
def c17_14 : C := .seq (.reg [iI 8 (.mv (.c (.int .i64 0)))]) c17_13
def c17_15 : C := .seq (.seq (.reg [iI 7 (.mv (.c (.int .i64 0)))]) c17_8) c17_14
def c17_16 : C := .reg [iI 21 (.mv (.t 5)), iI 22 (.bin .add (.t 21) (.c (.int .i64 1))), iI 5 (.mv (.t 22))]
def c17_17 : C := .seq (.block 1 (.seq (.seq (.reg [iI 23 (.mv (.t 1)), iI 24 (.mv (.t 0)), iI 25 (.mv (.t 5)), iI 26 (.iaddr 7 (.t 24) (.t 25)), iI 27 (.load 7 (.t 26)), iI 28 (.call (.c (.fn 52 [])) [(.t 23), (.t 27)]), iI 6 (.mv (.t 28))]) c17_3) c17_15)) c17_16
def c17_18 : C := .block 0 (.loop (.seq (.seq (.reg [iI 17 (.mv (.t 5)), iI 18 (.mv (.t 0)), iI 19 (.len 0 (.t 18)), iI 20 (.bin .lss (.t 17) (.t 19))]) c17_1) c17_17))
def c17_19 : C := .seq (.reg [iI 4 (.mv (.c (.int .i64 0)))]) .ret
def c17_20 : C := .seq (.seq (.reg [iI 5 (.mv (.c (.int .i64 0)))]) c17_18) c17_19
def c17_21 : C := .seq (.seq (.reg [iI 9 (.mv (.t 1)), iI 10 (.len 0 (.t 9)), iI 11 (.bin .gtr (.t 10) (.c (.int .i64 32))), iI 12 (.mv (.t 11)), iG (some 13) 12 false (.mv (.t 0)), iG (some 14) 12 false (.len 0 (.t 13)), iG (some 15) 12 false (.bin .gtr (.t 14) (.c (.int .i64 64))), iI 16 (.pick (.t 12) (.c (.bool true)) (.t 15))]) c17_0) c17_20
def ir17 : C := .seq (.reg [iI 4 (.mv (.c (.int .i64 0)))]) c17_21
theorem fd17 : fd? Try.prog 17 = some (76, [.slot 4], ir17) := by kernel_rfl
noncomputable def f17 (l_580 : (List ApiFixture)) (profiles_581 : (List ApiProfile)) : Option (Int) :=
  (if (decide (32 < ((profiles_581.length : Nat) : Int))) = true then (some 5) else (if (decide (64 < ((l_580.length : Nat) : Int))) = true then (some 5) else ((Lp.run (f17_L1 l_580 profiles_581) 0).bind fun r_ => match r_ with | (Sum.inl _) => (some 0) | (Sum.inr v_730) => (some v_730))))
theorem f17_ok {l_580 : (List ApiFixture)} {profiles_581 : (List ApiProfile)} {r_ : Int} (H : f17 l_580 profiles_581 = some r_) : Pure Try.prog 17 [.sl 7 false (l_580.map eApiFixture), .sl 4 false (profiles_581.map eApiProfile)] (· = .int .i64 r_) := by
 refine Pure.walk3 fd17 none (Nat.le_of_ble_eq_true rfl) (by rfl) fun Q hQ => ?_
 simp only [f17] at H
 refine AW.rseq ?_
 try simp only [wm, ↓wk, ↓wl, nq, evV, ↓reduceIte, sevalprocAttr]
 refine AW.sseq ?_
 refine AW.rseq ?_
 try simp only [wm, ↓wk, ↓wl, nq, evV, ↓reduceIte, sevalprocAttr]
 refine evTs_ifg H (by rfl) ?_ ?_ <;> clear H <;> intro H
 ·try simp only [wm, ↓wk, ↓wl, nq, evV, ↓reduceIte, sevalprocAttr]
  refine AW.ift (by rfl) ?_
  refine AW.rseq ?_
  try simp only [wm, ↓wk, ↓wl, nq, evV, ↓reduceIte, sevalprocAttr]
  refine AW.ret ?_
  refine seqQ.ret ?_
  cases H
  exact hQ _ _ _ _ (.inr rfl) (by simp only [resVs, omap, resV, wm, ↓wk, ↓wl, nq, evV, ↓reduceIte, sevalprocAttr]; rfl) (hand_plain (by rfl)) (by first | exact Or.inl rfl | exact Or.inr rfl)
 ·try simp only [wm, ↓wk, ↓wl, nq, evV, ↓reduceIte, sevalprocAttr]
  refine AW.ifc H (by rfl) ?_ ?_ <;> clear H <;> intro H
  ·refine AW.rseq ?_
   try simp only [wm, ↓wk, ↓wl, nq, evV, ↓reduceIte, sevalprocAttr]
   refine AW.ret ?_
   refine seqQ.ret ?_
   cases H
   exact hQ _ _ _ _ (.inr rfl) (by simp only [resVs, omap, resV, wm, ↓wk, ↓wl, nq, evV, ↓reduceIte, sevalprocAttr]; rfl) (hand_plain (by rfl)) (by first | exact Or.inl rfl | exact Or.inr rfl)
  ·refine AW.skip ?_
   refine seqQ.norm ?_
   refine AW.sseq ?_
   refine AW.rseq ?_
   try simp only [wm, ↓wk, ↓wl, nq, evV, ↓reduceIte, sevalprocAttr]
   refine AW.bend ?_
   refine AW.iter H ((Le.tz [] [0, 1, 5] (by simp only [f17_L1c, wm, wmr, rrm, ↓wk, ↓wl, evV, ↓reduceIte, sevalprocAttr] <;> rfl))) ?_ <;> clear H
   rintro i_686 x_ st0_ H hst_
   rw [f17_L1c] at hst_
   simp only [f17_L1] at H
   subst hst_
   refine AW.sseq ?_
   refine AW.rseq ?_
   try simp only [wm, ↓wk, ↓wl, nq, evV, ↓reduceIte, sevalprocAttr]
   refine AW.ifc H (by rfl) ?_ ?_ <;> clear H <;> intro H
   ·refine AW.skip ?_
    refine seqQ.norm ?_
    refine AW.bseq ?_
    refine AW.sseq ?_
    refine AW.rseq ?_
    try simp only [wm, ↓wk, ↓wl, nq, evV, ↓reduceIte, sevalprocAttr]
    refine evTs_at (enc := eApiFixture) H (by rfl) (by rfl) ?_ <;> clear H <;> intro x_733 H
    try simp only [eApiFixture, eL, eM, wm, ↓wk, ↓wl, nq, evV, ↓reduceIte, sevalprocAttr]
    refine evTs_pure hFn H (fun _ h => f52_ok h) (by rfl) (by rfl) (by rfl) (by rfl) (fun _ => rfl) ?_ <;> clear H <;> intro r_734 H
    try simp only [eL, wm, ↓wk, ↓wl, nq, evV, ↓reduceIte, sevalprocAttr]
    refine AW.rseq ?_
    try simp only [wm, ↓wk, ↓wl, nq, evV, ↓reduceIte, sevalprocAttr]
    refine AW.ifc H (by rfl) ?_ ?_ <;> clear H <;> intro H
    ·refine AW.rseq ?_
     try simp only [wm, ↓wk, ↓wl, nq, evV, ↓reduceIte, sevalprocAttr]
     refine AW.ret ?_
     refine seqQ.ret ?_
     refine blkQ.ret ?_
     refine loopQ.ret H ?_ <;> clear H <;> intro H
     try dsimp only at H
     refine blk0.ret ?_
     refine seqQ.ret ?_
     cases H
     exact hQ _ _ _ _ (.inr rfl) (by simp only [resVs, omap, resV, wm, ↓wk, ↓wl, nq, evV, ↓reduceIte, sevalprocAttr]; rfl) (hand_plain (by rfl)) (by first | exact Or.inl rfl | exact Or.inr rfl)
    ·refine AW.skip ?_
     refine seqQ.norm ?_
     refine AW.sseq ?_
     refine AW.rseq ?_
     try simp only [wm, ↓wk, ↓wl, nq, evV, ↓reduceIte, sevalprocAttr]
     refine AW.bend ?_
     refine AW.iter H ((Le.tz [] [0, 1, 5, 7] (by simp only [f17_L2c, wm, wmr, rrm, ↓wk, ↓wl, evV, ↓reduceIte, sevalprocAttr] <;> rfl))) ?_ <;> clear H
     rintro k_758 x_ st0_ H hst_
     rw [f17_L2c] at hst_
     simp only [f17_L2] at H
     subst hst_
     refine AW.sseq ?_
     refine AW.rseq ?_
     try simp only [wm, ↓wk, ↓wl, nq, evV, ↓reduceIte, sevalprocAttr]
     refine AW.ifc H (by rfl) ?_ ?_ <;> clear H <;> intro H
     ·refine AW.skip ?_
      refine seqQ.norm ?_
      refine AW.bseq ?_
      refine AW.rseq ?_
      try simp only [wm, ↓wk, ↓wl, nq, evV, ↓reduceIte, sevalprocAttr]
      refine evTs_at (enc := eApiFixture) H (by rfl) (by rfl) ?_ <;> clear H <;> intro x_788 H
      try simp only [eApiFixture, eL, eM, wm, ↓wk, ↓wl, nq, evV, ↓reduceIte, sevalprocAttr]
      refine evTs_at (enc := eApiFixture) H (by rfl) (by rfl) ?_ <;> clear H <;> intro x_789 H
      try simp only [eApiFixture, eL, eM, wm, ↓wk, ↓wl, nq, evV, ↓reduceIte, sevalprocAttr]
      refine evTs_ifg H (by rfl) ?_ ?_ <;> clear H <;> intro H
      ·try simp only [wm, ↓wk, ↓wl, nq, evV, ↓reduceIte, sevalprocAttr]
       refine evTs_at (enc := eApiFixture) H (by rfl) (by rfl) ?_ <;> clear H <;> intro x_790 H
       try simp only [eApiFixture, eL, eM, wm, ↓wk, ↓wl, nq, evV, ↓reduceIte, sevalprocAttr]
       refine evTs_at (enc := eApiFixture) H (by rfl) (by rfl) ?_ <;> clear H <;> intro x_791 H
       try simp only [eApiFixture, eL, eM, wm, ↓wk, ↓wl, nq, evV, ↓reduceIte, sevalprocAttr]
       refine AW.ifc H (by rfl) ?_ ?_ <;> clear H <;> intro H
       ·refine AW.rseq ?_
        try simp only [wm, ↓wk, ↓wl, nq, evV, ↓reduceIte, sevalprocAttr]
        refine AW.ret ?_
        refine blkQ.ret ?_
        refine loopQ.ret H ?_ <;> clear H <;> intro H
        try dsimp only at H
        refine blk0.ret ?_
        refine seqQ.ret ?_
        refine blkQ.ret ?_
        refine loopQ.ret H ?_ <;> clear H <;> intro H
        try dsimp only at H
        refine blk0.ret ?_
        refine seqQ.ret ?_
        cases H
        exact hQ _ _ _ _ (.inr rfl) (by simp only [resVs, omap, resV, wm, ↓wk, ↓wl, nq, evV, ↓reduceIte, sevalprocAttr]; rfl) (hand_plain (by rfl)) (by first | exact Or.inl rfl | exact Or.inr rfl)
       ·refine AW.skip ?_
        refine blkQ.norm ?_
        refine AW.rend ?_
        try simp only [wm, ↓wk, ↓wl, nq, evV, ↓reduceIte, sevalprocAttr]
        exact loopQ.next H ((Le.tz [] [0, 1, 5, 7] (by simp only [f17_L2c, wm, wmr, rrm, ↓wk, ↓wl, evV, ↓reduceIte, sevalprocAttr] <;> rfl)))
      ·try simp only [wm, ↓wk, ↓wl, nq, evV, ↓reduceIte, sevalprocAttr]
       refine AW.iff (by rfl) ?_
       refine AW.skip ?_
       refine blkQ.norm ?_
       refine AW.rend ?_
       try simp only [wm, ↓wk, ↓wl, nq, evV, ↓reduceIte, sevalprocAttr]
       exact loopQ.next H ((Le.tz [] [0, 1, 5, 7] (by simp only [f17_L2c, wm, wmr, rrm, ↓wk, ↓wl, evV, ↓reduceIte, sevalprocAttr] <;> rfl)))
     ·refine AW.exit ?_
      refine seqQ.exit ?_
      refine loopQ.exit H ?_ <;> clear H <;> intro H
      try dsimp only at H
      refine blk0.here ?_
      refine seqQ.norm ?_
      refine AW.rseq ?_
      try simp only [wm, ↓wk, ↓wl, nq, evV, ↓reduceIte, sevalprocAttr]
      refine AW.bend ?_
      refine AW.iter H ((Le.tz [] [0, 1, 5, 8] (by simp only [f17_L3c, wm, wmr, rrm, ↓wk, ↓wl, evV, ↓reduceIte, sevalprocAttr] <;> rfl))) ?_ <;> clear H
      rintro k_799 x_ st0_ H hst_
      rw [f17_L3c] at hst_
      simp only [f17_L3] at H
      subst hst_
      refine AW.sseq ?_
      refine AW.rseq ?_
      try simp only [wm, ↓wk, ↓wl, nq, evV, ↓reduceIte, sevalprocAttr]
      refine AW.ifc H (by rfl) ?_ ?_ <;> clear H <;> intro H
      ·refine AW.skip ?_
       refine seqQ.norm ?_
       refine AW.bseq ?_
       refine AW.rseq ?_
       try simp only [wm, ↓wk, ↓wl, nq, evV, ↓reduceIte, sevalprocAttr]
       refine evTs_at (enc := eApiFixture) H (by rfl) (by rfl) ?_ <;> clear H <;> intro x_803 H
       try simp only [eApiFixture, eL, eM, wm, ↓wk, ↓wl, nq, evV, ↓reduceIte, sevalprocAttr]
       refine evTs_at (enc := eApiFixture) H (by rfl) (by rfl) ?_ <;> clear H <;> intro x_804 H
       try simp only [eApiFixture, eL, eM, wm, ↓wk, ↓wl, nq, evV, ↓reduceIte, sevalprocAttr]
       refine evTs_pure hFn H (fun _ h => f53_ok h) (by rfl) (by rfl) (by rfl) (by rfl) (fun _ => rfl) ?_ <;> clear H <;> intro r_805 H
       try simp only [eL, wm, ↓wk, ↓wl, nq, evV, ↓reduceIte, sevalprocAttr]
       refine AW.ifc H (by rfl) ?_ ?_ <;> clear H <;> intro H
       ·refine AW.rseq ?_
        try simp only [wm, ↓wk, ↓wl, nq, evV, ↓reduceIte, sevalprocAttr]
        refine AW.ret ?_
        refine blkQ.ret ?_
        refine loopQ.ret H ?_ <;> clear H <;> intro H
        try dsimp only at H
        refine blk0.ret ?_
        refine blkQ.ret ?_
        refine loopQ.ret H ?_ <;> clear H <;> intro H
        try dsimp only at H
        refine blk0.ret ?_
        refine seqQ.ret ?_
        cases H
        exact hQ _ _ _ _ (.inr rfl) (by simp only [resVs, omap, resV, wm, ↓wk, ↓wl, nq, evV, ↓reduceIte, sevalprocAttr]; rfl) (hand_plain (by rfl)) (by first | exact Or.inl rfl | exact Or.inr rfl)
       ·refine AW.skip ?_
        refine blkQ.norm ?_
        refine AW.rend ?_
        try simp only [wm, ↓wk, ↓wl, nq, evV, ↓reduceIte, sevalprocAttr]
        exact loopQ.next H ((Le.tz [] [0, 1, 5, 8] (by simp only [f17_L3c, wm, wmr, rrm, ↓wk, ↓wl, evV, ↓reduceIte, sevalprocAttr] <;> rfl)))
      ·refine AW.exit ?_
       refine seqQ.exit ?_
       refine loopQ.exit H ?_ <;> clear H <;> intro H
       try dsimp only at H
       refine blk0.here ?_
       refine blkQ.norm ?_
       refine AW.rend ?_
       try simp only [wm, ↓wk, ↓wl, nq, evV, ↓reduceIte, sevalprocAttr]
       exact loopQ.next H ((Le.tz [] [0, 1, 5] (by simp only [f17_L1c, wm, wmr, rrm, ↓wk, ↓wl, evV, ↓reduceIte, sevalprocAttr] <;> rfl)))
   ·refine AW.exit ?_
    refine seqQ.exit ?_
    refine loopQ.exit H ?_ <;> clear H <;> intro H
    try dsimp only at H
    refine blk0.here ?_
    refine seqQ.norm ?_
    refine AW.rseq ?_
    try simp only [wm, ↓wk, ↓wl, nq, evV, ↓reduceIte, sevalprocAttr]
    refine AW.ret ?_
    cases H
    exact hQ _ _ _ _ (.inr rfl) (by simp only [resVs, omap, resV, wm, ↓wk, ↓wl, nq, evV, ↓reduceIte, sevalprocAttr]; rfl) (hand_plain (by rfl)) (by first | exact Or.inl rfl | exact Or.inr rfl)
end Go.Proofs.Ythikbfhdebaceaa
