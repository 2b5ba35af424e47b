import Derived.Test.YthikbfhdebaceaaX2
import Derived.Test.YthikbfhdebaceaaM5
import Derived.Test.YthikbfhdebaceaaM6
import Derived.Test.YthikbfhdebaceaaProg
import Derived.KernelRfl
namespace Go.Proofs.Ythikbfhdebaceaa
open Go Go.Ab

set_option maxHeartbeats 1000000
set_option maxRecDepth 4000
set_option linter.unusedSimpArgs false
set_option linter.unusedVariables false
def c29_0 : C := .seq (.reg [iI 5 (.mv (.t 0)), iI 6 (.mv (.t 1)), iI 7 (.call (.c (.fn 10 [])) [(.t 5), (.t 6)]), iI 8 (.mv (.t 7)), iG (some 9) 8 true (.mv (.t 0)), iG (some 10) 8 true (.mv (.t 1)), iG (some 11) 8 true (.call (.c (.fn 17 [])) [(.t 9), (.t 10)]), iG (some 12) 8 true (.bin .eql (.t 11) (.c (.int .i64 0))), iI 13 (.pick (.t 8) (.t 12) (.c (.bool false))), iI 4 (.mv (.t 13))]) .ret
def ir29 : C := .seq (.reg [iI 4 (.mv (.c (.bool false)))]) c29_0
theorem fd29 : fd? Try.prog 29 = some (14, [.slot 4], ir29) := by kernel_rfl
noncomputable def f29 (l_858 : (List ApiFixture)) (profiles_859 : (List ApiProfile)) : Option (Bool) :=
  (f10 l_858 profiles_859).bind fun r_860 => (if r_860 = true then (f17 l_858 profiles_859).bind fun r_861 => (some (decide (r_861 = 0))) else (some false))
theorem f29_ok {l_858 : (List ApiFixture)} {profiles_859 : (List ApiProfile)} {r_ : Bool} (H : f29 l_858 profiles_859 = some r_) : Pure Try.prog 29 [.sl 7 false (l_858.map eApiFixture), .sl 4 false (profiles_859.map eApiProfile)] (· = .bool r_) := by
 refine Pure.walk3 fd29 none (Nat.le_of_ble_eq_true rfl) (by rfl) fun Q hQ => ?_
 simp only [f29] at H
 refine AW.rseq ?_
 try simp only [wm, ↓wk, ↓wl, nq, evV, ↓reduceIte, sevalprocAttr]
 refine AW.rseq ?_
 try simp only [wm, ↓wk, ↓wl, nq, evV, ↓reduceIte, sevalprocAttr]
 refine evTs_pure hFn H (fun _ h => f10_ok h) (by rfl) (by rfl) (by rfl) (by rfl) (fun _ => rfl) ?_ <;> clear H <;> intro r_860 H
 try simp only [eL, wm, ↓wk, ↓wl, nq, evV, ↓reduceIte, sevalprocAttr]
 refine evTs_ifg H (by rfl) ?_ ?_ <;> clear H <;> intro H
 ·try simp only [wm, ↓wk, ↓wl, nq, evV, ↓reduceIte, sevalprocAttr]
  refine evTs_pure hFn H (fun _ h => f17_ok h) (by rfl) (by rfl) (by rfl) (by rfl) (fun _ => rfl) ?_ <;> clear H <;> intro r_861 H
  try simp only [eL, wm, ↓wk, ↓wl, nq, evV, ↓reduceIte, sevalprocAttr]
  refine AW.ret ?_
  cases H
  exact hQ _ _ _ _ (.inr rfl) (by simp only [resVs, omap, resV, wm, ↓wk, ↓wl, nq, evV, ↓reduceIte, sevalprocAttr]; rfl) (hand_plain (by rfl)) (by first | exact Or.inl rfl | exact Or.inr rfl)
 ·try simp only [wm, ↓wk, ↓wl, nq, evV, ↓reduceIte, sevalprocAttr]
  refine AW.ret ?_
  cases H
  exact hQ _ _ _ _ (.inr rfl) (by simp only [resVs, omap, resV, wm, ↓wk, ↓wl, nq, evV, ↓reduceIte, sevalprocAttr]; rfl) (hand_plain (by rfl)) (by first | exact Or.inl rfl | exact Or.inr rfl)
def c31_0 : C := .cond (.t 9) (.skip) (.exit 0)
def c31_1 : C := .reg [iI 10 (.mv (.t 2)), iI 11 (.bin .add (.t 10) (.c (.int .i64 1))), iI 12 (.mv (.t 3)), iI 13 (.bin .sub (.t 12) (.c (.int .i64 1))), iI 2 (.mv (.t 11)), iI 3 (.mv (.t 13))]
def c31_2 : C := .seq (.block 1 (.reg [iI 14 (.mv (.t 0)), iI 15 (.mv (.t 2)), iI 16 (.mv (.t 0)), iI 17 (.mv (.t 3)), iI 18 (.mv (.t 0)), iI 19 (.mv (.t 3)), iI 20 (.iaddr 7 (.t 18) (.t 19)), iI 21 (.load 7 (.t 20)), iI 22 (.mv (.t 0)), iI 23 (.mv (.t 2)), iI 24 (.iaddr 7 (.t 22) (.t 23)), iI 25 (.load 7 (.t 24)), iI 26 (.iaddr 7 (.t 14) (.t 15)), iN (.store 7 (.t 26) (.t 21)), iI 27 (.iaddr 7 (.t 16) (.t 17)), iN (.store 7 (.t 27) (.t 25))])) c31_1
def c31_3 : C := .block 0 (.loop (.seq (.seq (.reg [iI 7 (.mv (.t 2)), iI 8 (.mv (.t 3)), iI 9 (.bin .lss (.t 7) (.t 8))]) c31_0) c31_2))
def ir31 : C := .seq (.reg [iI 4 (.mv (.t 0)), iI 5 (.len 0 (.t 4)), iI 6 (.bin .sub (.t 5) (.c (.int .i64 1))), iI 2 (.mv (.c (.int .i64 0))), iI 3 (.mv (.t 6))]) c31_3
theorem fd31 : fd? Try.prog 31 = some (28, [], ir31) := by kernel_rfl
noncomputable def f7_L2 (p_857 : ApiParam) : Lp (Int × Int × (List ApiFixture)) ((List ApiFixture)) where
  body := fun (i_908, j_909, v_910) => (if (decide (i_908 < j_909)) = true then (at? v_910 j_909).bind fun x_918 => (at? v_910 i_908).bind fun x_919 => (at? v_910 i_908).bind fun x_920 => (at? (v_910.set i_908.toNat x_918) j_909).bind fun x_922 => (some (.next ((IntKind.i64.wrap (i_908 + 1)), (IntKind.i64.wrap (j_909 - 1)), ((v_910.set i_908.toNat x_918).set j_909.toNat x_919)))) else (some (.brk v_910)))
  cst := fun (i_908, j_909, v_910) => ⟨put (put (put (fun _ => .junk) 3 (.int .i64 j_909)) 2 (.int .i64 i_908)) 0 (.row 7 1 0 v_910.length), [.cel [.int .i64 p_857.fChannel, .int .i64 p_857.fAttr], .els 7 (v_910.map eApiFixture)]⟩
theorem f7_L2c (p_857 : ApiParam) (i_908 : Int) (j_909 : Int) (v_910 : (List ApiFixture)) : (f7_L2 p_857).cst (i_908, j_909, v_910) = ⟨put (put (put (fun _ => .junk) 3 (.int .i64 j_909)) 2 (.int .i64 i_908)) 0 (.row 7 1 0 v_910.length), [.cel [.int .i64 p_857.fChannel, .int .i64 p_857.fAttr], .els 7 (v_910.map eApiFixture)]⟩ := rfl
noncomputable def f7_C1 (p_857 : ApiParam) (r_866 : (List ApiFixture)) : Il ((List ApiFixture)) where
  run := (Lp.run (f7_L2 p_857) (0, (IntKind.i64.wrap (((r_866.length : Nat) : Int) - 1)), r_866)).bind fun v_917 => (some v_917)
  res := fun v_892 => .tup []
  hp := fun v_892 => [.cel [.int .i64 p_857.fChannel, .int .i64 p_857.fAttr], .els 7 (v_892.map eApiFixture)]
def c84_0 : C := .seq (.reg [iI 3 (.mv (.t 0)), iI 4 (.mv (.t 0)), iI 5 (.bin .neq (.t 3) (.t 4)), iI 2 (.mv (.t 5))]) .ret
def ir84 : C := .seq (.reg [iI 2 (.mv (.c (.bool false)))]) c84_0
theorem fd84 : fd? Try.prog 84 = some (6, [.slot 2], ir84) := by kernel_rfl
noncomputable def f84 (x_935 : Int) : Option (Bool) :=
  (some (decide (x_935 ≠ x_935)))
theorem f84_ok {x_935 : Int} {r_ : Bool} (H : f84 x_935 = some r_) : Pure Try.prog 84 [.int .i64 x_935] (· = .bool r_) := by
 refine Pure.walk3 fd84 none (Nat.le_of_ble_eq_true rfl) (by rfl) fun Q hQ => ?_
 simp only [f84] at H
 refine AW.rseq ?_
 try simp only [wm, ↓wk, ↓wl, nq, evV, ↓reduceIte, sevalprocAttr]
 refine AW.rseq ?_
 try simp only [wm, ↓wk, ↓wl, nq, evV, ↓reduceIte, sevalprocAttr]
 refine AW.ret ?_
 cases H
 exact hQ _ _ _ _ (.inr rfl) (by simp only [resVs, omap, resV, wm, ↓wk, ↓wl, nq, evV, ↓reduceIte, sevalprocAttr]; rfl) (hand_plain (by rfl)) (by first | exact Or.inl rfl | exact Or.inr rfl)
def c59_0 : C := .seq (.reg [iI 5 (.mv (.t 0)), iI 6 (.call (.c (.fn 84 [])) [(.t 5)]), iI 7 (.mv (.t 6)), iG (some 8) 7 true (.mv (.t 1)), iG (some 9) 7 true (.call (.c (.fn 84 [])) [(.t 8)]), iG (some 10) 7 true (.un .not (.t 9)), iI 11 (.pick (.t 7) (.t 10) (.c (.bool false))), iI 12 (.mv (.t 11)), iG (some 13) 12 false (.mv (.t 0)), iG (some 14) 12 false (.mv (.t 1)), iG (some 15) 12 false (.bin .lss (.t 13) (.t 14)), iI 16 (.pick (.t 12) (.c (.bool true)) (.t 15)), iI 4 (.mv (.t 16))]) .ret
def ir59 : C := .seq (.reg [iI 4 (.mv (.c (.bool false)))]) c59_0
theorem fd59 : fd? Try.prog 59 = some (17, [.slot 4], ir59) := by kernel_rfl
noncomputable def f59 (x_933 : Int) (y_934 : Int) : Option (Bool) :=
  (f84 x_933).bind fun r_936 => (if r_936 = true then (f84 y_934).bind fun r_937 => (if (!r_937) = true then (some true) else (some (decide (x_933 < y_934)))) else (some (decide (x_933 < y_934))))
theorem f59_ok {x_933 : Int} {y_934 : Int} {r_ : Bool} (H : f59 x_933 y_934 = some r_) : Pure Try.prog 59 [.int .i64 x_933, .int .i64 y_934] (· = .bool r_) := by
 refine Pure.walk3 fd59 none (Nat.le_of_ble_eq_true rfl) (by rfl) fun Q hQ => ?_
 simp only [f59] at H
 refine AW.rseq ?_
 try simp only [wm, ↓wk, ↓wl, nq, evV, ↓reduceIte, sevalprocAttr]
 refine AW.rseq ?_
 try simp only [wm, ↓wk, ↓wl, nq, evV, ↓reduceIte, sevalprocAttr]
 refine evTs_pure hFn H (fun _ h => f84_ok h) (by rfl) (by rfl) (by rfl) (by rfl) (fun _ => rfl) ?_ <;> clear H <;> intro r_936 H
 try simp only [eL, wm, ↓wk, ↓wl, nq, evV, ↓reduceIte, sevalprocAttr]
 refine evTs_ifg H (by rfl) ?_ ?_ <;> clear H <;> intro H
 ·try simp only [wm, ↓wk, ↓wl, nq, evV, ↓reduceIte, sevalprocAttr]
  refine evTs_pure hFn H (fun _ h => f84_ok h) (by rfl) (by rfl) (by rfl) (by rfl) (fun _ => rfl) ?_ <;> clear H <;> intro r_937 H
  try simp only [eL, wm, ↓wk, ↓wl, nq, evV, ↓reduceIte, sevalprocAttr]
  refine evTs_ifg H (by rfl) ?_ ?_ <;> clear H <;> intro H
  ·try simp only [wm, ↓wk, ↓wl, nq, evV, ↓reduceIte, sevalprocAttr]
   refine AW.ret ?_
   cases H
   exact hQ _ _ _ _ (.inr rfl) (by simp only [resVs, omap, resV, wm, ↓wk, ↓wl, nq, evV, ↓reduceIte, sevalprocAttr]; rfl) (hand_plain (by rfl)) (by first | exact Or.inl rfl | exact Or.inr rfl)
  ·try simp only [wm, ↓wk, ↓wl, nq, evV, ↓reduceIte, sevalprocAttr]
   refine AW.ret ?_
   cases H
   exact hQ _ _ _ _ (.inr rfl) (by simp only [resVs, omap, resV, wm, ↓wk, ↓wl, nq, evV, ↓reduceIte, sevalprocAttr]; rfl) (hand_plain (by rfl)) (by first | exact Or.inl rfl | exact Or.inr rfl)
 ·try simp only [wm, ↓wk, ↓wl, nq, evV, ↓reduceIte, sevalprocAttr]
  refine AW.ret ?_
  cases H
  exact hQ _ _ _ _ (.inr rfl) (by simp only [resVs, omap, resV, wm, ↓wk, ↓wl, nq, evV, ↓reduceIte, sevalprocAttr]; rfl) (hand_plain (by rfl)) (by first | exact Or.inl rfl | exact Or.inr rfl)
noncomputable def f32_L1 (x_930 : (List Int)) : Lp (Int) ((Unit) ⊕ (Unit)) where
  body := fun i_943 => (if (decide (0 < i_943)) = true then (at? x_930 i_943).bind fun x_947 => (at? x_930 (IntKind.i64.wrap (i_943 - 1))).bind fun x_948 => (f59 x_947 x_948).bind fun r_949 => (if r_949 = true then (some (.brk (Sum.inr ()))) else (some (.next (IntKind.i64.wrap (i_943 - 1))))) else (some (.brk (Sum.inl ()))))
  cst := fun i_943 => ⟨put (put (fun _ => .junk) 3 (.int .i64 i_943)) 0 (.sl 0 false (x_930.map (AV.int .i64))), []⟩
theorem f32_L1c (x_930 : (List Int)) (i_943 : Int) : (f32_L1 x_930).cst i_943 = ⟨put (put (fun _ => .junk) 3 (.int .i64 i_943)) 0 (.sl 0 false (x_930.map (AV.int .i64))), []⟩ := rfl
def c32_0 : C := .cond (.t 8) (.skip) (.exit 0)
def c32_1 : C := .cond (.t 20) (.seq (.reg [iI 2 (.mv (.c (.bool false)))]) .ret) (.skip)
def c32_2 : C := .reg [iI 9 (.mv (.t 3)), iI 10 (.bin .sub (.t 9) (.c (.int .i64 1))), iI 3 (.mv (.t 10))]
def c32_3 : C := .seq (.block 1 (.seq (.reg [iI 11 (.mv (.t 0)), iI 12 (.mv (.t 3)), iI 13 (.iaddr 0 (.t 11) (.t 12)), iI 14 (.load 0 (.t 13)), iI 15 (.mv (.t 0)), iI 16 (.mv (.t 3)), iI 17 (.bin .sub (.t 16) (.c (.int .i64 1))), iI 18 (.iaddr 0 (.t 15) (.t 17)), iI 19 (.load 0 (.t 18)), iI 20 (.call (.c (.fn 59 [])) [(.t 14), (.t 19)])]) c32_1)) c32_2
def c32_4 : C := .block 0 (.loop (.seq (.seq (.reg [iI 7 (.mv (.t 3)), iI 8 (.bin .gtr (.t 7) (.c (.int .i64 0)))]) c32_0) c32_3))
def c32_5 : C := .seq (.reg [iI 2 (.mv (.c (.bool true)))]) .ret
def c32_6 : C := .seq (.seq (.reg [iI 4 (.mv (.t 0)), iI 5 (.len 0 (.t 4)), iI 6 (.bin .sub (.t 5) (.c (.int .i64 1))), iI 3 (.mv (.t 6))]) c32_4) c32_5
def ir32 : C := .seq (.reg [iI 2 (.mv (.c (.bool false)))]) c32_6
theorem fd32 : fd? Try.prog 32 = some (21, [.slot 2], ir32) := by kernel_rfl
noncomputable def f32 (x_930 : (List Int)) : Option (Bool) :=
  ((Lp.run (f32_L1 x_930) (IntKind.i64.wrap (((x_930.length : Nat) : Int) - 1))).bind fun r_ => match r_ with | (Sum.inl _) => (some true) | (Sum.inr _) => (some false))
theorem f32_ok {x_930 : (List Int)} {r_ : Bool} (H : f32 x_930 = some r_) : Pure Try.prog 32 [.sl 0 false (x_930.map (AV.int .i64))] (· = .bool r_) := by
 refine Pure.walk3 fd32 none (Nat.le_of_ble_eq_true rfl) (by rfl) fun Q hQ => ?_
 simp only [f32] at H
 refine AW.rseq ?_
 try simp only [wm, ↓wk, ↓wl, nq, evV, ↓reduceIte, sevalprocAttr]
 refine AW.sseq ?_
 refine AW.rseq ?_
 try simp only [wm, ↓wk, ↓wl, nq, evV, ↓reduceIte, sevalprocAttr]
 refine AW.bend ?_
 refine AW.iter H ((Le.tz [] [0, 3] (by simp only [f32_L1c, wm, wmr, rrm, ↓wk, ↓wl, evV, ↓reduceIte, sevalprocAttr] <;> rfl))) ?_ <;> clear H
 rintro i_943 x_ st0_ H hst_
 rw [f32_L1c] at hst_
 simp only [f32_L1] at H
 subst hst_
 refine AW.sseq ?_
 refine AW.rseq ?_
 try simp only [wm, ↓wk, ↓wl, nq, evV, ↓reduceIte, sevalprocAttr]
 refine AW.ifc H (by rfl) ?_ ?_ <;> clear H <;> intro H
 ·refine AW.skip ?_
  refine seqQ.norm ?_
  refine AW.bseq ?_
  refine AW.rseq ?_
  try simp only [wm, ↓wk, ↓wl, nq, evV, ↓reduceIte, sevalprocAttr]
  refine evTs_at (enc := (AV.int .i64)) H (by rfl) (by rfl) ?_ <;> clear H <;> intro x_947 H
  try simp only [wm, ↓wk, ↓wl, nq, evV, ↓reduceIte, sevalprocAttr]
  refine evTs_at (enc := (AV.int .i64)) H (by rfl) (by rfl) ?_ <;> clear H <;> intro x_948 H
  try simp only [wm, ↓wk, ↓wl, nq, evV, ↓reduceIte, sevalprocAttr]
  refine evTs_pure hFn H (fun _ h => f59_ok h) (by rfl) (by rfl) (by rfl) (by rfl) (fun _ => rfl) ?_ <;> clear H <;> intro r_949 H
  try simp only [eL, wm, ↓wk, ↓wl, nq, evV, ↓reduceIte, sevalprocAttr]
  refine AW.ifc H (by rfl) ?_ ?_ <;> clear H <;> intro H
  ·refine AW.rseq ?_
   try simp only [wm, ↓wk, ↓wl, nq, evV, ↓reduceIte, sevalprocAttr]
   refine AW.ret ?_
   refine blkQ.ret ?_
   refine loopQ.ret H ?_ <;> clear H <;> intro H
   try dsimp only at H
   refine blk0.ret ?_
   refine seqQ.ret ?_
   cases H
   exact hQ _ _ _ _ (.inr rfl) (by simp only [resVs, omap, resV, wm, ↓wk, ↓wl, nq, evV, ↓reduceIte, sevalprocAttr]; rfl) (hand_plain (by rfl)) (by first | exact Or.inl rfl | exact Or.inr rfl)
  ·refine AW.skip ?_
   refine blkQ.norm ?_
   refine AW.rend ?_
   try simp only [wm, ↓wk, ↓wl, nq, evV, ↓reduceIte, sevalprocAttr]
   exact loopQ.next H ((Le.tz [] [0, 3] (by simp only [f32_L1c, wm, wmr, rrm, ↓wk, ↓wl, evV, ↓reduceIte, sevalprocAttr] <;> rfl)))
 ·refine AW.exit ?_
  refine seqQ.exit ?_
  refine loopQ.exit H ?_ <;> clear H <;> intro H
  try dsimp only at H
  refine blk0.here ?_
  refine seqQ.norm ?_
  refine AW.rseq ?_
  try simp only [wm, ↓wk, ↓wl, nq, evV, ↓reduceIte, sevalprocAttr]
  refine AW.ret ?_
  cases H
  exact hQ _ _ _ _ (.inr rfl) (by simp only [resVs, omap, resV, wm, ↓wk, ↓wl, nq, evV, ↓reduceIte, sevalprocAttr]; rfl) (hand_plain (by rfl)) (by first | exact Or.inl rfl | exact Or.inr rfl)
noncomputable def f60_L1 (s_958 : (List Int)) (v_959 : Int) : Lp (Int) ((Unit) ⊕ (Int)) where
  body := fun v_963 => (if (decide (v_963 < ((s_958.length : Nat) : Int))) = true then (at? s_958 v_963).bind fun x_966 => (if (decide (v_959 = x_966)) = true then (some (.brk (Sum.inr v_963))) else (some (.next (IntKind.i64.wrap (v_963 + 1))))) else (some (.brk (Sum.inl ()))))
  cst := fun v_963 => ⟨put (put (put (put (fun _ => .junk) 8 (.int .i64 v_963)) 7 (.int .i64 ((s_958.length : Nat) : Int))) 1 (.int .i64 v_959)) 0 (.sl 0 false (s_958.map (AV.int .i64))), []⟩
theorem f60_L1c (s_958 : (List Int)) (v_959 : Int) (v_963 : Int) : (f60_L1 s_958 v_959).cst v_963 = ⟨put (put (put (put (fun _ => .junk) 8 (.int .i64 v_963)) 7 (.int .i64 ((s_958.length : Nat) : Int))) 1 (.int .i64 v_959)) 0 (.sl 0 false (s_958.map (AV.int .i64))), []⟩ := rfl
def c60_0 : C := .cond (.t 16) (.seq (.reg [iI 17 (.mv (.t 5)), iI 4 (.mv (.t 17))]) .ret) (.skip)
def c60_1 : C := .seq (.reg [iI 11 (.mv (.t 1)), iI 12 (.mv (.t 0)), iI 13 (.mv (.t 5)), iI 14 (.iaddr 0 (.t 12) (.t 13)), iI 15 (.load 0 (.t 14)), iI 16 (.bin .eql (.t 11) (.t 15))]) c60_0
def c60_2 : C := .reg [iI 18 (.bin .add (.t 8) (.c (.int .i64 1))), iI 8 (.mv (.t 18))]
def c60_3 : C := .seq (.block 1 (.seq (.reg [iI 10 (.mv (.t 8)), iI 5 (.mv (.t 10))]) c60_1)) c60_2
def c60_4 : C := .seq (.cond (.t 9) (.skip) (.exit 0)) c60_3
def c60_5 : C := .block 0 (.loop (.seq (.reg [iI 9 (.bin .lss (.t 8) (.t 7))]) c60_4))
def c60_6 : C := .seq (.reg [iI 4 (.mv (.c (.int .i64 (-1))))]) .ret
def c60_7 : C := .seq (.seq (.reg [iI 6 (.mv (.t 0)), iI 7 (.len 0 (.t 6)), iI 8 (.mv (.c (.int .i64 0)))]) c60_5) c60_6
def ir60 : C := .seq (.reg [iI 4 (.mv (.c (.int .i64 0)))]) c60_7
theorem fd60 : fd? Try.prog 60 = some (19, [.slot 4], ir60) := by kernel_rfl
noncomputable def f60 (s_958 : (List Int)) (v_959 : Int) : Option (Int) :=
  ((Lp.run (f60_L1 s_958 v_959) 0).bind fun r_ => match r_ with | (Sum.inl _) => (some (-1)) | (Sum.inr v_965) => (some v_965))
theorem f60_ok {s_958 : (List Int)} {v_959 : Int} {r_ : Int} (H : f60 s_958 v_959 = some r_) : Pure Try.prog 60 [.sl 0 false (s_958.map (AV.int .i64)), .int .i64 v_959] (· = .int .i64 r_) := by
 refine Pure.walk3 fd60 none (Nat.le_of_ble_eq_true rfl) (by rfl) fun Q hQ => ?_
 simp only [f60] at H
 refine AW.rseq ?_
 try simp only [wm, ↓wk, ↓wl, nq, evV, ↓reduceIte, sevalprocAttr]
 refine AW.sseq ?_
 refine AW.rseq ?_
 try simp only [wm, ↓wk, ↓wl, nq, evV, ↓reduceIte, sevalprocAttr]
 refine AW.bend ?_
 refine AW.iter H ((Le.tz [] [0, 1, 7, 8] (by simp only [f60_L1c, wm, wmr, rrm, ↓wk, ↓wl, evV, ↓reduceIte, sevalprocAttr] <;> rfl))) ?_ <;> clear H
 rintro v_963 x_ st0_ H hst_
 rw [f60_L1c] at hst_
 simp only [f60_L1] at H
 subst hst_
 refine AW.rseq ?_
 try simp only [wm, ↓wk, ↓wl, nq, evV, ↓reduceIte, sevalprocAttr]
 refine AW.sseq ?_
 refine AW.ifc H (by rfl) ?_ ?_ <;> clear H <;> intro H
 ·refine AW.skip ?_
  refine seqQ.norm ?_
  refine AW.bseq ?_
  refine AW.rseq ?_
  try simp only [wm, ↓wk, ↓wl, nq, evV, ↓reduceIte, sevalprocAttr]
  refine AW.rseq ?_
  try simp only [wm, ↓wk, ↓wl, nq, evV, ↓reduceIte, sevalprocAttr]
  refine evTs_at (enc := (AV.int .i64)) H (by rfl) (by rfl) ?_ <;> clear H <;> intro x_966 H
  try simp only [wm, ↓wk, ↓wl, nq, evV, ↓reduceIte, sevalprocAttr]
  refine AW.ifc H (by rfl) ?_ ?_ <;> clear H <;> intro H
  ·refine AW.rseq ?_
   try simp only [wm, ↓wk, ↓wl, nq, evV, ↓reduceIte, sevalprocAttr]
   refine AW.ret ?_
   refine blkQ.ret ?_
   refine loopQ.ret H ?_ <;> clear H <;> intro H
   try dsimp only at H
   refine blk0.ret ?_
   refine seqQ.ret ?_
   cases H
   exact hQ _ _ _ _ (.inr rfl) (by simp only [resVs, omap, resV, wm, ↓wk, ↓wl, nq, evV, ↓reduceIte, sevalprocAttr]; rfl) (hand_plain (by rfl)) (by first | exact Or.inl rfl | exact Or.inr rfl)
  ·refine AW.skip ?_
   refine blkQ.norm ?_
   refine AW.rend ?_
   try simp only [wm, ↓wk, ↓wl, nq, evV, ↓reduceIte, sevalprocAttr]
   exact loopQ.next H ((Le.tz [] [0, 1, 7, 8] (by simp only [f60_L1c, wm, wmr, rrm, ↓wk, ↓wl, evV, ↓reduceIte, sevalprocAttr] <;> rfl)))
 ·refine AW.exit ?_
  refine seqQ.exit ?_
  refine loopQ.exit H ?_ <;> clear H <;> intro H
  try dsimp only at H
  refine blk0.here ?_
  refine seqQ.norm ?_
  refine AW.rseq ?_
  try simp only [wm, ↓wk, ↓wl, nq, evV, ↓reduceIte, sevalprocAttr]
  refine AW.ret ?_
  cases H
  exact hQ _ _ _ _ (.inr rfl) (by simp only [resVs, omap, resV, wm, ↓wk, ↓wl, nq, evV, ↓reduceIte, sevalprocAttr]; rfl) (hand_plain (by rfl)) (by first | exact Or.inl rfl | exact Or.inr rfl)
def c33_0 : C := .seq (.reg [iI 5 (.mv (.t 0)), iI 6 (.mv (.t 1)), iI 7 (.call (.c (.fn 60 [])) [(.t 5), (.t 6)]), iI 8 (.bin .geq (.t 7) (.c (.int .i64 0))), iI 4 (.mv (.t 8))]) .ret
def ir33 : C := .seq (.reg [iI 4 (.mv (.c (.bool false)))]) c33_0
theorem fd33 : fd? Try.prog 33 = some (9, [.slot 4], ir33) := by kernel_rfl
noncomputable def f33 (s_956 : (List Int)) (v_957 : Int) : Option (Bool) :=
  (f60 s_956 v_957).bind fun r_967 => (some (decide (0 ≤ r_967)))
theorem f33_ok {s_956 : (List Int)} {v_957 : Int} {r_ : Bool} (H : f33 s_956 v_957 = some r_) : Pure Try.prog 33 [.sl 0 false (s_956.map (AV.int .i64)), .int .i64 v_957] (· = .bool r_) := by
 refine Pure.walk3 fd33 none (Nat.le_of_ble_eq_true rfl) (by rfl) fun Q hQ => ?_
 simp only [f33] at H
 refine AW.rseq ?_
 try simp only [wm, ↓wk, ↓wl, nq, evV, ↓reduceIte, sevalprocAttr]
 refine AW.rseq ?_
 try simp only [wm, ↓wk, ↓wl, nq, evV, ↓reduceIte, sevalprocAttr]
 refine evTs_pure hFn H (fun _ h => f60_ok h) (by rfl) (by rfl) (by rfl) (by rfl) (fun _ => rfl) ?_ <;> clear H <;> intro r_967 H
 try simp only [eL, wm, ↓wk, ↓wl, nq, evV, ↓reduceIte, sevalprocAttr]
 refine AW.ret ?_
 cases H
 exact hQ _ _ _ _ (.inr rfl) (by simp only [resVs, omap, resV, wm, ↓wk, ↓wl, nq, evV, ↓reduceIte, sevalprocAttr]; rfl) (hand_plain (by rfl)) (by first | exact Or.inl rfl | exact Or.inr rfl)
noncomputable def f58_L1 (a_971 : (List ApiSlot)) (b_972 : (List ApiSlot)) : Lp (Int) ((Unit) ⊕ (Unit)) where
  body := fun i_978 => (if (decide (i_978 < ((a_971.length : Nat) : Int))) = true then (at? a_971 i_978).bind fun x_981 => (at? b_972 i_978).bind fun x_982 => (if (!((x_981.fName == x_982.fName) && ((x_981.fFrom == x_982.fFrom) && ((x_981.fTo == x_982.fTo) && true)))) = true then (some (.brk (Sum.inr ()))) else (some (.next (IntKind.i64.wrap (i_978 + 1))))) else (some (.brk (Sum.inl ()))))
  cst := fun i_978 => ⟨put (put (put (fun _ => .junk) 5 (.int .i64 i_978)) 1 (.sl 3 false (b_972.map eApiSlot))) 0 (.sl 3 false (a_971.map eApiSlot)), []⟩
theorem f58_L1c (a_971 : (List ApiSlot)) (b_972 : (List ApiSlot)) (i_978 : Int) : (f58_L1 a_971 b_972).cst i_978 = ⟨put (put (put (fun _ => .junk) 5 (.int .i64 i_978)) 1 (.sl 3 false (b_972.map eApiSlot))) 0 (.sl 3 false (a_971.map eApiSlot)), []⟩ := rfl
def c58_0 : C := .cond (.t 10) (.seq (.reg [iI 4 (.mv (.c (.bool false)))]) .ret) (.skip)
def c58_1 : C := .cond (.t 14) (.skip) (.exit 0)
def c58_2 : C := .cond (.t 25) (.seq (.reg [iI 4 (.mv (.c (.bool false)))]) .ret) (.skip)
def c58_3 : C := .reg [iI 15 (.mv (.t 5)), iI 16 (.bin .add (.t 15) (.c (.int .i64 1))), iI 5 (.mv (.t 16))]
def c58_4 : C := .seq (.block 1 (.seq (.reg [iI 17 (.mv (.t 0)), iI 18 (.mv (.t 5)), iI 19 (.iaddr 3 (.t 17) (.t 18)), iI 20 (.load 3 (.t 19)), iI 21 (.mv (.t 1)), iI 22 (.mv (.t 5)), iI 23 (.iaddr 3 (.t 21) (.t 22)), iI 24 (.load 3 (.t 23)), iI 25 (.eqs true [1, 0, 0] (.t 20) (.t 24))]) c58_2)) c58_3
def c58_5 : C := .block 0 (.loop (.seq (.seq (.reg [iI 11 (.mv (.t 5)), iI 12 (.mv (.t 0)), iI 13 (.len 0 (.t 12)), iI 14 (.bin .lss (.t 11) (.t 13))]) c58_1) c58_4))
def c58_6 : C := .seq (.reg [iI 4 (.mv (.c (.bool true)))]) .ret
def c58_7 : C := .seq (.seq (.reg [iI 5 (.mv (.c (.int .i64 0)))]) c58_5) c58_6
def c58_8 : C := .seq (.seq (.reg [iI 6 (.mv (.t 0)), iI 7 (.len 0 (.t 6)), iI 8 (.mv (.t 1)), iI 9 (.len 0 (.t 8)), iI 10 (.bin .neq (.t 7) (.t 9))]) c58_0) c58_7
def ir58 : C := .seq (.reg [iI 4 (.mv (.c (.bool false)))]) c58_8
theorem fd58 : fd? Try.prog 58 = some (26, [.slot 4], ir58) := by kernel_rfl
noncomputable def f58 (a_971 : (List ApiSlot)) (b_972 : (List ApiSlot)) : Option (Bool) :=
  (if (decide (((a_971.length : Nat) : Int) ≠ ((b_972.length : Nat) : Int))) = true then (some false) else ((Lp.run (f58_L1 a_971 b_972) 0).bind fun r_ => match r_ with | (Sum.inl _) => (some true) | (Sum.inr _) => (some false)))
theorem f58_ok {a_971 : (List ApiSlot)} {b_972 : (List ApiSlot)} {r_ : Bool} (H : f58 a_971 b_972 = some r_) : Pure Try.prog 58 [.sl 3 false (a_971.map eApiSlot), .sl 3 false (b_972.map eApiSlot)] (· = .bool r_) := by
 refine Pure.walk3 fd58 none (Nat.le_of_ble_eq_true rfl) (by rfl) fun Q hQ => ?_
 simp only [f58] at H
 refine AW.rseq ?_
 try simp only [wm, ↓wk, ↓wl, nq, evV, ↓reduceIte, sevalprocAttr]
 refine AW.sseq ?_
 refine AW.rseq ?_
 try simp only [wm, ↓wk, ↓wl, nq, evV, ↓reduceIte, sevalprocAttr]
 refine AW.ifc H (by rfl) ?_ ?_ <;> clear H <;> intro H
 ·refine AW.rseq ?_
  try simp only [wm, ↓wk, ↓wl, nq, evV, ↓reduceIte, sevalprocAttr]
  refine AW.ret ?_
  refine seqQ.ret ?_
  cases H
  exact hQ _ _ _ _ (.inr rfl) (by simp only [resVs, omap, resV, wm, ↓wk, ↓wl, nq, evV, ↓reduceIte, sevalprocAttr]; rfl) (hand_plain (by rfl)) (by first | exact Or.inl rfl | exact Or.inr rfl)
 ·refine AW.skip ?_
  refine seqQ.norm ?_
  refine AW.sseq ?_
  refine AW.rseq ?_
  try simp only [wm, ↓wk, ↓wl, nq, evV, ↓reduceIte, sevalprocAttr]
  refine AW.bend ?_
  refine AW.iter H ((Le.tz [] [0, 1, 5] (by simp only [f58_L1c, wm, wmr, rrm, ↓wk, ↓wl, evV, ↓reduceIte, sevalprocAttr] <;> rfl))) ?_ <;> clear H
  rintro i_978 x_ st0_ H hst_
  rw [f58_L1c] at hst_
  simp only [f58_L1] at H
  subst hst_
  refine AW.sseq ?_
  refine AW.rseq ?_
  try simp only [wm, ↓wk, ↓wl, nq, evV, ↓reduceIte, sevalprocAttr]
  refine AW.ifc H (by rfl) ?_ ?_ <;> clear H <;> intro H
  ·refine AW.skip ?_
   refine seqQ.norm ?_
   refine AW.bseq ?_
   refine AW.rseq ?_
   try simp only [wm, ↓wk, ↓wl, nq, evV, ↓reduceIte, sevalprocAttr]
   refine evTs_at (enc := eApiSlot) H (by rfl) (by rfl) ?_ <;> clear H <;> intro x_981 H
   try simp only [eApiSlot, eL, eM, wm, ↓wk, ↓wl, nq, evV, ↓reduceIte, sevalprocAttr]
   refine evTs_at (enc := eApiSlot) H (by rfl) (by rfl) ?_ <;> clear H <;> intro x_982 H
   try simp only [eApiSlot, eL, eM, wm, ↓wk, ↓wl, nq, evV, ↓reduceIte, sevalprocAttr]
   refine rest_neqs (by rfl) ?_
   try simp only [wm, ↓wk, ↓wl, nq, evV, ↓reduceIte, sevalprocAttr]
   refine AW.ifc H (by rfl) ?_ ?_ <;> clear H <;> intro H
   ·refine AW.rseq ?_
    try simp only [wm, ↓wk, ↓wl, nq, evV, ↓reduceIte, sevalprocAttr]
    refine AW.ret ?_
    refine blkQ.ret ?_
    refine loopQ.ret H ?_ <;> clear H <;> intro H
    try dsimp only at H
    refine blk0.ret ?_
    refine seqQ.ret ?_
    cases H
    exact hQ _ _ _ _ (.inr rfl) (by simp only [resVs, omap, resV, wm, ↓wk, ↓wl, nq, evV, ↓reduceIte, sevalprocAttr]; rfl) (hand_plain (by rfl)) (by first | exact Or.inl rfl | exact Or.inr rfl)
   ·refine AW.skip ?_
    refine blkQ.norm ?_
    refine AW.rend ?_
    try simp only [wm, ↓wk, ↓wl, nq, evV, ↓reduceIte, sevalprocAttr]
    exact loopQ.next H ((Le.tz [] [0, 1, 5] (by simp only [f58_L1c, wm, wmr, rrm, ↓wk, ↓wl, evV, ↓reduceIte, sevalprocAttr] <;> rfl)))
  ·refine AW.exit ?_
   refine seqQ.exit ?_
   refine loopQ.exit H ?_ <;> clear H <;> intro H
   try dsimp only at H
   refine blk0.here ?_
   refine seqQ.norm ?_
   refine AW.rseq ?_
   try simp only [wm, ↓wk, ↓wl, nq, evV, ↓reduceIte, sevalprocAttr]
   refine AW.ret ?_
   cases H
   exact hQ _ _ _ _ (.inr rfl) (by simp only [resVs, omap, resV, wm, ↓wk, ↓wl, nq, evV, ↓reduceIte, sevalprocAttr]; rfl) (hand_plain (by rfl)) (by first | exact Or.inl rfl | exact Or.inr rfl)
def c28_0 : C := .seq (.reg [iI 5 (.faddr 0 (.t 2)), iI 6 (.load 0 (.t 5)), iI 7 (.faddr 0 (.t 3)), iI 8 (.load 0 (.t 7)), iI 9 (.bin .eql (.t 6) (.t 8)), iI 10 (.mv (.t 9)), iG (some 11) 10 true (.faddr 1 (.t 2)), iG (some 12) 10 true (.load 0 (.t 11)), iG (some 13) 10 true (.faddr 1 (.t 3)), iG (some 14) 10 true (.load 0 (.t 13)), iG (some 15) 10 true (.bin .eql (.t 12) (.t 14)), iI 16 (.pick (.t 10) (.t 15) (.c (.bool false))), iI 17 (.mv (.t 16)), iG (some 18) 17 true (.faddr 2 (.t 2)), iG (some 19) 17 true (.load 0 (.t 18)), iG (some 20) 17 true (.faddr 2 (.t 3)), iG (some 21) 17 true (.load 0 (.t 20)), iG (some 22) 17 true (.bin .eql (.t 19) (.t 21)), iI 23 (.pick (.t 17) (.t 22) (.c (.bool false))), iI 24 (.mv (.t 23)), iG (some 25) 24 true (.faddr 3 (.t 2)), iG (some 26) 24 true (.load 0 (.t 25)), iG (some 27) 24 true (.faddr 3 (.t 3)), iG (some 28) 24 true (.load 0 (.t 27)), iG (some 29) 24 true (.bin .eql (.t 26) (.t 28)), iI 30 (.pick (.t 24) (.t 29) (.c (.bool false))), iI 31 (.mv (.t 30)), iG (some 32) 31 true (.faddr 4 (.t 2)), iG (some 33) 31 true (.load 0 (.t 32)), iG (some 34) 31 true (.faddr 4 (.t 3)), iG (some 35) 31 true (.load 0 (.t 34)), iG (some 36) 31 true (.bin .eql (.t 33) (.t 35)), iI 37 (.pick (.t 31) (.t 36) (.c (.bool false))), iI 38 (.mv (.t 37)), iG (some 39) 38 true (.faddr 5 (.t 2)), iG (some 40) 38 true (.load 0 (.t 39)), iG (some 41) 38 true (.faddr 5 (.t 3)), iG (some 42) 38 true (.load 0 (.t 41)), iG (some 43) 38 true (.bin .eql (.t 40) (.t 42)), iI 44 (.pick (.t 38) (.t 43) (.c (.bool false))), iI 45 (.mv (.t 44)), iG (some 46) 45 true (.faddr 6 (.t 2)), iG (some 47) 45 true (.load 0 (.t 46)), iG (some 48) 45 true (.faddr 6 (.t 3)), iG (some 49) 45 true (.load 0 (.t 48)), iG (some 50) 45 true (.bin .eql (.t 47) (.t 49)), iI 51 (.pick (.t 45) (.t 50) (.c (.bool false))), iI 52 (.mv (.t 51)), iG (some 53) 52 true (.faddr 7 (.t 2)), iG (some 54) 52 true (.load 0 (.t 53)), iG (some 55) 52 true (.faddr 7 (.t 3)), iG (some 56) 52 true (.load 0 (.t 55)), iG (some 57) 52 true (.bin .eql (.t 54) (.t 56)), iI 58 (.pick (.t 52) (.t 57) (.c (.bool false))), iI 59 (.mv (.t 58)), iG (some 60) 59 true (.faddr 8 (.t 2)), iG (some 61) 59 true (.load 0 (.t 60)), iG (some 62) 59 true (.faddr 8 (.t 3)), iG (some 63) 59 true (.load 0 (.t 62)), iG (some 64) 59 true (.binb .eql (.t 61) (.t 63)), iI 65 (.pick (.t 59) (.t 64) (.c (.bool false))), iI 66 (.mv (.t 65)), iG (some 67) 66 true (.faddr 9 (.t 2)), iG (some 68) 66 true (.load 0 (.t 67)), iG (some 69) 66 true (.faddr 9 (.t 3)), iG (some 70) 66 true (.load 0 (.t 69)), iG (some 71) 66 true (.call (.c (.fn 58 [])) [(.t 68), (.t 70)]), iI 72 (.pick (.t 66) (.t 71) (.c (.bool false))), iI 4 (.mv (.t 72))]) .ret
def ir28 : C := .seq (.reg [iI 2 (.box (.t 0)), iI 3 (.box (.t 1)), iI 4 (.mv (.c (.bool false)))]) c28_0
theorem fd28 : fd? Try.prog 28 = some (73, [.slot 4], ir28) := by kernel_rfl
noncomputable def f28 (a_969 : ApiFeature) (b_970 : ApiFeature) : Option (Bool) :=
  (if (decide (a_969.fAttr = b_970.fAttr)) = true then (if (decide (a_969.fBits = b_970.fBits)) = true then (if (decide (a_969.fCoarse = b_970.fCoarse)) = true then (if (decide (a_969.fFine = b_970.fFine)) = true then (if (decide (a_969.fCurve = b_970.fCurve)) = true then (if (decide (a_969.fHome = b_970.fHome)) = true then (if (decide (a_969.fLow = b_970.fLow)) = true then (if (decide (a_969.fHigh = b_970.fHigh)) = true then (if (a_969.fSnap == b_970.fSnap) = true then (f58 a_969.fWheel b_970.fWheel).bind fun r_983 => (some r_983) else (some false)) else (some false)) else (some false)) else (some false)) else (some false)) else (some false)) else (some false)) else (some false)) else (some false))
theorem f28_ok {a_969 : ApiFeature} {b_970 : ApiFeature} {r_ : Bool} (H : f28 a_969 b_970 = some r_) : Pure Try.prog 28 [.agg [.int .i64 a_969.fAttr, .int .i64 a_969.fBits, .int .i64 a_969.fCoarse, .int .i64 a_969.fFine, .int .i64 a_969.fCurve, .int .i64 a_969.fHome, .int .i64 a_969.fLow, .int .i64 a_969.fHigh, .bool a_969.fSnap, .sl 3 false (a_969.fWheel.map eApiSlot)], .agg [.int .i64 b_970.fAttr, .int .i64 b_970.fBits, .int .i64 b_970.fCoarse, .int .i64 b_970.fFine, .int .i64 b_970.fCurve, .int .i64 b_970.fHome, .int .i64 b_970.fLow, .int .i64 b_970.fHigh, .bool b_970.fSnap, .sl 3 false (b_970.fWheel.map eApiSlot)]] (· = .bool r_) := by
 refine Pure.walk3 fd28 none (Nat.le_of_ble_eq_true rfl) (by rfl) fun Q hQ => ?_
 simp only [f28] at H
 refine AW.rseq ?_
 try simp only [wm, ↓wk, ↓wl, nq, evV, ↓reduceIte, sevalprocAttr]
 refine AW.rseq ?_
 try simp only [wm, ↓wk, ↓wl, nq, evV, ↓reduceIte, sevalprocAttr]
 refine evTs_ifg H (by rfl) ?_ ?_ <;> clear H <;> intro H
 ·try simp only [wm, ↓wk, ↓wl, nq, evV, ↓reduceIte, sevalprocAttr]
  refine evTs_ifg H (by rfl) ?_ ?_ <;> clear H <;> intro H
  ·try simp only [wm, ↓wk, ↓wl, nq, evV, ↓reduceIte, sevalprocAttr]
   refine evTs_ifg H (by rfl) ?_ ?_ <;> clear H <;> intro H
   ·try simp only [wm, ↓wk, ↓wl, nq, evV, ↓reduceIte, sevalprocAttr]
    refine evTs_ifg H (by rfl) ?_ ?_ <;> clear H <;> intro H
    ·try simp only [wm, ↓wk, ↓wl, nq, evV, ↓reduceIte, sevalprocAttr]
     refine evTs_ifg H (by rfl) ?_ ?_ <;> clear H <;> intro H
     ·try simp only [wm, ↓wk, ↓wl, nq, evV, ↓reduceIte, sevalprocAttr]
      refine evTs_ifg H (by rfl) ?_ ?_ <;> clear H <;> intro H
      ·try simp only [wm, ↓wk, ↓wl, nq, evV, ↓reduceIte, sevalprocAttr]
       refine evTs_ifg H (by rfl) ?_ ?_ <;> clear H <;> intro H
       ·try simp only [wm, ↓wk, ↓wl, nq, evV, ↓reduceIte, sevalprocAttr]
        refine evTs_ifg H (by rfl) ?_ ?_ <;> clear H <;> intro H
        ·try simp only [wm, ↓wk, ↓wl, nq, evV, ↓reduceIte, sevalprocAttr]
         refine evTs_ifg H (by rfl) ?_ ?_ <;> clear H <;> intro H
         ·try simp only [wm, ↓wk, ↓wl, nq, evV, ↓reduceIte, sevalprocAttr]
          refine evTs_pure hFn H (fun _ h => f58_ok h) (by rfl) (by rfl) (by rfl) (by rfl) (fun _ => rfl) ?_ <;> clear H <;> intro r_983 H
          try simp only [eL, wm, ↓wk, ↓wl, nq, evV, ↓reduceIte, sevalprocAttr]
          refine AW.ret ?_
          cases H
          exact hQ _ _ _ _ (.inr rfl) (by simp only [resVs, omap, resV, wm, ↓wk, ↓wl, nq, evV, ↓reduceIte, sevalprocAttr]; rfl) (hand_plain (by rfl)) (by first | exact Or.inl rfl | exact Or.inr rfl)
         ·try simp only [wm, ↓wk, ↓wl, nq, evV, ↓reduceIte, sevalprocAttr]
          refine AW.ret ?_
          cases H
          exact hQ _ _ _ _ (.inr rfl) (by simp only [resVs, omap, resV, wm, ↓wk, ↓wl, nq, evV, ↓reduceIte, sevalprocAttr]; rfl) (hand_plain (by rfl)) (by first | exact Or.inl rfl | exact Or.inr rfl)
        ·try simp only [wm, ↓wk, ↓wl, nq, evV, ↓reduceIte, sevalprocAttr]
         refine AW.ret ?_
         cases H
         exact hQ _ _ _ _ (.inr rfl) (by simp only [resVs, omap, resV, wm, ↓wk, ↓wl, nq, evV, ↓reduceIte, sevalprocAttr]; rfl) (hand_plain (by rfl)) (by first | exact Or.inl rfl | exact Or.inr rfl)
       ·try simp only [wm, ↓wk, ↓wl, nq, evV, ↓reduceIte, sevalprocAttr]
        refine AW.ret ?_
        cases H
        exact hQ _ _ _ _ (.inr rfl) (by simp only [resVs, omap, resV, wm, ↓wk, ↓wl, nq, evV, ↓reduceIte, sevalprocAttr]; rfl) (hand_plain (by rfl)) (by first | exact Or.inl rfl | exact Or.inr rfl)
      ·try simp only [wm, ↓wk, ↓wl, nq, evV, ↓reduceIte, sevalprocAttr]
       refine AW.ret ?_
       cases H
       exact hQ _ _ _ _ (.inr rfl) (by simp only [resVs, omap, resV, wm, ↓wk, ↓wl, nq, evV, ↓reduceIte, sevalprocAttr]; rfl) (hand_plain (by rfl)) (by first | exact Or.inl rfl | exact Or.inr rfl)
     ·try simp only [wm, ↓wk, ↓wl, nq, evV, ↓reduceIte, sevalprocAttr]
      refine AW.ret ?_
      cases H
      exact hQ _ _ _ _ (.inr rfl) (by simp only [resVs, omap, resV, wm, ↓wk, ↓wl, nq, evV, ↓reduceIte, sevalprocAttr]; rfl) (hand_plain (by rfl)) (by first | exact Or.inl rfl | exact Or.inr rfl)
    ·try simp only [wm, ↓wk, ↓wl, nq, evV, ↓reduceIte, sevalprocAttr]
     refine AW.ret ?_
     cases H
     exact hQ _ _ _ _ (.inr rfl) (by simp only [resVs, omap, resV, wm, ↓wk, ↓wl, nq, evV, ↓reduceIte, sevalprocAttr]; rfl) (hand_plain (by rfl)) (by first | exact Or.inl rfl | exact Or.inr rfl)
   ·try simp only [wm, ↓wk, ↓wl, nq, evV, ↓reduceIte, sevalprocAttr]
    refine AW.ret ?_
    cases H
    exact hQ _ _ _ _ (.inr rfl) (by simp only [resVs, omap, resV, wm, ↓wk, ↓wl, nq, evV, ↓reduceIte, sevalprocAttr]; rfl) (hand_plain (by rfl)) (by first | exact Or.inl rfl | exact Or.inr rfl)
  ·try simp only [wm, ↓wk, ↓wl, nq, evV, ↓reduceIte, sevalprocAttr]
   refine AW.ret ?_
   cases H
   exact hQ _ _ _ _ (.inr rfl) (by simp only [resVs, omap, resV, wm, ↓wk, ↓wl, nq, evV, ↓reduceIte, sevalprocAttr]; rfl) (hand_plain (by rfl)) (by first | exact Or.inl rfl | exact Or.inr rfl)
 ·try simp only [wm, ↓wk, ↓wl, nq, evV, ↓reduceIte, sevalprocAttr]
  refine AW.ret ?_
  cases H
  exact hQ _ _ _ _ (.inr rfl) (by simp only [resVs, omap, resV, wm, ↓wk, ↓wl, nq, evV, ↓reduceIte, sevalprocAttr]; rfl) (hand_plain (by rfl)) (by first | exact Or.inl rfl | exact Or.inr rfl)
def c7_0 : C := .cond (.t 25) (.seq (.reg [iI 26 (.call (.c (.fn 11 [])) []), iI 6 (.mv (.t 26))]) .ret) (.skip)
def c7_1 : C := .cond (.t 87) (.seq (.reg [iI 6 (.mv (.c (.bool false)))]) .ret) (.skip)
def c7_2 : C := .cond (.t 133) (.seq (.reg [iI 6 (.mv (.c (.bool false)))]) .ret) (.skip)
def c7_3 : C := .seq (.reg [iI 134 (.mv (.t 18)), iI 135 (.un .not (.t 134)), iI 136 (.mv (.t 135)), iG (some 137) 136 false (.faddr 0 (.t 16)), iG (some 138) 136 false (.load 0 (.t 137)), iG (some 139) 136 false (.faddr 0 (.t 5)), iG (some 140) 136 false (.load 0 (.t 139)), iG (some 141) 136 false (.bin .eql (.t 138) (.t 140)), iG (some 142) 136 false (.mv (.t 141)), iG (some 143) 142 true (.faddr 0 (.t 17)), iG (some 144) 142 true (.load 0 (.t 143)), iG (some 145) 142 true (.faddr 1 (.t 5)), iG (some 146) 142 true (.load 0 (.t 145)), iG (some 147) 142 true (.bin .eql (.t 144) (.t 146)), iG (some 148) 136 false (.pick (.t 142) (.t 147) (.c (.bool false))), iI 149 (.pick (.t 136) (.c (.bool true)) (.t 148)), iI 150 (.mv (.t 149)), iG (some 151) 150 true (.call (.c (.fn 11 [])) []), iI 152 (.pick (.t 150) (.t 151) (.c (.bool false))), iI 6 (.mv (.t 152))]) .ret
def c7_4 : C := .seq (.seq (.reg [iI 106 (.mv (.t 9)), iI 107 (.mv (.t 11)), iI 108 (.bin .add (.t 106) (.t 107)), iI 109 (.bin .neq (.t 108) (.c (.int .i64 0))), iI 110 (.mv (.t 109)), iG (some 111) 110 false (.mv (.t 18)), iG (some 112) 110 false (.mv (.t 21)), iG (some 113) 110 false (.binb .neq (.t 111) (.t 112)), iI 114 (.pick (.t 110) (.c (.bool true)) (.t 113)), iI 115 (.mv (.t 114)), iG (some 116) 115 false (.mv (.t 18)), iG (some 117) 115 false (.mv (.t 12)), iG (some 118) 115 false (.faddr 1 (.t 5)), iG (some 119) 115 false (.load 0 (.t 118)), iG (some 120) 115 false (.call (.c (.fn 33 [])) [(.t 117), (.t 119)]), iG (some 121) 115 false (.binb .neq (.t 116) (.t 120)), iI 122 (.pick (.t 115) (.c (.bool true)) (.t 121)), iI 123 (.mv (.t 122)), iG (some 124) 123 false (.load 7 (.t 16)), iG (some 125) 123 false (.load 7 (.t 19)), iG (some 126) 123 false (.eqs true [0, 0, 1, 0, 0, 0, 1] (.t 124) (.t 125)), iI 127 (.pick (.t 123) (.c (.bool true)) (.t 126)), iI 128 (.mv (.t 127)), iG (some 129) 128 false (.load 10 (.t 17)), iG (some 130) 128 false (.load 10 (.t 20)), iG (some 131) 128 false (.call (.c (.fn 28 [])) [(.t 129), (.t 130)]), iG (some 132) 128 false (.un .not (.t 131)), iI 133 (.pick (.t 128) (.c (.bool true)) (.t 132))]) c7_2) c7_3
def c7_5 : C := .seq (.reg [iI 98 (.mv (.t 7)), iI 99 (.mv (.t 1)), iI 100 (.load 2 (.t 5)), iI 101 (.call (.c (.fn 26 [])) [(.t 98), (.t 99), (.t 100)]), iI 97 (.mv (.t 101)), iI 102 (.ext (.t 97) 0), iI 103 (.ext (.t 97) 1), iI 104 (.ext (.t 97) 2), iI 105 (.ext (.t 97) 3), iI 19 (.alloc [(1, (.int .i64 0)), (1, (.int .i64 0)), (1, (.str [])), (1, (.int .i64 0)), (1, (.int .i64 0)), (1, (.int .i64 0)), (1, (.str []))]), iI 20 (.alloc [(1, (.int .i64 0)), (1, (.int .i64 0)), (1, (.int .i64 0)), (1, (.int .i64 0)), (1, (.int .i64 0)), (1, (.int .i64 0)), (1, (.int .i64 0)), (1, (.int .i64 0)), (1, (.bool false)), (1, (.sl 3 true []))]), iN (.store 7 (.t 19) (.t 102)), iN (.store 10 (.t 20) (.t 103)), iI 21 (.mv (.t 104)), iI 11 (.mv (.t 105))]) c7_4
def c7_6 : C := .seq (.reg [iI 89 (.mv (.t 0)), iI 90 (.mv (.t 1)), iI 91 (.load 2 (.t 5)), iI 92 (.call (.c (.fn 26 [])) [(.t 89), (.t 90), (.t 91)]), iI 88 (.mv (.t 92)), iI 93 (.ext (.t 88) 0), iI 94 (.ext (.t 88) 1), iI 95 (.ext (.t 88) 2), iI 96 (.ext (.t 88) 3), iI 16 (.alloc [(1, (.int .i64 0)), (1, (.int .i64 0)), (1, (.str [])), (1, (.int .i64 0)), (1, (.int .i64 0)), (1, (.int .i64 0)), (1, (.str []))]), iI 17 (.alloc [(1, (.int .i64 0)), (1, (.int .i64 0)), (1, (.int .i64 0)), (1, (.int .i64 0)), (1, (.int .i64 0)), (1, (.int .i64 0)), (1, (.int .i64 0)), (1, (.int .i64 0)), (1, (.bool false)), (1, (.sl 3 true []))]), iN (.store 7 (.t 16) (.t 93)), iN (.store 10 (.t 17) (.t 94)), iI 18 (.mv (.t 95)), iI 9 (.mv (.t 96))]) c7_5
def c7_7 : C := .seq (.seq (.reg [iI 63 (.mv (.t 9)), iI 64 (.mv (.t 11)), iI 65 (.bin .add (.t 63) (.t 64)), iI 66 (.mv (.t 13)), iI 67 (.bin .add (.t 65) (.t 66)), iI 68 (.mv (.t 15)), iI 69 (.bin .add (.t 67) (.t 68)), iI 70 (.bin .neq (.t 69) (.c (.int .i64 0))), iI 71 (.mv (.t 70)), iG (some 72) 71 false (.mv (.t 8)), iG (some 73) 71 false (.mv (.t 10)), iG (some 74) 71 false (.call (.c (.fn 18 [])) [(.t 72), (.t 73)]), iG (some 75) 71 false (.un .not (.t 74)), iI 76 (.pick (.t 71) (.c (.bool true)) (.t 75)), iI 77 (.mv (.t 76)), iG (some 78) 77 false (.mv (.t 12)), iG (some 79) 77 false (.mv (.t 14)), iG (some 80) 77 false (.call (.c (.fn 19 [])) [(.t 78), (.t 79)]), iG (some 81) 77 false (.un .not (.t 80)), iI 82 (.pick (.t 77) (.c (.bool true)) (.t 81)), iI 83 (.mv (.t 82)), iG (some 84) 83 false (.mv (.t 12)), iG (some 85) 83 false (.call (.c (.fn 32 [])) [(.t 84)]), iG (some 86) 83 false (.un .not (.t 85)), iI 87 (.pick (.t 83) (.c (.bool true)) (.t 86))]) c7_1) c7_6
def c7_8 : C := .seq (.reg [iI 56 (.mv (.t 7)), iI 57 (.mv (.t 1)), iI 58 (.faddr 0 (.t 5)), iI 59 (.load 0 (.t 58)), iI 60 (.call (.c (.fn 14 [])) [(.t 56), (.t 57), (.t 59)]), iI 55 (.mv (.t 60)), iI 61 (.ext (.t 55) 0), iI 62 (.ext (.t 55) 1), iI 14 (.mv (.t 61)), iI 15 (.mv (.t 62))]) c7_7
def c7_9 : C := .seq (.reg [iI 48 (.mv (.t 0)), iI 49 (.mv (.t 1)), iI 50 (.faddr 0 (.t 5)), iI 51 (.load 0 (.t 50)), iI 52 (.call (.c (.fn 14 [])) [(.t 48), (.t 49), (.t 51)]), iI 47 (.mv (.t 52)), iI 53 (.ext (.t 47) 0), iI 54 (.ext (.t 47) 1), iI 12 (.mv (.t 53)), iI 13 (.mv (.t 54))]) c7_8
def c7_10 : C := .seq (.reg [iI 40 (.mv (.t 7)), iI 41 (.mv (.t 1)), iI 42 (.faddr 0 (.t 5)), iI 43 (.load 0 (.t 42)), iI 44 (.call (.c (.fn 12 [])) [(.t 40), (.t 41), (.t 43)]), iI 39 (.mv (.t 44)), iI 45 (.ext (.t 39) 0), iI 46 (.ext (.t 39) 1), iI 10 (.mv (.t 45)), iI 11 (.mv (.t 46))]) c7_9
def c7_11 : C := .seq (.reg [iI 32 (.mv (.t 0)), iI 33 (.mv (.t 1)), iI 34 (.faddr 0 (.t 5)), iI 35 (.load 0 (.t 34)), iI 36 (.call (.c (.fn 12 [])) [(.t 32), (.t 33), (.t 35)]), iI 31 (.mv (.t 36)), iI 37 (.ext (.t 31) 0), iI 38 (.ext (.t 31) 1), iI 8 (.mv (.t 37)), iI 9 (.mv (.t 38))]) c7_10
def c7_12 : C := .seq (.reg [iI 29 (.mv (.t 7)), iI 30 (.call (.c (.fn 31 [])) [(.t 29)])]) c7_11
def c7_13 : C := .seq (.reg [iI 27 (.mv (.t 0)), iI 28 (.call (.c (.fn 30 [])) [(.t 27)]), iI 7 (.mv (.t 28))]) c7_12
def c7_14 : C := .seq (.seq (.reg [iI 22 (.mv (.t 0)), iI 23 (.mv (.t 1)), iI 24 (.call (.c (.fn 29 [])) [(.t 22), (.t 23)]), iI 25 (.un .not (.t 24))]) c7_0) c7_13
def ir7 : C := .seq (.reg [iI 5 (.box (.t 2)), iI 6 (.mv (.c (.bool false)))]) c7_14
theorem fd7 : fd? Try.prog 7 = some (153, [.slot 6], ir7) := by kernel_rfl
noncomputable def f7 (l_855 : (List ApiFixture)) (profiles_856 : (List ApiProfile)) (p_857 : ApiParam) : Option (Bool) :=
  (f29 l_855 profiles_856).bind fun r_864 => (if (!r_864) = true then (f11).bind fun r_865 => (some r_865) else (f30 l_855).bind fun r_866 => ((f7_C1 p_857 r_866).run.bind fun v_892 => (must? (v_892.length = r_866.length)).bind fun _ => (f12 l_855 profiles_856 p_857.fChannel).bind fun r_924 => (f12 v_892 profiles_856 p_857.fChannel).bind fun r_925 => (f14 l_855 profiles_856 p_857.fChannel).bind fun r_926 => (f14 v_892 profiles_856 p_857.fChannel).bind fun r_927 => (if (decide ((IntKind.i64.wrap ((IntKind.i64.wrap ((IntKind.i64.wrap (r_924.2 + r_925.2)) + r_926.2)) + r_927.2)) ≠ 0)) = true then (some false) else (f18 r_924.1 r_925.1).bind fun r_951 => (if (!r_951) = true then (some false) else (f19 r_926.1 r_927.1).bind fun r_952 => (if (!r_952) = true then (some false) else (f32 r_926.1).bind fun r_953 => (if (!r_953) = true then (some false) else (f26 l_855 profiles_856 p_857).bind fun r_954 => (f26 v_892 profiles_856 p_857).bind fun r_955 => (if (decide ((IntKind.i64.wrap (r_954.2.2.2 + r_955.2.2.2)) ≠ 0)) = true then (some false) else (if (!(r_954.2.2.1 == r_955.2.2.1)) = true then (some false) else (f33 r_926.1 p_857.fAttr).bind fun r_985 => (if (!(r_954.2.2.1 == r_985)) = true then (some false) else (if (!((r_954.1.fChannel == r_955.1.fChannel) && ((r_954.1.fPart == r_955.1.fPart) && ((r_954.1.fProfile == r_955.1.fProfile) && ((r_954.1.fUniverse == r_955.1.fUniverse) && ((r_954.1.fAddress == r_955.1.fAddress) && ((r_954.1.fPhase == r_955.1.fPhase) && ((r_954.1.fCable == r_955.1.fCable) && true)))))))) = true then (some false) else (f28 r_954.2.1 r_955.2.1).bind fun r_986 => (if (!r_986) = true then (some false) else (if (!r_954.2.2.1) = true then (f11).bind fun r_987 => (some r_987) else (if (decide (r_954.1.fChannel = p_857.fChannel)) = true then (if (decide (r_954.2.1.fAttr = p_857.fAttr)) = true then (f11).bind fun r_988 => (some r_988) else (some false)) else (some false))))))))))))))
theorem f7_ok {l_855 : (List ApiFixture)} {profiles_856 : (List ApiProfile)} {p_857 : ApiParam} {r_ : Bool} (H : f7 l_855 profiles_856 p_857 = some r_) : Pure Try.prog 7 [.sl 7 false (l_855.map eApiFixture), .sl 4 false (profiles_856.map eApiProfile), .agg [.int .i64 p_857.fChannel, .int .i64 p_857.fAttr]] (· = .bool r_) := by
 refine Pure.walk3 fd7 none (Nat.le_of_ble_eq_true rfl) (by rfl) fun Q hQ => ?_
 simp only [f7] at H
 refine AW.rseq ?_
 try simp only [wm, ↓wk, ↓wl, nqs, evV, ↓reduceIte, sevalprocAttr]
 refine AW.sseq ?_
 refine AW.rseq ?_
 try simp only [wm, ↓wk, ↓wl, nqs, evV, ↓reduceIte, sevalprocAttr]
 refine evTs_pure hFn H (fun _ h => f29_ok h) (by rfl) (by rfl) (by rfl) (by rfl) (fun _ => rfl) ?_ <;> clear H <;> intro r_864 H
 try simp only [eL, wm, ↓wk, ↓wl, nqs, evV, ↓reduceIte, sevalprocAttr]
 refine AW.ifc H (by rfl) ?_ ?_ <;> clear H <;> intro H
 ·refine AW.rseq ?_
  try simp only [wm, ↓wk, ↓wl, nqs, evV, ↓reduceIte, sevalprocAttr]
  refine evTs_pure hFn H (fun _ h => f11_ok h) (by rfl) (by rfl) (by rfl) (by rfl) (fun _ => rfl) ?_ <;> clear H <;> intro r_865 H
  try simp only [eL, wm, ↓wk, ↓wl, nqs, evV, ↓reduceIte, sevalprocAttr]
  refine AW.ret ?_
  refine seqQ.ret ?_
  cases H
  exact hQ _ _ _ _ (.inr rfl) (by simp only [resVs, omap, resV, wm, ↓wk, ↓wl, nqs, evV, ↓reduceIte, sevalprocAttr]; rfl) (hand_plain (by rfl)) (by first | exact Or.inl rfl | exact Or.inr rfl)
 ·refine AW.skip ?_
  refine seqQ.norm ?_
  refine AW.rseq ?_
  try simp only [wm, ↓wk, ↓wl, nqs, evV, ↓reduceIte, sevalprocAttr]
  refine evTs_fr H (fun _ h => f30_ok h) (by rfl) (by rfl) (by rfl) (by rfl) (fun _ => rfl) ?_ <;> clear H <;> intro r_866 H
  try simp only [eL, wm, ↓wk, ↓wl, nqs, evV, ↓reduceIte, sevalprocAttr]
  refine AW.rseq ?_
  try simp only [wm, ↓wk, ↓wl, nqs, evV, ↓reduceIte, sevalprocAttr]
  refine evTs_inl (I := f7_C1 p_857 r_866) (args := [.row 7 1 0 r_866.length]) H (by rfl) fd31 (by rfl) (Nat.le_of_ble_eq_true rfl) ?_ ?_ <;> clear H
  ·rintro v_ Q_ H hqf7_C1
   simp only [f7_C1] at H
   dsimp only [List.length_cons, List.length_nil]
   refine AW.rseq ?_
   try simp only [wm, ↓wk, ↓wl, nqs, evV, ↓reduceIte, sevalprocAttr]
   refine AW.bend ?_
   refine AW.iter H ((Le.tq 2 [0, 1] [0, 2, 3] (by simp only [f7_L2c, wm, wmr, rrm, ↓wk, ↓wl, evV, ↓reduceIte, sevalprocAttr] <;> rfl))) ?_ <;> clear H
   rintro ⟨i_908, j_909, v_910⟩ x_ st0_ H hst_
   rw [f7_L2c] at hst_
   simp only [f7_L2] at H
   subst hst_
   refine AW.sseq ?_
   refine AW.rseq ?_
   try simp only [wm, ↓wk, ↓wl, nqs, evV, ↓reduceIte, sevalprocAttr]
   refine AW.ifc H (by rfl) ?_ ?_ <;> clear H <;> intro H
   ·refine AW.skip ?_
    refine seqQ.norm ?_
    refine AW.bseq ?_
    refine AW.rend ?_
    try simp only [wm, ↓wk, ↓wl, nqs, evV, ↓reduceIte, sevalprocAttr]
    refine evTs_atr (enc := eApiFixture) H (by rfl) (by first | rfl | simp only [List.length_set]) (by rfl) ?_ <;> clear H <;> intro x_918 hx_918 H
    try simp only [eApiFixture, eL, eM, wm, ↓wk, ↓wl, nqs, evV, ↓reduceIte, sevalprocAttr, hx_918, eApiFixture, eL, eM]
    refine evTs_atr (enc := eApiFixture) H (by rfl) (by first | rfl | simp only [List.length_set, hx_918, eApiFixture, eL, eM]) (by rfl) ?_ <;> clear H <;> intro x_919 hx_919 H
    try simp only [eApiFixture, eL, eM, wm, ↓wk, ↓wl, nqs, evV, ↓reduceIte, sevalprocAttr, hx_918, eApiFixture, eL, eM, hx_919]
    refine evTs_atr (enc := eApiFixture) H (by rfl) (by first | rfl | simp only [List.length_set, hx_918, eApiFixture, eL, eM, hx_919]) (by rfl) ?_ <;> clear H <;> intro x_920 hx_920 H
    try simp only [eApiFixture, eL, eM, wm, ↓wk, ↓wl, nqs, evV, ↓reduceIte, sevalprocAttr, hx_918, eApiFixture, eL, eM, hx_920]
    refine evTs_stW (enc := eApiFixture) x_918 (by rfl) (by rfl) (by first | exact lt_map hx_920 | (simp only [List.length_set, hx_918, eApiFixture, eL, eM]; exact lt_map hx_920)) (fun _ => by rfl) ?_
    have hw_921 := set_get hx_920 x_918
    try simp only [eApiFixture, eL, eM, wm, ↓wk, ↓wl, nqs, evV, ↓reduceIte, sevalprocAttr, hx_918, eApiFixture, eL, eM, hx_920, hw_921]
    refine evTs_atr (enc := eApiFixture) H (by rfl) (by first | rfl | simp only [List.length_set, hx_918, eApiFixture, eL, eM, hx_920, hw_921]) (by rfl) ?_ <;> clear H <;> intro x_922 hx_922 H
    try simp only [eApiFixture, eL, eM, wm, ↓wk, ↓wl, nqs, evV, ↓reduceIte, sevalprocAttr, hx_918, eApiFixture, eL, eM, hx_920, hw_921, hx_922]
    refine evTs_stW (enc := eApiFixture) x_919 (by rfl) (by rfl) (by first | exact lt_map hx_922 | (simp only [List.length_set, hx_918, eApiFixture, eL, eM, hx_920, hw_921]; exact lt_map hx_922)) (fun _ => by rfl) ?_
    have hw_923 := set_get hx_922 x_919
    try simp only [eApiFixture, eL, eM, wm, ↓wk, ↓wl, nqs, evV, ↓reduceIte, sevalprocAttr, hx_918, eApiFixture, eL, eM, hx_920, hw_921, hx_922, hw_923]
    refine blkQ.norm ?_
    refine AW.rend ?_
    try simp only [wm, ↓wk, ↓wl, nqs, evV, ↓reduceIte, sevalprocAttr, hx_918, eApiFixture, eL, eM, hx_920, hw_921, hx_922, hw_923]
    exact loopQ.next H ((Le.tq 2 [0, 1] [0, 2, 3] (by simp only [f7_L2c, wm, wmr, rrm, ↓wk, ↓wl, evV, ↓reduceIte, sevalprocAttr, hx_918, eApiFixture, eL, eM, hx_920, hw_921, hx_922, hw_923] <;> rfl)))
   ·refine AW.exit ?_
    refine seqQ.exit ?_
    refine loopQ.exit H ?_ <;> clear H <;> intro H
    try dsimp only at H
    refine blk0.here ?_
    cases H
    exact hqf7_C1 _ _ _ (.inl rfl) (Le.tq 2 [0, 1] [] rfl) (by simp only [resVs, omap, resV, f7_C1, wm, wmr, rrm, ↓wk, ↓wl, evV, ↓reduceIte, sevalprocAttr]) (by simp only [f7_C1, wm, wmr, rrm, ↓wk, ↓wl, evV, ↓reduceIte, sevalprocAttr])
  ·rintro v_892 s_ h_ H hs_ hh_
   simp only [f7_C1] at H hs_ hh_
   subst hs_
   subst hh_
   have hlv_892 := (must_inv H).1
   have thlv_892 := fun f => take_map_eq hlv_892 f
   replace H := (must_inv H).2
   try simp only [wm, ↓wk, ↓wl, nqs, evV, ↓reduceIte, sevalprocAttr, hlv_892, thlv_892]
   refine AW.rseq ?_
   try simp only [wm, ↓wk, ↓wl, nqs, evV, ↓reduceIte, sevalprocAttr, hlv_892, thlv_892]
   refine evTs_pure hFn H (fun _ h => f12_im h) (by rfl) (by rfl) (by rfl) (by rfl) (fun _ => rfl) ?_ <;> clear H <;> intro r_924 H
   try simp only [eL, wm, ↓wk, ↓wl, nqs, evV, ↓reduceIte, sevalprocAttr, hlv_892, thlv_892]
   refine AW.rseq ?_
   try simp only [wm, ↓wk, ↓wl, nqs, evV, ↓reduceIte, sevalprocAttr, hlv_892, thlv_892]
   refine evTs_frR H (fun _ h => f12_ok h) (by rfl) (by rfl) (by simp only [deep_eq, imm_simps, imm_rowE, imm_ptrE, imm_enc, imm_mrefE, imm_mpE, imm_arowE, omap_simps, take_map_len, take_map_set, take_map_set2, le_refl_true, Nat.zero_add, and_true, true_and, List.drop_zero, Option.map_some, wm, ↓wk, ↓wl, nqs, evV, ↓reduceIte, sevalprocAttr, hlv_892, thlv_892]; rfl) (by rfl) (fun _ => by simp only [flatR, List.all_cons, List.all_nil, flat_all, Bool.and_true]; try rfl) (fun _ => rfl) ?_ <;> clear H <;> intro r_925 H
   try simp only [eL, wm, ↓wk, ↓wl, nqs, evV, ↓reduceIte, sevalprocAttr, hlv_892, thlv_892]
   refine AW.rseq ?_
   try simp only [wm, ↓wk, ↓wl, nqs, evV, ↓reduceIte, sevalprocAttr, hlv_892, thlv_892]
   refine evTs_pure hFn H (fun _ h => f14_im h) (by rfl) (by rfl) (by rfl) (by rfl) (fun _ => rfl) ?_ <;> clear H <;> intro r_926 H
   try simp only [eL, wm, ↓wk, ↓wl, nqs, evV, ↓reduceIte, sevalprocAttr, hlv_892, thlv_892]
   refine AW.rseq ?_
   try simp only [wm, ↓wk, ↓wl, nqs, evV, ↓reduceIte, sevalprocAttr, hlv_892, thlv_892]
   refine evTs_frR H (fun _ h => f14_ok h) (by rfl) (by rfl) (by simp only [deep_eq, imm_simps, imm_rowE, imm_ptrE, imm_enc, imm_mrefE, imm_mpE, imm_arowE, omap_simps, take_map_len, take_map_set, take_map_set2, le_refl_true, Nat.zero_add, and_true, true_and, List.drop_zero, Option.map_some, wm, ↓wk, ↓wl, nqs, evV, ↓reduceIte, sevalprocAttr, hlv_892, thlv_892]; rfl) (by rfl) (fun _ => by simp only [flatR, List.all_cons, List.all_nil, flat_all, Bool.and_true]; try rfl) (fun _ => rfl) ?_ <;> clear H <;> intro r_927 H
   try simp only [eL, wm, ↓wk, ↓wl, nqs, evV, ↓reduceIte, sevalprocAttr, hlv_892, thlv_892]
   refine AW.sseq ?_
   refine AW.rseq ?_
   try simp only [wm, ↓wk, ↓wl, nqs, evV, ↓reduceIte, sevalprocAttr, hlv_892, thlv_892]
   refine evTs_ifg H (by rfl) ?_ ?_ <;> clear H <;> intro H
   ·try simp only [wm, ↓wk, ↓wl, nqs, evV, ↓reduceIte, sevalprocAttr, hlv_892, thlv_892]
    refine AW.ift (by rfl) ?_
    refine AW.rseq ?_
    try simp only [wm, ↓wk, ↓wl, nqs, evV, ↓reduceIte, sevalprocAttr, hlv_892, thlv_892]
    refine AW.ret ?_
    refine seqQ.ret ?_
    cases H
    exact hQ _ _ _ _ (.inr rfl) (by simp only [resVs, omap, resV, wm, ↓wk, ↓wl, nqs, evV, ↓reduceIte, sevalprocAttr, hlv_892, thlv_892]; rfl) (hand_plain (by rfl)) (by first | exact Or.inl rfl | exact Or.inr rfl)
   ·try simp only [wm, ↓wk, ↓wl, nqs, evV, ↓reduceIte, sevalprocAttr, hlv_892, thlv_892]
    refine evTs_flat hFn H (fun _ h => f18_ok h) (by rfl) (by rfl) (by simp only [deep_eq, imm_simps, imm_rowE, imm_ptrE, imm_enc, imm_mrefE, imm_mpE, imm_arowE, omap_simps, take_map_len, take_map_set, take_map_set2, le_refl_true, Nat.zero_add, and_true, true_and, List.drop_zero, Option.map_some, wm, ↓wk, ↓wl, nqs, evV, ↓reduceIte, sevalprocAttr, hlv_892, thlv_892]; rfl) (by rfl) (fun _ => rfl) (fun _ => rfl) ?_ <;> clear H <;> intro r_951 H
    try simp only [eL, wm, ↓wk, ↓wl, nqs, evV, ↓reduceIte, sevalprocAttr, hlv_892, thlv_892]
    refine evTs_ifg H (by rfl) ?_ ?_ <;> clear H <;> intro H
    ·try simp only [wm, ↓wk, ↓wl, nqs, evV, ↓reduceIte, sevalprocAttr, hlv_892, thlv_892]
     refine AW.ift (by rfl) ?_
     refine AW.rseq ?_
     try simp only [wm, ↓wk, ↓wl, nqs, evV, ↓reduceIte, sevalprocAttr, hlv_892, thlv_892]
     refine AW.ret ?_
     refine seqQ.ret ?_
     cases H
     exact hQ _ _ _ _ (.inr rfl) (by simp only [resVs, omap, resV, wm, ↓wk, ↓wl, nqs, evV, ↓reduceIte, sevalprocAttr, hlv_892, thlv_892]; rfl) (hand_plain (by rfl)) (by first | exact Or.inl rfl | exact Or.inr rfl)
    ·try simp only [wm, ↓wk, ↓wl, nqs, evV, ↓reduceIte, sevalprocAttr, hlv_892, thlv_892]
     refine evTs_flat hFn H (fun _ h => f19_ok h) (by rfl) (by rfl) (by simp only [deep_eq, imm_simps, imm_rowE, imm_ptrE, imm_enc, imm_mrefE, imm_mpE, imm_arowE, omap_simps, take_map_len, take_map_set, take_map_set2, le_refl_true, Nat.zero_add, and_true, true_and, List.drop_zero, Option.map_some, wm, ↓wk, ↓wl, nqs, evV, ↓reduceIte, sevalprocAttr, hlv_892, thlv_892]; rfl) (by rfl) (fun _ => rfl) (fun _ => rfl) ?_ <;> clear H <;> intro r_952 H
     try simp only [eL, wm, ↓wk, ↓wl, nqs, evV, ↓reduceIte, sevalprocAttr, hlv_892, thlv_892]
     refine evTs_ifg H (by rfl) ?_ ?_ <;> clear H <;> intro H
     ·try simp only [wm, ↓wk, ↓wl, nqs, evV, ↓reduceIte, sevalprocAttr, hlv_892, thlv_892]
      refine AW.ift (by rfl) ?_
      refine AW.rseq ?_
      try simp only [wm, ↓wk, ↓wl, nqs, evV, ↓reduceIte, sevalprocAttr, hlv_892, thlv_892]
      refine AW.ret ?_
      refine seqQ.ret ?_
      cases H
      exact hQ _ _ _ _ (.inr rfl) (by simp only [resVs, omap, resV, wm, ↓wk, ↓wl, nqs, evV, ↓reduceIte, sevalprocAttr, hlv_892, thlv_892]; rfl) (hand_plain (by rfl)) (by first | exact Or.inl rfl | exact Or.inr rfl)
     ·try simp only [wm, ↓wk, ↓wl, nqs, evV, ↓reduceIte, sevalprocAttr, hlv_892, thlv_892]
      refine evTs_pure hFn H (fun _ h => f32_ok h) (by rfl) (by rfl) (by rfl) (by rfl) (fun _ => rfl) ?_ <;> clear H <;> intro r_953 H
      try simp only [eL, wm, ↓wk, ↓wl, nqs, evV, ↓reduceIte, sevalprocAttr, hlv_892, thlv_892]
      refine AW.ifc H (by rfl) ?_ ?_ <;> clear H <;> intro H
      ·refine AW.rseq ?_
       try simp only [wm, ↓wk, ↓wl, nqs, evV, ↓reduceIte, sevalprocAttr, hlv_892, thlv_892]
       refine AW.ret ?_
       refine seqQ.ret ?_
       cases H
       exact hQ _ _ _ _ (.inr rfl) (by simp only [resVs, omap, resV, wm, ↓wk, ↓wl, nqs, evV, ↓reduceIte, sevalprocAttr, hlv_892, thlv_892]; rfl) (hand_plain (by rfl)) (by first | exact Or.inl rfl | exact Or.inr rfl)
      ·refine AW.skip ?_
       refine seqQ.norm ?_
       refine AW.rseq ?_
       try simp only [wm, ↓wk, ↓wl, nqs, evV, ↓reduceIte, sevalprocAttr, hlv_892, thlv_892]
       refine evTs_pure hFn H (fun _ h => f26_ok h) (by rfl) (by rfl) (by rfl) (by rfl) (fun _ => rfl) ?_ <;> clear H <;> intro r_954 H
       try simp only [eL, eApiFixture, eM, eApiFeature, wm, ↓wk, ↓wl, nqs, evV, ↓reduceIte, sevalprocAttr, hlv_892, thlv_892]
       refine evTs_st (by simp only [wm, ↓wk, ↓wl, nqs, evV, ↓reduceIte, sevalprocAttr, hlv_892, thlv_892, Nat.reduceLeDiff]; rfl) ?_
       try simp only [wm, ↓wk, ↓wl, nqs, evV, ↓reduceIte, sevalprocAttr, hlv_892, thlv_892]
       refine evTs_st (by simp only [wm, ↓wk, ↓wl, nqs, evV, ↓reduceIte, sevalprocAttr, hlv_892, thlv_892, Nat.reduceLeDiff]; rfl) ?_
       try simp only [wm, ↓wk, ↓wl, nqs, evV, ↓reduceIte, sevalprocAttr, hlv_892, thlv_892]
       refine AW.rseq ?_
       try simp only [wm, ↓wk, ↓wl, nqs, evV, ↓reduceIte, sevalprocAttr, hlv_892, thlv_892]
       refine evTs_frz (args := [.row 7 1 0 r_866.length, .sl 4 false (profiles_856.map eApiProfile), .agg [.int .i64 p_857.fChannel, .int .i64 p_857.fAttr]]) (h1 := [.cel [.int .i64 p_857.fChannel, .int .i64 p_857.fAttr], .dead, .els 7 (r_925.1.map eApiFixture), .els 0 (r_927.1.map (AV.int .i64)), .cel [.int .i64 r_954.1.fChannel, .int .i64 r_954.1.fPart, .str r_954.1.fProfile, .int .i64 r_954.1.fUniverse, .int .i64 r_954.1.fAddress, .int .i64 r_954.1.fPhase, .str r_954.1.fCable], .cel [.int .i64 r_954.2.1.fAttr, .int .i64 r_954.2.1.fBits, .int .i64 r_954.2.1.fCoarse, .int .i64 r_954.2.1.fFine, .int .i64 r_954.2.1.fCurve, .int .i64 r_954.2.1.fHome, .int .i64 r_954.2.1.fLow, .int .i64 r_954.2.1.fHigh, .bool r_954.2.1.fSnap, .sl 3 false (r_954.2.1.fWheel.map eApiSlot)]]) H (fun _ h => f26_ok h) (by rfl) (by rfl) (freeze_rows (by rfl) (by simp only [deep_eq, imm_simps, imm_rowE, imm_ptrE, imm_enc, imm_mrefE, imm_mpE, imm_arowE, omap_simps, take_map_len, take_map_set, take_map_set2, le_refl_true, Nat.zero_add, and_true, true_and, List.drop_zero, Option.map_some, wm, ↓wk, ↓wl, nqs, evV, ↓reduceIte, sevalprocAttr, hlv_892, thlv_892]; try rfl) (by show kill _ (visit _ (11 + 1) _) = _; rw [visit_tup_cons, visit_rowE (enc := eApiFixture) (by rfl), visit_tup_cons, visit_pl (by rfl), visit_tup_cons, visit_pl (by rfl), visit_tup_nil]; try rfl)) (by rfl) (fun _ => by rfl) (fun _ => rfl) ?_ <;> clear H <;> intro r_955 H
       try simp only [eL, eApiFixture, eM, eApiFeature, wm, ↓wk, ↓wl, nqs, evV, ↓reduceIte, sevalprocAttr, hlv_892, thlv_892]
       refine evTs_st (by simp only [wm, ↓wk, ↓wl, nqs, evV, ↓reduceIte, sevalprocAttr, hlv_892, thlv_892, Nat.reduceLeDiff]; rfl) ?_
       try simp only [wm, ↓wk, ↓wl, nqs, evV, ↓reduceIte, sevalprocAttr, hlv_892, thlv_892]
       refine evTs_st (by simp only [wm, ↓wk, ↓wl, nqs, evV, ↓reduceIte, sevalprocAttr, hlv_892, thlv_892, Nat.reduceLeDiff]; rfl) ?_
       try simp only [wm, ↓wk, ↓wl, nqs, evV, ↓reduceIte, sevalprocAttr, hlv_892, thlv_892]
       refine AW.sseq ?_
       refine AW.rseq ?_
       try simp only [wm, ↓wk, ↓wl, nqs, evV, ↓reduceIte, sevalprocAttr, hlv_892, thlv_892]
       refine evTs_ifg H (by rfl) ?_ ?_ <;> clear H <;> intro H
       ·try simp only [wm, ↓wk, ↓wl, nqs, evV, ↓reduceIte, sevalprocAttr, hlv_892, thlv_892]
        refine AW.ift (by rfl) ?_
        refine AW.rseq ?_
        try simp only [wm, ↓wk, ↓wl, nqs, evV, ↓reduceIte, sevalprocAttr, hlv_892, thlv_892]
        refine AW.ret ?_
        refine seqQ.ret ?_
        cases H
        exact hQ _ _ _ _ (.inr rfl) (by simp only [resVs, omap, resV, wm, ↓wk, ↓wl, nqs, evV, ↓reduceIte, sevalprocAttr, hlv_892, thlv_892]; rfl) (hand_plain (by rfl)) (by first | exact Or.inl rfl | exact Or.inr rfl)
       ·try simp only [wm, ↓wk, ↓wl, nqs, evV, ↓reduceIte, sevalprocAttr, hlv_892, thlv_892]
        refine evTs_ifg H (by rfl) ?_ ?_ <;> clear H <;> intro H
        ·try simp only [wm, ↓wk, ↓wl, nqs, evV, ↓reduceIte, sevalprocAttr, hlv_892, thlv_892]
         refine AW.ift (by rfl) ?_
         refine AW.rseq ?_
         try simp only [wm, ↓wk, ↓wl, nqs, evV, ↓reduceIte, sevalprocAttr, hlv_892, thlv_892]
         refine AW.ret ?_
         refine seqQ.ret ?_
         cases H
         exact hQ _ _ _ _ (.inr rfl) (by simp only [resVs, omap, resV, wm, ↓wk, ↓wl, nqs, evV, ↓reduceIte, sevalprocAttr, hlv_892, thlv_892]; rfl) (hand_plain (by rfl)) (by first | exact Or.inl rfl | exact Or.inr rfl)
        ·try simp only [wm, ↓wk, ↓wl, nqs, evV, ↓reduceIte, sevalprocAttr, hlv_892, thlv_892]
         refine evTs_pure hFn H (fun _ h => f33_ok h) (by rfl) (by rfl) (by rfl) (by rfl) (fun _ => rfl) ?_ <;> clear H <;> intro r_985 H
         try simp only [eL, wm, ↓wk, ↓wl, nqs, evV, ↓reduceIte, sevalprocAttr, hlv_892, thlv_892]
         refine evTs_ifg H (by rfl) ?_ ?_ <;> clear H <;> intro H
         ·try simp only [wm, ↓wk, ↓wl, nqs, evV, ↓reduceIte, sevalprocAttr, hlv_892, thlv_892]
          refine AW.ift (by rfl) ?_
          refine AW.rseq ?_
          try simp only [wm, ↓wk, ↓wl, nqs, evV, ↓reduceIte, sevalprocAttr, hlv_892, thlv_892]
          refine AW.ret ?_
          refine seqQ.ret ?_
          cases H
          exact hQ _ _ _ _ (.inr rfl) (by simp only [resVs, omap, resV, wm, ↓wk, ↓wl, nqs, evV, ↓reduceIte, sevalprocAttr, hlv_892, thlv_892]; rfl) (hand_plain (by rfl)) (by first | exact Or.inl rfl | exact Or.inr rfl)
         ·try simp only [wm, ↓wk, ↓wl, nqs, evV, ↓reduceIte, sevalprocAttr, hlv_892, thlv_892]
          refine rest_neqs (by rfl) ?_
          try simp only [wm, ↓wk, ↓wl, nqs, evV, ↓reduceIte, sevalprocAttr, hlv_892, thlv_892]
          refine evTs_ifg H (by rfl) ?_ ?_ <;> clear H <;> intro H
          ·try simp only [wm, ↓wk, ↓wl, nqs, evV, ↓reduceIte, sevalprocAttr, hlv_892, thlv_892]
           refine AW.ift (by rfl) ?_
           refine AW.rseq ?_
           try simp only [wm, ↓wk, ↓wl, nqs, evV, ↓reduceIte, sevalprocAttr, hlv_892, thlv_892]
           refine AW.ret ?_
           refine seqQ.ret ?_
           cases H
           exact hQ _ _ _ _ (.inr rfl) (by simp only [resVs, omap, resV, wm, ↓wk, ↓wl, nqs, evV, ↓reduceIte, sevalprocAttr, hlv_892, thlv_892]; rfl) (hand_plain (by rfl)) (by first | exact Or.inl rfl | exact Or.inr rfl)
          ·try simp only [wm, ↓wk, ↓wl, nqs, evV, ↓reduceIte, sevalprocAttr, hlv_892, thlv_892]
           refine evTs_pure hFn H (fun _ h => f28_ok h) (by rfl) (by rfl) (by rfl) (by rfl) (fun _ => rfl) ?_ <;> clear H <;> intro r_986 H
           try simp only [eL, wm, ↓wk, ↓wl, nqs, evV, ↓reduceIte, sevalprocAttr, hlv_892, thlv_892]
           refine AW.ifc H (by rfl) ?_ ?_ <;> clear H <;> intro H
           ·refine AW.rseq ?_
            try simp only [wm, ↓wk, ↓wl, nqs, evV, ↓reduceIte, sevalprocAttr, hlv_892, thlv_892]
            refine AW.ret ?_
            refine seqQ.ret ?_
            cases H
            exact hQ _ _ _ _ (.inr rfl) (by simp only [resVs, omap, resV, wm, ↓wk, ↓wl, nqs, evV, ↓reduceIte, sevalprocAttr, hlv_892, thlv_892]; rfl) (hand_plain (by rfl)) (by first | exact Or.inl rfl | exact Or.inr rfl)
           ·refine AW.skip ?_
            refine seqQ.norm ?_
            refine AW.rseq ?_
            try simp only [wm, ↓wk, ↓wl, nqs, evV, ↓reduceIte, sevalprocAttr, hlv_892, thlv_892]
            refine evTs_ifg H (by rfl) ?_ ?_ <;> clear H <;> intro H
            ·try simp only [wm, ↓wk, ↓wl, nqs, evV, ↓reduceIte, sevalprocAttr, hlv_892, thlv_892]
             refine evTs_pure hFn H (fun _ h => f11_ok h) (by rfl) (by rfl) (by rfl) (by rfl) (fun _ => rfl) ?_ <;> clear H <;> intro r_987 H
             try simp only [eL, wm, ↓wk, ↓wl, nqs, evV, ↓reduceIte, sevalprocAttr, hlv_892, thlv_892]
             refine AW.ret ?_
             cases H
             exact hQ _ _ _ _ (.inr rfl) (by simp only [resVs, omap, resV, wm, ↓wk, ↓wl, nqs, evV, ↓reduceIte, sevalprocAttr, hlv_892, thlv_892]; rfl) (hand_plain (by rfl)) (by first | exact Or.inl rfl | exact Or.inr rfl)
            ·try simp only [wm, ↓wk, ↓wl, nqs, evV, ↓reduceIte, sevalprocAttr, hlv_892, thlv_892]
             refine evTs_ifg H (by rfl) ?_ ?_ <;> clear H <;> intro H
             ·try simp only [wm, ↓wk, ↓wl, nqs, evV, ↓reduceIte, sevalprocAttr, hlv_892, thlv_892]
              refine evTs_ifg H (by rfl) ?_ ?_ <;> clear H <;> intro H
              ·try simp only [wm, ↓wk, ↓wl, nqs, evV, ↓reduceIte, sevalprocAttr, hlv_892, thlv_892]
               refine evTs_pure hFn H (fun _ h => f11_ok h) (by rfl) (by rfl) (by rfl) (by rfl) (fun _ => rfl) ?_ <;> clear H <;> intro r_988 H
               try simp only [eL, wm, ↓wk, ↓wl, nqs, evV, ↓reduceIte, sevalprocAttr, hlv_892, thlv_892]
               refine AW.ret ?_
               cases H
               exact hQ _ _ _ _ (.inr rfl) (by simp only [resVs, omap, resV, wm, ↓wk, ↓wl, nqs, evV, ↓reduceIte, sevalprocAttr, hlv_892, thlv_892]; rfl) (hand_plain (by rfl)) (by first | exact Or.inl rfl | exact Or.inr rfl)
              ·try simp only [wm, ↓wk, ↓wl, nqs, evV, ↓reduceIte, sevalprocAttr, hlv_892, thlv_892]
               refine AW.ret ?_
               cases H
               exact hQ _ _ _ _ (.inr rfl) (by simp only [resVs, omap, resV, wm, ↓wk, ↓wl, nqs, evV, ↓reduceIte, sevalprocAttr, hlv_892, thlv_892]; rfl) (hand_plain (by rfl)) (by first | exact Or.inl rfl | exact Or.inr rfl)
             ·try simp only [wm, ↓wk, ↓wl, nqs, evV, ↓reduceIte, sevalprocAttr, hlv_892, thlv_892]
              refine AW.ret ?_
              cases H
              exact hQ _ _ _ _ (.inr rfl) (by simp only [resVs, omap, resV, wm, ↓wk, ↓wl, nqs, evV, ↓reduceIte, sevalprocAttr, hlv_892, thlv_892]; rfl) (hand_plain (by rfl)) (by first | exact Or.inl rfl | exact Or.inr rfl)
end Go.Proofs.Ythikbfhdebaceaa
