import Derived.Test.YthikbfhdebaceaaX2
import Derived.Test.YthikbfhdebaceaaM6
import Derived.Test.YthikbfhdebaceaaProg
import Derived.KernelRfl
namespace Go.Proofs.Ythikbfhdebaceaa
open Go Go.Ab

set_option maxHeartbeats 1000000
set_option maxRecDepth 4000
set_option linter.unusedSimpArgs false
set_option linter.unusedVariables false
structure Law12Slots where
  fUniverse : Int
  fAddress : Int
  fSize : Int
def eLaw12Slots (x : Law12Slots) : AV := .agg [.int .i64 x.fUniverse, .int .i64 x.fAddress, .int .i64 x.fSize]
instance : IsFlat eLaw12Slots := ⟨fun _ => rfl⟩
instance : IsEnc 3 eLaw12Slots := ⟨fun _ => rfl, fun _ => rfl, fun _ => rfl⟩
def c83_0 : C := .seq (.regq [iI 9 (.faddr 3 (.t 5)), iI 10 (.load 0 (.t 9)), iI 11 (.mv (.t 2)), iI 12 (.bin .eql (.t 10) (.t 11)), iI 13 (.mv (.t 12)), iG (some 14) 13 true (.mv (.t 3)), iG (some 15) 13 true (.faddr 4 (.t 5)), iG (some 16) 13 true (.load 0 (.t 15)), iG (some 17) 13 true (.bin .geq (.t 14) (.t 16)), iI 18 (.pick (.t 13) (.t 17) (.c (.bool false))), iI 19 (.mv (.t 18)), iG (some 20) 19 true (.mv (.t 3)), iG (some 21) 19 true (.faddr 4 (.t 5)), iG (some 22) 19 true (.load 0 (.t 21)), iG (some 23) 19 true (.mv (.t 0)), iG (some 24) 19 true (.load 7 (.t 5)), iG (some 25) 19 true (.call (.c (.fn 81 [])) [(.t 23), (.t 24)]), iG (some 26) 19 true (.bin .add (.t 22) (.t 25)), iG (some 27) 19 true (.bin .lss (.t 20) (.t 26)), iI 28 (.pick (.t 19) (.t 27) (.c (.bool false))), iI 8 (.mv (.t 28))]) .ret
def ir83 : C := .seq (.reg [iI 5 (.box (.t 1)), iI 8 (.mv (.c (.bool false)))]) c83_0
theorem fd83 : fd? Try.prog 83 = some (29, [.slot 8], ir83) := by kernel_rfl
noncomputable def f83 (profiles_843 : (List ApiProfile)) (x_844 : ApiFixture) (universe_845 : Int) (address_846 : Int) : Option (Bool) :=
  (if (decide (x_844.fUniverse = universe_845)) = true then (if (decide (x_844.fAddress ≤ address_846)) = true then (f81 profiles_843 x_844).bind fun r_847 => (some (decide (address_846 < (IntKind.i64.wrap (x_844.fAddress + r_847))))) else (some false)) else (some false))
theorem f83_ok {profiles_843 : (List ApiProfile)} {x_844 : ApiFixture} {universe_845 : Int} {address_846 : Int} {r_ : Bool} (H : f83 profiles_843 x_844 universe_845 address_846 = some r_) : Pure Try.prog 83 [.sl 4 false (profiles_843.map eApiProfile), .agg [.int .i64 x_844.fChannel, .int .i64 x_844.fPart, .str x_844.fProfile, .int .i64 x_844.fUniverse, .int .i64 x_844.fAddress, .int .i64 x_844.fPhase, .str x_844.fCable], .int .i64 universe_845, .int .i64 address_846] (· = .bool r_) := by
 refine Pure.walk3 fd83 none (Nat.le_of_ble_eq_true rfl) (by rfl) fun Q hQ => ?_
 simp only [f83] at H
 refine AW.rseq ?_
 try simp only [wm, ↓wk, ↓wl, nq, evV, ↓reduceIte, sevalprocAttr]
 refine AW.rqseq ?_
 try simp only [wm, ↓wk, ↓wl, nq, evV, ↓reduceIte, sevalprocAttr]
 refine evTs_ifg H (by rfl) ?_ ?_ <;> clear H <;> intro H
 ·try simp only [wm, ↓wk, ↓wl, nq, evV, ↓reduceIte, sevalprocAttr]
  refine evTs_ifg H (by rfl) ?_ ?_ <;> clear H <;> intro H
  ·try simp only [wm, ↓wk, ↓wl, nq, evV, ↓reduceIte, sevalprocAttr]
   refine evTs_pure hFnq H (fun _ h => f81_ok h) (by rfl) (by rfl) (by rfl) (by rfl) (fun _ => rfl) ?_ <;> clear H <;> intro r_847 H
   try simp only [eL, wm, ↓wk, ↓wl, nq, evV, ↓reduceIte, sevalprocAttr]
   refine AW.ret ?_
   cases H
   exact hQ _ _ _ _ (.inr rfl) (by simp only [resVs, omap, resV, wm, ↓wk, ↓wl, nq, evV, ↓reduceIte, sevalprocAttr]; rfl) (hand_plain (by rfl)) (by first | exact Or.inl rfl | exact Or.inr rfl)
  ·try simp only [wm, ↓wk, ↓wl, nq, evV, ↓reduceIte, sevalprocAttr]
   refine AW.ret ?_
   cases H
   exact hQ _ _ _ _ (.inr rfl) (by simp only [resVs, omap, resV, wm, ↓wk, ↓wl, nq, evV, ↓reduceIte, sevalprocAttr]; rfl) (hand_plain (by rfl)) (by first | exact Or.inl rfl | exact Or.inr rfl)
 ·try simp only [wm, ↓wk, ↓wl, nq, evV, ↓reduceIte, sevalprocAttr]
  refine AW.ret ?_
  cases H
  exact hQ _ _ _ _ (.inr rfl) (by simp only [resVs, omap, resV, wm, ↓wk, ↓wl, nq, evV, ↓reduceIte, sevalprocAttr]; rfl) (hand_plain (by rfl)) (by first | exact Or.inl rfl | exact Or.inr rfl)
noncomputable def f55_L1 (l_838 : (List ApiFixture)) (profiles_839 : (List ApiProfile)) (universe_840 : Int) (address_841 : Int) : Lp (Int) ((Unit) ⊕ (Int)) where
  body := fun i_852 => (if (decide (i_852 < ((l_838.length : Nat) : Int))) = true then (at? l_838 i_852).bind fun x_856 => (f83 profiles_839 x_856 universe_840 address_841).bind fun r_857 => (if r_857 = true then (some (.brk (Sum.inr i_852))) else (some (.next (IntKind.i64.wrap (i_852 + 1))))) else (some (.brk (Sum.inl ()))))
  cst := fun i_852 => ⟨put (put (put (put (put (fun _ => .junk) 9 (.int .i64 i_852)) 3 (.int .i64 address_841)) 2 (.int .i64 universe_840)) 1 (.sl 4 false (profiles_839.map eApiProfile))) 0 (.sl 7 false (l_838.map eApiFixture)), []⟩
theorem f55_L1c (l_838 : (List ApiFixture)) (profiles_839 : (List ApiProfile)) (universe_840 : Int) (address_841 : Int) (i_852 : Int) : (f55_L1 l_838 profiles_839 universe_840 address_841).cst i_852 = ⟨put (put (put (put (put (fun _ => .junk) 9 (.int .i64 i_852)) 3 (.int .i64 address_841)) 2 (.int .i64 universe_840)) 1 (.sl 4 false (profiles_839.map eApiProfile))) 0 (.sl 7 false (l_838.map eApiFixture)), []⟩ := rfl
def c55_0 : C := .cond (.t 13) (.skip) (.exit 0)
def c55_1 : C := .cond (.t 23) (.seq (.reg [iI 24 (.mv (.t 9)), iI 8 (.mv (.t 24))]) .ret) (.skip)
def c55_2 : C := .reg [iI 14 (.mv (.t 9)), iI 15 (.bin .add (.t 14) (.c (.int .i64 1))), iI 9 (.mv (.t 15))]
def c55_3 : C := .seq (.block 1 (.seq (.reg [iI 16 (.mv (.t 1)), iI 17 (.mv (.t 0)), iI 18 (.mv (.t 9)), iI 19 (.iaddr 7 (.t 17) (.t 18)), iI 20 (.load 7 (.t 19)), iI 21 (.mv (.t 2)), iI 22 (.mv (.t 3)), iI 23 (.call (.c (.fn 83 [])) [(.t 16), (.t 20), (.t 21), (.t 22)])]) c55_1)) c55_2
def c55_4 : C := .block 0 (.loop (.seq (.seq (.reg [iI 10 (.mv (.t 9)), iI 11 (.mv (.t 0)), iI 12 (.len 0 (.t 11)), iI 13 (.bin .lss (.t 10) (.t 12))]) c55_0) c55_3))
def c55_5 : C := .seq (.reg [iI 8 (.mv (.c (.int .i64 (-1))))]) .ret
def c55_6 : C := .seq (.seq (.reg [iI 9 (.mv (.c (.int .i64 0)))]) c55_4) c55_5
def ir55 : C := .seq (.reg [iI 8 (.mv (.c (.int .i64 0)))]) c55_6
theorem fd55 : fd? Try.prog 55 = some (25, [.slot 8], ir55) := by kernel_rfl
noncomputable def f55 (l_838 : (List ApiFixture)) (profiles_839 : (List ApiProfile)) (universe_840 : Int) (address_841 : Int) : Option (Int) :=
  ((Lp.run (f55_L1 l_838 profiles_839 universe_840 address_841) 0).bind fun r_ => match r_ with | (Sum.inl _) => (some (-1)) | (Sum.inr v_855) => (some v_855))
theorem f55_ok {l_838 : (List ApiFixture)} {profiles_839 : (List ApiProfile)} {universe_840 : Int} {address_841 : Int} {r_ : Int} (H : f55 l_838 profiles_839 universe_840 address_841 = some r_) : Pure Try.prog 55 [.sl 7 false (l_838.map eApiFixture), .sl 4 false (profiles_839.map eApiProfile), .int .i64 universe_840, .int .i64 address_841] (· = .int .i64 r_) := by
 refine Pure.walk3 fd55 none (Nat.le_of_ble_eq_true rfl) (by rfl) fun Q hQ => ?_
 simp only [f55] at H
 refine AW.rseq ?_
 try simp only [wm, ↓wk, ↓wl, nq, evV, ↓reduceIte, sevalprocAttr]
 refine AW.sseq ?_
 refine AW.rseq ?_
 try simp only [wm, ↓wk, ↓wl, nq, evV, ↓reduceIte, sevalprocAttr]
 refine AW.bend ?_
 refine AW.iter H ((Le.tz [] [0, 1, 2, 3, 9] (by simp only [f55_L1c, wm, wmr, rrm, ↓wk, ↓wl, evV, ↓reduceIte, sevalprocAttr] <;> rfl))) ?_ <;> clear H
 rintro i_852 x_ st0_ H hst_
 rw [f55_L1c] at hst_
 simp only [f55_L1] at H
 subst hst_
 refine AW.sseq ?_
 refine AW.rseq ?_
 try simp only [wm, ↓wk, ↓wl, nq, evV, ↓reduceIte, sevalprocAttr]
 refine AW.ifc H (by rfl) ?_ ?_ <;> clear H <;> intro H
 ·refine AW.skip ?_
  refine seqQ.norm ?_
  refine AW.bseq ?_
  refine AW.rseq ?_
  try simp only [wm, ↓wk, ↓wl, nq, evV, ↓reduceIte, sevalprocAttr]
  refine evTs_at (enc := eApiFixture) H (by rfl) (by rfl) ?_ <;> clear H <;> intro x_856 H
  try simp only [eApiFixture, eL, eM, wm, ↓wk, ↓wl, nq, evV, ↓reduceIte, sevalprocAttr]
  refine evTs_pure hFn H (fun _ h => f83_ok h) (by rfl) (by rfl) (by rfl) (by rfl) (fun _ => rfl) ?_ <;> clear H <;> intro r_857 H
  try simp only [eL, wm, ↓wk, ↓wl, nq, evV, ↓reduceIte, sevalprocAttr]
  refine AW.ifc H (by rfl) ?_ ?_ <;> clear H <;> intro H
  ·refine AW.rseq ?_
   try simp only [wm, ↓wk, ↓wl, nq, evV, ↓reduceIte, sevalprocAttr]
   refine AW.ret ?_
   refine blkQ.ret ?_
   refine loopQ.ret H ?_ <;> clear H <;> intro H
   try dsimp only at H
   refine blk0.ret ?_
   refine seqQ.ret ?_
   cases H
   exact hQ _ _ _ _ (.inr rfl) (by simp only [resVs, omap, resV, wm, ↓wk, ↓wl, nq, evV, ↓reduceIte, sevalprocAttr]; rfl) (hand_plain (by rfl)) (by first | exact Or.inl rfl | exact Or.inr rfl)
  ·refine AW.skip ?_
   refine blkQ.norm ?_
   refine AW.rend ?_
   try simp only [wm, ↓wk, ↓wl, nq, evV, ↓reduceIte, sevalprocAttr]
   exact loopQ.next H ((Le.tz [] [0, 1, 2, 3, 9] (by simp only [f55_L1c, wm, wmr, rrm, ↓wk, ↓wl, evV, ↓reduceIte, sevalprocAttr] <;> rfl)))
 ·refine AW.exit ?_
  refine seqQ.exit ?_
  refine loopQ.exit H ?_ <;> clear H <;> intro H
  try dsimp only at H
  refine blk0.here ?_
  refine seqQ.norm ?_
  refine AW.rseq ?_
  try simp only [wm, ↓wk, ↓wl, nq, evV, ↓reduceIte, sevalprocAttr]
  refine AW.ret ?_
  cases H
  exact hQ _ _ _ _ (.inr rfl) (by simp only [resVs, omap, resV, wm, ↓wk, ↓wl, nq, evV, ↓reduceIte, sevalprocAttr]; rfl) (hand_plain (by rfl)) (by first | exact Or.inl rfl | exact Or.inr rfl)
def c21_0 : C := .cond (.t 18) (.seq (.reg [iI 19 (.mv (.t 12)), iI 8 (.mv (.c (.int .i64 0))), iI 9 (.mv (.c (.int .i64 0))), iI 10 (.mv (.c (.bool false))), iI 11 (.mv (.t 19))]) .ret) (.skip)
def c21_1 : C := .seq (.reg [iI 17 (.mv (.t 12)), iI 18 (.bin .neq (.t 17) (.c (.int .i64 0)))]) c21_0
def c21_2 : C := .cond (.t 26) (.seq (.reg [iI 8 (.mv (.c (.int .i64 0))), iI 9 (.mv (.c (.int .i64 0))), iI 10 (.mv (.c (.bool false))), iI 11 (.mv (.c (.int .i64 0)))]) .ret) (.skip)
def c21_3 : C := .seq (.reg [iI 27 (.mv (.t 13)), iI 28 (.mv (.t 3)), iI 29 (.mv (.t 0)), iI 30 (.mv (.t 13)), iI 31 (.iaddr 7 (.t 29) (.t 30)), iI 32 (.faddr 4 (.t 31)), iI 33 (.load 0 (.t 32)), iI 34 (.bin .sub (.t 28) (.t 33)), iI 8 (.mv (.t 27)), iI 9 (.mv (.t 34)), iI 10 (.mv (.c (.bool true))), iI 11 (.mv (.c (.int .i64 0)))]) .ret
def c21_4 : C := .seq (.seq (.reg [iI 25 (.mv (.t 13)), iI 26 (.bin .lss (.t 25) (.c (.int .i64 0)))]) c21_2) c21_3
def c21_5 : C := .seq (.reg [iI 20 (.mv (.t 0)), iI 21 (.mv (.t 1)), iI 22 (.mv (.t 2)), iI 23 (.mv (.t 3)), iI 24 (.call (.c (.fn 55 [])) [(.t 20), (.t 21), (.t 22), (.t 23)]), iI 13 (.mv (.t 24))]) c21_4
def c21_6 : C := .seq (.seq (.reg [iI 14 (.mv (.t 0)), iI 15 (.mv (.t 1)), iI 16 (.call (.c (.fn 17 [])) [(.t 14), (.t 15)]), iI 12 (.mv (.t 16))]) c21_1) c21_5
def ir21 : C := .seq (.reg [iI 8 (.mv (.c (.int .i64 0))), iI 9 (.mv (.c (.int .i64 0))), iI 10 (.mv (.c (.bool false))), iI 11 (.mv (.c (.int .i64 0)))]) c21_6
theorem fd21 : fd? Try.prog 21 = some (35, [.slot 8, .slot 9, .slot 10, .slot 11], ir21) := by kernel_rfl
noncomputable def f21 (l_832 : (List ApiFixture)) (profiles_833 : (List ApiProfile)) (universe_834 : Int) (address_835 : Int) : Option (Int × Int × Bool × Int) :=
  (f17 l_832 profiles_833).bind fun r_837 => (if (decide (r_837 ≠ 0)) = true then (some (0, 0, false, r_837)) else (f55 l_832 profiles_833 universe_834 address_835).bind fun r_858 => (if (decide (r_858 < 0)) = true then (some (0, 0, false, 0)) else (at? l_832 r_858).bind fun x_859 => (some (r_858, (IntKind.i64.wrap (address_835 - x_859.fAddress)), true, 0))))
theorem f21_ok {l_832 : (List ApiFixture)} {profiles_833 : (List ApiProfile)} {universe_834 : Int} {address_835 : Int} {r_ : Int × Int × Bool × Int} (H : f21 l_832 profiles_833 universe_834 address_835 = some r_) : Pure Try.prog 21 [.sl 7 false (l_832.map eApiFixture), .sl 4 false (profiles_833.map eApiProfile), .int .i64 universe_834, .int .i64 address_835] (· = .tup [.int .i64 r_.1, .int .i64 r_.2.1, .bool r_.2.2.1, .int .i64 r_.2.2.2]) := by
 refine Pure.walk3 fd21 none (Nat.le_of_ble_eq_true rfl) (by rfl) fun Q hQ => ?_
 simp only [f21] at H
 refine AW.rseq ?_
 try simp only [wm, ↓wk, ↓wl, nq, evV, ↓reduceIte, sevalprocAttr]
 refine AW.sseq ?_
 refine AW.rseq ?_
 try simp only [wm, ↓wk, ↓wl, nq, evV, ↓reduceIte, sevalprocAttr]
 refine evTs_pure hFn H (fun _ h => f17_ok h) (by rfl) (by rfl) (by rfl) (by rfl) (fun _ => rfl) ?_ <;> clear H <;> intro r_837 H
 try simp only [eL, wm, ↓wk, ↓wl, nq, evV, ↓reduceIte, sevalprocAttr]
 refine AW.rseq ?_
 try simp only [wm, ↓wk, ↓wl, nq, evV, ↓reduceIte, sevalprocAttr]
 refine AW.ifc H (by rfl) ?_ ?_ <;> clear H <;> intro H
 ·refine AW.rseq ?_
  try simp only [wm, ↓wk, ↓wl, nq, evV, ↓reduceIte, sevalprocAttr]
  refine AW.ret ?_
  refine seqQ.ret ?_
  cases H
  exact hQ _ _ _ _ (.inr rfl) (by simp only [resVs, omap, resV, wm, ↓wk, ↓wl, nq, evV, ↓reduceIte, sevalprocAttr]; rfl) (hand_plain (by rfl)) (by first | exact Or.inl rfl | exact Or.inr rfl)
 ·refine AW.skip ?_
  refine seqQ.norm ?_
  refine AW.rseq ?_
  try simp only [wm, ↓wk, ↓wl, nq, evV, ↓reduceIte, sevalprocAttr]
  refine evTs_pure hFn H (fun _ h => f55_ok h) (by rfl) (by rfl) (by rfl) (by rfl) (fun _ => rfl) ?_ <;> clear H <;> intro r_858 H
  try simp only [eL, wm, ↓wk, ↓wl, nq, evV, ↓reduceIte, sevalprocAttr]
  refine AW.sseq ?_
  refine AW.rseq ?_
  try simp only [wm, ↓wk, ↓wl, nq, evV, ↓reduceIte, sevalprocAttr]
  refine AW.ifc H (by rfl) ?_ ?_ <;> clear H <;> intro H
  ·refine AW.rseq ?_
   try simp only [wm, ↓wk, ↓wl, nq, evV, ↓reduceIte, sevalprocAttr]
   refine AW.ret ?_
   refine seqQ.ret ?_
   cases H
   exact hQ _ _ _ _ (.inr rfl) (by simp only [resVs, omap, resV, wm, ↓wk, ↓wl, nq, evV, ↓reduceIte, sevalprocAttr]; rfl) (hand_plain (by rfl)) (by first | exact Or.inl rfl | exact Or.inr rfl)
  ·refine AW.skip ?_
   refine seqQ.norm ?_
   refine AW.rseq ?_
   try simp only [wm, ↓wk, ↓wl, nq, evV, ↓reduceIte, sevalprocAttr]
   refine evTs_at (enc := eApiFixture) H (by rfl) (by rfl) ?_ <;> clear H <;> intro x_859 H
   try simp only [eApiFixture, eL, eM, wm, ↓wk, ↓wl, nq, evV, ↓reduceIte, sevalprocAttr]
   refine AW.ret ?_
   cases H
   exact hQ _ _ _ _ (.inr rfl) (by simp only [resVs, omap, resV, wm, ↓wk, ↓wl, nq, evV, ↓reduceIte, sevalprocAttr]; rfl) (hand_plain (by rfl)) (by first | exact Or.inl rfl | exact Or.inr rfl)
noncomputable def f56_L1 (size_874 : Int) (l_870 : (List ApiFixture)) (profiles_871 : (List ApiProfile)) (universe_872 : Int) (address_873 : Int) : Lp (Int) ((Unit) ⊕ (Unit)) where
  body := fun i_878 => (if (decide (i_878 < size_874)) = true then (f55 l_870 profiles_871 universe_872 (IntKind.i64.wrap (address_873 + i_878))).bind fun r_880 => (if (decide (0 ≤ r_880)) = true then (some (.brk (Sum.inr ()))) else (some (.next (IntKind.i64.wrap (i_878 + 1))))) else (some (.brk (Sum.inl ()))))
  cst := fun i_878 => ⟨put (put (put (put (put (put (fun _ => .junk) 11 (.int .i64 i_878)) 4 (.int .i64 size_874)) 3 (.int .i64 address_873)) 2 (.int .i64 universe_872)) 1 (.sl 4 false (profiles_871.map eApiProfile))) 0 (.sl 7 false (l_870.map eApiFixture)), []⟩
theorem f56_L1c (size_874 : Int) (l_870 : (List ApiFixture)) (profiles_871 : (List ApiProfile)) (universe_872 : Int) (address_873 : Int) (i_878 : Int) : (f56_L1 size_874 l_870 profiles_871 universe_872 address_873).cst i_878 = ⟨put (put (put (put (put (put (fun _ => .junk) 11 (.int .i64 i_878)) 4 (.int .i64 size_874)) 3 (.int .i64 address_873)) 2 (.int .i64 universe_872)) 1 (.sl 4 false (profiles_871.map eApiProfile))) 0 (.sl 7 false (l_870.map eApiFixture)), []⟩ := rfl
def c56_0 : C := .cond (.t 14) (.skip) (.exit 0)
def c56_1 : C := .cond (.t 24) (.seq (.reg [iI 10 (.mv (.c (.bool false)))]) .ret) (.skip)
def c56_2 : C := .reg [iI 15 (.mv (.t 11)), iI 16 (.bin .add (.t 15) (.c (.int .i64 1))), iI 11 (.mv (.t 16))]
def c56_3 : C := .seq (.block 1 (.seq (.reg [iI 17 (.mv (.t 0)), iI 18 (.mv (.t 1)), iI 19 (.mv (.t 2)), iI 20 (.mv (.t 3)), iI 21 (.mv (.t 11)), iI 22 (.bin .add (.t 20) (.t 21)), iI 23 (.call (.c (.fn 55 [])) [(.t 17), (.t 18), (.t 19), (.t 22)]), iI 24 (.bin .geq (.t 23) (.c (.int .i64 0)))]) c56_1)) c56_2
def c56_4 : C := .block 0 (.loop (.seq (.seq (.reg [iI 12 (.mv (.t 11)), iI 13 (.mv (.t 4)), iI 14 (.bin .lss (.t 12) (.t 13))]) c56_0) c56_3))
def c56_5 : C := .seq (.reg [iI 10 (.mv (.c (.bool true)))]) .ret
def c56_6 : C := .seq (.seq (.reg [iI 11 (.mv (.c (.int .i64 0)))]) c56_4) c56_5
def ir56 : C := .seq (.reg [iI 10 (.mv (.c (.bool false)))]) c56_6
theorem fd56 : fd? Try.prog 56 = some (25, [.slot 10], ir56) := by kernel_rfl
noncomputable def f56 (l_870 : (List ApiFixture)) (profiles_871 : (List ApiProfile)) (universe_872 : Int) (address_873 : Int) (size_874 : Int) : Option (Bool) :=
  ((Lp.run (f56_L1 size_874 l_870 profiles_871 universe_872 address_873) 0).bind fun r_ => match r_ with | (Sum.inl _) => (some true) | (Sum.inr _) => (some false))
theorem f56_ok {l_870 : (List ApiFixture)} {profiles_871 : (List ApiProfile)} {universe_872 : Int} {address_873 : Int} {size_874 : Int} {r_ : Bool} (H : f56 l_870 profiles_871 universe_872 address_873 size_874 = some r_) : Pure Try.prog 56 [.sl 7 false (l_870.map eApiFixture), .sl 4 false (profiles_871.map eApiProfile), .int .i64 universe_872, .int .i64 address_873, .int .i64 size_874] (· = .bool r_) := by
 refine Pure.walk3 fd56 none (Nat.le_of_ble_eq_true rfl) (by rfl) fun Q hQ => ?_
 simp only [f56] at H
 refine AW.rseq ?_
 try simp only [wm, ↓wk, ↓wl, nq, evV, ↓reduceIte, sevalprocAttr]
 refine AW.sseq ?_
 refine AW.rseq ?_
 try simp only [wm, ↓wk, ↓wl, nq, evV, ↓reduceIte, sevalprocAttr]
 refine AW.bend ?_
 refine AW.iter H ((Le.tz [] [0, 1, 2, 3, 4, 11] (by simp only [f56_L1c, wm, wmr, rrm, ↓wk, ↓wl, evV, ↓reduceIte, sevalprocAttr] <;> rfl))) ?_ <;> clear H
 rintro i_878 x_ st0_ H hst_
 rw [f56_L1c] at hst_
 simp only [f56_L1] at H
 subst hst_
 refine AW.sseq ?_
 refine AW.rseq ?_
 try simp only [wm, ↓wk, ↓wl, nq, evV, ↓reduceIte, sevalprocAttr]
 refine AW.ifc H (by rfl) ?_ ?_ <;> clear H <;> intro H
 ·refine AW.skip ?_
  refine seqQ.norm ?_
  refine AW.bseq ?_
  refine AW.rseq ?_
  try simp only [wm, ↓wk, ↓wl, nq, evV, ↓reduceIte, sevalprocAttr]
  refine evTs_pure hFn H (fun _ h => f55_ok h) (by rfl) (by rfl) (by rfl) (by rfl) (fun _ => rfl) ?_ <;> clear H <;> intro r_880 H
  try simp only [eL, wm, ↓wk, ↓wl, nq, evV, ↓reduceIte, sevalprocAttr]
  refine AW.ifc H (by rfl) ?_ ?_ <;> clear H <;> intro H
  ·refine AW.rseq ?_
   try simp only [wm, ↓wk, ↓wl, nq, evV, ↓reduceIte, sevalprocAttr]
   refine AW.ret ?_
   refine blkQ.ret ?_
   refine loopQ.ret H ?_ <;> clear H <;> intro H
   try dsimp only at H
   refine blk0.ret ?_
   refine seqQ.ret ?_
   cases H
   exact hQ _ _ _ _ (.inr rfl) (by simp only [resVs, omap, resV, wm, ↓wk, ↓wl, nq, evV, ↓reduceIte, sevalprocAttr]; rfl) (hand_plain (by rfl)) (by first | exact Or.inl rfl | exact Or.inr rfl)
  ·refine AW.skip ?_
   refine blkQ.norm ?_
   refine AW.rend ?_
   try simp only [wm, ↓wk, ↓wl, nq, evV, ↓reduceIte, sevalprocAttr]
   exact loopQ.next H ((Le.tz [] [0, 1, 2, 3, 4, 11] (by simp only [f56_L1c, wm, wmr, rrm, ↓wk, ↓wl, evV, ↓reduceIte, sevalprocAttr] <;> rfl)))
 ·refine AW.exit ?_
  refine seqQ.exit ?_
  refine loopQ.exit H ?_ <;> clear H <;> intro H
  try dsimp only at H
  refine blk0.here ?_
  refine seqQ.norm ?_
  refine AW.rseq ?_
  try simp only [wm, ↓wk, ↓wl, nq, evV, ↓reduceIte, sevalprocAttr]
  refine AW.ret ?_
  cases H
  exact hQ _ _ _ _ (.inr rfl) (by simp only [resVs, omap, resV, wm, ↓wk, ↓wl, nq, evV, ↓reduceIte, sevalprocAttr]; rfl) (hand_plain (by rfl)) (by first | exact Or.inl rfl | exact Or.inr rfl)
noncomputable def f23_L1 (size_867 : Int) (l_864 : (List ApiFixture)) (profiles_865 : (List ApiProfile)) (universe_866 : Int) : Lp (Int) ((Unit) ⊕ (Int)) where
  body := fun a_884 => (if (decide ((IntKind.i64.wrap ((IntKind.i64.wrap (a_884 + size_867)) - 1)) ≤ 512)) = true then (f56 l_864 profiles_865 universe_866 a_884 size_867).bind fun r_887 => (if r_887 = true then (some (.brk (Sum.inr a_884))) else (some (.next (IntKind.i64.wrap (a_884 + 1))))) else (some (.brk (Sum.inl ()))))
  cst := fun a_884 => ⟨put (put (put (put (put (fun _ => .junk) 11 (.int .i64 a_884)) 3 (.int .i64 size_867)) 2 (.int .i64 universe_866)) 1 (.sl 4 false (profiles_865.map eApiProfile))) 0 (.sl 7 false (l_864.map eApiFixture)), []⟩
theorem f23_L1c (size_867 : Int) (l_864 : (List ApiFixture)) (profiles_865 : (List ApiProfile)) (universe_866 : Int) (a_884 : Int) : (f23_L1 size_867 l_864 profiles_865 universe_866).cst a_884 = ⟨put (put (put (put (put (fun _ => .junk) 11 (.int .i64 a_884)) 3 (.int .i64 size_867)) 2 (.int .i64 universe_866)) 1 (.sl 4 false (profiles_865.map eApiProfile))) 0 (.sl 7 false (l_864.map eApiFixture)), []⟩ := rfl
def c23_0 : C := .cond (.t 16) (.seq (.reg [iI 17 (.mv (.t 10)), iI 8 (.mv (.c (.int .i64 0))), iI 9 (.mv (.t 17))]) .ret) (.skip)
def c23_1 : C := .seq (.reg [iI 15 (.mv (.t 10)), iI 16 (.bin .neq (.t 15) (.c (.int .i64 0)))]) c23_0
def c23_2 : C := .cond (.t 31) (.seq (.reg [iI 8 (.mv (.c (.int .i64 0))), iI 9 (.mv (.c (.int .i64 2)))]) .ret) (.skip)
def c23_3 : C := .cond (.t 36) (.skip) (.exit 0)
def c23_4 : C := .cond (.t 44) (.seq (.reg [iI 45 (.mv (.t 11)), iI 8 (.mv (.t 45)), iI 9 (.mv (.c (.int .i64 0)))]) .ret) (.skip)
def c23_5 : C := .reg [iI 37 (.mv (.t 11)), iI 38 (.bin .add (.t 37) (.c (.int .i64 1))), iI 11 (.mv (.t 38))]
def c23_6 : C := .seq (.block 1 (.seq (.reg [iI 39 (.mv (.t 0)), iI 40 (.mv (.t 1)), iI 41 (.mv (.t 2)), iI 42 (.mv (.t 11)), iI 43 (.mv (.t 3)), iI 44 (.call (.c (.fn 56 [])) [(.t 39), (.t 40), (.t 41), (.t 42), (.t 43)])]) c23_4)) c23_5
def c23_7 : C := .block 0 (.loop (.seq (.seq (.reg [iI 32 (.mv (.t 11)), iI 33 (.mv (.t 3)), iI 34 (.bin .add (.t 32) (.t 33)), iI 35 (.bin .sub (.t 34) (.c (.int .i64 1))), iI 36 (.bin .leq (.t 35) (.c (.int .i64 512)))]) c23_3) c23_6))
def c23_8 : C := .seq (.reg [iI 8 (.mv (.c (.int .i64 0))), iI 9 (.mv (.c (.int .i64 12)))]) .ret
def c23_9 : C := .seq (.seq (.reg [iI 11 (.mv (.c (.int .i64 1)))]) c23_7) c23_8
def c23_10 : C := .seq (.seq (.reg [iI 18 (.mv (.t 2)), iI 19 (.bin .lss (.t 18) (.c (.int .i64 1))), iI 20 (.mv (.t 19)), iG (some 21) 20 false (.mv (.t 2)), iG (some 22) 20 false (.bin .gtr (.t 21) (.c (.int .i64 8))), iI 23 (.pick (.t 20) (.c (.bool true)) (.t 22)), iI 24 (.mv (.t 23)), iG (some 25) 24 false (.mv (.t 3)), iG (some 26) 24 false (.bin .lss (.t 25) (.c (.int .i64 1))), iI 27 (.pick (.t 24) (.c (.bool true)) (.t 26)), iI 28 (.mv (.t 27)), iG (some 29) 28 false (.mv (.t 3)), iG (some 30) 28 false (.bin .gtr (.t 29) (.c (.int .i64 512))), iI 31 (.pick (.t 28) (.c (.bool true)) (.t 30))]) c23_2) c23_9
def c23_11 : C := .seq (.seq (.reg [iI 12 (.mv (.t 0)), iI 13 (.mv (.t 1)), iI 14 (.call (.c (.fn 17 [])) [(.t 12), (.t 13)]), iI 10 (.mv (.t 14))]) c23_1) c23_10
def ir23 : C := .seq (.reg [iI 8 (.mv (.c (.int .i64 0))), iI 9 (.mv (.c (.int .i64 0)))]) c23_11
theorem fd23 : fd? Try.prog 23 = some (46, [.slot 8, .slot 9], ir23) := by kernel_rfl
noncomputable def f23 (l_864 : (List ApiFixture)) (profiles_865 : (List ApiProfile)) (universe_866 : Int) (size_867 : Int) : Option (Int × Int) :=
  (f17 l_864 profiles_865).bind fun r_869 => (if (decide (r_869 ≠ 0)) = true then (some (0, r_869)) else (if (decide (universe_866 < 1)) = true then (some (0, 2)) else (if (decide (8 < universe_866)) = true then (some (0, 2)) else (if (decide (size_867 < 1)) = true then (some (0, 2)) else (if (decide (512 < size_867)) = true then (some (0, 2)) else ((Lp.run (f23_L1 size_867 l_864 profiles_865 universe_866) 1).bind fun r_ => match r_ with | (Sum.inl _) => (some (0, 12)) | (Sum.inr v_886) => (some (v_886, 0))))))))
theorem f23_ok {l_864 : (List ApiFixture)} {profiles_865 : (List ApiProfile)} {universe_866 : Int} {size_867 : Int} {r_ : Int × Int} (H : f23 l_864 profiles_865 universe_866 size_867 = some r_) : Pure Try.prog 23 [.sl 7 false (l_864.map eApiFixture), .sl 4 false (profiles_865.map eApiProfile), .int .i64 universe_866, .int .i64 size_867] (· = .tup [.int .i64 r_.1, .int .i64 r_.2]) := by
 refine Pure.walk3 fd23 none (Nat.le_of_ble_eq_true rfl) (by rfl) fun Q hQ => ?_
 simp only [f23] at H
 refine AW.rseq ?_
 try simp only [wm, ↓wk, ↓wl, nq, evV, ↓reduceIte, sevalprocAttr]
 refine AW.sseq ?_
 refine AW.rseq ?_
 try simp only [wm, ↓wk, ↓wl, nq, evV, ↓reduceIte, sevalprocAttr]
 refine evTs_pure hFn H (fun _ h => f17_ok h) (by rfl) (by rfl) (by rfl) (by rfl) (fun _ => rfl) ?_ <;> clear H <;> intro r_869 H
 try simp only [eL, wm, ↓wk, ↓wl, nq, evV, ↓reduceIte, sevalprocAttr]
 refine AW.rseq ?_
 try simp only [wm, ↓wk, ↓wl, nq, evV, ↓reduceIte, sevalprocAttr]
 refine AW.ifc H (by rfl) ?_ ?_ <;> clear H <;> intro H
 ·refine AW.rseq ?_
  try simp only [wm, ↓wk, ↓wl, nq, evV, ↓reduceIte, sevalprocAttr]
  refine AW.ret ?_
  refine seqQ.ret ?_
  cases H
  exact hQ _ _ _ _ (.inr rfl) (by simp only [resVs, omap, resV, wm, ↓wk, ↓wl, nq, evV, ↓reduceIte, sevalprocAttr]; rfl) (hand_plain (by rfl)) (by first | exact Or.inl rfl | exact Or.inr rfl)
 ·refine AW.skip ?_
  refine seqQ.norm ?_
  refine AW.sseq ?_
  refine AW.rseq ?_
  try simp only [wm, ↓wk, ↓wl, nq, evV, ↓reduceIte, sevalprocAttr]
  refine evTs_ifg H (by rfl) ?_ ?_ <;> clear H <;> intro H
  ·try simp only [wm, ↓wk, ↓wl, nq, evV, ↓reduceIte, sevalprocAttr]
   refine AW.ift (by rfl) ?_
   refine AW.rseq ?_
   try simp only [wm, ↓wk, ↓wl, nq, evV, ↓reduceIte, sevalprocAttr]
   refine AW.ret ?_
   refine seqQ.ret ?_
   cases H
   exact hQ _ _ _ _ (.inr rfl) (by simp only [resVs, omap, resV, wm, ↓wk, ↓wl, nq, evV, ↓reduceIte, sevalprocAttr]; rfl) (hand_plain (by rfl)) (by first | exact Or.inl rfl | exact Or.inr rfl)
  ·try simp only [wm, ↓wk, ↓wl, nq, evV, ↓reduceIte, sevalprocAttr]
   refine evTs_ifg H (by rfl) ?_ ?_ <;> clear H <;> intro H
   ·try simp only [wm, ↓wk, ↓wl, nq, evV, ↓reduceIte, sevalprocAttr]
    refine AW.ift (by rfl) ?_
    refine AW.rseq ?_
    try simp only [wm, ↓wk, ↓wl, nq, evV, ↓reduceIte, sevalprocAttr]
    refine AW.ret ?_
    refine seqQ.ret ?_
    cases H
    exact hQ _ _ _ _ (.inr rfl) (by simp only [resVs, omap, resV, wm, ↓wk, ↓wl, nq, evV, ↓reduceIte, sevalprocAttr]; rfl) (hand_plain (by rfl)) (by first | exact Or.inl rfl | exact Or.inr rfl)
   ·try simp only [wm, ↓wk, ↓wl, nq, evV, ↓reduceIte, sevalprocAttr]
    refine evTs_ifg H (by rfl) ?_ ?_ <;> clear H <;> intro H
    ·try simp only [wm, ↓wk, ↓wl, nq, evV, ↓reduceIte, sevalprocAttr]
     refine AW.ift (by rfl) ?_
     refine AW.rseq ?_
     try simp only [wm, ↓wk, ↓wl, nq, evV, ↓reduceIte, sevalprocAttr]
     refine AW.ret ?_
     refine seqQ.ret ?_
     cases H
     exact hQ _ _ _ _ (.inr rfl) (by simp only [resVs, omap, resV, wm, ↓wk, ↓wl, nq, evV, ↓reduceIte, sevalprocAttr]; rfl) (hand_plain (by rfl)) (by first | exact Or.inl rfl | exact Or.inr rfl)
    ·try simp only [wm, ↓wk, ↓wl, nq, evV, ↓reduceIte, sevalprocAttr]
     refine AW.ifc H (by rfl) ?_ ?_ <;> clear H <;> intro H
     ·refine AW.rseq ?_
      try simp only [wm, ↓wk, ↓wl, nq, evV, ↓reduceIte, sevalprocAttr]
      refine AW.ret ?_
      refine seqQ.ret ?_
      cases H
      exact hQ _ _ _ _ (.inr rfl) (by simp only [resVs, omap, resV, wm, ↓wk, ↓wl, nq, evV, ↓reduceIte, sevalprocAttr]; rfl) (hand_plain (by rfl)) (by first | exact Or.inl rfl | exact Or.inr rfl)
     ·refine AW.skip ?_
      refine seqQ.norm ?_
      refine AW.sseq ?_
      refine AW.rseq ?_
      try simp only [wm, ↓wk, ↓wl, nq, evV, ↓reduceIte, sevalprocAttr]
      refine AW.bend ?_
      refine AW.iter H ((Le.tz [] [0, 1, 2, 3, 11] (by simp only [f23_L1c, wm, wmr, rrm, ↓wk, ↓wl, evV, ↓reduceIte, sevalprocAttr] <;> rfl))) ?_ <;> clear H
      rintro a_884 x_ st0_ H hst_
      rw [f23_L1c] at hst_
      simp only [f23_L1] at H
      subst hst_
      refine AW.sseq ?_
      refine AW.rseq ?_
      try simp only [wm, ↓wk, ↓wl, nq, evV, ↓reduceIte, sevalprocAttr]
      refine AW.ifc H (by rfl) ?_ ?_ <;> clear H <;> intro H
      ·refine AW.skip ?_
       refine seqQ.norm ?_
       refine AW.bseq ?_
       refine AW.rseq ?_
       try simp only [wm, ↓wk, ↓wl, nq, evV, ↓reduceIte, sevalprocAttr]
       refine evTs_pure hFn H (fun _ h => f56_ok h) (by rfl) (by rfl) (by rfl) (by rfl) (fun _ => rfl) ?_ <;> clear H <;> intro r_887 H
       try simp only [eL, wm, ↓wk, ↓wl, nq, evV, ↓reduceIte, sevalprocAttr]
       refine AW.ifc H (by rfl) ?_ ?_ <;> clear H <;> intro H
       ·refine AW.rseq ?_
        try simp only [wm, ↓wk, ↓wl, nq, evV, ↓reduceIte, sevalprocAttr]
        refine AW.ret ?_
        refine blkQ.ret ?_
        refine loopQ.ret H ?_ <;> clear H <;> intro H
        try dsimp only at H
        refine blk0.ret ?_
        refine seqQ.ret ?_
        cases H
        exact hQ _ _ _ _ (.inr rfl) (by simp only [resVs, omap, resV, wm, ↓wk, ↓wl, nq, evV, ↓reduceIte, sevalprocAttr]; rfl) (hand_plain (by rfl)) (by first | exact Or.inl rfl | exact Or.inr rfl)
       ·refine AW.skip ?_
        refine blkQ.norm ?_
        refine AW.rend ?_
        try simp only [wm, ↓wk, ↓wl, nq, evV, ↓reduceIte, sevalprocAttr]
        exact loopQ.next H ((Le.tz [] [0, 1, 2, 3, 11] (by simp only [f23_L1c, wm, wmr, rrm, ↓wk, ↓wl, evV, ↓reduceIte, sevalprocAttr] <;> rfl)))
      ·refine AW.exit ?_
       refine seqQ.exit ?_
       refine loopQ.exit H ?_ <;> clear H <;> intro H
       try dsimp only at H
       refine blk0.here ?_
       refine seqQ.norm ?_
       refine AW.rseq ?_
       try simp only [wm, ↓wk, ↓wl, nq, evV, ↓reduceIte, sevalprocAttr]
       refine AW.ret ?_
       cases H
       exact hQ _ _ _ _ (.inr rfl) (by simp only [resVs, omap, resV, wm, ↓wk, ↓wl, nq, evV, ↓reduceIte, sevalprocAttr]; rfl) (hand_plain (by rfl)) (by first | exact Or.inl rfl | exact Or.inr rfl)
noncomputable def f25_L1 (l_890 : (List ApiFixture)) (profiles_891 : (List ApiProfile)) (universe_892 : Int) : Lp (Int × Int) (Int) where
  body := fun (n_899, a_900) => (if (decide (a_900 ≤ 512)) = true then (f55 l_890 profiles_891 universe_892 a_900).bind fun r_903 => (if (decide (0 ≤ r_903)) = true then (some (.next ((IntKind.i64.wrap (n_899 + 1)), (IntKind.i64.wrap (a_900 + 1))))) else (some (.next (n_899, (IntKind.i64.wrap (a_900 + 1)))))) else (some (.brk n_899)))
  cst := fun (n_899, a_900) => ⟨put (put (put (put (put (fun _ => .junk) 10 (.int .i64 a_900)) 9 (.int .i64 n_899)) 2 (.int .i64 universe_892)) 1 (.sl 4 false (profiles_891.map eApiProfile))) 0 (.sl 7 false (l_890.map eApiFixture)), []⟩
theorem f25_L1c (l_890 : (List ApiFixture)) (profiles_891 : (List ApiProfile)) (universe_892 : Int) (n_899 : Int) (a_900 : Int) : (f25_L1 l_890 profiles_891 universe_892).cst (n_899, a_900) = ⟨put (put (put (put (put (fun _ => .junk) 10 (.int .i64 a_900)) 9 (.int .i64 n_899)) 2 (.int .i64 universe_892)) 1 (.sl 4 false (profiles_891.map eApiProfile))) 0 (.sl 7 false (l_890.map eApiFixture)), []⟩ := rfl
def c25_0 : C := .cond (.t 15) (.seq (.reg [iI 16 (.mv (.t 8)), iI 6 (.mv (.c (.int .i64 0))), iI 7 (.mv (.t 16))]) .ret) (.skip)
def c25_1 : C := .seq (.reg [iI 14 (.mv (.t 8)), iI 15 (.bin .neq (.t 14) (.c (.int .i64 0)))]) c25_0
def c25_2 : C := .cond (.t 18) (.skip) (.exit 0)
def c25_3 : C := .cond (.t 26) (.reg [iI 27 (.mv (.t 9)), iI 28 (.bin .add (.t 27) (.c (.int .i64 1))), iI 9 (.mv (.t 28))]) (.skip)
def c25_4 : C := .reg [iI 19 (.mv (.t 10)), iI 20 (.bin .add (.t 19) (.c (.int .i64 1))), iI 10 (.mv (.t 20))]
def c25_5 : C := .seq (.block 1 (.seq (.reg [iI 21 (.mv (.t 0)), iI 22 (.mv (.t 1)), iI 23 (.mv (.t 2)), iI 24 (.mv (.t 10)), iI 25 (.call (.c (.fn 55 [])) [(.t 21), (.t 22), (.t 23), (.t 24)]), iI 26 (.bin .geq (.t 25) (.c (.int .i64 0)))]) c25_3)) c25_4
def c25_6 : C := .block 0 (.loop (.seq (.seq (.reg [iI 17 (.mv (.t 10)), iI 18 (.bin .leq (.t 17) (.c (.int .i64 512)))]) c25_2) c25_5))
def c25_7 : C := .seq (.reg [iI 29 (.mv (.t 9)), iI 6 (.mv (.t 29)), iI 7 (.mv (.c (.int .i64 0)))]) .ret
def c25_8 : C := .seq (.seq (.reg [iI 10 (.mv (.c (.int .i64 1)))]) c25_6) c25_7
def c25_9 : C := .seq (.reg [iI 9 (.mv (.c (.int .i64 0)))]) c25_8
def c25_10 : C := .seq (.seq (.reg [iI 11 (.mv (.t 0)), iI 12 (.mv (.t 1)), iI 13 (.call (.c (.fn 17 [])) [(.t 11), (.t 12)]), iI 8 (.mv (.t 13))]) c25_1) c25_9
def ir25 : C := .seq (.reg [iI 6 (.mv (.c (.int .i64 0))), iI 7 (.mv (.c (.int .i64 0)))]) c25_10
theorem fd25 : fd? Try.prog 25 = some (30, [.slot 6, .slot 7], ir25) := by kernel_rfl
noncomputable def f25 (l_890 : (List ApiFixture)) (profiles_891 : (List ApiProfile)) (universe_892 : Int) : Option (Int × Int) :=
  (f17 l_890 profiles_891).bind fun r_894 => (if (decide (r_894 ≠ 0)) = true then (some (0, r_894)) else (Lp.run (f25_L1 l_890 profiles_891 universe_892) (0, 1)).bind fun n_902 => (some (n_902, 0)))
theorem f25_ok {l_890 : (List ApiFixture)} {profiles_891 : (List ApiProfile)} {universe_892 : Int} {r_ : Int × Int} (H : f25 l_890 profiles_891 universe_892 = some r_) : Pure Try.prog 25 [.sl 7 false (l_890.map eApiFixture), .sl 4 false (profiles_891.map eApiProfile), .int .i64 universe_892] (· = .tup [.int .i64 r_.1, .int .i64 r_.2]) := by
 refine Pure.walk3 fd25 none (Nat.le_of_ble_eq_true rfl) (by rfl) fun Q hQ => ?_
 simp only [f25] at H
 refine AW.rseq ?_
 try simp only [wm, ↓wk, ↓wl, nq, evV, ↓reduceIte, sevalprocAttr]
 refine AW.sseq ?_
 refine AW.rseq ?_
 try simp only [wm, ↓wk, ↓wl, nq, evV, ↓reduceIte, sevalprocAttr]
 refine evTs_pure hFn H (fun _ h => f17_ok h) (by rfl) (by rfl) (by rfl) (by rfl) (fun _ => rfl) ?_ <;> clear H <;> intro r_894 H
 try simp only [eL, wm, ↓wk, ↓wl, nq, evV, ↓reduceIte, sevalprocAttr]
 refine AW.rseq ?_
 try simp only [wm, ↓wk, ↓wl, nq, evV, ↓reduceIte, sevalprocAttr]
 refine AW.ifc H (by rfl) ?_ ?_ <;> clear H <;> intro H
 ·refine AW.rseq ?_
  try simp only [wm, ↓wk, ↓wl, nq, evV, ↓reduceIte, sevalprocAttr]
  refine AW.ret ?_
  refine seqQ.ret ?_
  cases H
  exact hQ _ _ _ _ (.inr rfl) (by simp only [resVs, omap, resV, wm, ↓wk, ↓wl, nq, evV, ↓reduceIte, sevalprocAttr]; rfl) (hand_plain (by rfl)) (by first | exact Or.inl rfl | exact Or.inr rfl)
 ·refine AW.skip ?_
  refine seqQ.norm ?_
  refine AW.rseq ?_
  try simp only [wm, ↓wk, ↓wl, nq, evV, ↓reduceIte, sevalprocAttr]
  refine AW.sseq ?_
  refine AW.rseq ?_
  try simp only [wm, ↓wk, ↓wl, nq, evV, ↓reduceIte, sevalprocAttr]
  refine AW.bend ?_
  refine AW.iter H ((Le.tz [] [0, 1, 2, 9, 10] (by simp only [f25_L1c, wm, wmr, rrm, ↓wk, ↓wl, evV, ↓reduceIte, sevalprocAttr] <;> rfl))) ?_ <;> clear H
  rintro ⟨n_899, a_900⟩ x_ st0_ H hst_
  rw [f25_L1c] at hst_
  simp only [f25_L1] at H
  subst hst_
  refine AW.sseq ?_
  refine AW.rseq ?_
  try simp only [wm, ↓wk, ↓wl, nq, evV, ↓reduceIte, sevalprocAttr]
  refine AW.ifc H (by rfl) ?_ ?_ <;> clear H <;> intro H
  ·refine AW.skip ?_
   refine seqQ.norm ?_
   refine AW.bseq ?_
   refine AW.rseq ?_
   try simp only [wm, ↓wk, ↓wl, nq, evV, ↓reduceIte, sevalprocAttr]
   refine evTs_pure hFn H (fun _ h => f55_ok h) (by rfl) (by rfl) (by rfl) (by rfl) (fun _ => rfl) ?_ <;> clear H <;> intro r_903 H
   try simp only [eL, wm, ↓wk, ↓wl, nq, evV, ↓reduceIte, sevalprocAttr]
   refine AW.ifc H (by rfl) ?_ ?_ <;> clear H <;> intro H
   ·refine AW.rend ?_
    try simp only [wm, ↓wk, ↓wl, nq, evV, ↓reduceIte, sevalprocAttr]
    refine blkQ.norm ?_
    refine AW.rend ?_
    try simp only [wm, ↓wk, ↓wl, nq, evV, ↓reduceIte, sevalprocAttr]
    exact loopQ.next H ((Le.tz [] [0, 1, 2, 9, 10] (by simp only [f25_L1c, wm, wmr, rrm, ↓wk, ↓wl, evV, ↓reduceIte, sevalprocAttr] <;> rfl)))
   ·refine AW.skip ?_
    refine blkQ.norm ?_
    refine AW.rend ?_
    try simp only [wm, ↓wk, ↓wl, nq, evV, ↓reduceIte, sevalprocAttr]
    exact loopQ.next H ((Le.tz [] [0, 1, 2, 9, 10] (by simp only [f25_L1c, wm, wmr, rrm, ↓wk, ↓wl, evV, ↓reduceIte, sevalprocAttr] <;> rfl)))
  ·refine AW.exit ?_
   refine seqQ.exit ?_
   refine loopQ.exit H ?_ <;> clear H <;> intro H
   try dsimp only at H
   refine blk0.here ?_
   refine seqQ.norm ?_
   refine AW.rseq ?_
   try simp only [wm, ↓wk, ↓wl, nq, evV, ↓reduceIte, sevalprocAttr]
   refine AW.ret ?_
   cases H
   exact hQ _ _ _ _ (.inr rfl) (by simp only [resVs, omap, resV, wm, ↓wk, ↓wl, nq, evV, ↓reduceIte, sevalprocAttr]; rfl) (hand_plain (by rfl)) (by first | exact Or.inl rfl | exact Or.inr rfl)
def c4_0 : C := .cond (.t 26) (.seq (.reg [iI 27 (.call (.c (.fn 11 [])) []), iI 6 (.mv (.t 27))]) .ret) (.skip)
def c4_1 : C := .cond (.t 73) (.seq (.reg [iI 6 (.mv (.c (.bool false)))]) .ret) (.skip)
def c4_2 : C := .seq (.reg [iI 110 (.mv (.t 15)), iI 111 (.mv (.t 17)), iI 112 (.bin .eql (.t 110) (.t 111)), iI 113 (.mv (.t 112)), iG (some 114) 113 true (.mv (.t 16)), iG (some 115) 113 true (.mv (.t 18)), iG (some 116) 113 true (.bin .eql (.t 114) (.t 115)), iI 117 (.pick (.t 113) (.t 116) (.c (.bool false))), iI 118 (.mv (.t 117)), iG (some 119) 118 true (.mv (.t 19)), iG (some 120) 118 true (.mv (.t 21)), iG (some 121) 118 true (.bin .eql (.t 119) (.t 120)), iI 122 (.pick (.t 118) (.t 121) (.c (.bool false))), iI 123 (.mv (.t 122)), iG (some 124) 123 true (.mv (.t 20)), iG (some 125) 123 true (.mv (.t 22)), iG (some 126) 123 true (.bin .eql (.t 124) (.t 125)), iI 127 (.pick (.t 123) (.t 126) (.c (.bool false))), iI 6 (.mv (.t 127))]) .ret
def c4_3 : C := .seq (.reg [iI 103 (.mv (.t 0)), iI 104 (.mv (.t 1)), iI 105 (.faddr 0 (.t 5)), iI 106 (.load 0 (.t 105)), iI 107 (.call (.c (.fn 25 [])) [(.t 103), (.t 104), (.t 106)]), iI 102 (.mv (.t 107)), iI 108 (.ext (.t 102) 0), iI 109 (.ext (.t 102) 1), iI 21 (.mv (.t 108)), iI 22 (.mv (.t 109))]) c4_2
def c4_4 : C := .seq (.reg [iI 95 (.mv (.t 0)), iI 96 (.mv (.t 1)), iI 97 (.faddr 0 (.t 5)), iI 98 (.load 0 (.t 97)), iI 99 (.call (.c (.fn 24 [])) [(.t 95), (.t 96), (.t 98)]), iI 94 (.mv (.t 99)), iI 100 (.ext (.t 94) 0), iI 101 (.ext (.t 94) 1), iI 19 (.mv (.t 100)), iI 20 (.mv (.t 101))]) c4_3
def c4_5 : C := .seq (.reg [iI 85 (.mv (.t 0)), iI 86 (.mv (.t 1)), iI 87 (.faddr 0 (.t 5)), iI 88 (.load 0 (.t 87)), iI 89 (.faddr 2 (.t 5)), iI 90 (.load 0 (.t 89)), iI 91 (.call (.c (.fn 23 [])) [(.t 85), (.t 86), (.t 88), (.t 90)]), iI 84 (.mv (.t 91)), iI 92 (.ext (.t 84) 0), iI 93 (.ext (.t 84) 1), iI 17 (.mv (.t 92)), iI 18 (.mv (.t 93))]) c4_4
def c4_6 : C := .seq (.reg [iI 75 (.mv (.t 0)), iI 76 (.mv (.t 1)), iI 77 (.faddr 0 (.t 5)), iI 78 (.load 0 (.t 77)), iI 79 (.faddr 2 (.t 5)), iI 80 (.load 0 (.t 79)), iI 81 (.call (.c (.fn 22 [])) [(.t 75), (.t 76), (.t 78), (.t 80)]), iI 74 (.mv (.t 81)), iI 82 (.ext (.t 74) 0), iI 83 (.ext (.t 74) 1), iI 15 (.mv (.t 82)), iI 16 (.mv (.t 83))]) c4_5
def c4_7 : C := .seq (.seq (.reg [iI 52 (.call (.c (.fn 11 [])) []), iI 53 (.un .not (.t 52)), iI 54 (.mv (.t 53)), iG (some 55) 54 false (.mv (.t 7)), iG (some 56) 54 false (.mv (.t 11)), iG (some 57) 54 false (.bin .neq (.t 55) (.t 56)), iI 58 (.pick (.t 54) (.c (.bool true)) (.t 57)), iI 59 (.mv (.t 58)), iG (some 60) 59 false (.mv (.t 8)), iG (some 61) 59 false (.mv (.t 12)), iG (some 62) 59 false (.bin .neq (.t 60) (.t 61)), iI 63 (.pick (.t 59) (.c (.bool true)) (.t 62)), iI 64 (.mv (.t 63)), iG (some 65) 64 false (.mv (.t 9)), iG (some 66) 64 false (.mv (.t 13)), iG (some 67) 64 false (.binb .neq (.t 65) (.t 66)), iI 68 (.pick (.t 64) (.c (.bool true)) (.t 67)), iI 69 (.mv (.t 68)), iG (some 70) 69 false (.mv (.t 10)), iG (some 71) 69 false (.mv (.t 14)), iG (some 72) 69 false (.bin .neq (.t 70) (.t 71)), iI 73 (.pick (.t 69) (.c (.bool true)) (.t 72))]) c4_1) c4_6
def c4_8 : C := .seq (.reg [iI 41 (.mv (.t 0)), iI 42 (.mv (.t 1)), iI 43 (.faddr 0 (.t 5)), iI 44 (.load 0 (.t 43)), iI 45 (.faddr 1 (.t 5)), iI 46 (.load 0 (.t 45)), iI 47 (.call (.c (.fn 21 [])) [(.t 41), (.t 42), (.t 44), (.t 46)]), iI 40 (.mv (.t 47)), iI 48 (.ext (.t 40) 0), iI 49 (.ext (.t 40) 1), iI 50 (.ext (.t 40) 2), iI 51 (.ext (.t 40) 3), iI 11 (.mv (.t 48)), iI 12 (.mv (.t 49)), iI 13 (.mv (.t 50)), iI 14 (.mv (.t 51))]) c4_7
def c4_9 : C := .seq (.reg [iI 29 (.mv (.t 0)), iI 30 (.mv (.t 1)), iI 31 (.faddr 0 (.t 5)), iI 32 (.load 0 (.t 31)), iI 33 (.faddr 1 (.t 5)), iI 34 (.load 0 (.t 33)), iI 35 (.call (.c (.fn 20 [])) [(.t 29), (.t 30), (.t 32), (.t 34)]), iI 28 (.mv (.t 35)), iI 36 (.ext (.t 28) 0), iI 37 (.ext (.t 28) 1), iI 38 (.ext (.t 28) 2), iI 39 (.ext (.t 28) 3), iI 7 (.mv (.t 36)), iI 8 (.mv (.t 37)), iI 9 (.mv (.t 38)), iI 10 (.mv (.t 39))]) c4_8
def c4_10 : C := .seq (.seq (.reg [iI 23 (.mv (.t 0)), iI 24 (.mv (.t 1)), iI 25 (.call (.c (.fn 10 [])) [(.t 23), (.t 24)]), iI 26 (.un .not (.t 25))]) c4_0) c4_9
def ir4 : C := .seq (.reg [iI 5 (.box (.t 2)), iI 6 (.mv (.c (.bool false)))]) c4_10
theorem fd4 : fd? Try.prog 4 = some (128, [.slot 6], ir4) := by kernel_rfl
noncomputable def f4 (l_824 : (List ApiFixture)) (profiles_825 : (List ApiProfile)) (x_826 : Law12Slots) : Option (Bool) :=
  (f10 l_824 profiles_825).bind fun r_829 => (if (!r_829) = true then (f11).bind fun r_830 => (some r_830) else (f20 l_824 profiles_825 x_826.fUniverse x_826.fAddress).bind fun r_831 => (f21 l_824 profiles_825 x_826.fUniverse x_826.fAddress).bind fun r_860 => (f11).bind fun r_862 => (if (!r_862) = true then (some false) else (if (decide (r_831.1 ≠ r_860.1)) = true then (some false) else (if (decide (r_831.2.1 ≠ r_860.2.1)) = true then (some false) else (if (!(r_831.2.2.1 == r_860.2.2.1)) = true then (some false) else (if (decide (r_831.2.2.2 ≠ r_860.2.2.2)) = true then (some false) else (f22 l_824 profiles_825 x_826.fUniverse x_826.fSize).bind fun r_863 => (f23 l_824 profiles_825 x_826.fUniverse x_826.fSize).bind fun r_888 => (f24 l_824 profiles_825 x_826.fUniverse).bind fun r_889 => (f25 l_824 profiles_825 x_826.fUniverse).bind fun r_904 => (if (decide (r_863.1 = r_888.1)) = true then (if (decide (r_863.2 = r_888.2)) = true then (if (decide (r_889.1 = r_904.1)) = true then (some (decide (r_889.2 = r_904.2))) else (some false)) else (some false)) else (some false))))))))
theorem f4_ok {l_824 : (List ApiFixture)} {profiles_825 : (List ApiProfile)} {x_826 : Law12Slots} {r_ : Bool} (H : f4 l_824 profiles_825 x_826 = some r_) : Pure Try.prog 4 [.sl 7 false (l_824.map eApiFixture), .sl 4 false (profiles_825.map eApiProfile), .agg [.int .i64 x_826.fUniverse, .int .i64 x_826.fAddress, .int .i64 x_826.fSize]] (· = .bool r_) := by
 refine Pure.walk3 fd4 none (Nat.le_of_ble_eq_true rfl) (by rfl) fun Q hQ => ?_
 simp only [f4] at H
 refine AW.rseq ?_
 try simp only [wm, ↓wk, ↓wl, nq, evV, ↓reduceIte, sevalprocAttr]
 refine AW.sseq ?_
 refine AW.rseq ?_
 try simp only [wm, ↓wk, ↓wl, nq, evV, ↓reduceIte, sevalprocAttr]
 refine evTs_pure hFn H (fun _ h => f10_ok h) (by rfl) (by rfl) (by rfl) (by rfl) (fun _ => rfl) ?_ <;> clear H <;> intro r_829 H
 try simp only [eL, wm, ↓wk, ↓wl, nq, evV, ↓reduceIte, sevalprocAttr]
 refine AW.ifc H (by rfl) ?_ ?_ <;> clear H <;> intro H
 ·refine AW.rseq ?_
  try simp only [wm, ↓wk, ↓wl, nq, evV, ↓reduceIte, sevalprocAttr]
  refine evTs_pure hFn H (fun _ h => f11_ok h) (by rfl) (by rfl) (by rfl) (by rfl) (fun _ => rfl) ?_ <;> clear H <;> intro r_830 H
  try simp only [eL, wm, ↓wk, ↓wl, nq, evV, ↓reduceIte, sevalprocAttr]
  refine AW.ret ?_
  refine seqQ.ret ?_
  cases H
  exact hQ _ _ _ _ (.inr rfl) (by simp only [resVs, omap, resV, wm, ↓wk, ↓wl, nq, evV, ↓reduceIte, sevalprocAttr]; rfl) (hand_plain (by rfl)) (by first | exact Or.inl rfl | exact Or.inr rfl)
 ·refine AW.skip ?_
  refine seqQ.norm ?_
  refine AW.rseq ?_
  try simp only [wm, ↓wk, ↓wl, nq, evV, ↓reduceIte, sevalprocAttr]
  refine evTs_pure hFn H (fun _ h => f20_ok h) (by rfl) (by rfl) (by rfl) (by rfl) (fun _ => rfl) ?_ <;> clear H <;> intro r_831 H
  try simp only [eL, wm, ↓wk, ↓wl, nq, evV, ↓reduceIte, sevalprocAttr]
  refine AW.rseq ?_
  try simp only [wm, ↓wk, ↓wl, nq, evV, ↓reduceIte, sevalprocAttr]
  refine evTs_pure hFn H (fun _ h => f21_ok h) (by rfl) (by rfl) (by rfl) (by rfl) (fun _ => rfl) ?_ <;> clear H <;> intro r_860 H
  try simp only [eL, wm, ↓wk, ↓wl, nq, evV, ↓reduceIte, sevalprocAttr]
  refine AW.sseq ?_
  refine AW.rseq ?_
  try simp only [wm, ↓wk, ↓wl, nq, evV, ↓reduceIte, sevalprocAttr]
  refine evTs_pure hFn H (fun _ h => f11_ok h) (by rfl) (by rfl) (by rfl) (by rfl) (fun _ => rfl) ?_ <;> clear H <;> intro r_862 H
  try simp only [eL, wm, ↓wk, ↓wl, nq, evV, ↓reduceIte, sevalprocAttr]
  refine evTs_ifg H (by rfl) ?_ ?_ <;> clear H <;> intro H
  ·try simp only [wm, ↓wk, ↓wl, nq, evV, ↓reduceIte, sevalprocAttr]
   refine AW.ift (by rfl) ?_
   refine AW.rseq ?_
   try simp only [wm, ↓wk, ↓wl, nq, evV, ↓reduceIte, sevalprocAttr]
   refine AW.ret ?_
   refine seqQ.ret ?_
   cases H
   exact hQ _ _ _ _ (.inr rfl) (by simp only [resVs, omap, resV, wm, ↓wk, ↓wl, nq, evV, ↓reduceIte, sevalprocAttr]; rfl) (hand_plain (by rfl)) (by first | exact Or.inl rfl | exact Or.inr rfl)
  ·try simp only [wm, ↓wk, ↓wl, nq, evV, ↓reduceIte, sevalprocAttr]
   refine evTs_ifg H (by rfl) ?_ ?_ <;> clear H <;> intro H
   ·try simp only [wm, ↓wk, ↓wl, nq, evV, ↓reduceIte, sevalprocAttr]
    refine AW.ift (by rfl) ?_
    refine AW.rseq ?_
    try simp only [wm, ↓wk, ↓wl, nq, evV, ↓reduceIte, sevalprocAttr]
    refine AW.ret ?_
    refine seqQ.ret ?_
    cases H
    exact hQ _ _ _ _ (.inr rfl) (by simp only [resVs, omap, resV, wm, ↓wk, ↓wl, nq, evV, ↓reduceIte, sevalprocAttr]; rfl) (hand_plain (by rfl)) (by first | exact Or.inl rfl | exact Or.inr rfl)
   ·try simp only [wm, ↓wk, ↓wl, nq, evV, ↓reduceIte, sevalprocAttr]
    refine evTs_ifg H (by rfl) ?_ ?_ <;> clear H <;> intro H
    ·try simp only [wm, ↓wk, ↓wl, nq, evV, ↓reduceIte, sevalprocAttr]
     refine AW.ift (by rfl) ?_
     refine AW.rseq ?_
     try simp only [wm, ↓wk, ↓wl, nq, evV, ↓reduceIte, sevalprocAttr]
     refine AW.ret ?_
     refine seqQ.ret ?_
     cases H
     exact hQ _ _ _ _ (.inr rfl) (by simp only [resVs, omap, resV, wm, ↓wk, ↓wl, nq, evV, ↓reduceIte, sevalprocAttr]; rfl) (hand_plain (by rfl)) (by first | exact Or.inl rfl | exact Or.inr rfl)
    ·try simp only [wm, ↓wk, ↓wl, nq, evV, ↓reduceIte, sevalprocAttr]
     refine evTs_ifg H (by rfl) ?_ ?_ <;> clear H <;> intro H
     ·try simp only [wm, ↓wk, ↓wl, nq, evV, ↓reduceIte, sevalprocAttr]
      refine AW.ift (by rfl) ?_
      refine AW.rseq ?_
      try simp only [wm, ↓wk, ↓wl, nq, evV, ↓reduceIte, sevalprocAttr]
      refine AW.ret ?_
      refine seqQ.ret ?_
      cases H
      exact hQ _ _ _ _ (.inr rfl) (by simp only [resVs, omap, resV, wm, ↓wk, ↓wl, nq, evV, ↓reduceIte, sevalprocAttr]; rfl) (hand_plain (by rfl)) (by first | exact Or.inl rfl | exact Or.inr rfl)
     ·try simp only [wm, ↓wk, ↓wl, nq, evV, ↓reduceIte, sevalprocAttr]
      refine AW.ifc H (by rfl) ?_ ?_ <;> clear H <;> intro H
      ·refine AW.rseq ?_
       try simp only [wm, ↓wk, ↓wl, nq, evV, ↓reduceIte, sevalprocAttr]
       refine AW.ret ?_
       refine seqQ.ret ?_
       cases H
       exact hQ _ _ _ _ (.inr rfl) (by simp only [resVs, omap, resV, wm, ↓wk, ↓wl, nq, evV, ↓reduceIte, sevalprocAttr]; rfl) (hand_plain (by rfl)) (by first | exact Or.inl rfl | exact Or.inr rfl)
      ·refine AW.skip ?_
       refine seqQ.norm ?_
       refine AW.rseq ?_
       try simp only [wm, ↓wk, ↓wl, nq, evV, ↓reduceIte, sevalprocAttr]
       refine evTs_pure hFn H (fun _ h => f22_ok h) (by rfl) (by rfl) (by rfl) (by rfl) (fun _ => rfl) ?_ <;> clear H <;> intro r_863 H
       try simp only [eL, wm, ↓wk, ↓wl, nq, evV, ↓reduceIte, sevalprocAttr]
       refine AW.rseq ?_
       try simp only [wm, ↓wk, ↓wl, nq, evV, ↓reduceIte, sevalprocAttr]
       refine evTs_pure hFn H (fun _ h => f23_ok h) (by rfl) (by rfl) (by rfl) (by rfl) (fun _ => rfl) ?_ <;> clear H <;> intro r_888 H
       try simp only [eL, wm, ↓wk, ↓wl, nq, evV, ↓reduceIte, sevalprocAttr]
       refine AW.rseq ?_
       try simp only [wm, ↓wk, ↓wl, nq, evV, ↓reduceIte, sevalprocAttr]
       refine evTs_pure hFn H (fun _ h => f24_ok h) (by rfl) (by rfl) (by rfl) (by rfl) (fun _ => rfl) ?_ <;> clear H <;> intro r_889 H
       try simp only [eL, wm, ↓wk, ↓wl, nq, evV, ↓reduceIte, sevalprocAttr]
       refine AW.rseq ?_
       try simp only [wm, ↓wk, ↓wl, nq, evV, ↓reduceIte, sevalprocAttr]
       refine evTs_pure hFn H (fun _ h => f25_ok h) (by rfl) (by rfl) (by rfl) (by rfl) (fun _ => rfl) ?_ <;> clear H <;> intro r_904 H
       try simp only [eL, wm, ↓wk, ↓wl, nq, evV, ↓reduceIte, sevalprocAttr]
       refine AW.rseq ?_
       try simp only [wm, ↓wk, ↓wl, nq, evV, ↓reduceIte, sevalprocAttr]
       refine evTs_ifg H (by rfl) ?_ ?_ <;> clear H <;> intro H
       ·try simp only [wm, ↓wk, ↓wl, nq, evV, ↓reduceIte, sevalprocAttr]
        refine evTs_ifg H (by rfl) ?_ ?_ <;> clear H <;> intro H
        ·try simp only [wm, ↓wk, ↓wl, nq, evV, ↓reduceIte, sevalprocAttr]
         refine evTs_ifg H (by rfl) ?_ ?_ <;> clear H <;> intro H
         ·try simp only [wm, ↓wk, ↓wl, nq, evV, ↓reduceIte, sevalprocAttr]
          refine AW.ret ?_
          cases H
          exact hQ _ _ _ _ (.inr rfl) (by simp only [resVs, omap, resV, wm, ↓wk, ↓wl, nq, evV, ↓reduceIte, sevalprocAttr]; rfl) (hand_plain (by rfl)) (by first | exact Or.inl rfl | exact Or.inr rfl)
         ·try simp only [wm, ↓wk, ↓wl, nq, evV, ↓reduceIte, sevalprocAttr]
          refine AW.ret ?_
          cases H
          exact hQ _ _ _ _ (.inr rfl) (by simp only [resVs, omap, resV, wm, ↓wk, ↓wl, nq, evV, ↓reduceIte, sevalprocAttr]; rfl) (hand_plain (by rfl)) (by first | exact Or.inl rfl | exact Or.inr rfl)
        ·try simp only [wm, ↓wk, ↓wl, nq, evV, ↓reduceIte, sevalprocAttr]
         refine AW.ret ?_
         cases H
         exact hQ _ _ _ _ (.inr rfl) (by simp only [resVs, omap, resV, wm, ↓wk, ↓wl, nq, evV, ↓reduceIte, sevalprocAttr]; rfl) (hand_plain (by rfl)) (by first | exact Or.inl rfl | exact Or.inr rfl)
       ·try simp only [wm, ↓wk, ↓wl, nq, evV, ↓reduceIte, sevalprocAttr]
        refine AW.ret ?_
        cases H
        exact hQ _ _ _ _ (.inr rfl) (by simp only [resVs, omap, resV, wm, ↓wk, ↓wl, nq, evV, ↓reduceIte, sevalprocAttr]; rfl) (hand_plain (by rfl)) (by first | exact Or.inl rfl | exact Or.inr rfl)
end Go.Proofs.Ythikbfhdebaceaa
