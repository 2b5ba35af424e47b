import Derived.Test.YthikbfhdebaceaaX2
import Derived.Test.YthikbfhdebaceaaM5
import Derived.Test.YthikbfhdebaceaaM6
import Derived.Test.YthikbfhdebaceaaProg
import Derived.KernelRfl
namespace Go.Proofs.Ythikbfhdebaceaa
open Go Go.Ab

set_option maxHeartbeats 1000000
set_option maxRecDepth 4000
set_option linter.unusedSimpArgs false
set_option linter.unusedVariables false
def c29_0 : C := .seq (.reg [iI 5 (.mv (.t 0)), iI 6 (.mv (.t 1)), iI 7 (.call (.c (.fn 10 [])) [(.t 5), (.t 6)]), iI 8 (.mv (.t 7)), iG (some 9) 8 true (.mv (.t 0)), iG (some 10) 8 true (.mv (.t 1)), iG (some 11) 8 true (.call (.c (.fn 17 [])) [(.t 9), (.t 10)]), iG (some 12) 8 true (.bin .eql (.t 11) (.c (.int .i64 0))), iI 13 (.pick (.t 8) (.t 12) (.c (.bool false))), iI 4 (.mv (.t 13))]) .ret
def ir29 : C := .seq (.reg [iI 4 (.mv (.c (.bool false)))]) c29_0
theorem fd29 : fd? Try.prog 29 = some (14, [.slot 4], ir29) := by kernel_rfl
noncomputable def f29 (l_809 : (List ApiFixture)) (profiles_810 : (List ApiProfile)) : Option (Bool) :=
  (f10 l_809 profiles_810).bind fun r_811 => (if r_811 = true then (f17 l_809 profiles_810).bind fun r_812 => (some (decide (r_812 = 0))) else (some false))
theorem f29_ok {l_809 : (List ApiFixture)} {profiles_810 : (List ApiProfile)} {r_ : Bool} (H : f29 l_809 profiles_810 = some r_) : Pure Try.prog 29 [.sl 7 false (l_809.map eApiFixture), .sl 4 false (profiles_810.map eApiProfile)] (· = .bool r_) := by
 refine Pure.walk3 fd29 none (Nat.le_of_ble_eq_true rfl) (by rfl) fun Q hQ => ?_
 simp only [f29] at H
 refine AW.rseq ?_
 try simp only [wm, ↓wk, ↓wl, nq, evV, ↓reduceIte, sevalprocAttr]
 refine AW.rseq ?_
 try simp only [wm, ↓wk, ↓wl, nq, evV, ↓reduceIte, sevalprocAttr]
 refine evTs_pure hFn H (fun _ h => f10_ok h) (by rfl) (by rfl) (by rfl) (by rfl) (fun _ => rfl) ?_ <;> clear H <;> intro r_811 H
 try simp only [eL, wm, ↓wk, ↓wl, nq, evV, ↓reduceIte, sevalprocAttr]
 refine evTs_ifg H (by rfl) ?_ ?_ <;> clear H <;> intro H
 ·try simp only [wm, ↓wk, ↓wl, nq, evV, ↓reduceIte, sevalprocAttr]
  refine evTs_pure hFn H (fun _ h => f17_ok h) (by rfl) (by rfl) (by rfl) (by rfl) (fun _ => rfl) ?_ <;> clear H <;> intro r_812 H
  try simp only [eL, wm, ↓wk, ↓wl, nq, evV, ↓reduceIte, sevalprocAttr]
  refine AW.ret ?_
  cases H
  exact hQ _ _ _ _ (.inr rfl) (by simp only [resVs, omap, resV, wm, ↓wk, ↓wl, nq, evV, ↓reduceIte, sevalprocAttr]; rfl) (hand_plain (by rfl)) (by first | exact Or.inl rfl | exact Or.inr rfl)
 ·try simp only [wm, ↓wk, ↓wl, nq, evV, ↓reduceIte, sevalprocAttr]
  refine AW.ret ?_
  cases H
  exact hQ _ _ _ _ (.inr rfl) (by simp only [resVs, omap, resV, wm, ↓wk, ↓wl, nq, evV, ↓reduceIte, sevalprocAttr]; rfl) (hand_plain (by rfl)) (by first | exact Or.inl rfl | exact Or.inr rfl)
noncomputable def f35_L1 (l_837 : (List ApiFixture)) (channel_838 : Int) (part_839 : Int) : Lp (Int) ((Unit) ⊕ (Int)) where
  body := fun i_845 => (if (decide (i_845 < ((l_837.length : Nat) : Int))) = true then (at? l_837 i_845).bind fun x_849 => (if (decide (x_849.fChannel = channel_838)) = true then (at? l_837 i_845).bind fun x_850 => (if (decide (x_850.fPart = part_839)) = true then (some (.brk (Sum.inr i_845))) else (some (.next (IntKind.i64.wrap (i_845 + 1))))) else (some (.next (IntKind.i64.wrap (i_845 + 1))))) else (some (.brk (Sum.inl ()))))
  cst := fun i_845 => ⟨put (put (put (put (fun _ => .junk) 7 (.int .i64 i_845)) 2 (.int .i64 part_839)) 1 (.int .i64 channel_838)) 0 (.sl 7 false (l_837.map eApiFixture)), []⟩
theorem f35_L1c (l_837 : (List ApiFixture)) (channel_838 : Int) (part_839 : Int) (i_845 : Int) : (f35_L1 l_837 channel_838 part_839).cst i_845 = ⟨put (put (put (put (fun _ => .junk) 7 (.int .i64 i_845)) 2 (.int .i64 part_839)) 1 (.int .i64 channel_838)) 0 (.sl 7 false (l_837.map eApiFixture)), []⟩ := rfl
def c35_0 : C := .cond (.t 11) (.skip) (.exit 0)
def c35_1 : C := .cond (.t 29) (.seq (.reg [iI 30 (.mv (.t 7)), iI 6 (.mv (.t 30))]) .ret) (.skip)
def c35_2 : C := .reg [iI 12 (.mv (.t 7)), iI 13 (.bin .add (.t 12) (.c (.int .i64 1))), iI 7 (.mv (.t 13))]
def c35_3 : C := .seq (.block 1 (.seq (.reg [iI 14 (.mv (.t 0)), iI 15 (.mv (.t 7)), iI 16 (.iaddr 7 (.t 14) (.t 15)), iI 17 (.faddr 0 (.t 16)), iI 18 (.load 0 (.t 17)), iI 19 (.mv (.t 1)), iI 20 (.bin .eql (.t 18) (.t 19)), iI 21 (.mv (.t 20)), iG (some 22) 21 true (.mv (.t 0)), iG (some 23) 21 true (.mv (.t 7)), iG (some 24) 21 true (.iaddr 7 (.t 22) (.t 23)), iG (some 25) 21 true (.faddr 1 (.t 24)), iG (some 26) 21 true (.load 0 (.t 25)), iG (some 27) 21 true (.mv (.t 2)), iG (some 28) 21 true (.bin .eql (.t 26) (.t 27)), iI 29 (.pick (.t 21) (.t 28) (.c (.bool false)))]) c35_1)) c35_2
def c35_4 : C := .block 0 (.loop (.seq (.seq (.reg [iI 8 (.mv (.t 7)), iI 9 (.mv (.t 0)), iI 10 (.len 0 (.t 9)), iI 11 (.bin .lss (.t 8) (.t 10))]) c35_0) c35_3))
def c35_5 : C := .seq (.reg [iI 6 (.mv (.c (.int .i64 (-1))))]) .ret
def c35_6 : C := .seq (.seq (.reg [iI 7 (.mv (.c (.int .i64 0)))]) c35_4) c35_5
def ir35 : C := .seq (.reg [iI 6 (.mv (.c (.int .i64 0)))]) c35_6
theorem fd35 : fd? Try.prog 35 = some (31, [.slot 6], ir35) := by kernel_rfl
noncomputable def f35 (l_837 : (List ApiFixture)) (channel_838 : Int) (part_839 : Int) : Option (Int) :=
  ((Lp.run (f35_L1 l_837 channel_838 part_839) 0).bind fun r_ => match r_ with | (Sum.inl _) => (some (-1)) | (Sum.inr v_848) => (some v_848))
theorem f35_ok {l_837 : (List ApiFixture)} {channel_838 : Int} {part_839 : Int} {r_ : Int} (H : f35 l_837 channel_838 part_839 = some r_) : Pure Try.prog 35 [.sl 7 false (l_837.map eApiFixture), .int .i64 channel_838, .int .i64 part_839] (· = .int .i64 r_) := by
 refine Pure.walk3 fd35 none (Nat.le_of_ble_eq_true rfl) (by rfl) fun Q hQ => ?_
 simp only [f35] at H
 refine AW.rseq ?_
 try simp only [wm, ↓wk, ↓wl, nq, evV, ↓reduceIte, sevalprocAttr]
 refine AW.sseq ?_
 refine AW.rseq ?_
 try simp only [wm, ↓wk, ↓wl, nq, evV, ↓reduceIte, sevalprocAttr]
 refine AW.bend ?_
 refine AW.iter H ((Le.tz [] [0, 1, 2, 7] (by simp only [f35_L1c, wm, wmr, rrm, ↓wk, ↓wl, evV, ↓reduceIte, sevalprocAttr] <;> rfl))) ?_ <;> clear H
 rintro i_845 x_ st0_ H hst_
 rw [f35_L1c] at hst_
 simp only [f35_L1] at H
 subst hst_
 refine AW.sseq ?_
 refine AW.rseq ?_
 try simp only [wm, ↓wk, ↓wl, nq, evV, ↓reduceIte, sevalprocAttr]
 refine AW.ifc H (by rfl) ?_ ?_ <;> clear H <;> intro H
 ·refine AW.skip ?_
  refine seqQ.norm ?_
  refine AW.bseq ?_
  refine AW.rseq ?_
  try simp only [wm, ↓wk, ↓wl, nq, evV, ↓reduceIte, sevalprocAttr]
  refine evTs_at (enc := eApiFixture) H (by rfl) (by rfl) ?_ <;> clear H <;> intro x_849 H
  try simp only [eApiFixture, eL, eM, wm, ↓wk, ↓wl, nq, evV, ↓reduceIte, sevalprocAttr]
  refine evTs_ifg H (by rfl) ?_ ?_ <;> clear H <;> intro H
  ·try simp only [wm, ↓wk, ↓wl, nq, evV, ↓reduceIte, sevalprocAttr]
   refine evTs_at (enc := eApiFixture) H (by rfl) (by rfl) ?_ <;> clear H <;> intro x_850 H
   try simp only [eApiFixture, eL, eM, wm, ↓wk, ↓wl, nq, evV, ↓reduceIte, sevalprocAttr]
   refine AW.ifc H (by rfl) ?_ ?_ <;> clear H <;> intro H
   ·refine AW.rseq ?_
    try simp only [wm, ↓wk, ↓wl, nq, evV, ↓reduceIte, sevalprocAttr]
    refine AW.ret ?_
    refine blkQ.ret ?_
    refine loopQ.ret H ?_ <;> clear H <;> intro H
    try dsimp only at H
    refine blk0.ret ?_
    refine seqQ.ret ?_
    cases H
    exact hQ _ _ _ _ (.inr rfl) (by simp only [resVs, omap, resV, wm, ↓wk, ↓wl, nq, evV, ↓reduceIte, sevalprocAttr]; rfl) (hand_plain (by rfl)) (by first | exact Or.inl rfl | exact Or.inr rfl)
   ·refine AW.skip ?_
    refine blkQ.norm ?_
    refine AW.rend ?_
    try simp only [wm, ↓wk, ↓wl, nq, evV, ↓reduceIte, sevalprocAttr]
    exact loopQ.next H ((Le.tz [] [0, 1, 2, 7] (by simp only [f35_L1c, wm, wmr, rrm, ↓wk, ↓wl, evV, ↓reduceIte, sevalprocAttr] <;> rfl)))
  ·try simp only [wm, ↓wk, ↓wl, nq, evV, ↓reduceIte, sevalprocAttr]
   refine AW.iff (by rfl) ?_
   refine AW.skip ?_
   refine blkQ.norm ?_
   refine AW.rend ?_
   try simp only [wm, ↓wk, ↓wl, nq, evV, ↓reduceIte, sevalprocAttr]
   exact loopQ.next H ((Le.tz [] [0, 1, 2, 7] (by simp only [f35_L1c, wm, wmr, rrm, ↓wk, ↓wl, evV, ↓reduceIte, sevalprocAttr] <;> rfl)))
 ·refine AW.exit ?_
  refine seqQ.exit ?_
  refine loopQ.exit H ?_ <;> clear H <;> intro H
  try dsimp only at H
  refine blk0.here ?_
  refine seqQ.norm ?_
  refine AW.rseq ?_
  try simp only [wm, ↓wk, ↓wl, nq, evV, ↓reduceIte, sevalprocAttr]
  refine AW.ret ?_
  cases H
  exact hQ _ _ _ _ (.inr rfl) (by simp only [resVs, omap, resV, wm, ↓wk, ↓wl, nq, evV, ↓reduceIte, sevalprocAttr]; rfl) (hand_plain (by rfl)) (by first | exact Or.inl rfl | exact Or.inr rfl)
def c62_0 : C := .cond (.t 11) (.seq (.reg [iI 12 (.mv (.t 6)), iI 4 (.mv (.c (.sl 7 true []))), iI 5 (.mv (.t 12))]) .ret) (.skip)
def c62_1 : C := .seq (.reg [iI 10 (.mv (.t 6)), iI 11 (.bin .neq (.t 10) (.c (.int .i64 0)))]) c62_0
def c62_2 : C := .seq (.reg [iI 13 (.mv (.t 0)), iI 4 (.mv (.t 13)), iI 5 (.mv (.c (.int .i64 0)))]) .ret
def c62_3 : C := .seq (.seq (.reg [iI 7 (.mv (.t 0)), iI 8 (.mv (.t 1)), iI 9 (.call (.c (.fn 16 [])) [(.t 7), (.t 8)]), iI 6 (.mv (.t 9))]) c62_1) c62_2
def ir62 : C := .seq (.reg [iI 4 (.mv (.c (.sl 7 true []))), iI 5 (.mv (.c (.int .i64 0)))]) c62_3
theorem fd62 : fd? Try.prog 62 = some (14, [.slot 4, .slot 5], ir62) := by kernel_rfl
noncomputable def f62 (l_904 : (List ApiFixture)) (profiles_905 : (List ApiProfile)) : Option ((List ApiFixture) × Int) :=
  (f16 l_904 profiles_905).bind fun r_906 => (if (decide (r_906 ≠ 0)) = true then (some ([], r_906)) else (some (l_904, 0)))
theorem f62_ok {l_904 : (List ApiFixture)} {profiles_905 : (List ApiProfile)} {r_ : (List ApiFixture) × Int} (H : f62 l_904 profiles_905 = some r_) : Pure Try.prog 62 [.sl 7 false (l_904.map eApiFixture), .sl 4 false (profiles_905.map eApiProfile)] (· = .tup [.sl 7 false (r_.1.map eApiFixture), .int .i64 r_.2]) := by
 refine Pure.walk3 fd62 none (Nat.le_of_ble_eq_true rfl) (by rfl) fun Q hQ => ?_
 simp only [f62] at H
 refine AW.rseq ?_
 try simp only [wm, ↓wk, ↓wl, nq, evV, ↓reduceIte, sevalprocAttr]
 refine AW.sseq ?_
 refine AW.rseq ?_
 try simp only [wm, ↓wk, ↓wl, nq, evV, ↓reduceIte, sevalprocAttr]
 refine evTs_pure hFn H (fun _ h => f16_ok h) (by rfl) (by rfl) (by rfl) (by rfl) (fun _ => rfl) ?_ <;> clear H <;> intro r_906 H
 try simp only [eL, wm, ↓wk, ↓wl, nq, evV, ↓reduceIte, sevalprocAttr]
 refine AW.rseq ?_
 try simp only [wm, ↓wk, ↓wl, nq, evV, ↓reduceIte, sevalprocAttr]
 refine AW.ifc H (by rfl) ?_ ?_ <;> clear H <;> intro H
 ·refine AW.rseq ?_
  try simp only [wm, ↓wk, ↓wl, nq, evV, ↓reduceIte, sevalprocAttr]
  refine AW.ret ?_
  refine seqQ.ret ?_
  cases H
  exact hQ _ _ _ _ (.inr rfl) (by simp only [resVs, omap, resV, wm, ↓wk, ↓wl, nq, evV, ↓reduceIte, sevalprocAttr]; rfl) (hand_plain (by rfl)) (by first | exact Or.inl rfl | exact Or.inr rfl)
 ·refine AW.skip ?_
  refine seqQ.norm ?_
  refine AW.rseq ?_
  try simp only [wm, ↓wk, ↓wl, nq, evV, ↓reduceIte, sevalprocAttr]
  refine AW.ret ?_
  cases H
  exact hQ _ _ _ _ (.inr rfl) (by simp only [resVs, omap, resV, wm, ↓wk, ↓wl, nq, evV, ↓reduceIte, sevalprocAttr]; rfl) (hand_plain (by rfl)) (by first | exact Or.inl rfl | exact Or.inr rfl)
def c36_0 : C := .cond (.t 19) (.seq (.reg [iI 20 (.mv (.t 9)), iI 6 (.mv (.c (.sl 7 true []))), iI 7 (.mv (.t 20))]) .ret) (.skip)
def c36_1 : C := .cond (.t 30) (.reg [iI 31 (.mv (.t 10)), iI 32 (.mv (.t 11)), iI 33 (.load 7 (.t 5)), iI 34 (.iaddr 7 (.t 31) (.t 32)), iN (.store 7 (.t 34) (.t 33))]) (.reg [iI 35 (.mv (.t 10)), iI 36 (.load 7 (.t 5)), iI 37 (.mkslp 7 1 (.agg [(.int .i64 0), (.int .i64 0), (.str []), (.int .i64 0), (.int .i64 0), (.int .i64 0), (.str [])]) [(0, (.t 36))]), iI 38 (.append 7 72 (.t 35) (.t 37)), iI 10 (.mv (.t 38))])
def c36_2 : C := .seq (.reg [iI 29 (.mv (.t 11)), iI 30 (.bin .geq (.t 29) (.c (.int .i64 0)))]) c36_1
def c36_3 : C := .seq (.reg [iI 39 (.mv (.t 10)), iI 40 (.mv (.t 1)), iI 41 (.call (.c (.fn 62 [])) [(.t 39), (.t 40)]), iI 42 (.ext (.t 41) 0), iI 43 (.ext (.t 41) 1), iI 6 (.mv (.t 42)), iI 7 (.mv (.t 43))]) .ret
def c36_4 : C := .seq (.seq (.reg [iI 23 (.load 2 (.t 8)), iI 24 (.faddr 0 (.t 5)), iI 25 (.load 0 (.t 24)), iI 26 (.faddr 1 (.t 5)), iI 27 (.load 0 (.t 26)), iI 28 (.call (.c (.fn 61 [])) [(.t 23), (.t 25), (.t 27)]), iI 11 (.mv (.t 28))]) c36_2) c36_3
def c36_5 : C := .seq (.reg [iI 21 (.mv (.t 0)), iI 22 (.call (.c (.fn 30 [])) [(.t 21)]), iI 10 (.mv (.t 22))]) c36_4
def c36_6 : C := .seq (.seq (.reg [iI 18 (.mv (.t 9)), iI 19 (.bin .neq (.t 18) (.c (.int .i64 0)))]) c36_0) c36_5
def c36_7 : C := .seq (.reg [iI 13 (.mv (.t 0)), iI 14 (.mv (.t 1)), iI 15 (.call (.c (.fn 44 [])) [(.t 13), (.t 14)]), iI 12 (.mv (.t 15)), iI 16 (.ext (.t 12) 0), iI 17 (.ext (.t 12) 1), iI 8 (.alloc [(1, (.sl 7 true [])), (1, .nilmp)]), iN (.store 2 (.t 8) (.t 16)), iI 9 (.mv (.t 17))]) c36_6
def ir36 : C := .seq (.reg [iI 5 (.box (.t 2)), iI 6 (.mv (.c (.sl 7 true []))), iI 7 (.mv (.c (.int .i64 0)))]) c36_7
theorem fd36 : fd? Try.prog 36 = some (44, [.slot 6, .slot 7], ir36) := by kernel_rfl
noncomputable def f36 (l_893 : (List ApiFixture)) (profiles_894 : (List ApiProfile)) (x_895 : ApiFixture) : Option ((List ApiFixture) × Int) :=
  (f44 l_893 profiles_894).bind fun r_896 => (if (decide (r_896.2 ≠ 0)) = true then (some ([], r_896.2)) else (f30 l_893).bind fun r_897 => (f61 r_896.1 x_895.fChannel x_895.fPart).bind fun r_898 => (if (decide (0 ≤ r_898)) = true then (at? r_897 r_898).bind fun x_899 => (f62 (r_897.set r_898.toNat x_895) profiles_894).bind fun r_907 => (some (r_907.1, r_907.2)) else (app? 72 r_897 ([x_895])).bind fun out_908 => (f62 out_908 profiles_894).bind fun r_909 => (some (r_909.1, r_909.2))))
theorem f36_ok {l_893 : (List ApiFixture)} {profiles_894 : (List ApiProfile)} {x_895 : ApiFixture} {r_ : (List ApiFixture) × Int} (H : f36 l_893 profiles_894 x_895 = some r_) : Pure Try.prog 36 [.sl 7 false (l_893.map eApiFixture), .sl 4 false (profiles_894.map eApiProfile), .agg [.int .i64 x_895.fChannel, .int .i64 x_895.fPart, .str x_895.fProfile, .int .i64 x_895.fUniverse, .int .i64 x_895.fAddress, .int .i64 x_895.fPhase, .str x_895.fCable]] (· = .tup [.sl 7 false (r_.1.map eApiFixture), .int .i64 r_.2]) := by
 refine Pure.walk3 fd36 none (Nat.le_of_ble_eq_true rfl) (by rfl) fun Q hQ => ?_
 simp only [f36] at H
 refine AW.rseq ?_
 try simp only [wm, ↓wk, ↓wl, nqs, evV, ↓reduceIte, sevalprocAttr]
 refine AW.rseq ?_
 try simp only [wm, ↓wk, ↓wl, nqs, evV, ↓reduceIte, sevalprocAttr]
 refine evTs_pure hFn H (fun _ h => f44_ok h) (by rfl) (by rfl) (by rfl) (by rfl) (fun _ => rfl) ?_ <;> clear H <;> intro r_896 H
 try simp only [eL, ePatchRig, eM, wm, ↓wk, ↓wl, nqs, evV, ↓reduceIte, sevalprocAttr]
 refine evTs_st (by simp only [wm, ↓wk, ↓wl, nqs, evV, ↓reduceIte, sevalprocAttr, Nat.reduceLeDiff]; rfl) ?_
 try simp only [wm, ↓wk, ↓wl, nqs, evV, ↓reduceIte, sevalprocAttr]
 refine AW.sseq ?_
 refine AW.rseq ?_
 try simp only [wm, ↓wk, ↓wl, nqs, evV, ↓reduceIte, sevalprocAttr]
 refine AW.ifc H (by rfl) ?_ ?_ <;> clear H <;> intro H
 ·refine AW.rseq ?_
  try simp only [wm, ↓wk, ↓wl, nqs, evV, ↓reduceIte, sevalprocAttr]
  refine AW.ret ?_
  refine seqQ.ret ?_
  cases H
  exact hQ _ _ _ _ (.inr rfl) (by simp only [resVs, omap, resV, wm, ↓wk, ↓wl, nqs, evV, ↓reduceIte, sevalprocAttr]; rfl) (hand_plain (by rfl)) (by first | exact Or.inl rfl | exact Or.inr rfl)
 ·refine AW.skip ?_
  refine seqQ.norm ?_
  refine AW.rseq ?_
  try simp only [wm, ↓wk, ↓wl, nqs, evV, ↓reduceIte, sevalprocAttr]
  refine evTs_fr H (fun _ h => f30_ok h) (by rfl) (by rfl) (by rfl) (by rfl) (fun _ => rfl) ?_ <;> clear H <;> intro r_897 H
  try simp only [eL, wm, ↓wk, ↓wl, nqs, evV, ↓reduceIte, sevalprocAttr]
  refine AW.sseq ?_
  refine AW.rseq ?_
  try simp only [wm, ↓wk, ↓wl, nqs, evV, ↓reduceIte, sevalprocAttr]
  refine evTs_pure hFn H (fun _ h => f61_ok h) (by rfl) (by rfl) (by rfl) (by rfl) (fun _ => rfl) ?_ <;> clear H <;> intro r_898 H
  try simp only [eL, wm, ↓wk, ↓wl, nqs, evV, ↓reduceIte, sevalprocAttr]
  refine AW.rseq ?_
  try simp only [wm, ↓wk, ↓wl, nqs, evV, ↓reduceIte, sevalprocAttr]
  refine AW.ifc H (by rfl) ?_ ?_ <;> clear H <;> intro H
  ·refine AW.rend ?_
   try simp only [wm, ↓wk, ↓wl, nqs, evV, ↓reduceIte, sevalprocAttr]
   refine evTs_atr (enc := eApiFixture) H (by rfl) (by first | rfl | simp only [List.length_set]) (by rfl) ?_ <;> clear H <;> intro x_899 hx_899 H
   try simp only [eApiFixture, eL, eM, wm, ↓wk, ↓wl, nqs, evV, ↓reduceIte, sevalprocAttr, hx_899, eApiFixture, eL, eM]
   refine evTs_stW (enc := eApiFixture) x_895 (by rfl) (by rfl) (by first | exact lt_map hx_899 | (simp only [List.length_set, eApiFixture, eL, eM]; exact lt_map hx_899)) (fun _ => by rfl) ?_
   have hw_900 := set_get hx_899 x_895
   try simp only [eApiFixture, eL, eM, wm, ↓wk, ↓wl, nqs, evV, ↓reduceIte, sevalprocAttr, hx_899, eApiFixture, eL, eM, hw_900]
   refine seqQ.norm ?_
   refine AW.rseq ?_
   try simp only [wm, ↓wk, ↓wl, nqs, evV, ↓reduceIte, sevalprocAttr, hx_899, eApiFixture, eL, eM, hw_900]
   refine evTs_frz (args := [.row 7 2 0 r_897.length, .sl 4 false (profiles_894.map eApiProfile)]) (h1 := [.cel [.int .i64 x_895.fChannel, .int .i64 x_895.fPart, .str x_895.fProfile, .int .i64 x_895.fUniverse, .int .i64 x_895.fAddress, .int .i64 x_895.fPhase, .str x_895.fCable], .cel [.sl 7 false (r_896.1.fFixtures.map eApiFixture), .mp (mk AV.str r_896.1.fProfiles) (mv eApiProfile r_896.1.fProfiles)], .dead]) H (fun _ h => f62_ok h) (by rfl) (by rfl) (freeze_rows (by rfl) (by simp only [deep_eq, imm_simps, imm_rowE, imm_ptrE, imm_enc, imm_mrefE, imm_mpE, imm_arowE, omap_simps, take_map_len, take_map_set, take_map_set2, List.length_set, le_refl_true, Nat.zero_add, and_true, true_and, List.drop_zero, Option.map_some, wm, ↓wk, ↓wl, nqs, evV, ↓reduceIte, sevalprocAttr, hx_899, eApiFixture, eL, eM, hw_900]; try rfl) (by show kill _ (visit _ (11 + 1) _) = _; rw [visit_tup_cons, visit_rowE (enc := eApiFixture) (by rfl), visit_tup_cons, visit_pl (by rfl), visit_tup_nil]; try rfl)) (by rfl) (fun _ => by rfl) (fun _ => rfl) ?_ <;> clear H <;> intro r_907 H
   try simp only [eL, wm, ↓wk, ↓wl, nqs, evV, ↓reduceIte, sevalprocAttr, hx_899, eApiFixture, eL, eM, hw_900]
   refine AW.ret ?_
   cases H
   exact hQ _ _ _ _ (.inr rfl) (by simp only [resVs, omap, resV, wm, ↓wk, ↓wl, nqs, evV, ↓reduceIte, sevalprocAttr, hx_899, eApiFixture, eL, eM, hw_900]; rfl) (hand_plain (by rfl)) (by first | exact Or.inl rfl | exact Or.inr rfl)
  ·refine AW.rend ?_
   try simp only [wm, ↓wk, ↓wl, nqs, evV, ↓reduceIte, sevalprocAttr]
   refine evTs_app (enc := eApiFixture) H (by rfl) (by first | rfl | simp only [List.length_set]) (by rfl) (by rfl) ?_ <;> clear H <;> intro out_908 H
   try simp only [wm, ↓wk, ↓wl, nqs, evV, ↓reduceIte, sevalprocAttr]
   refine seqQ.norm ?_
   refine AW.rseq ?_
   try simp only [wm, ↓wk, ↓wl, nqs, evV, ↓reduceIte, sevalprocAttr]
   refine evTs_frz (args := [.row 7 3 0 out_908.length, .sl 4 false (profiles_894.map eApiProfile)]) (h1 := [.cel [.int .i64 x_895.fChannel, .int .i64 x_895.fPart, .str x_895.fProfile, .int .i64 x_895.fUniverse, .int .i64 x_895.fAddress, .int .i64 x_895.fPhase, .str x_895.fCable], .cel [.sl 7 false (r_896.1.fFixtures.map eApiFixture), .mp (mk AV.str r_896.1.fProfiles) (mv eApiProfile r_896.1.fProfiles)], .dead, .dead]) H (fun _ h => f62_ok h) (by rfl) (by rfl) (freeze_rows (by rfl) (by simp only [deep_eq, imm_simps, imm_rowE, imm_ptrE, imm_enc, imm_mrefE, imm_mpE, imm_arowE, omap_simps, take_map_len, take_map_set, take_map_set2, List.length_set, le_refl_true, Nat.zero_add, and_true, true_and, List.drop_zero, Option.map_some, wm, ↓wk, ↓wl, nqs, evV, ↓reduceIte, sevalprocAttr]; try rfl) (by show kill _ (visit _ (11 + 1) _) = _; rw [visit_tup_cons, visit_rowE (enc := eApiFixture) (by rfl), visit_tup_cons, visit_pl (by rfl), visit_tup_nil]; try rfl)) (by rfl) (fun _ => by rfl) (fun _ => rfl) ?_ <;> clear H <;> intro r_909 H
   try simp only [eL, wm, ↓wk, ↓wl, nqs, evV, ↓reduceIte, sevalprocAttr]
   refine AW.ret ?_
   cases H
   exact hQ _ _ _ _ (.inr rfl) (by simp only [resVs, omap, resV, wm, ↓wk, ↓wl, nqs, evV, ↓reduceIte, sevalprocAttr]; rfl) (hand_plain (by rfl)) (by first | exact Or.inl rfl | exact Or.inr rfl)
theorem con63 : fd? Try.prog 63 = some (36, [.slot 2], conC 7 72 87) := by kernel_rfl
theorem gro87 : fd? Try.prog 87 = some (27, [.slot 4], growC 7 72 (.agg [(.int .i64 0), (.int .i64 0), (.str []), (.int .i64 0), (.int .i64 0), (.int .i64 0), (.str [])])) := by kernel_rfl
noncomputable def f63 (xss : List (List ApiFixture)) : Option (List ApiFixture) := conc? 72 xss
theorem f63_ok {xss : List (List ApiFixture)} {r_ : List ApiFixture} (H : f63 xss = some r_) : Pure Try.prog 63 [.sl 0 false (xss.map (eL 7 eApiFixture))] (· = .fr 7 (r_.map eApiFixture)) := conc_ok H con63 gro87
theorem f63_im {xss : List (List ApiFixture)} {r_ : List ApiFixture} (H : f63 xss = some r_) : Pure Try.prog 63 [.sl 0 false (xss.map (eL 7 eApiFixture))] (· = .sl 7 false (r_.map eApiFixture)) := (f63_ok H).unfr (by first | exact enc_fits _ | simp only [frFits, List.all_cons, List.all_nil, enc_fits, Bool.and_self])
def c37_0 : C := .cond (.t 21) (.seq (.reg [iI 22 (.mv (.t 12)), iI 8 (.mv (.c (.sl 7 true []))), iI 9 (.mv (.c (.bool false))), iI 10 (.mv (.t 22))]) .ret) (.skip)
def c37_1 : C := .cond (.t 28) (.seq (.reg [iI 29 (.mv (.t 0)), iI 30 (.call (.c (.fn 30 [])) [(.t 29)]), iI 8 (.mv (.t 30)), iI 9 (.mv (.c (.bool false))), iI 10 (.mv (.c (.int .i64 0)))]) .ret) (.skip)
def c37_2 : C := .seq (.reg [iI 31 (.mv (.t 0)), iI 32 (.mv (.t 13)), iI 33 (.slice 7 (.t 31) none (some (.t 32))), iI 34 (.mv (.t 0)), iI 35 (.mv (.t 13)), iI 36 (.bin .add (.t 35) (.c (.int .i64 1))), iI 37 (.slice 7 (.t 34) (some (.t 36)) none), iI 38 (.mksl 0 2 (.sl 7 true []) [(0, (.t 33)), (1, (.t 37))]), iI 39 (.call (.c (.fn 63 [])) [(.t 38)]), iI 8 (.mv (.t 39)), iI 9 (.mv (.c (.bool true))), iI 10 (.mv (.c (.int .i64 0)))]) .ret
def c37_3 : C := .seq (.seq (.reg [iI 27 (.mv (.t 13)), iI 28 (.bin .lss (.t 27) (.c (.int .i64 0)))]) c37_1) c37_2
def c37_4 : C := .seq (.reg [iI 23 (.load 2 (.t 11)), iI 24 (.mv (.t 2)), iI 25 (.mv (.t 3)), iI 26 (.call (.c (.fn 61 [])) [(.t 23), (.t 24), (.t 25)]), iI 13 (.mv (.t 26))]) c37_3
def c37_5 : C := .seq (.seq (.reg [iI 20 (.mv (.t 12)), iI 21 (.bin .neq (.t 20) (.c (.int .i64 0)))]) c37_0) c37_4
def c37_6 : C := .seq (.reg [iI 15 (.mv (.t 0)), iI 16 (.mv (.t 1)), iI 17 (.call (.c (.fn 44 [])) [(.t 15), (.t 16)]), iI 14 (.mv (.t 17)), iI 18 (.ext (.t 14) 0), iI 19 (.ext (.t 14) 1), iI 11 (.alloc [(1, (.sl 7 true [])), (1, .nilmp)]), iN (.store 2 (.t 11) (.t 18)), iI 12 (.mv (.t 19))]) c37_5
def ir37 : C := .seq (.reg [iI 8 (.mv (.c (.sl 7 true []))), iI 9 (.mv (.c (.bool false))), iI 10 (.mv (.c (.int .i64 0)))]) c37_6
theorem fd37 : fd? Try.prog 37 = some (40, [.slot 8, .slot 9, .slot 10], ir37) := by kernel_rfl
noncomputable def f37 (l_928 : (List ApiFixture)) (profiles_929 : (List ApiProfile)) (channel_930 : Int) (part_931 : Int) : Option ((List ApiFixture) × Bool × Int) :=
  (f44 l_928 profiles_929).bind fun r_932 => (if (decide (r_932.2 ≠ 0)) = true then (some ([], false, r_932.2)) else (f61 r_932.1 channel_930 part_931).bind fun r_933 => (if (decide (r_933 < 0)) = true then (f30 l_928).bind fun r_934 => (some (r_934, false, 0)) else (slc? l_928 0 r_933).bind fun s_935 => (slc? l_928 (IntKind.i64.wrap (r_933 + 1)) ((l_928.length : Nat) : Int)).bind fun s_936 => (f63 ([s_935, s_936])).bind fun r_937 => (some (r_937, true, 0))))
theorem f37_ok {l_928 : (List ApiFixture)} {profiles_929 : (List ApiProfile)} {channel_930 : Int} {part_931 : Int} {r_ : (List ApiFixture) × Bool × Int} (H : f37 l_928 profiles_929 channel_930 part_931 = some r_) : Pure Try.prog 37 [.sl 7 false (l_928.map eApiFixture), .sl 4 false (profiles_929.map eApiProfile), .int .i64 channel_930, .int .i64 part_931] (· = .tup [.fr 7 (r_.1.map eApiFixture), .bool r_.2.1, .int .i64 r_.2.2]) := by
 refine Pure.walk3 fd37 (some 0) (Nat.le_of_ble_eq_true rfl) (by rfl) fun Q hQ => ?_
 simp only [f37] at H
 refine AW.rseq ?_
 try simp only [wm, ↓wk, ↓wl, nq, evV, ↓reduceIte, sevalprocAttr]
 refine AW.rseq ?_
 try simp only [wm, ↓wk, ↓wl, nq, evV, ↓reduceIte, sevalprocAttr]
 refine evTs_pure hFn H (fun _ h => f44_ok h) (by rfl) (by rfl) (by rfl) (by rfl) (fun _ => rfl) ?_ <;> clear H <;> intro r_932 H
 try simp only [eL, ePatchRig, eM, wm, ↓wk, ↓wl, nq, evV, ↓reduceIte, sevalprocAttr]
 refine AW.sseq ?_
 refine AW.rseq ?_
 try simp only [wm, ↓wk, ↓wl, nq, evV, ↓reduceIte, sevalprocAttr]
 refine AW.ifc H (by rfl) ?_ ?_ <;> clear H <;> intro H
 ·refine AW.rseq ?_
  try simp only [wm, ↓wk, ↓wl, nq, evV, ↓reduceIte, sevalprocAttr]
  refine AW.ret ?_
  refine seqQ.ret ?_
  cases H
  exact hQ _ _ _ _ (.inr rfl) (by simp only [resVs, omap, resV, wm, ↓wk, ↓wl, nq, evV, ↓reduceIte, sevalprocAttr]; rfl) (hand_k0 (by rfl) (by rfl)) (by first | exact Or.inl rfl | exact Or.inr rfl)
 ·refine AW.skip ?_
  refine seqQ.norm ?_
  refine AW.rseq ?_
  try simp only [wm, ↓wk, ↓wl, nq, evV, ↓reduceIte, sevalprocAttr]
  refine evTs_pure hFn H (fun _ h => f61_ok h) (by rfl) (by rfl) (by rfl) (by rfl) (fun _ => rfl) ?_ <;> clear H <;> intro r_933 H
  try simp only [eL, wm, ↓wk, ↓wl, nq, evV, ↓reduceIte, sevalprocAttr]
  refine AW.sseq ?_
  refine AW.rseq ?_
  try simp only [wm, ↓wk, ↓wl, nq, evV, ↓reduceIte, sevalprocAttr]
  refine AW.ifc H (by rfl) ?_ ?_ <;> clear H <;> intro H
  ·refine AW.rseq ?_
   try simp only [wm, ↓wk, ↓wl, nq, evV, ↓reduceIte, sevalprocAttr]
   refine evTs_fr H (fun _ h => f30_ok h) (by rfl) (by rfl) (by rfl) (by rfl) (fun _ => rfl) ?_ <;> clear H <;> intro r_934 H
   try simp only [eL, wm, ↓wk, ↓wl, nq, evV, ↓reduceIte, sevalprocAttr]
   refine AW.ret ?_
   refine seqQ.ret ?_
   cases H
   exact hQ _ _ _ _ (.inr rfl) (by simp only [resVs, omap, resV, wm, ↓wk, ↓wl, nq, evV, ↓reduceIte, sevalprocAttr]; rfl) (hand_k (by rfl) (by rfl) (by simp) (enc_all _) (by rfl)) (by first | exact Or.inl rfl | exact Or.inr rfl)
  ·refine AW.skip ?_
   refine seqQ.norm ?_
   refine AW.rseq ?_
   try simp only [wm, ↓wk, ↓wl, nq, evV, ↓reduceIte, sevalprocAttr]
   refine evTs_slc (enc := eApiFixture) H (by rfl) (by rfl) (by simp only [loI, hiI, wm, ↓wk, ↓wl, nq, evV, ↓reduceIte, sevalprocAttr]; rfl) (by simp only [loI, hiI, wm, ↓wk, ↓wl, nq, evV, ↓reduceIte, sevalprocAttr]; rfl) ?_ <;> clear H <;> intro s_935 H
   try simp only [wm, ↓wk, ↓wl, nq, evV, ↓reduceIte, sevalprocAttr]
   refine evTs_slc (enc := eApiFixture) H (by rfl) (by rfl) (by simp only [loI, hiI, wm, ↓wk, ↓wl, nq, evV, ↓reduceIte, sevalprocAttr]; rfl) (by simp only [loI, hiI, wm, ↓wk, ↓wl, nq, evV, ↓reduceIte, sevalprocAttr]; rfl) ?_ <;> clear H <;> intro s_936 H
   try simp only [wm, ↓wk, ↓wl, nq, evV, ↓reduceIte, sevalprocAttr]
   refine evTs_fr H (fun _ h => f63_ok h) (by rfl) (by rfl) (by rfl) (by rfl) (fun _ => rfl) ?_ <;> clear H <;> intro r_937 H
   try simp only [eL, wm, ↓wk, ↓wl, nq, evV, ↓reduceIte, sevalprocAttr]
   refine AW.ret ?_
   cases H
   exact hQ _ _ _ _ (.inr rfl) (by simp only [resVs, omap, resV, wm, ↓wk, ↓wl, nq, evV, ↓reduceIte, sevalprocAttr]; rfl) (hand_k (by rfl) (by rfl) (by simp) (enc_all _) (by rfl)) (by first | exact Or.inl rfl | exact Or.inr rfl)
theorem f37_im {l_928 : (List ApiFixture)} {profiles_929 : (List ApiProfile)} {channel_930 : Int} {part_931 : Int} {r_ : (List ApiFixture) × Bool × Int} (H : f37 l_928 profiles_929 channel_930 part_931 = some r_) : Pure Try.prog 37 [.sl 7 false (l_928.map eApiFixture), .sl 4 false (profiles_929.map eApiProfile), .int .i64 channel_930, .int .i64 part_931] (· = .tup [.sl 7 false (r_.1.map eApiFixture), .bool r_.2.1, .int .i64 r_.2.2]) := (f37_ok H).unfr (by first | exact enc_fits _ | simp only [frFits, List.all_cons, List.all_nil, enc_fits, Bool.and_self])
noncomputable def f64_L1 (s_943 : (List ApiFixture)) (v_944 : ApiFixture) : Lp (Int) ((Unit) ⊕ (Int)) where
  body := fun v_948 => (if (decide (v_948 < ((s_943.length : Nat) : Int))) = true then (at? s_943 v_948).bind fun x_951 => (if ((v_944.fChannel == x_951.fChannel) && ((v_944.fPart == x_951.fPart) && ((v_944.fProfile == x_951.fProfile) && ((v_944.fUniverse == x_951.fUniverse) && ((v_944.fAddress == x_951.fAddress) && ((v_944.fPhase == x_951.fPhase) && ((v_944.fCable == x_951.fCable) && true))))))) = true then (some (.brk (Sum.inr v_948))) else (some (.next (IntKind.i64.wrap (v_948 + 1))))) else (some (.brk (Sum.inl ()))))
  cst := fun v_948 => ⟨put (put (put (put (fun _ => .junk) 8 (.int .i64 v_948)) 7 (.int .i64 ((s_943.length : Nat) : Int))) 3 (.ptr 0 0)) 0 (.sl 7 false (s_943.map eApiFixture)), [.cel [.int .i64 v_944.fChannel, .int .i64 v_944.fPart, .str v_944.fProfile, .int .i64 v_944.fUniverse, .int .i64 v_944.fAddress, .int .i64 v_944.fPhase, .str v_944.fCable]]⟩
theorem f64_L1c (s_943 : (List ApiFixture)) (v_944 : ApiFixture) (v_948 : Int) : (f64_L1 s_943 v_944).cst v_948 = ⟨put (put (put (put (fun _ => .junk) 8 (.int .i64 v_948)) 7 (.int .i64 ((s_943.length : Nat) : Int))) 3 (.ptr 0 0)) 0 (.sl 7 false (s_943.map eApiFixture)), [.cel [.int .i64 v_944.fChannel, .int .i64 v_944.fPart, .str v_944.fProfile, .int .i64 v_944.fUniverse, .int .i64 v_944.fAddress, .int .i64 v_944.fPhase, .str v_944.fCable]]⟩ := rfl
def c64_0 : C := .cond (.t 16) (.seq (.reg [iI 17 (.mv (.t 5)), iI 4 (.mv (.t 17))]) .ret) (.skip)
def c64_1 : C := .seq (.reg [iI 11 (.load 7 (.t 3)), iI 12 (.mv (.t 0)), iI 13 (.mv (.t 5)), iI 14 (.iaddr 7 (.t 12) (.t 13)), iI 15 (.load 7 (.t 14)), iI 16 (.eqs false [0, 0, 1, 0, 0, 0, 1] (.t 11) (.t 15))]) c64_0
def c64_2 : C := .reg [iI 18 (.bin .add (.t 8) (.c (.int .i64 1))), iI 8 (.mv (.t 18))]
def c64_3 : C := .seq (.block 1 (.seq (.reg [iI 10 (.mv (.t 8)), iI 5 (.mv (.t 10))]) c64_1)) c64_2
def c64_4 : C := .seq (.cond (.t 9) (.skip) (.exit 0)) c64_3
def c64_5 : C := .block 0 (.loop (.seq (.reg [iI 9 (.bin .lss (.t 8) (.t 7))]) c64_4))
def c64_6 : C := .seq (.reg [iI 4 (.mv (.c (.int .i64 (-1))))]) .ret
def c64_7 : C := .seq (.seq (.reg [iI 6 (.mv (.t 0)), iI 7 (.len 0 (.t 6)), iI 8 (.mv (.c (.int .i64 0)))]) c64_5) c64_6
def ir64 : C := .seq (.reg [iI 3 (.box (.t 1)), iI 4 (.mv (.c (.int .i64 0)))]) c64_7
theorem fd64 : fd? Try.prog 64 = some (19, [.slot 4], ir64) := by kernel_rfl
noncomputable def f64 (s_943 : (List ApiFixture)) (v_944 : ApiFixture) : Option (Int) :=
  ((Lp.run (f64_L1 s_943 v_944) 0).bind fun r_ => match r_ with | (Sum.inl _) => (some (-1)) | (Sum.inr v_950) => (some v_950))
theorem f64_ok {s_943 : (List ApiFixture)} {v_944 : ApiFixture} {r_ : Int} (H : f64 s_943 v_944 = some r_) : Pure Try.prog 64 [.sl 7 false (s_943.map eApiFixture), .agg [.int .i64 v_944.fChannel, .int .i64 v_944.fPart, .str v_944.fProfile, .int .i64 v_944.fUniverse, .int .i64 v_944.fAddress, .int .i64 v_944.fPhase, .str v_944.fCable]] (· = .int .i64 r_) := by
 refine Pure.walk3 fd64 none (Nat.le_of_ble_eq_true rfl) (by rfl) fun Q hQ => ?_
 simp only [f64] at H
 refine AW.rseq ?_
 try simp only [wm, ↓wk, ↓wl, nq, evV, ↓reduceIte, sevalprocAttr]
 refine AW.sseq ?_
 refine AW.rseq ?_
 try simp only [wm, ↓wk, ↓wl, nq, evV, ↓reduceIte, sevalprocAttr]
 refine AW.bend ?_
 refine AW.iter H ((Le.tz [0] [0, 3, 7, 8] (by simp only [f64_L1c, wm, wmr, rrm, ↓wk, ↓wl, evV, ↓reduceIte, sevalprocAttr] <;> rfl))) ?_ <;> clear H
 rintro v_948 x_ st0_ H hst_
 rw [f64_L1c] at hst_
 simp only [f64_L1] at H
 subst hst_
 refine AW.rseq ?_
 try simp only [wm, ↓wk, ↓wl, nq, evV, ↓reduceIte, sevalprocAttr]
 refine AW.sseq ?_
 refine AW.ifc H (by rfl) ?_ ?_ <;> clear H <;> intro H
 ·refine AW.skip ?_
  refine seqQ.norm ?_
  refine AW.bseq ?_
  refine AW.rseq ?_
  try simp only [wm, ↓wk, ↓wl, nq, evV, ↓reduceIte, sevalprocAttr]
  refine AW.rseq ?_
  try simp only [wm, ↓wk, ↓wl, nq, evV, ↓reduceIte, sevalprocAttr]
  refine evTs_at (enc := eApiFixture) H (by rfl) (by rfl) ?_ <;> clear H <;> intro x_951 H
  try simp only [eApiFixture, eL, eM, wm, ↓wk, ↓wl, nq, evV, ↓reduceIte, sevalprocAttr]
  refine rest_eqs (by rfl) ?_
  try simp only [wm, ↓wk, ↓wl, nq, evV, ↓reduceIte, sevalprocAttr]
  refine AW.ifc H (by rfl) ?_ ?_ <;> clear H <;> intro H
  ·refine AW.rseq ?_
   try simp only [wm, ↓wk, ↓wl, nq, evV, ↓reduceIte, sevalprocAttr]
   refine AW.ret ?_
   refine blkQ.ret ?_
   refine loopQ.ret H ?_ <;> clear H <;> intro H
   try dsimp only at H
   refine blk0.ret ?_
   refine seqQ.ret ?_
   cases H
   exact hQ _ _ _ _ (.inr rfl) (by simp only [resVs, omap, resV, wm, ↓wk, ↓wl, nq, evV, ↓reduceIte, sevalprocAttr]; rfl) (hand_plain (by rfl)) (by first | exact Or.inl rfl | exact Or.inr rfl)
  ·refine AW.skip ?_
   refine blkQ.norm ?_
   refine AW.rend ?_
   try simp only [wm, ↓wk, ↓wl, nq, evV, ↓reduceIte, sevalprocAttr]
   exact loopQ.next H ((Le.tz [0] [0, 3, 7, 8] (by simp only [f64_L1c, wm, wmr, rrm, ↓wk, ↓wl, evV, ↓reduceIte, sevalprocAttr] <;> rfl)))
 ·refine AW.exit ?_
  refine seqQ.exit ?_
  refine loopQ.exit H ?_ <;> clear H <;> intro H
  try dsimp only at H
  refine blk0.here ?_
  refine seqQ.norm ?_
  refine AW.rseq ?_
  try simp only [wm, ↓wk, ↓wl, nq, evV, ↓reduceIte, sevalprocAttr]
  refine AW.ret ?_
  cases H
  exact hQ _ _ _ _ (.inr rfl) (by simp only [resVs, omap, resV, wm, ↓wk, ↓wl, nq, evV, ↓reduceIte, sevalprocAttr]; rfl) (hand_plain (by rfl)) (by first | exact Or.inl rfl | exact Or.inr rfl)
def c38_0 : C := .seq (.reg [iI 5 (.mv (.t 0)), iI 6 (.load 7 (.t 3)), iI 7 (.call (.c (.fn 64 [])) [(.t 5), (.t 6)]), iI 8 (.bin .geq (.t 7) (.c (.int .i64 0))), iI 4 (.mv (.t 8))]) .ret
def ir38 : C := .seq (.reg [iI 3 (.box (.t 1)), iI 4 (.mv (.c (.bool false)))]) c38_0
theorem fd38 : fd? Try.prog 38 = some (9, [.slot 4], ir38) := by kernel_rfl
noncomputable def f38 (s_941 : (List ApiFixture)) (v_942 : ApiFixture) : Option (Bool) :=
  (f64 s_941 v_942).bind fun r_952 => (some (decide (0 ≤ r_952)))
theorem f38_ok {s_941 : (List ApiFixture)} {v_942 : ApiFixture} {r_ : Bool} (H : f38 s_941 v_942 = some r_) : Pure Try.prog 38 [.sl 7 false (s_941.map eApiFixture), .agg [.int .i64 v_942.fChannel, .int .i64 v_942.fPart, .str v_942.fProfile, .int .i64 v_942.fUniverse, .int .i64 v_942.fAddress, .int .i64 v_942.fPhase, .str v_942.fCable]] (· = .bool r_) := by
 refine Pure.walk3 fd38 none (Nat.le_of_ble_eq_true rfl) (by rfl) fun Q hQ => ?_
 simp only [f38] at H
 refine AW.rseq ?_
 try simp only [wm, ↓wk, ↓wl, nq, evV, ↓reduceIte, sevalprocAttr]
 refine AW.rseq ?_
 try simp only [wm, ↓wk, ↓wl, nq, evV, ↓reduceIte, sevalprocAttr]
 refine evTs_pure hFn H (fun _ h => f64_ok h) (by rfl) (by rfl) (by rfl) (by rfl) (fun _ => rfl) ?_ <;> clear H <;> intro r_952 H
 try simp only [eL, wm, ↓wk, ↓wl, nq, evV, ↓reduceIte, sevalprocAttr]
 refine AW.ret ?_
 cases H
 exact hQ _ _ _ _ (.inr rfl) (by simp only [resVs, omap, resV, wm, ↓wk, ↓wl, nq, evV, ↓reduceIte, sevalprocAttr]; rfl) (hand_plain (by rfl)) (by first | exact Or.inl rfl | exact Or.inr rfl)
noncomputable def f8_L1 (r_861 : Int × Int) (l_806 : (List ApiFixture)) (profiles_807 : (List ApiProfile)) (x_808 : ApiFixture) : Lp (Int × Int) ((Unit) ⊕ (Unit)) where
  body := fun (v_962, x_963) => (if (decide (v_962 < ((([(IntKind.i64.wrap (r_861.1 - 1)), (IntKind.i64.wrap (r_861.1.tdiv 2)), 1]).length : Nat) : Int))) = true then (at? ([(IntKind.i64.wrap (r_861.1 - 1)), (IntKind.i64.wrap (r_861.1.tdiv 2)), 1]) v_962).bind fun x_968 => (if (decide (1 ≤ x_968)) = true then (if (decide (x_968 < r_861.1)) = true then (f36 l_806 profiles_807 (ApiFixture.mk x_808.fChannel x_808.fPart x_808.fProfile x_808.fUniverse x_968 1 ([]))).bind fun r_969 => (if (decide (r_969.2 ≠ 10)) = true then (some (.brk (Sum.inr ()))) else (some (.next ((IntKind.i64.wrap (v_962 + 1)), x_968)))) else (some (.next ((IntKind.i64.wrap (v_962 + 1)), x_968)))) else (some (.next ((IntKind.i64.wrap (v_962 + 1)), x_968)))) else (some (.brk (Sum.inl ()))))
  cst := fun (v_962, x_963) => ⟨put (put (put (put (put (put (put (fun _ => .junk) 171 (.int .i64 v_962)) 170 (.int .i64 ((([(IntKind.i64.wrap (r_861.1 - 1)), (IntKind.i64.wrap (r_861.1.tdiv 2)), 1]).length : Nat) : Int))) 169 (.sl 0 true (([(IntKind.i64.wrap (r_861.1 - 1)), (IntKind.i64.wrap (r_861.1.tdiv 2)), 1]).map (AV.int .i64)))) 8 (.int .i64 r_861.1)) 5 (.ptr 0 0)) 1 (.sl 4 false (profiles_807.map eApiProfile))) 0 (.sl 7 false (l_806.map eApiFixture)), [.cel [.int .i64 x_808.fChannel, .int .i64 x_808.fPart, .str x_808.fProfile, .int .i64 x_808.fUniverse, .int .i64 x_963, .int .i64 1, .str ([])]]⟩
theorem f8_L1c (r_861 : Int × Int) (l_806 : (List ApiFixture)) (profiles_807 : (List ApiProfile)) (x_808 : ApiFixture) (v_962 : Int) (x_963 : Int) : (f8_L1 r_861 l_806 profiles_807 x_808).cst (v_962, x_963) = ⟨put (put (put (put (put (put (put (fun _ => .junk) 171 (.int .i64 v_962)) 170 (.int .i64 ((([(IntKind.i64.wrap (r_861.1 - 1)), (IntKind.i64.wrap (r_861.1.tdiv 2)), 1]).length : Nat) : Int))) 169 (.sl 0 true (([(IntKind.i64.wrap (r_861.1 - 1)), (IntKind.i64.wrap (r_861.1.tdiv 2)), 1]).map (AV.int .i64)))) 8 (.int .i64 r_861.1)) 5 (.ptr 0 0)) 1 (.sl 4 false (profiles_807.map eApiProfile))) 0 (.sl 7 false (l_806.map eApiFixture)), [.cel [.int .i64 x_808.fChannel, .int .i64 x_808.fPart, .str x_808.fProfile, .int .i64 x_808.fUniverse, .int .i64 x_963, .int .i64 1, .str ([])]]⟩ := rfl
def c8_0 : C := .cond (.t 59) (.seq (.reg [iI 60 (.call (.c (.fn 11 [])) []), iI 6 (.mv (.t 60))]) .ret) (.skip)
def c8_1 : C := .cond (.t 93) (.seq (.reg [iI 94 (.call (.c (.fn 11 [])) []), iI 6 (.mv (.t 94))]) .ret) (.skip)
def c8_2 : C := .cond (.t 109) (.seq (.reg [iI 110 (.mv (.t 9)), iI 111 (.bin .eql (.t 110) (.c (.int .i64 12))), iI 112 (.mv (.t 111)), iG (some 113) 112 true (.call (.c (.fn 11 [])) []), iI 114 (.pick (.t 112) (.t 113) (.c (.bool false))), iI 6 (.mv (.t 114))]) .ret) (.skip)
def c8_3 : C := .cond (.t 164) (.seq (.reg [iI 6 (.mv (.c (.bool false)))]) .ret) (.skip)
def c8_4 : C := .cond (.t 192) (.seq (.reg [iI 6 (.mv (.c (.bool false)))]) .ret) (.skip)
def c8_5 : C := .seq (.reg [iI 191 (.mv (.t 20)), iI 192 (.bin .neq (.t 191) (.c (.int .i64 10)))]) c8_4
def c8_6 : C := .cond (.t 183) (.seq (.reg [iI 185 (.mv (.t 0)), iI 186 (.mv (.t 1)), iI 187 (.load 7 (.t 5)), iI 188 (.call (.c (.fn 36 [])) [(.t 185), (.t 186), (.t 187)]), iI 184 (.mv (.t 188)), iI 189 (.ext (.t 184) 0), iI 190 (.ext (.t 184) 1), iI 19 (.mv (.t 189)), iI 20 (.mv (.t 190))]) c8_5) (.skip)
def c8_7 : C := .seq (.reg [iI 177 (.mv (.t 18)), iI 178 (.bin .geq (.t 177) (.c (.int .i64 1))), iI 179 (.mv (.t 178)), iG (some 180) 179 true (.mv (.t 18)), iG (some 181) 179 true (.mv (.t 8)), iG (some 182) 179 true (.bin .lss (.t 180) (.t 181)), iI 183 (.pick (.t 179) (.t 182) (.c (.bool false)))]) c8_6
def c8_8 : C := .seq (.reg [iI 175 (.mv (.t 18)), iI 176 (.faddr 4 (.t 5)), iN (.store 0 (.t 176) (.t 175))]) c8_7
def c8_9 : C := .reg [iI 193 (.bin .add (.t 171) (.c (.int .i64 1))), iI 171 (.mv (.t 193))]
def c8_10 : C := .seq (.block 1 (.seq (.reg [iI 173 (.iaddr 0 (.t 169) (.t 171)), iI 174 (.load 0 (.t 173)), iI 18 (.mv (.t 174))]) c8_8)) c8_9
def c8_11 : C := .seq (.cond (.t 172) (.skip) (.exit 0)) c8_10
def c8_12 : C := .block 0 (.loop (.seq (.reg [iI 172 (.bin .lss (.t 171) (.t 170))]) c8_11))
def c8_13 : C := .seq (.reg [iI 194 (.call (.c (.fn 11 [])) []), iI 6 (.mv (.t 194))]) .ret
def c8_14 : C := .seq (.seq (.reg [iI 165 (.mv (.t 8)), iI 166 (.bin .sub (.t 165) (.c (.int .i64 1))), iI 167 (.mv (.t 8)), iI 168 (.bin .quo (.t 167) (.c (.int .i64 2))), iI 169 (.mkslp 0 3 (.int .i64 0) [(0, (.t 166)), (1, (.t 168)), (2, (.c (.int .i64 1)))]), iI 170 (.len 0 (.t 169)), iI 171 (.mv (.c (.int .i64 0)))]) c8_12) c8_13
def c8_15 : C := .seq (.seq (.reg [iI 143 (.mv (.t 11)), iI 144 (.mv (.t 14)), iI 145 (.bin .add (.t 143) (.t 144)), iI 146 (.mv (.t 16)), iI 147 (.bin .add (.t 145) (.t 146)), iI 148 (.bin .neq (.t 147) (.c (.int .i64 0))), iI 149 (.mv (.t 148)), iG (some 150) 149 false (.mv (.t 13)), iG (some 151) 149 false (.un .not (.t 150)), iI 152 (.pick (.t 149) (.c (.bool true)) (.t 151)), iI 153 (.mv (.t 152)), iG (some 154) 153 false (.mv (.t 12)), iG (some 155) 153 false (.mv (.t 0)), iG (some 156) 153 false (.call (.c (.fn 18 [])) [(.t 154), (.t 155)]), iG (some 157) 153 false (.un .not (.t 156)), iI 158 (.pick (.t 153) (.c (.bool true)) (.t 157)), iI 159 (.mv (.t 158)), iG (some 160) 159 false (.mv (.t 15)), iG (some 161) 159 false (.load 7 (.t 5)), iG (some 162) 159 false (.call (.c (.fn 38 [])) [(.t 160), (.t 161)]), iG (some 163) 159 false (.un .not (.t 162)), iI 164 (.pick (.t 159) (.c (.bool true)) (.t 163))]) c8_3) c8_14
def c8_16 : C := .seq (.reg [iI 136 (.mv (.t 10)), iI 137 (.mv (.t 1)), iI 138 (.faddr 0 (.t 5)), iI 139 (.load 0 (.t 138)), iI 140 (.call (.c (.fn 12 [])) [(.t 136), (.t 137), (.t 139)]), iI 135 (.mv (.t 140)), iI 141 (.ext (.t 135) 0), iI 142 (.ext (.t 135) 1), iI 15 (.mv (.t 141)), iI 16 (.mv (.t 142))]) c8_15
def c8_17 : C := .seq (.reg [iI 125 (.mv (.t 10)), iI 126 (.mv (.t 1)), iI 127 (.faddr 0 (.t 5)), iI 128 (.load 0 (.t 127)), iI 129 (.faddr 1 (.t 5)), iI 130 (.load 0 (.t 129)), iI 131 (.call (.c (.fn 37 [])) [(.t 125), (.t 126), (.t 128), (.t 130)]), iI 124 (.mv (.t 131)), iI 132 (.ext (.t 124) 0), iI 133 (.ext (.t 124) 1), iI 134 (.ext (.t 124) 2), iI 12 (.mv (.t 132)), iI 13 (.mv (.t 133)), iI 14 (.mv (.t 134))]) c8_16
def c8_18 : C := .seq (.reg [iI 118 (.mv (.t 0)), iI 119 (.mv (.t 1)), iI 120 (.load 7 (.t 5)), iI 121 (.call (.c (.fn 36 [])) [(.t 118), (.t 119), (.t 120)]), iI 117 (.mv (.t 121)), iI 122 (.ext (.t 117) 0), iI 123 (.ext (.t 117) 1), iI 10 (.mv (.t 122)), iI 11 (.mv (.t 123))]) c8_17
def c8_19 : C := .seq (.reg [iI 115 (.mv (.t 8)), iI 116 (.faddr 4 (.t 5)), iN (.store 0 (.t 116) (.t 115))]) c8_18
def c8_20 : C := .seq (.seq (.reg [iI 108 (.mv (.t 9)), iI 109 (.bin .neq (.t 108) (.c (.int .i64 0)))]) c8_2) c8_19
def c8_21 : C := .seq (.reg [iI 96 (.mv (.t 0)), iI 97 (.mv (.t 1)), iI 98 (.faddr 3 (.t 5)), iI 99 (.load 0 (.t 98)), iI 100 (.mv (.t 1)), iI 101 (.mv (.t 7)), iI 102 (.iaddr 4 (.t 100) (.t 101)), iI 103 (.faddr 1 (.t 102)), iI 104 (.load 0 (.t 103)), iI 105 (.call (.c (.fn 22 [])) [(.t 96), (.t 97), (.t 99), (.t 104)]), iI 95 (.mv (.t 105)), iI 106 (.ext (.t 95) 0), iI 107 (.ext (.t 95) 1), iI 8 (.mv (.t 106)), iI 9 (.mv (.t 107))]) c8_20
def c8_22 : C := .seq (.seq (.reg [iI 67 (.mv (.t 7)), iI 68 (.bin .lss (.t 67) (.c (.int .i64 0))), iI 69 (.mv (.t 68)), iG (some 70) 69 false (.mv (.t 1)), iG (some 71) 69 false (.mv (.t 7)), iG (some 72) 69 false (.iaddr 4 (.t 70) (.t 71)), iG (some 73) 69 false (.faddr 1 (.t 72)), iG (some 74) 69 false (.load 0 (.t 73)), iG (some 75) 69 false (.bin .lss (.t 74) (.c (.int .i64 1))), iI 76 (.pick (.t 69) (.c (.bool true)) (.t 75)), iI 77 (.mv (.t 76)), iG (some 78) 77 false (.mv (.t 1)), iG (some 79) 77 false (.mv (.t 7)), iG (some 80) 77 false (.iaddr 4 (.t 78) (.t 79)), iG (some 81) 77 false (.faddr 1 (.t 80)), iG (some 82) 77 false (.load 0 (.t 81)), iG (some 83) 77 false (.bin .gtr (.t 82) (.c (.int .i64 512))), iI 84 (.pick (.t 77) (.c (.bool true)) (.t 83)), iI 85 (.mv (.t 84)), iG (some 86) 85 false (.mv (.t 0)), iG (some 87) 85 false (.faddr 0 (.t 5)), iG (some 88) 85 false (.load 0 (.t 87)), iG (some 89) 85 false (.faddr 1 (.t 5)), iG (some 90) 85 false (.load 0 (.t 89)), iG (some 91) 85 false (.call (.c (.fn 35 [])) [(.t 86), (.t 88), (.t 90)]), iG (some 92) 85 false (.bin .geq (.t 91) (.c (.int .i64 0))), iI 93 (.pick (.t 85) (.c (.bool true)) (.t 92))]) c8_1) c8_21
def c8_23 : C := .seq (.reg [iI 63 (.mv (.t 1)), iI 64 (.faddr 2 (.t 5)), iI 65 (.load 0 (.t 64)), iI 66 (.call (.c (.fn 34 [])) [(.t 63), (.t 65)]), iI 7 (.mv (.t 66))]) c8_22
def c8_24 : C := .seq (.reg [iI 61 (.faddr 5 (.t 5)), iN (.store 0 (.t 61) (.c (.int .i64 1))), iI 62 (.faddr 6 (.t 5)), iN (.store 0 (.t 62) (.c (.str [])))]) c8_23
def c8_25 : C := .seq (.seq (.reg [iI 21 (.mv (.t 0)), iI 22 (.mv (.t 1)), iI 23 (.call (.c (.fn 29 [])) [(.t 21), (.t 22)]), iI 24 (.un .not (.t 23)), iI 25 (.mv (.t 24)), iG (some 26) 25 false (.mv (.t 0)), iG (some 27) 25 false (.len 0 (.t 26)), iG (some 28) 25 false (.bin .geq (.t 27) (.c (.int .i64 64))), iI 29 (.pick (.t 25) (.c (.bool true)) (.t 28)), iI 30 (.mv (.t 29)), iG (some 31) 30 false (.faddr 0 (.t 5)), iG (some 32) 30 false (.load 0 (.t 31)), iG (some 33) 30 false (.bin .lss (.t 32) (.c (.int .i64 1))), iI 34 (.pick (.t 30) (.c (.bool true)) (.t 33)), iI 35 (.mv (.t 34)), iG (some 36) 35 false (.faddr 0 (.t 5)), iG (some 37) 35 false (.load 0 (.t 36)), iG (some 38) 35 false (.bin .gtr (.t 37) (.c (.int .i64 999))), iI 39 (.pick (.t 35) (.c (.bool true)) (.t 38)), iI 40 (.mv (.t 39)), iG (some 41) 40 false (.faddr 1 (.t 5)), iG (some 42) 40 false (.load 0 (.t 41)), iG (some 43) 40 false (.bin .lss (.t 42) (.c (.int .i64 1))), iI 44 (.pick (.t 40) (.c (.bool true)) (.t 43)), iI 45 (.mv (.t 44)), iG (some 46) 45 false (.faddr 1 (.t 5)), iG (some 47) 45 false (.load 0 (.t 46)), iG (some 48) 45 false (.bin .gtr (.t 47) (.c (.int .i64 64))), iI 49 (.pick (.t 45) (.c (.bool true)) (.t 48)), iI 50 (.mv (.t 49)), iG (some 51) 50 false (.faddr 3 (.t 5)), iG (some 52) 50 false (.load 0 (.t 51)), iG (some 53) 50 false (.bin .lss (.t 52) (.c (.int .i64 1))), iI 54 (.pick (.t 50) (.c (.bool true)) (.t 53)), iI 55 (.mv (.t 54)), iG (some 56) 55 false (.faddr 3 (.t 5)), iG (some 57) 55 false (.load 0 (.t 56)), iG (some 58) 55 false (.bin .gtr (.t 57) (.c (.int .i64 8))), iI 59 (.pick (.t 55) (.c (.bool true)) (.t 58))]) c8_0) c8_24
def ir8 : C := .seq (.reg [iI 5 (.box (.t 2)), iI 6 (.mv (.c (.bool false)))]) c8_25
theorem fd8 : fd? Try.prog 8 = some (195, [.slot 6], ir8) := by kernel_rfl
noncomputable def f8 (l_806 : (List ApiFixture)) (profiles_807 : (List ApiProfile)) (x_808 : ApiFixture) : Option (Bool) :=
  (f29 l_806 profiles_807).bind fun r_822 => (if (!r_822) = true then (f11).bind fun r_823 => (some r_823) else (if (decide (64 ≤ ((l_806.length : Nat) : Int))) = true then (f11).bind fun r_824 => (some r_824) else (if (decide (x_808.fChannel < 1)) = true then (f11).bind fun r_825 => (some r_825) else (if (decide (999 < x_808.fChannel)) = true then (f11).bind fun r_826 => (some r_826) else (if (decide (x_808.fPart < 1)) = true then (f11).bind fun r_827 => (some r_827) else (if (decide (64 < x_808.fPart)) = true then (f11).bind fun r_828 => (some r_828) else (if (decide (x_808.fUniverse < 1)) = true then (f11).bind fun r_829 => (some r_829) else (if (decide (8 < x_808.fUniverse)) = true then (f11).bind fun r_830 => (some r_830) else (f34 profiles_807 x_808.fProfile).bind fun r_831 => (if (decide (r_831 < 0)) = true then (f11).bind fun r_853 => (some r_853) else (at? profiles_807 r_831).bind fun x_854 => (if (decide (x_854.fFootprint < 1)) = true then (f11).bind fun r_855 => (some r_855) else (at? profiles_807 r_831).bind fun x_856 => (if (decide (512 < x_856.fFootprint)) = true then (f11).bind fun r_857 => (some r_857) else (f35 l_806 x_808.fChannel x_808.fPart).bind fun r_858 => (if (decide (0 ≤ r_858)) = true then (f11).bind fun r_859 => (some r_859) else (at? profiles_807 r_831).bind fun x_860 => (f22 l_806 profiles_807 x_808.fUniverse x_860.fFootprint).bind fun r_861 => (if (decide (r_861.2 ≠ 0)) = true then (if (decide (r_861.2 = 12)) = true then (f11).bind fun r_863 => (some r_863) else (some false)) else (f36 l_806 profiles_807 (ApiFixture.mk x_808.fChannel x_808.fPart x_808.fProfile x_808.fUniverse r_861.1 1 ([]))).bind fun r_910 => (f37 r_910.1 profiles_807 x_808.fChannel x_808.fPart).bind fun r_938 => (f12 r_910.1 profiles_807 x_808.fChannel).bind fun r_939 => (if (decide ((IntKind.i64.wrap ((IntKind.i64.wrap (r_910.2 + r_938.2.2)) + r_939.2)) ≠ 0)) = true then (some false) else (if (!r_938.2.1) = true then (some false) else (f18 r_938.1 l_806).bind fun r_954 => (if (!r_954) = true then (some false) else (f38 r_939.1 (ApiFixture.mk x_808.fChannel x_808.fPart x_808.fProfile x_808.fUniverse r_861.1 1 ([]))).bind fun r_955 => (if (!r_955) = true then (some false) else ((Lp.run (f8_L1 r_861 l_806 profiles_807 x_808) (0, r_861.1)).bind fun r_ => match r_ with | (Sum.inl _) => (f11).bind fun r_966 => (some r_966) | (Sum.inr _) => (some false)))))))))))))))))))
theorem f8_ok {l_806 : (List ApiFixture)} {profiles_807 : (List ApiProfile)} {x_808 : ApiFixture} {r_ : Bool} (H : f8 l_806 profiles_807 x_808 = some r_) : Pure Try.prog 8 [.sl 7 false (l_806.map eApiFixture), .sl 4 false (profiles_807.map eApiProfile), .agg [.int .i64 x_808.fChannel, .int .i64 x_808.fPart, .str x_808.fProfile, .int .i64 x_808.fUniverse, .int .i64 x_808.fAddress, .int .i64 x_808.fPhase, .str x_808.fCable]] (· = .bool r_) := by
 refine Pure.walk3 fd8 none (Nat.le_of_ble_eq_true rfl) (by rfl) fun Q hQ => ?_
 simp only [f8] at H
 refine AW.rseq ?_
 try simp only [wm, ↓wk, ↓wl, nq, evV, ↓reduceIte, sevalprocAttr]
 refine AW.sseq ?_
 refine AW.rseq ?_
 try simp only [wm, ↓wk, ↓wl, nq, evV, ↓reduceIte, sevalprocAttr]
 refine evTs_pure hFn H (fun _ h => f29_ok h) (by rfl) (by rfl) (by rfl) (by rfl) (fun _ => rfl) ?_ <;> clear H <;> intro r_822 H
 try simp only [eL, wm, ↓wk, ↓wl, nq, evV, ↓reduceIte, sevalprocAttr]
 refine evTs_ifg H (by rfl) ?_ ?_ <;> clear H <;> intro H
 ·try simp only [wm, ↓wk, ↓wl, nq, evV, ↓reduceIte, sevalprocAttr]
  refine AW.ift (by rfl) ?_
  refine AW.rseq ?_
  try simp only [wm, ↓wk, ↓wl, nq, evV, ↓reduceIte, sevalprocAttr]
  refine evTs_pure hFn H (fun _ h => f11_ok h) (by rfl) (by rfl) (by rfl) (by rfl) (fun _ => rfl) ?_ <;> clear H <;> intro r_823 H
  try simp only [eL, wm, ↓wk, ↓wl, nq, evV, ↓reduceIte, sevalprocAttr]
  refine AW.ret ?_
  refine seqQ.ret ?_
  cases H
  exact hQ _ _ _ _ (.inr rfl) (by simp only [resVs, omap, resV, wm, ↓wk, ↓wl, nq, evV, ↓reduceIte, sevalprocAttr]; rfl) (hand_plain (by rfl)) (by first | exact Or.inl rfl | exact Or.inr rfl)
 ·try simp only [wm, ↓wk, ↓wl, nq, evV, ↓reduceIte, sevalprocAttr]
  refine evTs_ifg H (by rfl) ?_ ?_ <;> clear H <;> intro H
  ·try simp only [wm, ↓wk, ↓wl, nq, evV, ↓reduceIte, sevalprocAttr]
   refine AW.ift (by rfl) ?_
   refine AW.rseq ?_
   try simp only [wm, ↓wk, ↓wl, nq, evV, ↓reduceIte, sevalprocAttr]
   refine evTs_pure hFn H (fun _ h => f11_ok h) (by rfl) (by rfl) (by rfl) (by rfl) (fun _ => rfl) ?_ <;> clear H <;> intro r_824 H
   try simp only [eL, wm, ↓wk, ↓wl, nq, evV, ↓reduceIte, sevalprocAttr]
   refine AW.ret ?_
   refine seqQ.ret ?_
   cases H
   exact hQ _ _ _ _ (.inr rfl) (by simp only [resVs, omap, resV, wm, ↓wk, ↓wl, nq, evV, ↓reduceIte, sevalprocAttr]; rfl) (hand_plain (by rfl)) (by first | exact Or.inl rfl | exact Or.inr rfl)
  ·try simp only [wm, ↓wk, ↓wl, nq, evV, ↓reduceIte, sevalprocAttr]
   refine evTs_ifg H (by rfl) ?_ ?_ <;> clear H <;> intro H
   ·try simp only [wm, ↓wk, ↓wl, nq, evV, ↓reduceIte, sevalprocAttr]
    refine AW.ift (by rfl) ?_
    refine AW.rseq ?_
    try simp only [wm, ↓wk, ↓wl, nq, evV, ↓reduceIte, sevalprocAttr]
    refine evTs_pure hFn H (fun _ h => f11_ok h) (by rfl) (by rfl) (by rfl) (by rfl) (fun _ => rfl) ?_ <;> clear H <;> intro r_825 H
    try simp only [eL, wm, ↓wk, ↓wl, nq, evV, ↓reduceIte, sevalprocAttr]
    refine AW.ret ?_
    refine seqQ.ret ?_
    cases H
    exact hQ _ _ _ _ (.inr rfl) (by simp only [resVs, omap, resV, wm, ↓wk, ↓wl, nq, evV, ↓reduceIte, sevalprocAttr]; rfl) (hand_plain (by rfl)) (by first | exact Or.inl rfl | exact Or.inr rfl)
   ·try simp only [wm, ↓wk, ↓wl, nq, evV, ↓reduceIte, sevalprocAttr]
    refine evTs_ifg H (by rfl) ?_ ?_ <;> clear H <;> intro H
    ·try simp only [wm, ↓wk, ↓wl, nq, evV, ↓reduceIte, sevalprocAttr]
     refine AW.ift (by rfl) ?_
     refine AW.rseq ?_
     try simp only [wm, ↓wk, ↓wl, nq, evV, ↓reduceIte, sevalprocAttr]
     refine evTs_pure hFn H (fun _ h => f11_ok h) (by rfl) (by rfl) (by rfl) (by rfl) (fun _ => rfl) ?_ <;> clear H <;> intro r_826 H
     try simp only [eL, wm, ↓wk, ↓wl, nq, evV, ↓reduceIte, sevalprocAttr]
     refine AW.ret ?_
     refine seqQ.ret ?_
     cases H
     exact hQ _ _ _ _ (.inr rfl) (by simp only [resVs, omap, resV, wm, ↓wk, ↓wl, nq, evV, ↓reduceIte, sevalprocAttr]; rfl) (hand_plain (by rfl)) (by first | exact Or.inl rfl | exact Or.inr rfl)
    ·try simp only [wm, ↓wk, ↓wl, nq, evV, ↓reduceIte, sevalprocAttr]
     refine evTs_ifg H (by rfl) ?_ ?_ <;> clear H <;> intro H
     ·try simp only [wm, ↓wk, ↓wl, nq, evV, ↓reduceIte, sevalprocAttr]
      refine AW.ift (by rfl) ?_
      refine AW.rseq ?_
      try simp only [wm, ↓wk, ↓wl, nq, evV, ↓reduceIte, sevalprocAttr]
      refine evTs_pure hFn H (fun _ h => f11_ok h) (by rfl) (by rfl) (by rfl) (by rfl) (fun _ => rfl) ?_ <;> clear H <;> intro r_827 H
      try simp only [eL, wm, ↓wk, ↓wl, nq, evV, ↓reduceIte, sevalprocAttr]
      refine AW.ret ?_
      refine seqQ.ret ?_
      cases H
      exact hQ _ _ _ _ (.inr rfl) (by simp only [resVs, omap, resV, wm, ↓wk, ↓wl, nq, evV, ↓reduceIte, sevalprocAttr]; rfl) (hand_plain (by rfl)) (by first | exact Or.inl rfl | exact Or.inr rfl)
     ·try simp only [wm, ↓wk, ↓wl, nq, evV, ↓reduceIte, sevalprocAttr]
      refine evTs_ifg H (by rfl) ?_ ?_ <;> clear H <;> intro H
      ·try simp only [wm, ↓wk, ↓wl, nq, evV, ↓reduceIte, sevalprocAttr]
       refine AW.ift (by rfl) ?_
       refine AW.rseq ?_
       try simp only [wm, ↓wk, ↓wl, nq, evV, ↓reduceIte, sevalprocAttr]
       refine evTs_pure hFn H (fun _ h => f11_ok h) (by rfl) (by rfl) (by rfl) (by rfl) (fun _ => rfl) ?_ <;> clear H <;> intro r_828 H
       try simp only [eL, wm, ↓wk, ↓wl, nq, evV, ↓reduceIte, sevalprocAttr]
       refine AW.ret ?_
       refine seqQ.ret ?_
       cases H
       exact hQ _ _ _ _ (.inr rfl) (by simp only [resVs, omap, resV, wm, ↓wk, ↓wl, nq, evV, ↓reduceIte, sevalprocAttr]; rfl) (hand_plain (by rfl)) (by first | exact Or.inl rfl | exact Or.inr rfl)
      ·try simp only [wm, ↓wk, ↓wl, nq, evV, ↓reduceIte, sevalprocAttr]
       refine evTs_ifg H (by rfl) ?_ ?_ <;> clear H <;> intro H
       ·try simp only [wm, ↓wk, ↓wl, nq, evV, ↓reduceIte, sevalprocAttr]
        refine AW.ift (by rfl) ?_
        refine AW.rseq ?_
        try simp only [wm, ↓wk, ↓wl, nq, evV, ↓reduceIte, sevalprocAttr]
        refine evTs_pure hFn H (fun _ h => f11_ok h) (by rfl) (by rfl) (by rfl) (by rfl) (fun _ => rfl) ?_ <;> clear H <;> intro r_829 H
        try simp only [eL, wm, ↓wk, ↓wl, nq, evV, ↓reduceIte, sevalprocAttr]
        refine AW.ret ?_
        refine seqQ.ret ?_
        cases H
        exact hQ _ _ _ _ (.inr rfl) (by simp only [resVs, omap, resV, wm, ↓wk, ↓wl, nq, evV, ↓reduceIte, sevalprocAttr]; rfl) (hand_plain (by rfl)) (by first | exact Or.inl rfl | exact Or.inr rfl)
       ·try simp only [wm, ↓wk, ↓wl, nq, evV, ↓reduceIte, sevalprocAttr]
        refine AW.ifc H (by rfl) ?_ ?_ <;> clear H <;> intro H
        ·refine AW.rseq ?_
         try simp only [wm, ↓wk, ↓wl, nq, evV, ↓reduceIte, sevalprocAttr]
         refine evTs_pure hFn H (fun _ h => f11_ok h) (by rfl) (by rfl) (by rfl) (by rfl) (fun _ => rfl) ?_ <;> clear H <;> intro r_830 H
         try simp only [eL, wm, ↓wk, ↓wl, nq, evV, ↓reduceIte, sevalprocAttr]
         refine AW.ret ?_
         refine seqQ.ret ?_
         cases H
         exact hQ _ _ _ _ (.inr rfl) (by simp only [resVs, omap, resV, wm, ↓wk, ↓wl, nq, evV, ↓reduceIte, sevalprocAttr]; rfl) (hand_plain (by rfl)) (by first | exact Or.inl rfl | exact Or.inr rfl)
        ·refine AW.skip ?_
         refine seqQ.norm ?_
         refine AW.rseq ?_
         try simp only [wm, ↓wk, ↓wl, nq, evV, ↓reduceIte, sevalprocAttr]
         refine AW.rseq ?_
         try simp only [wm, ↓wk, ↓wl, nq, evV, ↓reduceIte, sevalprocAttr]
         refine evTs_pure hFn H (fun _ h => f34_ok h) (by rfl) (by rfl) (by rfl) (by rfl) (fun _ => rfl) ?_ <;> clear H <;> intro r_831 H
         try simp only [eL, wm, ↓wk, ↓wl, nq, evV, ↓reduceIte, sevalprocAttr]
         refine AW.sseq ?_
         refine AW.rseq ?_
         try simp only [wm, ↓wk, ↓wl, nq, evV, ↓reduceIte, sevalprocAttr]
         refine evTs_ifg H (by rfl) ?_ ?_ <;> clear H <;> intro H
         ·try simp only [wm, ↓wk, ↓wl, nq, evV, ↓reduceIte, sevalprocAttr]
          refine AW.ift (by rfl) ?_
          refine AW.rseq ?_
          try simp only [wm, ↓wk, ↓wl, nq, evV, ↓reduceIte, sevalprocAttr]
          refine evTs_pure hFn H (fun _ h => f11_ok h) (by rfl) (by rfl) (by rfl) (by rfl) (fun _ => rfl) ?_ <;> clear H <;> intro r_853 H
          try simp only [eL, wm, ↓wk, ↓wl, nq, evV, ↓reduceIte, sevalprocAttr]
          refine AW.ret ?_
          refine seqQ.ret ?_
          cases H
          exact hQ _ _ _ _ (.inr rfl) (by simp only [resVs, omap, resV, wm, ↓wk, ↓wl, nq, evV, ↓reduceIte, sevalprocAttr]; rfl) (hand_plain (by rfl)) (by first | exact Or.inl rfl | exact Or.inr rfl)
         ·try simp only [wm, ↓wk, ↓wl, nq, evV, ↓reduceIte, sevalprocAttr]
          refine evTs_at (enc := eApiProfile) H (by rfl) (by rfl) ?_ <;> clear H <;> intro x_854 H
          try simp only [eApiProfile, eL, eM, wm, ↓wk, ↓wl, nq, evV, ↓reduceIte, sevalprocAttr]
          refine evTs_ifg H (by rfl) ?_ ?_ <;> clear H <;> intro H
          ·try simp only [wm, ↓wk, ↓wl, nq, evV, ↓reduceIte, sevalprocAttr]
           refine AW.ift (by rfl) ?_
           refine AW.rseq ?_
           try simp only [wm, ↓wk, ↓wl, nq, evV, ↓reduceIte, sevalprocAttr]
           refine evTs_pure hFn H (fun _ h => f11_ok h) (by rfl) (by rfl) (by rfl) (by rfl) (fun _ => rfl) ?_ <;> clear H <;> intro r_855 H
           try simp only [eL, wm, ↓wk, ↓wl, nq, evV, ↓reduceIte, sevalprocAttr]
           refine AW.ret ?_
           refine seqQ.ret ?_
           cases H
           exact hQ _ _ _ _ (.inr rfl) (by simp only [resVs, omap, resV, wm, ↓wk, ↓wl, nq, evV, ↓reduceIte, sevalprocAttr]; rfl) (hand_plain (by rfl)) (by first | exact Or.inl rfl | exact Or.inr rfl)
          ·try simp only [wm, ↓wk, ↓wl, nq, evV, ↓reduceIte, sevalprocAttr]
           refine evTs_at (enc := eApiProfile) H (by rfl) (by rfl) ?_ <;> clear H <;> intro x_856 H
           try simp only [eApiProfile, eL, eM, wm, ↓wk, ↓wl, nq, evV, ↓reduceIte, sevalprocAttr]
           refine evTs_ifg H (by rfl) ?_ ?_ <;> clear H <;> intro H
           ·try simp only [wm, ↓wk, ↓wl, nq, evV, ↓reduceIte, sevalprocAttr]
            refine AW.ift (by rfl) ?_
            refine AW.rseq ?_
            try simp only [wm, ↓wk, ↓wl, nq, evV, ↓reduceIte, sevalprocAttr]
            refine evTs_pure hFn H (fun _ h => f11_ok h) (by rfl) (by rfl) (by rfl) (by rfl) (fun _ => rfl) ?_ <;> clear H <;> intro r_857 H
            try simp only [eL, wm, ↓wk, ↓wl, nq, evV, ↓reduceIte, sevalprocAttr]
            refine AW.ret ?_
            refine seqQ.ret ?_
            cases H
            exact hQ _ _ _ _ (.inr rfl) (by simp only [resVs, omap, resV, wm, ↓wk, ↓wl, nq, evV, ↓reduceIte, sevalprocAttr]; rfl) (hand_plain (by rfl)) (by first | exact Or.inl rfl | exact Or.inr rfl)
           ·try simp only [wm, ↓wk, ↓wl, nq, evV, ↓reduceIte, sevalprocAttr]
            refine evTs_pure hFn H (fun _ h => f35_ok h) (by rfl) (by rfl) (by rfl) (by rfl) (fun _ => rfl) ?_ <;> clear H <;> intro r_858 H
            try simp only [eL, wm, ↓wk, ↓wl, nq, evV, ↓reduceIte, sevalprocAttr]
            refine AW.ifc H (by rfl) ?_ ?_ <;> clear H <;> intro H
            ·refine AW.rseq ?_
             try simp only [wm, ↓wk, ↓wl, nq, evV, ↓reduceIte, sevalprocAttr]
             refine evTs_pure hFn H (fun _ h => f11_ok h) (by rfl) (by rfl) (by rfl) (by rfl) (fun _ => rfl) ?_ <;> clear H <;> intro r_859 H
             try simp only [eL, wm, ↓wk, ↓wl, nq, evV, ↓reduceIte, sevalprocAttr]
             refine AW.ret ?_
             refine seqQ.ret ?_
             cases H
             exact hQ _ _ _ _ (.inr rfl) (by simp only [resVs, omap, resV, wm, ↓wk, ↓wl, nq, evV, ↓reduceIte, sevalprocAttr]; rfl) (hand_plain (by rfl)) (by first | exact Or.inl rfl | exact Or.inr rfl)
            ·refine AW.skip ?_
             refine seqQ.norm ?_
             refine AW.rseq ?_
             try simp only [wm, ↓wk, ↓wl, nq, evV, ↓reduceIte, sevalprocAttr]
             refine evTs_at (enc := eApiProfile) H (by rfl) (by rfl) ?_ <;> clear H <;> intro x_860 H
             try simp only [eApiProfile, eL, eM, wm, ↓wk, ↓wl, nq, evV, ↓reduceIte, sevalprocAttr]
             refine evTs_pure hFn H (fun _ h => f22_ok h) (by rfl) (by rfl) (by rfl) (by rfl) (fun _ => rfl) ?_ <;> clear H <;> intro r_861 H
             try simp only [eL, wm, ↓wk, ↓wl, nq, evV, ↓reduceIte, sevalprocAttr]
             refine AW.sseq ?_
             refine AW.rseq ?_
             try simp only [wm, ↓wk, ↓wl, nq, evV, ↓reduceIte, sevalprocAttr]
             refine AW.ifc H (by rfl) ?_ ?_ <;> clear H <;> intro H
             ·refine AW.rseq ?_
              try simp only [wm, ↓wk, ↓wl, nq, evV, ↓reduceIte, sevalprocAttr]
              refine evTs_ifg H (by rfl) ?_ ?_ <;> clear H <;> intro H
              ·try simp only [wm, ↓wk, ↓wl, nq, evV, ↓reduceIte, sevalprocAttr]
               refine evTs_pure hFn H (fun _ h => f11_ok h) (by rfl) (by rfl) (by rfl) (by rfl) (fun _ => rfl) ?_ <;> clear H <;> intro r_863 H
               try simp only [eL, wm, ↓wk, ↓wl, nq, evV, ↓reduceIte, sevalprocAttr]
               refine AW.ret ?_
               refine seqQ.ret ?_
               cases H
               exact hQ _ _ _ _ (.inr rfl) (by simp only [resVs, omap, resV, wm, ↓wk, ↓wl, nq, evV, ↓reduceIte, sevalprocAttr]; rfl) (hand_plain (by rfl)) (by first | exact Or.inl rfl | exact Or.inr rfl)
              ·try simp only [wm, ↓wk, ↓wl, nq, evV, ↓reduceIte, sevalprocAttr]
               refine AW.ret ?_
               refine seqQ.ret ?_
               cases H
               exact hQ _ _ _ _ (.inr rfl) (by simp only [resVs, omap, resV, wm, ↓wk, ↓wl, nq, evV, ↓reduceIte, sevalprocAttr]; rfl) (hand_plain (by rfl)) (by first | exact Or.inl rfl | exact Or.inr rfl)
             ·refine AW.skip ?_
              refine seqQ.norm ?_
              refine AW.rseq ?_
              try simp only [wm, ↓wk, ↓wl, nq, evV, ↓reduceIte, sevalprocAttr]
              refine AW.rseq ?_
              try simp only [wm, ↓wk, ↓wl, nq, evV, ↓reduceIte, sevalprocAttr]
              refine evTs_pure hFn H (fun _ h => f36_ok h) (by rfl) (by rfl) (by rfl) (by rfl) (fun _ => rfl) ?_ <;> clear H <;> intro r_910 H
              try simp only [eL, wm, ↓wk, ↓wl, nq, evV, ↓reduceIte, sevalprocAttr]
              refine AW.rseq ?_
              try simp only [wm, ↓wk, ↓wl, nq, evV, ↓reduceIte, sevalprocAttr]
              refine evTs_pure hFn H (fun _ h => f37_im h) (by rfl) (by rfl) (by rfl) (by rfl) (fun _ => rfl) ?_ <;> clear H <;> intro r_938 H
              try simp only [eL, wm, ↓wk, ↓wl, nq, evV, ↓reduceIte, sevalprocAttr]
              refine AW.rseq ?_
              try simp only [wm, ↓wk, ↓wl, nq, evV, ↓reduceIte, sevalprocAttr]
              refine evTs_pure hFn H (fun _ h => f12_im h) (by rfl) (by rfl) (by rfl) (by rfl) (fun _ => rfl) ?_ <;> clear H <;> intro r_939 H
              try simp only [eL, wm, ↓wk, ↓wl, nq, evV, ↓reduceIte, sevalprocAttr]
              refine AW.sseq ?_
              refine AW.rseq ?_
              try simp only [wm, ↓wk, ↓wl, nq, evV, ↓reduceIte, sevalprocAttr]
              refine evTs_ifg H (by rfl) ?_ ?_ <;> clear H <;> intro H
              ·try simp only [wm, ↓wk, ↓wl, nq, evV, ↓reduceIte, sevalprocAttr]
               refine AW.ift (by rfl) ?_
               refine AW.rseq ?_
               try simp only [wm, ↓wk, ↓wl, nq, evV, ↓reduceIte, sevalprocAttr]
               refine AW.ret ?_
               refine seqQ.ret ?_
               cases H
               exact hQ _ _ _ _ (.inr rfl) (by simp only [resVs, omap, resV, wm, ↓wk, ↓wl, nq, evV, ↓reduceIte, sevalprocAttr]; rfl) (hand_plain (by rfl)) (by first | exact Or.inl rfl | exact Or.inr rfl)
              ·try simp only [wm, ↓wk, ↓wl, nq, evV, ↓reduceIte, sevalprocAttr]
               refine evTs_ifg H (by rfl) ?_ ?_ <;> clear H <;> intro H
               ·try simp only [wm, ↓wk, ↓wl, nq, evV, ↓reduceIte, sevalprocAttr]
                refine AW.ift (by rfl) ?_
                refine AW.rseq ?_
                try simp only [wm, ↓wk, ↓wl, nq, evV, ↓reduceIte, sevalprocAttr]
                refine AW.ret ?_
                refine seqQ.ret ?_
                cases H
                exact hQ _ _ _ _ (.inr rfl) (by simp only [resVs, omap, resV, wm, ↓wk, ↓wl, nq, evV, ↓reduceIte, sevalprocAttr]; rfl) (hand_plain (by rfl)) (by first | exact Or.inl rfl | exact Or.inr rfl)
               ·try simp only [wm, ↓wk, ↓wl, nq, evV, ↓reduceIte, sevalprocAttr]
                refine evTs_pure hFn H (fun _ h => f18_ok h) (by rfl) (by rfl) (by rfl) (by rfl) (fun _ => rfl) ?_ <;> clear H <;> intro r_954 H
                try simp only [eL, wm, ↓wk, ↓wl, nq, evV, ↓reduceIte, sevalprocAttr]
                refine evTs_ifg H (by rfl) ?_ ?_ <;> clear H <;> intro H
                ·try simp only [wm, ↓wk, ↓wl, nq, evV, ↓reduceIte, sevalprocAttr]
                 refine AW.ift (by rfl) ?_
                 refine AW.rseq ?_
                 try simp only [wm, ↓wk, ↓wl, nq, evV, ↓reduceIte, sevalprocAttr]
                 refine AW.ret ?_
                 refine seqQ.ret ?_
                 cases H
                 exact hQ _ _ _ _ (.inr rfl) (by simp only [resVs, omap, resV, wm, ↓wk, ↓wl, nq, evV, ↓reduceIte, sevalprocAttr]; rfl) (hand_plain (by rfl)) (by first | exact Or.inl rfl | exact Or.inr rfl)
                ·try simp only [wm, ↓wk, ↓wl, nq, evV, ↓reduceIte, sevalprocAttr]
                 refine evTs_pure hFn H (fun _ h => f38_ok h) (by rfl) (by rfl) (by rfl) (by rfl) (fun _ => rfl) ?_ <;> clear H <;> intro r_955 H
                 try simp only [eL, wm, ↓wk, ↓wl, nq, evV, ↓reduceIte, sevalprocAttr]
                 refine AW.ifc H (by rfl) ?_ ?_ <;> clear H <;> intro H
                 ·refine AW.rseq ?_
                  try simp only [wm, ↓wk, ↓wl, nq, evV, ↓reduceIte, sevalprocAttr]
                  refine AW.ret ?_
                  refine seqQ.ret ?_
                  cases H
                  exact hQ _ _ _ _ (.inr rfl) (by simp only [resVs, omap, resV, wm, ↓wk, ↓wl, nq, evV, ↓reduceIte, sevalprocAttr]; rfl) (hand_plain (by rfl)) (by first | exact Or.inl rfl | exact Or.inr rfl)
                 ·refine AW.skip ?_
                  refine seqQ.norm ?_
                  refine AW.sseq ?_
                  refine AW.rseq ?_
                  try simp only [wm, ↓wk, ↓wl, nq, evV, ↓reduceIte, sevalprocAttr]
                  refine AW.bend ?_
                  refine AW.iter H ((Le.tz [0] [0, 1, 5, 8, 169, 170, 171] (by simp only [f8_L1c, wm, wmr, rrm, ↓wk, ↓wl, evV, ↓reduceIte, sevalprocAttr] <;> rfl))) ?_ <;> clear H
                  rintro ⟨v_962, x_963⟩ x_ st0_ H hst_
                  rw [f8_L1c] at hst_
                  simp only [f8_L1] at H
                  subst hst_
                  refine AW.rseq ?_
                  try simp only [wm, ↓wk, ↓wl, nq, evV, ↓reduceIte, sevalprocAttr]
                  refine AW.sseq ?_
                  refine AW.ifc H (by rfl) ?_ ?_ <;> clear H <;> intro H
                  ·refine AW.skip ?_
                   refine seqQ.norm ?_
                   refine AW.bseq ?_
                   refine AW.rseq ?_
                   try simp only [wm, ↓wk, ↓wl, nq, evV, ↓reduceIte, sevalprocAttr]
                   refine evTs_at (enc := (AV.int .i64)) H (by rfl) (by rfl) ?_ <;> clear H <;> intro x_968 H
                   try simp only [wm, ↓wk, ↓wl, nq, evV, ↓reduceIte, sevalprocAttr]
                   refine AW.rseq ?_
                   try simp only [wm, ↓wk, ↓wl, nq, evV, ↓reduceIte, sevalprocAttr]
                   refine AW.rseq ?_
                   try simp only [wm, ↓wk, ↓wl, nq, evV, ↓reduceIte, sevalprocAttr]
                   refine evTs_ifg H (by rfl) ?_ ?_ <;> clear H <;> intro H
                   ·try simp only [wm, ↓wk, ↓wl, nq, evV, ↓reduceIte, sevalprocAttr]
                    refine AW.ifc H (by rfl) ?_ ?_ <;> clear H <;> intro H
                    ·refine AW.rseq ?_
                     try simp only [wm, ↓wk, ↓wl, nq, evV, ↓reduceIte, sevalprocAttr]
                     refine evTs_pure hFn H (fun _ h => f36_ok h) (by rfl) (by rfl) (by rfl) (by rfl) (fun _ => rfl) ?_ <;> clear H <;> intro r_969 H
                     try simp only [eL, wm, ↓wk, ↓wl, nq, evV, ↓reduceIte, sevalprocAttr]
                     refine AW.rseq ?_
                     try simp only [wm, ↓wk, ↓wl, nq, evV, ↓reduceIte, sevalprocAttr]
                     refine AW.ifc H (by rfl) ?_ ?_ <;> clear H <;> intro H
                     ·refine AW.rseq ?_
                      try simp only [wm, ↓wk, ↓wl, nq, evV, ↓reduceIte, sevalprocAttr]
                      refine AW.ret ?_
                      refine blkQ.ret ?_
                      refine loopQ.ret H ?_ <;> clear H <;> intro H
                      try dsimp only at H
                      refine blk0.ret ?_
                      refine seqQ.ret ?_
                      cases H
                      exact hQ _ _ _ _ (.inr rfl) (by simp only [resVs, omap, resV, wm, ↓wk, ↓wl, nq, evV, ↓reduceIte, sevalprocAttr]; rfl) (hand_plain (by rfl)) (by first | exact Or.inl rfl | exact Or.inr rfl)
                     ·refine AW.skip ?_
                      refine blkQ.norm ?_
                      refine AW.rend ?_
                      try simp only [wm, ↓wk, ↓wl, nq, evV, ↓reduceIte, sevalprocAttr]
                      exact loopQ.next H ((Le.tz [0] [0, 1, 5, 8, 169, 170, 171] (by simp only [f8_L1c, wm, wmr, rrm, ↓wk, ↓wl, evV, ↓reduceIte, sevalprocAttr] <;> rfl)))
                    ·refine AW.skip ?_
                     refine blkQ.norm ?_
                     refine AW.rend ?_
                     try simp only [wm, ↓wk, ↓wl, nq, evV, ↓reduceIte, sevalprocAttr]
                     exact loopQ.next H ((Le.tz [0] [0, 1, 5, 8, 169, 170, 171] (by simp only [f8_L1c, wm, wmr, rrm, ↓wk, ↓wl, evV, ↓reduceIte, sevalprocAttr] <;> rfl)))
                   ·try simp only [wm, ↓wk, ↓wl, nq, evV, ↓reduceIte, sevalprocAttr]
                    refine AW.iff (by rfl) ?_
                    refine AW.skip ?_
                    refine blkQ.norm ?_
                    refine AW.rend ?_
                    try simp only [wm, ↓wk, ↓wl, nq, evV, ↓reduceIte, sevalprocAttr]
                    exact loopQ.next H ((Le.tz [0] [0, 1, 5, 8, 169, 170, 171] (by simp only [f8_L1c, wm, wmr, rrm, ↓wk, ↓wl, evV, ↓reduceIte, sevalprocAttr] <;> rfl)))
                  ·refine AW.exit ?_
                   refine seqQ.exit ?_
                   refine loopQ.exit H ?_ <;> clear H <;> intro H
                   try dsimp only at H
                   refine blk0.here ?_
                   refine seqQ.norm ?_
                   refine AW.rseq ?_
                   try simp only [wm, ↓wk, ↓wl, nq, evV, ↓reduceIte, sevalprocAttr]
                   refine evTs_pure hFn H (fun _ h => f11_ok h) (by rfl) (by rfl) (by rfl) (by rfl) (fun _ => rfl) ?_ <;> clear H <;> intro r_970 H
                   try simp only [eL, wm, ↓wk, ↓wl, nq, evV, ↓reduceIte, sevalprocAttr]
                   refine AW.ret ?_
                   cases H
                   exact hQ _ _ _ _ (.inr rfl) (by simp only [resVs, omap, resV, wm, ↓wk, ↓wl, nq, evV, ↓reduceIte, sevalprocAttr]; rfl) (hand_plain (by rfl)) (by first | exact Or.inl rfl | exact Or.inr rfl)
end Go.Proofs.Ythikbfhdebaceaa
