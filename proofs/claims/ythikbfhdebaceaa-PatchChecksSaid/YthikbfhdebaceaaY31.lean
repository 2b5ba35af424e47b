import Derived.Test.YthikbfhdebaceaaX2
import Derived.Test.YthikbfhdebaceaaM6
import Derived.Test.YthikbfhdebaceaaProg
import Derived.KernelRfl
namespace Go.Proofs.Ythikbfhdebaceaa
open Go Go.Ab

set_option maxHeartbeats 1000000
set_option maxRecDepth 4000
set_option linter.unusedSimpArgs false
set_option linter.unusedVariables false
noncomputable def f46_L2 (l_941 : (List ApiFixture)) (channel_942 : Int) (n_1000 : Int) : Lp (Int × (List ApiFixture)) ((List ApiFixture)) where
  body := fun (i_1030, out_1031) => (if (decide (i_1030 < ((l_941.length : Nat) : Int))) = true then (at? l_941 i_1030).bind fun x_1037 => (if (decide (x_1037.fChannel = channel_942)) = true then (at? l_941 i_1030).bind fun x_1038 => (if (decide (x_1038.fPart = n_1000)) = true then (at? l_941 i_1030).bind fun x_1039 => (app? 72 out_1031 ([x_1039])).bind fun out_1040 => (some (.next ((IntKind.i64.wrap (i_1030 + 1)), out_1040))) else (some (.next ((IntKind.i64.wrap (i_1030 + 1)), out_1031)))) else (some (.next ((IntKind.i64.wrap (i_1030 + 1)), out_1031)))) else (some (.brk out_1031)))
  cst := fun (i_1030, out_1031) => ⟨put (put (put (put (put (fun _ => .junk) 7 (.int .i64 i_1030)) 6 (.int .i64 n_1000)) 5 (.row 7 0 0 out_1031.length)) 1 (.int .i64 channel_942)) 0 (.sl 7 false (l_941.map eApiFixture)), [.els 7 (out_1031.map eApiFixture)]⟩
theorem f46_L2c (l_941 : (List ApiFixture)) (channel_942 : Int) (n_1000 : Int) (i_1030 : Int) (out_1031 : (List ApiFixture)) : (f46_L2 l_941 channel_942 n_1000).cst (i_1030, out_1031) = ⟨put (put (put (put (put (fun _ => .junk) 7 (.int .i64 i_1030)) 6 (.int .i64 n_1000)) 5 (.row 7 0 0 out_1031.length)) 1 (.int .i64 channel_942)) 0 (.sl 7 false (l_941.map eApiFixture)), [.els 7 (out_1031.map eApiFixture)]⟩ := rfl
noncomputable def f46_L1 (l_941 : (List ApiFixture)) (channel_942 : Int) : Lp (Int × (List ApiFixture)) ((List ApiFixture)) where
  body := fun (n_1000, out_1001) => (if (decide (n_1000 ≤ 64)) = true then (Lp.run (f46_L2 l_941 channel_942 n_1000) (0, out_1001)).bind fun out_1036 => (some (.next ((IntKind.i64.wrap (n_1000 + 1)), out_1036))) else (some (.brk out_1001)))
  cst := fun (n_1000, out_1001) => ⟨put (put (put (put (fun _ => .junk) 6 (.int .i64 n_1000)) 5 (.row 7 0 0 out_1001.length)) 1 (.int .i64 channel_942)) 0 (.sl 7 false (l_941.map eApiFixture)), [.els 7 (out_1001.map eApiFixture)]⟩
theorem f46_L1c (l_941 : (List ApiFixture)) (channel_942 : Int) (n_1000 : Int) (out_1001 : (List ApiFixture)) : (f46_L1 l_941 channel_942).cst (n_1000, out_1001) = ⟨put (put (put (put (fun _ => .junk) 6 (.int .i64 n_1000)) 5 (.row 7 0 0 out_1001.length)) 1 (.int .i64 channel_942)) 0 (.sl 7 false (l_941.map eApiFixture)), [.els 7 (out_1001.map eApiFixture)]⟩ := rfl
def c46_0 : C := .cond (.t 9) (.skip) (.exit 0)
def c46_1 : C := .cond (.t 15) (.skip) (.exit 2)
def c46_2 : C := .cond (.t 33) (.reg [iI 34 (.mv (.t 5)), iI 35 (.mv (.t 0)), iI 36 (.mv (.t 7)), iI 37 (.iaddr 7 (.t 35) (.t 36)), iI 38 (.load 7 (.t 37)), iI 39 (.mkslp 7 1 (.agg [(.int .i64 0), (.int .i64 0), (.str []), (.int .i64 0), (.int .i64 0), (.int .i64 0), (.str [])]) [(0, (.t 38))]), iI 40 (.append 7 72 (.t 34) (.t 39)), iI 5 (.mv (.t 40))]) (.skip)
def c46_3 : C := .reg [iI 16 (.mv (.t 7)), iI 17 (.bin .add (.t 16) (.c (.int .i64 1))), iI 7 (.mv (.t 17))]
def c46_4 : C := .seq (.block 3 (.seq (.reg [iI 18 (.mv (.t 0)), iI 19 (.mv (.t 7)), iI 20 (.iaddr 7 (.t 18) (.t 19)), iI 21 (.faddr 0 (.t 20)), iI 22 (.load 0 (.t 21)), iI 23 (.mv (.t 1)), iI 24 (.bin .eql (.t 22) (.t 23)), iI 25 (.mv (.t 24)), iG (some 26) 25 true (.mv (.t 0)), iG (some 27) 25 true (.mv (.t 7)), iG (some 28) 25 true (.iaddr 7 (.t 26) (.t 27)), iG (some 29) 25 true (.faddr 1 (.t 28)), iG (some 30) 25 true (.load 0 (.t 29)), iG (some 31) 25 true (.mv (.t 6)), iG (some 32) 25 true (.bin .eql (.t 30) (.t 31)), iI 33 (.pick (.t 25) (.t 32) (.c (.bool false)))]) c46_2)) c46_3
def c46_5 : C := .block 2 (.loop (.seq (.seq (.reg [iI 12 (.mv (.t 7)), iI 13 (.mv (.t 0)), iI 14 (.len 0 (.t 13)), iI 15 (.bin .lss (.t 12) (.t 14))]) c46_1) c46_4))
def c46_6 : C := .reg [iI 10 (.mv (.t 6)), iI 11 (.bin .add (.t 10) (.c (.int .i64 1))), iI 6 (.mv (.t 11))]
def c46_7 : C := .seq (.block 1 (.seq (.reg [iI 7 (.mv (.c (.int .i64 0)))]) c46_5)) c46_6
def c46_8 : C := .block 0 (.loop (.seq (.seq (.reg [iI 8 (.mv (.t 6)), iI 9 (.bin .leq (.t 8) (.c (.int .i64 64)))]) c46_0) c46_7))
def c46_9 : C := .seq (.reg [iI 41 (.mv (.t 5)), iI 4 (.mv (.t 41))]) .ret
def c46_10 : C := .seq (.seq (.reg [iI 6 (.mv (.c (.int .i64 1)))]) c46_8) c46_9
def c46_11 : C := .seq (.reg [iI 5 (.mv (.c (.sl 7 true [])))]) c46_10
def ir46 : C := .seq (.reg [iI 4 (.mv (.c (.sl 7 true [])))]) c46_11
theorem fd46 : fd? Try.prog 46 = some (42, [.slot 4], ir46) := by kernel_rfl
noncomputable def f46 (l_941 : (List ApiFixture)) (channel_942 : Int) : Option ((List ApiFixture)) :=
  (Lp.run (f46_L1 l_941 channel_942) (1, [])).bind fun out_1019 => (some out_1019)
theorem f46_ok {l_941 : (List ApiFixture)} {channel_942 : Int} {r_ : (List ApiFixture)} (H : f46 l_941 channel_942 = some r_) : Pure Try.prog 46 [.sl 7 false (l_941.map eApiFixture), .int .i64 channel_942] (· = .fr 7 (r_.map eApiFixture)) := by
 refine Pure.walk3 fd46 (some 0) (Nat.le_of_ble_eq_true rfl) (by rfl) fun Q hQ => ?_
 simp only [f46] at H
 refine AW.rseq ?_
 try simp only [wm, ↓wk, ↓wl, nq, evV, ↓reduceIte, sevalprocAttr]
 refine AW.rseq ?_
 try simp only [wm, ↓wk, ↓wl, nq, evV, ↓reduceIte, sevalprocAttr]
 refine AW.sseq ?_
 refine AW.rseq ?_
 try simp only [wm, ↓wk, ↓wl, nq, evV, ↓reduceIte, sevalprocAttr]
 refine AW.bend ?_
 refine AW.iter H ((Le.trans (Le.nilRow (i := 5) (e := 7) (by simp only [↓wk, ↓wl, nq, evV, ↓reduceIte, sevalprocAttr])) (Le.tz [0] [0, 1, 5, 6] (by simp only [f46_L1c, wm, wmr, rrm, ↓wk, ↓wl, evV, ↓reduceIte, sevalprocAttr] <;> rfl)))) ?_ <;> clear H
 rintro ⟨n_1000, out_1001⟩ x_ st0_ H hst_
 rw [f46_L1c] at hst_
 simp only [f46_L1] at H
 subst hst_
 refine AW.sseq ?_
 refine AW.rseq ?_
 try simp only [wm, ↓wk, ↓wl, nq, evV, ↓reduceIte, sevalprocAttr]
 refine AW.ifc H (by rfl) ?_ ?_ <;> clear H <;> intro H
 ·refine AW.skip ?_
  refine seqQ.norm ?_
  refine AW.bseq ?_
  refine AW.rseq ?_
  try simp only [wm, ↓wk, ↓wl, nq, evV, ↓reduceIte, sevalprocAttr]
  refine AW.bend ?_
  refine AW.iter H ((Le.tz [0] [0, 1, 5, 6, 7] (by simp only [f46_L2c, wm, wmr, rrm, ↓wk, ↓wl, evV, ↓reduceIte, sevalprocAttr] <;> rfl))) ?_ <;> clear H
  rintro ⟨i_1030, out_1031⟩ x_ st0_ H hst_
  rw [f46_L2c] at hst_
  simp only [f46_L2] at H
  subst hst_
  refine AW.sseq ?_
  refine AW.rseq ?_
  try simp only [wm, ↓wk, ↓wl, nq, evV, ↓reduceIte, sevalprocAttr]
  refine AW.ifc H (by rfl) ?_ ?_ <;> clear H <;> intro H
  ·refine AW.skip ?_
   refine seqQ.norm ?_
   refine AW.bseq ?_
   refine AW.rseq ?_
   try simp only [wm, ↓wk, ↓wl, nq, evV, ↓reduceIte, sevalprocAttr]
   refine evTs_at (enc := eApiFixture) H (by rfl) (by rfl) ?_ <;> clear H <;> intro x_1037 H
   try simp only [eApiFixture, eL, eM, wm, ↓wk, ↓wl, nq, evV, ↓reduceIte, sevalprocAttr]
   refine evTs_ifg H (by rfl) ?_ ?_ <;> clear H <;> intro H
   ·try simp only [wm, ↓wk, ↓wl, nq, evV, ↓reduceIte, sevalprocAttr]
    refine evTs_at (enc := eApiFixture) H (by rfl) (by rfl) ?_ <;> clear H <;> intro x_1038 H
    try simp only [eApiFixture, eL, eM, wm, ↓wk, ↓wl, nq, evV, ↓reduceIte, sevalprocAttr]
    refine AW.ifc H (by rfl) ?_ ?_ <;> clear H <;> intro H
    ·refine AW.rend ?_
     try simp only [wm, ↓wk, ↓wl, nq, evV, ↓reduceIte, sevalprocAttr]
     refine evTs_at (enc := eApiFixture) H (by rfl) (by rfl) ?_ <;> clear H <;> intro x_1039 H
     try simp only [eApiFixture, eL, eM, wm, ↓wk, ↓wl, nq, evV, ↓reduceIte, sevalprocAttr]
     refine evTs_app (enc := eApiFixture) H (by rfl) (by first | rfl | simp only [List.length_set]) (by rfl) (by rfl) ?_ <;> clear H <;> intro out_1040 H
     try simp only [wm, ↓wk, ↓wl, nq, evV, ↓reduceIte, sevalprocAttr]
     refine blkQ.norm ?_
     refine AW.rend ?_
     try simp only [wm, ↓wk, ↓wl, nq, evV, ↓reduceIte, sevalprocAttr]
     exact loopQ.next H ((Le.tz [1] [0, 1, 5, 6, 7] (by simp only [f46_L2c, wm, wmr, rrm, ↓wk, ↓wl, evV, ↓reduceIte, sevalprocAttr] <;> rfl)))
    ·refine AW.skip ?_
     refine blkQ.norm ?_
     refine AW.rend ?_
     try simp only [wm, ↓wk, ↓wl, nq, evV, ↓reduceIte, sevalprocAttr]
     exact loopQ.next H ((Le.tz [0] [0, 1, 5, 6, 7] (by simp only [f46_L2c, wm, wmr, rrm, ↓wk, ↓wl, evV, ↓reduceIte, sevalprocAttr] <;> rfl)))
   ·try simp only [wm, ↓wk, ↓wl, nq, evV, ↓reduceIte, sevalprocAttr]
    refine AW.iff (by rfl) ?_
    refine AW.skip ?_
    refine blkQ.norm ?_
    refine AW.rend ?_
    try simp only [wm, ↓wk, ↓wl, nq, evV, ↓reduceIte, sevalprocAttr]
    exact loopQ.next H ((Le.tz [0] [0, 1, 5, 6, 7] (by simp only [f46_L2c, wm, wmr, rrm, ↓wk, ↓wl, evV, ↓reduceIte, sevalprocAttr] <;> rfl)))
  ·refine AW.exit ?_
   refine seqQ.exit ?_
   refine loopQ.exit H ?_ <;> clear H <;> intro H
   try dsimp only at H
   refine blk0.here ?_
   refine blkQ.norm ?_
   refine AW.rend ?_
   try simp only [wm, ↓wk, ↓wl, nq, evV, ↓reduceIte, sevalprocAttr]
   exact loopQ.next H ((Le.tz [0] [0, 1, 5, 6] (by simp only [f46_L1c, wm, wmr, rrm, ↓wk, ↓wl, evV, ↓reduceIte, sevalprocAttr] <;> rfl)))
 ·refine AW.exit ?_
  refine seqQ.exit ?_
  refine loopQ.exit H ?_ <;> clear H <;> intro H
  try dsimp only at H
  refine blk0.here ?_
  refine seqQ.norm ?_
  refine AW.rseq ?_
  try simp only [wm, ↓wk, ↓wl, nq, evV, ↓reduceIte, sevalprocAttr]
  refine AW.ret ?_
  cases H
  exact hQ _ _ _ _ (.inr rfl) (by simp only [resVs, omap, resV, wm, ↓wk, ↓wl, nq, evV, ↓reduceIte, sevalprocAttr]; rfl) (hand_1 (by rfl) (by simp) (enc_all _)) (by first | exact Or.inl rfl | exact Or.inr rfl)
theorem f46_im {l_941 : (List ApiFixture)} {channel_942 : Int} {r_ : (List ApiFixture)} (H : f46 l_941 channel_942 = some r_) : Pure Try.prog 46 [.sl 7 false (l_941.map eApiFixture), .int .i64 channel_942] (· = .sl 7 false (r_.map eApiFixture)) := (f46_ok H).unfr (by first | exact enc_fits _ | simp only [frFits, List.all_cons, List.all_nil, enc_fits, Bool.and_self])
def c13_0 : C := .cond (.t 13) (.seq (.reg [iI 14 (.mv (.t 8)), iI 6 (.mv (.c (.sl 7 true []))), iI 7 (.mv (.t 14))]) .ret) (.skip)
def c13_1 : C := .seq (.reg [iI 12 (.mv (.t 8)), iI 13 (.bin .neq (.t 12) (.c (.int .i64 0)))]) c13_0
def c13_2 : C := .seq (.reg [iI 15 (.mv (.t 0)), iI 16 (.mv (.t 2)), iI 17 (.call (.c (.fn 46 [])) [(.t 15), (.t 16)]), iI 6 (.mv (.t 17)), iI 7 (.mv (.c (.int .i64 0)))]) .ret
def c13_3 : C := .seq (.seq (.reg [iI 9 (.mv (.t 0)), iI 10 (.mv (.t 1)), iI 11 (.call (.c (.fn 17 [])) [(.t 9), (.t 10)]), iI 8 (.mv (.t 11))]) c13_1) c13_2
def ir13 : C := .seq (.reg [iI 6 (.mv (.c (.sl 7 true []))), iI 7 (.mv (.c (.int .i64 0)))]) c13_3
theorem fd13 : fd? Try.prog 13 = some (18, [.slot 6, .slot 7], ir13) := by kernel_rfl
noncomputable def f13 (l_937 : (List ApiFixture)) (profiles_938 : (List ApiProfile)) (channel_939 : Int) : Option ((List ApiFixture) × Int) :=
  (f17 l_937 profiles_938).bind fun r_940 => (if (decide (r_940 ≠ 0)) = true then (some ([], r_940)) else (f46 l_937 channel_939).bind fun r_1041 => (some (r_1041, 0)))
theorem f13_ok {l_937 : (List ApiFixture)} {profiles_938 : (List ApiProfile)} {channel_939 : Int} {r_ : (List ApiFixture) × Int} (H : f13 l_937 profiles_938 channel_939 = some r_) : Pure Try.prog 13 [.sl 7 false (l_937.map eApiFixture), .sl 4 false (profiles_938.map eApiProfile), .int .i64 channel_939] (· = .tup [.fr 7 (r_.1.map eApiFixture), .int .i64 r_.2]) := by
 refine Pure.walk3 fd13 (some 0) (Nat.le_of_ble_eq_true rfl) (by rfl) fun Q hQ => ?_
 simp only [f13] at H
 refine AW.rseq ?_
 try simp only [wm, ↓wk, ↓wl, nq, evV, ↓reduceIte, sevalprocAttr]
 refine AW.sseq ?_
 refine AW.rseq ?_
 try simp only [wm, ↓wk, ↓wl, nq, evV, ↓reduceIte, sevalprocAttr]
 refine evTs_pure hFn H (fun _ h => f17_ok h) (by rfl) (by rfl) (by rfl) (by rfl) (fun _ => rfl) ?_ <;> clear H <;> intro r_940 H
 try simp only [eL, wm, ↓wk, ↓wl, nq, evV, ↓reduceIte, sevalprocAttr]
 refine AW.rseq ?_
 try simp only [wm, ↓wk, ↓wl, nq, evV, ↓reduceIte, sevalprocAttr]
 refine AW.ifc H (by rfl) ?_ ?_ <;> clear H <;> intro H
 ·refine AW.rseq ?_
  try simp only [wm, ↓wk, ↓wl, nq, evV, ↓reduceIte, sevalprocAttr]
  refine AW.ret ?_
  refine seqQ.ret ?_
  cases H
  exact hQ _ _ _ _ (.inr rfl) (by simp only [resVs, omap, resV, wm, ↓wk, ↓wl, nq, evV, ↓reduceIte, sevalprocAttr]; rfl) (hand_k0 (by rfl) (by rfl)) (by first | exact Or.inl rfl | exact Or.inr rfl)
 ·refine AW.skip ?_
  refine seqQ.norm ?_
  refine AW.rseq ?_
  try simp only [wm, ↓wk, ↓wl, nq, evV, ↓reduceIte, sevalprocAttr]
  refine evTs_fr H (fun _ h => f46_ok h) (by rfl) (by rfl) (by rfl) (by rfl) (fun _ => rfl) ?_ <;> clear H <;> intro r_1041 H
  try simp only [eL, wm, ↓wk, ↓wl, nq, evV, ↓reduceIte, sevalprocAttr]
  refine AW.ret ?_
  cases H
  exact hQ _ _ _ _ (.inr rfl) (by simp only [resVs, omap, resV, wm, ↓wk, ↓wl, nq, evV, ↓reduceIte, sevalprocAttr]; rfl) (hand_k (by rfl) (by rfl) (by simp) (enc_all _) (by rfl)) (by first | exact Or.inl rfl | exact Or.inr rfl)
theorem f13_im {l_937 : (List ApiFixture)} {profiles_938 : (List ApiProfile)} {channel_939 : Int} {r_ : (List ApiFixture) × Int} (H : f13 l_937 profiles_938 channel_939 = some r_) : Pure Try.prog 13 [.sl 7 false (l_937.map eApiFixture), .sl 4 false (profiles_938.map eApiProfile), .int .i64 channel_939] (· = .tup [.sl 7 false (r_.1.map eApiFixture), .int .i64 r_.2]) := (f13_ok H).unfr (by first | exact enc_fits _ | simp only [frFits, List.all_cons, List.all_nil, enc_fits, Bool.and_self])
noncomputable def f74_L1 (l_1452 : (List Int)) (n_1453 : Int) : Lp (Int × (List Int)) (Int × (List Int)) where
  body := fun (i_1483, out_1484) => (if (decide (i_1483 < ((l_1452.length : Nat) : Int))) = true then (at? l_1452 i_1483).bind fun x_1499 => (if (decide (x_1499 < n_1453)) = true then (at? l_1452 i_1483).bind fun x_1500 => (app? 8 out_1484 ([x_1500])).bind fun out_1501 => (some (.next ((IntKind.i64.wrap (i_1483 + 1)), out_1501))) else (some (.brk (i_1483, out_1484)))) else (some (.brk (i_1483, out_1484))))
  cst := fun (i_1483, out_1484) => ⟨put (put (put (put (fun _ => .junk) 6 (.int .i64 i_1483)) 5 (.row 0 0 0 out_1484.length)) 1 (.int .i64 n_1453)) 0 (.sl 0 false (l_1452.map (AV.int .i64))), [.els 0 (out_1484.map (AV.int .i64))]⟩
theorem f74_L1c (l_1452 : (List Int)) (n_1453 : Int) (i_1483 : Int) (out_1484 : (List Int)) : (f74_L1 l_1452 n_1453).cst (i_1483, out_1484) = ⟨put (put (put (put (fun _ => .junk) 6 (.int .i64 i_1483)) 5 (.row 0 0 0 out_1484.length)) 1 (.int .i64 n_1453)) 0 (.sl 0 false (l_1452.map (AV.int .i64))), [.els 0 (out_1484.map (AV.int .i64))]⟩ := rfl
def c74_0 : C := .cond (.t 18) (.skip) (.exit 0)
def c74_1 : C := .reg [iI 26 (.mv (.t 6)), iI 27 (.bin .add (.t 26) (.c (.int .i64 1))), iI 6 (.mv (.t 27))]
def c74_2 : C := .block 1 (.seq (.reg [iI 19 (.mv (.t 5)), iI 20 (.mv (.t 0)), iI 21 (.mv (.t 6)), iI 22 (.iaddr 0 (.t 20) (.t 21)), iI 23 (.load 0 (.t 22)), iI 24 (.mkslp 0 1 (.int .i64 0) [(0, (.t 23))]), iI 25 (.append 0 8 (.t 19) (.t 24)), iI 5 (.mv (.t 25))]) c74_1)
def c74_3 : C := .cond (.t 39) (.reg [iI 40 (.mv (.t 5)), iI 41 (.mv (.t 1)), iI 42 (.mkslp 0 1 (.int .i64 0) [(0, (.t 41))]), iI 43 (.append 0 8 (.t 40) (.t 42)), iI 5 (.mv (.t 43))]) (.skip)
def c74_4 : C := .seq (.reg [iI 44 (.mv (.t 5)), iI 45 (.mv (.t 0)), iI 46 (.mv (.t 6)), iI 47 (.slice 0 (.t 45) (some (.t 46)) none), iI 48 (.append 0 8 (.t 44) (.t 47)), iI 4 (.mv (.t 48))]) .ret
def c74_5 : C := .seq (.seq (.reg [iI 28 (.mv (.t 6)), iI 29 (.mv (.t 0)), iI 30 (.len 0 (.t 29)), iI 31 (.bin .eql (.t 28) (.t 30)), iI 32 (.mv (.t 31)), iG (some 33) 32 false (.mv (.t 0)), iG (some 34) 32 false (.mv (.t 6)), iG (some 35) 32 false (.iaddr 0 (.t 33) (.t 34)), iG (some 36) 32 false (.load 0 (.t 35)), iG (some 37) 32 false (.mv (.t 1)), iG (some 38) 32 false (.bin .neq (.t 36) (.t 37)), iI 39 (.pick (.t 32) (.c (.bool true)) (.t 38))]) c74_3) c74_4
def c74_6 : C := .seq (.block 0 (.loop (.seq (.seq (.reg [iI 7 (.mv (.t 6)), iI 8 (.mv (.t 0)), iI 9 (.len 0 (.t 8)), iI 10 (.bin .lss (.t 7) (.t 9)), iI 11 (.mv (.t 10)), iG (some 12) 11 true (.mv (.t 0)), iG (some 13) 11 true (.mv (.t 6)), iG (some 14) 11 true (.iaddr 0 (.t 12) (.t 13)), iG (some 15) 11 true (.load 0 (.t 14)), iG (some 16) 11 true (.mv (.t 1)), iG (some 17) 11 true (.bin .lss (.t 15) (.t 16)), iI 18 (.pick (.t 11) (.t 17) (.c (.bool false)))]) c74_0) c74_2))) c74_5
def c74_7 : C := .seq (.reg [iI 6 (.mv (.c (.int .i64 0)))]) c74_6
def c74_8 : C := .seq (.reg [iI 5 (.mv (.c (.sl 0 true [])))]) c74_7
def ir74 : C := .seq (.reg [iI 4 (.mv (.c (.sl 0 true [])))]) c74_8
theorem fd74 : fd? Try.prog 74 = some (49, [.slot 4], ir74) := by kernel_rfl
noncomputable def f74 (l_1452 : (List Int)) (n_1453 : Int) : Option ((List Int)) :=
  (Lp.run (f74_L1 l_1452 n_1453) (0, [])).bind fun (i_1488, out_1489) => (if (decide (i_1488 = ((l_1452.length : Nat) : Int))) = true then (app? 8 out_1489 ([n_1453])).bind fun out_1490 => (slc? l_1452 i_1488 ((l_1452.length : Nat) : Int)).bind fun s_1491 => (app? 8 out_1490 s_1491).bind fun out_1492 => (some out_1492) else (at? l_1452 i_1488).bind fun x_1493 => (if (decide (x_1493 ≠ n_1453)) = true then (app? 8 out_1489 ([n_1453])).bind fun out_1494 => (slc? l_1452 i_1488 ((l_1452.length : Nat) : Int)).bind fun s_1495 => (app? 8 out_1494 s_1495).bind fun out_1496 => (some out_1496) else (slc? l_1452 i_1488 ((l_1452.length : Nat) : Int)).bind fun s_1497 => (app? 8 out_1489 s_1497).bind fun out_1498 => (some out_1498)))
theorem f74_ok {l_1452 : (List Int)} {n_1453 : Int} {r_ : (List Int)} (H : f74 l_1452 n_1453 = some r_) : Pure Try.prog 74 [.sl 0 false (l_1452.map (AV.int .i64)), .int .i64 n_1453] (· = .fr 0 (r_.map (AV.int .i64))) := by
 refine Pure.walk3 fd74 (some 0) (Nat.le_of_ble_eq_true rfl) (by rfl) fun Q hQ => ?_
 simp only [f74] at H
 refine AW.rseq ?_
 try simp only [wm, ↓wk, ↓wl, nq, evV, ↓reduceIte, sevalprocAttr]
 refine AW.rseq ?_
 try simp only [wm, ↓wk, ↓wl, nq, evV, ↓reduceIte, sevalprocAttr]
 refine AW.rseq ?_
 try simp only [wm, ↓wk, ↓wl, nq, evV, ↓reduceIte, sevalprocAttr]
 refine AW.bseq ?_
 refine AW.iter H ((Le.trans (Le.nilRow (i := 5) (e := 0) (by simp only [↓wk, ↓wl, nq, evV, ↓reduceIte, sevalprocAttr])) (Le.tz [0] [0, 1, 5, 6] (by simp only [f74_L1c, wm, wmr, rrm, ↓wk, ↓wl, evV, ↓reduceIte, sevalprocAttr] <;> rfl)))) ?_ <;> clear H
 rintro ⟨i_1483, out_1484⟩ x_ st0_ H hst_
 rw [f74_L1c] at hst_
 simp only [f74_L1] at H
 subst hst_
 refine AW.sseq ?_
 refine AW.rseq ?_
 try simp only [wm, ↓wk, ↓wl, nq, evV, ↓reduceIte, sevalprocAttr]
 refine evTs_ifg H (by rfl) ?_ ?_ <;> clear H <;> intro H
 ·try simp only [wm, ↓wk, ↓wl, nq, evV, ↓reduceIte, sevalprocAttr]
  refine evTs_at (enc := (AV.int .i64)) H (by rfl) (by rfl) ?_ <;> clear H <;> intro x_1499 H
  try simp only [wm, ↓wk, ↓wl, nq, evV, ↓reduceIte, sevalprocAttr]
  refine AW.ifc H (by rfl) ?_ ?_ <;> clear H <;> intro H
  ·refine AW.skip ?_
   refine seqQ.norm ?_
   refine AW.bend ?_
   refine AW.rseq ?_
   try simp only [wm, ↓wk, ↓wl, nq, evV, ↓reduceIte, sevalprocAttr]
   refine evTs_at (enc := (AV.int .i64)) H (by rfl) (by rfl) ?_ <;> clear H <;> intro x_1500 H
   try simp only [wm, ↓wk, ↓wl, nq, evV, ↓reduceIte, sevalprocAttr]
   refine evTs_app (enc := (AV.int .i64)) H (by rfl) (by first | rfl | simp only [List.length_set]) (by rfl) (by rfl) ?_ <;> clear H <;> intro out_1501 H
   try simp only [wm, ↓wk, ↓wl, nq, evV, ↓reduceIte, sevalprocAttr]
   refine AW.rend ?_
   try simp only [wm, ↓wk, ↓wl, nq, evV, ↓reduceIte, sevalprocAttr]
   refine blk0.norm ?_
   exact loopQ.next H ((Le.tz [1] [0, 1, 5, 6] (by simp only [f74_L1c, wm, wmr, rrm, ↓wk, ↓wl, evV, ↓reduceIte, sevalprocAttr] <;> rfl)))
  ·refine AW.exit ?_
   refine seqQ.exit ?_
   refine loopQ.exit H ?_ <;> clear H <;> intro H
   try dsimp only at H
   refine blkQ.here ?_
   refine AW.sseq ?_
   refine AW.rseq ?_
   try simp only [wm, ↓wk, ↓wl, nq, evV, ↓reduceIte, sevalprocAttr]
   refine evTs_ifg H (by rfl) ?_ ?_ <;> clear H <;> intro H
   ·try simp only [wm, ↓wk, ↓wl, nq, evV, ↓reduceIte, sevalprocAttr]
    refine AW.ift (by rfl) ?_
    refine AW.rend ?_
    try simp only [wm, ↓wk, ↓wl, nq, evV, ↓reduceIte, sevalprocAttr]
    refine evTs_app (enc := (AV.int .i64)) H (by rfl) (by first | rfl | simp only [List.length_set]) (by rfl) (by rfl) ?_ <;> clear H <;> intro out_1502 H
    try simp only [wm, ↓wk, ↓wl, nq, evV, ↓reduceIte, sevalprocAttr]
    refine seqQ.norm ?_
    refine AW.rseq ?_
    try simp only [wm, ↓wk, ↓wl, nq, evV, ↓reduceIte, sevalprocAttr]
    refine evTs_slc (enc := (AV.int .i64)) H (by rfl) (by rfl) (by simp only [loI, hiI, wm, ↓wk, ↓wl, nq, evV, ↓reduceIte, sevalprocAttr]; rfl) (by simp only [loI, hiI, wm, ↓wk, ↓wl, nq, evV, ↓reduceIte, sevalprocAttr]; rfl) ?_ <;> clear H <;> intro s_1503 H
    try simp only [wm, ↓wk, ↓wl, nq, evV, ↓reduceIte, sevalprocAttr]
    refine evTs_app (enc := (AV.int .i64)) H (by rfl) (by first | rfl | simp only [List.length_set]) (by rfl) (by rfl) ?_ <;> clear H <;> intro out_1504 H
    try simp only [wm, ↓wk, ↓wl, nq, evV, ↓reduceIte, sevalprocAttr]
    refine AW.ret ?_
    cases H
    exact hQ _ _ _ _ (.inr rfl) (by simp only [resVs, omap, resV, wm, ↓wk, ↓wl, nq, evV, ↓reduceIte, sevalprocAttr]; rfl) (hand_1 (by rfl) (by simp) (enc_all _)) (by first | exact Or.inl rfl | exact Or.inr rfl)
   ·try simp only [wm, ↓wk, ↓wl, nq, evV, ↓reduceIte, sevalprocAttr]
    refine evTs_at (enc := (AV.int .i64)) H (by rfl) (by rfl) ?_ <;> clear H <;> intro x_1505 H
    try simp only [wm, ↓wk, ↓wl, nq, evV, ↓reduceIte, sevalprocAttr]
    refine AW.ifc H (by rfl) ?_ ?_ <;> clear H <;> intro H
    ·refine AW.rend ?_
     try simp only [wm, ↓wk, ↓wl, nq, evV, ↓reduceIte, sevalprocAttr]
     refine evTs_app (enc := (AV.int .i64)) H (by rfl) (by first | rfl | simp only [List.length_set]) (by rfl) (by rfl) ?_ <;> clear H <;> intro out_1506 H
     try simp only [wm, ↓wk, ↓wl, nq, evV, ↓reduceIte, sevalprocAttr]
     refine seqQ.norm ?_
     refine AW.rseq ?_
     try simp only [wm, ↓wk, ↓wl, nq, evV, ↓reduceIte, sevalprocAttr]
     refine evTs_slc (enc := (AV.int .i64)) H (by rfl) (by rfl) (by simp only [loI, hiI, wm, ↓wk, ↓wl, nq, evV, ↓reduceIte, sevalprocAttr]; rfl) (by simp only [loI, hiI, wm, ↓wk, ↓wl, nq, evV, ↓reduceIte, sevalprocAttr]; rfl) ?_ <;> clear H <;> intro s_1507 H
     try simp only [wm, ↓wk, ↓wl, nq, evV, ↓reduceIte, sevalprocAttr]
     refine evTs_app (enc := (AV.int .i64)) H (by rfl) (by first | rfl | simp only [List.length_set]) (by rfl) (by rfl) ?_ <;> clear H <;> intro out_1508 H
     try simp only [wm, ↓wk, ↓wl, nq, evV, ↓reduceIte, sevalprocAttr]
     refine AW.ret ?_
     cases H
     exact hQ _ _ _ _ (.inr rfl) (by simp only [resVs, omap, resV, wm, ↓wk, ↓wl, nq, evV, ↓reduceIte, sevalprocAttr]; rfl) (hand_1 (by rfl) (by simp) (enc_all _)) (by first | exact Or.inl rfl | exact Or.inr rfl)
    ·refine AW.skip ?_
     refine seqQ.norm ?_
     refine AW.rseq ?_
     try simp only [wm, ↓wk, ↓wl, nq, evV, ↓reduceIte, sevalprocAttr]
     refine evTs_slc (enc := (AV.int .i64)) H (by rfl) (by rfl) (by simp only [loI, hiI, wm, ↓wk, ↓wl, nq, evV, ↓reduceIte, sevalprocAttr]; rfl) (by simp only [loI, hiI, wm, ↓wk, ↓wl, nq, evV, ↓reduceIte, sevalprocAttr]; rfl) ?_ <;> clear H <;> intro s_1509 H
     try simp only [wm, ↓wk, ↓wl, nq, evV, ↓reduceIte, sevalprocAttr]
     refine evTs_app (enc := (AV.int .i64)) H (by rfl) (by first | rfl | simp only [List.length_set]) (by rfl) (by rfl) ?_ <;> clear H <;> intro out_1510 H
     try simp only [wm, ↓wk, ↓wl, nq, evV, ↓reduceIte, sevalprocAttr]
     refine AW.ret ?_
     cases H
     exact hQ _ _ _ _ (.inr rfl) (by simp only [resVs, omap, resV, wm, ↓wk, ↓wl, nq, evV, ↓reduceIte, sevalprocAttr]; rfl) (hand_1 (by rfl) (by simp) (enc_all _)) (by first | exact Or.inl rfl | exact Or.inr rfl)
 ·try simp only [wm, ↓wk, ↓wl, nq, evV, ↓reduceIte, sevalprocAttr]
  refine AW.iff (by rfl) ?_
  refine AW.exit ?_
  refine seqQ.exit ?_
  refine loopQ.exit H ?_ <;> clear H <;> intro H
  try dsimp only at H
  refine blkQ.here ?_
  refine AW.sseq ?_
  refine AW.rseq ?_
  try simp only [wm, ↓wk, ↓wl, nq, evV, ↓reduceIte, sevalprocAttr]
  refine evTs_ifg H (by rfl) ?_ ?_ <;> clear H <;> intro H
  ·try simp only [wm, ↓wk, ↓wl, nq, evV, ↓reduceIte, sevalprocAttr]
   refine AW.ift (by rfl) ?_
   refine AW.rend ?_
   try simp only [wm, ↓wk, ↓wl, nq, evV, ↓reduceIte, sevalprocAttr]
   refine evTs_app (enc := (AV.int .i64)) H (by rfl) (by first | rfl | simp only [List.length_set]) (by rfl) (by rfl) ?_ <;> clear H <;> intro out_1511 H
   try simp only [wm, ↓wk, ↓wl, nq, evV, ↓reduceIte, sevalprocAttr]
   refine seqQ.norm ?_
   refine AW.rseq ?_
   try simp only [wm, ↓wk, ↓wl, nq, evV, ↓reduceIte, sevalprocAttr]
   refine evTs_slc (enc := (AV.int .i64)) H (by rfl) (by rfl) (by simp only [loI, hiI, wm, ↓wk, ↓wl, nq, evV, ↓reduceIte, sevalprocAttr]; rfl) (by simp only [loI, hiI, wm, ↓wk, ↓wl, nq, evV, ↓reduceIte, sevalprocAttr]; rfl) ?_ <;> clear H <;> intro s_1512 H
   try simp only [wm, ↓wk, ↓wl, nq, evV, ↓reduceIte, sevalprocAttr]
   refine evTs_app (enc := (AV.int .i64)) H (by rfl) (by first | rfl | simp only [List.length_set]) (by rfl) (by rfl) ?_ <;> clear H <;> intro out_1513 H
   try simp only [wm, ↓wk, ↓wl, nq, evV, ↓reduceIte, sevalprocAttr]
   refine AW.ret ?_
   cases H
   exact hQ _ _ _ _ (.inr rfl) (by simp only [resVs, omap, resV, wm, ↓wk, ↓wl, nq, evV, ↓reduceIte, sevalprocAttr]; rfl) (hand_1 (by rfl) (by simp) (enc_all _)) (by first | exact Or.inl rfl | exact Or.inr rfl)
  ·try simp only [wm, ↓wk, ↓wl, nq, evV, ↓reduceIte, sevalprocAttr]
   refine evTs_at (enc := (AV.int .i64)) H (by rfl) (by rfl) ?_ <;> clear H <;> intro x_1514 H
   try simp only [wm, ↓wk, ↓wl, nq, evV, ↓reduceIte, sevalprocAttr]
   refine AW.ifc H (by rfl) ?_ ?_ <;> clear H <;> intro H
   ·refine AW.rend ?_
    try simp only [wm, ↓wk, ↓wl, nq, evV, ↓reduceIte, sevalprocAttr]
    refine evTs_app (enc := (AV.int .i64)) H (by rfl) (by first | rfl | simp only [List.length_set]) (by rfl) (by rfl) ?_ <;> clear H <;> intro out_1515 H
    try simp only [wm, ↓wk, ↓wl, nq, evV, ↓reduceIte, sevalprocAttr]
    refine seqQ.norm ?_
    refine AW.rseq ?_
    try simp only [wm, ↓wk, ↓wl, nq, evV, ↓reduceIte, sevalprocAttr]
    refine evTs_slc (enc := (AV.int .i64)) H (by rfl) (by rfl) (by simp only [loI, hiI, wm, ↓wk, ↓wl, nq, evV, ↓reduceIte, sevalprocAttr]; rfl) (by simp only [loI, hiI, wm, ↓wk, ↓wl, nq, evV, ↓reduceIte, sevalprocAttr]; rfl) ?_ <;> clear H <;> intro s_1516 H
    try simp only [wm, ↓wk, ↓wl, nq, evV, ↓reduceIte, sevalprocAttr]
    refine evTs_app (enc := (AV.int .i64)) H (by rfl) (by first | rfl | simp only [List.length_set]) (by rfl) (by rfl) ?_ <;> clear H <;> intro out_1517 H
    try simp only [wm, ↓wk, ↓wl, nq, evV, ↓reduceIte, sevalprocAttr]
    refine AW.ret ?_
    cases H
    exact hQ _ _ _ _ (.inr rfl) (by simp only [resVs, omap, resV, wm, ↓wk, ↓wl, nq, evV, ↓reduceIte, sevalprocAttr]; rfl) (hand_1 (by rfl) (by simp) (enc_all _)) (by first | exact Or.inl rfl | exact Or.inr rfl)
   ·refine AW.skip ?_
    refine seqQ.norm ?_
    refine AW.rseq ?_
    try simp only [wm, ↓wk, ↓wl, nq, evV, ↓reduceIte, sevalprocAttr]
    refine evTs_slc (enc := (AV.int .i64)) H (by rfl) (by rfl) (by simp only [loI, hiI, wm, ↓wk, ↓wl, nq, evV, ↓reduceIte, sevalprocAttr]; rfl) (by simp only [loI, hiI, wm, ↓wk, ↓wl, nq, evV, ↓reduceIte, sevalprocAttr]; rfl) ?_ <;> clear H <;> intro s_1518 H
    try simp only [wm, ↓wk, ↓wl, nq, evV, ↓reduceIte, sevalprocAttr]
    refine evTs_app (enc := (AV.int .i64)) H (by rfl) (by first | rfl | simp only [List.length_set]) (by rfl) (by rfl) ?_ <;> clear H <;> intro out_1519 H
    try simp only [wm, ↓wk, ↓wl, nq, evV, ↓reduceIte, sevalprocAttr]
    refine AW.ret ?_
    cases H
    exact hQ _ _ _ _ (.inr rfl) (by simp only [resVs, omap, resV, wm, ↓wk, ↓wl, nq, evV, ↓reduceIte, sevalprocAttr]; rfl) (hand_1 (by rfl) (by simp) (enc_all _)) (by first | exact Or.inl rfl | exact Or.inr rfl)
theorem f74_im {l_1452 : (List Int)} {n_1453 : Int} {r_ : (List Int)} (H : f74 l_1452 n_1453 = some r_) : Pure Try.prog 74 [.sl 0 false (l_1452.map (AV.int .i64)), .int .i64 n_1453] (· = .sl 0 false (r_.map (AV.int .i64))) := (f74_ok H).unfr (by first | exact enc_fits _ | simp only [frFits, List.all_cons, List.all_nil, enc_fits, Bool.and_self])
noncomputable def f49_L2 (x_1571 : ApiProfile) (i_1549 : Int) (channel_1445 : Int) (profiles_1444 : (List ApiProfile)) (l_1443 : (List ApiFixture)) : Lp ((List Int) × Int) ((List Int)) where
  body := fun (out_1578, k_1579) => (if (decide (k_1579 < ((x_1571.fFeatures.length : Nat) : Int))) = true then (at? x_1571.fFeatures k_1579).bind fun x_1583 => (f74 out_1578 x_1583.fAttr).bind fun r_1584 => (some (.next (r_1584, (IntKind.i64.wrap (k_1579 + 1))))) else (some (.brk out_1578)))
  cst := fun (out_1578, k_1579) => ⟨put (put (put (put (put (put (put (fun _ => .junk) 10 (.int .i64 k_1579)) 9 (.sl 10 false (x_1571.fFeatures.map eApiFeature))) 8 (.int .i64 i_1549)) 7 (.sl 0 false (out_1578.map (AV.int .i64)))) 2 (.int .i64 channel_1445)) 1 (.sl 4 false (profiles_1444.map eApiProfile))) 0 (.sl 7 false (l_1443.map eApiFixture)), []⟩
theorem f49_L2c (x_1571 : ApiProfile) (i_1549 : Int) (channel_1445 : Int) (profiles_1444 : (List ApiProfile)) (l_1443 : (List ApiFixture)) (out_1578 : (List Int)) (k_1579 : Int) : (f49_L2 x_1571 i_1549 channel_1445 profiles_1444 l_1443).cst (out_1578, k_1579) = ⟨put (put (put (put (put (put (put (fun _ => .junk) 10 (.int .i64 k_1579)) 9 (.sl 10 false (x_1571.fFeatures.map eApiFeature))) 8 (.int .i64 i_1549)) 7 (.sl 0 false (out_1578.map (AV.int .i64)))) 2 (.int .i64 channel_1445)) 1 (.sl 4 false (profiles_1444.map eApiProfile))) 0 (.sl 7 false (l_1443.map eApiFixture)), []⟩ := rfl
noncomputable def f49_L1 (l_1443 : (List ApiFixture)) (channel_1445 : Int) (profiles_1444 : (List ApiProfile)) : Lp ((List Int) × Int) ((List Int)) where
  body := fun (out_1548, i_1549) => (if (decide (i_1549 < ((l_1443.length : Nat) : Int))) = true then (at? l_1443 i_1549).bind fun x_1568 => (if (decide (x_1568.fChannel ≠ channel_1445)) = true then (some (.next (out_1548, (IntKind.i64.wrap (i_1549 + 1))))) else (at? l_1443 i_1549).bind fun x_1569 => (f34 profiles_1444 x_1569.fProfile).bind fun r_1570 => (at? profiles_1444 r_1570).bind fun x_1571 => (Lp.run (f49_L2 x_1571 i_1549 channel_1445 profiles_1444 l_1443) (out_1548, 0)).bind fun out_1582 => (some (.next (out_1582, (IntKind.i64.wrap (i_1549 + 1)))))) else (some (.brk out_1548)))
  cst := fun (out_1548, i_1549) => ⟨put (put (put (put (put (fun _ => .junk) 8 (.int .i64 i_1549)) 7 (.sl 0 false (out_1548.map (AV.int .i64)))) 2 (.int .i64 channel_1445)) 1 (.sl 4 false (profiles_1444.map eApiProfile))) 0 (.sl 7 false (l_1443.map eApiFixture)), []⟩
theorem f49_L1c (l_1443 : (List ApiFixture)) (channel_1445 : Int) (profiles_1444 : (List ApiProfile)) (out_1548 : (List Int)) (i_1549 : Int) : (f49_L1 l_1443 channel_1445 profiles_1444).cst (out_1548, i_1549) = ⟨put (put (put (put (put (fun _ => .junk) 8 (.int .i64 i_1549)) 7 (.sl 0 false (out_1548.map (AV.int .i64)))) 2 (.int .i64 channel_1445)) 1 (.sl 4 false (profiles_1444.map eApiProfile))) 0 (.sl 7 false (l_1443.map eApiFixture)), []⟩ := rfl
def c49_0 : C := .cond (.t 14) (.skip) (.exit 0)
def c49_1 : C := .cond (.t 23) (.exit 1) (.skip)
def c49_2 : C := .cond (.t 38) (.skip) (.exit 2)
def c49_3 : C := .reg [iI 39 (.mv (.t 10)), iI 40 (.bin .add (.t 39) (.c (.int .i64 1))), iI 10 (.mv (.t 40))]
def c49_4 : C := .seq (.block 3 (.reg [iI 41 (.mv (.t 7)), iI 42 (.mv (.t 9)), iI 43 (.mv (.t 10)), iI 44 (.iaddr 10 (.t 42) (.t 43)), iI 45 (.faddr 0 (.t 44)), iI 46 (.load 0 (.t 45)), iI 47 (.call (.c (.fn 74 [])) [(.t 41), (.t 46)]), iI 7 (.mv (.t 47))])) c49_3
def c49_5 : C := .block 2 (.loop (.seq (.seq (.reg [iI 35 (.mv (.t 10)), iI 36 (.mv (.t 9)), iI 37 (.len 0 (.t 36)), iI 38 (.bin .lss (.t 35) (.t 37))]) c49_2) c49_4))
def c49_6 : C := .seq (.reg [iI 10 (.mv (.c (.int .i64 0)))]) c49_5
def c49_7 : C := .seq (.reg [iI 24 (.mv (.t 1)), iI 25 (.mv (.t 1)), iI 26 (.mv (.t 0)), iI 27 (.mv (.t 8)), iI 28 (.iaddr 7 (.t 26) (.t 27)), iI 29 (.faddr 2 (.t 28)), iI 30 (.load 0 (.t 29)), iI 31 (.call (.c (.fn 34 [])) [(.t 25), (.t 30)]), iI 32 (.iaddr 4 (.t 24) (.t 31)), iI 33 (.faddr 3 (.t 32)), iI 34 (.load 0 (.t 33)), iI 9 (.mv (.t 34))]) c49_6
def c49_8 : C := .reg [iI 15 (.mv (.t 8)), iI 16 (.bin .add (.t 15) (.c (.int .i64 1))), iI 8 (.mv (.t 16))]
def c49_9 : C := .seq (.block 1 (.seq (.seq (.reg [iI 17 (.mv (.t 0)), iI 18 (.mv (.t 8)), iI 19 (.iaddr 7 (.t 17) (.t 18)), iI 20 (.faddr 0 (.t 19)), iI 21 (.load 0 (.t 20)), iI 22 (.mv (.t 2)), iI 23 (.bin .neq (.t 21) (.t 22))]) c49_1) c49_7)) c49_8
def c49_10 : C := .block 0 (.loop (.seq (.seq (.reg [iI 11 (.mv (.t 8)), iI 12 (.mv (.t 0)), iI 13 (.len 0 (.t 12)), iI 14 (.bin .lss (.t 11) (.t 13))]) c49_0) c49_9))
def c49_11 : C := .seq (.reg [iI 48 (.mv (.t 7)), iI 6 (.mv (.t 48))]) .ret
def c49_12 : C := .seq (.seq (.reg [iI 8 (.mv (.c (.int .i64 0)))]) c49_10) c49_11
def c49_13 : C := .seq (.reg [iI 7 (.mv (.c (.sl 0 true [])))]) c49_12
def ir49 : C := .seq (.reg [iI 6 (.mv (.c (.sl 0 true [])))]) c49_13
theorem fd49 : fd? Try.prog 49 = some (49, [.slot 6], ir49) := by kernel_rfl
noncomputable def f49 (l_1443 : (List ApiFixture)) (profiles_1444 : (List ApiProfile)) (channel_1445 : Int) : Option ((List Int)) :=
  (Lp.run (f49_L1 l_1443 channel_1445 profiles_1444) ([], 0)).bind fun out_1566 => (some out_1566)
theorem f49_ok {l_1443 : (List ApiFixture)} {profiles_1444 : (List ApiProfile)} {channel_1445 : Int} {r_ : (List Int)} (H : f49 l_1443 profiles_1444 channel_1445 = some r_) : Pure Try.prog 49 [.sl 7 false (l_1443.map eApiFixture), .sl 4 false (profiles_1444.map eApiProfile), .int .i64 channel_1445] (· = .sl 0 false (r_.map (AV.int .i64))) := by
 refine Pure.walk3 fd49 none (Nat.le_of_ble_eq_true rfl) (by rfl) fun Q hQ => ?_
 simp only [f49] at H
 refine AW.rseq ?_
 try simp only [wm, ↓wk, ↓wl, nq, evV, ↓reduceIte, sevalprocAttr]
 refine AW.rseq ?_
 try simp only [wm, ↓wk, ↓wl, nq, evV, ↓reduceIte, sevalprocAttr]
 refine AW.sseq ?_
 refine AW.rseq ?_
 try simp only [wm, ↓wk, ↓wl, nq, evV, ↓reduceIte, sevalprocAttr]
 refine AW.bend ?_
 refine AW.iter H ((Le.trans (Le.unfull (i := 7) (by rfl)) (Le.tz [] [0, 1, 2, 7, 8] (by simp only [f49_L1c, wm, wmr, rrm, ↓wk, ↓wl, evV, ↓reduceIte, sevalprocAttr] <;> rfl)))) ?_ <;> clear H
 rintro ⟨out_1548, i_1549⟩ x_ st0_ H hst_
 rw [f49_L1c] at hst_
 simp only [f49_L1] at H
 subst hst_
 refine AW.sseq ?_
 refine AW.rseq ?_
 try simp only [wm, ↓wk, ↓wl, nq, evV, ↓reduceIte, sevalprocAttr]
 refine AW.ifc H (by rfl) ?_ ?_ <;> clear H <;> intro H
 ·refine AW.skip ?_
  refine seqQ.norm ?_
  refine AW.bseq ?_
  refine AW.sseq ?_
  refine AW.rseq ?_
  try simp only [wm, ↓wk, ↓wl, nq, evV, ↓reduceIte, sevalprocAttr]
  refine evTs_at (enc := eApiFixture) H (by rfl) (by rfl) ?_ <;> clear H <;> intro x_1568 H
  try simp only [eApiFixture, eL, eM, wm, ↓wk, ↓wl, nq, evV, ↓reduceIte, sevalprocAttr]
  refine AW.ifc H (by rfl) ?_ ?_ <;> clear H <;> intro H
  ·refine AW.exit ?_
   refine seqQ.exit ?_
   refine blkQ.here ?_
   refine AW.rend ?_
   try simp only [wm, ↓wk, ↓wl, nq, evV, ↓reduceIte, sevalprocAttr]
   exact loopQ.next H ((Le.tz [] [0, 1, 2, 7, 8] (by simp only [f49_L1c, wm, wmr, rrm, ↓wk, ↓wl, evV, ↓reduceIte, sevalprocAttr] <;> rfl)))
  ·refine AW.skip ?_
   refine seqQ.norm ?_
   refine AW.rseq ?_
   try simp only [wm, ↓wk, ↓wl, nq, evV, ↓reduceIte, sevalprocAttr]
   refine evTs_at (enc := eApiFixture) H (by rfl) (by rfl) ?_ <;> clear H <;> intro x_1569 H
   try simp only [eApiFixture, eL, eM, wm, ↓wk, ↓wl, nq, evV, ↓reduceIte, sevalprocAttr]
   refine evTs_pure hFn H (fun _ h => f34_ok h) (by rfl) (by rfl) (by rfl) (by rfl) (fun _ => rfl) ?_ <;> clear H <;> intro r_1570 H
   try simp only [eL, wm, ↓wk, ↓wl, nq, evV, ↓reduceIte, sevalprocAttr]
   refine evTs_at (enc := eApiProfile) H (by rfl) (by rfl) ?_ <;> clear H <;> intro x_1571 H
   try simp only [eApiProfile, eL, eM, wm, ↓wk, ↓wl, nq, evV, ↓reduceIte, sevalprocAttr]
   refine AW.rseq ?_
   try simp only [wm, ↓wk, ↓wl, nq, evV, ↓reduceIte, sevalprocAttr]
   refine AW.bend ?_
   refine AW.iter H ((Le.tz [] [0, 1, 2, 7, 8, 9, 10] (by simp only [f49_L2c, wm, wmr, rrm, ↓wk, ↓wl, evV, ↓reduceIte, sevalprocAttr] <;> rfl))) ?_ <;> clear H
   rintro ⟨out_1578, k_1579⟩ x_ st0_ H hst_
   rw [f49_L2c] at hst_
   simp only [f49_L2] at H
   subst hst_
   refine AW.sseq ?_
   refine AW.rseq ?_
   try simp only [wm, ↓wk, ↓wl, nq, evV, ↓reduceIte, sevalprocAttr]
   refine AW.ifc H (by rfl) ?_ ?_ <;> clear H <;> intro H
   ·refine AW.skip ?_
    refine seqQ.norm ?_
    refine AW.bseq ?_
    refine AW.rend ?_
    try simp only [wm, ↓wk, ↓wl, nq, evV, ↓reduceIte, sevalprocAttr]
    refine evTs_at (enc := eApiFeature) H (by rfl) (by rfl) ?_ <;> clear H <;> intro x_1583 H
    try simp only [eApiFeature, eL, eM, wm, ↓wk, ↓wl, nq, evV, ↓reduceIte, sevalprocAttr]
    refine evTs_pure hFn H (fun _ h => f74_im h) (by rfl) (by rfl) (by rfl) (by rfl) (fun _ => rfl) ?_ <;> clear H <;> intro r_1584 H
    try simp only [eL, wm, ↓wk, ↓wl, nq, evV, ↓reduceIte, sevalprocAttr]
    refine blkQ.norm ?_
    refine AW.rend ?_
    try simp only [wm, ↓wk, ↓wl, nq, evV, ↓reduceIte, sevalprocAttr]
    exact loopQ.next H ((Le.tz [] [0, 1, 2, 7, 8, 9, 10] (by simp only [f49_L2c, wm, wmr, rrm, ↓wk, ↓wl, evV, ↓reduceIte, sevalprocAttr] <;> rfl)))
   ·refine AW.exit ?_
    refine seqQ.exit ?_
    refine loopQ.exit H ?_ <;> clear H <;> intro H
    try dsimp only at H
    refine blk0.here ?_
    refine blkQ.norm ?_
    refine AW.rend ?_
    try simp only [wm, ↓wk, ↓wl, nq, evV, ↓reduceIte, sevalprocAttr]
    exact loopQ.next H ((Le.tz [] [0, 1, 2, 7, 8] (by simp only [f49_L1c, wm, wmr, rrm, ↓wk, ↓wl, evV, ↓reduceIte, sevalprocAttr] <;> rfl)))
 ·refine AW.exit ?_
  refine seqQ.exit ?_
  refine loopQ.exit H ?_ <;> clear H <;> intro H
  try dsimp only at H
  refine blk0.here ?_
  refine seqQ.norm ?_
  refine AW.rseq ?_
  try simp only [wm, ↓wk, ↓wl, nq, evV, ↓reduceIte, sevalprocAttr]
  refine AW.ret ?_
  cases H
  exact hQ _ _ _ _ (.inr rfl) (by simp only [resVs, omap, resV, wm, ↓wk, ↓wl, nq, evV, ↓reduceIte, sevalprocAttr]; rfl) (hand_plain (by rfl)) (by first | exact Or.inl rfl | exact Or.inr rfl)
def c15_0 : C := .cond (.t 13) (.seq (.reg [iI 14 (.mv (.t 8)), iI 6 (.mv (.c (.sl 0 true []))), iI 7 (.mv (.t 14))]) .ret) (.skip)
def c15_1 : C := .seq (.reg [iI 12 (.mv (.t 8)), iI 13 (.bin .neq (.t 12) (.c (.int .i64 0)))]) c15_0
def c15_2 : C := .seq (.reg [iI 15 (.mv (.t 0)), iI 16 (.mv (.t 1)), iI 17 (.mv (.t 2)), iI 18 (.call (.c (.fn 49 [])) [(.t 15), (.t 16), (.t 17)]), iI 6 (.mv (.t 18)), iI 7 (.mv (.c (.int .i64 0)))]) .ret
def c15_3 : C := .seq (.seq (.reg [iI 9 (.mv (.t 0)), iI 10 (.mv (.t 1)), iI 11 (.call (.c (.fn 17 [])) [(.t 9), (.t 10)]), iI 8 (.mv (.t 11))]) c15_1) c15_2
def ir15 : C := .seq (.reg [iI 6 (.mv (.c (.sl 0 true []))), iI 7 (.mv (.c (.int .i64 0)))]) c15_3
theorem fd15 : fd? Try.prog 15 = some (19, [.slot 6, .slot 7], ir15) := by kernel_rfl
noncomputable def f15 (l_1315 : (List ApiFixture)) (profiles_1316 : (List ApiProfile)) (channel_1317 : Int) : Option ((List Int) × Int) :=
  (f17 l_1315 profiles_1316).bind fun r_1318 => (if (decide (r_1318 ≠ 0)) = true then (some ([], r_1318)) else (f49 l_1315 profiles_1316 channel_1317).bind fun r_1585 => (some (r_1585, 0)))
theorem f15_ok {l_1315 : (List ApiFixture)} {profiles_1316 : (List ApiProfile)} {channel_1317 : Int} {r_ : (List Int) × Int} (H : f15 l_1315 profiles_1316 channel_1317 = some r_) : Pure Try.prog 15 [.sl 7 false (l_1315.map eApiFixture), .sl 4 false (profiles_1316.map eApiProfile), .int .i64 channel_1317] (· = .tup [.sl 0 false (r_.1.map (AV.int .i64)), .int .i64 r_.2]) := by
 refine Pure.walk3 fd15 none (Nat.le_of_ble_eq_true rfl) (by rfl) fun Q hQ => ?_
 simp only [f15] at H
 refine AW.rseq ?_
 try simp only [wm, ↓wk, ↓wl, nq, evV, ↓reduceIte, sevalprocAttr]
 refine AW.sseq ?_
 refine AW.rseq ?_
 try simp only [wm, ↓wk, ↓wl, nq, evV, ↓reduceIte, sevalprocAttr]
 refine evTs_pure hFn H (fun _ h => f17_ok h) (by rfl) (by rfl) (by rfl) (by rfl) (fun _ => rfl) ?_ <;> clear H <;> intro r_1318 H
 try simp only [eL, wm, ↓wk, ↓wl, nq, evV, ↓reduceIte, sevalprocAttr]
 refine AW.rseq ?_
 try simp only [wm, ↓wk, ↓wl, nq, evV, ↓reduceIte, sevalprocAttr]
 refine AW.ifc H (by rfl) ?_ ?_ <;> clear H <;> intro H
 ·refine AW.rseq ?_
  try simp only [wm, ↓wk, ↓wl, nq, evV, ↓reduceIte, sevalprocAttr]
  refine AW.ret ?_
  refine seqQ.ret ?_
  cases H
  exact hQ _ _ _ _ (.inr rfl) (by simp only [resVs, omap, resV, wm, ↓wk, ↓wl, nq, evV, ↓reduceIte, sevalprocAttr]; rfl) (hand_plain (by rfl)) (by first | exact Or.inl rfl | exact Or.inr rfl)
 ·refine AW.skip ?_
  refine seqQ.norm ?_
  refine AW.rseq ?_
  try simp only [wm, ↓wk, ↓wl, nq, evV, ↓reduceIte, sevalprocAttr]
  refine evTs_pure hFn H (fun _ h => f49_ok h) (by rfl) (by rfl) (by rfl) (by rfl) (fun _ => rfl) ?_ <;> clear H <;> intro r_1585 H
  try simp only [eL, wm, ↓wk, ↓wl, nq, evV, ↓reduceIte, sevalprocAttr]
  refine AW.ret ?_
  cases H
  exact hQ _ _ _ _ (.inr rfl) (by simp only [resVs, omap, resV, wm, ↓wk, ↓wl, nq, evV, ↓reduceIte, sevalprocAttr]; rfl) (hand_plain (by rfl)) (by first | exact Or.inl rfl | exact Or.inr rfl)
def c3_0 : C := .cond (.t 18) (.seq (.reg [iI 19 (.call (.c (.fn 11 [])) []), iI 6 (.mv (.t 19))]) .ret) (.skip)
def c3_1 : C := .seq (.reg [iI 48 (.call (.c (.fn 11 [])) []), iI 49 (.mv (.t 48)), iG (some 50) 49 true (.mv (.t 0)), iG (some 51) 49 true (.mv (.t 1)), iG (some 52) 49 true (.call (.c (.fn 16 [])) [(.t 50), (.t 51)]), iG (some 53) 49 true (.mv (.t 0)), iG (some 54) 49 true (.mv (.t 1)), iG (some 55) 49 true (.call (.c (.fn 17 [])) [(.t 53), (.t 54)]), iG (some 56) 49 true (.bin .eql (.t 52) (.t 55)), iI 57 (.pick (.t 49) (.t 56) (.c (.bool false))), iI 58 (.mv (.t 57)), iG (some 59) 58 true (.mv (.t 7)), iG (some 60) 58 true (.mv (.t 9)), iG (some 61) 58 true (.call (.c (.fn 18 [])) [(.t 59), (.t 60)]), iI 62 (.pick (.t 58) (.t 61) (.c (.bool false))), iI 63 (.mv (.t 62)), iG (some 64) 63 true (.mv (.t 8)), iG (some 65) 63 true (.mv (.t 10)), iG (some 66) 63 true (.bin .eql (.t 64) (.t 65)), iI 67 (.pick (.t 63) (.t 66) (.c (.bool false))), iI 68 (.mv (.t 67)), iG (some 69) 68 true (.mv (.t 11)), iG (some 70) 68 true (.mv (.t 13)), iG (some 71) 68 true (.call (.c (.fn 19 [])) [(.t 69), (.t 70)]), iI 72 (.pick (.t 68) (.t 71) (.c (.bool false))), iI 73 (.mv (.t 72)), iG (some 74) 73 true (.mv (.t 12)), iG (some 75) 73 true (.mv (.t 14)), iG (some 76) 73 true (.bin .eql (.t 74) (.t 75)), iI 77 (.pick (.t 73) (.t 76) (.c (.bool false))), iI 6 (.mv (.t 77))]) .ret
def c3_2 : C := .seq (.reg [iI 42 (.mv (.t 0)), iI 43 (.mv (.t 1)), iI 44 (.mv (.t 2)), iI 45 (.call (.c (.fn 15 [])) [(.t 42), (.t 43), (.t 44)]), iI 41 (.mv (.t 45)), iI 46 (.ext (.t 41) 0), iI 47 (.ext (.t 41) 1), iI 13 (.mv (.t 46)), iI 14 (.mv (.t 47))]) c3_1
def c3_3 : C := .seq (.reg [iI 35 (.mv (.t 0)), iI 36 (.mv (.t 1)), iI 37 (.mv (.t 2)), iI 38 (.call (.c (.fn 14 [])) [(.t 35), (.t 36), (.t 37)]), iI 34 (.mv (.t 38)), iI 39 (.ext (.t 34) 0), iI 40 (.ext (.t 34) 1), iI 11 (.mv (.t 39)), iI 12 (.mv (.t 40))]) c3_2
def c3_4 : C := .seq (.reg [iI 28 (.mv (.t 0)), iI 29 (.mv (.t 1)), iI 30 (.mv (.t 2)), iI 31 (.call (.c (.fn 13 [])) [(.t 28), (.t 29), (.t 30)]), iI 27 (.mv (.t 31)), iI 32 (.ext (.t 27) 0), iI 33 (.ext (.t 27) 1), iI 9 (.mv (.t 32)), iI 10 (.mv (.t 33))]) c3_3
def c3_5 : C := .seq (.reg [iI 21 (.mv (.t 0)), iI 22 (.mv (.t 1)), iI 23 (.mv (.t 2)), iI 24 (.call (.c (.fn 12 [])) [(.t 21), (.t 22), (.t 23)]), iI 20 (.mv (.t 24)), iI 25 (.ext (.t 20) 0), iI 26 (.ext (.t 20) 1), iI 7 (.mv (.t 25)), iI 8 (.mv (.t 26))]) c3_4
def c3_6 : C := .seq (.seq (.reg [iI 15 (.mv (.t 0)), iI 16 (.mv (.t 1)), iI 17 (.call (.c (.fn 10 [])) [(.t 15), (.t 16)]), iI 18 (.un .not (.t 17))]) c3_0) c3_5
def ir3 : C := .seq (.reg [iI 6 (.mv (.c (.bool false)))]) c3_6
theorem fd3 : fd? Try.prog 3 = some (78, [.slot 6], ir3) := by kernel_rfl
noncomputable def f3 (l_824 : (List ApiFixture)) (profiles_825 : (List ApiProfile)) (channel_826 : Int) : Option (Bool) :=
  (f10 l_824 profiles_825).bind fun r_829 => (if (!r_829) = true then (f11).bind fun r_830 => (some r_830) else (f12 l_824 profiles_825 channel_826).bind fun r_831 => (f13 l_824 profiles_825 channel_826).bind fun r_1042 => (f14 l_824 profiles_825 channel_826).bind fun r_1043 => (f15 l_824 profiles_825 channel_826).bind fun r_1586 => (f11).bind fun r_1587 => (if r_1587 = true then (f16 l_824 profiles_825).bind fun r_1588 => (f17 l_824 profiles_825).bind fun r_1589 => (if (decide (r_1588 = r_1589)) = true then (f18 r_831.1 r_1042.1).bind fun r_1590 => (if r_1590 = true then (if (decide (r_831.2 = r_1042.2)) = true then (f19 r_1043.1 r_1586.1).bind fun r_1591 => (if r_1591 = true then (some (decide (r_1043.2 = r_1586.2))) else (some false)) else (some false)) else (some false)) else (some false)) else (some false)))
theorem f3_ok {l_824 : (List ApiFixture)} {profiles_825 : (List ApiProfile)} {channel_826 : Int} {r_ : Bool} (H : f3 l_824 profiles_825 channel_826 = some r_) : Pure Try.prog 3 [.sl 7 false (l_824.map eApiFixture), .sl 4 false (profiles_825.map eApiProfile), .int .i64 channel_826] (· = .bool r_) := by
 refine Pure.walk3 fd3 none (Nat.le_of_ble_eq_true rfl) (by rfl) fun Q hQ => ?_
 simp only [f3] at H
 refine AW.rseq ?_
 try simp only [wm, ↓wk, ↓wl, nq, evV, ↓reduceIte, sevalprocAttr]
 refine AW.sseq ?_
 refine AW.rseq ?_
 try simp only [wm, ↓wk, ↓wl, nq, evV, ↓reduceIte, sevalprocAttr]
 refine evTs_pure hFn H (fun _ h => f10_ok h) (by rfl) (by rfl) (by rfl) (by rfl) (fun _ => rfl) ?_ <;> clear H <;> intro r_829 H
 try simp only [eL, wm, ↓wk, ↓wl, nq, evV, ↓reduceIte, sevalprocAttr]
 refine AW.ifc H (by rfl) ?_ ?_ <;> clear H <;> intro H
 ·refine AW.rseq ?_
  try simp only [wm, ↓wk, ↓wl, nq, evV, ↓reduceIte, sevalprocAttr]
  refine evTs_pure hFn H (fun _ h => f11_ok h) (by rfl) (by rfl) (by rfl) (by rfl) (fun _ => rfl) ?_ <;> clear H <;> intro r_830 H
  try simp only [eL, wm, ↓wk, ↓wl, nq, evV, ↓reduceIte, sevalprocAttr]
  refine AW.ret ?_
  refine seqQ.ret ?_
  cases H
  exact hQ _ _ _ _ (.inr rfl) (by simp only [resVs, omap, resV, wm, ↓wk, ↓wl, nq, evV, ↓reduceIte, sevalprocAttr]; rfl) (hand_plain (by rfl)) (by first | exact Or.inl rfl | exact Or.inr rfl)
 ·refine AW.skip ?_
  refine seqQ.norm ?_
  refine AW.rseq ?_
  try simp only [wm, ↓wk, ↓wl, nq, evV, ↓reduceIte, sevalprocAttr]
  refine evTs_pure hFn H (fun _ h => f12_im h) (by rfl) (by rfl) (by rfl) (by rfl) (fun _ => rfl) ?_ <;> clear H <;> intro r_831 H
  try simp only [eL, wm, ↓wk, ↓wl, nq, evV, ↓reduceIte, sevalprocAttr]
  refine AW.rseq ?_
  try simp only [wm, ↓wk, ↓wl, nq, evV, ↓reduceIte, sevalprocAttr]
  refine evTs_pure hFn H (fun _ h => f13_im h) (by rfl) (by rfl) (by rfl) (by rfl) (fun _ => rfl) ?_ <;> clear H <;> intro r_1042 H
  try simp only [eL, wm, ↓wk, ↓wl, nq, evV, ↓reduceIte, sevalprocAttr]
  refine AW.rseq ?_
  try simp only [wm, ↓wk, ↓wl, nq, evV, ↓reduceIte, sevalprocAttr]
  refine evTs_pure hFn H (fun _ h => f14_im h) (by rfl) (by rfl) (by rfl) (by rfl) (fun _ => rfl) ?_ <;> clear H <;> intro r_1043 H
  try simp only [eL, wm, ↓wk, ↓wl, nq, evV, ↓reduceIte, sevalprocAttr]
  refine AW.rseq ?_
  try simp only [wm, ↓wk, ↓wl, nq, evV, ↓reduceIte, sevalprocAttr]
  refine evTs_pure hFn H (fun _ h => f15_ok h) (by rfl) (by rfl) (by rfl) (by rfl) (fun _ => rfl) ?_ <;> clear H <;> intro r_1586 H
  try simp only [eL, wm, ↓wk, ↓wl, nq, evV, ↓reduceIte, sevalprocAttr]
  refine AW.rseq ?_
  try simp only [wm, ↓wk, ↓wl, nq, evV, ↓reduceIte, sevalprocAttr]
  refine evTs_pure hFn H (fun _ h => f11_ok h) (by rfl) (by rfl) (by rfl) (by rfl) (fun _ => rfl) ?_ <;> clear H <;> intro r_1587 H
  try simp only [eL, wm, ↓wk, ↓wl, nq, evV, ↓reduceIte, sevalprocAttr]
  refine evTs_ifg H (by rfl) ?_ ?_ <;> clear H <;> intro H
  ·try simp only [wm, ↓wk, ↓wl, nq, evV, ↓reduceIte, sevalprocAttr]
   refine evTs_pure hFn H (fun _ h => f16_ok h) (by rfl) (by rfl) (by rfl) (by rfl) (fun _ => rfl) ?_ <;> clear H <;> intro r_1588 H
   try simp only [eL, wm, ↓wk, ↓wl, nq, evV, ↓reduceIte, sevalprocAttr]
   refine evTs_pure hFn H (fun _ h => f17_ok h) (by rfl) (by rfl) (by rfl) (by rfl) (fun _ => rfl) ?_ <;> clear H <;> intro r_1589 H
   try simp only [eL, wm, ↓wk, ↓wl, nq, evV, ↓reduceIte, sevalprocAttr]
   refine evTs_ifg H (by rfl) ?_ ?_ <;> clear H <;> intro H
   ·try simp only [wm, ↓wk, ↓wl, nq, evV, ↓reduceIte, sevalprocAttr]
    refine evTs_pure hFn H (fun _ h => f18_ok h) (by rfl) (by rfl) (by rfl) (by rfl) (fun _ => rfl) ?_ <;> clear H <;> intro r_1590 H
    try simp only [eL, wm, ↓wk, ↓wl, nq, evV, ↓reduceIte, sevalprocAttr]
    refine evTs_ifg H (by rfl) ?_ ?_ <;> clear H <;> intro H
    ·try simp only [wm, ↓wk, ↓wl, nq, evV, ↓reduceIte, sevalprocAttr]
     refine evTs_ifg H (by rfl) ?_ ?_ <;> clear H <;> intro H
     ·try simp only [wm, ↓wk, ↓wl, nq, evV, ↓reduceIte, sevalprocAttr]
      refine evTs_pure hFn H (fun _ h => f19_ok h) (by rfl) (by rfl) (by rfl) (by rfl) (fun _ => rfl) ?_ <;> clear H <;> intro r_1591 H
      try simp only [eL, wm, ↓wk, ↓wl, nq, evV, ↓reduceIte, sevalprocAttr]
      refine evTs_ifg H (by rfl) ?_ ?_ <;> clear H <;> intro H
      ·try simp only [wm, ↓wk, ↓wl, nq, evV, ↓reduceIte, sevalprocAttr]
       refine AW.ret ?_
       cases H
       exact hQ _ _ _ _ (.inr rfl) (by simp only [resVs, omap, resV, wm, ↓wk, ↓wl, nq, evV, ↓reduceIte, sevalprocAttr]; rfl) (hand_plain (by rfl)) (by first | exact Or.inl rfl | exact Or.inr rfl)
      ·try simp only [wm, ↓wk, ↓wl, nq, evV, ↓reduceIte, sevalprocAttr]
       refine AW.ret ?_
       cases H
       exact hQ _ _ _ _ (.inr rfl) (by simp only [resVs, omap, resV, wm, ↓wk, ↓wl, nq, evV, ↓reduceIte, sevalprocAttr]; rfl) (hand_plain (by rfl)) (by first | exact Or.inl rfl | exact Or.inr rfl)
     ·try simp only [wm, ↓wk, ↓wl, nq, evV, ↓reduceIte, sevalprocAttr]
      refine AW.ret ?_
      cases H
      exact hQ _ _ _ _ (.inr rfl) (by simp only [resVs, omap, resV, wm, ↓wk, ↓wl, nq, evV, ↓reduceIte, sevalprocAttr]; rfl) (hand_plain (by rfl)) (by first | exact Or.inl rfl | exact Or.inr rfl)
    ·try simp only [wm, ↓wk, ↓wl, nq, evV, ↓reduceIte, sevalprocAttr]
     refine AW.ret ?_
     cases H
     exact hQ _ _ _ _ (.inr rfl) (by simp only [resVs, omap, resV, wm, ↓wk, ↓wl, nq, evV, ↓reduceIte, sevalprocAttr]; rfl) (hand_plain (by rfl)) (by first | exact Or.inl rfl | exact Or.inr rfl)
   ·try simp only [wm, ↓wk, ↓wl, nq, evV, ↓reduceIte, sevalprocAttr]
    refine AW.ret ?_
    cases H
    exact hQ _ _ _ _ (.inr rfl) (by simp only [resVs, omap, resV, wm, ↓wk, ↓wl, nq, evV, ↓reduceIte, sevalprocAttr]; rfl) (hand_plain (by rfl)) (by first | exact Or.inl rfl | exact Or.inr rfl)
  ·try simp only [wm, ↓wk, ↓wl, nq, evV, ↓reduceIte, sevalprocAttr]
   refine AW.ret ?_
   cases H
   exact hQ _ _ _ _ (.inr rfl) (by simp only [resVs, omap, resV, wm, ↓wk, ↓wl, nq, evV, ↓reduceIte, sevalprocAttr]; rfl) (hand_plain (by rfl)) (by first | exact Or.inl rfl | exact Or.inr rfl)
end Go.Proofs.Ythikbfhdebaceaa
