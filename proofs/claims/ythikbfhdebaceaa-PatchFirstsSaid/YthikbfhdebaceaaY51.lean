import Derived.Test.YthikbfhdebaceaaX2
import Derived.Test.YthikbfhdebaceaaM6
import Derived.Test.YthikbfhdebaceaaProg
import Derived.KernelRfl
namespace Go.Proofs.Ythikbfhdebaceaa
open Go Go.Ab

set_option maxHeartbeats 1000000
set_option maxRecDepth 4000
set_option linter.unusedSimpArgs false
set_option linter.unusedVariables false
noncomputable def f46_L2 (l_840 : (List ApiFixture)) (channel_841 : Int) (n_899 : Int) : Lp (Int × (List ApiFixture)) ((List ApiFixture)) where
  body := fun (i_929, out_930) => (if (decide (i_929 < ((l_840.length : Nat) : Int))) = true then (at? l_840 i_929).bind fun x_936 => (if (decide (x_936.fChannel = channel_841)) = true then (at? l_840 i_929).bind fun x_937 => (if (decide (x_937.fPart = n_899)) = true then (at? l_840 i_929).bind fun x_938 => (app? 72 out_930 ([x_938])).bind fun out_939 => (some (.next ((IntKind.i64.wrap (i_929 + 1)), out_939))) else (some (.next ((IntKind.i64.wrap (i_929 + 1)), out_930)))) else (some (.next ((IntKind.i64.wrap (i_929 + 1)), out_930)))) else (some (.brk out_930)))
  cst := fun (i_929, out_930) => ⟨put (put (put (put (put (fun _ => .junk) 7 (.int .i64 i_929)) 6 (.int .i64 n_899)) 5 (.row 7 0 0 out_930.length)) 1 (.int .i64 channel_841)) 0 (.sl 7 false (l_840.map eApiFixture)), [.els 7 (out_930.map eApiFixture)]⟩
theorem f46_L2c (l_840 : (List ApiFixture)) (channel_841 : Int) (n_899 : Int) (i_929 : Int) (out_930 : (List ApiFixture)) : (f46_L2 l_840 channel_841 n_899).cst (i_929, out_930) = ⟨put (put (put (put (put (fun _ => .junk) 7 (.int .i64 i_929)) 6 (.int .i64 n_899)) 5 (.row 7 0 0 out_930.length)) 1 (.int .i64 channel_841)) 0 (.sl 7 false (l_840.map eApiFixture)), [.els 7 (out_930.map eApiFixture)]⟩ := rfl
noncomputable def f46_L1 (l_840 : (List ApiFixture)) (channel_841 : Int) : Lp (Int × (List ApiFixture)) ((List ApiFixture)) where
  body := fun (n_899, out_900) => (if (decide (n_899 ≤ 64)) = true then (Lp.run (f46_L2 l_840 channel_841 n_899) (0, out_900)).bind fun out_935 => (some (.next ((IntKind.i64.wrap (n_899 + 1)), out_935))) else (some (.brk out_900)))
  cst := fun (n_899, out_900) => ⟨put (put (put (put (fun _ => .junk) 6 (.int .i64 n_899)) 5 (.row 7 0 0 out_900.length)) 1 (.int .i64 channel_841)) 0 (.sl 7 false (l_840.map eApiFixture)), [.els 7 (out_900.map eApiFixture)]⟩
theorem f46_L1c (l_840 : (List ApiFixture)) (channel_841 : Int) (n_899 : Int) (out_900 : (List ApiFixture)) : (f46_L1 l_840 channel_841).cst (n_899, out_900) = ⟨put (put (put (put (fun _ => .junk) 6 (.int .i64 n_899)) 5 (.row 7 0 0 out_900.length)) 1 (.int .i64 channel_841)) 0 (.sl 7 false (l_840.map eApiFixture)), [.els 7 (out_900.map eApiFixture)]⟩ := rfl
def c46_0 : C := .cond (.t 9) (.skip) (.exit 0)
def c46_1 : C := .cond (.t 15) (.skip) (.exit 2)
def c46_2 : C := .cond (.t 33) (.reg [iI 34 (.mv (.t 5)), iI 35 (.mv (.t 0)), iI 36 (.mv (.t 7)), iI 37 (.iaddr 7 (.t 35) (.t 36)), iI 38 (.load 7 (.t 37)), iI 39 (.mkslp 7 1 (.agg [(.int .i64 0), (.int .i64 0), (.str []), (.int .i64 0), (.int .i64 0), (.int .i64 0), (.str [])]) [(0, (.t 38))]), iI 40 (.append 7 72 (.t 34) (.t 39)), iI 5 (.mv (.t 40))]) (.skip)
def c46_3 : C := .reg [iI 16 (.mv (.t 7)), iI 17 (.bin .add (.t 16) (.c (.int .i64 1))), iI 7 (.mv (.t 17))]
def c46_4 : C := .seq (.block 3 (.seq (.reg [iI 18 (.mv (.t 0)), iI 19 (.mv (.t 7)), iI 20 (.iaddr 7 (.t 18) (.t 19)), iI 21 (.faddr 0 (.t 20)), iI 22 (.load 0 (.t 21)), iI 23 (.mv (.t 1)), iI 24 (.bin .eql (.t 22) (.t 23)), iI 25 (.mv (.t 24)), iG (some 26) 25 true (.mv (.t 0)), iG (some 27) 25 true (.mv (.t 7)), iG (some 28) 25 true (.iaddr 7 (.t 26) (.t 27)), iG (some 29) 25 true (.faddr 1 (.t 28)), iG (some 30) 25 true (.load 0 (.t 29)), iG (some 31) 25 true (.mv (.t 6)), iG (some 32) 25 true (.bin .eql (.t 30) (.t 31)), iI 33 (.pick (.t 25) (.t 32) (.c (.bool false)))]) c46_2)) c46_3
def c46_5 : C := .block 2 (.loop (.seq (.seq (.reg [iI 12 (.mv (.t 7)), iI 13 (.mv (.t 0)), iI 14 (.len 0 (.t 13)), iI 15 (.bin .lss (.t 12) (.t 14))]) c46_1) c46_4))
def c46_6 : C := .reg [iI 10 (.mv (.t 6)), iI 11 (.bin .add (.t 10) (.c (.int .i64 1))), iI 6 (.mv (.t 11))]
def c46_7 : C := .seq (.block 1 (.seq (.reg [iI 7 (.mv (.c (.int .i64 0)))]) c46_5)) c46_6
def c46_8 : C := .block 0 (.loop (.seq (.seq (.reg [iI 8 (.mv (.t 6)), iI 9 (.bin .leq (.t 8) (.c (.int .i64 64)))]) c46_0) c46_7))
def c46_9 : C := .seq (.reg [iI 41 (.mv (.t 5)), iI 4 (.mv (.t 41))]) .ret
def c46_10 : C := .seq (.seq (.reg [iI 6 (.mv (.c (.int .i64 1)))]) c46_8) c46_9
def c46_11 : C := .seq (.reg [iI 5 (.mv (.c (.sl 7 true [])))]) c46_10
def ir46 : C := .seq (.reg [iI 4 (.mv (.c (.sl 7 true [])))]) c46_11
theorem fd46 : fd? Try.prog 46 = some (42, [.slot 4], ir46) := by kernel_rfl
noncomputable def f46 (l_840 : (List ApiFixture)) (channel_841 : Int) : Option ((List ApiFixture)) :=
  (Lp.run (f46_L1 l_840 channel_841) (1, [])).bind fun out_918 => (some out_918)
theorem f46_ok {l_840 : (List ApiFixture)} {channel_841 : Int} {r_ : (List ApiFixture)} (H : f46 l_840 channel_841 = some r_) : Pure Try.prog 46 [.sl 7 false (l_840.map eApiFixture), .int .i64 channel_841] (· = .fr 7 (r_.map eApiFixture)) := by
 refine Pure.walk3 fd46 (some 0) (Nat.le_of_ble_eq_true rfl) (by rfl) fun Q hQ => ?_
 simp only [f46] at H
 refine AW.rseq ?_
 try simp only [wm, ↓wk, ↓wl, nq, evV, ↓reduceIte, sevalprocAttr]
 refine AW.rseq ?_
 try simp only [wm, ↓wk, ↓wl, nq, evV, ↓reduceIte, sevalprocAttr]
 refine AW.sseq ?_
 refine AW.rseq ?_
 try simp only [wm, ↓wk, ↓wl, nq, evV, ↓reduceIte, sevalprocAttr]
 refine AW.bend ?_
 refine AW.iter H ((Le.trans (Le.nilRow (i := 5) (e := 7) (by simp only [↓wk, ↓wl, nq, evV, ↓reduceIte, sevalprocAttr])) (Le.tz [0] [0, 1, 5, 6] (by simp only [f46_L1c, wm, wmr, rrm, ↓wk, ↓wl, evV, ↓reduceIte, sevalprocAttr] <;> rfl)))) ?_ <;> clear H
 rintro ⟨n_899, out_900⟩ x_ st0_ H hst_
 rw [f46_L1c] at hst_
 simp only [f46_L1] at H
 subst hst_
 refine AW.sseq ?_
 refine AW.rseq ?_
 try simp only [wm, ↓wk, ↓wl, nq, evV, ↓reduceIte, sevalprocAttr]
 refine AW.ifc H (by rfl) ?_ ?_ <;> clear H <;> intro H
 ·refine AW.skip ?_
  refine seqQ.norm ?_
  refine AW.bseq ?_
  refine AW.rseq ?_
  try simp only [wm, ↓wk, ↓wl, nq, evV, ↓reduceIte, sevalprocAttr]
  refine AW.bend ?_
  refine AW.iter H ((Le.tz [0] [0, 1, 5, 6, 7] (by simp only [f46_L2c, wm, wmr, rrm, ↓wk, ↓wl, evV, ↓reduceIte, sevalprocAttr] <;> rfl))) ?_ <;> clear H
  rintro ⟨i_929, out_930⟩ x_ st0_ H hst_
  rw [f46_L2c] at hst_
  simp only [f46_L2] at H
  subst hst_
  refine AW.sseq ?_
  refine AW.rseq ?_
  try simp only [wm, ↓wk, ↓wl, nq, evV, ↓reduceIte, sevalprocAttr]
  refine AW.ifc H (by rfl) ?_ ?_ <;> clear H <;> intro H
  ·refine AW.skip ?_
   refine seqQ.norm ?_
   refine AW.bseq ?_
   refine AW.rseq ?_
   try simp only [wm, ↓wk, ↓wl, nq, evV, ↓reduceIte, sevalprocAttr]
   refine evTs_at (enc := eApiFixture) H (by rfl) (by rfl) ?_ <;> clear H <;> intro x_936 H
   try simp only [eApiFixture, eL, eM, wm, ↓wk, ↓wl, nq, evV, ↓reduceIte, sevalprocAttr]
   refine evTs_ifg H (by rfl) ?_ ?_ <;> clear H <;> intro H
   ·try simp only [wm, ↓wk, ↓wl, nq, evV, ↓reduceIte, sevalprocAttr]
    refine evTs_at (enc := eApiFixture) H (by rfl) (by rfl) ?_ <;> clear H <;> intro x_937 H
    try simp only [eApiFixture, eL, eM, wm, ↓wk, ↓wl, nq, evV, ↓reduceIte, sevalprocAttr]
    refine AW.ifc H (by rfl) ?_ ?_ <;> clear H <;> intro H
    ·refine AW.rend ?_
     try simp only [wm, ↓wk, ↓wl, nq, evV, ↓reduceIte, sevalprocAttr]
     refine evTs_at (enc := eApiFixture) H (by rfl) (by rfl) ?_ <;> clear H <;> intro x_938 H
     try simp only [eApiFixture, eL, eM, wm, ↓wk, ↓wl, nq, evV, ↓reduceIte, sevalprocAttr]
     refine evTs_app (enc := eApiFixture) H (by rfl) (by first | rfl | simp only [List.length_set]) (by rfl) (by rfl) ?_ <;> clear H <;> intro out_939 H
     try simp only [wm, ↓wk, ↓wl, nq, evV, ↓reduceIte, sevalprocAttr]
     refine blkQ.norm ?_
     refine AW.rend ?_
     try simp only [wm, ↓wk, ↓wl, nq, evV, ↓reduceIte, sevalprocAttr]
     exact loopQ.next H ((Le.tz [1] [0, 1, 5, 6, 7] (by simp only [f46_L2c, wm, wmr, rrm, ↓wk, ↓wl, evV, ↓reduceIte, sevalprocAttr] <;> rfl)))
    ·refine AW.skip ?_
     refine blkQ.norm ?_
     refine AW.rend ?_
     try simp only [wm, ↓wk, ↓wl, nq, evV, ↓reduceIte, sevalprocAttr]
     exact loopQ.next H ((Le.tz [0] [0, 1, 5, 6, 7] (by simp only [f46_L2c, wm, wmr, rrm, ↓wk, ↓wl, evV, ↓reduceIte, sevalprocAttr] <;> rfl)))
   ·try simp only [wm, ↓wk, ↓wl, nq, evV, ↓reduceIte, sevalprocAttr]
    refine AW.iff (by rfl) ?_
    refine AW.skip ?_
    refine blkQ.norm ?_
    refine AW.rend ?_
    try simp only [wm, ↓wk, ↓wl, nq, evV, ↓reduceIte, sevalprocAttr]
    exact loopQ.next H ((Le.tz [0] [0, 1, 5, 6, 7] (by simp only [f46_L2c, wm, wmr, rrm, ↓wk, ↓wl, evV, ↓reduceIte, sevalprocAttr] <;> rfl)))
  ·refine AW.exit ?_
   refine seqQ.exit ?_
   refine loopQ.exit H ?_ <;> clear H <;> intro H
   try dsimp only at H
   refine blk0.here ?_
   refine blkQ.norm ?_
   refine AW.rend ?_
   try simp only [wm, ↓wk, ↓wl, nq, evV, ↓reduceIte, sevalprocAttr]
   exact loopQ.next H ((Le.tz [0] [0, 1, 5, 6] (by simp only [f46_L1c, wm, wmr, rrm, ↓wk, ↓wl, evV, ↓reduceIte, sevalprocAttr] <;> rfl)))
 ·refine AW.exit ?_
  refine seqQ.exit ?_
  refine loopQ.exit H ?_ <;> clear H <;> intro H
  try dsimp only at H
  refine blk0.here ?_
  refine seqQ.norm ?_
  refine AW.rseq ?_
  try simp only [wm, ↓wk, ↓wl, nq, evV, ↓reduceIte, sevalprocAttr]
  refine AW.ret ?_
  cases H
  exact hQ _ _ _ _ (.inr rfl) (by simp only [resVs, omap, resV, wm, ↓wk, ↓wl, nq, evV, ↓reduceIte, sevalprocAttr]; rfl) (hand_1 (by rfl) (by simp) (enc_all _)) (by first | exact Or.inl rfl | exact Or.inr rfl)
theorem f46_im {l_840 : (List ApiFixture)} {channel_841 : Int} {r_ : (List ApiFixture)} (H : f46 l_840 channel_841 = some r_) : Pure Try.prog 46 [.sl 7 false (l_840.map eApiFixture), .int .i64 channel_841] (· = .sl 7 false (r_.map eApiFixture)) := (f46_ok H).unfr (by first | exact enc_fits _ | simp only [frFits, List.all_cons, List.all_nil, enc_fits, Bool.and_self])
noncomputable def f57_J3 : Jn (Int × Int × (List UInt8) × Int × Int × Int × (List UInt8) × Int × Int × Int × Int × Int × Int × Int × Int × Bool × (List ApiSlot)) (Ctl (Int) ((Unit) ⊕ (Int × Int × (List UInt8) × Int × Int × Int × (List UInt8) × Int × Int × Int × Int × Int × Int × Int × Int × Bool × (List ApiSlot)))) where
  run := fun (v_1291, v_1292, v_1293, v_1294, v_1295, v_1296, v_1297, v_1298, v_1299, v_1300, v_1301, v_1302, v_1303, v_1304, v_1305, v_1306, v_1307) => (some (.brk (Sum.inr (v_1291, v_1292, v_1293, v_1294, v_1295, v_1296, v_1297, v_1298, v_1299, v_1300, v_1301, v_1302, v_1303, v_1304, v_1305, v_1306, v_1307))))
  cst := fun (v_1291, v_1292, v_1293, v_1294, v_1295, v_1296, v_1297, v_1298, v_1299, v_1300, v_1301, v_1302, v_1303, v_1304, v_1305, v_1306, v_1307) => ⟨put (put (put (fun _ => .junk) 8 (.bool true)) 7 (.ptr 1 0)) 6 (.ptr 0 0), [.cel [.int .i64 v_1291, .int .i64 v_1292, .str v_1293, .int .i64 v_1294, .int .i64 v_1295, .int .i64 v_1296, .str v_1297], .cel [.int .i64 v_1298, .int .i64 v_1299, .int .i64 v_1300, .int .i64 v_1301, .int .i64 v_1302, .int .i64 v_1303, .int .i64 v_1304, .int .i64 v_1305, .bool v_1306, .sl 3 false (v_1307.map eApiSlot)]]⟩
theorem f57_J3c (v_1291 : Int) (v_1292 : Int) (v_1293 : (List UInt8)) (v_1294 : Int) (v_1295 : Int) (v_1296 : Int) (v_1297 : (List UInt8)) (v_1298 : Int) (v_1299 : Int) (v_1300 : Int) (v_1301 : Int) (v_1302 : Int) (v_1303 : Int) (v_1304 : Int) (v_1305 : Int) (v_1306 : Bool) (v_1307 : (List ApiSlot)) : (f57_J3).cst (v_1291, v_1292, v_1293, v_1294, v_1295, v_1296, v_1297, v_1298, v_1299, v_1300, v_1301, v_1302, v_1303, v_1304, v_1305, v_1306, v_1307) = ⟨put (put (put (fun _ => .junk) 8 (.bool true)) 7 (.ptr 1 0)) 6 (.ptr 0 0), [.cel [.int .i64 v_1291, .int .i64 v_1292, .str v_1293, .int .i64 v_1294, .int .i64 v_1295, .int .i64 v_1296, .str v_1297], .cel [.int .i64 v_1298, .int .i64 v_1299, .int .i64 v_1300, .int .i64 v_1301, .int .i64 v_1302, .int .i64 v_1303, .int .i64 v_1304, .int .i64 v_1305, .bool v_1306, .sl 3 false (v_1307.map eApiSlot)]]⟩ := rfl
noncomputable def f57_L2 (x_1208 : ApiProfile) (p_839 : ApiParam) (r_940 : (List ApiFixture)) (i_1106 : Int) (profiles_838 : (List ApiProfile)) : Lp (Int) ((Unit) ⊕ (Int × Int × (List UInt8) × Int × Int × Int × (List UInt8) × Int × Int × Int × Int × Int × Int × Int × Int × Bool × (List ApiSlot))) where
  body := fun k_1250 => (if (decide (k_1250 < ((x_1208.fFeatures.length : Nat) : Int))) = true then (at? x_1208.fFeatures k_1250).bind fun x_1288 => (if (decide (x_1288.fAttr = p_839.fAttr)) = true then (at? r_940 i_1106).bind fun x_1308 => (at? x_1208.fFeatures k_1250).bind fun x_1309 => ((f57_J3).run (x_1308.fChannel, x_1308.fPart, x_1308.fProfile, x_1308.fUniverse, x_1308.fAddress, x_1308.fPhase, x_1308.fCable, x_1309.fAttr, x_1309.fBits, x_1309.fCoarse, x_1309.fFine, x_1309.fCurve, x_1309.fHome, x_1309.fLow, x_1309.fHigh, x_1309.fSnap, x_1309.fWheel)) else (some (.next (IntKind.i64.wrap (k_1250 + 1))))) else (some (.brk (Sum.inl ()))))
  cst := fun k_1250 => ⟨put (put (put (put (put (put (put (put (fun _ => .junk) 12 (.int .i64 k_1250)) 11 (.sl 10 false (x_1208.fFeatures.map eApiFeature))) 10 (.int .i64 i_1106)) 9 (.sl 7 false (r_940.map eApiFixture))) 7 (.ptr 2 0)) 6 (.ptr 1 0)) 5 (.ptr 0 0)) 1 (.sl 4 false (profiles_838.map eApiProfile)), [.cel [.int .i64 p_839.fChannel, .int .i64 p_839.fAttr], .cel [.int .i64 0, .int .i64 0, .str ([]), .int .i64 0, .int .i64 0, .int .i64 0, .str ([])], .cel [.int .i64 0, .int .i64 0, .int .i64 0, .int .i64 0, .int .i64 0, .int .i64 0, .int .i64 0, .int .i64 0, .bool false, .sl 3 true []]]⟩
theorem f57_L2c (x_1208 : ApiProfile) (p_839 : ApiParam) (r_940 : (List ApiFixture)) (i_1106 : Int) (profiles_838 : (List ApiProfile)) (k_1250 : Int) : (f57_L2 x_1208 p_839 r_940 i_1106 profiles_838).cst k_1250 = ⟨put (put (put (put (put (put (put (put (fun _ => .junk) 12 (.int .i64 k_1250)) 11 (.sl 10 false (x_1208.fFeatures.map eApiFeature))) 10 (.int .i64 i_1106)) 9 (.sl 7 false (r_940.map eApiFixture))) 7 (.ptr 2 0)) 6 (.ptr 1 0)) 5 (.ptr 0 0)) 1 (.sl 4 false (profiles_838.map eApiProfile)), [.cel [.int .i64 p_839.fChannel, .int .i64 p_839.fAttr], .cel [.int .i64 0, .int .i64 0, .str ([]), .int .i64 0, .int .i64 0, .int .i64 0, .str ([])], .cel [.int .i64 0, .int .i64 0, .int .i64 0, .int .i64 0, .int .i64 0, .int .i64 0, .int .i64 0, .int .i64 0, .bool false, .sl 3 true []]]⟩ := rfl
noncomputable def f57_L1 (r_940 : (List ApiFixture)) (profiles_838 : (List ApiProfile)) (p_839 : ApiParam) : Lp (Int) ((Unit) ⊕ (Int × Int × (List UInt8) × Int × Int × Int × (List UInt8) × Int × Int × Int × Int × Int × Int × Int × Int × Bool × (List ApiSlot))) where
  body := fun i_1106 => (if (decide (i_1106 < ((r_940.length : Nat) : Int))) = true then (at? r_940 i_1106).bind fun x_1206 => (f34 profiles_838 x_1206.fProfile).bind fun r_1207 => (at? profiles_838 r_1207).bind fun x_1208 => ((Lp.run (f57_L2 x_1208 p_839 r_940 i_1106 profiles_838) 0).bind fun r_ => match r_ with | (Sum.inl _) => (some (.next (IntKind.i64.wrap (i_1106 + 1)))) | (Sum.inr (v_1271, v_1272, v_1273, v_1274, v_1275, v_1276, v_1277, v_1278, v_1279, v_1280, v_1281, v_1282, v_1283, v_1284, v_1285, v_1286, v_1287)) => (some (.brk (Sum.inr (v_1271, v_1272, v_1273, v_1274, v_1275, v_1276, v_1277, v_1278, v_1279, v_1280, v_1281, v_1282, v_1283, v_1284, v_1285, v_1286, v_1287))))) else (some (.brk (Sum.inl ()))))
  cst := fun i_1106 => ⟨put (put (put (put (put (put (fun _ => .junk) 10 (.int .i64 i_1106)) 9 (.sl 7 false (r_940.map eApiFixture))) 7 (.ptr 2 0)) 6 (.ptr 1 0)) 5 (.ptr 0 0)) 1 (.sl 4 false (profiles_838.map eApiProfile)), [.cel [.int .i64 p_839.fChannel, .int .i64 p_839.fAttr], .cel [.int .i64 0, .int .i64 0, .str ([]), .int .i64 0, .int .i64 0, .int .i64 0, .str ([])], .cel [.int .i64 0, .int .i64 0, .int .i64 0, .int .i64 0, .int .i64 0, .int .i64 0, .int .i64 0, .int .i64 0, .bool false, .sl 3 true []]]⟩
theorem f57_L1c (r_940 : (List ApiFixture)) (profiles_838 : (List ApiProfile)) (p_839 : ApiParam) (i_1106 : Int) : (f57_L1 r_940 profiles_838 p_839).cst i_1106 = ⟨put (put (put (put (put (put (fun _ => .junk) 10 (.int .i64 i_1106)) 9 (.sl 7 false (r_940.map eApiFixture))) 7 (.ptr 2 0)) 6 (.ptr 1 0)) 5 (.ptr 0 0)) 1 (.sl 4 false (profiles_838.map eApiProfile)), [.cel [.int .i64 p_839.fChannel, .int .i64 p_839.fAttr], .cel [.int .i64 0, .int .i64 0, .str ([]), .int .i64 0, .int .i64 0, .int .i64 0, .str ([])], .cel [.int .i64 0, .int .i64 0, .int .i64 0, .int .i64 0, .int .i64 0, .int .i64 0, .int .i64 0, .int .i64 0, .bool false, .sl 3 true []]]⟩ := rfl
def c57_0 : C := .cond (.t 20) (.skip) (.exit 0)
def c57_1 : C := .cond (.t 37) (.skip) (.exit 2)
def c57_2 : C := .cond (.t 47) (.seq (.regt (.fork [iI 48 (.mv (.t 9)), iI 49 (.mv (.t 10)), iI 50 (.iaddr 7 (.t 48) (.t 49)), iI 51 (.load 7 (.t 50)), iI 52 (.mv (.t 11)), iI 53 (.mv (.t 12)), iI 54 (.iaddr 10 (.t 52) (.t 53))] (.run [iI 55 (.load 10 (.t 54)), iN (.store 7 (.t 6) (.t 51)), iN (.store 10 (.t 7) (.t 55)), iI 8 (.mv (.c (.bool true)))]) (.run [iN (.store 7 (.t 6) (.t 51)), iI 55 (.load 10 (.t 54)), iN (.store 10 (.t 7) (.t 55)), iI 8 (.mv (.c (.bool true)))]))) .ret) (.skip)
def c57_3 : C := .reg [iI 38 (.mv (.t 12)), iI 39 (.bin .add (.t 38) (.c (.int .i64 1))), iI 12 (.mv (.t 39))]
def c57_4 : C := .seq (.block 3 (.seq (.reg [iI 40 (.mv (.t 11)), iI 41 (.mv (.t 12)), iI 42 (.iaddr 10 (.t 40) (.t 41)), iI 43 (.faddr 0 (.t 42)), iI 44 (.load 0 (.t 43)), iI 45 (.faddr 1 (.t 5)), iI 46 (.load 0 (.t 45)), iI 47 (.bin .eql (.t 44) (.t 46))]) c57_2)) c57_3
def c57_5 : C := .block 2 (.loop (.seq (.seq (.reg [iI 34 (.mv (.t 12)), iI 35 (.mv (.t 11)), iI 36 (.len 0 (.t 35)), iI 37 (.bin .lss (.t 34) (.t 36))]) c57_1) c57_4))
def c57_6 : C := .seq (.reg [iI 12 (.mv (.c (.int .i64 0)))]) c57_5
def c57_7 : C := .reg [iI 21 (.mv (.t 10)), iI 22 (.bin .add (.t 21) (.c (.int .i64 1))), iI 10 (.mv (.t 22))]
def c57_8 : C := .seq (.block 1 (.seq (.reg [iI 23 (.mv (.t 1)), iI 24 (.mv (.t 1)), iI 25 (.mv (.t 9)), iI 26 (.mv (.t 10)), iI 27 (.iaddr 7 (.t 25) (.t 26)), iI 28 (.faddr 2 (.t 27)), iI 29 (.load 0 (.t 28)), iI 30 (.call (.c (.fn 34 [])) [(.t 24), (.t 29)]), iI 31 (.iaddr 4 (.t 23) (.t 30)), iI 32 (.faddr 3 (.t 31)), iI 33 (.load 0 (.t 32)), iI 11 (.mv (.t 33))]) c57_6)) c57_7
def c57_9 : C := .block 0 (.loop (.seq (.seq (.reg [iI 17 (.mv (.t 10)), iI 18 (.mv (.t 9)), iI 19 (.len 0 (.t 18)), iI 20 (.bin .lss (.t 17) (.t 19))]) c57_0) c57_8))
def c57_10 : C := .seq (.reg [iI 56 (.build [(1, (.int .i64 0)), (1, (.int .i64 0)), (1, (.str [])), (1, (.int .i64 0)), (1, (.int .i64 0)), (1, (.int .i64 0)), (1, (.str []))] []), iI 57 (.build [(1, (.int .i64 0)), (1, (.int .i64 0)), (1, (.int .i64 0)), (1, (.int .i64 0)), (1, (.int .i64 0)), (1, (.int .i64 0)), (1, (.int .i64 0)), (1, (.int .i64 0)), (1, (.bool false)), (1, (.sl 3 true []))] []), iN (.store 7 (.t 6) (.t 56)), iN (.store 10 (.t 7) (.t 57)), iI 8 (.mv (.c (.bool false)))]) .ret
def c57_11 : C := .seq (.seq (.reg [iI 10 (.mv (.c (.int .i64 0)))]) c57_9) c57_10
def c57_12 : C := .seq (.reg [iI 13 (.mv (.t 0)), iI 14 (.faddr 0 (.t 5)), iI 15 (.load 0 (.t 14)), iI 16 (.call (.c (.fn 46 [])) [(.t 13), (.t 15)]), iI 9 (.mv (.t 16))]) c57_11
def ir57 : C := .seq (.reg [iI 5 (.box (.t 2)), iI 6 (.alloc [(1, (.int .i64 0)), (1, (.int .i64 0)), (1, (.str [])), (1, (.int .i64 0)), (1, (.int .i64 0)), (1, (.int .i64 0)), (1, (.str []))]), iI 7 (.alloc [(1, (.int .i64 0)), (1, (.int .i64 0)), (1, (.int .i64 0)), (1, (.int .i64 0)), (1, (.int .i64 0)), (1, (.int .i64 0)), (1, (.int .i64 0)), (1, (.int .i64 0)), (1, (.bool false)), (1, (.sl 3 true []))]), iI 8 (.mv (.c (.bool false)))]) c57_12
theorem fd57 : fd? Try.prog 57 = some (58, [.cell 6 7, .cell 7 10, .slot 8], ir57) := by kernel_rfl
noncomputable def f57 (l_837 : (List ApiFixture)) (profiles_838 : (List ApiProfile)) (p_839 : ApiParam) : Option (ApiFixture × ApiFeature × Bool) :=
  (f46 l_837 p_839.fChannel).bind fun r_940 => ((Lp.run (f57_L1 r_940 profiles_838 p_839) 0).bind fun r_ => match r_ with | (Sum.inl _) => (some ((ApiFixture.mk 0 0 ([]) 0 0 0 ([])), (ApiFeature.mk 0 0 0 0 0 0 0 0 false ([])), false)) | (Sum.inr (v_1189, v_1190, v_1191, v_1192, v_1193, v_1194, v_1195, v_1196, v_1197, v_1198, v_1199, v_1200, v_1201, v_1202, v_1203, v_1204, v_1205)) => (some ((ApiFixture.mk v_1189 v_1190 v_1191 v_1192 v_1193 v_1194 v_1195), (ApiFeature.mk v_1196 v_1197 v_1198 v_1199 v_1200 v_1201 v_1202 v_1203 v_1204 v_1205), true)))
theorem f57_ok {l_837 : (List ApiFixture)} {profiles_838 : (List ApiProfile)} {p_839 : ApiParam} {r_ : ApiFixture × ApiFeature × Bool} (H : f57 l_837 profiles_838 p_839 = some r_) : Pure Try.prog 57 [.sl 7 false (l_837.map eApiFixture), .sl 4 false (profiles_838.map eApiProfile), .agg [.int .i64 p_839.fChannel, .int .i64 p_839.fAttr]] (· = .tup [.agg [.int .i64 r_.1.fChannel, .int .i64 r_.1.fPart, .str r_.1.fProfile, .int .i64 r_.1.fUniverse, .int .i64 r_.1.fAddress, .int .i64 r_.1.fPhase, .str r_.1.fCable], .agg [.int .i64 r_.2.1.fAttr, .int .i64 r_.2.1.fBits, .int .i64 r_.2.1.fCoarse, .int .i64 r_.2.1.fFine, .int .i64 r_.2.1.fCurve, .int .i64 r_.2.1.fHome, .int .i64 r_.2.1.fLow, .int .i64 r_.2.1.fHigh, .bool r_.2.1.fSnap, .sl 3 false (r_.2.1.fWheel.map eApiSlot)], .bool r_.2.2]) := by
 refine Pure.walk3 fd57 none (Nat.le_of_ble_eq_true rfl) (by rfl) fun Q hQ => ?_
 simp only [f57] at H
 refine AW.rseq ?_
 try simp only [wm, ↓wk, ↓wl, nq, evV, ↓reduceIte, sevalprocAttr]
 refine AW.rseq ?_
 try simp only [wm, ↓wk, ↓wl, nq, evV, ↓reduceIte, sevalprocAttr]
 refine evTs_pure hFn H (fun _ h => f46_im h) (by rfl) (by rfl) (by rfl) (by rfl) (fun _ => rfl) ?_ <;> clear H <;> intro r_940 H
 try simp only [eL, wm, ↓wk, ↓wl, nq, evV, ↓reduceIte, sevalprocAttr]
 refine AW.sseq ?_
 refine AW.rseq ?_
 try simp only [wm, ↓wk, ↓wl, nq, evV, ↓reduceIte, sevalprocAttr]
 refine AW.bend ?_
 refine AW.iter H ((Le.tz [0, 1, 2] [1, 5, 6, 7, 9, 10] (by simp only [f57_L1c, wm, wmr, rrm, ↓wk, ↓wl, evV, ↓reduceIte, sevalprocAttr] <;> rfl))) ?_ <;> clear H
 rintro i_1106 x_ st0_ H hst_
 rw [f57_L1c] at hst_
 simp only [f57_L1] at H
 subst hst_
 refine AW.sseq ?_
 refine AW.rseq ?_
 try simp only [wm, ↓wk, ↓wl, nq, evV, ↓reduceIte, sevalprocAttr]
 refine AW.ifc H (by rfl) ?_ ?_ <;> clear H <;> intro H
 ·refine AW.skip ?_
  refine seqQ.norm ?_
  refine AW.bseq ?_
  refine AW.rseq ?_
  try simp only [wm, ↓wk, ↓wl, nq, evV, ↓reduceIte, sevalprocAttr]
  refine evTs_at (enc := eApiFixture) H (by rfl) (by rfl) ?_ <;> clear H <;> intro x_1206 H
  try simp only [eApiFixture, eL, eM, wm, ↓wk, ↓wl, nq, evV, ↓reduceIte, sevalprocAttr]
  refine evTs_pure hFn H (fun _ h => f34_ok h) (by rfl) (by rfl) (by rfl) (by rfl) (fun _ => rfl) ?_ <;> clear H <;> intro r_1207 H
  try simp only [eL, wm, ↓wk, ↓wl, nq, evV, ↓reduceIte, sevalprocAttr]
  refine evTs_at (enc := eApiProfile) H (by rfl) (by rfl) ?_ <;> clear H <;> intro x_1208 H
  try simp only [eApiProfile, eL, eM, wm, ↓wk, ↓wl, nq, evV, ↓reduceIte, sevalprocAttr]
  refine AW.rseq ?_
  try simp only [wm, ↓wk, ↓wl, nq, evV, ↓reduceIte, sevalprocAttr]
  refine AW.bend ?_
  refine AW.iter H ((Le.tz [0, 1, 2] [1, 5, 6, 7, 9, 10, 11, 12] (by simp only [f57_L2c, wm, wmr, rrm, ↓wk, ↓wl, evV, ↓reduceIte, sevalprocAttr] <;> rfl))) ?_ <;> clear H
  rintro k_1250 x_ st0_ H hst_
  rw [f57_L2c] at hst_
  simp only [f57_L2] at H
  subst hst_
  refine AW.sseq ?_
  refine AW.rseq ?_
  try simp only [wm, ↓wk, ↓wl, nq, evV, ↓reduceIte, sevalprocAttr]
  refine AW.ifc H (by rfl) ?_ ?_ <;> clear H <;> intro H
  ·refine AW.skip ?_
   refine seqQ.norm ?_
   refine AW.bseq ?_
   refine AW.rseq ?_
   try simp only [wm, ↓wk, ↓wl, nq, evV, ↓reduceIte, sevalprocAttr]
   refine evTs_at (enc := eApiFeature) H (by rfl) (by rfl) ?_ <;> clear H <;> intro x_1288 H
   try simp only [eApiFeature, eL, eM, wm, ↓wk, ↓wl, nq, evV, ↓reduceIte, sevalprocAttr]
   refine AW.ifc H (by rfl) ?_ ?_ <;> clear H <;> intro H
   ·refine AW.join (f57_J3) H ?_ fun hf57_J3 => ?_
    ·clear H
     rintro ⟨v_1291, v_1292, v_1293, v_1294, v_1295, v_1296, v_1297, v_1298, v_1299, v_1300, v_1301, v_1302, v_1303, v_1304, v_1305, v_1306, v_1307⟩ st0_ H hst_
     rw [f57_J3c] at hst_
     unfold f57_J3 at H
     try dsimp only at H
     subst hst_
     refine AW.ret ?_
     refine blkQ.ret ?_
     refine loopQ.ret H ?_ <;> clear H <;> intro H
     try dsimp only at H
     refine blk0.ret ?_
     refine blkQ.ret ?_
     refine loopQ.ret H ?_ <;> clear H <;> intro H
     try dsimp only at H
     refine blk0.ret ?_
     refine seqQ.ret ?_
     cases H
     exact hQ _ _ _ _ (.inr rfl) (by simp only [resVs, omap, resV, wm, ↓wk, ↓wl, nq, evV, ↓reduceIte, sevalprocAttr]; rfl) (hand_plain (by rfl)) (by first | exact Or.inl rfl | exact Or.inr rfl)
    ·refine AW.regt ?_
     refine evR.fork ?_
     try simp only [wm, ↓wk, ↓wl, nq, evV, ↓reduceIte, sevalprocAttr]
     refine evTs_at (enc := eApiFixture) H (by rfl) (by rfl) ?_ <;> clear H <;> intro x_1308 H
     try simp only [eApiFixture, eL, eM, wm, ↓wk, ↓wl, nq, evV, ↓reduceIte, sevalprocAttr]
     refine evTs_at (enc := eApiFeature) H (by rfl) (by rfl) ?_ <;> clear H <;> intro x_1309 H
     try simp only [eApiFeature, eL, eM, wm, ↓wk, ↓wl, nq, evV, ↓reduceIte, sevalprocAttr]
     refine evR.both ?_ ?_
     ·refine evR.run ?_
      try simp only [wm, ↓wk, ↓wl, nq, evV, ↓reduceIte, sevalprocAttr]
      refine seqQ.norm ?_
      exact hf57_J3 _ _ H ((Le.tz [1, 2] [6, 7, 8] (by simp only [f57_J3c, wm, wmr, rrm, ↓wk, ↓wl, evV, ↓reduceIte, sevalprocAttr] <;> rfl)))
     ·refine evR.run ?_
      try simp only [wm, ↓wk, ↓wl, nq, evV, ↓reduceIte, sevalprocAttr]
      refine seqQ.norm ?_
      exact hf57_J3 _ _ H ((Le.tz [1, 2] [6, 7, 8] (by simp only [f57_J3c, wm, wmr, rrm, ↓wk, ↓wl, evV, ↓reduceIte, sevalprocAttr] <;> rfl)))
   ·refine AW.skip ?_
    refine blkQ.norm ?_
    refine AW.rend ?_
    try simp only [wm, ↓wk, ↓wl, nq, evV, ↓reduceIte, sevalprocAttr]
    exact loopQ.next H ((Le.tz [0, 1, 2] [1, 5, 6, 7, 9, 10, 11, 12] (by simp only [f57_L2c, wm, wmr, rrm, ↓wk, ↓wl, evV, ↓reduceIte, sevalprocAttr] <;> rfl)))
  ·refine AW.exit ?_
   refine seqQ.exit ?_
   refine loopQ.exit H ?_ <;> clear H <;> intro H
   try dsimp only at H
   refine blk0.here ?_
   refine blkQ.norm ?_
   refine AW.rend ?_
   try simp only [wm, ↓wk, ↓wl, nq, evV, ↓reduceIte, sevalprocAttr]
   exact loopQ.next H ((Le.tz [0, 1, 2] [1, 5, 6, 7, 9, 10] (by simp only [f57_L1c, wm, wmr, rrm, ↓wk, ↓wl, evV, ↓reduceIte, sevalprocAttr] <;> rfl)))
 ·refine AW.exit ?_
  refine seqQ.exit ?_
  refine loopQ.exit H ?_ <;> clear H <;> intro H
  try dsimp only at H
  refine blk0.here ?_
  refine seqQ.norm ?_
  refine AW.rseq ?_
  try simp only [wm, ↓wk, ↓wl, nq, evV, ↓reduceIte, sevalprocAttr]
  refine AW.ret ?_
  cases H
  exact hQ _ _ _ _ (.inr rfl) (by simp only [resVs, omap, resV, wm, ↓wk, ↓wl, nq, evV, ↓reduceIte, sevalprocAttr]; rfl) (hand_plain (by rfl)) (by first | exact Or.inl rfl | exact Or.inr rfl)
noncomputable def f27_J1 (r_1310 : ApiFixture × ApiFeature × Bool) : Jn (Unit) (ApiFixture × ApiFeature × Bool × Int) where
  run := fun _ => (some (r_1310.1, r_1310.2.1, r_1310.2.2, 0))
  cst := fun _ => ⟨put (put (put (put (fun _ => .junk) 9 (.int .i64 0)) 8 (.bool r_1310.2.2)) 7 (.ptr 1 0)) 6 (.ptr 0 0), [.cel [.int .i64 r_1310.1.fChannel, .int .i64 r_1310.1.fPart, .str r_1310.1.fProfile, .int .i64 r_1310.1.fUniverse, .int .i64 r_1310.1.fAddress, .int .i64 r_1310.1.fPhase, .str r_1310.1.fCable], .cel [.int .i64 r_1310.2.1.fAttr, .int .i64 r_1310.2.1.fBits, .int .i64 r_1310.2.1.fCoarse, .int .i64 r_1310.2.1.fFine, .int .i64 r_1310.2.1.fCurve, .int .i64 r_1310.2.1.fHome, .int .i64 r_1310.2.1.fLow, .int .i64 r_1310.2.1.fHigh, .bool r_1310.2.1.fSnap, .sl 3 false (r_1310.2.1.fWheel.map eApiSlot)]]⟩
theorem f27_J1c (r_1310 : ApiFixture × ApiFeature × Bool) (x_ : Unit) : (f27_J1 r_1310).cst x_ = ⟨put (put (put (put (fun _ => .junk) 9 (.int .i64 0)) 8 (.bool r_1310.2.2)) 7 (.ptr 1 0)) 6 (.ptr 0 0), [.cel [.int .i64 r_1310.1.fChannel, .int .i64 r_1310.1.fPart, .str r_1310.1.fProfile, .int .i64 r_1310.1.fUniverse, .int .i64 r_1310.1.fAddress, .int .i64 r_1310.1.fPhase, .str r_1310.1.fCable], .cel [.int .i64 r_1310.2.1.fAttr, .int .i64 r_1310.2.1.fBits, .int .i64 r_1310.2.1.fCoarse, .int .i64 r_1310.2.1.fFine, .int .i64 r_1310.2.1.fCurve, .int .i64 r_1310.2.1.fHome, .int .i64 r_1310.2.1.fLow, .int .i64 r_1310.2.1.fHigh, .bool r_1310.2.1.fSnap, .sl 3 false (r_1310.2.1.fWheel.map eApiSlot)]]⟩ := rfl
def c27_0 : C := .cond (.t 18) (.seq (.reg [iI 19 (.build [(1, (.int .i64 0)), (1, (.int .i64 0)), (1, (.str [])), (1, (.int .i64 0)), (1, (.int .i64 0)), (1, (.int .i64 0)), (1, (.str []))] []), iI 20 (.build [(1, (.int .i64 0)), (1, (.int .i64 0)), (1, (.int .i64 0)), (1, (.int .i64 0)), (1, (.int .i64 0)), (1, (.int .i64 0)), (1, (.int .i64 0)), (1, (.int .i64 0)), (1, (.bool false)), (1, (.sl 3 true []))] []), iI 21 (.mv (.t 10)), iN (.store 7 (.t 6) (.t 19)), iN (.store 10 (.t 7) (.t 20)), iI 8 (.mv (.c (.bool false))), iI 9 (.mv (.t 21))]) .ret) (.skip)
def c27_1 : C := .seq (.reg [iI 17 (.mv (.t 10)), iI 18 (.bin .neq (.t 17) (.c (.int .i64 0)))]) c27_0
def c27_2 : C := .seq (.regt (.fork [iI 30 (.load 7 (.t 11)), iI 32 (.mv (.t 13))] (.run [iI 31 (.load 10 (.t 12)), iN (.store 7 (.t 6) (.t 30)), iN (.store 10 (.t 7) (.t 31)), iI 8 (.mv (.t 32)), iI 9 (.mv (.c (.int .i64 0)))]) (.run [iN (.store 7 (.t 6) (.t 30)), iI 31 (.load 10 (.t 12)), iN (.store 10 (.t 7) (.t 31)), iI 8 (.mv (.t 32)), iI 9 (.mv (.c (.int .i64 0)))]))) .ret
def c27_3 : C := .seq (.reg [iI 23 (.mv (.t 0)), iI 24 (.mv (.t 1)), iI 25 (.load 2 (.t 5)), iI 26 (.call (.c (.fn 57 [])) [(.t 23), (.t 24), (.t 25)]), iI 22 (.mv (.t 26)), iI 27 (.ext (.t 22) 0), iI 28 (.ext (.t 22) 1), iI 29 (.ext (.t 22) 2), iI 11 (.alloc [(1, (.int .i64 0)), (1, (.int .i64 0)), (1, (.str [])), (1, (.int .i64 0)), (1, (.int .i64 0)), (1, (.int .i64 0)), (1, (.str []))]), iI 12 (.alloc [(1, (.int .i64 0)), (1, (.int .i64 0)), (1, (.int .i64 0)), (1, (.int .i64 0)), (1, (.int .i64 0)), (1, (.int .i64 0)), (1, (.int .i64 0)), (1, (.int .i64 0)), (1, (.bool false)), (1, (.sl 3 true []))]), iN (.store 7 (.t 11) (.t 27)), iN (.store 10 (.t 12) (.t 28)), iI 13 (.mv (.t 29))]) c27_2
def c27_4 : C := .seq (.seq (.reg [iI 14 (.mv (.t 0)), iI 15 (.mv (.t 1)), iI 16 (.call (.c (.fn 17 [])) [(.t 14), (.t 15)]), iI 10 (.mv (.t 16))]) c27_1) c27_3
def ir27 : C := .seq (.reg [iI 5 (.box (.t 2)), iI 6 (.alloc [(1, (.int .i64 0)), (1, (.int .i64 0)), (1, (.str [])), (1, (.int .i64 0)), (1, (.int .i64 0)), (1, (.int .i64 0)), (1, (.str []))]), iI 7 (.alloc [(1, (.int .i64 0)), (1, (.int .i64 0)), (1, (.int .i64 0)), (1, (.int .i64 0)), (1, (.int .i64 0)), (1, (.int .i64 0)), (1, (.int .i64 0)), (1, (.int .i64 0)), (1, (.bool false)), (1, (.sl 3 true []))]), iI 8 (.mv (.c (.bool false))), iI 9 (.mv (.c (.int .i64 0)))]) c27_4
theorem fd27 : fd? Try.prog 27 = some (33, [.cell 6 7, .cell 7 10, .slot 8, .slot 9], ir27) := by kernel_rfl
noncomputable def f27 (l_832 : (List ApiFixture)) (profiles_833 : (List ApiProfile)) (p_834 : ApiParam) : Option (ApiFixture × ApiFeature × Bool × Int) :=
  (f17 l_832 profiles_833).bind fun r_836 => (if (decide (r_836 ≠ 0)) = true then (some ((ApiFixture.mk 0 0 ([]) 0 0 0 ([])), (ApiFeature.mk 0 0 0 0 0 0 0 0 false ([])), false, r_836)) else (f57 l_832 profiles_833 p_834).bind fun r_1310 => ((f27_J1 r_1310).run ()))
theorem f27_ok {l_832 : (List ApiFixture)} {profiles_833 : (List ApiProfile)} {p_834 : ApiParam} {r_ : ApiFixture × ApiFeature × Bool × Int} (H : f27 l_832 profiles_833 p_834 = some r_) : Pure Try.prog 27 [.sl 7 false (l_832.map eApiFixture), .sl 4 false (profiles_833.map eApiProfile), .agg [.int .i64 p_834.fChannel, .int .i64 p_834.fAttr]] (· = .tup [.agg [.int .i64 r_.1.fChannel, .int .i64 r_.1.fPart, .str r_.1.fProfile, .int .i64 r_.1.fUniverse, .int .i64 r_.1.fAddress, .int .i64 r_.1.fPhase, .str r_.1.fCable], .agg [.int .i64 r_.2.1.fAttr, .int .i64 r_.2.1.fBits, .int .i64 r_.2.1.fCoarse, .int .i64 r_.2.1.fFine, .int .i64 r_.2.1.fCurve, .int .i64 r_.2.1.fHome, .int .i64 r_.2.1.fLow, .int .i64 r_.2.1.fHigh, .bool r_.2.1.fSnap, .sl 3 false (r_.2.1.fWheel.map eApiSlot)], .bool r_.2.2.1, .int .i64 r_.2.2.2]) := by
 refine Pure.walk3 fd27 none (Nat.le_of_ble_eq_true rfl) (by rfl) fun Q hQ => ?_
 simp only [f27] at H
 refine AW.rseq ?_
 try simp only [wm, ↓wk, ↓wl, nq, evV, ↓reduceIte, sevalprocAttr]
 refine AW.sseq ?_
 refine AW.rseq ?_
 try simp only [wm, ↓wk, ↓wl, nq, evV, ↓reduceIte, sevalprocAttr]
 refine evTs_pure hFn H (fun _ h => f17_ok h) (by rfl) (by rfl) (by rfl) (by rfl) (fun _ => rfl) ?_ <;> clear H <;> intro r_836 H
 try simp only [eL, wm, ↓wk, ↓wl, nq, evV, ↓reduceIte, sevalprocAttr]
 refine AW.rseq ?_
 try simp only [wm, ↓wk, ↓wl, nq, evV, ↓reduceIte, sevalprocAttr]
 refine AW.ifc H (by rfl) ?_ ?_ <;> clear H <;> intro H
 ·refine AW.rseq ?_
  try simp only [wm, ↓wk, ↓wl, nq, evV, ↓reduceIte, sevalprocAttr]
  refine AW.ret ?_
  refine seqQ.ret ?_
  cases H
  exact hQ _ _ _ _ (.inr rfl) (by simp only [resVs, omap, resV, wm, ↓wk, ↓wl, nq, evV, ↓reduceIte, sevalprocAttr]; rfl) (hand_plain (by rfl)) (by first | exact Or.inl rfl | exact Or.inr rfl)
 ·refine AW.skip ?_
  refine seqQ.norm ?_
  refine AW.rseq ?_
  try simp only [wm, ↓wk, ↓wl, nq, evV, ↓reduceIte, sevalprocAttr]
  refine evTs_pure hFn H (fun _ h => f57_ok h) (by rfl) (by rfl) (by rfl) (by rfl) (fun _ => rfl) ?_ <;> clear H <;> intro r_1310 H
  try simp only [eL, eApiFixture, eM, eApiFeature, wm, ↓wk, ↓wl, nq, evV, ↓reduceIte, sevalprocAttr]
  refine AW.join (f27_J1 r_1310) H ?_ fun hf27_J1 => ?_
  ·clear H
   rintro _ st0_ H hst_
   rw [f27_J1c] at hst_
   simp only [f27_J1] at H
   subst hst_
   refine AW.ret ?_
   cases H
   exact hQ _ _ _ _ (.inr rfl) (by simp only [resVs, omap, resV, wm, ↓wk, ↓wl, nq, evV, ↓reduceIte, sevalprocAttr]; rfl) (hand_plain (by rfl)) (by first | exact Or.inl rfl | exact Or.inr rfl)
  ·refine AW.regt ?_
   refine evR.fork ?_
   try simp only [wm, ↓wk, ↓wl, nq, evV, ↓reduceIte, sevalprocAttr]
   refine evR.both ?_ ?_
   ·refine evR.run ?_
    try simp only [wm, ↓wk, ↓wl, nq, evV, ↓reduceIte, sevalprocAttr]
    refine seqQ.norm ?_
    exact hf27_J1 _ _ H ((Le.tz [1, 2] [6, 7, 8, 9] (by simp only [f27_J1c, wm, wmr, rrm, ↓wk, ↓wl, evV, ↓reduceIte, sevalprocAttr] <;> rfl)))
   ·refine evR.run ?_
    try simp only [wm, ↓wk, ↓wl, nq, evV, ↓reduceIte, sevalprocAttr]
    refine seqQ.norm ?_
    exact hf27_J1 _ _ H ((Le.tz [1, 2] [6, 7, 8, 9] (by simp only [f27_J1c, wm, wmr, rrm, ↓wk, ↓wl, evV, ↓reduceIte, sevalprocAttr] <;> rfl)))
noncomputable def f58_L1 (a_1315 : (List ApiSlot)) (b_1316 : (List ApiSlot)) : Lp (Int) ((Unit) ⊕ (Unit)) where
  body := fun i_1322 => (if (decide (i_1322 < ((a_1315.length : Nat) : Int))) = true then (at? a_1315 i_1322).bind fun x_1325 => (at? b_1316 i_1322).bind fun x_1326 => (if (!((x_1325.fName == x_1326.fName) && ((x_1325.fFrom == x_1326.fFrom) && ((x_1325.fTo == x_1326.fTo) && true)))) = true then (some (.brk (Sum.inr ()))) else (some (.next (IntKind.i64.wrap (i_1322 + 1))))) else (some (.brk (Sum.inl ()))))
  cst := fun i_1322 => ⟨put (put (put (fun _ => .junk) 5 (.int .i64 i_1322)) 1 (.sl 3 false (b_1316.map eApiSlot))) 0 (.sl 3 false (a_1315.map eApiSlot)), []⟩
theorem f58_L1c (a_1315 : (List ApiSlot)) (b_1316 : (List ApiSlot)) (i_1322 : Int) : (f58_L1 a_1315 b_1316).cst i_1322 = ⟨put (put (put (fun _ => .junk) 5 (.int .i64 i_1322)) 1 (.sl 3 false (b_1316.map eApiSlot))) 0 (.sl 3 false (a_1315.map eApiSlot)), []⟩ := rfl
def c58_0 : C := .cond (.t 10) (.seq (.reg [iI 4 (.mv (.c (.bool false)))]) .ret) (.skip)
def c58_1 : C := .cond (.t 14) (.skip) (.exit 0)
def c58_2 : C := .cond (.t 25) (.seq (.reg [iI 4 (.mv (.c (.bool false)))]) .ret) (.skip)
def c58_3 : C := .reg [iI 15 (.mv (.t 5)), iI 16 (.bin .add (.t 15) (.c (.int .i64 1))), iI 5 (.mv (.t 16))]
def c58_4 : C := .seq (.block 1 (.seq (.reg [iI 17 (.mv (.t 0)), iI 18 (.mv (.t 5)), iI 19 (.iaddr 3 (.t 17) (.t 18)), iI 20 (.load 3 (.t 19)), iI 21 (.mv (.t 1)), iI 22 (.mv (.t 5)), iI 23 (.iaddr 3 (.t 21) (.t 22)), iI 24 (.load 3 (.t 23)), iI 25 (.eqs true [1, 0, 0] (.t 20) (.t 24))]) c58_2)) c58_3
def c58_5 : C := .block 0 (.loop (.seq (.seq (.reg [iI 11 (.mv (.t 5)), iI 12 (.mv (.t 0)), iI 13 (.len 0 (.t 12)), iI 14 (.bin .lss (.t 11) (.t 13))]) c58_1) c58_4))
def c58_6 : C := .seq (.reg [iI 4 (.mv (.c (.bool true)))]) .ret
def c58_7 : C := .seq (.seq (.reg [iI 5 (.mv (.c (.int .i64 0)))]) c58_5) c58_6
def c58_8 : C := .seq (.seq (.reg [iI 6 (.mv (.t 0)), iI 7 (.len 0 (.t 6)), iI 8 (.mv (.t 1)), iI 9 (.len 0 (.t 8)), iI 10 (.bin .neq (.t 7) (.t 9))]) c58_0) c58_7
def ir58 : C := .seq (.reg [iI 4 (.mv (.c (.bool false)))]) c58_8
theorem fd58 : fd? Try.prog 58 = some (26, [.slot 4], ir58) := by kernel_rfl
noncomputable def f58 (a_1315 : (List ApiSlot)) (b_1316 : (List ApiSlot)) : Option (Bool) :=
  (if (decide (((a_1315.length : Nat) : Int) ≠ ((b_1316.length : Nat) : Int))) = true then (some false) else ((Lp.run (f58_L1 a_1315 b_1316) 0).bind fun r_ => match r_ with | (Sum.inl _) => (some true) | (Sum.inr _) => (some false)))
theorem f58_ok {a_1315 : (List ApiSlot)} {b_1316 : (List ApiSlot)} {r_ : Bool} (H : f58 a_1315 b_1316 = some r_) : Pure Try.prog 58 [.sl 3 false (a_1315.map eApiSlot), .sl 3 false (b_1316.map eApiSlot)] (· = .bool r_) := by
 refine Pure.walk3 fd58 none (Nat.le_of_ble_eq_true rfl) (by rfl) fun Q hQ => ?_
 simp only [f58] at H
 refine AW.rseq ?_
 try simp only [wm, ↓wk, ↓wl, nq, evV, ↓reduceIte, sevalprocAttr]
 refine AW.sseq ?_
 refine AW.rseq ?_
 try simp only [wm, ↓wk, ↓wl, nq, evV, ↓reduceIte, sevalprocAttr]
 refine AW.ifc H (by rfl) ?_ ?_ <;> clear H <;> intro H
 ·refine AW.rseq ?_
  try simp only [wm, ↓wk, ↓wl, nq, evV, ↓reduceIte, sevalprocAttr]
  refine AW.ret ?_
  refine seqQ.ret ?_
  cases H
  exact hQ _ _ _ _ (.inr rfl) (by simp only [resVs, omap, resV, wm, ↓wk, ↓wl, nq, evV, ↓reduceIte, sevalprocAttr]; rfl) (hand_plain (by rfl)) (by first | exact Or.inl rfl | exact Or.inr rfl)
 ·refine AW.skip ?_
  refine seqQ.norm ?_
  refine AW.sseq ?_
  refine AW.rseq ?_
  try simp only [wm, ↓wk, ↓wl, nq, evV, ↓reduceIte, sevalprocAttr]
  refine AW.bend ?_
  refine AW.iter H ((Le.tz [] [0, 1, 5] (by simp only [f58_L1c, wm, wmr, rrm, ↓wk, ↓wl, evV, ↓reduceIte, sevalprocAttr] <;> rfl))) ?_ <;> clear H
  rintro i_1322 x_ st0_ H hst_
  rw [f58_L1c] at hst_
  simp only [f58_L1] at H
  subst hst_
  refine AW.sseq ?_
  refine AW.rseq ?_
  try simp only [wm, ↓wk, ↓wl, nq, evV, ↓reduceIte, sevalprocAttr]
  refine AW.ifc H (by rfl) ?_ ?_ <;> clear H <;> intro H
  ·refine AW.skip ?_
   refine seqQ.norm ?_
   refine AW.bseq ?_
   refine AW.rseq ?_
   try simp only [wm, ↓wk, ↓wl, nq, evV, ↓reduceIte, sevalprocAttr]
   refine evTs_at (enc := eApiSlot) H (by rfl) (by rfl) ?_ <;> clear H <;> intro x_1325 H
   try simp only [eApiSlot, eL, eM, wm, ↓wk, ↓wl, nq, evV, ↓reduceIte, sevalprocAttr]
   refine evTs_at (enc := eApiSlot) H (by rfl) (by rfl) ?_ <;> clear H <;> intro x_1326 H
   try simp only [eApiSlot, eL, eM, wm, ↓wk, ↓wl, nq, evV, ↓reduceIte, sevalprocAttr]
   refine rest_neqs (by rfl) ?_
   try simp only [wm, ↓wk, ↓wl, nq, evV, ↓reduceIte, sevalprocAttr]
   refine AW.ifc H (by rfl) ?_ ?_ <;> clear H <;> intro H
   ·refine AW.rseq ?_
    try simp only [wm, ↓wk, ↓wl, nq, evV, ↓reduceIte, sevalprocAttr]
    refine AW.ret ?_
    refine blkQ.ret ?_
    refine loopQ.ret H ?_ <;> clear H <;> intro H
    try dsimp only at H
    refine blk0.ret ?_
    refine seqQ.ret ?_
    cases H
    exact hQ _ _ _ _ (.inr rfl) (by simp only [resVs, omap, resV, wm, ↓wk, ↓wl, nq, evV, ↓reduceIte, sevalprocAttr]; rfl) (hand_plain (by rfl)) (by first | exact Or.inl rfl | exact Or.inr rfl)
   ·refine AW.skip ?_
    refine blkQ.norm ?_
    refine AW.rend ?_
    try simp only [wm, ↓wk, ↓wl, nq, evV, ↓reduceIte, sevalprocAttr]
    exact loopQ.next H ((Le.tz [] [0, 1, 5] (by simp only [f58_L1c, wm, wmr, rrm, ↓wk, ↓wl, evV, ↓reduceIte, sevalprocAttr] <;> rfl)))
  ·refine AW.exit ?_
   refine seqQ.exit ?_
   refine loopQ.exit H ?_ <;> clear H <;> intro H
   try dsimp only at H
   refine blk0.here ?_
   refine seqQ.norm ?_
   refine AW.rseq ?_
   try simp only [wm, ↓wk, ↓wl, nq, evV, ↓reduceIte, sevalprocAttr]
   refine AW.ret ?_
   cases H
   exact hQ _ _ _ _ (.inr rfl) (by simp only [resVs, omap, resV, wm, ↓wk, ↓wl, nq, evV, ↓reduceIte, sevalprocAttr]; rfl) (hand_plain (by rfl)) (by first | exact Or.inl rfl | exact Or.inr rfl)
def c28_0 : C := .seq (.reg [iI 5 (.faddr 0 (.t 2)), iI 6 (.load 0 (.t 5)), iI 7 (.faddr 0 (.t 3)), iI 8 (.load 0 (.t 7)), iI 9 (.bin .eql (.t 6) (.t 8)), iI 10 (.mv (.t 9)), iG (some 11) 10 true (.faddr 1 (.t 2)), iG (some 12) 10 true (.load 0 (.t 11)), iG (some 13) 10 true (.faddr 1 (.t 3)), iG (some 14) 10 true (.load 0 (.t 13)), iG (some 15) 10 true (.bin .eql (.t 12) (.t 14)), iI 16 (.pick (.t 10) (.t 15) (.c (.bool false))), iI 17 (.mv (.t 16)), iG (some 18) 17 true (.faddr 2 (.t 2)), iG (some 19) 17 true (.load 0 (.t 18)), iG (some 20) 17 true (.faddr 2 (.t 3)), iG (some 21) 17 true (.load 0 (.t 20)), iG (some 22) 17 true (.bin .eql (.t 19) (.t 21)), iI 23 (.pick (.t 17) (.t 22) (.c (.bool false))), iI 24 (.mv (.t 23)), iG (some 25) 24 true (.faddr 3 (.t 2)), iG (some 26) 24 true (.load 0 (.t 25)), iG (some 27) 24 true (.faddr 3 (.t 3)), iG (some 28) 24 true (.load 0 (.t 27)), iG (some 29) 24 true (.bin .eql (.t 26) (.t 28)), iI 30 (.pick (.t 24) (.t 29) (.c (.bool false))), iI 31 (.mv (.t 30)), iG (some 32) 31 true (.faddr 4 (.t 2)), iG (some 33) 31 true (.load 0 (.t 32)), iG (some 34) 31 true (.faddr 4 (.t 3)), iG (some 35) 31 true (.load 0 (.t 34)), iG (some 36) 31 true (.bin .eql (.t 33) (.t 35)), iI 37 (.pick (.t 31) (.t 36) (.c (.bool false))), iI 38 (.mv (.t 37)), iG (some 39) 38 true (.faddr 5 (.t 2)), iG (some 40) 38 true (.load 0 (.t 39)), iG (some 41) 38 true (.faddr 5 (.t 3)), iG (some 42) 38 true (.load 0 (.t 41)), iG (some 43) 38 true (.bin .eql (.t 40) (.t 42)), iI 44 (.pick (.t 38) (.t 43) (.c (.bool false))), iI 45 (.mv (.t 44)), iG (some 46) 45 true (.faddr 6 (.t 2)), iG (some 47) 45 true (.load 0 (.t 46)), iG (some 48) 45 true (.faddr 6 (.t 3)), iG (some 49) 45 true (.load 0 (.t 48)), iG (some 50) 45 true (.bin .eql (.t 47) (.t 49)), iI 51 (.pick (.t 45) (.t 50) (.c (.bool false))), iI 52 (.mv (.t 51)), iG (some 53) 52 true (.faddr 7 (.t 2)), iG (some 54) 52 true (.load 0 (.t 53)), iG (some 55) 52 true (.faddr 7 (.t 3)), iG (some 56) 52 true (.load 0 (.t 55)), iG (some 57) 52 true (.bin .eql (.t 54) (.t 56)), iI 58 (.pick (.t 52) (.t 57) (.c (.bool false))), iI 59 (.mv (.t 58)), iG (some 60) 59 true (.faddr 8 (.t 2)), iG (some 61) 59 true (.load 0 (.t 60)), iG (some 62) 59 true (.faddr 8 (.t 3)), iG (some 63) 59 true (.load 0 (.t 62)), iG (some 64) 59 true (.binb .eql (.t 61) (.t 63)), iI 65 (.pick (.t 59) (.t 64) (.c (.bool false))), iI 66 (.mv (.t 65)), iG (some 67) 66 true (.faddr 9 (.t 2)), iG (some 68) 66 true (.load 0 (.t 67)), iG (some 69) 66 true (.faddr 9 (.t 3)), iG (some 70) 66 true (.load 0 (.t 69)), iG (some 71) 66 true (.call (.c (.fn 58 [])) [(.t 68), (.t 70)]), iI 72 (.pick (.t 66) (.t 71) (.c (.bool false))), iI 4 (.mv (.t 72))]) .ret
def ir28 : C := .seq (.reg [iI 2 (.box (.t 0)), iI 3 (.box (.t 1)), iI 4 (.mv (.c (.bool false)))]) c28_0
theorem fd28 : fd? Try.prog 28 = some (73, [.slot 4], ir28) := by kernel_rfl
noncomputable def f28 (a_1313 : ApiFeature) (b_1314 : ApiFeature) : Option (Bool) :=
  (if (decide (a_1313.fAttr = b_1314.fAttr)) = true then (if (decide (a_1313.fBits = b_1314.fBits)) = true then (if (decide (a_1313.fCoarse = b_1314.fCoarse)) = true then (if (decide (a_1313.fFine = b_1314.fFine)) = true then (if (decide (a_1313.fCurve = b_1314.fCurve)) = true then (if (decide (a_1313.fHome = b_1314.fHome)) = true then (if (decide (a_1313.fLow = b_1314.fLow)) = true then (if (decide (a_1313.fHigh = b_1314.fHigh)) = true then (if (a_1313.fSnap == b_1314.fSnap) = true then (f58 a_1313.fWheel b_1314.fWheel).bind fun r_1327 => (some r_1327) else (some false)) else (some false)) else (some false)) else (some false)) else (some false)) else (some false)) else (some false)) else (some false)) else (some false))
theorem f28_ok {a_1313 : ApiFeature} {b_1314 : ApiFeature} {r_ : Bool} (H : f28 a_1313 b_1314 = some r_) : Pure Try.prog 28 [.agg [.int .i64 a_1313.fAttr, .int .i64 a_1313.fBits, .int .i64 a_1313.fCoarse, .int .i64 a_1313.fFine, .int .i64 a_1313.fCurve, .int .i64 a_1313.fHome, .int .i64 a_1313.fLow, .int .i64 a_1313.fHigh, .bool a_1313.fSnap, .sl 3 false (a_1313.fWheel.map eApiSlot)], .agg [.int .i64 b_1314.fAttr, .int .i64 b_1314.fBits, .int .i64 b_1314.fCoarse, .int .i64 b_1314.fFine, .int .i64 b_1314.fCurve, .int .i64 b_1314.fHome, .int .i64 b_1314.fLow, .int .i64 b_1314.fHigh, .bool b_1314.fSnap, .sl 3 false (b_1314.fWheel.map eApiSlot)]] (· = .bool r_) := by
 refine Pure.walk3 fd28 none (Nat.le_of_ble_eq_true rfl) (by rfl) fun Q hQ => ?_
 simp only [f28] at H
 refine AW.rseq ?_
 try simp only [wm, ↓wk, ↓wl, nq, evV, ↓reduceIte, sevalprocAttr]
 refine AW.rseq ?_
 try simp only [wm, ↓wk, ↓wl, nq, evV, ↓reduceIte, sevalprocAttr]
 refine evTs_ifg H (by rfl) ?_ ?_ <;> clear H <;> intro H
 ·try simp only [wm, ↓wk, ↓wl, nq, evV, ↓reduceIte, sevalprocAttr]
  refine evTs_ifg H (by rfl) ?_ ?_ <;> clear H <;> intro H
  ·try simp only [wm, ↓wk, ↓wl, nq, evV, ↓reduceIte, sevalprocAttr]
   refine evTs_ifg H (by rfl) ?_ ?_ <;> clear H <;> intro H
   ·try simp only [wm, ↓wk, ↓wl, nq, evV, ↓reduceIte, sevalprocAttr]
    refine evTs_ifg H (by rfl) ?_ ?_ <;> clear H <;> intro H
    ·try simp only [wm, ↓wk, ↓wl, nq, evV, ↓reduceIte, sevalprocAttr]
     refine evTs_ifg H (by rfl) ?_ ?_ <;> clear H <;> intro H
     ·try simp only [wm, ↓wk, ↓wl, nq, evV, ↓reduceIte, sevalprocAttr]
      refine evTs_ifg H (by rfl) ?_ ?_ <;> clear H <;> intro H
      ·try simp only [wm, ↓wk, ↓wl, nq, evV, ↓reduceIte, sevalprocAttr]
       refine evTs_ifg H (by rfl) ?_ ?_ <;> clear H <;> intro H
       ·try simp only [wm, ↓wk, ↓wl, nq, evV, ↓reduceIte, sevalprocAttr]
        refine evTs_ifg H (by rfl) ?_ ?_ <;> clear H <;> intro H
        ·try simp only [wm, ↓wk, ↓wl, nq, evV, ↓reduceIte, sevalprocAttr]
         refine evTs_ifg H (by rfl) ?_ ?_ <;> clear H <;> intro H
         ·try simp only [wm, ↓wk, ↓wl, nq, evV, ↓reduceIte, sevalprocAttr]
          refine evTs_pure hFn H (fun _ h => f58_ok h) (by rfl) (by rfl) (by rfl) (by rfl) (fun _ => rfl) ?_ <;> clear H <;> intro r_1327 H
          try simp only [eL, wm, ↓wk, ↓wl, nq, evV, ↓reduceIte, sevalprocAttr]
          refine AW.ret ?_
          cases H
          exact hQ _ _ _ _ (.inr rfl) (by simp only [resVs, omap, resV, wm, ↓wk, ↓wl, nq, evV, ↓reduceIte, sevalprocAttr]; rfl) (hand_plain (by rfl)) (by first | exact Or.inl rfl | exact Or.inr rfl)
         ·try simp only [wm, ↓wk, ↓wl, nq, evV, ↓reduceIte, sevalprocAttr]
          refine AW.ret ?_
          cases H
          exact hQ _ _ _ _ (.inr rfl) (by simp only [resVs, omap, resV, wm, ↓wk, ↓wl, nq, evV, ↓reduceIte, sevalprocAttr]; rfl) (hand_plain (by rfl)) (by first | exact Or.inl rfl | exact Or.inr rfl)
        ·try simp only [wm, ↓wk, ↓wl, nq, evV, ↓reduceIte, sevalprocAttr]
         refine AW.ret ?_
         cases H
         exact hQ _ _ _ _ (.inr rfl) (by simp only [resVs, omap, resV, wm, ↓wk, ↓wl, nq, evV, ↓reduceIte, sevalprocAttr]; rfl) (hand_plain (by rfl)) (by first | exact Or.inl rfl | exact Or.inr rfl)
       ·try simp only [wm, ↓wk, ↓wl, nq, evV, ↓reduceIte, sevalprocAttr]
        refine AW.ret ?_
        cases H
        exact hQ _ _ _ _ (.inr rfl) (by simp only [resVs, omap, resV, wm, ↓wk, ↓wl, nq, evV, ↓reduceIte, sevalprocAttr]; rfl) (hand_plain (by rfl)) (by first | exact Or.inl rfl | exact Or.inr rfl)
      ·try simp only [wm, ↓wk, ↓wl, nq, evV, ↓reduceIte, sevalprocAttr]
       refine AW.ret ?_
       cases H
       exact hQ _ _ _ _ (.inr rfl) (by simp only [resVs, omap, resV, wm, ↓wk, ↓wl, nq, evV, ↓reduceIte, sevalprocAttr]; rfl) (hand_plain (by rfl)) (by first | exact Or.inl rfl | exact Or.inr rfl)
     ·try simp only [wm, ↓wk, ↓wl, nq, evV, ↓reduceIte, sevalprocAttr]
      refine AW.ret ?_
      cases H
      exact hQ _ _ _ _ (.inr rfl) (by simp only [resVs, omap, resV, wm, ↓wk, ↓wl, nq, evV, ↓reduceIte, sevalprocAttr]; rfl) (hand_plain (by rfl)) (by first | exact Or.inl rfl | exact Or.inr rfl)
    ·try simp only [wm, ↓wk, ↓wl, nq, evV, ↓reduceIte, sevalprocAttr]
     refine AW.ret ?_
     cases H
     exact hQ _ _ _ _ (.inr rfl) (by simp only [resVs, omap, resV, wm, ↓wk, ↓wl, nq, evV, ↓reduceIte, sevalprocAttr]; rfl) (hand_plain (by rfl)) (by first | exact Or.inl rfl | exact Or.inr rfl)
   ·try simp only [wm, ↓wk, ↓wl, nq, evV, ↓reduceIte, sevalprocAttr]
    refine AW.ret ?_
    cases H
    exact hQ _ _ _ _ (.inr rfl) (by simp only [resVs, omap, resV, wm, ↓wk, ↓wl, nq, evV, ↓reduceIte, sevalprocAttr]; rfl) (hand_plain (by rfl)) (by first | exact Or.inl rfl | exact Or.inr rfl)
  ·try simp only [wm, ↓wk, ↓wl, nq, evV, ↓reduceIte, sevalprocAttr]
   refine AW.ret ?_
   cases H
   exact hQ _ _ _ _ (.inr rfl) (by simp only [resVs, omap, resV, wm, ↓wk, ↓wl, nq, evV, ↓reduceIte, sevalprocAttr]; rfl) (hand_plain (by rfl)) (by first | exact Or.inl rfl | exact Or.inr rfl)
 ·try simp only [wm, ↓wk, ↓wl, nq, evV, ↓reduceIte, sevalprocAttr]
  refine AW.ret ?_
  cases H
  exact hQ _ _ _ _ (.inr rfl) (by simp only [resVs, omap, resV, wm, ↓wk, ↓wl, nq, evV, ↓reduceIte, sevalprocAttr]; rfl) (hand_plain (by rfl)) (by first | exact Or.inl rfl | exact Or.inr rfl)
def c5_0 : C := .cond (.t 18) (.seq (.reg [iI 19 (.call (.c (.fn 11 [])) []), iI 6 (.mv (.t 19))]) .ret) (.skip)
def c5_1 : C := .seq (.reg [iI 38 (.call (.c (.fn 11 [])) []), iI 39 (.mv (.t 38)), iG (some 40) 39 true (.load 7 (.t 7)), iG (some 41) 39 true (.load 7 (.t 11)), iG (some 42) 39 true (.eqs false [0, 0, 1, 0, 0, 0, 1] (.t 40) (.t 41)), iI 43 (.pick (.t 39) (.t 42) (.c (.bool false))), iI 44 (.mv (.t 43)), iG (some 45) 44 true (.load 10 (.t 8)), iG (some 46) 44 true (.load 10 (.t 12)), iG (some 47) 44 true (.call (.c (.fn 28 [])) [(.t 45), (.t 46)]), iI 48 (.pick (.t 44) (.t 47) (.c (.bool false))), iI 49 (.mv (.t 48)), iG (some 50) 49 true (.mv (.t 9)), iG (some 51) 49 true (.mv (.t 13)), iG (some 52) 49 true (.binb .eql (.t 50) (.t 51)), iI 53 (.pick (.t 49) (.t 52) (.c (.bool false))), iI 54 (.mv (.t 53)), iG (some 55) 54 true (.mv (.t 10)), iG (some 56) 54 true (.mv (.t 14)), iG (some 57) 54 true (.bin .eql (.t 55) (.t 56)), iI 58 (.pick (.t 54) (.t 57) (.c (.bool false))), iI 6 (.mv (.t 58))]) .ret
def c5_2 : C := .seq (.reg [iI 30 (.mv (.t 0)), iI 31 (.mv (.t 1)), iI 32 (.load 2 (.t 5)), iI 33 (.call (.c (.fn 27 [])) [(.t 30), (.t 31), (.t 32)]), iI 29 (.mv (.t 33)), iI 34 (.ext (.t 29) 0), iI 35 (.ext (.t 29) 1), iI 36 (.ext (.t 29) 2), iI 37 (.ext (.t 29) 3), iI 11 (.alloc [(1, (.int .i64 0)), (1, (.int .i64 0)), (1, (.str [])), (1, (.int .i64 0)), (1, (.int .i64 0)), (1, (.int .i64 0)), (1, (.str []))]), iI 12 (.alloc [(1, (.int .i64 0)), (1, (.int .i64 0)), (1, (.int .i64 0)), (1, (.int .i64 0)), (1, (.int .i64 0)), (1, (.int .i64 0)), (1, (.int .i64 0)), (1, (.int .i64 0)), (1, (.bool false)), (1, (.sl 3 true []))]), iN (.store 7 (.t 11) (.t 34)), iN (.store 10 (.t 12) (.t 35)), iI 13 (.mv (.t 36)), iI 14 (.mv (.t 37))]) c5_1
def c5_3 : C := .seq (.reg [iI 21 (.mv (.t 0)), iI 22 (.mv (.t 1)), iI 23 (.load 2 (.t 5)), iI 24 (.call (.c (.fn 26 [])) [(.t 21), (.t 22), (.t 23)]), iI 20 (.mv (.t 24)), iI 25 (.ext (.t 20) 0), iI 26 (.ext (.t 20) 1), iI 27 (.ext (.t 20) 2), iI 28 (.ext (.t 20) 3), iI 7 (.alloc [(1, (.int .i64 0)), (1, (.int .i64 0)), (1, (.str [])), (1, (.int .i64 0)), (1, (.int .i64 0)), (1, (.int .i64 0)), (1, (.str []))]), iI 8 (.alloc [(1, (.int .i64 0)), (1, (.int .i64 0)), (1, (.int .i64 0)), (1, (.int .i64 0)), (1, (.int .i64 0)), (1, (.int .i64 0)), (1, (.int .i64 0)), (1, (.int .i64 0)), (1, (.bool false)), (1, (.sl 3 true []))]), iN (.store 7 (.t 7) (.t 25)), iN (.store 10 (.t 8) (.t 26)), iI 9 (.mv (.t 27)), iI 10 (.mv (.t 28))]) c5_2
def c5_4 : C := .seq (.seq (.reg [iI 15 (.mv (.t 0)), iI 16 (.mv (.t 1)), iI 17 (.call (.c (.fn 10 [])) [(.t 15), (.t 16)]), iI 18 (.un .not (.t 17))]) c5_0) c5_3
def ir5 : C := .seq (.reg [iI 5 (.box (.t 2)), iI 6 (.mv (.c (.bool false)))]) c5_4
theorem fd5 : fd? Try.prog 5 = some (59, [.slot 6], ir5) := by kernel_rfl
noncomputable def f5 (l_824 : (List ApiFixture)) (profiles_825 : (List ApiProfile)) (p_826 : ApiParam) : Option (Bool) :=
  (f10 l_824 profiles_825).bind fun r_829 => (if (!r_829) = true then (f11).bind fun r_830 => (some r_830) else (f26 l_824 profiles_825 p_826).bind fun r_831 => (f27 l_824 profiles_825 p_826).bind fun r_1311 => (f11).bind fun r_1312 => (if r_1312 = true then (if ((r_831.1.fChannel == r_1311.1.fChannel) && ((r_831.1.fPart == r_1311.1.fPart) && ((r_831.1.fProfile == r_1311.1.fProfile) && ((r_831.1.fUniverse == r_1311.1.fUniverse) && ((r_831.1.fAddress == r_1311.1.fAddress) && ((r_831.1.fPhase == r_1311.1.fPhase) && ((r_831.1.fCable == r_1311.1.fCable) && true))))))) = true then (f28 r_831.2.1 r_1311.2.1).bind fun r_1328 => (if r_1328 = true then (if (r_831.2.2.1 == r_1311.2.2.1) = true then (some (decide (r_831.2.2.2 = r_1311.2.2.2))) else (some false)) else (some false)) else (some false)) else (some false)))
theorem f5_ok {l_824 : (List ApiFixture)} {profiles_825 : (List ApiProfile)} {p_826 : ApiParam} {r_ : Bool} (H : f5 l_824 profiles_825 p_826 = some r_) : Pure Try.prog 5 [.sl 7 false (l_824.map eApiFixture), .sl 4 false (profiles_825.map eApiProfile), .agg [.int .i64 p_826.fChannel, .int .i64 p_826.fAttr]] (· = .bool r_) := by
 refine Pure.walk3 fd5 none (Nat.le_of_ble_eq_true rfl) (by rfl) fun Q hQ => ?_
 simp only [f5] at H
 refine AW.rseq ?_
 try simp only [wm, ↓wk, ↓wl, nq, evV, ↓reduceIte, sevalprocAttr]
 refine AW.sseq ?_
 refine AW.rseq ?_
 try simp only [wm, ↓wk, ↓wl, nq, evV, ↓reduceIte, sevalprocAttr]
 refine evTs_pure hFn H (fun _ h => f10_ok h) (by rfl) (by rfl) (by rfl) (by rfl) (fun _ => rfl) ?_ <;> clear H <;> intro r_829 H
 try simp only [eL, wm, ↓wk, ↓wl, nq, evV, ↓reduceIte, sevalprocAttr]
 refine AW.ifc H (by rfl) ?_ ?_ <;> clear H <;> intro H
 ·refine AW.rseq ?_
  try simp only [wm, ↓wk, ↓wl, nq, evV, ↓reduceIte, sevalprocAttr]
  refine evTs_pure hFn H (fun _ h => f11_ok h) (by rfl) (by rfl) (by rfl) (by rfl) (fun _ => rfl) ?_ <;> clear H <;> intro r_830 H
  try simp only [eL, wm, ↓wk, ↓wl, nq, evV, ↓reduceIte, sevalprocAttr]
  refine AW.ret ?_
  refine seqQ.ret ?_
  cases H
  exact hQ _ _ _ _ (.inr rfl) (by simp only [resVs, omap, resV, wm, ↓wk, ↓wl, nq, evV, ↓reduceIte, sevalprocAttr]; rfl) (hand_plain (by rfl)) (by first | exact Or.inl rfl | exact Or.inr rfl)
 ·refine AW.skip ?_
  refine seqQ.norm ?_
  refine AW.rseq ?_
  try simp only [wm, ↓wk, ↓wl, nq, evV, ↓reduceIte, sevalprocAttr]
  refine evTs_pure hFn H (fun _ h => f26_ok h) (by rfl) (by rfl) (by rfl) (by rfl) (fun _ => rfl) ?_ <;> clear H <;> intro r_831 H
  try simp only [eL, eApiFixture, eM, eApiFeature, wm, ↓wk, ↓wl, nq, evV, ↓reduceIte, sevalprocAttr]
  refine AW.rseq ?_
  try simp only [wm, ↓wk, ↓wl, nq, evV, ↓reduceIte, sevalprocAttr]
  refine evTs_pure hFn H (fun _ h => f27_ok h) (by rfl) (by rfl) (by rfl) (by rfl) (fun _ => rfl) ?_ <;> clear H <;> intro r_1311 H
  try simp only [eL, eApiFixture, eM, eApiFeature, wm, ↓wk, ↓wl, nq, evV, ↓reduceIte, sevalprocAttr]
  refine AW.rseq ?_
  try simp only [wm, ↓wk, ↓wl, nq, evV, ↓reduceIte, sevalprocAttr]
  refine evTs_pure hFn H (fun _ h => f11_ok h) (by rfl) (by rfl) (by rfl) (by rfl) (fun _ => rfl) ?_ <;> clear H <;> intro r_1312 H
  try simp only [eL, wm, ↓wk, ↓wl, nq, evV, ↓reduceIte, sevalprocAttr]
  refine evTs_ifg H (by rfl) ?_ ?_ <;> clear H <;> intro H
  ·try simp only [wm, ↓wk, ↓wl, nq, evV, ↓reduceIte, sevalprocAttr]
   refine rest_eqs (by rfl) ?_
   try simp only [wm, ↓wk, ↓wl, nq, evV, ↓reduceIte, sevalprocAttr]
   refine evTs_ifg H (by rfl) ?_ ?_ <;> clear H <;> intro H
   ·try simp only [wm, ↓wk, ↓wl, nq, evV, ↓reduceIte, sevalprocAttr]
    refine evTs_pure hFn H (fun _ h => f28_ok h) (by rfl) (by rfl) (by rfl) (by rfl) (fun _ => rfl) ?_ <;> clear H <;> intro r_1328 H
    try simp only [eL, wm, ↓wk, ↓wl, nq, evV, ↓reduceIte, sevalprocAttr]
    refine evTs_ifg H (by rfl) ?_ ?_ <;> clear H <;> intro H
    ·try simp only [wm, ↓wk, ↓wl, nq, evV, ↓reduceIte, sevalprocAttr]
     refine evTs_ifg H (by rfl) ?_ ?_ <;> clear H <;> intro H
     ·try simp only [wm, ↓wk, ↓wl, nq, evV, ↓reduceIte, sevalprocAttr]
      refine AW.ret ?_
      cases H
      exact hQ _ _ _ _ (.inr rfl) (by simp only [resVs, omap, resV, wm, ↓wk, ↓wl, nq, evV, ↓reduceIte, sevalprocAttr]; rfl) (hand_plain (by rfl)) (by first | exact Or.inl rfl | exact Or.inr rfl)
     ·try simp only [wm, ↓wk, ↓wl, nq, evV, ↓reduceIte, sevalprocAttr]
      refine AW.ret ?_
      cases H
      exact hQ _ _ _ _ (.inr rfl) (by simp only [resVs, omap, resV, wm, ↓wk, ↓wl, nq, evV, ↓reduceIte, sevalprocAttr]; rfl) (hand_plain (by rfl)) (by first | exact Or.inl rfl | exact Or.inr rfl)
    ·try simp only [wm, ↓wk, ↓wl, nq, evV, ↓reduceIte, sevalprocAttr]
     refine AW.ret ?_
     cases H
     exact hQ _ _ _ _ (.inr rfl) (by simp only [resVs, omap, resV, wm, ↓wk, ↓wl, nq, evV, ↓reduceIte, sevalprocAttr]; rfl) (hand_plain (by rfl)) (by first | exact Or.inl rfl | exact Or.inr rfl)
   ·try simp only [wm, ↓wk, ↓wl, nq, evV, ↓reduceIte, sevalprocAttr]
    refine AW.ret ?_
    cases H
    exact hQ _ _ _ _ (.inr rfl) (by simp only [resVs, omap, resV, wm, ↓wk, ↓wl, nq, evV, ↓reduceIte, sevalprocAttr]; rfl) (hand_plain (by rfl)) (by first | exact Or.inl rfl | exact Or.inr rfl)
  ·try simp only [wm, ↓wk, ↓wl, nq, evV, ↓reduceIte, sevalprocAttr]
   refine AW.ret ?_
   cases H
   exact hQ _ _ _ _ (.inr rfl) (by simp only [resVs, omap, resV, wm, ↓wk, ↓wl, nq, evV, ↓reduceIte, sevalprocAttr]; rfl) (hand_plain (by rfl)) (by first | exact Or.inl rfl | exact Or.inr rfl)
end Go.Proofs.Ythikbfhdebaceaa
