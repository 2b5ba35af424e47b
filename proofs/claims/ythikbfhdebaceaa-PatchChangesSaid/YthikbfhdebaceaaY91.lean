import Derived.Test.YthikbfhdebaceaaX2
import Derived.Test.YthikbfhdebaceaaM5
import Derived.Test.YthikbfhdebaceaaM6
import Derived.Test.YthikbfhdebaceaaProg
import Derived.KernelRfl
namespace Go.Proofs.Ythikbfhdebaceaa
open Go Go.Ab

set_option maxHeartbeats 1000000
set_option maxRecDepth 4000
set_option linter.unusedSimpArgs false
set_option linter.unusedVariables false
def c62_0 : C := .cond (.t 11) (.seq (.reg [iI 12 (.mv (.t 6)), iI 4 (.mv (.c (.sl 7 true []))), iI 5 (.mv (.t 12))]) .ret) (.skip)
def c62_1 : C := .seq (.reg [iI 10 (.mv (.t 6)), iI 11 (.bin .neq (.t 10) (.c (.int .i64 0)))]) c62_0
def c62_2 : C := .seq (.reg [iI 13 (.mv (.t 0)), iI 4 (.mv (.t 13)), iI 5 (.mv (.c (.int .i64 0)))]) .ret
def c62_3 : C := .seq (.seq (.reg [iI 7 (.mv (.t 0)), iI 8 (.mv (.t 1)), iI 9 (.call (.c (.fn 16 [])) [(.t 7), (.t 8)]), iI 6 (.mv (.t 9))]) c62_1) c62_2
def ir62 : C := .seq (.reg [iI 4 (.mv (.c (.sl 7 true []))), iI 5 (.mv (.c (.int .i64 0)))]) c62_3
theorem fd62 : fd? Try.prog 62 = some (14, [.slot 4, .slot 5], ir62) := by kernel_rfl
noncomputable def f62 (l_871 : (List ApiFixture)) (profiles_872 : (List ApiProfile)) : Option ((List ApiFixture) × Int) :=
  (f16 l_871 profiles_872).bind fun r_873 => (if (decide (r_873 ≠ 0)) = true then (some ([], r_873)) else (some (l_871, 0)))
theorem f62_ok {l_871 : (List ApiFixture)} {profiles_872 : (List ApiProfile)} {r_ : (List ApiFixture) × Int} (H : f62 l_871 profiles_872 = some r_) : Pure Try.prog 62 [.sl 7 false (l_871.map eApiFixture), .sl 4 false (profiles_872.map eApiProfile)] (· = .tup [.sl 7 false (r_.1.map eApiFixture), .int .i64 r_.2]) := by
 refine Pure.walk3 fd62 none (Nat.le_of_ble_eq_true rfl) (by rfl) fun Q hQ => ?_
 simp only [f62] at H
 refine AW.rseq ?_
 try simp only [wm, ↓wk, ↓wl, nq, evV, ↓reduceIte, sevalprocAttr]
 refine AW.sseq ?_
 refine AW.rseq ?_
 try simp only [wm, ↓wk, ↓wl, nq, evV, ↓reduceIte, sevalprocAttr]
 refine evTs_pure hFn H (fun _ h => f16_ok h) (by rfl) (by rfl) (by rfl) (by rfl) (fun _ => rfl) ?_ <;> clear H <;> intro r_873 H
 try simp only [eL, wm, ↓wk, ↓wl, nq, evV, ↓reduceIte, sevalprocAttr]
 refine AW.rseq ?_
 try simp only [wm, ↓wk, ↓wl, nq, evV, ↓reduceIte, sevalprocAttr]
 refine AW.ifc H (by rfl) ?_ ?_ <;> clear H <;> intro H
 ·refine AW.rseq ?_
  try simp only [wm, ↓wk, ↓wl, nq, evV, ↓reduceIte, sevalprocAttr]
  refine AW.ret ?_
  refine seqQ.ret ?_
  cases H
  exact hQ _ _ _ _ (.inr rfl) (by simp only [resVs, omap, resV, wm, ↓wk, ↓wl, nq, evV, ↓reduceIte, sevalprocAttr]; rfl) (hand_plain (by rfl)) (by first | exact Or.inl rfl | exact Or.inr rfl)
 ·refine AW.skip ?_
  refine seqQ.norm ?_
  refine AW.rseq ?_
  try simp only [wm, ↓wk, ↓wl, nq, evV, ↓reduceIte, sevalprocAttr]
  refine AW.ret ?_
  cases H
  exact hQ _ _ _ _ (.inr rfl) (by simp only [resVs, omap, resV, wm, ↓wk, ↓wl, nq, evV, ↓reduceIte, sevalprocAttr]; rfl) (hand_plain (by rfl)) (by first | exact Or.inl rfl | exact Or.inr rfl)
def c36_0 : C := .cond (.t 19) (.seq (.reg [iI 20 (.mv (.t 9)), iI 6 (.mv (.c (.sl 7 true []))), iI 7 (.mv (.t 20))]) .ret) (.skip)
def c36_1 : C := .cond (.t 30) (.reg [iI 31 (.mv (.t 10)), iI 32 (.mv (.t 11)), iI 33 (.load 7 (.t 5)), iI 34 (.iaddr 7 (.t 31) (.t 32)), iN (.store 7 (.t 34) (.t 33))]) (.reg [iI 35 (.mv (.t 10)), iI 36 (.load 7 (.t 5)), iI 37 (.mkslp 7 1 (.agg [(.int .i64 0), (.int .i64 0), (.str []), (.int .i64 0), (.int .i64 0), (.int .i64 0), (.str [])]) [(0, (.t 36))]), iI 38 (.append 7 72 (.t 35) (.t 37)), iI 10 (.mv (.t 38))])
def c36_2 : C := .seq (.reg [iI 29 (.mv (.t 11)), iI 30 (.bin .geq (.t 29) (.c (.int .i64 0)))]) c36_1
def c36_3 : C := .seq (.reg [iI 39 (.mv (.t 10)), iI 40 (.mv (.t 1)), iI 41 (.call (.c (.fn 62 [])) [(.t 39), (.t 40)]), iI 42 (.ext (.t 41) 0), iI 43 (.ext (.t 41) 1), iI 6 (.mv (.t 42)), iI 7 (.mv (.t 43))]) .ret
def c36_4 : C := .seq (.seq (.reg [iI 23 (.load 2 (.t 8)), iI 24 (.faddr 0 (.t 5)), iI 25 (.load 0 (.t 24)), iI 26 (.faddr 1 (.t 5)), iI 27 (.load 0 (.t 26)), iI 28 (.call (.c (.fn 61 [])) [(.t 23), (.t 25), (.t 27)]), iI 11 (.mv (.t 28))]) c36_2) c36_3
def c36_5 : C := .seq (.reg [iI 21 (.mv (.t 0)), iI 22 (.call (.c (.fn 30 [])) [(.t 21)]), iI 10 (.mv (.t 22))]) c36_4
def c36_6 : C := .seq (.seq (.reg [iI 18 (.mv (.t 9)), iI 19 (.bin .neq (.t 18) (.c (.int .i64 0)))]) c36_0) c36_5
def c36_7 : C := .seq (.reg [iI 13 (.mv (.t 0)), iI 14 (.mv (.t 1)), iI 15 (.call (.c (.fn 44 [])) [(.t 13), (.t 14)]), iI 12 (.mv (.t 15)), iI 16 (.ext (.t 12) 0), iI 17 (.ext (.t 12) 1), iI 8 (.alloc [(1, (.sl 7 true [])), (1, .nilmp)]), iN (.store 2 (.t 8) (.t 16)), iI 9 (.mv (.t 17))]) c36_6
def ir36 : C := .seq (.reg [iI 5 (.box (.t 2)), iI 6 (.mv (.c (.sl 7 true []))), iI 7 (.mv (.c (.int .i64 0)))]) c36_7
theorem fd36 : fd? Try.prog 36 = some (44, [.slot 6, .slot 7], ir36) := by kernel_rfl
noncomputable def f36 (l_860 : (List ApiFixture)) (profiles_861 : (List ApiProfile)) (x_862 : ApiFixture) : Option ((List ApiFixture) × Int) :=
  (f44 l_860 profiles_861).bind fun r_863 => (if (decide (r_863.2 ≠ 0)) = true then (some ([], r_863.2)) else (f30 l_860).bind fun r_864 => (f61 r_863.1 x_862.fChannel x_862.fPart).bind fun r_865 => (if (decide (0 ≤ r_865)) = true then (at? r_864 r_865).bind fun x_866 => (f62 (r_864.set r_865.toNat x_862) profiles_861).bind fun r_874 => (some (r_874.1, r_874.2)) else (app? 72 r_864 ([x_862])).bind fun out_875 => (f62 out_875 profiles_861).bind fun r_876 => (some (r_876.1, r_876.2))))
theorem f36_ok {l_860 : (List ApiFixture)} {profiles_861 : (List ApiProfile)} {x_862 : ApiFixture} {r_ : (List ApiFixture) × Int} (H : f36 l_860 profiles_861 x_862 = some r_) : Pure Try.prog 36 [.sl 7 false (l_860.map eApiFixture), .sl 4 false (profiles_861.map eApiProfile), .agg [.int .i64 x_862.fChannel, .int .i64 x_862.fPart, .str x_862.fProfile, .int .i64 x_862.fUniverse, .int .i64 x_862.fAddress, .int .i64 x_862.fPhase, .str x_862.fCable]] (· = .tup [.sl 7 false (r_.1.map eApiFixture), .int .i64 r_.2]) := by
 refine Pure.walk3 fd36 none (Nat.le_of_ble_eq_true rfl) (by rfl) fun Q hQ => ?_
 simp only [f36] at H
 refine AW.rseq ?_
 try simp only [wm, ↓wk, ↓wl, nqs, evV, ↓reduceIte, sevalprocAttr]
 refine AW.rseq ?_
 try simp only [wm, ↓wk, ↓wl, nqs, evV, ↓reduceIte, sevalprocAttr]
 refine evTs_pure hFn H (fun _ h => f44_ok h) (by rfl) (by rfl) (by rfl) (by rfl) (fun _ => rfl) ?_ <;> clear H <;> intro r_863 H
 try simp only [eL, ePatchRig, eM, wm, ↓wk, ↓wl, nqs, evV, ↓reduceIte, sevalprocAttr]
 refine evTs_st (by simp only [wm, ↓wk, ↓wl, nqs, evV, ↓reduceIte, sevalprocAttr, Nat.reduceLeDiff]; rfl) ?_
 try simp only [wm, ↓wk, ↓wl, nqs, evV, ↓reduceIte, sevalprocAttr]
 refine AW.sseq ?_
 refine AW.rseq ?_
 try simp only [wm, ↓wk, ↓wl, nqs, evV, ↓reduceIte, sevalprocAttr]
 refine AW.ifc H (by rfl) ?_ ?_ <;> clear H <;> intro H
 ·refine AW.rseq ?_
  try simp only [wm, ↓wk, ↓wl, nqs, evV, ↓reduceIte, sevalprocAttr]
  refine AW.ret ?_
  refine seqQ.ret ?_
  cases H
  exact hQ _ _ _ _ (.inr rfl) (by simp only [resVs, omap, resV, wm, ↓wk, ↓wl, nqs, evV, ↓reduceIte, sevalprocAttr]; rfl) (hand_plain (by rfl)) (by first | exact Or.inl rfl | exact Or.inr rfl)
 ·refine AW.skip ?_
  refine seqQ.norm ?_
  refine AW.rseq ?_
  try simp only [wm, ↓wk, ↓wl, nqs, evV, ↓reduceIte, sevalprocAttr]
  refine evTs_fr H (fun _ h => f30_ok h) (by rfl) (by rfl) (by rfl) (by rfl) (fun _ => rfl) ?_ <;> clear H <;> intro r_864 H
  try simp only [eL, wm, ↓wk, ↓wl, nqs, evV, ↓reduceIte, sevalprocAttr]
  refine AW.sseq ?_
  refine AW.rseq ?_
  try simp only [wm, ↓wk, ↓wl, nqs, evV, ↓reduceIte, sevalprocAttr]
  refine evTs_pure hFn H (fun _ h => f61_ok h) (by rfl) (by rfl) (by rfl) (by rfl) (fun _ => rfl) ?_ <;> clear H <;> intro r_865 H
  try simp only [eL, wm, ↓wk, ↓wl, nqs, evV, ↓reduceIte, sevalprocAttr]
  refine AW.rseq ?_
  try simp only [wm, ↓wk, ↓wl, nqs, evV, ↓reduceIte, sevalprocAttr]
  refine AW.ifc H (by rfl) ?_ ?_ <;> clear H <;> intro H
  ·refine AW.rend ?_
   try simp only [wm, ↓wk, ↓wl, nqs, evV, ↓reduceIte, sevalprocAttr]
   refine evTs_atr (enc := eApiFixture) H (by rfl) (by first | rfl | simp only [List.length_set]) (by rfl) ?_ <;> clear H <;> intro x_866 hx_866 H
   try simp only [eApiFixture, eL, eM, wm, ↓wk, ↓wl, nqs, evV, ↓reduceIte, sevalprocAttr, hx_866, eApiFixture, eL, eM]
   refine evTs_stW (enc := eApiFixture) x_862 (by rfl) (by rfl) (by first | exact lt_map hx_866 | (simp only [List.length_set, eApiFixture, eL, eM]; exact lt_map hx_866)) (fun _ => by rfl) ?_
   have hw_867 := set_get hx_866 x_862
   try simp only [eApiFixture, eL, eM, wm, ↓wk, ↓wl, nqs, evV, ↓reduceIte, sevalprocAttr, hx_866, eApiFixture, eL, eM, hw_867]
   refine seqQ.norm ?_
   refine AW.rseq ?_
   try simp only [wm, ↓wk, ↓wl, nqs, evV, ↓reduceIte, sevalprocAttr, hx_866, eApiFixture, eL, eM, hw_867]
   refine evTs_frz (args := [.row 7 2 0 r_864.length, .sl 4 false (profiles_861.map eApiProfile)]) (h1 := [.cel [.int .i64 x_862.fChannel, .int .i64 x_862.fPart, .str x_862.fProfile, .int .i64 x_862.fUniverse, .int .i64 x_862.fAddress, .int .i64 x_862.fPhase, .str x_862.fCable], .cel [.sl 7 false (r_863.1.fFixtures.map eApiFixture), .mp (mk AV.str r_863.1.fProfiles) (mv eApiProfile r_863.1.fProfiles)], .dead]) H (fun _ h => f62_ok h) (by rfl) (by rfl) (freeze_rows (by rfl) (by simp only [deep_eq, imm_simps, imm_rowE, imm_ptrE, imm_enc, imm_mrefE, imm_mpE, imm_arowE, omap_simps, take_map_len, take_map_set, take_map_set2, List.length_set, le_refl_true, Nat.zero_add, and_true, true_and, List.drop_zero, Option.map_some, wm, ↓wk, ↓wl, nqs, evV, ↓reduceIte, sevalprocAttr, hx_866, eApiFixture, eL, eM, hw_867]; try rfl) (by show kill _ (visit _ (11 + 1) _) = _; rw [visit_tup_cons, visit_rowE (enc := eApiFixture) (by rfl), visit_tup_cons, visit_pl (by rfl), visit_tup_nil]; try rfl)) (by rfl) (fun _ => by rfl) (fun _ => rfl) ?_ <;> clear H <;> intro r_874 H
   try simp only [eL, wm, ↓wk, ↓wl, nqs, evV, ↓reduceIte, sevalprocAttr, hx_866, eApiFixture, eL, eM, hw_867]
   refine AW.ret ?_
   cases H
   exact hQ _ _ _ _ (.inr rfl) (by simp only [resVs, omap, resV, wm, ↓wk, ↓wl, nqs, evV, ↓reduceIte, sevalprocAttr, hx_866, eApiFixture, eL, eM, hw_867]; rfl) (hand_plain (by rfl)) (by first | exact Or.inl rfl | exact Or.inr rfl)
  ·refine AW.rend ?_
   try simp only [wm, ↓wk, ↓wl, nqs, evV, ↓reduceIte, sevalprocAttr]
   refine evTs_app (enc := eApiFixture) H (by rfl) (by first | rfl | simp only [List.length_set]) (by rfl) (by rfl) ?_ <;> clear H <;> intro out_875 H
   try simp only [wm, ↓wk, ↓wl, nqs, evV, ↓reduceIte, sevalprocAttr]
   refine seqQ.norm ?_
   refine AW.rseq ?_
   try simp only [wm, ↓wk, ↓wl, nqs, evV, ↓reduceIte, sevalprocAttr]
   refine evTs_frz (args := [.row 7 3 0 out_875.length, .sl 4 false (profiles_861.map eApiProfile)]) (h1 := [.cel [.int .i64 x_862.fChannel, .int .i64 x_862.fPart, .str x_862.fProfile, .int .i64 x_862.fUniverse, .int .i64 x_862.fAddress, .int .i64 x_862.fPhase, .str x_862.fCable], .cel [.sl 7 false (r_863.1.fFixtures.map eApiFixture), .mp (mk AV.str r_863.1.fProfiles) (mv eApiProfile r_863.1.fProfiles)], .dead, .dead]) H (fun _ h => f62_ok h) (by rfl) (by rfl) (freeze_rows (by rfl) (by simp only [deep_eq, imm_simps, imm_rowE, imm_ptrE, imm_enc, imm_mrefE, imm_mpE, imm_arowE, omap_simps, take_map_len, take_map_set, take_map_set2, List.length_set, le_refl_true, Nat.zero_add, and_true, true_and, List.drop_zero, Option.map_some, wm, ↓wk, ↓wl, nqs, evV, ↓reduceIte, sevalprocAttr]; try rfl) (by show kill _ (visit _ (11 + 1) _) = _; rw [visit_tup_cons, visit_rowE (enc := eApiFixture) (by rfl), visit_tup_cons, visit_pl (by rfl), visit_tup_nil]; try rfl)) (by rfl) (fun _ => by rfl) (fun _ => rfl) ?_ <;> clear H <;> intro r_876 H
   try simp only [eL, wm, ↓wk, ↓wl, nqs, evV, ↓reduceIte, sevalprocAttr]
   refine AW.ret ?_
   cases H
   exact hQ _ _ _ _ (.inr rfl) (by simp only [resVs, omap, resV, wm, ↓wk, ↓wl, nqs, evV, ↓reduceIte, sevalprocAttr]; rfl) (hand_plain (by rfl)) (by first | exact Or.inl rfl | exact Or.inr rfl)
noncomputable def f35_L1 (l_937 : (List ApiFixture)) (channel_938 : Int) (part_939 : Int) : Lp (Int) ((Unit) ⊕ (Int)) where
  body := fun i_945 => (if (decide (i_945 < ((l_937.length : Nat) : Int))) = true then (at? l_937 i_945).bind fun x_949 => (if (decide (x_949.fChannel = channel_938)) = true then (at? l_937 i_945).bind fun x_950 => (if (decide (x_950.fPart = part_939)) = true then (some (.brk (Sum.inr i_945))) else (some (.next (IntKind.i64.wrap (i_945 + 1))))) else (some (.next (IntKind.i64.wrap (i_945 + 1))))) else (some (.brk (Sum.inl ()))))
  cst := fun i_945 => ⟨put (put (put (put (fun _ => .junk) 7 (.int .i64 i_945)) 2 (.int .i64 part_939)) 1 (.int .i64 channel_938)) 0 (.sl 7 false (l_937.map eApiFixture)), []⟩
theorem f35_L1c (l_937 : (List ApiFixture)) (channel_938 : Int) (part_939 : Int) (i_945 : Int) : (f35_L1 l_937 channel_938 part_939).cst i_945 = ⟨put (put (put (put (fun _ => .junk) 7 (.int .i64 i_945)) 2 (.int .i64 part_939)) 1 (.int .i64 channel_938)) 0 (.sl 7 false (l_937.map eApiFixture)), []⟩ := rfl
def c35_0 : C := .cond (.t 11) (.skip) (.exit 0)
def c35_1 : C := .cond (.t 29) (.seq (.reg [iI 30 (.mv (.t 7)), iI 6 (.mv (.t 30))]) .ret) (.skip)
def c35_2 : C := .reg [iI 12 (.mv (.t 7)), iI 13 (.bin .add (.t 12) (.c (.int .i64 1))), iI 7 (.mv (.t 13))]
def c35_3 : C := .seq (.block 1 (.seq (.reg [iI 14 (.mv (.t 0)), iI 15 (.mv (.t 7)), iI 16 (.iaddr 7 (.t 14) (.t 15)), iI 17 (.faddr 0 (.t 16)), iI 18 (.load 0 (.t 17)), iI 19 (.mv (.t 1)), iI 20 (.bin .eql (.t 18) (.t 19)), iI 21 (.mv (.t 20)), iG (some 22) 21 true (.mv (.t 0)), iG (some 23) 21 true (.mv (.t 7)), iG (some 24) 21 true (.iaddr 7 (.t 22) (.t 23)), iG (some 25) 21 true (.faddr 1 (.t 24)), iG (some 26) 21 true (.load 0 (.t 25)), iG (some 27) 21 true (.mv (.t 2)), iG (some 28) 21 true (.bin .eql (.t 26) (.t 27)), iI 29 (.pick (.t 21) (.t 28) (.c (.bool false)))]) c35_1)) c35_2
def c35_4 : C := .block 0 (.loop (.seq (.seq (.reg [iI 8 (.mv (.t 7)), iI 9 (.mv (.t 0)), iI 10 (.len 0 (.t 9)), iI 11 (.bin .lss (.t 8) (.t 10))]) c35_0) c35_3))
def c35_5 : C := .seq (.reg [iI 6 (.mv (.c (.int .i64 (-1))))]) .ret
def c35_6 : C := .seq (.seq (.reg [iI 7 (.mv (.c (.int .i64 0)))]) c35_4) c35_5
def ir35 : C := .seq (.reg [iI 6 (.mv (.c (.int .i64 0)))]) c35_6
theorem fd35 : fd? Try.prog 35 = some (31, [.slot 6], ir35) := by kernel_rfl
noncomputable def f35 (l_937 : (List ApiFixture)) (channel_938 : Int) (part_939 : Int) : Option (Int) :=
  ((Lp.run (f35_L1 l_937 channel_938 part_939) 0).bind fun r_ => match r_ with | (Sum.inl _) => (some (-1)) | (Sum.inr v_948) => (some v_948))
theorem f35_ok {l_937 : (List ApiFixture)} {channel_938 : Int} {part_939 : Int} {r_ : Int} (H : f35 l_937 channel_938 part_939 = some r_) : Pure Try.prog 35 [.sl 7 false (l_937.map eApiFixture), .int .i64 channel_938, .int .i64 part_939] (· = .int .i64 r_) := by
 refine Pure.walk3 fd35 none (Nat.le_of_ble_eq_true rfl) (by rfl) fun Q hQ => ?_
 simp only [f35] at H
 refine AW.rseq ?_
 try simp only [wm, ↓wk, ↓wl, nq, evV, ↓reduceIte, sevalprocAttr]
 refine AW.sseq ?_
 refine AW.rseq ?_
 try simp only [wm, ↓wk, ↓wl, nq, evV, ↓reduceIte, sevalprocAttr]
 refine AW.bend ?_
 refine AW.iter H ((Le.tz [] [0, 1, 2, 7] (by simp only [f35_L1c, wm, wmr, rrm, ↓wk, ↓wl, evV, ↓reduceIte, sevalprocAttr] <;> rfl))) ?_ <;> clear H
 rintro i_945 x_ st0_ H hst_
 rw [f35_L1c] at hst_
 simp only [f35_L1] at H
 subst hst_
 refine AW.sseq ?_
 refine AW.rseq ?_
 try simp only [wm, ↓wk, ↓wl, nq, evV, ↓reduceIte, sevalprocAttr]
 refine AW.ifc H (by rfl) ?_ ?_ <;> clear H <;> intro H
 ·refine AW.skip ?_
  refine seqQ.norm ?_
  refine AW.bseq ?_
  refine AW.rseq ?_
  try simp only [wm, ↓wk, ↓wl, nq, evV, ↓reduceIte, sevalprocAttr]
  refine evTs_at (enc := eApiFixture) H (by rfl) (by rfl) ?_ <;> clear H <;> intro x_949 H
  try simp only [eApiFixture, eL, eM, wm, ↓wk, ↓wl, nq, evV, ↓reduceIte, sevalprocAttr]
  refine evTs_ifg H (by rfl) ?_ ?_ <;> clear H <;> intro H
  ·try simp only [wm, ↓wk, ↓wl, nq, evV, ↓reduceIte, sevalprocAttr]
   refine evTs_at (enc := eApiFixture) H (by rfl) (by rfl) ?_ <;> clear H <;> intro x_950 H
   try simp only [eApiFixture, eL, eM, wm, ↓wk, ↓wl, nq, evV, ↓reduceIte, sevalprocAttr]
   refine AW.ifc H (by rfl) ?_ ?_ <;> clear H <;> intro H
   ·refine AW.rseq ?_
    try simp only [wm, ↓wk, ↓wl, nq, evV, ↓reduceIte, sevalprocAttr]
    refine AW.ret ?_
    refine blkQ.ret ?_
    refine loopQ.ret H ?_ <;> clear H <;> intro H
    try dsimp only at H
    refine blk0.ret ?_
    refine seqQ.ret ?_
    cases H
    exact hQ _ _ _ _ (.inr rfl) (by simp only [resVs, omap, resV, wm, ↓wk, ↓wl, nq, evV, ↓reduceIte, sevalprocAttr]; rfl) (hand_plain (by rfl)) (by first | exact Or.inl rfl | exact Or.inr rfl)
   ·refine AW.skip ?_
    refine blkQ.norm ?_
    refine AW.rend ?_
    try simp only [wm, ↓wk, ↓wl, nq, evV, ↓reduceIte, sevalprocAttr]
    exact loopQ.next H ((Le.tz [] [0, 1, 2, 7] (by simp only [f35_L1c, wm, wmr, rrm, ↓wk, ↓wl, evV, ↓reduceIte, sevalprocAttr] <;> rfl)))
  ·try simp only [wm, ↓wk, ↓wl, nq, evV, ↓reduceIte, sevalprocAttr]
   refine AW.iff (by rfl) ?_
   refine AW.skip ?_
   refine blkQ.norm ?_
   refine AW.rend ?_
   try simp only [wm, ↓wk, ↓wl, nq, evV, ↓reduceIte, sevalprocAttr]
   exact loopQ.next H ((Le.tz [] [0, 1, 2, 7] (by simp only [f35_L1c, wm, wmr, rrm, ↓wk, ↓wl, evV, ↓reduceIte, sevalprocAttr] <;> rfl)))
 ·refine AW.exit ?_
  refine seqQ.exit ?_
  refine loopQ.exit H ?_ <;> clear H <;> intro H
  try dsimp only at H
  refine blk0.here ?_
  refine seqQ.norm ?_
  refine AW.rseq ?_
  try simp only [wm, ↓wk, ↓wl, nq, evV, ↓reduceIte, sevalprocAttr]
  refine AW.ret ?_
  cases H
  exact hQ _ _ _ _ (.inr rfl) (by simp only [resVs, omap, resV, wm, ↓wk, ↓wl, nq, evV, ↓reduceIte, sevalprocAttr]; rfl) (hand_plain (by rfl)) (by first | exact Or.inl rfl | exact Or.inr rfl)
def c66_0 : C := .seq (.reg [iI 22 (.mv (.t 5)), iI 4 (.mv (.t 22))]) .ret
def c66_1 : C := .cond (.t 17) (.seq (.reg [iI 18 (.mv (.t 5)), iI 19 (.mv (.t 6)), iI 20 (.load 7 (.t 3)), iI 21 (.iaddr 7 (.t 18) (.t 19)), iN (.store 7 (.t 21) (.t 20))]) c66_0) (.skip)
def c66_2 : C := .seq (.reg [iI 16 (.mv (.t 6)), iI 17 (.bin .geq (.t 16) (.c (.int .i64 0)))]) c66_1
def c66_3 : C := .seq (.reg [iI 23 (.mv (.t 5)), iI 24 (.load 7 (.t 3)), iI 25 (.mkslp 7 1 (.agg [(.int .i64 0), (.int .i64 0), (.str []), (.int .i64 0), (.int .i64 0), (.int .i64 0), (.str [])]) [(0, (.t 24))]), iI 26 (.append 7 72 (.t 23) (.t 25)), iI 4 (.mv (.t 26))]) .ret
def c66_4 : C := .seq (.seq (.reg [iI 10 (.mv (.t 0)), iI 11 (.faddr 0 (.t 3)), iI 12 (.load 0 (.t 11)), iI 13 (.faddr 1 (.t 3)), iI 14 (.load 0 (.t 13)), iI 15 (.call (.c (.fn 35 [])) [(.t 10), (.t 12), (.t 14)]), iI 6 (.mv (.t 15))]) c66_2) c66_3
def c66_5 : C := .seq (.reg [iI 7 (.mkslp 7 0 (.agg [(.int .i64 0), (.int .i64 0), (.str []), (.int .i64 0), (.int .i64 0), (.int .i64 0), (.str [])]) []), iI 8 (.mv (.t 0)), iI 9 (.append 7 72 (.t 7) (.t 8)), iI 5 (.mv (.t 9))]) c66_4
def ir66 : C := .seq (.reg [iI 3 (.box (.t 1)), iI 4 (.mv (.c (.sl 7 true [])))]) c66_5
theorem fd66 : fd? Try.prog 66 = some (27, [.slot 4], ir66) := by kernel_rfl
noncomputable def f66 (l_934 : (List ApiFixture)) (x_935 : ApiFixture) : Option ((List ApiFixture)) :=
  (app? 72 [] l_934).bind fun out_936 => (f35 l_934 x_935.fChannel x_935.fPart).bind fun r_951 => (if (decide (0 ≤ r_951)) = true then (at? out_936 r_951).bind fun x_952 => (some (out_936.set r_951.toNat x_935)) else (app? 72 out_936 ([x_935])).bind fun out_954 => (some out_954))
theorem f66_ok {l_934 : (List ApiFixture)} {x_935 : ApiFixture} {r_ : (List ApiFixture)} (H : f66 l_934 x_935 = some r_) : Pure Try.prog 66 [.sl 7 false (l_934.map eApiFixture), .agg [.int .i64 x_935.fChannel, .int .i64 x_935.fPart, .str x_935.fProfile, .int .i64 x_935.fUniverse, .int .i64 x_935.fAddress, .int .i64 x_935.fPhase, .str x_935.fCable]] (· = .fr 7 (r_.map eApiFixture)) := by
 refine Pure.walk3 fd66 (some 0) (Nat.le_of_ble_eq_true rfl) (by rfl) fun Q hQ => ?_
 simp only [f66] at H
 refine AW.rseq ?_
 try simp only [wm, ↓wk, ↓wl, nqs, evV, ↓reduceIte, sevalprocAttr]
 refine AW.rseq ?_
 try simp only [wm, ↓wk, ↓wl, nqs, evV, ↓reduceIte, sevalprocAttr]
 refine evTs_app0 (enc := eApiFixture) H (by rfl) (by rfl) ?_ <;> clear H <;> intro out_936 H
 try simp only [wm, ↓wk, ↓wl, nqs, evV, ↓reduceIte, sevalprocAttr]
 refine AW.sseq ?_
 refine AW.rseq ?_
 try simp only [wm, ↓wk, ↓wl, nqs, evV, ↓reduceIte, sevalprocAttr]
 refine evTs_pure hFn H (fun _ h => f35_ok h) (by rfl) (by rfl) (by rfl) (by rfl) (fun _ => rfl) ?_ <;> clear H <;> intro r_951 H
 try simp only [eL, wm, ↓wk, ↓wl, nqs, evV, ↓reduceIte, sevalprocAttr]
 refine AW.rseq ?_
 try simp only [wm, ↓wk, ↓wl, nqs, evV, ↓reduceIte, sevalprocAttr]
 refine AW.ifc H (by rfl) ?_ ?_ <;> clear H <;> intro H
 ·refine AW.rseq ?_
  try simp only [wm, ↓wk, ↓wl, nqs, evV, ↓reduceIte, sevalprocAttr]
  refine evTs_atr (enc := eApiFixture) H (by rfl) (by first | rfl | simp only [List.length_set]) (by rfl) ?_ <;> clear H <;> intro x_952 hx_952 H
  try simp only [eApiFixture, eL, eM, wm, ↓wk, ↓wl, nqs, evV, ↓reduceIte, sevalprocAttr, hx_952, eApiFixture, eL, eM]
  refine evTs_stW (enc := eApiFixture) x_935 (by rfl) (by rfl) (by first | exact lt_map hx_952 | (simp only [List.length_set, eApiFixture, eL, eM]; exact lt_map hx_952)) (fun _ => by rfl) ?_
  have hw_953 := set_get hx_952 x_935
  try simp only [eApiFixture, eL, eM, wm, ↓wk, ↓wl, nqs, evV, ↓reduceIte, sevalprocAttr, hx_952, eApiFixture, eL, eM, hw_953]
  refine AW.rseq ?_
  try simp only [wm, ↓wk, ↓wl, nqs, evV, ↓reduceIte, sevalprocAttr, hx_952, eApiFixture, eL, eM, hw_953]
  refine AW.ret ?_
  refine seqQ.ret ?_
  cases H
  exact hQ _ _ _ _ (.inr rfl) (by simp only [resVs, omap, resV, wm, ↓wk, ↓wl, nqs, evV, ↓reduceIte, sevalprocAttr, hx_952, eApiFixture, eL, eM, hw_953]; rfl) (hand_1 (by rfl) (by simp) (enc_all _)) (by first | exact Or.inl rfl | exact Or.inr rfl)
 ·refine AW.skip ?_
  refine seqQ.norm ?_
  refine AW.rseq ?_
  try simp only [wm, ↓wk, ↓wl, nqs, evV, ↓reduceIte, sevalprocAttr]
  refine evTs_app (enc := eApiFixture) H (by rfl) (by first | rfl | simp only [List.length_set]) (by rfl) (by rfl) ?_ <;> clear H <;> intro out_954 H
  try simp only [wm, ↓wk, ↓wl, nqs, evV, ↓reduceIte, sevalprocAttr]
  refine AW.ret ?_
  cases H
  exact hQ _ _ _ _ (.inr rfl) (by simp only [resVs, omap, resV, wm, ↓wk, ↓wl, nqs, evV, ↓reduceIte, sevalprocAttr]; rfl) (hand_1 (by rfl) (by simp) (enc_all _)) (by first | exact Or.inl rfl | exact Or.inr rfl)
theorem f66_im {l_934 : (List ApiFixture)} {x_935 : ApiFixture} {r_ : (List ApiFixture)} (H : f66 l_934 x_935 = some r_) : Pure Try.prog 66 [.sl 7 false (l_934.map eApiFixture), .agg [.int .i64 x_935.fChannel, .int .i64 x_935.fPart, .str x_935.fProfile, .int .i64 x_935.fUniverse, .int .i64 x_935.fAddress, .int .i64 x_935.fPhase, .str x_935.fCable]] (· = .sl 7 false (r_.map eApiFixture)) := (f66_ok H).unfr (by first | exact enc_fits _ | simp only [frFits, List.all_cons, List.all_nil, enc_fits, Bool.and_self])
def c65_0 : C := .cond (.t 11) (.seq (.reg [iI 12 (.mv (.t 6)), iI 4 (.mv (.c (.sl 7 true []))), iI 5 (.mv (.t 12))]) .ret) (.skip)
def c65_1 : C := .seq (.reg [iI 10 (.mv (.t 6)), iI 11 (.bin .neq (.t 10) (.c (.int .i64 0)))]) c65_0
def c65_2 : C := .seq (.reg [iI 13 (.mv (.t 0)), iI 4 (.mv (.t 13)), iI 5 (.mv (.c (.int .i64 0)))]) .ret
def c65_3 : C := .seq (.seq (.reg [iI 7 (.mv (.t 0)), iI 8 (.mv (.t 1)), iI 9 (.call (.c (.fn 17 [])) [(.t 7), (.t 8)]), iI 6 (.mv (.t 9))]) c65_1) c65_2
def ir65 : C := .seq (.reg [iI 4 (.mv (.c (.sl 7 true []))), iI 5 (.mv (.c (.int .i64 0)))]) c65_3
theorem fd65 : fd? Try.prog 65 = some (14, [.slot 4, .slot 5], ir65) := by kernel_rfl
noncomputable def f65 (l_959 : (List ApiFixture)) (profiles_960 : (List ApiProfile)) : Option ((List ApiFixture) × Int) :=
  (f17 l_959 profiles_960).bind fun r_961 => (if (decide (r_961 ≠ 0)) = true then (some ([], r_961)) else (some (l_959, 0)))
theorem f65_ok {l_959 : (List ApiFixture)} {profiles_960 : (List ApiProfile)} {r_ : (List ApiFixture) × Int} (H : f65 l_959 profiles_960 = some r_) : Pure Try.prog 65 [.sl 7 false (l_959.map eApiFixture), .sl 4 false (profiles_960.map eApiProfile)] (· = .tup [.sl 7 false (r_.1.map eApiFixture), .int .i64 r_.2]) := by
 refine Pure.walk3 fd65 none (Nat.le_of_ble_eq_true rfl) (by rfl) fun Q hQ => ?_
 simp only [f65] at H
 refine AW.rseq ?_
 try simp only [wm, ↓wk, ↓wl, nq, evV, ↓reduceIte, sevalprocAttr]
 refine AW.sseq ?_
 refine AW.rseq ?_
 try simp only [wm, ↓wk, ↓wl, nq, evV, ↓reduceIte, sevalprocAttr]
 refine evTs_pure hFn H (fun _ h => f17_ok h) (by rfl) (by rfl) (by rfl) (by rfl) (fun _ => rfl) ?_ <;> clear H <;> intro r_961 H
 try simp only [eL, wm, ↓wk, ↓wl, nq, evV, ↓reduceIte, sevalprocAttr]
 refine AW.rseq ?_
 try simp only [wm, ↓wk, ↓wl, nq, evV, ↓reduceIte, sevalprocAttr]
 refine AW.ifc H (by rfl) ?_ ?_ <;> clear H <;> intro H
 ·refine AW.rseq ?_
  try simp only [wm, ↓wk, ↓wl, nq, evV, ↓reduceIte, sevalprocAttr]
  refine AW.ret ?_
  refine seqQ.ret ?_
  cases H
  exact hQ _ _ _ _ (.inr rfl) (by simp only [resVs, omap, resV, wm, ↓wk, ↓wl, nq, evV, ↓reduceIte, sevalprocAttr]; rfl) (hand_plain (by rfl)) (by first | exact Or.inl rfl | exact Or.inr rfl)
 ·refine AW.skip ?_
  refine seqQ.norm ?_
  refine AW.rseq ?_
  try simp only [wm, ↓wk, ↓wl, nq, evV, ↓reduceIte, sevalprocAttr]
  refine AW.ret ?_
  cases H
  exact hQ _ _ _ _ (.inr rfl) (by simp only [resVs, omap, resV, wm, ↓wk, ↓wl, nq, evV, ↓reduceIte, sevalprocAttr]; rfl) (hand_plain (by rfl)) (by first | exact Or.inl rfl | exact Or.inr rfl)
def c39_0 : C := .cond (.t 13) (.seq (.reg [iI 14 (.mv (.t 8)), iI 6 (.mv (.c (.sl 7 true []))), iI 7 (.mv (.t 14))]) .ret) (.skip)
def c39_1 : C := .seq (.reg [iI 12 (.mv (.t 8)), iI 13 (.bin .neq (.t 12) (.c (.int .i64 0)))]) c39_0
def c39_2 : C := .seq (.reg [iI 15 (.mv (.t 0)), iI 16 (.load 7 (.t 5)), iI 17 (.call (.c (.fn 66 [])) [(.t 15), (.t 16)]), iI 18 (.mv (.t 1)), iI 19 (.call (.c (.fn 65 [])) [(.t 17), (.t 18)]), iI 20 (.ext (.t 19) 0), iI 21 (.ext (.t 19) 1), iI 6 (.mv (.t 20)), iI 7 (.mv (.t 21))]) .ret
def c39_3 : C := .seq (.seq (.reg [iI 9 (.mv (.t 0)), iI 10 (.mv (.t 1)), iI 11 (.call (.c (.fn 17 [])) [(.t 9), (.t 10)]), iI 8 (.mv (.t 11))]) c39_1) c39_2
def ir39 : C := .seq (.reg [iI 5 (.box (.t 2)), iI 6 (.mv (.c (.sl 7 true []))), iI 7 (.mv (.c (.int .i64 0)))]) c39_3
theorem fd39 : fd? Try.prog 39 = some (22, [.slot 6, .slot 7], ir39) := by kernel_rfl
noncomputable def f39 (l_930 : (List ApiFixture)) (profiles_931 : (List ApiProfile)) (x_932 : ApiFixture) : Option ((List ApiFixture) × Int) :=
  (f17 l_930 profiles_931).bind fun r_933 => (if (decide (r_933 ≠ 0)) = true then (some ([], r_933)) else (f66 l_930 x_932).bind fun r_955 => (f65 r_955 profiles_931).bind fun r_962 => (some (r_962.1, r_962.2)))
theorem f39_ok {l_930 : (List ApiFixture)} {profiles_931 : (List ApiProfile)} {x_932 : ApiFixture} {r_ : (List ApiFixture) × Int} (H : f39 l_930 profiles_931 x_932 = some r_) : Pure Try.prog 39 [.sl 7 false (l_930.map eApiFixture), .sl 4 false (profiles_931.map eApiProfile), .agg [.int .i64 x_932.fChannel, .int .i64 x_932.fPart, .str x_932.fProfile, .int .i64 x_932.fUniverse, .int .i64 x_932.fAddress, .int .i64 x_932.fPhase, .str x_932.fCable]] (· = .tup [.sl 7 false (r_.1.map eApiFixture), .int .i64 r_.2]) := by
 refine Pure.walk3 fd39 none (Nat.le_of_ble_eq_true rfl) (by rfl) fun Q hQ => ?_
 simp only [f39] at H
 refine AW.rseq ?_
 try simp only [wm, ↓wk, ↓wl, nq, evV, ↓reduceIte, sevalprocAttr]
 refine AW.sseq ?_
 refine AW.rseq ?_
 try simp only [wm, ↓wk, ↓wl, nq, evV, ↓reduceIte, sevalprocAttr]
 refine evTs_pure hFn H (fun _ h => f17_ok h) (by rfl) (by rfl) (by rfl) (by rfl) (fun _ => rfl) ?_ <;> clear H <;> intro r_933 H
 try simp only [eL, wm, ↓wk, ↓wl, nq, evV, ↓reduceIte, sevalprocAttr]
 refine AW.rseq ?_
 try simp only [wm, ↓wk, ↓wl, nq, evV, ↓reduceIte, sevalprocAttr]
 refine AW.ifc H (by rfl) ?_ ?_ <;> clear H <;> intro H
 ·refine AW.rseq ?_
  try simp only [wm, ↓wk, ↓wl, nq, evV, ↓reduceIte, sevalprocAttr]
  refine AW.ret ?_
  refine seqQ.ret ?_
  cases H
  exact hQ _ _ _ _ (.inr rfl) (by simp only [resVs, omap, resV, wm, ↓wk, ↓wl, nq, evV, ↓reduceIte, sevalprocAttr]; rfl) (hand_plain (by rfl)) (by first | exact Or.inl rfl | exact Or.inr rfl)
 ·refine AW.skip ?_
  refine seqQ.norm ?_
  refine AW.rseq ?_
  try simp only [wm, ↓wk, ↓wl, nq, evV, ↓reduceIte, sevalprocAttr]
  refine evTs_pure hFn H (fun _ h => f66_im h) (by rfl) (by rfl) (by rfl) (by rfl) (fun _ => rfl) ?_ <;> clear H <;> intro r_955 H
  try simp only [eL, wm, ↓wk, ↓wl, nq, evV, ↓reduceIte, sevalprocAttr]
  refine evTs_pure hFn H (fun _ h => f65_ok h) (by rfl) (by rfl) (by rfl) (by rfl) (fun _ => rfl) ?_ <;> clear H <;> intro r_962 H
  try simp only [eL, wm, ↓wk, ↓wl, nq, evV, ↓reduceIte, sevalprocAttr]
  refine AW.ret ?_
  cases H
  exact hQ _ _ _ _ (.inr rfl) (by simp only [resVs, omap, resV, wm, ↓wk, ↓wl, nq, evV, ↓reduceIte, sevalprocAttr]; rfl) (hand_plain (by rfl)) (by first | exact Or.inl rfl | exact Or.inr rfl)
theorem con63 : fd? Try.prog 63 = some (36, [.slot 2], conC 7 72 87) := by kernel_rfl
theorem gro87 : fd? Try.prog 87 = some (27, [.slot 4], growC 7 72 (.agg [(.int .i64 0), (.int .i64 0), (.str []), (.int .i64 0), (.int .i64 0), (.int .i64 0), (.str [])])) := by kernel_rfl
noncomputable def f63 (xss : List (List ApiFixture)) : Option (List ApiFixture) := conc? 72 xss
theorem f63_ok {xss : List (List ApiFixture)} {r_ : List ApiFixture} (H : f63 xss = some r_) : Pure Try.prog 63 [.sl 0 false (xss.map (eL 7 eApiFixture))] (· = .fr 7 (r_.map eApiFixture)) := conc_ok H con63 gro87
theorem f63_im {xss : List (List ApiFixture)} {r_ : List ApiFixture} (H : f63 xss = some r_) : Pure Try.prog 63 [.sl 0 false (xss.map (eL 7 eApiFixture))] (· = .sl 7 false (r_.map eApiFixture)) := (f63_ok H).unfr (by first | exact enc_fits _ | simp only [frFits, List.all_cons, List.all_nil, enc_fits, Bool.and_self])
def c37_0 : C := .cond (.t 21) (.seq (.reg [iI 22 (.mv (.t 12)), iI 8 (.mv (.c (.sl 7 true []))), iI 9 (.mv (.c (.bool false))), iI 10 (.mv (.t 22))]) .ret) (.skip)
def c37_1 : C := .cond (.t 28) (.seq (.reg [iI 29 (.mv (.t 0)), iI 30 (.call (.c (.fn 30 [])) [(.t 29)]), iI 8 (.mv (.t 30)), iI 9 (.mv (.c (.bool false))), iI 10 (.mv (.c (.int .i64 0)))]) .ret) (.skip)
def c37_2 : C := .seq (.reg [iI 31 (.mv (.t 0)), iI 32 (.mv (.t 13)), iI 33 (.slice 7 (.t 31) none (some (.t 32))), iI 34 (.mv (.t 0)), iI 35 (.mv (.t 13)), iI 36 (.bin .add (.t 35) (.c (.int .i64 1))), iI 37 (.slice 7 (.t 34) (some (.t 36)) none), iI 38 (.mksl 0 2 (.sl 7 true []) [(0, (.t 33)), (1, (.t 37))]), iI 39 (.call (.c (.fn 63 [])) [(.t 38)]), iI 8 (.mv (.t 39)), iI 9 (.mv (.c (.bool true))), iI 10 (.mv (.c (.int .i64 0)))]) .ret
def c37_3 : C := .seq (.seq (.reg [iI 27 (.mv (.t 13)), iI 28 (.bin .lss (.t 27) (.c (.int .i64 0)))]) c37_1) c37_2
def c37_4 : C := .seq (.reg [iI 23 (.load 2 (.t 11)), iI 24 (.mv (.t 2)), iI 25 (.mv (.t 3)), iI 26 (.call (.c (.fn 61 [])) [(.t 23), (.t 24), (.t 25)]), iI 13 (.mv (.t 26))]) c37_3
def c37_5 : C := .seq (.seq (.reg [iI 20 (.mv (.t 12)), iI 21 (.bin .neq (.t 20) (.c (.int .i64 0)))]) c37_0) c37_4
def c37_6 : C := .seq (.reg [iI 15 (.mv (.t 0)), iI 16 (.mv (.t 1)), iI 17 (.call (.c (.fn 44 [])) [(.t 15), (.t 16)]), iI 14 (.mv (.t 17)), iI 18 (.ext (.t 14) 0), iI 19 (.ext (.t 14) 1), iI 11 (.alloc [(1, (.sl 7 true [])), (1, .nilmp)]), iN (.store 2 (.t 11) (.t 18)), iI 12 (.mv (.t 19))]) c37_5
def ir37 : C := .seq (.reg [iI 8 (.mv (.c (.sl 7 true []))), iI 9 (.mv (.c (.bool false))), iI 10 (.mv (.c (.int .i64 0)))]) c37_6
theorem fd37 : fd? Try.prog 37 = some (40, [.slot 8, .slot 9, .slot 10], ir37) := by kernel_rfl
noncomputable def f37 (l_981 : (List ApiFixture)) (profiles_982 : (List ApiProfile)) (channel_983 : Int) (part_984 : Int) : Option ((List ApiFixture) × Bool × Int) :=
  (f44 l_981 profiles_982).bind fun r_985 => (if (decide (r_985.2 ≠ 0)) = true then (some ([], false, r_985.2)) else (f61 r_985.1 channel_983 part_984).bind fun r_986 => (if (decide (r_986 < 0)) = true then (f30 l_981).bind fun r_987 => (some (r_987, false, 0)) else (slc? l_981 0 r_986).bind fun s_988 => (slc? l_981 (IntKind.i64.wrap (r_986 + 1)) ((l_981.length : Nat) : Int)).bind fun s_989 => (f63 ([s_988, s_989])).bind fun r_990 => (some (r_990, true, 0))))
theorem f37_ok {l_981 : (List ApiFixture)} {profiles_982 : (List ApiProfile)} {channel_983 : Int} {part_984 : Int} {r_ : (List ApiFixture) × Bool × Int} (H : f37 l_981 profiles_982 channel_983 part_984 = some r_) : Pure Try.prog 37 [.sl 7 false (l_981.map eApiFixture), .sl 4 false (profiles_982.map eApiProfile), .int .i64 channel_983, .int .i64 part_984] (· = .tup [.fr 7 (r_.1.map eApiFixture), .bool r_.2.1, .int .i64 r_.2.2]) := by
 refine Pure.walk3 fd37 (some 0) (Nat.le_of_ble_eq_true rfl) (by rfl) fun Q hQ => ?_
 simp only [f37] at H
 refine AW.rseq ?_
 try simp only [wm, ↓wk, ↓wl, nq, evV, ↓reduceIte, sevalprocAttr]
 refine AW.rseq ?_
 try simp only [wm, ↓wk, ↓wl, nq, evV, ↓reduceIte, sevalprocAttr]
 refine evTs_pure hFn H (fun _ h => f44_ok h) (by rfl) (by rfl) (by rfl) (by rfl) (fun _ => rfl) ?_ <;> clear H <;> intro r_985 H
 try simp only [eL, ePatchRig, eM, wm, ↓wk, ↓wl, nq, evV, ↓reduceIte, sevalprocAttr]
 refine AW.sseq ?_
 refine AW.rseq ?_
 try simp only [wm, ↓wk, ↓wl, nq, evV, ↓reduceIte, sevalprocAttr]
 refine AW.ifc H (by rfl) ?_ ?_ <;> clear H <;> intro H
 ·refine AW.rseq ?_
  try simp only [wm, ↓wk, ↓wl, nq, evV, ↓reduceIte, sevalprocAttr]
  refine AW.ret ?_
  refine seqQ.ret ?_
  cases H
  exact hQ _ _ _ _ (.inr rfl) (by simp only [resVs, omap, resV, wm, ↓wk, ↓wl, nq, evV, ↓reduceIte, sevalprocAttr]; rfl) (hand_k0 (by rfl) (by rfl)) (by first | exact Or.inl rfl | exact Or.inr rfl)
 ·refine AW.skip ?_
  refine seqQ.norm ?_
  refine AW.rseq ?_
  try simp only [wm, ↓wk, ↓wl, nq, evV, ↓reduceIte, sevalprocAttr]
  refine evTs_pure hFn H (fun _ h => f61_ok h) (by rfl) (by rfl) (by rfl) (by rfl) (fun _ => rfl) ?_ <;> clear H <;> intro r_986 H
  try simp only [eL, wm, ↓wk, ↓wl, nq, evV, ↓reduceIte, sevalprocAttr]
  refine AW.sseq ?_
  refine AW.rseq ?_
  try simp only [wm, ↓wk, ↓wl, nq, evV, ↓reduceIte, sevalprocAttr]
  refine AW.ifc H (by rfl) ?_ ?_ <;> clear H <;> intro H
  ·refine AW.rseq ?_
   try simp only [wm, ↓wk, ↓wl, nq, evV, ↓reduceIte, sevalprocAttr]
   refine evTs_fr H (fun _ h => f30_ok h) (by rfl) (by rfl) (by rfl) (by rfl) (fun _ => rfl) ?_ <;> clear H <;> intro r_987 H
   try simp only [eL, wm, ↓wk, ↓wl, nq, evV, ↓reduceIte, sevalprocAttr]
   refine AW.ret ?_
   refine seqQ.ret ?_
   cases H
   exact hQ _ _ _ _ (.inr rfl) (by simp only [resVs, omap, resV, wm, ↓wk, ↓wl, nq, evV, ↓reduceIte, sevalprocAttr]; rfl) (hand_k (by rfl) (by rfl) (by simp) (enc_all _) (by rfl)) (by first | exact Or.inl rfl | exact Or.inr rfl)
  ·refine AW.skip ?_
   refine seqQ.norm ?_
   refine AW.rseq ?_
   try simp only [wm, ↓wk, ↓wl, nq, evV, ↓reduceIte, sevalprocAttr]
   refine evTs_slc (enc := eApiFixture) H (by rfl) (by rfl) (by simp only [loI, hiI, wm, ↓wk, ↓wl, nq, evV, ↓reduceIte, sevalprocAttr]; rfl) (by simp only [loI, hiI, wm, ↓wk, ↓wl, nq, evV, ↓reduceIte, sevalprocAttr]; rfl) ?_ <;> clear H <;> intro s_988 H
   try simp only [wm, ↓wk, ↓wl, nq, evV, ↓reduceIte, sevalprocAttr]
   refine evTs_slc (enc := eApiFixture) H (by rfl) (by rfl) (by simp only [loI, hiI, wm, ↓wk, ↓wl, nq, evV, ↓reduceIte, sevalprocAttr]; rfl) (by simp only [loI, hiI, wm, ↓wk, ↓wl, nq, evV, ↓reduceIte, sevalprocAttr]; rfl) ?_ <;> clear H <;> intro s_989 H
   try simp only [wm, ↓wk, ↓wl, nq, evV, ↓reduceIte, sevalprocAttr]
   refine evTs_fr H (fun _ h => f63_ok h) (by rfl) (by rfl) (by rfl) (by rfl) (fun _ => rfl) ?_ <;> clear H <;> intro r_990 H
   try simp only [eL, wm, ↓wk, ↓wl, nq, evV, ↓reduceIte, sevalprocAttr]
   refine AW.ret ?_
   cases H
   exact hQ _ _ _ _ (.inr rfl) (by simp only [resVs, omap, resV, wm, ↓wk, ↓wl, nq, evV, ↓reduceIte, sevalprocAttr]; rfl) (hand_k (by rfl) (by rfl) (by simp) (enc_all _) (by rfl)) (by first | exact Or.inl rfl | exact Or.inr rfl)
theorem f37_im {l_981 : (List ApiFixture)} {profiles_982 : (List ApiProfile)} {channel_983 : Int} {part_984 : Int} {r_ : (List ApiFixture) × Bool × Int} (H : f37 l_981 profiles_982 channel_983 part_984 = some r_) : Pure Try.prog 37 [.sl 7 false (l_981.map eApiFixture), .sl 4 false (profiles_982.map eApiProfile), .int .i64 channel_983, .int .i64 part_984] (· = .tup [.sl 7 false (r_.1.map eApiFixture), .bool r_.2.1, .int .i64 r_.2.2]) := (f37_ok H).unfr (by first | exact enc_fits _ | simp only [frFits, List.all_cons, List.all_nil, enc_fits, Bool.and_self])
noncomputable def f67_L1 (l_1044 : (List ApiFixture)) (channel_1045 : Int) (part_1046 : Int) : Lp (Int × (List ApiFixture)) ((List ApiFixture)) where
  body := fun (i_1067, out_1068) => (if (decide (i_1067 < ((l_1044.length : Nat) : Int))) = true then (at? l_1044 i_1067).bind fun x_1076 => (if (decide (x_1076.fChannel ≠ channel_1045)) = true then (at? l_1044 i_1067).bind fun x_1077 => (app? 72 out_1068 ([x_1077])).bind fun out_1078 => (some (.next ((IntKind.i64.wrap (i_1067 + 1)), out_1078))) else (at? l_1044 i_1067).bind fun x_1079 => (if (decide (x_1079.fPart ≠ part_1046)) = true then (at? l_1044 i_1067).bind fun x_1080 => (app? 72 out_1068 ([x_1080])).bind fun out_1081 => (some (.next ((IntKind.i64.wrap (i_1067 + 1)), out_1081))) else (some (.next ((IntKind.i64.wrap (i_1067 + 1)), out_1068))))) else (some (.brk out_1068)))
  cst := fun (i_1067, out_1068) => ⟨put (put (put (put (put (fun _ => .junk) 8 (.int .i64 i_1067)) 7 (.row 7 0 0 out_1068.length)) 2 (.int .i64 part_1046)) 1 (.int .i64 channel_1045)) 0 (.sl 7 false (l_1044.map eApiFixture)), [.els 7 (out_1068.map eApiFixture)]⟩
theorem f67_L1c (l_1044 : (List ApiFixture)) (channel_1045 : Int) (part_1046 : Int) (i_1067 : Int) (out_1068 : (List ApiFixture)) : (f67_L1 l_1044 channel_1045 part_1046).cst (i_1067, out_1068) = ⟨put (put (put (put (put (fun _ => .junk) 8 (.int .i64 i_1067)) 7 (.row 7 0 0 out_1068.length)) 2 (.int .i64 part_1046)) 1 (.int .i64 channel_1045)) 0 (.sl 7 false (l_1044.map eApiFixture)), [.els 7 (out_1068.map eApiFixture)]⟩ := rfl
def c67_0 : C := .cond (.t 12) (.skip) (.exit 0)
def c67_1 : C := .cond (.t 30) (.reg [iI 31 (.mv (.t 7)), iI 32 (.mv (.t 0)), iI 33 (.mv (.t 8)), iI 34 (.iaddr 7 (.t 32) (.t 33)), iI 35 (.load 7 (.t 34)), iI 36 (.mkslp 7 1 (.agg [(.int .i64 0), (.int .i64 0), (.str []), (.int .i64 0), (.int .i64 0), (.int .i64 0), (.str [])]) [(0, (.t 35))]), iI 37 (.append 7 72 (.t 31) (.t 36)), iI 7 (.mv (.t 37))]) (.skip)
def c67_2 : C := .reg [iI 13 (.mv (.t 8)), iI 14 (.bin .add (.t 13) (.c (.int .i64 1))), iI 8 (.mv (.t 14))]
def c67_3 : C := .seq (.block 1 (.seq (.reg [iI 15 (.mv (.t 0)), iI 16 (.mv (.t 8)), iI 17 (.iaddr 7 (.t 15) (.t 16)), iI 18 (.faddr 0 (.t 17)), iI 19 (.load 0 (.t 18)), iI 20 (.mv (.t 1)), iI 21 (.bin .neq (.t 19) (.t 20)), iI 22 (.mv (.t 21)), iG (some 23) 22 false (.mv (.t 0)), iG (some 24) 22 false (.mv (.t 8)), iG (some 25) 22 false (.iaddr 7 (.t 23) (.t 24)), iG (some 26) 22 false (.faddr 1 (.t 25)), iG (some 27) 22 false (.load 0 (.t 26)), iG (some 28) 22 false (.mv (.t 2)), iG (some 29) 22 false (.bin .neq (.t 27) (.t 28)), iI 30 (.pick (.t 22) (.c (.bool true)) (.t 29))]) c67_1)) c67_2
def c67_4 : C := .block 0 (.loop (.seq (.seq (.reg [iI 9 (.mv (.t 8)), iI 10 (.mv (.t 0)), iI 11 (.len 0 (.t 10)), iI 12 (.bin .lss (.t 9) (.t 11))]) c67_0) c67_3))
def c67_5 : C := .seq (.reg [iI 38 (.mv (.t 7)), iI 6 (.mv (.t 38))]) .ret
def c67_6 : C := .seq (.seq (.reg [iI 8 (.mv (.c (.int .i64 0)))]) c67_4) c67_5
def c67_7 : C := .seq (.reg [iI 7 (.mv (.c (.sl 7 true [])))]) c67_6
def ir67 : C := .seq (.reg [iI 6 (.mv (.c (.sl 7 true [])))]) c67_7
theorem fd67 : fd? Try.prog 67 = some (39, [.slot 6], ir67) := by kernel_rfl
noncomputable def f67 (l_1044 : (List ApiFixture)) (channel_1045 : Int) (part_1046 : Int) : Option ((List ApiFixture)) :=
  (Lp.run (f67_L1 l_1044 channel_1045 part_1046) (0, [])).bind fun out_1075 => (some out_1075)
theorem f67_ok {l_1044 : (List ApiFixture)} {channel_1045 : Int} {part_1046 : Int} {r_ : (List ApiFixture)} (H : f67 l_1044 channel_1045 part_1046 = some r_) : Pure Try.prog 67 [.sl 7 false (l_1044.map eApiFixture), .int .i64 channel_1045, .int .i64 part_1046] (· = .fr 7 (r_.map eApiFixture)) := by
 refine Pure.walk3 fd67 (some 0) (Nat.le_of_ble_eq_true rfl) (by rfl) fun Q hQ => ?_
 simp only [f67] at H
 refine AW.rseq ?_
 try simp only [wm, ↓wk, ↓wl, nq, evV, ↓reduceIte, sevalprocAttr]
 refine AW.rseq ?_
 try simp only [wm, ↓wk, ↓wl, nq, evV, ↓reduceIte, sevalprocAttr]
 refine AW.sseq ?_
 refine AW.rseq ?_
 try simp only [wm, ↓wk, ↓wl, nq, evV, ↓reduceIte, sevalprocAttr]
 refine AW.bend ?_
 refine AW.iter H ((Le.trans (Le.nilRow (i := 7) (e := 7) (by simp only [↓wk, ↓wl, nq, evV, ↓reduceIte, sevalprocAttr])) (Le.tz [0] [0, 1, 2, 7, 8] (by simp only [f67_L1c, wm, wmr, rrm, ↓wk, ↓wl, evV, ↓reduceIte, sevalprocAttr] <;> rfl)))) ?_ <;> clear H
 rintro ⟨i_1067, out_1068⟩ x_ st0_ H hst_
 rw [f67_L1c] at hst_
 simp only [f67_L1] at H
 subst hst_
 refine AW.sseq ?_
 refine AW.rseq ?_
 try simp only [wm, ↓wk, ↓wl, nq, evV, ↓reduceIte, sevalprocAttr]
 refine AW.ifc H (by rfl) ?_ ?_ <;> clear H <;> intro H
 ·refine AW.skip ?_
  refine seqQ.norm ?_
  refine AW.bseq ?_
  refine AW.rseq ?_
  try simp only [wm, ↓wk, ↓wl, nq, evV, ↓reduceIte, sevalprocAttr]
  refine evTs_at (enc := eApiFixture) H (by rfl) (by rfl) ?_ <;> clear H <;> intro x_1076 H
  try simp only [eApiFixture, eL, eM, wm, ↓wk, ↓wl, nq, evV, ↓reduceIte, sevalprocAttr]
  refine evTs_ifg H (by rfl) ?_ ?_ <;> clear H <;> intro H
  ·try simp only [wm, ↓wk, ↓wl, nq, evV, ↓reduceIte, sevalprocAttr]
   refine AW.ift (by rfl) ?_
   refine AW.rend ?_
   try simp only [wm, ↓wk, ↓wl, nq, evV, ↓reduceIte, sevalprocAttr]
   refine evTs_at (enc := eApiFixture) H (by rfl) (by rfl) ?_ <;> clear H <;> intro x_1077 H
   try simp only [eApiFixture, eL, eM, wm, ↓wk, ↓wl, nq, evV, ↓reduceIte, sevalprocAttr]
   refine evTs_app (enc := eApiFixture) H (by rfl) (by first | rfl | simp only [List.length_set]) (by rfl) (by rfl) ?_ <;> clear H <;> intro out_1078 H
   try simp only [wm, ↓wk, ↓wl, nq, evV, ↓reduceIte, sevalprocAttr]
   refine blkQ.norm ?_
   refine AW.rend ?_
   try simp only [wm, ↓wk, ↓wl, nq, evV, ↓reduceIte, sevalprocAttr]
   exact loopQ.next H ((Le.tz [1] [0, 1, 2, 7, 8] (by simp only [f67_L1c, wm, wmr, rrm, ↓wk, ↓wl, evV, ↓reduceIte, sevalprocAttr] <;> rfl)))
  ·try simp only [wm, ↓wk, ↓wl, nq, evV, ↓reduceIte, sevalprocAttr]
   refine evTs_at (enc := eApiFixture) H (by rfl) (by rfl) ?_ <;> clear H <;> intro x_1079 H
   try simp only [eApiFixture, eL, eM, wm, ↓wk, ↓wl, nq, evV, ↓reduceIte, sevalprocAttr]
   refine AW.ifc H (by rfl) ?_ ?_ <;> clear H <;> intro H
   ·refine AW.rend ?_
    try simp only [wm, ↓wk, ↓wl, nq, evV, ↓reduceIte, sevalprocAttr]
    refine evTs_at (enc := eApiFixture) H (by rfl) (by rfl) ?_ <;> clear H <;> intro x_1080 H
    try simp only [eApiFixture, eL, eM, wm, ↓wk, ↓wl, nq, evV, ↓reduceIte, sevalprocAttr]
    refine evTs_app (enc := eApiFixture) H (by rfl) (by first | rfl | simp only [List.length_set]) (by rfl) (by rfl) ?_ <;> clear H <;> intro out_1081 H
    try simp only [wm, ↓wk, ↓wl, nq, evV, ↓reduceIte, sevalprocAttr]
    refine blkQ.norm ?_
    refine AW.rend ?_
    try simp only [wm, ↓wk, ↓wl, nq, evV, ↓reduceIte, sevalprocAttr]
    exact loopQ.next H ((Le.tz [1] [0, 1, 2, 7, 8] (by simp only [f67_L1c, wm, wmr, rrm, ↓wk, ↓wl, evV, ↓reduceIte, sevalprocAttr] <;> rfl)))
   ·refine AW.skip ?_
    refine blkQ.norm ?_
    refine AW.rend ?_
    try simp only [wm, ↓wk, ↓wl, nq, evV, ↓reduceIte, sevalprocAttr]
    exact loopQ.next H ((Le.tz [0] [0, 1, 2, 7, 8] (by simp only [f67_L1c, wm, wmr, rrm, ↓wk, ↓wl, evV, ↓reduceIte, sevalprocAttr] <;> rfl)))
 ·refine AW.exit ?_
  refine seqQ.exit ?_
  refine loopQ.exit H ?_ <;> clear H <;> intro H
  try dsimp only at H
  refine blk0.here ?_
  refine seqQ.norm ?_
  refine AW.rseq ?_
  try simp only [wm, ↓wk, ↓wl, nq, evV, ↓reduceIte, sevalprocAttr]
  refine AW.ret ?_
  cases H
  exact hQ _ _ _ _ (.inr rfl) (by simp only [resVs, omap, resV, wm, ↓wk, ↓wl, nq, evV, ↓reduceIte, sevalprocAttr]; rfl) (hand_1 (by rfl) (by simp) (enc_all _)) (by first | exact Or.inl rfl | exact Or.inr rfl)
theorem f67_im {l_1044 : (List ApiFixture)} {channel_1045 : Int} {part_1046 : Int} {r_ : (List ApiFixture)} (H : f67 l_1044 channel_1045 part_1046 = some r_) : Pure Try.prog 67 [.sl 7 false (l_1044.map eApiFixture), .int .i64 channel_1045, .int .i64 part_1046] (· = .sl 7 false (r_.map eApiFixture)) := (f67_ok H).unfr (by first | exact enc_fits _ | simp only [frFits, List.all_cons, List.all_nil, enc_fits, Bool.and_self])
def c40_0 : C := .cond (.t 16) (.seq (.reg [iI 17 (.mv (.t 11)), iI 8 (.mv (.c (.sl 7 true []))), iI 9 (.mv (.c (.bool false))), iI 10 (.mv (.t 17))]) .ret) (.skip)
def c40_1 : C := .seq (.reg [iI 15 (.mv (.t 11)), iI 16 (.bin .neq (.t 15) (.c (.int .i64 0)))]) c40_0
def c40_2 : C := .seq (.reg [iI 18 (.mv (.t 0)), iI 19 (.mv (.t 2)), iI 20 (.mv (.t 3)), iI 21 (.call (.c (.fn 67 [])) [(.t 18), (.t 19), (.t 20)]), iI 22 (.mv (.t 0)), iI 23 (.mv (.t 2)), iI 24 (.mv (.t 3)), iI 25 (.call (.c (.fn 35 [])) [(.t 22), (.t 23), (.t 24)]), iI 26 (.bin .geq (.t 25) (.c (.int .i64 0))), iI 8 (.mv (.t 21)), iI 9 (.mv (.t 26)), iI 10 (.mv (.c (.int .i64 0)))]) .ret
def c40_3 : C := .seq (.seq (.reg [iI 12 (.mv (.t 0)), iI 13 (.mv (.t 1)), iI 14 (.call (.c (.fn 17 [])) [(.t 12), (.t 13)]), iI 11 (.mv (.t 14))]) c40_1) c40_2
def ir40 : C := .seq (.reg [iI 8 (.mv (.c (.sl 7 true []))), iI 9 (.mv (.c (.bool false))), iI 10 (.mv (.c (.int .i64 0)))]) c40_3
theorem fd40 : fd? Try.prog 40 = some (27, [.slot 8, .slot 9, .slot 10], ir40) := by kernel_rfl
noncomputable def f40 (l_1038 : (List ApiFixture)) (profiles_1039 : (List ApiProfile)) (channel_1040 : Int) (part_1041 : Int) : Option ((List ApiFixture) × Bool × Int) :=
  (f17 l_1038 profiles_1039).bind fun r_1043 => (if (decide (r_1043 ≠ 0)) = true then (some ([], false, r_1043)) else (f67 l_1038 channel_1040 part_1041).bind fun r_1082 => (f35 l_1038 channel_1040 part_1041).bind fun r_1083 => (some (r_1082, (decide (0 ≤ r_1083)), 0)))
theorem f40_ok {l_1038 : (List ApiFixture)} {profiles_1039 : (List ApiProfile)} {channel_1040 : Int} {part_1041 : Int} {r_ : (List ApiFixture) × Bool × Int} (H : f40 l_1038 profiles_1039 channel_1040 part_1041 = some r_) : Pure Try.prog 40 [.sl 7 false (l_1038.map eApiFixture), .sl 4 false (profiles_1039.map eApiProfile), .int .i64 channel_1040, .int .i64 part_1041] (· = .tup [.fr 7 (r_.1.map eApiFixture), .bool r_.2.1, .int .i64 r_.2.2]) := by
 refine Pure.walk3 fd40 (some 0) (Nat.le_of_ble_eq_true rfl) (by rfl) fun Q hQ => ?_
 simp only [f40] at H
 refine AW.rseq ?_
 try simp only [wm, ↓wk, ↓wl, nq, evV, ↓reduceIte, sevalprocAttr]
 refine AW.sseq ?_
 refine AW.rseq ?_
 try simp only [wm, ↓wk, ↓wl, nq, evV, ↓reduceIte, sevalprocAttr]
 refine evTs_pure hFn H (fun _ h => f17_ok h) (by rfl) (by rfl) (by rfl) (by rfl) (fun _ => rfl) ?_ <;> clear H <;> intro r_1043 H
 try simp only [eL, wm, ↓wk, ↓wl, nq, evV, ↓reduceIte, sevalprocAttr]
 refine AW.rseq ?_
 try simp only [wm, ↓wk, ↓wl, nq, evV, ↓reduceIte, sevalprocAttr]
 refine AW.ifc H (by rfl) ?_ ?_ <;> clear H <;> intro H
 ·refine AW.rseq ?_
  try simp only [wm, ↓wk, ↓wl, nq, evV, ↓reduceIte, sevalprocAttr]
  refine AW.ret ?_
  refine seqQ.ret ?_
  cases H
  exact hQ _ _ _ _ (.inr rfl) (by simp only [resVs, omap, resV, wm, ↓wk, ↓wl, nq, evV, ↓reduceIte, sevalprocAttr]; rfl) (hand_k0 (by rfl) (by rfl)) (by first | exact Or.inl rfl | exact Or.inr rfl)
 ·refine AW.skip ?_
  refine seqQ.norm ?_
  refine AW.rseq ?_
  try simp only [wm, ↓wk, ↓wl, nq, evV, ↓reduceIte, sevalprocAttr]
  refine evTs_fr H (fun _ h => f67_ok h) (by rfl) (by rfl) (by rfl) (by rfl) (fun _ => rfl) ?_ <;> clear H <;> intro r_1082 H
  try simp only [eL, wm, ↓wk, ↓wl, nq, evV, ↓reduceIte, sevalprocAttr]
  refine evTs_pure hFn H (fun _ h => f35_ok h) (by rfl) (by rfl) (by rfl) (by rfl) (fun _ => rfl) ?_ <;> clear H <;> intro r_1083 H
  try simp only [eL, wm, ↓wk, ↓wl, nq, evV, ↓reduceIte, sevalprocAttr]
  refine AW.ret ?_
  cases H
  exact hQ _ _ _ _ (.inr rfl) (by simp only [resVs, omap, resV, wm, ↓wk, ↓wl, nq, evV, ↓reduceIte, sevalprocAttr]; rfl) (hand_k (by rfl) (by rfl) (by simp) (enc_all _) (by rfl)) (by first | exact Or.inl rfl | exact Or.inr rfl)
theorem f40_im {l_1038 : (List ApiFixture)} {profiles_1039 : (List ApiProfile)} {channel_1040 : Int} {part_1041 : Int} {r_ : (List ApiFixture) × Bool × Int} (H : f40 l_1038 profiles_1039 channel_1040 part_1041 = some r_) : Pure Try.prog 40 [.sl 7 false (l_1038.map eApiFixture), .sl 4 false (profiles_1039.map eApiProfile), .int .i64 channel_1040, .int .i64 part_1041] (· = .tup [.sl 7 false (r_.1.map eApiFixture), .bool r_.2.1, .int .i64 r_.2.2]) := (f40_ok H).unfr (by first | exact enc_fits _ | simp only [frFits, List.all_cons, List.all_nil, enc_fits, Bool.and_self])
noncomputable def f41_J1 (profiles_1121 : (List ApiProfile)) : Jn ((List ApiFixture)) ((List ApiFixture) × Int) where
  run := fun out_1131 => (f62 out_1131 profiles_1121).bind fun r_1132 => (some (r_1132.1, r_1132.2))
  cst := fun out_1131 => ⟨put (put (fun _ => .junk) 13 (.row 7 0 0 out_1131.length)) 1 (.sl 4 false (profiles_1121.map eApiProfile)), [.els 7 (out_1131.map eApiFixture)]⟩
theorem f41_J1c (profiles_1121 : (List ApiProfile)) (out_1131 : (List ApiFixture)) : (f41_J1 profiles_1121).cst out_1131 = ⟨put (put (fun _ => .junk) 13 (.row 7 0 0 out_1131.length)) 1 (.sl 4 false (profiles_1121.map eApiProfile)), [.els 7 (out_1131.map eApiFixture)]⟩ := rfl
def c41_0 : C := .cond (.t 21) (.seq (.reg [iI 22 (.mv (.t 11)), iI 8 (.mv (.c (.sl 7 true []))), iI 9 (.mv (.t 22))]) .ret) (.skip)
def c41_1 : C := .cond (.t 30) (.seq (.reg [iI 8 (.mv (.c (.sl 7 true []))), iI 9 (.mv (.c (.int .i64 6)))]) .ret) (.skip)
def c41_2 : C := .seq (.reg [iI 45 (.mv (.t 13)), iI 46 (.mv (.t 1)), iI 47 (.call (.c (.fn 62 [])) [(.t 45), (.t 46)]), iI 48 (.ext (.t 47) 0), iI 49 (.ext (.t 47) 1), iI 8 (.mv (.t 48)), iI 9 (.mv (.t 49))]) .ret
def c41_3 : C := .seq (.regt (.fork [iI 33 (.mv (.t 13)), iI 34 (.mv (.t 12)), iI 35 (.mv (.t 13)), iI 36 (.mv (.t 12)), iI 37 (.faddr 3 (.t 7)), iI 38 (.load 0 (.t 37)), iI 39 (.faddr 4 (.t 7)), iI 41 (.iaddr 7 (.t 33) (.t 34)), iI 42 (.faddr 3 (.t 41))] (.run [iI 40 (.load 0 (.t 39)), iN (.store 0 (.t 42) (.t 38)), iI 43 (.iaddr 7 (.t 35) (.t 36)), iI 44 (.faddr 4 (.t 43)), iN (.store 0 (.t 44) (.t 40))]) (.run [iN (.store 0 (.t 42) (.t 38)), iI 40 (.load 0 (.t 39)), iI 43 (.iaddr 7 (.t 35) (.t 36)), iI 44 (.faddr 4 (.t 43)), iN (.store 0 (.t 44) (.t 40))]))) c41_2
def c41_4 : C := .seq (.reg [iI 31 (.mv (.t 0)), iI 32 (.call (.c (.fn 30 [])) [(.t 31)]), iI 13 (.mv (.t 32))]) c41_3
def c41_5 : C := .seq (.seq (.reg [iI 29 (.mv (.t 12)), iI 30 (.bin .lss (.t 29) (.c (.int .i64 0)))]) c41_1) c41_4
def c41_6 : C := .seq (.reg [iI 23 (.load 2 (.t 10)), iI 24 (.faddr 0 (.t 6)), iI 25 (.load 0 (.t 24)), iI 26 (.faddr 1 (.t 6)), iI 27 (.load 0 (.t 26)), iI 28 (.call (.c (.fn 61 [])) [(.t 23), (.t 25), (.t 27)]), iI 12 (.mv (.t 28))]) c41_5
def c41_7 : C := .seq (.seq (.reg [iI 20 (.mv (.t 11)), iI 21 (.bin .neq (.t 20) (.c (.int .i64 0)))]) c41_0) c41_6
def c41_8 : C := .seq (.reg [iI 15 (.mv (.t 0)), iI 16 (.mv (.t 1)), iI 17 (.call (.c (.fn 44 [])) [(.t 15), (.t 16)]), iI 14 (.mv (.t 17)), iI 18 (.ext (.t 14) 0), iI 19 (.ext (.t 14) 1), iI 10 (.alloc [(1, (.sl 7 true [])), (1, .nilmp)]), iN (.store 2 (.t 10) (.t 18)), iI 11 (.mv (.t 19))]) c41_7
def ir41 : C := .seq (.reg [iI 6 (.box (.t 2)), iI 7 (.box (.t 3)), iI 8 (.mv (.c (.sl 7 true []))), iI 9 (.mv (.c (.int .i64 0)))]) c41_8
theorem fd41 : fd? Try.prog 41 = some (50, [.slot 8, .slot 9], ir41) := by kernel_rfl
noncomputable def f41 (l_1120 : (List ApiFixture)) (profiles_1121 : (List ApiProfile)) (from_1122 : ApiFixture) (to_1123 : ApiFixture) : Option ((List ApiFixture) × Int) :=
  (f44 l_1120 profiles_1121).bind fun r_1124 => (if (decide (r_1124.2 ≠ 0)) = true then (some ([], r_1124.2)) else (f61 r_1124.1 from_1122.fChannel from_1122.fPart).bind fun r_1125 => (if (decide (r_1125 < 0)) = true then (some ([], 6)) else (f30 l_1120).bind fun r_1126 => (at? r_1126 r_1125).bind fun x_1133 => (at? (r_1126.set r_1125.toNat (ApiFixture.mk x_1133.fChannel x_1133.fPart x_1133.fProfile to_1123.fUniverse x_1133.fAddress x_1133.fPhase x_1133.fCable)) r_1125).bind fun x_1135 => ((f41_J1 profiles_1121).run ((r_1126.set r_1125.toNat (ApiFixture.mk x_1133.fChannel x_1133.fPart x_1133.fProfile to_1123.fUniverse x_1133.fAddress x_1133.fPhase x_1133.fCable)).set r_1125.toNat (ApiFixture.mk x_1135.fChannel x_1135.fPart x_1135.fProfile x_1135.fUniverse to_1123.fAddress x_1135.fPhase x_1135.fCable)))))
theorem f41_ok {l_1120 : (List ApiFixture)} {profiles_1121 : (List ApiProfile)} {from_1122 : ApiFixture} {to_1123 : ApiFixture} {r_ : (List ApiFixture) × Int} (H : f41 l_1120 profiles_1121 from_1122 to_1123 = some r_) : Pure Try.prog 41 [.sl 7 false (l_1120.map eApiFixture), .sl 4 false (profiles_1121.map eApiProfile), .agg [.int .i64 from_1122.fChannel, .int .i64 from_1122.fPart, .str from_1122.fProfile, .int .i64 from_1122.fUniverse, .int .i64 from_1122.fAddress, .int .i64 from_1122.fPhase, .str from_1122.fCable], .agg [.int .i64 to_1123.fChannel, .int .i64 to_1123.fPart, .str to_1123.fProfile, .int .i64 to_1123.fUniverse, .int .i64 to_1123.fAddress, .int .i64 to_1123.fPhase, .str to_1123.fCable]] (· = .tup [.sl 7 false (r_.1.map eApiFixture), .int .i64 r_.2]) := by
 refine Pure.walk3 fd41 none (Nat.le_of_ble_eq_true rfl) (by rfl) fun Q hQ => ?_
 simp only [f41] at H
 refine AW.rseq ?_
 try simp only [wm, ↓wk, ↓wl, nqs, evV, ↓reduceIte, sevalprocAttr]
 refine AW.rseq ?_
 try simp only [wm, ↓wk, ↓wl, nqs, evV, ↓reduceIte, sevalprocAttr]
 refine evTs_pure hFn H (fun _ h => f44_ok h) (by rfl) (by rfl) (by rfl) (by rfl) (fun _ => rfl) ?_ <;> clear H <;> intro r_1124 H
 try simp only [eL, ePatchRig, eM, wm, ↓wk, ↓wl, nqs, evV, ↓reduceIte, sevalprocAttr]
 refine evTs_st (by simp only [wm, ↓wk, ↓wl, nqs, evV, ↓reduceIte, sevalprocAttr, Nat.reduceLeDiff]; rfl) ?_
 try simp only [wm, ↓wk, ↓wl, nqs, evV, ↓reduceIte, sevalprocAttr]
 refine AW.sseq ?_
 refine AW.rseq ?_
 try simp only [wm, ↓wk, ↓wl, nqs, evV, ↓reduceIte, sevalprocAttr]
 refine AW.ifc H (by rfl) ?_ ?_ <;> clear H <;> intro H
 ·refine AW.rseq ?_
  try simp only [wm, ↓wk, ↓wl, nqs, evV, ↓reduceIte, sevalprocAttr]
  refine AW.ret ?_
  refine seqQ.ret ?_
  cases H
  exact hQ _ _ _ _ (.inr rfl) (by simp only [resVs, omap, resV, wm, ↓wk, ↓wl, nqs, evV, ↓reduceIte, sevalprocAttr]; rfl) (hand_plain (by rfl)) (by first | exact Or.inl rfl | exact Or.inr rfl)
 ·refine AW.skip ?_
  refine seqQ.norm ?_
  refine AW.rseq ?_
  try simp only [wm, ↓wk, ↓wl, nqs, evV, ↓reduceIte, sevalprocAttr]
  refine evTs_pure hFn H (fun _ h => f61_ok h) (by rfl) (by rfl) (by rfl) (by rfl) (fun _ => rfl) ?_ <;> clear H <;> intro r_1125 H
  try simp only [eL, wm, ↓wk, ↓wl, nqs, evV, ↓reduceIte, sevalprocAttr]
  refine AW.sseq ?_
  refine AW.rseq ?_
  try simp only [wm, ↓wk, ↓wl, nqs, evV, ↓reduceIte, sevalprocAttr]
  refine AW.ifc H (by rfl) ?_ ?_ <;> clear H <;> intro H
  ·refine AW.rseq ?_
   try simp only [wm, ↓wk, ↓wl, nqs, evV, ↓reduceIte, sevalprocAttr]
   refine AW.ret ?_
   refine seqQ.ret ?_
   cases H
   exact hQ _ _ _ _ (.inr rfl) (by simp only [resVs, omap, resV, wm, ↓wk, ↓wl, nqs, evV, ↓reduceIte, sevalprocAttr]; rfl) (hand_plain (by rfl)) (by first | exact Or.inl rfl | exact Or.inr rfl)
  ·refine AW.skip ?_
   refine seqQ.norm ?_
   refine AW.rseq ?_
   try simp only [wm, ↓wk, ↓wl, nqs, evV, ↓reduceIte, sevalprocAttr]
   refine evTs_fr H (fun _ h => f30_ok h) (by rfl) (by rfl) (by rfl) (by rfl) (fun _ => rfl) ?_ <;> clear H <;> intro r_1126 H
   try simp only [eL, wm, ↓wk, ↓wl, nqs, evV, ↓reduceIte, sevalprocAttr]
   refine AW.join (f41_J1 profiles_1121) H ?_ fun hf41_J1 => ?_
   ·clear H
    rintro out_1131 st0_ H hst_
    rw [f41_J1c] at hst_
    simp only [f41_J1] at H
    subst hst_
    refine AW.rseq ?_
    try simp only [wm, ↓wk, ↓wl, nqs, evV, ↓reduceIte, sevalprocAttr]
    refine evTs_frz (args := [.row 7 0 0 out_1131.length, .sl 4 false (profiles_1121.map eApiProfile)]) (h1 := [.dead]) H (fun _ h => f62_ok h) (by rfl) (by rfl) (freeze_rows (by rfl) (by simp only [deep_eq, imm_simps, imm_rowE, imm_ptrE, imm_enc, imm_mrefE, imm_mpE, imm_arowE, omap_simps, take_map_len, take_map_set, take_map_set2, List.length_set, le_refl_true, Nat.zero_add, and_true, true_and, List.drop_zero, Option.map_some, wm, ↓wk, ↓wl, nqs, evV, ↓reduceIte, sevalprocAttr]; try rfl) (by show kill _ (visit _ (11 + 1) _) = _; rw [visit_tup_cons, visit_rowE (enc := eApiFixture) (by rfl), visit_tup_cons, visit_pl (by rfl), visit_tup_nil]; try rfl)) (by rfl) (fun _ => by rfl) (fun _ => rfl) ?_ <;> clear H <;> intro r_1132 H
    try simp only [eL, wm, ↓wk, ↓wl, nqs, evV, ↓reduceIte, sevalprocAttr]
    refine AW.ret ?_
    cases H
    exact hQ _ _ _ _ (.inr rfl) (by simp only [resVs, omap, resV, wm, ↓wk, ↓wl, nqs, evV, ↓reduceIte, sevalprocAttr]; rfl) (hand_plain (by rfl)) (by first | exact Or.inl rfl | exact Or.inr rfl)
   ·refine AW.regt ?_
    refine evR.fork ?_
    try simp only [wm, ↓wk, ↓wl, nqs, evV, ↓reduceIte, sevalprocAttr]
    refine evTs_atr (enc := eApiFixture) H (by rfl) (by first | rfl | simp only [List.length_set]) (by rfl) ?_ <;> clear H <;> intro x_1133 hx_1133 H
    try simp only [eApiFixture, eL, eM, wm, ↓wk, ↓wl, nqs, evV, ↓reduceIte, sevalprocAttr, hx_1133, eApiFixture, eL, eM]
    refine evR.both ?_ ?_
    ·refine evR.run ?_
     try simp only [wm, ↓wk, ↓wl, nqs, evV, ↓reduceIte, sevalprocAttr, hx_1133, eApiFixture, eL, eM]
     refine evTs_stE (enc := eApiFixture) x_1133 (ApiFixture.mk x_1133.fChannel x_1133.fPart x_1133.fProfile to_1123.fUniverse x_1133.fAddress x_1133.fPhase x_1133.fCable) (by rfl) (by rfl) hx_1133 (by rfl) ?_
     have hw_1134 := set_get hx_1133 (ApiFixture.mk x_1133.fChannel x_1133.fPart x_1133.fProfile to_1123.fUniverse x_1133.fAddress x_1133.fPhase x_1133.fCable)
     try simp only [eApiFixture, eL, eM, wm, ↓wk, ↓wl, nqs, evV, ↓reduceIte, sevalprocAttr, hx_1133, eApiFixture, eL, eM, hw_1134]
     refine evTs_atr (enc := eApiFixture) H (by rfl) (by first | rfl | simp only [List.length_set, hx_1133, eApiFixture, eL, eM, hw_1134]) (by rfl) ?_ <;> clear H <;> intro x_1135 hx_1135 H
     try simp only [eApiFixture, eL, eM, wm, ↓wk, ↓wl, nqs, evV, ↓reduceIte, sevalprocAttr, hx_1133, eApiFixture, eL, eM, hw_1134, hx_1135]
     refine evTs_stE (enc := eApiFixture) x_1135 (ApiFixture.mk x_1135.fChannel x_1135.fPart x_1135.fProfile x_1135.fUniverse to_1123.fAddress x_1135.fPhase x_1135.fCable) (by rfl) (by rfl) hx_1135 (by rfl) ?_
     have hw_1136 := set_get hx_1135 (ApiFixture.mk x_1135.fChannel x_1135.fPart x_1135.fProfile x_1135.fUniverse to_1123.fAddress x_1135.fPhase x_1135.fCable)
     try simp only [eApiFixture, eL, eM, wm, ↓wk, ↓wl, nqs, evV, ↓reduceIte, sevalprocAttr, hx_1133, eApiFixture, eL, eM, hw_1134, hx_1135, hw_1136]
     refine seqQ.norm ?_
     exact hf41_J1 _ _ H ((Le.tz [3] [1, 13] (by simp only [f41_J1c, wm, wmr, rrm, ↓wk, ↓wl, evV, ↓reduceIte, sevalprocAttr, hx_1133, eApiFixture, eL, eM, hw_1134, hx_1135, hw_1136] <;> rfl)))
    ·refine evR.run ?_
     try simp only [wm, ↓wk, ↓wl, nqs, evV, ↓reduceIte, sevalprocAttr, hx_1133, eApiFixture, eL, eM]
     refine evTs_stE (enc := eApiFixture) x_1133 (ApiFixture.mk x_1133.fChannel x_1133.fPart x_1133.fProfile to_1123.fUniverse x_1133.fAddress x_1133.fPhase x_1133.fCable) (by rfl) (by rfl) hx_1133 (by rfl) ?_
     have hw_1134 := set_get hx_1133 (ApiFixture.mk x_1133.fChannel x_1133.fPart x_1133.fProfile to_1123.fUniverse x_1133.fAddress x_1133.fPhase x_1133.fCable)
     try simp only [eApiFixture, eL, eM, wm, ↓wk, ↓wl, nqs, evV, ↓reduceIte, sevalprocAttr, hx_1133, eApiFixture, eL, eM, hw_1134]
     refine evTs_atr (enc := eApiFixture) H (by rfl) (by first | rfl | simp only [List.length_set, hx_1133, eApiFixture, eL, eM, hw_1134]) (by rfl) ?_ <;> clear H <;> intro x_1135 hx_1135 H
     try simp only [eApiFixture, eL, eM, wm, ↓wk, ↓wl, nqs, evV, ↓reduceIte, sevalprocAttr, hx_1133, eApiFixture, eL, eM, hw_1134, hx_1135]
     refine evTs_stE (enc := eApiFixture) x_1135 (ApiFixture.mk x_1135.fChannel x_1135.fPart x_1135.fProfile x_1135.fUniverse to_1123.fAddress x_1135.fPhase x_1135.fCable) (by rfl) (by rfl) hx_1135 (by rfl) ?_
     have hw_1136 := set_get hx_1135 (ApiFixture.mk x_1135.fChannel x_1135.fPart x_1135.fProfile x_1135.fUniverse to_1123.fAddress x_1135.fPhase x_1135.fCable)
     try simp only [eApiFixture, eL, eM, wm, ↓wk, ↓wl, nqs, evV, ↓reduceIte, sevalprocAttr, hx_1133, eApiFixture, eL, eM, hw_1134, hx_1135, hw_1136]
     refine seqQ.norm ?_
     exact hf41_J1 _ _ H ((Le.tz [3] [1, 13] (by simp only [f41_J1c, wm, wmr, rrm, ↓wk, ↓wl, evV, ↓reduceIte, sevalprocAttr, hx_1133, eApiFixture, eL, eM, hw_1134, hx_1135, hw_1136] <;> rfl)))
noncomputable def f42_J1 (l_1148 : (List ApiFixture)) (x_1155 : ApiFixture) (to_1151 : ApiFixture) (profiles_1149 : (List ApiProfile)) : Jn (Unit) ((List ApiFixture) × Int) where
  run := fun _ => (f66 l_1148 (ApiFixture.mk x_1155.fChannel x_1155.fPart x_1155.fProfile to_1151.fUniverse to_1151.fAddress x_1155.fPhase x_1155.fCable)).bind fun r_1156 => (f65 r_1156 profiles_1149).bind fun r_1157 => (some (r_1157.1, r_1157.2))
  cst := fun _ => ⟨put (put (put (fun _ => .junk) 12 (.ptr 0 0)) 1 (.sl 4 false (profiles_1149.map eApiProfile))) 0 (.sl 7 false (l_1148.map eApiFixture)), [.cel [.int .i64 x_1155.fChannel, .int .i64 x_1155.fPart, .str x_1155.fProfile, .int .i64 to_1151.fUniverse, .int .i64 to_1151.fAddress, .int .i64 x_1155.fPhase, .str x_1155.fCable]]⟩
theorem f42_J1c (l_1148 : (List ApiFixture)) (x_1155 : ApiFixture) (to_1151 : ApiFixture) (profiles_1149 : (List ApiProfile)) (x_ : Unit) : (f42_J1 l_1148 x_1155 to_1151 profiles_1149).cst x_ = ⟨put (put (put (fun _ => .junk) 12 (.ptr 0 0)) 1 (.sl 4 false (profiles_1149.map eApiProfile))) 0 (.sl 7 false (l_1148.map eApiFixture)), [.cel [.int .i64 x_1155.fChannel, .int .i64 x_1155.fPart, .str x_1155.fProfile, .int .i64 to_1151.fUniverse, .int .i64 to_1151.fAddress, .int .i64 x_1155.fPhase, .str x_1155.fCable]]⟩ := rfl
def c42_0 : C := .cond (.t 17) (.seq (.reg [iI 18 (.mv (.t 10)), iI 8 (.mv (.c (.sl 7 true []))), iI 9 (.mv (.t 18))]) .ret) (.skip)
def c42_1 : C := .seq (.reg [iI 16 (.mv (.t 10)), iI 17 (.bin .neq (.t 16) (.c (.int .i64 0)))]) c42_0
def c42_2 : C := .cond (.t 26) (.seq (.reg [iI 8 (.mv (.c (.sl 7 true []))), iI 9 (.mv (.c (.int .i64 6)))]) .ret) (.skip)
def c42_3 : C := .seq (.reg [iI 37 (.mv (.t 0)), iI 38 (.load 7 (.t 12)), iI 39 (.call (.c (.fn 66 [])) [(.t 37), (.t 38)]), iI 40 (.mv (.t 1)), iI 41 (.call (.c (.fn 65 [])) [(.t 39), (.t 40)]), iI 42 (.ext (.t 41) 0), iI 43 (.ext (.t 41) 1), iI 8 (.mv (.t 42)), iI 9 (.mv (.t 43))]) .ret
def c42_4 : C := .seq (.regt (.fork [iI 31 (.faddr 3 (.t 7)), iI 32 (.load 0 (.t 31)), iI 33 (.faddr 4 (.t 7)), iI 35 (.faddr 3 (.t 12))] (.run [iI 34 (.load 0 (.t 33)), iN (.store 0 (.t 35) (.t 32)), iI 36 (.faddr 4 (.t 12)), iN (.store 0 (.t 36) (.t 34))]) (.run [iN (.store 0 (.t 35) (.t 32)), iI 34 (.load 0 (.t 33)), iI 36 (.faddr 4 (.t 12)), iN (.store 0 (.t 36) (.t 34))]))) c42_3
def c42_5 : C := .seq (.reg [iI 27 (.mv (.t 0)), iI 28 (.mv (.t 11)), iI 29 (.iaddr 7 (.t 27) (.t 28)), iI 30 (.load 7 (.t 29)), iI 12 (.alloc [(1, (.int .i64 0)), (1, (.int .i64 0)), (1, (.str [])), (1, (.int .i64 0)), (1, (.int .i64 0)), (1, (.int .i64 0)), (1, (.str []))]), iN (.store 7 (.t 12) (.t 30))]) c42_4
def c42_6 : C := .seq (.seq (.reg [iI 25 (.mv (.t 11)), iI 26 (.bin .lss (.t 25) (.c (.int .i64 0)))]) c42_2) c42_5
def c42_7 : C := .seq (.reg [iI 19 (.mv (.t 0)), iI 20 (.faddr 0 (.t 6)), iI 21 (.load 0 (.t 20)), iI 22 (.faddr 1 (.t 6)), iI 23 (.load 0 (.t 22)), iI 24 (.call (.c (.fn 35 [])) [(.t 19), (.t 21), (.t 23)]), iI 11 (.mv (.t 24))]) c42_6
def c42_8 : C := .seq (.seq (.reg [iI 13 (.mv (.t 0)), iI 14 (.mv (.t 1)), iI 15 (.call (.c (.fn 17 [])) [(.t 13), (.t 14)]), iI 10 (.mv (.t 15))]) c42_1) c42_7
def ir42 : C := .seq (.reg [iI 6 (.box (.t 2)), iI 7 (.box (.t 3)), iI 8 (.mv (.c (.sl 7 true []))), iI 9 (.mv (.c (.int .i64 0)))]) c42_8
theorem fd42 : fd? Try.prog 42 = some (44, [.slot 8, .slot 9], ir42) := by kernel_rfl
noncomputable def f42 (l_1148 : (List ApiFixture)) (profiles_1149 : (List ApiProfile)) (from_1150 : ApiFixture) (to_1151 : ApiFixture) : Option ((List ApiFixture) × Int) :=
  (f17 l_1148 profiles_1149).bind fun r_1153 => (if (decide (r_1153 ≠ 0)) = true then (some ([], r_1153)) else (f35 l_1148 from_1150.fChannel from_1150.fPart).bind fun r_1154 => (if (decide (r_1154 < 0)) = true then (some ([], 6)) else (at? l_1148 r_1154).bind fun x_1155 => ((f42_J1 l_1148 x_1155 to_1151 profiles_1149).run ())))
theorem f42_ok {l_1148 : (List ApiFixture)} {profiles_1149 : (List ApiProfile)} {from_1150 : ApiFixture} {to_1151 : ApiFixture} {r_ : (List ApiFixture) × Int} (H : f42 l_1148 profiles_1149 from_1150 to_1151 = some r_) : Pure Try.prog 42 [.sl 7 false (l_1148.map eApiFixture), .sl 4 false (profiles_1149.map eApiProfile), .agg [.int .i64 from_1150.fChannel, .int .i64 from_1150.fPart, .str from_1150.fProfile, .int .i64 from_1150.fUniverse, .int .i64 from_1150.fAddress, .int .i64 from_1150.fPhase, .str from_1150.fCable], .agg [.int .i64 to_1151.fChannel, .int .i64 to_1151.fPart, .str to_1151.fProfile, .int .i64 to_1151.fUniverse, .int .i64 to_1151.fAddress, .int .i64 to_1151.fPhase, .str to_1151.fCable]] (· = .tup [.sl 7 false (r_.1.map eApiFixture), .int .i64 r_.2]) := by
 refine Pure.walk3 fd42 none (Nat.le_of_ble_eq_true rfl) (by rfl) fun Q hQ => ?_
 simp only [f42] at H
 refine AW.rseq ?_
 try simp only [wm, ↓wk, ↓wl, nq, evV, ↓reduceIte, sevalprocAttr]
 refine AW.sseq ?_
 refine AW.rseq ?_
 try simp only [wm, ↓wk, ↓wl, nq, evV, ↓reduceIte, sevalprocAttr]
 refine evTs_pure hFn H (fun _ h => f17_ok h) (by rfl) (by rfl) (by rfl) (by rfl) (fun _ => rfl) ?_ <;> clear H <;> intro r_1153 H
 try simp only [eL, wm, ↓wk, ↓wl, nq, evV, ↓reduceIte, sevalprocAttr]
 refine AW.rseq ?_
 try simp only [wm, ↓wk, ↓wl, nq, evV, ↓reduceIte, sevalprocAttr]
 refine AW.ifc H (by rfl) ?_ ?_ <;> clear H <;> intro H
 ·refine AW.rseq ?_
  try simp only [wm, ↓wk, ↓wl, nq, evV, ↓reduceIte, sevalprocAttr]
  refine AW.ret ?_
  refine seqQ.ret ?_
  cases H
  exact hQ _ _ _ _ (.inr rfl) (by simp only [resVs, omap, resV, wm, ↓wk, ↓wl, nq, evV, ↓reduceIte, sevalprocAttr]; rfl) (hand_plain (by rfl)) (by first | exact Or.inl rfl | exact Or.inr rfl)
 ·refine AW.skip ?_
  refine seqQ.norm ?_
  refine AW.rseq ?_
  try simp only [wm, ↓wk, ↓wl, nq, evV, ↓reduceIte, sevalprocAttr]
  refine evTs_pure hFn H (fun _ h => f35_ok h) (by rfl) (by rfl) (by rfl) (by rfl) (fun _ => rfl) ?_ <;> clear H <;> intro r_1154 H
  try simp only [eL, wm, ↓wk, ↓wl, nq, evV, ↓reduceIte, sevalprocAttr]
  refine AW.sseq ?_
  refine AW.rseq ?_
  try simp only [wm, ↓wk, ↓wl, nq, evV, ↓reduceIte, sevalprocAttr]
  refine AW.ifc H (by rfl) ?_ ?_ <;> clear H <;> intro H
  ·refine AW.rseq ?_
   try simp only [wm, ↓wk, ↓wl, nq, evV, ↓reduceIte, sevalprocAttr]
   refine AW.ret ?_
   refine seqQ.ret ?_
   cases H
   exact hQ _ _ _ _ (.inr rfl) (by simp only [resVs, omap, resV, wm, ↓wk, ↓wl, nq, evV, ↓reduceIte, sevalprocAttr]; rfl) (hand_plain (by rfl)) (by first | exact Or.inl rfl | exact Or.inr rfl)
  ·refine AW.skip ?_
   refine seqQ.norm ?_
   refine AW.rseq ?_
   try simp only [wm, ↓wk, ↓wl, nq, evV, ↓reduceIte, sevalprocAttr]
   refine evTs_at (enc := eApiFixture) H (by rfl) (by rfl) ?_ <;> clear H <;> intro x_1155 H
   try simp only [eApiFixture, eL, eM, wm, ↓wk, ↓wl, nq, evV, ↓reduceIte, sevalprocAttr]
   refine AW.join (f42_J1 l_1148 x_1155 to_1151 profiles_1149) H ?_ fun hf42_J1 => ?_
   ·clear H
    rintro _ st0_ H hst_
    rw [f42_J1c] at hst_
    simp only [f42_J1] at H
    subst hst_
    refine AW.rseq ?_
    try simp only [wm, ↓wk, ↓wl, nq, evV, ↓reduceIte, sevalprocAttr]
    refine evTs_pure hFn H (fun _ h => f66_im h) (by rfl) (by rfl) (by rfl) (by rfl) (fun _ => rfl) ?_ <;> clear H <;> intro r_1156 H
    try simp only [eL, wm, ↓wk, ↓wl, nq, evV, ↓reduceIte, sevalprocAttr]
    refine evTs_pure hFn H (fun _ h => f65_ok h) (by rfl) (by rfl) (by rfl) (by rfl) (fun _ => rfl) ?_ <;> clear H <;> intro r_1157 H
    try simp only [eL, wm, ↓wk, ↓wl, nq, evV, ↓reduceIte, sevalprocAttr]
    refine AW.ret ?_
    cases H
    exact hQ _ _ _ _ (.inr rfl) (by simp only [resVs, omap, resV, wm, ↓wk, ↓wl, nq, evV, ↓reduceIte, sevalprocAttr]; rfl) (hand_plain (by rfl)) (by first | exact Or.inl rfl | exact Or.inr rfl)
   ·refine AW.regt ?_
    refine evR.fork ?_
    try simp only [wm, ↓wk, ↓wl, nq, evV, ↓reduceIte, sevalprocAttr]
    refine evR.both ?_ ?_
    ·refine evR.run ?_
     try simp only [wm, ↓wk, ↓wl, nq, evV, ↓reduceIte, sevalprocAttr]
     refine seqQ.norm ?_
     exact hf42_J1 _ _ H ((Le.tz [2] [0, 1, 12] (by simp only [f42_J1c, wm, wmr, rrm, ↓wk, ↓wl, evV, ↓reduceIte, sevalprocAttr] <;> rfl)))
    ·refine evR.run ?_
     try simp only [wm, ↓wk, ↓wl, nq, evV, ↓reduceIte, sevalprocAttr]
     refine seqQ.norm ?_
     exact hf42_J1 _ _ H ((Le.tz [2] [0, 1, 12] (by simp only [f42_J1c, wm, wmr, rrm, ↓wk, ↓wl, evV, ↓reduceIte, sevalprocAttr] <;> rfl)))
def c9_0 : C := .cond (.t 20) (.seq (.reg [iI 21 (.call (.c (.fn 11 [])) []), iI 6 (.mv (.t 21))]) .ret) (.skip)
def c9_1 : C := .cond (.t 86) (.seq (.reg [iI 6 (.mv (.c (.bool false)))]) .ret) (.skip)
def c9_2 : C := .seq (.reg [iI 103 (.mv (.t 7)), iI 104 (.mv (.t 9)), iI 105 (.call (.c (.fn 18 [])) [(.t 103), (.t 104)]), iI 106 (.mv (.t 105)), iG (some 107) 106 true (.mv (.t 8)), iG (some 108) 106 true (.mv (.t 10)), iG (some 109) 106 true (.bin .eql (.t 107) (.t 108)), iI 110 (.pick (.t 106) (.t 109) (.c (.bool false))), iI 6 (.mv (.t 110))]) .ret
def c9_3 : C := .seq (.reg [iI 96 (.mv (.t 0)), iI 97 (.mv (.t 1)), iI 98 (.load 7 (.t 5)), iI 99 (.load 7 (.t 5)), iI 100 (.call (.c (.fn 42 [])) [(.t 96), (.t 97), (.t 98), (.t 99)]), iI 95 (.mv (.t 100)), iI 101 (.ext (.t 95) 0), iI 102 (.ext (.t 95) 1), iI 9 (.mv (.t 101)), iI 10 (.mv (.t 102))]) c9_2
def c9_4 : C := .seq (.reg [iI 88 (.mv (.t 0)), iI 89 (.mv (.t 1)), iI 90 (.load 7 (.t 5)), iI 91 (.load 7 (.t 5)), iI 92 (.call (.c (.fn 41 [])) [(.t 88), (.t 89), (.t 90), (.t 91)]), iI 87 (.mv (.t 92)), iI 93 (.ext (.t 87) 0), iI 94 (.ext (.t 87) 1), iI 7 (.mv (.t 93)), iI 8 (.mv (.t 94))]) c9_3
def c9_5 : C := .seq (.seq (.reg [iI 58 (.call (.c (.fn 11 [])) []), iI 59 (.un .not (.t 58)), iI 60 (.mv (.t 59)), iG (some 61) 60 false (.mv (.t 7)), iG (some 62) 60 false (.mv (.t 9)), iG (some 63) 60 false (.call (.c (.fn 18 [])) [(.t 61), (.t 62)]), iG (some 64) 60 false (.un .not (.t 63)), iI 65 (.pick (.t 60) (.c (.bool true)) (.t 64)), iI 66 (.mv (.t 65)), iG (some 67) 66 false (.mv (.t 8)), iG (some 68) 66 false (.mv (.t 10)), iG (some 69) 66 false (.bin .neq (.t 67) (.t 68)), iI 70 (.pick (.t 66) (.c (.bool true)) (.t 69)), iI 71 (.mv (.t 70)), iG (some 72) 71 false (.mv (.t 11)), iG (some 73) 71 false (.mv (.t 14)), iG (some 74) 71 false (.call (.c (.fn 18 [])) [(.t 72), (.t 73)]), iG (some 75) 71 false (.un .not (.t 74)), iI 76 (.pick (.t 71) (.c (.bool true)) (.t 75)), iI 77 (.mv (.t 76)), iG (some 78) 77 false (.mv (.t 12)), iG (some 79) 77 false (.mv (.t 15)), iG (some 80) 77 false (.binb .neq (.t 78) (.t 79)), iI 81 (.pick (.t 77) (.c (.bool true)) (.t 80)), iI 82 (.mv (.t 81)), iG (some 83) 82 false (.mv (.t 13)), iG (some 84) 82 false (.mv (.t 16)), iG (some 85) 82 false (.bin .neq (.t 83) (.t 84)), iI 86 (.pick (.t 82) (.c (.bool true)) (.t 85))]) c9_1) c9_4
def c9_6 : C := .seq (.reg [iI 48 (.mv (.t 0)), iI 49 (.mv (.t 1)), iI 50 (.faddr 0 (.t 5)), iI 51 (.load 0 (.t 50)), iI 52 (.faddr 1 (.t 5)), iI 53 (.load 0 (.t 52)), iI 54 (.call (.c (.fn 40 [])) [(.t 48), (.t 49), (.t 51), (.t 53)]), iI 47 (.mv (.t 54)), iI 55 (.ext (.t 47) 0), iI 56 (.ext (.t 47) 1), iI 57 (.ext (.t 47) 2), iI 14 (.mv (.t 55)), iI 15 (.mv (.t 56)), iI 16 (.mv (.t 57))]) c9_5
def c9_7 : C := .seq (.reg [iI 37 (.mv (.t 0)), iI 38 (.mv (.t 1)), iI 39 (.faddr 0 (.t 5)), iI 40 (.load 0 (.t 39)), iI 41 (.faddr 1 (.t 5)), iI 42 (.load 0 (.t 41)), iI 43 (.call (.c (.fn 37 [])) [(.t 37), (.t 38), (.t 40), (.t 42)]), iI 36 (.mv (.t 43)), iI 44 (.ext (.t 36) 0), iI 45 (.ext (.t 36) 1), iI 46 (.ext (.t 36) 2), iI 11 (.mv (.t 44)), iI 12 (.mv (.t 45)), iI 13 (.mv (.t 46))]) c9_6
def c9_8 : C := .seq (.reg [iI 30 (.mv (.t 0)), iI 31 (.mv (.t 1)), iI 32 (.load 7 (.t 5)), iI 33 (.call (.c (.fn 39 [])) [(.t 30), (.t 31), (.t 32)]), iI 29 (.mv (.t 33)), iI 34 (.ext (.t 29) 0), iI 35 (.ext (.t 29) 1), iI 9 (.mv (.t 34)), iI 10 (.mv (.t 35))]) c9_7
def c9_9 : C := .seq (.reg [iI 23 (.mv (.t 0)), iI 24 (.mv (.t 1)), iI 25 (.load 7 (.t 5)), iI 26 (.call (.c (.fn 36 [])) [(.t 23), (.t 24), (.t 25)]), iI 22 (.mv (.t 26)), iI 27 (.ext (.t 22) 0), iI 28 (.ext (.t 22) 1), iI 7 (.mv (.t 27)), iI 8 (.mv (.t 28))]) c9_8
def c9_10 : C := .seq (.seq (.reg [iI 17 (.mv (.t 0)), iI 18 (.mv (.t 1)), iI 19 (.call (.c (.fn 10 [])) [(.t 17), (.t 18)]), iI 20 (.un .not (.t 19))]) c9_0) c9_9
def ir9 : C := .seq (.reg [iI 5 (.box (.t 2)), iI 6 (.mv (.c (.bool false)))]) c9_10
theorem fd9 : fd? Try.prog 9 = some (111, [.slot 6], ir9) := by kernel_rfl
noncomputable def f9 (l_824 : (List ApiFixture)) (profiles_825 : (List ApiProfile)) (x_826 : ApiFixture) : Option (Bool) :=
  (f10 l_824 profiles_825).bind fun r_829 => (if (!r_829) = true then (f11).bind fun r_830 => (some r_830) else (f36 l_824 profiles_825 x_826).bind fun r_877 => (f39 l_824 profiles_825 x_826).bind fun r_963 => (f37 l_824 profiles_825 x_826.fChannel x_826.fPart).bind fun r_991 => (f40 l_824 profiles_825 x_826.fChannel x_826.fPart).bind fun r_1084 => (f11).bind fun r_1088 => (if (!r_1088) = true then (some false) else (f18 r_877.1 r_963.1).bind fun r_1089 => (if (!r_1089) = true then (some false) else (if (decide (r_877.2 ≠ r_963.2)) = true then (some false) else (f18 r_991.1 r_1084.1).bind fun r_1090 => (if (!r_1090) = true then (some false) else (if (!(r_991.2.1 == r_1084.2.1)) = true then (some false) else (if (decide (r_991.2.2 ≠ r_1084.2.2)) = true then (some false) else (f41 l_824 profiles_825 x_826 x_826).bind fun r_1137 => (f42 l_824 profiles_825 x_826 x_826).bind fun r_1158 => (f18 r_1137.1 r_1158.1).bind fun r_1159 => (if r_1159 = true then (some (decide (r_1137.2 = r_1158.2))) else (some false)))))))))
theorem f9_ok {l_824 : (List ApiFixture)} {profiles_825 : (List ApiProfile)} {x_826 : ApiFixture} {r_ : Bool} (H : f9 l_824 profiles_825 x_826 = some r_) : Pure Try.prog 9 [.sl 7 false (l_824.map eApiFixture), .sl 4 false (profiles_825.map eApiProfile), .agg [.int .i64 x_826.fChannel, .int .i64 x_826.fPart, .str x_826.fProfile, .int .i64 x_826.fUniverse, .int .i64 x_826.fAddress, .int .i64 x_826.fPhase, .str x_826.fCable]] (· = .bool r_) := by
 refine Pure.walk3 fd9 none (Nat.le_of_ble_eq_true rfl) (by rfl) fun Q hQ => ?_
 simp only [f9] at H
 refine AW.rseq ?_
 try simp only [wm, ↓wk, ↓wl, nq, evV, ↓reduceIte, sevalprocAttr]
 refine AW.sseq ?_
 refine AW.rseq ?_
 try simp only [wm, ↓wk, ↓wl, nq, evV, ↓reduceIte, sevalprocAttr]
 refine evTs_pure hFn H (fun _ h => f10_ok h) (by rfl) (by rfl) (by rfl) (by rfl) (fun _ => rfl) ?_ <;> clear H <;> intro r_829 H
 try simp only [eL, wm, ↓wk, ↓wl, nq, evV, ↓reduceIte, sevalprocAttr]
 refine AW.ifc H (by rfl) ?_ ?_ <;> clear H <;> intro H
 ·refine AW.rseq ?_
  try simp only [wm, ↓wk, ↓wl, nq, evV, ↓reduceIte, sevalprocAttr]
  refine evTs_pure hFn H (fun _ h => f11_ok h) (by rfl) (by rfl) (by rfl) (by rfl) (fun _ => rfl) ?_ <;> clear H <;> intro r_830 H
  try simp only [eL, wm, ↓wk, ↓wl, nq, evV, ↓reduceIte, sevalprocAttr]
  refine AW.ret ?_
  refine seqQ.ret ?_
  cases H
  exact hQ _ _ _ _ (.inr rfl) (by simp only [resVs, omap, resV, wm, ↓wk, ↓wl, nq, evV, ↓reduceIte, sevalprocAttr]; rfl) (hand_plain (by rfl)) (by first | exact Or.inl rfl | exact Or.inr rfl)
 ·refine AW.skip ?_
  refine seqQ.norm ?_
  refine AW.rseq ?_
  try simp only [wm, ↓wk, ↓wl, nq, evV, ↓reduceIte, sevalprocAttr]
  refine evTs_pure hFn H (fun _ h => f36_ok h) (by rfl) (by rfl) (by rfl) (by rfl) (fun _ => rfl) ?_ <;> clear H <;> intro r_877 H
  try simp only [eL, wm, ↓wk, ↓wl, nq, evV, ↓reduceIte, sevalprocAttr]
  refine AW.rseq ?_
  try simp only [wm, ↓wk, ↓wl, nq, evV, ↓reduceIte, sevalprocAttr]
  refine evTs_pure hFn H (fun _ h => f39_ok h) (by rfl) (by rfl) (by rfl) (by rfl) (fun _ => rfl) ?_ <;> clear H <;> intro r_963 H
  try simp only [eL, wm, ↓wk, ↓wl, nq, evV, ↓reduceIte, sevalprocAttr]
  refine AW.rseq ?_
  try simp only [wm, ↓wk, ↓wl, nq, evV, ↓reduceIte, sevalprocAttr]
  refine evTs_pure hFn H (fun _ h => f37_im h) (by rfl) (by rfl) (by rfl) (by rfl) (fun _ => rfl) ?_ <;> clear H <;> intro r_991 H
  try simp only [eL, wm, ↓wk, ↓wl, nq, evV, ↓reduceIte, sevalprocAttr]
  refine AW.rseq ?_
  try simp only [wm, ↓wk, ↓wl, nq, evV, ↓reduceIte, sevalprocAttr]
  refine evTs_pure hFn H (fun _ h => f40_im h) (by rfl) (by rfl) (by rfl) (by rfl) (fun _ => rfl) ?_ <;> clear H <;> intro r_1084 H
  try simp only [eL, wm, ↓wk, ↓wl, nq, evV, ↓reduceIte, sevalprocAttr]
  refine AW.sseq ?_
  refine AW.rseq ?_
  try simp only [wm, ↓wk, ↓wl, nq, evV, ↓reduceIte, sevalprocAttr]
  refine evTs_pure hFn H (fun _ h => f11_ok h) (by rfl) (by rfl) (by rfl) (by rfl) (fun _ => rfl) ?_ <;> clear H <;> intro r_1088 H
  try simp only [eL, wm, ↓wk, ↓wl, nq, evV, ↓reduceIte, sevalprocAttr]
  refine evTs_ifg H (by rfl) ?_ ?_ <;> clear H <;> intro H
  ·try simp only [wm, ↓wk, ↓wl, nq, evV, ↓reduceIte, sevalprocAttr]
   refine AW.ift (by rfl) ?_
   refine AW.rseq ?_
   try simp only [wm, ↓wk, ↓wl, nq, evV, ↓reduceIte, sevalprocAttr]
   refine AW.ret ?_
   refine seqQ.ret ?_
   cases H
   exact hQ _ _ _ _ (.inr rfl) (by simp only [resVs, omap, resV, wm, ↓wk, ↓wl, nq, evV, ↓reduceIte, sevalprocAttr]; rfl) (hand_plain (by rfl)) (by first | exact Or.inl rfl | exact Or.inr rfl)
  ·try simp only [wm, ↓wk, ↓wl, nq, evV, ↓reduceIte, sevalprocAttr]
   refine evTs_pure hFn H (fun _ h => f18_ok h) (by rfl) (by rfl) (by rfl) (by rfl) (fun _ => rfl) ?_ <;> clear H <;> intro r_1089 H
   try simp only [eL, wm, ↓wk, ↓wl, nq, evV, ↓reduceIte, sevalprocAttr]
   refine evTs_ifg H (by rfl) ?_ ?_ <;> clear H <;> intro H
   ·try simp only [wm, ↓wk, ↓wl, nq, evV, ↓reduceIte, sevalprocAttr]
    refine AW.ift (by rfl) ?_
    refine AW.rseq ?_
    try simp only [wm, ↓wk, ↓wl, nq, evV, ↓reduceIte, sevalprocAttr]
    refine AW.ret ?_
    refine seqQ.ret ?_
    cases H
    exact hQ _ _ _ _ (.inr rfl) (by simp only [resVs, omap, resV, wm, ↓wk, ↓wl, nq, evV, ↓reduceIte, sevalprocAttr]; rfl) (hand_plain (by rfl)) (by first | exact Or.inl rfl | exact Or.inr rfl)
   ·try simp only [wm, ↓wk, ↓wl, nq, evV, ↓reduceIte, sevalprocAttr]
    refine evTs_ifg H (by rfl) ?_ ?_ <;> clear H <;> intro H
    ·try simp only [wm, ↓wk, ↓wl, nq, evV, ↓reduceIte, sevalprocAttr]
     refine AW.ift (by rfl) ?_
     refine AW.rseq ?_
     try simp only [wm, ↓wk, ↓wl, nq, evV, ↓reduceIte, sevalprocAttr]
     refine AW.ret ?_
     refine seqQ.ret ?_
     cases H
     exact hQ _ _ _ _ (.inr rfl) (by simp only [resVs, omap, resV, wm, ↓wk, ↓wl, nq, evV, ↓reduceIte, sevalprocAttr]; rfl) (hand_plain (by rfl)) (by first | exact Or.inl rfl | exact Or.inr rfl)
    ·try simp only [wm, ↓wk, ↓wl, nq, evV, ↓reduceIte, sevalprocAttr]
     refine evTs_pure hFn H (fun _ h => f18_ok h) (by rfl) (by rfl) (by rfl) (by rfl) (fun _ => rfl) ?_ <;> clear H <;> intro r_1090 H
     try simp only [eL, wm, ↓wk, ↓wl, nq, evV, ↓reduceIte, sevalprocAttr]
     refine evTs_ifg H (by rfl) ?_ ?_ <;> clear H <;> intro H
     ·try simp only [wm, ↓wk, ↓wl, nq, evV, ↓reduceIte, sevalprocAttr]
      refine AW.ift (by rfl) ?_
      refine AW.rseq ?_
      try simp only [wm, ↓wk, ↓wl, nq, evV, ↓reduceIte, sevalprocAttr]
      refine AW.ret ?_
      refine seqQ.ret ?_
      cases H
      exact hQ _ _ _ _ (.inr rfl) (by simp only [resVs, omap, resV, wm, ↓wk, ↓wl, nq, evV, ↓reduceIte, sevalprocAttr]; rfl) (hand_plain (by rfl)) (by first | exact Or.inl rfl | exact Or.inr rfl)
     ·try simp only [wm, ↓wk, ↓wl, nq, evV, ↓reduceIte, sevalprocAttr]
      refine evTs_ifg H (by rfl) ?_ ?_ <;> clear H <;> intro H
      ·try simp only [wm, ↓wk, ↓wl, nq, evV, ↓reduceIte, sevalprocAttr]
       refine AW.ift (by rfl) ?_
       refine AW.rseq ?_
       try simp only [wm, ↓wk, ↓wl, nq, evV, ↓reduceIte, sevalprocAttr]
       refine AW.ret ?_
       refine seqQ.ret ?_
       cases H
       exact hQ _ _ _ _ (.inr rfl) (by simp only [resVs, omap, resV, wm, ↓wk, ↓wl, nq, evV, ↓reduceIte, sevalprocAttr]; rfl) (hand_plain (by rfl)) (by first | exact Or.inl rfl | exact Or.inr rfl)
      ·try simp only [wm, ↓wk, ↓wl, nq, evV, ↓reduceIte, sevalprocAttr]
       refine AW.ifc H (by rfl) ?_ ?_ <;> clear H <;> intro H
       ·refine AW.rseq ?_
        try simp only [wm, ↓wk, ↓wl, nq, evV, ↓reduceIte, sevalprocAttr]
        refine AW.ret ?_
        refine seqQ.ret ?_
        cases H
        exact hQ _ _ _ _ (.inr rfl) (by simp only [resVs, omap, resV, wm, ↓wk, ↓wl, nq, evV, ↓reduceIte, sevalprocAttr]; rfl) (hand_plain (by rfl)) (by first | exact Or.inl rfl | exact Or.inr rfl)
       ·refine AW.skip ?_
        refine seqQ.norm ?_
        refine AW.rseq ?_
        try simp only [wm, ↓wk, ↓wl, nq, evV, ↓reduceIte, sevalprocAttr]
        refine evTs_pure hFn H (fun _ h => f41_ok h) (by rfl) (by rfl) (by rfl) (by rfl) (fun _ => rfl) ?_ <;> clear H <;> intro r_1137 H
        try simp only [eL, wm, ↓wk, ↓wl, nq, evV, ↓reduceIte, sevalprocAttr]
        refine AW.rseq ?_
        try simp only [wm, ↓wk, ↓wl, nq, evV, ↓reduceIte, sevalprocAttr]
        refine evTs_pure hFn H (fun _ h => f42_ok h) (by rfl) (by rfl) (by rfl) (by rfl) (fun _ => rfl) ?_ <;> clear H <;> intro r_1158 H
        try simp only [eL, wm, ↓wk, ↓wl, nq, evV, ↓reduceIte, sevalprocAttr]
        refine AW.rseq ?_
        try simp only [wm, ↓wk, ↓wl, nq, evV, ↓reduceIte, sevalprocAttr]
        refine evTs_pure hFn H (fun _ h => f18_ok h) (by rfl) (by rfl) (by rfl) (by rfl) (fun _ => rfl) ?_ <;> clear H <;> intro r_1159 H
        try simp only [eL, wm, ↓wk, ↓wl, nq, evV, ↓reduceIte, sevalprocAttr]
        refine evTs_ifg H (by rfl) ?_ ?_ <;> clear H <;> intro H
        ·try simp only [wm, ↓wk, ↓wl, nq, evV, ↓reduceIte, sevalprocAttr]
         refine AW.ret ?_
         cases H
         exact hQ _ _ _ _ (.inr rfl) (by simp only [resVs, omap, resV, wm, ↓wk, ↓wl, nq, evV, ↓reduceIte, sevalprocAttr]; rfl) (hand_plain (by rfl)) (by first | exact Or.inl rfl | exact Or.inr rfl)
        ·try simp only [wm, ↓wk, ↓wl, nq, evV, ↓reduceIte, sevalprocAttr]
         refine AW.ret ?_
         cases H
         exact hQ _ _ _ _ (.inr rfl) (by simp only [resVs, omap, resV, wm, ↓wk, ↓wl, nq, evV, ↓reduceIte, sevalprocAttr]; rfl) (hand_plain (by rfl)) (by first | exact Or.inl rfl | exact Or.inr rfl)
end Go.Proofs.Ythikbfhdebaceaa
