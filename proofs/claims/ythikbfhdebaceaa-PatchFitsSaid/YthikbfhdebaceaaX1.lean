import Derived.Test.YthikbfhdebaceaaShelf8
import Derived.Test.YthikbfhdebaceaaM5
import Derived.Test.YthikbfhdebaceaaM7
import Derived.Test.YthikbfhdebaceaaM6
import Derived.Test.YthikbfhdebaceaaProg
import Derived.KernelRfl
namespace Go.Proofs.Ythikbfhdebaceaa
open Go Go.Ab

set_option maxHeartbeats 1000000
set_option maxRecDepth 4000
set_option linter.unusedSimpArgs false
set_option linter.unusedVariables false
structure ApiSlot where
  fName : (List UInt8)
  fFrom : Int
  fTo : Int
def eApiSlot (x : ApiSlot) : AV := .agg [.str x.fName, .int .i64 x.fFrom, .int .i64 x.fTo]
instance : IsFlat eApiSlot := ⟨fun _ => rfl⟩
instance : IsEnc 3 eApiSlot := ⟨fun _ => rfl, fun _ => rfl, fun _ => rfl⟩
structure ApiFeature where
  fAttr : Int
  fBits : Int
  fCoarse : Int
  fFine : Int
  fCurve : Int
  fHome : Int
  fLow : Int
  fHigh : Int
  fSnap : Bool
  fWheel : (List ApiSlot)
def eApiFeature (x : ApiFeature) : AV := .agg [.int .i64 x.fAttr, .int .i64 x.fBits, .int .i64 x.fCoarse, .int .i64 x.fFine, .int .i64 x.fCurve, .int .i64 x.fHome, .int .i64 x.fLow, .int .i64 x.fHigh, .bool x.fSnap, .sl 3 false (x.fWheel.map eApiSlot)]
instance : IsEnc 10 eApiFeature := ⟨fun _ => rfl, fun _ => rfl, fun _ => rfl⟩
structure ApiProfile where
  fName : (List UInt8)
  fFootprint : Int
  fWatts : Int
  fFeatures : (List ApiFeature)
def eApiProfile (x : ApiProfile) : AV := .agg [.str x.fName, .int .i64 x.fFootprint, .int .i64 x.fWatts, .sl 10 false (x.fFeatures.map eApiFeature)]
instance : IsEnc 4 eApiProfile := ⟨fun _ => rfl, fun _ => rfl, fun _ => rfl⟩
structure ApiFixture where
  fChannel : Int
  fPart : Int
  fProfile : (List UInt8)
  fUniverse : Int
  fAddress : Int
  fPhase : Int
  fCable : (List UInt8)
def eApiFixture (x : ApiFixture) : AV := .agg [.int .i64 x.fChannel, .int .i64 x.fPart, .str x.fProfile, .int .i64 x.fUniverse, .int .i64 x.fAddress, .int .i64 x.fPhase, .str x.fCable]
instance : IsFlat eApiFixture := ⟨fun _ => rfl⟩
instance : IsEnc 7 eApiFixture := ⟨fun _ => rfl, fun _ => rfl, fun _ => rfl⟩
structure PatchRig where
  fFixtures : (List ApiFixture)
  fProfiles : (List ((List UInt8) × ApiProfile))
def ePatchRig (x : PatchRig) : AV := .agg [.sl 7 false (x.fFixtures.map eApiFixture), .mp (mk AV.str x.fProfiles) (mv eApiProfile x.fProfiles)]
instance : IsEnc 2 ePatchRig := ⟨fun _ => rfl, fun _ => rfl, fun _ => rfl⟩
structure Arr2_149 where
  fE0 : Int
  fE1 : Int
def eArr2_149 (x : Arr2_149) : AV := .agg [.int .i64 x.fE0, .int .i64 x.fE1]
instance : IsFlat eArr2_149 := ⟨fun _ => rfl⟩
instance : IsEnc 2 eArr2_149 := ⟨fun _ => rfl, fun _ => rfl, fun _ => rfl⟩
structure ApiParam where
  fChannel : Int
  fAttr : Int
def eApiParam (x : ApiParam) : AV := .agg [.int .i64 x.fChannel, .int .i64 x.fAttr]
instance : IsFlat eApiParam := ⟨fun _ => rfl⟩
instance : IsEnc 2 eApiParam := ⟨fun _ => rfl, fun _ => rfl, fun _ => rfl⟩
def c43_0 : C := .seq (.reg [iI 3 (.load 10 (.t 1)), iI 4 (.mksl 10 1 (.agg [(.int .i64 0), (.int .i64 0), (.int .i64 0), (.int .i64 0), (.int .i64 0), (.int .i64 0), (.int .i64 0), (.int .i64 0), (.bool false), (.sl 3 true [])]) [(0, (.t 3))]), iI 5 (.build [(1, (.str [])), (1, (.int .i64 0)), (1, (.int .i64 0)), (1, (.sl 10 true []))] [(0, 0, (.c (.str [112, 97, 114]))), (1, 0, (.c (.int .i64 1))), (3, 0, (.t 4))]), iI 6 (.load 10 (.t 1)), iI 7 (.build [(1, (.int .i64 0)), (1, (.int .i64 0)), (1, (.int .i64 0)), (1, (.int .i64 0)), (1, (.int .i64 0)), (1, (.int .i64 0)), (1, (.int .i64 0)), (1, (.int .i64 0)), (1, (.bool false)), (1, (.sl 3 true []))] [(0, 0, (.c (.int .i64 1))), (1, 0, (.c (.int .i64 8))), (2, 0, (.c (.int .i64 2))), (7, 0, (.c (.int .i64 255)))]), iI 8 (.mksl 10 2 (.agg [(.int .i64 0), (.int .i64 0), (.int .i64 0), (.int .i64 0), (.int .i64 0), (.int .i64 0), (.int .i64 0), (.int .i64 0), (.bool false), (.sl 3 true [])]) [(0, (.t 6)), (1, (.t 7))]), iI 9 (.build [(1, (.str [])), (1, (.int .i64 0)), (1, (.int .i64 0)), (1, (.sl 10 true []))] [(0, 0, (.c (.str [115, 112, 111, 116]))), (1, 0, (.c (.int .i64 6))), (3, 0, (.t 8))]), iI 10 (.mksl 4 2 (.agg [(.str []), (.int .i64 0), (.int .i64 0), (.sl 10 true [])]) [(0, (.t 5)), (1, (.t 9))]), iI 0 (.mv (.t 10))]) .ret
def c43_1 : C := .seq (.reg [iI 2 (.build [(1, (.int .i64 0)), (1, (.int .i64 0)), (1, (.int .i64 0)), (1, (.int .i64 0)), (1, (.int .i64 0)), (1, (.int .i64 0)), (1, (.int .i64 0)), (1, (.int .i64 0)), (1, (.bool false)), (1, (.sl 3 true []))] [(0, 0, (.c (.int .i64 0))), (1, 0, (.c (.int .i64 8))), (7, 0, (.c (.int .i64 255)))]), iI 1 (.alloc [(1, (.int .i64 0)), (1, (.int .i64 0)), (1, (.int .i64 0)), (1, (.int .i64 0)), (1, (.int .i64 0)), (1, (.int .i64 0)), (1, (.int .i64 0)), (1, (.int .i64 0)), (1, (.bool false)), (1, (.sl 3 true []))]), iN (.store 10 (.t 1) (.t 2))]) c43_0
def ir43 : C := .seq (.reg [iI 0 (.mv (.c (.sl 4 true [])))]) c43_1
theorem fd43 : fd? Try.prog 43 = some (11, [.slot 0], ir43) := by kernel_rfl
noncomputable def f43 : Option ((List ApiProfile)) :=
  (some [(ApiProfile.mk ([112, 97, 114]) 1 0 ([(ApiFeature.mk 0 8 0 0 0 0 0 255 false ([]))])), (ApiProfile.mk ([115, 112, 111, 116]) 6 0 ([(ApiFeature.mk 0 8 0 0 0 0 0 255 false ([])), (ApiFeature.mk 1 8 2 0 0 0 0 255 false ([]))]))])
theorem f43_ok {r_ : (List ApiProfile)} (H : f43 = some r_) : Pure Try.prog 43 [] (· = .sl 4 false (r_.map eApiProfile)) := by
 refine Pure.walk3 fd43 none (Nat.le_of_ble_eq_true rfl) (by rfl) fun Q hQ => ?_
 simp only [f43] at H
 refine AW.rseq ?_
 try simp only [wm, ↓wk, ↓wl, nq, evV, ↓reduceIte, sevalprocAttr]
 refine AW.rseq ?_
 try simp only [wm, ↓wk, ↓wl, nq, evV, ↓reduceIte, sevalprocAttr]
 refine AW.rseq ?_
 try simp only [wm, ↓wk, ↓wl, nq, evV, ↓reduceIte, sevalprocAttr]
 refine AW.ret ?_
 cases H
 exact hQ _ _ _ _ (.inr rfl) (by simp only [resVs, omap, resV, wm, ↓wk, ↓wl, nq, evV, ↓reduceIte, sevalprocAttr]; rfl) (hand_plain (by rfl)) (by first | exact Or.inl rfl | exact Or.inr rfl)
noncomputable def f50_L1 (profiles_5 : (List ApiProfile)) (l_4 : (List ApiFixture)) : Lp (Int × (List ((List UInt8) × ApiProfile))) ((List ((List UInt8) × ApiProfile))) where
  body := fun (v_14, r_15) => (if (decide (v_14 < ((profiles_5.length : Nat) : Int))) = true then (at? profiles_5 v_14).bind fun x_20 => (look? (r_15 : (List ((List UInt8) × ApiProfile))) x_20.fName ((ApiProfile.mk ([]) 0 0 ([])) : ApiProfile) fun m_21 ok_22 => (if (!ok_22) = true then (some (.next ((IntKind.i64.wrap (v_14 + 1)), (mset (r_15 : (List ((List UInt8) × ApiProfile))) x_20.fName x_20)))) else (some (.next ((IntKind.i64.wrap (v_14 + 1)), r_15))))) else (some (.brk r_15)))
  cst := fun (v_14, r_15) => ⟨put (put (put (put (put (fun _ => .junk) 15 (.int .i64 v_14)) 14 (.int .i64 ((profiles_5.length : Nat) : Int))) 13 (.sl 4 false (profiles_5.map eApiProfile))) 5 (.ptr 1 0)) 4 (.ptr 0 0), [.cel [.sl 7 true [], .nilmp], .cel [.sl 7 false (l_4.map eApiFixture), .mref 2], .map (mk AV.str r_15) (mv eApiProfile r_15)]⟩
theorem f50_L1c (profiles_5 : (List ApiProfile)) (l_4 : (List ApiFixture)) (v_14 : Int) (r_15 : (List ((List UInt8) × ApiProfile))) : (f50_L1 profiles_5 l_4).cst (v_14, r_15) = ⟨put (put (put (put (put (fun _ => .junk) 15 (.int .i64 v_14)) 14 (.int .i64 ((profiles_5.length : Nat) : Int))) 13 (.sl 4 false (profiles_5.map eApiProfile))) 5 (.ptr 1 0)) 4 (.ptr 0 0), [.cel [.sl 7 true [], .nilmp], .cel [.sl 7 false (l_4.map eApiFixture), .mref 2], .map (mk AV.str r_15) (mv eApiProfile r_15)]⟩ := rfl
def c50_0 : C := .cond (.t 28) (.reg [iI 29 (.faddr 1 (.t 5)), iI 30 (.load 0 (.t 29)), iI 31 (.faddr 0 (.t 7)), iI 32 (.load 0 (.t 31)), iI 33 (.load 4 (.t 7)), iN (.mapset 1 (.t 30) (.t 32) (.t 33))]) (.skip)
def c50_1 : C := .seq (.reg [iI 27 (.mv (.t 9)), iI 28 (.un .not (.t 27))]) c50_0
def c50_2 : C := .seq (.reg [iI 20 (.faddr 1 (.t 5)), iI 21 (.load 0 (.t 20)), iI 22 (.faddr 0 (.t 7)), iI 23 (.load 0 (.t 22)), iI 24 (.lookup 1 (.agg [(.str []), (.int .i64 0), (.int .i64 0), (.sl 10 true [])]) true (.t 21) (.t 23)), iI 19 (.mv (.t 24)), iI 25 (.ext (.t 19) 0), iI 26 (.ext (.t 19) 1), iI 8 (.alloc [(1, (.str [])), (1, (.int .i64 0)), (1, (.int .i64 0)), (1, (.sl 10 true []))]), iN (.store 4 (.t 8) (.t 25)), iI 9 (.mv (.t 26))]) c50_1
def c50_3 : C := .reg [iI 34 (.bin .add (.t 15) (.c (.int .i64 1))), iI 15 (.mv (.t 34))]
def c50_4 : C := .seq (.block 1 (.seq (.reg [iI 17 (.iaddr 4 (.t 13) (.t 15)), iI 18 (.load 4 (.t 17)), iI 7 (.alloc [(1, (.str [])), (1, (.int .i64 0)), (1, (.int .i64 0)), (1, (.sl 10 true []))]), iN (.store 4 (.t 7) (.t 18))]) c50_2)) c50_3
def c50_5 : C := .seq (.cond (.t 16) (.skip) (.exit 0)) c50_4
def c50_6 : C := .block 0 (.loop (.seq (.reg [iI 16 (.bin .lss (.t 15) (.t 14))]) c50_5))
def c50_7 : C := .seq (.reg [iI 35 (.load 2 (.t 5)), iN (.store 2 (.t 4) (.t 35))]) .ret
def c50_8 : C := .seq (.seq (.reg [iI 13 (.mv (.t 1)), iI 14 (.len 0 (.t 13)), iI 15 (.mv (.c (.int .i64 0)))]) c50_6) c50_7
def c50_9 : C := .seq (.reg [iI 10 (.mv (.t 0)), iI 11 .mkmap, iI 12 (.build [(1, (.sl 7 true [])), (1, .nilmp)] [(0, 0, (.t 10)), (1, 0, (.t 11))]), iI 5 (.alloc [(1, (.sl 7 true [])), (1, .nilmp)]), iN (.store 2 (.t 5) (.t 12))]) c50_8
def ir50 : C := .seq (.reg [iI 4 (.alloc [(1, (.sl 7 true [])), (1, .nilmp)])]) c50_9
theorem fd50 : fd? Try.prog 50 = some (36, [.cell 4 2], ir50) := by kernel_rfl
noncomputable def f50 (l_4 : (List ApiFixture)) (profiles_5 : (List ApiProfile)) : Option (PatchRig) :=
  (Lp.run (f50_L1 profiles_5 l_4) (0, [])).bind fun r_19 => (some (PatchRig.mk l_4 r_19))
theorem f50_ok {l_4 : (List ApiFixture)} {profiles_5 : (List ApiProfile)} {r_ : PatchRig} (H : f50 l_4 profiles_5 = some r_) : Pure Try.prog 50 [.sl 7 false (l_4.map eApiFixture), .sl 4 false (profiles_5.map eApiProfile)] (· = .agg [.sl 7 false (r_.fFixtures.map eApiFixture), .mp (mk AV.str r_.fProfiles) (mv eApiProfile r_.fProfiles)]) := by
 refine Pure.walk3 fd50 none (Nat.le_of_ble_eq_true rfl) (by rfl) fun Q hQ => ?_
 simp only [f50] at H
 refine AW.rseq ?_
 try simp only [wm, ↓wk, ↓wl, nq, evV, ↓reduceIte, sevalprocAttr]
 refine AW.rseq ?_
 try simp only [wm, ↓wk, ↓wl, nq, evV, ↓reduceIte, sevalprocAttr]
 refine AW.sseq ?_
 refine AW.rseq ?_
 try simp only [wm, ↓wk, ↓wl, nq, evV, ↓reduceIte, sevalprocAttr]
 refine AW.bend ?_
 refine AW.iter H ((Le.tz [0, 2, 1] [4, 5, 13, 14, 15] (by simp only [f50_L1c, wm, wmr, rrm, ↓wk, ↓wl, evV, ↓reduceIte, sevalprocAttr] <;> rfl))) ?_ <;> clear H
 rintro ⟨v_14, r_15⟩ x_ st0_ H hst_
 rw [f50_L1c] at hst_
 simp only [f50_L1] at H
 subst hst_
 refine AW.rseq ?_
 try simp only [wm, ↓wk, ↓wl, nq, evV, ↓reduceIte, sevalprocAttr]
 refine AW.sseq ?_
 refine AW.ifc H (by rfl) ?_ ?_ <;> clear H <;> intro H
 ·refine AW.skip ?_
  refine seqQ.norm ?_
  refine AW.bseq ?_
  refine AW.rseq ?_
  try simp only [wm, ↓wk, ↓wl, nq, evV, ↓reduceIte, sevalprocAttr]
  refine evTs_at (enc := eApiProfile) H (by rfl) (by rfl) ?_ <;> clear H <;> intro x_20 H
  try simp only [eApiProfile, eL, eM, wm, ↓wk, ↓wl, nq, evV, ↓reduceIte, sevalprocAttr]
  refine AW.rseq ?_
  try simp only [wm, ↓wk, ↓wl, nq, evV, ↓reduceIte, sevalprocAttr]
  refine evTs_lookR (ek := AV.str) (ev := eApiProfile) H true (by rfl) (by rfl) (by rfl) (by rfl) ?_ <;> clear H <;> intro m_21 ok_22 H
  try simp only [eApiProfile, eL, eM, wm, ↓wk, ↓wl, nq, evV, ↓reduceIte, sevalprocAttr]
  refine AW.rseq ?_
  try simp only [wm, ↓wk, ↓wl, nq, evV, ↓reduceIte, sevalprocAttr]
  refine AW.ifc H (by rfl) ?_ ?_ <;> clear H <;> intro H
  ·refine AW.rend ?_
   try simp only [wm, ↓wk, ↓wl, nq, evV, ↓reduceIte, sevalprocAttr]
   refine evTs_mset (m := r_15) (ek := AV.str) (ev := eApiProfile) x_20.fName x_20 (by rfl) (by rfl) (by rfl) (by rfl) ?_
   try simp only [wm, ↓wk, ↓wl, nq, evV, ↓reduceIte, sevalprocAttr]
   refine blkQ.norm ?_
   refine AW.rend ?_
   try simp only [wm, ↓wk, ↓wl, nq, evV, ↓reduceIte, sevalprocAttr]
   exact loopQ.next H ((Le.tz [0, 1, 2] [4, 5, 13, 14, 15] (by simp only [f50_L1c, wm, wmr, rrm, ↓wk, ↓wl, evV, ↓reduceIte, sevalprocAttr] <;> rfl)))
  ·refine AW.skip ?_
   refine blkQ.norm ?_
   refine AW.rend ?_
   try simp only [wm, ↓wk, ↓wl, nq, evV, ↓reduceIte, sevalprocAttr]
   exact loopQ.next H ((Le.tz [0, 1, 2] [4, 5, 13, 14, 15] (by simp only [f50_L1c, wm, wmr, rrm, ↓wk, ↓wl, evV, ↓reduceIte, sevalprocAttr] <;> rfl)))
 ·refine AW.exit ?_
  refine seqQ.exit ?_
  refine loopQ.exit H ?_ <;> clear H <;> intro H
  try dsimp only at H
  refine blk0.here ?_
  refine seqQ.norm ?_
  refine AW.rseq ?_
  try simp only [wm, ↓wk, ↓wl, nq, evV, ↓reduceIte, sevalprocAttr]
  refine AW.ret ?_
  cases H
  exact hQ _ _ _ _ (.inr rfl) (by simp only [resVs, omap, resV, wm, ↓wk, ↓wl, nq, evV, ↓reduceIte, sevalprocAttr]; rfl) (by simp only [handOver, deep_eq, imm_simps, imm_rowE, imm_ptrE, imm_enc, imm_mrefE, imm_mpE, imm_arowE, omap_simps, take_map_len, take_map_set, take_map_set2, List.length_set, le_refl_true, Nat.zero_add, and_true, true_and, List.drop_zero, Option.map_some, wm, ↓wk, ↓wl, nq, evV, ↓reduceIte, sevalprocAttr]; rfl) (by first | exact Or.inl rfl | exact Or.inr rfl)
noncomputable def f75_L1 (f_133 : ApiFixture) : Lp (Int) ((Unit) ⊕ (Unit)) where
  body := fun v_137 => (if (decide (v_137 < ((([(Arr2_149.mk f_133.fChannel 999), (Arr2_149.mk f_133.fPart 64), (Arr2_149.mk f_133.fUniverse 8), (Arr2_149.mk f_133.fAddress 512), (Arr2_149.mk f_133.fPhase 3)]).length : Nat) : Int))) = true then (at? ([(Arr2_149.mk f_133.fChannel 999), (Arr2_149.mk f_133.fPart 64), (Arr2_149.mk f_133.fUniverse 8), (Arr2_149.mk f_133.fAddress 512), (Arr2_149.mk f_133.fPhase 3)]) v_137).bind fun x_139 => (if (decide (x_139.fE0 < 1)) = true then (some (.brk (Sum.inr ()))) else (if (decide (x_139.fE1 < x_139.fE0)) = true then (some (.brk (Sum.inr ()))) else (some (.next (IntKind.i64.wrap (v_137 + 1)))))) else (some (.brk (Sum.inl ()))))
  cst := fun v_137 => ⟨put (put (put (fun _ => .junk) 22 (.int .i64 v_137)) 21 (.int .i64 ((([(Arr2_149.mk f_133.fChannel 999), (Arr2_149.mk f_133.fPart 64), (Arr2_149.mk f_133.fUniverse 8), (Arr2_149.mk f_133.fAddress 512), (Arr2_149.mk f_133.fPhase 3)]).length : Nat) : Int))) 20 (.sl 2 true (([(Arr2_149.mk f_133.fChannel 999), (Arr2_149.mk f_133.fPart 64), (Arr2_149.mk f_133.fUniverse 8), (Arr2_149.mk f_133.fAddress 512), (Arr2_149.mk f_133.fPhase 3)]).map eArr2_149)), []⟩
theorem f75_L1c (f_133 : ApiFixture) (v_137 : Int) : (f75_L1 f_133).cst v_137 = ⟨put (put (put (fun _ => .junk) 22 (.int .i64 v_137)) 21 (.int .i64 ((([(Arr2_149.mk f_133.fChannel 999), (Arr2_149.mk f_133.fPart 64), (Arr2_149.mk f_133.fUniverse 8), (Arr2_149.mk f_133.fAddress 512), (Arr2_149.mk f_133.fPhase 3)]).length : Nat) : Int))) 20 (.sl 2 true (([(Arr2_149.mk f_133.fChannel 999), (Arr2_149.mk f_133.fPart 64), (Arr2_149.mk f_133.fUniverse 8), (Arr2_149.mk f_133.fAddress 512), (Arr2_149.mk f_133.fPhase 3)]).map eArr2_149)), []⟩ := rfl
def c75_0 : C := .cond (.t 35) (.seq (.reg [iI 2 (.mv (.c (.bool false)))]) .ret) (.skip)
def c75_1 : C := .seq (.reg [iI 26 (.aiaddr 0 2 (.t 4) (.c (.int .i64 0))), iI 27 (.load 0 (.t 26)), iI 28 (.bin .lss (.t 27) (.c (.int .i64 1))), iI 29 (.mv (.t 28)), iG (some 30) 29 false (.aiaddr 0 2 (.t 4) (.c (.int .i64 0))), iG (some 31) 29 false (.load 0 (.t 30)), iG (some 32) 29 false (.aiaddr 0 2 (.t 4) (.c (.int .i64 1))), iG (some 33) 29 false (.load 0 (.t 32)), iG (some 34) 29 false (.bin .gtr (.t 31) (.t 33)), iI 35 (.pick (.t 29) (.c (.bool true)) (.t 34))]) c75_0
def c75_2 : C := .reg [iI 36 (.bin .add (.t 22) (.c (.int .i64 1))), iI 22 (.mv (.t 36))]
def c75_3 : C := .seq (.block 1 (.seq (.reg [iI 24 (.iaddr 2 (.t 20) (.t 22)), iI 25 (.load 2 (.t 24)), iI 4 (.alloc [(2, (.int .i64 0))]), iN (.store 2 (.t 4) (.t 25))]) c75_1)) c75_2
def c75_4 : C := .seq (.cond (.t 23) (.skip) (.exit 0)) c75_3
def c75_5 : C := .block 0 (.loop (.seq (.reg [iI 23 (.bin .lss (.t 22) (.t 21))]) c75_4))
def c75_6 : C := .seq (.reg [iI 2 (.mv (.c (.bool true)))]) .ret
def c75_7 : C := .seq (.seq (.reg [iI 5 (.faddr 0 (.t 1)), iI 6 (.load 0 (.t 5)), iI 7 (.build [(2, (.int .i64 0))] [(0, 0, (.t 6)), (1, 0, (.c (.int .i64 999)))]), iI 8 (.faddr 1 (.t 1)), iI 9 (.load 0 (.t 8)), iI 10 (.build [(2, (.int .i64 0))] [(0, 0, (.t 9)), (1, 0, (.c (.int .i64 64)))]), iI 11 (.faddr 3 (.t 1)), iI 12 (.load 0 (.t 11)), iI 13 (.build [(2, (.int .i64 0))] [(0, 0, (.t 12)), (1, 0, (.c (.int .i64 8)))]), iI 14 (.faddr 4 (.t 1)), iI 15 (.load 0 (.t 14)), iI 16 (.build [(2, (.int .i64 0))] [(0, 0, (.t 15)), (1, 0, (.c (.int .i64 512)))]), iI 17 (.faddr 5 (.t 1)), iI 18 (.load 0 (.t 17)), iI 19 (.build [(2, (.int .i64 0))] [(0, 0, (.t 18)), (1, 0, (.c (.int .i64 3)))]), iI 20 (.mksl 2 5 (.agg [(.int .i64 0), (.int .i64 0)]) [(0, (.t 7)), (1, (.t 10)), (2, (.t 13)), (3, (.t 16)), (4, (.t 19))]), iI 21 (.len 0 (.t 20)), iI 22 (.mv (.c (.int .i64 0)))]) c75_5) c75_6
def ir75 : C := .seq (.reg [iI 1 (.box (.t 0)), iI 2 (.mv (.c (.bool false)))]) c75_7
theorem fd75 : fd? Try.prog 75 = some (37, [.slot 2], ir75) := by kernel_rfl
noncomputable def f75 (f_133 : ApiFixture) : Option (Bool) :=
  ((Lp.run (f75_L1 f_133) 0).bind fun r_ => match r_ with | (Sum.inl _) => (some true) | (Sum.inr _) => (some false))
theorem f75_ok {f_133 : ApiFixture} {r_ : Bool} (H : f75 f_133 = some r_) : Pure Try.prog 75 [.agg [.int .i64 f_133.fChannel, .int .i64 f_133.fPart, .str f_133.fProfile, .int .i64 f_133.fUniverse, .int .i64 f_133.fAddress, .int .i64 f_133.fPhase, .str f_133.fCable]] (· = .bool r_) := by
 refine Pure.walk3 fd75 none (Nat.le_of_ble_eq_true rfl) (by rfl) fun Q hQ => ?_
 simp only [f75] at H
 refine AW.rseq ?_
 try simp only [wm, ↓wk, ↓wl, nq, evV, ↓reduceIte, sevalprocAttr]
 refine AW.sseq ?_
 refine AW.rseq ?_
 try simp only [wm, ↓wk, ↓wl, nq, evV, ↓reduceIte, sevalprocAttr]
 refine AW.bend ?_
 refine AW.iter H ((Le.tz [] [20, 21, 22] (by simp only [f75_L1c, wm, wmr, rrm, ↓wk, ↓wl, evV, ↓reduceIte, sevalprocAttr] <;> rfl))) ?_ <;> clear H
 rintro v_137 x_ st0_ H hst_
 rw [f75_L1c] at hst_
 simp only [f75_L1] at H
 subst hst_
 refine AW.rseq ?_
 try simp only [wm, ↓wk, ↓wl, nq, evV, ↓reduceIte, sevalprocAttr]
 refine AW.sseq ?_
 refine AW.ifc H (by rfl) ?_ ?_ <;> clear H <;> intro H
 ·refine AW.skip ?_
  refine seqQ.norm ?_
  refine AW.bseq ?_
  refine AW.rseq ?_
  try simp only [wm, ↓wk, ↓wl, nq, evV, ↓reduceIte, sevalprocAttr]
  refine evTs_at (enc := eArr2_149) H (by rfl) (by rfl) ?_ <;> clear H <;> intro x_139 H
  try simp only [eArr2_149, eL, eM, wm, ↓wk, ↓wl, nq, evV, ↓reduceIte, sevalprocAttr]
  refine AW.rseq ?_
  try simp only [wm, ↓wk, ↓wl, nq, evV, ↓reduceIte, sevalprocAttr]
  refine evTs_any (v := .ptr 0 0) rfl (by rfl) ?_
  try simp only [wm, ↓wk, ↓wl, nq, evV, ↓reduceIte, sevalprocAttr]
  refine evTs_ifg H (by rfl) ?_ ?_ <;> clear H <;> intro H
  ·try simp only [wm, ↓wk, ↓wl, nq, evV, ↓reduceIte, sevalprocAttr]
   refine AW.ift (by rfl) ?_
   refine AW.rseq ?_
   try simp only [wm, ↓wk, ↓wl, nq, evV, ↓reduceIte, sevalprocAttr]
   refine AW.ret ?_
   refine blkQ.ret ?_
   refine loopQ.ret H ?_ <;> clear H <;> intro H
   try dsimp only at H
   refine blk0.ret ?_
   refine seqQ.ret ?_
   cases H
   exact hQ _ _ _ _ (.inr rfl) (by simp only [resVs, omap, resV, wm, ↓wk, ↓wl, nq, evV, ↓reduceIte, sevalprocAttr]; rfl) (hand_plain (by rfl)) (by first | exact Or.inl rfl | exact Or.inr rfl)
  ·try simp only [wm, ↓wk, ↓wl, nq, evV, ↓reduceIte, sevalprocAttr]
   refine evTs_any (v := .ptr 0 0) rfl (by rfl) ?_
   try simp only [wm, ↓wk, ↓wl, nq, evV, ↓reduceIte, sevalprocAttr]
   refine evTs_any (v := .ptr 0 1) rfl (by rfl) ?_
   try simp only [wm, ↓wk, ↓wl, nq, evV, ↓reduceIte, sevalprocAttr]
   refine AW.ifc H (by rfl) ?_ ?_ <;> clear H <;> intro H
   ·refine AW.rseq ?_
    try simp only [wm, ↓wk, ↓wl, nq, evV, ↓reduceIte, sevalprocAttr]
    refine AW.ret ?_
    refine blkQ.ret ?_
    refine loopQ.ret H ?_ <;> clear H <;> intro H
    try dsimp only at H
    refine blk0.ret ?_
    refine seqQ.ret ?_
    cases H
    exact hQ _ _ _ _ (.inr rfl) (by simp only [resVs, omap, resV, wm, ↓wk, ↓wl, nq, evV, ↓reduceIte, sevalprocAttr]; rfl) (hand_plain (by rfl)) (by first | exact Or.inl rfl | exact Or.inr rfl)
   ·refine AW.skip ?_
    refine blkQ.norm ?_
    refine AW.rend ?_
    try simp only [wm, ↓wk, ↓wl, nq, evV, ↓reduceIte, sevalprocAttr]
    exact loopQ.next H ((Le.tz [] [20, 21, 22] (by simp only [f75_L1c, wm, wmr, rrm, ↓wk, ↓wl, evV, ↓reduceIte, sevalprocAttr] <;> rfl)))
 ·refine AW.exit ?_
  refine seqQ.exit ?_
  refine loopQ.exit H ?_ <;> clear H <;> intro H
  try dsimp only at H
  refine blk0.here ?_
  refine seqQ.norm ?_
  refine AW.rseq ?_
  try simp only [wm, ↓wk, ↓wl, nq, evV, ↓reduceIte, sevalprocAttr]
  refine AW.ret ?_
  cases H
  exact hQ _ _ _ _ (.inr rfl) (by simp only [resVs, omap, resV, wm, ↓wk, ↓wl, nq, evV, ↓reduceIte, sevalprocAttr]; rfl) (hand_plain (by rfl)) (by first | exact Or.inl rfl | exact Or.inr rfl)
noncomputable def f76_L1 (s_142 : (List UInt8)) : Lp (Int) ((Unit) ⊕ (Unit)) where
  body := fun v_146 => (if (decide (v_146 < (((b2i s_142).length : Nat) : Int))) = true then (at? (b2i s_142) v_146).bind fun x_148 => (if (decide (97 ≤ x_148)) = true then (if (!(decide (x_148 ≤ 122))) = true then (if (decide (v_146 = 0)) = true then (some (.brk (Sum.inr ()))) else (if (decide (x_148 ≠ 95)) = true then (if (decide (x_148 < 48)) = true then (some (.brk (Sum.inr ()))) else (if (decide (57 < x_148)) = true then (some (.brk (Sum.inr ()))) else (some (.next (IntKind.i64.wrap (v_146 + 1)))))) else (some (.next (IntKind.i64.wrap (v_146 + 1)))))) else (some (.next (IntKind.i64.wrap (v_146 + 1))))) else (if (decide (v_146 = 0)) = true then (some (.brk (Sum.inr ()))) else (if (decide (x_148 ≠ 95)) = true then (if (decide (x_148 < 48)) = true then (some (.brk (Sum.inr ()))) else (if (decide (57 < x_148)) = true then (some (.brk (Sum.inr ()))) else (some (.next (IntKind.i64.wrap (v_146 + 1)))))) else (some (.next (IntKind.i64.wrap (v_146 + 1))))))) else (some (.brk (Sum.inl ()))))
  cst := fun v_146 => ⟨put (put (put (put (fun _ => .junk) 9 (.int .i64 v_146)) 8 (.int .i64 (((b2i s_142).length : Nat) : Int))) 7 (.row 0 0 0 (b2i s_142).length)) 0 (.str s_142), [.els 0 ((b2i s_142).map (AV.int .u8))]⟩
theorem f76_L1c (s_142 : (List UInt8)) (v_146 : Int) : (f76_L1 s_142).cst v_146 = ⟨put (put (put (put (fun _ => .junk) 9 (.int .i64 v_146)) 8 (.int .i64 (((b2i s_142).length : Nat) : Int))) 7 (.row 0 0 0 (b2i s_142).length)) 0 (.str s_142), [.els 0 ((b2i s_142).map (AV.int .u8))]⟩ := rfl
def c76_0 : C := .cond (.t 37) (.seq (.reg [iI 2 (.mv (.c (.bool false)))]) .ret) (.skip)
def c76_1 : C := .seq (.reg [iI 20 (.mv (.t 5)), iI 21 (.un .not (.t 20)), iI 22 (.mv (.t 21)), iG (some 23) 22 true (.mv (.t 3)), iG (some 24) 22 true (.bin .eql (.t 23) (.c (.int .i64 0))), iG (some 25) 22 true (.mv (.t 24)), iG (some 26) 25 false (.mv (.t 4)), iG (some 27) 25 false (.bin .neq (.t 26) (.c (.int .u8 95))), iG (some 28) 25 false (.mv (.t 27)), iG (some 29) 28 true (.mv (.t 4)), iG (some 30) 28 true (.bin .lss (.t 29) (.c (.int .u8 48))), iG (some 31) 28 true (.mv (.t 30)), iG (some 32) 31 false (.mv (.t 4)), iG (some 33) 31 false (.bin .gtr (.t 32) (.c (.int .u8 57))), iG (some 34) 28 true (.pick (.t 31) (.c (.bool true)) (.t 33)), iG (some 35) 25 false (.pick (.t 28) (.t 34) (.c (.bool false))), iG (some 36) 22 true (.pick (.t 25) (.c (.bool true)) (.t 35)), iI 37 (.pick (.t 22) (.t 36) (.c (.bool false)))]) c76_0
def c76_2 : C := .seq (.reg [iI 14 (.mv (.t 4)), iI 15 (.bin .geq (.t 14) (.c (.int .u8 97))), iI 16 (.mv (.t 15)), iG (some 17) 16 true (.mv (.t 4)), iG (some 18) 16 true (.bin .leq (.t 17) (.c (.int .u8 122))), iI 19 (.pick (.t 16) (.t 18) (.c (.bool false))), iI 5 (.mv (.t 19))]) c76_1
def c76_3 : C := .reg [iI 38 (.bin .add (.t 9) (.c (.int .i64 1))), iI 9 (.mv (.t 38))]
def c76_4 : C := .seq (.block 1 (.seq (.reg [iI 11 (.mv (.t 9)), iI 12 (.iaddr 0 (.t 7) (.t 9)), iI 13 (.load 0 (.t 12)), iI 3 (.mv (.t 11)), iI 4 (.mv (.t 13))]) c76_2)) c76_3
def c76_5 : C := .seq (.cond (.t 10) (.skip) (.exit 0)) c76_4
def c76_6 : C := .block 0 (.loop (.seq (.reg [iI 10 (.bin .lss (.t 9) (.t 8))]) c76_5))
def c76_7 : C := .seq (.reg [iI 39 (.mv (.t 0)), iI 40 (.bin .neq (.t 39) (.c (.str []))), iI 41 (.mv (.t 40)), iG (some 42) 41 true (.mv (.t 0)), iG (some 43) 41 true (.len 1 (.t 42)), iG (some 44) 41 true (.bin .leq (.t 43) (.c (.int .i64 24))), iI 45 (.pick (.t 41) (.t 44) (.c (.bool false))), iI 2 (.mv (.t 45))]) .ret
def c76_8 : C := .seq (.seq (.reg [iI 6 (.mv (.t 0)), iI 7 (.cbytes (.t 6)), iI 8 (.len 0 (.t 7)), iI 9 (.mv (.c (.int .i64 0)))]) c76_6) c76_7
def ir76 : C := .seq (.reg [iI 2 (.mv (.c (.bool false)))]) c76_8
theorem fd76 : fd? Try.prog 76 = some (46, [.slot 2], ir76) := by kernel_rfl
noncomputable def f76 (s_142 : (List UInt8)) : Option (Bool) :=
  (room? s_142.length).bind fun _ => ((Lp.run (f76_L1 s_142) 0).bind fun r_ => match r_ with | (Sum.inl _) => (if (!(s_142 == ([]))) = true then (some (decide (((s_142.length : Nat) : Int) ≤ 24))) else (some false)) | (Sum.inr _) => (some false))
theorem f76_ok {s_142 : (List UInt8)} {r_ : Bool} (H : f76 s_142 = some r_) : Pure Try.prog 76 [.str s_142] (· = .bool r_) := by
 refine Pure.walk3 fd76 none (Nat.le_of_ble_eq_true rfl) (by rfl) fun Q hQ => ?_
 simp only [f76] at H
 refine AW.rseq ?_
 try simp only [wm, ↓wk, ↓wl, nq, evV, ↓reduceIte, sevalprocAttr]
 refine AW.sseq ?_
 refine AW.rseq ?_
 try simp only [wm, ↓wk, ↓wl, nq, evV, ↓reduceIte, sevalprocAttr]
 refine evTs_cbytes H (by rfl) ?_ <;> clear H <;> intro H
 try simp only [wm, ↓wk, ↓wl, nq, evV, ↓reduceIte, sevalprocAttr]
 refine AW.bend ?_
 refine AW.iter H ((Le.tz [0] [0, 7, 8, 9] (by simp only [f76_L1c, wm, wmr, rrm, ↓wk, ↓wl, evV, ↓reduceIte, sevalprocAttr] <;> rfl))) ?_ <;> clear H
 rintro v_146 x_ st0_ H hst_
 rw [f76_L1c] at hst_
 simp only [f76_L1] at H
 subst hst_
 refine AW.rseq ?_
 try simp only [wm, ↓wk, ↓wl, nq, evV, ↓reduceIte, sevalprocAttr]
 refine AW.sseq ?_
 refine AW.ifc H (by rfl) ?_ ?_ <;> clear H <;> intro H
 ·refine AW.skip ?_
  refine seqQ.norm ?_
  refine AW.bseq ?_
  refine AW.rseq ?_
  try simp only [wm, ↓wk, ↓wl, nq, evV, ↓reduceIte, sevalprocAttr]
  refine evTs_atr (enc := (AV.int .u8)) H (by rfl) (by first | rfl | simp only [List.length_set]) (by rfl) ?_ <;> clear H <;> intro x_148 hx_148 H
  try simp only [wm, ↓wk, ↓wl, nq, evV, ↓reduceIte, sevalprocAttr, hx_148]
  refine AW.rseq ?_
  try simp only [wm, ↓wk, ↓wl, nq, evV, ↓reduceIte, sevalprocAttr, hx_148]
  refine evTs_ifg H (by rfl) ?_ ?_ <;> clear H <;> intro H
  ·try simp only [wm, ↓wk, ↓wl, nq, evV, ↓reduceIte, sevalprocAttr, hx_148]
   refine AW.rseq ?_
   try simp only [wm, ↓wk, ↓wl, nq, evV, ↓reduceIte, sevalprocAttr, hx_148]
   refine evTs_ifg H (by rfl) ?_ ?_ <;> clear H <;> intro H
   ·try simp only [wm, ↓wk, ↓wl, nq, evV, ↓reduceIte, sevalprocAttr, hx_148]
    refine evTs_ifg H (by rfl) ?_ ?_ <;> clear H <;> intro H
    ·try simp only [wm, ↓wk, ↓wl, nq, evV, ↓reduceIte, sevalprocAttr, hx_148]
     refine AW.ift (by rfl) ?_
     refine AW.rseq ?_
     try simp only [wm, ↓wk, ↓wl, nq, evV, ↓reduceIte, sevalprocAttr, hx_148]
     refine AW.ret ?_
     refine blkQ.ret ?_
     refine loopQ.ret H ?_ <;> clear H <;> intro H
     try dsimp only at H
     refine blk0.ret ?_
     refine seqQ.ret ?_
     cases H
     exact hQ _ _ _ _ (.inr rfl) (by simp only [resVs, omap, resV, wm, ↓wk, ↓wl, nq, evV, ↓reduceIte, sevalprocAttr, hx_148]; rfl) (hand_plain (by rfl)) (by first | exact Or.inl rfl | exact Or.inr rfl)
    ·try simp only [wm, ↓wk, ↓wl, nq, evV, ↓reduceIte, sevalprocAttr, hx_148]
     refine evTs_ifg H (by rfl) ?_ ?_ <;> clear H <;> intro H
     ·try simp only [wm, ↓wk, ↓wl, nq, evV, ↓reduceIte, sevalprocAttr, hx_148]
      refine evTs_ifg H (by rfl) ?_ ?_ <;> clear H <;> intro H
      ·try simp only [wm, ↓wk, ↓wl, nq, evV, ↓reduceIte, sevalprocAttr, hx_148]
       refine AW.ift (by rfl) ?_
       refine AW.rseq ?_
       try simp only [wm, ↓wk, ↓wl, nq, evV, ↓reduceIte, sevalprocAttr, hx_148]
       refine AW.ret ?_
       refine blkQ.ret ?_
       refine loopQ.ret H ?_ <;> clear H <;> intro H
       try dsimp only at H
       refine blk0.ret ?_
       refine seqQ.ret ?_
       cases H
       exact hQ _ _ _ _ (.inr rfl) (by simp only [resVs, omap, resV, wm, ↓wk, ↓wl, nq, evV, ↓reduceIte, sevalprocAttr, hx_148]; rfl) (hand_plain (by rfl)) (by first | exact Or.inl rfl | exact Or.inr rfl)
      ·try simp only [wm, ↓wk, ↓wl, nq, evV, ↓reduceIte, sevalprocAttr, hx_148]
       refine AW.ifc H (by rfl) ?_ ?_ <;> clear H <;> intro H
       ·refine AW.rseq ?_
        try simp only [wm, ↓wk, ↓wl, nq, evV, ↓reduceIte, sevalprocAttr, hx_148]
        refine AW.ret ?_
        refine blkQ.ret ?_
        refine loopQ.ret H ?_ <;> clear H <;> intro H
        try dsimp only at H
        refine blk0.ret ?_
        refine seqQ.ret ?_
        cases H
        exact hQ _ _ _ _ (.inr rfl) (by simp only [resVs, omap, resV, wm, ↓wk, ↓wl, nq, evV, ↓reduceIte, sevalprocAttr, hx_148]; rfl) (hand_plain (by rfl)) (by first | exact Or.inl rfl | exact Or.inr rfl)
       ·refine AW.skip ?_
        refine blkQ.norm ?_
        refine AW.rend ?_
        try simp only [wm, ↓wk, ↓wl, nq, evV, ↓reduceIte, sevalprocAttr, hx_148]
        exact loopQ.next H ((Le.tz [0] [0, 7, 8, 9] (by simp only [f76_L1c, wm, wmr, rrm, ↓wk, ↓wl, evV, ↓reduceIte, sevalprocAttr, hx_148] <;> rfl)))
     ·try simp only [wm, ↓wk, ↓wl, nq, evV, ↓reduceIte, sevalprocAttr, hx_148]
      refine AW.iff (by rfl) ?_
      refine AW.skip ?_
      refine blkQ.norm ?_
      refine AW.rend ?_
      try simp only [wm, ↓wk, ↓wl, nq, evV, ↓reduceIte, sevalprocAttr, hx_148]
      exact loopQ.next H ((Le.tz [0] [0, 7, 8, 9] (by simp only [f76_L1c, wm, wmr, rrm, ↓wk, ↓wl, evV, ↓reduceIte, sevalprocAttr, hx_148] <;> rfl)))
   ·try simp only [wm, ↓wk, ↓wl, nq, evV, ↓reduceIte, sevalprocAttr, hx_148]
    refine AW.iff (by rfl) ?_
    refine AW.skip ?_
    refine blkQ.norm ?_
    refine AW.rend ?_
    try simp only [wm, ↓wk, ↓wl, nq, evV, ↓reduceIte, sevalprocAttr, hx_148]
    exact loopQ.next H ((Le.tz [0] [0, 7, 8, 9] (by simp only [f76_L1c, wm, wmr, rrm, ↓wk, ↓wl, evV, ↓reduceIte, sevalprocAttr, hx_148] <;> rfl)))
  ·try simp only [wm, ↓wk, ↓wl, nq, evV, ↓reduceIte, sevalprocAttr, hx_148]
   refine AW.rseq ?_
   try simp only [wm, ↓wk, ↓wl, nq, evV, ↓reduceIte, sevalprocAttr, hx_148]
   refine evTs_ifg H (by rfl) ?_ ?_ <;> clear H <;> intro H
   ·try simp only [wm, ↓wk, ↓wl, nq, evV, ↓reduceIte, sevalprocAttr, hx_148]
    refine AW.ift (by rfl) ?_
    refine AW.rseq ?_
    try simp only [wm, ↓wk, ↓wl, nq, evV, ↓reduceIte, sevalprocAttr, hx_148]
    refine AW.ret ?_
    refine blkQ.ret ?_
    refine loopQ.ret H ?_ <;> clear H <;> intro H
    try dsimp only at H
    refine blk0.ret ?_
    refine seqQ.ret ?_
    cases H
    exact hQ _ _ _ _ (.inr rfl) (by simp only [resVs, omap, resV, wm, ↓wk, ↓wl, nq, evV, ↓reduceIte, sevalprocAttr, hx_148]; rfl) (hand_plain (by rfl)) (by first | exact Or.inl rfl | exact Or.inr rfl)
   ·try simp only [wm, ↓wk, ↓wl, nq, evV, ↓reduceIte, sevalprocAttr, hx_148]
    refine evTs_ifg H (by rfl) ?_ ?_ <;> clear H <;> intro H
    ·try simp only [wm, ↓wk, ↓wl, nq, evV, ↓reduceIte, sevalprocAttr, hx_148]
     refine evTs_ifg H (by rfl) ?_ ?_ <;> clear H <;> intro H
     ·try simp only [wm, ↓wk, ↓wl, nq, evV, ↓reduceIte, sevalprocAttr, hx_148]
      refine AW.ift (by rfl) ?_
      refine AW.rseq ?_
      try simp only [wm, ↓wk, ↓wl, nq, evV, ↓reduceIte, sevalprocAttr, hx_148]
      refine AW.ret ?_
      refine blkQ.ret ?_
      refine loopQ.ret H ?_ <;> clear H <;> intro H
      try dsimp only at H
      refine blk0.ret ?_
      refine seqQ.ret ?_
      cases H
      exact hQ _ _ _ _ (.inr rfl) (by simp only [resVs, omap, resV, wm, ↓wk, ↓wl, nq, evV, ↓reduceIte, sevalprocAttr, hx_148]; rfl) (hand_plain (by rfl)) (by first | exact Or.inl rfl | exact Or.inr rfl)
     ·try simp only [wm, ↓wk, ↓wl, nq, evV, ↓reduceIte, sevalprocAttr, hx_148]
      refine AW.ifc H (by rfl) ?_ ?_ <;> clear H <;> intro H
      ·refine AW.rseq ?_
       try simp only [wm, ↓wk, ↓wl, nq, evV, ↓reduceIte, sevalprocAttr, hx_148]
       refine AW.ret ?_
       refine blkQ.ret ?_
       refine loopQ.ret H ?_ <;> clear H <;> intro H
       try dsimp only at H
       refine blk0.ret ?_
       refine seqQ.ret ?_
       cases H
       exact hQ _ _ _ _ (.inr rfl) (by simp only [resVs, omap, resV, wm, ↓wk, ↓wl, nq, evV, ↓reduceIte, sevalprocAttr, hx_148]; rfl) (hand_plain (by rfl)) (by first | exact Or.inl rfl | exact Or.inr rfl)
      ·refine AW.skip ?_
       refine blkQ.norm ?_
       refine AW.rend ?_
       try simp only [wm, ↓wk, ↓wl, nq, evV, ↓reduceIte, sevalprocAttr, hx_148]
       exact loopQ.next H ((Le.tz [0] [0, 7, 8, 9] (by simp only [f76_L1c, wm, wmr, rrm, ↓wk, ↓wl, evV, ↓reduceIte, sevalprocAttr, hx_148] <;> rfl)))
    ·try simp only [wm, ↓wk, ↓wl, nq, evV, ↓reduceIte, sevalprocAttr, hx_148]
     refine AW.iff (by rfl) ?_
     refine AW.skip ?_
     refine blkQ.norm ?_
     refine AW.rend ?_
     try simp only [wm, ↓wk, ↓wl, nq, evV, ↓reduceIte, sevalprocAttr, hx_148]
     exact loopQ.next H ((Le.tz [0] [0, 7, 8, 9] (by simp only [f76_L1c, wm, wmr, rrm, ↓wk, ↓wl, evV, ↓reduceIte, sevalprocAttr, hx_148] <;> rfl)))
 ·refine AW.exit ?_
  refine seqQ.exit ?_
  refine loopQ.exit H ?_ <;> clear H <;> intro H
  try dsimp only at H
  refine blk0.here ?_
  refine seqQ.norm ?_
  refine AW.rseq ?_
  try simp only [wm, ↓wk, ↓wl, nq, evV, ↓reduceIte, sevalprocAttr]
  refine evTs_ifg H (by rfl) ?_ ?_ <;> clear H <;> intro H
  ·try simp only [wm, ↓wk, ↓wl, nq, evV, ↓reduceIte, sevalprocAttr]
   refine AW.ret ?_
   cases H
   exact hQ _ _ _ _ (.inr rfl) (by simp only [resVs, omap, resV, wm, ↓wk, ↓wl, nq, evV, ↓reduceIte, sevalprocAttr]; rfl) (hand_plain (by rfl)) (by first | exact Or.inl rfl | exact Or.inr rfl)
  ·try simp only [wm, ↓wk, ↓wl, nq, evV, ↓reduceIte, sevalprocAttr]
   refine AW.ret ?_
   cases H
   exact hQ _ _ _ _ (.inr rfl) (by simp only [resVs, omap, resV, wm, ↓wk, ↓wl, nq, evV, ↓reduceIte, sevalprocAttr]; rfl) (hand_plain (by rfl)) (by first | exact Or.inl rfl | exact Or.inr rfl)
def c86_0 : C := .seq (.reg [iI 5 (.faddr 0 (.t 3)), iI 6 (.load 0 (.t 5)), iI 7 (.load 0 (.t 1)), iI 8 (.bin .eql (.t 6) (.t 7)), iI 9 (.mv (.t 8)), iG (some 10) 9 true (.faddr 1 (.t 3)), iG (some 11) 9 true (.load 0 (.t 10)), iG (some 12) 9 true (.load 0 (.t 2)), iG (some 13) 9 true (.bin .eql (.t 11) (.t 12)), iI 14 (.pick (.t 9) (.t 13) (.c (.bool false))), iI 4 (.mv (.t 14))]) .ret
def ir86 : C := .seq (.reg [iI 3 (.box (.t 0)), iI 4 (.mv (.c (.bool false)))]) c86_0
theorem fd86 : fd? Try.prog 86 = some (15, [.slot 4], ir86) := by kernel_rfl
noncomputable def f86p (f_160 : ApiFixture) (c_161 : Int) (c_162 : Int) : Option (Bool) :=
  (if (decide (f_160.fChannel = c_161)) = true then (some (decide (f_160.fPart = c_162))) else (some false))
theorem f86p_ok {f_160 : ApiFixture} {c_161 : Int} {c_162 : Int} {r_ : Bool} (H : f86p f_160 c_161 c_162 = some r_) : Pure Try.prog 86 [.agg [.int .i64 f_160.fChannel, .int .i64 f_160.fPart, .str f_160.fProfile, .int .i64 f_160.fUniverse, .int .i64 f_160.fAddress, .int .i64 f_160.fPhase, .str f_160.fCable], .pro [.int .i64 c_161], .pro [.int .i64 c_162]] (· = .bool r_) := by
 refine Pure.walk3 fd86 none (Nat.le_of_ble_eq_true rfl) (by rfl) fun Q hQ => ?_
 simp only [f86p] at H
 refine AW.rseq ?_
 try simp only [wm, ↓wk, ↓wl, nq, evV, ↓reduceIte, sevalprocAttr]
 refine AW.rseq ?_
 try simp only [wm, ↓wk, ↓wl, nq, evV, ↓reduceIte, sevalprocAttr]
 refine evTs_ifg H (by rfl) ?_ ?_ <;> clear H <;> intro H
 ·try simp only [wm, ↓wk, ↓wl, nq, evV, ↓reduceIte, sevalprocAttr]
  refine AW.ret ?_
  cases H
  exact hQ _ _ _ _ (.inr rfl) (by simp only [resVs, omap, resV, wm, ↓wk, ↓wl, nq, evV, ↓reduceIte, sevalprocAttr]; rfl) (hand_plain (by rfl)) (by first | exact Or.inl rfl | exact Or.inr rfl)
 ·try simp only [wm, ↓wk, ↓wl, nq, evV, ↓reduceIte, sevalprocAttr]
  refine AW.ret ?_
  cases H
  exact hQ _ _ _ _ (.inr rfl) (by simp only [resVs, omap, resV, wm, ↓wk, ↓wl, nq, evV, ↓reduceIte, sevalprocAttr]; rfl) (hand_plain (by rfl)) (by first | exact Or.inl rfl | exact Or.inr rfl)
noncomputable def f85_86_L1 (s_156 : (List ApiFixture)) (f_157 : Int) (f_158 : Int) : Lp (Int) ((Unit) ⊕ (Int)) where
  body := fun v_167 => (if (decide (v_167 < ((s_156.length : Nat) : Int))) = true then (at? s_156 v_167).bind fun x_171 => (f86p x_171 f_157 f_158).bind fun r_172 => (if r_172 = true then (some (.brk (Sum.inr v_167))) else (some (.next (IntKind.i64.wrap (v_167 + 1))))) else (some (.brk (Sum.inl ()))))
  cst := fun v_167 => ⟨put (put (put (put (fun _ => .junk) 8 (.int .i64 v_167)) 7 (.int .i64 ((s_156.length : Nat) : Int))) 1 (.fn 86 [.pro [.int .i64 f_157], .pro [.int .i64 f_158]])) 0 (.sl 7 false (s_156.map eApiFixture)), []⟩
theorem f85_86_L1c (s_156 : (List ApiFixture)) (f_157 : Int) (f_158 : Int) (v_167 : Int) : (f85_86_L1 s_156 f_157 f_158).cst v_167 = ⟨put (put (put (put (fun _ => .junk) 8 (.int .i64 v_167)) 7 (.int .i64 ((s_156.length : Nat) : Int))) 1 (.fn 86 [.pro [.int .i64 f_157], .pro [.int .i64 f_158]])) 0 (.sl 7 false (s_156.map eApiFixture)), []⟩ := rfl
def c85_0 : C := .cond (.t 16) (.seq (.reg [iI 17 (.mv (.t 5)), iI 4 (.mv (.t 17))]) .ret) (.skip)
def c85_1 : C := .seq (.reg [iI 11 (.mv (.t 1)), iI 12 (.mv (.t 0)), iI 13 (.mv (.t 5)), iI 14 (.iaddr 7 (.t 12) (.t 13)), iI 15 (.load 7 (.t 14)), iI 16 (.call (.t 11) [(.t 15)])]) c85_0
def c85_2 : C := .reg [iI 18 (.bin .add (.t 8) (.c (.int .i64 1))), iI 8 (.mv (.t 18))]
def c85_3 : C := .seq (.block 1 (.seq (.reg [iI 10 (.mv (.t 8)), iI 5 (.mv (.t 10))]) c85_1)) c85_2
def c85_4 : C := .seq (.cond (.t 9) (.skip) (.exit 0)) c85_3
def c85_5 : C := .block 0 (.loop (.seq (.reg [iI 9 (.bin .lss (.t 8) (.t 7))]) c85_4))
def c85_6 : C := .seq (.reg [iI 4 (.mv (.c (.int .i64 (-1))))]) .ret
def c85_7 : C := .seq (.seq (.reg [iI 6 (.mv (.t 0)), iI 7 (.len 0 (.t 6)), iI 8 (.mv (.c (.int .i64 0)))]) c85_5) c85_6
def ir85 : C := .seq (.reg [iI 4 (.mv (.c (.int .i64 0)))]) c85_7
theorem fd85 : fd? Try.prog 85 = some (19, [.slot 4], ir85) := by kernel_rfl
noncomputable def f85_86 (s_156 : (List ApiFixture)) (f_157 : Int) (f_158 : Int) : Option (Int) :=
  ((Lp.run (f85_86_L1 s_156 f_157 f_158) 0).bind fun r_ => match r_ with | (Sum.inl _) => (some (-1)) | (Sum.inr v_170) => (some v_170))
theorem f85_86_ok {s_156 : (List ApiFixture)} {f_157 : Int} {f_158 : Int} {r_ : Int} (H : f85_86 s_156 f_157 f_158 = some r_) : Pure Try.prog 85 [.sl 7 false (s_156.map eApiFixture), .fn 86 [.pro [.int .i64 f_157], .pro [.int .i64 f_158]]] (· = .int .i64 r_) := by
 refine Pure.walk3 fd85 none (Nat.le_of_ble_eq_true rfl) (by rfl) fun Q hQ => ?_
 simp only [f85_86] at H
 refine AW.rseq ?_
 try simp only [wm, ↓wk, ↓wl, nq, evV, ↓reduceIte, sevalprocAttr]
 refine AW.sseq ?_
 refine AW.rseq ?_
 try simp only [wm, ↓wk, ↓wl, nq, evV, ↓reduceIte, sevalprocAttr]
 refine AW.bend ?_
 refine AW.iter H ((Le.tz [] [0, 1, 7, 8] (by simp only [f85_86_L1c, wm, wmr, rrm, ↓wk, ↓wl, evV, ↓reduceIte, sevalprocAttr] <;> rfl))) ?_ <;> clear H
 rintro v_167 x_ st0_ H hst_
 rw [f85_86_L1c] at hst_
 simp only [f85_86_L1] at H
 subst hst_
 refine AW.rseq ?_
 try simp only [wm, ↓wk, ↓wl, nq, evV, ↓reduceIte, sevalprocAttr]
 refine AW.sseq ?_
 refine AW.ifc H (by rfl) ?_ ?_ <;> clear H <;> intro H
 ·refine AW.skip ?_
  refine seqQ.norm ?_
  refine AW.bseq ?_
  refine AW.rseq ?_
  try simp only [wm, ↓wk, ↓wl, nq, evV, ↓reduceIte, sevalprocAttr]
  refine AW.rseq ?_
  try simp only [wm, ↓wk, ↓wl, nq, evV, ↓reduceIte, sevalprocAttr]
  refine evTs_at (enc := eApiFixture) H (by rfl) (by rfl) ?_ <;> clear H <;> intro x_171 H
  try simp only [eApiFixture, eL, eM, wm, ↓wk, ↓wl, nq, evV, ↓reduceIte, sevalprocAttr]
  refine evTs_pure hFn H (fun _ h => f86p_ok h) (by rfl) (by rfl) (by rfl) (by rfl) (fun _ => rfl) ?_ <;> clear H <;> intro r_172 H
  try simp only [eL, wm, ↓wk, ↓wl, nq, evV, ↓reduceIte, sevalprocAttr]
  refine AW.ifc H (by rfl) ?_ ?_ <;> clear H <;> intro H
  ·refine AW.rseq ?_
   try simp only [wm, ↓wk, ↓wl, nq, evV, ↓reduceIte, sevalprocAttr]
   refine AW.ret ?_
   refine blkQ.ret ?_
   refine loopQ.ret H ?_ <;> clear H <;> intro H
   try dsimp only at H
   refine blk0.ret ?_
   refine seqQ.ret ?_
   cases H
   exact hQ _ _ _ _ (.inr rfl) (by simp only [resVs, omap, resV, wm, ↓wk, ↓wl, nq, evV, ↓reduceIte, sevalprocAttr]; rfl) (hand_plain (by rfl)) (by first | exact Or.inl rfl | exact Or.inr rfl)
  ·refine AW.skip ?_
   refine blkQ.norm ?_
   refine AW.rend ?_
   try simp only [wm, ↓wk, ↓wl, nq, evV, ↓reduceIte, sevalprocAttr]
   exact loopQ.next H ((Le.tz [] [0, 1, 7, 8] (by simp only [f85_86_L1c, wm, wmr, rrm, ↓wk, ↓wl, evV, ↓reduceIte, sevalprocAttr] <;> rfl)))
 ·refine AW.exit ?_
  refine seqQ.exit ?_
  refine loopQ.exit H ?_ <;> clear H <;> intro H
  try dsimp only at H
  refine blk0.here ?_
  refine seqQ.norm ?_
  refine AW.rseq ?_
  try simp only [wm, ↓wk, ↓wl, nq, evV, ↓reduceIte, sevalprocAttr]
  refine AW.ret ?_
  cases H
  exact hQ _ _ _ _ (.inr rfl) (by simp only [resVs, omap, resV, wm, ↓wk, ↓wl, nq, evV, ↓reduceIte, sevalprocAttr]; rfl) (hand_plain (by rfl)) (by first | exact Or.inl rfl | exact Or.inr rfl)
def c61_0 : C := .seq (.reg [iI 7 (.faddr 0 (.t 3)), iI 8 (.load 0 (.t 7)), iI 9 (.mkfn 86 [(.t 4), (.t 5)]), iI 10 (.call (.c (.fn 85 [])) [(.t 8), (.t 9)]), iI 6 (.mv (.t 10))]) .ret
def ir61 : C := .seq (.reg [iI 3 (.box (.t 0)), iI 4 (.box (.t 1)), iI 5 (.box (.t 2)), iI 6 (.mv (.c (.int .i64 0)))]) c61_0
theorem fd61 : fd? Try.prog 61 = some (11, [.slot 6], ir61) := by kernel_rfl
noncomputable def f61 (r_153 : PatchRig) (channel_154 : Int) (part_155 : Int) : Option (Int) :=
  (f85_86 r_153.fFixtures channel_154 part_155).bind fun r_173 => (some r_173)
theorem f61_ok {r_153 : PatchRig} {channel_154 : Int} {part_155 : Int} {r_ : Int} (H : f61 r_153 channel_154 part_155 = some r_) : Pure Try.prog 61 [.agg [.sl 7 false (r_153.fFixtures.map eApiFixture), .mp (mk AV.str r_153.fProfiles) (mv eApiProfile r_153.fProfiles)], .int .i64 channel_154, .int .i64 part_155] (· = .int .i64 r_) := by
 refine Pure.walk3 fd61 none (Nat.le_of_ble_eq_true rfl) (by rfl) fun Q hQ => ?_
 simp only [f61] at H
 refine AW.rseq ?_
 try simp only [wm, ↓wk, ↓wl, nq, evV, ↓reduceIte, sevalprocAttr]
 refine AW.rseq ?_
 try simp only [wm, ↓wk, ↓wl, nq, evV, ↓reduceIte, sevalprocAttr]
 refine evTs_flat hFn H (fun _ h => f85_86_ok h) (by rfl) (by rfl) (by simp only [deep_eq, imm_simps, imm_rowE, imm_ptrE, imm_enc, imm_mrefE, imm_mpE, imm_arowE, omap_simps, take_map_len, take_map_set, take_map_set2, List.length_set, le_refl_true, Nat.zero_add, and_true, true_and, List.drop_zero, Option.map_some, wm, ↓wk, ↓wl, nq, evV, ↓reduceIte, sevalprocAttr]; rfl) (by rfl) (fun _ => rfl) (fun _ => rfl) ?_ <;> clear H <;> intro r_173 H
 try simp only [eL, wm, ↓wk, ↓wl, nq, evV, ↓reduceIte, sevalprocAttr]
 refine AW.ret ?_
 cases H
 exact hQ _ _ _ _ (.inr rfl) (by simp only [resVs, omap, resV, wm, ↓wk, ↓wl, nq, evV, ↓reduceIte, sevalprocAttr]; rfl) (hand_plain (by rfl)) (by first | exact Or.inl rfl | exact Or.inr rfl)
def c82_0 : C := .seq (.reg [iI 5 (.faddr 1 (.t 2)), iI 6 (.load 0 (.t 5)), iI 7 (.faddr 2 (.t 3)), iI 8 (.load 0 (.t 7)), iI 9 (.lookup 1 (.agg [(.str []), (.int .i64 0), (.int .i64 0), (.sl 10 true [])]) false (.t 6) (.t 8)), iI 10 (.fld 1 0 (.t 9)), iI 4 (.mv (.t 10))]) .ret
def ir82 : C := .seq (.reg [iI 2 (.box (.t 0)), iI 3 (.box (.t 1)), iI 4 (.mv (.c (.int .i64 0)))]) c82_0
theorem fd82 : fd? Try.prog 82 = some (11, [.slot 4], ir82) := by kernel_rfl
noncomputable def f82 (r_181 : PatchRig) (f_182 : ApiFixture) : Option (Int) :=
  (look? (r_181.fProfiles : (List ((List UInt8) × ApiProfile))) f_182.fProfile ((ApiProfile.mk ([]) 0 0 ([])) : ApiProfile) fun m_183 ok_184 => (some m_183.fFootprint))
theorem f82_ok {r_181 : PatchRig} {f_182 : ApiFixture} {r_ : Int} (H : f82 r_181 f_182 = some r_) : Pure Try.prog 82 [.agg [.sl 7 false (r_181.fFixtures.map eApiFixture), .mp (mk AV.str r_181.fProfiles) (mv eApiProfile r_181.fProfiles)], .agg [.int .i64 f_182.fChannel, .int .i64 f_182.fPart, .str f_182.fProfile, .int .i64 f_182.fUniverse, .int .i64 f_182.fAddress, .int .i64 f_182.fPhase, .str f_182.fCable]] (· = .int .i64 r_) := by
 refine Pure.walk3 fd82 none (Nat.le_of_ble_eq_true rfl) (by rfl) fun Q hQ => ?_
 simp only [f82] at H
 refine AW.rseq ?_
 try simp only [wm, ↓wk, ↓wl, nq, evV, ↓reduceIte, sevalprocAttr]
 refine AW.rseq ?_
 try simp only [wm, ↓wk, ↓wl, nq, evV, ↓reduceIte, sevalprocAttr]
 refine evTs_lookP (ek := AV.str) (ev := eApiProfile) H false (by rfl) (by rfl) (by rfl) ?_ <;> clear H <;> intro m_183 ok_184 H
 try simp only [eApiProfile, eL, eM, wm, ↓wk, ↓wl, nq, evV, ↓reduceIte, sevalprocAttr]
 refine AW.ret ?_
 cases H
 exact hQ _ _ _ _ (.inr rfl) (by simp only [resVs, omap, resV, wm, ↓wk, ↓wl, nq, evV, ↓reduceIte, sevalprocAttr]; rfl) (hand_plain (by rfl)) (by first | exact Or.inl rfl | exact Or.inr rfl)
noncomputable def f54_L2 (r_222 : Int) (x_221 : ApiFixture) (v_206 : Int) (r_176 : PatchRig) (number_177 : Int) (v_178 : (List Int)) : Lp (Int × (List Int)) ((List Int)) where
  body := fun (v_227, out_228) => (if (decide (v_227 < r_222)) = true then (arr? 513 out_228 (IntKind.i64.wrap (x_221.fAddress + v_227))).bind fun x_231 => (some (.next ((IntKind.i64.wrap (v_227 + 1)), (out_228.set (IntKind.i64.wrap (x_221.fAddress + v_227)).toNat (IntKind.i64.wrap (v_206 + 1)))))) else (some (.brk out_228)))
  cst := fun (v_227, out_228) => ⟨put (put (put (put (put (put (put (put (put (put (put (fun _ => .junk) 24 (.int .i64 v_227)) 23 (.int .i64 r_222)) 12 (.int .i64 v_206)) 11 (.int .i64 ((r_176.fFixtures.length : Nat) : Int))) 10 (.sl 7 false (r_176.fFixtures.map eApiFixture))) 7 (.ptr 3 0)) 6 (.int .i64 v_206)) 5 (.ptr 2 0)) 4 (.ptr 1 0)) 2 (.ptr 0 0)) 1 (.int .i64 number_177), [.cel [.sl 7 false (r_176.fFixtures.map eApiFixture), .mp (mk AV.str r_176.fProfiles) (mv eApiProfile r_176.fProfiles)], .cel (v_178.map (AV.int .i64)), .cel (out_228.map (AV.int .i64)), .cel [.int .i64 x_221.fChannel, .int .i64 x_221.fPart, .str x_221.fProfile, .int .i64 x_221.fUniverse, .int .i64 x_221.fAddress, .int .i64 x_221.fPhase, .str x_221.fCable]]⟩
theorem f54_L2c (r_222 : Int) (x_221 : ApiFixture) (v_206 : Int) (r_176 : PatchRig) (number_177 : Int) (v_178 : (List Int)) (v_227 : Int) (out_228 : (List Int)) : (f54_L2 r_222 x_221 v_206 r_176 number_177 v_178).cst (v_227, out_228) = ⟨put (put (put (put (put (put (put (put (put (put (put (fun _ => .junk) 24 (.int .i64 v_227)) 23 (.int .i64 r_222)) 12 (.int .i64 v_206)) 11 (.int .i64 ((r_176.fFixtures.length : Nat) : Int))) 10 (.sl 7 false (r_176.fFixtures.map eApiFixture))) 7 (.ptr 3 0)) 6 (.int .i64 v_206)) 5 (.ptr 2 0)) 4 (.ptr 1 0)) 2 (.ptr 0 0)) 1 (.int .i64 number_177), [.cel [.sl 7 false (r_176.fFixtures.map eApiFixture), .mp (mk AV.str r_176.fProfiles) (mv eApiProfile r_176.fProfiles)], .cel (v_178.map (AV.int .i64)), .cel (out_228.map (AV.int .i64)), .cel [.int .i64 x_221.fChannel, .int .i64 x_221.fPart, .str x_221.fProfile, .int .i64 x_221.fUniverse, .int .i64 x_221.fAddress, .int .i64 x_221.fPhase, .str x_221.fCable]]⟩ := rfl
noncomputable def f54_L1 (r_176 : PatchRig) (number_177 : Int) (v_178 : (List Int)) : Lp (Int × (List Int)) ((List Int)) where
  body := fun (v_206, out_207) => (if (decide (v_206 < ((r_176.fFixtures.length : Nat) : Int))) = true then (at? r_176.fFixtures v_206).bind fun x_221 => (if (decide (x_221.fUniverse ≠ number_177)) = true then (some (.next ((IntKind.i64.wrap (v_206 + 1)), out_207))) else (f82 r_176 x_221).bind fun r_222 => (Lp.run (f54_L2 r_222 x_221 v_206 r_176 number_177 v_178) (0, out_207)).bind fun out_230 => (some (.next ((IntKind.i64.wrap (v_206 + 1)), out_230)))) else (some (.brk out_207)))
  cst := fun (v_206, out_207) => ⟨put (put (put (put (put (put (put (fun _ => .junk) 12 (.int .i64 v_206)) 11 (.int .i64 ((r_176.fFixtures.length : Nat) : Int))) 10 (.sl 7 false (r_176.fFixtures.map eApiFixture))) 5 (.ptr 2 0)) 4 (.ptr 1 0)) 2 (.ptr 0 0)) 1 (.int .i64 number_177), [.cel [.sl 7 false (r_176.fFixtures.map eApiFixture), .mp (mk AV.str r_176.fProfiles) (mv eApiProfile r_176.fProfiles)], .cel (v_178.map (AV.int .i64)), .cel (out_207.map (AV.int .i64))]⟩
theorem f54_L1c (r_176 : PatchRig) (number_177 : Int) (v_178 : (List Int)) (v_206 : Int) (out_207 : (List Int)) : (f54_L1 r_176 number_177 v_178).cst (v_206, out_207) = ⟨put (put (put (put (put (put (put (fun _ => .junk) 12 (.int .i64 v_206)) 11 (.int .i64 ((r_176.fFixtures.length : Nat) : Int))) 10 (.sl 7 false (r_176.fFixtures.map eApiFixture))) 5 (.ptr 2 0)) 4 (.ptr 1 0)) 2 (.ptr 0 0)) 1 (.int .i64 number_177), [.cel [.sl 7 false (r_176.fFixtures.map eApiFixture), .mp (mk AV.str r_176.fProfiles) (mv eApiProfile r_176.fProfiles)], .cel (v_178.map (AV.int .i64)), .cel (out_207.map (AV.int .i64))]⟩ := rfl
def c54_0 : C := .cond (.t 20) (.exit 1) (.skip)
def c54_1 : C := .reg [iI 27 (.faddr 4 (.t 7)), iI 28 (.load 0 (.t 27)), iI 29 (.mv (.t 8)), iI 30 (.bin .add (.t 28) (.t 29)), iI 31 (.mv (.t 6)), iI 32 (.bin .add (.t 31) (.c (.int .i64 1))), iI 33 (.aiaddr 0 513 (.t 5) (.t 30)), iN (.store 0 (.t 33) (.t 32))]
def c54_2 : C := .reg [iI 34 (.bin .add (.t 24) (.c (.int .i64 1))), iI 24 (.mv (.t 34))]
def c54_3 : C := .seq (.block 3 (.seq (.reg [iI 26 (.mv (.t 24)), iI 8 (.mv (.t 26))]) c54_1)) c54_2
def c54_4 : C := .seq (.cond (.t 25) (.skip) (.exit 2)) c54_3
def c54_5 : C := .block 2 (.loop (.seq (.reg [iI 25 (.bin .lss (.t 24) (.t 23))]) c54_4))
def c54_6 : C := .seq (.reg [iI 21 (.load 2 (.t 2)), iI 22 (.load 7 (.t 7)), iI 23 (.call (.c (.fn 82 [])) [(.t 21), (.t 22)]), iI 24 (.mv (.c (.int .i64 0)))]) c54_5
def c54_7 : C := .seq (.seq (.reg [iI 17 (.faddr 3 (.t 7)), iI 18 (.load 0 (.t 17)), iI 19 (.mv (.t 1)), iI 20 (.bin .neq (.t 18) (.t 19))]) c54_0) c54_6
def c54_8 : C := .reg [iI 35 (.bin .add (.t 12) (.c (.int .i64 1))), iI 12 (.mv (.t 35))]
def c54_9 : C := .seq (.block 1 (.seq (.reg [iI 14 (.mv (.t 12)), iI 15 (.iaddr 7 (.t 10) (.t 12)), iI 16 (.load 7 (.t 15)), iI 7 (.alloc [(1, (.int .i64 0)), (1, (.int .i64 0)), (1, (.str [])), (1, (.int .i64 0)), (1, (.int .i64 0)), (1, (.int .i64 0)), (1, (.str []))]), iI 6 (.mv (.t 14)), iN (.store 7 (.t 7) (.t 16))]) c54_7)) c54_8
def c54_10 : C := .seq (.cond (.t 13) (.skip) (.exit 0)) c54_9
def c54_11 : C := .block 0 (.loop (.seq (.reg [iI 13 (.bin .lss (.t 12) (.t 11))]) c54_10))
def c54_12 : C := .seq (.reg [iI 36 (.load 513 (.t 5)), iN (.store 513 (.t 4) (.t 36))]) .ret
def c54_13 : C := .seq (.seq (.reg [iI 9 (.faddr 0 (.t 2)), iI 10 (.load 0 (.t 9)), iI 11 (.len 0 (.t 10)), iI 12 (.mv (.c (.int .i64 0)))]) c54_11) c54_12
def c54_14 : C := .seq (.reg [iI 5 (.alloc [(513, (.int .i64 0))])]) c54_13
def ir54 : C := .seq (.reg [iI 2 (.box (.t 0)), iI 4 (.alloc [(513, (.int .i64 0))])]) c54_14
theorem fd54 : fd? Try.prog 54 = some (37, [.cell 4 513], ir54) := by kernel_rfl
noncomputable def f54 (r_176 : PatchRig) (number_177 : Int) : Option ((List Int)) :=
  (arr0? 513 (0 : Int)).bind fun v_178 => (arr0? 513 (0 : Int)).bind fun out_179 => (Lp.run (f54_L1 r_176 number_177 v_178) (0, out_179)).bind fun out_218 => (must? (out_218.length = 513)).bind fun _ => (must? (v_178.length = 513 ∧ out_218.length = 513)).bind fun _ => ((must? (out_218.length = 513)).bind fun _ => (some out_218))
theorem f54_ok {r_176 : PatchRig} {number_177 : Int} {r_ : (List Int)} (H : f54 r_176 number_177 = some r_) : Pure Try.prog 54 [.agg [.sl 7 false (r_176.fFixtures.map eApiFixture), .mp (mk AV.str r_176.fProfiles) (mv eApiProfile r_176.fProfiles)], .int .i64 number_177] (· = .agg (r_.map (AV.int .i64))) := by
 refine Pure.walk3 fd54 none (Nat.le_of_ble_eq_true rfl) (unr_eA _) fun Q hQ => ?_
 simp only [f54] at H
 refine AW.rseq ?_
 try simp only [wm, ↓wk, ↓wl, nqa, evV, ↓reduceIte, Nat.reduceEqDiff, Nat.reduceAdd, Nat.reduceSub, Nat.reduceLeDiff, Nat.reduceLT, Nat.reduceBEq, reduceCtorEq, Int.reduceEq]
 refine evTs_any rfl (by simp only [nc, wm, ↓wk, ↓wl, nqa, evV, ↓reduceIte, Nat.reduceEqDiff, Nat.reduceAdd, Nat.reduceSub, Nat.reduceLeDiff, Nat.reduceLT, Nat.reduceBEq, reduceCtorEq, Int.reduceEq, Nat.reduceLeDiff]; rfl) ?_
 try simp only [wm, ↓wk, ↓wl, nqa, evV, ↓reduceIte, Nat.reduceEqDiff, Nat.reduceAdd, Nat.reduceSub, Nat.reduceLeDiff, Nat.reduceLT, Nat.reduceBEq, reduceCtorEq, Int.reduceEq]
 refine evTs_arrn (enc := (AV.int .i64)) H (by rfl) ?_ <;> clear H <;> intro v_178 H
 try simp only [wm, ↓wk, ↓wl, nqa, evV, ↓reduceIte, Nat.reduceEqDiff, Nat.reduceAdd, Nat.reduceSub, Nat.reduceLeDiff, Nat.reduceLT, Nat.reduceBEq, reduceCtorEq, Int.reduceEq]
 refine AW.rseq ?_
 try simp only [wm, ↓wk, ↓wl, nqa, evV, ↓reduceIte, Nat.reduceEqDiff, Nat.reduceAdd, Nat.reduceSub, Nat.reduceLeDiff, Nat.reduceLT, Nat.reduceBEq, reduceCtorEq, Int.reduceEq]
 refine evTs_arrn (enc := (AV.int .i64)) H (by rfl) ?_ <;> clear H <;> intro out_179 H
 try simp only [wm, ↓wk, ↓wl, nqa, evV, ↓reduceIte, Nat.reduceEqDiff, Nat.reduceAdd, Nat.reduceSub, Nat.reduceLeDiff, Nat.reduceLT, Nat.reduceBEq, reduceCtorEq, Int.reduceEq]
 refine AW.sseq ?_
 refine AW.rseq ?_
 try simp only [wm, ↓wk, ↓wl, nqa, evV, ↓reduceIte, Nat.reduceEqDiff, Nat.reduceAdd, Nat.reduceSub, Nat.reduceLeDiff, Nat.reduceLT, Nat.reduceBEq, reduceCtorEq, Int.reduceEq]
 refine evTs_any rfl (by simp only [nc, wm, ↓wk, ↓wl, nqa, evV, ↓reduceIte, Nat.reduceEqDiff, Nat.reduceAdd, Nat.reduceSub, Nat.reduceLeDiff, Nat.reduceLT, Nat.reduceBEq, reduceCtorEq, Int.reduceEq, Nat.reduceLeDiff]; rfl) ?_
 try simp only [wm, ↓wk, ↓wl, nqa, evV, ↓reduceIte, Nat.reduceEqDiff, Nat.reduceAdd, Nat.reduceSub, Nat.reduceLeDiff, Nat.reduceLT, Nat.reduceBEq, reduceCtorEq, Int.reduceEq]
 refine AW.bend ?_
 refine AW.iter H ((Le.tz [0, 1, 2] [1, 2, 4, 5, 10, 11, 12] (by simp only [f54_L1c, wm, wmr, rrm, ↓wk, ↓wl, evV, ↓reduceIte, Nat.reduceEqDiff, Nat.reduceAdd, Nat.reduceSub, Nat.reduceLeDiff, Nat.reduceLT, Nat.reduceBEq, reduceCtorEq, Int.reduceEq] <;> rfl))) ?_ <;> clear H
 rintro ⟨v_206, out_207⟩ x_ st0_ H hst_
 rw [f54_L1c] at hst_
 simp only [f54_L1] at H
 subst hst_
 refine AW.rseq ?_
 try simp only [wm, ↓wk, ↓wl, nqa, evV, ↓reduceIte, Nat.reduceEqDiff, Nat.reduceAdd, Nat.reduceSub, Nat.reduceLeDiff, Nat.reduceLT, Nat.reduceBEq, reduceCtorEq, Int.reduceEq]
 refine AW.sseq ?_
 refine AW.ifc H (by rfl) ?_ ?_ <;> clear H <;> intro H
 ·refine AW.skip ?_
  refine seqQ.norm ?_
  refine AW.bseq ?_
  refine AW.rseq ?_
  try simp only [wm, ↓wk, ↓wl, nqa, evV, ↓reduceIte, Nat.reduceEqDiff, Nat.reduceAdd, Nat.reduceSub, Nat.reduceLeDiff, Nat.reduceLT, Nat.reduceBEq, reduceCtorEq, Int.reduceEq]
  refine evTs_at (enc := eApiFixture) H (by rfl) (by rfl) ?_ <;> clear H <;> intro x_221 H
  try simp only [eApiFixture, eL, eM, wm, ↓wk, ↓wl, nqa, evV, ↓reduceIte, Nat.reduceEqDiff, Nat.reduceAdd, Nat.reduceSub, Nat.reduceLeDiff, Nat.reduceLT, Nat.reduceBEq, reduceCtorEq, Int.reduceEq]
  refine evTs_any rfl (by simp only [nc, wm, ↓wk, ↓wl, nqa, evV, ↓reduceIte, Nat.reduceEqDiff, Nat.reduceAdd, Nat.reduceSub, Nat.reduceLeDiff, Nat.reduceLT, Nat.reduceBEq, reduceCtorEq, Int.reduceEq, Nat.reduceLeDiff]; rfl) ?_
  try simp only [wm, ↓wk, ↓wl, nqa, evV, ↓reduceIte, Nat.reduceEqDiff, Nat.reduceAdd, Nat.reduceSub, Nat.reduceLeDiff, Nat.reduceLT, Nat.reduceBEq, reduceCtorEq, Int.reduceEq]
  refine evTs_any rfl (by simp only [nc, wm, ↓wk, ↓wl, nqa, evV, ↓reduceIte, Nat.reduceEqDiff, Nat.reduceAdd, Nat.reduceSub, Nat.reduceLeDiff, Nat.reduceLT, Nat.reduceBEq, reduceCtorEq, Int.reduceEq, Nat.reduceLeDiff]; rfl) ?_
  try simp only [wm, ↓wk, ↓wl, nqa, evV, ↓reduceIte, Nat.reduceEqDiff, Nat.reduceAdd, Nat.reduceSub, Nat.reduceLeDiff, Nat.reduceLT, Nat.reduceBEq, reduceCtorEq, Int.reduceEq]
  refine evTs_st (by simp only [wm, ↓wk, ↓wl, nqa, evV, ↓reduceIte, Nat.reduceEqDiff, Nat.reduceAdd, Nat.reduceSub, Nat.reduceLeDiff, Nat.reduceLT, Nat.reduceBEq, reduceCtorEq, Int.reduceEq, Nat.reduceLeDiff]; rfl) ?_
  try simp only [wm, ↓wk, ↓wl, nqa, evV, ↓reduceIte, Nat.reduceEqDiff, Nat.reduceAdd, Nat.reduceSub, Nat.reduceLeDiff, Nat.reduceLT, Nat.reduceBEq, reduceCtorEq, Int.reduceEq]
  refine AW.sseq ?_
  refine AW.rseq ?_
  try simp only [wm, ↓wk, ↓wl, nqa, evV, ↓reduceIte, Nat.reduceEqDiff, Nat.reduceAdd, Nat.reduceSub, Nat.reduceLeDiff, Nat.reduceLT, Nat.reduceBEq, reduceCtorEq, Int.reduceEq]
  refine evTs_any rfl (by simp only [nc, wm, ↓wk, ↓wl, nqa, evV, ↓reduceIte, Nat.reduceEqDiff, Nat.reduceAdd, Nat.reduceSub, Nat.reduceLeDiff, Nat.reduceLT, Nat.reduceBEq, reduceCtorEq, Int.reduceEq, Nat.reduceLeDiff]; rfl) ?_
  try simp only [wm, ↓wk, ↓wl, nqa, evV, ↓reduceIte, Nat.reduceEqDiff, Nat.reduceAdd, Nat.reduceSub, Nat.reduceLeDiff, Nat.reduceLT, Nat.reduceBEq, reduceCtorEq, Int.reduceEq]
  refine AW.ifc H (by rfl) ?_ ?_ <;> clear H <;> intro H
  ·refine AW.exit ?_
   refine seqQ.exit ?_
   refine blkQ.here ?_
   refine AW.rend ?_
   try simp only [wm, ↓wk, ↓wl, nqa, evV, ↓reduceIte, Nat.reduceEqDiff, Nat.reduceAdd, Nat.reduceSub, Nat.reduceLeDiff, Nat.reduceLT, Nat.reduceBEq, reduceCtorEq, Int.reduceEq]
   exact loopQ.next H ((Le.tz [0, 1, 2] [1, 2, 4, 5, 10, 11, 12] (by simp only [f54_L1c, wm, wmr, rrm, ↓wk, ↓wl, evV, ↓reduceIte, Nat.reduceEqDiff, Nat.reduceAdd, Nat.reduceSub, Nat.reduceLeDiff, Nat.reduceLT, Nat.reduceBEq, reduceCtorEq, Int.reduceEq] <;> rfl)))
  ·refine AW.skip ?_
   refine seqQ.norm ?_
   refine AW.rseq ?_
   try simp only [wm, ↓wk, ↓wl, nqa, evV, ↓reduceIte, Nat.reduceEqDiff, Nat.reduceAdd, Nat.reduceSub, Nat.reduceLeDiff, Nat.reduceLT, Nat.reduceBEq, reduceCtorEq, Int.reduceEq]
   refine evTs_any rfl (by simp only [nc, wm, ↓wk, ↓wl, nqa, evV, ↓reduceIte, Nat.reduceEqDiff, Nat.reduceAdd, Nat.reduceSub, Nat.reduceLeDiff, Nat.reduceLT, Nat.reduceBEq, reduceCtorEq, Int.reduceEq, Nat.reduceLeDiff]; rfl) ?_
   try simp only [wm, ↓wk, ↓wl, nqa, evV, ↓reduceIte, Nat.reduceEqDiff, Nat.reduceAdd, Nat.reduceSub, Nat.reduceLeDiff, Nat.reduceLT, Nat.reduceBEq, reduceCtorEq, Int.reduceEq]
   refine evTs_any rfl (by simp only [nc, wm, ↓wk, ↓wl, nqa, evV, ↓reduceIte, Nat.reduceEqDiff, Nat.reduceAdd, Nat.reduceSub, Nat.reduceLeDiff, Nat.reduceLT, Nat.reduceBEq, reduceCtorEq, Int.reduceEq, Nat.reduceLeDiff]; rfl) ?_
   try simp only [wm, ↓wk, ↓wl, nqa, evV, ↓reduceIte, Nat.reduceEqDiff, Nat.reduceAdd, Nat.reduceSub, Nat.reduceLeDiff, Nat.reduceLT, Nat.reduceBEq, reduceCtorEq, Int.reduceEq]
   refine evTs_pure hFn H (fun _ h => f82_ok h) (by rfl) (by rfl) (by rfl) (by rfl) (fun _ => rfl) ?_ <;> clear H <;> intro r_222 H
   try simp only [eL, wm, ↓wk, ↓wl, nqa, evV, ↓reduceIte, Nat.reduceEqDiff, Nat.reduceAdd, Nat.reduceSub, Nat.reduceLeDiff, Nat.reduceLT, Nat.reduceBEq, reduceCtorEq, Int.reduceEq]
   refine AW.bend ?_
   refine AW.iter H ((Le.tz [0, 1, 2, 3] [1, 2, 4, 5, 6, 7, 10, 11, 12, 23, 24] (by simp only [f54_L2c, wm, wmr, rrm, ↓wk, ↓wl, evV, ↓reduceIte, Nat.reduceEqDiff, Nat.reduceAdd, Nat.reduceSub, Nat.reduceLeDiff, Nat.reduceLT, Nat.reduceBEq, reduceCtorEq, Int.reduceEq] <;> rfl))) ?_ <;> clear H
   rintro ⟨v_227, out_228⟩ x_ st0_ H hst_
   rw [f54_L2c] at hst_
   simp only [f54_L2] at H
   subst hst_
   refine AW.rseq ?_
   try simp only [wm, ↓wk, ↓wl, nqa, evV, ↓reduceIte, Nat.reduceEqDiff, Nat.reduceAdd, Nat.reduceSub, Nat.reduceLeDiff, Nat.reduceLT, Nat.reduceBEq, reduceCtorEq, Int.reduceEq]
   refine AW.sseq ?_
   refine AW.ifc H (by rfl) ?_ ?_ <;> clear H <;> intro H
   ·refine AW.skip ?_
    refine seqQ.norm ?_
    refine AW.bseq ?_
    refine AW.rseq ?_
    try simp only [wm, ↓wk, ↓wl, nqa, evV, ↓reduceIte, Nat.reduceEqDiff, Nat.reduceAdd, Nat.reduceSub, Nat.reduceLeDiff, Nat.reduceLT, Nat.reduceBEq, reduceCtorEq, Int.reduceEq]
    refine AW.rend ?_
    try simp only [wm, ↓wk, ↓wl, nqa, evV, ↓reduceIte, Nat.reduceEqDiff, Nat.reduceAdd, Nat.reduceSub, Nat.reduceLeDiff, Nat.reduceLT, Nat.reduceBEq, reduceCtorEq, Int.reduceEq]
    refine evTs_any rfl (by simp only [nc, wm, ↓wk, ↓wl, nqa, evV, ↓reduceIte, Nat.reduceEqDiff, Nat.reduceAdd, Nat.reduceSub, Nat.reduceLeDiff, Nat.reduceLT, Nat.reduceBEq, reduceCtorEq, Int.reduceEq, Nat.reduceLeDiff]; rfl) ?_
    try simp only [wm, ↓wk, ↓wl, nqa, evV, ↓reduceIte, Nat.reduceEqDiff, Nat.reduceAdd, Nat.reduceSub, Nat.reduceLeDiff, Nat.reduceLT, Nat.reduceBEq, reduceCtorEq, Int.reduceEq]
    refine evTs_aat (enc := (AV.int .i64)) H (by rfl) (by rfl) ?_ <;> clear H <;> intro x_231 hx_231 H
    try simp only [wm, ↓wk, ↓wl, nqa, evV, ↓reduceIte, Nat.reduceEqDiff, Nat.reduceAdd, Nat.reduceSub, Nat.reduceLeDiff, Nat.reduceLT, Nat.reduceBEq, reduceCtorEq, Int.reduceEq]
    refine evTs_ast (enc := (AV.int .i64)) (IntKind.i64.wrap (v_206 + 1)) (by rfl) (by rfl) hx_231 (by rfl) ?_
    try simp only [wm, ↓wk, ↓wl, nqa, evV, ↓reduceIte, Nat.reduceEqDiff, Nat.reduceAdd, Nat.reduceSub, Nat.reduceLeDiff, Nat.reduceLT, Nat.reduceBEq, reduceCtorEq, Int.reduceEq]
    refine blkQ.norm ?_
    refine AW.rend ?_
    try simp only [wm, ↓wk, ↓wl, nqa, evV, ↓reduceIte, Nat.reduceEqDiff, Nat.reduceAdd, Nat.reduceSub, Nat.reduceLeDiff, Nat.reduceLT, Nat.reduceBEq, reduceCtorEq, Int.reduceEq]
    exact loopQ.next H ((Le.tz [0, 1, 2, 3] [1, 2, 4, 5, 6, 7, 10, 11, 12, 23, 24] (by simp only [f54_L2c, wm, wmr, rrm, ↓wk, ↓wl, evV, ↓reduceIte, Nat.reduceEqDiff, Nat.reduceAdd, Nat.reduceSub, Nat.reduceLeDiff, Nat.reduceLT, Nat.reduceBEq, reduceCtorEq, Int.reduceEq] <;> rfl)))
   ·refine AW.exit ?_
    refine seqQ.exit ?_
    refine loopQ.exit H ?_ <;> clear H <;> intro H
    try dsimp only at H
    refine blk0.here ?_
    refine blkQ.norm ?_
    refine AW.rend ?_
    try simp only [wm, ↓wk, ↓wl, nqa, evV, ↓reduceIte, Nat.reduceEqDiff, Nat.reduceAdd, Nat.reduceSub, Nat.reduceLeDiff, Nat.reduceLT, Nat.reduceBEq, reduceCtorEq, Int.reduceEq]
    exact loopQ.next H ((Le.tz [0, 1, 2] [1, 2, 4, 5, 10, 11, 12] (by simp only [f54_L1c, wm, wmr, rrm, ↓wk, ↓wl, evV, ↓reduceIte, Nat.reduceEqDiff, Nat.reduceAdd, Nat.reduceSub, Nat.reduceLeDiff, Nat.reduceLT, Nat.reduceBEq, reduceCtorEq, Int.reduceEq] <;> rfl)))
 ·refine AW.exit ?_
  refine seqQ.exit ?_
  refine loopQ.exit H ?_ <;> clear H <;> intro H
  try dsimp only at H
  refine blk0.here ?_
  refine seqQ.norm ?_
  refine AW.rseq ?_
  try simp only [wm, ↓wk, ↓wl, nqa, evV, ↓reduceIte, Nat.reduceEqDiff, Nat.reduceAdd, Nat.reduceSub, Nat.reduceLeDiff, Nat.reduceLT, Nat.reduceBEq, reduceCtorEq, Int.reduceEq]
  refine evTs_aload (enc := (AV.int .i64)) (xs := out_207) H (by rfl) (by rfl) ?_ <;> clear H <;> intro H
  try simp only [wm, ↓wk, ↓wl, nqa, evV, ↓reduceIte, Nat.reduceEqDiff, Nat.reduceAdd, Nat.reduceSub, Nat.reduceLeDiff, Nat.reduceLT, Nat.reduceBEq, reduceCtorEq, Int.reduceEq]
  refine evTs_astore (enc := (AV.int .i64)) (xs := out_207) (ys := v_178) H (by rfl) (by rfl) (by rfl) ?_ <;> clear H <;> intro H
  try simp only [wm, ↓wk, ↓wl, nqa, evV, ↓reduceIte, Nat.reduceEqDiff, Nat.reduceAdd, Nat.reduceSub, Nat.reduceLeDiff, Nat.reduceLT, Nat.reduceBEq, reduceCtorEq, Int.reduceEq]
  refine AW.ret ?_
  obtain ⟨hl_232, H⟩ := must_inv H
  cases H
  exact hQ _ _ _ _ (.inr rfl) (by simp only [resVs, omap, resV, wm, ↓wk, ↓wl, nqa, evV, ↓reduceIte, Nat.reduceEqDiff, Nat.reduceAdd, Nat.reduceSub, Nat.reduceLeDiff, Nat.reduceLT, Nat.reduceBEq, reduceCtorEq, Int.reduceEq, hl_232, takeA hl_232]; rfl) (hand_plain (plain_eA _)) (Or.inl (unr_eA _))
def c78_0 : C := .seq (.reg [iI 3 (.mv (.t 0)), iI 4 (.bin .gtr (.t 3) (.c (.int .i64 0))), iI 2 (.mv (.t 4))]) .ret
def ir78 : C := .seq (.reg [iI 2 (.mv (.c (.bool false)))]) c78_0
theorem fd78 : fd? Try.prog 78 = some (5, [.slot 2], ir78) := by kernel_rfl
noncomputable def f78 (n_240 : Int) : Option (Bool) :=
  (some (decide (0 < n_240)))
theorem f78_ok {n_240 : Int} {r_ : Bool} (H : f78 n_240 = some r_) : Pure Try.prog 78 [.int .i64 n_240] (· = .bool r_) := by
 refine Pure.walk3 fd78 none (Nat.le_of_ble_eq_true rfl) (by rfl) fun Q hQ => ?_
 simp only [f78] at H
 refine AW.rseq ?_
 try simp only [wm, ↓wk, ↓wl, nq, evV, ↓reduceIte, sevalprocAttr]
 refine AW.rseq ?_
 try simp only [wm, ↓wk, ↓wl, nq, evV, ↓reduceIte, sevalprocAttr]
 refine AW.ret ?_
 cases H
 exact hQ _ _ _ _ (.inr rfl) (by simp only [resVs, omap, resV, wm, ↓wk, ↓wl, nq, evV, ↓reduceIte, sevalprocAttr]; rfl) (hand_plain (by rfl)) (by first | exact Or.inl rfl | exact Or.inr rfl)
noncomputable def f99_78_L1 (s_238 : (List Int)) : Lp (Int) ((Unit) ⊕ (Int)) where
  body := fun v_245 => (if (decide (v_245 < ((s_238.length : Nat) : Int))) = true then (at? s_238 v_245).bind fun x_249 => (f78 x_249).bind fun r_250 => (if r_250 = true then (some (.brk (Sum.inr v_245))) else (some (.next (IntKind.i64.wrap (v_245 + 1))))) else (some (.brk (Sum.inl ()))))
  cst := fun v_245 => ⟨put (put (put (put (fun _ => .junk) 8 (.int .i64 v_245)) 7 (.int .i64 ((s_238.length : Nat) : Int))) 1 (.fn 78 [])) 0 (.sl 0 false (s_238.map (AV.int .i64))), []⟩
theorem f99_78_L1c (s_238 : (List Int)) (v_245 : Int) : (f99_78_L1 s_238).cst v_245 = ⟨put (put (put (put (fun _ => .junk) 8 (.int .i64 v_245)) 7 (.int .i64 ((s_238.length : Nat) : Int))) 1 (.fn 78 [])) 0 (.sl 0 false (s_238.map (AV.int .i64))), []⟩ := rfl
def c99_0 : C := .cond (.t 16) (.seq (.reg [iI 17 (.mv (.t 5)), iI 4 (.mv (.t 17))]) .ret) (.skip)
def c99_1 : C := .seq (.reg [iI 11 (.mv (.t 1)), iI 12 (.mv (.t 0)), iI 13 (.mv (.t 5)), iI 14 (.iaddr 0 (.t 12) (.t 13)), iI 15 (.load 0 (.t 14)), iI 16 (.call (.t 11) [(.t 15)])]) c99_0
def c99_2 : C := .reg [iI 18 (.bin .add (.t 8) (.c (.int .i64 1))), iI 8 (.mv (.t 18))]
def c99_3 : C := .seq (.block 1 (.seq (.reg [iI 10 (.mv (.t 8)), iI 5 (.mv (.t 10))]) c99_1)) c99_2
def c99_4 : C := .seq (.cond (.t 9) (.skip) (.exit 0)) c99_3
def c99_5 : C := .block 0 (.loop (.seq (.reg [iI 9 (.bin .lss (.t 8) (.t 7))]) c99_4))
def c99_6 : C := .seq (.reg [iI 4 (.mv (.c (.int .i64 (-1))))]) .ret
def c99_7 : C := .seq (.seq (.reg [iI 6 (.mv (.t 0)), iI 7 (.len 0 (.t 6)), iI 8 (.mv (.c (.int .i64 0)))]) c99_5) c99_6
def ir99 : C := .seq (.reg [iI 4 (.mv (.c (.int .i64 0)))]) c99_7
theorem fd99 : fd? Try.prog 99 = some (19, [.slot 4], ir99) := by kernel_rfl
noncomputable def f99_78 (s_238 : (List Int)) : Option (Int) :=
  ((Lp.run (f99_78_L1 s_238) 0).bind fun r_ => match r_ with | (Sum.inl _) => (some (-1)) | (Sum.inr v_248) => (some v_248))
theorem f99_78_ok {s_238 : (List Int)} {r_ : Int} (H : f99_78 s_238 = some r_) : Pure Try.prog 99 [.sl 0 false (s_238.map (AV.int .i64)), .fn 78 []] (· = .int .i64 r_) := by
 refine Pure.walk3 fd99 none (Nat.le_of_ble_eq_true rfl) (by rfl) fun Q hQ => ?_
 simp only [f99_78] at H
 refine AW.rseq ?_
 try simp only [wm, ↓wk, ↓wl, nq, evV, ↓reduceIte, sevalprocAttr]
 refine AW.sseq ?_
 refine AW.rseq ?_
 try simp only [wm, ↓wk, ↓wl, nq, evV, ↓reduceIte, sevalprocAttr]
 refine AW.bend ?_
 refine AW.iter H ((Le.tz [] [0, 1, 7, 8] (by simp only [f99_78_L1c, wm, wmr, rrm, ↓wk, ↓wl, evV, ↓reduceIte, sevalprocAttr] <;> rfl))) ?_ <;> clear H
 rintro v_245 x_ st0_ H hst_
 rw [f99_78_L1c] at hst_
 simp only [f99_78_L1] at H
 subst hst_
 refine AW.rseq ?_
 try simp only [wm, ↓wk, ↓wl, nq, evV, ↓reduceIte, sevalprocAttr]
 refine AW.sseq ?_
 refine AW.ifc H (by rfl) ?_ ?_ <;> clear H <;> intro H
 ·refine AW.skip ?_
  refine seqQ.norm ?_
  refine AW.bseq ?_
  refine AW.rseq ?_
  try simp only [wm, ↓wk, ↓wl, nq, evV, ↓reduceIte, sevalprocAttr]
  refine AW.rseq ?_
  try simp only [wm, ↓wk, ↓wl, nq, evV, ↓reduceIte, sevalprocAttr]
  refine evTs_at (enc := (AV.int .i64)) H (by rfl) (by rfl) ?_ <;> clear H <;> intro x_249 H
  try simp only [wm, ↓wk, ↓wl, nq, evV, ↓reduceIte, sevalprocAttr]
  refine evTs_pure hFn H (fun _ h => f78_ok h) (by rfl) (by rfl) (by rfl) (by rfl) (fun _ => rfl) ?_ <;> clear H <;> intro r_250 H
  try simp only [eL, wm, ↓wk, ↓wl, nq, evV, ↓reduceIte, sevalprocAttr]
  refine AW.ifc H (by rfl) ?_ ?_ <;> clear H <;> intro H
  ·refine AW.rseq ?_
   try simp only [wm, ↓wk, ↓wl, nq, evV, ↓reduceIte, sevalprocAttr]
   refine AW.ret ?_
   refine blkQ.ret ?_
   refine loopQ.ret H ?_ <;> clear H <;> intro H
   try dsimp only at H
   refine blk0.ret ?_
   refine seqQ.ret ?_
   cases H
   exact hQ _ _ _ _ (.inr rfl) (by simp only [resVs, omap, resV, wm, ↓wk, ↓wl, nq, evV, ↓reduceIte, sevalprocAttr]; rfl) (hand_plain (by rfl)) (by first | exact Or.inl rfl | exact Or.inr rfl)
  ·refine AW.skip ?_
   refine blkQ.norm ?_
   refine AW.rend ?_
   try simp only [wm, ↓wk, ↓wl, nq, evV, ↓reduceIte, sevalprocAttr]
   exact loopQ.next H ((Le.tz [] [0, 1, 7, 8] (by simp only [f99_78_L1c, wm, wmr, rrm, ↓wk, ↓wl, evV, ↓reduceIte, sevalprocAttr] <;> rfl)))
 ·refine AW.exit ?_
  refine seqQ.exit ?_
  refine loopQ.exit H ?_ <;> clear H <;> intro H
  try dsimp only at H
  refine blk0.here ?_
  refine seqQ.norm ?_
  refine AW.rseq ?_
  try simp only [wm, ↓wk, ↓wl, nq, evV, ↓reduceIte, sevalprocAttr]
  refine AW.ret ?_
  cases H
  exact hQ _ _ _ _ (.inr rfl) (by simp only [resVs, omap, resV, wm, ↓wk, ↓wl, nq, evV, ↓reduceIte, sevalprocAttr]; rfl) (hand_plain (by rfl)) (by first | exact Or.inl rfl | exact Or.inr rfl)
def c77_0 : C := .seq (.reg [iI 5 (.mv (.t 0)), iI 6 (.mv (.t 1)), iI 7 (.call (.c (.fn 99 [])) [(.t 5), (.t 6)]), iI 8 (.bin .geq (.t 7) (.c (.int .i64 0))), iI 4 (.mv (.t 8))]) .ret
def ir77 : C := .seq (.reg [iI 4 (.mv (.c (.bool false)))]) c77_0
theorem fd77 : fd? Try.prog 77 = some (9, [.slot 4], ir77) := by kernel_rfl
noncomputable def f77_78 (s_237 : (List Int)) : Option (Bool) :=
  (f99_78 s_237).bind fun r_251 => (some (decide (0 ≤ r_251)))
theorem f77_78_ok {s_237 : (List Int)} {r_ : Bool} (H : f77_78 s_237 = some r_) : Pure Try.prog 77 [.sl 0 false (s_237.map (AV.int .i64)), .fn 78 []] (· = .bool r_) := by
 refine Pure.walk3 fd77 none (Nat.le_of_ble_eq_true rfl) (by rfl) fun Q hQ => ?_
 simp only [f77_78] at H
 refine AW.rseq ?_
 try simp only [wm, ↓wk, ↓wl, nq, evV, ↓reduceIte, sevalprocAttr]
 refine AW.rseq ?_
 try simp only [wm, ↓wk, ↓wl, nq, evV, ↓reduceIte, sevalprocAttr]
 refine evTs_pure hFn H (fun _ h => f99_78_ok h) (by rfl) (by rfl) (by rfl) (by rfl) (fun _ => rfl) ?_ <;> clear H <;> intro r_251 H
 try simp only [eL, wm, ↓wk, ↓wl, nq, evV, ↓reduceIte, sevalprocAttr]
 refine AW.ret ?_
 cases H
 exact hQ _ _ _ _ (.inr rfl) (by simp only [resVs, omap, resV, wm, ↓wk, ↓wl, nq, evV, ↓reduceIte, sevalprocAttr]; rfl) (hand_plain (by rfl)) (by first | exact Or.inl rfl | exact Or.inr rfl)
noncomputable def f51_J1 (r_130 : PatchRig) (x_132 : ApiFixture) (i_131 : Int) : Jn (Unit) (Int) where
  run := fun _ => (look? (r_130.fProfiles : (List ((List UInt8) × ApiProfile))) x_132.fProfile ((ApiProfile.mk ([]) 0 0 ([])) : ApiProfile) fun m_150 ok_151 => (if (!ok_151) = true then (some 6) else (if (decide (m_150.fFootprint < 1)) = true then (some 2) else (if (decide ((IntKind.i64.wrap ((IntKind.i64.wrap (512 - x_132.fAddress)) + 1)) < m_150.fFootprint)) = true then (some 2) else (slc? r_130.fFixtures 0 i_131).bind fun s_152 => (f61 (PatchRig.mk s_152 r_130.fProfiles) x_132.fChannel x_132.fPart).bind fun r_175 => (if (decide (0 ≤ r_175)) = true then (some 7) else (f54 (PatchRig.mk s_152 r_130.fProfiles) x_132.fUniverse).bind fun r_233 => (arr0? 513 (0 : Int)).bind fun slots_234 => (must? (slots_234.length = 513 ∧ r_233.length = 513)).bind fun _ => (must? (r_233.length = 513)).bind fun _ => (slc? r_233 x_132.fAddress (IntKind.i64.wrap (x_132.fAddress + m_150.fFootprint))).bind fun part_235 => (f77_78 part_235).bind fun r_252 => (if r_252 = true then (some 10) else (some 0)))))))
  cst := fun _ => ⟨put (put (put (fun _ => .junk) 5 (.ptr 1 0)) 2 (.ptr 0 0)) 1 (.int .i64 i_131), [.cel [.sl 7 false (r_130.fFixtures.map eApiFixture), .mp (mk AV.str r_130.fProfiles) (mv eApiProfile r_130.fProfiles)], .cel [.int .i64 x_132.fChannel, .int .i64 x_132.fPart, .str x_132.fProfile, .int .i64 x_132.fUniverse, .int .i64 x_132.fAddress, .int .i64 x_132.fPhase, .str x_132.fCable]]⟩
theorem f51_J1c (r_130 : PatchRig) (x_132 : ApiFixture) (i_131 : Int) (x_ : Unit) : (f51_J1 r_130 x_132 i_131).cst x_ = ⟨put (put (put (fun _ => .junk) 5 (.ptr 1 0)) 2 (.ptr 0 0)) 1 (.int .i64 i_131), [.cel [.sl 7 false (r_130.fFixtures.map eApiFixture), .mp (mk AV.str r_130.fProfiles) (mv eApiProfile r_130.fProfiles)], .cel [.int .i64 x_132.fChannel, .int .i64 x_132.fPart, .str x_132.fProfile, .int .i64 x_132.fUniverse, .int .i64 x_132.fAddress, .int .i64 x_132.fPhase, .str x_132.fCable]]⟩ := rfl
def c51_0 : C := .cond (.t 17) (.seq (.reg [iI 4 (.mv (.c (.int .i64 2)))]) .ret) (.skip)
def c51_1 : C := .cond (.t 26) (.seq (.reg [iI 4 (.mv (.c (.int .i64 8)))]) .ret) (.skip)
def c51_2 : C := .cond (.t 36) (.seq (.reg [iI 4 (.mv (.c (.int .i64 6)))]) .ret) (.skip)
def c51_3 : C := .cond (.t 48) (.seq (.reg [iI 4 (.mv (.c (.int .i64 2)))]) .ret) (.skip)
def c51_4 : C := .cond (.t 62) (.seq (.reg [iI 4 (.mv (.c (.int .i64 7)))]) .ret) (.skip)
def c51_5 : C := .cond (.t 75) (.seq (.reg [iI 4 (.mv (.c (.int .i64 10)))]) .ret) (.skip)
def c51_6 : C := .seq (.reg [iI 4 (.mv (.c (.int .i64 0)))]) .ret
def c51_7 : C := .seq (.seq (.reg [iI 67 (.faddr 4 (.t 5)), iI 68 (.load 0 (.t 67)), iI 69 (.faddr 4 (.t 5)), iI 70 (.load 0 (.t 69)), iI 71 (.faddr 1 (.t 6)), iI 72 (.load 0 (.t 71)), iI 73 (.bin .add (.t 70) (.t 72)), iI 74 (.aslice 0 513 (.t 9) (some (.t 68)) (some (.t 73))), iI 75 (.call (.c (.fn 77 [])) [(.t 74), (.c (.fn 78 []))])]) c51_5) c51_6
def c51_8 : C := .seq (.reg [iI 63 (.load 2 (.t 8)), iI 64 (.faddr 3 (.t 5)), iI 65 (.load 0 (.t 64)), iI 66 (.call (.c (.fn 54 [])) [(.t 63), (.t 65)]), iI 9 (.alloc [(513, (.int .i64 0))]), iN (.store 513 (.t 9) (.t 66))]) c51_7
def c51_9 : C := .seq (.seq (.reg [iI 56 (.load 2 (.t 8)), iI 57 (.faddr 0 (.t 5)), iI 58 (.load 0 (.t 57)), iI 59 (.faddr 1 (.t 5)), iI 60 (.load 0 (.t 59)), iI 61 (.call (.c (.fn 61 [])) [(.t 56), (.t 58), (.t 60)]), iI 62 (.bin .geq (.t 61) (.c (.int .i64 0)))]) c51_4) c51_8
def c51_10 : C := .seq (.reg [iI 49 (.faddr 0 (.t 2)), iI 50 (.load 0 (.t 49)), iI 51 (.mv (.t 1)), iI 52 (.slice 7 (.t 50) none (some (.t 51))), iI 53 (.faddr 1 (.t 2)), iI 54 (.load 0 (.t 53)), iI 55 (.build [(1, (.sl 7 true [])), (1, .nilmp)] [(0, 0, (.t 52)), (1, 0, (.t 54))]), iI 8 (.alloc [(1, (.sl 7 true [])), (1, .nilmp)]), iN (.store 2 (.t 8) (.t 55))]) c51_9
def c51_11 : C := .seq (.seq (.reg [iI 37 (.faddr 1 (.t 6)), iI 38 (.load 0 (.t 37)), iI 39 (.bin .lss (.t 38) (.c (.int .i64 1))), iI 40 (.mv (.t 39)), iG (some 41) 40 false (.faddr 1 (.t 6)), iG (some 42) 40 false (.load 0 (.t 41)), iG (some 43) 40 false (.faddr 4 (.t 5)), iG (some 44) 40 false (.load 0 (.t 43)), iG (some 45) 40 false (.bin .sub (.c (.int .i64 512)) (.t 44)), iG (some 46) 40 false (.bin .add (.t 45) (.c (.int .i64 1))), iG (some 47) 40 false (.bin .gtr (.t 42) (.t 46)), iI 48 (.pick (.t 40) (.c (.bool true)) (.t 47))]) c51_3) c51_10
def c51_12 : C := .seq (.seq (.reg [iI 35 (.mv (.t 7)), iI 36 (.un .not (.t 35))]) c51_2) c51_11
def c51_13 : C := .seq (.reg [iI 28 (.faddr 1 (.t 2)), iI 29 (.load 0 (.t 28)), iI 30 (.faddr 2 (.t 5)), iI 31 (.load 0 (.t 30)), iI 32 (.lookup 1 (.agg [(.str []), (.int .i64 0), (.int .i64 0), (.sl 10 true [])]) true (.t 29) (.t 31)), iI 27 (.mv (.t 32)), iI 33 (.ext (.t 27) 0), iI 34 (.ext (.t 27) 1), iI 6 (.alloc [(1, (.str [])), (1, (.int .i64 0)), (1, (.int .i64 0)), (1, (.sl 10 true []))]), iN (.store 4 (.t 6) (.t 33)), iI 7 (.mv (.t 34))]) c51_12
def c51_14 : C := .seq (.seq (.reg [iI 18 (.faddr 6 (.t 5)), iI 19 (.load 0 (.t 18)), iI 20 (.bin .neq (.t 19) (.c (.str []))), iI 21 (.mv (.t 20)), iG (some 22) 21 true (.faddr 6 (.t 5)), iG (some 23) 21 true (.load 0 (.t 22)), iG (some 24) 21 true (.call (.c (.fn 76 [])) [(.t 23)]), iG (some 25) 21 true (.un .not (.t 24)), iI 26 (.pick (.t 21) (.t 25) (.c (.bool false)))]) c51_1) c51_13
def c51_15 : C := .seq (.seq (.reg [iI 15 (.load 7 (.t 5)), iI 16 (.call (.c (.fn 75 [])) [(.t 15)]), iI 17 (.un .not (.t 16))]) c51_0) c51_14
def c51_16 : C := .seq (.reg [iI 10 (.faddr 0 (.t 2)), iI 11 (.load 0 (.t 10)), iI 12 (.mv (.t 1)), iI 13 (.iaddr 7 (.t 11) (.t 12)), iI 14 (.load 7 (.t 13)), iI 5 (.alloc [(1, (.int .i64 0)), (1, (.int .i64 0)), (1, (.str [])), (1, (.int .i64 0)), (1, (.int .i64 0)), (1, (.int .i64 0)), (1, (.str []))]), iN (.store 7 (.t 5) (.t 14))]) c51_15
def ir51 : C := .seq (.reg [iI 2 (.box (.t 0)), iI 4 (.mv (.c (.int .i64 0)))]) c51_16
theorem fd51 : fd? Try.prog 51 = some (76, [.slot 4], ir51) := by kernel_rfl
noncomputable def f51 (r_130 : PatchRig) (i_131 : Int) : Option (Int) :=
  (at? r_130.fFixtures i_131).bind fun x_132 => (f75 x_132).bind fun r_141 => (if (!r_141) = true then (some 2) else (if (!(x_132.fCable == ([]))) = true then (f76 x_132.fCable).bind fun r_253 => (if (!r_253) = true then (some 8) else ((f51_J1 r_130 x_132 i_131).run ())) else ((f51_J1 r_130 x_132 i_131).run ())))
theorem f51_ok {r_130 : PatchRig} {i_131 : Int} {r_ : Int} (H : f51 r_130 i_131 = some r_) : Pure Try.prog 51 [.agg [.sl 7 false (r_130.fFixtures.map eApiFixture), .mp (mk AV.str r_130.fProfiles) (mv eApiProfile r_130.fProfiles)], .int .i64 i_131] (· = .int .i64 r_) := by
 refine Pure.walk3 fd51 none (Nat.le_of_ble_eq_true rfl) (by rfl) fun Q hQ => ?_
 simp only [f51] at H
 refine AW.rseq ?_
 try simp only [wm, ↓wk, ↓wl, nqa, evV, ↓reduceIte, Nat.reduceEqDiff, Nat.reduceAdd, Nat.reduceSub, Nat.reduceLeDiff, Nat.reduceLT, Nat.reduceBEq, reduceCtorEq, Int.reduceEq]
 refine evTs_any rfl (by simp only [nc, wm, ↓wk, ↓wl, nqa, evV, ↓reduceIte, Nat.reduceEqDiff, Nat.reduceAdd, Nat.reduceSub, Nat.reduceLeDiff, Nat.reduceLT, Nat.reduceBEq, reduceCtorEq, Int.reduceEq, Nat.reduceLeDiff]; rfl) ?_
 try simp only [wm, ↓wk, ↓wl, nqa, evV, ↓reduceIte, Nat.reduceEqDiff, Nat.reduceAdd, Nat.reduceSub, Nat.reduceLeDiff, Nat.reduceLT, Nat.reduceBEq, reduceCtorEq, Int.reduceEq]
 refine AW.rseq ?_
 try simp only [wm, ↓wk, ↓wl, nqa, evV, ↓reduceIte, Nat.reduceEqDiff, Nat.reduceAdd, Nat.reduceSub, Nat.reduceLeDiff, Nat.reduceLT, Nat.reduceBEq, reduceCtorEq, Int.reduceEq]
 refine evTs_any rfl (by simp only [nc, wm, ↓wk, ↓wl, nqa, evV, ↓reduceIte, Nat.reduceEqDiff, Nat.reduceAdd, Nat.reduceSub, Nat.reduceLeDiff, Nat.reduceLT, Nat.reduceBEq, reduceCtorEq, Int.reduceEq, Nat.reduceLeDiff]; rfl) ?_
 try simp only [wm, ↓wk, ↓wl, nqa, evV, ↓reduceIte, Nat.reduceEqDiff, Nat.reduceAdd, Nat.reduceSub, Nat.reduceLeDiff, Nat.reduceLT, Nat.reduceBEq, reduceCtorEq, Int.reduceEq]
 refine evTs_at (enc := eApiFixture) H (by rfl) (by rfl) ?_ <;> clear H <;> intro x_132 H
 try simp only [eApiFixture, eL, eM, wm, ↓wk, ↓wl, nqa, evV, ↓reduceIte, Nat.reduceEqDiff, Nat.reduceAdd, Nat.reduceSub, Nat.reduceLeDiff, Nat.reduceLT, Nat.reduceBEq, reduceCtorEq, Int.reduceEq]
 refine evTs_any rfl (by simp only [nc, wm, ↓wk, ↓wl, nqa, evV, ↓reduceIte, Nat.reduceEqDiff, Nat.reduceAdd, Nat.reduceSub, Nat.reduceLeDiff, Nat.reduceLT, Nat.reduceBEq, reduceCtorEq, Int.reduceEq, Nat.reduceLeDiff]; rfl) ?_
 try simp only [wm, ↓wk, ↓wl, nqa, evV, ↓reduceIte, Nat.reduceEqDiff, Nat.reduceAdd, Nat.reduceSub, Nat.reduceLeDiff, Nat.reduceLT, Nat.reduceBEq, reduceCtorEq, Int.reduceEq]
 refine evTs_any rfl (by simp only [nc, wm, ↓wk, ↓wl, nqa, evV, ↓reduceIte, Nat.reduceEqDiff, Nat.reduceAdd, Nat.reduceSub, Nat.reduceLeDiff, Nat.reduceLT, Nat.reduceBEq, reduceCtorEq, Int.reduceEq, Nat.reduceLeDiff]; rfl) ?_
 try simp only [wm, ↓wk, ↓wl, nqa, evV, ↓reduceIte, Nat.reduceEqDiff, Nat.reduceAdd, Nat.reduceSub, Nat.reduceLeDiff, Nat.reduceLT, Nat.reduceBEq, reduceCtorEq, Int.reduceEq]
 refine evTs_st (by simp only [wm, ↓wk, ↓wl, nqa, evV, ↓reduceIte, Nat.reduceEqDiff, Nat.reduceAdd, Nat.reduceSub, Nat.reduceLeDiff, Nat.reduceLT, Nat.reduceBEq, reduceCtorEq, Int.reduceEq, Nat.reduceLeDiff]; rfl) ?_
 try simp only [wm, ↓wk, ↓wl, nqa, evV, ↓reduceIte, Nat.reduceEqDiff, Nat.reduceAdd, Nat.reduceSub, Nat.reduceLeDiff, Nat.reduceLT, Nat.reduceBEq, reduceCtorEq, Int.reduceEq]
 refine AW.sseq ?_
 refine AW.rseq ?_
 try simp only [wm, ↓wk, ↓wl, nqa, evV, ↓reduceIte, Nat.reduceEqDiff, Nat.reduceAdd, Nat.reduceSub, Nat.reduceLeDiff, Nat.reduceLT, Nat.reduceBEq, reduceCtorEq, Int.reduceEq]
 refine evTs_any rfl (by simp only [nc, wm, ↓wk, ↓wl, nqa, evV, ↓reduceIte, Nat.reduceEqDiff, Nat.reduceAdd, Nat.reduceSub, Nat.reduceLeDiff, Nat.reduceLT, Nat.reduceBEq, reduceCtorEq, Int.reduceEq, Nat.reduceLeDiff]; rfl) ?_
 try simp only [wm, ↓wk, ↓wl, nqa, evV, ↓reduceIte, Nat.reduceEqDiff, Nat.reduceAdd, Nat.reduceSub, Nat.reduceLeDiff, Nat.reduceLT, Nat.reduceBEq, reduceCtorEq, Int.reduceEq]
 refine evTs_pure hFn H (fun _ h => f75_ok h) (by rfl) (by rfl) (by rfl) (by rfl) (fun _ => rfl) ?_ <;> clear H <;> intro r_141 H
 try simp only [eL, wm, ↓wk, ↓wl, nqa, evV, ↓reduceIte, Nat.reduceEqDiff, Nat.reduceAdd, Nat.reduceSub, Nat.reduceLeDiff, Nat.reduceLT, Nat.reduceBEq, reduceCtorEq, Int.reduceEq]
 refine AW.ifc H (by rfl) ?_ ?_ <;> clear H <;> intro H
 ·refine AW.rseq ?_
  try simp only [wm, ↓wk, ↓wl, nqa, evV, ↓reduceIte, Nat.reduceEqDiff, Nat.reduceAdd, Nat.reduceSub, Nat.reduceLeDiff, Nat.reduceLT, Nat.reduceBEq, reduceCtorEq, Int.reduceEq]
  refine AW.ret ?_
  refine seqQ.ret ?_
  cases H
  exact hQ _ _ _ _ (.inr rfl) (by simp only [resVs, omap, resV, wm, ↓wk, ↓wl, nqa, evV, ↓reduceIte, Nat.reduceEqDiff, Nat.reduceAdd, Nat.reduceSub, Nat.reduceLeDiff, Nat.reduceLT, Nat.reduceBEq, reduceCtorEq, Int.reduceEq]; rfl) (hand_plain (by rfl)) (by first | exact Or.inl rfl | exact Or.inr rfl)
 ·refine AW.skip ?_
  refine seqQ.norm ?_
  refine AW.join (f51_J1 r_130 x_132 i_131) H ?_ fun hf51_J1 => ?_
  ·clear H
   rintro _ st0_ H hst_
   rw [f51_J1c] at hst_
   simp only [f51_J1] at H
   subst hst_
   refine AW.rseq ?_
   try simp only [wm, ↓wk, ↓wl, nqa, evV, ↓reduceIte, Nat.reduceEqDiff, Nat.reduceAdd, Nat.reduceSub, Nat.reduceLeDiff, Nat.reduceLT, Nat.reduceBEq, reduceCtorEq, Int.reduceEq]
   refine evTs_any rfl (by simp only [nc, wm, ↓wk, ↓wl, nqa, evV, ↓reduceIte, Nat.reduceEqDiff, Nat.reduceAdd, Nat.reduceSub, Nat.reduceLeDiff, Nat.reduceLT, Nat.reduceBEq, reduceCtorEq, Int.reduceEq, Nat.reduceLeDiff]; rfl) ?_
   try simp only [wm, ↓wk, ↓wl, nqa, evV, ↓reduceIte, Nat.reduceEqDiff, Nat.reduceAdd, Nat.reduceSub, Nat.reduceLeDiff, Nat.reduceLT, Nat.reduceBEq, reduceCtorEq, Int.reduceEq]
   refine evTs_any rfl (by simp only [nc, wm, ↓wk, ↓wl, nqa, evV, ↓reduceIte, Nat.reduceEqDiff, Nat.reduceAdd, Nat.reduceSub, Nat.reduceLeDiff, Nat.reduceLT, Nat.reduceBEq, reduceCtorEq, Int.reduceEq, Nat.reduceLeDiff]; rfl) ?_
   try simp only [wm, ↓wk, ↓wl, nqa, evV, ↓reduceIte, Nat.reduceEqDiff, Nat.reduceAdd, Nat.reduceSub, Nat.reduceLeDiff, Nat.reduceLT, Nat.reduceBEq, reduceCtorEq, Int.reduceEq]
   refine evTs_lookP (ek := AV.str) (ev := eApiProfile) H true (by rfl) (by rfl) (by rfl) ?_ <;> clear H <;> intro m_150 ok_151 H
   try simp only [eApiProfile, eL, eM, wm, ↓wk, ↓wl, nqa, evV, ↓reduceIte, Nat.reduceEqDiff, Nat.reduceAdd, Nat.reduceSub, Nat.reduceLeDiff, Nat.reduceLT, Nat.reduceBEq, reduceCtorEq, Int.reduceEq]
   refine evTs_any rfl (by simp only [nc, wm, ↓wk, ↓wl, nqa, evV, ↓reduceIte, Nat.reduceEqDiff, Nat.reduceAdd, Nat.reduceSub, Nat.reduceLeDiff, Nat.reduceLT, Nat.reduceBEq, reduceCtorEq, Int.reduceEq, Nat.reduceLeDiff]; rfl) ?_
   try simp only [wm, ↓wk, ↓wl, nqa, evV, ↓reduceIte, Nat.reduceEqDiff, Nat.reduceAdd, Nat.reduceSub, Nat.reduceLeDiff, Nat.reduceLT, Nat.reduceBEq, reduceCtorEq, Int.reduceEq]
   refine evTs_st (by simp only [wm, ↓wk, ↓wl, nqa, evV, ↓reduceIte, Nat.reduceEqDiff, Nat.reduceAdd, Nat.reduceSub, Nat.reduceLeDiff, Nat.reduceLT, Nat.reduceBEq, reduceCtorEq, Int.reduceEq, Nat.reduceLeDiff]; rfl) ?_
   try simp only [wm, ↓wk, ↓wl, nqa, evV, ↓reduceIte, Nat.reduceEqDiff, Nat.reduceAdd, Nat.reduceSub, Nat.reduceLeDiff, Nat.reduceLT, Nat.reduceBEq, reduceCtorEq, Int.reduceEq]
   refine AW.sseq ?_
   refine AW.rseq ?_
   try simp only [wm, ↓wk, ↓wl, nqa, evV, ↓reduceIte, Nat.reduceEqDiff, Nat.reduceAdd, Nat.reduceSub, Nat.reduceLeDiff, Nat.reduceLT, Nat.reduceBEq, reduceCtorEq, Int.reduceEq]
   refine AW.ifc H (by rfl) ?_ ?_ <;> clear H <;> intro H
   ·refine AW.rseq ?_
    try simp only [wm, ↓wk, ↓wl, nqa, evV, ↓reduceIte, Nat.reduceEqDiff, Nat.reduceAdd, Nat.reduceSub, Nat.reduceLeDiff, Nat.reduceLT, Nat.reduceBEq, reduceCtorEq, Int.reduceEq]
    refine AW.ret ?_
    refine seqQ.ret ?_
    cases H
    exact hQ _ _ _ _ (.inr rfl) (by simp only [resVs, omap, resV, wm, ↓wk, ↓wl, nqa, evV, ↓reduceIte, Nat.reduceEqDiff, Nat.reduceAdd, Nat.reduceSub, Nat.reduceLeDiff, Nat.reduceLT, Nat.reduceBEq, reduceCtorEq, Int.reduceEq]; rfl) (hand_plain (by rfl)) (by first | exact Or.inl rfl | exact Or.inr rfl)
   ·refine AW.skip ?_
    refine seqQ.norm ?_
    refine AW.sseq ?_
    refine AW.rseq ?_
    try simp only [wm, ↓wk, ↓wl, nqa, evV, ↓reduceIte, Nat.reduceEqDiff, Nat.reduceAdd, Nat.reduceSub, Nat.reduceLeDiff, Nat.reduceLT, Nat.reduceBEq, reduceCtorEq, Int.reduceEq]
    refine evTs_any rfl (by simp only [nc, wm, ↓wk, ↓wl, nqa, evV, ↓reduceIte, Nat.reduceEqDiff, Nat.reduceAdd, Nat.reduceSub, Nat.reduceLeDiff, Nat.reduceLT, Nat.reduceBEq, reduceCtorEq, Int.reduceEq, Nat.reduceLeDiff]; rfl) ?_
    try simp only [wm, ↓wk, ↓wl, nqa, evV, ↓reduceIte, Nat.reduceEqDiff, Nat.reduceAdd, Nat.reduceSub, Nat.reduceLeDiff, Nat.reduceLT, Nat.reduceBEq, reduceCtorEq, Int.reduceEq]
    refine evTs_ifg H (by rfl) ?_ ?_ <;> clear H <;> intro H
    ·try simp only [wm, ↓wk, ↓wl, nqa, evV, ↓reduceIte, Nat.reduceEqDiff, Nat.reduceAdd, Nat.reduceSub, Nat.reduceLeDiff, Nat.reduceLT, Nat.reduceBEq, reduceCtorEq, Int.reduceEq]
     refine AW.ift (by rfl) ?_
     refine AW.rseq ?_
     try simp only [wm, ↓wk, ↓wl, nqa, evV, ↓reduceIte, Nat.reduceEqDiff, Nat.reduceAdd, Nat.reduceSub, Nat.reduceLeDiff, Nat.reduceLT, Nat.reduceBEq, reduceCtorEq, Int.reduceEq]
     refine AW.ret ?_
     refine seqQ.ret ?_
     cases H
     exact hQ _ _ _ _ (.inr rfl) (by simp only [resVs, omap, resV, wm, ↓wk, ↓wl, nqa, evV, ↓reduceIte, Nat.reduceEqDiff, Nat.reduceAdd, Nat.reduceSub, Nat.reduceLeDiff, Nat.reduceLT, Nat.reduceBEq, reduceCtorEq, Int.reduceEq]; rfl) (hand_plain (by rfl)) (by first | exact Or.inl rfl | exact Or.inr rfl)
    ·try simp only [wm, ↓wk, ↓wl, nqa, evV, ↓reduceIte, Nat.reduceEqDiff, Nat.reduceAdd, Nat.reduceSub, Nat.reduceLeDiff, Nat.reduceLT, Nat.reduceBEq, reduceCtorEq, Int.reduceEq]
     refine evTs_any rfl (by simp only [nc, wm, ↓wk, ↓wl, nqa, evV, ↓reduceIte, Nat.reduceEqDiff, Nat.reduceAdd, Nat.reduceSub, Nat.reduceLeDiff, Nat.reduceLT, Nat.reduceBEq, reduceCtorEq, Int.reduceEq, Nat.reduceLeDiff]; rfl) ?_
     try simp only [wm, ↓wk, ↓wl, nqa, evV, ↓reduceIte, Nat.reduceEqDiff, Nat.reduceAdd, Nat.reduceSub, Nat.reduceLeDiff, Nat.reduceLT, Nat.reduceBEq, reduceCtorEq, Int.reduceEq]
     refine evTs_any rfl (by simp only [nc, wm, ↓wk, ↓wl, nqa, evV, ↓reduceIte, Nat.reduceEqDiff, Nat.reduceAdd, Nat.reduceSub, Nat.reduceLeDiff, Nat.reduceLT, Nat.reduceBEq, reduceCtorEq, Int.reduceEq, Nat.reduceLeDiff]; rfl) ?_
     try simp only [wm, ↓wk, ↓wl, nqa, evV, ↓reduceIte, Nat.reduceEqDiff, Nat.reduceAdd, Nat.reduceSub, Nat.reduceLeDiff, Nat.reduceLT, Nat.reduceBEq, reduceCtorEq, Int.reduceEq]
     refine AW.ifc H (by rfl) ?_ ?_ <;> clear H <;> intro H
     ·refine AW.rseq ?_
      try simp only [wm, ↓wk, ↓wl, nqa, evV, ↓reduceIte, Nat.reduceEqDiff, Nat.reduceAdd, Nat.reduceSub, Nat.reduceLeDiff, Nat.reduceLT, Nat.reduceBEq, reduceCtorEq, Int.reduceEq]
      refine AW.ret ?_
      refine seqQ.ret ?_
      cases H
      exact hQ _ _ _ _ (.inr rfl) (by simp only [resVs, omap, resV, wm, ↓wk, ↓wl, nqa, evV, ↓reduceIte, Nat.reduceEqDiff, Nat.reduceAdd, Nat.reduceSub, Nat.reduceLeDiff, Nat.reduceLT, Nat.reduceBEq, reduceCtorEq, Int.reduceEq]; rfl) (hand_plain (by rfl)) (by first | exact Or.inl rfl | exact Or.inr rfl)
     ·refine AW.skip ?_
      refine seqQ.norm ?_
      refine AW.rseq ?_
      try simp only [wm, ↓wk, ↓wl, nqa, evV, ↓reduceIte, Nat.reduceEqDiff, Nat.reduceAdd, Nat.reduceSub, Nat.reduceLeDiff, Nat.reduceLT, Nat.reduceBEq, reduceCtorEq, Int.reduceEq]
      refine evTs_any rfl (by simp only [nc, wm, ↓wk, ↓wl, nqa, evV, ↓reduceIte, Nat.reduceEqDiff, Nat.reduceAdd, Nat.reduceSub, Nat.reduceLeDiff, Nat.reduceLT, Nat.reduceBEq, reduceCtorEq, Int.reduceEq, Nat.reduceLeDiff]; rfl) ?_
      try simp only [wm, ↓wk, ↓wl, nqa, evV, ↓reduceIte, Nat.reduceEqDiff, Nat.reduceAdd, Nat.reduceSub, Nat.reduceLeDiff, Nat.reduceLT, Nat.reduceBEq, reduceCtorEq, Int.reduceEq]
      refine evTs_slc (enc := eApiFixture) H (by rfl) (by rfl) (by simp only [loI, hiI, wm, ↓wk, ↓wl, nqa, evV, ↓reduceIte, Nat.reduceEqDiff, Nat.reduceAdd, Nat.reduceSub, Nat.reduceLeDiff, Nat.reduceLT, Nat.reduceBEq, reduceCtorEq, Int.reduceEq]; rfl) (by simp only [loI, hiI, wm, ↓wk, ↓wl, nqa, evV, ↓reduceIte, Nat.reduceEqDiff, Nat.reduceAdd, Nat.reduceSub, Nat.reduceLeDiff, Nat.reduceLT, Nat.reduceBEq, reduceCtorEq, Int.reduceEq]; rfl) ?_ <;> clear H <;> intro s_152 H
      try simp only [wm, ↓wk, ↓wl, nqa, evV, ↓reduceIte, Nat.reduceEqDiff, Nat.reduceAdd, Nat.reduceSub, Nat.reduceLeDiff, Nat.reduceLT, Nat.reduceBEq, reduceCtorEq, Int.reduceEq]
      refine evTs_any rfl (by simp only [nc, wm, ↓wk, ↓wl, nqa, evV, ↓reduceIte, Nat.reduceEqDiff, Nat.reduceAdd, Nat.reduceSub, Nat.reduceLeDiff, Nat.reduceLT, Nat.reduceBEq, reduceCtorEq, Int.reduceEq, Nat.reduceLeDiff]; rfl) ?_
      try simp only [wm, ↓wk, ↓wl, nqa, evV, ↓reduceIte, Nat.reduceEqDiff, Nat.reduceAdd, Nat.reduceSub, Nat.reduceLeDiff, Nat.reduceLT, Nat.reduceBEq, reduceCtorEq, Int.reduceEq]
      refine evTs_any rfl (by simp only [nc, wm, ↓wk, ↓wl, nqa, evV, ↓reduceIte, Nat.reduceEqDiff, Nat.reduceAdd, Nat.reduceSub, Nat.reduceLeDiff, Nat.reduceLT, Nat.reduceBEq, reduceCtorEq, Int.reduceEq, Nat.reduceLeDiff]; rfl) ?_
      try simp only [wm, ↓wk, ↓wl, nqa, evV, ↓reduceIte, Nat.reduceEqDiff, Nat.reduceAdd, Nat.reduceSub, Nat.reduceLeDiff, Nat.reduceLT, Nat.reduceBEq, reduceCtorEq, Int.reduceEq]
      refine evTs_st (by simp only [wm, ↓wk, ↓wl, nqa, evV, ↓reduceIte, Nat.reduceEqDiff, Nat.reduceAdd, Nat.reduceSub, Nat.reduceLeDiff, Nat.reduceLT, Nat.reduceBEq, reduceCtorEq, Int.reduceEq, Nat.reduceLeDiff]; rfl) ?_
      try simp only [wm, ↓wk, ↓wl, nqa, evV, ↓reduceIte, Nat.reduceEqDiff, Nat.reduceAdd, Nat.reduceSub, Nat.reduceLeDiff, Nat.reduceLT, Nat.reduceBEq, reduceCtorEq, Int.reduceEq]
      refine AW.sseq ?_
      refine AW.rseq ?_
      try simp only [wm, ↓wk, ↓wl, nqa, evV, ↓reduceIte, Nat.reduceEqDiff, Nat.reduceAdd, Nat.reduceSub, Nat.reduceLeDiff, Nat.reduceLT, Nat.reduceBEq, reduceCtorEq, Int.reduceEq]
      refine evTs_any rfl (by simp only [nc, wm, ↓wk, ↓wl, nqa, evV, ↓reduceIte, Nat.reduceEqDiff, Nat.reduceAdd, Nat.reduceSub, Nat.reduceLeDiff, Nat.reduceLT, Nat.reduceBEq, reduceCtorEq, Int.reduceEq, Nat.reduceLeDiff]; rfl) ?_
      try simp only [wm, ↓wk, ↓wl, nqa, evV, ↓reduceIte, Nat.reduceEqDiff, Nat.reduceAdd, Nat.reduceSub, Nat.reduceLeDiff, Nat.reduceLT, Nat.reduceBEq, reduceCtorEq, Int.reduceEq]
      refine evTs_any rfl (by simp only [nc, wm, ↓wk, ↓wl, nqa, evV, ↓reduceIte, Nat.reduceEqDiff, Nat.reduceAdd, Nat.reduceSub, Nat.reduceLeDiff, Nat.reduceLT, Nat.reduceBEq, reduceCtorEq, Int.reduceEq, Nat.reduceLeDiff]; rfl) ?_
      try simp only [wm, ↓wk, ↓wl, nqa, evV, ↓reduceIte, Nat.reduceEqDiff, Nat.reduceAdd, Nat.reduceSub, Nat.reduceLeDiff, Nat.reduceLT, Nat.reduceBEq, reduceCtorEq, Int.reduceEq]
      refine evTs_any rfl (by simp only [nc, wm, ↓wk, ↓wl, nqa, evV, ↓reduceIte, Nat.reduceEqDiff, Nat.reduceAdd, Nat.reduceSub, Nat.reduceLeDiff, Nat.reduceLT, Nat.reduceBEq, reduceCtorEq, Int.reduceEq, Nat.reduceLeDiff]; rfl) ?_
      try simp only [wm, ↓wk, ↓wl, nqa, evV, ↓reduceIte, Nat.reduceEqDiff, Nat.reduceAdd, Nat.reduceSub, Nat.reduceLeDiff, Nat.reduceLT, Nat.reduceBEq, reduceCtorEq, Int.reduceEq]
      refine evTs_pure hFn H (fun _ h => f61_ok h) (by rfl) (by rfl) (by rfl) (by rfl) (fun _ => rfl) ?_ <;> clear H <;> intro r_175 H
      try simp only [eL, wm, ↓wk, ↓wl, nqa, evV, ↓reduceIte, Nat.reduceEqDiff, Nat.reduceAdd, Nat.reduceSub, Nat.reduceLeDiff, Nat.reduceLT, Nat.reduceBEq, reduceCtorEq, Int.reduceEq]
      refine AW.ifc H (by rfl) ?_ ?_ <;> clear H <;> intro H
      ·refine AW.rseq ?_
       try simp only [wm, ↓wk, ↓wl, nqa, evV, ↓reduceIte, Nat.reduceEqDiff, Nat.reduceAdd, Nat.reduceSub, Nat.reduceLeDiff, Nat.reduceLT, Nat.reduceBEq, reduceCtorEq, Int.reduceEq]
       refine AW.ret ?_
       refine seqQ.ret ?_
       cases H
       exact hQ _ _ _ _ (.inr rfl) (by simp only [resVs, omap, resV, wm, ↓wk, ↓wl, nqa, evV, ↓reduceIte, Nat.reduceEqDiff, Nat.reduceAdd, Nat.reduceSub, Nat.reduceLeDiff, Nat.reduceLT, Nat.reduceBEq, reduceCtorEq, Int.reduceEq]; rfl) (hand_plain (by rfl)) (by first | exact Or.inl rfl | exact Or.inr rfl)
      ·refine AW.skip ?_
       refine seqQ.norm ?_
       refine AW.rseq ?_
       try simp only [wm, ↓wk, ↓wl, nqa, evV, ↓reduceIte, Nat.reduceEqDiff, Nat.reduceAdd, Nat.reduceSub, Nat.reduceLeDiff, Nat.reduceLT, Nat.reduceBEq, reduceCtorEq, Int.reduceEq]
       refine evTs_any rfl (by simp only [nc, wm, ↓wk, ↓wl, nqa, evV, ↓reduceIte, Nat.reduceEqDiff, Nat.reduceAdd, Nat.reduceSub, Nat.reduceLeDiff, Nat.reduceLT, Nat.reduceBEq, reduceCtorEq, Int.reduceEq, Nat.reduceLeDiff]; rfl) ?_
       try simp only [wm, ↓wk, ↓wl, nqa, evV, ↓reduceIte, Nat.reduceEqDiff, Nat.reduceAdd, Nat.reduceSub, Nat.reduceLeDiff, Nat.reduceLT, Nat.reduceBEq, reduceCtorEq, Int.reduceEq]
       refine evTs_any rfl (by simp only [nc, wm, ↓wk, ↓wl, nqa, evV, ↓reduceIte, Nat.reduceEqDiff, Nat.reduceAdd, Nat.reduceSub, Nat.reduceLeDiff, Nat.reduceLT, Nat.reduceBEq, reduceCtorEq, Int.reduceEq, Nat.reduceLeDiff]; rfl) ?_
       try simp only [wm, ↓wk, ↓wl, nqa, evV, ↓reduceIte, Nat.reduceEqDiff, Nat.reduceAdd, Nat.reduceSub, Nat.reduceLeDiff, Nat.reduceLT, Nat.reduceBEq, reduceCtorEq, Int.reduceEq]
       refine evTs_pure hFn H (fun _ h => f54_ok h) (by rfl) (by rfl) (by rfl) (by rfl) (fun _ => rfl) ?_ <;> clear H <;> intro r_233 H
       try simp only [eL, eA, wm, ↓wk, ↓wl, nqa, evV, ↓reduceIte, Nat.reduceEqDiff, Nat.reduceAdd, Nat.reduceSub, Nat.reduceLeDiff, Nat.reduceLT, Nat.reduceBEq, reduceCtorEq, Int.reduceEq]
       refine evTs_arrn (enc := (AV.int .i64)) H (by rfl) ?_ <;> clear H <;> intro slots_234 H
       try simp only [wm, ↓wk, ↓wl, nqa, evV, ↓reduceIte, Nat.reduceEqDiff, Nat.reduceAdd, Nat.reduceSub, Nat.reduceLeDiff, Nat.reduceLT, Nat.reduceBEq, reduceCtorEq, Int.reduceEq]
       refine evTs_astore (enc := (AV.int .i64)) (xs := r_233) (ys := slots_234) H (by rfl) (by rfl) (by rfl) ?_ <;> clear H <;> intro H
       try simp only [wm, ↓wk, ↓wl, nqa, evV, ↓reduceIte, Nat.reduceEqDiff, Nat.reduceAdd, Nat.reduceSub, Nat.reduceLeDiff, Nat.reduceLT, Nat.reduceBEq, reduceCtorEq, Int.reduceEq]
       refine AW.sseq ?_
       refine AW.rseq ?_
       try simp only [wm, ↓wk, ↓wl, nqa, evV, ↓reduceIte, Nat.reduceEqDiff, Nat.reduceAdd, Nat.reduceSub, Nat.reduceLeDiff, Nat.reduceLT, Nat.reduceBEq, reduceCtorEq, Int.reduceEq]
       refine evTs_any rfl (by simp only [nc, wm, ↓wk, ↓wl, nqa, evV, ↓reduceIte, Nat.reduceEqDiff, Nat.reduceAdd, Nat.reduceSub, Nat.reduceLeDiff, Nat.reduceLT, Nat.reduceBEq, reduceCtorEq, Int.reduceEq, Nat.reduceLeDiff]; rfl) ?_
       try simp only [wm, ↓wk, ↓wl, nqa, evV, ↓reduceIte, Nat.reduceEqDiff, Nat.reduceAdd, Nat.reduceSub, Nat.reduceLeDiff, Nat.reduceLT, Nat.reduceBEq, reduceCtorEq, Int.reduceEq]
       refine evTs_any rfl (by simp only [nc, wm, ↓wk, ↓wl, nqa, evV, ↓reduceIte, Nat.reduceEqDiff, Nat.reduceAdd, Nat.reduceSub, Nat.reduceLeDiff, Nat.reduceLT, Nat.reduceBEq, reduceCtorEq, Int.reduceEq, Nat.reduceLeDiff]; rfl) ?_
       try simp only [wm, ↓wk, ↓wl, nqa, evV, ↓reduceIte, Nat.reduceEqDiff, Nat.reduceAdd, Nat.reduceSub, Nat.reduceLeDiff, Nat.reduceLT, Nat.reduceBEq, reduceCtorEq, Int.reduceEq]
       refine evTs_any rfl (by simp only [nc, wm, ↓wk, ↓wl, nqa, evV, ↓reduceIte, Nat.reduceEqDiff, Nat.reduceAdd, Nat.reduceSub, Nat.reduceLeDiff, Nat.reduceLT, Nat.reduceBEq, reduceCtorEq, Int.reduceEq, Nat.reduceLeDiff]; rfl) ?_
       try simp only [wm, ↓wk, ↓wl, nqa, evV, ↓reduceIte, Nat.reduceEqDiff, Nat.reduceAdd, Nat.reduceSub, Nat.reduceLeDiff, Nat.reduceLT, Nat.reduceBEq, reduceCtorEq, Int.reduceEq]
       obtain ⟨hl_236, H⟩ := must_inv H
       refine evTs_aslc (enc := (AV.int .i64)) H (by rfl) hl_236 (by simp only [loI, hiI, wm, ↓wk, ↓wl, nqa, evV, ↓reduceIte, Nat.reduceEqDiff, Nat.reduceAdd, Nat.reduceSub, Nat.reduceLeDiff, Nat.reduceLT, Nat.reduceBEq, reduceCtorEq, Int.reduceEq]; rfl) (by simp only [loI, hiI, wm, ↓wk, ↓wl, nqa, evV, ↓reduceIte, Nat.reduceEqDiff, Nat.reduceAdd, Nat.reduceSub, Nat.reduceLeDiff, Nat.reduceLT, Nat.reduceBEq, reduceCtorEq, Int.reduceEq]; rfl) ?_ <;> clear H <;> intro part_235 hpart_235 H
       try simp only [wm, ↓wk, ↓wl, nqa, evV, ↓reduceIte, Nat.reduceEqDiff, Nat.reduceAdd, Nat.reduceSub, Nat.reduceLeDiff, Nat.reduceLT, Nat.reduceBEq, reduceCtorEq, Int.reduceEq, hpart_235]
       refine evTs_flat hFn H (fun _ h => f77_78_ok h) (by rfl) (by rfl) (by simp only [deep_eq, imm_simps, imm_rowE, imm_ptrE, imm_enc, imm_mrefE, imm_mpE, imm_arowE, omap_simps, take_map_len, take_map_set, take_map_set2, List.length_set, le_refl_true, Nat.zero_add, and_true, true_and, List.drop_zero, Option.map_some, wm, ↓wk, ↓wl, nqa, evV, ↓reduceIte, Nat.reduceEqDiff, Nat.reduceAdd, Nat.reduceSub, Nat.reduceLeDiff, Nat.reduceLT, Nat.reduceBEq, reduceCtorEq, Int.reduceEq, hpart_235]; rfl) (by rfl) (fun _ => rfl) (fun _ => rfl) ?_ <;> clear H <;> intro r_252 H
       try simp only [eL, wm, ↓wk, ↓wl, nqa, evV, ↓reduceIte, Nat.reduceEqDiff, Nat.reduceAdd, Nat.reduceSub, Nat.reduceLeDiff, Nat.reduceLT, Nat.reduceBEq, reduceCtorEq, Int.reduceEq, hpart_235]
       refine AW.ifc H (by rfl) ?_ ?_ <;> clear H <;> intro H
       ·refine AW.rseq ?_
        try simp only [wm, ↓wk, ↓wl, nqa, evV, ↓reduceIte, Nat.reduceEqDiff, Nat.reduceAdd, Nat.reduceSub, Nat.reduceLeDiff, Nat.reduceLT, Nat.reduceBEq, reduceCtorEq, Int.reduceEq, hpart_235]
        refine AW.ret ?_
        refine seqQ.ret ?_
        cases H
        exact hQ _ _ _ _ (.inr rfl) (by simp only [resVs, omap, resV, wm, ↓wk, ↓wl, nqa, evV, ↓reduceIte, Nat.reduceEqDiff, Nat.reduceAdd, Nat.reduceSub, Nat.reduceLeDiff, Nat.reduceLT, Nat.reduceBEq, reduceCtorEq, Int.reduceEq, hpart_235]; rfl) (hand_plain (by rfl)) (by first | exact Or.inl rfl | exact Or.inr rfl)
       ·refine AW.skip ?_
        refine seqQ.norm ?_
        refine AW.rseq ?_
        try simp only [wm, ↓wk, ↓wl, nqa, evV, ↓reduceIte, Nat.reduceEqDiff, Nat.reduceAdd, Nat.reduceSub, Nat.reduceLeDiff, Nat.reduceLT, Nat.reduceBEq, reduceCtorEq, Int.reduceEq, hpart_235]
        refine AW.ret ?_
        cases H
        exact hQ _ _ _ _ (.inr rfl) (by simp only [resVs, omap, resV, wm, ↓wk, ↓wl, nqa, evV, ↓reduceIte, Nat.reduceEqDiff, Nat.reduceAdd, Nat.reduceSub, Nat.reduceLeDiff, Nat.reduceLT, Nat.reduceBEq, reduceCtorEq, Int.reduceEq, hpart_235]; rfl) (hand_plain (by rfl)) (by first | exact Or.inl rfl | exact Or.inr rfl)
  ·refine AW.rseq ?_
   try simp only [wm, ↓wk, ↓wl, nqa, evV, ↓reduceIte, Nat.reduceEqDiff, Nat.reduceAdd, Nat.reduceSub, Nat.reduceLeDiff, Nat.reduceLT, Nat.reduceBEq, reduceCtorEq, Int.reduceEq]
   refine evTs_any rfl (by simp only [nc, wm, ↓wk, ↓wl, nqa, evV, ↓reduceIte, Nat.reduceEqDiff, Nat.reduceAdd, Nat.reduceSub, Nat.reduceLeDiff, Nat.reduceLT, Nat.reduceBEq, reduceCtorEq, Int.reduceEq, Nat.reduceLeDiff]; rfl) ?_
   try simp only [wm, ↓wk, ↓wl, nqa, evV, ↓reduceIte, Nat.reduceEqDiff, Nat.reduceAdd, Nat.reduceSub, Nat.reduceLeDiff, Nat.reduceLT, Nat.reduceBEq, reduceCtorEq, Int.reduceEq]
   refine evTs_ifg H (by rfl) ?_ ?_ <;> clear H <;> intro H
   ·try simp only [wm, ↓wk, ↓wl, nqa, evV, ↓reduceIte, Nat.reduceEqDiff, Nat.reduceAdd, Nat.reduceSub, Nat.reduceLeDiff, Nat.reduceLT, Nat.reduceBEq, reduceCtorEq, Int.reduceEq]
    refine evTs_any rfl (by simp only [nc, wm, ↓wk, ↓wl, nqa, evV, ↓reduceIte, Nat.reduceEqDiff, Nat.reduceAdd, Nat.reduceSub, Nat.reduceLeDiff, Nat.reduceLT, Nat.reduceBEq, reduceCtorEq, Int.reduceEq, Nat.reduceLeDiff]; rfl) ?_
    try simp only [wm, ↓wk, ↓wl, nqa, evV, ↓reduceIte, Nat.reduceEqDiff, Nat.reduceAdd, Nat.reduceSub, Nat.reduceLeDiff, Nat.reduceLT, Nat.reduceBEq, reduceCtorEq, Int.reduceEq]
    refine evTs_pure hFn H (fun _ h => f76_ok h) (by rfl) (by rfl) (by rfl) (by rfl) (fun _ => rfl) ?_ <;> clear H <;> intro r_253 H
    try simp only [eL, wm, ↓wk, ↓wl, nqa, evV, ↓reduceIte, Nat.reduceEqDiff, Nat.reduceAdd, Nat.reduceSub, Nat.reduceLeDiff, Nat.reduceLT, Nat.reduceBEq, reduceCtorEq, Int.reduceEq]
    refine AW.ifc H (by rfl) ?_ ?_ <;> clear H <;> intro H
    ·refine AW.rseq ?_
     try simp only [wm, ↓wk, ↓wl, nqa, evV, ↓reduceIte, Nat.reduceEqDiff, Nat.reduceAdd, Nat.reduceSub, Nat.reduceLeDiff, Nat.reduceLT, Nat.reduceBEq, reduceCtorEq, Int.reduceEq]
     refine AW.ret ?_
     refine seqQ.ret ?_
     cases H
     exact hQ _ _ _ _ (.inr rfl) (by simp only [resVs, omap, resV, wm, ↓wk, ↓wl, nqa, evV, ↓reduceIte, Nat.reduceEqDiff, Nat.reduceAdd, Nat.reduceSub, Nat.reduceLeDiff, Nat.reduceLT, Nat.reduceBEq, reduceCtorEq, Int.reduceEq]; rfl) (hand_plain (by rfl)) (by first | exact Or.inl rfl | exact Or.inr rfl)
    ·refine AW.skip ?_
     refine seqQ.norm ?_
     exact hf51_J1 _ _ H ((Le.tz [0, 1] [1, 2, 5] (by simp only [f51_J1c, wm, wmr, rrm, ↓wk, ↓wl, evV, ↓reduceIte, Nat.reduceEqDiff, Nat.reduceAdd, Nat.reduceSub, Nat.reduceLeDiff, Nat.reduceLT, Nat.reduceBEq, reduceCtorEq, Int.reduceEq] <;> rfl)))
   ·try simp only [wm, ↓wk, ↓wl, nqa, evV, ↓reduceIte, Nat.reduceEqDiff, Nat.reduceAdd, Nat.reduceSub, Nat.reduceLeDiff, Nat.reduceLT, Nat.reduceBEq, reduceCtorEq, Int.reduceEq]
    refine AW.iff (by rfl) ?_
    refine AW.skip ?_
    refine seqQ.norm ?_
    exact hf51_J1 _ _ H ((Le.tz [0, 1] [1, 2, 5] (by simp only [f51_J1c, wm, wmr, rrm, ↓wk, ↓wl, evV, ↓reduceIte, Nat.reduceEqDiff, Nat.reduceAdd, Nat.reduceSub, Nat.reduceLeDiff, Nat.reduceLT, Nat.reduceBEq, reduceCtorEq, Int.reduceEq] <;> rfl)))
noncomputable def f16_L1 (l_2 : (List ApiFixture)) (r_23 : PatchRig) : Lp (Int) ((Unit) ⊕ (Int)) where
  body := fun v_257 => (if (decide (v_257 < ((l_2.length : Nat) : Int))) = true then (f51 r_23 v_257).bind fun r_260 => (if (decide (r_260 ≠ 0)) = true then (some (.brk (Sum.inr r_260))) else (some (.next (IntKind.i64.wrap (v_257 + 1))))) else (some (.brk (Sum.inl ()))))
  cst := fun v_257 => ⟨put (put (put (fun _ => .junk) 21 (.int .i64 v_257)) 20 (.int .i64 ((l_2.length : Nat) : Int))) 5 (.ptr 0 0), [.cel [.sl 7 false (r_23.fFixtures.map eApiFixture), .mp (mk AV.str r_23.fProfiles) (mv eApiProfile r_23.fProfiles)]]⟩
theorem f16_L1c (l_2 : (List ApiFixture)) (r_23 : PatchRig) (v_257 : Int) : (f16_L1 l_2 r_23).cst v_257 = ⟨put (put (put (fun _ => .junk) 21 (.int .i64 v_257)) 20 (.int .i64 ((l_2.length : Nat) : Int))) 5 (.ptr 0 0), [.cel [.sl 7 false (r_23.fFixtures.map eApiFixture), .mp (mk AV.str r_23.fProfiles) (mv eApiProfile r_23.fProfiles)]]⟩ := rfl
def c16_0 : C := .cond (.t 15) (.seq (.reg [iI 4 (.mv (.c (.int .i64 5)))]) .ret) (.skip)
def c16_1 : C := .cond (.t 28) (.seq (.reg [iI 29 (.mv (.t 7)), iI 4 (.mv (.t 29))]) .ret) (.skip)
def c16_2 : C := .seq (.reg [iI 27 (.mv (.t 7)), iI 28 (.bin .neq (.t 27) (.c (.int .i64 0)))]) c16_1
def c16_3 : C := .seq (.reg [iI 24 (.load 2 (.t 5)), iI 25 (.mv (.t 6)), iI 26 (.call (.c (.fn 51 [])) [(.t 24), (.t 25)]), iI 7 (.mv (.t 26))]) c16_2
def c16_4 : C := .reg [iI 30 (.bin .add (.t 21) (.c (.int .i64 1))), iI 21 (.mv (.t 30))]
def c16_5 : C := .seq (.block 1 (.seq (.reg [iI 23 (.mv (.t 21)), iI 6 (.mv (.t 23))]) c16_3)) c16_4
def c16_6 : C := .seq (.cond (.t 22) (.skip) (.exit 0)) c16_5
def c16_7 : C := .block 0 (.loop (.seq (.reg [iI 22 (.bin .lss (.t 21) (.t 20))]) c16_6))
def c16_8 : C := .seq (.reg [iI 4 (.mv (.c (.int .i64 0)))]) .ret
def c16_9 : C := .seq (.seq (.reg [iI 19 (.mv (.t 0)), iI 20 (.len 0 (.t 19)), iI 21 (.mv (.c (.int .i64 0)))]) c16_7) c16_8
def c16_10 : C := .seq (.reg [iI 16 (.mv (.t 0)), iI 17 (.mv (.t 1)), iI 18 (.call (.c (.fn 50 [])) [(.t 16), (.t 17)]), iI 5 (.alloc [(1, (.sl 7 true [])), (1, .nilmp)]), iN (.store 2 (.t 5) (.t 18))]) c16_9
def c16_11 : C := .seq (.seq (.reg [iI 8 (.mv (.t 1)), iI 9 (.len 0 (.t 8)), iI 10 (.bin .gtr (.t 9) (.c (.int .i64 32))), iI 11 (.mv (.t 10)), iG (some 12) 11 false (.mv (.t 0)), iG (some 13) 11 false (.len 0 (.t 12)), iG (some 14) 11 false (.bin .gtr (.t 13) (.c (.int .i64 64))), iI 15 (.pick (.t 11) (.c (.bool true)) (.t 14))]) c16_0) c16_10
def ir16 : C := .seq (.reg [iI 4 (.mv (.c (.int .i64 0)))]) c16_11
theorem fd16 : fd? Try.prog 16 = some (31, [.slot 4], ir16) := by kernel_rfl
noncomputable def f16 (l_2 : (List ApiFixture)) (profiles_3 : (List ApiProfile)) : Option (Int) :=
  (if (decide (32 < ((profiles_3.length : Nat) : Int))) = true then (some 5) else (if (decide (64 < ((l_2.length : Nat) : Int))) = true then (some 5) else (f50 l_2 profiles_3).bind fun r_23 => ((Lp.run (f16_L1 l_2 r_23) 0).bind fun r_ => match r_ with | (Sum.inl _) => (some 0) | (Sum.inr v_259) => (some v_259))))
theorem f16_ok {l_2 : (List ApiFixture)} {profiles_3 : (List ApiProfile)} {r_ : Int} (H : f16 l_2 profiles_3 = some r_) : Pure Try.prog 16 [.sl 7 false (l_2.map eApiFixture), .sl 4 false (profiles_3.map eApiProfile)] (· = .int .i64 r_) := by
 refine Pure.walk3 fd16 none (Nat.le_of_ble_eq_true rfl) (by rfl) fun Q hQ => ?_
 simp only [f16] at H
 refine AW.rseq ?_
 try simp only [wm, ↓wk, ↓wl, nq, evV, ↓reduceIte, sevalprocAttr]
 refine AW.sseq ?_
 refine AW.rseq ?_
 try simp only [wm, ↓wk, ↓wl, nq, evV, ↓reduceIte, sevalprocAttr]
 refine evTs_ifg H (by rfl) ?_ ?_ <;> clear H <;> intro H
 ·try simp only [wm, ↓wk, ↓wl, nq, evV, ↓reduceIte, sevalprocAttr]
  refine AW.ift (by rfl) ?_
  refine AW.rseq ?_
  try simp only [wm, ↓wk, ↓wl, nq, evV, ↓reduceIte, sevalprocAttr]
  refine AW.ret ?_
  refine seqQ.ret ?_
  cases H
  exact hQ _ _ _ _ (.inr rfl) (by simp only [resVs, omap, resV, wm, ↓wk, ↓wl, nq, evV, ↓reduceIte, sevalprocAttr]; rfl) (hand_plain (by rfl)) (by first | exact Or.inl rfl | exact Or.inr rfl)
 ·try simp only [wm, ↓wk, ↓wl, nq, evV, ↓reduceIte, sevalprocAttr]
  refine AW.ifc H (by rfl) ?_ ?_ <;> clear H <;> intro H
  ·refine AW.rseq ?_
   try simp only [wm, ↓wk, ↓wl, nq, evV, ↓reduceIte, sevalprocAttr]
   refine AW.ret ?_
   refine seqQ.ret ?_
   cases H
   exact hQ _ _ _ _ (.inr rfl) (by simp only [resVs, omap, resV, wm, ↓wk, ↓wl, nq, evV, ↓reduceIte, sevalprocAttr]; rfl) (hand_plain (by rfl)) (by first | exact Or.inl rfl | exact Or.inr rfl)
  ·refine AW.skip ?_
   refine seqQ.norm ?_
   refine AW.rseq ?_
   try simp only [wm, ↓wk, ↓wl, nq, evV, ↓reduceIte, sevalprocAttr]
   refine evTs_pure hFn H (fun _ h => f50_ok h) (by rfl) (by rfl) (by rfl) (by rfl) (fun _ => rfl) ?_ <;> clear H <;> intro r_23 H
   try simp only [eL, ePatchRig, eM, wm, ↓wk, ↓wl, nq, evV, ↓reduceIte, sevalprocAttr]
   refine AW.sseq ?_
   refine AW.rseq ?_
   try simp only [wm, ↓wk, ↓wl, nq, evV, ↓reduceIte, sevalprocAttr]
   refine AW.bend ?_
   refine AW.iter H ((Le.tz [0] [5, 20, 21] (by simp only [f16_L1c, wm, wmr, rrm, ↓wk, ↓wl, evV, ↓reduceIte, sevalprocAttr] <;> rfl))) ?_ <;> clear H
   rintro v_257 x_ st0_ H hst_
   rw [f16_L1c] at hst_
   simp only [f16_L1] at H
   subst hst_
   refine AW.rseq ?_
   try simp only [wm, ↓wk, ↓wl, nq, evV, ↓reduceIte, sevalprocAttr]
   refine AW.sseq ?_
   refine AW.ifc H (by rfl) ?_ ?_ <;> clear H <;> intro H
   ·refine AW.skip ?_
    refine seqQ.norm ?_
    refine AW.bseq ?_
    refine AW.rseq ?_
    try simp only [wm, ↓wk, ↓wl, nq, evV, ↓reduceIte, sevalprocAttr]
    refine AW.rseq ?_
    try simp only [wm, ↓wk, ↓wl, nq, evV, ↓reduceIte, sevalprocAttr]
    refine evTs_pure hFn H (fun _ h => f51_ok h) (by rfl) (by rfl) (by rfl) (by rfl) (fun _ => rfl) ?_ <;> clear H <;> intro r_260 H
    try simp only [eL, wm, ↓wk, ↓wl, nq, evV, ↓reduceIte, sevalprocAttr]
    refine AW.rseq ?_
    try simp only [wm, ↓wk, ↓wl, nq, evV, ↓reduceIte, sevalprocAttr]
    refine AW.ifc H (by rfl) ?_ ?_ <;> clear H <;> intro H
    ·refine AW.rseq ?_
     try simp only [wm, ↓wk, ↓wl, nq, evV, ↓reduceIte, sevalprocAttr]
     refine AW.ret ?_
     refine blkQ.ret ?_
     refine loopQ.ret H ?_ <;> clear H <;> intro H
     try dsimp only at H
     refine blk0.ret ?_
     refine seqQ.ret ?_
     cases H
     exact hQ _ _ _ _ (.inr rfl) (by simp only [resVs, omap, resV, wm, ↓wk, ↓wl, nq, evV, ↓reduceIte, sevalprocAttr]; rfl) (hand_plain (by rfl)) (by first | exact Or.inl rfl | exact Or.inr rfl)
    ·refine AW.skip ?_
     refine blkQ.norm ?_
     refine AW.rend ?_
     try simp only [wm, ↓wk, ↓wl, nq, evV, ↓reduceIte, sevalprocAttr]
     exact loopQ.next H ((Le.tz [0] [5, 20, 21] (by simp only [f16_L1c, wm, wmr, rrm, ↓wk, ↓wl, evV, ↓reduceIte, sevalprocAttr] <;> rfl)))
   ·refine AW.exit ?_
    refine seqQ.exit ?_
    refine loopQ.exit H ?_ <;> clear H <;> intro H
    try dsimp only at H
    refine blk0.here ?_
    refine seqQ.norm ?_
    refine AW.rseq ?_
    try simp only [wm, ↓wk, ↓wl, nq, evV, ↓reduceIte, sevalprocAttr]
    refine AW.ret ?_
    cases H
    exact hQ _ _ _ _ (.inr rfl) (by simp only [resVs, omap, resV, wm, ↓wk, ↓wl, nq, evV, ↓reduceIte, sevalprocAttr]; rfl) (hand_plain (by rfl)) (by first | exact Or.inl rfl | exact Or.inr rfl)
def c44_0 : C := .cond (.t 11) (.seq (.reg [iI 12 (.build [(1, (.sl 7 true [])), (1, .nilmp)] []), iI 13 (.mv (.t 6)), iN (.store 2 (.t 4) (.t 12)), iI 5 (.mv (.t 13))]) .ret) (.skip)
def c44_1 : C := .seq (.reg [iI 10 (.mv (.t 6)), iI 11 (.bin .neq (.t 10) (.c (.int .i64 0)))]) c44_0
def c44_2 : C := .seq (.reg [iI 14 (.mv (.t 0)), iI 15 (.mv (.t 1)), iI 16 (.call (.c (.fn 50 [])) [(.t 14), (.t 15)]), iN (.store 2 (.t 4) (.t 16)), iI 5 (.mv (.c (.int .i64 0)))]) .ret
def c44_3 : C := .seq (.seq (.reg [iI 7 (.mv (.t 0)), iI 8 (.mv (.t 1)), iI 9 (.call (.c (.fn 16 [])) [(.t 7), (.t 8)]), iI 6 (.mv (.t 9))]) c44_1) c44_2
def ir44 : C := .seq (.reg [iI 4 (.alloc [(1, (.sl 7 true [])), (1, .nilmp)]), iI 5 (.mv (.c (.int .i64 0)))]) c44_3
theorem fd44 : fd? Try.prog 44 = some (17, [.cell 4 2, .slot 5], ir44) := by kernel_rfl
noncomputable def f44 (l_267 : (List ApiFixture)) (profiles_268 : (List ApiProfile)) : Option (PatchRig × Int) :=
  (f16 l_267 profiles_268).bind fun r_269 => (if (decide (r_269 ≠ 0)) = true then (some ((PatchRig.mk ([]) ([])), r_269)) else (f50 l_267 profiles_268).bind fun r_270 => (some (r_270, 0)))
theorem f44_ok {l_267 : (List ApiFixture)} {profiles_268 : (List ApiProfile)} {r_ : PatchRig × Int} (H : f44 l_267 profiles_268 = some r_) : Pure Try.prog 44 [.sl 7 false (l_267.map eApiFixture), .sl 4 false (profiles_268.map eApiProfile)] (· = .tup [.agg [.sl 7 false (r_.1.fFixtures.map eApiFixture), .mp (mk AV.str r_.1.fProfiles) (mv eApiProfile r_.1.fProfiles)], .int .i64 r_.2]) := by
 refine Pure.walk3 fd44 none (Nat.le_of_ble_eq_true rfl) (by rfl) fun Q hQ => ?_
 simp only [f44] at H
 refine AW.rseq ?_
 try simp only [wm, ↓wk, ↓wl, nq, evV, ↓reduceIte, sevalprocAttr]
 refine AW.sseq ?_
 refine AW.rseq ?_
 try simp only [wm, ↓wk, ↓wl, nq, evV, ↓reduceIte, sevalprocAttr]
 refine evTs_pure hFn H (fun _ h => f16_ok h) (by rfl) (by rfl) (by rfl) (by rfl) (fun _ => rfl) ?_ <;> clear H <;> intro r_269 H
 try simp only [eL, wm, ↓wk, ↓wl, nq, evV, ↓reduceIte, sevalprocAttr]
 refine AW.rseq ?_
 try simp only [wm, ↓wk, ↓wl, nq, evV, ↓reduceIte, sevalprocAttr]
 refine AW.ifc H (by rfl) ?_ ?_ <;> clear H <;> intro H
 ·refine AW.rseq ?_
  try simp only [wm, ↓wk, ↓wl, nq, evV, ↓reduceIte, sevalprocAttr]
  refine AW.ret ?_
  refine seqQ.ret ?_
  cases H
  exact hQ _ _ _ _ (.inr rfl) (by simp only [resVs, omap, resV, wm, ↓wk, ↓wl, nq, evV, ↓reduceIte, sevalprocAttr]; rfl) (hand_plain (by rfl)) (by first | exact Or.inl rfl | exact Or.inr rfl)
 ·refine AW.skip ?_
  refine seqQ.norm ?_
  refine AW.rseq ?_
  try simp only [wm, ↓wk, ↓wl, nq, evV, ↓reduceIte, sevalprocAttr]
  refine evTs_pure hFn H (fun _ h => f50_ok h) (by rfl) (by rfl) (by rfl) (by rfl) (fun _ => rfl) ?_ <;> clear H <;> intro r_270 H
  try simp only [eL, ePatchRig, eM, wm, ↓wk, ↓wl, nq, evV, ↓reduceIte, sevalprocAttr]
  refine AW.ret ?_
  cases H
  exact hQ _ _ _ _ (.inr rfl) (by simp only [resVs, omap, resV, wm, ↓wk, ↓wl, nq, evV, ↓reduceIte, sevalprocAttr]; rfl) (hand_plain (by rfl)) (by first | exact Or.inl rfl | exact Or.inr rfl)
def c20_0 : C := .cond (.t 22) (.seq (.reg [iI 23 (.mv (.t 13)), iI 8 (.mv (.c (.int .i64 0))), iI 9 (.mv (.c (.int .i64 0))), iI 10 (.mv (.c (.bool false))), iI 11 (.mv (.t 23))]) .ret) (.skip)
def c20_1 : C := .cond (.t 29) (.seq (.reg [iI 8 (.mv (.c (.int .i64 0))), iI 9 (.mv (.c (.int .i64 0))), iI 10 (.mv (.c (.bool false))), iI 11 (.mv (.c (.int .i64 0)))]) .ret) (.skip)
def c20_2 : C := .cond (.t 37) (.seq (.reg [iI 8 (.mv (.c (.int .i64 0))), iI 9 (.mv (.c (.int .i64 0))), iI 10 (.mv (.c (.bool false))), iI 11 (.mv (.c (.int .i64 0)))]) .ret) (.skip)
def c20_3 : C := .seq (.reg [iI 38 (.mv (.t 14)), iI 39 (.mv (.t 3)), iI 40 (.mv (.t 0)), iI 41 (.mv (.t 14)), iI 42 (.iaddr 7 (.t 40) (.t 41)), iI 43 (.faddr 4 (.t 42)), iI 44 (.load 0 (.t 43)), iI 45 (.bin .sub (.t 39) (.t 44)), iI 8 (.mv (.t 38)), iI 9 (.mv (.t 45)), iI 10 (.mv (.c (.bool true))), iI 11 (.mv (.c (.int .i64 0)))]) .ret
def c20_4 : C := .seq (.seq (.reg [iI 36 (.mv (.t 14)), iI 37 (.bin .lss (.t 36) (.c (.int .i64 0)))]) c20_2) c20_3
def c20_5 : C := .seq (.reg [iI 30 (.load 2 (.t 12)), iI 31 (.mv (.t 2)), iI 32 (.call (.c (.fn 54 [])) [(.t 30), (.t 31)]), iI 33 (.mv (.t 3)), iI 34 (.idx 0 513 (.t 32) (.t 33)), iI 35 (.bin .sub (.t 34) (.c (.int .i64 1))), iI 14 (.mv (.t 35))]) c20_4
def c20_6 : C := .seq (.seq (.reg [iI 24 (.mv (.t 3)), iI 25 (.bin .lss (.t 24) (.c (.int .i64 1))), iI 26 (.mv (.t 25)), iG (some 27) 26 false (.mv (.t 3)), iG (some 28) 26 false (.bin .gtr (.t 27) (.c (.int .i64 512))), iI 29 (.pick (.t 26) (.c (.bool true)) (.t 28))]) c20_1) c20_5
def c20_7 : C := .seq (.seq (.reg [iI 21 (.mv (.t 13)), iI 22 (.bin .neq (.t 21) (.c (.int .i64 0)))]) c20_0) c20_6
def c20_8 : C := .seq (.reg [iI 16 (.mv (.t 0)), iI 17 (.mv (.t 1)), iI 18 (.call (.c (.fn 44 [])) [(.t 16), (.t 17)]), iI 15 (.mv (.t 18)), iI 19 (.ext (.t 15) 0), iI 20 (.ext (.t 15) 1), iI 12 (.alloc [(1, (.sl 7 true [])), (1, .nilmp)]), iN (.store 2 (.t 12) (.t 19)), iI 13 (.mv (.t 20))]) c20_7
def ir20 : C := .seq (.reg [iI 8 (.mv (.c (.int .i64 0))), iI 9 (.mv (.c (.int .i64 0))), iI 10 (.mv (.c (.bool false))), iI 11 (.mv (.c (.int .i64 0)))]) c20_8
theorem fd20 : fd? Try.prog 20 = some (46, [.slot 8, .slot 9, .slot 10, .slot 11], ir20) := by kernel_rfl
noncomputable def f20 (l_263 : (List ApiFixture)) (profiles_264 : (List ApiProfile)) (number_265 : Int) (address_266 : Int) : Option (Int × Int × Bool × Int) :=
  (f44 l_263 profiles_264).bind fun r_271 => (if (decide (r_271.2 ≠ 0)) = true then (some (0, 0, false, r_271.2)) else (if (decide (address_266 < 1)) = true then (some (0, 0, false, 0)) else (if (decide (512 < address_266)) = true then (some (0, 0, false, 0)) else (f54 r_271.1 number_265).bind fun r_272 => (arr? 513 r_272 address_266).bind fun x_273 => (if (decide ((IntKind.i64.wrap (x_273 - 1)) < 0)) = true then (some (0, 0, false, 0)) else (at? l_263 (IntKind.i64.wrap (x_273 - 1))).bind fun x_274 => (some ((IntKind.i64.wrap (x_273 - 1)), (IntKind.i64.wrap (address_266 - x_274.fAddress)), true, 0))))))
theorem f20_ok {l_263 : (List ApiFixture)} {profiles_264 : (List ApiProfile)} {number_265 : Int} {address_266 : Int} {r_ : Int × Int × Bool × Int} (H : f20 l_263 profiles_264 number_265 address_266 = some r_) : Pure Try.prog 20 [.sl 7 false (l_263.map eApiFixture), .sl 4 false (profiles_264.map eApiProfile), .int .i64 number_265, .int .i64 address_266] (· = .tup [.int .i64 r_.1, .int .i64 r_.2.1, .bool r_.2.2.1, .int .i64 r_.2.2.2]) := by
 refine Pure.walk3 fd20 none (Nat.le_of_ble_eq_true rfl) (by rfl) fun Q hQ => ?_
 simp only [f20] at H
 refine AW.rseq ?_
 try simp only [wm, ↓wk, ↓wl, nq, evV, ↓reduceIte, sevalprocAttr]
 refine AW.rseq ?_
 try simp only [wm, ↓wk, ↓wl, nq, evV, ↓reduceIte, sevalprocAttr]
 refine evTs_pure hFn H (fun _ h => f44_ok h) (by rfl) (by rfl) (by rfl) (by rfl) (fun _ => rfl) ?_ <;> clear H <;> intro r_271 H
 try simp only [eL, ePatchRig, eM, wm, ↓wk, ↓wl, nq, evV, ↓reduceIte, sevalprocAttr]
 refine AW.sseq ?_
 refine AW.rseq ?_
 try simp only [wm, ↓wk, ↓wl, nq, evV, ↓reduceIte, sevalprocAttr]
 refine AW.ifc H (by rfl) ?_ ?_ <;> clear H <;> intro H
 ·refine AW.rseq ?_
  try simp only [wm, ↓wk, ↓wl, nq, evV, ↓reduceIte, sevalprocAttr]
  refine AW.ret ?_
  refine seqQ.ret ?_
  cases H
  exact hQ _ _ _ _ (.inr rfl) (by simp only [resVs, omap, resV, wm, ↓wk, ↓wl, nq, evV, ↓reduceIte, sevalprocAttr]; rfl) (hand_plain (by rfl)) (by first | exact Or.inl rfl | exact Or.inr rfl)
 ·refine AW.skip ?_
  refine seqQ.norm ?_
  refine AW.sseq ?_
  refine AW.rseq ?_
  try simp only [wm, ↓wk, ↓wl, nq, evV, ↓reduceIte, sevalprocAttr]
  refine evTs_ifg H (by rfl) ?_ ?_ <;> clear H <;> intro H
  ·try simp only [wm, ↓wk, ↓wl, nq, evV, ↓reduceIte, sevalprocAttr]
   refine AW.ift (by rfl) ?_
   refine AW.rseq ?_
   try simp only [wm, ↓wk, ↓wl, nq, evV, ↓reduceIte, sevalprocAttr]
   refine AW.ret ?_
   refine seqQ.ret ?_
   cases H
   exact hQ _ _ _ _ (.inr rfl) (by simp only [resVs, omap, resV, wm, ↓wk, ↓wl, nq, evV, ↓reduceIte, sevalprocAttr]; rfl) (hand_plain (by rfl)) (by first | exact Or.inl rfl | exact Or.inr rfl)
  ·try simp only [wm, ↓wk, ↓wl, nq, evV, ↓reduceIte, sevalprocAttr]
   refine AW.ifc H (by rfl) ?_ ?_ <;> clear H <;> intro H
   ·refine AW.rseq ?_
    try simp only [wm, ↓wk, ↓wl, nq, evV, ↓reduceIte, sevalprocAttr]
    refine AW.ret ?_
    refine seqQ.ret ?_
    cases H
    exact hQ _ _ _ _ (.inr rfl) (by simp only [resVs, omap, resV, wm, ↓wk, ↓wl, nq, evV, ↓reduceIte, sevalprocAttr]; rfl) (hand_plain (by rfl)) (by first | exact Or.inl rfl | exact Or.inr rfl)
   ·refine AW.skip ?_
    refine seqQ.norm ?_
    refine AW.rseq ?_
    try simp only [wm, ↓wk, ↓wl, nq, evV, ↓reduceIte, sevalprocAttr]
    refine evTs_pure hFn H (fun _ h => f54_ok h) (by rfl) (by rfl) (by rfl) (by rfl) (fun _ => rfl) ?_ <;> clear H <;> intro r_272 H
    try simp only [eL, eA, wm, ↓wk, ↓wl, nq, evV, ↓reduceIte, sevalprocAttr]
    refine evTs_aidx (enc := (AV.int .i64)) H (by rfl) (by rfl) ?_ <;> clear H <;> intro x_273 H
    try simp only [wm, ↓wk, ↓wl, nq, evV, ↓reduceIte, sevalprocAttr]
    refine AW.sseq ?_
    refine AW.rseq ?_
    try simp only [wm, ↓wk, ↓wl, nq, evV, ↓reduceIte, sevalprocAttr]
    refine AW.ifc H (by rfl) ?_ ?_ <;> clear H <;> intro H
    ·refine AW.rseq ?_
     try simp only [wm, ↓wk, ↓wl, nq, evV, ↓reduceIte, sevalprocAttr]
     refine AW.ret ?_
     refine seqQ.ret ?_
     cases H
     exact hQ _ _ _ _ (.inr rfl) (by simp only [resVs, omap, resV, wm, ↓wk, ↓wl, nq, evV, ↓reduceIte, sevalprocAttr]; rfl) (hand_plain (by rfl)) (by first | exact Or.inl rfl | exact Or.inr rfl)
    ·refine AW.skip ?_
     refine seqQ.norm ?_
     refine AW.rseq ?_
     try simp only [wm, ↓wk, ↓wl, nq, evV, ↓reduceIte, sevalprocAttr]
     refine evTs_at (enc := eApiFixture) H (by rfl) (by rfl) ?_ <;> clear H <;> intro x_274 H
     try simp only [eApiFixture, eL, eM, wm, ↓wk, ↓wl, nq, evV, ↓reduceIte, sevalprocAttr]
     refine AW.ret ?_
     cases H
     exact hQ _ _ _ _ (.inr rfl) (by simp only [resVs, omap, resV, wm, ↓wk, ↓wl, nq, evV, ↓reduceIte, sevalprocAttr]; rfl) (hand_plain (by rfl)) (by first | exact Or.inl rfl | exact Or.inr rfl)
noncomputable def f22_L1 (r_281 : (List Int)) (size_279 : Int) : Lp (Int × Int) ((Unit) ⊕ (Int)) where
  body := fun (free_288, v_289) => (if (decide (v_289 < 513)) = true then (arr? 513 r_281 v_289).bind fun x_292 => (if (decide (v_289 = 0)) = true then (if (decide (free_288 = size_279)) = true then (some (.brk (Sum.inr (IntKind.i64.wrap ((IntKind.i64.wrap (v_289 - size_279)) + 1))))) else (some (.next (free_288, (IntKind.i64.wrap (v_289 + 1)))))) else (if (decide (0 < x_292)) = true then (if (decide (0 = size_279)) = true then (some (.brk (Sum.inr (IntKind.i64.wrap ((IntKind.i64.wrap (v_289 - size_279)) + 1))))) else (some (.next (0, (IntKind.i64.wrap (v_289 + 1)))))) else (if (decide ((IntKind.i64.wrap (free_288 + 1)) = size_279)) = true then (some (.brk (Sum.inr (IntKind.i64.wrap ((IntKind.i64.wrap (v_289 - size_279)) + 1))))) else (some (.next ((IntKind.i64.wrap (free_288 + 1)), (IntKind.i64.wrap (v_289 + 1)))))))) else (some (.brk (Sum.inl ()))))
  cst := fun (free_288, v_289) => ⟨put (put (put (put (fun _ => .junk) 41 (.int .i64 v_289)) 40 (.agg (r_281.map (AV.int .i64)))) 12 (.int .i64 free_288)) 3 (.int .i64 size_279), []⟩
theorem f22_L1c (r_281 : (List Int)) (size_279 : Int) (free_288 : Int) (v_289 : Int) : (f22_L1 r_281 size_279).cst (free_288, v_289) = ⟨put (put (put (put (fun _ => .junk) 41 (.int .i64 v_289)) 40 (.agg (r_281.map (AV.int .i64)))) 12 (.int .i64 free_288)) 3 (.int .i64 size_279), []⟩ := rfl
def c22_0 : C := .cond (.t 22) (.seq (.reg [iI 23 (.mv (.t 11)), iI 8 (.mv (.c (.int .i64 0))), iI 9 (.mv (.t 23))]) .ret) (.skip)
def c22_1 : C := .cond (.t 37) (.seq (.reg [iI 8 (.mv (.c (.int .i64 0))), iI 9 (.mv (.c (.int .i64 2)))]) .ret) (.skip)
def c22_2 : C := .cond (.t 50) (.reg [iI 12 (.mv (.c (.int .i64 0)))]) (.reg [iI 45 (.mv (.t 12)), iI 46 (.bin .add (.t 45) (.c (.int .i64 1))), iI 12 (.mv (.t 46))])
def c22_3 : C := .cond (.t 47) (.skip) (.seq (.reg [iI 51 (.mv (.t 14)), iI 52 (.bin .gtr (.t 51) (.c (.int .i64 0))), iI 50 (.mv (.t 52))]) c22_2)
def c22_4 : C := .cond (.t 55) (.seq (.reg [iI 56 (.mv (.t 13)), iI 57 (.mv (.t 3)), iI 58 (.bin .sub (.t 56) (.t 57)), iI 59 (.bin .add (.t 58) (.c (.int .i64 1))), iI 8 (.mv (.t 59)), iI 9 (.mv (.c (.int .i64 0)))]) .ret) (.skip)
def c22_5 : C := .seq (.reg [iI 53 (.mv (.t 12)), iI 54 (.mv (.t 3)), iI 55 (.bin .eql (.t 53) (.t 54))]) c22_4
def c22_6 : C := .seq (.block 2 (.seq (.reg [iI 48 (.mv (.t 13)), iI 49 (.bin .eql (.t 48) (.c (.int .i64 0))), iI 47 (.mv (.t 49))]) c22_3)) c22_5
def c22_7 : C := .reg [iI 60 (.bin .add (.t 41) (.c (.int .i64 1))), iI 41 (.mv (.t 60))]
def c22_8 : C := .seq (.block 1 (.seq (.reg [iI 43 (.mv (.t 41)), iI 44 (.idx 0 513 (.t 40) (.t 41)), iI 13 (.mv (.t 43)), iI 14 (.mv (.t 44))]) c22_6)) c22_7
def c22_9 : C := .seq (.cond (.t 42) (.skip) (.exit 0)) c22_8
def c22_10 : C := .block 0 (.loop (.seq (.reg [iI 42 (.bin .lss (.t 41) (.c (.int .i64 513)))]) c22_9))
def c22_11 : C := .seq (.reg [iI 8 (.mv (.c (.int .i64 0))), iI 9 (.mv (.c (.int .i64 12)))]) .ret
def c22_12 : C := .seq (.seq (.reg [iI 38 (.load 2 (.t 10)), iI 39 (.mv (.t 2)), iI 40 (.call (.c (.fn 54 [])) [(.t 38), (.t 39)]), iI 41 (.mv (.c (.int .i64 0)))]) c22_10) c22_11
def c22_13 : C := .seq (.reg [iI 12 (.mv (.c (.int .i64 0)))]) c22_12
def c22_14 : C := .seq (.seq (.reg [iI 24 (.mv (.t 2)), iI 25 (.bin .lss (.t 24) (.c (.int .i64 1))), iI 26 (.mv (.t 25)), iG (some 27) 26 false (.mv (.t 2)), iG (some 28) 26 false (.bin .gtr (.t 27) (.c (.int .i64 8))), iI 29 (.pick (.t 26) (.c (.bool true)) (.t 28)), iI 30 (.mv (.t 29)), iG (some 31) 30 false (.mv (.t 3)), iG (some 32) 30 false (.bin .lss (.t 31) (.c (.int .i64 1))), iI 33 (.pick (.t 30) (.c (.bool true)) (.t 32)), iI 34 (.mv (.t 33)), iG (some 35) 34 false (.mv (.t 3)), iG (some 36) 34 false (.bin .gtr (.t 35) (.c (.int .i64 512))), iI 37 (.pick (.t 34) (.c (.bool true)) (.t 36))]) c22_1) c22_13
def c22_15 : C := .seq (.seq (.reg [iI 21 (.mv (.t 11)), iI 22 (.bin .neq (.t 21) (.c (.int .i64 0)))]) c22_0) c22_14
def c22_16 : C := .seq (.reg [iI 16 (.mv (.t 0)), iI 17 (.mv (.t 1)), iI 18 (.call (.c (.fn 44 [])) [(.t 16), (.t 17)]), iI 15 (.mv (.t 18)), iI 19 (.ext (.t 15) 0), iI 20 (.ext (.t 15) 1), iI 10 (.alloc [(1, (.sl 7 true [])), (1, .nilmp)]), iN (.store 2 (.t 10) (.t 19)), iI 11 (.mv (.t 20))]) c22_15
def ir22 : C := .seq (.reg [iI 8 (.mv (.c (.int .i64 0))), iI 9 (.mv (.c (.int .i64 0)))]) c22_16
theorem fd22 : fd? Try.prog 22 = some (61, [.slot 8, .slot 9], ir22) := by kernel_rfl
noncomputable def f22 (l_276 : (List ApiFixture)) (profiles_277 : (List ApiProfile)) (number_278 : Int) (size_279 : Int) : Option (Int × Int) :=
  (f44 l_276 profiles_277).bind fun r_280 => (if (decide (r_280.2 ≠ 0)) = true then (some (0, r_280.2)) else (if (decide (number_278 < 1)) = true then (some (0, 2)) else (if (decide (8 < number_278)) = true then (some (0, 2)) else (if (decide (size_279 < 1)) = true then (some (0, 2)) else (if (decide (512 < size_279)) = true then (some (0, 2)) else (f54 r_280.1 number_278).bind fun r_281 => ((Lp.run (f22_L1 r_281 size_279) (0, 0)).bind fun r_ => match r_ with | (Sum.inl _) => (some (0, 12)) | (Sum.inr v_291) => (some (v_291, 0))))))))
theorem f22_ok {l_276 : (List ApiFixture)} {profiles_277 : (List ApiProfile)} {number_278 : Int} {size_279 : Int} {r_ : Int × Int} (H : f22 l_276 profiles_277 number_278 size_279 = some r_) : Pure Try.prog 22 [.sl 7 false (l_276.map eApiFixture), .sl 4 false (profiles_277.map eApiProfile), .int .i64 number_278, .int .i64 size_279] (· = .tup [.int .i64 r_.1, .int .i64 r_.2]) := by
 refine Pure.walk3 fd22 none (Nat.le_of_ble_eq_true rfl) (by rfl) fun Q hQ => ?_
 simp only [f22] at H
 refine AW.rseq ?_
 try simp only [wm, ↓wk, ↓wl, nq, evV, ↓reduceIte, sevalprocAttr]
 refine AW.rseq ?_
 try simp only [wm, ↓wk, ↓wl, nq, evV, ↓reduceIte, sevalprocAttr]
 refine evTs_pure hFn H (fun _ h => f44_ok h) (by rfl) (by rfl) (by rfl) (by rfl) (fun _ => rfl) ?_ <;> clear H <;> intro r_280 H
 try simp only [eL, ePatchRig, eM, wm, ↓wk, ↓wl, nq, evV, ↓reduceIte, sevalprocAttr]
 refine AW.sseq ?_
 refine AW.rseq ?_
 try simp only [wm, ↓wk, ↓wl, nq, evV, ↓reduceIte, sevalprocAttr]
 refine AW.ifc H (by rfl) ?_ ?_ <;> clear H <;> intro H
 ·refine AW.rseq ?_
  try simp only [wm, ↓wk, ↓wl, nq, evV, ↓reduceIte, sevalprocAttr]
  refine AW.ret ?_
  refine seqQ.ret ?_
  cases H
  exact hQ _ _ _ _ (.inr rfl) (by simp only [resVs, omap, resV, wm, ↓wk, ↓wl, nq, evV, ↓reduceIte, sevalprocAttr]; rfl) (hand_plain (by rfl)) (by first | exact Or.inl rfl | exact Or.inr rfl)
 ·refine AW.skip ?_
  refine seqQ.norm ?_
  refine AW.sseq ?_
  refine AW.rseq ?_
  try simp only [wm, ↓wk, ↓wl, nq, evV, ↓reduceIte, sevalprocAttr]
  refine evTs_ifg H (by rfl) ?_ ?_ <;> clear H <;> intro H
  ·try simp only [wm, ↓wk, ↓wl, nq, evV, ↓reduceIte, sevalprocAttr]
   refine AW.ift (by rfl) ?_
   refine AW.rseq ?_
   try simp only [wm, ↓wk, ↓wl, nq, evV, ↓reduceIte, sevalprocAttr]
   refine AW.ret ?_
   refine seqQ.ret ?_
   cases H
   exact hQ _ _ _ _ (.inr rfl) (by simp only [resVs, omap, resV, wm, ↓wk, ↓wl, nq, evV, ↓reduceIte, sevalprocAttr]; rfl) (hand_plain (by rfl)) (by first | exact Or.inl rfl | exact Or.inr rfl)
  ·try simp only [wm, ↓wk, ↓wl, nq, evV, ↓reduceIte, sevalprocAttr]
   refine evTs_ifg H (by rfl) ?_ ?_ <;> clear H <;> intro H
   ·try simp only [wm, ↓wk, ↓wl, nq, evV, ↓reduceIte, sevalprocAttr]
    refine AW.ift (by rfl) ?_
    refine AW.rseq ?_
    try simp only [wm, ↓wk, ↓wl, nq, evV, ↓reduceIte, sevalprocAttr]
    refine AW.ret ?_
    refine seqQ.ret ?_
    cases H
    exact hQ _ _ _ _ (.inr rfl) (by simp only [resVs, omap, resV, wm, ↓wk, ↓wl, nq, evV, ↓reduceIte, sevalprocAttr]; rfl) (hand_plain (by rfl)) (by first | exact Or.inl rfl | exact Or.inr rfl)
   ·try simp only [wm, ↓wk, ↓wl, nq, evV, ↓reduceIte, sevalprocAttr]
    refine evTs_ifg H (by rfl) ?_ ?_ <;> clear H <;> intro H
    ·try simp only [wm, ↓wk, ↓wl, nq, evV, ↓reduceIte, sevalprocAttr]
     refine AW.ift (by rfl) ?_
     refine AW.rseq ?_
     try simp only [wm, ↓wk, ↓wl, nq, evV, ↓reduceIte, sevalprocAttr]
     refine AW.ret ?_
     refine seqQ.ret ?_
     cases H
     exact hQ _ _ _ _ (.inr rfl) (by simp only [resVs, omap, resV, wm, ↓wk, ↓wl, nq, evV, ↓reduceIte, sevalprocAttr]; rfl) (hand_plain (by rfl)) (by first | exact Or.inl rfl | exact Or.inr rfl)
    ·try simp only [wm, ↓wk, ↓wl, nq, evV, ↓reduceIte, sevalprocAttr]
     refine AW.ifc H (by rfl) ?_ ?_ <;> clear H <;> intro H
     ·refine AW.rseq ?_
      try simp only [wm, ↓wk, ↓wl, nq, evV, ↓reduceIte, sevalprocAttr]
      refine AW.ret ?_
      refine seqQ.ret ?_
      cases H
      exact hQ _ _ _ _ (.inr rfl) (by simp only [resVs, omap, resV, wm, ↓wk, ↓wl, nq, evV, ↓reduceIte, sevalprocAttr]; rfl) (hand_plain (by rfl)) (by first | exact Or.inl rfl | exact Or.inr rfl)
     ·refine AW.skip ?_
      refine seqQ.norm ?_
      refine AW.rseq ?_
      try simp only [wm, ↓wk, ↓wl, nq, evV, ↓reduceIte, sevalprocAttr]
      refine AW.sseq ?_
      refine AW.rseq ?_
      try simp only [wm, ↓wk, ↓wl, nq, evV, ↓reduceIte, sevalprocAttr]
      refine evTs_pure hFn H (fun _ h => f54_ok h) (by rfl) (by rfl) (by rfl) (by rfl) (fun _ => rfl) ?_ <;> clear H <;> intro r_281 H
      try simp only [eL, eA, wm, ↓wk, ↓wl, nq, evV, ↓reduceIte, sevalprocAttr]
      refine AW.bend ?_
      refine AW.iter H ((Le.tz [] [3, 12, 40, 41] (by simp only [f22_L1c, wm, wmr, rrm, ↓wk, ↓wl, evV, ↓reduceIte, sevalprocAttr] <;> rfl))) ?_ <;> clear H
      rintro ⟨free_288, v_289⟩ x_ st0_ H hst_
      rw [f22_L1c] at hst_
      simp only [f22_L1] at H
      subst hst_
      refine AW.rseq ?_
      try simp only [wm, ↓wk, ↓wl, nq, evV, ↓reduceIte, sevalprocAttr]
      refine AW.sseq ?_
      refine AW.ifc H (by rfl) ?_ ?_ <;> clear H <;> intro H
      ·refine AW.skip ?_
       refine seqQ.norm ?_
       refine AW.bseq ?_
       refine AW.rseq ?_
       try simp only [wm, ↓wk, ↓wl, nq, evV, ↓reduceIte, sevalprocAttr]
       refine evTs_aidx (enc := (AV.int .i64)) H (by rfl) (by rfl) ?_ <;> clear H <;> intro x_292 H
       try simp only [wm, ↓wk, ↓wl, nq, evV, ↓reduceIte, sevalprocAttr]
       refine AW.bseq ?_
       refine AW.rseq ?_
       try simp only [wm, ↓wk, ↓wl, nq, evV, ↓reduceIte, sevalprocAttr]
       refine AW.ifc H (by rfl) ?_ ?_ <;> clear H <;> intro H
       ·refine AW.skip ?_
        refine blkQ.norm ?_
        refine AW.rseq ?_
        try simp only [wm, ↓wk, ↓wl, nq, evV, ↓reduceIte, sevalprocAttr]
        refine AW.ifc H (by rfl) ?_ ?_ <;> clear H <;> intro H
        ·refine AW.rseq ?_
         try simp only [wm, ↓wk, ↓wl, nq, evV, ↓reduceIte, sevalprocAttr]
         refine AW.ret ?_
         refine blkQ.ret ?_
         refine loopQ.ret H ?_ <;> clear H <;> intro H
         try dsimp only at H
         refine blk0.ret ?_
         refine seqQ.ret ?_
         cases H
         exact hQ _ _ _ _ (.inr rfl) (by simp only [resVs, omap, resV, wm, ↓wk, ↓wl, nq, evV, ↓reduceIte, sevalprocAttr]; rfl) (hand_plain (by rfl)) (by first | exact Or.inl rfl | exact Or.inr rfl)
        ·refine AW.skip ?_
         refine blkQ.norm ?_
         refine AW.rend ?_
         try simp only [wm, ↓wk, ↓wl, nq, evV, ↓reduceIte, sevalprocAttr]
         exact loopQ.next H ((Le.tz [] [3, 12, 40, 41] (by simp only [f22_L1c, wm, wmr, rrm, ↓wk, ↓wl, evV, ↓reduceIte, sevalprocAttr] <;> rfl)))
       ·refine AW.rseq ?_
        try simp only [wm, ↓wk, ↓wl, nq, evV, ↓reduceIte, sevalprocAttr]
        refine AW.ifc H (by rfl) ?_ ?_ <;> clear H <;> intro H
        ·refine AW.rend ?_
         try simp only [wm, ↓wk, ↓wl, nq, evV, ↓reduceIte, sevalprocAttr]
         refine blkQ.norm ?_
         refine AW.rseq ?_
         try simp only [wm, ↓wk, ↓wl, nq, evV, ↓reduceIte, sevalprocAttr]
         refine AW.ifc H (by rfl) ?_ ?_ <;> clear H <;> intro H
         ·refine AW.rseq ?_
          try simp only [wm, ↓wk, ↓wl, nq, evV, ↓reduceIte, sevalprocAttr]
          refine AW.ret ?_
          refine blkQ.ret ?_
          refine loopQ.ret H ?_ <;> clear H <;> intro H
          try dsimp only at H
          refine blk0.ret ?_
          refine seqQ.ret ?_
          cases H
          exact hQ _ _ _ _ (.inr rfl) (by simp only [resVs, omap, resV, wm, ↓wk, ↓wl, nq, evV, ↓reduceIte, sevalprocAttr]; rfl) (hand_plain (by rfl)) (by first | exact Or.inl rfl | exact Or.inr rfl)
         ·refine AW.skip ?_
          refine blkQ.norm ?_
          refine AW.rend ?_
          try simp only [wm, ↓wk, ↓wl, nq, evV, ↓reduceIte, sevalprocAttr]
          exact loopQ.next H ((Le.tz [] [3, 12, 40, 41] (by simp only [f22_L1c, wm, wmr, rrm, ↓wk, ↓wl, evV, ↓reduceIte, sevalprocAttr] <;> rfl)))
        ·refine AW.rend ?_
         try simp only [wm, ↓wk, ↓wl, nq, evV, ↓reduceIte, sevalprocAttr]
         refine blkQ.norm ?_
         refine AW.rseq ?_
         try simp only [wm, ↓wk, ↓wl, nq, evV, ↓reduceIte, sevalprocAttr]
         refine AW.ifc H (by rfl) ?_ ?_ <;> clear H <;> intro H
         ·refine AW.rseq ?_
          try simp only [wm, ↓wk, ↓wl, nq, evV, ↓reduceIte, sevalprocAttr]
          refine AW.ret ?_
          refine blkQ.ret ?_
          refine loopQ.ret H ?_ <;> clear H <;> intro H
          try dsimp only at H
          refine blk0.ret ?_
          refine seqQ.ret ?_
          cases H
          exact hQ _ _ _ _ (.inr rfl) (by simp only [resVs, omap, resV, wm, ↓wk, ↓wl, nq, evV, ↓reduceIte, sevalprocAttr]; rfl) (hand_plain (by rfl)) (by first | exact Or.inl rfl | exact Or.inr rfl)
         ·refine AW.skip ?_
          refine blkQ.norm ?_
          refine AW.rend ?_
          try simp only [wm, ↓wk, ↓wl, nq, evV, ↓reduceIte, sevalprocAttr]
          exact loopQ.next H ((Le.tz [] [3, 12, 40, 41] (by simp only [f22_L1c, wm, wmr, rrm, ↓wk, ↓wl, evV, ↓reduceIte, sevalprocAttr] <;> rfl)))
      ·refine AW.exit ?_
       refine seqQ.exit ?_
       refine loopQ.exit H ?_ <;> clear H <;> intro H
       try dsimp only at H
       refine blk0.here ?_
       refine seqQ.norm ?_
       refine AW.rseq ?_
       try simp only [wm, ↓wk, ↓wl, nq, evV, ↓reduceIte, sevalprocAttr]
       refine AW.ret ?_
       cases H
       exact hQ _ _ _ _ (.inr rfl) (by simp only [resVs, omap, resV, wm, ↓wk, ↓wl, nq, evV, ↓reduceIte, sevalprocAttr]; rfl) (hand_plain (by rfl)) (by first | exact Or.inl rfl | exact Or.inr rfl)
noncomputable def f24_L1 (r_299 : (List Int)) : Lp (Int × Int) (Int) where
  body := fun (used_304, v_305) => (if (decide (v_305 < 513)) = true then (arr? 513 r_299 v_305).bind fun x_308 => (if (decide (0 < x_308)) = true then (some (.next ((IntKind.i64.wrap (used_304 + 1)), (IntKind.i64.wrap (v_305 + 1))))) else (some (.next (used_304, (IntKind.i64.wrap (v_305 + 1)))))) else (some (.brk used_304)))
  cst := fun (used_304, v_305) => ⟨put (put (put (fun _ => .junk) 25 (.int .i64 v_305)) 24 (.agg (r_299.map (AV.int .i64)))) 10 (.int .i64 used_304), []⟩
theorem f24_L1c (r_299 : (List Int)) (used_304 : Int) (v_305 : Int) : (f24_L1 r_299).cst (used_304, v_305) = ⟨put (put (put (fun _ => .junk) 25 (.int .i64 v_305)) 24 (.agg (r_299.map (AV.int .i64)))) 10 (.int .i64 used_304), []⟩ := rfl
def c24_0 : C := .cond (.t 20) (.seq (.reg [iI 21 (.mv (.t 9)), iI 6 (.mv (.c (.int .i64 0))), iI 7 (.mv (.t 21))]) .ret) (.skip)
def c24_1 : C := .cond (.t 29) (.reg [iI 30 (.mv (.t 10)), iI 31 (.bin .add (.t 30) (.c (.int .i64 1))), iI 10 (.mv (.t 31))]) (.skip)
def c24_2 : C := .seq (.reg [iI 28 (.mv (.t 12)), iI 29 (.bin .gtr (.t 28) (.c (.int .i64 0)))]) c24_1
def c24_3 : C := .reg [iI 32 (.bin .add (.t 25) (.c (.int .i64 1))), iI 25 (.mv (.t 32))]
def c24_4 : C := .seq (.block 1 (.seq (.reg [iI 27 (.idx 0 513 (.t 24) (.t 25)), iI 12 (.mv (.t 27))]) c24_2)) c24_3
def c24_5 : C := .seq (.cond (.t 26) (.skip) (.exit 0)) c24_4
def c24_6 : C := .block 0 (.loop (.seq (.reg [iI 26 (.bin .lss (.t 25) (.c (.int .i64 513)))]) c24_5))
def c24_7 : C := .seq (.reg [iI 33 (.mv (.t 10)), iI 6 (.mv (.t 33)), iI 7 (.mv (.c (.int .i64 0)))]) .ret
def c24_8 : C := .seq (.seq (.reg [iI 22 (.load 2 (.t 8)), iI 23 (.mv (.t 2)), iI 24 (.call (.c (.fn 54 [])) [(.t 22), (.t 23)]), iI 25 (.mv (.c (.int .i64 0)))]) c24_6) c24_7
def c24_9 : C := .seq (.reg [iI 10 (.mv (.c (.int .i64 0)))]) c24_8
def c24_10 : C := .seq (.seq (.reg [iI 19 (.mv (.t 9)), iI 20 (.bin .neq (.t 19) (.c (.int .i64 0)))]) c24_0) c24_9
def c24_11 : C := .seq (.reg [iI 14 (.mv (.t 0)), iI 15 (.mv (.t 1)), iI 16 (.call (.c (.fn 44 [])) [(.t 14), (.t 15)]), iI 13 (.mv (.t 16)), iI 17 (.ext (.t 13) 0), iI 18 (.ext (.t 13) 1), iI 8 (.alloc [(1, (.sl 7 true [])), (1, .nilmp)]), iN (.store 2 (.t 8) (.t 17)), iI 9 (.mv (.t 18))]) c24_10
def ir24 : C := .seq (.reg [iI 6 (.mv (.c (.int .i64 0))), iI 7 (.mv (.c (.int .i64 0)))]) c24_11
theorem fd24 : fd? Try.prog 24 = some (34, [.slot 6, .slot 7], ir24) := by kernel_rfl
noncomputable def f24 (l_295 : (List ApiFixture)) (profiles_296 : (List ApiProfile)) (number_297 : Int) : Option (Int × Int) :=
  (f44 l_295 profiles_296).bind fun r_298 => (if (decide (r_298.2 ≠ 0)) = true then (some (0, r_298.2)) else (f54 r_298.1 number_297).bind fun r_299 => (Lp.run (f24_L1 r_299) (0, 0)).bind fun used_307 => (some (used_307, 0)))
theorem f24_ok {l_295 : (List ApiFixture)} {profiles_296 : (List ApiProfile)} {number_297 : Int} {r_ : Int × Int} (H : f24 l_295 profiles_296 number_297 = some r_) : Pure Try.prog 24 [.sl 7 false (l_295.map eApiFixture), .sl 4 false (profiles_296.map eApiProfile), .int .i64 number_297] (· = .tup [.int .i64 r_.1, .int .i64 r_.2]) := by
 refine Pure.walk3 fd24 none (Nat.le_of_ble_eq_true rfl) (by rfl) fun Q hQ => ?_
 simp only [f24] at H
 refine AW.rseq ?_
 try simp only [wm, ↓wk, ↓wl, nq, evV, ↓reduceIte, sevalprocAttr]
 refine AW.rseq ?_
 try simp only [wm, ↓wk, ↓wl, nq, evV, ↓reduceIte, sevalprocAttr]
 refine evTs_pure hFn H (fun _ h => f44_ok h) (by rfl) (by rfl) (by rfl) (by rfl) (fun _ => rfl) ?_ <;> clear H <;> intro r_298 H
 try simp only [eL, ePatchRig, eM, wm, ↓wk, ↓wl, nq, evV, ↓reduceIte, sevalprocAttr]
 refine AW.sseq ?_
 refine AW.rseq ?_
 try simp only [wm, ↓wk, ↓wl, nq, evV, ↓reduceIte, sevalprocAttr]
 refine AW.ifc H (by rfl) ?_ ?_ <;> clear H <;> intro H
 ·refine AW.rseq ?_
  try simp only [wm, ↓wk, ↓wl, nq, evV, ↓reduceIte, sevalprocAttr]
  refine AW.ret ?_
  refine seqQ.ret ?_
  cases H
  exact hQ _ _ _ _ (.inr rfl) (by simp only [resVs, omap, resV, wm, ↓wk, ↓wl, nq, evV, ↓reduceIte, sevalprocAttr]; rfl) (hand_plain (by rfl)) (by first | exact Or.inl rfl | exact Or.inr rfl)
 ·refine AW.skip ?_
  refine seqQ.norm ?_
  refine AW.rseq ?_
  try simp only [wm, ↓wk, ↓wl, nq, evV, ↓reduceIte, sevalprocAttr]
  refine AW.sseq ?_
  refine AW.rseq ?_
  try simp only [wm, ↓wk, ↓wl, nq, evV, ↓reduceIte, sevalprocAttr]
  refine evTs_pure hFn H (fun _ h => f54_ok h) (by rfl) (by rfl) (by rfl) (by rfl) (fun _ => rfl) ?_ <;> clear H <;> intro r_299 H
  try simp only [eL, eA, wm, ↓wk, ↓wl, nq, evV, ↓reduceIte, sevalprocAttr]
  refine AW.bend ?_
  refine AW.iter H ((Le.tz [] [10, 24, 25] (by simp only [f24_L1c, wm, wmr, rrm, ↓wk, ↓wl, evV, ↓reduceIte, sevalprocAttr] <;> rfl))) ?_ <;> clear H
  rintro ⟨used_304, v_305⟩ x_ st0_ H hst_
  rw [f24_L1c] at hst_
  simp only [f24_L1] at H
  subst hst_
  refine AW.rseq ?_
  try simp only [wm, ↓wk, ↓wl, nq, evV, ↓reduceIte, sevalprocAttr]
  refine AW.sseq ?_
  refine AW.ifc H (by rfl) ?_ ?_ <;> clear H <;> intro H
  ·refine AW.skip ?_
   refine seqQ.norm ?_
   refine AW.bseq ?_
   refine AW.rseq ?_
   try simp only [wm, ↓wk, ↓wl, nq, evV, ↓reduceIte, sevalprocAttr]
   refine evTs_aidx (enc := (AV.int .i64)) H (by rfl) (by rfl) ?_ <;> clear H <;> intro x_308 H
   try simp only [wm, ↓wk, ↓wl, nq, evV, ↓reduceIte, sevalprocAttr]
   refine AW.rseq ?_
   try simp only [wm, ↓wk, ↓wl, nq, evV, ↓reduceIte, sevalprocAttr]
   refine AW.ifc H (by rfl) ?_ ?_ <;> clear H <;> intro H
   ·refine AW.rend ?_
    try simp only [wm, ↓wk, ↓wl, nq, evV, ↓reduceIte, sevalprocAttr]
    refine blkQ.norm ?_
    refine AW.rend ?_
    try simp only [wm, ↓wk, ↓wl, nq, evV, ↓reduceIte, sevalprocAttr]
    exact loopQ.next H ((Le.tz [] [10, 24, 25] (by simp only [f24_L1c, wm, wmr, rrm, ↓wk, ↓wl, evV, ↓reduceIte, sevalprocAttr] <;> rfl)))
   ·refine AW.skip ?_
    refine blkQ.norm ?_
    refine AW.rend ?_
    try simp only [wm, ↓wk, ↓wl, nq, evV, ↓reduceIte, sevalprocAttr]
    exact loopQ.next H ((Le.tz [] [10, 24, 25] (by simp only [f24_L1c, wm, wmr, rrm, ↓wk, ↓wl, evV, ↓reduceIte, sevalprocAttr] <;> rfl)))
  ·refine AW.exit ?_
   refine seqQ.exit ?_
   refine loopQ.exit H ?_ <;> clear H <;> intro H
   try dsimp only at H
   refine blk0.here ?_
   refine seqQ.norm ?_
   refine AW.rseq ?_
   try simp only [wm, ↓wk, ↓wl, nq, evV, ↓reduceIte, sevalprocAttr]
   refine AW.ret ?_
   cases H
   exact hQ _ _ _ _ (.inr rfl) (by simp only [resVs, omap, resV, wm, ↓wk, ↓wl, nq, evV, ↓reduceIte, sevalprocAttr]; rfl) (hand_plain (by rfl)) (by first | exact Or.inl rfl | exact Or.inr rfl)
def c30_0 : C := .cond (.t 4) (.seq (.reg [iI 2 (.mv (.c (.sl 7 true [])))]) .ret) (.skip)
def c30_1 : C := .seq (.reg [iI 5 (.mkslp 7 0 (.agg [(.int .i64 0), (.int .i64 0), (.str []), (.int .i64 0), (.int .i64 0), (.int .i64 0), (.str [])]) []), iI 6 (.mv (.t 0)), iI 7 (.append 7 72 (.t 5) (.t 6)), iI 2 (.mv (.t 7))]) .ret
def c30_2 : C := .seq (.seq (.reg [iI 3 (.mv (.t 0)), iI 4 (.isnil false (.t 3))]) c30_0) c30_1
def ir30 : C := .seq (.reg [iI 2 (.mv (.c (.sl 7 true [])))]) c30_2
theorem fd30 : fd? Try.prog 30 = some (8, [.slot 2], ir30) := by kernel_rfl
noncomputable def f30 (s_342 : (List ApiFixture)) : Option ((List ApiFixture)) :=
  (nil? (s_342 : List ApiFixture) false fun b_343 => (if b_343 = true then (some []) else (app? 72 [] s_342).bind fun out_344 => (some out_344)))
theorem f30_ok {s_342 : (List ApiFixture)} {r_ : (List ApiFixture)} (H : f30 s_342 = some r_) : Pure Try.prog 30 [.sl 7 false (s_342.map eApiFixture)] (· = .fr 7 (r_.map eApiFixture)) := by
 refine Pure.walk3 fd30 (some 0) (Nat.le_of_ble_eq_true rfl) (by rfl) fun Q hQ => ?_
 simp only [f30] at H
 refine AW.rseq ?_
 try simp only [wm, ↓wk, ↓wl, nq, evV, ↓reduceIte, sevalprocAttr]
 refine AW.sseq ?_
 refine AW.rseq ?_
 try simp only [wm, ↓wk, ↓wl, nq, evV, ↓reduceIte, sevalprocAttr]
 refine evTs_isnil (enc := eApiFixture) H (by rfl) ?_ <;> clear H <;> intro b_343 H
 try simp only [wm, ↓wk, ↓wl, nq, evV, ↓reduceIte, sevalprocAttr]
 refine AW.ifc H (by rfl) ?_ ?_ <;> clear H <;> intro H
 ·refine AW.rseq ?_
  try simp only [wm, ↓wk, ↓wl, nq, evV, ↓reduceIte, sevalprocAttr]
  refine AW.ret ?_
  refine seqQ.ret ?_
  cases H
  exact hQ _ _ _ _ (.inr rfl) (by simp only [resVs, omap, resV, wm, ↓wk, ↓wl, nq, evV, ↓reduceIte, sevalprocAttr]; rfl) hand_10 (by first | exact Or.inl rfl | exact Or.inr rfl)
 ·refine AW.skip ?_
  refine seqQ.norm ?_
  refine AW.rseq ?_
  try simp only [wm, ↓wk, ↓wl, nq, evV, ↓reduceIte, sevalprocAttr]
  refine evTs_app0 (enc := eApiFixture) H (by rfl) (by rfl) ?_ <;> clear H <;> intro out_344 H
  try simp only [wm, ↓wk, ↓wl, nq, evV, ↓reduceIte, sevalprocAttr]
  refine AW.ret ?_
  cases H
  exact hQ _ _ _ _ (.inr rfl) (by simp only [resVs, omap, resV, wm, ↓wk, ↓wl, nq, evV, ↓reduceIte, sevalprocAttr]; rfl) (hand_1 (by rfl) (by simp) (enc_all _)) (by first | exact Or.inl rfl | exact Or.inr rfl)
theorem f30_im {s_342 : (List ApiFixture)} {r_ : (List ApiFixture)} (H : f30 s_342 = some r_) : Pure Try.prog 30 [.sl 7 false (s_342.map eApiFixture)] (· = .sl 7 false (r_.map eApiFixture)) := (f30_ok H).unfr (by first | exact enc_fits _ | simp only [frFits, List.all_cons, List.all_nil, enc_fits, Bool.and_self])
theorem dlf68 : fd? Try.prog 68 = some (42, [.slot 4], dlgC 7 [(1, (.int .i64 0)), (1, (.int .i64 0)), (1, (.str [])), (1, (.int .i64 0)), (1, (.int .i64 0)), (1, (.int .i64 0)), (1, (.str []))] (.agg [(.int .i64 0), (.int .i64 0), (.str []), (.int .i64 0), (.int .i64 0), (.int .i64 0), (.str [])]) 85) := by kernel_rfl
theorem idx85 : fd? Try.prog 85 = some (19, [.slot 4], idxC 7) := by kernel_rfl
def c69_0 : C := .seq (.reg [iI 4 (.faddr 0 (.t 2)), iI 5 (.load 0 (.t 4)), iI 6 (.load 0 (.t 1)), iI 7 (.bin .neq (.t 5) (.t 6)), iI 3 (.mv (.t 7))]) .ret
def ir69 : C := .seq (.reg [iI 2 (.box (.t 0)), iI 3 (.mv (.c (.bool false)))]) c69_0
theorem fd69 : fd? Try.prog 69 = some (8, [.slot 3], ir69) := by kernel_rfl
noncomputable def f69p (f_346 : ApiFixture) (c_347 : Int) : Option (Bool) :=
  (some (decide (f_346.fChannel ≠ c_347)))
theorem f69p_ok {f_346 : ApiFixture} {c_347 : Int} {r_ : Bool} (H : f69p f_346 c_347 = some r_) : Pure Try.prog 69 [.agg [.int .i64 f_346.fChannel, .int .i64 f_346.fPart, .str f_346.fProfile, .int .i64 f_346.fUniverse, .int .i64 f_346.fAddress, .int .i64 f_346.fPhase, .str f_346.fCable], .pro [.int .i64 c_347]] (· = .bool r_) := by
 refine Pure.walk3 fd69 none (Nat.le_of_ble_eq_true rfl) (by rfl) fun Q hQ => ?_
 simp only [f69p] at H
 refine AW.rseq ?_
 try simp only [wm, ↓wk, ↓wl, nq, evV, ↓reduceIte, sevalprocAttr]
 refine AW.rseq ?_
 try simp only [wm, ↓wk, ↓wl, nq, evV, ↓reduceIte, sevalprocAttr]
 refine AW.ret ?_
 cases H
 exact hQ _ _ _ _ (.inr rfl) (by simp only [resVs, omap, resV, wm, ↓wk, ↓wl, nq, evV, ↓reduceIte, sevalprocAttr]; rfl) (hand_plain (by rfl)) (by first | exact Or.inl rfl | exact Or.inr rfl)
def c71_0 : C := .seq (.reg [iI 5 (.faddr 1 (.t 2)), iI 6 (.load 0 (.t 5)), iI 7 (.faddr 1 (.t 3)), iI 8 (.load 0 (.t 7)), iI 9 (.bin .sub (.t 6) (.t 8)), iI 4 (.mv (.t 9))]) .ret
def ir71 : C := .seq (.reg [iI 2 (.box (.t 0)), iI 3 (.box (.t 1)), iI 4 (.mv (.c (.int .i64 0)))]) c71_0
theorem fd71 : fd? Try.prog 71 = some (10, [.slot 4], ir71) := by kernel_rfl
noncomputable def f71 (a_350 : ApiFixture) (b_351 : ApiFixture) : Option (Int) :=
  (some (IntKind.i64.wrap (a_350.fPart - b_351.fPart)))
theorem f71_ok {a_350 : ApiFixture} {b_351 : ApiFixture} {r_ : Int} (H : f71 a_350 b_351 = some r_) : Pure Try.prog 71 [.agg [.int .i64 a_350.fChannel, .int .i64 a_350.fPart, .str a_350.fProfile, .int .i64 a_350.fUniverse, .int .i64 a_350.fAddress, .int .i64 a_350.fPhase, .str a_350.fCable], .agg [.int .i64 b_351.fChannel, .int .i64 b_351.fPart, .str b_351.fProfile, .int .i64 b_351.fUniverse, .int .i64 b_351.fAddress, .int .i64 b_351.fPhase, .str b_351.fCable]] (· = .int .i64 r_) := by
 refine Pure.walk3 fd71 none (Nat.le_of_ble_eq_true rfl) (by rfl) fun Q hQ => ?_
 simp only [f71] at H
 refine AW.rseq ?_
 try simp only [wm, ↓wk, ↓wl, nq, evV, ↓reduceIte, sevalprocAttr]
 refine AW.rseq ?_
 try simp only [wm, ↓wk, ↓wl, nq, evV, ↓reduceIte, sevalprocAttr]
 refine AW.ret ?_
 cases H
 exact hQ _ _ _ _ (.inr rfl) (by simp only [resVs, omap, resV, wm, ↓wk, ↓wl, nq, evV, ↓reduceIte, sevalprocAttr]; rfl) (hand_plain (by rfl)) (by first | exact Or.inl rfl | exact Or.inr rfl)
def c45_0 : C := .seq (.reg [iI 13 (.mv (.t 5)), iI 4 (.mv (.t 13))]) .ret
def c45_1 : C := .seq (.reg [iI 11 (.mv (.t 5)), iI 12 (.call (.c (.fn 70 [])) [(.t 11), (.c (.fn 71 []))])]) c45_0
def c45_2 : C := .seq (.reg [iI 6 (.faddr 0 (.t 2)), iI 7 (.load 0 (.t 6)), iI 8 (.call (.c (.fn 30 [])) [(.t 7)]), iI 9 (.mkfn 69 [(.t 3)]), iI 10 (.call (.c (.fn 68 [])) [(.t 8), (.t 9)]), iI 5 (.mv (.t 10))]) c45_1
def ir45 : C := .seq (.reg [iI 2 (.box (.t 0)), iI 3 (.box (.t 1)), iI 4 (.mv (.c (.sl 7 true [])))]) c45_2
theorem fd45 : fd? Try.prog 45 = some (14, [.slot 4], ir45) := by kernel_rfl
noncomputable def f45 (r_340 : PatchRig) (channel_341 : Int) : Option ((List ApiFixture)) :=
  (f30 r_340.fFixtures).bind fun r_345 => (delf? (fun x_348 => f69p x_348 channel_341) r_345).bind fun v_349 => (sortg? (fun x_352 y_353 => f71 x_352 y_353) v_349).bind fun sorted_354 => (some sorted_354)
theorem f45_ok {r_340 : PatchRig} {channel_341 : Int} {r_ : (List ApiFixture)} (H : f45 r_340 channel_341 = some r_) : Pure Try.prog 45 [.agg [.sl 7 false (r_340.fFixtures.map eApiFixture), .mp (mk AV.str r_340.fProfiles) (mv eApiProfile r_340.fProfiles)], .int .i64 channel_341] (· = .fr 7 (r_.map eApiFixture)) := by
 refine Pure.walk3 fd45 (some 0) (Nat.le_of_ble_eq_true rfl) (by rfl) fun Q hQ => ?_
 simp only [f45] at H
 refine AW.rseq ?_
 try simp only [wm, ↓wk, ↓wl, nq, evV, ↓reduceIte, sevalprocAttr]
 refine AW.rseq ?_
 try simp only [wm, ↓wk, ↓wl, nq, evV, ↓reduceIte, sevalprocAttr]
 refine evTs_fr H (fun _ h => f30_ok h) (by rfl) (by rfl) (by rfl) (by rfl) (fun _ => rfl) ?_ <;> clear H <;> intro r_345 H
 try simp only [eL, wm, ↓wk, ↓wl, nq, evV, ↓reduceIte, sevalprocAttr]
 refine evTs_dlg (enc := eApiFixture) H [.pro [.int .i64 channel_341]] (fun _ _ h => f69p_ok h) dlf68 (by decide) (by rfl) idx85 (by rfl) (by rfl) (by show List.map (renB [0, 1, 2]) _ = _; simp only [wm, wmr, rrm, ↓wk, ↓wl, evV, ↓reduceIte, sevalprocAttr]) (by show ren [0, 1, 2] deep _ = _; simp only [wm, wmr, rrm, ↓wk, ↓wl, evV, ↓reduceIte, sevalprocAttr]) (fun h_ hh_ x_ => by have e0_ := hh_ 1 _ (by decide) (by rfl); simp only [deep_eq, imm_simps, imm_ptrE, imm_mrefE, imm_mpE, imm_arowE, imm_encx (enc := eApiFixture), omap_simps, List.drop_zero, Option.map_some, e0_, wm, ↓wk, ↓wl, nq, evV, ↓reduceIte, sevalprocAttr] <;> rfl) (by first | rfl | simp only [List.length_set]) (by rfl) ?_ <;> clear H <;> intro v_349 H
 try simp only [wm, ↓wk, ↓wl, nq, evV, ↓reduceIte, sevalprocAttr]
 refine AW.rseq ?_
 try simp only [wm, ↓wk, ↓wl, nq, evV, ↓reduceIte, sevalprocAttr]
 refine evTs_srg (enc := eApiFixture) H (by decide) (fun _ _ _ h => f71_ok h) (fd?_entered fd71) sortsK70 (by rfl) (by rfl) (by first | rfl | simp only [List.length_set]) (by rfl) ?_ <;> clear H <;> intro sorted_354 hlsorted_354 H
 have thlsorted_354 := fun f => take_map_eq hlsorted_354 f
 try simp only [wm, ↓wk, ↓wl, nq, evV, ↓reduceIte, sevalprocAttr, hlsorted_354, thlsorted_354]
 refine AW.rseq ?_
 try simp only [wm, ↓wk, ↓wl, nq, evV, ↓reduceIte, sevalprocAttr, hlsorted_354, thlsorted_354]
 refine AW.ret ?_
 cases H
 exact hQ _ _ _ _ (.inr rfl) (by simp only [resVs, omap, resV, wm, ↓wk, ↓wl, nq, evV, ↓reduceIte, sevalprocAttr, hlsorted_354, thlsorted_354]; rfl) (hand_1 (by rfl) (by first | rfl | (simp only [List.length_map, List.length_set, hlsorted_354]; done) | simp [hlsorted_354]) (enc_all _)) (by first | exact Or.inl rfl | exact Or.inr rfl)
theorem f45_im {r_340 : PatchRig} {channel_341 : Int} {r_ : (List ApiFixture)} (H : f45 r_340 channel_341 = some r_) : Pure Try.prog 45 [.agg [.sl 7 false (r_340.fFixtures.map eApiFixture), .mp (mk AV.str r_340.fProfiles) (mv eApiProfile r_340.fProfiles)], .int .i64 channel_341] (· = .sl 7 false (r_.map eApiFixture)) := (f45_ok H).unfr (by first | exact enc_fits _ | simp only [frFits, List.all_cons, List.all_nil, enc_fits, Bool.and_self])
def c12_0 : C := .cond (.t 17) (.seq (.reg [iI 18 (.mv (.t 9)), iI 6 (.mv (.c (.sl 7 true []))), iI 7 (.mv (.t 18))]) .ret) (.skip)
def c12_1 : C := .seq (.reg [iI 19 (.load 2 (.t 8)), iI 20 (.mv (.t 2)), iI 21 (.call (.c (.fn 45 [])) [(.t 19), (.t 20)]), iI 6 (.mv (.t 21)), iI 7 (.mv (.c (.int .i64 0)))]) .ret
def c12_2 : C := .seq (.seq (.reg [iI 16 (.mv (.t 9)), iI 17 (.bin .neq (.t 16) (.c (.int .i64 0)))]) c12_0) c12_1
def c12_3 : C := .seq (.reg [iI 11 (.mv (.t 0)), iI 12 (.mv (.t 1)), iI 13 (.call (.c (.fn 44 [])) [(.t 11), (.t 12)]), iI 10 (.mv (.t 13)), iI 14 (.ext (.t 10) 0), iI 15 (.ext (.t 10) 1), iI 8 (.alloc [(1, (.sl 7 true [])), (1, .nilmp)]), iN (.store 2 (.t 8) (.t 14)), iI 9 (.mv (.t 15))]) c12_2
def ir12 : C := .seq (.reg [iI 6 (.mv (.c (.sl 7 true []))), iI 7 (.mv (.c (.int .i64 0)))]) c12_3
theorem fd12 : fd? Try.prog 12 = some (22, [.slot 6, .slot 7], ir12) := by kernel_rfl
noncomputable def f12 (l_336 : (List ApiFixture)) (profiles_337 : (List ApiProfile)) (channel_338 : Int) : Option ((List ApiFixture) × Int) :=
  (f44 l_336 profiles_337).bind fun r_339 => (if (decide (r_339.2 ≠ 0)) = true then (some ([], r_339.2)) else (f45 r_339.1 channel_338).bind fun r_355 => (some (r_355, 0)))
theorem f12_ok {l_336 : (List ApiFixture)} {profiles_337 : (List ApiProfile)} {channel_338 : Int} {r_ : (List ApiFixture) × Int} (H : f12 l_336 profiles_337 channel_338 = some r_) : Pure Try.prog 12 [.sl 7 false (l_336.map eApiFixture), .sl 4 false (profiles_337.map eApiProfile), .int .i64 channel_338] (· = .tup [.fr 7 (r_.1.map eApiFixture), .int .i64 r_.2]) := by
 refine Pure.walk3 fd12 (some 0) (Nat.le_of_ble_eq_true rfl) (by rfl) fun Q hQ => ?_
 simp only [f12] at H
 refine AW.rseq ?_
 try simp only [wm, ↓wk, ↓wl, nq, evV, ↓reduceIte, sevalprocAttr]
 refine AW.rseq ?_
 try simp only [wm, ↓wk, ↓wl, nq, evV, ↓reduceIte, sevalprocAttr]
 refine evTs_pure hFn H (fun _ h => f44_ok h) (by rfl) (by rfl) (by rfl) (by rfl) (fun _ => rfl) ?_ <;> clear H <;> intro r_339 H
 try simp only [eL, ePatchRig, eM, wm, ↓wk, ↓wl, nq, evV, ↓reduceIte, sevalprocAttr]
 refine AW.sseq ?_
 refine AW.rseq ?_
 try simp only [wm, ↓wk, ↓wl, nq, evV, ↓reduceIte, sevalprocAttr]
 refine AW.ifc H (by rfl) ?_ ?_ <;> clear H <;> intro H
 ·refine AW.rseq ?_
  try simp only [wm, ↓wk, ↓wl, nq, evV, ↓reduceIte, sevalprocAttr]
  refine AW.ret ?_
  refine seqQ.ret ?_
  cases H
  exact hQ _ _ _ _ (.inr rfl) (by simp only [resVs, omap, resV, wm, ↓wk, ↓wl, nq, evV, ↓reduceIte, sevalprocAttr]; rfl) (hand_k0 (by rfl) (by rfl)) (by first | exact Or.inl rfl | exact Or.inr rfl)
 ·refine AW.skip ?_
  refine seqQ.norm ?_
  refine AW.rseq ?_
  try simp only [wm, ↓wk, ↓wl, nq, evV, ↓reduceIte, sevalprocAttr]
  refine evTs_fr H (fun _ h => f45_ok h) (by rfl) (by rfl) (by rfl) (by rfl) (fun _ => rfl) ?_ <;> clear H <;> intro r_355 H
  try simp only [eL, wm, ↓wk, ↓wl, nq, evV, ↓reduceIte, sevalprocAttr]
  refine AW.ret ?_
  cases H
  exact hQ _ _ _ _ (.inr rfl) (by simp only [resVs, omap, resV, wm, ↓wk, ↓wl, nq, evV, ↓reduceIte, sevalprocAttr]; rfl) (hand_k (by rfl) (by rfl) (by simp) (enc_all _) (by rfl)) (by first | exact Or.inl rfl | exact Or.inr rfl)
theorem f12_im {l_336 : (List ApiFixture)} {profiles_337 : (List ApiProfile)} {channel_338 : Int} {r_ : (List ApiFixture) × Int} (H : f12 l_336 profiles_337 channel_338 = some r_) : Pure Try.prog 12 [.sl 7 false (l_336.map eApiFixture), .sl 4 false (profiles_337.map eApiProfile), .int .i64 channel_338] (· = .tup [.sl 7 false (r_.1.map eApiFixture), .int .i64 r_.2]) := (f12_ok H).unfr (by first | exact enc_fits _ | simp only [frFits, List.all_cons, List.all_nil, enc_fits, Bool.and_self])
noncomputable def f14_L2 (m_430 : ApiProfile) (v_408 : Int) (r_361 : (List ApiFixture)) (r_360 : PatchRig × Int) : Lp (Int × (List Int)) ((List Int)) where
  body := fun (v_438, out_439) => (if (decide (v_438 < ((m_430.fFeatures.length : Nat) : Int))) = true then (at? m_430.fFeatures v_438).bind fun x_443 => (app? 8 out_439 ([x_443.fAttr])).bind fun out_444 => (some (.next ((IntKind.i64.wrap (v_438 + 1)), out_444))) else (some (.brk out_439)))
  cst := fun (v_438, out_439) => ⟨put (put (put (put (put (put (put (put (fun _ => .junk) 39 (.int .i64 v_438)) 38 (.int .i64 ((m_430.fFeatures.length : Nat) : Int))) 37 (.sl 10 false (m_430.fFeatures.map eApiFeature))) 28 (.int .i64 v_408)) 27 (.int .i64 ((r_361.length : Nat) : Int))) 26 (.sl 7 false (r_361.map eApiFixture))) 10 (.row 0 1 0 out_439.length)) 8 (.ptr 0 0), [.cel [.sl 7 false (r_360.1.fFixtures.map eApiFixture), .mp (mk AV.str r_360.1.fProfiles) (mv eApiProfile r_360.1.fProfiles)], .els 0 (out_439.map (AV.int .i64))]⟩
theorem f14_L2c (m_430 : ApiProfile) (v_408 : Int) (r_361 : (List ApiFixture)) (r_360 : PatchRig × Int) (v_438 : Int) (out_439 : (List Int)) : (f14_L2 m_430 v_408 r_361 r_360).cst (v_438, out_439) = ⟨put (put (put (put (put (put (put (put (fun _ => .junk) 39 (.int .i64 v_438)) 38 (.int .i64 ((m_430.fFeatures.length : Nat) : Int))) 37 (.sl 10 false (m_430.fFeatures.map eApiFeature))) 28 (.int .i64 v_408)) 27 (.int .i64 ((r_361.length : Nat) : Int))) 26 (.sl 7 false (r_361.map eApiFixture))) 10 (.row 0 1 0 out_439.length)) 8 (.ptr 0 0), [.cel [.sl 7 false (r_360.1.fFixtures.map eApiFixture), .mp (mk AV.str r_360.1.fProfiles) (mv eApiProfile r_360.1.fProfiles)], .els 0 (out_439.map (AV.int .i64))]⟩ := rfl
noncomputable def f14_L1 (r_361 : (List ApiFixture)) (r_360 : PatchRig × Int) : Lp (Int × (List Int)) ((List Int)) where
  body := fun (v_408, out_409) => (if (decide (v_408 < ((r_361.length : Nat) : Int))) = true then (at? r_361 v_408).bind fun x_429 => (look? (r_360.1.fProfiles : (List ((List UInt8) × ApiProfile))) x_429.fProfile ((ApiProfile.mk ([]) 0 0 ([])) : ApiProfile) fun m_430 ok_431 => (Lp.run (f14_L2 m_430 v_408 r_361 r_360) (0, out_409)).bind fun out_442 => (some (.next ((IntKind.i64.wrap (v_408 + 1)), out_442)))) else (some (.brk out_409)))
  cst := fun (v_408, out_409) => ⟨put (put (put (put (put (fun _ => .junk) 28 (.int .i64 v_408)) 27 (.int .i64 ((r_361.length : Nat) : Int))) 26 (.sl 7 false (r_361.map eApiFixture))) 10 (.row 0 1 0 out_409.length)) 8 (.ptr 0 0), [.cel [.sl 7 false (r_360.1.fFixtures.map eApiFixture), .mp (mk AV.str r_360.1.fProfiles) (mv eApiProfile r_360.1.fProfiles)], .els 0 (out_409.map (AV.int .i64))]⟩
theorem f14_L1c (r_361 : (List ApiFixture)) (r_360 : PatchRig × Int) (v_408 : Int) (out_409 : (List Int)) : (f14_L1 r_361 r_360).cst (v_408, out_409) = ⟨put (put (put (put (put (fun _ => .junk) 28 (.int .i64 v_408)) 27 (.int .i64 ((r_361.length : Nat) : Int))) 26 (.sl 7 false (r_361.map eApiFixture))) 10 (.row 0 1 0 out_409.length)) 8 (.ptr 0 0), [.cel [.sl 7 false (r_360.1.fFixtures.map eApiFixture), .mp (mk AV.str r_360.1.fProfiles) (mv eApiProfile r_360.1.fProfiles)], .els 0 (out_409.map (AV.int .i64))]⟩ := rfl
def c14_0 : C := .cond (.t 22) (.seq (.reg [iI 23 (.mv (.t 9)), iI 6 (.mv (.c (.sl 0 true []))), iI 7 (.mv (.t 23))]) .ret) (.skip)
def c14_1 : C := .reg [iI 43 (.mv (.t 10)), iI 44 (.faddr 0 (.t 14)), iI 45 (.load 0 (.t 44)), iI 46 (.mkslp 0 1 (.int .i64 0) [(0, (.t 45))]), iI 47 (.append 0 8 (.t 43) (.t 46)), iI 10 (.mv (.t 47))]
def c14_2 : C := .reg [iI 48 (.bin .add (.t 39) (.c (.int .i64 1))), iI 39 (.mv (.t 48))]
def c14_3 : C := .seq (.block 3 (.seq (.reg [iI 41 (.iaddr 10 (.t 37) (.t 39)), iI 42 (.load 10 (.t 41)), iI 14 (.alloc [(1, (.int .i64 0)), (1, (.int .i64 0)), (1, (.int .i64 0)), (1, (.int .i64 0)), (1, (.int .i64 0)), (1, (.int .i64 0)), (1, (.int .i64 0)), (1, (.int .i64 0)), (1, (.bool false)), (1, (.sl 3 true []))]), iN (.store 10 (.t 14) (.t 42))]) c14_1)) c14_2
def c14_4 : C := .seq (.cond (.t 40) (.skip) (.exit 2)) c14_3
def c14_5 : C := .block 2 (.loop (.seq (.reg [iI 40 (.bin .lss (.t 39) (.t 38))]) c14_4))
def c14_6 : C := .seq (.reg [iI 32 (.faddr 1 (.t 8)), iI 33 (.load 0 (.t 32)), iI 34 (.faddr 2 (.t 12)), iI 35 (.load 0 (.t 34)), iI 36 (.lookup 1 (.agg [(.str []), (.int .i64 0), (.int .i64 0), (.sl 10 true [])]) false (.t 33) (.t 35)), iI 37 (.fld 3 0 (.t 36)), iI 38 (.len 0 (.t 37)), iI 39 (.mv (.c (.int .i64 0)))]) c14_5
def c14_7 : C := .reg [iI 49 (.bin .add (.t 28) (.c (.int .i64 1))), iI 28 (.mv (.t 49))]
def c14_8 : C := .seq (.block 1 (.seq (.reg [iI 30 (.iaddr 7 (.t 26) (.t 28)), iI 31 (.load 7 (.t 30)), iI 12 (.alloc [(1, (.int .i64 0)), (1, (.int .i64 0)), (1, (.str [])), (1, (.int .i64 0)), (1, (.int .i64 0)), (1, (.int .i64 0)), (1, (.str []))]), iN (.store 7 (.t 12) (.t 31))]) c14_6)) c14_7
def c14_9 : C := .seq (.cond (.t 29) (.skip) (.exit 0)) c14_8
def c14_10 : C := .block 0 (.loop (.seq (.reg [iI 29 (.bin .lss (.t 28) (.t 27))]) c14_9))
def c14_11 : C := .seq (.reg [iI 52 (.mv (.t 10)), iI 53 (.call (.c (.fn 48 [])) [(.t 52)]), iI 6 (.mv (.t 53)), iI 7 (.mv (.c (.int .i64 0)))]) .ret
def c14_12 : C := .seq (.reg [iI 50 (.mv (.t 10)), iI 51 (.call (.c (.fn 47 [])) [(.t 50)])]) c14_11
def c14_13 : C := .seq (.seq (.reg [iI 24 (.load 2 (.t 8)), iI 25 (.mv (.t 2)), iI 26 (.call (.c (.fn 45 [])) [(.t 24), (.t 25)]), iI 27 (.len 0 (.t 26)), iI 28 (.mv (.c (.int .i64 0)))]) c14_10) c14_12
def c14_14 : C := .seq (.reg [iI 10 (.mv (.c (.sl 0 true [])))]) c14_13
def c14_15 : C := .seq (.seq (.reg [iI 21 (.mv (.t 9)), iI 22 (.bin .neq (.t 21) (.c (.int .i64 0)))]) c14_0) c14_14
def c14_16 : C := .seq (.reg [iI 16 (.mv (.t 0)), iI 17 (.mv (.t 1)), iI 18 (.call (.c (.fn 44 [])) [(.t 16), (.t 17)]), iI 15 (.mv (.t 18)), iI 19 (.ext (.t 15) 0), iI 20 (.ext (.t 15) 1), iI 8 (.alloc [(1, (.sl 7 true [])), (1, .nilmp)]), iN (.store 2 (.t 8) (.t 19)), iI 9 (.mv (.t 20))]) c14_15
def ir14 : C := .seq (.reg [iI 6 (.mv (.c (.sl 0 true []))), iI 7 (.mv (.c (.int .i64 0)))]) c14_16
theorem fd14 : fd? Try.prog 14 = some (54, [.slot 6, .slot 7], ir14) := by kernel_rfl
noncomputable def f14 (l_357 : (List ApiFixture)) (profiles_358 : (List ApiProfile)) (channel_359 : Int) : Option ((List Int) × Int) :=
  (f44 l_357 profiles_358).bind fun r_360 => (if (decide (r_360.2 ≠ 0)) = true then (some ([], r_360.2)) else (f45 r_360.1 channel_359).bind fun r_361 => (Lp.run (f14_L1 r_361 r_360) (0, [])).bind fun out_424 => (sort? out_424).bind fun sorted_425 => (compact? sorted_425).bind fun out_426 => (some (out_426, 0)))
theorem f14_ok {l_357 : (List ApiFixture)} {profiles_358 : (List ApiProfile)} {channel_359 : Int} {r_ : (List Int) × Int} (H : f14 l_357 profiles_358 channel_359 = some r_) : Pure Try.prog 14 [.sl 7 false (l_357.map eApiFixture), .sl 4 false (profiles_358.map eApiProfile), .int .i64 channel_359] (· = .tup [.fr 0 (r_.1.map (AV.int .i64)), .int .i64 r_.2]) := by
 refine Pure.walk3 fd14 (some 0) (Nat.le_of_ble_eq_true rfl) (by rfl) fun Q hQ => ?_
 simp only [f14] at H
 refine AW.rseq ?_
 try simp only [wm, ↓wk, ↓wl, nq, evV, ↓reduceIte, sevalprocAttr]
 refine AW.rseq ?_
 try simp only [wm, ↓wk, ↓wl, nq, evV, ↓reduceIte, sevalprocAttr]
 refine evTs_pure hFn H (fun _ h => f44_ok h) (by rfl) (by rfl) (by rfl) (by rfl) (fun _ => rfl) ?_ <;> clear H <;> intro r_360 H
 try simp only [eL, ePatchRig, eM, wm, ↓wk, ↓wl, nq, evV, ↓reduceIte, sevalprocAttr]
 refine AW.sseq ?_
 refine AW.rseq ?_
 try simp only [wm, ↓wk, ↓wl, nq, evV, ↓reduceIte, sevalprocAttr]
 refine AW.ifc H (by rfl) ?_ ?_ <;> clear H <;> intro H
 ·refine AW.rseq ?_
  try simp only [wm, ↓wk, ↓wl, nq, evV, ↓reduceIte, sevalprocAttr]
  refine AW.ret ?_
  refine seqQ.ret ?_
  cases H
  exact hQ _ _ _ _ (.inr rfl) (by simp only [resVs, omap, resV, wm, ↓wk, ↓wl, nq, evV, ↓reduceIte, sevalprocAttr]; rfl) (hand_k0 (by rfl) (by rfl)) (by first | exact Or.inl rfl | exact Or.inr rfl)
 ·refine AW.skip ?_
  refine seqQ.norm ?_
  refine AW.rseq ?_
  try simp only [wm, ↓wk, ↓wl, nq, evV, ↓reduceIte, sevalprocAttr]
  refine AW.sseq ?_
  refine AW.rseq ?_
  try simp only [wm, ↓wk, ↓wl, nq, evV, ↓reduceIte, sevalprocAttr]
  refine evTs_pure hFn H (fun _ h => f45_im h) (by rfl) (by rfl) (by rfl) (by rfl) (fun _ => rfl) ?_ <;> clear H <;> intro r_361 H
  try simp only [eL, wm, ↓wk, ↓wl, nq, evV, ↓reduceIte, sevalprocAttr]
  refine AW.bend ?_
  refine AW.iter H ((Le.trans (Le.nilRow (i := 10) (e := 0) (by simp only [↓wk, ↓wl, nq, evV, ↓reduceIte, sevalprocAttr])) (Le.tz [0, 1] [8, 10, 26, 27, 28] (by simp only [f14_L1c, wm, wmr, rrm, ↓wk, ↓wl, evV, ↓reduceIte, sevalprocAttr] <;> rfl)))) ?_ <;> clear H
  rintro ⟨v_408, out_409⟩ x_ st0_ H hst_
  rw [f14_L1c] at hst_
  simp only [f14_L1] at H
  subst hst_
  refine AW.rseq ?_
  try simp only [wm, ↓wk, ↓wl, nq, evV, ↓reduceIte, sevalprocAttr]
  refine AW.sseq ?_
  refine AW.ifc H (by rfl) ?_ ?_ <;> clear H <;> intro H
  ·refine AW.skip ?_
   refine seqQ.norm ?_
   refine AW.bseq ?_
   refine AW.rseq ?_
   try simp only [wm, ↓wk, ↓wl, nq, evV, ↓reduceIte, sevalprocAttr]
   refine evTs_at (enc := eApiFixture) H (by rfl) (by rfl) ?_ <;> clear H <;> intro x_429 H
   try simp only [eApiFixture, eL, eM, wm, ↓wk, ↓wl, nq, evV, ↓reduceIte, sevalprocAttr]
   refine AW.rseq ?_
   try simp only [wm, ↓wk, ↓wl, nq, evV, ↓reduceIte, sevalprocAttr]
   refine evTs_lookP (ek := AV.str) (ev := eApiProfile) H false (by rfl) (by rfl) (by rfl) ?_ <;> clear H <;> intro m_430 ok_431 H
   try simp only [eApiProfile, eL, eM, wm, ↓wk, ↓wl, nq, evV, ↓reduceIte, sevalprocAttr]
   refine AW.bend ?_
   refine AW.iter H ((Le.tz [0, 1] [8, 10, 26, 27, 28, 37, 38, 39] (by simp only [f14_L2c, wm, wmr, rrm, ↓wk, ↓wl, evV, ↓reduceIte, sevalprocAttr] <;> rfl))) ?_ <;> clear H
   rintro ⟨v_438, out_439⟩ x_ st0_ H hst_
   rw [f14_L2c] at hst_
   simp only [f14_L2] at H
   subst hst_
   refine AW.rseq ?_
   try simp only [wm, ↓wk, ↓wl, nq, evV, ↓reduceIte, sevalprocAttr]
   refine AW.sseq ?_
   refine AW.ifc H (by rfl) ?_ ?_ <;> clear H <;> intro H
   ·refine AW.skip ?_
    refine seqQ.norm ?_
    refine AW.bseq ?_
    refine AW.rseq ?_
    try simp only [wm, ↓wk, ↓wl, nq, evV, ↓reduceIte, sevalprocAttr]
    refine evTs_at (enc := eApiFeature) H (by rfl) (by rfl) ?_ <;> clear H <;> intro x_443 H
    try simp only [eApiFeature, eL, eM, wm, ↓wk, ↓wl, nq, evV, ↓reduceIte, sevalprocAttr]
    refine AW.rend ?_
    try simp only [wm, ↓wk, ↓wl, nq, evV, ↓reduceIte, sevalprocAttr]
    refine evTs_app (enc := (AV.int .i64)) H (by rfl) (by first | rfl | simp only [List.length_set]) (by rfl) (by rfl) ?_ <;> clear H <;> intro out_444 H
    try simp only [wm, ↓wk, ↓wl, nq, evV, ↓reduceIte, sevalprocAttr]
    refine blkQ.norm ?_
    refine AW.rend ?_
    try simp only [wm, ↓wk, ↓wl, nq, evV, ↓reduceIte, sevalprocAttr]
    exact loopQ.next H ((Le.tz [0, 3] [8, 10, 26, 27, 28, 37, 38, 39] (by simp only [f14_L2c, wm, wmr, rrm, ↓wk, ↓wl, evV, ↓reduceIte, sevalprocAttr] <;> rfl)))
   ·refine AW.exit ?_
    refine seqQ.exit ?_
    refine loopQ.exit H ?_ <;> clear H <;> intro H
    try dsimp only at H
    refine blk0.here ?_
    refine blkQ.norm ?_
    refine AW.rend ?_
    try simp only [wm, ↓wk, ↓wl, nq, evV, ↓reduceIte, sevalprocAttr]
    exact loopQ.next H ((Le.tz [0, 1] [8, 10, 26, 27, 28] (by simp only [f14_L1c, wm, wmr, rrm, ↓wk, ↓wl, evV, ↓reduceIte, sevalprocAttr] <;> rfl)))
  ·refine AW.exit ?_
   refine seqQ.exit ?_
   refine loopQ.exit H ?_ <;> clear H <;> intro H
   try dsimp only at H
   refine blk0.here ?_
   refine seqQ.norm ?_
   refine AW.rseq ?_
   try simp only [wm, ↓wk, ↓wl, nq, evV, ↓reduceIte, sevalprocAttr]
   refine evTs_sort sorts47 H (by rfl) (by rfl) (by first | rfl | simp only [List.length_set]) (by rfl) ?_ <;> clear H <;> intro sorted_445 hlsorted_445 H
   have thlsorted_445 := fun f => take_map_eq hlsorted_445 f
   try simp only [wm, ↓wk, ↓wl, nq, evV, ↓reduceIte, sevalprocAttr, hlsorted_445, thlsorted_445]
   refine AW.rseq ?_
   try simp only [wm, ↓wk, ↓wl, nq, evV, ↓reduceIte, sevalprocAttr, hlsorted_445, thlsorted_445]
   refine evTs_compact compacts48 H (by rfl) (by rfl) (by first | rfl | simp only [List.length_set, hlsorted_445, thlsorted_445]) (by rfl) ?_ <;> clear H <;> intro out_446 H
   try simp only [wm, ↓wk, ↓wl, nq, evV, ↓reduceIte, sevalprocAttr, hlsorted_445, thlsorted_445]
   refine AW.ret ?_
   cases H
   exact hQ _ _ _ _ (.inr rfl) (by simp only [resVs, omap, resV, wm, ↓wk, ↓wl, nq, evV, ↓reduceIte, sevalprocAttr, hlsorted_445, thlsorted_445]; rfl) (hand_k (by rfl) (by rfl) (by first | rfl | (simp only [List.length_map, List.length_set, hlsorted_445]; done) | simp [hlsorted_445]) (enc_all _) (by rfl)) (by first | exact Or.inl rfl | exact Or.inr rfl)
theorem f14_im {l_357 : (List ApiFixture)} {profiles_358 : (List ApiProfile)} {channel_359 : Int} {r_ : (List Int) × Int} (H : f14 l_357 profiles_358 channel_359 = some r_) : Pure Try.prog 14 [.sl 7 false (l_357.map eApiFixture), .sl 4 false (profiles_358.map eApiProfile), .int .i64 channel_359] (· = .tup [.sl 0 false (r_.1.map (AV.int .i64)), .int .i64 r_.2]) := (f14_ok H).unfr (by first | exact enc_fits _ | simp only [frFits, List.all_cons, List.all_nil, enc_fits, Bool.and_self])
noncomputable def f26_J3 (x_544 : ApiFeature) (x_526 : ApiFixture) : Jn (Unit) (Ctl (Int) ((Unit) ⊕ (Int × Int × Int × Int × Int × Int × Int × Int × Bool × (List ApiSlot)))) where
  run := fun _ => (some (.brk (Sum.inr (x_544.fAttr, x_544.fBits, x_544.fCoarse, x_544.fFine, x_544.fCurve, x_544.fHome, x_544.fLow, x_544.fHigh, x_544.fSnap, x_544.fWheel))))
  cst := fun _ => ⟨put (put (put (put (fun _ => .junk) 9 (.int .i64 0)) 8 (.bool true)) 7 (.ptr 1 0)) 6 (.ptr 0 0), [.cel [.int .i64 x_526.fChannel, .int .i64 x_526.fPart, .str x_526.fProfile, .int .i64 x_526.fUniverse, .int .i64 x_526.fAddress, .int .i64 x_526.fPhase, .str x_526.fCable], .cel [.int .i64 x_544.fAttr, .int .i64 x_544.fBits, .int .i64 x_544.fCoarse, .int .i64 x_544.fFine, .int .i64 x_544.fCurve, .int .i64 x_544.fHome, .int .i64 x_544.fLow, .int .i64 x_544.fHigh, .bool x_544.fSnap, .sl 3 false (x_544.fWheel.map eApiSlot)]]⟩
theorem f26_J3c (x_544 : ApiFeature) (x_526 : ApiFixture) (x_ : Unit) : (f26_J3 x_544 x_526).cst x_ = ⟨put (put (put (put (fun _ => .junk) 9 (.int .i64 0)) 8 (.bool true)) 7 (.ptr 1 0)) 6 (.ptr 0 0), [.cel [.int .i64 x_526.fChannel, .int .i64 x_526.fPart, .str x_526.fProfile, .int .i64 x_526.fUniverse, .int .i64 x_526.fAddress, .int .i64 x_526.fPhase, .str x_526.fCable], .cel [.int .i64 x_544.fAttr, .int .i64 x_544.fBits, .int .i64 x_544.fCoarse, .int .i64 x_544.fFine, .int .i64 x_544.fCurve, .int .i64 x_544.fHome, .int .i64 x_544.fLow, .int .i64 x_544.fHigh, .bool x_544.fSnap, .sl 3 false (x_544.fWheel.map eApiSlot)]]⟩ := rfl
noncomputable def f26_L2 (m_527 : ApiProfile) (p_450 : ApiParam) (x_526 : ApiFixture) (v_490 : Int) (r_452 : (List ApiFixture)) (r_451 : PatchRig × Int) : Lp (Int) ((Unit) ⊕ (Int × Int × Int × Int × Int × Int × Int × Int × Bool × (List ApiSlot))) where
  body := fun v_532 => (if (decide (v_532 < ((m_527.fFeatures.length : Nat) : Int))) = true then (at? m_527.fFeatures v_532).bind fun x_544 => (if (decide (x_544.fAttr = p_450.fAttr)) = true then ((f26_J3 x_544 x_526).run ()) else (some (.next (IntKind.i64.wrap (v_532 + 1))))) else (some (.brk (Sum.inl ()))))
  cst := fun v_532 => ⟨put (put (put (put (put (put (put (put (put (put (put (fun _ => .junk) 43 (.int .i64 v_532)) 42 (.int .i64 ((m_527.fFeatures.length : Nat) : Int))) 41 (.sl 10 false (m_527.fFeatures.map eApiFeature))) 32 (.int .i64 v_490)) 31 (.int .i64 ((r_452.length : Nat) : Int))) 30 (.sl 7 false (r_452.map eApiFixture))) 13 (.ptr 4 0)) 10 (.ptr 3 0)) 7 (.ptr 2 0)) 6 (.ptr 1 0)) 5 (.ptr 0 0), [.cel [.int .i64 p_450.fChannel, .int .i64 p_450.fAttr], .cel [.int .i64 0, .int .i64 0, .str ([]), .int .i64 0, .int .i64 0, .int .i64 0, .str ([])], .cel [.int .i64 0, .int .i64 0, .int .i64 0, .int .i64 0, .int .i64 0, .int .i64 0, .int .i64 0, .int .i64 0, .bool false, .sl 3 true []], .cel [.sl 7 false (r_451.1.fFixtures.map eApiFixture), .mp (mk AV.str r_451.1.fProfiles) (mv eApiProfile r_451.1.fProfiles)], .cel [.int .i64 x_526.fChannel, .int .i64 x_526.fPart, .str x_526.fProfile, .int .i64 x_526.fUniverse, .int .i64 x_526.fAddress, .int .i64 x_526.fPhase, .str x_526.fCable]]⟩
theorem f26_L2c (m_527 : ApiProfile) (p_450 : ApiParam) (x_526 : ApiFixture) (v_490 : Int) (r_452 : (List ApiFixture)) (r_451 : PatchRig × Int) (v_532 : Int) : (f26_L2 m_527 p_450 x_526 v_490 r_452 r_451).cst v_532 = ⟨put (put (put (put (put (put (put (put (put (put (put (fun _ => .junk) 43 (.int .i64 v_532)) 42 (.int .i64 ((m_527.fFeatures.length : Nat) : Int))) 41 (.sl 10 false (m_527.fFeatures.map eApiFeature))) 32 (.int .i64 v_490)) 31 (.int .i64 ((r_452.length : Nat) : Int))) 30 (.sl 7 false (r_452.map eApiFixture))) 13 (.ptr 4 0)) 10 (.ptr 3 0)) 7 (.ptr 2 0)) 6 (.ptr 1 0)) 5 (.ptr 0 0), [.cel [.int .i64 p_450.fChannel, .int .i64 p_450.fAttr], .cel [.int .i64 0, .int .i64 0, .str ([]), .int .i64 0, .int .i64 0, .int .i64 0, .str ([])], .cel [.int .i64 0, .int .i64 0, .int .i64 0, .int .i64 0, .int .i64 0, .int .i64 0, .int .i64 0, .int .i64 0, .bool false, .sl 3 true []], .cel [.sl 7 false (r_451.1.fFixtures.map eApiFixture), .mp (mk AV.str r_451.1.fProfiles) (mv eApiProfile r_451.1.fProfiles)], .cel [.int .i64 x_526.fChannel, .int .i64 x_526.fPart, .str x_526.fProfile, .int .i64 x_526.fUniverse, .int .i64 x_526.fAddress, .int .i64 x_526.fPhase, .str x_526.fCable]]⟩ := rfl
noncomputable def f26_L1 (r_452 : (List ApiFixture)) (r_451 : PatchRig × Int) (p_450 : ApiParam) : Lp (Int) ((Unit) ⊕ (Int × Int × (List UInt8) × Int × Int × Int × (List UInt8) × Int × Int × Int × Int × Int × Int × Int × Int × Bool × (List ApiSlot))) where
  body := fun v_490 => (if (decide (v_490 < ((r_452.length : Nat) : Int))) = true then (at? r_452 v_490).bind fun x_526 => (look? (r_451.1.fProfiles : (List ((List UInt8) × ApiProfile))) x_526.fProfile ((ApiProfile.mk ([]) 0 0 ([])) : ApiProfile) fun m_527 ok_528 => ((Lp.run (f26_L2 m_527 p_450 x_526 v_490 r_452 r_451) 0).bind fun r_ => match r_ with | (Sum.inl _) => (some (.next (IntKind.i64.wrap (v_490 + 1)))) | (Sum.inr (v_534, v_535, v_536, v_537, v_538, v_539, v_540, v_541, v_542, v_543)) => (some (.brk (Sum.inr (x_526.fChannel, x_526.fPart, x_526.fProfile, x_526.fUniverse, x_526.fAddress, x_526.fPhase, x_526.fCable, v_534, v_535, v_536, v_537, v_538, v_539, v_540, v_541, v_542, v_543)))))) else (some (.brk (Sum.inl ()))))
  cst := fun v_490 => ⟨put (put (put (put (put (put (put (fun _ => .junk) 32 (.int .i64 v_490)) 31 (.int .i64 ((r_452.length : Nat) : Int))) 30 (.sl 7 false (r_452.map eApiFixture))) 10 (.ptr 3 0)) 7 (.ptr 2 0)) 6 (.ptr 1 0)) 5 (.ptr 0 0), [.cel [.int .i64 p_450.fChannel, .int .i64 p_450.fAttr], .cel [.int .i64 0, .int .i64 0, .str ([]), .int .i64 0, .int .i64 0, .int .i64 0, .str ([])], .cel [.int .i64 0, .int .i64 0, .int .i64 0, .int .i64 0, .int .i64 0, .int .i64 0, .int .i64 0, .int .i64 0, .bool false, .sl 3 true []], .cel [.sl 7 false (r_451.1.fFixtures.map eApiFixture), .mp (mk AV.str r_451.1.fProfiles) (mv eApiProfile r_451.1.fProfiles)]]⟩
theorem f26_L1c (r_452 : (List ApiFixture)) (r_451 : PatchRig × Int) (p_450 : ApiParam) (v_490 : Int) : (f26_L1 r_452 r_451 p_450).cst v_490 = ⟨put (put (put (put (put (put (put (fun _ => .junk) 32 (.int .i64 v_490)) 31 (.int .i64 ((r_452.length : Nat) : Int))) 30 (.sl 7 false (r_452.map eApiFixture))) 10 (.ptr 3 0)) 7 (.ptr 2 0)) 6 (.ptr 1 0)) 5 (.ptr 0 0), [.cel [.int .i64 p_450.fChannel, .int .i64 p_450.fAttr], .cel [.int .i64 0, .int .i64 0, .str ([]), .int .i64 0, .int .i64 0, .int .i64 0, .str ([])], .cel [.int .i64 0, .int .i64 0, .int .i64 0, .int .i64 0, .int .i64 0, .int .i64 0, .int .i64 0, .int .i64 0, .bool false, .sl 3 true []], .cel [.sl 7 false (r_451.1.fFixtures.map eApiFixture), .mp (mk AV.str r_451.1.fProfiles) (mv eApiProfile r_451.1.fProfiles)]]⟩ := rfl
def c26_0 : C := .cond (.t 23) (.seq (.reg [iI 24 (.build [(1, (.int .i64 0)), (1, (.int .i64 0)), (1, (.str [])), (1, (.int .i64 0)), (1, (.int .i64 0)), (1, (.int .i64 0)), (1, (.str []))] []), iI 25 (.build [(1, (.int .i64 0)), (1, (.int .i64 0)), (1, (.int .i64 0)), (1, (.int .i64 0)), (1, (.int .i64 0)), (1, (.int .i64 0)), (1, (.int .i64 0)), (1, (.int .i64 0)), (1, (.bool false)), (1, (.sl 3 true []))] []), iI 26 (.mv (.t 11)), iN (.store 7 (.t 6) (.t 24)), iN (.store 10 (.t 7) (.t 25)), iI 8 (.mv (.c (.bool false))), iI 9 (.mv (.t 26))]) .ret) (.skip)
def c26_1 : C := .cond (.t 51) (.seq (.regt (.fork [iI 52 (.load 7 (.t 13))] (.run [iI 53 (.load 10 (.t 15)), iN (.store 7 (.t 6) (.t 52)), iN (.store 10 (.t 7) (.t 53)), iI 8 (.mv (.c (.bool true))), iI 9 (.mv (.c (.int .i64 0)))]) (.run [iN (.store 7 (.t 6) (.t 52)), iI 53 (.load 10 (.t 15)), iN (.store 10 (.t 7) (.t 53)), iI 8 (.mv (.c (.bool true))), iI 9 (.mv (.c (.int .i64 0)))]))) .ret) (.skip)
def c26_2 : C := .seq (.reg [iI 47 (.faddr 0 (.t 15)), iI 48 (.load 0 (.t 47)), iI 49 (.faddr 1 (.t 5)), iI 50 (.load 0 (.t 49)), iI 51 (.bin .eql (.t 48) (.t 50))]) c26_1
def c26_3 : C := .reg [iI 54 (.bin .add (.t 43) (.c (.int .i64 1))), iI 43 (.mv (.t 54))]
def c26_4 : C := .seq (.block 3 (.seq (.reg [iI 45 (.iaddr 10 (.t 41) (.t 43)), iI 46 (.load 10 (.t 45)), iI 15 (.alloc [(1, (.int .i64 0)), (1, (.int .i64 0)), (1, (.int .i64 0)), (1, (.int .i64 0)), (1, (.int .i64 0)), (1, (.int .i64 0)), (1, (.int .i64 0)), (1, (.int .i64 0)), (1, (.bool false)), (1, (.sl 3 true []))]), iN (.store 10 (.t 15) (.t 46))]) c26_2)) c26_3
def c26_5 : C := .seq (.cond (.t 44) (.skip) (.exit 2)) c26_4
def c26_6 : C := .block 2 (.loop (.seq (.reg [iI 44 (.bin .lss (.t 43) (.t 42))]) c26_5))
def c26_7 : C := .seq (.reg [iI 36 (.faddr 1 (.t 10)), iI 37 (.load 0 (.t 36)), iI 38 (.faddr 2 (.t 13)), iI 39 (.load 0 (.t 38)), iI 40 (.lookup 1 (.agg [(.str []), (.int .i64 0), (.int .i64 0), (.sl 10 true [])]) false (.t 37) (.t 39)), iI 41 (.fld 3 0 (.t 40)), iI 42 (.len 0 (.t 41)), iI 43 (.mv (.c (.int .i64 0)))]) c26_6
def c26_8 : C := .reg [iI 55 (.bin .add (.t 32) (.c (.int .i64 1))), iI 32 (.mv (.t 55))]
def c26_9 : C := .seq (.block 1 (.seq (.reg [iI 34 (.iaddr 7 (.t 30) (.t 32)), iI 35 (.load 7 (.t 34)), iI 13 (.alloc [(1, (.int .i64 0)), (1, (.int .i64 0)), (1, (.str [])), (1, (.int .i64 0)), (1, (.int .i64 0)), (1, (.int .i64 0)), (1, (.str []))]), iN (.store 7 (.t 13) (.t 35))]) c26_7)) c26_8
def c26_10 : C := .seq (.cond (.t 33) (.skip) (.exit 0)) c26_9
def c26_11 : C := .block 0 (.loop (.seq (.reg [iI 33 (.bin .lss (.t 32) (.t 31))]) c26_10))
def c26_12 : C := .seq (.reg [iI 56 (.build [(1, (.int .i64 0)), (1, (.int .i64 0)), (1, (.str [])), (1, (.int .i64 0)), (1, (.int .i64 0)), (1, (.int .i64 0)), (1, (.str []))] []), iI 57 (.build [(1, (.int .i64 0)), (1, (.int .i64 0)), (1, (.int .i64 0)), (1, (.int .i64 0)), (1, (.int .i64 0)), (1, (.int .i64 0)), (1, (.int .i64 0)), (1, (.int .i64 0)), (1, (.bool false)), (1, (.sl 3 true []))] []), iN (.store 7 (.t 6) (.t 56)), iN (.store 10 (.t 7) (.t 57)), iI 8 (.mv (.c (.bool false))), iI 9 (.mv (.c (.int .i64 0)))]) .ret
def c26_13 : C := .seq (.seq (.reg [iI 27 (.load 2 (.t 10)), iI 28 (.faddr 0 (.t 5)), iI 29 (.load 0 (.t 28)), iI 30 (.call (.c (.fn 45 [])) [(.t 27), (.t 29)]), iI 31 (.len 0 (.t 30)), iI 32 (.mv (.c (.int .i64 0)))]) c26_11) c26_12
def c26_14 : C := .seq (.seq (.reg [iI 22 (.mv (.t 11)), iI 23 (.bin .neq (.t 22) (.c (.int .i64 0)))]) c26_0) c26_13
def c26_15 : C := .seq (.reg [iI 17 (.mv (.t 0)), iI 18 (.mv (.t 1)), iI 19 (.call (.c (.fn 44 [])) [(.t 17), (.t 18)]), iI 16 (.mv (.t 19)), iI 20 (.ext (.t 16) 0), iI 21 (.ext (.t 16) 1), iI 10 (.alloc [(1, (.sl 7 true [])), (1, .nilmp)]), iN (.store 2 (.t 10) (.t 20)), iI 11 (.mv (.t 21))]) c26_14
def ir26 : C := .seq (.reg [iI 5 (.box (.t 2)), iI 6 (.alloc [(1, (.int .i64 0)), (1, (.int .i64 0)), (1, (.str [])), (1, (.int .i64 0)), (1, (.int .i64 0)), (1, (.int .i64 0)), (1, (.str []))]), iI 7 (.alloc [(1, (.int .i64 0)), (1, (.int .i64 0)), (1, (.int .i64 0)), (1, (.int .i64 0)), (1, (.int .i64 0)), (1, (.int .i64 0)), (1, (.int .i64 0)), (1, (.int .i64 0)), (1, (.bool false)), (1, (.sl 3 true []))]), iI 8 (.mv (.c (.bool false))), iI 9 (.mv (.c (.int .i64 0)))]) c26_15
theorem fd26 : fd? Try.prog 26 = some (58, [.cell 6 7, .cell 7 10, .slot 8, .slot 9], ir26) := by kernel_rfl
noncomputable def f26 (l_448 : (List ApiFixture)) (profiles_449 : (List ApiProfile)) (p_450 : ApiParam) : Option (ApiFixture × ApiFeature × Bool × Int) :=
  (f44 l_448 profiles_449).bind fun r_451 => (if (decide (r_451.2 ≠ 0)) = true then (some ((ApiFixture.mk 0 0 ([]) 0 0 0 ([])), (ApiFeature.mk 0 0 0 0 0 0 0 0 false ([])), false, r_451.2)) else (f45 r_451.1 p_450.fChannel).bind fun r_452 => ((Lp.run (f26_L1 r_452 r_451 p_450) 0).bind fun r_ => match r_ with | (Sum.inl _) => (some ((ApiFixture.mk 0 0 ([]) 0 0 0 ([])), (ApiFeature.mk 0 0 0 0 0 0 0 0 false ([])), false, 0)) | (Sum.inr (v_509, v_510, v_511, v_512, v_513, v_514, v_515, v_516, v_517, v_518, v_519, v_520, v_521, v_522, v_523, v_524, v_525)) => (some ((ApiFixture.mk v_509 v_510 v_511 v_512 v_513 v_514 v_515), (ApiFeature.mk v_516 v_517 v_518 v_519 v_520 v_521 v_522 v_523 v_524 v_525), true, 0))))
theorem f26_ok {l_448 : (List ApiFixture)} {profiles_449 : (List ApiProfile)} {p_450 : ApiParam} {r_ : ApiFixture × ApiFeature × Bool × Int} (H : f26 l_448 profiles_449 p_450 = some r_) : Pure Try.prog 26 [.sl 7 false (l_448.map eApiFixture), .sl 4 false (profiles_449.map eApiProfile), .agg [.int .i64 p_450.fChannel, .int .i64 p_450.fAttr]] (· = .tup [.agg [.int .i64 r_.1.fChannel, .int .i64 r_.1.fPart, .str r_.1.fProfile, .int .i64 r_.1.fUniverse, .int .i64 r_.1.fAddress, .int .i64 r_.1.fPhase, .str r_.1.fCable], .agg [.int .i64 r_.2.1.fAttr, .int .i64 r_.2.1.fBits, .int .i64 r_.2.1.fCoarse, .int .i64 r_.2.1.fFine, .int .i64 r_.2.1.fCurve, .int .i64 r_.2.1.fHome, .int .i64 r_.2.1.fLow, .int .i64 r_.2.1.fHigh, .bool r_.2.1.fSnap, .sl 3 false (r_.2.1.fWheel.map eApiSlot)], .bool r_.2.2.1, .int .i64 r_.2.2.2]) := by
 refine Pure.walk3 fd26 none (Nat.le_of_ble_eq_true rfl) (by rfl) fun Q hQ => ?_
 simp only [f26] at H
 refine AW.rseq ?_
 try simp only [wm, ↓wk, ↓wl, nq, evV, ↓reduceIte, sevalprocAttr]
 refine AW.rseq ?_
 try simp only [wm, ↓wk, ↓wl, nq, evV, ↓reduceIte, sevalprocAttr]
 refine evTs_pure hFn H (fun _ h => f44_ok h) (by rfl) (by rfl) (by rfl) (by rfl) (fun _ => rfl) ?_ <;> clear H <;> intro r_451 H
 try simp only [eL, ePatchRig, eM, wm, ↓wk, ↓wl, nq, evV, ↓reduceIte, sevalprocAttr]
 refine AW.sseq ?_
 refine AW.rseq ?_
 try simp only [wm, ↓wk, ↓wl, nq, evV, ↓reduceIte, sevalprocAttr]
 refine AW.ifc H (by rfl) ?_ ?_ <;> clear H <;> intro H
 ·refine AW.rseq ?_
  try simp only [wm, ↓wk, ↓wl, nq, evV, ↓reduceIte, sevalprocAttr]
  refine AW.ret ?_
  refine seqQ.ret ?_
  cases H
  exact hQ _ _ _ _ (.inr rfl) (by simp only [resVs, omap, resV, wm, ↓wk, ↓wl, nq, evV, ↓reduceIte, sevalprocAttr]; rfl) (hand_plain (by rfl)) (by first | exact Or.inl rfl | exact Or.inr rfl)
 ·refine AW.skip ?_
  refine seqQ.norm ?_
  refine AW.sseq ?_
  refine AW.rseq ?_
  try simp only [wm, ↓wk, ↓wl, nq, evV, ↓reduceIte, sevalprocAttr]
  refine evTs_pure hFn H (fun _ h => f45_im h) (by rfl) (by rfl) (by rfl) (by rfl) (fun _ => rfl) ?_ <;> clear H <;> intro r_452 H
  try simp only [eL, wm, ↓wk, ↓wl, nq, evV, ↓reduceIte, sevalprocAttr]
  refine AW.bend ?_
  refine AW.iter H ((Le.tz [0, 1, 2, 3] [5, 6, 7, 10, 30, 31, 32] (by simp only [f26_L1c, wm, wmr, rrm, ↓wk, ↓wl, evV, ↓reduceIte, sevalprocAttr] <;> rfl))) ?_ <;> clear H
  rintro v_490 x_ st0_ H hst_
  rw [f26_L1c] at hst_
  simp only [f26_L1] at H
  subst hst_
  refine AW.rseq ?_
  try simp only [wm, ↓wk, ↓wl, nq, evV, ↓reduceIte, sevalprocAttr]
  refine AW.sseq ?_
  refine AW.ifc H (by rfl) ?_ ?_ <;> clear H <;> intro H
  ·refine AW.skip ?_
   refine seqQ.norm ?_
   refine AW.bseq ?_
   refine AW.rseq ?_
   try simp only [wm, ↓wk, ↓wl, nq, evV, ↓reduceIte, sevalprocAttr]
   refine evTs_at (enc := eApiFixture) H (by rfl) (by rfl) ?_ <;> clear H <;> intro x_526 H
   try simp only [eApiFixture, eL, eM, wm, ↓wk, ↓wl, nq, evV, ↓reduceIte, sevalprocAttr]
   refine AW.rseq ?_
   try simp only [wm, ↓wk, ↓wl, nq, evV, ↓reduceIte, sevalprocAttr]
   refine evTs_lookP (ek := AV.str) (ev := eApiProfile) H false (by rfl) (by rfl) (by rfl) ?_ <;> clear H <;> intro m_527 ok_528 H
   try simp only [eApiProfile, eL, eM, wm, ↓wk, ↓wl, nq, evV, ↓reduceIte, sevalprocAttr]
   refine AW.bend ?_
   refine AW.iter H ((Le.tz [0, 1, 2, 3, 4] [5, 6, 7, 10, 13, 30, 31, 32, 41, 42, 43] (by simp only [f26_L2c, wm, wmr, rrm, ↓wk, ↓wl, evV, ↓reduceIte, sevalprocAttr] <;> rfl))) ?_ <;> clear H
   rintro v_532 x_ st0_ H hst_
   rw [f26_L2c] at hst_
   simp only [f26_L2] at H
   subst hst_
   refine AW.rseq ?_
   try simp only [wm, ↓wk, ↓wl, nq, evV, ↓reduceIte, sevalprocAttr]
   refine AW.sseq ?_
   refine AW.ifc H (by rfl) ?_ ?_ <;> clear H <;> intro H
   ·refine AW.skip ?_
    refine seqQ.norm ?_
    refine AW.bseq ?_
    refine AW.rseq ?_
    try simp only [wm, ↓wk, ↓wl, nq, evV, ↓reduceIte, sevalprocAttr]
    refine evTs_at (enc := eApiFeature) H (by rfl) (by rfl) ?_ <;> clear H <;> intro x_544 H
    try simp only [eApiFeature, eL, eM, wm, ↓wk, ↓wl, nq, evV, ↓reduceIte, sevalprocAttr]
    refine AW.rseq ?_
    try simp only [wm, ↓wk, ↓wl, nq, evV, ↓reduceIte, sevalprocAttr]
    refine AW.ifc H (by rfl) ?_ ?_ <;> clear H <;> intro H
    ·refine AW.join (f26_J3 x_544 x_526) H ?_ fun hf26_J3 => ?_
     ·clear H
      rintro _ st0_ H hst_
      rw [f26_J3c] at hst_
      simp only [f26_J3] at H
      subst hst_
      refine AW.ret ?_
      refine blkQ.ret ?_
      refine loopQ.ret H ?_ <;> clear H <;> intro H
      try dsimp only at H
      refine blk0.ret ?_
      refine blkQ.ret ?_
      refine loopQ.ret H ?_ <;> clear H <;> intro H
      try dsimp only at H
      refine blk0.ret ?_
      refine seqQ.ret ?_
      cases H
      exact hQ _ _ _ _ (.inr rfl) (by simp only [resVs, omap, resV, wm, ↓wk, ↓wl, nq, evV, ↓reduceIte, sevalprocAttr]; rfl) (hand_plain (by rfl)) (by first | exact Or.inl rfl | exact Or.inr rfl)
     ·refine AW.regt ?_
      refine evR.fork ?_
      try simp only [wm, ↓wk, ↓wl, nq, evV, ↓reduceIte, sevalprocAttr]
      refine evR.both ?_ ?_
      ·refine evR.run ?_
       try simp only [wm, ↓wk, ↓wl, nq, evV, ↓reduceIte, sevalprocAttr]
       refine seqQ.norm ?_
       exact hf26_J3 _ _ H ((Le.tz [1, 2] [6, 7, 8, 9] (by simp only [f26_J3c, wm, wmr, rrm, ↓wk, ↓wl, evV, ↓reduceIte, sevalprocAttr] <;> rfl)))
      ·refine evR.run ?_
       try simp only [wm, ↓wk, ↓wl, nq, evV, ↓reduceIte, sevalprocAttr]
       refine seqQ.norm ?_
       exact hf26_J3 _ _ H ((Le.tz [1, 2] [6, 7, 8, 9] (by simp only [f26_J3c, wm, wmr, rrm, ↓wk, ↓wl, evV, ↓reduceIte, sevalprocAttr] <;> rfl)))
    ·refine AW.skip ?_
     refine blkQ.norm ?_
     refine AW.rend ?_
     try simp only [wm, ↓wk, ↓wl, nq, evV, ↓reduceIte, sevalprocAttr]
     exact loopQ.next H ((Le.tz [0, 1, 2, 3, 4] [5, 6, 7, 10, 13, 30, 31, 32, 41, 42, 43] (by simp only [f26_L2c, wm, wmr, rrm, ↓wk, ↓wl, evV, ↓reduceIte, sevalprocAttr] <;> rfl)))
   ·refine AW.exit ?_
    refine seqQ.exit ?_
    refine loopQ.exit H ?_ <;> clear H <;> intro H
    try dsimp only at H
    refine blk0.here ?_
    refine blkQ.norm ?_
    refine AW.rend ?_
    try simp only [wm, ↓wk, ↓wl, nq, evV, ↓reduceIte, sevalprocAttr]
    exact loopQ.next H ((Le.tz [0, 1, 2, 3] [5, 6, 7, 10, 30, 31, 32] (by simp only [f26_L1c, wm, wmr, rrm, ↓wk, ↓wl, evV, ↓reduceIte, sevalprocAttr] <;> rfl)))
  ·refine AW.exit ?_
   refine seqQ.exit ?_
   refine loopQ.exit H ?_ <;> clear H <;> intro H
   try dsimp only at H
   refine blk0.here ?_
   refine seqQ.norm ?_
   refine AW.rseq ?_
   try simp only [wm, ↓wk, ↓wl, nq, evV, ↓reduceIte, sevalprocAttr]
   refine AW.ret ?_
   cases H
   exact hQ _ _ _ _ (.inr rfl) (by simp only [resVs, omap, resV, wm, ↓wk, ↓wl, nq, evV, ↓reduceIte, sevalprocAttr]; rfl) (hand_plain (by rfl)) (by first | exact Or.inl rfl | exact Or.inr rfl)
noncomputable def f18_L1 (a_546 : (List ApiFixture)) (b_547 : (List ApiFixture)) : Lp (Int) ((Unit) ⊕ (Unit)) where
  body := fun i_553 => (if (decide (i_553 < ((a_546.length : Nat) : Int))) = true then (at? a_546 i_553).bind fun x_556 => (at? b_547 i_553).bind fun x_557 => (if (!((x_556.fChannel == x_557.fChannel) && ((x_556.fPart == x_557.fPart) && ((x_556.fProfile == x_557.fProfile) && ((x_556.fUniverse == x_557.fUniverse) && ((x_556.fAddress == x_557.fAddress) && ((x_556.fPhase == x_557.fPhase) && ((x_556.fCable == x_557.fCable) && true)))))))) = true then (some (.brk (Sum.inr ()))) else (some (.next (IntKind.i64.wrap (i_553 + 1))))) else (some (.brk (Sum.inl ()))))
  cst := fun i_553 => ⟨put (put (put (fun _ => .junk) 5 (.int .i64 i_553)) 1 (.sl 7 false (b_547.map eApiFixture))) 0 (.sl 7 false (a_546.map eApiFixture)), []⟩
theorem f18_L1c (a_546 : (List ApiFixture)) (b_547 : (List ApiFixture)) (i_553 : Int) : (f18_L1 a_546 b_547).cst i_553 = ⟨put (put (put (fun _ => .junk) 5 (.int .i64 i_553)) 1 (.sl 7 false (b_547.map eApiFixture))) 0 (.sl 7 false (a_546.map eApiFixture)), []⟩ := rfl
def c18_0 : C := .cond (.t 10) (.seq (.reg [iI 4 (.mv (.c (.bool false)))]) .ret) (.skip)
def c18_1 : C := .cond (.t 14) (.skip) (.exit 0)
def c18_2 : C := .cond (.t 25) (.seq (.reg [iI 4 (.mv (.c (.bool false)))]) .ret) (.skip)
def c18_3 : C := .reg [iI 15 (.mv (.t 5)), iI 16 (.bin .add (.t 15) (.c (.int .i64 1))), iI 5 (.mv (.t 16))]
def c18_4 : C := .seq (.block 1 (.seq (.reg [iI 17 (.mv (.t 0)), iI 18 (.mv (.t 5)), iI 19 (.iaddr 7 (.t 17) (.t 18)), iI 20 (.load 7 (.t 19)), iI 21 (.mv (.t 1)), iI 22 (.mv (.t 5)), iI 23 (.iaddr 7 (.t 21) (.t 22)), iI 24 (.load 7 (.t 23)), iI 25 (.eqs true [0, 0, 1, 0, 0, 0, 1] (.t 20) (.t 24))]) c18_2)) c18_3
def c18_5 : C := .block 0 (.loop (.seq (.seq (.reg [iI 11 (.mv (.t 5)), iI 12 (.mv (.t 0)), iI 13 (.len 0 (.t 12)), iI 14 (.bin .lss (.t 11) (.t 13))]) c18_1) c18_4))
def c18_6 : C := .seq (.reg [iI 4 (.mv (.c (.bool true)))]) .ret
def c18_7 : C := .seq (.seq (.reg [iI 5 (.mv (.c (.int .i64 0)))]) c18_5) c18_6
def c18_8 : C := .seq (.seq (.reg [iI 6 (.mv (.t 0)), iI 7 (.len 0 (.t 6)), iI 8 (.mv (.t 1)), iI 9 (.len 0 (.t 8)), iI 10 (.bin .neq (.t 7) (.t 9))]) c18_0) c18_7
def ir18 : C := .seq (.reg [iI 4 (.mv (.c (.bool false)))]) c18_8
theorem fd18 : fd? Try.prog 18 = some (26, [.slot 4], ir18) := by kernel_rfl
noncomputable def f18 (a_546 : (List ApiFixture)) (b_547 : (List ApiFixture)) : Option (Bool) :=
  (if (decide (((a_546.length : Nat) : Int) ≠ ((b_547.length : Nat) : Int))) = true then (some false) else ((Lp.run (f18_L1 a_546 b_547) 0).bind fun r_ => match r_ with | (Sum.inl _) => (some true) | (Sum.inr _) => (some false)))
theorem f18_ok {a_546 : (List ApiFixture)} {b_547 : (List ApiFixture)} {r_ : Bool} (H : f18 a_546 b_547 = some r_) : Pure Try.prog 18 [.sl 7 false (a_546.map eApiFixture), .sl 7 false (b_547.map eApiFixture)] (· = .bool r_) := by
 refine Pure.walk3 fd18 none (Nat.le_of_ble_eq_true rfl) (by rfl) fun Q hQ => ?_
 simp only [f18] at H
 refine AW.rseq ?_
 try simp only [wm, ↓wk, ↓wl, nq, evV, ↓reduceIte, sevalprocAttr]
 refine AW.sseq ?_
 refine AW.rseq ?_
 try simp only [wm, ↓wk, ↓wl, nq, evV, ↓reduceIte, sevalprocAttr]
 refine AW.ifc H (by rfl) ?_ ?_ <;> clear H <;> intro H
 ·refine AW.rseq ?_
  try simp only [wm, ↓wk, ↓wl, nq, evV, ↓reduceIte, sevalprocAttr]
  refine AW.ret ?_
  refine seqQ.ret ?_
  cases H
  exact hQ _ _ _ _ (.inr rfl) (by simp only [resVs, omap, resV, wm, ↓wk, ↓wl, nq, evV, ↓reduceIte, sevalprocAttr]; rfl) (hand_plain (by rfl)) (by first | exact Or.inl rfl | exact Or.inr rfl)
 ·refine AW.skip ?_
  refine seqQ.norm ?_
  refine AW.sseq ?_
  refine AW.rseq ?_
  try simp only [wm, ↓wk, ↓wl, nq, evV, ↓reduceIte, sevalprocAttr]
  refine AW.bend ?_
  refine AW.iter H ((Le.tz [] [0, 1, 5] (by simp only [f18_L1c, wm, wmr, rrm, ↓wk, ↓wl, evV, ↓reduceIte, sevalprocAttr] <;> rfl))) ?_ <;> clear H
  rintro i_553 x_ st0_ H hst_
  rw [f18_L1c] at hst_
  simp only [f18_L1] at H
  subst hst_
  refine AW.sseq ?_
  refine AW.rseq ?_
  try simp only [wm, ↓wk, ↓wl, nq, evV, ↓reduceIte, sevalprocAttr]
  refine AW.ifc H (by rfl) ?_ ?_ <;> clear H <;> intro H
  ·refine AW.skip ?_
   refine seqQ.norm ?_
   refine AW.bseq ?_
   refine AW.rseq ?_
   try simp only [wm, ↓wk, ↓wl, nq, evV, ↓reduceIte, sevalprocAttr]
   refine evTs_at (enc := eApiFixture) H (by rfl) (by rfl) ?_ <;> clear H <;> intro x_556 H
   try simp only [eApiFixture, eL, eM, wm, ↓wk, ↓wl, nq, evV, ↓reduceIte, sevalprocAttr]
   refine evTs_at (enc := eApiFixture) H (by rfl) (by rfl) ?_ <;> clear H <;> intro x_557 H
   try simp only [eApiFixture, eL, eM, wm, ↓wk, ↓wl, nq, evV, ↓reduceIte, sevalprocAttr]
   refine rest_neqs (by rfl) ?_
   try simp only [wm, ↓wk, ↓wl, nq, evV, ↓reduceIte, sevalprocAttr]
   refine AW.ifc H (by rfl) ?_ ?_ <;> clear H <;> intro H
   ·refine AW.rseq ?_
    try simp only [wm, ↓wk, ↓wl, nq, evV, ↓reduceIte, sevalprocAttr]
    refine AW.ret ?_
    refine blkQ.ret ?_
    refine loopQ.ret H ?_ <;> clear H <;> intro H
    try dsimp only at H
    refine blk0.ret ?_
    refine seqQ.ret ?_
    cases H
    exact hQ _ _ _ _ (.inr rfl) (by simp only [resVs, omap, resV, wm, ↓wk, ↓wl, nq, evV, ↓reduceIte, sevalprocAttr]; rfl) (hand_plain (by rfl)) (by first | exact Or.inl rfl | exact Or.inr rfl)
   ·refine AW.skip ?_
    refine blkQ.norm ?_
    refine AW.rend ?_
    try simp only [wm, ↓wk, ↓wl, nq, evV, ↓reduceIte, sevalprocAttr]
    exact loopQ.next H ((Le.tz [] [0, 1, 5] (by simp only [f18_L1c, wm, wmr, rrm, ↓wk, ↓wl, evV, ↓reduceIte, sevalprocAttr] <;> rfl)))
  ·refine AW.exit ?_
   refine seqQ.exit ?_
   refine loopQ.exit H ?_ <;> clear H <;> intro H
   try dsimp only at H
   refine blk0.here ?_
   refine seqQ.norm ?_
   refine AW.rseq ?_
   try simp only [wm, ↓wk, ↓wl, nq, evV, ↓reduceIte, sevalprocAttr]
   refine AW.ret ?_
   cases H
   exact hQ _ _ _ _ (.inr rfl) (by simp only [resVs, omap, resV, wm, ↓wk, ↓wl, nq, evV, ↓reduceIte, sevalprocAttr]; rfl) (hand_plain (by rfl)) (by first | exact Or.inl rfl | exact Or.inr rfl)
noncomputable def f19_L1 (s1_559 : (List Int)) (s2_560 : (List Int)) : Lp (Int) ((Unit) ⊕ (Unit)) where
  body := fun v_566 => (if (decide (v_566 < ((s1_559.length : Nat) : Int))) = true then (at? s1_559 v_566).bind fun x_569 => (at? s2_560 v_566).bind fun x_570 => (if (decide (x_569 ≠ x_570)) = true then (some (.brk (Sum.inr ()))) else (some (.next (IntKind.i64.wrap (v_566 + 1))))) else (some (.brk (Sum.inl ()))))
  cst := fun v_566 => ⟨put (put (put (put (fun _ => .junk) 13 (.int .i64 v_566)) 12 (.int .i64 ((s1_559.length : Nat) : Int))) 1 (.sl 0 false (s2_560.map (AV.int .i64)))) 0 (.sl 0 false (s1_559.map (AV.int .i64))), []⟩
theorem f19_L1c (s1_559 : (List Int)) (s2_560 : (List Int)) (v_566 : Int) : (f19_L1 s1_559 s2_560).cst v_566 = ⟨put (put (put (put (fun _ => .junk) 13 (.int .i64 v_566)) 12 (.int .i64 ((s1_559.length : Nat) : Int))) 1 (.sl 0 false (s2_560.map (AV.int .i64)))) 0 (.sl 0 false (s1_559.map (AV.int .i64))), []⟩ := rfl
def c19_0 : C := .cond (.t 10) (.seq (.reg [iI 4 (.mv (.c (.bool false)))]) .ret) (.skip)
def c19_1 : C := .cond (.t 24) (.seq (.reg [iI 4 (.mv (.c (.bool false)))]) .ret) (.skip)
def c19_2 : C := .seq (.reg [iI 16 (.mv (.t 0)), iI 17 (.mv (.t 5)), iI 18 (.iaddr 0 (.t 16) (.t 17)), iI 19 (.load 0 (.t 18)), iI 20 (.mv (.t 1)), iI 21 (.mv (.t 5)), iI 22 (.iaddr 0 (.t 20) (.t 21)), iI 23 (.load 0 (.t 22)), iI 24 (.bin .neq (.t 19) (.t 23))]) c19_1
def c19_3 : C := .reg [iI 25 (.bin .add (.t 13) (.c (.int .i64 1))), iI 13 (.mv (.t 25))]
def c19_4 : C := .seq (.block 1 (.seq (.reg [iI 15 (.mv (.t 13)), iI 5 (.mv (.t 15))]) c19_2)) c19_3
def c19_5 : C := .seq (.cond (.t 14) (.skip) (.exit 0)) c19_4
def c19_6 : C := .block 0 (.loop (.seq (.reg [iI 14 (.bin .lss (.t 13) (.t 12))]) c19_5))
def c19_7 : C := .seq (.reg [iI 4 (.mv (.c (.bool true)))]) .ret
def c19_8 : C := .seq (.seq (.reg [iI 11 (.mv (.t 0)), iI 12 (.len 0 (.t 11)), iI 13 (.mv (.c (.int .i64 0)))]) c19_6) c19_7
def c19_9 : C := .seq (.seq (.reg [iI 6 (.mv (.t 0)), iI 7 (.len 0 (.t 6)), iI 8 (.mv (.t 1)), iI 9 (.len 0 (.t 8)), iI 10 (.bin .neq (.t 7) (.t 9))]) c19_0) c19_8
def ir19 : C := .seq (.reg [iI 4 (.mv (.c (.bool false)))]) c19_9
theorem fd19 : fd? Try.prog 19 = some (26, [.slot 4], ir19) := by kernel_rfl
noncomputable def f19 (s1_559 : (List Int)) (s2_560 : (List Int)) : Option (Bool) :=
  (if (decide (((s1_559.length : Nat) : Int) ≠ ((s2_560.length : Nat) : Int))) = true then (some false) else ((Lp.run (f19_L1 s1_559 s2_560) 0).bind fun r_ => match r_ with | (Sum.inl _) => (some true) | (Sum.inr _) => (some false)))
theorem f19_ok {s1_559 : (List Int)} {s2_560 : (List Int)} {r_ : Bool} (H : f19 s1_559 s2_560 = some r_) : Pure Try.prog 19 [.sl 0 false (s1_559.map (AV.int .i64)), .sl 0 false (s2_560.map (AV.int .i64))] (· = .bool r_) := by
 refine Pure.walk3 fd19 none (Nat.le_of_ble_eq_true rfl) (by rfl) fun Q hQ => ?_
 simp only [f19] at H
 refine AW.rseq ?_
 try simp only [wm, ↓wk, ↓wl, nq, evV, ↓reduceIte, sevalprocAttr]
 refine AW.sseq ?_
 refine AW.rseq ?_
 try simp only [wm, ↓wk, ↓wl, nq, evV, ↓reduceIte, sevalprocAttr]
 refine AW.ifc H (by rfl) ?_ ?_ <;> clear H <;> intro H
 ·refine AW.rseq ?_
  try simp only [wm, ↓wk, ↓wl, nq, evV, ↓reduceIte, sevalprocAttr]
  refine AW.ret ?_
  refine seqQ.ret ?_
  cases H
  exact hQ _ _ _ _ (.inr rfl) (by simp only [resVs, omap, resV, wm, ↓wk, ↓wl, nq, evV, ↓reduceIte, sevalprocAttr]; rfl) (hand_plain (by rfl)) (by first | exact Or.inl rfl | exact Or.inr rfl)
 ·refine AW.skip ?_
  refine seqQ.norm ?_
  refine AW.sseq ?_
  refine AW.rseq ?_
  try simp only [wm, ↓wk, ↓wl, nq, evV, ↓reduceIte, sevalprocAttr]
  refine AW.bend ?_
  refine AW.iter H ((Le.tz [] [0, 1, 12, 13] (by simp only [f19_L1c, wm, wmr, rrm, ↓wk, ↓wl, evV, ↓reduceIte, sevalprocAttr] <;> rfl))) ?_ <;> clear H
  rintro v_566 x_ st0_ H hst_
  rw [f19_L1c] at hst_
  simp only [f19_L1] at H
  subst hst_
  refine AW.rseq ?_
  try simp only [wm, ↓wk, ↓wl, nq, evV, ↓reduceIte, sevalprocAttr]
  refine AW.sseq ?_
  refine AW.ifc H (by rfl) ?_ ?_ <;> clear H <;> intro H
  ·refine AW.skip ?_
   refine seqQ.norm ?_
   refine AW.bseq ?_
   refine AW.rseq ?_
   try simp only [wm, ↓wk, ↓wl, nq, evV, ↓reduceIte, sevalprocAttr]
   refine AW.rseq ?_
   try simp only [wm, ↓wk, ↓wl, nq, evV, ↓reduceIte, sevalprocAttr]
   refine evTs_at (enc := (AV.int .i64)) H (by rfl) (by rfl) ?_ <;> clear H <;> intro x_569 H
   try simp only [wm, ↓wk, ↓wl, nq, evV, ↓reduceIte, sevalprocAttr]
   refine evTs_at (enc := (AV.int .i64)) H (by rfl) (by rfl) ?_ <;> clear H <;> intro x_570 H
   try simp only [wm, ↓wk, ↓wl, nq, evV, ↓reduceIte, sevalprocAttr]
   refine AW.ifc H (by rfl) ?_ ?_ <;> clear H <;> intro H
   ·refine AW.rseq ?_
    try simp only [wm, ↓wk, ↓wl, nq, evV, ↓reduceIte, sevalprocAttr]
    refine AW.ret ?_
    refine blkQ.ret ?_
    refine loopQ.ret H ?_ <;> clear H <;> intro H
    try dsimp only at H
    refine blk0.ret ?_
    refine seqQ.ret ?_
    cases H
    exact hQ _ _ _ _ (.inr rfl) (by simp only [resVs, omap, resV, wm, ↓wk, ↓wl, nq, evV, ↓reduceIte, sevalprocAttr]; rfl) (hand_plain (by rfl)) (by first | exact Or.inl rfl | exact Or.inr rfl)
   ·refine AW.skip ?_
    refine blkQ.norm ?_
    refine AW.rend ?_
    try simp only [wm, ↓wk, ↓wl, nq, evV, ↓reduceIte, sevalprocAttr]
    exact loopQ.next H ((Le.tz [] [0, 1, 12, 13] (by simp only [f19_L1c, wm, wmr, rrm, ↓wk, ↓wl, evV, ↓reduceIte, sevalprocAttr] <;> rfl)))
  ·refine AW.exit ?_
   refine seqQ.exit ?_
   refine loopQ.exit H ?_ <;> clear H <;> intro H
   try dsimp only at H
   refine blk0.here ?_
   refine seqQ.norm ?_
   refine AW.rseq ?_
   try simp only [wm, ↓wk, ↓wl, nq, evV, ↓reduceIte, sevalprocAttr]
   refine AW.ret ?_
   cases H
   exact hQ _ _ _ _ (.inr rfl) (by simp only [resVs, omap, resV, wm, ↓wk, ↓wl, nq, evV, ↓reduceIte, sevalprocAttr]; rfl) (hand_plain (by rfl)) (by first | exact Or.inl rfl | exact Or.inr rfl)
def c11_0 : C := .cond (.t 27) (.seq (.reg [iI 0 (.mv (.c (.bool false)))]) .ret) (.skip)
def c11_1 : C := .cond (.t 89) (.seq (.reg [iI 0 (.mv (.c (.bool false)))]) .ret) (.skip)
def c11_2 : C := .seq (.reg [iI 111 (.mv (.t 8)), iI 112 (.mv (.t 10)), iI 113 (.bin .add (.t 111) (.t 112)), iI 114 (.mv (.t 14)), iI 115 (.bin .add (.t 113) (.t 114)), iI 116 (.bin .eql (.t 115) (.c (.int .i64 0))), iI 117 (.mv (.t 116)), iG (some 118) 117 true (.mv (.t 7)), iI 119 (.pick (.t 117) (.t 118) (.c (.bool false))), iI 120 (.mv (.t 119)), iG (some 121) 120 true (.mv (.t 15)), iG (some 122) 120 true (.load 7 (.t 2)), iG (some 123) 120 true (.load 7 (.t 3)), iG (some 124) 120 true (.mkslp 7 2 (.agg [(.int .i64 0), (.int .i64 0), (.str []), (.int .i64 0), (.int .i64 0), (.int .i64 0), (.str [])]) [(0, (.t 122)), (1, (.t 123))]), iG (some 125) 120 true (.call (.c (.fn 18 [])) [(.t 121), (.t 124)]), iI 126 (.pick (.t 120) (.t 125) (.c (.bool false))), iI 127 (.mv (.t 126)), iG (some 128) 127 true (.mv (.t 16)), iG (some 129) 127 true (.mkslp 0 2 (.int .i64 0) [(0, (.c (.int .i64 0))), (1, (.c (.int .i64 1)))]), iG (some 130) 127 true (.call (.c (.fn 19 [])) [(.t 128), (.t 129)]), iI 131 (.pick (.t 127) (.t 130) (.c (.bool false))), iI 132 (.mv (.t 131)), iG (some 133) 132 true (.load 7 (.t 17)), iG (some 134) 132 true (.load 7 (.t 2)), iG (some 135) 132 true (.eqs false [0, 0, 1, 0, 0, 0, 1] (.t 133) (.t 134)), iI 136 (.pick (.t 132) (.t 135) (.c (.bool false))), iI 137 (.mv (.t 136)), iG (some 138) 137 true (.faddr 7 (.t 18)), iG (some 139) 137 true (.load 0 (.t 138)), iG (some 140) 137 true (.bin .eql (.t 139) (.c (.int .i64 255))), iI 141 (.pick (.t 137) (.t 140) (.c (.bool false))), iI 0 (.mv (.t 141))]) .ret
def c11_3 : C := .seq (.reg [iI 103 (.mv (.t 4)), iI 104 (.mv (.t 1)), iI 105 (.build [(1, (.int .i64 0)), (1, (.int .i64 0))] [(0, 0, (.c (.int .i64 4)))]), iI 106 (.call (.c (.fn 26 [])) [(.t 103), (.t 104), (.t 105)]), iI 102 (.mv (.t 106)), iI 107 (.ext (.t 102) 0), iI 108 (.ext (.t 102) 1), iI 109 (.ext (.t 102) 2), iI 110 (.ext (.t 102) 3), iI 17 (.alloc [(1, (.int .i64 0)), (1, (.int .i64 0)), (1, (.str [])), (1, (.int .i64 0)), (1, (.int .i64 0)), (1, (.int .i64 0)), (1, (.str []))]), iI 18 (.alloc [(1, (.int .i64 0)), (1, (.int .i64 0)), (1, (.int .i64 0)), (1, (.int .i64 0)), (1, (.int .i64 0)), (1, (.int .i64 0)), (1, (.int .i64 0)), (1, (.int .i64 0)), (1, (.bool false)), (1, (.sl 3 true []))]), iN (.store 7 (.t 17) (.t 107)), iN (.store 10 (.t 18) (.t 108)), iI 7 (.mv (.t 109)), iI 14 (.mv (.t 110))]) c11_2
def c11_4 : C := .seq (.reg [iI 97 (.mv (.t 4)), iI 98 (.mv (.t 1)), iI 99 (.call (.c (.fn 14 [])) [(.t 97), (.t 98), (.c (.int .i64 4))]), iI 96 (.mv (.t 99)), iI 100 (.ext (.t 96) 0), iI 101 (.ext (.t 96) 1), iI 16 (.mv (.t 100)), iI 10 (.mv (.t 101))]) c11_3
def c11_5 : C := .seq (.reg [iI 91 (.mv (.t 4)), iI 92 (.mv (.t 1)), iI 93 (.call (.c (.fn 12 [])) [(.t 91), (.t 92), (.c (.int .i64 4))]), iI 90 (.mv (.t 93)), iI 94 (.ext (.t 90) 0), iI 95 (.ext (.t 90) 1), iI 15 (.mv (.t 94)), iI 8 (.mv (.t 95))]) c11_4
def c11_6 : C := .seq (.seq (.reg [iI 60 (.mv (.t 8)), iI 61 (.mv (.t 10)), iI 62 (.bin .add (.t 60) (.t 61)), iI 63 (.mv (.t 14)), iI 64 (.bin .add (.t 62) (.t 63)), iI 65 (.bin .neq (.t 64) (.c (.int .i64 0))), iI 66 (.mv (.t 65)), iG (some 67) 66 false (.mv (.t 5)), iG (some 68) 66 false (.bin .neq (.t 67) (.c (.int .i64 1))), iI 69 (.pick (.t 66) (.c (.bool true)) (.t 68)), iI 70 (.mv (.t 69)), iG (some 71) 70 false (.mv (.t 6)), iG (some 72) 70 false (.bin .neq (.t 71) (.c (.int .i64 0))), iI 73 (.pick (.t 70) (.c (.bool true)) (.t 72)), iI 74 (.mv (.t 73)), iG (some 75) 74 false (.mv (.t 7)), iG (some 76) 74 false (.un .not (.t 75)), iI 77 (.pick (.t 74) (.c (.bool true)) (.t 76)), iI 78 (.mv (.t 77)), iG (some 79) 78 false (.mv (.t 9)), iG (some 80) 78 false (.bin .neq (.t 79) (.c (.int .i64 8))), iI 81 (.pick (.t 78) (.c (.bool true)) (.t 80)), iI 82 (.mv (.t 81)), iG (some 83) 82 false (.mv (.t 12)), iG (some 84) 82 false (.bin .neq (.t 83) (.c (.int .i64 12))), iI 85 (.pick (.t 82) (.c (.bool true)) (.t 84)), iI 86 (.mv (.t 85)), iG (some 87) 86 false (.mv (.t 13)), iG (some 88) 86 false (.bin .neq (.t 87) (.c (.int .i64 7))), iI 89 (.pick (.t 86) (.c (.bool true)) (.t 88))]) c11_1) c11_5
def c11_7 : C := .seq (.reg [iI 55 (.mv (.t 4)), iI 56 (.mv (.t 1)), iI 57 (.call (.c (.fn 24 [])) [(.t 55), (.t 56), (.c (.int .i64 1))]), iI 54 (.mv (.t 57)), iI 58 (.ext (.t 54) 0), iI 59 (.ext (.t 54) 1), iI 13 (.mv (.t 58)), iI 14 (.mv (.t 59))]) c11_6
def c11_8 : C := .seq (.reg [iI 49 (.mv (.t 4)), iI 50 (.mv (.t 1)), iI 51 (.call (.c (.fn 22 [])) [(.t 49), (.t 50), (.c (.int .i64 1)), (.c (.int .i64 506))]), iI 48 (.mv (.t 51)), iI 52 (.ext (.t 48) 0), iI 53 (.ext (.t 48) 1), iI 11 (.mv (.t 52)), iI 12 (.mv (.t 53))]) c11_7
def c11_9 : C := .seq (.reg [iI 43 (.mv (.t 4)), iI 44 (.mv (.t 1)), iI 45 (.call (.c (.fn 22 [])) [(.t 43), (.t 44), (.c (.int .i64 1)), (.c (.int .i64 5))]), iI 42 (.mv (.t 45)), iI 46 (.ext (.t 42) 0), iI 47 (.ext (.t 42) 1), iI 9 (.mv (.t 46)), iI 10 (.mv (.t 47))]) c11_8
def c11_10 : C := .seq (.reg [iI 33 (.load 7 (.t 2)), iI 34 (.load 7 (.t 3)), iI 35 (.mkslp 7 2 (.agg [(.int .i64 0), (.int .i64 0), (.str []), (.int .i64 0), (.int .i64 0), (.int .i64 0), (.str [])]) [(0, (.t 33)), (1, (.t 34))]), iI 36 (.mv (.t 1)), iI 37 (.call (.c (.fn 20 [])) [(.t 35), (.t 36), (.c (.int .i64 1)), (.c (.int .i64 7))]), iI 32 (.mv (.t 37)), iI 38 (.ext (.t 32) 0), iI 39 (.ext (.t 32) 1), iI 40 (.ext (.t 32) 2), iI 41 (.ext (.t 32) 3), iI 5 (.mv (.t 38)), iI 6 (.mv (.t 39)), iI 7 (.mv (.t 40)), iI 8 (.mv (.t 41))]) c11_9
def c11_11 : C := .seq (.reg [iI 29 (.load 7 (.t 3)), iI 30 (.load 7 (.t 2)), iI 31 (.mkslp 7 2 (.agg [(.int .i64 0), (.int .i64 0), (.str []), (.int .i64 0), (.int .i64 0), (.int .i64 0), (.str [])]) [(0, (.t 29)), (1, (.t 30))]), iI 4 (.mv (.t 31))]) c11_10
def c11_12 : C := .seq (.reg [iI 28 (.faddr 4 (.t 3)), iN (.store 0 (.t 28) (.c (.int .i64 7)))]) c11_11
def c11_13 : C := .seq (.seq (.reg [iI 22 (.load 7 (.t 2)), iI 23 (.load 7 (.t 3)), iI 24 (.mkslp 7 2 (.agg [(.int .i64 0), (.int .i64 0), (.str []), (.int .i64 0), (.int .i64 0), (.int .i64 0), (.str [])]) [(0, (.t 22)), (1, (.t 23))]), iI 25 (.mv (.t 1)), iI 26 (.call (.c (.fn 16 [])) [(.t 24), (.t 25)]), iI 27 (.bin .neq (.t 26) (.c (.int .i64 10)))]) c11_0) c11_12
def c11_14 : C := .seq (.reg [iI 21 (.build [(1, (.int .i64 0)), (1, (.int .i64 0)), (1, (.str [])), (1, (.int .i64 0)), (1, (.int .i64 0)), (1, (.int .i64 0)), (1, (.str []))] [(0, 0, (.c (.int .i64 4))), (1, 0, (.c (.int .i64 2))), (2, 0, (.c (.str [112, 97, 114]))), (3, 0, (.c (.int .i64 1))), (4, 0, (.c (.int .i64 6))), (5, 0, (.c (.int .i64 2)))]), iI 3 (.alloc [(1, (.int .i64 0)), (1, (.int .i64 0)), (1, (.str [])), (1, (.int .i64 0)), (1, (.int .i64 0)), (1, (.int .i64 0)), (1, (.str []))]), iN (.store 7 (.t 3) (.t 21))]) c11_13
def c11_15 : C := .seq (.reg [iI 20 (.build [(1, (.int .i64 0)), (1, (.int .i64 0)), (1, (.str [])), (1, (.int .i64 0)), (1, (.int .i64 0)), (1, (.int .i64 0)), (1, (.str []))] [(0, 0, (.c (.int .i64 4))), (1, 0, (.c (.int .i64 1))), (2, 0, (.c (.str [115, 112, 111, 116]))), (3, 0, (.c (.int .i64 1))), (4, 0, (.c (.int .i64 1))), (5, 0, (.c (.int .i64 1)))]), iI 2 (.alloc [(1, (.int .i64 0)), (1, (.int .i64 0)), (1, (.str [])), (1, (.int .i64 0)), (1, (.int .i64 0)), (1, (.int .i64 0)), (1, (.str []))]), iN (.store 7 (.t 2) (.t 20))]) c11_14
def c11_16 : C := .seq (.reg [iI 19 (.call (.c (.fn 43 [])) []), iI 1 (.mv (.t 19))]) c11_15
def ir11 : C := .seq (.reg [iI 0 (.mv (.c (.bool false)))]) c11_16
theorem fd11 : fd? Try.prog 11 = some (142, [.slot 0], ir11) := by kernel_rfl
noncomputable def f11 : Option (Bool) :=
  (f43).bind fun r_1 => (f16 ([(ApiFixture.mk 4 1 ([115, 112, 111, 116]) 1 1 1 ([])), (ApiFixture.mk 4 2 ([112, 97, 114]) 1 6 2 ([]))]) r_1).bind fun r_262 => (if (decide (r_262 ≠ 10)) = true then (some false) else (f20 ([(ApiFixture.mk 4 1 ([115, 112, 111, 116]) 1 1 1 ([])), (ApiFixture.mk 4 2 ([112, 97, 114]) 1 7 2 ([]))]) r_1 1 7).bind fun r_275 => (f22 ([(ApiFixture.mk 4 2 ([112, 97, 114]) 1 7 2 ([])), (ApiFixture.mk 4 1 ([115, 112, 111, 116]) 1 1 1 ([]))]) r_1 1 5).bind fun r_293 => (f22 ([(ApiFixture.mk 4 2 ([112, 97, 114]) 1 7 2 ([])), (ApiFixture.mk 4 1 ([115, 112, 111, 116]) 1 1 1 ([]))]) r_1 1 506).bind fun r_294 => (f24 ([(ApiFixture.mk 4 2 ([112, 97, 114]) 1 7 2 ([])), (ApiFixture.mk 4 1 ([115, 112, 111, 116]) 1 1 1 ([]))]) r_1 1).bind fun r_309 => (if (decide ((IntKind.i64.wrap ((IntKind.i64.wrap (r_275.2.2.2 + r_293.2)) + r_309.2)) ≠ 0)) = true then (some false) else (if (decide (r_275.1 ≠ 1)) = true then (some false) else (if (decide (r_275.2.1 ≠ 0)) = true then (some false) else (if (!r_275.2.2.1) = true then (some false) else (if (decide (r_293.1 ≠ 8)) = true then (some false) else (if (decide (r_294.2 ≠ 12)) = true then (some false) else (if (decide (r_309.1 ≠ 7)) = true then (some false) else (f12 ([(ApiFixture.mk 4 2 ([112, 97, 114]) 1 7 2 ([])), (ApiFixture.mk 4 1 ([115, 112, 111, 116]) 1 1 1 ([]))]) r_1 4).bind fun r_356 => (f14 ([(ApiFixture.mk 4 2 ([112, 97, 114]) 1 7 2 ([])), (ApiFixture.mk 4 1 ([115, 112, 111, 116]) 1 1 1 ([]))]) r_1 4).bind fun r_447 => (f26 ([(ApiFixture.mk 4 2 ([112, 97, 114]) 1 7 2 ([])), (ApiFixture.mk 4 1 ([115, 112, 111, 116]) 1 1 1 ([]))]) r_1 (ApiParam.mk 4 0)).bind fun r_545 => (if (decide ((IntKind.i64.wrap ((IntKind.i64.wrap (r_356.2 + r_447.2)) + r_545.2.2.2)) = 0)) = true then (if r_545.2.2.1 = true then (f18 r_356.1 ([(ApiFixture.mk 4 1 ([115, 112, 111, 116]) 1 1 1 ([])), (ApiFixture.mk 4 2 ([112, 97, 114]) 1 7 2 ([]))])).bind fun r_558 => (if r_558 = true then (f19 r_447.1 ([0, 1])).bind fun r_571 => (if r_571 = true then (if ((r_545.1.fChannel == 4) && ((r_545.1.fPart == 1) && ((r_545.1.fProfile == ([115, 112, 111, 116])) && ((r_545.1.fUniverse == 1) && ((r_545.1.fAddress == 1) && ((r_545.1.fPhase == 1) && ((r_545.1.fCable == ([])) && true))))))) = true then (some (decide (r_545.2.1.fHigh = 255))) else (some false)) else (some false)) else (some false)) else (some false)) else (some false))))))))))
theorem f11_ok {r_ : Bool} (H : f11 = some r_) : Pure Try.prog 11 [] (· = .bool r_) := by
 refine Pure.walk3 fd11 none (Nat.le_of_ble_eq_true rfl) (by rfl) fun Q hQ => ?_
 simp only [f11] at H
 refine AW.rseq ?_
 try simp only [wm, ↓wk, ↓wl, nq, evV, ↓reduceIte, sevalprocAttr]
 refine AW.rseq ?_
 try simp only [wm, ↓wk, ↓wl, nq, evV, ↓reduceIte, sevalprocAttr]
 refine evTs_pure hFn H (fun _ h => f43_ok h) (by rfl) (by rfl) (by rfl) (by rfl) (fun _ => rfl) ?_ <;> clear H <;> intro r_1 H
 try simp only [eL, wm, ↓wk, ↓wl, nq, evV, ↓reduceIte, sevalprocAttr]
 refine AW.rseq ?_
 try simp only [wm, ↓wk, ↓wl, nq, evV, ↓reduceIte, sevalprocAttr]
 refine AW.rseq ?_
 try simp only [wm, ↓wk, ↓wl, nq, evV, ↓reduceIte, sevalprocAttr]
 refine AW.sseq ?_
 refine AW.rseq ?_
 try simp only [wm, ↓wk, ↓wl, nq, evV, ↓reduceIte, sevalprocAttr]
 refine evTs_pure hFn H (fun _ h => f16_ok h) (by rfl) (by rfl) (by rfl) (by rfl) (fun _ => rfl) ?_ <;> clear H <;> intro r_262 H
 try simp only [eL, wm, ↓wk, ↓wl, nq, evV, ↓reduceIte, sevalprocAttr]
 refine AW.ifc H (by rfl) ?_ ?_ <;> clear H <;> intro H
 ·refine AW.rseq ?_
  try simp only [wm, ↓wk, ↓wl, nq, evV, ↓reduceIte, sevalprocAttr]
  refine AW.ret ?_
  refine seqQ.ret ?_
  cases H
  exact hQ _ _ _ _ (.inr rfl) (by simp only [resVs, omap, resV, wm, ↓wk, ↓wl, nq, evV, ↓reduceIte, sevalprocAttr]; rfl) (hand_plain (by rfl)) (by first | exact Or.inl rfl | exact Or.inr rfl)
 ·refine AW.skip ?_
  refine seqQ.norm ?_
  refine AW.rseq ?_
  try simp only [wm, ↓wk, ↓wl, nq, evV, ↓reduceIte, sevalprocAttr]
  refine AW.rseq ?_
  try simp only [wm, ↓wk, ↓wl, nq, evV, ↓reduceIte, sevalprocAttr]
  refine AW.rseq ?_
  try simp only [wm, ↓wk, ↓wl, nq, evV, ↓reduceIte, sevalprocAttr]
  refine evTs_pure hFn H (fun _ h => f20_ok h) (by rfl) (by rfl) (by rfl) (by rfl) (fun _ => rfl) ?_ <;> clear H <;> intro r_275 H
  try simp only [eL, wm, ↓wk, ↓wl, nq, evV, ↓reduceIte, sevalprocAttr]
  refine AW.rseq ?_
  try simp only [wm, ↓wk, ↓wl, nq, evV, ↓reduceIte, sevalprocAttr]
  refine evTs_pure hFn H (fun _ h => f22_ok h) (by rfl) (by rfl) (by rfl) (by rfl) (fun _ => rfl) ?_ <;> clear H <;> intro r_293 H
  try simp only [eL, wm, ↓wk, ↓wl, nq, evV, ↓reduceIte, sevalprocAttr]
  refine AW.rseq ?_
  try simp only [wm, ↓wk, ↓wl, nq, evV, ↓reduceIte, sevalprocAttr]
  refine evTs_pure hFn H (fun _ h => f22_ok h) (by rfl) (by rfl) (by rfl) (by rfl) (fun _ => rfl) ?_ <;> clear H <;> intro r_294 H
  try simp only [eL, wm, ↓wk, ↓wl, nq, evV, ↓reduceIte, sevalprocAttr]
  refine AW.rseq ?_
  try simp only [wm, ↓wk, ↓wl, nq, evV, ↓reduceIte, sevalprocAttr]
  refine evTs_pure hFn H (fun _ h => f24_ok h) (by rfl) (by rfl) (by rfl) (by rfl) (fun _ => rfl) ?_ <;> clear H <;> intro r_309 H
  try simp only [eL, wm, ↓wk, ↓wl, nq, evV, ↓reduceIte, sevalprocAttr]
  refine AW.sseq ?_
  refine AW.rseq ?_
  try simp only [wm, ↓wk, ↓wl, nq, evV, ↓reduceIte, sevalprocAttr]
  refine evTs_ifg H (by rfl) ?_ ?_ <;> clear H <;> intro H
  ·try simp only [wm, ↓wk, ↓wl, nq, evV, ↓reduceIte, sevalprocAttr]
   refine AW.ift (by rfl) ?_
   refine AW.rseq ?_
   try simp only [wm, ↓wk, ↓wl, nq, evV, ↓reduceIte, sevalprocAttr]
   refine AW.ret ?_
   refine seqQ.ret ?_
   cases H
   exact hQ _ _ _ _ (.inr rfl) (by simp only [resVs, omap, resV, wm, ↓wk, ↓wl, nq, evV, ↓reduceIte, sevalprocAttr]; rfl) (hand_plain (by rfl)) (by first | exact Or.inl rfl | exact Or.inr rfl)
  ·try simp only [wm, ↓wk, ↓wl, nq, evV, ↓reduceIte, sevalprocAttr]
   refine evTs_ifg H (by rfl) ?_ ?_ <;> clear H <;> intro H
   ·try simp only [wm, ↓wk, ↓wl, nq, evV, ↓reduceIte, sevalprocAttr]
    refine AW.ift (by rfl) ?_
    refine AW.rseq ?_
    try simp only [wm, ↓wk, ↓wl, nq, evV, ↓reduceIte, sevalprocAttr]
    refine AW.ret ?_
    refine seqQ.ret ?_
    cases H
    exact hQ _ _ _ _ (.inr rfl) (by simp only [resVs, omap, resV, wm, ↓wk, ↓wl, nq, evV, ↓reduceIte, sevalprocAttr]; rfl) (hand_plain (by rfl)) (by first | exact Or.inl rfl | exact Or.inr rfl)
   ·try simp only [wm, ↓wk, ↓wl, nq, evV, ↓reduceIte, sevalprocAttr]
    refine evTs_ifg H (by rfl) ?_ ?_ <;> clear H <;> intro H
    ·try simp only [wm, ↓wk, ↓wl, nq, evV, ↓reduceIte, sevalprocAttr]
     refine AW.ift (by rfl) ?_
     refine AW.rseq ?_
     try simp only [wm, ↓wk, ↓wl, nq, evV, ↓reduceIte, sevalprocAttr]
     refine AW.ret ?_
     refine seqQ.ret ?_
     cases H
     exact hQ _ _ _ _ (.inr rfl) (by simp only [resVs, omap, resV, wm, ↓wk, ↓wl, nq, evV, ↓reduceIte, sevalprocAttr]; rfl) (hand_plain (by rfl)) (by first | exact Or.inl rfl | exact Or.inr rfl)
    ·try simp only [wm, ↓wk, ↓wl, nq, evV, ↓reduceIte, sevalprocAttr]
     refine evTs_ifg H (by rfl) ?_ ?_ <;> clear H <;> intro H
     ·try simp only [wm, ↓wk, ↓wl, nq, evV, ↓reduceIte, sevalprocAttr]
      refine AW.ift (by rfl) ?_
      refine AW.rseq ?_
      try simp only [wm, ↓wk, ↓wl, nq, evV, ↓reduceIte, sevalprocAttr]
      refine AW.ret ?_
      refine seqQ.ret ?_
      cases H
      exact hQ _ _ _ _ (.inr rfl) (by simp only [resVs, omap, resV, wm, ↓wk, ↓wl, nq, evV, ↓reduceIte, sevalprocAttr]; rfl) (hand_plain (by rfl)) (by first | exact Or.inl rfl | exact Or.inr rfl)
     ·try simp only [wm, ↓wk, ↓wl, nq, evV, ↓reduceIte, sevalprocAttr]
      refine evTs_ifg H (by rfl) ?_ ?_ <;> clear H <;> intro H
      ·try simp only [wm, ↓wk, ↓wl, nq, evV, ↓reduceIte, sevalprocAttr]
       refine AW.ift (by rfl) ?_
       refine AW.rseq ?_
       try simp only [wm, ↓wk, ↓wl, nq, evV, ↓reduceIte, sevalprocAttr]
       refine AW.ret ?_
       refine seqQ.ret ?_
       cases H
       exact hQ _ _ _ _ (.inr rfl) (by simp only [resVs, omap, resV, wm, ↓wk, ↓wl, nq, evV, ↓reduceIte, sevalprocAttr]; rfl) (hand_plain (by rfl)) (by first | exact Or.inl rfl | exact Or.inr rfl)
      ·try simp only [wm, ↓wk, ↓wl, nq, evV, ↓reduceIte, sevalprocAttr]
       refine evTs_ifg H (by rfl) ?_ ?_ <;> clear H <;> intro H
       ·try simp only [wm, ↓wk, ↓wl, nq, evV, ↓reduceIte, sevalprocAttr]
        refine AW.ift (by rfl) ?_
        refine AW.rseq ?_
        try simp only [wm, ↓wk, ↓wl, nq, evV, ↓reduceIte, sevalprocAttr]
        refine AW.ret ?_
        refine seqQ.ret ?_
        cases H
        exact hQ _ _ _ _ (.inr rfl) (by simp only [resVs, omap, resV, wm, ↓wk, ↓wl, nq, evV, ↓reduceIte, sevalprocAttr]; rfl) (hand_plain (by rfl)) (by first | exact Or.inl rfl | exact Or.inr rfl)
       ·try simp only [wm, ↓wk, ↓wl, nq, evV, ↓reduceIte, sevalprocAttr]
        refine AW.ifc H (by rfl) ?_ ?_ <;> clear H <;> intro H
        ·refine AW.rseq ?_
         try simp only [wm, ↓wk, ↓wl, nq, evV, ↓reduceIte, sevalprocAttr]
         refine AW.ret ?_
         refine seqQ.ret ?_
         cases H
         exact hQ _ _ _ _ (.inr rfl) (by simp only [resVs, omap, resV, wm, ↓wk, ↓wl, nq, evV, ↓reduceIte, sevalprocAttr]; rfl) (hand_plain (by rfl)) (by first | exact Or.inl rfl | exact Or.inr rfl)
        ·refine AW.skip ?_
         refine seqQ.norm ?_
         refine AW.rseq ?_
         try simp only [wm, ↓wk, ↓wl, nq, evV, ↓reduceIte, sevalprocAttr]
         refine evTs_pure hFn H (fun _ h => f12_im h) (by rfl) (by rfl) (by rfl) (by rfl) (fun _ => rfl) ?_ <;> clear H <;> intro r_356 H
         try simp only [eL, wm, ↓wk, ↓wl, nq, evV, ↓reduceIte, sevalprocAttr]
         refine AW.rseq ?_
         try simp only [wm, ↓wk, ↓wl, nq, evV, ↓reduceIte, sevalprocAttr]
         refine evTs_pure hFn H (fun _ h => f14_im h) (by rfl) (by rfl) (by rfl) (by rfl) (fun _ => rfl) ?_ <;> clear H <;> intro r_447 H
         try simp only [eL, wm, ↓wk, ↓wl, nq, evV, ↓reduceIte, sevalprocAttr]
         refine AW.rseq ?_
         try simp only [wm, ↓wk, ↓wl, nq, evV, ↓reduceIte, sevalprocAttr]
         refine evTs_pure hFn H (fun _ h => f26_ok h) (by rfl) (by rfl) (by rfl) (by rfl) (fun _ => rfl) ?_ <;> clear H <;> intro r_545 H
         try simp only [eL, eApiFixture, eM, eApiFeature, wm, ↓wk, ↓wl, nq, evV, ↓reduceIte, sevalprocAttr]
         refine AW.rseq ?_
         try simp only [wm, ↓wk, ↓wl, nq, evV, ↓reduceIte, sevalprocAttr]
         refine evTs_ifg H (by rfl) ?_ ?_ <;> clear H <;> intro H
         ·try simp only [wm, ↓wk, ↓wl, nq, evV, ↓reduceIte, sevalprocAttr]
          refine evTs_ifg H (by rfl) ?_ ?_ <;> clear H <;> intro H
          ·try simp only [wm, ↓wk, ↓wl, nq, evV, ↓reduceIte, sevalprocAttr]
           refine evTs_pure hFn H (fun _ h => f18_ok h) (by rfl) (by rfl) (by rfl) (by rfl) (fun _ => rfl) ?_ <;> clear H <;> intro r_558 H
           try simp only [eL, wm, ↓wk, ↓wl, nq, evV, ↓reduceIte, sevalprocAttr]
           refine evTs_ifg H (by rfl) ?_ ?_ <;> clear H <;> intro H
           ·try simp only [wm, ↓wk, ↓wl, nq, evV, ↓reduceIte, sevalprocAttr]
            refine evTs_pure hFn H (fun _ h => f19_ok h) (by rfl) (by rfl) (by rfl) (by rfl) (fun _ => rfl) ?_ <;> clear H <;> intro r_571 H
            try simp only [eL, wm, ↓wk, ↓wl, nq, evV, ↓reduceIte, sevalprocAttr]
            refine evTs_ifg H (by rfl) ?_ ?_ <;> clear H <;> intro H
            ·try simp only [wm, ↓wk, ↓wl, nq, evV, ↓reduceIte, sevalprocAttr]
             refine rest_eqs (by rfl) ?_
             try simp only [wm, ↓wk, ↓wl, nq, evV, ↓reduceIte, sevalprocAttr]
             refine evTs_ifg H (by rfl) ?_ ?_ <;> clear H <;> intro H
             ·try simp only [wm, ↓wk, ↓wl, nq, evV, ↓reduceIte, sevalprocAttr]
              refine AW.ret ?_
              cases H
              exact hQ _ _ _ _ (.inr rfl) (by simp only [resVs, omap, resV, wm, ↓wk, ↓wl, nq, evV, ↓reduceIte, sevalprocAttr]; rfl) (hand_plain (by rfl)) (by first | exact Or.inl rfl | exact Or.inr rfl)
             ·try simp only [wm, ↓wk, ↓wl, nq, evV, ↓reduceIte, sevalprocAttr]
              refine AW.ret ?_
              cases H
              exact hQ _ _ _ _ (.inr rfl) (by simp only [resVs, omap, resV, wm, ↓wk, ↓wl, nq, evV, ↓reduceIte, sevalprocAttr]; rfl) (hand_plain (by rfl)) (by first | exact Or.inl rfl | exact Or.inr rfl)
            ·try simp only [wm, ↓wk, ↓wl, nq, evV, ↓reduceIte, sevalprocAttr]
             refine AW.ret ?_
             cases H
             exact hQ _ _ _ _ (.inr rfl) (by simp only [resVs, omap, resV, wm, ↓wk, ↓wl, nq, evV, ↓reduceIte, sevalprocAttr]; rfl) (hand_plain (by rfl)) (by first | exact Or.inl rfl | exact Or.inr rfl)
           ·try simp only [wm, ↓wk, ↓wl, nq, evV, ↓reduceIte, sevalprocAttr]
            refine AW.ret ?_
            cases H
            exact hQ _ _ _ _ (.inr rfl) (by simp only [resVs, omap, resV, wm, ↓wk, ↓wl, nq, evV, ↓reduceIte, sevalprocAttr]; rfl) (hand_plain (by rfl)) (by first | exact Or.inl rfl | exact Or.inr rfl)
          ·try simp only [wm, ↓wk, ↓wl, nq, evV, ↓reduceIte, sevalprocAttr]
           refine AW.ret ?_
           cases H
           exact hQ _ _ _ _ (.inr rfl) (by simp only [resVs, omap, resV, wm, ↓wk, ↓wl, nq, evV, ↓reduceIte, sevalprocAttr]; rfl) (hand_plain (by rfl)) (by first | exact Or.inl rfl | exact Or.inr rfl)
         ·try simp only [wm, ↓wk, ↓wl, nq, evV, ↓reduceIte, sevalprocAttr]
          refine AW.ret ?_
          cases H
          exact hQ _ _ _ _ (.inr rfl) (by simp only [resVs, omap, resV, wm, ↓wk, ↓wl, nq, evV, ↓reduceIte, sevalprocAttr]; rfl) (hand_plain (by rfl)) (by first | exact Or.inl rfl | exact Or.inr rfl)
noncomputable def f10_L2 (profiles_573 : (List ApiProfile)) : Lp (Int) ((Unit) ⊕ (Unit)) where
  body := fun i_577 => (if (decide (i_577 < ((profiles_573.length : Nat) : Int))) = true then (if (decide (i_577 < 6)) = true then (at? profiles_573 i_577).bind fun x_579 => (if (decide (16 < ((x_579.fFeatures.length : Nat) : Int))) = true then (some (.brk (Sum.inr ()))) else (some (.next (IntKind.i64.wrap (i_577 + 1))))) else (some (.brk (Sum.inl ())))) else (some (.brk (Sum.inl ()))))
  cst := fun i_577 => ⟨put (put (fun _ => .junk) 5 (.int .i64 i_577)) 1 (.sl 4 false (profiles_573.map eApiProfile)), []⟩
theorem f10_L2c (profiles_573 : (List ApiProfile)) (i_577 : Int) : (f10_L2 profiles_573).cst i_577 = ⟨put (put (fun _ => .junk) 5 (.int .i64 i_577)) 1 (.sl 4 false (profiles_573.map eApiProfile)), []⟩ := rfl
noncomputable def f10_J1 (profiles_573 : (List ApiProfile)) : Jn (Unit) (Bool) where
  run := fun _ => ((Lp.run (f10_L2 profiles_573) 0).bind fun r_ => match r_ with | (Sum.inl _) => (some true) | (Sum.inr _) => (some false))
  cst := fun _ => ⟨put (fun _ => .junk) 1 (.sl 4 false (profiles_573.map eApiProfile)), []⟩
theorem f10_J1c (profiles_573 : (List ApiProfile)) (x_ : Unit) : (f10_J1 profiles_573).cst x_ = ⟨put (fun _ => .junk) 1 (.sl 4 false (profiles_573.map eApiProfile)), []⟩ := rfl
def c10_0 : C := .cond (.t 23) (.seq (.reg [iI 4 (.mv (.c (.bool false)))]) .ret) (.skip)
def c10_1 : C := .cond (.t 31) (.skip) (.exit 0)
def c10_2 : C := .cond (.t 40) (.seq (.reg [iI 4 (.mv (.c (.bool false)))]) .ret) (.skip)
def c10_3 : C := .reg [iI 32 (.mv (.t 5)), iI 33 (.bin .add (.t 32) (.c (.int .i64 1))), iI 5 (.mv (.t 33))]
def c10_4 : C := .seq (.block 1 (.seq (.reg [iI 34 (.mv (.t 1)), iI 35 (.mv (.t 5)), iI 36 (.iaddr 4 (.t 34) (.t 35)), iI 37 (.faddr 3 (.t 36)), iI 38 (.load 0 (.t 37)), iI 39 (.len 0 (.t 38)), iI 40 (.bin .gtr (.t 39) (.c (.int .i64 16)))]) c10_2)) c10_3
def c10_5 : C := .block 0 (.loop (.seq (.seq (.reg [iI 24 (.mv (.t 5)), iI 25 (.mv (.t 1)), iI 26 (.len 0 (.t 25)), iI 27 (.bin .lss (.t 24) (.t 26)), iI 28 (.mv (.t 27)), iG (some 29) 28 true (.mv (.t 5)), iG (some 30) 28 true (.bin .lss (.t 29) (.c (.int .i64 6))), iI 31 (.pick (.t 28) (.t 30) (.c (.bool false)))]) c10_1) c10_4))
def c10_6 : C := .seq (.reg [iI 4 (.mv (.c (.bool true)))]) .ret
def c10_7 : C := .seq (.seq (.reg [iI 5 (.mv (.c (.int .i64 0)))]) c10_5) c10_6
def c10_8 : C := .seq (.seq (.reg [iI 6 (.mv (.t 0)), iI 7 (.len 0 (.t 6)), iI 8 (.bin .gtr (.t 7) (.c (.int .i64 12))), iI 9 (.mv (.t 8)), iG (some 10) 9 true (.mv (.t 0)), iG (some 11) 9 true (.len 0 (.t 10)), iG (some 12) 9 true (.bin .leq (.t 11) (.c (.int .i64 64))), iI 13 (.pick (.t 9) (.t 12) (.c (.bool false))), iI 14 (.mv (.t 13)), iG (some 15) 14 false (.mv (.t 1)), iG (some 16) 14 false (.len 0 (.t 15)), iG (some 17) 14 false (.bin .gtr (.t 16) (.c (.int .i64 6))), iG (some 18) 14 false (.mv (.t 17)), iG (some 19) 18 true (.mv (.t 1)), iG (some 20) 18 true (.len 0 (.t 19)), iG (some 21) 18 true (.bin .leq (.t 20) (.c (.int .i64 32))), iG (some 22) 14 false (.pick (.t 18) (.t 21) (.c (.bool false))), iI 23 (.pick (.t 14) (.c (.bool true)) (.t 22))]) c10_0) c10_7
def ir10 : C := .seq (.reg [iI 4 (.mv (.c (.bool false)))]) c10_8
theorem fd10 : fd? Try.prog 10 = some (41, [.slot 4], ir10) := by kernel_rfl
noncomputable def f10 (l_572 : (List ApiFixture)) (profiles_573 : (List ApiProfile)) : Option (Bool) :=
  (if (decide (12 < ((l_572.length : Nat) : Int))) = true then (if (decide (((l_572.length : Nat) : Int) ≤ 64)) = true then (some false) else (if (decide (6 < ((profiles_573.length : Nat) : Int))) = true then (if (decide (((profiles_573.length : Nat) : Int) ≤ 32)) = true then (some false) else ((f10_J1 profiles_573).run ())) else ((f10_J1 profiles_573).run ()))) else (if (decide (6 < ((profiles_573.length : Nat) : Int))) = true then (if (decide (((profiles_573.length : Nat) : Int) ≤ 32)) = true then (some false) else ((f10_J1 profiles_573).run ())) else ((f10_J1 profiles_573).run ())))
theorem f10_ok {l_572 : (List ApiFixture)} {profiles_573 : (List ApiProfile)} {r_ : Bool} (H : f10 l_572 profiles_573 = some r_) : Pure Try.prog 10 [.sl 7 false (l_572.map eApiFixture), .sl 4 false (profiles_573.map eApiProfile)] (· = .bool r_) := by
 refine Pure.walk3 fd10 none (Nat.le_of_ble_eq_true rfl) (by rfl) fun Q hQ => ?_
 simp only [f10] at H
 refine AW.rseq ?_
 try simp only [wm, ↓wk, ↓wl, nq, evV, ↓reduceIte, sevalprocAttr]
 refine AW.join (f10_J1 profiles_573) H ?_ fun hf10_J1 => ?_
 ·clear H
  rintro _ st0_ H hst_
  rw [f10_J1c] at hst_
  simp only [f10_J1] at H
  subst hst_
  refine AW.sseq ?_
  refine AW.rseq ?_
  try simp only [wm, ↓wk, ↓wl, nq, evV, ↓reduceIte, sevalprocAttr]
  refine AW.bend ?_
  refine AW.iter H ((Le.tz [] [1, 5] (by simp only [f10_L2c, wm, wmr, rrm, ↓wk, ↓wl, evV, ↓reduceIte, sevalprocAttr] <;> rfl))) ?_ <;> clear H
  rintro i_577 x_ st0_ H hst_
  rw [f10_L2c] at hst_
  simp only [f10_L2] at H
  subst hst_
  refine AW.sseq ?_
  refine AW.rseq ?_
  try simp only [wm, ↓wk, ↓wl, nq, evV, ↓reduceIte, sevalprocAttr]
  refine evTs_ifg H (by rfl) ?_ ?_ <;> clear H <;> intro H
  ·try simp only [wm, ↓wk, ↓wl, nq, evV, ↓reduceIte, sevalprocAttr]
   refine AW.ifc H (by rfl) ?_ ?_ <;> clear H <;> intro H
   ·refine AW.skip ?_
    refine seqQ.norm ?_
    refine AW.bseq ?_
    refine AW.rseq ?_
    try simp only [wm, ↓wk, ↓wl, nq, evV, ↓reduceIte, sevalprocAttr]
    refine evTs_at (enc := eApiProfile) H (by rfl) (by rfl) ?_ <;> clear H <;> intro x_579 H
    try simp only [eApiProfile, eL, eM, wm, ↓wk, ↓wl, nq, evV, ↓reduceIte, sevalprocAttr]
    refine AW.ifc H (by rfl) ?_ ?_ <;> clear H <;> intro H
    ·refine AW.rseq ?_
     try simp only [wm, ↓wk, ↓wl, nq, evV, ↓reduceIte, sevalprocAttr]
     refine AW.ret ?_
     refine blkQ.ret ?_
     refine loopQ.ret H ?_ <;> clear H <;> intro H
     try dsimp only at H
     refine blk0.ret ?_
     refine seqQ.ret ?_
     cases H
     exact hQ _ _ _ _ (.inr rfl) (by simp only [resVs, omap, resV, wm, ↓wk, ↓wl, nq, evV, ↓reduceIte, sevalprocAttr]; rfl) (hand_plain (by rfl)) (by first | exact Or.inl rfl | exact Or.inr rfl)
    ·refine AW.skip ?_
     refine blkQ.norm ?_
     refine AW.rend ?_
     try simp only [wm, ↓wk, ↓wl, nq, evV, ↓reduceIte, sevalprocAttr]
     exact loopQ.next H ((Le.tz [] [1, 5] (by simp only [f10_L2c, wm, wmr, rrm, ↓wk, ↓wl, evV, ↓reduceIte, sevalprocAttr] <;> rfl)))
   ·refine AW.exit ?_
    refine seqQ.exit ?_
    refine loopQ.exit H ?_ <;> clear H <;> intro H
    try dsimp only at H
    refine blk0.here ?_
    refine seqQ.norm ?_
    refine AW.rseq ?_
    try simp only [wm, ↓wk, ↓wl, nq, evV, ↓reduceIte, sevalprocAttr]
    refine AW.ret ?_
    cases H
    exact hQ _ _ _ _ (.inr rfl) (by simp only [resVs, omap, resV, wm, ↓wk, ↓wl, nq, evV, ↓reduceIte, sevalprocAttr]; rfl) (hand_plain (by rfl)) (by first | exact Or.inl rfl | exact Or.inr rfl)
  ·try simp only [wm, ↓wk, ↓wl, nq, evV, ↓reduceIte, sevalprocAttr]
   refine AW.iff (by rfl) ?_
   refine AW.exit ?_
   refine seqQ.exit ?_
   refine loopQ.exit H ?_ <;> clear H <;> intro H
   try dsimp only at H
   refine blk0.here ?_
   refine seqQ.norm ?_
   refine AW.rseq ?_
   try simp only [wm, ↓wk, ↓wl, nq, evV, ↓reduceIte, sevalprocAttr]
   refine AW.ret ?_
   cases H
   exact hQ _ _ _ _ (.inr rfl) (by simp only [resVs, omap, resV, wm, ↓wk, ↓wl, nq, evV, ↓reduceIte, sevalprocAttr]; rfl) (hand_plain (by rfl)) (by first | exact Or.inl rfl | exact Or.inr rfl)
 ·refine AW.rseq ?_
  try simp only [wm, ↓wk, ↓wl, nq, evV, ↓reduceIte, sevalprocAttr]
  refine evTs_ifg H (by rfl) ?_ ?_ <;> clear H <;> intro H
  ·try simp only [wm, ↓wk, ↓wl, nq, evV, ↓reduceIte, sevalprocAttr]
   refine evTs_ifg H (by rfl) ?_ ?_ <;> clear H <;> intro H
   ·try simp only [wm, ↓wk, ↓wl, nq, evV, ↓reduceIte, sevalprocAttr]
    refine AW.ift (by rfl) ?_
    refine AW.rseq ?_
    try simp only [wm, ↓wk, ↓wl, nq, evV, ↓reduceIte, sevalprocAttr]
    refine AW.ret ?_
    refine seqQ.ret ?_
    cases H
    exact hQ _ _ _ _ (.inr rfl) (by simp only [resVs, omap, resV, wm, ↓wk, ↓wl, nq, evV, ↓reduceIte, sevalprocAttr]; rfl) (hand_plain (by rfl)) (by first | exact Or.inl rfl | exact Or.inr rfl)
   ·try simp only [wm, ↓wk, ↓wl, nq, evV, ↓reduceIte, sevalprocAttr]
    refine evTs_ifg H (by rfl) ?_ ?_ <;> clear H <;> intro H
    ·try simp only [wm, ↓wk, ↓wl, nq, evV, ↓reduceIte, sevalprocAttr]
     refine AW.ifc H (by rfl) ?_ ?_ <;> clear H <;> intro H
     ·refine AW.rseq ?_
      try simp only [wm, ↓wk, ↓wl, nq, evV, ↓reduceIte, sevalprocAttr]
      refine AW.ret ?_
      refine seqQ.ret ?_
      cases H
      exact hQ _ _ _ _ (.inr rfl) (by simp only [resVs, omap, resV, wm, ↓wk, ↓wl, nq, evV, ↓reduceIte, sevalprocAttr]; rfl) (hand_plain (by rfl)) (by first | exact Or.inl rfl | exact Or.inr rfl)
     ·refine AW.skip ?_
      refine seqQ.norm ?_
      exact hf10_J1 _ _ H ((Le.tz [] [1] (by simp only [f10_J1c, wm, wmr, rrm, ↓wk, ↓wl, evV, ↓reduceIte, sevalprocAttr] <;> rfl)))
    ·try simp only [wm, ↓wk, ↓wl, nq, evV, ↓reduceIte, sevalprocAttr]
     refine AW.iff (by rfl) ?_
     refine AW.skip ?_
     refine seqQ.norm ?_
     exact hf10_J1 _ _ H ((Le.tz [] [1] (by simp only [f10_J1c, wm, wmr, rrm, ↓wk, ↓wl, evV, ↓reduceIte, sevalprocAttr] <;> rfl)))
  ·try simp only [wm, ↓wk, ↓wl, nq, evV, ↓reduceIte, sevalprocAttr]
   refine evTs_ifg H (by rfl) ?_ ?_ <;> clear H <;> intro H
   ·try simp only [wm, ↓wk, ↓wl, nq, evV, ↓reduceIte, sevalprocAttr]
    refine AW.ifc H (by rfl) ?_ ?_ <;> clear H <;> intro H
    ·refine AW.rseq ?_
     try simp only [wm, ↓wk, ↓wl, nq, evV, ↓reduceIte, sevalprocAttr]
     refine AW.ret ?_
     refine seqQ.ret ?_
     cases H
     exact hQ _ _ _ _ (.inr rfl) (by simp only [resVs, omap, resV, wm, ↓wk, ↓wl, nq, evV, ↓reduceIte, sevalprocAttr]; rfl) (hand_plain (by rfl)) (by first | exact Or.inl rfl | exact Or.inr rfl)
    ·refine AW.skip ?_
     refine seqQ.norm ?_
     exact hf10_J1 _ _ H ((Le.tz [] [1] (by simp only [f10_J1c, wm, wmr, rrm, ↓wk, ↓wl, evV, ↓reduceIte, sevalprocAttr] <;> rfl)))
   ·try simp only [wm, ↓wk, ↓wl, nq, evV, ↓reduceIte, sevalprocAttr]
    refine AW.iff (by rfl) ?_
    refine AW.skip ?_
    refine seqQ.norm ?_
    exact hf10_J1 _ _ H ((Le.tz [] [1] (by simp only [f10_J1c, wm, wmr, rrm, ↓wk, ↓wl, evV, ↓reduceIte, sevalprocAttr] <;> rfl)))
def c79_0 : C := .cond (.t 20) (.seq (.reg [iI 2 (.mv (.c (.int .i64 2)))]) .ret) (.skip)
def c79_1 : C := .cond (.t 48) (.seq (.reg [iI 2 (.mv (.c (.int .i64 2)))]) .ret) (.skip)
def c79_2 : C := .seq (.reg [iI 2 (.mv (.c (.int .i64 0)))]) .ret
def c79_3 : C := .seq (.seq (.reg [iI 21 (.faddr 3 (.t 1)), iI 22 (.load 0 (.t 21)), iI 23 (.bin .lss (.t 22) (.c (.int .i64 1))), iI 24 (.mv (.t 23)), iG (some 25) 24 false (.faddr 3 (.t 1)), iG (some 26) 24 false (.load 0 (.t 25)), iG (some 27) 24 false (.bin .gtr (.t 26) (.c (.int .i64 8))), iI 28 (.pick (.t 24) (.c (.bool true)) (.t 27)), iI 29 (.mv (.t 28)), iG (some 30) 29 false (.faddr 4 (.t 1)), iG (some 31) 29 false (.load 0 (.t 30)), iG (some 32) 29 false (.bin .lss (.t 31) (.c (.int .i64 1))), iI 33 (.pick (.t 29) (.c (.bool true)) (.t 32)), iI 34 (.mv (.t 33)), iG (some 35) 34 false (.faddr 4 (.t 1)), iG (some 36) 34 false (.load 0 (.t 35)), iG (some 37) 34 false (.bin .gtr (.t 36) (.c (.int .i64 512))), iI 38 (.pick (.t 34) (.c (.bool true)) (.t 37)), iI 39 (.mv (.t 38)), iG (some 40) 39 false (.faddr 5 (.t 1)), iG (some 41) 39 false (.load 0 (.t 40)), iG (some 42) 39 false (.bin .lss (.t 41) (.c (.int .i64 1))), iI 43 (.pick (.t 39) (.c (.bool true)) (.t 42)), iI 44 (.mv (.t 43)), iG (some 45) 44 false (.faddr 5 (.t 1)), iG (some 46) 44 false (.load 0 (.t 45)), iG (some 47) 44 false (.bin .gtr (.t 46) (.c (.int .i64 3))), iI 48 (.pick (.t 44) (.c (.bool true)) (.t 47))]) c79_1) c79_2
def c79_4 : C := .seq (.seq (.reg [iI 3 (.faddr 0 (.t 1)), iI 4 (.load 0 (.t 3)), iI 5 (.bin .lss (.t 4) (.c (.int .i64 1))), iI 6 (.mv (.t 5)), iG (some 7) 6 false (.faddr 0 (.t 1)), iG (some 8) 6 false (.load 0 (.t 7)), iG (some 9) 6 false (.bin .gtr (.t 8) (.c (.int .i64 999))), iI 10 (.pick (.t 6) (.c (.bool true)) (.t 9)), iI 11 (.mv (.t 10)), iG (some 12) 11 false (.faddr 1 (.t 1)), iG (some 13) 11 false (.load 0 (.t 12)), iG (some 14) 11 false (.bin .lss (.t 13) (.c (.int .i64 1))), iI 15 (.pick (.t 11) (.c (.bool true)) (.t 14)), iI 16 (.mv (.t 15)), iG (some 17) 16 false (.faddr 1 (.t 1)), iG (some 18) 16 false (.load 0 (.t 17)), iG (some 19) 16 false (.bin .gtr (.t 18) (.c (.int .i64 64))), iI 20 (.pick (.t 16) (.c (.bool true)) (.t 19))]) c79_0) c79_3
def ir79 : C := .seq (.reg [iI 1 (.box (.t 0)), iI 2 (.mv (.c (.int .i64 0)))]) c79_4
theorem fd79 : fd? Try.prog 79 = some (49, [.slot 2], ir79) := by kernel_rfl
noncomputable def f79 (x_585 : ApiFixture) : Option (Int) :=
  (if (decide (x_585.fChannel < 1)) = true then (some 2) else (if (decide (999 < x_585.fChannel)) = true then (some 2) else (if (decide (x_585.fPart < 1)) = true then (some 2) else (if (decide (64 < x_585.fPart)) = true then (some 2) else (if (decide (x_585.fUniverse < 1)) = true then (some 2) else (if (decide (8 < x_585.fUniverse)) = true then (some 2) else (if (decide (x_585.fAddress < 1)) = true then (some 2) else (if (decide (512 < x_585.fAddress)) = true then (some 2) else (if (decide (x_585.fPhase < 1)) = true then (some 2) else (if (decide (3 < x_585.fPhase)) = true then (some 2) else (some 0)))))))))))
end Go.Proofs.Ythikbfhdebaceaa
