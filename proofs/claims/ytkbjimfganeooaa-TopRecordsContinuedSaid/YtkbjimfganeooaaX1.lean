import Derived.Test.YtkbjimfganeooaaAb49
import Derived.Test.YtkbjimfganeooaaProg
import Derived.KernelRfl
namespace Go.Proofs.Ytkbjimfganeooaa
open Go Go.Ab

set_option maxHeartbeats 1000000
set_option linter.unusedSimpArgs false
set_option linter.unusedVariables false
structure RecordEntry where
  fKind : Int
  fData : (List UInt8)
def eRecordEntry (x : RecordEntry) : AV := .agg [.int .i64 x.fKind, .str x.fData]
instance : IsFlat eRecordEntry := ⟨fun _ => rfl⟩
instance : IsEnc 2 eRecordEntry := ⟨fun _ => rfl, fun _ => rfl, fun _ => rfl⟩
structure Arr2_23 where
  fE0 : Int
  fE1 : Int
def eArr2_23 (x : Arr2_23) : AV := .agg [.int .u8 x.fE0, .int .u8 x.fE1]
instance : IsFlat eArr2_23 := ⟨fun _ => rfl⟩
instance : IsEnc 2 eArr2_23 := ⟨fun _ => rfl, fun _ => rfl, fun _ => rfl⟩
structure RecordReader where
  fS : (List UInt8)
  fAt : Int
def eRecordReader (x : RecordReader) : AV := .agg [.str x.fS, .int .i64 x.fAt]
instance : IsFlat eRecordReader := ⟨fun _ => rfl⟩
instance : IsEnc 2 eRecordReader := ⟨fun _ => rfl, fun _ => rfl, fun _ => rfl⟩
structure ApiToken where
  fKind : Int
  fText : (List UInt8)
  fAt : Int
def eApiToken (x : ApiToken) : AV := .agg [.int .i64 x.fKind, .str x.fText, .int .i64 x.fAt]
instance : IsFlat eApiToken := ⟨fun _ => rfl⟩
instance : IsEnc 3 eApiToken := ⟨fun _ => rfl, fun _ => rfl, fun _ => rfl⟩
structure LexerReader where
  fS : (List UInt8)
  fAt : Int
def eLexerReader (x : LexerReader) : AV := .agg [.str x.fS, .int .i64 x.fAt]
instance : IsFlat eLexerReader := ⟨fun _ => rfl⟩
instance : IsEnc 2 eLexerReader := ⟨fun _ => rfl, fun _ => rfl, fun _ => rfl⟩
def c21_0 : C := .seq (.reg [iI 3 (.faddr 0 (.t 1)), iI 4 (.load 0 (.t 3)), iI 5 (.bin .lss (.t 4) (.c (.int .i64 0))), iI 6 (.mv (.t 5)), iG (some 7) 6 false (.faddr 0 (.t 1)), iG (some 8) 6 false (.load 0 (.t 7)), iG (some 9) 6 false (.bin .gtr (.t 8) (.c (.int .i64 255))), iI 10 (.pick (.t 6) (.c (.bool true)) (.t 9)), iI 11 (.mv (.t 10)), iG (some 12) 11 false (.faddr 1 (.t 1)), iG (some 13) 11 false (.load 0 (.t 12)), iG (some 14) 11 false (.len 1 (.t 13)), iG (some 15) 11 false (.bin .gtr (.t 14) (.c (.int .i64 300))), iI 16 (.pick (.t 11) (.c (.bool true)) (.t 15)), iI 2 (.mv (.t 16))]) .ret
def ir21 : C := .seq (.reg [iI 1 (.box (.t 0)), iI 2 (.mv (.c (.bool false)))]) c21_0
theorem fd21 : fd? Try.prog 21 = some (17, [.slot 2], ir21) := by kernel_rfl
noncomputable def f21 (x_8 : RecordEntry) : Option (Bool) :=
  (if (decide (x_8.fKind < 0)) = true then (some true) else (if (decide (255 < x_8.fKind)) = true then (some true) else (some (decide (300 < ((x_8.fData.length : Nat) : Int))))))
theorem f21_ok {x_8 : RecordEntry} {r_ : Bool} (H : f21 x_8 = some r_) : Pure Try.prog 21 [.agg [.int .i64 x_8.fKind, .str x_8.fData]] (· = .bool r_) := by
  refine Pure.walk3 fd21 none (Nat.le_of_ble_eq_true rfl) (by rfl) fun Q hQ => ?_
  simp only [f21] at H
  refine AW.rseq ?_
  try simp only [↓wk, ↓wl, nc, evV, wrapBits_eq, ↓reduceIte, Nat.reduceEqDiff, Nat.reduceAdd, Nat.reduceSub, Nat.reduceLeDiff, Nat.reduceLT, Nat.reduceBEq, reduceCtorEq, Int.reduceEq]
  refine AW.rseq ?_
  try simp only [↓wk, ↓wl, nc, evV, wrapBits_eq, ↓reduceIte, Nat.reduceEqDiff, Nat.reduceAdd, Nat.reduceSub, Nat.reduceLeDiff, Nat.reduceLT, Nat.reduceBEq, reduceCtorEq, Int.reduceEq]
  refine evTs_ifg H (by rfl) ?_ ?_ <;> clear H <;> intro H
  · try simp only [↓wk, ↓wl, nc, evV, wrapBits_eq, ↓reduceIte, Nat.reduceEqDiff, Nat.reduceAdd, Nat.reduceSub, Nat.reduceLeDiff, Nat.reduceLT, Nat.reduceBEq, reduceCtorEq, Int.reduceEq]
    refine AW.ret ?_
    cases H
    exact hQ _ _ _ _ (.inr rfl) (by simp only [resVs, omap, resV, ↓wk, ↓wl, nc, evV, wrapBits_eq, ↓reduceIte, Nat.reduceEqDiff, Nat.reduceAdd, Nat.reduceSub, Nat.reduceLeDiff, Nat.reduceLT, Nat.reduceBEq, reduceCtorEq, Int.reduceEq]; rfl) (hand_plain (by rfl)) (by first | exact Or.inl rfl | exact Or.inr rfl)
  · try simp only [↓wk, ↓wl, nc, evV, wrapBits_eq, ↓reduceIte, Nat.reduceEqDiff, Nat.reduceAdd, Nat.reduceSub, Nat.reduceLeDiff, Nat.reduceLT, Nat.reduceBEq, reduceCtorEq, Int.reduceEq]
    refine evTs_ifg H (by rfl) ?_ ?_ <;> clear H <;> intro H
    · try simp only [↓wk, ↓wl, nc, evV, wrapBits_eq, ↓reduceIte, Nat.reduceEqDiff, Nat.reduceAdd, Nat.reduceSub, Nat.reduceLeDiff, Nat.reduceLT, Nat.reduceBEq, reduceCtorEq, Int.reduceEq]
      refine AW.ret ?_
      cases H
      exact hQ _ _ _ _ (.inr rfl) (by simp only [resVs, omap, resV, ↓wk, ↓wl, nc, evV, wrapBits_eq, ↓reduceIte, Nat.reduceEqDiff, Nat.reduceAdd, Nat.reduceSub, Nat.reduceLeDiff, Nat.reduceLT, Nat.reduceBEq, reduceCtorEq, Int.reduceEq]; rfl) (hand_plain (by rfl)) (by first | exact Or.inl rfl | exact Or.inr rfl)
    · try simp only [↓wk, ↓wl, nc, evV, wrapBits_eq, ↓reduceIte, Nat.reduceEqDiff, Nat.reduceAdd, Nat.reduceSub, Nat.reduceLeDiff, Nat.reduceLT, Nat.reduceBEq, reduceCtorEq, Int.reduceEq]
      refine AW.ret ?_
      cases H
      exact hQ _ _ _ _ (.inr rfl) (by simp only [resVs, omap, resV, ↓wk, ↓wl, nc, evV, wrapBits_eq, ↓reduceIte, Nat.reduceEqDiff, Nat.reduceAdd, Nat.reduceSub, Nat.reduceLeDiff, Nat.reduceLT, Nat.reduceBEq, reduceCtorEq, Int.reduceEq]; rfl) (hand_plain (by rfl)) (by first | exact Or.inl rfl | exact Or.inr rfl)
noncomputable def f34_21_L1 (s_6 : (List RecordEntry)) : Lp (Int) ((Unit) ⊕ (Int)) where
  body := fun v_13 => (if (decide (v_13 < ((s_6.length : Nat) : Int))) = true then (at? s_6 v_13).bind fun x_17 => (f21 x_17).bind fun r_18 => (if r_18 = true then (some (.brk (Sum.inr v_13))) else (some (.next (IntKind.i64.wrap (v_13 + 1))))) else (some (.brk (Sum.inl ()))))
  cst := fun v_13 => ⟨put (put (put (put (fun _ => .junk) 8 (.int .i64 v_13)) 7 (.int .i64 ((s_6.length : Nat) : Int))) 1 (.fn 21 [])) 0 (.sl 2 false (s_6.map eRecordEntry)), []⟩
def c34_0 : C := .cond (.t 16) (.seq (.reg [iI 17 (.mv (.t 5)), iI 4 (.mv (.t 17))]) .ret) (.skip)
def c34_1 : C := .seq (.reg [iI 11 (.mv (.t 1)), iI 12 (.mv (.t 0)), iI 13 (.mv (.t 5)), iI 14 (.iaddr 2 (.t 12) (.t 13)), iI 15 (.load 2 (.t 14)), iI 16 (.call (.t 11) [(.t 15)])]) c34_0
def c34_2 : C := .reg [iI 18 (.bin .add (.t 8) (.c (.int .i64 1))), iI 8 (.mv (.t 18))]
def c34_3 : C := .seq (.block 1 (.seq (.reg [iI 10 (.mv (.t 8)), iI 5 (.mv (.t 10))]) c34_1)) c34_2
def c34_4 : C := .seq (.cond (.t 9) (.skip) (.exit 0)) c34_3
def c34_5 : C := .block 0 (.loop (.seq (.reg [iI 9 (.bin .lss (.t 8) (.t 7))]) c34_4))
def c34_6 : C := .seq (.reg [iI 4 (.mv (.c (.int .i64 (-1))))]) .ret
def c34_7 : C := .seq (.seq (.reg [iI 6 (.mv (.t 0)), iI 7 (.len 0 (.t 6)), iI 8 (.mv (.c (.int .i64 0)))]) c34_5) c34_6
def ir34 : C := .seq (.reg [iI 4 (.mv (.c (.int .i64 0)))]) c34_7
theorem fd34 : fd? Try.prog 34 = some (19, [.slot 4], ir34) := by kernel_rfl
noncomputable def f34_21 (s_6 : (List RecordEntry)) : Option (Int) :=
  ((Lp.run (f34_21_L1 s_6) 0).bind fun r_ => match r_ with | (Sum.inl _) => (some (-1)) | (Sum.inr v_16) => (some v_16))
theorem f34_21_ok {s_6 : (List RecordEntry)} {r_ : Int} (H : f34_21 s_6 = some r_) : Pure Try.prog 34 [.sl 2 false (s_6.map eRecordEntry), .fn 21 []] (· = .int .i64 r_) := by
  refine Pure.walk3 fd34 none (Nat.le_of_ble_eq_true rfl) (by rfl) fun Q hQ => ?_
  simp only [f34_21] at H
  refine AW.rseq ?_
  try simp only [↓wk, ↓wl, nc, evV, wrapBits_eq, ↓reduceIte, Nat.reduceEqDiff, Nat.reduceAdd, Nat.reduceSub, Nat.reduceLeDiff, Nat.reduceLT, Nat.reduceBEq, reduceCtorEq, Int.reduceEq]
  refine AW.sseq ?_
  refine AW.rseq ?_
  try simp only [↓wk, ↓wl, nc, evV, wrapBits_eq, ↓reduceIte, Nat.reduceEqDiff, Nat.reduceAdd, Nat.reduceSub, Nat.reduceLeDiff, Nat.reduceLT, Nat.reduceBEq, reduceCtorEq, Int.reduceEq]
  refine AW.bend ?_
  refine AW.iter H ((Le.none [] [0, 1, 7, 8] (by decide) (by simp only [f34_21_L1, List.length_set, Option.map_some, restrict_eq, renS_nil, renS_cons, renB_els, renB_cel, renB_dead, deep_eq, map_ren_enc, ren_agg', ren_tup', ren_fn', ren_int', ren_bool', ren_str', ren_sl', ren_pro', ren_nilp', ren_nilfn', ren_junk', ren_ptr', ren_row', ren_arow', ren_eptr', vm, List.idxOf?_cons, List.idxOf?_nil, beq_self_eq_true, Option.map_none, List.getD_cons_zero, List.getD_cons_succ, ↓wk, ↓wl, nc, evV, wrapBits_eq, ↓reduceIte, Nat.reduceEqDiff, Nat.reduceAdd, Nat.reduceSub, Nat.reduceLeDiff, Nat.reduceLT, Nat.reduceBEq, reduceCtorEq, Int.reduceEq] <;> rfl))) ?_ <;> clear H
  rintro v_13 x_ st0_ H hst_
  simp only [f34_21_L1] at H hst_
  subst hst_
  refine AW.rseq ?_
  try simp only [↓wk, ↓wl, nc, evV, wrapBits_eq, ↓reduceIte, Nat.reduceEqDiff, Nat.reduceAdd, Nat.reduceSub, Nat.reduceLeDiff, Nat.reduceLT, Nat.reduceBEq, reduceCtorEq, Int.reduceEq]
  refine AW.sseq ?_
  refine AW.ifc H (by rfl) ?_ ?_ <;> clear H <;> intro H
  · refine AW.skip ?_
    refine seqQ.norm ?_
    refine AW.bseq ?_
    refine AW.rseq ?_
    try simp only [↓wk, ↓wl, nc, evV, wrapBits_eq, ↓reduceIte, Nat.reduceEqDiff, Nat.reduceAdd, Nat.reduceSub, Nat.reduceLeDiff, Nat.reduceLT, Nat.reduceBEq, reduceCtorEq, Int.reduceEq]
    refine AW.rseq ?_
    try simp only [↓wk, ↓wl, nc, evV, wrapBits_eq, ↓reduceIte, Nat.reduceEqDiff, Nat.reduceAdd, Nat.reduceSub, Nat.reduceLeDiff, Nat.reduceLT, Nat.reduceBEq, reduceCtorEq, Int.reduceEq]
    refine evTs_at (enc := eRecordEntry) H (by rfl) (by rfl) ?_ <;> clear H <;> intro x_17 H
    try simp only [eRecordEntry, eL, ↓wk, ↓wl, nc, evV, wrapBits_eq, ↓reduceIte, Nat.reduceEqDiff, Nat.reduceAdd, Nat.reduceSub, Nat.reduceLeDiff, Nat.reduceLT, Nat.reduceBEq, reduceCtorEq, Int.reduceEq]
    refine evTs_pure hFn H (fun _ h => f21_ok h) (by rfl) (by rfl) (by rfl) (by rfl) (fun _ => rfl) ?_ <;> clear H <;> intro r_18 H
    try simp only [eL, ↓wk, ↓wl, nc, evV, wrapBits_eq, ↓reduceIte, Nat.reduceEqDiff, Nat.reduceAdd, Nat.reduceSub, Nat.reduceLeDiff, Nat.reduceLT, Nat.reduceBEq, reduceCtorEq, Int.reduceEq]
    refine AW.ifc H (by rfl) ?_ ?_ <;> clear H <;> intro H
    · refine AW.rseq ?_
      try simp only [↓wk, ↓wl, nc, evV, wrapBits_eq, ↓reduceIte, Nat.reduceEqDiff, Nat.reduceAdd, Nat.reduceSub, Nat.reduceLeDiff, Nat.reduceLT, Nat.reduceBEq, reduceCtorEq, Int.reduceEq]
      refine AW.ret ?_
      refine blkQ.ret ?_
      refine loopQ.ret H ?_ <;> clear H <;> intro H
      try dsimp only at H
      refine blk0.ret ?_
      refine seqQ.ret ?_
      cases H
      exact hQ _ _ _ _ (.inr rfl) (by simp only [resVs, omap, resV, ↓wk, ↓wl, nc, evV, wrapBits_eq, ↓reduceIte, Nat.reduceEqDiff, Nat.reduceAdd, Nat.reduceSub, Nat.reduceLeDiff, Nat.reduceLT, Nat.reduceBEq, reduceCtorEq, Int.reduceEq]; rfl) (hand_plain (by rfl)) (by first | exact Or.inl rfl | exact Or.inr rfl)
    · refine AW.skip ?_
      refine blkQ.norm ?_
      refine AW.rend ?_
      try simp only [↓wk, ↓wl, nc, evV, wrapBits_eq, ↓reduceIte, Nat.reduceEqDiff, Nat.reduceAdd, Nat.reduceSub, Nat.reduceLeDiff, Nat.reduceLT, Nat.reduceBEq, reduceCtorEq, Int.reduceEq]
      exact loopQ.next H ((Le.none [] [0, 1, 7, 8] (by decide) (by simp only [f34_21_L1, List.length_set, Option.map_some, restrict_eq, renS_nil, renS_cons, renB_els, renB_cel, renB_dead, deep_eq, map_ren_enc, ren_agg', ren_tup', ren_fn', ren_int', ren_bool', ren_str', ren_sl', ren_pro', ren_nilp', ren_nilfn', ren_junk', ren_ptr', ren_row', ren_arow', ren_eptr', vm, List.idxOf?_cons, List.idxOf?_nil, beq_self_eq_true, Option.map_none, List.getD_cons_zero, List.getD_cons_succ, ↓wk, ↓wl, nc, evV, wrapBits_eq, ↓reduceIte, Nat.reduceEqDiff, Nat.reduceAdd, Nat.reduceSub, Nat.reduceLeDiff, Nat.reduceLT, Nat.reduceBEq, reduceCtorEq, Int.reduceEq] <;> rfl)))
  · refine AW.exit ?_
    refine seqQ.exit ?_
    refine loopQ.exit H ?_ <;> clear H <;> intro H
    try dsimp only at H
    refine blk0.here ?_
    refine seqQ.norm ?_
    refine AW.rseq ?_
    try simp only [↓wk, ↓wl, nc, evV, wrapBits_eq, ↓reduceIte, Nat.reduceEqDiff, Nat.reduceAdd, Nat.reduceSub, Nat.reduceLeDiff, Nat.reduceLT, Nat.reduceBEq, reduceCtorEq, Int.reduceEq]
    refine AW.ret ?_
    cases H
    exact hQ _ _ _ _ (.inr rfl) (by simp only [resVs, omap, resV, ↓wk, ↓wl, nc, evV, wrapBits_eq, ↓reduceIte, Nat.reduceEqDiff, Nat.reduceAdd, Nat.reduceSub, Nat.reduceLeDiff, Nat.reduceLT, Nat.reduceBEq, reduceCtorEq, Int.reduceEq]; rfl) (hand_plain (by rfl)) (by first | exact Or.inl rfl | exact Or.inr rfl)
def c20_0 : C := .seq (.reg [iI 5 (.mv (.t 0)), iI 6 (.mv (.t 1)), iI 7 (.call (.c (.fn 34 [])) [(.t 5), (.t 6)]), iI 8 (.bin .geq (.t 7) (.c (.int .i64 0))), iI 4 (.mv (.t 8))]) .ret
def ir20 : C := .seq (.reg [iI 4 (.mv (.c (.bool false)))]) c20_0
theorem fd20 : fd? Try.prog 20 = some (9, [.slot 4], ir20) := by kernel_rfl
noncomputable def f20_21 (s_5 : (List RecordEntry)) : Option (Bool) :=
  (f34_21 s_5).bind fun r_19 => (some (decide (0 ≤ r_19)))
theorem f20_21_ok {s_5 : (List RecordEntry)} {r_ : Bool} (H : f20_21 s_5 = some r_) : Pure Try.prog 20 [.sl 2 false (s_5.map eRecordEntry), .fn 21 []] (· = .bool r_) := by
  refine Pure.walk3 fd20 none (Nat.le_of_ble_eq_true rfl) (by rfl) fun Q hQ => ?_
  simp only [f20_21] at H
  refine AW.rseq ?_
  try simp only [↓wk, ↓wl, nc, evV, wrapBits_eq, ↓reduceIte, Nat.reduceEqDiff, Nat.reduceAdd, Nat.reduceSub, Nat.reduceLeDiff, Nat.reduceLT, Nat.reduceBEq, reduceCtorEq, Int.reduceEq]
  refine AW.rseq ?_
  try simp only [↓wk, ↓wl, nc, evV, wrapBits_eq, ↓reduceIte, Nat.reduceEqDiff, Nat.reduceAdd, Nat.reduceSub, Nat.reduceLeDiff, Nat.reduceLT, Nat.reduceBEq, reduceCtorEq, Int.reduceEq]
  refine evTs_pure hFn H (fun _ h => f34_21_ok h) (by rfl) (by rfl) (by rfl) (by rfl) (fun _ => rfl) ?_ <;> clear H <;> intro r_19 H
  try simp only [eL, ↓wk, ↓wl, nc, evV, wrapBits_eq, ↓reduceIte, Nat.reduceEqDiff, Nat.reduceAdd, Nat.reduceSub, Nat.reduceLeDiff, Nat.reduceLT, Nat.reduceBEq, reduceCtorEq, Int.reduceEq]
  refine AW.ret ?_
  cases H
  exact hQ _ _ _ _ (.inr rfl) (by simp only [resVs, omap, resV, ↓wk, ↓wl, nc, evV, wrapBits_eq, ↓reduceIte, Nat.reduceEqDiff, Nat.reduceAdd, Nat.reduceSub, Nat.reduceLeDiff, Nat.reduceLT, Nat.reduceBEq, reduceCtorEq, Int.reduceEq]; rfl) (hand_plain (by rfl)) (by first | exact Or.inl rfl | exact Or.inr rfl)
def c6_0 : C := .seq (.reg [iI 3 (.mv (.t 0)), iI 4 (.len 0 (.t 3)), iI 5 (.bin .leq (.t 4) (.c (.int .i64 20))), iI 6 (.mv (.t 5)), iG (some 7) 6 true (.mv (.t 0)), iG (some 8) 6 true (.call (.c (.fn 20 [])) [(.t 7), (.c (.fn 21 []))]), iG (some 9) 6 true (.un .not (.t 8)), iI 10 (.pick (.t 6) (.t 9) (.c (.bool false))), iI 2 (.mv (.t 10))]) .ret
def ir6 : C := .seq (.reg [iI 2 (.mv (.c (.bool false)))]) c6_0
theorem fd6 : fd? Try.prog 6 = some (11, [.slot 2], ir6) := by kernel_rfl
noncomputable def f6 (l_4 : (List RecordEntry)) : Option (Bool) :=
  (if (decide (((l_4.length : Nat) : Int) ≤ 20)) = true then (f20_21 l_4).bind fun r_20 => (some (!r_20)) else (some false))
theorem f6_ok {l_4 : (List RecordEntry)} {r_ : Bool} (H : f6 l_4 = some r_) : Pure Try.prog 6 [.sl 2 false (l_4.map eRecordEntry)] (· = .bool r_) := by
  refine Pure.walk3 fd6 none (Nat.le_of_ble_eq_true rfl) (by rfl) fun Q hQ => ?_
  simp only [f6] at H
  refine AW.rseq ?_
  try simp only [↓wk, ↓wl, nc, evV, wrapBits_eq, ↓reduceIte, Nat.reduceEqDiff, Nat.reduceAdd, Nat.reduceSub, Nat.reduceLeDiff, Nat.reduceLT, Nat.reduceBEq, reduceCtorEq, Int.reduceEq]
  refine AW.rseq ?_
  try simp only [↓wk, ↓wl, nc, evV, wrapBits_eq, ↓reduceIte, Nat.reduceEqDiff, Nat.reduceAdd, Nat.reduceSub, Nat.reduceLeDiff, Nat.reduceLT, Nat.reduceBEq, reduceCtorEq, Int.reduceEq]
  refine evTs_ifg H (by rfl) ?_ ?_ <;> clear H <;> intro H
  · try simp only [↓wk, ↓wl, nc, evV, wrapBits_eq, ↓reduceIte, Nat.reduceEqDiff, Nat.reduceAdd, Nat.reduceSub, Nat.reduceLeDiff, Nat.reduceLT, Nat.reduceBEq, reduceCtorEq, Int.reduceEq]
    refine evTs_pure hFn H (fun _ h => f20_21_ok h) (by rfl) (by rfl) (by rfl) (by rfl) (fun _ => rfl) ?_ <;> clear H <;> intro r_20 H
    try simp only [eL, ↓wk, ↓wl, nc, evV, wrapBits_eq, ↓reduceIte, Nat.reduceEqDiff, Nat.reduceAdd, Nat.reduceSub, Nat.reduceLeDiff, Nat.reduceLT, Nat.reduceBEq, reduceCtorEq, Int.reduceEq]
    refine AW.ret ?_
    cases H
    exact hQ _ _ _ _ (.inr rfl) (by simp only [resVs, omap, resV, ↓wk, ↓wl, nc, evV, wrapBits_eq, ↓reduceIte, Nat.reduceEqDiff, Nat.reduceAdd, Nat.reduceSub, Nat.reduceLeDiff, Nat.reduceLT, Nat.reduceBEq, reduceCtorEq, Int.reduceEq]; rfl) (hand_plain (by rfl)) (by first | exact Or.inl rfl | exact Or.inr rfl)
  · try simp only [↓wk, ↓wl, nc, evV, wrapBits_eq, ↓reduceIte, Nat.reduceEqDiff, Nat.reduceAdd, Nat.reduceSub, Nat.reduceLeDiff, Nat.reduceLT, Nat.reduceBEq, reduceCtorEq, Int.reduceEq]
    refine AW.ret ?_
    cases H
    exact hQ _ _ _ _ (.inr rfl) (by simp only [resVs, omap, resV, ↓wk, ↓wl, nc, evV, wrapBits_eq, ↓reduceIte, Nat.reduceEqDiff, Nat.reduceAdd, Nat.reduceSub, Nat.reduceLeDiff, Nat.reduceLT, Nat.reduceBEq, reduceCtorEq, Int.reduceEq]; rfl) (hand_plain (by rfl)) (by first | exact Or.inl rfl | exact Or.inr rfl)
def c28_0 : C := .seq (.reg [iI 3 (.mv (.t 0)), iI 4 (.bin .shr (.t 3) (.c (.int .u64 8))), iI 5 (.cint .u8 (.t 4)), iI 6 (.mv (.t 0)), iI 7 (.cint .u8 (.t 6)), iI 8 (.mkslp 0 2 (.int .u8 0) [(0, (.t 5)), (1, (.t 7))]), iI 9 (.cstr (.t 8)), iI 2 (.mv (.t 9))]) .ret
def ir28 : C := .seq (.reg [iI 2 (.mv (.c (.str [])))]) c28_0
theorem fd28 : fd? Try.prog 28 = some (10, [.slot 2], ir28) := by kernel_rfl
noncomputable def f28 (n_23 : Int) : Option ((List UInt8)) :=
  (some (([(IntKind.u8.wrap (Int.fdiv n_23 (2 ^ (min (Int.toNat 8) (IntKind.bits .i64))))), (IntKind.u8.wrap n_23)]).map b8))
theorem f28_ok {n_23 : Int} {r_ : (List UInt8)} (H : f28 n_23 = some r_) : Pure Try.prog 28 [.int .i64 n_23] (· = .str r_) := by
  refine Pure.walk3 fd28 none (Nat.le_of_ble_eq_true rfl) (by rfl) fun Q hQ => ?_
  simp only [f28] at H
  refine AW.rseq ?_
  try simp only [↓wk, ↓wl, nc, evV, wrapBits_eq, ↓reduceIte, Nat.reduceEqDiff, Nat.reduceAdd, Nat.reduceSub, Nat.reduceLeDiff, Nat.reduceLT, Nat.reduceBEq, reduceCtorEq, Int.reduceEq]
  refine AW.rseq ?_
  try simp only [↓wk, ↓wl, nc, evV, wrapBits_eq, ↓reduceIte, Nat.reduceEqDiff, Nat.reduceAdd, Nat.reduceSub, Nat.reduceLeDiff, Nat.reduceLT, Nat.reduceBEq, reduceCtorEq, Int.reduceEq]
  refine rest_shr (by decide) ?_
  try simp only [↓wk, ↓wl, nc, evV, wrapBits_eq, ↓reduceIte, Nat.reduceEqDiff, Nat.reduceAdd, Nat.reduceSub, Nat.reduceLeDiff, Nat.reduceLT, Nat.reduceBEq, reduceCtorEq, Int.reduceEq]
  refine evTs_cstr (xs := [(IntKind.u8.wrap (Int.fdiv n_23 (2 ^ (min (Int.toNat 8) (IntKind.bits .i64))))), (IntKind.u8.wrap n_23)]) (by rfl) ?_
  try simp only [↓wk, ↓wl, nc, evV, wrapBits_eq, ↓reduceIte, Nat.reduceEqDiff, Nat.reduceAdd, Nat.reduceSub, Nat.reduceLeDiff, Nat.reduceLT, Nat.reduceBEq, reduceCtorEq, Int.reduceEq]
  refine AW.ret ?_
  cases H
  exact hQ _ _ _ _ (.inr rfl) (by simp only [resVs, omap, resV, ↓wk, ↓wl, nc, evV, wrapBits_eq, ↓reduceIte, Nat.reduceEqDiff, Nat.reduceAdd, Nat.reduceSub, Nat.reduceLeDiff, Nat.reduceLT, Nat.reduceBEq, reduceCtorEq, Int.reduceEq]; rfl) (hand_plain (by rfl)) (by first | exact Or.inl rfl | exact Or.inr rfl)
noncomputable def f29_L1 (s_27 : (List UInt8)) : Lp (Int × Int × Int) (Int × Int) where
  body := fun (a_33, b_34, v_35) => (if (decide (v_35 < ((s_27.length : Nat) : Int))) = true then (at? s_27 v_35).bind fun b_39 => (some (.next (((IntKind.u64.wrap (a_33 + (IntKind.u64.wrap (b_39.toNat : Int)))).tmod 255), ((IntKind.u64.wrap (b_34 + ((IntKind.u64.wrap (a_33 + (IntKind.u64.wrap (b_39.toNat : Int)))).tmod 255))).tmod 255), (IntKind.i64.wrap (v_35 + 1))))) else (some (.brk (a_33, b_34))))
  cst := fun (a_33, b_34, v_35) => ⟨put (put (put (put (put (fun _ => .junk) 8 (.int .i64 v_35)) 7 (.int .i64 ((s_27.length : Nat) : Int))) 4 (.int .u64 b_34)) 3 (.int .u64 a_33)) 0 (.str s_27), []⟩
def c29_0 : C := .reg [iI 18 (.mv (.t 4)), iI 19 (.mv (.t 3)), iI 20 (.bin .add (.t 18) (.t 19)), iI 21 (.bin .rem (.t 20) (.c (.int .u64 255))), iI 4 (.mv (.t 21))]
def c29_1 : C := .seq (.reg [iI 11 (.mv (.t 3)), iI 12 (.mv (.t 0)), iI 13 (.mv (.t 5)), iI 14 (.sidx (.t 12) (.t 13)), iI 15 (.cint .u64 (.t 14)), iI 16 (.bin .add (.t 11) (.t 15)), iI 17 (.bin .rem (.t 16) (.c (.int .u64 255))), iI 3 (.mv (.t 17))]) c29_0
def c29_2 : C := .reg [iI 22 (.bin .add (.t 8) (.c (.int .i64 1))), iI 8 (.mv (.t 22))]
def c29_3 : C := .seq (.block 1 (.seq (.reg [iI 10 (.mv (.t 8)), iI 5 (.mv (.t 10))]) c29_1)) c29_2
def c29_4 : C := .seq (.cond (.t 9) (.skip) (.exit 0)) c29_3
def c29_5 : C := .block 0 (.loop (.seq (.reg [iI 9 (.bin .lss (.t 8) (.t 7))]) c29_4))
def c29_6 : C := .seq (.reg [iI 23 (.mv (.t 4)), iI 24 (.bin .shl (.t 23) (.c (.int .u64 8))), iI 25 (.mv (.t 3)), iI 26 (.bin .or (.t 24) (.t 25)), iI 27 (.cint .i64 (.t 26)), iI 2 (.mv (.t 27))]) .ret
def c29_7 : C := .seq (.seq (.reg [iI 6 (.mv (.t 0)), iI 7 (.len 1 (.t 6)), iI 8 (.mv (.c (.int .i64 0)))]) c29_5) c29_6
def c29_8 : C := .seq (.reg [iI 3 (.mv (.c (.int .u64 0))), iI 4 (.mv (.c (.int .u64 0)))]) c29_7
def ir29 : C := .seq (.reg [iI 2 (.mv (.c (.int .i64 0)))]) c29_8
theorem fd29 : fd? Try.prog 29 = some (28, [.slot 2], ir29) := by kernel_rfl
noncomputable def f29 (s_27 : (List UInt8)) : Option (Int) :=
  (Lp.run (f29_L1 s_27) (0, 0, 0)).bind fun (a_37, b_38) => (some (IntKind.i64.wrap (IntKind.u64.wrap ((BitVec.ofInt (IntKind.bits .u64) (IntKind.u64.wrap (b_38 * 2 ^ (min (Int.toNat 8) (IntKind.bits .u64)))) ||| BitVec.ofInt (IntKind.bits .u64) a_37).toNat : Int))))
theorem f29_ok {s_27 : (List UInt8)} {r_ : Int} (H : f29 s_27 = some r_) : Pure Try.prog 29 [.str s_27] (· = .int .i64 r_) := by
  refine Pure.walk3 fd29 none (Nat.le_of_ble_eq_true rfl) (by rfl) fun Q hQ => ?_
  simp only [f29] at H
  refine AW.rseq ?_
  try simp only [↓wk, ↓wl, nc, evV, wrapBits_eq, ↓reduceIte, Nat.reduceEqDiff, Nat.reduceAdd, Nat.reduceSub, Nat.reduceLeDiff, Nat.reduceLT, Nat.reduceBEq, reduceCtorEq, Int.reduceEq]
  refine AW.rseq ?_
  try simp only [↓wk, ↓wl, nc, evV, wrapBits_eq, ↓reduceIte, Nat.reduceEqDiff, Nat.reduceAdd, Nat.reduceSub, Nat.reduceLeDiff, Nat.reduceLT, Nat.reduceBEq, reduceCtorEq, Int.reduceEq]
  refine AW.sseq ?_
  refine AW.rseq ?_
  try simp only [↓wk, ↓wl, nc, evV, wrapBits_eq, ↓reduceIte, Nat.reduceEqDiff, Nat.reduceAdd, Nat.reduceSub, Nat.reduceLeDiff, Nat.reduceLT, Nat.reduceBEq, reduceCtorEq, Int.reduceEq]
  refine AW.bend ?_
  refine AW.iter H ((Le.none [] [0, 3, 4, 7, 8] (by decide) (by simp only [f29_L1, List.length_set, Option.map_some, restrict_eq, renS_nil, renS_cons, renB_els, renB_cel, renB_dead, deep_eq, map_ren_enc, ren_agg', ren_tup', ren_fn', ren_int', ren_bool', ren_str', ren_sl', ren_pro', ren_nilp', ren_nilfn', ren_junk', ren_ptr', ren_row', ren_arow', ren_eptr', vm, List.idxOf?_cons, List.idxOf?_nil, beq_self_eq_true, Option.map_none, List.getD_cons_zero, List.getD_cons_succ, ↓wk, ↓wl, nc, evV, wrapBits_eq, ↓reduceIte, Nat.reduceEqDiff, Nat.reduceAdd, Nat.reduceSub, Nat.reduceLeDiff, Nat.reduceLT, Nat.reduceBEq, reduceCtorEq, Int.reduceEq] <;> rfl))) ?_ <;> clear H
  rintro ⟨a_33, b_34, v_35⟩ x_ st0_ H hst_
  simp only [f29_L1] at H hst_
  subst hst_
  refine AW.rseq ?_
  try simp only [↓wk, ↓wl, nc, evV, wrapBits_eq, ↓reduceIte, Nat.reduceEqDiff, Nat.reduceAdd, Nat.reduceSub, Nat.reduceLeDiff, Nat.reduceLT, Nat.reduceBEq, reduceCtorEq, Int.reduceEq]
  refine AW.sseq ?_
  refine AW.ifc H (by rfl) ?_ ?_ <;> clear H <;> intro H
  · refine AW.skip ?_
    refine seqQ.norm ?_
    refine AW.bseq ?_
    refine AW.rseq ?_
    try simp only [↓wk, ↓wl, nc, evV, wrapBits_eq, ↓reduceIte, Nat.reduceEqDiff, Nat.reduceAdd, Nat.reduceSub, Nat.reduceLeDiff, Nat.reduceLT, Nat.reduceBEq, reduceCtorEq, Int.reduceEq]
    refine AW.rseq ?_
    try simp only [↓wk, ↓wl, nc, evV, wrapBits_eq, ↓reduceIte, Nat.reduceEqDiff, Nat.reduceAdd, Nat.reduceSub, Nat.reduceLeDiff, Nat.reduceLT, Nat.reduceBEq, reduceCtorEq, Int.reduceEq]
    refine evTs_sat H (by rfl) (by rfl) ?_ <;> clear H <;> intro b_39 H
    try simp only [↓wk, ↓wl, nc, evV, wrapBits_eq, ↓reduceIte, Nat.reduceEqDiff, Nat.reduceAdd, Nat.reduceSub, Nat.reduceLeDiff, Nat.reduceLT, Nat.reduceBEq, reduceCtorEq, Int.reduceEq]
    refine AW.rend ?_
    try simp only [↓wk, ↓wl, nc, evV, wrapBits_eq, ↓reduceIte, Nat.reduceEqDiff, Nat.reduceAdd, Nat.reduceSub, Nat.reduceLeDiff, Nat.reduceLT, Nat.reduceBEq, reduceCtorEq, Int.reduceEq]
    refine blkQ.norm ?_
    refine AW.rend ?_
    try simp only [↓wk, ↓wl, nc, evV, wrapBits_eq, ↓reduceIte, Nat.reduceEqDiff, Nat.reduceAdd, Nat.reduceSub, Nat.reduceLeDiff, Nat.reduceLT, Nat.reduceBEq, reduceCtorEq, Int.reduceEq]
    exact loopQ.next H ((Le.none [] [0, 3, 4, 7, 8] (by decide) (by simp only [f29_L1, List.length_set, Option.map_some, restrict_eq, renS_nil, renS_cons, renB_els, renB_cel, renB_dead, deep_eq, map_ren_enc, ren_agg', ren_tup', ren_fn', ren_int', ren_bool', ren_str', ren_sl', ren_pro', ren_nilp', ren_nilfn', ren_junk', ren_ptr', ren_row', ren_arow', ren_eptr', vm, List.idxOf?_cons, List.idxOf?_nil, beq_self_eq_true, Option.map_none, List.getD_cons_zero, List.getD_cons_succ, ↓wk, ↓wl, nc, evV, wrapBits_eq, ↓reduceIte, Nat.reduceEqDiff, Nat.reduceAdd, Nat.reduceSub, Nat.reduceLeDiff, Nat.reduceLT, Nat.reduceBEq, reduceCtorEq, Int.reduceEq] <;> rfl)))
  · refine AW.exit ?_
    refine seqQ.exit ?_
    refine loopQ.exit H ?_ <;> clear H <;> intro H
    try dsimp only at H
    refine blk0.here ?_
    refine seqQ.norm ?_
    refine AW.rseq ?_
    try simp only [↓wk, ↓wl, nc, evV, wrapBits_eq, ↓reduceIte, Nat.reduceEqDiff, Nat.reduceAdd, Nat.reduceSub, Nat.reduceLeDiff, Nat.reduceLT, Nat.reduceBEq, reduceCtorEq, Int.reduceEq]
    refine rest_shl (by decide) ?_
    try simp only [↓wk, ↓wl, nc, evV, wrapBits_eq, ↓reduceIte, Nat.reduceEqDiff, Nat.reduceAdd, Nat.reduceSub, Nat.reduceLeDiff, Nat.reduceLT, Nat.reduceBEq, reduceCtorEq, Int.reduceEq]
    refine rest_or ?_
    try simp only [↓wk, ↓wl, nc, evV, wrapBits_eq, ↓reduceIte, Nat.reduceEqDiff, Nat.reduceAdd, Nat.reduceSub, Nat.reduceLeDiff, Nat.reduceLT, Nat.reduceBEq, reduceCtorEq, Int.reduceEq]
    refine AW.ret ?_
    cases H
    exact hQ _ _ _ _ (.inr rfl) (by simp only [resVs, omap, resV, ↓wk, ↓wl, nc, evV, wrapBits_eq, ↓reduceIte, Nat.reduceEqDiff, Nat.reduceAdd, Nat.reduceSub, Nat.reduceLeDiff, Nat.reduceLT, Nat.reduceBEq, reduceCtorEq, Int.reduceEq]; rfl) (hand_plain (by rfl)) (by first | exact Or.inl rfl | exact Or.inr rfl)
def c17_0 : C := .cond (.t 14) (.seq (.reg [iI 2 (.mv (.c (.str []))), iI 3 (.mv (.c (.int .i64 13)))]) .ret) (.skip)
def c17_1 : C := .cond (.t 5) (.seq (.reg [iI 2 (.mv (.c (.str []))), iI 3 (.mv (.c (.int .i64 2)))]) .ret) (.seq (.reg [iI 15 (.faddr 1 (.t 1)), iI 16 (.load 0 (.t 15)), iI 17 (.len 1 (.t 16)), iI 18 (.bin .gtr (.t 17) (.c (.int .i64 65535))), iI 14 (.mv (.t 18))]) c17_0)
def c17_2 : C := .seq (.reg [iI 32 (.mv (.t 4)), iI 33 (.mv (.t 4)), iI 34 (.call (.c (.fn 29 [])) [(.t 33)]), iI 35 (.call (.c (.fn 28 [])) [(.t 34)]), iI 36 (.bin .add (.t 32) (.t 35)), iI 2 (.mv (.t 36)), iI 3 (.mv (.c (.int .i64 0)))]) .ret
def c17_3 : C := .seq (.regq [iI 19 (.faddr 0 (.t 1)), iI 20 (.load 0 (.t 19)), iI 21 (.cint .u8 (.t 20)), iI 22 (.mkslp 0 1 (.int .u8 0) [(0, (.t 21))]), iI 23 (.cstr (.t 22)), iI 24 (.faddr 1 (.t 1)), iI 25 (.load 0 (.t 24)), iI 26 (.len 1 (.t 25)), iI 27 (.call (.c (.fn 28 [])) [(.t 26)]), iI 28 (.bin .add (.t 23) (.t 27)), iI 29 (.faddr 1 (.t 1)), iI 30 (.load 0 (.t 29)), iI 31 (.bin .add (.t 28) (.t 30)), iI 4 (.mv (.t 31))]) c17_2
def c17_4 : C := .seq (.block 0 (.seq (.reg [iI 6 (.faddr 0 (.t 1)), iI 7 (.load 0 (.t 6)), iI 8 (.bin .lss (.t 7) (.c (.int .i64 0))), iI 9 (.mv (.t 8)), iG (some 10) 9 false (.faddr 0 (.t 1)), iG (some 11) 9 false (.load 0 (.t 10)), iG (some 12) 9 false (.bin .gtr (.t 11) (.c (.int .i64 255))), iI 13 (.pick (.t 9) (.c (.bool true)) (.t 12)), iI 5 (.mv (.t 13))]) c17_1)) c17_3
def ir17 : C := .seq (.reg [iI 1 (.box (.t 0)), iI 2 (.mv (.c (.str []))), iI 3 (.mv (.c (.int .i64 0)))]) c17_4
theorem fd17 : fd? Try.prog 17 = some (37, [.slot 2, .slot 3], ir17) := by kernel_rfl
noncomputable def f17 (x_22 : RecordEntry) : Option ((List UInt8) × Int) :=
  (if (decide (x_22.fKind < 0)) = true then (some ([], 2)) else (if (decide (255 < x_22.fKind)) = true then (some ([], 2)) else (if (decide (65535 < ((x_22.fData.length : Nat) : Int))) = true then (some ([], 13)) else (f28 ((x_22.fData.length : Nat) : Int)).bind fun r_24 => (cat? (([(IntKind.u8.wrap x_22.fKind)]).map b8) r_24).bind fun v_25 => (cat? v_25 x_22.fData).bind fun v_26 => (f29 v_26).bind fun r_40 => (f28 r_40).bind fun r_41 => (cat? v_26 r_41).bind fun v_42 => (some (v_42, 0)))))
theorem f17_ok {x_22 : RecordEntry} {r_ : (List UInt8) × Int} (H : f17 x_22 = some r_) : Pure Try.prog 17 [.agg [.int .i64 x_22.fKind, .str x_22.fData]] (· = .tup [.str r_.1, .int .i64 r_.2]) := by
  refine Pure.walk3 fd17 none (Nat.le_of_ble_eq_true rfl) (by rfl) fun Q hQ => ?_
  simp only [f17] at H
  refine AW.rseq ?_
  try simp only [↓wk, ↓wl, nc, evV, wrapBits_eq, ↓reduceIte, Nat.reduceEqDiff, Nat.reduceAdd, Nat.reduceSub, Nat.reduceLeDiff, Nat.reduceLT, Nat.reduceBEq, reduceCtorEq, Int.reduceEq]
  refine AW.bseq ?_
  refine AW.rseq ?_
  try simp only [↓wk, ↓wl, nc, evV, wrapBits_eq, ↓reduceIte, Nat.reduceEqDiff, Nat.reduceAdd, Nat.reduceSub, Nat.reduceLeDiff, Nat.reduceLT, Nat.reduceBEq, reduceCtorEq, Int.reduceEq]
  refine evTs_ifg H (by rfl) ?_ ?_ <;> clear H <;> intro H
  · try simp only [↓wk, ↓wl, nc, evV, wrapBits_eq, ↓reduceIte, Nat.reduceEqDiff, Nat.reduceAdd, Nat.reduceSub, Nat.reduceLeDiff, Nat.reduceLT, Nat.reduceBEq, reduceCtorEq, Int.reduceEq]
    refine AW.ift (by rfl) ?_
    refine AW.rseq ?_
    try simp only [↓wk, ↓wl, nc, evV, wrapBits_eq, ↓reduceIte, Nat.reduceEqDiff, Nat.reduceAdd, Nat.reduceSub, Nat.reduceLeDiff, Nat.reduceLT, Nat.reduceBEq, reduceCtorEq, Int.reduceEq]
    refine AW.ret ?_
    refine blkQ.ret ?_
    cases H
    exact hQ _ _ _ _ (.inr rfl) (by simp only [resVs, omap, resV, ↓wk, ↓wl, nc, evV, wrapBits_eq, ↓reduceIte, Nat.reduceEqDiff, Nat.reduceAdd, Nat.reduceSub, Nat.reduceLeDiff, Nat.reduceLT, Nat.reduceBEq, reduceCtorEq, Int.reduceEq]; rfl) (hand_plain (by rfl)) (by first | exact Or.inl rfl | exact Or.inr rfl)
  · try simp only [↓wk, ↓wl, nc, evV, wrapBits_eq, ↓reduceIte, Nat.reduceEqDiff, Nat.reduceAdd, Nat.reduceSub, Nat.reduceLeDiff, Nat.reduceLT, Nat.reduceBEq, reduceCtorEq, Int.reduceEq]
    refine AW.ifc H (by rfl) ?_ ?_ <;> clear H <;> intro H
    · refine AW.rseq ?_
      try simp only [↓wk, ↓wl, nc, evV, wrapBits_eq, ↓reduceIte, Nat.reduceEqDiff, Nat.reduceAdd, Nat.reduceSub, Nat.reduceLeDiff, Nat.reduceLT, Nat.reduceBEq, reduceCtorEq, Int.reduceEq]
      refine AW.ret ?_
      refine blkQ.ret ?_
      cases H
      exact hQ _ _ _ _ (.inr rfl) (by simp only [resVs, omap, resV, ↓wk, ↓wl, nc, evV, wrapBits_eq, ↓reduceIte, Nat.reduceEqDiff, Nat.reduceAdd, Nat.reduceSub, Nat.reduceLeDiff, Nat.reduceLT, Nat.reduceBEq, reduceCtorEq, Int.reduceEq]; rfl) (hand_plain (by rfl)) (by first | exact Or.inl rfl | exact Or.inr rfl)
    · refine AW.rseq ?_
      try simp only [↓wk, ↓wl, nc, evV, wrapBits_eq, ↓reduceIte, Nat.reduceEqDiff, Nat.reduceAdd, Nat.reduceSub, Nat.reduceLeDiff, Nat.reduceLT, Nat.reduceBEq, reduceCtorEq, Int.reduceEq]
      refine AW.ifc H (by rfl) ?_ ?_ <;> clear H <;> intro H
      · refine AW.rseq ?_
        try simp only [↓wk, ↓wl, nc, evV, wrapBits_eq, ↓reduceIte, Nat.reduceEqDiff, Nat.reduceAdd, Nat.reduceSub, Nat.reduceLeDiff, Nat.reduceLT, Nat.reduceBEq, reduceCtorEq, Int.reduceEq]
        refine AW.ret ?_
        refine blkQ.ret ?_
        cases H
        exact hQ _ _ _ _ (.inr rfl) (by simp only [resVs, omap, resV, ↓wk, ↓wl, nc, evV, wrapBits_eq, ↓reduceIte, Nat.reduceEqDiff, Nat.reduceAdd, Nat.reduceSub, Nat.reduceLeDiff, Nat.reduceLT, Nat.reduceBEq, reduceCtorEq, Int.reduceEq]; rfl) (hand_plain (by rfl)) (by first | exact Or.inl rfl | exact Or.inr rfl)
      · refine AW.skip ?_
        refine blkQ.norm ?_
        refine AW.rqseq ?_
        try simp only [↓wk, ↓wl, nc, evV, wrapBits_eq, ↓reduceIte, Nat.reduceEqDiff, Nat.reduceAdd, Nat.reduceSub, Nat.reduceLeDiff, Nat.reduceLT, Nat.reduceBEq, reduceCtorEq, Int.reduceEq]
        refine evTs_cstr (xs := [(IntKind.u8.wrap x_22.fKind)]) (by rfl) ?_
        try simp only [↓wk, ↓wl, nc, evV, wrapBits_eq, ↓reduceIte, Nat.reduceEqDiff, Nat.reduceAdd, Nat.reduceSub, Nat.reduceLeDiff, Nat.reduceLT, Nat.reduceBEq, reduceCtorEq, Int.reduceEq]
        refine evTs_pure hFnq H (fun _ h => f28_ok h) (by rfl) (by rfl) (by rfl) (by rfl) (fun _ => rfl) ?_ <;> clear H <;> intro r_24 H
        try simp only [eL, ↓wk, ↓wl, nc, evV, wrapBits_eq, ↓reduceIte, Nat.reduceEqDiff, Nat.reduceAdd, Nat.reduceSub, Nat.reduceLeDiff, Nat.reduceLT, Nat.reduceBEq, reduceCtorEq, Int.reduceEq]
        refine rest_cat H ?_ <;> clear H <;> intro v_25 H
        try simp only [↓wk, ↓wl, nc, evV, wrapBits_eq, ↓reduceIte, Nat.reduceEqDiff, Nat.reduceAdd, Nat.reduceSub, Nat.reduceLeDiff, Nat.reduceLT, Nat.reduceBEq, reduceCtorEq, Int.reduceEq]
        refine rest_cat H ?_ <;> clear H <;> intro v_26 H
        try simp only [↓wk, ↓wl, nc, evV, wrapBits_eq, ↓reduceIte, Nat.reduceEqDiff, Nat.reduceAdd, Nat.reduceSub, Nat.reduceLeDiff, Nat.reduceLT, Nat.reduceBEq, reduceCtorEq, Int.reduceEq]
        refine AW.rseq ?_
        try simp only [↓wk, ↓wl, nc, evV, wrapBits_eq, ↓reduceIte, Nat.reduceEqDiff, Nat.reduceAdd, Nat.reduceSub, Nat.reduceLeDiff, Nat.reduceLT, Nat.reduceBEq, reduceCtorEq, Int.reduceEq]
        refine evTs_pure hFn H (fun _ h => f29_ok h) (by rfl) (by rfl) (by rfl) (by rfl) (fun _ => rfl) ?_ <;> clear H <;> intro r_40 H
        try simp only [eL, ↓wk, ↓wl, nc, evV, wrapBits_eq, ↓reduceIte, Nat.reduceEqDiff, Nat.reduceAdd, Nat.reduceSub, Nat.reduceLeDiff, Nat.reduceLT, Nat.reduceBEq, reduceCtorEq, Int.reduceEq]
        refine evTs_pure hFn H (fun _ h => f28_ok h) (by rfl) (by rfl) (by rfl) (by rfl) (fun _ => rfl) ?_ <;> clear H <;> intro r_41 H
        try simp only [eL, ↓wk, ↓wl, nc, evV, wrapBits_eq, ↓reduceIte, Nat.reduceEqDiff, Nat.reduceAdd, Nat.reduceSub, Nat.reduceLeDiff, Nat.reduceLT, Nat.reduceBEq, reduceCtorEq, Int.reduceEq]
        refine rest_cat H ?_ <;> clear H <;> intro v_42 H
        try simp only [↓wk, ↓wl, nc, evV, wrapBits_eq, ↓reduceIte, Nat.reduceEqDiff, Nat.reduceAdd, Nat.reduceSub, Nat.reduceLeDiff, Nat.reduceLT, Nat.reduceBEq, reduceCtorEq, Int.reduceEq]
        refine AW.ret ?_
        cases H
        exact hQ _ _ _ _ (.inr rfl) (by simp only [resVs, omap, resV, ↓wk, ↓wl, nc, evV, wrapBits_eq, ↓reduceIte, Nat.reduceEqDiff, Nat.reduceAdd, Nat.reduceSub, Nat.reduceLeDiff, Nat.reduceLT, Nat.reduceBEq, reduceCtorEq, Int.reduceEq]; rfl) (hand_plain (by rfl)) (by first | exact Or.inl rfl | exact Or.inr rfl)
def c30_0 : C := .cond (.t 19) (.seq (.reg [iI 2 (.mv (.c (.int .i64 2)))]) .ret) (.skip)
def c30_1 : C := .seq (.reg [iI 2 (.mv (.c (.int .i64 0)))]) .ret
def c30_2 : C := .seq (.seq (.reg [iI 3 (.mv (.t 0)), iI 4 (.nilchk (.t 3)), iI 5 (.faddr 1 (.t 4)), iI 6 (.load 0 (.t 5)), iI 7 (.bin .lss (.t 6) (.c (.int .i64 0))), iI 8 (.mv (.t 7)), iG (some 9) 8 false (.mv (.t 0)), iG (some 10) 8 false (.nilchk (.t 9)), iG (some 11) 8 false (.faddr 1 (.t 10)), iG (some 12) 8 false (.load 0 (.t 11)), iG (some 13) 8 false (.mv (.t 0)), iG (some 14) 8 false (.nilchk (.t 13)), iG (some 15) 8 false (.faddr 0 (.t 14)), iG (some 16) 8 false (.load 0 (.t 15)), iG (some 17) 8 false (.len 1 (.t 16)), iG (some 18) 8 false (.bin .gtr (.t 12) (.t 17)), iI 19 (.pick (.t 8) (.c (.bool true)) (.t 18))]) c30_0) c30_1
def ir30 : C := .seq (.reg [iI 2 (.mv (.c (.int .i64 0)))]) c30_2
theorem fd30 : fd? Try.prog 30 = some (20, [.slot 2], ir30) := by kernel_rfl
noncomputable def f30p (r_46 : (List UInt8)) (r_47 : Int) : Option (Int) :=
  (if (decide (r_47 < 0)) = true then (some 2) else (if (decide (((r_46.length : Nat) : Int) < r_47)) = true then (some 2) else (some 0)))
theorem f30p_ok {r_46 : (List UInt8)} {r_47 : Int} {r_ : Int} (H : f30p r_46 r_47 = some r_) : Pure Try.prog 30 [.pro [.str r_46, .int .i64 r_47]] (· = .int .i64 r_) := by
  refine Pure.walk3 fd30 none (Nat.le_of_ble_eq_true rfl) (by rfl) fun Q hQ => ?_
  simp only [f30p] at H
  refine AW.rseq ?_
  try simp only [↓wk, ↓wl, nc, evV, wrapBits_eq, ↓reduceIte, Nat.reduceEqDiff, Nat.reduceAdd, Nat.reduceSub, Nat.reduceLeDiff, Nat.reduceLT, Nat.reduceBEq, reduceCtorEq, Int.reduceEq]
  refine AW.sseq ?_
  refine AW.rseq ?_
  try simp only [↓wk, ↓wl, nc, evV, wrapBits_eq, ↓reduceIte, Nat.reduceEqDiff, Nat.reduceAdd, Nat.reduceSub, Nat.reduceLeDiff, Nat.reduceLT, Nat.reduceBEq, reduceCtorEq, Int.reduceEq]
  refine evTs_ifg H (by rfl) ?_ ?_ <;> clear H <;> intro H
  · try simp only [↓wk, ↓wl, nc, evV, wrapBits_eq, ↓reduceIte, Nat.reduceEqDiff, Nat.reduceAdd, Nat.reduceSub, Nat.reduceLeDiff, Nat.reduceLT, Nat.reduceBEq, reduceCtorEq, Int.reduceEq]
    refine AW.ift (by rfl) ?_
    refine AW.rseq ?_
    try simp only [↓wk, ↓wl, nc, evV, wrapBits_eq, ↓reduceIte, Nat.reduceEqDiff, Nat.reduceAdd, Nat.reduceSub, Nat.reduceLeDiff, Nat.reduceLT, Nat.reduceBEq, reduceCtorEq, Int.reduceEq]
    refine AW.ret ?_
    refine seqQ.ret ?_
    cases H
    exact hQ _ _ _ _ (.inr rfl) (by simp only [resVs, omap, resV, ↓wk, ↓wl, nc, evV, wrapBits_eq, ↓reduceIte, Nat.reduceEqDiff, Nat.reduceAdd, Nat.reduceSub, Nat.reduceLeDiff, Nat.reduceLT, Nat.reduceBEq, reduceCtorEq, Int.reduceEq]; rfl) (hand_plain (by rfl)) (by first | exact Or.inl rfl | exact Or.inr rfl)
  · try simp only [↓wk, ↓wl, nc, evV, wrapBits_eq, ↓reduceIte, Nat.reduceEqDiff, Nat.reduceAdd, Nat.reduceSub, Nat.reduceLeDiff, Nat.reduceLT, Nat.reduceBEq, reduceCtorEq, Int.reduceEq]
    refine AW.ifc H (by rfl) ?_ ?_ <;> clear H <;> intro H
    · refine AW.rseq ?_
      try simp only [↓wk, ↓wl, nc, evV, wrapBits_eq, ↓reduceIte, Nat.reduceEqDiff, Nat.reduceAdd, Nat.reduceSub, Nat.reduceLeDiff, Nat.reduceLT, Nat.reduceBEq, reduceCtorEq, Int.reduceEq]
      refine AW.ret ?_
      refine seqQ.ret ?_
      cases H
      exact hQ _ _ _ _ (.inr rfl) (by simp only [resVs, omap, resV, ↓wk, ↓wl, nc, evV, wrapBits_eq, ↓reduceIte, Nat.reduceEqDiff, Nat.reduceAdd, Nat.reduceSub, Nat.reduceLeDiff, Nat.reduceLT, Nat.reduceBEq, reduceCtorEq, Int.reduceEq]; rfl) (hand_plain (by rfl)) (by first | exact Or.inl rfl | exact Or.inr rfl)
    · refine AW.skip ?_
      refine seqQ.norm ?_
      refine AW.rseq ?_
      try simp only [↓wk, ↓wl, nc, evV, wrapBits_eq, ↓reduceIte, Nat.reduceEqDiff, Nat.reduceAdd, Nat.reduceSub, Nat.reduceLeDiff, Nat.reduceLT, Nat.reduceBEq, reduceCtorEq, Int.reduceEq]
      refine AW.ret ?_
      cases H
      exact hQ _ _ _ _ (.inr rfl) (by simp only [resVs, omap, resV, ↓wk, ↓wl, nc, evV, wrapBits_eq, ↓reduceIte, Nat.reduceEqDiff, Nat.reduceAdd, Nat.reduceSub, Nat.reduceLeDiff, Nat.reduceLT, Nat.reduceBEq, reduceCtorEq, Int.reduceEq]; rfl) (hand_plain (by rfl)) (by first | exact Or.inl rfl | exact Or.inr rfl)
def c31_0 : C := .seq (.reg [iI 5 (.mv (.t 1)), iI 6 (.mv (.t 0)), iI 7 (.nilchk (.t 6)), iI 8 (.faddr 0 (.t 7)), iI 9 (.load 0 (.t 8)), iI 10 (.len 1 (.t 9)), iI 11 (.mv (.t 0)), iI 12 (.nilchk (.t 11)), iI 13 (.faddr 1 (.t 12)), iI 14 (.load 0 (.t 13)), iI 15 (.bin .sub (.t 10) (.t 14)), iI 16 (.bin .leq (.t 5) (.t 15)), iI 4 (.mv (.t 16))]) .ret
def ir31 : C := .seq (.reg [iI 4 (.mv (.c (.bool false)))]) c31_0
theorem fd31 : fd? Try.prog 31 = some (17, [.slot 4], ir31) := by kernel_rfl
noncomputable def f31p (r_50 : (List UInt8)) (r_51 : Int) (n_52 : Int) : Option (Bool) :=
  (some (decide (n_52 ≤ (IntKind.i64.wrap (((r_50.length : Nat) : Int) - r_51)))))
theorem f31p_ok {r_50 : (List UInt8)} {r_51 : Int} {n_52 : Int} {r_ : Bool} (H : f31p r_50 r_51 n_52 = some r_) : Pure Try.prog 31 [.pro [.str r_50, .int .i64 r_51], .int .i64 n_52] (· = .bool r_) := by
  refine Pure.walk3 fd31 none (Nat.le_of_ble_eq_true rfl) (by rfl) fun Q hQ => ?_
  simp only [f31p] at H
  refine AW.rseq ?_
  try simp only [↓wk, ↓wl, nc, evV, wrapBits_eq, ↓reduceIte, Nat.reduceEqDiff, Nat.reduceAdd, Nat.reduceSub, Nat.reduceLeDiff, Nat.reduceLT, Nat.reduceBEq, reduceCtorEq, Int.reduceEq]
  refine AW.rseq ?_
  try simp only [↓wk, ↓wl, nc, evV, wrapBits_eq, ↓reduceIte, Nat.reduceEqDiff, Nat.reduceAdd, Nat.reduceSub, Nat.reduceLeDiff, Nat.reduceLT, Nat.reduceBEq, reduceCtorEq, Int.reduceEq]
  refine AW.ret ?_
  cases H
  exact hQ _ _ _ _ (.inr rfl) (by simp only [resVs, omap, resV, ↓wk, ↓wl, nc, evV, wrapBits_eq, ↓reduceIte, Nat.reduceEqDiff, Nat.reduceAdd, Nat.reduceSub, Nat.reduceLeDiff, Nat.reduceLT, Nat.reduceBEq, reduceCtorEq, Int.reduceEq]; rfl) (hand_plain (by rfl)) (by first | exact Or.inl rfl | exact Or.inr rfl)
def c32_0 : C := .seq (.reg [iI 13 (.mv (.t 0)), iI 14 (.nilchk (.t 13)), iI 15 (.faddr 0 (.t 14)), iI 16 (.load 0 (.t 15)), iI 17 (.mv (.t 0)), iI 18 (.nilchk (.t 17)), iI 19 (.faddr 1 (.t 18)), iI 20 (.load 0 (.t 19)), iI 21 (.mv (.t 1)), iI 22 (.bin .sub (.t 20) (.t 21)), iI 23 (.mv (.t 0)), iI 24 (.nilchk (.t 23)), iI 25 (.faddr 1 (.t 24)), iI 26 (.load 0 (.t 25)), iI 27 (.sslice (.t 16) (some (.t 22)) (some (.t 26))), iI 4 (.mv (.t 27))]) .ret
def c32_1 : C := .seq (.reg [iI 5 (.mv (.t 0)), iI 6 (.nilchk (.t 5)), iI 7 (.faddr 1 (.t 6)), iI 8 (.load 0 (.t 7)), iI 9 (.mv (.t 1)), iI 10 (.bin .add (.t 8) (.t 9)), iI 11 (.nilchk (.t 5)), iI 12 (.faddr 1 (.t 11)), iN (.store 0 (.t 12) (.t 10))]) c32_0
def ir32 : C := .seq (.reg [iI 4 (.mv (.c (.str [])))]) c32_1
theorem fd32 : fd? Try.prog 32 = some (28, [.slot 4], ir32) := by kernel_rfl
noncomputable def f18_C1 (s_44 : (List UInt8)) (at_45 : Int) : Il ((List UInt8) × Int) where
  run := (slc? s_44 (IntKind.i64.wrap ((IntKind.i64.wrap (at_45 + 3)) - 3)) (IntKind.i64.wrap (at_45 + 3))).bind fun s_61 => (some (s_61, (IntKind.i64.wrap (at_45 + 3))))
  res := fun (v_59, v_60) => .str v_59
  hp := fun (v_59, v_60) => [.cel [.int .i64 0, .str ([])], .cel [.str s_44, .int .i64 v_60]]
noncomputable def f18_C2 (s_44 : (List UInt8)) (v_60 : Int) (b_62 : UInt8) (b_63 : UInt8) : Il ((List UInt8) × Int) where
  run := (slc? s_44 (IntKind.i64.wrap ((IntKind.i64.wrap (v_60 + (IntKind.i64.wrap ((BitVec.ofInt (IntKind.bits .i64) (IntKind.i64.wrap ((IntKind.i64.wrap (b_62.toNat : Int)) * 2 ^ (min (Int.toNat 8) (IntKind.bits .i64)))) ||| BitVec.ofInt (IntKind.bits .i64) (IntKind.i64.wrap (b_63.toNat : Int))).toNat : Int)))) - (IntKind.i64.wrap ((BitVec.ofInt (IntKind.bits .i64) (IntKind.i64.wrap ((IntKind.i64.wrap (b_62.toNat : Int)) * 2 ^ (min (Int.toNat 8) (IntKind.bits .i64)))) ||| BitVec.ofInt (IntKind.bits .i64) (IntKind.i64.wrap (b_63.toNat : Int))).toNat : Int)))) (IntKind.i64.wrap (v_60 + (IntKind.i64.wrap ((BitVec.ofInt (IntKind.bits .i64) (IntKind.i64.wrap ((IntKind.i64.wrap (b_62.toNat : Int)) * 2 ^ (min (Int.toNat 8) (IntKind.bits .i64)))) ||| BitVec.ofInt (IntKind.bits .i64) (IntKind.i64.wrap (b_63.toNat : Int))).toNat : Int))))).bind fun s_69 => (some (s_69, (IntKind.i64.wrap (v_60 + (IntKind.i64.wrap ((BitVec.ofInt (IntKind.bits .i64) (IntKind.i64.wrap ((IntKind.i64.wrap (b_62.toNat : Int)) * 2 ^ (min (Int.toNat 8) (IntKind.bits .i64)))) ||| BitVec.ofInt (IntKind.bits .i64) (IntKind.i64.wrap (b_63.toNat : Int))).toNat : Int))))))
  res := fun (v_67, v_68) => .str v_67
  hp := fun (v_67, v_68) => [.cel [.int .i64 0, .str ([])], .cel [.str s_44, .int .i64 v_68]]
noncomputable def f18_C3 (s_44 : (List UInt8)) (v_68 : Int) : Il ((List UInt8) × Int) where
  run := (slc? s_44 (IntKind.i64.wrap ((IntKind.i64.wrap (v_68 + 2)) - 2)) (IntKind.i64.wrap (v_68 + 2))).bind fun s_79 => (some (s_79, (IntKind.i64.wrap (v_68 + 2))))
  res := fun (v_77, v_78) => .str v_77
  hp := fun (v_77, v_78) => [.cel [.int .i64 0, .str ([])], .cel [.str s_44, .int .i64 v_78]]
noncomputable def f18_J4 (v_67 : (List UInt8)) (v_78 : Int) : Jn (Int) (RecordEntry × Int × Int) where
  run := fun v_84 => (some ((RecordEntry.mk v_84 v_67), v_78, 0))
  cst := fun v_84 => ⟨put (put (put (fun _ => .junk) 6 (.int .i64 0)) 5 (.int .i64 v_78)) 4 (.ptr 0 0), [.cel [.int .i64 v_84, .str v_67]]⟩
def c18_0 : C := .cond (.t 19) (.seq (.reg [iI 20 (.build [(1, (.int .i64 0)), (1, (.str []))] []), iI 21 (.mv (.t 8)), iN (.store 2 (.t 4) (.t 20)), iI 5 (.mv (.c (.int .i64 0))), iI 6 (.mv (.t 21))]) .ret) (.skip)
def c18_1 : C := .seq (.reg [iI 18 (.mv (.t 8)), iI 19 (.bin .neq (.t 18) (.c (.int .i64 0)))]) c18_0
def c18_2 : C := .cond (.t 24) (.seq (.reg [iI 25 (.build [(1, (.int .i64 0)), (1, (.str []))] []), iN (.store 2 (.t 4) (.t 25)), iI 5 (.mv (.c (.int .i64 0))), iI 6 (.mv (.c (.int .i64 20)))]) .ret) (.skip)
def c18_3 : C := .cond (.t 40) (.seq (.reg [iI 41 (.build [(1, (.int .i64 0)), (1, (.str []))] []), iN (.store 2 (.t 4) (.t 41)), iI 5 (.mv (.c (.int .i64 0))), iI 6 (.mv (.c (.int .i64 20)))]) .ret) (.skip)
def c18_4 : C := .cond (.t 52) (.seq (.reg [iI 53 (.build [(1, (.int .i64 0)), (1, (.str []))] []), iN (.store 2 (.t 4) (.t 53)), iI 5 (.mv (.c (.int .i64 0))), iI 6 (.mv (.c (.int .i64 17)))]) .ret) (.skip)
def c18_5 : C := .seq (.regt (.fork [iI 54 (.mv (.t 9)), iI 55 (.sidx (.t 54) (.c (.int .i64 0))), iI 56 (.cint .i64 (.t 55)), iI 57 (.mv (.t 11)), iI 58 (.build [(1, (.int .i64 0)), (1, (.str []))] [(0, 0, (.t 56)), (1, 0, (.t 57))]), iI 59 (.mv (.t 7)), iI 60 (.nilchk (.t 59)), iI 61 (.faddr 1 (.t 60))] (.run [iI 62 (.load 0 (.t 61)), iN (.store 2 (.t 4) (.t 58)), iI 5 (.mv (.t 62)), iI 6 (.mv (.c (.int .i64 0)))]) (.run [iN (.store 2 (.t 4) (.t 58)), iI 62 (.load 0 (.t 61)), iI 5 (.mv (.t 62)), iI 6 (.mv (.c (.int .i64 0)))]))) .ret
def c18_6 : C := .seq (.seq (.reg [iI 45 (.mv (.t 7)), iI 46 (.call (.c (.fn 32 [])) [(.t 45), (.c (.int .i64 2))]), iI 47 (.mv (.t 9)), iI 48 (.mv (.t 11)), iI 49 (.bin .add (.t 47) (.t 48)), iI 50 (.call (.c (.fn 29 [])) [(.t 49)]), iI 51 (.call (.c (.fn 28 [])) [(.t 50)]), iI 52 (.bin .neq (.t 46) (.t 51))]) c18_4) c18_5
def c18_7 : C := .seq (.reg [iI 42 (.mv (.t 7)), iI 43 (.mv (.t 10)), iI 44 (.call (.c (.fn 32 [])) [(.t 42), (.t 43)]), iI 11 (.mv (.t 44))]) c18_6
def c18_8 : C := .seq (.seq (.reg [iI 36 (.mv (.t 7)), iI 37 (.mv (.t 10)), iI 38 (.bin .add (.t 37) (.c (.int .i64 2))), iI 39 (.call (.c (.fn 31 [])) [(.t 36), (.t 38)]), iI 40 (.un .not (.t 39))]) c18_3) c18_7
def c18_9 : C := .seq (.reg [iI 28 (.mv (.t 9)), iI 29 (.sidx (.t 28) (.c (.int .i64 1))), iI 30 (.cint .i64 (.t 29)), iI 31 (.bin .shl (.t 30) (.c (.int .u64 8))), iI 32 (.mv (.t 9)), iI 33 (.sidx (.t 32) (.c (.int .i64 2))), iI 34 (.cint .i64 (.t 33)), iI 35 (.bin .or (.t 31) (.t 34)), iI 10 (.mv (.t 35))]) c18_8
def c18_10 : C := .seq (.reg [iI 26 (.mv (.t 7)), iI 27 (.call (.c (.fn 32 [])) [(.t 26), (.c (.int .i64 3))]), iI 9 (.mv (.t 27))]) c18_9
def c18_11 : C := .seq (.seq (.reg [iI 22 (.mv (.t 7)), iI 23 (.call (.c (.fn 31 [])) [(.t 22), (.c (.int .i64 5))]), iI 24 (.un .not (.t 23))]) c18_2) c18_10
def c18_12 : C := .seq (.seq (.reg [iI 16 (.mv (.t 7)), iI 17 (.call (.c (.fn 30 [])) [(.t 16)]), iI 8 (.mv (.t 17))]) c18_1) c18_11
def c18_13 : C := .seq (.reg [iI 12 (.mv (.t 0)), iI 13 (.mv (.t 1)), iI 14 (.build [(1, (.str [])), (1, (.int .i64 0))] [(0, 0, (.t 12)), (1, 0, (.t 13))]), iI 15 (.box (.t 14)), iI 7 (.mv (.t 15))]) c18_12
def ir18 : C := .seq (.reg [iI 4 (.alloc [(1, (.int .i64 0)), (1, (.str []))]), iI 5 (.mv (.c (.int .i64 0))), iI 6 (.mv (.c (.int .i64 0)))]) c18_13
theorem fd18 : fd? Try.prog 18 = some (63, [.cell 4 2, .slot 5, .slot 6], ir18) := by kernel_rfl
noncomputable def f18 (s_44 : (List UInt8)) (at_45 : Int) : Option (RecordEntry × Int × Int) :=
  (f30p s_44 at_45).bind fun r_49 => (if (decide (r_49 ≠ 0)) = true then (some ((RecordEntry.mk 0 ([])), 0, r_49)) else (f31p s_44 at_45 5).bind fun r_54 => (if (!r_54) = true then (some ((RecordEntry.mk 0 ([])), 0, 20)) else ((f18_C1 s_44 at_45).run.bind fun (v_59, v_60) => (at? v_59 1).bind fun b_62 => (at? v_59 2).bind fun b_63 => (f31p s_44 v_60 (IntKind.i64.wrap ((IntKind.i64.wrap ((BitVec.ofInt (IntKind.bits .i64) (IntKind.i64.wrap ((IntKind.i64.wrap (b_62.toNat : Int)) * 2 ^ (min (Int.toNat 8) (IntKind.bits .i64)))) ||| BitVec.ofInt (IntKind.bits .i64) (IntKind.i64.wrap (b_63.toNat : Int))).toNat : Int)) + 2))).bind fun r_65 => (if (!r_65) = true then (some ((RecordEntry.mk 0 ([])), 0, 20)) else ((f18_C2 s_44 v_60 b_62 b_63).run.bind fun (v_67, v_68) => ((f18_C3 s_44 v_68).run.bind fun (v_77, v_78) => (cat? v_59 v_67).bind fun v_80 => (f29 v_80).bind fun r_81 => (f28 r_81).bind fun r_82 => (if (!(v_77 == r_82)) = true then (some ((RecordEntry.mk 0 ([])), 0, 17)) else (at? v_59 0).bind fun b_85 => ((f18_J4 v_67 v_78).run (IntKind.i64.wrap (b_85.toNat : Int))))))))))
theorem f18_ok {s_44 : (List UInt8)} {at_45 : Int} {r_ : RecordEntry × Int × Int} (H : f18 s_44 at_45 = some r_) : Pure Try.prog 18 [.str s_44, .int .i64 at_45] (· = .tup [.agg [.int .i64 r_.1.fKind, .str r_.1.fData], .int .i64 r_.2.1, .int .i64 r_.2.2]) := by
  refine Pure.walk3 fd18 none (Nat.le_of_ble_eq_true rfl) (by rfl) fun Q hQ => ?_
  simp only [f18] at H
  refine AW.rseq ?_
  try simp only [↓wk, ↓wl, nc, evV, wrapBits_eq, ↓reduceIte, Nat.reduceEqDiff, Nat.reduceAdd, Nat.reduceSub, Nat.reduceLeDiff, Nat.reduceLT, Nat.reduceBEq, reduceCtorEq, Int.reduceEq]
  refine AW.rseq ?_
  try simp only [↓wk, ↓wl, nc, evV, wrapBits_eq, ↓reduceIte, Nat.reduceEqDiff, Nat.reduceAdd, Nat.reduceSub, Nat.reduceLeDiff, Nat.reduceLT, Nat.reduceBEq, reduceCtorEq, Int.reduceEq]
  refine AW.sseq ?_
  refine AW.rseq ?_
  try simp only [↓wk, ↓wl, nc, evV, wrapBits_eq, ↓reduceIte, Nat.reduceEqDiff, Nat.reduceAdd, Nat.reduceSub, Nat.reduceLeDiff, Nat.reduceLT, Nat.reduceBEq, reduceCtorEq, Int.reduceEq]
  refine evTs_flat hFn H (fun _ h => f30p_ok h) (by rfl) (by rfl) (by simp only [deep_eq, imm_simps, imm_rowE, imm_ptrE, imm_enc, omap_simps, take_map_len, take_map_set, take_map_set2, le_refl_true, Nat.zero_add, and_true, true_and, List.drop_zero, Option.map_some, ↓wk, ↓wl, nc, evV, wrapBits_eq, ↓reduceIte, Nat.reduceEqDiff, Nat.reduceAdd, Nat.reduceSub, Nat.reduceLeDiff, Nat.reduceLT, Nat.reduceBEq, reduceCtorEq, Int.reduceEq]; rfl) (by rfl) (fun _ => rfl) (fun _ => rfl) ?_ <;> clear H <;> intro r_49 H
  try simp only [eL, ↓wk, ↓wl, nc, evV, wrapBits_eq, ↓reduceIte, Nat.reduceEqDiff, Nat.reduceAdd, Nat.reduceSub, Nat.reduceLeDiff, Nat.reduceLT, Nat.reduceBEq, reduceCtorEq, Int.reduceEq]
  refine AW.rseq ?_
  try simp only [↓wk, ↓wl, nc, evV, wrapBits_eq, ↓reduceIte, Nat.reduceEqDiff, Nat.reduceAdd, Nat.reduceSub, Nat.reduceLeDiff, Nat.reduceLT, Nat.reduceBEq, reduceCtorEq, Int.reduceEq]
  refine AW.ifc H (by rfl) ?_ ?_ <;> clear H <;> intro H
  · refine AW.rseq ?_
    try simp only [↓wk, ↓wl, nc, evV, wrapBits_eq, ↓reduceIte, Nat.reduceEqDiff, Nat.reduceAdd, Nat.reduceSub, Nat.reduceLeDiff, Nat.reduceLT, Nat.reduceBEq, reduceCtorEq, Int.reduceEq]
    refine AW.ret ?_
    refine seqQ.ret ?_
    cases H
    exact hQ _ _ _ _ (.inr rfl) (by simp only [resVs, omap, resV, ↓wk, ↓wl, nc, evV, wrapBits_eq, ↓reduceIte, Nat.reduceEqDiff, Nat.reduceAdd, Nat.reduceSub, Nat.reduceLeDiff, Nat.reduceLT, Nat.reduceBEq, reduceCtorEq, Int.reduceEq]; rfl) (hand_plain (by rfl)) (by first | exact Or.inl rfl | exact Or.inr rfl)
  · refine AW.skip ?_
    refine seqQ.norm ?_
    refine AW.sseq ?_
    refine AW.rseq ?_
    try simp only [↓wk, ↓wl, nc, evV, wrapBits_eq, ↓reduceIte, Nat.reduceEqDiff, Nat.reduceAdd, Nat.reduceSub, Nat.reduceLeDiff, Nat.reduceLT, Nat.reduceBEq, reduceCtorEq, Int.reduceEq]
    refine evTs_flat hFn H (fun _ h => f31p_ok h) (by rfl) (by rfl) (by simp only [deep_eq, imm_simps, imm_rowE, imm_ptrE, imm_enc, omap_simps, take_map_len, take_map_set, take_map_set2, le_refl_true, Nat.zero_add, and_true, true_and, List.drop_zero, Option.map_some, ↓wk, ↓wl, nc, evV, wrapBits_eq, ↓reduceIte, Nat.reduceEqDiff, Nat.reduceAdd, Nat.reduceSub, Nat.reduceLeDiff, Nat.reduceLT, Nat.reduceBEq, reduceCtorEq, Int.reduceEq]; rfl) (by rfl) (fun _ => rfl) (fun _ => rfl) ?_ <;> clear H <;> intro r_54 H
    try simp only [eL, ↓wk, ↓wl, nc, evV, wrapBits_eq, ↓reduceIte, Nat.reduceEqDiff, Nat.reduceAdd, Nat.reduceSub, Nat.reduceLeDiff, Nat.reduceLT, Nat.reduceBEq, reduceCtorEq, Int.reduceEq]
    refine AW.ifc H (by rfl) ?_ ?_ <;> clear H <;> intro H
    · refine AW.rseq ?_
      try simp only [↓wk, ↓wl, nc, evV, wrapBits_eq, ↓reduceIte, Nat.reduceEqDiff, Nat.reduceAdd, Nat.reduceSub, Nat.reduceLeDiff, Nat.reduceLT, Nat.reduceBEq, reduceCtorEq, Int.reduceEq]
      refine AW.ret ?_
      refine seqQ.ret ?_
      cases H
      exact hQ _ _ _ _ (.inr rfl) (by simp only [resVs, omap, resV, ↓wk, ↓wl, nc, evV, wrapBits_eq, ↓reduceIte, Nat.reduceEqDiff, Nat.reduceAdd, Nat.reduceSub, Nat.reduceLeDiff, Nat.reduceLT, Nat.reduceBEq, reduceCtorEq, Int.reduceEq]; rfl) (hand_plain (by rfl)) (by first | exact Or.inl rfl | exact Or.inr rfl)
    · refine AW.skip ?_
      refine seqQ.norm ?_
      refine AW.rseq ?_
      try simp only [↓wk, ↓wl, nc, evV, wrapBits_eq, ↓reduceIte, Nat.reduceEqDiff, Nat.reduceAdd, Nat.reduceSub, Nat.reduceLeDiff, Nat.reduceLT, Nat.reduceBEq, reduceCtorEq, Int.reduceEq]
      refine evTs_inl (I := f18_C1 s_44 at_45) (args := [.ptr 1 0, .int .i64 3]) H (by rfl) fd32 (by rfl) (Nat.le_of_ble_eq_true rfl) ?_ ?_ <;> clear H
      · rintro v_ Q_ H hqf18_C1
        simp only [f18_C1] at H
        dsimp only [List.length_cons, List.length_nil]
        refine AW.rseq ?_
        try simp only [↓wk, ↓wl, nc, evV, wrapBits_eq, ↓reduceIte, Nat.reduceEqDiff, Nat.reduceAdd, Nat.reduceSub, Nat.reduceLeDiff, Nat.reduceLT, Nat.reduceBEq, reduceCtorEq, Int.reduceEq]
        refine AW.rseq ?_
        try simp only [↓wk, ↓wl, nc, evV, wrapBits_eq, ↓reduceIte, Nat.reduceEqDiff, Nat.reduceAdd, Nat.reduceSub, Nat.reduceLeDiff, Nat.reduceLT, Nat.reduceBEq, reduceCtorEq, Int.reduceEq]
        refine AW.rseq ?_
        try simp only [↓wk, ↓wl, nc, evV, wrapBits_eq, ↓reduceIte, Nat.reduceEqDiff, Nat.reduceAdd, Nat.reduceSub, Nat.reduceLeDiff, Nat.reduceLT, Nat.reduceBEq, reduceCtorEq, Int.reduceEq]
        refine evTs_sslc H (by rfl) (by simp only [loI, hiI, ↓wk, ↓wl, nc, evV, wrapBits_eq, ↓reduceIte, Nat.reduceEqDiff, Nat.reduceAdd, Nat.reduceSub, Nat.reduceLeDiff, Nat.reduceLT, Nat.reduceBEq, reduceCtorEq, Int.reduceEq]; rfl) (by simp only [loI, hiI, ↓wk, ↓wl, nc, evV, wrapBits_eq, ↓reduceIte, Nat.reduceEqDiff, Nat.reduceAdd, Nat.reduceSub, Nat.reduceLeDiff, Nat.reduceLT, Nat.reduceBEq, reduceCtorEq, Int.reduceEq]; rfl) ?_ <;> clear H <;> intro s_61 H
        try simp only [↓wk, ↓wl, nc, evV, wrapBits_eq, ↓reduceIte, Nat.reduceEqDiff, Nat.reduceAdd, Nat.reduceSub, Nat.reduceLeDiff, Nat.reduceLT, Nat.reduceBEq, reduceCtorEq, Int.reduceEq]
        refine AW.ret ?_
        cases H
        exact hqf18_C1 _ _ _ (.inr rfl) (Le.toL 2 (by rfl) [0, 1] [4] (by decide) (by decide) rfl) (by simp only [resVs, omap, resV, f18_C1, List.length_set, Option.map_some, restrict_eq, renS_nil, renS_cons, renB_els, renB_cel, renB_dead, deep_eq, map_ren_enc, ren_agg', ren_tup', ren_fn', ren_int', ren_bool', ren_str', ren_sl', ren_pro', ren_nilp', ren_nilfn', ren_junk', ren_ptr', ren_row', ren_arow', ren_eptr', vm, List.idxOf?_cons, List.idxOf?_nil, beq_self_eq_true, Option.map_none, List.getD_cons_zero, List.getD_cons_succ, ↓wk, ↓wl, nc, evV, wrapBits_eq, ↓reduceIte, Nat.reduceEqDiff, Nat.reduceAdd, Nat.reduceSub, Nat.reduceLeDiff, Nat.reduceLT, Nat.reduceBEq, reduceCtorEq, Int.reduceEq]) (by simp only [f18_C1, List.length_set, Option.map_some, restrict_eq, renS_nil, renS_cons, renB_els, renB_cel, renB_dead, deep_eq, map_ren_enc, ren_agg', ren_tup', ren_fn', ren_int', ren_bool', ren_str', ren_sl', ren_pro', ren_nilp', ren_nilfn', ren_junk', ren_ptr', ren_row', ren_arow', ren_eptr', vm, List.idxOf?_cons, List.idxOf?_nil, beq_self_eq_true, Option.map_none, List.getD_cons_zero, List.getD_cons_succ, ↓wk, ↓wl, nc, evV, wrapBits_eq, ↓reduceIte, Nat.reduceEqDiff, Nat.reduceAdd, Nat.reduceSub, Nat.reduceLeDiff, Nat.reduceLT, Nat.reduceBEq, reduceCtorEq, Int.reduceEq])
      · rintro ⟨v_59, v_60⟩ s_ h_ H hs_ hh_
        simp only [f18_C1] at H hs_ hh_
        subst hs_
        subst hh_
        try simp only [↓wk, ↓wl, nc, evV, wrapBits_eq, ↓reduceIte, Nat.reduceEqDiff, Nat.reduceAdd, Nat.reduceSub, Nat.reduceLeDiff, Nat.reduceLT, Nat.reduceBEq, reduceCtorEq, Int.reduceEq]
        refine AW.rseq ?_
        try simp only [↓wk, ↓wl, nc, evV, wrapBits_eq, ↓reduceIte, Nat.reduceEqDiff, Nat.reduceAdd, Nat.reduceSub, Nat.reduceLeDiff, Nat.reduceLT, Nat.reduceBEq, reduceCtorEq, Int.reduceEq]
        refine evTs_sat H (by rfl) (by rfl) ?_ <;> clear H <;> intro b_62 H
        try simp only [↓wk, ↓wl, nc, evV, wrapBits_eq, ↓reduceIte, Nat.reduceEqDiff, Nat.reduceAdd, Nat.reduceSub, Nat.reduceLeDiff, Nat.reduceLT, Nat.reduceBEq, reduceCtorEq, Int.reduceEq]
        refine rest_shl (by decide) ?_
        try simp only [↓wk, ↓wl, nc, evV, wrapBits_eq, ↓reduceIte, Nat.reduceEqDiff, Nat.reduceAdd, Nat.reduceSub, Nat.reduceLeDiff, Nat.reduceLT, Nat.reduceBEq, reduceCtorEq, Int.reduceEq]
        refine evTs_sat H (by rfl) (by rfl) ?_ <;> clear H <;> intro b_63 H
        try simp only [↓wk, ↓wl, nc, evV, wrapBits_eq, ↓reduceIte, Nat.reduceEqDiff, Nat.reduceAdd, Nat.reduceSub, Nat.reduceLeDiff, Nat.reduceLT, Nat.reduceBEq, reduceCtorEq, Int.reduceEq]
        refine rest_or ?_
        try simp only [↓wk, ↓wl, nc, evV, wrapBits_eq, ↓reduceIte, Nat.reduceEqDiff, Nat.reduceAdd, Nat.reduceSub, Nat.reduceLeDiff, Nat.reduceLT, Nat.reduceBEq, reduceCtorEq, Int.reduceEq]
        refine AW.sseq ?_
        refine AW.rseq ?_
        try simp only [↓wk, ↓wl, nc, evV, wrapBits_eq, ↓reduceIte, Nat.reduceEqDiff, Nat.reduceAdd, Nat.reduceSub, Nat.reduceLeDiff, Nat.reduceLT, Nat.reduceBEq, reduceCtorEq, Int.reduceEq]
        refine evTs_flat hFn H (fun _ h => f31p_ok h) (by rfl) (by rfl) (by simp only [deep_eq, imm_simps, imm_rowE, imm_ptrE, imm_enc, omap_simps, take_map_len, take_map_set, take_map_set2, le_refl_true, Nat.zero_add, and_true, true_and, List.drop_zero, Option.map_some, ↓wk, ↓wl, nc, evV, wrapBits_eq, ↓reduceIte, Nat.reduceEqDiff, Nat.reduceAdd, Nat.reduceSub, Nat.reduceLeDiff, Nat.reduceLT, Nat.reduceBEq, reduceCtorEq, Int.reduceEq]; rfl) (by rfl) (fun _ => rfl) (fun _ => rfl) ?_ <;> clear H <;> intro r_65 H
        try simp only [eL, ↓wk, ↓wl, nc, evV, wrapBits_eq, ↓reduceIte, Nat.reduceEqDiff, Nat.reduceAdd, Nat.reduceSub, Nat.reduceLeDiff, Nat.reduceLT, Nat.reduceBEq, reduceCtorEq, Int.reduceEq]
        refine AW.ifc H (by rfl) ?_ ?_ <;> clear H <;> intro H
        · refine AW.rseq ?_
          try simp only [↓wk, ↓wl, nc, evV, wrapBits_eq, ↓reduceIte, Nat.reduceEqDiff, Nat.reduceAdd, Nat.reduceSub, Nat.reduceLeDiff, Nat.reduceLT, Nat.reduceBEq, reduceCtorEq, Int.reduceEq]
          refine AW.ret ?_
          refine seqQ.ret ?_
          cases H
          exact hQ _ _ _ _ (.inr rfl) (by simp only [resVs, omap, resV, ↓wk, ↓wl, nc, evV, wrapBits_eq, ↓reduceIte, Nat.reduceEqDiff, Nat.reduceAdd, Nat.reduceSub, Nat.reduceLeDiff, Nat.reduceLT, Nat.reduceBEq, reduceCtorEq, Int.reduceEq]; rfl) (hand_plain (by rfl)) (by first | exact Or.inl rfl | exact Or.inr rfl)
        · refine AW.skip ?_
          refine seqQ.norm ?_
          refine AW.rseq ?_
          try simp only [↓wk, ↓wl, nc, evV, wrapBits_eq, ↓reduceIte, Nat.reduceEqDiff, Nat.reduceAdd, Nat.reduceSub, Nat.reduceLeDiff, Nat.reduceLT, Nat.reduceBEq, reduceCtorEq, Int.reduceEq]
          refine evTs_inl (I := f18_C2 s_44 v_60 b_62 b_63) (args := [.ptr 1 0, .int .i64 (IntKind.i64.wrap ((BitVec.ofInt (IntKind.bits .i64) (IntKind.i64.wrap ((IntKind.i64.wrap (b_62.toNat : Int)) * 2 ^ (min (Int.toNat 8) (IntKind.bits .i64)))) ||| BitVec.ofInt (IntKind.bits .i64) (IntKind.i64.wrap (b_63.toNat : Int))).toNat : Int))]) H (by rfl) fd32 (by rfl) (Nat.le_of_ble_eq_true rfl) ?_ ?_ <;> clear H
          · rintro v_ Q_ H hqf18_C2
            simp only [f18_C2] at H
            dsimp only [List.length_cons, List.length_nil]
            refine AW.rseq ?_
            try simp only [↓wk, ↓wl, nc, evV, wrapBits_eq, ↓reduceIte, Nat.reduceEqDiff, Nat.reduceAdd, Nat.reduceSub, Nat.reduceLeDiff, Nat.reduceLT, Nat.reduceBEq, reduceCtorEq, Int.reduceEq]
            refine AW.rseq ?_
            try simp only [↓wk, ↓wl, nc, evV, wrapBits_eq, ↓reduceIte, Nat.reduceEqDiff, Nat.reduceAdd, Nat.reduceSub, Nat.reduceLeDiff, Nat.reduceLT, Nat.reduceBEq, reduceCtorEq, Int.reduceEq]
            refine AW.rseq ?_
            try simp only [↓wk, ↓wl, nc, evV, wrapBits_eq, ↓reduceIte, Nat.reduceEqDiff, Nat.reduceAdd, Nat.reduceSub, Nat.reduceLeDiff, Nat.reduceLT, Nat.reduceBEq, reduceCtorEq, Int.reduceEq]
            refine evTs_sslc H (by rfl) (by simp only [loI, hiI, ↓wk, ↓wl, nc, evV, wrapBits_eq, ↓reduceIte, Nat.reduceEqDiff, Nat.reduceAdd, Nat.reduceSub, Nat.reduceLeDiff, Nat.reduceLT, Nat.reduceBEq, reduceCtorEq, Int.reduceEq]; rfl) (by simp only [loI, hiI, ↓wk, ↓wl, nc, evV, wrapBits_eq, ↓reduceIte, Nat.reduceEqDiff, Nat.reduceAdd, Nat.reduceSub, Nat.reduceLeDiff, Nat.reduceLT, Nat.reduceBEq, reduceCtorEq, Int.reduceEq]; rfl) ?_ <;> clear H <;> intro s_69 H
            try simp only [↓wk, ↓wl, nc, evV, wrapBits_eq, ↓reduceIte, Nat.reduceEqDiff, Nat.reduceAdd, Nat.reduceSub, Nat.reduceLeDiff, Nat.reduceLT, Nat.reduceBEq, reduceCtorEq, Int.reduceEq]
            refine AW.ret ?_
            cases H
            exact hqf18_C2 _ _ _ (.inr rfl) (Le.toL 2 (by rfl) [0, 1] [4] (by decide) (by decide) rfl) (by simp only [resVs, omap, resV, f18_C2, List.length_set, Option.map_some, restrict_eq, renS_nil, renS_cons, renB_els, renB_cel, renB_dead, deep_eq, map_ren_enc, ren_agg', ren_tup', ren_fn', ren_int', ren_bool', ren_str', ren_sl', ren_pro', ren_nilp', ren_nilfn', ren_junk', ren_ptr', ren_row', ren_arow', ren_eptr', vm, List.idxOf?_cons, List.idxOf?_nil, beq_self_eq_true, Option.map_none, List.getD_cons_zero, List.getD_cons_succ, ↓wk, ↓wl, nc, evV, wrapBits_eq, ↓reduceIte, Nat.reduceEqDiff, Nat.reduceAdd, Nat.reduceSub, Nat.reduceLeDiff, Nat.reduceLT, Nat.reduceBEq, reduceCtorEq, Int.reduceEq]) (by simp only [f18_C2, List.length_set, Option.map_some, restrict_eq, renS_nil, renS_cons, renB_els, renB_cel, renB_dead, deep_eq, map_ren_enc, ren_agg', ren_tup', ren_fn', ren_int', ren_bool', ren_str', ren_sl', ren_pro', ren_nilp', ren_nilfn', ren_junk', ren_ptr', ren_row', ren_arow', ren_eptr', vm, List.idxOf?_cons, List.idxOf?_nil, beq_self_eq_true, Option.map_none, List.getD_cons_zero, List.getD_cons_succ, ↓wk, ↓wl, nc, evV, wrapBits_eq, ↓reduceIte, Nat.reduceEqDiff, Nat.reduceAdd, Nat.reduceSub, Nat.reduceLeDiff, Nat.reduceLT, Nat.reduceBEq, reduceCtorEq, Int.reduceEq])
          · rintro ⟨v_67, v_68⟩ s_ h_ H hs_ hh_
            simp only [f18_C2] at H hs_ hh_
            subst hs_
            subst hh_
            try simp only [↓wk, ↓wl, nc, evV, wrapBits_eq, ↓reduceIte, Nat.reduceEqDiff, Nat.reduceAdd, Nat.reduceSub, Nat.reduceLeDiff, Nat.reduceLT, Nat.reduceBEq, reduceCtorEq, Int.reduceEq]
            refine AW.sseq ?_
            refine AW.rseq ?_
            try simp only [↓wk, ↓wl, nc, evV, wrapBits_eq, ↓reduceIte, Nat.reduceEqDiff, Nat.reduceAdd, Nat.reduceSub, Nat.reduceLeDiff, Nat.reduceLT, Nat.reduceBEq, reduceCtorEq, Int.reduceEq]
            refine evTs_inl (I := f18_C3 s_44 v_68) (args := [.ptr 1 0, .int .i64 2]) H (by rfl) fd32 (by rfl) (Nat.le_of_ble_eq_true rfl) ?_ ?_ <;> clear H
            · rintro v_ Q_ H hqf18_C3
              simp only [f18_C3] at H
              dsimp only [List.length_cons, List.length_nil]
              refine AW.rseq ?_
              try simp only [↓wk, ↓wl, nc, evV, wrapBits_eq, ↓reduceIte, Nat.reduceEqDiff, Nat.reduceAdd, Nat.reduceSub, Nat.reduceLeDiff, Nat.reduceLT, Nat.reduceBEq, reduceCtorEq, Int.reduceEq]
              refine AW.rseq ?_
              try simp only [↓wk, ↓wl, nc, evV, wrapBits_eq, ↓reduceIte, Nat.reduceEqDiff, Nat.reduceAdd, Nat.reduceSub, Nat.reduceLeDiff, Nat.reduceLT, Nat.reduceBEq, reduceCtorEq, Int.reduceEq]
              refine AW.rseq ?_
              try simp only [↓wk, ↓wl, nc, evV, wrapBits_eq, ↓reduceIte, Nat.reduceEqDiff, Nat.reduceAdd, Nat.reduceSub, Nat.reduceLeDiff, Nat.reduceLT, Nat.reduceBEq, reduceCtorEq, Int.reduceEq]
              refine evTs_sslc H (by rfl) (by simp only [loI, hiI, ↓wk, ↓wl, nc, evV, wrapBits_eq, ↓reduceIte, Nat.reduceEqDiff, Nat.reduceAdd, Nat.reduceSub, Nat.reduceLeDiff, Nat.reduceLT, Nat.reduceBEq, reduceCtorEq, Int.reduceEq]; rfl) (by simp only [loI, hiI, ↓wk, ↓wl, nc, evV, wrapBits_eq, ↓reduceIte, Nat.reduceEqDiff, Nat.reduceAdd, Nat.reduceSub, Nat.reduceLeDiff, Nat.reduceLT, Nat.reduceBEq, reduceCtorEq, Int.reduceEq]; rfl) ?_ <;> clear H <;> intro s_79 H
              try simp only [↓wk, ↓wl, nc, evV, wrapBits_eq, ↓reduceIte, Nat.reduceEqDiff, Nat.reduceAdd, Nat.reduceSub, Nat.reduceLeDiff, Nat.reduceLT, Nat.reduceBEq, reduceCtorEq, Int.reduceEq]
              refine AW.ret ?_
              cases H
              exact hqf18_C3 _ _ _ (.inr rfl) (Le.toL 2 (by rfl) [0, 1] [4] (by decide) (by decide) rfl) (by simp only [resVs, omap, resV, f18_C3, List.length_set, Option.map_some, restrict_eq, renS_nil, renS_cons, renB_els, renB_cel, renB_dead, deep_eq, map_ren_enc, ren_agg', ren_tup', ren_fn', ren_int', ren_bool', ren_str', ren_sl', ren_pro', ren_nilp', ren_nilfn', ren_junk', ren_ptr', ren_row', ren_arow', ren_eptr', vm, List.idxOf?_cons, List.idxOf?_nil, beq_self_eq_true, Option.map_none, List.getD_cons_zero, List.getD_cons_succ, ↓wk, ↓wl, nc, evV, wrapBits_eq, ↓reduceIte, Nat.reduceEqDiff, Nat.reduceAdd, Nat.reduceSub, Nat.reduceLeDiff, Nat.reduceLT, Nat.reduceBEq, reduceCtorEq, Int.reduceEq]) (by simp only [f18_C3, List.length_set, Option.map_some, restrict_eq, renS_nil, renS_cons, renB_els, renB_cel, renB_dead, deep_eq, map_ren_enc, ren_agg', ren_tup', ren_fn', ren_int', ren_bool', ren_str', ren_sl', ren_pro', ren_nilp', ren_nilfn', ren_junk', ren_ptr', ren_row', ren_arow', ren_eptr', vm, List.idxOf?_cons, List.idxOf?_nil, beq_self_eq_true, Option.map_none, List.getD_cons_zero, List.getD_cons_succ, ↓wk, ↓wl, nc, evV, wrapBits_eq, ↓reduceIte, Nat.reduceEqDiff, Nat.reduceAdd, Nat.reduceSub, Nat.reduceLeDiff, Nat.reduceLT, Nat.reduceBEq, reduceCtorEq, Int.reduceEq])
            · rintro ⟨v_77, v_78⟩ s_ h_ H hs_ hh_
              simp only [f18_C3] at H hs_ hh_
              subst hs_
              subst hh_
              try simp only [↓wk, ↓wl, nc, evV, wrapBits_eq, ↓reduceIte, Nat.reduceEqDiff, Nat.reduceAdd, Nat.reduceSub, Nat.reduceLeDiff, Nat.reduceLT, Nat.reduceBEq, reduceCtorEq, Int.reduceEq]
              refine rest_cat H ?_ <;> clear H <;> intro v_80 H
              try simp only [↓wk, ↓wl, nc, evV, wrapBits_eq, ↓reduceIte, Nat.reduceEqDiff, Nat.reduceAdd, Nat.reduceSub, Nat.reduceLeDiff, Nat.reduceLT, Nat.reduceBEq, reduceCtorEq, Int.reduceEq]
              refine evTs_pure hFn H (fun _ h => f29_ok h) (by rfl) (by rfl) (by rfl) (by rfl) (fun _ => rfl) ?_ <;> clear H <;> intro r_81 H
              try simp only [eL, ↓wk, ↓wl, nc, evV, wrapBits_eq, ↓reduceIte, Nat.reduceEqDiff, Nat.reduceAdd, Nat.reduceSub, Nat.reduceLeDiff, Nat.reduceLT, Nat.reduceBEq, reduceCtorEq, Int.reduceEq]
              refine evTs_pure hFn H (fun _ h => f28_ok h) (by rfl) (by rfl) (by rfl) (by rfl) (fun _ => rfl) ?_ <;> clear H <;> intro r_82 H
              try simp only [eL, ↓wk, ↓wl, nc, evV, wrapBits_eq, ↓reduceIte, Nat.reduceEqDiff, Nat.reduceAdd, Nat.reduceSub, Nat.reduceLeDiff, Nat.reduceLT, Nat.reduceBEq, reduceCtorEq, Int.reduceEq]
              refine AW.ifc H (by rfl) ?_ ?_ <;> clear H <;> intro H
              · refine AW.rseq ?_
                try simp only [↓wk, ↓wl, nc, evV, wrapBits_eq, ↓reduceIte, Nat.reduceEqDiff, Nat.reduceAdd, Nat.reduceSub, Nat.reduceLeDiff, Nat.reduceLT, Nat.reduceBEq, reduceCtorEq, Int.reduceEq]
                refine AW.ret ?_
                refine seqQ.ret ?_
                cases H
                exact hQ _ _ _ _ (.inr rfl) (by simp only [resVs, omap, resV, ↓wk, ↓wl, nc, evV, wrapBits_eq, ↓reduceIte, Nat.reduceEqDiff, Nat.reduceAdd, Nat.reduceSub, Nat.reduceLeDiff, Nat.reduceLT, Nat.reduceBEq, reduceCtorEq, Int.reduceEq]; rfl) (hand_plain (by rfl)) (by first | exact Or.inl rfl | exact Or.inr rfl)
              · refine AW.skip ?_
                refine seqQ.norm ?_
                refine AW.join (f18_J4 v_67 v_78) H ?_ fun hf18_J4 => ?_
                · clear H
                  rintro v_84 st0_ H hst_
                  simp only [f18_J4] at H hst_
                  subst hst_
                  refine AW.ret ?_
                  cases H
                  exact hQ _ _ _ _ (.inr rfl) (by simp only [resVs, omap, resV, ↓wk, ↓wl, nc, evV, wrapBits_eq, ↓reduceIte, Nat.reduceEqDiff, Nat.reduceAdd, Nat.reduceSub, Nat.reduceLeDiff, Nat.reduceLT, Nat.reduceBEq, reduceCtorEq, Int.reduceEq]; rfl) (hand_plain (by rfl)) (by first | exact Or.inl rfl | exact Or.inr rfl)
                · refine AW.regt ?_
                  refine evR.fork ?_
                  try simp only [↓wk, ↓wl, nc, evV, wrapBits_eq, ↓reduceIte, Nat.reduceEqDiff, Nat.reduceAdd, Nat.reduceSub, Nat.reduceLeDiff, Nat.reduceLT, Nat.reduceBEq, reduceCtorEq, Int.reduceEq]
                  refine evTs_sat H (by rfl) (by rfl) ?_ <;> clear H <;> intro b_85 H
                  try simp only [↓wk, ↓wl, nc, evV, wrapBits_eq, ↓reduceIte, Nat.reduceEqDiff, Nat.reduceAdd, Nat.reduceSub, Nat.reduceLeDiff, Nat.reduceLT, Nat.reduceBEq, reduceCtorEq, Int.reduceEq]
                  refine evR.both ?_ ?_
                  · refine evR.run ?_
                    try simp only [↓wk, ↓wl, nc, evV, wrapBits_eq, ↓reduceIte, Nat.reduceEqDiff, Nat.reduceAdd, Nat.reduceSub, Nat.reduceLeDiff, Nat.reduceLT, Nat.reduceBEq, reduceCtorEq, Int.reduceEq]
                    refine seqQ.norm ?_
                    exact hf18_J4 _ _ H ((Le.none [0] [4, 5, 6] (by decide) (by simp only [f18_J4, List.length_set, Option.map_some, restrict_eq, renS_nil, renS_cons, renB_els, renB_cel, renB_dead, deep_eq, map_ren_enc, ren_agg', ren_tup', ren_fn', ren_int', ren_bool', ren_str', ren_sl', ren_pro', ren_nilp', ren_nilfn', ren_junk', ren_ptr', ren_row', ren_arow', ren_eptr', vm, List.idxOf?_cons, List.idxOf?_nil, beq_self_eq_true, Option.map_none, List.getD_cons_zero, List.getD_cons_succ, ↓wk, ↓wl, nc, evV, wrapBits_eq, ↓reduceIte, Nat.reduceEqDiff, Nat.reduceAdd, Nat.reduceSub, Nat.reduceLeDiff, Nat.reduceLT, Nat.reduceBEq, reduceCtorEq, Int.reduceEq] <;> rfl)))
                  · refine evR.run ?_
                    try simp only [↓wk, ↓wl, nc, evV, wrapBits_eq, ↓reduceIte, Nat.reduceEqDiff, Nat.reduceAdd, Nat.reduceSub, Nat.reduceLeDiff, Nat.reduceLT, Nat.reduceBEq, reduceCtorEq, Int.reduceEq]
                    refine seqQ.norm ?_
                    exact hf18_J4 _ _ H ((Le.none [0] [4, 5, 6] (by decide) (by simp only [f18_J4, List.length_set, Option.map_some, restrict_eq, renS_nil, renS_cons, renB_els, renB_cel, renB_dead, deep_eq, map_ren_enc, ren_agg', ren_tup', ren_fn', ren_int', ren_bool', ren_str', ren_sl', ren_pro', ren_nilp', ren_nilfn', ren_junk', ren_ptr', ren_row', ren_arow', ren_eptr', vm, List.idxOf?_cons, List.idxOf?_nil, beq_self_eq_true, Option.map_none, List.getD_cons_zero, List.getD_cons_succ, ↓wk, ↓wl, nc, evV, wrapBits_eq, ↓reduceIte, Nat.reduceEqDiff, Nat.reduceAdd, Nat.reduceSub, Nat.reduceLeDiff, Nat.reduceLT, Nat.reduceBEq, reduceCtorEq, Int.reduceEq] <;> rfl)))
def c36_0 : C := .seq (.reg [iI 3 (.mv (.t 0)), iI 4 (.bin .eql (.t 3) (.c (.int .u8 32))), iI 2 (.mv (.t 4))]) .ret
def ir36 : C := .seq (.reg [iI 2 (.mv (.c (.bool false)))]) c36_0
theorem fd36 : fd? Try.prog 36 = some (5, [.slot 2], ir36) := by kernel_rfl
noncomputable def f36 (c_103 : Int) : Option (Bool) :=
  (some (decide (c_103 = 32)))
theorem f36_ok {c_103 : Int} {r_ : Bool} (H : f36 c_103 = some r_) : Pure Try.prog 36 [.int .u8 c_103] (· = .bool r_) := by
  refine Pure.walk3 fd36 none (Nat.le_of_ble_eq_true rfl) (by rfl) fun Q hQ => ?_
  simp only [f36] at H
  refine AW.rseq ?_
  try simp only [↓wk, ↓wl, nc, evV, wrapBits_eq, ↓reduceIte, Nat.reduceEqDiff, Nat.reduceAdd, Nat.reduceSub, Nat.reduceLeDiff, Nat.reduceLT, Nat.reduceBEq, reduceCtorEq, Int.reduceEq]
  refine AW.rseq ?_
  try simp only [↓wk, ↓wl, nc, evV, wrapBits_eq, ↓reduceIte, Nat.reduceEqDiff, Nat.reduceAdd, Nat.reduceSub, Nat.reduceLeDiff, Nat.reduceLT, Nat.reduceBEq, reduceCtorEq, Int.reduceEq]
  refine AW.ret ?_
  cases H
  exact hQ _ _ _ _ (.inr rfl) (by simp only [resVs, omap, resV, ↓wk, ↓wl, nc, evV, wrapBits_eq, ↓reduceIte, Nat.reduceEqDiff, Nat.reduceAdd, Nat.reduceSub, Nat.reduceLeDiff, Nat.reduceLT, Nat.reduceBEq, reduceCtorEq, Int.reduceEq]; rfl) (hand_plain (by rfl)) (by first | exact Or.inl rfl | exact Or.inr rfl)
def c38_0 : C := .seq (.reg [iI 7 (.mv (.t 0)), iI 8 (.nilchk (.t 7)), iI 9 (.faddr 1 (.t 8)), iI 10 (.load 0 (.t 9)), iI 11 (.mv (.t 1)), iI 12 (.bin .add (.t 10) (.t 11)), iI 13 (.mv (.t 0)), iI 14 (.nilchk (.t 13)), iI 15 (.faddr 0 (.t 14)), iI 16 (.load 0 (.t 15)), iI 17 (.len 1 (.t 16)), iI 18 (.bin .lss (.t 12) (.t 17)), iI 19 (.mv (.t 18)), iG (some 20) 19 true (.mv (.t 2)), iG (some 21) 19 true (.mv (.t 0)), iG (some 22) 19 true (.nilchk (.t 21)), iG (some 23) 19 true (.faddr 0 (.t 22)), iG (some 24) 19 true (.load 0 (.t 23)), iG (some 25) 19 true (.mv (.t 0)), iG (some 26) 19 true (.nilchk (.t 25)), iG (some 27) 19 true (.faddr 1 (.t 26)), iG (some 28) 19 true (.load 0 (.t 27)), iG (some 29) 19 true (.mv (.t 1)), iG (some 30) 19 true (.bin .add (.t 28) (.t 29)), iG (some 31) 19 true (.sidx (.t 24) (.t 30)), iG (some 32) 19 true (.call (.t 20) [(.t 31)]), iI 33 (.pick (.t 19) (.t 32) (.c (.bool false))), iI 6 (.mv (.t 33))]) .ret
def ir38 : C := .seq (.reg [iI 6 (.mv (.c (.bool false)))]) c38_0
theorem fd38 : fd? Try.prog 38 = some (34, [.slot 6], ir38) := by kernel_rfl
noncomputable def f38_36p (r_99 : (List UInt8)) (r_100 : Int) (ahead_101 : Int) : Option (Bool) :=
  (if (decide ((IntKind.i64.wrap (r_100 + ahead_101)) < ((r_99.length : Nat) : Int))) = true then (at? r_99 (IntKind.i64.wrap (r_100 + ahead_101))).bind fun b_102 => (f36 (b_102.toNat : Int)).bind fun r_104 => (some r_104) else (some false))
theorem f38_36p_ok {r_99 : (List UInt8)} {r_100 : Int} {ahead_101 : Int} {r_ : Bool} (H : f38_36p r_99 r_100 ahead_101 = some r_) : Pure Try.prog 38 [.pro [.str r_99, .int .i64 r_100], .int .i64 ahead_101, .fn 36 []] (· = .bool r_) := by
  refine Pure.walk3 fd38 none (Nat.le_of_ble_eq_true rfl) (by rfl) fun Q hQ => ?_
  simp only [f38_36p] at H
  refine AW.rseq ?_
  try simp only [↓wk, ↓wl, nc, evV, wrapBits_eq, ↓reduceIte, Nat.reduceEqDiff, Nat.reduceAdd, Nat.reduceSub, Nat.reduceLeDiff, Nat.reduceLT, Nat.reduceBEq, reduceCtorEq, Int.reduceEq]
  refine AW.rseq ?_
  try simp only [↓wk, ↓wl, nc, evV, wrapBits_eq, ↓reduceIte, Nat.reduceEqDiff, Nat.reduceAdd, Nat.reduceSub, Nat.reduceLeDiff, Nat.reduceLT, Nat.reduceBEq, reduceCtorEq, Int.reduceEq]
  refine evTs_ifg H (by rfl) ?_ ?_ <;> clear H <;> intro H
  · try simp only [↓wk, ↓wl, nc, evV, wrapBits_eq, ↓reduceIte, Nat.reduceEqDiff, Nat.reduceAdd, Nat.reduceSub, Nat.reduceLeDiff, Nat.reduceLT, Nat.reduceBEq, reduceCtorEq, Int.reduceEq]
    refine evTs_sat H (by rfl) (by rfl) ?_ <;> clear H <;> intro b_102 H
    try simp only [↓wk, ↓wl, nc, evV, wrapBits_eq, ↓reduceIte, Nat.reduceEqDiff, Nat.reduceAdd, Nat.reduceSub, Nat.reduceLeDiff, Nat.reduceLT, Nat.reduceBEq, reduceCtorEq, Int.reduceEq]
    refine evTs_pure hFn H (fun _ h => f36_ok h) (by rfl) (by rfl) (by rfl) (by rfl) (fun _ => rfl) ?_ <;> clear H <;> intro r_104 H
    try simp only [eL, ↓wk, ↓wl, nc, evV, wrapBits_eq, ↓reduceIte, Nat.reduceEqDiff, Nat.reduceAdd, Nat.reduceSub, Nat.reduceLeDiff, Nat.reduceLT, Nat.reduceBEq, reduceCtorEq, Int.reduceEq]
    refine AW.ret ?_
    cases H
    exact hQ _ _ _ _ (.inr rfl) (by simp only [resVs, omap, resV, ↓wk, ↓wl, nc, evV, wrapBits_eq, ↓reduceIte, Nat.reduceEqDiff, Nat.reduceAdd, Nat.reduceSub, Nat.reduceLeDiff, Nat.reduceLT, Nat.reduceBEq, reduceCtorEq, Int.reduceEq]; rfl) (hand_plain (by rfl)) (by first | exact Or.inl rfl | exact Or.inr rfl)
  · try simp only [↓wk, ↓wl, nc, evV, wrapBits_eq, ↓reduceIte, Nat.reduceEqDiff, Nat.reduceAdd, Nat.reduceSub, Nat.reduceLeDiff, Nat.reduceLT, Nat.reduceBEq, reduceCtorEq, Int.reduceEq]
    refine AW.ret ?_
    cases H
    exact hQ _ _ _ _ (.inr rfl) (by simp only [resVs, omap, resV, ↓wk, ↓wl, nc, evV, wrapBits_eq, ↓reduceIte, Nat.reduceEqDiff, Nat.reduceAdd, Nat.reduceSub, Nat.reduceLeDiff, Nat.reduceLT, Nat.reduceBEq, reduceCtorEq, Int.reduceEq]; rfl) (hand_plain (by rfl)) (by first | exact Or.inl rfl | exact Or.inr rfl)
def c37_0 : C := .seq (.reg [iI 6 (.mv (.t 0)), iI 7 (.load 0 (.t 1)), iI 8 (.nilchk (.t 7)), iI 9 (.faddr 0 (.t 8)), iI 10 (.load 0 (.t 9)), iI 11 (.load 0 (.t 2)), iI 12 (.load 0 (.t 1)), iI 13 (.nilchk (.t 12)), iI 14 (.faddr 1 (.t 13)), iI 15 (.load 0 (.t 14)), iI 16 (.sslice (.t 10) (some (.t 11)) (some (.t 15))), iI 17 (.load 0 (.t 2)), iI 18 (.build [(1, (.int .i64 0)), (1, (.str [])), (1, (.int .i64 0))] [(0, 0, (.t 6)), (1, 0, (.t 16)), (2, 0, (.t 17))]), iN (.store 3 (.t 4) (.t 18)), iI 5 (.mv (.c (.bool true)))]) .ret
def ir37 : C := .seq (.reg [iI 4 (.alloc [(1, (.int .i64 0)), (1, (.str [])), (1, (.int .i64 0))]), iI 5 (.mv (.c (.bool false)))]) c37_0
theorem fd37 : fd? Try.prog 37 = some (19, [.cell 4 3, .slot 5], ir37) := by kernel_rfl
noncomputable def f37p (kind_112 : Int) (c_113 : (List UInt8)) (c_114 : Int) (c_115 : Int) : Option (ApiToken × Bool) :=
  (slc? c_113 c_115 c_114).bind fun s_116 => (some ((ApiToken.mk kind_112 s_116 c_115), true))
theorem f37p_ok {kind_112 : Int} {c_113 : (List UInt8)} {c_114 : Int} {c_115 : Int} {r_ : ApiToken × Bool} (H : f37p kind_112 c_113 c_114 c_115 = some r_) : Pure Try.prog 37 [.int .i64 kind_112, .pro [.pro [.str c_113, .int .i64 c_114]], .pro [.int .i64 c_115]] (· = .tup [.agg [.int .i64 r_.1.fKind, .str r_.1.fText, .int .i64 r_.1.fAt], .bool r_.2]) := by
  refine Pure.walk3 fd37 none (Nat.le_of_ble_eq_true rfl) (by rfl) fun Q hQ => ?_
  simp only [f37p] at H
  refine AW.rseq ?_
  try simp only [↓wk, ↓wl, nc, evV, wrapBits_eq, ↓reduceIte, Nat.reduceEqDiff, Nat.reduceAdd, Nat.reduceSub, Nat.reduceLeDiff, Nat.reduceLT, Nat.reduceBEq, reduceCtorEq, Int.reduceEq]
  refine AW.rseq ?_
  try simp only [↓wk, ↓wl, nc, evV, wrapBits_eq, ↓reduceIte, Nat.reduceEqDiff, Nat.reduceAdd, Nat.reduceSub, Nat.reduceLeDiff, Nat.reduceLT, Nat.reduceBEq, reduceCtorEq, Int.reduceEq]
  refine evTs_sslc H (by rfl) (by simp only [loI, hiI, ↓wk, ↓wl, nc, evV, wrapBits_eq, ↓reduceIte, Nat.reduceEqDiff, Nat.reduceAdd, Nat.reduceSub, Nat.reduceLeDiff, Nat.reduceLT, Nat.reduceBEq, reduceCtorEq, Int.reduceEq]; rfl) (by simp only [loI, hiI, ↓wk, ↓wl, nc, evV, wrapBits_eq, ↓reduceIte, Nat.reduceEqDiff, Nat.reduceAdd, Nat.reduceSub, Nat.reduceLeDiff, Nat.reduceLT, Nat.reduceBEq, reduceCtorEq, Int.reduceEq]; rfl) ?_ <;> clear H <;> intro s_116 H
  try simp only [↓wk, ↓wl, nc, evV, wrapBits_eq, ↓reduceIte, Nat.reduceEqDiff, Nat.reduceAdd, Nat.reduceSub, Nat.reduceLeDiff, Nat.reduceLT, Nat.reduceBEq, reduceCtorEq, Int.reduceEq]
  refine AW.ret ?_
  cases H
  exact hQ _ _ _ _ (.inr rfl) (by simp only [resVs, omap, resV, ↓wk, ↓wl, nc, evV, wrapBits_eq, ↓reduceIte, Nat.reduceEqDiff, Nat.reduceAdd, Nat.reduceSub, Nat.reduceLeDiff, Nat.reduceLT, Nat.reduceBEq, reduceCtorEq, Int.reduceEq]; rfl) (hand_plain (by rfl)) (by first | exact Or.inl rfl | exact Or.inr rfl)
def c39_0 : C := .seq (.reg [iI 3 (.mv (.t 0)), iI 4 (.bin .geq (.t 3) (.c (.int .u8 97))), iI 5 (.mv (.t 4)), iG (some 6) 5 true (.mv (.t 0)), iG (some 7) 5 true (.bin .leq (.t 6) (.c (.int .u8 122))), iI 8 (.pick (.t 5) (.t 7) (.c (.bool false))), iI 9 (.mv (.t 8)), iG (some 10) 9 false (.mv (.t 0)), iG (some 11) 9 false (.bin .geq (.t 10) (.c (.int .u8 65))), iG (some 12) 9 false (.mv (.t 11)), iG (some 13) 12 true (.mv (.t 0)), iG (some 14) 12 true (.bin .leq (.t 13) (.c (.int .u8 90))), iG (some 15) 9 false (.pick (.t 12) (.t 14) (.c (.bool false))), iI 16 (.pick (.t 9) (.c (.bool true)) (.t 15)), iI 2 (.mv (.t 16))]) .ret
def ir39 : C := .seq (.reg [iI 2 (.mv (.c (.bool false)))]) c39_0
theorem fd39 : fd? Try.prog 39 = some (17, [.slot 2], ir39) := by kernel_rfl
noncomputable def f39 (c_124 : Int) : Option (Bool) :=
  (if (decide (97 ≤ c_124)) = true then (if (decide (c_124 ≤ 122)) = true then (some true) else (if (decide (65 ≤ c_124)) = true then (some (decide (c_124 ≤ 90))) else (some false))) else (if (decide (65 ≤ c_124)) = true then (some (decide (c_124 ≤ 90))) else (some false)))
theorem f39_ok {c_124 : Int} {r_ : Bool} (H : f39 c_124 = some r_) : Pure Try.prog 39 [.int .u8 c_124] (· = .bool r_) := by
  refine Pure.walk3 fd39 none (Nat.le_of_ble_eq_true rfl) (by rfl) fun Q hQ => ?_
  simp only [f39] at H
  refine AW.rseq ?_
  try simp only [↓wk, ↓wl, nc, evV, wrapBits_eq, ↓reduceIte, Nat.reduceEqDiff, Nat.reduceAdd, Nat.reduceSub, Nat.reduceLeDiff, Nat.reduceLT, Nat.reduceBEq, reduceCtorEq, Int.reduceEq]
  refine AW.rseq ?_
  try simp only [↓wk, ↓wl, nc, evV, wrapBits_eq, ↓reduceIte, Nat.reduceEqDiff, Nat.reduceAdd, Nat.reduceSub, Nat.reduceLeDiff, Nat.reduceLT, Nat.reduceBEq, reduceCtorEq, Int.reduceEq]
  refine evTs_ifg H (by rfl) ?_ ?_ <;> clear H <;> intro H
  · try simp only [↓wk, ↓wl, nc, evV, wrapBits_eq, ↓reduceIte, Nat.reduceEqDiff, Nat.reduceAdd, Nat.reduceSub, Nat.reduceLeDiff, Nat.reduceLT, Nat.reduceBEq, reduceCtorEq, Int.reduceEq]
    refine evTs_ifg H (by rfl) ?_ ?_ <;> clear H <;> intro H
    · try simp only [↓wk, ↓wl, nc, evV, wrapBits_eq, ↓reduceIte, Nat.reduceEqDiff, Nat.reduceAdd, Nat.reduceSub, Nat.reduceLeDiff, Nat.reduceLT, Nat.reduceBEq, reduceCtorEq, Int.reduceEq]
      refine AW.ret ?_
      cases H
      exact hQ _ _ _ _ (.inr rfl) (by simp only [resVs, omap, resV, ↓wk, ↓wl, nc, evV, wrapBits_eq, ↓reduceIte, Nat.reduceEqDiff, Nat.reduceAdd, Nat.reduceSub, Nat.reduceLeDiff, Nat.reduceLT, Nat.reduceBEq, reduceCtorEq, Int.reduceEq]; rfl) (hand_plain (by rfl)) (by first | exact Or.inl rfl | exact Or.inr rfl)
    · try simp only [↓wk, ↓wl, nc, evV, wrapBits_eq, ↓reduceIte, Nat.reduceEqDiff, Nat.reduceAdd, Nat.reduceSub, Nat.reduceLeDiff, Nat.reduceLT, Nat.reduceBEq, reduceCtorEq, Int.reduceEq]
      refine evTs_ifg H (by rfl) ?_ ?_ <;> clear H <;> intro H
      · try simp only [↓wk, ↓wl, nc, evV, wrapBits_eq, ↓reduceIte, Nat.reduceEqDiff, Nat.reduceAdd, Nat.reduceSub, Nat.reduceLeDiff, Nat.reduceLT, Nat.reduceBEq, reduceCtorEq, Int.reduceEq]
        refine AW.ret ?_
        cases H
        exact hQ _ _ _ _ (.inr rfl) (by simp only [resVs, omap, resV, ↓wk, ↓wl, nc, evV, wrapBits_eq, ↓reduceIte, Nat.reduceEqDiff, Nat.reduceAdd, Nat.reduceSub, Nat.reduceLeDiff, Nat.reduceLT, Nat.reduceBEq, reduceCtorEq, Int.reduceEq]; rfl) (hand_plain (by rfl)) (by first | exact Or.inl rfl | exact Or.inr rfl)
      · try simp only [↓wk, ↓wl, nc, evV, wrapBits_eq, ↓reduceIte, Nat.reduceEqDiff, Nat.reduceAdd, Nat.reduceSub, Nat.reduceLeDiff, Nat.reduceLT, Nat.reduceBEq, reduceCtorEq, Int.reduceEq]
        refine AW.ret ?_
        cases H
        exact hQ _ _ _ _ (.inr rfl) (by simp only [resVs, omap, resV, ↓wk, ↓wl, nc, evV, wrapBits_eq, ↓reduceIte, Nat.reduceEqDiff, Nat.reduceAdd, Nat.reduceSub, Nat.reduceLeDiff, Nat.reduceLT, Nat.reduceBEq, reduceCtorEq, Int.reduceEq]; rfl) (hand_plain (by rfl)) (by first | exact Or.inl rfl | exact Or.inr rfl)
  · try simp only [↓wk, ↓wl, nc, evV, wrapBits_eq, ↓reduceIte, Nat.reduceEqDiff, Nat.reduceAdd, Nat.reduceSub, Nat.reduceLeDiff, Nat.reduceLT, Nat.reduceBEq, reduceCtorEq, Int.reduceEq]
    refine evTs_ifg H (by rfl) ?_ ?_ <;> clear H <;> intro H
    · try simp only [↓wk, ↓wl, nc, evV, wrapBits_eq, ↓reduceIte, Nat.reduceEqDiff, Nat.reduceAdd, Nat.reduceSub, Nat.reduceLeDiff, Nat.reduceLT, Nat.reduceBEq, reduceCtorEq, Int.reduceEq]
      refine AW.ret ?_
      cases H
      exact hQ _ _ _ _ (.inr rfl) (by simp only [resVs, omap, resV, ↓wk, ↓wl, nc, evV, wrapBits_eq, ↓reduceIte, Nat.reduceEqDiff, Nat.reduceAdd, Nat.reduceSub, Nat.reduceLeDiff, Nat.reduceLT, Nat.reduceBEq, reduceCtorEq, Int.reduceEq]; rfl) (hand_plain (by rfl)) (by first | exact Or.inl rfl | exact Or.inr rfl)
    · try simp only [↓wk, ↓wl, nc, evV, wrapBits_eq, ↓reduceIte, Nat.reduceEqDiff, Nat.reduceAdd, Nat.reduceSub, Nat.reduceLeDiff, Nat.reduceLT, Nat.reduceBEq, reduceCtorEq, Int.reduceEq]
      refine AW.ret ?_
      cases H
      exact hQ _ _ _ _ (.inr rfl) (by simp only [resVs, omap, resV, ↓wk, ↓wl, nc, evV, wrapBits_eq, ↓reduceIte, Nat.reduceEqDiff, Nat.reduceAdd, Nat.reduceSub, Nat.reduceLeDiff, Nat.reduceLT, Nat.reduceBEq, reduceCtorEq, Int.reduceEq]; rfl) (hand_plain (by rfl)) (by first | exact Or.inl rfl | exact Or.inr rfl)
noncomputable def f38_39p (r_120 : (List UInt8)) (r_121 : Int) (ahead_122 : Int) : Option (Bool) :=
  (if (decide ((IntKind.i64.wrap (r_121 + ahead_122)) < ((r_120.length : Nat) : Int))) = true then (at? r_120 (IntKind.i64.wrap (r_121 + ahead_122))).bind fun b_123 => (f39 (b_123.toNat : Int)).bind fun r_125 => (some r_125) else (some false))
theorem f38_39p_ok {r_120 : (List UInt8)} {r_121 : Int} {ahead_122 : Int} {r_ : Bool} (H : f38_39p r_120 r_121 ahead_122 = some r_) : Pure Try.prog 38 [.pro [.str r_120, .int .i64 r_121], .int .i64 ahead_122, .fn 39 []] (· = .bool r_) := by
  refine Pure.walk3 fd38 none (Nat.le_of_ble_eq_true rfl) (by rfl) fun Q hQ => ?_
  simp only [f38_39p] at H
  refine AW.rseq ?_
  try simp only [↓wk, ↓wl, nc, evV, wrapBits_eq, ↓reduceIte, Nat.reduceEqDiff, Nat.reduceAdd, Nat.reduceSub, Nat.reduceLeDiff, Nat.reduceLT, Nat.reduceBEq, reduceCtorEq, Int.reduceEq]
  refine AW.rseq ?_
  try simp only [↓wk, ↓wl, nc, evV, wrapBits_eq, ↓reduceIte, Nat.reduceEqDiff, Nat.reduceAdd, Nat.reduceSub, Nat.reduceLeDiff, Nat.reduceLT, Nat.reduceBEq, reduceCtorEq, Int.reduceEq]
  refine evTs_ifg H (by rfl) ?_ ?_ <;> clear H <;> intro H
  · try simp only [↓wk, ↓wl, nc, evV, wrapBits_eq, ↓reduceIte, Nat.reduceEqDiff, Nat.reduceAdd, Nat.reduceSub, Nat.reduceLeDiff, Nat.reduceLT, Nat.reduceBEq, reduceCtorEq, Int.reduceEq]
    refine evTs_sat H (by rfl) (by rfl) ?_ <;> clear H <;> intro b_123 H
    try simp only [↓wk, ↓wl, nc, evV, wrapBits_eq, ↓reduceIte, Nat.reduceEqDiff, Nat.reduceAdd, Nat.reduceSub, Nat.reduceLeDiff, Nat.reduceLT, Nat.reduceBEq, reduceCtorEq, Int.reduceEq]
    refine evTs_pure hFn H (fun _ h => f39_ok h) (by rfl) (by rfl) (by rfl) (by rfl) (fun _ => rfl) ?_ <;> clear H <;> intro r_125 H
    try simp only [eL, ↓wk, ↓wl, nc, evV, wrapBits_eq, ↓reduceIte, Nat.reduceEqDiff, Nat.reduceAdd, Nat.reduceSub, Nat.reduceLeDiff, Nat.reduceLT, Nat.reduceBEq, reduceCtorEq, Int.reduceEq]
    refine AW.ret ?_
    cases H
    exact hQ _ _ _ _ (.inr rfl) (by simp only [resVs, omap, resV, ↓wk, ↓wl, nc, evV, wrapBits_eq, ↓reduceIte, Nat.reduceEqDiff, Nat.reduceAdd, Nat.reduceSub, Nat.reduceLeDiff, Nat.reduceLT, Nat.reduceBEq, reduceCtorEq, Int.reduceEq]; rfl) (hand_plain (by rfl)) (by first | exact Or.inl rfl | exact Or.inr rfl)
  · try simp only [↓wk, ↓wl, nc, evV, wrapBits_eq, ↓reduceIte, Nat.reduceEqDiff, Nat.reduceAdd, Nat.reduceSub, Nat.reduceLeDiff, Nat.reduceLT, Nat.reduceBEq, reduceCtorEq, Int.reduceEq]
    refine AW.ret ?_
    cases H
    exact hQ _ _ _ _ (.inr rfl) (by simp only [resVs, omap, resV, ↓wk, ↓wl, nc, evV, wrapBits_eq, ↓reduceIte, Nat.reduceEqDiff, Nat.reduceAdd, Nat.reduceSub, Nat.reduceLeDiff, Nat.reduceLT, Nat.reduceBEq, reduceCtorEq, Int.reduceEq]; rfl) (hand_plain (by rfl)) (by first | exact Or.inl rfl | exact Or.inr rfl)
def c44_0 : C := .seq (.reg [iI 3 (.mv (.t 0)), iI 4 (.bin .geq (.t 3) (.c (.int .u8 48))), iI 5 (.mv (.t 4)), iG (some 6) 5 true (.mv (.t 0)), iG (some 7) 5 true (.bin .leq (.t 6) (.c (.int .u8 57))), iI 8 (.pick (.t 5) (.t 7) (.c (.bool false))), iI 2 (.mv (.t 8))]) .ret
def ir44 : C := .seq (.reg [iI 2 (.mv (.c (.bool false)))]) c44_0
theorem fd44 : fd? Try.prog 44 = some (9, [.slot 2], ir44) := by kernel_rfl
noncomputable def f44 (c_145 : Int) : Option (Bool) :=
  (if (decide (48 ≤ c_145)) = true then (some (decide (c_145 ≤ 57))) else (some false))
theorem f44_ok {c_145 : Int} {r_ : Bool} (H : f44 c_145 = some r_) : Pure Try.prog 44 [.int .u8 c_145] (· = .bool r_) := by
  refine Pure.walk3 fd44 none (Nat.le_of_ble_eq_true rfl) (by rfl) fun Q hQ => ?_
  simp only [f44] at H
  refine AW.rseq ?_
  try simp only [↓wk, ↓wl, nc, evV, wrapBits_eq, ↓reduceIte, Nat.reduceEqDiff, Nat.reduceAdd, Nat.reduceSub, Nat.reduceLeDiff, Nat.reduceLT, Nat.reduceBEq, reduceCtorEq, Int.reduceEq]
  refine AW.rseq ?_
  try simp only [↓wk, ↓wl, nc, evV, wrapBits_eq, ↓reduceIte, Nat.reduceEqDiff, Nat.reduceAdd, Nat.reduceSub, Nat.reduceLeDiff, Nat.reduceLT, Nat.reduceBEq, reduceCtorEq, Int.reduceEq]
  refine evTs_ifg H (by rfl) ?_ ?_ <;> clear H <;> intro H
  · try simp only [↓wk, ↓wl, nc, evV, wrapBits_eq, ↓reduceIte, Nat.reduceEqDiff, Nat.reduceAdd, Nat.reduceSub, Nat.reduceLeDiff, Nat.reduceLT, Nat.reduceBEq, reduceCtorEq, Int.reduceEq]
    refine AW.ret ?_
    cases H
    exact hQ _ _ _ _ (.inr rfl) (by simp only [resVs, omap, resV, ↓wk, ↓wl, nc, evV, wrapBits_eq, ↓reduceIte, Nat.reduceEqDiff, Nat.reduceAdd, Nat.reduceSub, Nat.reduceLeDiff, Nat.reduceLT, Nat.reduceBEq, reduceCtorEq, Int.reduceEq]; rfl) (hand_plain (by rfl)) (by first | exact Or.inl rfl | exact Or.inr rfl)
  · try simp only [↓wk, ↓wl, nc, evV, wrapBits_eq, ↓reduceIte, Nat.reduceEqDiff, Nat.reduceAdd, Nat.reduceSub, Nat.reduceLeDiff, Nat.reduceLT, Nat.reduceBEq, reduceCtorEq, Int.reduceEq]
    refine AW.ret ?_
    cases H
    exact hQ _ _ _ _ (.inr rfl) (by simp only [resVs, omap, resV, ↓wk, ↓wl, nc, evV, wrapBits_eq, ↓reduceIte, Nat.reduceEqDiff, Nat.reduceAdd, Nat.reduceSub, Nat.reduceLeDiff, Nat.reduceLT, Nat.reduceBEq, reduceCtorEq, Int.reduceEq]; rfl) (hand_plain (by rfl)) (by first | exact Or.inl rfl | exact Or.inr rfl)
def c40_0 : C := .seq (.reg [iI 3 (.mv (.t 0)), iI 4 (.call (.c (.fn 39 [])) [(.t 3)]), iI 5 (.mv (.t 4)), iG (some 6) 5 false (.mv (.t 0)), iG (some 7) 5 false (.call (.c (.fn 44 [])) [(.t 6)]), iI 8 (.pick (.t 5) (.c (.bool true)) (.t 7)), iI 9 (.mv (.t 8)), iG (some 10) 9 false (.mv (.t 0)), iG (some 11) 9 false (.bin .eql (.t 10) (.c (.int .u8 95))), iI 12 (.pick (.t 9) (.c (.bool true)) (.t 11)), iI 2 (.mv (.t 12))]) .ret
def ir40 : C := .seq (.reg [iI 2 (.mv (.c (.bool false)))]) c40_0
theorem fd40 : fd? Try.prog 40 = some (13, [.slot 2], ir40) := by kernel_rfl
noncomputable def f40 (c_143 : Int) : Option (Bool) :=
  (f39 c_143).bind fun r_144 => (if r_144 = true then (some true) else (f44 c_143).bind fun r_146 => (if r_146 = true then (some true) else (some (decide (c_143 = 95)))))
theorem f40_ok {c_143 : Int} {r_ : Bool} (H : f40 c_143 = some r_) : Pure Try.prog 40 [.int .u8 c_143] (· = .bool r_) := by
  refine Pure.walk3 fd40 none (Nat.le_of_ble_eq_true rfl) (by rfl) fun Q hQ => ?_
  simp only [f40] at H
  refine AW.rseq ?_
  try simp only [↓wk, ↓wl, nc, evV, wrapBits_eq, ↓reduceIte, Nat.reduceEqDiff, Nat.reduceAdd, Nat.reduceSub, Nat.reduceLeDiff, Nat.reduceLT, Nat.reduceBEq, reduceCtorEq, Int.reduceEq]
  refine AW.rseq ?_
  try simp only [↓wk, ↓wl, nc, evV, wrapBits_eq, ↓reduceIte, Nat.reduceEqDiff, Nat.reduceAdd, Nat.reduceSub, Nat.reduceLeDiff, Nat.reduceLT, Nat.reduceBEq, reduceCtorEq, Int.reduceEq]
  refine evTs_pure hFn H (fun _ h => f39_ok h) (by rfl) (by rfl) (by rfl) (by rfl) (fun _ => rfl) ?_ <;> clear H <;> intro r_144 H
  try simp only [eL, ↓wk, ↓wl, nc, evV, wrapBits_eq, ↓reduceIte, Nat.reduceEqDiff, Nat.reduceAdd, Nat.reduceSub, Nat.reduceLeDiff, Nat.reduceLT, Nat.reduceBEq, reduceCtorEq, Int.reduceEq]
  refine evTs_ifg H (by rfl) ?_ ?_ <;> clear H <;> intro H
  · try simp only [↓wk, ↓wl, nc, evV, wrapBits_eq, ↓reduceIte, Nat.reduceEqDiff, Nat.reduceAdd, Nat.reduceSub, Nat.reduceLeDiff, Nat.reduceLT, Nat.reduceBEq, reduceCtorEq, Int.reduceEq]
    refine AW.ret ?_
    cases H
    exact hQ _ _ _ _ (.inr rfl) (by simp only [resVs, omap, resV, ↓wk, ↓wl, nc, evV, wrapBits_eq, ↓reduceIte, Nat.reduceEqDiff, Nat.reduceAdd, Nat.reduceSub, Nat.reduceLeDiff, Nat.reduceLT, Nat.reduceBEq, reduceCtorEq, Int.reduceEq]; rfl) (hand_plain (by rfl)) (by first | exact Or.inl rfl | exact Or.inr rfl)
  · try simp only [↓wk, ↓wl, nc, evV, wrapBits_eq, ↓reduceIte, Nat.reduceEqDiff, Nat.reduceAdd, Nat.reduceSub, Nat.reduceLeDiff, Nat.reduceLT, Nat.reduceBEq, reduceCtorEq, Int.reduceEq]
    refine evTs_pure hFn H (fun _ h => f44_ok h) (by rfl) (by rfl) (by rfl) (by rfl) (fun _ => rfl) ?_ <;> clear H <;> intro r_146 H
    try simp only [eL, ↓wk, ↓wl, nc, evV, wrapBits_eq, ↓reduceIte, Nat.reduceEqDiff, Nat.reduceAdd, Nat.reduceSub, Nat.reduceLeDiff, Nat.reduceLT, Nat.reduceBEq, reduceCtorEq, Int.reduceEq]
    refine evTs_ifg H (by rfl) ?_ ?_ <;> clear H <;> intro H
    · try simp only [↓wk, ↓wl, nc, evV, wrapBits_eq, ↓reduceIte, Nat.reduceEqDiff, Nat.reduceAdd, Nat.reduceSub, Nat.reduceLeDiff, Nat.reduceLT, Nat.reduceBEq, reduceCtorEq, Int.reduceEq]
      refine AW.ret ?_
      cases H
      exact hQ _ _ _ _ (.inr rfl) (by simp only [resVs, omap, resV, ↓wk, ↓wl, nc, evV, wrapBits_eq, ↓reduceIte, Nat.reduceEqDiff, Nat.reduceAdd, Nat.reduceSub, Nat.reduceLeDiff, Nat.reduceLT, Nat.reduceBEq, reduceCtorEq, Int.reduceEq]; rfl) (hand_plain (by rfl)) (by first | exact Or.inl rfl | exact Or.inr rfl)
    · try simp only [↓wk, ↓wl, nc, evV, wrapBits_eq, ↓reduceIte, Nat.reduceEqDiff, Nat.reduceAdd, Nat.reduceSub, Nat.reduceLeDiff, Nat.reduceLT, Nat.reduceBEq, reduceCtorEq, Int.reduceEq]
      refine AW.ret ?_
      cases H
      exact hQ _ _ _ _ (.inr rfl) (by simp only [resVs, omap, resV, ↓wk, ↓wl, nc, evV, wrapBits_eq, ↓reduceIte, Nat.reduceEqDiff, Nat.reduceAdd, Nat.reduceSub, Nat.reduceLeDiff, Nat.reduceLT, Nat.reduceBEq, reduceCtorEq, Int.reduceEq]; rfl) (hand_plain (by rfl)) (by first | exact Or.inl rfl | exact Or.inr rfl)
noncomputable def f38_40p (r_139 : (List UInt8)) (r_140 : Int) (ahead_141 : Int) : Option (Bool) :=
  (if (decide ((IntKind.i64.wrap (r_140 + ahead_141)) < ((r_139.length : Nat) : Int))) = true then (at? r_139 (IntKind.i64.wrap (r_140 + ahead_141))).bind fun b_142 => (f40 (b_142.toNat : Int)).bind fun r_147 => (some r_147) else (some false))
theorem f38_40p_ok {r_139 : (List UInt8)} {r_140 : Int} {ahead_141 : Int} {r_ : Bool} (H : f38_40p r_139 r_140 ahead_141 = some r_) : Pure Try.prog 38 [.pro [.str r_139, .int .i64 r_140], .int .i64 ahead_141, .fn 40 []] (· = .bool r_) := by
  refine Pure.walk3 fd38 none (Nat.le_of_ble_eq_true rfl) (by rfl) fun Q hQ => ?_
  simp only [f38_40p] at H
  refine AW.rseq ?_
  try simp only [↓wk, ↓wl, nc, evV, wrapBits_eq, ↓reduceIte, Nat.reduceEqDiff, Nat.reduceAdd, Nat.reduceSub, Nat.reduceLeDiff, Nat.reduceLT, Nat.reduceBEq, reduceCtorEq, Int.reduceEq]
  refine AW.rseq ?_
  try simp only [↓wk, ↓wl, nc, evV, wrapBits_eq, ↓reduceIte, Nat.reduceEqDiff, Nat.reduceAdd, Nat.reduceSub, Nat.reduceLeDiff, Nat.reduceLT, Nat.reduceBEq, reduceCtorEq, Int.reduceEq]
  refine evTs_ifg H (by rfl) ?_ ?_ <;> clear H <;> intro H
  · try simp only [↓wk, ↓wl, nc, evV, wrapBits_eq, ↓reduceIte, Nat.reduceEqDiff, Nat.reduceAdd, Nat.reduceSub, Nat.reduceLeDiff, Nat.reduceLT, Nat.reduceBEq, reduceCtorEq, Int.reduceEq]
    refine evTs_sat H (by rfl) (by rfl) ?_ <;> clear H <;> intro b_142 H
    try simp only [↓wk, ↓wl, nc, evV, wrapBits_eq, ↓reduceIte, Nat.reduceEqDiff, Nat.reduceAdd, Nat.reduceSub, Nat.reduceLeDiff, Nat.reduceLT, Nat.reduceBEq, reduceCtorEq, Int.reduceEq]
    refine evTs_pure hFn H (fun _ h => f40_ok h) (by rfl) (by rfl) (by rfl) (by rfl) (fun _ => rfl) ?_ <;> clear H <;> intro r_147 H
    try simp only [eL, ↓wk, ↓wl, nc, evV, wrapBits_eq, ↓reduceIte, Nat.reduceEqDiff, Nat.reduceAdd, Nat.reduceSub, Nat.reduceLeDiff, Nat.reduceLT, Nat.reduceBEq, reduceCtorEq, Int.reduceEq]
    refine AW.ret ?_
    cases H
    exact hQ _ _ _ _ (.inr rfl) (by simp only [resVs, omap, resV, ↓wk, ↓wl, nc, evV, wrapBits_eq, ↓reduceIte, Nat.reduceEqDiff, Nat.reduceAdd, Nat.reduceSub, Nat.reduceLeDiff, Nat.reduceLT, Nat.reduceBEq, reduceCtorEq, Int.reduceEq]; rfl) (hand_plain (by rfl)) (by first | exact Or.inl rfl | exact Or.inr rfl)
  · try simp only [↓wk, ↓wl, nc, evV, wrapBits_eq, ↓reduceIte, Nat.reduceEqDiff, Nat.reduceAdd, Nat.reduceSub, Nat.reduceLeDiff, Nat.reduceLT, Nat.reduceBEq, reduceCtorEq, Int.reduceEq]
    refine AW.ret ?_
    cases H
    exact hQ _ _ _ _ (.inr rfl) (by simp only [resVs, omap, resV, ↓wk, ↓wl, nc, evV, wrapBits_eq, ↓reduceIte, Nat.reduceEqDiff, Nat.reduceAdd, Nat.reduceSub, Nat.reduceLeDiff, Nat.reduceLT, Nat.reduceBEq, reduceCtorEq, Int.reduceEq]; rfl) (hand_plain (by rfl)) (by first | exact Or.inl rfl | exact Or.inr rfl)
noncomputable def f41_L1 (s_161 : (List UInt8)) : Lp (Int × (List Int)) ((List Int)) where
  body := fun (v_170, b_171) => (if (decide (v_170 < (((b2i s_161).length : Nat) : Int))) = true then (at? b_171 v_170).bind fun x_176 => (if (decide (65 ≤ x_176)) = true then (if (decide (x_176 ≤ 90)) = true then (at? b_171 v_170).bind fun x_177 => (some (.next ((IntKind.i64.wrap (v_170 + 1)), (b_171.set v_170.toNat (IntKind.u8.wrap ((IntKind.u8.wrap (x_176 + 97)) - 65)))))) else (some (.next ((IntKind.i64.wrap (v_170 + 1)), b_171)))) else (some (.next ((IntKind.i64.wrap (v_170 + 1)), b_171)))) else (some (.brk b_171)))
  cst := fun (v_170, b_171) => ⟨put (put (put (put (fun _ => .junk) 10 (.int .i64 v_170)) 9 (.int .i64 (((b2i s_161).length : Nat) : Int))) 8 (.row 0 0 0 b_171.length)) 3 (.row 0 0 0 b_171.length), [.els 0 (b_171.map (AV.int .u8))]⟩
def c41_0 : C := .cond (.t 20) (.reg [iI 21 (.mv (.t 3)), iI 22 (.mv (.t 4)), iI 23 (.mv (.t 5)), iI 24 (.bin .add (.t 23) (.c (.int .u8 97))), iI 25 (.bin .sub (.t 24) (.c (.int .u8 65))), iI 26 (.iaddr 0 (.t 21) (.t 22)), iN (.store 0 (.t 26) (.t 25))]) (.skip)
def c41_1 : C := .seq (.reg [iI 15 (.mv (.t 5)), iI 16 (.bin .geq (.t 15) (.c (.int .u8 65))), iI 17 (.mv (.t 16)), iG (some 18) 17 true (.mv (.t 5)), iG (some 19) 17 true (.bin .leq (.t 18) (.c (.int .u8 90))), iI 20 (.pick (.t 17) (.t 19) (.c (.bool false)))]) c41_0
def c41_2 : C := .reg [iI 27 (.bin .add (.t 10) (.c (.int .i64 1))), iI 10 (.mv (.t 27))]
def c41_3 : C := .seq (.block 1 (.seq (.reg [iI 12 (.mv (.t 10)), iI 13 (.iaddr 0 (.t 8) (.t 10)), iI 14 (.load 0 (.t 13)), iI 4 (.mv (.t 12)), iI 5 (.mv (.t 14))]) c41_1)) c41_2
def c41_4 : C := .seq (.cond (.t 11) (.skip) (.exit 0)) c41_3
def c41_5 : C := .block 0 (.loop (.seq (.reg [iI 11 (.bin .lss (.t 10) (.t 9))]) c41_4))
def c41_6 : C := .seq (.reg [iI 28 (.mv (.t 3)), iI 29 (.cstr (.t 28)), iI 2 (.mv (.t 29))]) .ret
def c41_7 : C := .seq (.seq (.reg [iI 8 (.mv (.t 3)), iI 9 (.len 0 (.t 8)), iI 10 (.mv (.c (.int .i64 0)))]) c41_5) c41_6
def c41_8 : C := .seq (.reg [iI 6 (.mv (.t 0)), iI 7 (.cbytes (.t 6)), iI 3 (.mv (.t 7))]) c41_7
def ir41 : C := .seq (.reg [iI 2 (.mv (.c (.str [])))]) c41_8
theorem fd41 : fd? Try.prog 41 = some (30, [.slot 2], ir41) := by kernel_rfl
noncomputable def f41 (s_161 : (List UInt8)) : Option ((List UInt8)) :=
  (room? s_161.length).bind fun _ => (Lp.run (f41_L1 s_161) (0, (b2i s_161))).bind fun b_175 => (some (b_175.map b8))
theorem f41_ok {s_161 : (List UInt8)} {r_ : (List UInt8)} (H : f41 s_161 = some r_) : Pure Try.prog 41 [.str s_161] (· = .str r_) := by
  refine Pure.walk3 fd41 none (Nat.le_of_ble_eq_true rfl) (by rfl) fun Q hQ => ?_
  simp only [f41] at H
  refine AW.rseq ?_
  try simp only [↓wk, ↓wl, ncs, evV, wrapBits_eq, ↓reduceIte, Nat.reduceEqDiff, Nat.reduceAdd, Nat.reduceSub, Nat.reduceLeDiff, Nat.reduceLT, Nat.reduceBEq, reduceCtorEq, Int.reduceEq]
  refine AW.rseq ?_
  try simp only [↓wk, ↓wl, ncs, evV, wrapBits_eq, ↓reduceIte, Nat.reduceEqDiff, Nat.reduceAdd, Nat.reduceSub, Nat.reduceLeDiff, Nat.reduceLT, Nat.reduceBEq, reduceCtorEq, Int.reduceEq]
  refine evTs_cbytes H (by rfl) ?_ <;> clear H <;> intro H
  try simp only [↓wk, ↓wl, ncs, evV, wrapBits_eq, ↓reduceIte, Nat.reduceEqDiff, Nat.reduceAdd, Nat.reduceSub, Nat.reduceLeDiff, Nat.reduceLT, Nat.reduceBEq, reduceCtorEq, Int.reduceEq]
  refine AW.sseq ?_
  refine AW.rseq ?_
  try simp only [↓wk, ↓wl, ncs, evV, wrapBits_eq, ↓reduceIte, Nat.reduceEqDiff, Nat.reduceAdd, Nat.reduceSub, Nat.reduceLeDiff, Nat.reduceLT, Nat.reduceBEq, reduceCtorEq, Int.reduceEq]
  refine AW.bend ?_
  refine AW.iter H ((Le.none [0] [3, 8, 9, 10] (by decide) (by simp only [f41_L1, List.length_set, Option.map_some, restrict_eq, renS_nil, renS_cons, renB_els, renB_cel, renB_dead, deep_eq, map_ren_enc, ren_agg', ren_tup', ren_fn', ren_int', ren_bool', ren_str', ren_sl', ren_pro', ren_nilp', ren_nilfn', ren_junk', ren_ptr', ren_row', ren_arow', ren_eptr', vm, List.idxOf?_cons, List.idxOf?_nil, beq_self_eq_true, Option.map_none, List.getD_cons_zero, List.getD_cons_succ, ↓wk, ↓wl, nc, evV, wrapBits_eq, ↓reduceIte, Nat.reduceEqDiff, Nat.reduceAdd, Nat.reduceSub, Nat.reduceLeDiff, Nat.reduceLT, Nat.reduceBEq, reduceCtorEq, Int.reduceEq] <;> rfl))) ?_ <;> clear H
  rintro ⟨v_170, b_171⟩ x_ st0_ H hst_
  simp only [f41_L1] at H hst_
  subst hst_
  refine AW.rseq ?_
  try simp only [↓wk, ↓wl, ncs, evV, wrapBits_eq, ↓reduceIte, Nat.reduceEqDiff, Nat.reduceAdd, Nat.reduceSub, Nat.reduceLeDiff, Nat.reduceLT, Nat.reduceBEq, reduceCtorEq, Int.reduceEq]
  refine AW.sseq ?_
  refine AW.ifc H (by rfl) ?_ ?_ <;> clear H <;> intro H
  · refine AW.skip ?_
    refine seqQ.norm ?_
    refine AW.bseq ?_
    refine AW.rseq ?_
    try simp only [↓wk, ↓wl, ncs, evV, wrapBits_eq, ↓reduceIte, Nat.reduceEqDiff, Nat.reduceAdd, Nat.reduceSub, Nat.reduceLeDiff, Nat.reduceLT, Nat.reduceBEq, reduceCtorEq, Int.reduceEq]
    refine evTs_atr (enc := (AV.int .u8)) H (by rfl) (by first | rfl | simp only [List.length_set]) (by rfl) ?_ <;> clear H <;> intro x_176 hx_176 H
    try simp only [↓wk, ↓wl, ncs, evV, wrapBits_eq, ↓reduceIte, Nat.reduceEqDiff, Nat.reduceAdd, Nat.reduceSub, Nat.reduceLeDiff, Nat.reduceLT, Nat.reduceBEq, reduceCtorEq, Int.reduceEq, hx_176]
    refine AW.rseq ?_
    try simp only [↓wk, ↓wl, ncs, evV, wrapBits_eq, ↓reduceIte, Nat.reduceEqDiff, Nat.reduceAdd, Nat.reduceSub, Nat.reduceLeDiff, Nat.reduceLT, Nat.reduceBEq, reduceCtorEq, Int.reduceEq, hx_176]
    refine evTs_ifg H (by rfl) ?_ ?_ <;> clear H <;> intro H
    · try simp only [↓wk, ↓wl, ncs, evV, wrapBits_eq, ↓reduceIte, Nat.reduceEqDiff, Nat.reduceAdd, Nat.reduceSub, Nat.reduceLeDiff, Nat.reduceLT, Nat.reduceBEq, reduceCtorEq, Int.reduceEq, hx_176]
      refine AW.ifc H (by rfl) ?_ ?_ <;> clear H <;> intro H
      · refine AW.rend ?_
        try simp only [↓wk, ↓wl, ncs, evV, wrapBits_eq, ↓reduceIte, Nat.reduceEqDiff, Nat.reduceAdd, Nat.reduceSub, Nat.reduceLeDiff, Nat.reduceLT, Nat.reduceBEq, reduceCtorEq, Int.reduceEq, hx_176]
        refine evTs_atr (enc := (AV.int .u8)) H (by rfl) (by first | rfl | simp only [List.length_set, hx_176]) (by rfl) ?_ <;> clear H <;> intro x_177 hx_177 H
        try simp only [↓wk, ↓wl, ncs, evV, wrapBits_eq, ↓reduceIte, Nat.reduceEqDiff, Nat.reduceAdd, Nat.reduceSub, Nat.reduceLeDiff, Nat.reduceLT, Nat.reduceBEq, reduceCtorEq, Int.reduceEq, hx_176, hx_177]
        refine evTs_stW (enc := (AV.int .u8)) (IntKind.u8.wrap ((IntKind.u8.wrap (x_176 + 97)) - 65)) (by rfl) (by rfl) (by first | exact lt_map hx_177 | (simp only [List.length_set, hx_176]; exact lt_map hx_177)) (fun _ => by rfl) ?_
        have hw_178 := set_get hx_177 (IntKind.u8.wrap ((IntKind.u8.wrap (x_176 + 97)) - 65))
        try simp only [↓wk, ↓wl, ncs, evV, wrapBits_eq, ↓reduceIte, Nat.reduceEqDiff, Nat.reduceAdd, Nat.reduceSub, Nat.reduceLeDiff, Nat.reduceLT, Nat.reduceBEq, reduceCtorEq, Int.reduceEq, hx_176, hx_177, hw_178]
        refine blkQ.norm ?_
        refine AW.rend ?_
        try simp only [↓wk, ↓wl, ncs, evV, wrapBits_eq, ↓reduceIte, Nat.reduceEqDiff, Nat.reduceAdd, Nat.reduceSub, Nat.reduceLeDiff, Nat.reduceLT, Nat.reduceBEq, reduceCtorEq, Int.reduceEq, hx_176, hx_177, hw_178]
        exact loopQ.next H ((Le.none [0] [3, 8, 9, 10] (by decide) (by simp only [f41_L1, List.length_set, Option.map_some, restrict_eq, renS_nil, renS_cons, renB_els, renB_cel, renB_dead, deep_eq, map_ren_enc, ren_agg', ren_tup', ren_fn', ren_int', ren_bool', ren_str', ren_sl', ren_pro', ren_nilp', ren_nilfn', ren_junk', ren_ptr', ren_row', ren_arow', ren_eptr', vm, List.idxOf?_cons, List.idxOf?_nil, beq_self_eq_true, Option.map_none, List.getD_cons_zero, List.getD_cons_succ, ↓wk, ↓wl, nc, evV, wrapBits_eq, ↓reduceIte, Nat.reduceEqDiff, Nat.reduceAdd, Nat.reduceSub, Nat.reduceLeDiff, Nat.reduceLT, Nat.reduceBEq, reduceCtorEq, Int.reduceEq, hx_176, hx_177, hw_178] <;> rfl)))
      · refine AW.skip ?_
        refine blkQ.norm ?_
        refine AW.rend ?_
        try simp only [↓wk, ↓wl, ncs, evV, wrapBits_eq, ↓reduceIte, Nat.reduceEqDiff, Nat.reduceAdd, Nat.reduceSub, Nat.reduceLeDiff, Nat.reduceLT, Nat.reduceBEq, reduceCtorEq, Int.reduceEq, hx_176]
        exact loopQ.next H ((Le.none [0] [3, 8, 9, 10] (by decide) (by simp only [f41_L1, List.length_set, Option.map_some, restrict_eq, renS_nil, renS_cons, renB_els, renB_cel, renB_dead, deep_eq, map_ren_enc, ren_agg', ren_tup', ren_fn', ren_int', ren_bool', ren_str', ren_sl', ren_pro', ren_nilp', ren_nilfn', ren_junk', ren_ptr', ren_row', ren_arow', ren_eptr', vm, List.idxOf?_cons, List.idxOf?_nil, beq_self_eq_true, Option.map_none, List.getD_cons_zero, List.getD_cons_succ, ↓wk, ↓wl, nc, evV, wrapBits_eq, ↓reduceIte, Nat.reduceEqDiff, Nat.reduceAdd, Nat.reduceSub, Nat.reduceLeDiff, Nat.reduceLT, Nat.reduceBEq, reduceCtorEq, Int.reduceEq, hx_176] <;> rfl)))
    · try simp only [↓wk, ↓wl, ncs, evV, wrapBits_eq, ↓reduceIte, Nat.reduceEqDiff, Nat.reduceAdd, Nat.reduceSub, Nat.reduceLeDiff, Nat.reduceLT, Nat.reduceBEq, reduceCtorEq, Int.reduceEq, hx_176]
      refine AW.iff (by rfl) ?_
      refine AW.skip ?_
      refine blkQ.norm ?_
      refine AW.rend ?_
      try simp only [↓wk, ↓wl, ncs, evV, wrapBits_eq, ↓reduceIte, Nat.reduceEqDiff, Nat.reduceAdd, Nat.reduceSub, Nat.reduceLeDiff, Nat.reduceLT, Nat.reduceBEq, reduceCtorEq, Int.reduceEq, hx_176]
      exact loopQ.next H ((Le.none [0] [3, 8, 9, 10] (by decide) (by simp only [f41_L1, List.length_set, Option.map_some, restrict_eq, renS_nil, renS_cons, renB_els, renB_cel, renB_dead, deep_eq, map_ren_enc, ren_agg', ren_tup', ren_fn', ren_int', ren_bool', ren_str', ren_sl', ren_pro', ren_nilp', ren_nilfn', ren_junk', ren_ptr', ren_row', ren_arow', ren_eptr', vm, List.idxOf?_cons, List.idxOf?_nil, beq_self_eq_true, Option.map_none, List.getD_cons_zero, List.getD_cons_succ, ↓wk, ↓wl, nc, evV, wrapBits_eq, ↓reduceIte, Nat.reduceEqDiff, Nat.reduceAdd, Nat.reduceSub, Nat.reduceLeDiff, Nat.reduceLT, Nat.reduceBEq, reduceCtorEq, Int.reduceEq, hx_176] <;> rfl)))
  · refine AW.exit ?_
    refine seqQ.exit ?_
    refine loopQ.exit H ?_ <;> clear H <;> intro H
    try dsimp only at H
    refine blk0.here ?_
    refine seqQ.norm ?_
    refine AW.rseq ?_
    try simp only [↓wk, ↓wl, ncs, evV, wrapBits_eq, ↓reduceIte, Nat.reduceEqDiff, Nat.reduceAdd, Nat.reduceSub, Nat.reduceLeDiff, Nat.reduceLT, Nat.reduceBEq, reduceCtorEq, Int.reduceEq]
    refine evTs_cstrr (xs := b_171) (by rfl) (by rfl) (by rfl) ?_
    try simp only [↓wk, ↓wl, ncs, evV, wrapBits_eq, ↓reduceIte, Nat.reduceEqDiff, Nat.reduceAdd, Nat.reduceSub, Nat.reduceLeDiff, Nat.reduceLT, Nat.reduceBEq, reduceCtorEq, Int.reduceEq]
    refine AW.ret ?_
    cases H
    exact hQ _ _ _ _ (.inr rfl) (by simp only [resVs, omap, resV, ↓wk, ↓wl, ncs, evV, wrapBits_eq, ↓reduceIte, Nat.reduceEqDiff, Nat.reduceAdd, Nat.reduceSub, Nat.reduceLeDiff, Nat.reduceLT, Nat.reduceBEq, reduceCtorEq, Int.reduceEq]; rfl) (hand_plain (by rfl)) (by first | exact Or.inl rfl | exact Or.inr rfl)
def c42_0 : C := .seq (.reg [iI 3 (.mv (.t 0)), iI 4 (.bin .geq (.t 3) (.c (.int .u8 32))), iI 5 (.mv (.t 4)), iG (some 6) 5 true (.mv (.t 0)), iG (some 7) 5 true (.bin .leq (.t 6) (.c (.int .u8 126))), iI 8 (.pick (.t 5) (.t 7) (.c (.bool false))), iI 9 (.mv (.t 8)), iG (some 10) 9 true (.mv (.t 0)), iG (some 11) 9 true (.bin .neq (.t 10) (.c (.int .u8 34))), iI 12 (.pick (.t 9) (.t 11) (.c (.bool false))), iI 2 (.mv (.t 12))]) .ret
def ir42 : C := .seq (.reg [iI 2 (.mv (.c (.bool false)))]) c42_0
theorem fd42 : fd? Try.prog 42 = some (13, [.slot 2], ir42) := by kernel_rfl
noncomputable def f42 (c_194 : Int) : Option (Bool) :=
  (if (decide (32 ≤ c_194)) = true then (if (decide (c_194 ≤ 126)) = true then (some (decide (c_194 ≠ 34))) else (some false)) else (some false))
theorem f42_ok {c_194 : Int} {r_ : Bool} (H : f42 c_194 = some r_) : Pure Try.prog 42 [.int .u8 c_194] (· = .bool r_) := by
  refine Pure.walk3 fd42 none (Nat.le_of_ble_eq_true rfl) (by rfl) fun Q hQ => ?_
  simp only [f42] at H
  refine AW.rseq ?_
  try simp only [↓wk, ↓wl, nc, evV, wrapBits_eq, ↓reduceIte, Nat.reduceEqDiff, Nat.reduceAdd, Nat.reduceSub, Nat.reduceLeDiff, Nat.reduceLT, Nat.reduceBEq, reduceCtorEq, Int.reduceEq]
  refine AW.rseq ?_
  try simp only [↓wk, ↓wl, nc, evV, wrapBits_eq, ↓reduceIte, Nat.reduceEqDiff, Nat.reduceAdd, Nat.reduceSub, Nat.reduceLeDiff, Nat.reduceLT, Nat.reduceBEq, reduceCtorEq, Int.reduceEq]
  refine evTs_ifg H (by rfl) ?_ ?_ <;> clear H <;> intro H
  · try simp only [↓wk, ↓wl, nc, evV, wrapBits_eq, ↓reduceIte, Nat.reduceEqDiff, Nat.reduceAdd, Nat.reduceSub, Nat.reduceLeDiff, Nat.reduceLT, Nat.reduceBEq, reduceCtorEq, Int.reduceEq]
    refine evTs_ifg H (by rfl) ?_ ?_ <;> clear H <;> intro H
    · try simp only [↓wk, ↓wl, nc, evV, wrapBits_eq, ↓reduceIte, Nat.reduceEqDiff, Nat.reduceAdd, Nat.reduceSub, Nat.reduceLeDiff, Nat.reduceLT, Nat.reduceBEq, reduceCtorEq, Int.reduceEq]
      refine AW.ret ?_
      cases H
      exact hQ _ _ _ _ (.inr rfl) (by simp only [resVs, omap, resV, ↓wk, ↓wl, nc, evV, wrapBits_eq, ↓reduceIte, Nat.reduceEqDiff, Nat.reduceAdd, Nat.reduceSub, Nat.reduceLeDiff, Nat.reduceLT, Nat.reduceBEq, reduceCtorEq, Int.reduceEq]; rfl) (hand_plain (by rfl)) (by first | exact Or.inl rfl | exact Or.inr rfl)
    · try simp only [↓wk, ↓wl, nc, evV, wrapBits_eq, ↓reduceIte, Nat.reduceEqDiff, Nat.reduceAdd, Nat.reduceSub, Nat.reduceLeDiff, Nat.reduceLT, Nat.reduceBEq, reduceCtorEq, Int.reduceEq]
      refine AW.ret ?_
      cases H
      exact hQ _ _ _ _ (.inr rfl) (by simp only [resVs, omap, resV, ↓wk, ↓wl, nc, evV, wrapBits_eq, ↓reduceIte, Nat.reduceEqDiff, Nat.reduceAdd, Nat.reduceSub, Nat.reduceLeDiff, Nat.reduceLT, Nat.reduceBEq, reduceCtorEq, Int.reduceEq]; rfl) (hand_plain (by rfl)) (by first | exact Or.inl rfl | exact Or.inr rfl)
  · try simp only [↓wk, ↓wl, nc, evV, wrapBits_eq, ↓reduceIte, Nat.reduceEqDiff, Nat.reduceAdd, Nat.reduceSub, Nat.reduceLeDiff, Nat.reduceLT, Nat.reduceBEq, reduceCtorEq, Int.reduceEq]
    refine AW.ret ?_
    cases H
    exact hQ _ _ _ _ (.inr rfl) (by simp only [resVs, omap, resV, ↓wk, ↓wl, nc, evV, wrapBits_eq, ↓reduceIte, Nat.reduceEqDiff, Nat.reduceAdd, Nat.reduceSub, Nat.reduceLeDiff, Nat.reduceLT, Nat.reduceBEq, reduceCtorEq, Int.reduceEq]; rfl) (hand_plain (by rfl)) (by first | exact Or.inl rfl | exact Or.inr rfl)
noncomputable def f38_42p (r_190 : (List UInt8)) (r_191 : Int) (ahead_192 : Int) : Option (Bool) :=
  (if (decide ((IntKind.i64.wrap (r_191 + ahead_192)) < ((r_190.length : Nat) : Int))) = true then (at? r_190 (IntKind.i64.wrap (r_191 + ahead_192))).bind fun b_193 => (f42 (b_193.toNat : Int)).bind fun r_195 => (some r_195) else (some false))
theorem f38_42p_ok {r_190 : (List UInt8)} {r_191 : Int} {ahead_192 : Int} {r_ : Bool} (H : f38_42p r_190 r_191 ahead_192 = some r_) : Pure Try.prog 38 [.pro [.str r_190, .int .i64 r_191], .int .i64 ahead_192, .fn 42 []] (· = .bool r_) := by
  refine Pure.walk3 fd38 none (Nat.le_of_ble_eq_true rfl) (by rfl) fun Q hQ => ?_
  simp only [f38_42p] at H
  refine AW.rseq ?_
  try simp only [↓wk, ↓wl, nc, evV, wrapBits_eq, ↓reduceIte, Nat.reduceEqDiff, Nat.reduceAdd, Nat.reduceSub, Nat.reduceLeDiff, Nat.reduceLT, Nat.reduceBEq, reduceCtorEq, Int.reduceEq]
  refine AW.rseq ?_
  try simp only [↓wk, ↓wl, nc, evV, wrapBits_eq, ↓reduceIte, Nat.reduceEqDiff, Nat.reduceAdd, Nat.reduceSub, Nat.reduceLeDiff, Nat.reduceLT, Nat.reduceBEq, reduceCtorEq, Int.reduceEq]
  refine evTs_ifg H (by rfl) ?_ ?_ <;> clear H <;> intro H
  · try simp only [↓wk, ↓wl, nc, evV, wrapBits_eq, ↓reduceIte, Nat.reduceEqDiff, Nat.reduceAdd, Nat.reduceSub, Nat.reduceLeDiff, Nat.reduceLT, Nat.reduceBEq, reduceCtorEq, Int.reduceEq]
    refine evTs_sat H (by rfl) (by rfl) ?_ <;> clear H <;> intro b_193 H
    try simp only [↓wk, ↓wl, nc, evV, wrapBits_eq, ↓reduceIte, Nat.reduceEqDiff, Nat.reduceAdd, Nat.reduceSub, Nat.reduceLeDiff, Nat.reduceLT, Nat.reduceBEq, reduceCtorEq, Int.reduceEq]
    refine evTs_pure hFn H (fun _ h => f42_ok h) (by rfl) (by rfl) (by rfl) (by rfl) (fun _ => rfl) ?_ <;> clear H <;> intro r_195 H
    try simp only [eL, ↓wk, ↓wl, nc, evV, wrapBits_eq, ↓reduceIte, Nat.reduceEqDiff, Nat.reduceAdd, Nat.reduceSub, Nat.reduceLeDiff, Nat.reduceLT, Nat.reduceBEq, reduceCtorEq, Int.reduceEq]
    refine AW.ret ?_
    cases H
    exact hQ _ _ _ _ (.inr rfl) (by simp only [resVs, omap, resV, ↓wk, ↓wl, nc, evV, wrapBits_eq, ↓reduceIte, Nat.reduceEqDiff, Nat.reduceAdd, Nat.reduceSub, Nat.reduceLeDiff, Nat.reduceLT, Nat.reduceBEq, reduceCtorEq, Int.reduceEq]; rfl) (hand_plain (by rfl)) (by first | exact Or.inl rfl | exact Or.inr rfl)
  · try simp only [↓wk, ↓wl, nc, evV, wrapBits_eq, ↓reduceIte, Nat.reduceEqDiff, Nat.reduceAdd, Nat.reduceSub, Nat.reduceLeDiff, Nat.reduceLT, Nat.reduceBEq, reduceCtorEq, Int.reduceEq]
    refine AW.ret ?_
    cases H
    exact hQ _ _ _ _ (.inr rfl) (by simp only [resVs, omap, resV, ↓wk, ↓wl, nc, evV, wrapBits_eq, ↓reduceIte, Nat.reduceEqDiff, Nat.reduceAdd, Nat.reduceSub, Nat.reduceLeDiff, Nat.reduceLT, Nat.reduceBEq, reduceCtorEq, Int.reduceEq]; rfl) (hand_plain (by rfl)) (by first | exact Or.inl rfl | exact Or.inr rfl)
def c43_0 : C := .seq (.reg [iI 3 (.mv (.t 0)), iI 4 (.bin .eql (.t 3) (.c (.int .u8 34))), iI 2 (.mv (.t 4))]) .ret
def ir43 : C := .seq (.reg [iI 2 (.mv (.c (.bool false)))]) c43_0
theorem fd43 : fd? Try.prog 43 = some (5, [.slot 2], ir43) := by kernel_rfl
noncomputable def f43 (c_207 : Int) : Option (Bool) :=
  (some (decide (c_207 = 34)))
theorem f43_ok {c_207 : Int} {r_ : Bool} (H : f43 c_207 = some r_) : Pure Try.prog 43 [.int .u8 c_207] (· = .bool r_) := by
  refine Pure.walk3 fd43 none (Nat.le_of_ble_eq_true rfl) (by rfl) fun Q hQ => ?_
  simp only [f43] at H
  refine AW.rseq ?_
  try simp only [↓wk, ↓wl, nc, evV, wrapBits_eq, ↓reduceIte, Nat.reduceEqDiff, Nat.reduceAdd, Nat.reduceSub, Nat.reduceLeDiff, Nat.reduceLT, Nat.reduceBEq, reduceCtorEq, Int.reduceEq]
  refine AW.rseq ?_
  try simp only [↓wk, ↓wl, nc, evV, wrapBits_eq, ↓reduceIte, Nat.reduceEqDiff, Nat.reduceAdd, Nat.reduceSub, Nat.reduceLeDiff, Nat.reduceLT, Nat.reduceBEq, reduceCtorEq, Int.reduceEq]
  refine AW.ret ?_
  cases H
  exact hQ _ _ _ _ (.inr rfl) (by simp only [resVs, omap, resV, ↓wk, ↓wl, nc, evV, wrapBits_eq, ↓reduceIte, Nat.reduceEqDiff, Nat.reduceAdd, Nat.reduceSub, Nat.reduceLeDiff, Nat.reduceLT, Nat.reduceBEq, reduceCtorEq, Int.reduceEq]; rfl) (hand_plain (by rfl)) (by first | exact Or.inl rfl | exact Or.inr rfl)
noncomputable def f38_43p (r_203 : (List UInt8)) (r_204 : Int) (ahead_205 : Int) : Option (Bool) :=
  (if (decide ((IntKind.i64.wrap (r_204 + ahead_205)) < ((r_203.length : Nat) : Int))) = true then (at? r_203 (IntKind.i64.wrap (r_204 + ahead_205))).bind fun b_206 => (f43 (b_206.toNat : Int)).bind fun r_208 => (some r_208) else (some false))
theorem f38_43p_ok {r_203 : (List UInt8)} {r_204 : Int} {ahead_205 : Int} {r_ : Bool} (H : f38_43p r_203 r_204 ahead_205 = some r_) : Pure Try.prog 38 [.pro [.str r_203, .int .i64 r_204], .int .i64 ahead_205, .fn 43 []] (· = .bool r_) := by
  refine Pure.walk3 fd38 none (Nat.le_of_ble_eq_true rfl) (by rfl) fun Q hQ => ?_
  simp only [f38_43p] at H
  refine AW.rseq ?_
  try simp only [↓wk, ↓wl, nc, evV, wrapBits_eq, ↓reduceIte, Nat.reduceEqDiff, Nat.reduceAdd, Nat.reduceSub, Nat.reduceLeDiff, Nat.reduceLT, Nat.reduceBEq, reduceCtorEq, Int.reduceEq]
  refine AW.rseq ?_
  try simp only [↓wk, ↓wl, nc, evV, wrapBits_eq, ↓reduceIte, Nat.reduceEqDiff, Nat.reduceAdd, Nat.reduceSub, Nat.reduceLeDiff, Nat.reduceLT, Nat.reduceBEq, reduceCtorEq, Int.reduceEq]
  refine evTs_ifg H (by rfl) ?_ ?_ <;> clear H <;> intro H
  · try simp only [↓wk, ↓wl, nc, evV, wrapBits_eq, ↓reduceIte, Nat.reduceEqDiff, Nat.reduceAdd, Nat.reduceSub, Nat.reduceLeDiff, Nat.reduceLT, Nat.reduceBEq, reduceCtorEq, Int.reduceEq]
    refine evTs_sat H (by rfl) (by rfl) ?_ <;> clear H <;> intro b_206 H
    try simp only [↓wk, ↓wl, nc, evV, wrapBits_eq, ↓reduceIte, Nat.reduceEqDiff, Nat.reduceAdd, Nat.reduceSub, Nat.reduceLeDiff, Nat.reduceLT, Nat.reduceBEq, reduceCtorEq, Int.reduceEq]
    refine evTs_pure hFn H (fun _ h => f43_ok h) (by rfl) (by rfl) (by rfl) (by rfl) (fun _ => rfl) ?_ <;> clear H <;> intro r_208 H
    try simp only [eL, ↓wk, ↓wl, nc, evV, wrapBits_eq, ↓reduceIte, Nat.reduceEqDiff, Nat.reduceAdd, Nat.reduceSub, Nat.reduceLeDiff, Nat.reduceLT, Nat.reduceBEq, reduceCtorEq, Int.reduceEq]
    refine AW.ret ?_
    cases H
    exact hQ _ _ _ _ (.inr rfl) (by simp only [resVs, omap, resV, ↓wk, ↓wl, nc, evV, wrapBits_eq, ↓reduceIte, Nat.reduceEqDiff, Nat.reduceAdd, Nat.reduceSub, Nat.reduceLeDiff, Nat.reduceLT, Nat.reduceBEq, reduceCtorEq, Int.reduceEq]; rfl) (hand_plain (by rfl)) (by first | exact Or.inl rfl | exact Or.inr rfl)
  · try simp only [↓wk, ↓wl, nc, evV, wrapBits_eq, ↓reduceIte, Nat.reduceEqDiff, Nat.reduceAdd, Nat.reduceSub, Nat.reduceLeDiff, Nat.reduceLT, Nat.reduceBEq, reduceCtorEq, Int.reduceEq]
    refine AW.ret ?_
    cases H
    exact hQ _ _ _ _ (.inr rfl) (by simp only [resVs, omap, resV, ↓wk, ↓wl, nc, evV, wrapBits_eq, ↓reduceIte, Nat.reduceEqDiff, Nat.reduceAdd, Nat.reduceSub, Nat.reduceLeDiff, Nat.reduceLT, Nat.reduceBEq, reduceCtorEq, Int.reduceEq]; rfl) (hand_plain (by rfl)) (by first | exact Or.inl rfl | exact Or.inr rfl)
noncomputable def f38_44p (r_214 : (List UInt8)) (r_215 : Int) (ahead_216 : Int) : Option (Bool) :=
  (if (decide ((IntKind.i64.wrap (r_215 + ahead_216)) < ((r_214.length : Nat) : Int))) = true then (at? r_214 (IntKind.i64.wrap (r_215 + ahead_216))).bind fun b_217 => (f44 (b_217.toNat : Int)).bind fun r_218 => (some r_218) else (some false))
theorem f38_44p_ok {r_214 : (List UInt8)} {r_215 : Int} {ahead_216 : Int} {r_ : Bool} (H : f38_44p r_214 r_215 ahead_216 = some r_) : Pure Try.prog 38 [.pro [.str r_214, .int .i64 r_215], .int .i64 ahead_216, .fn 44 []] (· = .bool r_) := by
  refine Pure.walk3 fd38 none (Nat.le_of_ble_eq_true rfl) (by rfl) fun Q hQ => ?_
  simp only [f38_44p] at H
  refine AW.rseq ?_
  try simp only [↓wk, ↓wl, nc, evV, wrapBits_eq, ↓reduceIte, Nat.reduceEqDiff, Nat.reduceAdd, Nat.reduceSub, Nat.reduceLeDiff, Nat.reduceLT, Nat.reduceBEq, reduceCtorEq, Int.reduceEq]
  refine AW.rseq ?_
  try simp only [↓wk, ↓wl, nc, evV, wrapBits_eq, ↓reduceIte, Nat.reduceEqDiff, Nat.reduceAdd, Nat.reduceSub, Nat.reduceLeDiff, Nat.reduceLT, Nat.reduceBEq, reduceCtorEq, Int.reduceEq]
  refine evTs_ifg H (by rfl) ?_ ?_ <;> clear H <;> intro H
  · try simp only [↓wk, ↓wl, nc, evV, wrapBits_eq, ↓reduceIte, Nat.reduceEqDiff, Nat.reduceAdd, Nat.reduceSub, Nat.reduceLeDiff, Nat.reduceLT, Nat.reduceBEq, reduceCtorEq, Int.reduceEq]
    refine evTs_sat H (by rfl) (by rfl) ?_ <;> clear H <;> intro b_217 H
    try simp only [↓wk, ↓wl, nc, evV, wrapBits_eq, ↓reduceIte, Nat.reduceEqDiff, Nat.reduceAdd, Nat.reduceSub, Nat.reduceLeDiff, Nat.reduceLT, Nat.reduceBEq, reduceCtorEq, Int.reduceEq]
    refine evTs_pure hFn H (fun _ h => f44_ok h) (by rfl) (by rfl) (by rfl) (by rfl) (fun _ => rfl) ?_ <;> clear H <;> intro r_218 H
    try simp only [eL, ↓wk, ↓wl, nc, evV, wrapBits_eq, ↓reduceIte, Nat.reduceEqDiff, Nat.reduceAdd, Nat.reduceSub, Nat.reduceLeDiff, Nat.reduceLT, Nat.reduceBEq, reduceCtorEq, Int.reduceEq]
    refine AW.ret ?_
    cases H
    exact hQ _ _ _ _ (.inr rfl) (by simp only [resVs, omap, resV, ↓wk, ↓wl, nc, evV, wrapBits_eq, ↓reduceIte, Nat.reduceEqDiff, Nat.reduceAdd, Nat.reduceSub, Nat.reduceLeDiff, Nat.reduceLT, Nat.reduceBEq, reduceCtorEq, Int.reduceEq]; rfl) (hand_plain (by rfl)) (by first | exact Or.inl rfl | exact Or.inr rfl)
  · try simp only [↓wk, ↓wl, nc, evV, wrapBits_eq, ↓reduceIte, Nat.reduceEqDiff, Nat.reduceAdd, Nat.reduceSub, Nat.reduceLeDiff, Nat.reduceLT, Nat.reduceBEq, reduceCtorEq, Int.reduceEq]
    refine AW.ret ?_
    cases H
    exact hQ _ _ _ _ (.inr rfl) (by simp only [resVs, omap, resV, ↓wk, ↓wl, nc, evV, wrapBits_eq, ↓reduceIte, Nat.reduceEqDiff, Nat.reduceAdd, Nat.reduceSub, Nat.reduceLeDiff, Nat.reduceLT, Nat.reduceBEq, reduceCtorEq, Int.reduceEq]; rfl) (hand_plain (by rfl)) (by first | exact Or.inl rfl | exact Or.inr rfl)
def c45_0 : C := .seq (.reg [iI 3 (.mv (.t 0)), iI 4 (.bin .eql (.t 3) (.c (.int .u8 46))), iI 2 (.mv (.t 4))]) .ret
def ir45 : C := .seq (.reg [iI 2 (.mv (.c (.bool false)))]) c45_0
theorem fd45 : fd? Try.prog 45 = some (5, [.slot 2], ir45) := by kernel_rfl
noncomputable def f45 (c_234 : Int) : Option (Bool) :=
  (some (decide (c_234 = 46)))
theorem f45_ok {c_234 : Int} {r_ : Bool} (H : f45 c_234 = some r_) : Pure Try.prog 45 [.int .u8 c_234] (· = .bool r_) := by
  refine Pure.walk3 fd45 none (Nat.le_of_ble_eq_true rfl) (by rfl) fun Q hQ => ?_
  simp only [f45] at H
  refine AW.rseq ?_
  try simp only [↓wk, ↓wl, nc, evV, wrapBits_eq, ↓reduceIte, Nat.reduceEqDiff, Nat.reduceAdd, Nat.reduceSub, Nat.reduceLeDiff, Nat.reduceLT, Nat.reduceBEq, reduceCtorEq, Int.reduceEq]
  refine AW.rseq ?_
  try simp only [↓wk, ↓wl, nc, evV, wrapBits_eq, ↓reduceIte, Nat.reduceEqDiff, Nat.reduceAdd, Nat.reduceSub, Nat.reduceLeDiff, Nat.reduceLT, Nat.reduceBEq, reduceCtorEq, Int.reduceEq]
  refine AW.ret ?_
  cases H
  exact hQ _ _ _ _ (.inr rfl) (by simp only [resVs, omap, resV, ↓wk, ↓wl, nc, evV, wrapBits_eq, ↓reduceIte, Nat.reduceEqDiff, Nat.reduceAdd, Nat.reduceSub, Nat.reduceLeDiff, Nat.reduceLT, Nat.reduceBEq, reduceCtorEq, Int.reduceEq]; rfl) (hand_plain (by rfl)) (by first | exact Or.inl rfl | exact Or.inr rfl)
noncomputable def f38_45p (r_230 : (List UInt8)) (r_231 : Int) (ahead_232 : Int) : Option (Bool) :=
  (if (decide ((IntKind.i64.wrap (r_231 + ahead_232)) < ((r_230.length : Nat) : Int))) = true then (at? r_230 (IntKind.i64.wrap (r_231 + ahead_232))).bind fun b_233 => (f45 (b_233.toNat : Int)).bind fun r_235 => (some r_235) else (some false))
theorem f38_45p_ok {r_230 : (List UInt8)} {r_231 : Int} {ahead_232 : Int} {r_ : Bool} (H : f38_45p r_230 r_231 ahead_232 = some r_) : Pure Try.prog 38 [.pro [.str r_230, .int .i64 r_231], .int .i64 ahead_232, .fn 45 []] (· = .bool r_) := by
  refine Pure.walk3 fd38 none (Nat.le_of_ble_eq_true rfl) (by rfl) fun Q hQ => ?_
  simp only [f38_45p] at H
  refine AW.rseq ?_
  try simp only [↓wk, ↓wl, nc, evV, wrapBits_eq, ↓reduceIte, Nat.reduceEqDiff, Nat.reduceAdd, Nat.reduceSub, Nat.reduceLeDiff, Nat.reduceLT, Nat.reduceBEq, reduceCtorEq, Int.reduceEq]
  refine AW.rseq ?_
  try simp only [↓wk, ↓wl, nc, evV, wrapBits_eq, ↓reduceIte, Nat.reduceEqDiff, Nat.reduceAdd, Nat.reduceSub, Nat.reduceLeDiff, Nat.reduceLT, Nat.reduceBEq, reduceCtorEq, Int.reduceEq]
  refine evTs_ifg H (by rfl) ?_ ?_ <;> clear H <;> intro H
  · try simp only [↓wk, ↓wl, nc, evV, wrapBits_eq, ↓reduceIte, Nat.reduceEqDiff, Nat.reduceAdd, Nat.reduceSub, Nat.reduceLeDiff, Nat.reduceLT, Nat.reduceBEq, reduceCtorEq, Int.reduceEq]
    refine evTs_sat H (by rfl) (by rfl) ?_ <;> clear H <;> intro b_233 H
    try simp only [↓wk, ↓wl, nc, evV, wrapBits_eq, ↓reduceIte, Nat.reduceEqDiff, Nat.reduceAdd, Nat.reduceSub, Nat.reduceLeDiff, Nat.reduceLT, Nat.reduceBEq, reduceCtorEq, Int.reduceEq]
    refine evTs_pure hFn H (fun _ h => f45_ok h) (by rfl) (by rfl) (by rfl) (by rfl) (fun _ => rfl) ?_ <;> clear H <;> intro r_235 H
    try simp only [eL, ↓wk, ↓wl, nc, evV, wrapBits_eq, ↓reduceIte, Nat.reduceEqDiff, Nat.reduceAdd, Nat.reduceSub, Nat.reduceLeDiff, Nat.reduceLT, Nat.reduceBEq, reduceCtorEq, Int.reduceEq]
    refine AW.ret ?_
    cases H
    exact hQ _ _ _ _ (.inr rfl) (by simp only [resVs, omap, resV, ↓wk, ↓wl, nc, evV, wrapBits_eq, ↓reduceIte, Nat.reduceEqDiff, Nat.reduceAdd, Nat.reduceSub, Nat.reduceLeDiff, Nat.reduceLT, Nat.reduceBEq, reduceCtorEq, Int.reduceEq]; rfl) (hand_plain (by rfl)) (by first | exact Or.inl rfl | exact Or.inr rfl)
  · try simp only [↓wk, ↓wl, nc, evV, wrapBits_eq, ↓reduceIte, Nat.reduceEqDiff, Nat.reduceAdd, Nat.reduceSub, Nat.reduceLeDiff, Nat.reduceLT, Nat.reduceBEq, reduceCtorEq, Int.reduceEq]
    refine AW.ret ?_
    cases H
    exact hQ _ _ _ _ (.inr rfl) (by simp only [resVs, omap, resV, ↓wk, ↓wl, nc, evV, wrapBits_eq, ↓reduceIte, Nat.reduceEqDiff, Nat.reduceAdd, Nat.reduceSub, Nat.reduceLeDiff, Nat.reduceLT, Nat.reduceBEq, reduceCtorEq, Int.reduceEq]; rfl) (hand_plain (by rfl)) (by first | exact Or.inl rfl | exact Or.inr rfl)
def c54_0 : C := .seq (.reg [iI 5 (.mv (.t 0)), iI 6 (.mv (.t 1)), iI 7 (.call (.c (.fn 57 [])) [(.t 5), (.t 6)]), iI 4 (.mv (.t 7))]) .ret
def ir54 : C := .seq (.reg [iI 4 (.mv (.c (.int .i64 0)))]) c54_0
theorem fd54 : fd? Try.prog 54 = some (8, [.slot 4], ir54) := by kernel_rfl
noncomputable def f54 (s_261 : (List UInt8)) (c_262 : Int) : Option (Int) :=
  none
theorem f54_ok {s_261 : (List UInt8)} {c_262 : Int} {r_ : Int} (H : f54 s_261 c_262 = some r_) : Pure Try.prog 54 [.str s_261, .int .u8 c_262] (· = .int .i64 r_) := by
  refine Pure.walk3 fd54 none (Nat.le_of_ble_eq_true rfl) (by rfl) fun Q hQ => ?_
  simp only [f54] at H
  refine AW.rseq ?_
  try simp only [↓wk, ↓wl, nc, evV, wrapBits_eq, ↓reduceIte, Nat.reduceEqDiff, Nat.reduceAdd, Nat.reduceSub, Nat.reduceLeDiff, Nat.reduceLT, Nat.reduceBEq, reduceCtorEq, Int.reduceEq]
  refine AW.rseq ?_
  try simp only [↓wk, ↓wl, nc, evV, wrapBits_eq, ↓reduceIte, Nat.reduceEqDiff, Nat.reduceAdd, Nat.reduceSub, Nat.reduceLeDiff, Nat.reduceLT, Nat.reduceBEq, reduceCtorEq, Int.reduceEq]
  cases H
def c51_0 : C := .seq (.reg [iI 5 (.mv (.t 0)), iI 6 (.mv (.t 1)), iI 7 (.call (.c (.fn 54 [])) [(.t 5), (.t 6)]), iI 4 (.mv (.t 7))]) .ret
def ir51 : C := .seq (.reg [iI 4 (.mv (.c (.int .i64 0)))]) c51_0
theorem fd51 : fd? Try.prog 51 = some (8, [.slot 4], ir51) := by kernel_rfl
noncomputable def f51 (s_259 : (List UInt8)) (c_260 : Int) : Option (Int) :=
  (f54 s_259 c_260).bind fun r_263 => (some r_263)
theorem f51_ok {s_259 : (List UInt8)} {c_260 : Int} {r_ : Int} (H : f51 s_259 c_260 = some r_) : Pure Try.prog 51 [.str s_259, .int .u8 c_260] (· = .int .i64 r_) := by
  refine Pure.walk3 fd51 none (Nat.le_of_ble_eq_true rfl) (by rfl) fun Q hQ => ?_
  simp only [f51] at H
  refine AW.rseq ?_
  try simp only [↓wk, ↓wl, nc, evV, wrapBits_eq, ↓reduceIte, Nat.reduceEqDiff, Nat.reduceAdd, Nat.reduceSub, Nat.reduceLeDiff, Nat.reduceLT, Nat.reduceBEq, reduceCtorEq, Int.reduceEq]
  refine AW.rseq ?_
  try simp only [↓wk, ↓wl, nc, evV, wrapBits_eq, ↓reduceIte, Nat.reduceEqDiff, Nat.reduceAdd, Nat.reduceSub, Nat.reduceLeDiff, Nat.reduceLT, Nat.reduceBEq, reduceCtorEq, Int.reduceEq]
  refine evTs_pure hFn H (fun _ h => f54_ok h) (by rfl) (by rfl) (by rfl) (by rfl) (fun _ => rfl) ?_ <;> clear H <;> intro r_263 H
  try simp only [eL, ↓wk, ↓wl, nc, evV, wrapBits_eq, ↓reduceIte, Nat.reduceEqDiff, Nat.reduceAdd, Nat.reduceSub, Nat.reduceLeDiff, Nat.reduceLT, Nat.reduceBEq, reduceCtorEq, Int.reduceEq]
  refine AW.ret ?_
  cases H
  exact hQ _ _ _ _ (.inr rfl) (by simp only [resVs, omap, resV, ↓wk, ↓wl, nc, evV, wrapBits_eq, ↓reduceIte, Nat.reduceEqDiff, Nat.reduceAdd, Nat.reduceSub, Nat.reduceLeDiff, Nat.reduceLT, Nat.reduceBEq, reduceCtorEq, Int.reduceEq]; rfl) (hand_plain (by rfl)) (by first | exact Or.inl rfl | exact Or.inr rfl)
def c46_0 : C := .seq (.reg [iI 3 (.mv (.t 0)), iI 4 (.call (.c (.fn 51 [])) [(.c (.str [43, 45, 47, 46, 44, 64, 58, 61, 37, 40, 41])), (.t 3)]), iI 5 (.bin .geq (.t 4) (.c (.int .i64 0))), iI 2 (.mv (.t 5))]) .ret
def ir46 : C := .seq (.reg [iI 2 (.mv (.c (.bool false)))]) c46_0
theorem fd46 : fd? Try.prog 46 = some (6, [.slot 2], ir46) := by kernel_rfl
noncomputable def f46 (c_258 : Int) : Option (Bool) :=
  (f51 ([43, 45, 47, 46, 44, 64, 58, 61, 37, 40, 41]) c_258).bind fun r_264 => (some (decide (0 ≤ r_264)))
theorem f46_ok {c_258 : Int} {r_ : Bool} (H : f46 c_258 = some r_) : Pure Try.prog 46 [.int .u8 c_258] (· = .bool r_) := by
  refine Pure.walk3 fd46 none (Nat.le_of_ble_eq_true rfl) (by rfl) fun Q hQ => ?_
  simp only [f46] at H
  refine AW.rseq ?_
  try simp only [↓wk, ↓wl, nc, evV, wrapBits_eq, ↓reduceIte, Nat.reduceEqDiff, Nat.reduceAdd, Nat.reduceSub, Nat.reduceLeDiff, Nat.reduceLT, Nat.reduceBEq, reduceCtorEq, Int.reduceEq]
  refine AW.rseq ?_
  try simp only [↓wk, ↓wl, nc, evV, wrapBits_eq, ↓reduceIte, Nat.reduceEqDiff, Nat.reduceAdd, Nat.reduceSub, Nat.reduceLeDiff, Nat.reduceLT, Nat.reduceBEq, reduceCtorEq, Int.reduceEq]
  refine evTs_pure hFn H (fun _ h => f51_ok h) (by rfl) (by rfl) (by rfl) (by rfl) (fun _ => rfl) ?_ <;> clear H <;> intro r_264 H
  try simp only [eL, ↓wk, ↓wl, nc, evV, wrapBits_eq, ↓reduceIte, Nat.reduceEqDiff, Nat.reduceAdd, Nat.reduceSub, Nat.reduceLeDiff, Nat.reduceLT, Nat.reduceBEq, reduceCtorEq, Int.reduceEq]
  refine AW.ret ?_
  cases H
  exact hQ _ _ _ _ (.inr rfl) (by simp only [resVs, omap, resV, ↓wk, ↓wl, nc, evV, wrapBits_eq, ↓reduceIte, Nat.reduceEqDiff, Nat.reduceAdd, Nat.reduceSub, Nat.reduceLeDiff, Nat.reduceLT, Nat.reduceBEq, reduceCtorEq, Int.reduceEq]; rfl) (hand_plain (by rfl)) (by first | exact Or.inl rfl | exact Or.inr rfl)
noncomputable def f38_46p (r_254 : (List UInt8)) (r_255 : Int) (ahead_256 : Int) : Option (Bool) :=
  (if (decide ((IntKind.i64.wrap (r_255 + ahead_256)) < ((r_254.length : Nat) : Int))) = true then (at? r_254 (IntKind.i64.wrap (r_255 + ahead_256))).bind fun b_257 => (f46 (b_257.toNat : Int)).bind fun r_265 => (some r_265) else (some false))
theorem f38_46p_ok {r_254 : (List UInt8)} {r_255 : Int} {ahead_256 : Int} {r_ : Bool} (H : f38_46p r_254 r_255 ahead_256 = some r_) : Pure Try.prog 38 [.pro [.str r_254, .int .i64 r_255], .int .i64 ahead_256, .fn 46 []] (· = .bool r_) := by
  refine Pure.walk3 fd38 none (Nat.le_of_ble_eq_true rfl) (by rfl) fun Q hQ => ?_
  simp only [f38_46p] at H
  refine AW.rseq ?_
  try simp only [↓wk, ↓wl, nc, evV, wrapBits_eq, ↓reduceIte, Nat.reduceEqDiff, Nat.reduceAdd, Nat.reduceSub, Nat.reduceLeDiff, Nat.reduceLT, Nat.reduceBEq, reduceCtorEq, Int.reduceEq]
  refine AW.rseq ?_
  try simp only [↓wk, ↓wl, nc, evV, wrapBits_eq, ↓reduceIte, Nat.reduceEqDiff, Nat.reduceAdd, Nat.reduceSub, Nat.reduceLeDiff, Nat.reduceLT, Nat.reduceBEq, reduceCtorEq, Int.reduceEq]
  refine evTs_ifg H (by rfl) ?_ ?_ <;> clear H <;> intro H
  · try simp only [↓wk, ↓wl, nc, evV, wrapBits_eq, ↓reduceIte, Nat.reduceEqDiff, Nat.reduceAdd, Nat.reduceSub, Nat.reduceLeDiff, Nat.reduceLT, Nat.reduceBEq, reduceCtorEq, Int.reduceEq]
    refine evTs_sat H (by rfl) (by rfl) ?_ <;> clear H <;> intro b_257 H
    try simp only [↓wk, ↓wl, nc, evV, wrapBits_eq, ↓reduceIte, Nat.reduceEqDiff, Nat.reduceAdd, Nat.reduceSub, Nat.reduceLeDiff, Nat.reduceLT, Nat.reduceBEq, reduceCtorEq, Int.reduceEq]
    refine evTs_pure hFn H (fun _ h => f46_ok h) (by rfl) (by rfl) (by rfl) (by rfl) (fun _ => rfl) ?_ <;> clear H <;> intro r_265 H
    try simp only [eL, ↓wk, ↓wl, nc, evV, wrapBits_eq, ↓reduceIte, Nat.reduceEqDiff, Nat.reduceAdd, Nat.reduceSub, Nat.reduceLeDiff, Nat.reduceLT, Nat.reduceBEq, reduceCtorEq, Int.reduceEq]
    refine AW.ret ?_
    cases H
    exact hQ _ _ _ _ (.inr rfl) (by simp only [resVs, omap, resV, ↓wk, ↓wl, nc, evV, wrapBits_eq, ↓reduceIte, Nat.reduceEqDiff, Nat.reduceAdd, Nat.reduceSub, Nat.reduceLeDiff, Nat.reduceLT, Nat.reduceBEq, reduceCtorEq, Int.reduceEq]; rfl) (hand_plain (by rfl)) (by first | exact Or.inl rfl | exact Or.inr rfl)
  · try simp only [↓wk, ↓wl, nc, evV, wrapBits_eq, ↓reduceIte, Nat.reduceEqDiff, Nat.reduceAdd, Nat.reduceSub, Nat.reduceLeDiff, Nat.reduceLT, Nat.reduceBEq, reduceCtorEq, Int.reduceEq]
    refine AW.ret ?_
    cases H
    exact hQ _ _ _ _ (.inr rfl) (by simp only [resVs, omap, resV, ↓wk, ↓wl, nc, evV, wrapBits_eq, ↓reduceIte, Nat.reduceEqDiff, Nat.reduceAdd, Nat.reduceSub, Nat.reduceLeDiff, Nat.reduceLT, Nat.reduceBEq, reduceCtorEq, Int.reduceEq]; rfl) (hand_plain (by rfl)) (by first | exact Or.inl rfl | exact Or.inr rfl)
def c24_0 : C := .seq (.reg [iI 44 (.load 3 (.t 6)), iI 45 (.mv (.t 7)), iN (.store 3 (.t 2) (.t 44)), iI 3 (.mv (.t 45))]) .ret
def c24_1 : C := .seq (.reg [iI 40 (.faddr 1 (.t 6)), iI 41 (.load 0 (.t 40)), iI 42 (.call (.c (.fn 41 [])) [(.t 41)]), iI 43 (.faddr 1 (.t 6)), iN (.store 0 (.t 43) (.t 42))]) c24_0
def c24_2 : C := .seq (.reg [iI 36 (.mv (.t 5)), iI 37 (.call (.t 36) [(.c (.int .i64 0))]), iI 35 (.mv (.t 37)), iI 38 (.ext (.t 35) 0), iI 39 (.ext (.t 35) 1), iI 6 (.alloc [(1, (.int .i64 0)), (1, (.str [])), (1, (.int .i64 0))]), iN (.store 3 (.t 6) (.t 38)), iI 7 (.mv (.t 39))]) c24_1
def c24_3 : C := .seq (.reg [iI 73 (.build [(1, (.int .i64 0)), (1, (.str [])), (1, (.int .i64 0))] []), iN (.store 3 (.t 2) (.t 73)), iI 3 (.mv (.c (.bool false)))]) .ret
def c24_4 : C := .cond (.t 68) (.seq (.reg [iI 69 (.load 0 (.t 1)), iI 70 (.load 0 (.t 4)), iI 71 (.nilchk (.t 69)), iI 72 (.faddr 1 (.t 71)), iN (.store 0 (.t 72) (.t 70))]) c24_3) (.skip)
def c24_5 : C := .seq (.reg [iI 81 (.mv (.t 5)), iI 82 (.call (.t 81) [(.c (.int .i64 0))]), iI 83 (.ext (.t 82) 0), iI 84 (.ext (.t 82) 1), iN (.store 3 (.t 2) (.t 83)), iI 3 (.mv (.t 84))]) .ret
def c24_6 : C := .seq (.reg [iI 74 (.load 0 (.t 1)), iI 75 (.nilchk (.t 74)), iI 76 (.faddr 1 (.t 75)), iI 77 (.load 0 (.t 76)), iI 78 (.bin .add (.t 77) (.c (.int .i64 1))), iI 79 (.nilchk (.t 74)), iI 80 (.faddr 1 (.t 79)), iN (.store 0 (.t 80) (.t 78))]) c24_5
def c24_7 : C := .seq (.seq (.reg [iI 66 (.load 0 (.t 1)), iI 67 (.call (.c (.fn 38 [])) [(.t 66), (.c (.int .i64 0)), (.c (.fn 43 []))]), iI 68 (.un .not (.t 67))]) c24_4) c24_6
def c24_8 : C := .seq (.reg [iI 64 (.load 0 (.t 1)), iI 65 (.call (.c (.fn 35 [])) [(.t 64), (.c (.fn 42 []))])]) c24_7
def c24_9 : C := .reg [iI 103 (.load 0 (.t 1)), iI 104 (.call (.c (.fn 35 [])) [(.t 103), (.c (.fn 44 []))])]
def c24_10 : C := .cond (.t 95) (.seq (.reg [iI 96 (.load 0 (.t 1)), iI 97 (.nilchk (.t 96)), iI 98 (.faddr 1 (.t 97)), iI 99 (.load 0 (.t 98)), iI 100 (.bin .add (.t 99) (.c (.int .i64 1))), iI 101 (.nilchk (.t 96)), iI 102 (.faddr 1 (.t 101)), iN (.store 0 (.t 102) (.t 100))]) c24_9) (.skip)
def c24_11 : C := .seq (.reg [iI 105 (.mv (.t 5)), iI 106 (.call (.t 105) [(.c (.int .i64 1))]), iI 107 (.ext (.t 106) 0), iI 108 (.ext (.t 106) 1), iN (.store 3 (.t 2) (.t 107)), iI 3 (.mv (.t 108))]) .ret
def c24_12 : C := .seq (.seq (.reg [iI 90 (.load 0 (.t 1)), iI 91 (.call (.c (.fn 38 [])) [(.t 90), (.c (.int .i64 0)), (.c (.fn 45 []))]), iI 92 (.mv (.t 91)), iG (some 93) 92 true (.load 0 (.t 1)), iG (some 94) 92 true (.call (.c (.fn 38 [])) [(.t 93), (.c (.int .i64 1)), (.c (.fn 44 []))]), iI 95 (.pick (.t 92) (.t 94) (.c (.bool false)))]) c24_10) c24_11
def c24_13 : C := .seq (.reg [iI 119 (.mv (.t 5)), iI 120 (.call (.t 119) [(.c (.int .i64 2))]), iI 121 (.ext (.t 120) 0), iI 122 (.ext (.t 120) 1), iN (.store 3 (.t 2) (.t 121)), iI 3 (.mv (.t 122))]) .ret
def c24_14 : C := .cond (.t 109) (.seq (.reg [iI 112 (.load 0 (.t 1)), iI 113 (.nilchk (.t 112)), iI 114 (.faddr 1 (.t 113)), iI 115 (.load 0 (.t 114)), iI 116 (.bin .add (.t 115) (.c (.int .i64 1))), iI 117 (.nilchk (.t 112)), iI 118 (.faddr 1 (.t 117)), iN (.store 0 (.t 118) (.t 116))]) c24_13) (.skip)
def c24_15 : C := .cond (.t 85) (.seq (.reg [iI 88 (.load 0 (.t 1)), iI 89 (.call (.c (.fn 35 [])) [(.t 88), (.c (.fn 44 []))])]) c24_12) (.seq (.reg [iI 110 (.load 0 (.t 1)), iI 111 (.call (.c (.fn 38 [])) [(.t 110), (.c (.int .i64 0)), (.c (.fn 46 []))]), iI 109 (.mv (.t 111))]) c24_14)
def c24_16 : C := .cond (.t 46) (.seq (.reg [iI 57 (.load 0 (.t 1)), iI 58 (.nilchk (.t 57)), iI 59 (.faddr 1 (.t 58)), iI 60 (.load 0 (.t 59)), iI 61 (.bin .add (.t 60) (.c (.int .i64 1))), iI 62 (.nilchk (.t 57)), iI 63 (.faddr 1 (.t 62)), iN (.store 0 (.t 63) (.t 61))]) c24_8) (.seq (.reg [iI 86 (.load 0 (.t 1)), iI 87 (.call (.c (.fn 38 [])) [(.t 86), (.c (.int .i64 0)), (.c (.fn 44 []))]), iI 85 (.mv (.t 87))]) c24_15)
def c24_17 : C := .cond (.t 30) (.seq (.reg [iI 33 (.load 0 (.t 1)), iI 34 (.call (.c (.fn 35 [])) [(.t 33), (.c (.fn 40 []))])]) c24_2) (.seq (.reg [iI 47 (.load 0 (.t 1)), iI 48 (.nilchk (.t 47)), iI 49 (.faddr 0 (.t 48)), iI 50 (.load 0 (.t 49)), iI 51 (.load 0 (.t 1)), iI 52 (.nilchk (.t 51)), iI 53 (.faddr 1 (.t 52)), iI 54 (.load 0 (.t 53)), iI 55 (.sidx (.t 50) (.t 54)), iI 56 (.bin .eql (.t 55) (.c (.int .u8 34))), iI 46 (.mv (.t 56))]) c24_16)
def c24_18 : C := .cond (.t 15) (.seq (.reg [iI 26 (.mv (.t 5)), iI 27 (.call (.t 26) [(.c (.int .i64 3))]), iI 28 (.ext (.t 27) 0), iI 29 (.ext (.t 27) 1), iN (.store 3 (.t 2) (.t 28)), iI 3 (.mv (.t 29))]) .ret) (.seq (.reg [iI 31 (.load 0 (.t 1)), iI 32 (.call (.c (.fn 38 [])) [(.t 31), (.c (.int .i64 0)), (.c (.fn 39 []))]), iI 30 (.mv (.t 32))]) c24_17)
def c24_19 : C := .seq (.reg [iI 123 (.build [(1, (.int .i64 0)), (1, (.str [])), (1, (.int .i64 0))] []), iN (.store 3 (.t 2) (.t 123)), iI 3 (.mv (.c (.bool false)))]) .ret
def c24_20 : C := .seq (.block 0 (.seq (.reg [iI 16 (.load 0 (.t 1)), iI 17 (.nilchk (.t 16)), iI 18 (.faddr 1 (.t 17)), iI 19 (.load 0 (.t 18)), iI 20 (.load 0 (.t 1)), iI 21 (.nilchk (.t 20)), iI 22 (.faddr 0 (.t 21)), iI 23 (.load 0 (.t 22)), iI 24 (.len 1 (.t 23)), iI 25 (.bin .eql (.t 19) (.t 24)), iI 15 (.mv (.t 25))]) c24_18)) c24_19
def c24_21 : C := .seq (.reg [iI 14 (.mkfn 37 [(.t 1), (.t 4)]), iI 5 (.mv (.t 14))]) c24_20
def c24_22 : C := .seq (.reg [iI 10 (.load 0 (.t 1)), iI 11 (.nilchk (.t 10)), iI 12 (.faddr 1 (.t 11)), iI 13 (.load 0 (.t 12)), iI 4 (.alloc [(1, (.int .i64 0))]), iN (.store 0 (.t 4) (.t 13))]) c24_21
def c24_23 : C := .seq (.reg [iI 8 (.load 0 (.t 1)), iI 9 (.call (.c (.fn 35 [])) [(.t 8), (.c (.fn 36 []))])]) c24_22
def ir24 : C := .seq (.reg [iI 1 (.box (.t 0)), iI 2 (.alloc [(1, (.int .i64 0)), (1, (.str [])), (1, (.int .i64 0))]), iI 3 (.mv (.c (.bool false)))]) c24_23
theorem fd24 : fd? Try.prog 24 = some (124, [.cell 2 3, .slot 3], ir24) := by kernel_rfl
def c35_0 : C := .cond (.t 6) (.skip) (.exit 0)
def c35_1 : C := .block 1 (.reg [iI 7 (.mv (.t 0)), iI 8 (.nilchk (.t 7)), iI 9 (.faddr 1 (.t 8)), iI 10 (.load 0 (.t 9)), iI 11 (.bin .add (.t 10) (.c (.int .i64 1))), iI 12 (.nilchk (.t 7)), iI 13 (.faddr 1 (.t 12)), iN (.store 0 (.t 13) (.t 11))])
def ir35 : C := .block 0 (.loop (.seq (.seq (.reg [iI 4 (.mv (.t 0)), iI 5 (.mv (.t 1)), iI 6 (.call (.c (.fn 38 [])) [(.t 4), (.c (.int .i64 0)), (.t 5)])]) c35_0) c35_1))
theorem fd35 : fd? Try.prog 35 = some (14, [], ir35) := by kernel_rfl
noncomputable def f14_L4 (s_87 : (List UInt8)) (out_421 : (List ApiToken)) : Lp (Int) (Int) where
  body := fun v_576 => (f38_36p s_87 v_576 0).bind fun r_579 => (if r_579 = true then (some (.next (IntKind.i64.wrap (v_576 + 1)))) else (some (.brk v_576)))
  cst := fun v_576 => ⟨put (put (fun _ => .junk) 1 (.fn 36 [])) 0 (.ptr 0 0), [.cel [.str s_87, .int .i64 v_576], .els 3 (out_421.map eApiToken), .cel [.ptr 0 0], .cel [.int .i64 0, .str ([]), .int .i64 0]]⟩
noncomputable def f14_C3 (s_87 : (List UInt8)) (out_421 : (List ApiToken)) (r_420 : Int) : Il (Int) where
  run := (Lp.run (f14_L4 s_87 out_421) r_420).bind fun v_578 => (some v_578)
  res := fun v_572 => .tup []
  hp := fun v_572 => [.cel [.str s_87, .int .i64 v_572], .els 3 (out_421.map eApiToken), .cel [.ptr 0 0], .cel [.int .i64 0, .str ([]), .int .i64 0]]
noncomputable def f14_C5 (s_87 : (List UInt8)) (v_572 : Int) (out_421 : (List ApiToken)) : Il ((List UInt8)) where
  run := (slc? s_87 v_572 v_572).bind fun s_583 => (some s_583)
  res := fun v_582 => .tup [.agg [.int .i64 3, .str v_582, .int .i64 v_572], .bool true]
  hp := fun v_582 => [.cel [.str s_87, .int .i64 v_572], .els 3 (out_421.map eApiToken), .cel [.ptr 0 0], .cel [.int .i64 0, .str ([]), .int .i64 0], .cel [.int .i64 v_572], .cel [.int .i64 3, .str v_582, .int .i64 v_572]]
noncomputable def f14_L7 (s_87 : (List UInt8)) (out_421 : (List ApiToken)) (v_572 : Int) : Lp (Int) (Int) where
  body := fun v_595 => (f38_40p s_87 v_595 0).bind fun r_598 => (if r_598 = true then (some (.next (IntKind.i64.wrap (v_595 + 1)))) else (some (.brk v_595)))
  cst := fun v_595 => ⟨put (put (fun _ => .junk) 1 (.fn 40 [])) 0 (.ptr 0 0), [.cel [.str s_87, .int .i64 v_595], .els 3 (out_421.map eApiToken), .cel [.ptr 0 0], .cel [.int .i64 0, .str ([]), .int .i64 0], .cel [.int .i64 v_572]]⟩
noncomputable def f14_C6 (s_87 : (List UInt8)) (out_421 : (List ApiToken)) (v_572 : Int) : Il (Int) where
  run := (Lp.run (f14_L7 s_87 out_421 v_572) v_572).bind fun v_597 => (some v_597)
  res := fun v_591 => .tup []
  hp := fun v_591 => [.cel [.str s_87, .int .i64 v_591], .els 3 (out_421.map eApiToken), .cel [.ptr 0 0], .cel [.int .i64 0, .str ([]), .int .i64 0], .cel [.int .i64 v_572]]
noncomputable def f14_C8 (s_87 : (List UInt8)) (v_572 : Int) (v_591 : Int) (out_421 : (List ApiToken)) : Il ((List UInt8)) where
  run := (slc? s_87 v_572 v_591).bind fun s_602 => (some s_602)
  res := fun v_601 => .tup [.agg [.int .i64 0, .str v_601, .int .i64 v_572], .bool true]
  hp := fun v_601 => [.cel [.str s_87, .int .i64 v_591], .els 3 (out_421.map eApiToken), .cel [.ptr 0 0], .cel [.int .i64 0, .str ([]), .int .i64 0], .cel [.int .i64 v_572], .cel [.int .i64 0, .str v_601, .int .i64 v_572]]
noncomputable def f14_L10 (s_87 : (List UInt8)) (out_421 : (List ApiToken)) (v_572 : Int) : Lp (Int) (Int) where
  body := fun v_615 => (f38_42p s_87 v_615 0).bind fun r_618 => (if r_618 = true then (some (.next (IntKind.i64.wrap (v_615 + 1)))) else (some (.brk v_615)))
  cst := fun v_615 => ⟨put (put (fun _ => .junk) 1 (.fn 42 [])) 0 (.ptr 0 0), [.cel [.str s_87, .int .i64 v_615], .els 3 (out_421.map eApiToken), .cel [.ptr 0 0], .cel [.int .i64 0, .str ([]), .int .i64 0], .cel [.int .i64 v_572]]⟩
noncomputable def f14_C9 (s_87 : (List UInt8)) (out_421 : (List ApiToken)) (v_572 : Int) : Il (Int) where
  run := (Lp.run (f14_L10 s_87 out_421 v_572) (IntKind.i64.wrap (v_572 + 1))).bind fun v_617 => (some v_617)
  res := fun v_611 => .tup []
  hp := fun v_611 => [.cel [.str s_87, .int .i64 v_611], .els 3 (out_421.map eApiToken), .cel [.ptr 0 0], .cel [.int .i64 0, .str ([]), .int .i64 0], .cel [.int .i64 v_572]]
noncomputable def f14_C11 (s_87 : (List UInt8)) (v_572 : Int) (v_611 : Int) (out_421 : (List ApiToken)) : Il ((List UInt8)) where
  run := (slc? s_87 v_572 (IntKind.i64.wrap (v_611 + 1))).bind fun s_624 => (some s_624)
  res := fun v_623 => .tup [.agg [.int .i64 0, .str v_623, .int .i64 v_572], .bool true]
  hp := fun v_623 => [.cel [.str s_87, .int .i64 (IntKind.i64.wrap (v_611 + 1))], .els 3 (out_421.map eApiToken), .cel [.ptr 0 0], .cel [.int .i64 0, .str ([]), .int .i64 0], .cel [.int .i64 v_572], .cel [.int .i64 0, .str v_623, .int .i64 v_572]]
noncomputable def f14_L13 (s_87 : (List UInt8)) (out_421 : (List ApiToken)) (v_572 : Int) : Lp (Int) (Int) where
  body := fun v_636 => (f38_44p s_87 v_636 0).bind fun r_639 => (if r_639 = true then (some (.next (IntKind.i64.wrap (v_636 + 1)))) else (some (.brk v_636)))
  cst := fun v_636 => ⟨put (put (fun _ => .junk) 1 (.fn 44 [])) 0 (.ptr 0 0), [.cel [.str s_87, .int .i64 v_636], .els 3 (out_421.map eApiToken), .cel [.ptr 0 0], .cel [.int .i64 0, .str ([]), .int .i64 0], .cel [.int .i64 v_572]]⟩
noncomputable def f14_C12 (s_87 : (List UInt8)) (out_421 : (List ApiToken)) (v_572 : Int) : Il (Int) where
  run := (Lp.run (f14_L13 s_87 out_421 v_572) v_572).bind fun v_638 => (some v_638)
  res := fun v_632 => .tup []
  hp := fun v_632 => [.cel [.str s_87, .int .i64 v_632], .els 3 (out_421.map eApiToken), .cel [.ptr 0 0], .cel [.int .i64 0, .str ([]), .int .i64 0], .cel [.int .i64 v_572]]
noncomputable def f14_L15 (s_87 : (List UInt8)) (out_421 : (List ApiToken)) (v_572 : Int) : Lp (Int) (Int) where
  body := fun v_652 => (f38_44p s_87 v_652 0).bind fun r_655 => (if r_655 = true then (some (.next (IntKind.i64.wrap (v_652 + 1)))) else (some (.brk v_652)))
  cst := fun v_652 => ⟨put (put (fun _ => .junk) 1 (.fn 44 [])) 0 (.ptr 0 0), [.cel [.str s_87, .int .i64 v_652], .els 3 (out_421.map eApiToken), .cel [.ptr 0 0], .cel [.int .i64 0, .str ([]), .int .i64 0], .cel [.int .i64 v_572]]⟩
noncomputable def f14_C14 (s_87 : (List UInt8)) (out_421 : (List ApiToken)) (v_572 : Int) (v_632 : Int) : Il (Int) where
  run := (Lp.run (f14_L15 s_87 out_421 v_572) (IntKind.i64.wrap (v_632 + 1))).bind fun v_654 => (some v_654)
  res := fun v_648 => .tup []
  hp := fun v_648 => [.cel [.str s_87, .int .i64 v_648], .els 3 (out_421.map eApiToken), .cel [.ptr 0 0], .cel [.int .i64 0, .str ([]), .int .i64 0], .cel [.int .i64 v_572]]
noncomputable def f14_C16 (s_87 : (List UInt8)) (v_572 : Int) (v_648 : Int) (out_421 : (List ApiToken)) : Il ((List UInt8)) where
  run := (slc? s_87 v_572 v_648).bind fun s_659 => (some s_659)
  res := fun v_658 => .tup [.agg [.int .i64 1, .str v_658, .int .i64 v_572], .bool true]
  hp := fun v_658 => [.cel [.str s_87, .int .i64 v_648], .els 3 (out_421.map eApiToken), .cel [.ptr 0 0], .cel [.int .i64 0, .str ([]), .int .i64 0], .cel [.int .i64 v_572], .cel [.int .i64 1, .str v_658, .int .i64 v_572]]
noncomputable def f14_C17 (s_87 : (List UInt8)) (v_572 : Int) (v_632 : Int) (out_421 : (List ApiToken)) : Il ((List UInt8)) where
  run := (slc? s_87 v_572 v_632).bind fun s_663 => (some s_663)
  res := fun v_662 => .tup [.agg [.int .i64 1, .str v_662, .int .i64 v_572], .bool true]
  hp := fun v_662 => [.cel [.str s_87, .int .i64 v_632], .els 3 (out_421.map eApiToken), .cel [.ptr 0 0], .cel [.int .i64 0, .str ([]), .int .i64 0], .cel [.int .i64 v_572], .cel [.int .i64 1, .str v_662, .int .i64 v_572]]
noncomputable def f14_C18 (s_87 : (List UInt8)) (v_572 : Int) (v_632 : Int) (out_421 : (List ApiToken)) : Il ((List UInt8)) where
  run := (slc? s_87 v_572 v_632).bind fun s_667 => (some s_667)
  res := fun v_666 => .tup [.agg [.int .i64 1, .str v_666, .int .i64 v_572], .bool true]
  hp := fun v_666 => [.cel [.str s_87, .int .i64 v_632], .els 3 (out_421.map eApiToken), .cel [.ptr 0 0], .cel [.int .i64 0, .str ([]), .int .i64 0], .cel [.int .i64 v_572], .cel [.int .i64 1, .str v_666, .int .i64 v_572]]
noncomputable def f14_C19 (s_87 : (List UInt8)) (v_572 : Int) (out_421 : (List ApiToken)) : Il ((List UInt8)) where
  run := (slc? s_87 v_572 (IntKind.i64.wrap (v_572 + 1))).bind fun s_672 => (some s_672)
  res := fun v_671 => .tup [.agg [.int .i64 2, .str v_671, .int .i64 v_572], .bool true]
  hp := fun v_671 => [.cel [.str s_87, .int .i64 (IntKind.i64.wrap (v_572 + 1))], .els 3 (out_421.map eApiToken), .cel [.ptr 0 0], .cel [.int .i64 0, .str ([]), .int .i64 0], .cel [.int .i64 v_572], .cel [.int .i64 2, .str v_671, .int .i64 v_572]]
noncomputable def f14_C2 (s_87 : (List UInt8)) (out_421 : (List ApiToken)) (r_420 : Int) : Il (Bool × Int × Int × (List UInt8) × Int) where
  run := ((f14_C3 s_87 out_421 r_420).run.bind fun v_572 => (if (decide (v_572 = ((s_87.length : Nat) : Int))) = true then ((f14_C5 s_87 v_572 out_421).run.bind fun v_582 => (some (true, v_572, 3, v_582, v_572))) else (f38_39p s_87 v_572 0).bind fun r_584 => (if r_584 = true then ((f14_C6 s_87 out_421 v_572).run.bind fun v_591 => ((f14_C8 s_87 v_572 v_591 out_421).run.bind fun v_601 => (f41 v_601).bind fun r_603 => (some (true, v_591, 0, r_603, v_572)))) else (at? s_87 v_572).bind fun b_604 => (if (decide ((b_604.toNat : Int) = 34)) = true then ((f14_C9 s_87 out_421 v_572).run.bind fun v_611 => (f38_43p s_87 v_611 0).bind fun r_620 => (if (!r_620) = true then (some (false, v_572, 0, [], 0)) else ((f14_C11 s_87 v_572 v_611 out_421).run.bind fun v_623 => (some (true, (IntKind.i64.wrap (v_611 + 1)), 0, v_623, v_572))))) else (f38_44p s_87 v_572 0).bind fun r_625 => (if r_625 = true then ((f14_C12 s_87 out_421 v_572).run.bind fun v_632 => (f38_45p s_87 v_632 0).bind fun r_640 => (if r_640 = true then (f38_44p s_87 v_632 1).bind fun r_641 => (if r_641 = true then ((f14_C14 s_87 out_421 v_572 v_632).run.bind fun v_648 => ((f14_C16 s_87 v_572 v_648 out_421).run.bind fun v_658 => (some (true, v_648, 1, v_658, v_572)))) else ((f14_C17 s_87 v_572 v_632 out_421).run.bind fun v_662 => (some (true, v_632, 1, v_662, v_572)))) else ((f14_C18 s_87 v_572 v_632 out_421).run.bind fun v_666 => (some (true, v_632, 1, v_666, v_572))))) else (f38_46p s_87 v_572 0).bind fun r_668 => (if r_668 = true then ((f14_C19 s_87 v_572 out_421).run.bind fun v_671 => (some (true, (IntKind.i64.wrap (v_572 + 1)), 2, v_671, v_572))) else (some (false, v_572, 0, [], 0))))))))
  res := fun (v_561, v_562, v_563, v_564, v_565) => .tup [.agg [.int .i64 v_563, .str v_564, .int .i64 v_565], .bool v_561]
  hp := fun (v_561, v_562, v_563, v_564, v_565) => [.cel [.str s_87, .int .i64 v_562], .els 3 (out_421.map eApiToken), .cel [.int .i64 v_563, .str v_564, .int .i64 v_565]]
noncomputable def f14_L1 (s_87 : (List UInt8)) : Lp (Int × (List ApiToken)) ((Int × Int) ⊕ ((List ApiToken))) where
  body := fun (r_420, out_421) => ((f14_C2 s_87 out_421 r_420).run.bind fun (v_561, v_562, v_563, v_564, v_565) => (if (!v_561) = true then (some (.brk (Sum.inl (v_562, 4)))) else (if (decide (((out_421.length : Nat) : Int) = 256)) = true then (some (.brk (Sum.inl (v_565, 5)))) else (app? 32 out_421 ([(ApiToken.mk v_563 v_564 v_565)])).bind fun out_673 => (if (decide (v_563 = 3)) = true then (some (.brk (Sum.inr out_673))) else (some (.next (v_562, out_673)))))))
  cst := fun (r_420, out_421) => ⟨put (put (fun _ => .junk) 6 (.row 3 1 0 out_421.length)) 5 (.ptr 0 0), [.cel [.str s_87, .int .i64 r_420], .els 3 (out_421.map eApiToken)]⟩
def c14_0 : C := .cond (.t 11) (.seq (.reg [iI 2 (.mv (.c (.sl 3 true []))), iI 3 (.mv (.c (.int .i64 0))), iI 4 (.mv (.c (.int .i64 13)))]) .ret) (.skip)
def c14_1 : C := .cond (.t 27) (.seq (.reg [iI 31 (.faddr 2 (.t 7)), iI 32 (.load 0 (.t 31)), iI 2 (.mv (.c (.sl 3 true []))), iI 3 (.mv (.t 32)), iI 4 (.mv (.c (.int .i64 5)))]) .ret) (.skip)
def c14_2 : C := .cond (.t 20) (.seq (.reg [iI 23 (.mv (.t 5)), iI 24 (.nilchk (.t 23)), iI 25 (.faddr 1 (.t 24)), iI 26 (.load 0 (.t 25)), iI 2 (.mv (.c (.sl 3 true []))), iI 3 (.mv (.t 26)), iI 4 (.mv (.c (.int .i64 4)))]) .ret) (.seq (.reg [iI 28 (.mv (.t 6)), iI 29 (.len 0 (.t 28)), iI 30 (.bin .eql (.t 29) (.c (.int .i64 256))), iI 27 (.mv (.t 30))]) c14_1)
def c14_3 : C := .cond (.t 39) (.seq (.reg [iI 40 (.mv (.t 6)), iI 2 (.mv (.t 40)), iI 3 (.mv (.c (.int .i64 0))), iI 4 (.mv (.c (.int .i64 0)))]) .ret) (.skip)
def c14_4 : C := .seq (.reg [iI 37 (.faddr 0 (.t 7)), iI 38 (.load 0 (.t 37)), iI 39 (.bin .eql (.t 38) (.c (.int .i64 3)))]) c14_3
def c14_5 : C := .seq (.reg [iI 33 (.mv (.t 6)), iI 34 (.load 3 (.t 7)), iI 35 (.mkslp 3 1 (.agg [(.int .i64 0), (.str []), (.int .i64 0)]) [(0, (.t 34))]), iI 36 (.append 3 32 (.t 33) (.t 35)), iI 6 (.mv (.t 36))]) c14_4
def c14_6 : C := .seq (.block 2 (.seq (.reg [iI 21 (.mv (.t 8)), iI 22 (.un .not (.t 21)), iI 20 (.mv (.t 22))]) c14_2)) c14_5
def c14_7 : C := .block 0 (.loop (.block 1 (.seq (.reg [iI 16 (.mv (.t 5)), iI 17 (.call (.c (.fn 24 [])) [(.t 16)]), iI 15 (.mv (.t 17)), iI 18 (.ext (.t 15) 0), iI 19 (.ext (.t 15) 1), iI 7 (.alloc [(1, (.int .i64 0)), (1, (.str [])), (1, (.int .i64 0))]), iN (.store 3 (.t 7) (.t 18)), iI 8 (.mv (.t 19))]) c14_6)))
def c14_8 : C := .seq (.reg [iI 6 (.mv (.c (.sl 3 true [])))]) c14_7
def c14_9 : C := .seq (.reg [iI 12 (.mv (.t 0)), iI 13 (.build [(1, (.str [])), (1, (.int .i64 0))] [(0, 0, (.t 12))]), iI 14 (.box (.t 13)), iI 5 (.mv (.t 14))]) c14_8
def c14_10 : C := .seq (.seq (.reg [iI 9 (.mv (.t 0)), iI 10 (.len 1 (.t 9)), iI 11 (.bin .gtr (.t 10) (.c (.int .i64 4096)))]) c14_0) c14_9
def ir14 : C := .seq (.reg [iI 2 (.mv (.c (.sl 3 true []))), iI 3 (.mv (.c (.int .i64 0))), iI 4 (.mv (.c (.int .i64 0)))]) c14_10
theorem fd14 : fd? Try.prog 14 = some (41, [.slot 2, .slot 3, .slot 4], ir14) := by kernel_rfl
noncomputable def f14 (s_87 : (List UInt8)) : Option ((List ApiToken) × Int × Int) :=
  (if (decide (4096 < ((s_87.length : Nat) : Int))) = true then (some ([], 0, 13)) else ((Lp.run (f14_L1 s_87) (0, [])).bind fun r_ => match r_ with | (Sum.inl (v_493, v_494)) => (some ([], v_493, v_494)) | (Sum.inr v_495) => (some (v_495, 0, 0))))
theorem f14_ok {s_87 : (List UInt8)} {r_ : (List ApiToken) × Int × Int} (H : f14 s_87 = some r_) : Pure Try.prog 14 [.str s_87] (· = .tup [.fr 3 (r_.1.map eApiToken), .int .i64 r_.2.1, .int .i64 r_.2.2]) := by
  refine Pure.walk3 fd14 (some 0) (Nat.le_of_ble_eq_true rfl) (by rfl) fun Q hQ => ?_
  simp only [f14] at H
  refine AW.rseq ?_
  try simp only [↓wk, ↓wl, nc, evV, wrapBits_eq, ↓reduceIte, Nat.reduceEqDiff, Nat.reduceAdd, Nat.reduceSub, Nat.reduceLeDiff, Nat.reduceLT, Nat.reduceBEq, reduceCtorEq, Int.reduceEq]
  refine AW.sseq ?_
  refine AW.rseq ?_
  try simp only [↓wk, ↓wl, nc, evV, wrapBits_eq, ↓reduceIte, Nat.reduceEqDiff, Nat.reduceAdd, Nat.reduceSub, Nat.reduceLeDiff, Nat.reduceLT, Nat.reduceBEq, reduceCtorEq, Int.reduceEq]
  refine AW.ifc H (by rfl) ?_ ?_ <;> clear H <;> intro H
  · refine AW.rseq ?_
    try simp only [↓wk, ↓wl, nc, evV, wrapBits_eq, ↓reduceIte, Nat.reduceEqDiff, Nat.reduceAdd, Nat.reduceSub, Nat.reduceLeDiff, Nat.reduceLT, Nat.reduceBEq, reduceCtorEq, Int.reduceEq]
    refine AW.ret ?_
    refine seqQ.ret ?_
    cases H
    exact hQ _ _ _ _ (.inr rfl) (by simp only [resVs, omap, resV, ↓wk, ↓wl, nc, evV, wrapBits_eq, ↓reduceIte, Nat.reduceEqDiff, Nat.reduceAdd, Nat.reduceSub, Nat.reduceLeDiff, Nat.reduceLT, Nat.reduceBEq, reduceCtorEq, Int.reduceEq]; rfl) (hand_k0 (by rfl) (by rfl)) (by first | exact Or.inl rfl | exact Or.inr rfl)
  · refine AW.skip ?_
    refine seqQ.norm ?_
    refine AW.rseq ?_
    try simp only [↓wk, ↓wl, nc, evV, wrapBits_eq, ↓reduceIte, Nat.reduceEqDiff, Nat.reduceAdd, Nat.reduceSub, Nat.reduceLeDiff, Nat.reduceLT, Nat.reduceBEq, reduceCtorEq, Int.reduceEq]
    refine AW.rseq ?_
    try simp only [↓wk, ↓wl, nc, evV, wrapBits_eq, ↓reduceIte, Nat.reduceEqDiff, Nat.reduceAdd, Nat.reduceSub, Nat.reduceLeDiff, Nat.reduceLT, Nat.reduceBEq, reduceCtorEq, Int.reduceEq]
    refine AW.bend ?_
    refine AW.iter H ((Le.trans (Le.nilRow (i := 6) (e := 3) (by simp only [↓wk, ↓wl, nc, evV, wrapBits_eq, ↓reduceIte, Nat.reduceEqDiff, Nat.reduceAdd, Nat.reduceSub, Nat.reduceLeDiff, Nat.reduceLT, Nat.reduceBEq, reduceCtorEq, Int.reduceEq])) (Le.none [0, 1] [5, 6] (by decide) (by simp only [f14_L1, List.length_set, Option.map_some, restrict_eq, renS_nil, renS_cons, renB_els, renB_cel, renB_dead, deep_eq, map_ren_enc, ren_agg', ren_tup', ren_fn', ren_int', ren_bool', ren_str', ren_sl', ren_pro', ren_nilp', ren_nilfn', ren_junk', ren_ptr', ren_row', ren_arow', ren_eptr', vm, List.idxOf?_cons, List.idxOf?_nil, beq_self_eq_true, Option.map_none, List.getD_cons_zero, List.getD_cons_succ, ↓wk, ↓wl, nc, evV, wrapBits_eq, ↓reduceIte, Nat.reduceEqDiff, Nat.reduceAdd, Nat.reduceSub, Nat.reduceLeDiff, Nat.reduceLT, Nat.reduceBEq, reduceCtorEq, Int.reduceEq] <;> rfl)))) ?_ <;> clear H
    rintro ⟨r_420, out_421⟩ x_ st0_ H hst_
    simp only [f14_L1] at H hst_
    subst hst_
    refine AW.bend ?_
    refine AW.rseq ?_
    try simp only [↓wk, ↓wl, nc, evV, wrapBits_eq, ↓reduceIte, Nat.reduceEqDiff, Nat.reduceAdd, Nat.reduceSub, Nat.reduceLeDiff, Nat.reduceLT, Nat.reduceBEq, reduceCtorEq, Int.reduceEq]
    refine evTs_inl (I := f14_C2 s_87 out_421 r_420) (args := [.ptr 0 0]) H (by rfl) fd24 (by rfl) (Nat.le_of_ble_eq_true rfl) ?_ ?_ <;> clear H
    · rintro v_ Q_ H hqf14_C2
      simp only [f14_C2] at H
      dsimp only [List.length_cons, List.length_nil]
      refine AW.rseq ?_
      try simp only [↓wk, ↓wl, nc, evV, wrapBits_eq, ↓reduceIte, Nat.reduceEqDiff, Nat.reduceAdd, Nat.reduceSub, Nat.reduceLeDiff, Nat.reduceLT, Nat.reduceBEq, reduceCtorEq, Int.reduceEq]
      refine AW.rseq ?_
      try simp only [↓wk, ↓wl, nc, evV, wrapBits_eq, ↓reduceIte, Nat.reduceEqDiff, Nat.reduceAdd, Nat.reduceSub, Nat.reduceLeDiff, Nat.reduceLT, Nat.reduceBEq, reduceCtorEq, Int.reduceEq]
      refine evTs_inl (I := f14_C3 s_87 out_421 r_420) (args := [.ptr 0 0, .fn 36 []]) H (by rfl) fd35 (by rfl) (Nat.le_of_ble_eq_true rfl) ?_ ?_ <;> clear H
      · rintro v_ Q_ H hqf14_C3
        simp only [f14_C3] at H
        dsimp only [List.length_cons, List.length_nil]
        refine AW.bend ?_
        refine AW.iter H ((Le.toL 4 (by rfl) [0, 1, 2, 3] [0, 1] (by decide) (by decide) (by simp only [f14_L4, List.length_set, Option.map_some, restrict_eq, renS_nil, renS_cons, renB_els, renB_cel, renB_dead, deep_eq, map_ren_enc, ren_agg', ren_tup', ren_fn', ren_int', ren_bool', ren_str', ren_sl', ren_pro', ren_nilp', ren_nilfn', ren_junk', ren_ptr', ren_row', ren_arow', ren_eptr', vm, List.idxOf?_cons, List.idxOf?_nil, beq_self_eq_true, Option.map_none, List.getD_cons_zero, List.getD_cons_succ, ↓wk, ↓wl, nc, evV, wrapBits_eq, ↓reduceIte, Nat.reduceEqDiff, Nat.reduceAdd, Nat.reduceSub, Nat.reduceLeDiff, Nat.reduceLT, Nat.reduceBEq, reduceCtorEq, Int.reduceEq] <;> rfl))) ?_ <;> clear H
        rintro v_576 x_ st0_ H hst_
        simp only [f14_L4] at H hst_
        subst hst_
        refine AW.sseq ?_
        refine AW.rseq ?_
        try simp only [↓wk, ↓wl, nc, evV, wrapBits_eq, ↓reduceIte, Nat.reduceEqDiff, Nat.reduceAdd, Nat.reduceSub, Nat.reduceLeDiff, Nat.reduceLT, Nat.reduceBEq, reduceCtorEq, Int.reduceEq]
        refine evTs_flat hFn H (fun _ h => f38_36p_ok h) (by rfl) (by rfl) (by simp only [deep_eq, imm_simps, imm_rowE, imm_ptrE, imm_enc, omap_simps, take_map_len, take_map_set, take_map_set2, le_refl_true, Nat.zero_add, and_true, true_and, List.drop_zero, Option.map_some, ↓wk, ↓wl, nc, evV, wrapBits_eq, ↓reduceIte, Nat.reduceEqDiff, Nat.reduceAdd, Nat.reduceSub, Nat.reduceLeDiff, Nat.reduceLT, Nat.reduceBEq, reduceCtorEq, Int.reduceEq]; rfl) (by rfl) (fun _ => rfl) (fun _ => rfl) ?_ <;> clear H <;> intro r_579 H
        try simp only [eL, ↓wk, ↓wl, nc, evV, wrapBits_eq, ↓reduceIte, Nat.reduceEqDiff, Nat.reduceAdd, Nat.reduceSub, Nat.reduceLeDiff, Nat.reduceLT, Nat.reduceBEq, reduceCtorEq, Int.reduceEq]
        refine AW.ifc H (by rfl) ?_ ?_ <;> clear H <;> intro H
        · refine AW.skip ?_
          refine seqQ.norm ?_
          refine AW.bend ?_
          refine AW.rend ?_
          try simp only [↓wk, ↓wl, nc, evV, wrapBits_eq, ↓reduceIte, Nat.reduceEqDiff, Nat.reduceAdd, Nat.reduceSub, Nat.reduceLeDiff, Nat.reduceLT, Nat.reduceBEq, reduceCtorEq, Int.reduceEq]
          refine blk0.norm ?_
          exact loopQ.next H ((Le.toL 4 (by rfl) [0, 1, 2, 3] [0, 1] (by decide) (by decide) (by simp only [f14_L4, List.length_set, Option.map_some, restrict_eq, renS_nil, renS_cons, renB_els, renB_cel, renB_dead, deep_eq, map_ren_enc, ren_agg', ren_tup', ren_fn', ren_int', ren_bool', ren_str', ren_sl', ren_pro', ren_nilp', ren_nilfn', ren_junk', ren_ptr', ren_row', ren_arow', ren_eptr', vm, List.idxOf?_cons, List.idxOf?_nil, beq_self_eq_true, Option.map_none, List.getD_cons_zero, List.getD_cons_succ, ↓wk, ↓wl, nc, evV, wrapBits_eq, ↓reduceIte, Nat.reduceEqDiff, Nat.reduceAdd, Nat.reduceSub, Nat.reduceLeDiff, Nat.reduceLT, Nat.reduceBEq, reduceCtorEq, Int.reduceEq] <;> rfl)))
        · refine AW.exit ?_
          refine seqQ.exit ?_
          refine loopQ.exit H ?_ <;> clear H <;> intro H
          try dsimp only at H
          refine blk0.here ?_
          cases H
          exact hqf14_C3 _ _ _ (.inl rfl) (Le.toL 4 (by rfl) [0, 1, 2, 3] [] (by decide) (by decide) rfl) (by simp only [resVs, omap, resV, f14_C3, List.length_set, Option.map_some, restrict_eq, renS_nil, renS_cons, renB_els, renB_cel, renB_dead, deep_eq, map_ren_enc, ren_agg', ren_tup', ren_fn', ren_int', ren_bool', ren_str', ren_sl', ren_pro', ren_nilp', ren_nilfn', ren_junk', ren_ptr', ren_row', ren_arow', ren_eptr', vm, List.idxOf?_cons, List.idxOf?_nil, beq_self_eq_true, Option.map_none, List.getD_cons_zero, List.getD_cons_succ, ↓wk, ↓wl, nc, evV, wrapBits_eq, ↓reduceIte, Nat.reduceEqDiff, Nat.reduceAdd, Nat.reduceSub, Nat.reduceLeDiff, Nat.reduceLT, Nat.reduceBEq, reduceCtorEq, Int.reduceEq]) (by simp only [f14_C3, List.length_set, Option.map_some, restrict_eq, renS_nil, renS_cons, renB_els, renB_cel, renB_dead, deep_eq, map_ren_enc, ren_agg', ren_tup', ren_fn', ren_int', ren_bool', ren_str', ren_sl', ren_pro', ren_nilp', ren_nilfn', ren_junk', ren_ptr', ren_row', ren_arow', ren_eptr', vm, List.idxOf?_cons, List.idxOf?_nil, beq_self_eq_true, Option.map_none, List.getD_cons_zero, List.getD_cons_succ, ↓wk, ↓wl, nc, evV, wrapBits_eq, ↓reduceIte, Nat.reduceEqDiff, Nat.reduceAdd, Nat.reduceSub, Nat.reduceLeDiff, Nat.reduceLT, Nat.reduceBEq, reduceCtorEq, Int.reduceEq])
      · rintro v_572 s_ h_ H hs_ hh_
        simp only [f14_C3] at H hs_ hh_
        subst hs_
        subst hh_
        try simp only [↓wk, ↓wl, nc, evV, wrapBits_eq, ↓reduceIte, Nat.reduceEqDiff, Nat.reduceAdd, Nat.reduceSub, Nat.reduceLeDiff, Nat.reduceLT, Nat.reduceBEq, reduceCtorEq, Int.reduceEq]
        refine AW.rseq ?_
        try simp only [↓wk, ↓wl, nc, evV, wrapBits_eq, ↓reduceIte, Nat.reduceEqDiff, Nat.reduceAdd, Nat.reduceSub, Nat.reduceLeDiff, Nat.reduceLT, Nat.reduceBEq, reduceCtorEq, Int.reduceEq]
        refine AW.rseq ?_
        try simp only [↓wk, ↓wl, nc, evV, wrapBits_eq, ↓reduceIte, Nat.reduceEqDiff, Nat.reduceAdd, Nat.reduceSub, Nat.reduceLeDiff, Nat.reduceLT, Nat.reduceBEq, reduceCtorEq, Int.reduceEq]
        refine AW.bseq ?_
        refine AW.rseq ?_
        try simp only [↓wk, ↓wl, nc, evV, wrapBits_eq, ↓reduceIte, Nat.reduceEqDiff, Nat.reduceAdd, Nat.reduceSub, Nat.reduceLeDiff, Nat.reduceLT, Nat.reduceBEq, reduceCtorEq, Int.reduceEq]
        refine AW.ifc H (by rfl) ?_ ?_ <;> clear H <;> intro H
        · refine AW.rseq ?_
          try simp only [↓wk, ↓wl, nc, evV, wrapBits_eq, ↓reduceIte, Nat.reduceEqDiff, Nat.reduceAdd, Nat.reduceSub, Nat.reduceLeDiff, Nat.reduceLT, Nat.reduceBEq, reduceCtorEq, Int.reduceEq]
          refine evTs_inl (I := f14_C5 s_87 v_572 out_421) (args := [.int .i64 3, .ptr 2 0, .ptr 4 0]) H (by rfl) fd37 (by rfl) (Nat.le_of_ble_eq_true rfl) ?_ ?_ <;> clear H
          · rintro v_ Q_ H hqf14_C5
            simp only [f14_C5] at H
            dsimp only [List.length_cons, List.length_nil]
            refine AW.rseq ?_
            try simp only [↓wk, ↓wl, nc, evV, wrapBits_eq, ↓reduceIte, Nat.reduceEqDiff, Nat.reduceAdd, Nat.reduceSub, Nat.reduceLeDiff, Nat.reduceLT, Nat.reduceBEq, reduceCtorEq, Int.reduceEq]
            refine AW.rseq ?_
            try simp only [↓wk, ↓wl, nc, evV, wrapBits_eq, ↓reduceIte, Nat.reduceEqDiff, Nat.reduceAdd, Nat.reduceSub, Nat.reduceLeDiff, Nat.reduceLT, Nat.reduceBEq, reduceCtorEq, Int.reduceEq]
            refine evTs_sslc H (by rfl) (by simp only [loI, hiI, ↓wk, ↓wl, nc, evV, wrapBits_eq, ↓reduceIte, Nat.reduceEqDiff, Nat.reduceAdd, Nat.reduceSub, Nat.reduceLeDiff, Nat.reduceLT, Nat.reduceBEq, reduceCtorEq, Int.reduceEq]; rfl) (by simp only [loI, hiI, ↓wk, ↓wl, nc, evV, wrapBits_eq, ↓reduceIte, Nat.reduceEqDiff, Nat.reduceAdd, Nat.reduceSub, Nat.reduceLeDiff, Nat.reduceLT, Nat.reduceBEq, reduceCtorEq, Int.reduceEq]; rfl) ?_ <;> clear H <;> intro s_583 H
            try simp only [↓wk, ↓wl, nc, evV, wrapBits_eq, ↓reduceIte, Nat.reduceEqDiff, Nat.reduceAdd, Nat.reduceSub, Nat.reduceLeDiff, Nat.reduceLT, Nat.reduceBEq, reduceCtorEq, Int.reduceEq]
            refine AW.ret ?_
            cases H
            exact hqf14_C5 _ _ _ (.inr rfl) (Le.toL 5 (by rfl) [0, 1, 2, 3, 4, 5] [4, 5] (by decide) (by decide) rfl) (by simp only [resVs, omap, resV, f14_C5, List.length_set, Option.map_some, restrict_eq, renS_nil, renS_cons, renB_els, renB_cel, renB_dead, deep_eq, map_ren_enc, ren_agg', ren_tup', ren_fn', ren_int', ren_bool', ren_str', ren_sl', ren_pro', ren_nilp', ren_nilfn', ren_junk', ren_ptr', ren_row', ren_arow', ren_eptr', vm, List.idxOf?_cons, List.idxOf?_nil, beq_self_eq_true, Option.map_none, List.getD_cons_zero, List.getD_cons_succ, ↓wk, ↓wl, nc, evV, wrapBits_eq, ↓reduceIte, Nat.reduceEqDiff, Nat.reduceAdd, Nat.reduceSub, Nat.reduceLeDiff, Nat.reduceLT, Nat.reduceBEq, reduceCtorEq, Int.reduceEq]) (by simp only [f14_C5, List.length_set, Option.map_some, restrict_eq, renS_nil, renS_cons, renB_els, renB_cel, renB_dead, deep_eq, map_ren_enc, ren_agg', ren_tup', ren_fn', ren_int', ren_bool', ren_str', ren_sl', ren_pro', ren_nilp', ren_nilfn', ren_junk', ren_ptr', ren_row', ren_arow', ren_eptr', vm, List.idxOf?_cons, List.idxOf?_nil, beq_self_eq_true, Option.map_none, List.getD_cons_zero, List.getD_cons_succ, ↓wk, ↓wl, nc, evV, wrapBits_eq, ↓reduceIte, Nat.reduceEqDiff, Nat.reduceAdd, Nat.reduceSub, Nat.reduceLeDiff, Nat.reduceLT, Nat.reduceBEq, reduceCtorEq, Int.reduceEq])
          · rintro v_582 s_ h_ H hs_ hh_
            simp only [f14_C5] at H hs_ hh_
            subst hs_
            subst hh_
            try simp only [↓wk, ↓wl, nc, evV, wrapBits_eq, ↓reduceIte, Nat.reduceEqDiff, Nat.reduceAdd, Nat.reduceSub, Nat.reduceLeDiff, Nat.reduceLT, Nat.reduceBEq, reduceCtorEq, Int.reduceEq]
            refine AW.ret ?_
            refine blkQ.ret ?_
            cases H
            exact hqf14_C2 _ _ _ (.inr rfl) (Le.toL 2 (by rfl) [0, 1, 3] [2, 3] (by decide) (by decide) rfl) (by simp only [resVs, omap, resV, f14_C2, List.length_set, Option.map_some, restrict_eq, renS_nil, renS_cons, renB_els, renB_cel, renB_dead, deep_eq, map_ren_enc, ren_agg', ren_tup', ren_fn', ren_int', ren_bool', ren_str', ren_sl', ren_pro', ren_nilp', ren_nilfn', ren_junk', ren_ptr', ren_row', ren_arow', ren_eptr', vm, List.idxOf?_cons, List.idxOf?_nil, beq_self_eq_true, Option.map_none, List.getD_cons_zero, List.getD_cons_succ, ↓wk, ↓wl, nc, evV, wrapBits_eq, ↓reduceIte, Nat.reduceEqDiff, Nat.reduceAdd, Nat.reduceSub, Nat.reduceLeDiff, Nat.reduceLT, Nat.reduceBEq, reduceCtorEq, Int.reduceEq]) (by simp only [f14_C2, List.length_set, Option.map_some, restrict_eq, renS_nil, renS_cons, renB_els, renB_cel, renB_dead, deep_eq, map_ren_enc, ren_agg', ren_tup', ren_fn', ren_int', ren_bool', ren_str', ren_sl', ren_pro', ren_nilp', ren_nilfn', ren_junk', ren_ptr', ren_row', ren_arow', ren_eptr', vm, List.idxOf?_cons, List.idxOf?_nil, beq_self_eq_true, Option.map_none, List.getD_cons_zero, List.getD_cons_succ, ↓wk, ↓wl, nc, evV, wrapBits_eq, ↓reduceIte, Nat.reduceEqDiff, Nat.reduceAdd, Nat.reduceSub, Nat.reduceLeDiff, Nat.reduceLT, Nat.reduceBEq, reduceCtorEq, Int.reduceEq])
        · refine AW.rseq ?_
          try simp only [↓wk, ↓wl, nc, evV, wrapBits_eq, ↓reduceIte, Nat.reduceEqDiff, Nat.reduceAdd, Nat.reduceSub, Nat.reduceLeDiff, Nat.reduceLT, Nat.reduceBEq, reduceCtorEq, Int.reduceEq]
          refine evTs_flat hFn H (fun _ h => f38_39p_ok h) (by rfl) (by rfl) (by simp only [deep_eq, imm_simps, imm_rowE, imm_ptrE, imm_enc, omap_simps, take_map_len, take_map_set, take_map_set2, le_refl_true, Nat.zero_add, and_true, true_and, List.drop_zero, Option.map_some, ↓wk, ↓wl, nc, evV, wrapBits_eq, ↓reduceIte, Nat.reduceEqDiff, Nat.reduceAdd, Nat.reduceSub, Nat.reduceLeDiff, Nat.reduceLT, Nat.reduceBEq, reduceCtorEq, Int.reduceEq]; rfl) (by rfl) (fun _ => rfl) (fun _ => rfl) ?_ <;> clear H <;> intro r_584 H
          try simp only [eL, ↓wk, ↓wl, nc, evV, wrapBits_eq, ↓reduceIte, Nat.reduceEqDiff, Nat.reduceAdd, Nat.reduceSub, Nat.reduceLeDiff, Nat.reduceLT, Nat.reduceBEq, reduceCtorEq, Int.reduceEq]
          refine AW.ifc H (by rfl) ?_ ?_ <;> clear H <;> intro H
          · refine AW.rseq ?_
            try simp only [↓wk, ↓wl, nc, evV, wrapBits_eq, ↓reduceIte, Nat.reduceEqDiff, Nat.reduceAdd, Nat.reduceSub, Nat.reduceLeDiff, Nat.reduceLT, Nat.reduceBEq, reduceCtorEq, Int.reduceEq]
            refine evTs_inl (I := f14_C6 s_87 out_421 v_572) (args := [.ptr 0 0, .fn 40 []]) H (by rfl) fd35 (by rfl) (Nat.le_of_ble_eq_true rfl) ?_ ?_ <;> clear H
            · rintro v_ Q_ H hqf14_C6
              simp only [f14_C6] at H
              dsimp only [List.length_cons, List.length_nil]
              refine AW.bend ?_
              refine AW.iter H ((Le.toL 5 (by rfl) [0, 1, 2, 3, 4] [0, 1] (by decide) (by decide) (by simp only [f14_L7, List.length_set, Option.map_some, restrict_eq, renS_nil, renS_cons, renB_els, renB_cel, renB_dead, deep_eq, map_ren_enc, ren_agg', ren_tup', ren_fn', ren_int', ren_bool', ren_str', ren_sl', ren_pro', ren_nilp', ren_nilfn', ren_junk', ren_ptr', ren_row', ren_arow', ren_eptr', vm, List.idxOf?_cons, List.idxOf?_nil, beq_self_eq_true, Option.map_none, List.getD_cons_zero, List.getD_cons_succ, ↓wk, ↓wl, nc, evV, wrapBits_eq, ↓reduceIte, Nat.reduceEqDiff, Nat.reduceAdd, Nat.reduceSub, Nat.reduceLeDiff, Nat.reduceLT, Nat.reduceBEq, reduceCtorEq, Int.reduceEq] <;> rfl))) ?_ <;> clear H
              rintro v_595 x_ st0_ H hst_
              simp only [f14_L7] at H hst_
              subst hst_
              refine AW.sseq ?_
              refine AW.rseq ?_
              try simp only [↓wk, ↓wl, nc, evV, wrapBits_eq, ↓reduceIte, Nat.reduceEqDiff, Nat.reduceAdd, Nat.reduceSub, Nat.reduceLeDiff, Nat.reduceLT, Nat.reduceBEq, reduceCtorEq, Int.reduceEq]
              refine evTs_flat hFn H (fun _ h => f38_40p_ok h) (by rfl) (by rfl) (by simp only [deep_eq, imm_simps, imm_rowE, imm_ptrE, imm_enc, omap_simps, take_map_len, take_map_set, take_map_set2, le_refl_true, Nat.zero_add, and_true, true_and, List.drop_zero, Option.map_some, ↓wk, ↓wl, nc, evV, wrapBits_eq, ↓reduceIte, Nat.reduceEqDiff, Nat.reduceAdd, Nat.reduceSub, Nat.reduceLeDiff, Nat.reduceLT, Nat.reduceBEq, reduceCtorEq, Int.reduceEq]; rfl) (by rfl) (fun _ => rfl) (fun _ => rfl) ?_ <;> clear H <;> intro r_598 H
              try simp only [eL, ↓wk, ↓wl, nc, evV, wrapBits_eq, ↓reduceIte, Nat.reduceEqDiff, Nat.reduceAdd, Nat.reduceSub, Nat.reduceLeDiff, Nat.reduceLT, Nat.reduceBEq, reduceCtorEq, Int.reduceEq]
              refine AW.ifc H (by rfl) ?_ ?_ <;> clear H <;> intro H
              · refine AW.skip ?_
                refine seqQ.norm ?_
                refine AW.bend ?_
                refine AW.rend ?_
                try simp only [↓wk, ↓wl, nc, evV, wrapBits_eq, ↓reduceIte, Nat.reduceEqDiff, Nat.reduceAdd, Nat.reduceSub, Nat.reduceLeDiff, Nat.reduceLT, Nat.reduceBEq, reduceCtorEq, Int.reduceEq]
                refine blk0.norm ?_
                exact loopQ.next H ((Le.toL 5 (by rfl) [0, 1, 2, 3, 4] [0, 1] (by decide) (by decide) (by simp only [f14_L7, List.length_set, Option.map_some, restrict_eq, renS_nil, renS_cons, renB_els, renB_cel, renB_dead, deep_eq, map_ren_enc, ren_agg', ren_tup', ren_fn', ren_int', ren_bool', ren_str', ren_sl', ren_pro', ren_nilp', ren_nilfn', ren_junk', ren_ptr', ren_row', ren_arow', ren_eptr', vm, List.idxOf?_cons, List.idxOf?_nil, beq_self_eq_true, Option.map_none, List.getD_cons_zero, List.getD_cons_succ, ↓wk, ↓wl, nc, evV, wrapBits_eq, ↓reduceIte, Nat.reduceEqDiff, Nat.reduceAdd, Nat.reduceSub, Nat.reduceLeDiff, Nat.reduceLT, Nat.reduceBEq, reduceCtorEq, Int.reduceEq] <;> rfl)))
              · refine AW.exit ?_
                refine seqQ.exit ?_
                refine loopQ.exit H ?_ <;> clear H <;> intro H
                try dsimp only at H
                refine blk0.here ?_
                cases H
                exact hqf14_C6 _ _ _ (.inl rfl) (Le.toL 5 (by rfl) [0, 1, 2, 3, 4] [] (by decide) (by decide) rfl) (by simp only [resVs, omap, resV, f14_C6, List.length_set, Option.map_some, restrict_eq, renS_nil, renS_cons, renB_els, renB_cel, renB_dead, deep_eq, map_ren_enc, ren_agg', ren_tup', ren_fn', ren_int', ren_bool', ren_str', ren_sl', ren_pro', ren_nilp', ren_nilfn', ren_junk', ren_ptr', ren_row', ren_arow', ren_eptr', vm, List.idxOf?_cons, List.idxOf?_nil, beq_self_eq_true, Option.map_none, List.getD_cons_zero, List.getD_cons_succ, ↓wk, ↓wl, nc, evV, wrapBits_eq, ↓reduceIte, Nat.reduceEqDiff, Nat.reduceAdd, Nat.reduceSub, Nat.reduceLeDiff, Nat.reduceLT, Nat.reduceBEq, reduceCtorEq, Int.reduceEq]) (by simp only [f14_C6, List.length_set, Option.map_some, restrict_eq, renS_nil, renS_cons, renB_els, renB_cel, renB_dead, deep_eq, map_ren_enc, ren_agg', ren_tup', ren_fn', ren_int', ren_bool', ren_str', ren_sl', ren_pro', ren_nilp', ren_nilfn', ren_junk', ren_ptr', ren_row', ren_arow', ren_eptr', vm, List.idxOf?_cons, List.idxOf?_nil, beq_self_eq_true, Option.map_none, List.getD_cons_zero, List.getD_cons_succ, ↓wk, ↓wl, nc, evV, wrapBits_eq, ↓reduceIte, Nat.reduceEqDiff, Nat.reduceAdd, Nat.reduceSub, Nat.reduceLeDiff, Nat.reduceLT, Nat.reduceBEq, reduceCtorEq, Int.reduceEq])
            · rintro v_591 s_ h_ H hs_ hh_
              simp only [f14_C6] at H hs_ hh_
              subst hs_
              subst hh_
              try simp only [↓wk, ↓wl, nc, evV, wrapBits_eq, ↓reduceIte, Nat.reduceEqDiff, Nat.reduceAdd, Nat.reduceSub, Nat.reduceLeDiff, Nat.reduceLT, Nat.reduceBEq, reduceCtorEq, Int.reduceEq]
              refine AW.rseq ?_
              try simp only [↓wk, ↓wl, nc, evV, wrapBits_eq, ↓reduceIte, Nat.reduceEqDiff, Nat.reduceAdd, Nat.reduceSub, Nat.reduceLeDiff, Nat.reduceLT, Nat.reduceBEq, reduceCtorEq, Int.reduceEq]
              refine evTs_inl (I := f14_C8 s_87 v_572 v_591 out_421) (args := [.int .i64 0, .ptr 2 0, .ptr 4 0]) H (by rfl) fd37 (by rfl) (Nat.le_of_ble_eq_true rfl) ?_ ?_ <;> clear H
              · rintro v_ Q_ H hqf14_C8
                simp only [f14_C8] at H
                dsimp only [List.length_cons, List.length_nil]
                refine AW.rseq ?_
                try simp only [↓wk, ↓wl, nc, evV, wrapBits_eq, ↓reduceIte, Nat.reduceEqDiff, Nat.reduceAdd, Nat.reduceSub, Nat.reduceLeDiff, Nat.reduceLT, Nat.reduceBEq, reduceCtorEq, Int.reduceEq]
                refine AW.rseq ?_
                try simp only [↓wk, ↓wl, nc, evV, wrapBits_eq, ↓reduceIte, Nat.reduceEqDiff, Nat.reduceAdd, Nat.reduceSub, Nat.reduceLeDiff, Nat.reduceLT, Nat.reduceBEq, reduceCtorEq, Int.reduceEq]
                refine evTs_sslc H (by rfl) (by simp only [loI, hiI, ↓wk, ↓wl, nc, evV, wrapBits_eq, ↓reduceIte, Nat.reduceEqDiff, Nat.reduceAdd, Nat.reduceSub, Nat.reduceLeDiff, Nat.reduceLT, Nat.reduceBEq, reduceCtorEq, Int.reduceEq]; rfl) (by simp only [loI, hiI, ↓wk, ↓wl, nc, evV, wrapBits_eq, ↓reduceIte, Nat.reduceEqDiff, Nat.reduceAdd, Nat.reduceSub, Nat.reduceLeDiff, Nat.reduceLT, Nat.reduceBEq, reduceCtorEq, Int.reduceEq]; rfl) ?_ <;> clear H <;> intro s_602 H
                try simp only [↓wk, ↓wl, nc, evV, wrapBits_eq, ↓reduceIte, Nat.reduceEqDiff, Nat.reduceAdd, Nat.reduceSub, Nat.reduceLeDiff, Nat.reduceLT, Nat.reduceBEq, reduceCtorEq, Int.reduceEq]
                refine AW.ret ?_
                cases H
                exact hqf14_C8 _ _ _ (.inr rfl) (Le.toL 5 (by rfl) [0, 1, 2, 3, 4, 5] [4, 5] (by decide) (by decide) rfl) (by simp only [resVs, omap, resV, f14_C8, List.length_set, Option.map_some, restrict_eq, renS_nil, renS_cons, renB_els, renB_cel, renB_dead, deep_eq, map_ren_enc, ren_agg', ren_tup', ren_fn', ren_int', ren_bool', ren_str', ren_sl', ren_pro', ren_nilp', ren_nilfn', ren_junk', ren_ptr', ren_row', ren_arow', ren_eptr', vm, List.idxOf?_cons, List.idxOf?_nil, beq_self_eq_true, Option.map_none, List.getD_cons_zero, List.getD_cons_succ, ↓wk, ↓wl, nc, evV, wrapBits_eq, ↓reduceIte, Nat.reduceEqDiff, Nat.reduceAdd, Nat.reduceSub, Nat.reduceLeDiff, Nat.reduceLT, Nat.reduceBEq, reduceCtorEq, Int.reduceEq]) (by simp only [f14_C8, List.length_set, Option.map_some, restrict_eq, renS_nil, renS_cons, renB_els, renB_cel, renB_dead, deep_eq, map_ren_enc, ren_agg', ren_tup', ren_fn', ren_int', ren_bool', ren_str', ren_sl', ren_pro', ren_nilp', ren_nilfn', ren_junk', ren_ptr', ren_row', ren_arow', ren_eptr', vm, List.idxOf?_cons, List.idxOf?_nil, beq_self_eq_true, Option.map_none, List.getD_cons_zero, List.getD_cons_succ, ↓wk, ↓wl, nc, evV, wrapBits_eq, ↓reduceIte, Nat.reduceEqDiff, Nat.reduceAdd, Nat.reduceSub, Nat.reduceLeDiff, Nat.reduceLT, Nat.reduceBEq, reduceCtorEq, Int.reduceEq])
              · rintro v_601 s_ h_ H hs_ hh_
                simp only [f14_C8] at H hs_ hh_
                subst hs_
                subst hh_
                try simp only [↓wk, ↓wl, nc, evV, wrapBits_eq, ↓reduceIte, Nat.reduceEqDiff, Nat.reduceAdd, Nat.reduceSub, Nat.reduceLeDiff, Nat.reduceLT, Nat.reduceBEq, reduceCtorEq, Int.reduceEq]
                refine AW.rseq ?_
                try simp only [↓wk, ↓wl, nc, evV, wrapBits_eq, ↓reduceIte, Nat.reduceEqDiff, Nat.reduceAdd, Nat.reduceSub, Nat.reduceLeDiff, Nat.reduceLT, Nat.reduceBEq, reduceCtorEq, Int.reduceEq]
                refine evTs_pure hFn H (fun _ h => f41_ok h) (by rfl) (by rfl) (by rfl) (by rfl) (fun _ => rfl) ?_ <;> clear H <;> intro r_603 H
                try simp only [eL, ↓wk, ↓wl, nc, evV, wrapBits_eq, ↓reduceIte, Nat.reduceEqDiff, Nat.reduceAdd, Nat.reduceSub, Nat.reduceLeDiff, Nat.reduceLT, Nat.reduceBEq, reduceCtorEq, Int.reduceEq]
                refine AW.rseq ?_
                try simp only [↓wk, ↓wl, nc, evV, wrapBits_eq, ↓reduceIte, Nat.reduceEqDiff, Nat.reduceAdd, Nat.reduceSub, Nat.reduceLeDiff, Nat.reduceLT, Nat.reduceBEq, reduceCtorEq, Int.reduceEq]
                refine AW.ret ?_
                refine blkQ.ret ?_
                cases H
                exact hqf14_C2 _ _ _ (.inr rfl) (Le.toL 2 (by rfl) [0, 1, 3] [2, 3] (by decide) (by decide) rfl) (by simp only [resVs, omap, resV, f14_C2, List.length_set, Option.map_some, restrict_eq, renS_nil, renS_cons, renB_els, renB_cel, renB_dead, deep_eq, map_ren_enc, ren_agg', ren_tup', ren_fn', ren_int', ren_bool', ren_str', ren_sl', ren_pro', ren_nilp', ren_nilfn', ren_junk', ren_ptr', ren_row', ren_arow', ren_eptr', vm, List.idxOf?_cons, List.idxOf?_nil, beq_self_eq_true, Option.map_none, List.getD_cons_zero, List.getD_cons_succ, ↓wk, ↓wl, nc, evV, wrapBits_eq, ↓reduceIte, Nat.reduceEqDiff, Nat.reduceAdd, Nat.reduceSub, Nat.reduceLeDiff, Nat.reduceLT, Nat.reduceBEq, reduceCtorEq, Int.reduceEq]) (by simp only [f14_C2, List.length_set, Option.map_some, restrict_eq, renS_nil, renS_cons, renB_els, renB_cel, renB_dead, deep_eq, map_ren_enc, ren_agg', ren_tup', ren_fn', ren_int', ren_bool', ren_str', ren_sl', ren_pro', ren_nilp', ren_nilfn', ren_junk', ren_ptr', ren_row', ren_arow', ren_eptr', vm, List.idxOf?_cons, List.idxOf?_nil, beq_self_eq_true, Option.map_none, List.getD_cons_zero, List.getD_cons_succ, ↓wk, ↓wl, nc, evV, wrapBits_eq, ↓reduceIte, Nat.reduceEqDiff, Nat.reduceAdd, Nat.reduceSub, Nat.reduceLeDiff, Nat.reduceLT, Nat.reduceBEq, reduceCtorEq, Int.reduceEq])
          · refine AW.rseq ?_
            try simp only [↓wk, ↓wl, nc, evV, wrapBits_eq, ↓reduceIte, Nat.reduceEqDiff, Nat.reduceAdd, Nat.reduceSub, Nat.reduceLeDiff, Nat.reduceLT, Nat.reduceBEq, reduceCtorEq, Int.reduceEq]
            refine evTs_sat H (by rfl) (by rfl) ?_ <;> clear H <;> intro b_604 H
            try simp only [↓wk, ↓wl, nc, evV, wrapBits_eq, ↓reduceIte, Nat.reduceEqDiff, Nat.reduceAdd, Nat.reduceSub, Nat.reduceLeDiff, Nat.reduceLT, Nat.reduceBEq, reduceCtorEq, Int.reduceEq]
            refine AW.ifc H (by rfl) ?_ ?_ <;> clear H <;> intro H
            · refine AW.rseq ?_
              try simp only [↓wk, ↓wl, nc, evV, wrapBits_eq, ↓reduceIte, Nat.reduceEqDiff, Nat.reduceAdd, Nat.reduceSub, Nat.reduceLeDiff, Nat.reduceLT, Nat.reduceBEq, reduceCtorEq, Int.reduceEq]
              refine AW.rseq ?_
              try simp only [↓wk, ↓wl, nc, evV, wrapBits_eq, ↓reduceIte, Nat.reduceEqDiff, Nat.reduceAdd, Nat.reduceSub, Nat.reduceLeDiff, Nat.reduceLT, Nat.reduceBEq, reduceCtorEq, Int.reduceEq]
              refine evTs_inl (I := f14_C9 s_87 out_421 v_572) (args := [.ptr 0 0, .fn 42 []]) H (by rfl) fd35 (by rfl) (Nat.le_of_ble_eq_true rfl) ?_ ?_ <;> clear H
              · rintro v_ Q_ H hqf14_C9
                simp only [f14_C9] at H
                dsimp only [List.length_cons, List.length_nil]
                refine AW.bend ?_
                refine AW.iter H ((Le.toL 5 (by rfl) [0, 1, 2, 3, 4] [0, 1] (by decide) (by decide) (by simp only [f14_L10, List.length_set, Option.map_some, restrict_eq, renS_nil, renS_cons, renB_els, renB_cel, renB_dead, deep_eq, map_ren_enc, ren_agg', ren_tup', ren_fn', ren_int', ren_bool', ren_str', ren_sl', ren_pro', ren_nilp', ren_nilfn', ren_junk', ren_ptr', ren_row', ren_arow', ren_eptr', vm, List.idxOf?_cons, List.idxOf?_nil, beq_self_eq_true, Option.map_none, List.getD_cons_zero, List.getD_cons_succ, ↓wk, ↓wl, nc, evV, wrapBits_eq, ↓reduceIte, Nat.reduceEqDiff, Nat.reduceAdd, Nat.reduceSub, Nat.reduceLeDiff, Nat.reduceLT, Nat.reduceBEq, reduceCtorEq, Int.reduceEq] <;> rfl))) ?_ <;> clear H
                rintro v_615 x_ st0_ H hst_
                simp only [f14_L10] at H hst_
                subst hst_
                refine AW.sseq ?_
                refine AW.rseq ?_
                try simp only [↓wk, ↓wl, nc, evV, wrapBits_eq, ↓reduceIte, Nat.reduceEqDiff, Nat.reduceAdd, Nat.reduceSub, Nat.reduceLeDiff, Nat.reduceLT, Nat.reduceBEq, reduceCtorEq, Int.reduceEq]
                refine evTs_flat hFn H (fun _ h => f38_42p_ok h) (by rfl) (by rfl) (by simp only [deep_eq, imm_simps, imm_rowE, imm_ptrE, imm_enc, omap_simps, take_map_len, take_map_set, take_map_set2, le_refl_true, Nat.zero_add, and_true, true_and, List.drop_zero, Option.map_some, ↓wk, ↓wl, nc, evV, wrapBits_eq, ↓reduceIte, Nat.reduceEqDiff, Nat.reduceAdd, Nat.reduceSub, Nat.reduceLeDiff, Nat.reduceLT, Nat.reduceBEq, reduceCtorEq, Int.reduceEq]; rfl) (by rfl) (fun _ => rfl) (fun _ => rfl) ?_ <;> clear H <;> intro r_618 H
                try simp only [eL, ↓wk, ↓wl, nc, evV, wrapBits_eq, ↓reduceIte, Nat.reduceEqDiff, Nat.reduceAdd, Nat.reduceSub, Nat.reduceLeDiff, Nat.reduceLT, Nat.reduceBEq, reduceCtorEq, Int.reduceEq]
                refine AW.ifc H (by rfl) ?_ ?_ <;> clear H <;> intro H
                · refine AW.skip ?_
                  refine seqQ.norm ?_
                  refine AW.bend ?_
                  refine AW.rend ?_
                  try simp only [↓wk, ↓wl, nc, evV, wrapBits_eq, ↓reduceIte, Nat.reduceEqDiff, Nat.reduceAdd, Nat.reduceSub, Nat.reduceLeDiff, Nat.reduceLT, Nat.reduceBEq, reduceCtorEq, Int.reduceEq]
                  refine blk0.norm ?_
                  exact loopQ.next H ((Le.toL 5 (by rfl) [0, 1, 2, 3, 4] [0, 1] (by decide) (by decide) (by simp only [f14_L10, List.length_set, Option.map_some, restrict_eq, renS_nil, renS_cons, renB_els, renB_cel, renB_dead, deep_eq, map_ren_enc, ren_agg', ren_tup', ren_fn', ren_int', ren_bool', ren_str', ren_sl', ren_pro', ren_nilp', ren_nilfn', ren_junk', ren_ptr', ren_row', ren_arow', ren_eptr', vm, List.idxOf?_cons, List.idxOf?_nil, beq_self_eq_true, Option.map_none, List.getD_cons_zero, List.getD_cons_succ, ↓wk, ↓wl, nc, evV, wrapBits_eq, ↓reduceIte, Nat.reduceEqDiff, Nat.reduceAdd, Nat.reduceSub, Nat.reduceLeDiff, Nat.reduceLT, Nat.reduceBEq, reduceCtorEq, Int.reduceEq] <;> rfl)))
                · refine AW.exit ?_
                  refine seqQ.exit ?_
                  refine loopQ.exit H ?_ <;> clear H <;> intro H
                  try dsimp only at H
                  refine blk0.here ?_
                  cases H
                  exact hqf14_C9 _ _ _ (.inl rfl) (Le.toL 5 (by rfl) [0, 1, 2, 3, 4] [] (by decide) (by decide) rfl) (by simp only [resVs, omap, resV, f14_C9, List.length_set, Option.map_some, restrict_eq, renS_nil, renS_cons, renB_els, renB_cel, renB_dead, deep_eq, map_ren_enc, ren_agg', ren_tup', ren_fn', ren_int', ren_bool', ren_str', ren_sl', ren_pro', ren_nilp', ren_nilfn', ren_junk', ren_ptr', ren_row', ren_arow', ren_eptr', vm, List.idxOf?_cons, List.idxOf?_nil, beq_self_eq_true, Option.map_none, List.getD_cons_zero, List.getD_cons_succ, ↓wk, ↓wl, nc, evV, wrapBits_eq, ↓reduceIte, Nat.reduceEqDiff, Nat.reduceAdd, Nat.reduceSub, Nat.reduceLeDiff, Nat.reduceLT, Nat.reduceBEq, reduceCtorEq, Int.reduceEq]) (by simp only [f14_C9, List.length_set, Option.map_some, restrict_eq, renS_nil, renS_cons, renB_els, renB_cel, renB_dead, deep_eq, map_ren_enc, ren_agg', ren_tup', ren_fn', ren_int', ren_bool', ren_str', ren_sl', ren_pro', ren_nilp', ren_nilfn', ren_junk', ren_ptr', ren_row', ren_arow', ren_eptr', vm, List.idxOf?_cons, List.idxOf?_nil, beq_self_eq_true, Option.map_none, List.getD_cons_zero, List.getD_cons_succ, ↓wk, ↓wl, nc, evV, wrapBits_eq, ↓reduceIte, Nat.reduceEqDiff, Nat.reduceAdd, Nat.reduceSub, Nat.reduceLeDiff, Nat.reduceLT, Nat.reduceBEq, reduceCtorEq, Int.reduceEq])
              · rintro v_611 s_ h_ H hs_ hh_
                simp only [f14_C9] at H hs_ hh_
                subst hs_
                subst hh_
                try simp only [↓wk, ↓wl, nc, evV, wrapBits_eq, ↓reduceIte, Nat.reduceEqDiff, Nat.reduceAdd, Nat.reduceSub, Nat.reduceLeDiff, Nat.reduceLT, Nat.reduceBEq, reduceCtorEq, Int.reduceEq]
                refine AW.sseq ?_
                refine AW.rseq ?_
                try simp only [↓wk, ↓wl, nc, evV, wrapBits_eq, ↓reduceIte, Nat.reduceEqDiff, Nat.reduceAdd, Nat.reduceSub, Nat.reduceLeDiff, Nat.reduceLT, Nat.reduceBEq, reduceCtorEq, Int.reduceEq]
                refine evTs_flat hFn H (fun _ h => f38_43p_ok h) (by rfl) (by rfl) (by simp only [deep_eq, imm_simps, imm_rowE, imm_ptrE, imm_enc, omap_simps, take_map_len, take_map_set, take_map_set2, le_refl_true, Nat.zero_add, and_true, true_and, List.drop_zero, Option.map_some, ↓wk, ↓wl, nc, evV, wrapBits_eq, ↓reduceIte, Nat.reduceEqDiff, Nat.reduceAdd, Nat.reduceSub, Nat.reduceLeDiff, Nat.reduceLT, Nat.reduceBEq, reduceCtorEq, Int.reduceEq]; rfl) (by rfl) (fun _ => rfl) (fun _ => rfl) ?_ <;> clear H <;> intro r_620 H
                try simp only [eL, ↓wk, ↓wl, nc, evV, wrapBits_eq, ↓reduceIte, Nat.reduceEqDiff, Nat.reduceAdd, Nat.reduceSub, Nat.reduceLeDiff, Nat.reduceLT, Nat.reduceBEq, reduceCtorEq, Int.reduceEq]
                refine AW.ifc H (by rfl) ?_ ?_ <;> clear H <;> intro H
                · refine AW.rseq ?_
                  try simp only [↓wk, ↓wl, nc, evV, wrapBits_eq, ↓reduceIte, Nat.reduceEqDiff, Nat.reduceAdd, Nat.reduceSub, Nat.reduceLeDiff, Nat.reduceLT, Nat.reduceBEq, reduceCtorEq, Int.reduceEq]
                  refine AW.rseq ?_
                  try simp only [↓wk, ↓wl, nc, evV, wrapBits_eq, ↓reduceIte, Nat.reduceEqDiff, Nat.reduceAdd, Nat.reduceSub, Nat.reduceLeDiff, Nat.reduceLT, Nat.reduceBEq, reduceCtorEq, Int.reduceEq]
                  refine AW.ret ?_
                  refine seqQ.ret ?_
                  refine blkQ.ret ?_
                  cases H
                  exact hqf14_C2 _ _ _ (.inr rfl) (Le.toL 2 (by rfl) [0, 1, 3] [2, 3] (by decide) (by decide) rfl) (by simp only [resVs, omap, resV, f14_C2, List.length_set, Option.map_some, restrict_eq, renS_nil, renS_cons, renB_els, renB_cel, renB_dead, deep_eq, map_ren_enc, ren_agg', ren_tup', ren_fn', ren_int', ren_bool', ren_str', ren_sl', ren_pro', ren_nilp', ren_nilfn', ren_junk', ren_ptr', ren_row', ren_arow', ren_eptr', vm, List.idxOf?_cons, List.idxOf?_nil, beq_self_eq_true, Option.map_none, List.getD_cons_zero, List.getD_cons_succ, ↓wk, ↓wl, nc, evV, wrapBits_eq, ↓reduceIte, Nat.reduceEqDiff, Nat.reduceAdd, Nat.reduceSub, Nat.reduceLeDiff, Nat.reduceLT, Nat.reduceBEq, reduceCtorEq, Int.reduceEq]) (by simp only [f14_C2, List.length_set, Option.map_some, restrict_eq, renS_nil, renS_cons, renB_els, renB_cel, renB_dead, deep_eq, map_ren_enc, ren_agg', ren_tup', ren_fn', ren_int', ren_bool', ren_str', ren_sl', ren_pro', ren_nilp', ren_nilfn', ren_junk', ren_ptr', ren_row', ren_arow', ren_eptr', vm, List.idxOf?_cons, List.idxOf?_nil, beq_self_eq_true, Option.map_none, List.getD_cons_zero, List.getD_cons_succ, ↓wk, ↓wl, nc, evV, wrapBits_eq, ↓reduceIte, Nat.reduceEqDiff, Nat.reduceAdd, Nat.reduceSub, Nat.reduceLeDiff, Nat.reduceLT, Nat.reduceBEq, reduceCtorEq, Int.reduceEq])
                · refine AW.skip ?_
                  refine seqQ.norm ?_
                  refine AW.rseq ?_
                  try simp only [↓wk, ↓wl, nc, evV, wrapBits_eq, ↓reduceIte, Nat.reduceEqDiff, Nat.reduceAdd, Nat.reduceSub, Nat.reduceLeDiff, Nat.reduceLT, Nat.reduceBEq, reduceCtorEq, Int.reduceEq]
                  refine AW.rseq ?_
                  try simp only [↓wk, ↓wl, nc, evV, wrapBits_eq, ↓reduceIte, Nat.reduceEqDiff, Nat.reduceAdd, Nat.reduceSub, Nat.reduceLeDiff, Nat.reduceLT, Nat.reduceBEq, reduceCtorEq, Int.reduceEq]
                  refine evTs_inl (I := f14_C11 s_87 v_572 v_611 out_421) (args := [.int .i64 0, .ptr 2 0, .ptr 4 0]) H (by rfl) fd37 (by rfl) (Nat.le_of_ble_eq_true rfl) ?_ ?_ <;> clear H
                  · rintro v_ Q_ H hqf14_C11
                    simp only [f14_C11] at H
                    dsimp only [List.length_cons, List.length_nil]
                    refine AW.rseq ?_
                    try simp only [↓wk, ↓wl, nc, evV, wrapBits_eq, ↓reduceIte, Nat.reduceEqDiff, Nat.reduceAdd, Nat.reduceSub, Nat.reduceLeDiff, Nat.reduceLT, Nat.reduceBEq, reduceCtorEq, Int.reduceEq]
                    refine AW.rseq ?_
                    try simp only [↓wk, ↓wl, nc, evV, wrapBits_eq, ↓reduceIte, Nat.reduceEqDiff, Nat.reduceAdd, Nat.reduceSub, Nat.reduceLeDiff, Nat.reduceLT, Nat.reduceBEq, reduceCtorEq, Int.reduceEq]
                    refine evTs_sslc H (by rfl) (by simp only [loI, hiI, ↓wk, ↓wl, nc, evV, wrapBits_eq, ↓reduceIte, Nat.reduceEqDiff, Nat.reduceAdd, Nat.reduceSub, Nat.reduceLeDiff, Nat.reduceLT, Nat.reduceBEq, reduceCtorEq, Int.reduceEq]; rfl) (by simp only [loI, hiI, ↓wk, ↓wl, nc, evV, wrapBits_eq, ↓reduceIte, Nat.reduceEqDiff, Nat.reduceAdd, Nat.reduceSub, Nat.reduceLeDiff, Nat.reduceLT, Nat.reduceBEq, reduceCtorEq, Int.reduceEq]; rfl) ?_ <;> clear H <;> intro s_624 H
                    try simp only [↓wk, ↓wl, nc, evV, wrapBits_eq, ↓reduceIte, Nat.reduceEqDiff, Nat.reduceAdd, Nat.reduceSub, Nat.reduceLeDiff, Nat.reduceLT, Nat.reduceBEq, reduceCtorEq, Int.reduceEq]
                    refine AW.ret ?_
                    cases H
                    exact hqf14_C11 _ _ _ (.inr rfl) (Le.toL 5 (by rfl) [0, 1, 2, 3, 4, 5] [4, 5] (by decide) (by decide) rfl) (by simp only [resVs, omap, resV, f14_C11, List.length_set, Option.map_some, restrict_eq, renS_nil, renS_cons, renB_els, renB_cel, renB_dead, deep_eq, map_ren_enc, ren_agg', ren_tup', ren_fn', ren_int', ren_bool', ren_str', ren_sl', ren_pro', ren_nilp', ren_nilfn', ren_junk', ren_ptr', ren_row', ren_arow', ren_eptr', vm, List.idxOf?_cons, List.idxOf?_nil, beq_self_eq_true, Option.map_none, List.getD_cons_zero, List.getD_cons_succ, ↓wk, ↓wl, nc, evV, wrapBits_eq, ↓reduceIte, Nat.reduceEqDiff, Nat.reduceAdd, Nat.reduceSub, Nat.reduceLeDiff, Nat.reduceLT, Nat.reduceBEq, reduceCtorEq, Int.reduceEq]) (by simp only [f14_C11, List.length_set, Option.map_some, restrict_eq, renS_nil, renS_cons, renB_els, renB_cel, renB_dead, deep_eq, map_ren_enc, ren_agg', ren_tup', ren_fn', ren_int', ren_bool', ren_str', ren_sl', ren_pro', ren_nilp', ren_nilfn', ren_junk', ren_ptr', ren_row', ren_arow', ren_eptr', vm, List.idxOf?_cons, List.idxOf?_nil, beq_self_eq_true, Option.map_none, List.getD_cons_zero, List.getD_cons_succ, ↓wk, ↓wl, nc, evV, wrapBits_eq, ↓reduceIte, Nat.reduceEqDiff, Nat.reduceAdd, Nat.reduceSub, Nat.reduceLeDiff, Nat.reduceLT, Nat.reduceBEq, reduceCtorEq, Int.reduceEq])
                  · rintro v_623 s_ h_ H hs_ hh_
                    simp only [f14_C11] at H hs_ hh_
                    subst hs_
                    subst hh_
                    try simp only [↓wk, ↓wl, nc, evV, wrapBits_eq, ↓reduceIte, Nat.reduceEqDiff, Nat.reduceAdd, Nat.reduceSub, Nat.reduceLeDiff, Nat.reduceLT, Nat.reduceBEq, reduceCtorEq, Int.reduceEq]
                    refine AW.ret ?_
                    refine blkQ.ret ?_
                    cases H
                    exact hqf14_C2 _ _ _ (.inr rfl) (Le.toL 2 (by rfl) [0, 1, 3] [2, 3] (by decide) (by decide) rfl) (by simp only [resVs, omap, resV, f14_C2, List.length_set, Option.map_some, restrict_eq, renS_nil, renS_cons, renB_els, renB_cel, renB_dead, deep_eq, map_ren_enc, ren_agg', ren_tup', ren_fn', ren_int', ren_bool', ren_str', ren_sl', ren_pro', ren_nilp', ren_nilfn', ren_junk', ren_ptr', ren_row', ren_arow', ren_eptr', vm, List.idxOf?_cons, List.idxOf?_nil, beq_self_eq_true, Option.map_none, List.getD_cons_zero, List.getD_cons_succ, ↓wk, ↓wl, nc, evV, wrapBits_eq, ↓reduceIte, Nat.reduceEqDiff, Nat.reduceAdd, Nat.reduceSub, Nat.reduceLeDiff, Nat.reduceLT, Nat.reduceBEq, reduceCtorEq, Int.reduceEq]) (by simp only [f14_C2, List.length_set, Option.map_some, restrict_eq, renS_nil, renS_cons, renB_els, renB_cel, renB_dead, deep_eq, map_ren_enc, ren_agg', ren_tup', ren_fn', ren_int', ren_bool', ren_str', ren_sl', ren_pro', ren_nilp', ren_nilfn', ren_junk', ren_ptr', ren_row', ren_arow', ren_eptr', vm, List.idxOf?_cons, List.idxOf?_nil, beq_self_eq_true, Option.map_none, List.getD_cons_zero, List.getD_cons_succ, ↓wk, ↓wl, nc, evV, wrapBits_eq, ↓reduceIte, Nat.reduceEqDiff, Nat.reduceAdd, Nat.reduceSub, Nat.reduceLeDiff, Nat.reduceLT, Nat.reduceBEq, reduceCtorEq, Int.reduceEq])
            · refine AW.rseq ?_
              try simp only [↓wk, ↓wl, nc, evV, wrapBits_eq, ↓reduceIte, Nat.reduceEqDiff, Nat.reduceAdd, Nat.reduceSub, Nat.reduceLeDiff, Nat.reduceLT, Nat.reduceBEq, reduceCtorEq, Int.reduceEq]
              refine evTs_flat hFn H (fun _ h => f38_44p_ok h) (by rfl) (by rfl) (by simp only [deep_eq, imm_simps, imm_rowE, imm_ptrE, imm_enc, omap_simps, take_map_len, take_map_set, take_map_set2, le_refl_true, Nat.zero_add, and_true, true_and, List.drop_zero, Option.map_some, ↓wk, ↓wl, nc, evV, wrapBits_eq, ↓reduceIte, Nat.reduceEqDiff, Nat.reduceAdd, Nat.reduceSub, Nat.reduceLeDiff, Nat.reduceLT, Nat.reduceBEq, reduceCtorEq, Int.reduceEq]; rfl) (by rfl) (fun _ => rfl) (fun _ => rfl) ?_ <;> clear H <;> intro r_625 H
              try simp only [eL, ↓wk, ↓wl, nc, evV, wrapBits_eq, ↓reduceIte, Nat.reduceEqDiff, Nat.reduceAdd, Nat.reduceSub, Nat.reduceLeDiff, Nat.reduceLT, Nat.reduceBEq, reduceCtorEq, Int.reduceEq]
              refine AW.ifc H (by rfl) ?_ ?_ <;> clear H <;> intro H
              · refine AW.rseq ?_
                try simp only [↓wk, ↓wl, nc, evV, wrapBits_eq, ↓reduceIte, Nat.reduceEqDiff, Nat.reduceAdd, Nat.reduceSub, Nat.reduceLeDiff, Nat.reduceLT, Nat.reduceBEq, reduceCtorEq, Int.reduceEq]
                refine evTs_inl (I := f14_C12 s_87 out_421 v_572) (args := [.ptr 0 0, .fn 44 []]) H (by rfl) fd35 (by rfl) (Nat.le_of_ble_eq_true rfl) ?_ ?_ <;> clear H
                · rintro v_ Q_ H hqf14_C12
                  simp only [f14_C12] at H
                  dsimp only [List.length_cons, List.length_nil]
                  refine AW.bend ?_
                  refine AW.iter H ((Le.toL 5 (by rfl) [0, 1, 2, 3, 4] [0, 1] (by decide) (by decide) (by simp only [f14_L13, List.length_set, Option.map_some, restrict_eq, renS_nil, renS_cons, renB_els, renB_cel, renB_dead, deep_eq, map_ren_enc, ren_agg', ren_tup', ren_fn', ren_int', ren_bool', ren_str', ren_sl', ren_pro', ren_nilp', ren_nilfn', ren_junk', ren_ptr', ren_row', ren_arow', ren_eptr', vm, List.idxOf?_cons, List.idxOf?_nil, beq_self_eq_true, Option.map_none, List.getD_cons_zero, List.getD_cons_succ, ↓wk, ↓wl, nc, evV, wrapBits_eq, ↓reduceIte, Nat.reduceEqDiff, Nat.reduceAdd, Nat.reduceSub, Nat.reduceLeDiff, Nat.reduceLT, Nat.reduceBEq, reduceCtorEq, Int.reduceEq] <;> rfl))) ?_ <;> clear H
                  rintro v_636 x_ st0_ H hst_
                  simp only [f14_L13] at H hst_
                  subst hst_
                  refine AW.sseq ?_
                  refine AW.rseq ?_
                  try simp only [↓wk, ↓wl, nc, evV, wrapBits_eq, ↓reduceIte, Nat.reduceEqDiff, Nat.reduceAdd, Nat.reduceSub, Nat.reduceLeDiff, Nat.reduceLT, Nat.reduceBEq, reduceCtorEq, Int.reduceEq]
                  refine evTs_flat hFn H (fun _ h => f38_44p_ok h) (by rfl) (by rfl) (by simp only [deep_eq, imm_simps, imm_rowE, imm_ptrE, imm_enc, omap_simps, take_map_len, take_map_set, take_map_set2, le_refl_true, Nat.zero_add, and_true, true_and, List.drop_zero, Option.map_some, ↓wk, ↓wl, nc, evV, wrapBits_eq, ↓reduceIte, Nat.reduceEqDiff, Nat.reduceAdd, Nat.reduceSub, Nat.reduceLeDiff, Nat.reduceLT, Nat.reduceBEq, reduceCtorEq, Int.reduceEq]; rfl) (by rfl) (fun _ => rfl) (fun _ => rfl) ?_ <;> clear H <;> intro r_639 H
                  try simp only [eL, ↓wk, ↓wl, nc, evV, wrapBits_eq, ↓reduceIte, Nat.reduceEqDiff, Nat.reduceAdd, Nat.reduceSub, Nat.reduceLeDiff, Nat.reduceLT, Nat.reduceBEq, reduceCtorEq, Int.reduceEq]
                  refine AW.ifc H (by rfl) ?_ ?_ <;> clear H <;> intro H
                  · refine AW.skip ?_
                    refine seqQ.norm ?_
                    refine AW.bend ?_
                    refine AW.rend ?_
                    try simp only [↓wk, ↓wl, nc, evV, wrapBits_eq, ↓reduceIte, Nat.reduceEqDiff, Nat.reduceAdd, Nat.reduceSub, Nat.reduceLeDiff, Nat.reduceLT, Nat.reduceBEq, reduceCtorEq, Int.reduceEq]
                    refine blk0.norm ?_
                    exact loopQ.next H ((Le.toL 5 (by rfl) [0, 1, 2, 3, 4] [0, 1] (by decide) (by decide) (by simp only [f14_L13, List.length_set, Option.map_some, restrict_eq, renS_nil, renS_cons, renB_els, renB_cel, renB_dead, deep_eq, map_ren_enc, ren_agg', ren_tup', ren_fn', ren_int', ren_bool', ren_str', ren_sl', ren_pro', ren_nilp', ren_nilfn', ren_junk', ren_ptr', ren_row', ren_arow', ren_eptr', vm, List.idxOf?_cons, List.idxOf?_nil, beq_self_eq_true, Option.map_none, List.getD_cons_zero, List.getD_cons_succ, ↓wk, ↓wl, nc, evV, wrapBits_eq, ↓reduceIte, Nat.reduceEqDiff, Nat.reduceAdd, Nat.reduceSub, Nat.reduceLeDiff, Nat.reduceLT, Nat.reduceBEq, reduceCtorEq, Int.reduceEq] <;> rfl)))
                  · refine AW.exit ?_
                    refine seqQ.exit ?_
                    refine loopQ.exit H ?_ <;> clear H <;> intro H
                    try dsimp only at H
                    refine blk0.here ?_
                    cases H
                    exact hqf14_C12 _ _ _ (.inl rfl) (Le.toL 5 (by rfl) [0, 1, 2, 3, 4] [] (by decide) (by decide) rfl) (by simp only [resVs, omap, resV, f14_C12, List.length_set, Option.map_some, restrict_eq, renS_nil, renS_cons, renB_els, renB_cel, renB_dead, deep_eq, map_ren_enc, ren_agg', ren_tup', ren_fn', ren_int', ren_bool', ren_str', ren_sl', ren_pro', ren_nilp', ren_nilfn', ren_junk', ren_ptr', ren_row', ren_arow', ren_eptr', vm, List.idxOf?_cons, List.idxOf?_nil, beq_self_eq_true, Option.map_none, List.getD_cons_zero, List.getD_cons_succ, ↓wk, ↓wl, nc, evV, wrapBits_eq, ↓reduceIte, Nat.reduceEqDiff, Nat.reduceAdd, Nat.reduceSub, Nat.reduceLeDiff, Nat.reduceLT, Nat.reduceBEq, reduceCtorEq, Int.reduceEq]) (by simp only [f14_C12, List.length_set, Option.map_some, restrict_eq, renS_nil, renS_cons, renB_els, renB_cel, renB_dead, deep_eq, map_ren_enc, ren_agg', ren_tup', ren_fn', ren_int', ren_bool', ren_str', ren_sl', ren_pro', ren_nilp', ren_nilfn', ren_junk', ren_ptr', ren_row', ren_arow', ren_eptr', vm, List.idxOf?_cons, List.idxOf?_nil, beq_self_eq_true, Option.map_none, List.getD_cons_zero, List.getD_cons_succ, ↓wk, ↓wl, nc, evV, wrapBits_eq, ↓reduceIte, Nat.reduceEqDiff, Nat.reduceAdd, Nat.reduceSub, Nat.reduceLeDiff, Nat.reduceLT, Nat.reduceBEq, reduceCtorEq, Int.reduceEq])
                · rintro v_632 s_ h_ H hs_ hh_
                  simp only [f14_C12] at H hs_ hh_
                  subst hs_
                  subst hh_
                  try simp only [↓wk, ↓wl, nc, evV, wrapBits_eq, ↓reduceIte, Nat.reduceEqDiff, Nat.reduceAdd, Nat.reduceSub, Nat.reduceLeDiff, Nat.reduceLT, Nat.reduceBEq, reduceCtorEq, Int.reduceEq]
                  refine AW.sseq ?_
                  refine AW.rseq ?_
                  try simp only [↓wk, ↓wl, nc, evV, wrapBits_eq, ↓reduceIte, Nat.reduceEqDiff, Nat.reduceAdd, Nat.reduceSub, Nat.reduceLeDiff, Nat.reduceLT, Nat.reduceBEq, reduceCtorEq, Int.reduceEq]
                  refine evTs_flat hFn H (fun _ h => f38_45p_ok h) (by rfl) (by rfl) (by simp only [deep_eq, imm_simps, imm_rowE, imm_ptrE, imm_enc, omap_simps, take_map_len, take_map_set, take_map_set2, le_refl_true, Nat.zero_add, and_true, true_and, List.drop_zero, Option.map_some, ↓wk, ↓wl, nc, evV, wrapBits_eq, ↓reduceIte, Nat.reduceEqDiff, Nat.reduceAdd, Nat.reduceSub, Nat.reduceLeDiff, Nat.reduceLT, Nat.reduceBEq, reduceCtorEq, Int.reduceEq]; rfl) (by rfl) (fun _ => rfl) (fun _ => rfl) ?_ <;> clear H <;> intro r_640 H
                  try simp only [eL, ↓wk, ↓wl, nc, evV, wrapBits_eq, ↓reduceIte, Nat.reduceEqDiff, Nat.reduceAdd, Nat.reduceSub, Nat.reduceLeDiff, Nat.reduceLT, Nat.reduceBEq, reduceCtorEq, Int.reduceEq]
                  refine evTs_ifg H (by rfl) ?_ ?_ <;> clear H <;> intro H
                  · try simp only [↓wk, ↓wl, nc, evV, wrapBits_eq, ↓reduceIte, Nat.reduceEqDiff, Nat.reduceAdd, Nat.reduceSub, Nat.reduceLeDiff, Nat.reduceLT, Nat.reduceBEq, reduceCtorEq, Int.reduceEq]
                    refine evTs_flat hFn H (fun _ h => f38_44p_ok h) (by rfl) (by rfl) (by simp only [deep_eq, imm_simps, imm_rowE, imm_ptrE, imm_enc, omap_simps, take_map_len, take_map_set, take_map_set2, le_refl_true, Nat.zero_add, and_true, true_and, List.drop_zero, Option.map_some, ↓wk, ↓wl, nc, evV, wrapBits_eq, ↓reduceIte, Nat.reduceEqDiff, Nat.reduceAdd, Nat.reduceSub, Nat.reduceLeDiff, Nat.reduceLT, Nat.reduceBEq, reduceCtorEq, Int.reduceEq]; rfl) (by rfl) (fun _ => rfl) (fun _ => rfl) ?_ <;> clear H <;> intro r_641 H
                    try simp only [eL, ↓wk, ↓wl, nc, evV, wrapBits_eq, ↓reduceIte, Nat.reduceEqDiff, Nat.reduceAdd, Nat.reduceSub, Nat.reduceLeDiff, Nat.reduceLT, Nat.reduceBEq, reduceCtorEq, Int.reduceEq]
                    refine AW.ifc H (by rfl) ?_ ?_ <;> clear H <;> intro H
                    · refine AW.rseq ?_
                      try simp only [↓wk, ↓wl, nc, evV, wrapBits_eq, ↓reduceIte, Nat.reduceEqDiff, Nat.reduceAdd, Nat.reduceSub, Nat.reduceLeDiff, Nat.reduceLT, Nat.reduceBEq, reduceCtorEq, Int.reduceEq]
                      refine AW.rend ?_
                      try simp only [↓wk, ↓wl, nc, evV, wrapBits_eq, ↓reduceIte, Nat.reduceEqDiff, Nat.reduceAdd, Nat.reduceSub, Nat.reduceLeDiff, Nat.reduceLT, Nat.reduceBEq, reduceCtorEq, Int.reduceEq]
                      refine evTs_inl (I := f14_C14 s_87 out_421 v_572 v_632) (args := [.ptr 0 0, .fn 44 []]) H (by rfl) fd35 (by rfl) (Nat.le_of_ble_eq_true rfl) ?_ ?_ <;> clear H
                      · rintro v_ Q_ H hqf14_C14
                        simp only [f14_C14] at H
                        dsimp only [List.length_cons, List.length_nil]
                        refine AW.bend ?_
                        refine AW.iter H ((Le.toL 5 (by rfl) [0, 1, 2, 3, 4] [0, 1] (by decide) (by decide) (by simp only [f14_L15, List.length_set, Option.map_some, restrict_eq, renS_nil, renS_cons, renB_els, renB_cel, renB_dead, deep_eq, map_ren_enc, ren_agg', ren_tup', ren_fn', ren_int', ren_bool', ren_str', ren_sl', ren_pro', ren_nilp', ren_nilfn', ren_junk', ren_ptr', ren_row', ren_arow', ren_eptr', vm, List.idxOf?_cons, List.idxOf?_nil, beq_self_eq_true, Option.map_none, List.getD_cons_zero, List.getD_cons_succ, ↓wk, ↓wl, nc, evV, wrapBits_eq, ↓reduceIte, Nat.reduceEqDiff, Nat.reduceAdd, Nat.reduceSub, Nat.reduceLeDiff, Nat.reduceLT, Nat.reduceBEq, reduceCtorEq, Int.reduceEq] <;> rfl))) ?_ <;> clear H
                        rintro v_652 x_ st0_ H hst_
                        simp only [f14_L15] at H hst_
                        subst hst_
                        refine AW.sseq ?_
                        refine AW.rseq ?_
                        try simp only [↓wk, ↓wl, nc, evV, wrapBits_eq, ↓reduceIte, Nat.reduceEqDiff, Nat.reduceAdd, Nat.reduceSub, Nat.reduceLeDiff, Nat.reduceLT, Nat.reduceBEq, reduceCtorEq, Int.reduceEq]
                        refine evTs_flat hFn H (fun _ h => f38_44p_ok h) (by rfl) (by rfl) (by simp only [deep_eq, imm_simps, imm_rowE, imm_ptrE, imm_enc, omap_simps, take_map_len, take_map_set, take_map_set2, le_refl_true, Nat.zero_add, and_true, true_and, List.drop_zero, Option.map_some, ↓wk, ↓wl, nc, evV, wrapBits_eq, ↓reduceIte, Nat.reduceEqDiff, Nat.reduceAdd, Nat.reduceSub, Nat.reduceLeDiff, Nat.reduceLT, Nat.reduceBEq, reduceCtorEq, Int.reduceEq]; rfl) (by rfl) (fun _ => rfl) (fun _ => rfl) ?_ <;> clear H <;> intro r_655 H
                        try simp only [eL, ↓wk, ↓wl, nc, evV, wrapBits_eq, ↓reduceIte, Nat.reduceEqDiff, Nat.reduceAdd, Nat.reduceSub, Nat.reduceLeDiff, Nat.reduceLT, Nat.reduceBEq, reduceCtorEq, Int.reduceEq]
                        refine AW.ifc H (by rfl) ?_ ?_ <;> clear H <;> intro H
                        · refine AW.skip ?_
                          refine seqQ.norm ?_
                          refine AW.bend ?_
                          refine AW.rend ?_
                          try simp only [↓wk, ↓wl, nc, evV, wrapBits_eq, ↓reduceIte, Nat.reduceEqDiff, Nat.reduceAdd, Nat.reduceSub, Nat.reduceLeDiff, Nat.reduceLT, Nat.reduceBEq, reduceCtorEq, Int.reduceEq]
                          refine blk0.norm ?_
                          exact loopQ.next H ((Le.toL 5 (by rfl) [0, 1, 2, 3, 4] [0, 1] (by decide) (by decide) (by simp only [f14_L15, List.length_set, Option.map_some, restrict_eq, renS_nil, renS_cons, renB_els, renB_cel, renB_dead, deep_eq, map_ren_enc, ren_agg', ren_tup', ren_fn', ren_int', ren_bool', ren_str', ren_sl', ren_pro', ren_nilp', ren_nilfn', ren_junk', ren_ptr', ren_row', ren_arow', ren_eptr', vm, List.idxOf?_cons, List.idxOf?_nil, beq_self_eq_true, Option.map_none, List.getD_cons_zero, List.getD_cons_succ, ↓wk, ↓wl, nc, evV, wrapBits_eq, ↓reduceIte, Nat.reduceEqDiff, Nat.reduceAdd, Nat.reduceSub, Nat.reduceLeDiff, Nat.reduceLT, Nat.reduceBEq, reduceCtorEq, Int.reduceEq] <;> rfl)))
                        · refine AW.exit ?_
                          refine seqQ.exit ?_
                          refine loopQ.exit H ?_ <;> clear H <;> intro H
                          try dsimp only at H
                          refine blk0.here ?_
                          cases H
                          exact hqf14_C14 _ _ _ (.inl rfl) (Le.toL 5 (by rfl) [0, 1, 2, 3, 4] [] (by decide) (by decide) rfl) (by simp only [resVs, omap, resV, f14_C14, List.length_set, Option.map_some, restrict_eq, renS_nil, renS_cons, renB_els, renB_cel, renB_dead, deep_eq, map_ren_enc, ren_agg', ren_tup', ren_fn', ren_int', ren_bool', ren_str', ren_sl', ren_pro', ren_nilp', ren_nilfn', ren_junk', ren_ptr', ren_row', ren_arow', ren_eptr', vm, List.idxOf?_cons, List.idxOf?_nil, beq_self_eq_true, Option.map_none, List.getD_cons_zero, List.getD_cons_succ, ↓wk, ↓wl, nc, evV, wrapBits_eq, ↓reduceIte, Nat.reduceEqDiff, Nat.reduceAdd, Nat.reduceSub, Nat.reduceLeDiff, Nat.reduceLT, Nat.reduceBEq, reduceCtorEq, Int.reduceEq]) (by simp only [f14_C14, List.length_set, Option.map_some, restrict_eq, renS_nil, renS_cons, renB_els, renB_cel, renB_dead, deep_eq, map_ren_enc, ren_agg', ren_tup', ren_fn', ren_int', ren_bool', ren_str', ren_sl', ren_pro', ren_nilp', ren_nilfn', ren_junk', ren_ptr', ren_row', ren_arow', ren_eptr', vm, List.idxOf?_cons, List.idxOf?_nil, beq_self_eq_true, Option.map_none, List.getD_cons_zero, List.getD_cons_succ, ↓wk, ↓wl, nc, evV, wrapBits_eq, ↓reduceIte, Nat.reduceEqDiff, Nat.reduceAdd, Nat.reduceSub, Nat.reduceLeDiff, Nat.reduceLT, Nat.reduceBEq, reduceCtorEq, Int.reduceEq])
                      · rintro v_648 s_ h_ H hs_ hh_
                        simp only [f14_C14] at H hs_ hh_
                        subst hs_
                        subst hh_
                        try simp only [↓wk, ↓wl, nc, evV, wrapBits_eq, ↓reduceIte, Nat.reduceEqDiff, Nat.reduceAdd, Nat.reduceSub, Nat.reduceLeDiff, Nat.reduceLT, Nat.reduceBEq, reduceCtorEq, Int.reduceEq]
                        refine seqQ.norm ?_
                        refine AW.rseq ?_
                        try simp only [↓wk, ↓wl, nc, evV, wrapBits_eq, ↓reduceIte, Nat.reduceEqDiff, Nat.reduceAdd, Nat.reduceSub, Nat.reduceLeDiff, Nat.reduceLT, Nat.reduceBEq, reduceCtorEq, Int.reduceEq]
                        refine evTs_inl (I := f14_C16 s_87 v_572 v_648 out_421) (args := [.int .i64 1, .ptr 2 0, .ptr 4 0]) H (by rfl) fd37 (by rfl) (Nat.le_of_ble_eq_true rfl) ?_ ?_ <;> clear H
                        · rintro v_ Q_ H hqf14_C16
                          simp only [f14_C16] at H
                          dsimp only [List.length_cons, List.length_nil]
                          refine AW.rseq ?_
                          try simp only [↓wk, ↓wl, nc, evV, wrapBits_eq, ↓reduceIte, Nat.reduceEqDiff, Nat.reduceAdd, Nat.reduceSub, Nat.reduceLeDiff, Nat.reduceLT, Nat.reduceBEq, reduceCtorEq, Int.reduceEq]
                          refine AW.rseq ?_
                          try simp only [↓wk, ↓wl, nc, evV, wrapBits_eq, ↓reduceIte, Nat.reduceEqDiff, Nat.reduceAdd, Nat.reduceSub, Nat.reduceLeDiff, Nat.reduceLT, Nat.reduceBEq, reduceCtorEq, Int.reduceEq]
                          refine evTs_sslc H (by rfl) (by simp only [loI, hiI, ↓wk, ↓wl, nc, evV, wrapBits_eq, ↓reduceIte, Nat.reduceEqDiff, Nat.reduceAdd, Nat.reduceSub, Nat.reduceLeDiff, Nat.reduceLT, Nat.reduceBEq, reduceCtorEq, Int.reduceEq]; rfl) (by simp only [loI, hiI, ↓wk, ↓wl, nc, evV, wrapBits_eq, ↓reduceIte, Nat.reduceEqDiff, Nat.reduceAdd, Nat.reduceSub, Nat.reduceLeDiff, Nat.reduceLT, Nat.reduceBEq, reduceCtorEq, Int.reduceEq]; rfl) ?_ <;> clear H <;> intro s_659 H
                          try simp only [↓wk, ↓wl, nc, evV, wrapBits_eq, ↓reduceIte, Nat.reduceEqDiff, Nat.reduceAdd, Nat.reduceSub, Nat.reduceLeDiff, Nat.reduceLT, Nat.reduceBEq, reduceCtorEq, Int.reduceEq]
                          refine AW.ret ?_
                          cases H
                          exact hqf14_C16 _ _ _ (.inr rfl) (Le.toL 5 (by rfl) [0, 1, 2, 3, 4, 5] [4, 5] (by decide) (by decide) rfl) (by simp only [resVs, omap, resV, f14_C16, List.length_set, Option.map_some, restrict_eq, renS_nil, renS_cons, renB_els, renB_cel, renB_dead, deep_eq, map_ren_enc, ren_agg', ren_tup', ren_fn', ren_int', ren_bool', ren_str', ren_sl', ren_pro', ren_nilp', ren_nilfn', ren_junk', ren_ptr', ren_row', ren_arow', ren_eptr', vm, List.idxOf?_cons, List.idxOf?_nil, beq_self_eq_true, Option.map_none, List.getD_cons_zero, List.getD_cons_succ, ↓wk, ↓wl, nc, evV, wrapBits_eq, ↓reduceIte, Nat.reduceEqDiff, Nat.reduceAdd, Nat.reduceSub, Nat.reduceLeDiff, Nat.reduceLT, Nat.reduceBEq, reduceCtorEq, Int.reduceEq]) (by simp only [f14_C16, List.length_set, Option.map_some, restrict_eq, renS_nil, renS_cons, renB_els, renB_cel, renB_dead, deep_eq, map_ren_enc, ren_agg', ren_tup', ren_fn', ren_int', ren_bool', ren_str', ren_sl', ren_pro', ren_nilp', ren_nilfn', ren_junk', ren_ptr', ren_row', ren_arow', ren_eptr', vm, List.idxOf?_cons, List.idxOf?_nil, beq_self_eq_true, Option.map_none, List.getD_cons_zero, List.getD_cons_succ, ↓wk, ↓wl, nc, evV, wrapBits_eq, ↓reduceIte, Nat.reduceEqDiff, Nat.reduceAdd, Nat.reduceSub, Nat.reduceLeDiff, Nat.reduceLT, Nat.reduceBEq, reduceCtorEq, Int.reduceEq])
                        · rintro v_658 s_ h_ H hs_ hh_
                          simp only [f14_C16] at H hs_ hh_
                          subst hs_
                          subst hh_
                          try simp only [↓wk, ↓wl, nc, evV, wrapBits_eq, ↓reduceIte, Nat.reduceEqDiff, Nat.reduceAdd, Nat.reduceSub, Nat.reduceLeDiff, Nat.reduceLT, Nat.reduceBEq, reduceCtorEq, Int.reduceEq]
                          refine AW.ret ?_
                          refine blkQ.ret ?_
                          cases H
                          exact hqf14_C2 _ _ _ (.inr rfl) (Le.toL 2 (by rfl) [0, 1, 3] [2, 3] (by decide) (by decide) rfl) (by simp only [resVs, omap, resV, f14_C2, List.length_set, Option.map_some, restrict_eq, renS_nil, renS_cons, renB_els, renB_cel, renB_dead, deep_eq, map_ren_enc, ren_agg', ren_tup', ren_fn', ren_int', ren_bool', ren_str', ren_sl', ren_pro', ren_nilp', ren_nilfn', ren_junk', ren_ptr', ren_row', ren_arow', ren_eptr', vm, List.idxOf?_cons, List.idxOf?_nil, beq_self_eq_true, Option.map_none, List.getD_cons_zero, List.getD_cons_succ, ↓wk, ↓wl, nc, evV, wrapBits_eq, ↓reduceIte, Nat.reduceEqDiff, Nat.reduceAdd, Nat.reduceSub, Nat.reduceLeDiff, Nat.reduceLT, Nat.reduceBEq, reduceCtorEq, Int.reduceEq]) (by simp only [f14_C2, List.length_set, Option.map_some, restrict_eq, renS_nil, renS_cons, renB_els, renB_cel, renB_dead, deep_eq, map_ren_enc, ren_agg', ren_tup', ren_fn', ren_int', ren_bool', ren_str', ren_sl', ren_pro', ren_nilp', ren_nilfn', ren_junk', ren_ptr', ren_row', ren_arow', ren_eptr', vm, List.idxOf?_cons, List.idxOf?_nil, beq_self_eq_true, Option.map_none, List.getD_cons_zero, List.getD_cons_succ, ↓wk, ↓wl, nc, evV, wrapBits_eq, ↓reduceIte, Nat.reduceEqDiff, Nat.reduceAdd, Nat.reduceSub, Nat.reduceLeDiff, Nat.reduceLT, Nat.reduceBEq, reduceCtorEq, Int.reduceEq])
                    · refine AW.skip ?_
                      refine seqQ.norm ?_
                      refine AW.rseq ?_
                      try simp only [↓wk, ↓wl, nc, evV, wrapBits_eq, ↓reduceIte, Nat.reduceEqDiff, Nat.reduceAdd, Nat.reduceSub, Nat.reduceLeDiff, Nat.reduceLT, Nat.reduceBEq, reduceCtorEq, Int.reduceEq]
                      refine evTs_inl (I := f14_C17 s_87 v_572 v_632 out_421) (args := [.int .i64 1, .ptr 2 0, .ptr 4 0]) H (by rfl) fd37 (by rfl) (Nat.le_of_ble_eq_true rfl) ?_ ?_ <;> clear H
                      · rintro v_ Q_ H hqf14_C17
                        simp only [f14_C17] at H
                        dsimp only [List.length_cons, List.length_nil]
                        refine AW.rseq ?_
                        try simp only [↓wk, ↓wl, nc, evV, wrapBits_eq, ↓reduceIte, Nat.reduceEqDiff, Nat.reduceAdd, Nat.reduceSub, Nat.reduceLeDiff, Nat.reduceLT, Nat.reduceBEq, reduceCtorEq, Int.reduceEq]
                        refine AW.rseq ?_
                        try simp only [↓wk, ↓wl, nc, evV, wrapBits_eq, ↓reduceIte, Nat.reduceEqDiff, Nat.reduceAdd, Nat.reduceSub, Nat.reduceLeDiff, Nat.reduceLT, Nat.reduceBEq, reduceCtorEq, Int.reduceEq]
                        refine evTs_sslc H (by rfl) (by simp only [loI, hiI, ↓wk, ↓wl, nc, evV, wrapBits_eq, ↓reduceIte, Nat.reduceEqDiff, Nat.reduceAdd, Nat.reduceSub, Nat.reduceLeDiff, Nat.reduceLT, Nat.reduceBEq, reduceCtorEq, Int.reduceEq]; rfl) (by simp only [loI, hiI, ↓wk, ↓wl, nc, evV, wrapBits_eq, ↓reduceIte, Nat.reduceEqDiff, Nat.reduceAdd, Nat.reduceSub, Nat.reduceLeDiff, Nat.reduceLT, Nat.reduceBEq, reduceCtorEq, Int.reduceEq]; rfl) ?_ <;> clear H <;> intro s_663 H
                        try simp only [↓wk, ↓wl, nc, evV, wrapBits_eq, ↓reduceIte, Nat.reduceEqDiff, Nat.reduceAdd, Nat.reduceSub, Nat.reduceLeDiff, Nat.reduceLT, Nat.reduceBEq, reduceCtorEq, Int.reduceEq]
                        refine AW.ret ?_
                        cases H
                        exact hqf14_C17 _ _ _ (.inr rfl) (Le.toL 5 (by rfl) [0, 1, 2, 3, 4, 5] [4, 5] (by decide) (by decide) rfl) (by simp only [resVs, omap, resV, f14_C17, List.length_set, Option.map_some, restrict_eq, renS_nil, renS_cons, renB_els, renB_cel, renB_dead, deep_eq, map_ren_enc, ren_agg', ren_tup', ren_fn', ren_int', ren_bool', ren_str', ren_sl', ren_pro', ren_nilp', ren_nilfn', ren_junk', ren_ptr', ren_row', ren_arow', ren_eptr', vm, List.idxOf?_cons, List.idxOf?_nil, beq_self_eq_true, Option.map_none, List.getD_cons_zero, List.getD_cons_succ, ↓wk, ↓wl, nc, evV, wrapBits_eq, ↓reduceIte, Nat.reduceEqDiff, Nat.reduceAdd, Nat.reduceSub, Nat.reduceLeDiff, Nat.reduceLT, Nat.reduceBEq, reduceCtorEq, Int.reduceEq]) (by simp only [f14_C17, List.length_set, Option.map_some, restrict_eq, renS_nil, renS_cons, renB_els, renB_cel, renB_dead, deep_eq, map_ren_enc, ren_agg', ren_tup', ren_fn', ren_int', ren_bool', ren_str', ren_sl', ren_pro', ren_nilp', ren_nilfn', ren_junk', ren_ptr', ren_row', ren_arow', ren_eptr', vm, List.idxOf?_cons, List.idxOf?_nil, beq_self_eq_true, Option.map_none, List.getD_cons_zero, List.getD_cons_succ, ↓wk, ↓wl, nc, evV, wrapBits_eq, ↓reduceIte, Nat.reduceEqDiff, Nat.reduceAdd, Nat.reduceSub, Nat.reduceLeDiff, Nat.reduceLT, Nat.reduceBEq, reduceCtorEq, Int.reduceEq])
                      · rintro v_662 s_ h_ H hs_ hh_
                        simp only [f14_C17] at H hs_ hh_
                        subst hs_
                        subst hh_
                        try simp only [↓wk, ↓wl, nc, evV, wrapBits_eq, ↓reduceIte, Nat.reduceEqDiff, Nat.reduceAdd, Nat.reduceSub, Nat.reduceLeDiff, Nat.reduceLT, Nat.reduceBEq, reduceCtorEq, Int.reduceEq]
                        refine AW.ret ?_
                        refine blkQ.ret ?_
                        cases H
                        exact hqf14_C2 _ _ _ (.inr rfl) (Le.toL 2 (by rfl) [0, 1, 3] [2, 3] (by decide) (by decide) rfl) (by simp only [resVs, omap, resV, f14_C2, List.length_set, Option.map_some, restrict_eq, renS_nil, renS_cons, renB_els, renB_cel, renB_dead, deep_eq, map_ren_enc, ren_agg', ren_tup', ren_fn', ren_int', ren_bool', ren_str', ren_sl', ren_pro', ren_nilp', ren_nilfn', ren_junk', ren_ptr', ren_row', ren_arow', ren_eptr', vm, List.idxOf?_cons, List.idxOf?_nil, beq_self_eq_true, Option.map_none, List.getD_cons_zero, List.getD_cons_succ, ↓wk, ↓wl, nc, evV, wrapBits_eq, ↓reduceIte, Nat.reduceEqDiff, Nat.reduceAdd, Nat.reduceSub, Nat.reduceLeDiff, Nat.reduceLT, Nat.reduceBEq, reduceCtorEq, Int.reduceEq]) (by simp only [f14_C2, List.length_set, Option.map_some, restrict_eq, renS_nil, renS_cons, renB_els, renB_cel, renB_dead, deep_eq, map_ren_enc, ren_agg', ren_tup', ren_fn', ren_int', ren_bool', ren_str', ren_sl', ren_pro', ren_nilp', ren_nilfn', ren_junk', ren_ptr', ren_row', ren_arow', ren_eptr', vm, List.idxOf?_cons, List.idxOf?_nil, beq_self_eq_true, Option.map_none, List.getD_cons_zero, List.getD_cons_succ, ↓wk, ↓wl, nc, evV, wrapBits_eq, ↓reduceIte, Nat.reduceEqDiff, Nat.reduceAdd, Nat.reduceSub, Nat.reduceLeDiff, Nat.reduceLT, Nat.reduceBEq, reduceCtorEq, Int.reduceEq])
                  · try simp only [↓wk, ↓wl, nc, evV, wrapBits_eq, ↓reduceIte, Nat.reduceEqDiff, Nat.reduceAdd, Nat.reduceSub, Nat.reduceLeDiff, Nat.reduceLT, Nat.reduceBEq, reduceCtorEq, Int.reduceEq]
                    refine AW.iff (by rfl) ?_
                    refine AW.skip ?_
                    refine seqQ.norm ?_
                    refine AW.rseq ?_
                    try simp only [↓wk, ↓wl, nc, evV, wrapBits_eq, ↓reduceIte, Nat.reduceEqDiff, Nat.reduceAdd, Nat.reduceSub, Nat.reduceLeDiff, Nat.reduceLT, Nat.reduceBEq, reduceCtorEq, Int.reduceEq]
                    refine evTs_inl (I := f14_C18 s_87 v_572 v_632 out_421) (args := [.int .i64 1, .ptr 2 0, .ptr 4 0]) H (by rfl) fd37 (by rfl) (Nat.le_of_ble_eq_true rfl) ?_ ?_ <;> clear H
                    · rintro v_ Q_ H hqf14_C18
                      simp only [f14_C18] at H
                      dsimp only [List.length_cons, List.length_nil]
                      refine AW.rseq ?_
                      try simp only [↓wk, ↓wl, nc, evV, wrapBits_eq, ↓reduceIte, Nat.reduceEqDiff, Nat.reduceAdd, Nat.reduceSub, Nat.reduceLeDiff, Nat.reduceLT, Nat.reduceBEq, reduceCtorEq, Int.reduceEq]
                      refine AW.rseq ?_
                      try simp only [↓wk, ↓wl, nc, evV, wrapBits_eq, ↓reduceIte, Nat.reduceEqDiff, Nat.reduceAdd, Nat.reduceSub, Nat.reduceLeDiff, Nat.reduceLT, Nat.reduceBEq, reduceCtorEq, Int.reduceEq]
                      refine evTs_sslc H (by rfl) (by simp only [loI, hiI, ↓wk, ↓wl, nc, evV, wrapBits_eq, ↓reduceIte, Nat.reduceEqDiff, Nat.reduceAdd, Nat.reduceSub, Nat.reduceLeDiff, Nat.reduceLT, Nat.reduceBEq, reduceCtorEq, Int.reduceEq]; rfl) (by simp only [loI, hiI, ↓wk, ↓wl, nc, evV, wrapBits_eq, ↓reduceIte, Nat.reduceEqDiff, Nat.reduceAdd, Nat.reduceSub, Nat.reduceLeDiff, Nat.reduceLT, Nat.reduceBEq, reduceCtorEq, Int.reduceEq]; rfl) ?_ <;> clear H <;> intro s_667 H
                      try simp only [↓wk, ↓wl, nc, evV, wrapBits_eq, ↓reduceIte, Nat.reduceEqDiff, Nat.reduceAdd, Nat.reduceSub, Nat.reduceLeDiff, Nat.reduceLT, Nat.reduceBEq, reduceCtorEq, Int.reduceEq]
                      refine AW.ret ?_
                      cases H
                      exact hqf14_C18 _ _ _ (.inr rfl) (Le.toL 5 (by rfl) [0, 1, 2, 3, 4, 5] [4, 5] (by decide) (by decide) rfl) (by simp only [resVs, omap, resV, f14_C18, List.length_set, Option.map_some, restrict_eq, renS_nil, renS_cons, renB_els, renB_cel, renB_dead, deep_eq, map_ren_enc, ren_agg', ren_tup', ren_fn', ren_int', ren_bool', ren_str', ren_sl', ren_pro', ren_nilp', ren_nilfn', ren_junk', ren_ptr', ren_row', ren_arow', ren_eptr', vm, List.idxOf?_cons, List.idxOf?_nil, beq_self_eq_true, Option.map_none, List.getD_cons_zero, List.getD_cons_succ, ↓wk, ↓wl, nc, evV, wrapBits_eq, ↓reduceIte, Nat.reduceEqDiff, Nat.reduceAdd, Nat.reduceSub, Nat.reduceLeDiff, Nat.reduceLT, Nat.reduceBEq, reduceCtorEq, Int.reduceEq]) (by simp only [f14_C18, List.length_set, Option.map_some, restrict_eq, renS_nil, renS_cons, renB_els, renB_cel, renB_dead, deep_eq, map_ren_enc, ren_agg', ren_tup', ren_fn', ren_int', ren_bool', ren_str', ren_sl', ren_pro', ren_nilp', ren_nilfn', ren_junk', ren_ptr', ren_row', ren_arow', ren_eptr', vm, List.idxOf?_cons, List.idxOf?_nil, beq_self_eq_true, Option.map_none, List.getD_cons_zero, List.getD_cons_succ, ↓wk, ↓wl, nc, evV, wrapBits_eq, ↓reduceIte, Nat.reduceEqDiff, Nat.reduceAdd, Nat.reduceSub, Nat.reduceLeDiff, Nat.reduceLT, Nat.reduceBEq, reduceCtorEq, Int.reduceEq])
                    · rintro v_666 s_ h_ H hs_ hh_
                      simp only [f14_C18] at H hs_ hh_
                      subst hs_
                      subst hh_
                      try simp only [↓wk, ↓wl, nc, evV, wrapBits_eq, ↓reduceIte, Nat.reduceEqDiff, Nat.reduceAdd, Nat.reduceSub, Nat.reduceLeDiff, Nat.reduceLT, Nat.reduceBEq, reduceCtorEq, Int.reduceEq]
                      refine AW.ret ?_
                      refine blkQ.ret ?_
                      cases H
                      exact hqf14_C2 _ _ _ (.inr rfl) (Le.toL 2 (by rfl) [0, 1, 3] [2, 3] (by decide) (by decide) rfl) (by simp only [resVs, omap, resV, f14_C2, List.length_set, Option.map_some, restrict_eq, renS_nil, renS_cons, renB_els, renB_cel, renB_dead, deep_eq, map_ren_enc, ren_agg', ren_tup', ren_fn', ren_int', ren_bool', ren_str', ren_sl', ren_pro', ren_nilp', ren_nilfn', ren_junk', ren_ptr', ren_row', ren_arow', ren_eptr', vm, List.idxOf?_cons, List.idxOf?_nil, beq_self_eq_true, Option.map_none, List.getD_cons_zero, List.getD_cons_succ, ↓wk, ↓wl, nc, evV, wrapBits_eq, ↓reduceIte, Nat.reduceEqDiff, Nat.reduceAdd, Nat.reduceSub, Nat.reduceLeDiff, Nat.reduceLT, Nat.reduceBEq, reduceCtorEq, Int.reduceEq]) (by simp only [f14_C2, List.length_set, Option.map_some, restrict_eq, renS_nil, renS_cons, renB_els, renB_cel, renB_dead, deep_eq, map_ren_enc, ren_agg', ren_tup', ren_fn', ren_int', ren_bool', ren_str', ren_sl', ren_pro', ren_nilp', ren_nilfn', ren_junk', ren_ptr', ren_row', ren_arow', ren_eptr', vm, List.idxOf?_cons, List.idxOf?_nil, beq_self_eq_true, Option.map_none, List.getD_cons_zero, List.getD_cons_succ, ↓wk, ↓wl, nc, evV, wrapBits_eq, ↓reduceIte, Nat.reduceEqDiff, Nat.reduceAdd, Nat.reduceSub, Nat.reduceLeDiff, Nat.reduceLT, Nat.reduceBEq, reduceCtorEq, Int.reduceEq])
              · refine AW.rseq ?_
                try simp only [↓wk, ↓wl, nc, evV, wrapBits_eq, ↓reduceIte, Nat.reduceEqDiff, Nat.reduceAdd, Nat.reduceSub, Nat.reduceLeDiff, Nat.reduceLT, Nat.reduceBEq, reduceCtorEq, Int.reduceEq]
                refine evTs_flat hFn H (fun _ h => f38_46p_ok h) (by rfl) (by rfl) (by simp only [deep_eq, imm_simps, imm_rowE, imm_ptrE, imm_enc, omap_simps, take_map_len, take_map_set, take_map_set2, le_refl_true, Nat.zero_add, and_true, true_and, List.drop_zero, Option.map_some, ↓wk, ↓wl, nc, evV, wrapBits_eq, ↓reduceIte, Nat.reduceEqDiff, Nat.reduceAdd, Nat.reduceSub, Nat.reduceLeDiff, Nat.reduceLT, Nat.reduceBEq, reduceCtorEq, Int.reduceEq]; rfl) (by rfl) (fun _ => rfl) (fun _ => rfl) ?_ <;> clear H <;> intro r_668 H
                try simp only [eL, ↓wk, ↓wl, nc, evV, wrapBits_eq, ↓reduceIte, Nat.reduceEqDiff, Nat.reduceAdd, Nat.reduceSub, Nat.reduceLeDiff, Nat.reduceLT, Nat.reduceBEq, reduceCtorEq, Int.reduceEq]
                refine AW.ifc H (by rfl) ?_ ?_ <;> clear H <;> intro H
                · refine AW.rseq ?_
                  try simp only [↓wk, ↓wl, nc, evV, wrapBits_eq, ↓reduceIte, Nat.reduceEqDiff, Nat.reduceAdd, Nat.reduceSub, Nat.reduceLeDiff, Nat.reduceLT, Nat.reduceBEq, reduceCtorEq, Int.reduceEq]
                  refine AW.rseq ?_
                  try simp only [↓wk, ↓wl, nc, evV, wrapBits_eq, ↓reduceIte, Nat.reduceEqDiff, Nat.reduceAdd, Nat.reduceSub, Nat.reduceLeDiff, Nat.reduceLT, Nat.reduceBEq, reduceCtorEq, Int.reduceEq]
                  refine evTs_inl (I := f14_C19 s_87 v_572 out_421) (args := [.int .i64 2, .ptr 2 0, .ptr 4 0]) H (by rfl) fd37 (by rfl) (Nat.le_of_ble_eq_true rfl) ?_ ?_ <;> clear H
                  · rintro v_ Q_ H hqf14_C19
                    simp only [f14_C19] at H
                    dsimp only [List.length_cons, List.length_nil]
                    refine AW.rseq ?_
                    try simp only [↓wk, ↓wl, nc, evV, wrapBits_eq, ↓reduceIte, Nat.reduceEqDiff, Nat.reduceAdd, Nat.reduceSub, Nat.reduceLeDiff, Nat.reduceLT, Nat.reduceBEq, reduceCtorEq, Int.reduceEq]
                    refine AW.rseq ?_
                    try simp only [↓wk, ↓wl, nc, evV, wrapBits_eq, ↓reduceIte, Nat.reduceEqDiff, Nat.reduceAdd, Nat.reduceSub, Nat.reduceLeDiff, Nat.reduceLT, Nat.reduceBEq, reduceCtorEq, Int.reduceEq]
                    refine evTs_sslc H (by rfl) (by simp only [loI, hiI, ↓wk, ↓wl, nc, evV, wrapBits_eq, ↓reduceIte, Nat.reduceEqDiff, Nat.reduceAdd, Nat.reduceSub, Nat.reduceLeDiff, Nat.reduceLT, Nat.reduceBEq, reduceCtorEq, Int.reduceEq]; rfl) (by simp only [loI, hiI, ↓wk, ↓wl, nc, evV, wrapBits_eq, ↓reduceIte, Nat.reduceEqDiff, Nat.reduceAdd, Nat.reduceSub, Nat.reduceLeDiff, Nat.reduceLT, Nat.reduceBEq, reduceCtorEq, Int.reduceEq]; rfl) ?_ <;> clear H <;> intro s_672 H
                    try simp only [↓wk, ↓wl, nc, evV, wrapBits_eq, ↓reduceIte, Nat.reduceEqDiff, Nat.reduceAdd, Nat.reduceSub, Nat.reduceLeDiff, Nat.reduceLT, Nat.reduceBEq, reduceCtorEq, Int.reduceEq]
                    refine AW.ret ?_
                    cases H
                    exact hqf14_C19 _ _ _ (.inr rfl) (Le.toL 5 (by rfl) [0, 1, 2, 3, 4, 5] [4, 5] (by decide) (by decide) rfl) (by simp only [resVs, omap, resV, f14_C19, List.length_set, Option.map_some, restrict_eq, renS_nil, renS_cons, renB_els, renB_cel, renB_dead, deep_eq, map_ren_enc, ren_agg', ren_tup', ren_fn', ren_int', ren_bool', ren_str', ren_sl', ren_pro', ren_nilp', ren_nilfn', ren_junk', ren_ptr', ren_row', ren_arow', ren_eptr', vm, List.idxOf?_cons, List.idxOf?_nil, beq_self_eq_true, Option.map_none, List.getD_cons_zero, List.getD_cons_succ, ↓wk, ↓wl, nc, evV, wrapBits_eq, ↓reduceIte, Nat.reduceEqDiff, Nat.reduceAdd, Nat.reduceSub, Nat.reduceLeDiff, Nat.reduceLT, Nat.reduceBEq, reduceCtorEq, Int.reduceEq]) (by simp only [f14_C19, List.length_set, Option.map_some, restrict_eq, renS_nil, renS_cons, renB_els, renB_cel, renB_dead, deep_eq, map_ren_enc, ren_agg', ren_tup', ren_fn', ren_int', ren_bool', ren_str', ren_sl', ren_pro', ren_nilp', ren_nilfn', ren_junk', ren_ptr', ren_row', ren_arow', ren_eptr', vm, List.idxOf?_cons, List.idxOf?_nil, beq_self_eq_true, Option.map_none, List.getD_cons_zero, List.getD_cons_succ, ↓wk, ↓wl, nc, evV, wrapBits_eq, ↓reduceIte, Nat.reduceEqDiff, Nat.reduceAdd, Nat.reduceSub, Nat.reduceLeDiff, Nat.reduceLT, Nat.reduceBEq, reduceCtorEq, Int.reduceEq])
                  · rintro v_671 s_ h_ H hs_ hh_
                    simp only [f14_C19] at H hs_ hh_
                    subst hs_
                    subst hh_
                    try simp only [↓wk, ↓wl, nc, evV, wrapBits_eq, ↓reduceIte, Nat.reduceEqDiff, Nat.reduceAdd, Nat.reduceSub, Nat.reduceLeDiff, Nat.reduceLT, Nat.reduceBEq, reduceCtorEq, Int.reduceEq]
                    refine AW.ret ?_
                    refine blkQ.ret ?_
                    cases H
                    exact hqf14_C2 _ _ _ (.inr rfl) (Le.toL 2 (by rfl) [0, 1, 3] [2, 3] (by decide) (by decide) rfl) (by simp only [resVs, omap, resV, f14_C2, List.length_set, Option.map_some, restrict_eq, renS_nil, renS_cons, renB_els, renB_cel, renB_dead, deep_eq, map_ren_enc, ren_agg', ren_tup', ren_fn', ren_int', ren_bool', ren_str', ren_sl', ren_pro', ren_nilp', ren_nilfn', ren_junk', ren_ptr', ren_row', ren_arow', ren_eptr', vm, List.idxOf?_cons, List.idxOf?_nil, beq_self_eq_true, Option.map_none, List.getD_cons_zero, List.getD_cons_succ, ↓wk, ↓wl, nc, evV, wrapBits_eq, ↓reduceIte, Nat.reduceEqDiff, Nat.reduceAdd, Nat.reduceSub, Nat.reduceLeDiff, Nat.reduceLT, Nat.reduceBEq, reduceCtorEq, Int.reduceEq]) (by simp only [f14_C2, List.length_set, Option.map_some, restrict_eq, renS_nil, renS_cons, renB_els, renB_cel, renB_dead, deep_eq, map_ren_enc, ren_agg', ren_tup', ren_fn', ren_int', ren_bool', ren_str', ren_sl', ren_pro', ren_nilp', ren_nilfn', ren_junk', ren_ptr', ren_row', ren_arow', ren_eptr', vm, List.idxOf?_cons, List.idxOf?_nil, beq_self_eq_true, Option.map_none, List.getD_cons_zero, List.getD_cons_succ, ↓wk, ↓wl, nc, evV, wrapBits_eq, ↓reduceIte, Nat.reduceEqDiff, Nat.reduceAdd, Nat.reduceSub, Nat.reduceLeDiff, Nat.reduceLT, Nat.reduceBEq, reduceCtorEq, Int.reduceEq])
                · refine AW.skip ?_
                  refine blkQ.norm ?_
                  refine AW.rseq ?_
                  try simp only [↓wk, ↓wl, nc, evV, wrapBits_eq, ↓reduceIte, Nat.reduceEqDiff, Nat.reduceAdd, Nat.reduceSub, Nat.reduceLeDiff, Nat.reduceLT, Nat.reduceBEq, reduceCtorEq, Int.reduceEq]
                  refine AW.ret ?_
                  cases H
                  exact hqf14_C2 _ _ _ (.inr rfl) (Le.toL 2 (by rfl) [0, 1, 3] [2, 3] (by decide) (by decide) rfl) (by simp only [resVs, omap, resV, f14_C2, List.length_set, Option.map_some, restrict_eq, renS_nil, renS_cons, renB_els, renB_cel, renB_dead, deep_eq, map_ren_enc, ren_agg', ren_tup', ren_fn', ren_int', ren_bool', ren_str', ren_sl', ren_pro', ren_nilp', ren_nilfn', ren_junk', ren_ptr', ren_row', ren_arow', ren_eptr', vm, List.idxOf?_cons, List.idxOf?_nil, beq_self_eq_true, Option.map_none, List.getD_cons_zero, List.getD_cons_succ, ↓wk, ↓wl, nc, evV, wrapBits_eq, ↓reduceIte, Nat.reduceEqDiff, Nat.reduceAdd, Nat.reduceSub, Nat.reduceLeDiff, Nat.reduceLT, Nat.reduceBEq, reduceCtorEq, Int.reduceEq]) (by simp only [f14_C2, List.length_set, Option.map_some, restrict_eq, renS_nil, renS_cons, renB_els, renB_cel, renB_dead, deep_eq, map_ren_enc, ren_agg', ren_tup', ren_fn', ren_int', ren_bool', ren_str', ren_sl', ren_pro', ren_nilp', ren_nilfn', ren_junk', ren_ptr', ren_row', ren_arow', ren_eptr', vm, List.idxOf?_cons, List.idxOf?_nil, beq_self_eq_true, Option.map_none, List.getD_cons_zero, List.getD_cons_succ, ↓wk, ↓wl, nc, evV, wrapBits_eq, ↓reduceIte, Nat.reduceEqDiff, Nat.reduceAdd, Nat.reduceSub, Nat.reduceLeDiff, Nat.reduceLT, Nat.reduceBEq, reduceCtorEq, Int.reduceEq])
    · rintro ⟨v_561, v_562, v_563, v_564, v_565⟩ s_ h_ H hs_ hh_
      simp only [f14_C2] at H hs_ hh_
      subst hs_
      subst hh_
      try simp only [↓wk, ↓wl, nc, evV, wrapBits_eq, ↓reduceIte, Nat.reduceEqDiff, Nat.reduceAdd, Nat.reduceSub, Nat.reduceLeDiff, Nat.reduceLT, Nat.reduceBEq, reduceCtorEq, Int.reduceEq]
      refine AW.bseq ?_
      refine AW.rseq ?_
      try simp only [↓wk, ↓wl, nc, evV, wrapBits_eq, ↓reduceIte, Nat.reduceEqDiff, Nat.reduceAdd, Nat.reduceSub, Nat.reduceLeDiff, Nat.reduceLT, Nat.reduceBEq, reduceCtorEq, Int.reduceEq]
      refine AW.ifc H (by rfl) ?_ ?_ <;> clear H <;> intro H
      · refine AW.rseq ?_
        try simp only [↓wk, ↓wl, nc, evV, wrapBits_eq, ↓reduceIte, Nat.reduceEqDiff, Nat.reduceAdd, Nat.reduceSub, Nat.reduceLeDiff, Nat.reduceLT, Nat.reduceBEq, reduceCtorEq, Int.reduceEq]
        refine AW.ret ?_
        refine blkQ.ret ?_
        refine blk0.ret ?_
        refine loopQ.ret H ?_ <;> clear H <;> intro H
        try dsimp only at H
        refine blk0.ret ?_
        cases H
        exact hQ _ _ _ _ (.inr rfl) (by simp only [resVs, omap, resV, ↓wk, ↓wl, nc, evV, wrapBits_eq, ↓reduceIte, Nat.reduceEqDiff, Nat.reduceAdd, Nat.reduceSub, Nat.reduceLeDiff, Nat.reduceLT, Nat.reduceBEq, reduceCtorEq, Int.reduceEq]; rfl) (hand_k0 (by rfl) (by rfl)) (by first | exact Or.inl rfl | exact Or.inr rfl)
      · refine AW.rseq ?_
        try simp only [↓wk, ↓wl, nc, evV, wrapBits_eq, ↓reduceIte, Nat.reduceEqDiff, Nat.reduceAdd, Nat.reduceSub, Nat.reduceLeDiff, Nat.reduceLT, Nat.reduceBEq, reduceCtorEq, Int.reduceEq]
        refine AW.ifc H (by rfl) ?_ ?_ <;> clear H <;> intro H
        · refine AW.rseq ?_
          try simp only [↓wk, ↓wl, nc, evV, wrapBits_eq, ↓reduceIte, Nat.reduceEqDiff, Nat.reduceAdd, Nat.reduceSub, Nat.reduceLeDiff, Nat.reduceLT, Nat.reduceBEq, reduceCtorEq, Int.reduceEq]
          refine AW.ret ?_
          refine blkQ.ret ?_
          refine blk0.ret ?_
          refine loopQ.ret H ?_ <;> clear H <;> intro H
          try dsimp only at H
          refine blk0.ret ?_
          cases H
          exact hQ _ _ _ _ (.inr rfl) (by simp only [resVs, omap, resV, ↓wk, ↓wl, nc, evV, wrapBits_eq, ↓reduceIte, Nat.reduceEqDiff, Nat.reduceAdd, Nat.reduceSub, Nat.reduceLeDiff, Nat.reduceLT, Nat.reduceBEq, reduceCtorEq, Int.reduceEq]; rfl) (hand_k0 (by rfl) (by rfl)) (by first | exact Or.inl rfl | exact Or.inr rfl)
        · refine AW.skip ?_
          refine blkQ.norm ?_
          refine AW.rseq ?_
          try simp only [↓wk, ↓wl, nc, evV, wrapBits_eq, ↓reduceIte, Nat.reduceEqDiff, Nat.reduceAdd, Nat.reduceSub, Nat.reduceLeDiff, Nat.reduceLT, Nat.reduceBEq, reduceCtorEq, Int.reduceEq]
          refine evTs_app (enc := eApiToken) H (by rfl) (by first | rfl | simp only [List.length_set]) (by rfl) (by rfl) ?_ <;> clear H <;> intro out_673 H
          try simp only [↓wk, ↓wl, nc, evV, wrapBits_eq, ↓reduceIte, Nat.reduceEqDiff, Nat.reduceAdd, Nat.reduceSub, Nat.reduceLeDiff, Nat.reduceLT, Nat.reduceBEq, reduceCtorEq, Int.reduceEq]
          refine AW.rseq ?_
          try simp only [↓wk, ↓wl, nc, evV, wrapBits_eq, ↓reduceIte, Nat.reduceEqDiff, Nat.reduceAdd, Nat.reduceSub, Nat.reduceLeDiff, Nat.reduceLT, Nat.reduceBEq, reduceCtorEq, Int.reduceEq]
          refine AW.ifc H (by rfl) ?_ ?_ <;> clear H <;> intro H
          · refine AW.rseq ?_
            try simp only [↓wk, ↓wl, nc, evV, wrapBits_eq, ↓reduceIte, Nat.reduceEqDiff, Nat.reduceAdd, Nat.reduceSub, Nat.reduceLeDiff, Nat.reduceLT, Nat.reduceBEq, reduceCtorEq, Int.reduceEq]
            refine AW.ret ?_
            refine blk0.ret ?_
            refine loopQ.ret H ?_ <;> clear H <;> intro H
            try dsimp only at H
            refine blk0.ret ?_
            cases H
            exact hQ _ _ _ _ (.inr rfl) (by simp only [resVs, omap, resV, ↓wk, ↓wl, nc, evV, wrapBits_eq, ↓reduceIte, Nat.reduceEqDiff, Nat.reduceAdd, Nat.reduceSub, Nat.reduceLeDiff, Nat.reduceLT, Nat.reduceBEq, reduceCtorEq, Int.reduceEq]; rfl) (hand_k (by rfl) (by rfl) (by simp) (enc_all _) (by rfl)) (by first | exact Or.inl rfl | exact Or.inr rfl)
          · refine AW.skip ?_
            refine blk0.norm ?_
            exact loopQ.next H ((Le.none [0, 4] [5, 6] (by decide) (by simp only [f14_L1, List.length_set, Option.map_some, restrict_eq, renS_nil, renS_cons, renB_els, renB_cel, renB_dead, deep_eq, map_ren_enc, ren_agg', ren_tup', ren_fn', ren_int', ren_bool', ren_str', ren_sl', ren_pro', ren_nilp', ren_nilfn', ren_junk', ren_ptr', ren_row', ren_arow', ren_eptr', vm, List.idxOf?_cons, List.idxOf?_nil, beq_self_eq_true, Option.map_none, List.getD_cons_zero, List.getD_cons_succ, ↓wk, ↓wl, nc, evV, wrapBits_eq, ↓reduceIte, Nat.reduceEqDiff, Nat.reduceAdd, Nat.reduceSub, Nat.reduceLeDiff, Nat.reduceLT, Nat.reduceBEq, reduceCtorEq, Int.reduceEq] <;> rfl)))
theorem f14_im {s_87 : (List UInt8)} {r_ : (List ApiToken) × Int × Int} (H : f14 s_87 = some r_) : Pure Try.prog 14 [.str s_87] (· = .tup [.sl 3 false (r_.1.map eApiToken), .int .i64 r_.2.1, .int .i64 r_.2.2]) := (f14_ok H).unfr (by first | exact enc_fits _ | simp only [frFits, List.all_cons, List.all_nil, enc_fits, Bool.and_self])
def c7_0 : C := .seq (.reg [iI 27 (.mv (.t 2)), iI 28 (.mv (.t 5)), iI 29 (.bin .add (.t 27) (.t 28)), iI 30 (.mv (.t 8)), iI 31 (.bin .add (.t 29) (.t 30)), iI 32 (.bin .eql (.t 31) (.c (.int .i64 0))), iI 33 (.mv (.t 32)), iG (some 34) 33 true (.faddr 0 (.t 3)), iG (some 35) 33 true (.load 0 (.t 34)), iG (some 36) 33 true (.bin .eql (.t 35) (.c (.int .i64 3))), iI 37 (.pick (.t 33) (.t 36) (.c (.bool false))), iI 38 (.mv (.t 37)), iG (some 39) 38 true (.mv (.t 6)), iG (some 40) 38 true (.len 0 (.t 39)), iG (some 41) 38 true (.bin .eql (.t 40) (.c (.int .i64 3))), iI 42 (.pick (.t 38) (.t 41) (.c (.bool false))), iI 43 (.mv (.t 42)), iG (some 44) 43 true (.mv (.t 6)), iG (some 45) 43 true (.iaddr 3 (.t 44) (.c (.int .i64 0))), iG (some 46) 43 true (.faddr 1 (.t 45)), iG (some 47) 43 true (.load 0 (.t 46)), iG (some 48) 43 true (.bin .eql (.t 47) (.c (.str [103, 111]))), iI 49 (.pick (.t 43) (.t 48) (.c (.bool false))), iI 50 (.mv (.t 49)), iG (some 51) 50 true (.mv (.t 6)), iG (some 52) 50 true (.iaddr 3 (.t 51) (.c (.int .i64 1))), iG (some 53) 50 true (.faddr 0 (.t 52)), iG (some 54) 50 true (.load 0 (.t 53)), iG (some 55) 50 true (.bin .eql (.t 54) (.c (.int .i64 1))), iI 56 (.pick (.t 50) (.t 55) (.c (.bool false))), iI 57 (.mv (.t 56)), iG (some 58) 57 true (.mv (.t 1)), iG (some 59) 57 true (.len 1 (.t 58)), iG (some 60) 57 true (.bin .eql (.t 59) (.c (.int .i64 9))), iI 61 (.pick (.t 57) (.t 60) (.c (.bool false))), iI 0 (.mv (.t 61))]) .ret
def c7_1 : C := .seq (.reg [iI 21 (.faddr 1 (.t 3)), iI 22 (.load 0 (.t 21)), iI 23 (.call (.c (.fn 14 [])) [(.t 22)]), iI 20 (.mv (.t 23)), iI 24 (.ext (.t 20) 0), iI 25 (.ext (.t 20) 1), iI 26 (.ext (.t 20) 2), iI 6 (.mv (.t 24)), iI 7 (.mv (.t 25)), iI 8 (.mv (.t 26))]) c7_0
end Go.Proofs.Ytkbjimfganeooaa
