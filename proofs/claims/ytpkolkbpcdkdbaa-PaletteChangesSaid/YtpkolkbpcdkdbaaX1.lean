import Derived.Test.YtpkolkbpcdkdbaaShelf
import Derived.Test.YtpkolkbpcdkdbaaProg
import Derived.KernelRfl
namespace Go.Proofs.Ytpkolkbpcdkdbaa
open Go Go.Ab

set_option maxHeartbeats 1000000
set_option linter.unusedSimpArgs false
set_option linter.unusedVariables false
structure ApiHue where
  fChannel : Int
  fAttr : Int
  fLevel : Int
def eApiHue (x : ApiHue) : AV := .agg [.int .i64 x.fChannel, .int .i64 x.fAttr, .int .i64 x.fLevel]
instance : IsFlat eApiHue := ⟨fun _ => rfl⟩
instance : IsEnc 3 eApiHue := ⟨fun _ => rfl, fun _ => rfl, fun _ => rfl⟩
structure ApiPalette where
  fNumber : Int
  fHues : (List ApiHue)
def eApiPalette (x : ApiPalette) : AV := .agg [.int .i64 x.fNumber, .sl 3 false (x.fHues.map eApiHue)]
instance : IsEnc 2 eApiPalette := ⟨fun _ => rfl, fun _ => rfl, fun _ => rfl⟩
structure ApiParam where
  fChannel : Int
  fAttr : Int
def eApiParam (x : ApiParam) : AV := .agg [.int .i64 x.fChannel, .int .i64 x.fAttr]
instance : IsFlat eApiParam := ⟨fun _ => rfl⟩
instance : IsEnc 2 eApiParam := ⟨fun _ => rfl, fun _ => rfl, fun _ => rfl⟩
structure ApiValue where
  fPalette : Int
  fLevel : Int
def eApiValue (x : ApiValue) : AV := .agg [.int .i64 x.fPalette, .int .i64 x.fLevel]
instance : IsFlat eApiValue := ⟨fun _ => rfl⟩
instance : IsEnc 2 eApiValue := ⟨fun _ => rfl, fun _ => rfl, fun _ => rfl⟩
structure ApiEntry where
  fParam : ApiParam
  fValue : ApiValue
def eApiEntry (x : ApiEntry) : AV := .agg [.int .i64 x.fParam.fChannel, .int .i64 x.fParam.fAttr, .int .i64 x.fValue.fPalette, .int .i64 x.fValue.fLevel]
instance : IsFlat eApiEntry := ⟨fun _ => rfl⟩
instance : IsEnc 4 eApiEntry := ⟨fun _ => rfl, fun _ => rfl, fun _ => rfl⟩
noncomputable def f7_L1 (l_4 : (List ApiPalette)) : Lp (Int) ((Unit) ⊕ (Unit)) where
  body := fun i_8 => (if (decide (i_8 < ((l_4.length : Nat) : Int))) = true then (at? l_4 i_8).bind fun x_10 => (if (decide (512 < ((x_10.fHues.length : Nat) : Int))) = true then (some (.brk (Sum.inr ()))) else (some (.next (IntKind.i64.wrap (i_8 + 1))))) else (some (.brk (Sum.inl ()))))
  cst := fun i_8 => ⟨put (put (fun _ => .junk) 3 (.int .i64 i_8)) 0 (.sl 2 false (l_4.map eApiPalette)), []⟩
def c7_0 : C := .cond (.t 6) (.seq (.reg [iI 2 (.mv (.c (.bool false)))]) .ret) (.skip)
def c7_1 : C := .cond (.t 10) (.skip) (.exit 0)
def c7_2 : C := .cond (.t 19) (.seq (.reg [iI 2 (.mv (.c (.bool false)))]) .ret) (.skip)
def c7_3 : C := .reg [iI 11 (.mv (.t 3)), iI 12 (.bin .add (.t 11) (.c (.int .i64 1))), iI 3 (.mv (.t 12))]
def c7_4 : C := .seq (.block 1 (.seq (.reg [iI 13 (.mv (.t 0)), iI 14 (.mv (.t 3)), iI 15 (.iaddr 2 (.t 13) (.t 14)), iI 16 (.faddr 1 (.t 15)), iI 17 (.load 0 (.t 16)), iI 18 (.len 0 (.t 17)), iI 19 (.bin .gtr (.t 18) (.c (.int .i64 512)))]) c7_2)) c7_3
def c7_5 : C := .block 0 (.loop (.seq (.seq (.reg [iI 7 (.mv (.t 3)), iI 8 (.mv (.t 0)), iI 9 (.len 0 (.t 8)), iI 10 (.bin .lss (.t 7) (.t 9))]) c7_1) c7_4))
def c7_6 : C := .seq (.reg [iI 2 (.mv (.c (.bool true)))]) .ret
def c7_7 : C := .seq (.seq (.reg [iI 3 (.mv (.c (.int .i64 0)))]) c7_5) c7_6
def c7_8 : C := .seq (.seq (.reg [iI 4 (.mv (.t 0)), iI 5 (.len 0 (.t 4)), iI 6 (.bin .gtr (.t 5) (.c (.int .i64 64)))]) c7_0) c7_7
def ir7 : C := .seq (.reg [iI 2 (.mv (.c (.bool false)))]) c7_8
theorem fd7 : fd? Try.prog 7 = some (20, [.slot 2], ir7) := by kernel_rfl
noncomputable def f7 (l_4 : (List ApiPalette)) : Option (Bool) :=
  (if (decide (64 < ((l_4.length : Nat) : Int))) = true then (some false) else ((Lp.run (f7_L1 l_4) 0).bind fun r_ => match r_ with | (Sum.inl _) => (some true) | (Sum.inr _) => (some false)))
theorem f7_ok {l_4 : (List ApiPalette)} {r_ : Bool} (H : f7 l_4 = some r_) : Pure Try.prog 7 [.sl 2 false (l_4.map eApiPalette)] (· = .bool r_) := by
  refine Pure.walk3 fd7 none (Nat.le_of_ble_eq_true rfl) (by rfl) fun Q hQ => ?_
  simp only [f7] at H
  refine AW.rseq ?_
  try simp only [↓wk, ↓wl, nc, evV, wrapBits_eq, ↓reduceIte, Nat.reduceEqDiff, Nat.reduceAdd, Nat.reduceSub, Nat.reduceLeDiff, Nat.reduceLT, Nat.reduceBEq, reduceCtorEq, Int.reduceEq]
  refine AW.sseq ?_
  refine AW.rseq ?_
  try simp only [↓wk, ↓wl, nc, evV, wrapBits_eq, ↓reduceIte, Nat.reduceEqDiff, Nat.reduceAdd, Nat.reduceSub, Nat.reduceLeDiff, Nat.reduceLT, Nat.reduceBEq, reduceCtorEq, Int.reduceEq]
  refine AW.ifc H (by rfl) ?_ ?_ <;> clear H <;> intro H
  · refine AW.rseq ?_
    try simp only [↓wk, ↓wl, nc, evV, wrapBits_eq, ↓reduceIte, Nat.reduceEqDiff, Nat.reduceAdd, Nat.reduceSub, Nat.reduceLeDiff, Nat.reduceLT, Nat.reduceBEq, reduceCtorEq, Int.reduceEq]
    refine AW.ret ?_
    refine seqQ.ret ?_
    cases H
    exact hQ _ _ _ _ (.inr rfl) (by simp only [resVs, omap, resV, ↓wk, ↓wl, nc, evV, wrapBits_eq, ↓reduceIte, Nat.reduceEqDiff, Nat.reduceAdd, Nat.reduceSub, Nat.reduceLeDiff, Nat.reduceLT, Nat.reduceBEq, reduceCtorEq, Int.reduceEq]; rfl) (hand_plain (by rfl)) (by first | exact Or.inl rfl | exact Or.inr rfl)
  · refine AW.skip ?_
    refine seqQ.norm ?_
    refine AW.sseq ?_
    refine AW.rseq ?_
    try simp only [↓wk, ↓wl, nc, evV, wrapBits_eq, ↓reduceIte, Nat.reduceEqDiff, Nat.reduceAdd, Nat.reduceSub, Nat.reduceLeDiff, Nat.reduceLT, Nat.reduceBEq, reduceCtorEq, Int.reduceEq]
    refine AW.bend ?_
    refine AW.iter H ((Le.none [] [0, 3] (by decide) (by simp only [f7_L1, List.length_set, Option.map_some, restrict_eq, renS_nil, renS_cons, renB_els, renB_cel, renB_dead, deep_eq, map_ren_enc, ren_agg', ren_tup', ren_fn', ren_int', ren_bool', ren_str', ren_sl', ren_pro', ren_nilp', ren_nilfn', ren_junk', ren_ptr', ren_row', ren_arow', ren_eptr', vm, List.idxOf?_cons, List.idxOf?_nil, beq_self_eq_true, Option.map_none, List.getD_cons_zero, List.getD_cons_succ, ↓wk, ↓wl, nc, evV, wrapBits_eq, ↓reduceIte, Nat.reduceEqDiff, Nat.reduceAdd, Nat.reduceSub, Nat.reduceLeDiff, Nat.reduceLT, Nat.reduceBEq, reduceCtorEq, Int.reduceEq] <;> rfl))) ?_ <;> clear H
    rintro i_8 x_ st0_ H hst_
    simp only [f7_L1] at H hst_
    subst hst_
    refine AW.sseq ?_
    refine AW.rseq ?_
    try simp only [↓wk, ↓wl, nc, evV, wrapBits_eq, ↓reduceIte, Nat.reduceEqDiff, Nat.reduceAdd, Nat.reduceSub, Nat.reduceLeDiff, Nat.reduceLT, Nat.reduceBEq, reduceCtorEq, Int.reduceEq]
    refine AW.ifc H (by rfl) ?_ ?_ <;> clear H <;> intro H
    · refine AW.skip ?_
      refine seqQ.norm ?_
      refine AW.bseq ?_
      refine AW.rseq ?_
      try simp only [↓wk, ↓wl, nc, evV, wrapBits_eq, ↓reduceIte, Nat.reduceEqDiff, Nat.reduceAdd, Nat.reduceSub, Nat.reduceLeDiff, Nat.reduceLT, Nat.reduceBEq, reduceCtorEq, Int.reduceEq]
      refine evTs_at (enc := eApiPalette) H (by rfl) (by rfl) ?_ <;> clear H <;> intro x_10 H
      try simp only [eApiPalette, eL, ↓wk, ↓wl, nc, evV, wrapBits_eq, ↓reduceIte, Nat.reduceEqDiff, Nat.reduceAdd, Nat.reduceSub, Nat.reduceLeDiff, Nat.reduceLT, Nat.reduceBEq, reduceCtorEq, Int.reduceEq]
      refine AW.ifc H (by rfl) ?_ ?_ <;> clear H <;> intro H
      · refine AW.rseq ?_
        try simp only [↓wk, ↓wl, nc, evV, wrapBits_eq, ↓reduceIte, Nat.reduceEqDiff, Nat.reduceAdd, Nat.reduceSub, Nat.reduceLeDiff, Nat.reduceLT, Nat.reduceBEq, reduceCtorEq, Int.reduceEq]
        refine AW.ret ?_
        refine blkQ.ret ?_
        refine loopQ.ret H ?_ <;> clear H <;> intro H
        try dsimp only at H
        refine blk0.ret ?_
        refine seqQ.ret ?_
        cases H
        exact hQ _ _ _ _ (.inr rfl) (by simp only [resVs, omap, resV, ↓wk, ↓wl, nc, evV, wrapBits_eq, ↓reduceIte, Nat.reduceEqDiff, Nat.reduceAdd, Nat.reduceSub, Nat.reduceLeDiff, Nat.reduceLT, Nat.reduceBEq, reduceCtorEq, Int.reduceEq]; rfl) (hand_plain (by rfl)) (by first | exact Or.inl rfl | exact Or.inr rfl)
      · refine AW.skip ?_
        refine blkQ.norm ?_
        refine AW.rend ?_
        try simp only [↓wk, ↓wl, nc, evV, wrapBits_eq, ↓reduceIte, Nat.reduceEqDiff, Nat.reduceAdd, Nat.reduceSub, Nat.reduceLeDiff, Nat.reduceLT, Nat.reduceBEq, reduceCtorEq, Int.reduceEq]
        exact loopQ.next H ((Le.none [] [0, 3] (by decide) (by simp only [f7_L1, List.length_set, Option.map_some, restrict_eq, renS_nil, renS_cons, renB_els, renB_cel, renB_dead, deep_eq, map_ren_enc, ren_agg', ren_tup', ren_fn', ren_int', ren_bool', ren_str', ren_sl', ren_pro', ren_nilp', ren_nilfn', ren_junk', ren_ptr', ren_row', ren_arow', ren_eptr', vm, List.idxOf?_cons, List.idxOf?_nil, beq_self_eq_true, Option.map_none, List.getD_cons_zero, List.getD_cons_succ, ↓wk, ↓wl, nc, evV, wrapBits_eq, ↓reduceIte, Nat.reduceEqDiff, Nat.reduceAdd, Nat.reduceSub, Nat.reduceLeDiff, Nat.reduceLT, Nat.reduceBEq, reduceCtorEq, Int.reduceEq] <;> rfl)))
    · refine AW.exit ?_
      refine seqQ.exit ?_
      refine loopQ.exit H ?_ <;> clear H <;> intro H
      try dsimp only at H
      refine blk0.here ?_
      refine seqQ.norm ?_
      refine AW.rseq ?_
      try simp only [↓wk, ↓wl, nc, evV, wrapBits_eq, ↓reduceIte, Nat.reduceEqDiff, Nat.reduceAdd, Nat.reduceSub, Nat.reduceLeDiff, Nat.reduceLT, Nat.reduceBEq, reduceCtorEq, Int.reduceEq]
      refine AW.ret ?_
      cases H
      exact hQ _ _ _ _ (.inr rfl) (by simp only [resVs, omap, resV, ↓wk, ↓wl, nc, evV, wrapBits_eq, ↓reduceIte, Nat.reduceEqDiff, Nat.reduceAdd, Nat.reduceSub, Nat.reduceLeDiff, Nat.reduceLT, Nat.reduceBEq, reduceCtorEq, Int.reduceEq]; rfl) (hand_plain (by rfl)) (by first | exact Or.inl rfl | exact Or.inr rfl)
def c25_0 : C := .seq (.reg [iI 1 (.build [(1, (.int .i64 0)), (1, (.int .i64 0)), (1, (.int .i64 0))] [(1, 0, (.c (.int .i64 3))), (2, 0, (.c (.int .i64 100)))]), iI 2 (.build [(1, (.int .i64 0)), (1, (.int .i64 0)), (1, (.int .i64 0))] [(0, 0, (.c (.int .i64 7))), (1, 0, (.c (.int .i64 3))), (2, 0, (.c (.int .i64 900)))]), iI 3 (.mkslp 3 2 (.agg [(.int .i64 0), (.int .i64 0), (.int .i64 0)]) [(0, (.t 1)), (1, (.t 2))]), iI 4 (.build [(1, (.int .i64 0)), (1, (.sl 3 true []))] [(0, 0, (.c (.int .i64 4))), (1, 0, (.t 3))]), iI 5 (.mksl 2 1 (.agg [(.int .i64 0), (.sl 3 true [])]) [(0, (.t 4))]), iI 0 (.mv (.t 5))]) .ret
def ir25 : C := .seq (.reg [iI 0 (.mv (.c (.sl 2 true [])))]) c25_0
theorem fd25 : fd? Try.prog 25 = some (6, [.slot 0], ir25) := by kernel_rfl
noncomputable def f25 : Option ((List ApiPalette)) :=
  (some [(ApiPalette.mk 4 ([(ApiHue.mk 0 3 100), (ApiHue.mk 7 3 900)]))])
theorem f25_ok {r_ : (List ApiPalette)} (H : f25 = some r_) : Pure Try.prog 25 [] (· = .sl 2 false (r_.map eApiPalette)) := by
  refine Pure.walk3 fd25 none (Nat.le_of_ble_eq_true rfl) (by rfl) fun Q hQ => ?_
  simp only [f25] at H
  refine AW.rseq ?_
  try simp only [↓wk, ↓wl, nc, evV, wrapBits_eq, ↓reduceIte, Nat.reduceEqDiff, Nat.reduceAdd, Nat.reduceSub, Nat.reduceLeDiff, Nat.reduceLT, Nat.reduceBEq, reduceCtorEq, Int.reduceEq]
  refine AW.rseq ?_
  try simp only [↓wk, ↓wl, nc, evV, wrapBits_eq, ↓reduceIte, Nat.reduceEqDiff, Nat.reduceAdd, Nat.reduceSub, Nat.reduceLeDiff, Nat.reduceLT, Nat.reduceBEq, reduceCtorEq, Int.reduceEq]
  refine AW.ret ?_
  cases H
  exact hQ _ _ _ _ (.inr rfl) (by simp only [resVs, omap, resV, ↓wk, ↓wl, nc, evV, wrapBits_eq, ↓reduceIte, Nat.reduceEqDiff, Nat.reduceAdd, Nat.reduceSub, Nat.reduceLeDiff, Nat.reduceLT, Nat.reduceBEq, reduceCtorEq, Int.reduceEq]; rfl) (hand_plain (by rfl)) (by first | exact Or.inl rfl | exact Or.inr rfl)
def c27_0 : C := .seq (.reg [iI 3 (.mv (.t 0)), iI 4 (.build [(1, (.int .i64 0)), (1, (.int .i64 0))] [(0, 0, (.t 3))]), iN (.store 2 (.t 2) (.t 4))]) .ret
def ir27 : C := .seq (.reg [iI 2 (.alloc [(1, (.int .i64 0)), (1, (.int .i64 0))])]) c27_0
theorem fd27 : fd? Try.prog 27 = some (5, [.cell 2 2], ir27) := by kernel_rfl
noncomputable def f27 (palette_13 : Int) : Option (ApiValue) :=
  (some (ApiValue.mk palette_13 0))
theorem f27_ok {palette_13 : Int} {r_ : ApiValue} (H : f27 palette_13 = some r_) : Pure Try.prog 27 [.int .i64 palette_13] (· = .agg [.int .i64 r_.fPalette, .int .i64 r_.fLevel]) := by
  refine Pure.walk3 fd27 none (Nat.le_of_ble_eq_true rfl) (by rfl) fun Q hQ => ?_
  simp only [f27] at H
  refine AW.rseq ?_
  try simp only [↓wk, ↓wl, nc, evV, wrapBits_eq, ↓reduceIte, Nat.reduceEqDiff, Nat.reduceAdd, Nat.reduceSub, Nat.reduceLeDiff, Nat.reduceLT, Nat.reduceBEq, reduceCtorEq, Int.reduceEq]
  refine AW.rseq ?_
  try simp only [↓wk, ↓wl, nc, evV, wrapBits_eq, ↓reduceIte, Nat.reduceEqDiff, Nat.reduceAdd, Nat.reduceSub, Nat.reduceLeDiff, Nat.reduceLT, Nat.reduceBEq, reduceCtorEq, Int.reduceEq]
  refine AW.ret ?_
  cases H
  exact hQ _ _ _ _ (.inr rfl) (by simp only [resVs, omap, resV, ↓wk, ↓wl, nc, evV, wrapBits_eq, ↓reduceIte, Nat.reduceEqDiff, Nat.reduceAdd, Nat.reduceSub, Nat.reduceLeDiff, Nat.reduceLT, Nat.reduceBEq, reduceCtorEq, Int.reduceEq]; rfl) (hand_plain (by rfl)) (by first | exact Or.inl rfl | exact Or.inr rfl)
def c26_0 : C := .seq (.reg [iI 3 (.mv (.t 0)), iI 4 (.build [(1, (.int .i64 0)), (1, (.int .i64 0))] [(0, 0, (.t 3)), (1, 0, (.c (.int .i64 3)))]), iN (.store 2 (.t 2) (.t 4))]) .ret
def ir26 : C := .seq (.reg [iI 2 (.alloc [(1, (.int .i64 0)), (1, (.int .i64 0))])]) c26_0
theorem fd26 : fd? Try.prog 26 = some (5, [.cell 2 2], ir26) := by kernel_rfl
noncomputable def f26 (channel_15 : Int) : Option (ApiParam) :=
  (some (ApiParam.mk channel_15 3))
theorem f26_ok {channel_15 : Int} {r_ : ApiParam} (H : f26 channel_15 = some r_) : Pure Try.prog 26 [.int .i64 channel_15] (· = .agg [.int .i64 r_.fChannel, .int .i64 r_.fAttr]) := by
  refine Pure.walk3 fd26 none (Nat.le_of_ble_eq_true rfl) (by rfl) fun Q hQ => ?_
  simp only [f26] at H
  refine AW.rseq ?_
  try simp only [↓wk, ↓wl, nc, evV, wrapBits_eq, ↓reduceIte, Nat.reduceEqDiff, Nat.reduceAdd, Nat.reduceSub, Nat.reduceLeDiff, Nat.reduceLT, Nat.reduceBEq, reduceCtorEq, Int.reduceEq]
  refine AW.rseq ?_
  try simp only [↓wk, ↓wl, nc, evV, wrapBits_eq, ↓reduceIte, Nat.reduceEqDiff, Nat.reduceAdd, Nat.reduceSub, Nat.reduceLeDiff, Nat.reduceLT, Nat.reduceBEq, reduceCtorEq, Int.reduceEq]
  refine AW.ret ?_
  cases H
  exact hQ _ _ _ _ (.inr rfl) (by simp only [resVs, omap, resV, ↓wk, ↓wl, nc, evV, wrapBits_eq, ↓reduceIte, Nat.reduceEqDiff, Nat.reduceAdd, Nat.reduceSub, Nat.reduceLeDiff, Nat.reduceLT, Nat.reduceBEq, reduceCtorEq, Int.reduceEq]; rfl) (hand_plain (by rfl)) (by first | exact Or.inl rfl | exact Or.inr rfl)
def c35_0 : C := .seq (.reg [iI 3 (.mv (.t 0)), iI 4 (.bin .geq (.t 3) (.c (.int .i64 0))), iI 5 (.mv (.t 4)), iG (some 6) 5 true (.mv (.t 0)), iG (some 7) 5 true (.bin .leq (.t 6) (.c (.int .i64 65535))), iI 8 (.pick (.t 5) (.t 7) (.c (.bool false))), iI 2 (.mv (.t 8))]) .ret
def ir35 : C := .seq (.reg [iI 2 (.mv (.c (.bool false)))]) c35_0
theorem fd35 : fd? Try.prog 35 = some (9, [.slot 2], ir35) := by kernel_rfl
noncomputable def f35 (v_29 : Int) : Option (Bool) :=
  (if (decide (0 ≤ v_29)) = true then (some (decide (v_29 ≤ 65535))) else (some false))
theorem f35_ok {v_29 : Int} {r_ : Bool} (H : f35 v_29 = some r_) : Pure Try.prog 35 [.int .i64 v_29] (· = .bool r_) := by
  refine Pure.walk3 fd35 none (Nat.le_of_ble_eq_true rfl) (by rfl) fun Q hQ => ?_
  simp only [f35] at H
  refine AW.rseq ?_
  try simp only [↓wk, ↓wl, nc, evV, wrapBits_eq, ↓reduceIte, Nat.reduceEqDiff, Nat.reduceAdd, Nat.reduceSub, Nat.reduceLeDiff, Nat.reduceLT, Nat.reduceBEq, reduceCtorEq, Int.reduceEq]
  refine AW.rseq ?_
  try simp only [↓wk, ↓wl, nc, evV, wrapBits_eq, ↓reduceIte, Nat.reduceEqDiff, Nat.reduceAdd, Nat.reduceSub, Nat.reduceLeDiff, Nat.reduceLT, Nat.reduceBEq, reduceCtorEq, Int.reduceEq]
  refine evTs_ifg H (by rfl) ?_ ?_ <;> clear H <;> intro H
  · try simp only [↓wk, ↓wl, nc, evV, wrapBits_eq, ↓reduceIte, Nat.reduceEqDiff, Nat.reduceAdd, Nat.reduceSub, Nat.reduceLeDiff, Nat.reduceLT, Nat.reduceBEq, reduceCtorEq, Int.reduceEq]
    refine AW.ret ?_
    cases H
    exact hQ _ _ _ _ (.inr rfl) (by simp only [resVs, omap, resV, ↓wk, ↓wl, nc, evV, wrapBits_eq, ↓reduceIte, Nat.reduceEqDiff, Nat.reduceAdd, Nat.reduceSub, Nat.reduceLeDiff, Nat.reduceLT, Nat.reduceBEq, reduceCtorEq, Int.reduceEq]; rfl) (hand_plain (by rfl)) (by first | exact Or.inl rfl | exact Or.inr rfl)
  · try simp only [↓wk, ↓wl, nc, evV, wrapBits_eq, ↓reduceIte, Nat.reduceEqDiff, Nat.reduceAdd, Nat.reduceSub, Nat.reduceLeDiff, Nat.reduceLT, Nat.reduceBEq, reduceCtorEq, Int.reduceEq]
    refine AW.ret ?_
    cases H
    exact hQ _ _ _ _ (.inr rfl) (by simp only [resVs, omap, resV, ↓wk, ↓wl, nc, evV, wrapBits_eq, ↓reduceIte, Nat.reduceEqDiff, Nat.reduceAdd, Nat.reduceSub, Nat.reduceLeDiff, Nat.reduceLT, Nat.reduceBEq, reduceCtorEq, Int.reduceEq]; rfl) (hand_plain (by rfl)) (by first | exact Or.inl rfl | exact Or.inr rfl)
def c63_0 : C := .seq (.reg [iI 3 (.faddr 0 (.t 1)), iI 4 (.load 0 (.t 3)), iI 5 (.faddr 1 (.t 1)), iI 6 (.load 0 (.t 5)), iI 7 (.build [(1, (.int .i64 0)), (1, (.int .i64 0))] [(0, 0, (.t 4)), (1, 0, (.t 6))]), iN (.store 2 (.t 2) (.t 7))]) .ret
def ir63 : C := .seq (.reg [iI 1 (.box (.t 0)), iI 2 (.alloc [(1, (.int .i64 0)), (1, (.int .i64 0))])]) c63_0
theorem fd63 : fd? Try.prog 63 = some (8, [.cell 2 2], ir63) := by kernel_rfl
noncomputable def f63 (h_31 : ApiHue) : Option (ApiParam) :=
  (some (ApiParam.mk h_31.fChannel h_31.fAttr))
theorem f63_ok {h_31 : ApiHue} {r_ : ApiParam} (H : f63 h_31 = some r_) : Pure Try.prog 63 [.agg [.int .i64 h_31.fChannel, .int .i64 h_31.fAttr, .int .i64 h_31.fLevel]] (· = .agg [.int .i64 r_.fChannel, .int .i64 r_.fAttr]) := by
  refine Pure.walk3 fd63 none (Nat.le_of_ble_eq_true rfl) (by rfl) fun Q hQ => ?_
  simp only [f63] at H
  refine AW.rseq ?_
  try simp only [↓wk, ↓wl, nc, evV, wrapBits_eq, ↓reduceIte, Nat.reduceEqDiff, Nat.reduceAdd, Nat.reduceSub, Nat.reduceLeDiff, Nat.reduceLT, Nat.reduceBEq, reduceCtorEq, Int.reduceEq]
  refine AW.rseq ?_
  try simp only [↓wk, ↓wl, nc, evV, wrapBits_eq, ↓reduceIte, Nat.reduceEqDiff, Nat.reduceAdd, Nat.reduceSub, Nat.reduceLeDiff, Nat.reduceLT, Nat.reduceBEq, reduceCtorEq, Int.reduceEq]
  refine AW.ret ?_
  cases H
  exact hQ _ _ _ _ (.inr rfl) (by simp only [resVs, omap, resV, ↓wk, ↓wl, nc, evV, wrapBits_eq, ↓reduceIte, Nat.reduceEqDiff, Nat.reduceAdd, Nat.reduceSub, Nat.reduceLeDiff, Nat.reduceLT, Nat.reduceBEq, reduceCtorEq, Int.reduceEq]; rfl) (hand_plain (by rfl)) (by first | exact Or.inl rfl | exact Or.inr rfl)
def c34_0 : C := .cond (.t 23) (.seq (.reg [iI 4 (.mv (.c (.int .i64 2)))]) .ret) (.skip)
def c34_1 : C := .seq (.reg [iI 4 (.mv (.c (.int .i64 0)))]) .ret
def c34_2 : C := .seq (.seq (.reg [iI 5 (.faddr 0 (.t 2)), iI 6 (.load 0 (.t 5)), iI 7 (.mv (.t 1)), iI 8 (.bin .lss (.t 6) (.t 7)), iI 9 (.mv (.t 8)), iG (some 10) 9 false (.faddr 0 (.t 2)), iG (some 11) 9 false (.load 0 (.t 10)), iG (some 12) 9 false (.bin .gtr (.t 11) (.c (.int .i64 999))), iI 13 (.pick (.t 9) (.c (.bool true)) (.t 12)), iI 14 (.mv (.t 13)), iG (some 15) 14 false (.faddr 1 (.t 2)), iG (some 16) 14 false (.load 0 (.t 15)), iG (some 17) 14 false (.bin .lss (.t 16) (.c (.int .i64 0))), iI 18 (.pick (.t 14) (.c (.bool true)) (.t 17)), iI 19 (.mv (.t 18)), iG (some 20) 19 false (.faddr 1 (.t 2)), iG (some 21) 19 false (.load 0 (.t 20)), iG (some 22) 19 false (.bin .geq (.t 21) (.c (.int .i64 15))), iI 23 (.pick (.t 19) (.c (.bool true)) (.t 22))]) c34_0) c34_1
def ir34 : C := .seq (.reg [iI 2 (.box (.t 0)), iI 4 (.mv (.c (.int .i64 0)))]) c34_2
theorem fd34 : fd? Try.prog 34 = some (24, [.slot 4], ir34) := by kernel_rfl
noncomputable def f34 (p_33 : ApiParam) (least_34 : Int) : Option (Int) :=
  (if (decide (p_33.fChannel < least_34)) = true then (some 2) else (if (decide (999 < p_33.fChannel)) = true then (some 2) else (if (decide (p_33.fAttr < 0)) = true then (some 2) else (if (decide (15 ≤ p_33.fAttr)) = true then (some 2) else (some 0)))))
theorem f34_ok {p_33 : ApiParam} {least_34 : Int} {r_ : Int} (H : f34 p_33 least_34 = some r_) : Pure Try.prog 34 [.agg [.int .i64 p_33.fChannel, .int .i64 p_33.fAttr], .int .i64 least_34] (· = .int .i64 r_) := by
  refine Pure.walk3 fd34 none (Nat.le_of_ble_eq_true rfl) (by rfl) fun Q hQ => ?_
  simp only [f34] at H
  refine AW.rseq ?_
  try simp only [↓wk, ↓wl, nc, evV, wrapBits_eq, ↓reduceIte, Nat.reduceEqDiff, Nat.reduceAdd, Nat.reduceSub, Nat.reduceLeDiff, Nat.reduceLT, Nat.reduceBEq, reduceCtorEq, Int.reduceEq]
  refine AW.sseq ?_
  refine AW.rseq ?_
  try simp only [↓wk, ↓wl, nc, evV, wrapBits_eq, ↓reduceIte, Nat.reduceEqDiff, Nat.reduceAdd, Nat.reduceSub, Nat.reduceLeDiff, Nat.reduceLT, Nat.reduceBEq, reduceCtorEq, Int.reduceEq]
  refine evTs_ifg H (by rfl) ?_ ?_ <;> clear H <;> intro H
  · try simp only [↓wk, ↓wl, nc, evV, wrapBits_eq, ↓reduceIte, Nat.reduceEqDiff, Nat.reduceAdd, Nat.reduceSub, Nat.reduceLeDiff, Nat.reduceLT, Nat.reduceBEq, reduceCtorEq, Int.reduceEq]
    refine AW.ift (by rfl) ?_
    refine AW.rseq ?_
    try simp only [↓wk, ↓wl, nc, evV, wrapBits_eq, ↓reduceIte, Nat.reduceEqDiff, Nat.reduceAdd, Nat.reduceSub, Nat.reduceLeDiff, Nat.reduceLT, Nat.reduceBEq, reduceCtorEq, Int.reduceEq]
    refine AW.ret ?_
    refine seqQ.ret ?_
    cases H
    exact hQ _ _ _ _ (.inr rfl) (by simp only [resVs, omap, resV, ↓wk, ↓wl, nc, evV, wrapBits_eq, ↓reduceIte, Nat.reduceEqDiff, Nat.reduceAdd, Nat.reduceSub, Nat.reduceLeDiff, Nat.reduceLT, Nat.reduceBEq, reduceCtorEq, Int.reduceEq]; rfl) (hand_plain (by rfl)) (by first | exact Or.inl rfl | exact Or.inr rfl)
  · try simp only [↓wk, ↓wl, nc, evV, wrapBits_eq, ↓reduceIte, Nat.reduceEqDiff, Nat.reduceAdd, Nat.reduceSub, Nat.reduceLeDiff, Nat.reduceLT, Nat.reduceBEq, reduceCtorEq, Int.reduceEq]
    refine evTs_ifg H (by rfl) ?_ ?_ <;> clear H <;> intro H
    · try simp only [↓wk, ↓wl, nc, evV, wrapBits_eq, ↓reduceIte, Nat.reduceEqDiff, Nat.reduceAdd, Nat.reduceSub, Nat.reduceLeDiff, Nat.reduceLT, Nat.reduceBEq, reduceCtorEq, Int.reduceEq]
      refine AW.ift (by rfl) ?_
      refine AW.rseq ?_
      try simp only [↓wk, ↓wl, nc, evV, wrapBits_eq, ↓reduceIte, Nat.reduceEqDiff, Nat.reduceAdd, Nat.reduceSub, Nat.reduceLeDiff, Nat.reduceLT, Nat.reduceBEq, reduceCtorEq, Int.reduceEq]
      refine AW.ret ?_
      refine seqQ.ret ?_
      cases H
      exact hQ _ _ _ _ (.inr rfl) (by simp only [resVs, omap, resV, ↓wk, ↓wl, nc, evV, wrapBits_eq, ↓reduceIte, Nat.reduceEqDiff, Nat.reduceAdd, Nat.reduceSub, Nat.reduceLeDiff, Nat.reduceLT, Nat.reduceBEq, reduceCtorEq, Int.reduceEq]; rfl) (hand_plain (by rfl)) (by first | exact Or.inl rfl | exact Or.inr rfl)
    · try simp only [↓wk, ↓wl, nc, evV, wrapBits_eq, ↓reduceIte, Nat.reduceEqDiff, Nat.reduceAdd, Nat.reduceSub, Nat.reduceLeDiff, Nat.reduceLT, Nat.reduceBEq, reduceCtorEq, Int.reduceEq]
      refine evTs_ifg H (by rfl) ?_ ?_ <;> clear H <;> intro H
      · try simp only [↓wk, ↓wl, nc, evV, wrapBits_eq, ↓reduceIte, Nat.reduceEqDiff, Nat.reduceAdd, Nat.reduceSub, Nat.reduceLeDiff, Nat.reduceLT, Nat.reduceBEq, reduceCtorEq, Int.reduceEq]
        refine AW.ift (by rfl) ?_
        refine AW.rseq ?_
        try simp only [↓wk, ↓wl, nc, evV, wrapBits_eq, ↓reduceIte, Nat.reduceEqDiff, Nat.reduceAdd, Nat.reduceSub, Nat.reduceLeDiff, Nat.reduceLT, Nat.reduceBEq, reduceCtorEq, Int.reduceEq]
        refine AW.ret ?_
        refine seqQ.ret ?_
        cases H
        exact hQ _ _ _ _ (.inr rfl) (by simp only [resVs, omap, resV, ↓wk, ↓wl, nc, evV, wrapBits_eq, ↓reduceIte, Nat.reduceEqDiff, Nat.reduceAdd, Nat.reduceSub, Nat.reduceLeDiff, Nat.reduceLT, Nat.reduceBEq, reduceCtorEq, Int.reduceEq]; rfl) (hand_plain (by rfl)) (by first | exact Or.inl rfl | exact Or.inr rfl)
      · try simp only [↓wk, ↓wl, nc, evV, wrapBits_eq, ↓reduceIte, Nat.reduceEqDiff, Nat.reduceAdd, Nat.reduceSub, Nat.reduceLeDiff, Nat.reduceLT, Nat.reduceBEq, reduceCtorEq, Int.reduceEq]
        refine AW.ifc H (by rfl) ?_ ?_ <;> clear H <;> intro H
        · refine AW.rseq ?_
          try simp only [↓wk, ↓wl, nc, evV, wrapBits_eq, ↓reduceIte, Nat.reduceEqDiff, Nat.reduceAdd, Nat.reduceSub, Nat.reduceLeDiff, Nat.reduceLT, Nat.reduceBEq, reduceCtorEq, Int.reduceEq]
          refine AW.ret ?_
          refine seqQ.ret ?_
          cases H
          exact hQ _ _ _ _ (.inr rfl) (by simp only [resVs, omap, resV, ↓wk, ↓wl, nc, evV, wrapBits_eq, ↓reduceIte, Nat.reduceEqDiff, Nat.reduceAdd, Nat.reduceSub, Nat.reduceLeDiff, Nat.reduceLT, Nat.reduceBEq, reduceCtorEq, Int.reduceEq]; rfl) (hand_plain (by rfl)) (by first | exact Or.inl rfl | exact Or.inr rfl)
        · refine AW.skip ?_
          refine seqQ.norm ?_
          refine AW.rseq ?_
          try simp only [↓wk, ↓wl, nc, evV, wrapBits_eq, ↓reduceIte, Nat.reduceEqDiff, Nat.reduceAdd, Nat.reduceSub, Nat.reduceLeDiff, Nat.reduceLT, Nat.reduceBEq, reduceCtorEq, Int.reduceEq]
          refine AW.ret ?_
          cases H
          exact hQ _ _ _ _ (.inr rfl) (by simp only [resVs, omap, resV, ↓wk, ↓wl, nc, evV, wrapBits_eq, ↓reduceIte, Nat.reduceEqDiff, Nat.reduceAdd, Nat.reduceSub, Nat.reduceLeDiff, Nat.reduceLT, Nat.reduceBEq, reduceCtorEq, Int.reduceEq]; rfl) (hand_plain (by rfl)) (by first | exact Or.inl rfl | exact Or.inr rfl)
def c77_0 : C := .cond (.t 6) (.seq (.reg [iI 2 (.mv (.c (.int .i64 2)))]) .ret) (.skip)
def c77_1 : C := .seq (.reg [iI 7 (.load 3 (.t 1)), iI 8 (.call (.c (.fn 63 [])) [(.t 7)]), iI 9 (.call (.c (.fn 34 [])) [(.t 8), (.c (.int .i64 0))]), iI 2 (.mv (.t 9))]) .ret
def c77_2 : C := .seq (.seq (.reg [iI 3 (.faddr 2 (.t 1)), iI 4 (.load 0 (.t 3)), iI 5 (.call (.c (.fn 35 [])) [(.t 4)]), iI 6 (.un .not (.t 5))]) c77_0) c77_1
def ir77 : C := .seq (.reg [iI 1 (.box (.t 0)), iI 2 (.mv (.c (.int .i64 0)))]) c77_2
theorem fd77 : fd? Try.prog 77 = some (10, [.slot 2], ir77) := by kernel_rfl
noncomputable def f77 (h_28 : ApiHue) : Option (Int) :=
  (f35 h_28.fLevel).bind fun r_30 => (if (!r_30) = true then (some 2) else (f63 h_28).bind fun r_32 => (f34 r_32 0).bind fun r_35 => (some r_35))
theorem f77_ok {h_28 : ApiHue} {r_ : Int} (H : f77 h_28 = some r_) : Pure Try.prog 77 [.agg [.int .i64 h_28.fChannel, .int .i64 h_28.fAttr, .int .i64 h_28.fLevel]] (· = .int .i64 r_) := by
  refine Pure.walk3 fd77 none (Nat.le_of_ble_eq_true rfl) (by rfl) fun Q hQ => ?_
  simp only [f77] at H
  refine AW.rseq ?_
  try simp only [↓wk, ↓wl, nc, evV, wrapBits_eq, ↓reduceIte, Nat.reduceEqDiff, Nat.reduceAdd, Nat.reduceSub, Nat.reduceLeDiff, Nat.reduceLT, Nat.reduceBEq, reduceCtorEq, Int.reduceEq]
  refine AW.sseq ?_
  refine AW.rseq ?_
  try simp only [↓wk, ↓wl, nc, evV, wrapBits_eq, ↓reduceIte, Nat.reduceEqDiff, Nat.reduceAdd, Nat.reduceSub, Nat.reduceLeDiff, Nat.reduceLT, Nat.reduceBEq, reduceCtorEq, Int.reduceEq]
  refine evTs_pure hFn H (fun _ h => f35_ok h) (by rfl) (by rfl) (by rfl) (by rfl) (fun _ => rfl) ?_ <;> clear H <;> intro r_30 H
  try simp only [eL, ↓wk, ↓wl, nc, evV, wrapBits_eq, ↓reduceIte, Nat.reduceEqDiff, Nat.reduceAdd, Nat.reduceSub, Nat.reduceLeDiff, Nat.reduceLT, Nat.reduceBEq, reduceCtorEq, Int.reduceEq]
  refine AW.ifc H (by rfl) ?_ ?_ <;> clear H <;> intro H
  · refine AW.rseq ?_
    try simp only [↓wk, ↓wl, nc, evV, wrapBits_eq, ↓reduceIte, Nat.reduceEqDiff, Nat.reduceAdd, Nat.reduceSub, Nat.reduceLeDiff, Nat.reduceLT, Nat.reduceBEq, reduceCtorEq, Int.reduceEq]
    refine AW.ret ?_
    refine seqQ.ret ?_
    cases H
    exact hQ _ _ _ _ (.inr rfl) (by simp only [resVs, omap, resV, ↓wk, ↓wl, nc, evV, wrapBits_eq, ↓reduceIte, Nat.reduceEqDiff, Nat.reduceAdd, Nat.reduceSub, Nat.reduceLeDiff, Nat.reduceLT, Nat.reduceBEq, reduceCtorEq, Int.reduceEq]; rfl) (hand_plain (by rfl)) (by first | exact Or.inl rfl | exact Or.inr rfl)
  · refine AW.skip ?_
    refine seqQ.norm ?_
    refine AW.rseq ?_
    try simp only [↓wk, ↓wl, nc, evV, wrapBits_eq, ↓reduceIte, Nat.reduceEqDiff, Nat.reduceAdd, Nat.reduceSub, Nat.reduceLeDiff, Nat.reduceLT, Nat.reduceBEq, reduceCtorEq, Int.reduceEq]
    refine evTs_pure hFn H (fun _ h => f63_ok h) (by rfl) (by rfl) (by rfl) (by rfl) (fun _ => rfl) ?_ <;> clear H <;> intro r_32 H
    try simp only [eL, eApiParam, ↓wk, ↓wl, nc, evV, wrapBits_eq, ↓reduceIte, Nat.reduceEqDiff, Nat.reduceAdd, Nat.reduceSub, Nat.reduceLeDiff, Nat.reduceLT, Nat.reduceBEq, reduceCtorEq, Int.reduceEq]
    refine evTs_pure hFn H (fun _ h => f34_ok h) (by rfl) (by rfl) (by rfl) (by rfl) (fun _ => rfl) ?_ <;> clear H <;> intro r_35 H
    try simp only [eL, ↓wk, ↓wl, nc, evV, wrapBits_eq, ↓reduceIte, Nat.reduceEqDiff, Nat.reduceAdd, Nat.reduceSub, Nat.reduceLeDiff, Nat.reduceLT, Nat.reduceBEq, reduceCtorEq, Int.reduceEq]
    refine AW.ret ?_
    cases H
    exact hQ _ _ _ _ (.inr rfl) (by simp only [resVs, omap, resV, ↓wk, ↓wl, nc, evV, wrapBits_eq, ↓reduceIte, Nat.reduceEqDiff, Nat.reduceAdd, Nat.reduceSub, Nat.reduceLeDiff, Nat.reduceLT, Nat.reduceBEq, reduceCtorEq, Int.reduceEq]; rfl) (hand_plain (by rfl)) (by first | exact Or.inl rfl | exact Or.inr rfl)
def c62_0 : C := .cond (.t 9) (.seq (.reg [iI 10 (.faddr 0 (.t 2)), iI 11 (.load 0 (.t 10)), iI 12 (.faddr 0 (.t 3)), iI 13 (.load 0 (.t 12)), iI 14 (.bin .sub (.t 11) (.t 13)), iI 4 (.mv (.t 14))]) .ret) (.skip)
def c62_1 : C := .seq (.reg [iI 15 (.faddr 1 (.t 2)), iI 16 (.load 0 (.t 15)), iI 17 (.faddr 1 (.t 3)), iI 18 (.load 0 (.t 17)), iI 19 (.bin .sub (.t 16) (.t 18)), iI 4 (.mv (.t 19))]) .ret
def c62_2 : C := .seq (.seq (.reg [iI 5 (.faddr 0 (.t 2)), iI 6 (.load 0 (.t 5)), iI 7 (.faddr 0 (.t 3)), iI 8 (.load 0 (.t 7)), iI 9 (.bin .neq (.t 6) (.t 8))]) c62_0) c62_1
def ir62 : C := .seq (.reg [iI 2 (.box (.t 0)), iI 3 (.box (.t 1)), iI 4 (.mv (.c (.int .i64 0)))]) c62_2
theorem fd62 : fd? Try.prog 62 = some (20, [.slot 4], ir62) := by kernel_rfl
noncomputable def f62 (p_43 : ApiParam) (q_44 : ApiParam) : Option (Int) :=
  (if (decide (p_43.fChannel ≠ q_44.fChannel)) = true then (some (IntKind.i64.wrap (p_43.fChannel - q_44.fChannel))) else (some (IntKind.i64.wrap (p_43.fAttr - q_44.fAttr))))
theorem f62_ok {p_43 : ApiParam} {q_44 : ApiParam} {r_ : Int} (H : f62 p_43 q_44 = some r_) : Pure Try.prog 62 [.agg [.int .i64 p_43.fChannel, .int .i64 p_43.fAttr], .agg [.int .i64 q_44.fChannel, .int .i64 q_44.fAttr]] (· = .int .i64 r_) := by
  refine Pure.walk3 fd62 none (Nat.le_of_ble_eq_true rfl) (by rfl) fun Q hQ => ?_
  simp only [f62] at H
  refine AW.rseq ?_
  try simp only [↓wk, ↓wl, nc, evV, wrapBits_eq, ↓reduceIte, Nat.reduceEqDiff, Nat.reduceAdd, Nat.reduceSub, Nat.reduceLeDiff, Nat.reduceLT, Nat.reduceBEq, reduceCtorEq, Int.reduceEq]
  refine AW.sseq ?_
  refine AW.rseq ?_
  try simp only [↓wk, ↓wl, nc, evV, wrapBits_eq, ↓reduceIte, Nat.reduceEqDiff, Nat.reduceAdd, Nat.reduceSub, Nat.reduceLeDiff, Nat.reduceLT, Nat.reduceBEq, reduceCtorEq, Int.reduceEq]
  refine AW.ifc H (by rfl) ?_ ?_ <;> clear H <;> intro H
  · refine AW.rseq ?_
    try simp only [↓wk, ↓wl, nc, evV, wrapBits_eq, ↓reduceIte, Nat.reduceEqDiff, Nat.reduceAdd, Nat.reduceSub, Nat.reduceLeDiff, Nat.reduceLT, Nat.reduceBEq, reduceCtorEq, Int.reduceEq]
    refine AW.ret ?_
    refine seqQ.ret ?_
    cases H
    exact hQ _ _ _ _ (.inr rfl) (by simp only [resVs, omap, resV, ↓wk, ↓wl, nc, evV, wrapBits_eq, ↓reduceIte, Nat.reduceEqDiff, Nat.reduceAdd, Nat.reduceSub, Nat.reduceLeDiff, Nat.reduceLT, Nat.reduceBEq, reduceCtorEq, Int.reduceEq]; rfl) (hand_plain (by rfl)) (by first | exact Or.inl rfl | exact Or.inr rfl)
  · refine AW.skip ?_
    refine seqQ.norm ?_
    refine AW.rseq ?_
    try simp only [↓wk, ↓wl, nc, evV, wrapBits_eq, ↓reduceIte, Nat.reduceEqDiff, Nat.reduceAdd, Nat.reduceSub, Nat.reduceLeDiff, Nat.reduceLT, Nat.reduceBEq, reduceCtorEq, Int.reduceEq]
    refine AW.ret ?_
    cases H
    exact hQ _ _ _ _ (.inr rfl) (by simp only [resVs, omap, resV, ↓wk, ↓wl, nc, evV, wrapBits_eq, ↓reduceIte, Nat.reduceEqDiff, Nat.reduceAdd, Nat.reduceSub, Nat.reduceLeDiff, Nat.reduceLT, Nat.reduceBEq, reduceCtorEq, Int.reduceEq]; rfl) (hand_plain (by rfl)) (by first | exact Or.inl rfl | exact Or.inr rfl)
def c79_0 : C := .seq (.regq [iI 5 (.load 3 (.t 2)), iI 6 (.call (.c (.fn 63 [])) [(.t 5)]), iI 7 (.load 3 (.t 3)), iI 8 (.call (.c (.fn 63 [])) [(.t 7)]), iI 9 (.call (.c (.fn 62 [])) [(.t 6), (.t 8)]), iI 4 (.mv (.t 9))]) .ret
def ir79 : C := .seq (.reg [iI 2 (.box (.t 0)), iI 3 (.box (.t 1)), iI 4 (.mv (.c (.int .i64 0)))]) c79_0
theorem fd79 : fd? Try.prog 79 = some (10, [.slot 4], ir79) := by kernel_rfl
noncomputable def f79 (a_39 : ApiHue) (b_40 : ApiHue) : Option (Int) :=
  (f63 a_39).bind fun r_41 => (f63 b_40).bind fun r_42 => (f62 r_41 r_42).bind fun r_45 => (some r_45)
theorem f79_ok {a_39 : ApiHue} {b_40 : ApiHue} {r_ : Int} (H : f79 a_39 b_40 = some r_) : Pure Try.prog 79 [.agg [.int .i64 a_39.fChannel, .int .i64 a_39.fAttr, .int .i64 a_39.fLevel], .agg [.int .i64 b_40.fChannel, .int .i64 b_40.fAttr, .int .i64 b_40.fLevel]] (· = .int .i64 r_) := by
  refine Pure.walk3 fd79 none (Nat.le_of_ble_eq_true rfl) (by rfl) fun Q hQ => ?_
  simp only [f79] at H
  refine AW.rseq ?_
  try simp only [↓wk, ↓wl, nc, evV, wrapBits_eq, ↓reduceIte, Nat.reduceEqDiff, Nat.reduceAdd, Nat.reduceSub, Nat.reduceLeDiff, Nat.reduceLT, Nat.reduceBEq, reduceCtorEq, Int.reduceEq]
  refine AW.rqseq ?_
  try simp only [↓wk, ↓wl, nc, evV, wrapBits_eq, ↓reduceIte, Nat.reduceEqDiff, Nat.reduceAdd, Nat.reduceSub, Nat.reduceLeDiff, Nat.reduceLT, Nat.reduceBEq, reduceCtorEq, Int.reduceEq]
  refine evTs_pure hFnq H (fun _ h => f63_ok h) (by rfl) (by rfl) (by rfl) (by rfl) (fun _ => rfl) ?_ <;> clear H <;> intro r_41 H
  try simp only [eL, eApiParam, ↓wk, ↓wl, nc, evV, wrapBits_eq, ↓reduceIte, Nat.reduceEqDiff, Nat.reduceAdd, Nat.reduceSub, Nat.reduceLeDiff, Nat.reduceLT, Nat.reduceBEq, reduceCtorEq, Int.reduceEq]
  refine evTs_pure hFnq H (fun _ h => f63_ok h) (by rfl) (by rfl) (by rfl) (by rfl) (fun _ => rfl) ?_ <;> clear H <;> intro r_42 H
  try simp only [eL, eApiParam, ↓wk, ↓wl, nc, evV, wrapBits_eq, ↓reduceIte, Nat.reduceEqDiff, Nat.reduceAdd, Nat.reduceSub, Nat.reduceLeDiff, Nat.reduceLT, Nat.reduceBEq, reduceCtorEq, Int.reduceEq]
  refine evTs_pure hFnq H (fun _ h => f62_ok h) (by rfl) (by rfl) (by rfl) (by rfl) (fun _ => rfl) ?_ <;> clear H <;> intro r_45 H
  try simp only [eL, ↓wk, ↓wl, nc, evV, wrapBits_eq, ↓reduceIte, Nat.reduceEqDiff, Nat.reduceAdd, Nat.reduceSub, Nat.reduceLeDiff, Nat.reduceLT, Nat.reduceBEq, reduceCtorEq, Int.reduceEq]
  refine AW.ret ?_
  cases H
  exact hQ _ _ _ _ (.inr rfl) (by simp only [resVs, omap, resV, ↓wk, ↓wl, nc, evV, wrapBits_eq, ↓reduceIte, Nat.reduceEqDiff, Nat.reduceAdd, Nat.reduceSub, Nat.reduceLeDiff, Nat.reduceLT, Nat.reduceBEq, reduceCtorEq, Int.reduceEq]; rfl) (hand_plain (by rfl)) (by first | exact Or.inl rfl | exact Or.inr rfl)
noncomputable def f78_77_79_L1 (l_25 : (List ApiHue)) : Lp (Int) ((Unit) ⊕ (Int)) where
  body := fun v_53 => (if (decide (v_53 < ((l_25.length : Nat) : Int))) = true then (at? l_25 v_53).bind fun x_60 => (f77 x_60).bind fun r_62 => (if (decide (r_62 ≠ 0)) = true then (some (.brk (Sum.inr r_62))) else (if (decide (0 < v_53)) = true then (at? l_25 (IntKind.i64.wrap (v_53 - 1))).bind fun x_63 => (f79 x_63 x_60).bind fun r_64 => (if (decide (0 ≤ r_64)) = true then (some (.brk (Sum.inr 9))) else (some (.next (IntKind.i64.wrap (v_53 + 1))))) else (some (.next (IntKind.i64.wrap (v_53 + 1)))))) else (some (.brk (Sum.inl ()))))
  cst := fun v_53 => ⟨put (put (put (put (put (put (fun _ => .junk) 18 (.int .i64 v_53)) 17 (.int .i64 ((l_25.length : Nat) : Int))) 16 (.sl 3 false (l_25.map eApiHue))) 3 (.fn 79 [])) 2 (.fn 77 [])) 0 (.sl 3 false (l_25.map eApiHue)), []⟩
def c78_0 : C := .cond (.t 15) (.seq (.reg [iI 8 (.mv (.c (.int .i64 5)))]) .ret) (.skip)
def c78_1 : C := .cond (.t 27) (.seq (.reg [iI 28 (.mv (.t 11)), iI 8 (.mv (.t 28))]) .ret) (.skip)
def c78_2 : C := .seq (.reg [iI 26 (.mv (.t 11)), iI 27 (.bin .neq (.t 26) (.c (.int .i64 0)))]) c78_1
def c78_3 : C := .cond (.t 41) (.seq (.reg [iI 8 (.mv (.c (.int .i64 9)))]) .ret) (.skip)
def c78_4 : C := .seq (.reg [iI 29 (.mv (.t 9)), iI 30 (.bin .gtr (.t 29) (.c (.int .i64 0))), iI 31 (.mv (.t 30)), iG (some 32) 31 true (.mv (.t 3)), iG (some 33) 31 true (.mv (.t 0)), iG (some 34) 31 true (.mv (.t 9)), iG (some 35) 31 true (.bin .sub (.t 34) (.c (.int .i64 1))), iG (some 36) 31 true (.iaddr 3 (.t 33) (.t 35)), iG (some 37) 31 true (.load 3 (.t 36)), iG (some 38) 31 true (.load 3 (.t 10)), iG (some 39) 31 true (.call (.t 32) [(.t 37), (.t 38)]), iG (some 40) 31 true (.bin .geq (.t 39) (.c (.int .i64 0))), iI 41 (.pick (.t 31) (.t 40) (.c (.bool false)))]) c78_3
def c78_5 : C := .seq (.seq (.reg [iI 23 (.mv (.t 2)), iI 24 (.load 3 (.t 10)), iI 25 (.call (.t 23) [(.t 24)]), iI 11 (.mv (.t 25))]) c78_2) c78_4
def c78_6 : C := .reg [iI 42 (.bin .add (.t 18) (.c (.int .i64 1))), iI 18 (.mv (.t 42))]
def c78_7 : C := .seq (.block 1 (.seq (.reg [iI 20 (.mv (.t 18)), iI 21 (.iaddr 3 (.t 16) (.t 18)), iI 22 (.load 3 (.t 21)), iI 10 (.alloc [(1, (.int .i64 0)), (1, (.int .i64 0)), (1, (.int .i64 0))]), iI 9 (.mv (.t 20)), iN (.store 3 (.t 10) (.t 22))]) c78_5)) c78_6
def c78_8 : C := .seq (.cond (.t 19) (.skip) (.exit 0)) c78_7
def c78_9 : C := .block 0 (.loop (.seq (.reg [iI 19 (.bin .lss (.t 18) (.t 17))]) c78_8))
def c78_10 : C := .seq (.reg [iI 8 (.mv (.c (.int .i64 0)))]) .ret
def c78_11 : C := .seq (.seq (.reg [iI 16 (.mv (.t 0)), iI 17 (.len 0 (.t 16)), iI 18 (.mv (.c (.int .i64 0)))]) c78_9) c78_10
def c78_12 : C := .seq (.seq (.reg [iI 12 (.mv (.t 0)), iI 13 (.len 0 (.t 12)), iI 14 (.mv (.t 1)), iI 15 (.bin .gtr (.t 13) (.t 14))]) c78_0) c78_11
def ir78 : C := .seq (.reg [iI 8 (.mv (.c (.int .i64 0)))]) c78_12
theorem fd78 : fd? Try.prog 78 = some (43, [.slot 8], ir78) := by kernel_rfl
noncomputable def f78_77_79 (l_25 : (List ApiHue)) (most_26 : Int) : Option (Int) :=
  (if (decide (most_26 < ((l_25.length : Nat) : Int))) = true then (some 5) else ((Lp.run (f78_77_79_L1 l_25) 0).bind fun r_ => match r_ with | (Sum.inl _) => (some 0) | (Sum.inr v_59) => (some v_59)))
theorem f78_77_79_ok {l_25 : (List ApiHue)} {most_26 : Int} {r_ : Int} (H : f78_77_79 l_25 most_26 = some r_) : Pure Try.prog 78 [.sl 3 false (l_25.map eApiHue), .int .i64 most_26, .fn 77 [], .fn 79 []] (· = .int .i64 r_) := by
  refine Pure.walk3 fd78 none (Nat.le_of_ble_eq_true rfl) (by rfl) fun Q hQ => ?_
  simp only [f78_77_79] at H
  refine AW.rseq ?_
  try simp only [↓wk, ↓wl, nc, evV, wrapBits_eq, ↓reduceIte, Nat.reduceEqDiff, Nat.reduceAdd, Nat.reduceSub, Nat.reduceLeDiff, Nat.reduceLT, Nat.reduceBEq, reduceCtorEq, Int.reduceEq]
  refine AW.sseq ?_
  refine AW.rseq ?_
  try simp only [↓wk, ↓wl, nc, evV, wrapBits_eq, ↓reduceIte, Nat.reduceEqDiff, Nat.reduceAdd, Nat.reduceSub, Nat.reduceLeDiff, Nat.reduceLT, Nat.reduceBEq, reduceCtorEq, Int.reduceEq]
  refine AW.ifc H (by rfl) ?_ ?_ <;> clear H <;> intro H
  · refine AW.rseq ?_
    try simp only [↓wk, ↓wl, nc, evV, wrapBits_eq, ↓reduceIte, Nat.reduceEqDiff, Nat.reduceAdd, Nat.reduceSub, Nat.reduceLeDiff, Nat.reduceLT, Nat.reduceBEq, reduceCtorEq, Int.reduceEq]
    refine AW.ret ?_
    refine seqQ.ret ?_
    cases H
    exact hQ _ _ _ _ (.inr rfl) (by simp only [resVs, omap, resV, ↓wk, ↓wl, nc, evV, wrapBits_eq, ↓reduceIte, Nat.reduceEqDiff, Nat.reduceAdd, Nat.reduceSub, Nat.reduceLeDiff, Nat.reduceLT, Nat.reduceBEq, reduceCtorEq, Int.reduceEq]; rfl) (hand_plain (by rfl)) (by first | exact Or.inl rfl | exact Or.inr rfl)
  · refine AW.skip ?_
    refine seqQ.norm ?_
    refine AW.sseq ?_
    refine AW.rseq ?_
    try simp only [↓wk, ↓wl, nc, evV, wrapBits_eq, ↓reduceIte, Nat.reduceEqDiff, Nat.reduceAdd, Nat.reduceSub, Nat.reduceLeDiff, Nat.reduceLT, Nat.reduceBEq, reduceCtorEq, Int.reduceEq]
    refine AW.bend ?_
    refine AW.iter H ((Le.none [] [0, 2, 3, 16, 17, 18] (by decide) (by simp only [f78_77_79_L1, List.length_set, Option.map_some, restrict_eq, renS_nil, renS_cons, renB_els, renB_cel, renB_dead, deep_eq, map_ren_enc, ren_agg', ren_tup', ren_fn', ren_int', ren_bool', ren_str', ren_sl', ren_pro', ren_nilp', ren_nilfn', ren_junk', ren_ptr', ren_row', ren_arow', ren_eptr', vm, List.idxOf?_cons, List.idxOf?_nil, beq_self_eq_true, Option.map_none, List.getD_cons_zero, List.getD_cons_succ, ↓wk, ↓wl, nc, evV, wrapBits_eq, ↓reduceIte, Nat.reduceEqDiff, Nat.reduceAdd, Nat.reduceSub, Nat.reduceLeDiff, Nat.reduceLT, Nat.reduceBEq, reduceCtorEq, Int.reduceEq] <;> rfl))) ?_ <;> clear H
    rintro v_53 x_ st0_ H hst_
    simp only [f78_77_79_L1] at H hst_
    subst hst_
    refine AW.rseq ?_
    try simp only [↓wk, ↓wl, nc, evV, wrapBits_eq, ↓reduceIte, Nat.reduceEqDiff, Nat.reduceAdd, Nat.reduceSub, Nat.reduceLeDiff, Nat.reduceLT, Nat.reduceBEq, reduceCtorEq, Int.reduceEq]
    refine AW.sseq ?_
    refine AW.ifc H (by rfl) ?_ ?_ <;> clear H <;> intro H
    · refine AW.skip ?_
      refine seqQ.norm ?_
      refine AW.bseq ?_
      refine AW.rseq ?_
      try simp only [↓wk, ↓wl, nc, evV, wrapBits_eq, ↓reduceIte, Nat.reduceEqDiff, Nat.reduceAdd, Nat.reduceSub, Nat.reduceLeDiff, Nat.reduceLT, Nat.reduceBEq, reduceCtorEq, Int.reduceEq]
      refine evTs_at (enc := eApiHue) H (by rfl) (by rfl) ?_ <;> clear H <;> intro x_60 H
      try simp only [eApiHue, eL, ↓wk, ↓wl, nc, evV, wrapBits_eq, ↓reduceIte, Nat.reduceEqDiff, Nat.reduceAdd, Nat.reduceSub, Nat.reduceLeDiff, Nat.reduceLT, Nat.reduceBEq, reduceCtorEq, Int.reduceEq]
      refine AW.sseq ?_
      refine AW.rseq ?_
      try simp only [↓wk, ↓wl, nc, evV, wrapBits_eq, ↓reduceIte, Nat.reduceEqDiff, Nat.reduceAdd, Nat.reduceSub, Nat.reduceLeDiff, Nat.reduceLT, Nat.reduceBEq, reduceCtorEq, Int.reduceEq]
      refine evTs_pure hFn H (fun _ h => f77_ok h) (by rfl) (by rfl) (by rfl) (by rfl) (fun _ => rfl) ?_ <;> clear H <;> intro r_62 H
      try simp only [eL, ↓wk, ↓wl, nc, evV, wrapBits_eq, ↓reduceIte, Nat.reduceEqDiff, Nat.reduceAdd, Nat.reduceSub, Nat.reduceLeDiff, Nat.reduceLT, Nat.reduceBEq, reduceCtorEq, Int.reduceEq]
      refine AW.rseq ?_
      try simp only [↓wk, ↓wl, nc, evV, wrapBits_eq, ↓reduceIte, Nat.reduceEqDiff, Nat.reduceAdd, Nat.reduceSub, Nat.reduceLeDiff, Nat.reduceLT, Nat.reduceBEq, reduceCtorEq, Int.reduceEq]
      refine AW.ifc H (by rfl) ?_ ?_ <;> clear H <;> intro H
      · refine AW.rseq ?_
        try simp only [↓wk, ↓wl, nc, evV, wrapBits_eq, ↓reduceIte, Nat.reduceEqDiff, Nat.reduceAdd, Nat.reduceSub, Nat.reduceLeDiff, Nat.reduceLT, Nat.reduceBEq, reduceCtorEq, Int.reduceEq]
        refine AW.ret ?_
        refine seqQ.ret ?_
        refine blkQ.ret ?_
        refine loopQ.ret H ?_ <;> clear H <;> intro H
        try dsimp only at H
        refine blk0.ret ?_
        refine seqQ.ret ?_
        cases H
        exact hQ _ _ _ _ (.inr rfl) (by simp only [resVs, omap, resV, ↓wk, ↓wl, nc, evV, wrapBits_eq, ↓reduceIte, Nat.reduceEqDiff, Nat.reduceAdd, Nat.reduceSub, Nat.reduceLeDiff, Nat.reduceLT, Nat.reduceBEq, reduceCtorEq, Int.reduceEq]; rfl) (hand_plain (by rfl)) (by first | exact Or.inl rfl | exact Or.inr rfl)
      · refine AW.skip ?_
        refine seqQ.norm ?_
        refine AW.rseq ?_
        try simp only [↓wk, ↓wl, nc, evV, wrapBits_eq, ↓reduceIte, Nat.reduceEqDiff, Nat.reduceAdd, Nat.reduceSub, Nat.reduceLeDiff, Nat.reduceLT, Nat.reduceBEq, reduceCtorEq, Int.reduceEq]
        refine evTs_ifg H (by rfl) ?_ ?_ <;> clear H <;> intro H
        · try simp only [↓wk, ↓wl, nc, evV, wrapBits_eq, ↓reduceIte, Nat.reduceEqDiff, Nat.reduceAdd, Nat.reduceSub, Nat.reduceLeDiff, Nat.reduceLT, Nat.reduceBEq, reduceCtorEq, Int.reduceEq]
          refine evTs_at (enc := eApiHue) H (by rfl) (by rfl) ?_ <;> clear H <;> intro x_63 H
          try simp only [eApiHue, eL, ↓wk, ↓wl, nc, evV, wrapBits_eq, ↓reduceIte, Nat.reduceEqDiff, Nat.reduceAdd, Nat.reduceSub, Nat.reduceLeDiff, Nat.reduceLT, Nat.reduceBEq, reduceCtorEq, Int.reduceEq]
          refine evTs_pure hFn H (fun _ h => f79_ok h) (by rfl) (by rfl) (by rfl) (by rfl) (fun _ => rfl) ?_ <;> clear H <;> intro r_64 H
          try simp only [eL, ↓wk, ↓wl, nc, evV, wrapBits_eq, ↓reduceIte, Nat.reduceEqDiff, Nat.reduceAdd, Nat.reduceSub, Nat.reduceLeDiff, Nat.reduceLT, Nat.reduceBEq, reduceCtorEq, Int.reduceEq]
          refine AW.ifc H (by rfl) ?_ ?_ <;> clear H <;> intro H
          · refine AW.rseq ?_
            try simp only [↓wk, ↓wl, nc, evV, wrapBits_eq, ↓reduceIte, Nat.reduceEqDiff, Nat.reduceAdd, Nat.reduceSub, Nat.reduceLeDiff, Nat.reduceLT, Nat.reduceBEq, reduceCtorEq, Int.reduceEq]
            refine AW.ret ?_
            refine blkQ.ret ?_
            refine loopQ.ret H ?_ <;> clear H <;> intro H
            try dsimp only at H
            refine blk0.ret ?_
            refine seqQ.ret ?_
            cases H
            exact hQ _ _ _ _ (.inr rfl) (by simp only [resVs, omap, resV, ↓wk, ↓wl, nc, evV, wrapBits_eq, ↓reduceIte, Nat.reduceEqDiff, Nat.reduceAdd, Nat.reduceSub, Nat.reduceLeDiff, Nat.reduceLT, Nat.reduceBEq, reduceCtorEq, Int.reduceEq]; rfl) (hand_plain (by rfl)) (by first | exact Or.inl rfl | exact Or.inr rfl)
          · refine AW.skip ?_
            refine blkQ.norm ?_
            refine AW.rend ?_
            try simp only [↓wk, ↓wl, nc, evV, wrapBits_eq, ↓reduceIte, Nat.reduceEqDiff, Nat.reduceAdd, Nat.reduceSub, Nat.reduceLeDiff, Nat.reduceLT, Nat.reduceBEq, reduceCtorEq, Int.reduceEq]
            exact loopQ.next H ((Le.none [] [0, 2, 3, 16, 17, 18] (by decide) (by simp only [f78_77_79_L1, List.length_set, Option.map_some, restrict_eq, renS_nil, renS_cons, renB_els, renB_cel, renB_dead, deep_eq, map_ren_enc, ren_agg', ren_tup', ren_fn', ren_int', ren_bool', ren_str', ren_sl', ren_pro', ren_nilp', ren_nilfn', ren_junk', ren_ptr', ren_row', ren_arow', ren_eptr', vm, List.idxOf?_cons, List.idxOf?_nil, beq_self_eq_true, Option.map_none, List.getD_cons_zero, List.getD_cons_succ, ↓wk, ↓wl, nc, evV, wrapBits_eq, ↓reduceIte, Nat.reduceEqDiff, Nat.reduceAdd, Nat.reduceSub, Nat.reduceLeDiff, Nat.reduceLT, Nat.reduceBEq, reduceCtorEq, Int.reduceEq] <;> rfl)))
        · try simp only [↓wk, ↓wl, nc, evV, wrapBits_eq, ↓reduceIte, Nat.reduceEqDiff, Nat.reduceAdd, Nat.reduceSub, Nat.reduceLeDiff, Nat.reduceLT, Nat.reduceBEq, reduceCtorEq, Int.reduceEq]
          refine AW.iff (by rfl) ?_
          refine AW.skip ?_
          refine blkQ.norm ?_
          refine AW.rend ?_
          try simp only [↓wk, ↓wl, nc, evV, wrapBits_eq, ↓reduceIte, Nat.reduceEqDiff, Nat.reduceAdd, Nat.reduceSub, Nat.reduceLeDiff, Nat.reduceLT, Nat.reduceBEq, reduceCtorEq, Int.reduceEq]
          exact loopQ.next H ((Le.none [] [0, 2, 3, 16, 17, 18] (by decide) (by simp only [f78_77_79_L1, List.length_set, Option.map_some, restrict_eq, renS_nil, renS_cons, renB_els, renB_cel, renB_dead, deep_eq, map_ren_enc, ren_agg', ren_tup', ren_fn', ren_int', ren_bool', ren_str', ren_sl', ren_pro', ren_nilp', ren_nilfn', ren_junk', ren_ptr', ren_row', ren_arow', ren_eptr', vm, List.idxOf?_cons, List.idxOf?_nil, beq_self_eq_true, Option.map_none, List.getD_cons_zero, List.getD_cons_succ, ↓wk, ↓wl, nc, evV, wrapBits_eq, ↓reduceIte, Nat.reduceEqDiff, Nat.reduceAdd, Nat.reduceSub, Nat.reduceLeDiff, Nat.reduceLT, Nat.reduceBEq, reduceCtorEq, Int.reduceEq] <;> rfl)))
    · refine AW.exit ?_
      refine seqQ.exit ?_
      refine loopQ.exit H ?_ <;> clear H <;> intro H
      try dsimp only at H
      refine blk0.here ?_
      refine seqQ.norm ?_
      refine AW.rseq ?_
      try simp only [↓wk, ↓wl, nc, evV, wrapBits_eq, ↓reduceIte, Nat.reduceEqDiff, Nat.reduceAdd, Nat.reduceSub, Nat.reduceLeDiff, Nat.reduceLT, Nat.reduceBEq, reduceCtorEq, Int.reduceEq]
      refine AW.ret ?_
      cases H
      exact hQ _ _ _ _ (.inr rfl) (by simp only [resVs, omap, resV, ↓wk, ↓wl, nc, evV, wrapBits_eq, ↓reduceIte, Nat.reduceEqDiff, Nat.reduceAdd, Nat.reduceSub, Nat.reduceLeDiff, Nat.reduceLT, Nat.reduceBEq, reduceCtorEq, Int.reduceEq]; rfl) (hand_plain (by rfl)) (by first | exact Or.inl rfl | exact Or.inr rfl)
def c59_0 : C := .seq (.reg [iI 4 (.mv (.t 0)), iI 5 (.mv (.t 3)), iI 6 (.call (.c (.fn 78 [])) [(.t 4), (.c (.int .i64 256)), (.t 5), (.c (.fn 79 []))]), iI 2 (.mv (.t 6))]) .ret
def c59_1 : C := .seq (.reg [iI 3 (.mv (.c (.fn 77 [])))]) c59_0
def ir59 : C := .seq (.reg [iI 2 (.mv (.c (.int .i64 0)))]) c59_1
theorem fd59 : fd? Try.prog 59 = some (7, [.slot 2], ir59) := by kernel_rfl
noncomputable def f59 (l_24 : (List ApiHue)) : Option (Int) :=
  (f78_77_79 l_24 256).bind fun r_65 => (some r_65)
theorem f59_ok {l_24 : (List ApiHue)} {r_ : Int} (H : f59 l_24 = some r_) : Pure Try.prog 59 [.sl 3 false (l_24.map eApiHue)] (· = .int .i64 r_) := by
  refine Pure.walk3 fd59 none (Nat.le_of_ble_eq_true rfl) (by rfl) fun Q hQ => ?_
  simp only [f59] at H
  refine AW.rseq ?_
  try simp only [↓wk, ↓wl, nc, evV, wrapBits_eq, ↓reduceIte, Nat.reduceEqDiff, Nat.reduceAdd, Nat.reduceSub, Nat.reduceLeDiff, Nat.reduceLT, Nat.reduceBEq, reduceCtorEq, Int.reduceEq]
  refine AW.rseq ?_
  try simp only [↓wk, ↓wl, nc, evV, wrapBits_eq, ↓reduceIte, Nat.reduceEqDiff, Nat.reduceAdd, Nat.reduceSub, Nat.reduceLeDiff, Nat.reduceLT, Nat.reduceBEq, reduceCtorEq, Int.reduceEq]
  refine AW.rseq ?_
  try simp only [↓wk, ↓wl, nc, evV, wrapBits_eq, ↓reduceIte, Nat.reduceEqDiff, Nat.reduceAdd, Nat.reduceSub, Nat.reduceLeDiff, Nat.reduceLT, Nat.reduceBEq, reduceCtorEq, Int.reduceEq]
  refine evTs_pure hFn H (fun _ h => f78_77_79_ok h) (by rfl) (by rfl) (by rfl) (by rfl) (fun _ => rfl) ?_ <;> clear H <;> intro r_65 H
  try simp only [eL, ↓wk, ↓wl, nc, evV, wrapBits_eq, ↓reduceIte, Nat.reduceEqDiff, Nat.reduceAdd, Nat.reduceSub, Nat.reduceLeDiff, Nat.reduceLT, Nat.reduceBEq, reduceCtorEq, Int.reduceEq]
  refine AW.ret ?_
  cases H
  exact hQ _ _ _ _ (.inr rfl) (by simp only [resVs, omap, resV, ↓wk, ↓wl, nc, evV, wrapBits_eq, ↓reduceIte, Nat.reduceEqDiff, Nat.reduceAdd, Nat.reduceSub, Nat.reduceLeDiff, Nat.reduceLT, Nat.reduceBEq, reduceCtorEq, Int.reduceEq]; rfl) (hand_plain (by rfl)) (by first | exact Or.inl rfl | exact Or.inr rfl)
noncomputable def f32_L1 (l_21 : (List ApiPalette)) : Lp (Int) ((Unit) ⊕ (Int)) where
  body := fun v_73 => (if (decide (v_73 < ((l_21.length : Nat) : Int))) = true then (at? l_21 v_73).bind fun x_79 => (if (decide (x_79.fNumber < 1)) = true then (some (.brk (Sum.inr 2))) else (if (decide (1048576 < x_79.fNumber)) = true then (some (.brk (Sum.inr 2))) else (if (decide (0 < v_73)) = true then (at? l_21 (IntKind.i64.wrap (v_73 - 1))).bind fun x_80 => (if (decide (x_79.fNumber ≤ x_80.fNumber)) = true then (some (.brk (Sum.inr 9))) else (f59 x_79.fHues).bind fun r_81 => (if (decide (r_81 ≠ 0)) = true then (some (.brk (Sum.inr r_81))) else (some (.next (IntKind.i64.wrap (v_73 + 1)))))) else (f59 x_79.fHues).bind fun r_82 => (if (decide (r_82 ≠ 0)) = true then (some (.brk (Sum.inr r_82))) else (some (.next (IntKind.i64.wrap (v_73 + 1)))))))) else (some (.brk (Sum.inl ()))))
  cst := fun v_73 => ⟨put (put (put (put (fun _ => .junk) 11 (.int .i64 v_73)) 10 (.int .i64 ((l_21.length : Nat) : Int))) 9 (.sl 2 false (l_21.map eApiPalette))) 0 (.sl 2 false (l_21.map eApiPalette)), []⟩
def c32_0 : C := .cond (.t 8) (.seq (.reg [iI 2 (.mv (.c (.int .i64 5)))]) .ret) (.skip)
def c32_1 : C := .cond (.t 25) (.seq (.reg [iI 2 (.mv (.c (.int .i64 9)))]) .ret) (.skip)
def c32_2 : C := .cond (.t 16) (.seq (.reg [iI 2 (.mv (.c (.int .i64 2)))]) .ret) (.seq (.reg [iI 26 (.mv (.t 3)), iI 27 (.bin .gtr (.t 26) (.c (.int .i64 0))), iI 28 (.mv (.t 27)), iG (some 29) 28 true (.faddr 0 (.t 4)), iG (some 30) 28 true (.load 0 (.t 29)), iG (some 31) 28 true (.mv (.t 0)), iG (some 32) 28 true (.mv (.t 3)), iG (some 33) 28 true (.bin .sub (.t 32) (.c (.int .i64 1))), iG (some 34) 28 true (.iaddr 2 (.t 31) (.t 33)), iG (some 35) 28 true (.faddr 0 (.t 34)), iG (some 36) 28 true (.load 0 (.t 35)), iG (some 37) 28 true (.bin .leq (.t 30) (.t 36)), iI 38 (.pick (.t 28) (.t 37) (.c (.bool false))), iI 25 (.mv (.t 38))]) c32_1)
def c32_3 : C := .cond (.t 43) (.seq (.reg [iI 44 (.mv (.t 5)), iI 2 (.mv (.t 44))]) .ret) (.skip)
def c32_4 : C := .seq (.reg [iI 42 (.mv (.t 5)), iI 43 (.bin .neq (.t 42) (.c (.int .i64 0)))]) c32_3
def c32_5 : C := .seq (.reg [iI 39 (.faddr 1 (.t 4)), iI 40 (.load 0 (.t 39)), iI 41 (.call (.c (.fn 59 [])) [(.t 40)]), iI 5 (.mv (.t 41))]) c32_4
def c32_6 : C := .seq (.block 2 (.seq (.reg [iI 17 (.faddr 0 (.t 4)), iI 18 (.load 0 (.t 17)), iI 19 (.bin .lss (.t 18) (.c (.int .i64 1))), iI 20 (.mv (.t 19)), iG (some 21) 20 false (.faddr 0 (.t 4)), iG (some 22) 20 false (.load 0 (.t 21)), iG (some 23) 20 false (.bin .gtr (.t 22) (.c (.int .i64 1048576))), iI 24 (.pick (.t 20) (.c (.bool true)) (.t 23)), iI 16 (.mv (.t 24))]) c32_2)) c32_5
def c32_7 : C := .reg [iI 45 (.bin .add (.t 11) (.c (.int .i64 1))), iI 11 (.mv (.t 45))]
def c32_8 : C := .seq (.block 1 (.seq (.reg [iI 13 (.mv (.t 11)), iI 14 (.iaddr 2 (.t 9) (.t 11)), iI 15 (.load 2 (.t 14)), iI 4 (.alloc [(1, (.int .i64 0)), (1, (.sl 3 true []))]), iI 3 (.mv (.t 13)), iN (.store 2 (.t 4) (.t 15))]) c32_6)) c32_7
def c32_9 : C := .seq (.cond (.t 12) (.skip) (.exit 0)) c32_8
def c32_10 : C := .block 0 (.loop (.seq (.reg [iI 12 (.bin .lss (.t 11) (.t 10))]) c32_9))
def c32_11 : C := .seq (.reg [iI 2 (.mv (.c (.int .i64 0)))]) .ret
def c32_12 : C := .seq (.seq (.reg [iI 9 (.mv (.t 0)), iI 10 (.len 0 (.t 9)), iI 11 (.mv (.c (.int .i64 0)))]) c32_10) c32_11
def c32_13 : C := .seq (.seq (.reg [iI 6 (.mv (.t 0)), iI 7 (.len 0 (.t 6)), iI 8 (.bin .gtr (.t 7) (.c (.int .i64 32)))]) c32_0) c32_12
def ir32 : C := .seq (.reg [iI 2 (.mv (.c (.int .i64 0)))]) c32_13
theorem fd32 : fd? Try.prog 32 = some (46, [.slot 2], ir32) := by kernel_rfl
noncomputable def f32 (l_21 : (List ApiPalette)) : Option (Int) :=
  (if (decide (32 < ((l_21.length : Nat) : Int))) = true then (some 5) else ((Lp.run (f32_L1 l_21) 0).bind fun r_ => match r_ with | (Sum.inl _) => (some 0) | (Sum.inr v_78) => (some v_78)))
theorem f32_ok {l_21 : (List ApiPalette)} {r_ : Int} (H : f32 l_21 = some r_) : Pure Try.prog 32 [.sl 2 false (l_21.map eApiPalette)] (· = .int .i64 r_) := by
  refine Pure.walk3 fd32 none (Nat.le_of_ble_eq_true rfl) (by rfl) fun Q hQ => ?_
  simp only [f32] at H
  refine AW.rseq ?_
  try simp only [↓wk, ↓wl, nc, evV, wrapBits_eq, ↓reduceIte, Nat.reduceEqDiff, Nat.reduceAdd, Nat.reduceSub, Nat.reduceLeDiff, Nat.reduceLT, Nat.reduceBEq, reduceCtorEq, Int.reduceEq]
  refine AW.sseq ?_
  refine AW.rseq ?_
  try simp only [↓wk, ↓wl, nc, evV, wrapBits_eq, ↓reduceIte, Nat.reduceEqDiff, Nat.reduceAdd, Nat.reduceSub, Nat.reduceLeDiff, Nat.reduceLT, Nat.reduceBEq, reduceCtorEq, Int.reduceEq]
  refine AW.ifc H (by rfl) ?_ ?_ <;> clear H <;> intro H
  · refine AW.rseq ?_
    try simp only [↓wk, ↓wl, nc, evV, wrapBits_eq, ↓reduceIte, Nat.reduceEqDiff, Nat.reduceAdd, Nat.reduceSub, Nat.reduceLeDiff, Nat.reduceLT, Nat.reduceBEq, reduceCtorEq, Int.reduceEq]
    refine AW.ret ?_
    refine seqQ.ret ?_
    cases H
    exact hQ _ _ _ _ (.inr rfl) (by simp only [resVs, omap, resV, ↓wk, ↓wl, nc, evV, wrapBits_eq, ↓reduceIte, Nat.reduceEqDiff, Nat.reduceAdd, Nat.reduceSub, Nat.reduceLeDiff, Nat.reduceLT, Nat.reduceBEq, reduceCtorEq, Int.reduceEq]; rfl) (hand_plain (by rfl)) (by first | exact Or.inl rfl | exact Or.inr rfl)
  · refine AW.skip ?_
    refine seqQ.norm ?_
    refine AW.sseq ?_
    refine AW.rseq ?_
    try simp only [↓wk, ↓wl, nc, evV, wrapBits_eq, ↓reduceIte, Nat.reduceEqDiff, Nat.reduceAdd, Nat.reduceSub, Nat.reduceLeDiff, Nat.reduceLT, Nat.reduceBEq, reduceCtorEq, Int.reduceEq]
    refine AW.bend ?_
    refine AW.iter H ((Le.none [] [0, 9, 10, 11] (by decide) (by simp only [f32_L1, List.length_set, Option.map_some, restrict_eq, renS_nil, renS_cons, renB_els, renB_cel, renB_dead, deep_eq, map_ren_enc, ren_agg', ren_tup', ren_fn', ren_int', ren_bool', ren_str', ren_sl', ren_pro', ren_nilp', ren_nilfn', ren_junk', ren_ptr', ren_row', ren_arow', ren_eptr', vm, List.idxOf?_cons, List.idxOf?_nil, beq_self_eq_true, Option.map_none, List.getD_cons_zero, List.getD_cons_succ, ↓wk, ↓wl, nc, evV, wrapBits_eq, ↓reduceIte, Nat.reduceEqDiff, Nat.reduceAdd, Nat.reduceSub, Nat.reduceLeDiff, Nat.reduceLT, Nat.reduceBEq, reduceCtorEq, Int.reduceEq] <;> rfl))) ?_ <;> clear H
    rintro v_73 x_ st0_ H hst_
    simp only [f32_L1] at H hst_
    subst hst_
    refine AW.rseq ?_
    try simp only [↓wk, ↓wl, nc, evV, wrapBits_eq, ↓reduceIte, Nat.reduceEqDiff, Nat.reduceAdd, Nat.reduceSub, Nat.reduceLeDiff, Nat.reduceLT, Nat.reduceBEq, reduceCtorEq, Int.reduceEq]
    refine AW.sseq ?_
    refine AW.ifc H (by rfl) ?_ ?_ <;> clear H <;> intro H
    · refine AW.skip ?_
      refine seqQ.norm ?_
      refine AW.bseq ?_
      refine AW.rseq ?_
      try simp only [↓wk, ↓wl, nc, evV, wrapBits_eq, ↓reduceIte, Nat.reduceEqDiff, Nat.reduceAdd, Nat.reduceSub, Nat.reduceLeDiff, Nat.reduceLT, Nat.reduceBEq, reduceCtorEq, Int.reduceEq]
      refine evTs_at (enc := eApiPalette) H (by rfl) (by rfl) ?_ <;> clear H <;> intro x_79 H
      try simp only [eApiPalette, eL, ↓wk, ↓wl, nc, evV, wrapBits_eq, ↓reduceIte, Nat.reduceEqDiff, Nat.reduceAdd, Nat.reduceSub, Nat.reduceLeDiff, Nat.reduceLT, Nat.reduceBEq, reduceCtorEq, Int.reduceEq]
      refine AW.bseq ?_
      refine AW.rseq ?_
      try simp only [↓wk, ↓wl, nc, evV, wrapBits_eq, ↓reduceIte, Nat.reduceEqDiff, Nat.reduceAdd, Nat.reduceSub, Nat.reduceLeDiff, Nat.reduceLT, Nat.reduceBEq, reduceCtorEq, Int.reduceEq]
      refine evTs_ifg H (by rfl) ?_ ?_ <;> clear H <;> intro H
      · try simp only [↓wk, ↓wl, nc, evV, wrapBits_eq, ↓reduceIte, Nat.reduceEqDiff, Nat.reduceAdd, Nat.reduceSub, Nat.reduceLeDiff, Nat.reduceLT, Nat.reduceBEq, reduceCtorEq, Int.reduceEq]
        refine AW.ift (by rfl) ?_
        refine AW.rseq ?_
        try simp only [↓wk, ↓wl, nc, evV, wrapBits_eq, ↓reduceIte, Nat.reduceEqDiff, Nat.reduceAdd, Nat.reduceSub, Nat.reduceLeDiff, Nat.reduceLT, Nat.reduceBEq, reduceCtorEq, Int.reduceEq]
        refine AW.ret ?_
        refine blkQ.ret ?_
        refine blkQ.ret ?_
        refine loopQ.ret H ?_ <;> clear H <;> intro H
        try dsimp only at H
        refine blk0.ret ?_
        refine seqQ.ret ?_
        cases H
        exact hQ _ _ _ _ (.inr rfl) (by simp only [resVs, omap, resV, ↓wk, ↓wl, nc, evV, wrapBits_eq, ↓reduceIte, Nat.reduceEqDiff, Nat.reduceAdd, Nat.reduceSub, Nat.reduceLeDiff, Nat.reduceLT, Nat.reduceBEq, reduceCtorEq, Int.reduceEq]; rfl) (hand_plain (by rfl)) (by first | exact Or.inl rfl | exact Or.inr rfl)
      · try simp only [↓wk, ↓wl, nc, evV, wrapBits_eq, ↓reduceIte, Nat.reduceEqDiff, Nat.reduceAdd, Nat.reduceSub, Nat.reduceLeDiff, Nat.reduceLT, Nat.reduceBEq, reduceCtorEq, Int.reduceEq]
        refine AW.ifc H (by rfl) ?_ ?_ <;> clear H <;> intro H
        · refine AW.rseq ?_
          try simp only [↓wk, ↓wl, nc, evV, wrapBits_eq, ↓reduceIte, Nat.reduceEqDiff, Nat.reduceAdd, Nat.reduceSub, Nat.reduceLeDiff, Nat.reduceLT, Nat.reduceBEq, reduceCtorEq, Int.reduceEq]
          refine AW.ret ?_
          refine blkQ.ret ?_
          refine blkQ.ret ?_
          refine loopQ.ret H ?_ <;> clear H <;> intro H
          try dsimp only at H
          refine blk0.ret ?_
          refine seqQ.ret ?_
          cases H
          exact hQ _ _ _ _ (.inr rfl) (by simp only [resVs, omap, resV, ↓wk, ↓wl, nc, evV, wrapBits_eq, ↓reduceIte, Nat.reduceEqDiff, Nat.reduceAdd, Nat.reduceSub, Nat.reduceLeDiff, Nat.reduceLT, Nat.reduceBEq, reduceCtorEq, Int.reduceEq]; rfl) (hand_plain (by rfl)) (by first | exact Or.inl rfl | exact Or.inr rfl)
        · refine AW.rseq ?_
          try simp only [↓wk, ↓wl, nc, evV, wrapBits_eq, ↓reduceIte, Nat.reduceEqDiff, Nat.reduceAdd, Nat.reduceSub, Nat.reduceLeDiff, Nat.reduceLT, Nat.reduceBEq, reduceCtorEq, Int.reduceEq]
          refine evTs_ifg H (by rfl) ?_ ?_ <;> clear H <;> intro H
          · try simp only [↓wk, ↓wl, nc, evV, wrapBits_eq, ↓reduceIte, Nat.reduceEqDiff, Nat.reduceAdd, Nat.reduceSub, Nat.reduceLeDiff, Nat.reduceLT, Nat.reduceBEq, reduceCtorEq, Int.reduceEq]
            refine evTs_at (enc := eApiPalette) H (by rfl) (by rfl) ?_ <;> clear H <;> intro x_80 H
            try simp only [eApiPalette, eL, ↓wk, ↓wl, nc, evV, wrapBits_eq, ↓reduceIte, Nat.reduceEqDiff, Nat.reduceAdd, Nat.reduceSub, Nat.reduceLeDiff, Nat.reduceLT, Nat.reduceBEq, reduceCtorEq, Int.reduceEq]
            refine AW.ifc H (by rfl) ?_ ?_ <;> clear H <;> intro H
            · refine AW.rseq ?_
              try simp only [↓wk, ↓wl, nc, evV, wrapBits_eq, ↓reduceIte, Nat.reduceEqDiff, Nat.reduceAdd, Nat.reduceSub, Nat.reduceLeDiff, Nat.reduceLT, Nat.reduceBEq, reduceCtorEq, Int.reduceEq]
              refine AW.ret ?_
              refine blkQ.ret ?_
              refine blkQ.ret ?_
              refine loopQ.ret H ?_ <;> clear H <;> intro H
              try dsimp only at H
              refine blk0.ret ?_
              refine seqQ.ret ?_
              cases H
              exact hQ _ _ _ _ (.inr rfl) (by simp only [resVs, omap, resV, ↓wk, ↓wl, nc, evV, wrapBits_eq, ↓reduceIte, Nat.reduceEqDiff, Nat.reduceAdd, Nat.reduceSub, Nat.reduceLeDiff, Nat.reduceLT, Nat.reduceBEq, reduceCtorEq, Int.reduceEq]; rfl) (hand_plain (by rfl)) (by first | exact Or.inl rfl | exact Or.inr rfl)
            · refine AW.skip ?_
              refine blkQ.norm ?_
              refine AW.rseq ?_
              try simp only [↓wk, ↓wl, nc, evV, wrapBits_eq, ↓reduceIte, Nat.reduceEqDiff, Nat.reduceAdd, Nat.reduceSub, Nat.reduceLeDiff, Nat.reduceLT, Nat.reduceBEq, reduceCtorEq, Int.reduceEq]
              refine evTs_pure hFn H (fun _ h => f59_ok h) (by rfl) (by rfl) (by rfl) (by rfl) (fun _ => rfl) ?_ <;> clear H <;> intro r_81 H
              try simp only [eL, ↓wk, ↓wl, nc, evV, wrapBits_eq, ↓reduceIte, Nat.reduceEqDiff, Nat.reduceAdd, Nat.reduceSub, Nat.reduceLeDiff, Nat.reduceLT, Nat.reduceBEq, reduceCtorEq, Int.reduceEq]
              refine AW.rseq ?_
              try simp only [↓wk, ↓wl, nc, evV, wrapBits_eq, ↓reduceIte, Nat.reduceEqDiff, Nat.reduceAdd, Nat.reduceSub, Nat.reduceLeDiff, Nat.reduceLT, Nat.reduceBEq, reduceCtorEq, Int.reduceEq]
              refine AW.ifc H (by rfl) ?_ ?_ <;> clear H <;> intro H
              · refine AW.rseq ?_
                try simp only [↓wk, ↓wl, nc, evV, wrapBits_eq, ↓reduceIte, Nat.reduceEqDiff, Nat.reduceAdd, Nat.reduceSub, Nat.reduceLeDiff, Nat.reduceLT, Nat.reduceBEq, reduceCtorEq, Int.reduceEq]
                refine AW.ret ?_
                refine blkQ.ret ?_
                refine loopQ.ret H ?_ <;> clear H <;> intro H
                try dsimp only at H
                refine blk0.ret ?_
                refine seqQ.ret ?_
                cases H
                exact hQ _ _ _ _ (.inr rfl) (by simp only [resVs, omap, resV, ↓wk, ↓wl, nc, evV, wrapBits_eq, ↓reduceIte, Nat.reduceEqDiff, Nat.reduceAdd, Nat.reduceSub, Nat.reduceLeDiff, Nat.reduceLT, Nat.reduceBEq, reduceCtorEq, Int.reduceEq]; rfl) (hand_plain (by rfl)) (by first | exact Or.inl rfl | exact Or.inr rfl)
              · refine AW.skip ?_
                refine blkQ.norm ?_
                refine AW.rend ?_
                try simp only [↓wk, ↓wl, nc, evV, wrapBits_eq, ↓reduceIte, Nat.reduceEqDiff, Nat.reduceAdd, Nat.reduceSub, Nat.reduceLeDiff, Nat.reduceLT, Nat.reduceBEq, reduceCtorEq, Int.reduceEq]
                exact loopQ.next H ((Le.none [] [0, 9, 10, 11] (by decide) (by simp only [f32_L1, List.length_set, Option.map_some, restrict_eq, renS_nil, renS_cons, renB_els, renB_cel, renB_dead, deep_eq, map_ren_enc, ren_agg', ren_tup', ren_fn', ren_int', ren_bool', ren_str', ren_sl', ren_pro', ren_nilp', ren_nilfn', ren_junk', ren_ptr', ren_row', ren_arow', ren_eptr', vm, List.idxOf?_cons, List.idxOf?_nil, beq_self_eq_true, Option.map_none, List.getD_cons_zero, List.getD_cons_succ, ↓wk, ↓wl, nc, evV, wrapBits_eq, ↓reduceIte, Nat.reduceEqDiff, Nat.reduceAdd, Nat.reduceSub, Nat.reduceLeDiff, Nat.reduceLT, Nat.reduceBEq, reduceCtorEq, Int.reduceEq] <;> rfl)))
          · try simp only [↓wk, ↓wl, nc, evV, wrapBits_eq, ↓reduceIte, Nat.reduceEqDiff, Nat.reduceAdd, Nat.reduceSub, Nat.reduceLeDiff, Nat.reduceLT, Nat.reduceBEq, reduceCtorEq, Int.reduceEq]
            refine AW.iff (by rfl) ?_
            refine AW.skip ?_
            refine blkQ.norm ?_
            refine AW.rseq ?_
            try simp only [↓wk, ↓wl, nc, evV, wrapBits_eq, ↓reduceIte, Nat.reduceEqDiff, Nat.reduceAdd, Nat.reduceSub, Nat.reduceLeDiff, Nat.reduceLT, Nat.reduceBEq, reduceCtorEq, Int.reduceEq]
            refine evTs_pure hFn H (fun _ h => f59_ok h) (by rfl) (by rfl) (by rfl) (by rfl) (fun _ => rfl) ?_ <;> clear H <;> intro r_82 H
            try simp only [eL, ↓wk, ↓wl, nc, evV, wrapBits_eq, ↓reduceIte, Nat.reduceEqDiff, Nat.reduceAdd, Nat.reduceSub, Nat.reduceLeDiff, Nat.reduceLT, Nat.reduceBEq, reduceCtorEq, Int.reduceEq]
            refine AW.rseq ?_
            try simp only [↓wk, ↓wl, nc, evV, wrapBits_eq, ↓reduceIte, Nat.reduceEqDiff, Nat.reduceAdd, Nat.reduceSub, Nat.reduceLeDiff, Nat.reduceLT, Nat.reduceBEq, reduceCtorEq, Int.reduceEq]
            refine AW.ifc H (by rfl) ?_ ?_ <;> clear H <;> intro H
            · refine AW.rseq ?_
              try simp only [↓wk, ↓wl, nc, evV, wrapBits_eq, ↓reduceIte, Nat.reduceEqDiff, Nat.reduceAdd, Nat.reduceSub, Nat.reduceLeDiff, Nat.reduceLT, Nat.reduceBEq, reduceCtorEq, Int.reduceEq]
              refine AW.ret ?_
              refine blkQ.ret ?_
              refine loopQ.ret H ?_ <;> clear H <;> intro H
              try dsimp only at H
              refine blk0.ret ?_
              refine seqQ.ret ?_
              cases H
              exact hQ _ _ _ _ (.inr rfl) (by simp only [resVs, omap, resV, ↓wk, ↓wl, nc, evV, wrapBits_eq, ↓reduceIte, Nat.reduceEqDiff, Nat.reduceAdd, Nat.reduceSub, Nat.reduceLeDiff, Nat.reduceLT, Nat.reduceBEq, reduceCtorEq, Int.reduceEq]; rfl) (hand_plain (by rfl)) (by first | exact Or.inl rfl | exact Or.inr rfl)
            · refine AW.skip ?_
              refine blkQ.norm ?_
              refine AW.rend ?_
              try simp only [↓wk, ↓wl, nc, evV, wrapBits_eq, ↓reduceIte, Nat.reduceEqDiff, Nat.reduceAdd, Nat.reduceSub, Nat.reduceLeDiff, Nat.reduceLT, Nat.reduceBEq, reduceCtorEq, Int.reduceEq]
              exact loopQ.next H ((Le.none [] [0, 9, 10, 11] (by decide) (by simp only [f32_L1, List.length_set, Option.map_some, restrict_eq, renS_nil, renS_cons, renB_els, renB_cel, renB_dead, deep_eq, map_ren_enc, ren_agg', ren_tup', ren_fn', ren_int', ren_bool', ren_str', ren_sl', ren_pro', ren_nilp', ren_nilfn', ren_junk', ren_ptr', ren_row', ren_arow', ren_eptr', vm, List.idxOf?_cons, List.idxOf?_nil, beq_self_eq_true, Option.map_none, List.getD_cons_zero, List.getD_cons_succ, ↓wk, ↓wl, nc, evV, wrapBits_eq, ↓reduceIte, Nat.reduceEqDiff, Nat.reduceAdd, Nat.reduceSub, Nat.reduceLeDiff, Nat.reduceLT, Nat.reduceBEq, reduceCtorEq, Int.reduceEq] <;> rfl)))
    · refine AW.exit ?_
      refine seqQ.exit ?_
      refine loopQ.exit H ?_ <;> clear H <;> intro H
      try dsimp only at H
      refine blk0.here ?_
      refine seqQ.norm ?_
      refine AW.rseq ?_
      try simp only [↓wk, ↓wl, nc, evV, wrapBits_eq, ↓reduceIte, Nat.reduceEqDiff, Nat.reduceAdd, Nat.reduceSub, Nat.reduceLeDiff, Nat.reduceLT, Nat.reduceBEq, reduceCtorEq, Int.reduceEq]
      refine AW.ret ?_
      cases H
      exact hQ _ _ _ _ (.inr rfl) (by simp only [resVs, omap, resV, ↓wk, ↓wl, nc, evV, wrapBits_eq, ↓reduceIte, Nat.reduceEqDiff, Nat.reduceAdd, Nat.reduceSub, Nat.reduceLeDiff, Nat.reduceLT, Nat.reduceBEq, reduceCtorEq, Int.reduceEq]; rfl) (hand_plain (by rfl)) (by first | exact Or.inl rfl | exact Or.inr rfl)
def c33_0 : C := .cond (.t 12) (.seq (.reg [iI 2 (.mv (.c (.int .i64 0)))]) .ret) (.skip)
def c33_1 : C := .cond (.t 3) (.seq (.reg [iI 2 (.mv (.c (.int .i64 0)))]) .ret) (.seq (.reg [iI 13 (.faddr 0 (.t 1)), iI 14 (.load 0 (.t 13)), iI 15 (.bin .geq (.t 14) (.c (.int .i64 (-1)))), iI 16 (.mv (.t 15)), iG (some 17) 16 true (.faddr 0 (.t 1)), iG (some 18) 16 true (.load 0 (.t 17)), iG (some 19) 16 true (.bin .neq (.t 18) (.c (.int .i64 0))), iI 20 (.pick (.t 16) (.t 19) (.c (.bool false))), iI 21 (.mv (.t 20)), iG (some 22) 21 true (.faddr 0 (.t 1)), iG (some 23) 21 true (.load 0 (.t 22)), iG (some 24) 21 true (.bin .leq (.t 23) (.c (.int .i64 1048576))), iI 25 (.pick (.t 21) (.t 24) (.c (.bool false))), iI 26 (.mv (.t 25)), iG (some 27) 26 true (.faddr 1 (.t 1)), iG (some 28) 26 true (.load 0 (.t 27)), iG (some 29) 26 true (.bin .eql (.t 28) (.c (.int .i64 0))), iI 30 (.pick (.t 26) (.t 29) (.c (.bool false))), iI 12 (.mv (.t 30))]) c33_0)
def c33_2 : C := .seq (.reg [iI 2 (.mv (.c (.int .i64 2)))]) .ret
def c33_3 : C := .seq (.block 0 (.seq (.reg [iI 4 (.faddr 0 (.t 1)), iI 5 (.load 0 (.t 4)), iI 6 (.bin .eql (.t 5) (.c (.int .i64 0))), iI 7 (.mv (.t 6)), iG (some 8) 7 true (.faddr 1 (.t 1)), iG (some 9) 7 true (.load 0 (.t 8)), iG (some 10) 7 true (.call (.c (.fn 35 [])) [(.t 9)]), iI 11 (.pick (.t 7) (.t 10) (.c (.bool false))), iI 3 (.mv (.t 11))]) c33_1)) c33_2
def ir33 : C := .seq (.reg [iI 1 (.box (.t 0)), iI 2 (.mv (.c (.int .i64 0)))]) c33_3
theorem fd33 : fd? Try.prog 33 = some (31, [.slot 2], ir33) := by kernel_rfl
noncomputable def f33 (v_84 : ApiValue) : Option (Int) :=
  (if (decide (v_84.fPalette = 0)) = true then (f35 v_84.fLevel).bind fun r_85 => (if r_85 = true then (some 0) else (if (decide ((-1) ≤ v_84.fPalette)) = true then (if (decide (v_84.fPalette ≠ 0)) = true then (if (decide (v_84.fPalette ≤ 1048576)) = true then (if (decide (v_84.fLevel = 0)) = true then (some 0) else (some 2)) else (some 2)) else (some 2)) else (some 2))) else (if (decide ((-1) ≤ v_84.fPalette)) = true then (if (decide (v_84.fPalette ≠ 0)) = true then (if (decide (v_84.fPalette ≤ 1048576)) = true then (if (decide (v_84.fLevel = 0)) = true then (some 0) else (some 2)) else (some 2)) else (some 2)) else (some 2)))
theorem f33_ok {v_84 : ApiValue} {r_ : Int} (H : f33 v_84 = some r_) : Pure Try.prog 33 [.agg [.int .i64 v_84.fPalette, .int .i64 v_84.fLevel]] (· = .int .i64 r_) := by
  refine Pure.walk3 fd33 none (Nat.le_of_ble_eq_true rfl) (by rfl) fun Q hQ => ?_
  simp only [f33] at H
  refine AW.rseq ?_
  try simp only [↓wk, ↓wl, nc, evV, wrapBits_eq, ↓reduceIte, Nat.reduceEqDiff, Nat.reduceAdd, Nat.reduceSub, Nat.reduceLeDiff, Nat.reduceLT, Nat.reduceBEq, reduceCtorEq, Int.reduceEq]
  refine AW.bseq ?_
  refine AW.rseq ?_
  try simp only [↓wk, ↓wl, nc, evV, wrapBits_eq, ↓reduceIte, Nat.reduceEqDiff, Nat.reduceAdd, Nat.reduceSub, Nat.reduceLeDiff, Nat.reduceLT, Nat.reduceBEq, reduceCtorEq, Int.reduceEq]
  refine evTs_ifg H (by rfl) ?_ ?_ <;> clear H <;> intro H
  · try simp only [↓wk, ↓wl, nc, evV, wrapBits_eq, ↓reduceIte, Nat.reduceEqDiff, Nat.reduceAdd, Nat.reduceSub, Nat.reduceLeDiff, Nat.reduceLT, Nat.reduceBEq, reduceCtorEq, Int.reduceEq]
    refine evTs_pure hFn H (fun _ h => f35_ok h) (by rfl) (by rfl) (by rfl) (by rfl) (fun _ => rfl) ?_ <;> clear H <;> intro r_85 H
    try simp only [eL, ↓wk, ↓wl, nc, evV, wrapBits_eq, ↓reduceIte, Nat.reduceEqDiff, Nat.reduceAdd, Nat.reduceSub, Nat.reduceLeDiff, Nat.reduceLT, Nat.reduceBEq, reduceCtorEq, Int.reduceEq]
    refine AW.ifc H (by rfl) ?_ ?_ <;> clear H <;> intro H
    · refine AW.rseq ?_
      try simp only [↓wk, ↓wl, nc, evV, wrapBits_eq, ↓reduceIte, Nat.reduceEqDiff, Nat.reduceAdd, Nat.reduceSub, Nat.reduceLeDiff, Nat.reduceLT, Nat.reduceBEq, reduceCtorEq, Int.reduceEq]
      refine AW.ret ?_
      refine blkQ.ret ?_
      cases H
      exact hQ _ _ _ _ (.inr rfl) (by simp only [resVs, omap, resV, ↓wk, ↓wl, nc, evV, wrapBits_eq, ↓reduceIte, Nat.reduceEqDiff, Nat.reduceAdd, Nat.reduceSub, Nat.reduceLeDiff, Nat.reduceLT, Nat.reduceBEq, reduceCtorEq, Int.reduceEq]; rfl) (hand_plain (by rfl)) (by first | exact Or.inl rfl | exact Or.inr rfl)
    · refine AW.rseq ?_
      try simp only [↓wk, ↓wl, nc, evV, wrapBits_eq, ↓reduceIte, Nat.reduceEqDiff, Nat.reduceAdd, Nat.reduceSub, Nat.reduceLeDiff, Nat.reduceLT, Nat.reduceBEq, reduceCtorEq, Int.reduceEq]
      refine evTs_ifg H (by rfl) ?_ ?_ <;> clear H <;> intro H
      · try simp only [↓wk, ↓wl, nc, evV, wrapBits_eq, ↓reduceIte, Nat.reduceEqDiff, Nat.reduceAdd, Nat.reduceSub, Nat.reduceLeDiff, Nat.reduceLT, Nat.reduceBEq, reduceCtorEq, Int.reduceEq]
        refine evTs_ifg H (by rfl) ?_ ?_ <;> clear H <;> intro H
        · try simp only [↓wk, ↓wl, nc, evV, wrapBits_eq, ↓reduceIte, Nat.reduceEqDiff, Nat.reduceAdd, Nat.reduceSub, Nat.reduceLeDiff, Nat.reduceLT, Nat.reduceBEq, reduceCtorEq, Int.reduceEq]
          refine evTs_ifg H (by rfl) ?_ ?_ <;> clear H <;> intro H
          · try simp only [↓wk, ↓wl, nc, evV, wrapBits_eq, ↓reduceIte, Nat.reduceEqDiff, Nat.reduceAdd, Nat.reduceSub, Nat.reduceLeDiff, Nat.reduceLT, Nat.reduceBEq, reduceCtorEq, Int.reduceEq]
            refine AW.ifc H (by rfl) ?_ ?_ <;> clear H <;> intro H
            · refine AW.rseq ?_
              try simp only [↓wk, ↓wl, nc, evV, wrapBits_eq, ↓reduceIte, Nat.reduceEqDiff, Nat.reduceAdd, Nat.reduceSub, Nat.reduceLeDiff, Nat.reduceLT, Nat.reduceBEq, reduceCtorEq, Int.reduceEq]
              refine AW.ret ?_
              refine blkQ.ret ?_
              cases H
              exact hQ _ _ _ _ (.inr rfl) (by simp only [resVs, omap, resV, ↓wk, ↓wl, nc, evV, wrapBits_eq, ↓reduceIte, Nat.reduceEqDiff, Nat.reduceAdd, Nat.reduceSub, Nat.reduceLeDiff, Nat.reduceLT, Nat.reduceBEq, reduceCtorEq, Int.reduceEq]; rfl) (hand_plain (by rfl)) (by first | exact Or.inl rfl | exact Or.inr rfl)
            · refine AW.skip ?_
              refine blkQ.norm ?_
              refine AW.rseq ?_
              try simp only [↓wk, ↓wl, nc, evV, wrapBits_eq, ↓reduceIte, Nat.reduceEqDiff, Nat.reduceAdd, Nat.reduceSub, Nat.reduceLeDiff, Nat.reduceLT, Nat.reduceBEq, reduceCtorEq, Int.reduceEq]
              refine AW.ret ?_
              cases H
              exact hQ _ _ _ _ (.inr rfl) (by simp only [resVs, omap, resV, ↓wk, ↓wl, nc, evV, wrapBits_eq, ↓reduceIte, Nat.reduceEqDiff, Nat.reduceAdd, Nat.reduceSub, Nat.reduceLeDiff, Nat.reduceLT, Nat.reduceBEq, reduceCtorEq, Int.reduceEq]; rfl) (hand_plain (by rfl)) (by first | exact Or.inl rfl | exact Or.inr rfl)
          · try simp only [↓wk, ↓wl, nc, evV, wrapBits_eq, ↓reduceIte, Nat.reduceEqDiff, Nat.reduceAdd, Nat.reduceSub, Nat.reduceLeDiff, Nat.reduceLT, Nat.reduceBEq, reduceCtorEq, Int.reduceEq]
            refine AW.iff (by rfl) ?_
            refine AW.skip ?_
            refine blkQ.norm ?_
            refine AW.rseq ?_
            try simp only [↓wk, ↓wl, nc, evV, wrapBits_eq, ↓reduceIte, Nat.reduceEqDiff, Nat.reduceAdd, Nat.reduceSub, Nat.reduceLeDiff, Nat.reduceLT, Nat.reduceBEq, reduceCtorEq, Int.reduceEq]
            refine AW.ret ?_
            cases H
            exact hQ _ _ _ _ (.inr rfl) (by simp only [resVs, omap, resV, ↓wk, ↓wl, nc, evV, wrapBits_eq, ↓reduceIte, Nat.reduceEqDiff, Nat.reduceAdd, Nat.reduceSub, Nat.reduceLeDiff, Nat.reduceLT, Nat.reduceBEq, reduceCtorEq, Int.reduceEq]; rfl) (hand_plain (by rfl)) (by first | exact Or.inl rfl | exact Or.inr rfl)
        · try simp only [↓wk, ↓wl, nc, evV, wrapBits_eq, ↓reduceIte, Nat.reduceEqDiff, Nat.reduceAdd, Nat.reduceSub, Nat.reduceLeDiff, Nat.reduceLT, Nat.reduceBEq, reduceCtorEq, Int.reduceEq]
          refine AW.iff (by rfl) ?_
          refine AW.skip ?_
          refine blkQ.norm ?_
          refine AW.rseq ?_
          try simp only [↓wk, ↓wl, nc, evV, wrapBits_eq, ↓reduceIte, Nat.reduceEqDiff, Nat.reduceAdd, Nat.reduceSub, Nat.reduceLeDiff, Nat.reduceLT, Nat.reduceBEq, reduceCtorEq, Int.reduceEq]
          refine AW.ret ?_
          cases H
          exact hQ _ _ _ _ (.inr rfl) (by simp only [resVs, omap, resV, ↓wk, ↓wl, nc, evV, wrapBits_eq, ↓reduceIte, Nat.reduceEqDiff, Nat.reduceAdd, Nat.reduceSub, Nat.reduceLeDiff, Nat.reduceLT, Nat.reduceBEq, reduceCtorEq, Int.reduceEq]; rfl) (hand_plain (by rfl)) (by first | exact Or.inl rfl | exact Or.inr rfl)
      · try simp only [↓wk, ↓wl, nc, evV, wrapBits_eq, ↓reduceIte, Nat.reduceEqDiff, Nat.reduceAdd, Nat.reduceSub, Nat.reduceLeDiff, Nat.reduceLT, Nat.reduceBEq, reduceCtorEq, Int.reduceEq]
        refine AW.iff (by rfl) ?_
        refine AW.skip ?_
        refine blkQ.norm ?_
        refine AW.rseq ?_
        try simp only [↓wk, ↓wl, nc, evV, wrapBits_eq, ↓reduceIte, Nat.reduceEqDiff, Nat.reduceAdd, Nat.reduceSub, Nat.reduceLeDiff, Nat.reduceLT, Nat.reduceBEq, reduceCtorEq, Int.reduceEq]
        refine AW.ret ?_
        cases H
        exact hQ _ _ _ _ (.inr rfl) (by simp only [resVs, omap, resV, ↓wk, ↓wl, nc, evV, wrapBits_eq, ↓reduceIte, Nat.reduceEqDiff, Nat.reduceAdd, Nat.reduceSub, Nat.reduceLeDiff, Nat.reduceLT, Nat.reduceBEq, reduceCtorEq, Int.reduceEq]; rfl) (hand_plain (by rfl)) (by first | exact Or.inl rfl | exact Or.inr rfl)
  · try simp only [↓wk, ↓wl, nc, evV, wrapBits_eq, ↓reduceIte, Nat.reduceEqDiff, Nat.reduceAdd, Nat.reduceSub, Nat.reduceLeDiff, Nat.reduceLT, Nat.reduceBEq, reduceCtorEq, Int.reduceEq]
    refine AW.iff (by rfl) ?_
    refine AW.rseq ?_
    try simp only [↓wk, ↓wl, nc, evV, wrapBits_eq, ↓reduceIte, Nat.reduceEqDiff, Nat.reduceAdd, Nat.reduceSub, Nat.reduceLeDiff, Nat.reduceLT, Nat.reduceBEq, reduceCtorEq, Int.reduceEq]
    refine evTs_ifg H (by rfl) ?_ ?_ <;> clear H <;> intro H
    · try simp only [↓wk, ↓wl, nc, evV, wrapBits_eq, ↓reduceIte, Nat.reduceEqDiff, Nat.reduceAdd, Nat.reduceSub, Nat.reduceLeDiff, Nat.reduceLT, Nat.reduceBEq, reduceCtorEq, Int.reduceEq]
      refine evTs_ifg H (by rfl) ?_ ?_ <;> clear H <;> intro H
      · try simp only [↓wk, ↓wl, nc, evV, wrapBits_eq, ↓reduceIte, Nat.reduceEqDiff, Nat.reduceAdd, Nat.reduceSub, Nat.reduceLeDiff, Nat.reduceLT, Nat.reduceBEq, reduceCtorEq, Int.reduceEq]
        refine evTs_ifg H (by rfl) ?_ ?_ <;> clear H <;> intro H
        · try simp only [↓wk, ↓wl, nc, evV, wrapBits_eq, ↓reduceIte, Nat.reduceEqDiff, Nat.reduceAdd, Nat.reduceSub, Nat.reduceLeDiff, Nat.reduceLT, Nat.reduceBEq, reduceCtorEq, Int.reduceEq]
          refine AW.ifc H (by rfl) ?_ ?_ <;> clear H <;> intro H
          · refine AW.rseq ?_
            try simp only [↓wk, ↓wl, nc, evV, wrapBits_eq, ↓reduceIte, Nat.reduceEqDiff, Nat.reduceAdd, Nat.reduceSub, Nat.reduceLeDiff, Nat.reduceLT, Nat.reduceBEq, reduceCtorEq, Int.reduceEq]
            refine AW.ret ?_
            refine blkQ.ret ?_
            cases H
            exact hQ _ _ _ _ (.inr rfl) (by simp only [resVs, omap, resV, ↓wk, ↓wl, nc, evV, wrapBits_eq, ↓reduceIte, Nat.reduceEqDiff, Nat.reduceAdd, Nat.reduceSub, Nat.reduceLeDiff, Nat.reduceLT, Nat.reduceBEq, reduceCtorEq, Int.reduceEq]; rfl) (hand_plain (by rfl)) (by first | exact Or.inl rfl | exact Or.inr rfl)
          · refine AW.skip ?_
            refine blkQ.norm ?_
            refine AW.rseq ?_
            try simp only [↓wk, ↓wl, nc, evV, wrapBits_eq, ↓reduceIte, Nat.reduceEqDiff, Nat.reduceAdd, Nat.reduceSub, Nat.reduceLeDiff, Nat.reduceLT, Nat.reduceBEq, reduceCtorEq, Int.reduceEq]
            refine AW.ret ?_
            cases H
            exact hQ _ _ _ _ (.inr rfl) (by simp only [resVs, omap, resV, ↓wk, ↓wl, nc, evV, wrapBits_eq, ↓reduceIte, Nat.reduceEqDiff, Nat.reduceAdd, Nat.reduceSub, Nat.reduceLeDiff, Nat.reduceLT, Nat.reduceBEq, reduceCtorEq, Int.reduceEq]; rfl) (hand_plain (by rfl)) (by first | exact Or.inl rfl | exact Or.inr rfl)
        · try simp only [↓wk, ↓wl, nc, evV, wrapBits_eq, ↓reduceIte, Nat.reduceEqDiff, Nat.reduceAdd, Nat.reduceSub, Nat.reduceLeDiff, Nat.reduceLT, Nat.reduceBEq, reduceCtorEq, Int.reduceEq]
          refine AW.iff (by rfl) ?_
          refine AW.skip ?_
          refine blkQ.norm ?_
          refine AW.rseq ?_
          try simp only [↓wk, ↓wl, nc, evV, wrapBits_eq, ↓reduceIte, Nat.reduceEqDiff, Nat.reduceAdd, Nat.reduceSub, Nat.reduceLeDiff, Nat.reduceLT, Nat.reduceBEq, reduceCtorEq, Int.reduceEq]
          refine AW.ret ?_
          cases H
          exact hQ _ _ _ _ (.inr rfl) (by simp only [resVs, omap, resV, ↓wk, ↓wl, nc, evV, wrapBits_eq, ↓reduceIte, Nat.reduceEqDiff, Nat.reduceAdd, Nat.reduceSub, Nat.reduceLeDiff, Nat.reduceLT, Nat.reduceBEq, reduceCtorEq, Int.reduceEq]; rfl) (hand_plain (by rfl)) (by first | exact Or.inl rfl | exact Or.inr rfl)
      · try simp only [↓wk, ↓wl, nc, evV, wrapBits_eq, ↓reduceIte, Nat.reduceEqDiff, Nat.reduceAdd, Nat.reduceSub, Nat.reduceLeDiff, Nat.reduceLT, Nat.reduceBEq, reduceCtorEq, Int.reduceEq]
        refine AW.iff (by rfl) ?_
        refine AW.skip ?_
        refine blkQ.norm ?_
        refine AW.rseq ?_
        try simp only [↓wk, ↓wl, nc, evV, wrapBits_eq, ↓reduceIte, Nat.reduceEqDiff, Nat.reduceAdd, Nat.reduceSub, Nat.reduceLeDiff, Nat.reduceLT, Nat.reduceBEq, reduceCtorEq, Int.reduceEq]
        refine AW.ret ?_
        cases H
        exact hQ _ _ _ _ (.inr rfl) (by simp only [resVs, omap, resV, ↓wk, ↓wl, nc, evV, wrapBits_eq, ↓reduceIte, Nat.reduceEqDiff, Nat.reduceAdd, Nat.reduceSub, Nat.reduceLeDiff, Nat.reduceLT, Nat.reduceBEq, reduceCtorEq, Int.reduceEq]; rfl) (hand_plain (by rfl)) (by first | exact Or.inl rfl | exact Or.inr rfl)
    · try simp only [↓wk, ↓wl, nc, evV, wrapBits_eq, ↓reduceIte, Nat.reduceEqDiff, Nat.reduceAdd, Nat.reduceSub, Nat.reduceLeDiff, Nat.reduceLT, Nat.reduceBEq, reduceCtorEq, Int.reduceEq]
      refine AW.iff (by rfl) ?_
      refine AW.skip ?_
      refine blkQ.norm ?_
      refine AW.rseq ?_
      try simp only [↓wk, ↓wl, nc, evV, wrapBits_eq, ↓reduceIte, Nat.reduceEqDiff, Nat.reduceAdd, Nat.reduceSub, Nat.reduceLeDiff, Nat.reduceLT, Nat.reduceBEq, reduceCtorEq, Int.reduceEq]
      refine AW.ret ?_
      cases H
      exact hQ _ _ _ _ (.inr rfl) (by simp only [resVs, omap, resV, ↓wk, ↓wl, nc, evV, wrapBits_eq, ↓reduceIte, Nat.reduceEqDiff, Nat.reduceAdd, Nat.reduceSub, Nat.reduceLeDiff, Nat.reduceLT, Nat.reduceBEq, reduceCtorEq, Int.reduceEq]; rfl) (hand_plain (by rfl)) (by first | exact Or.inl rfl | exact Or.inr rfl)
def c73_0 : C := .seq (.reg [iI 5 (.faddr 0 (.t 2)), iI 6 (.load 0 (.t 5)), iI 7 (.mv (.t 1)), iI 8 (.bin .sub (.t 6) (.t 7)), iI 4 (.mv (.t 8))]) .ret
def ir73 : C := .seq (.reg [iI 2 (.box (.t 0)), iI 4 (.mv (.c (.int .i64 0)))]) c73_0
theorem fd73 : fd? Try.prog 73 = some (9, [.slot 4], ir73) := by kernel_rfl
noncomputable def f73 (x_112 : ApiPalette) (n_113 : Int) : Option (Int) :=
  (some (IntKind.i64.wrap (x_112.fNumber - n_113)))
theorem f73_ok {x_112 : ApiPalette} {n_113 : Int} {r_ : Int} (H : f73 x_112 n_113 = some r_) : Pure Try.prog 73 [.agg [.int .i64 x_112.fNumber, .sl 3 false (x_112.fHues.map eApiHue)], .int .i64 n_113] (· = .int .i64 r_) := by
  refine Pure.walk3 fd73 none (Nat.le_of_ble_eq_true rfl) (by rfl) fun Q hQ => ?_
  simp only [f73] at H
  refine AW.rseq ?_
  try simp only [↓wk, ↓wl, nc, evV, wrapBits_eq, ↓reduceIte, Nat.reduceEqDiff, Nat.reduceAdd, Nat.reduceSub, Nat.reduceLeDiff, Nat.reduceLT, Nat.reduceBEq, reduceCtorEq, Int.reduceEq]
  refine AW.rseq ?_
  try simp only [↓wk, ↓wl, nc, evV, wrapBits_eq, ↓reduceIte, Nat.reduceEqDiff, Nat.reduceAdd, Nat.reduceSub, Nat.reduceLeDiff, Nat.reduceLT, Nat.reduceBEq, reduceCtorEq, Int.reduceEq]
  refine AW.ret ?_
  cases H
  exact hQ _ _ _ _ (.inr rfl) (by simp only [resVs, omap, resV, ↓wk, ↓wl, nc, evV, wrapBits_eq, ↓reduceIte, Nat.reduceEqDiff, Nat.reduceAdd, Nat.reduceSub, Nat.reduceLeDiff, Nat.reduceLT, Nat.reduceBEq, reduceCtorEq, Int.reduceEq]; rfl) (hand_plain (by rfl)) (by first | exact Or.inl rfl | exact Or.inr rfl)
noncomputable def f72_73_L1 (x_109 : (List ApiPalette)) (target_110 : Int) : Lp (Int × Int) (Int) where
  body := fun (i_130, j_131) => (if (decide (i_130 < j_131)) = true then (at? x_109 (IntKind.i64.wrap (Int.fdiv (IntKind.u64.wrap (IntKind.i64.wrap (i_130 + j_131))) (2 ^ (min (Int.toNat 1) (IntKind.bits .u64)))))).bind fun x_139 => (f73 x_139 target_110).bind fun r_140 => (if (decide (r_140 < 0)) = true then (some (.next ((IntKind.i64.wrap ((IntKind.i64.wrap (Int.fdiv (IntKind.u64.wrap (IntKind.i64.wrap (i_130 + j_131))) (2 ^ (min (Int.toNat 1) (IntKind.bits .u64))))) + 1)), j_131))) else (some (.next (i_130, (IntKind.i64.wrap (Int.fdiv (IntKind.u64.wrap (IntKind.i64.wrap (i_130 + j_131))) (2 ^ (min (Int.toNat 1) (IntKind.bits .u64))))))))) else (some (.brk i_130)))
  cst := fun (i_130, j_131) => ⟨put (put (put (put (put (put (fun _ => .junk) 10 (.int .i64 j_131)) 9 (.int .i64 i_130)) 8 (.int .i64 ((x_109.length : Nat) : Int))) 2 (.fn 73 [])) 1 (.int .i64 target_110)) 0 (.sl 2 false (x_109.map eApiPalette)), []⟩
def c72_0 : C := .cond (.t 17) (.skip) (.exit 0)
def c72_1 : C := .cond (.t 31) (.reg [iI 32 (.mv (.t 11)), iI 33 (.bin .add (.t 32) (.c (.int .i64 1))), iI 9 (.mv (.t 33))]) (.reg [iI 34 (.mv (.t 11)), iI 10 (.mv (.t 34))])
def c72_2 : C := .seq (.reg [iI 24 (.mv (.t 2)), iI 25 (.mv (.t 0)), iI 26 (.mv (.t 11)), iI 27 (.iaddr 2 (.t 25) (.t 26)), iI 28 (.load 2 (.t 27)), iI 29 (.mv (.t 1)), iI 30 (.call (.t 24) [(.t 28), (.t 29)]), iI 31 (.bin .lss (.t 30) (.c (.int .i64 0)))]) c72_1
def c72_3 : C := .block 1 (.seq (.reg [iI 18 (.mv (.t 9)), iI 19 (.mv (.t 10)), iI 20 (.bin .add (.t 18) (.t 19)), iI 21 (.cint .u64 (.t 20)), iI 22 (.bin .shr (.t 21) (.c (.int .u64 1))), iI 23 (.cint .i64 (.t 22)), iI 11 (.mv (.t 23))]) c72_2)
def c72_4 : C := .seq (.reg [iI 35 (.mv (.t 9)), iI 36 (.mv (.t 9)), iI 37 (.mv (.t 8)), iI 38 (.bin .lss (.t 36) (.t 37)), iI 39 (.mv (.t 38)), iG (some 40) 39 true (.mv (.t 2)), iG (some 41) 39 true (.mv (.t 0)), iG (some 42) 39 true (.mv (.t 9)), iG (some 43) 39 true (.iaddr 2 (.t 41) (.t 42)), iG (some 44) 39 true (.load 2 (.t 43)), iG (some 45) 39 true (.mv (.t 1)), iG (some 46) 39 true (.call (.t 40) [(.t 44), (.t 45)]), iG (some 47) 39 true (.bin .eql (.t 46) (.c (.int .i64 0))), iI 48 (.pick (.t 39) (.t 47) (.c (.bool false))), iI 6 (.mv (.t 35)), iI 7 (.mv (.t 48))]) .ret
def c72_5 : C := .seq (.block 0 (.loop (.seq (.seq (.reg [iI 15 (.mv (.t 9)), iI 16 (.mv (.t 10)), iI 17 (.bin .lss (.t 15) (.t 16))]) c72_0) c72_3))) c72_4
def c72_6 : C := .seq (.reg [iI 14 (.mv (.t 8)), iI 9 (.mv (.c (.int .i64 0))), iI 10 (.mv (.t 14))]) c72_5
def c72_7 : C := .seq (.reg [iI 12 (.mv (.t 0)), iI 13 (.len 0 (.t 12)), iI 8 (.mv (.t 13))]) c72_6
def ir72 : C := .seq (.reg [iI 6 (.mv (.c (.int .i64 0))), iI 7 (.mv (.c (.bool false)))]) c72_7
theorem fd72 : fd? Try.prog 72 = some (49, [.slot 6, .slot 7], ir72) := by kernel_rfl
noncomputable def f72_73 (x_109 : (List ApiPalette)) (target_110 : Int) : Option (Int × Bool) :=
  (Lp.run (f72_73_L1 x_109 target_110) (0, ((x_109.length : Nat) : Int))).bind fun i_134 => (if (decide (i_134 < ((x_109.length : Nat) : Int))) = true then (at? x_109 i_134).bind fun x_135 => (f73 x_135 target_110).bind fun r_136 => (some (i_134, (decide (r_136 = 0)))) else (some (i_134, false)))
theorem f72_73_ok {x_109 : (List ApiPalette)} {target_110 : Int} {r_ : Int × Bool} (H : f72_73 x_109 target_110 = some r_) : Pure Try.prog 72 [.sl 2 false (x_109.map eApiPalette), .int .i64 target_110, .fn 73 []] (· = .tup [.int .i64 r_.1, .bool r_.2]) := by
  refine Pure.walk3 fd72 none (Nat.le_of_ble_eq_true rfl) (by rfl) fun Q hQ => ?_
  simp only [f72_73] at H
  refine AW.rseq ?_
  try simp only [↓wk, ↓wl, nc, evV, wrapBits_eq, ↓reduceIte, Nat.reduceEqDiff, Nat.reduceAdd, Nat.reduceSub, Nat.reduceLeDiff, Nat.reduceLT, Nat.reduceBEq, reduceCtorEq, Int.reduceEq]
  refine AW.rseq ?_
  try simp only [↓wk, ↓wl, nc, evV, wrapBits_eq, ↓reduceIte, Nat.reduceEqDiff, Nat.reduceAdd, Nat.reduceSub, Nat.reduceLeDiff, Nat.reduceLT, Nat.reduceBEq, reduceCtorEq, Int.reduceEq]
  refine AW.rseq ?_
  try simp only [↓wk, ↓wl, nc, evV, wrapBits_eq, ↓reduceIte, Nat.reduceEqDiff, Nat.reduceAdd, Nat.reduceSub, Nat.reduceLeDiff, Nat.reduceLT, Nat.reduceBEq, reduceCtorEq, Int.reduceEq]
  refine AW.bseq ?_
  refine AW.iter H ((Le.none [] [0, 1, 2, 8, 9, 10] (by decide) (by simp only [f72_73_L1, List.length_set, Option.map_some, restrict_eq, renS_nil, renS_cons, renB_els, renB_cel, renB_dead, deep_eq, map_ren_enc, ren_agg', ren_tup', ren_fn', ren_int', ren_bool', ren_str', ren_sl', ren_pro', ren_nilp', ren_nilfn', ren_junk', ren_ptr', ren_row', ren_arow', ren_eptr', vm, List.idxOf?_cons, List.idxOf?_nil, beq_self_eq_true, Option.map_none, List.getD_cons_zero, List.getD_cons_succ, ↓wk, ↓wl, nc, evV, wrapBits_eq, ↓reduceIte, Nat.reduceEqDiff, Nat.reduceAdd, Nat.reduceSub, Nat.reduceLeDiff, Nat.reduceLT, Nat.reduceBEq, reduceCtorEq, Int.reduceEq] <;> rfl))) ?_ <;> clear H
  rintro ⟨i_130, j_131⟩ x_ st0_ H hst_
  simp only [f72_73_L1] at H hst_
  subst hst_
  refine AW.sseq ?_
  refine AW.rseq ?_
  try simp only [↓wk, ↓wl, nc, evV, wrapBits_eq, ↓reduceIte, Nat.reduceEqDiff, Nat.reduceAdd, Nat.reduceSub, Nat.reduceLeDiff, Nat.reduceLT, Nat.reduceBEq, reduceCtorEq, Int.reduceEq]
  refine AW.ifc H (by rfl) ?_ ?_ <;> clear H <;> intro H
  · refine AW.skip ?_
    refine seqQ.norm ?_
    refine AW.bend ?_
    refine AW.rseq ?_
    try simp only [↓wk, ↓wl, nc, evV, wrapBits_eq, ↓reduceIte, Nat.reduceEqDiff, Nat.reduceAdd, Nat.reduceSub, Nat.reduceLeDiff, Nat.reduceLT, Nat.reduceBEq, reduceCtorEq, Int.reduceEq]
    refine rest_shr (by decide) ?_
    try simp only [↓wk, ↓wl, nc, evV, wrapBits_eq, ↓reduceIte, Nat.reduceEqDiff, Nat.reduceAdd, Nat.reduceSub, Nat.reduceLeDiff, Nat.reduceLT, Nat.reduceBEq, reduceCtorEq, Int.reduceEq]
    refine AW.rseq ?_
    try simp only [↓wk, ↓wl, nc, evV, wrapBits_eq, ↓reduceIte, Nat.reduceEqDiff, Nat.reduceAdd, Nat.reduceSub, Nat.reduceLeDiff, Nat.reduceLT, Nat.reduceBEq, reduceCtorEq, Int.reduceEq]
    refine evTs_at (enc := eApiPalette) H (by rfl) (by rfl) ?_ <;> clear H <;> intro x_139 H
    try simp only [eApiPalette, eL, ↓wk, ↓wl, nc, evV, wrapBits_eq, ↓reduceIte, Nat.reduceEqDiff, Nat.reduceAdd, Nat.reduceSub, Nat.reduceLeDiff, Nat.reduceLT, Nat.reduceBEq, reduceCtorEq, Int.reduceEq]
    refine evTs_pure hFn H (fun _ h => f73_ok h) (by rfl) (by rfl) (by rfl) (by rfl) (fun _ => rfl) ?_ <;> clear H <;> intro r_140 H
    try simp only [eL, ↓wk, ↓wl, nc, evV, wrapBits_eq, ↓reduceIte, Nat.reduceEqDiff, Nat.reduceAdd, Nat.reduceSub, Nat.reduceLeDiff, Nat.reduceLT, Nat.reduceBEq, reduceCtorEq, Int.reduceEq]
    refine AW.ifc H (by rfl) ?_ ?_ <;> clear H <;> intro H
    · refine AW.rend ?_
      try simp only [↓wk, ↓wl, nc, evV, wrapBits_eq, ↓reduceIte, Nat.reduceEqDiff, Nat.reduceAdd, Nat.reduceSub, Nat.reduceLeDiff, Nat.reduceLT, Nat.reduceBEq, reduceCtorEq, Int.reduceEq]
      refine blk0.norm ?_
      exact loopQ.next H ((Le.none [] [0, 1, 2, 8, 9, 10] (by decide) (by simp only [f72_73_L1, List.length_set, Option.map_some, restrict_eq, renS_nil, renS_cons, renB_els, renB_cel, renB_dead, deep_eq, map_ren_enc, ren_agg', ren_tup', ren_fn', ren_int', ren_bool', ren_str', ren_sl', ren_pro', ren_nilp', ren_nilfn', ren_junk', ren_ptr', ren_row', ren_arow', ren_eptr', vm, List.idxOf?_cons, List.idxOf?_nil, beq_self_eq_true, Option.map_none, List.getD_cons_zero, List.getD_cons_succ, ↓wk, ↓wl, nc, evV, wrapBits_eq, ↓reduceIte, Nat.reduceEqDiff, Nat.reduceAdd, Nat.reduceSub, Nat.reduceLeDiff, Nat.reduceLT, Nat.reduceBEq, reduceCtorEq, Int.reduceEq] <;> rfl)))
    · refine AW.rend ?_
      try simp only [↓wk, ↓wl, nc, evV, wrapBits_eq, ↓reduceIte, Nat.reduceEqDiff, Nat.reduceAdd, Nat.reduceSub, Nat.reduceLeDiff, Nat.reduceLT, Nat.reduceBEq, reduceCtorEq, Int.reduceEq]
      refine blk0.norm ?_
      exact loopQ.next H ((Le.none [] [0, 1, 2, 8, 9, 10] (by decide) (by simp only [f72_73_L1, List.length_set, Option.map_some, restrict_eq, renS_nil, renS_cons, renB_els, renB_cel, renB_dead, deep_eq, map_ren_enc, ren_agg', ren_tup', ren_fn', ren_int', ren_bool', ren_str', ren_sl', ren_pro', ren_nilp', ren_nilfn', ren_junk', ren_ptr', ren_row', ren_arow', ren_eptr', vm, List.idxOf?_cons, List.idxOf?_nil, beq_self_eq_true, Option.map_none, List.getD_cons_zero, List.getD_cons_succ, ↓wk, ↓wl, nc, evV, wrapBits_eq, ↓reduceIte, Nat.reduceEqDiff, Nat.reduceAdd, Nat.reduceSub, Nat.reduceLeDiff, Nat.reduceLT, Nat.reduceBEq, reduceCtorEq, Int.reduceEq] <;> rfl)))
  · refine AW.exit ?_
    refine seqQ.exit ?_
    refine loopQ.exit H ?_ <;> clear H <;> intro H
    try dsimp only at H
    refine blkQ.here ?_
    refine AW.rseq ?_
    try simp only [↓wk, ↓wl, nc, evV, wrapBits_eq, ↓reduceIte, Nat.reduceEqDiff, Nat.reduceAdd, Nat.reduceSub, Nat.reduceLeDiff, Nat.reduceLT, Nat.reduceBEq, reduceCtorEq, Int.reduceEq]
    refine evTs_ifg H (by rfl) ?_ ?_ <;> clear H <;> intro H
    · try simp only [↓wk, ↓wl, nc, evV, wrapBits_eq, ↓reduceIte, Nat.reduceEqDiff, Nat.reduceAdd, Nat.reduceSub, Nat.reduceLeDiff, Nat.reduceLT, Nat.reduceBEq, reduceCtorEq, Int.reduceEq]
      refine evTs_at (enc := eApiPalette) H (by rfl) (by rfl) ?_ <;> clear H <;> intro x_141 H
      try simp only [eApiPalette, eL, ↓wk, ↓wl, nc, evV, wrapBits_eq, ↓reduceIte, Nat.reduceEqDiff, Nat.reduceAdd, Nat.reduceSub, Nat.reduceLeDiff, Nat.reduceLT, Nat.reduceBEq, reduceCtorEq, Int.reduceEq]
      refine evTs_pure hFn H (fun _ h => f73_ok h) (by rfl) (by rfl) (by rfl) (by rfl) (fun _ => rfl) ?_ <;> clear H <;> intro r_142 H
      try simp only [eL, ↓wk, ↓wl, nc, evV, wrapBits_eq, ↓reduceIte, Nat.reduceEqDiff, Nat.reduceAdd, Nat.reduceSub, Nat.reduceLeDiff, Nat.reduceLT, Nat.reduceBEq, reduceCtorEq, Int.reduceEq]
      refine AW.ret ?_
      cases H
      exact hQ _ _ _ _ (.inr rfl) (by simp only [resVs, omap, resV, ↓wk, ↓wl, nc, evV, wrapBits_eq, ↓reduceIte, Nat.reduceEqDiff, Nat.reduceAdd, Nat.reduceSub, Nat.reduceLeDiff, Nat.reduceLT, Nat.reduceBEq, reduceCtorEq, Int.reduceEq]; rfl) (hand_plain (by rfl)) (by first | exact Or.inl rfl | exact Or.inr rfl)
    · try simp only [↓wk, ↓wl, nc, evV, wrapBits_eq, ↓reduceIte, Nat.reduceEqDiff, Nat.reduceAdd, Nat.reduceSub, Nat.reduceLeDiff, Nat.reduceLT, Nat.reduceBEq, reduceCtorEq, Int.reduceEq]
      refine AW.ret ?_
      cases H
      exact hQ _ _ _ _ (.inr rfl) (by simp only [resVs, omap, resV, ↓wk, ↓wl, nc, evV, wrapBits_eq, ↓reduceIte, Nat.reduceEqDiff, Nat.reduceAdd, Nat.reduceSub, Nat.reduceLeDiff, Nat.reduceLT, Nat.reduceBEq, reduceCtorEq, Int.reduceEq]; rfl) (hand_plain (by rfl)) (by first | exact Or.inl rfl | exact Or.inr rfl)
def c52_0 : C := .seq (.reg [iI 6 (.mv (.t 0)), iI 7 (.mv (.t 1)), iI 8 (.call (.c (.fn 72 [])) [(.t 6), (.t 7), (.c (.fn 73 []))]), iI 9 (.ext (.t 8) 0), iI 10 (.ext (.t 8) 1), iI 4 (.mv (.t 9)), iI 5 (.mv (.t 10))]) .ret
def ir52 : C := .seq (.reg [iI 4 (.mv (.c (.int .i64 0))), iI 5 (.mv (.c (.bool false)))]) c52_0
theorem fd52 : fd? Try.prog 52 = some (11, [.slot 4, .slot 5], ir52) := by kernel_rfl
noncomputable def f52 (l_107 : (List ApiPalette)) (number_108 : Int) : Option (Int × Bool) :=
  (f72_73 l_107 number_108).bind fun r_143 => (some (r_143.1, r_143.2))
theorem f52_ok {l_107 : (List ApiPalette)} {number_108 : Int} {r_ : Int × Bool} (H : f52 l_107 number_108 = some r_) : Pure Try.prog 52 [.sl 2 false (l_107.map eApiPalette), .int .i64 number_108] (· = .tup [.int .i64 r_.1, .bool r_.2]) := by
  refine Pure.walk3 fd52 none (Nat.le_of_ble_eq_true rfl) (by rfl) fun Q hQ => ?_
  simp only [f52] at H
  refine AW.rseq ?_
  try simp only [↓wk, ↓wl, nc, evV, wrapBits_eq, ↓reduceIte, Nat.reduceEqDiff, Nat.reduceAdd, Nat.reduceSub, Nat.reduceLeDiff, Nat.reduceLT, Nat.reduceBEq, reduceCtorEq, Int.reduceEq]
  refine AW.rseq ?_
  try simp only [↓wk, ↓wl, nc, evV, wrapBits_eq, ↓reduceIte, Nat.reduceEqDiff, Nat.reduceAdd, Nat.reduceSub, Nat.reduceLeDiff, Nat.reduceLT, Nat.reduceBEq, reduceCtorEq, Int.reduceEq]
  refine evTs_pure hFn H (fun _ h => f72_73_ok h) (by rfl) (by rfl) (by rfl) (by rfl) (fun _ => rfl) ?_ <;> clear H <;> intro r_143 H
  try simp only [eL, ↓wk, ↓wl, nc, evV, wrapBits_eq, ↓reduceIte, Nat.reduceEqDiff, Nat.reduceAdd, Nat.reduceSub, Nat.reduceLeDiff, Nat.reduceLT, Nat.reduceBEq, reduceCtorEq, Int.reduceEq]
  refine AW.ret ?_
  cases H
  exact hQ _ _ _ _ (.inr rfl) (by simp only [resVs, omap, resV, ↓wk, ↓wl, nc, evV, wrapBits_eq, ↓reduceIte, Nat.reduceEqDiff, Nat.reduceAdd, Nat.reduceSub, Nat.reduceLeDiff, Nat.reduceLT, Nat.reduceBEq, reduceCtorEq, Int.reduceEq]; rfl) (hand_plain (by rfl)) (by first | exact Or.inl rfl | exact Or.inr rfl)
def c61_0 : C := .seq (.regq [iI 5 (.load 3 (.t 2)), iI 6 (.call (.c (.fn 63 [])) [(.t 5)]), iI 7 (.load 2 (.t 3)), iI 8 (.call (.c (.fn 62 [])) [(.t 6), (.t 7)]), iI 4 (.mv (.t 8))]) .ret
def ir61 : C := .seq (.reg [iI 2 (.box (.t 0)), iI 3 (.box (.t 1)), iI 4 (.mv (.c (.int .i64 0)))]) c61_0
theorem fd61 : fd? Try.prog 61 = some (9, [.slot 4], ir61) := by kernel_rfl
noncomputable def f61 (h_150 : ApiHue) (q_151 : ApiParam) : Option (Int) :=
  (f63 h_150).bind fun r_152 => (f62 r_152 q_151).bind fun r_153 => (some r_153)
theorem f61_ok {h_150 : ApiHue} {q_151 : ApiParam} {r_ : Int} (H : f61 h_150 q_151 = some r_) : Pure Try.prog 61 [.agg [.int .i64 h_150.fChannel, .int .i64 h_150.fAttr, .int .i64 h_150.fLevel], .agg [.int .i64 q_151.fChannel, .int .i64 q_151.fAttr]] (· = .int .i64 r_) := by
  refine Pure.walk3 fd61 none (Nat.le_of_ble_eq_true rfl) (by rfl) fun Q hQ => ?_
  simp only [f61] at H
  refine AW.rseq ?_
  try simp only [↓wk, ↓wl, nc, evV, wrapBits_eq, ↓reduceIte, Nat.reduceEqDiff, Nat.reduceAdd, Nat.reduceSub, Nat.reduceLeDiff, Nat.reduceLT, Nat.reduceBEq, reduceCtorEq, Int.reduceEq]
  refine AW.rqseq ?_
  try simp only [↓wk, ↓wl, nc, evV, wrapBits_eq, ↓reduceIte, Nat.reduceEqDiff, Nat.reduceAdd, Nat.reduceSub, Nat.reduceLeDiff, Nat.reduceLT, Nat.reduceBEq, reduceCtorEq, Int.reduceEq]
  refine evTs_pure hFnq H (fun _ h => f63_ok h) (by rfl) (by rfl) (by rfl) (by rfl) (fun _ => rfl) ?_ <;> clear H <;> intro r_152 H
  try simp only [eL, eApiParam, ↓wk, ↓wl, nc, evV, wrapBits_eq, ↓reduceIte, Nat.reduceEqDiff, Nat.reduceAdd, Nat.reduceSub, Nat.reduceLeDiff, Nat.reduceLT, Nat.reduceBEq, reduceCtorEq, Int.reduceEq]
  refine evTs_pure hFnq H (fun _ h => f62_ok h) (by rfl) (by rfl) (by rfl) (by rfl) (fun _ => rfl) ?_ <;> clear H <;> intro r_153 H
  try simp only [eL, ↓wk, ↓wl, nc, evV, wrapBits_eq, ↓reduceIte, Nat.reduceEqDiff, Nat.reduceAdd, Nat.reduceSub, Nat.reduceLeDiff, Nat.reduceLT, Nat.reduceBEq, reduceCtorEq, Int.reduceEq]
  refine AW.ret ?_
  cases H
  exact hQ _ _ _ _ (.inr rfl) (by simp only [resVs, omap, resV, ↓wk, ↓wl, nc, evV, wrapBits_eq, ↓reduceIte, Nat.reduceEqDiff, Nat.reduceAdd, Nat.reduceSub, Nat.reduceLeDiff, Nat.reduceLT, Nat.reduceBEq, reduceCtorEq, Int.reduceEq]; rfl) (hand_plain (by rfl)) (by first | exact Or.inl rfl | exact Or.inr rfl)
noncomputable def f60_61_L1 (x_147 : (List ApiHue)) (target_148 : ApiParam) : Lp (Int × Int) (Int) where
  body := fun (i_170, j_171) => (if (decide (i_170 < j_171)) = true then (at? x_147 (IntKind.i64.wrap (Int.fdiv (IntKind.u64.wrap (IntKind.i64.wrap (i_170 + j_171))) (2 ^ (min (Int.toNat 1) (IntKind.bits .u64)))))).bind fun x_179 => (f61 x_179 target_148).bind fun r_180 => (if (decide (r_180 < 0)) = true then (some (.next ((IntKind.i64.wrap ((IntKind.i64.wrap (Int.fdiv (IntKind.u64.wrap (IntKind.i64.wrap (i_170 + j_171))) (2 ^ (min (Int.toNat 1) (IntKind.bits .u64))))) + 1)), j_171))) else (some (.next (i_170, (IntKind.i64.wrap (Int.fdiv (IntKind.u64.wrap (IntKind.i64.wrap (i_170 + j_171))) (2 ^ (min (Int.toNat 1) (IntKind.bits .u64))))))))) else (some (.brk i_170)))
  cst := fun (i_170, j_171) => ⟨put (put (put (put (put (put (fun _ => .junk) 10 (.int .i64 j_171)) 9 (.int .i64 i_170)) 8 (.int .i64 ((x_147.length : Nat) : Int))) 4 (.ptr 0 0)) 2 (.fn 61 [])) 0 (.sl 3 false (x_147.map eApiHue)), [.cel [.int .i64 target_148.fChannel, .int .i64 target_148.fAttr]]⟩
def c60_0 : C := .cond (.t 17) (.skip) (.exit 0)
def c60_1 : C := .cond (.t 31) (.reg [iI 32 (.mv (.t 11)), iI 33 (.bin .add (.t 32) (.c (.int .i64 1))), iI 9 (.mv (.t 33))]) (.reg [iI 34 (.mv (.t 11)), iI 10 (.mv (.t 34))])
def c60_2 : C := .seq (.reg [iI 24 (.mv (.t 2)), iI 25 (.mv (.t 0)), iI 26 (.mv (.t 11)), iI 27 (.iaddr 3 (.t 25) (.t 26)), iI 28 (.load 3 (.t 27)), iI 29 (.load 2 (.t 4)), iI 30 (.call (.t 24) [(.t 28), (.t 29)]), iI 31 (.bin .lss (.t 30) (.c (.int .i64 0)))]) c60_1
def c60_3 : C := .block 1 (.seq (.reg [iI 18 (.mv (.t 9)), iI 19 (.mv (.t 10)), iI 20 (.bin .add (.t 18) (.t 19)), iI 21 (.cint .u64 (.t 20)), iI 22 (.bin .shr (.t 21) (.c (.int .u64 1))), iI 23 (.cint .i64 (.t 22)), iI 11 (.mv (.t 23))]) c60_2)
def c60_4 : C := .seq (.reg [iI 35 (.mv (.t 9)), iI 36 (.mv (.t 9)), iI 37 (.mv (.t 8)), iI 38 (.bin .lss (.t 36) (.t 37)), iI 39 (.mv (.t 38)), iG (some 40) 39 true (.mv (.t 2)), iG (some 41) 39 true (.mv (.t 0)), iG (some 42) 39 true (.mv (.t 9)), iG (some 43) 39 true (.iaddr 3 (.t 41) (.t 42)), iG (some 44) 39 true (.load 3 (.t 43)), iG (some 45) 39 true (.load 2 (.t 4)), iG (some 46) 39 true (.call (.t 40) [(.t 44), (.t 45)]), iG (some 47) 39 true (.bin .eql (.t 46) (.c (.int .i64 0))), iI 48 (.pick (.t 39) (.t 47) (.c (.bool false))), iI 6 (.mv (.t 35)), iI 7 (.mv (.t 48))]) .ret
def c60_5 : C := .seq (.block 0 (.loop (.seq (.seq (.reg [iI 15 (.mv (.t 9)), iI 16 (.mv (.t 10)), iI 17 (.bin .lss (.t 15) (.t 16))]) c60_0) c60_3))) c60_4
def c60_6 : C := .seq (.reg [iI 14 (.mv (.t 8)), iI 9 (.mv (.c (.int .i64 0))), iI 10 (.mv (.t 14))]) c60_5
def c60_7 : C := .seq (.reg [iI 12 (.mv (.t 0)), iI 13 (.len 0 (.t 12)), iI 8 (.mv (.t 13))]) c60_6
def ir60 : C := .seq (.reg [iI 4 (.box (.t 1)), iI 6 (.mv (.c (.int .i64 0))), iI 7 (.mv (.c (.bool false)))]) c60_7
theorem fd60 : fd? Try.prog 60 = some (49, [.slot 6, .slot 7], ir60) := by kernel_rfl
noncomputable def f60_61 (x_147 : (List ApiHue)) (target_148 : ApiParam) : Option (Int × Bool) :=
  (Lp.run (f60_61_L1 x_147 target_148) (0, ((x_147.length : Nat) : Int))).bind fun i_174 => (if (decide (i_174 < ((x_147.length : Nat) : Int))) = true then (at? x_147 i_174).bind fun x_175 => (f61 x_175 target_148).bind fun r_176 => (some (i_174, (decide (r_176 = 0)))) else (some (i_174, false)))
theorem f60_61_ok {x_147 : (List ApiHue)} {target_148 : ApiParam} {r_ : Int × Bool} (H : f60_61 x_147 target_148 = some r_) : Pure Try.prog 60 [.sl 3 false (x_147.map eApiHue), .agg [.int .i64 target_148.fChannel, .int .i64 target_148.fAttr], .fn 61 []] (· = .tup [.int .i64 r_.1, .bool r_.2]) := by
  refine Pure.walk3 fd60 none (Nat.le_of_ble_eq_true rfl) (by rfl) fun Q hQ => ?_
  simp only [f60_61] at H
  refine AW.rseq ?_
  try simp only [↓wk, ↓wl, nc, evV, wrapBits_eq, ↓reduceIte, Nat.reduceEqDiff, Nat.reduceAdd, Nat.reduceSub, Nat.reduceLeDiff, Nat.reduceLT, Nat.reduceBEq, reduceCtorEq, Int.reduceEq]
  refine AW.rseq ?_
  try simp only [↓wk, ↓wl, nc, evV, wrapBits_eq, ↓reduceIte, Nat.reduceEqDiff, Nat.reduceAdd, Nat.reduceSub, Nat.reduceLeDiff, Nat.reduceLT, Nat.reduceBEq, reduceCtorEq, Int.reduceEq]
  refine AW.rseq ?_
  try simp only [↓wk, ↓wl, nc, evV, wrapBits_eq, ↓reduceIte, Nat.reduceEqDiff, Nat.reduceAdd, Nat.reduceSub, Nat.reduceLeDiff, Nat.reduceLT, Nat.reduceBEq, reduceCtorEq, Int.reduceEq]
  refine AW.bseq ?_
  refine AW.iter H ((Le.none [0] [0, 2, 4, 8, 9, 10] (by decide) (by simp only [f60_61_L1, List.length_set, Option.map_some, restrict_eq, renS_nil, renS_cons, renB_els, renB_cel, renB_dead, deep_eq, map_ren_enc, ren_agg', ren_tup', ren_fn', ren_int', ren_bool', ren_str', ren_sl', ren_pro', ren_nilp', ren_nilfn', ren_junk', ren_ptr', ren_row', ren_arow', ren_eptr', vm, List.idxOf?_cons, List.idxOf?_nil, beq_self_eq_true, Option.map_none, List.getD_cons_zero, List.getD_cons_succ, ↓wk, ↓wl, nc, evV, wrapBits_eq, ↓reduceIte, Nat.reduceEqDiff, Nat.reduceAdd, Nat.reduceSub, Nat.reduceLeDiff, Nat.reduceLT, Nat.reduceBEq, reduceCtorEq, Int.reduceEq] <;> rfl))) ?_ <;> clear H
  rintro ⟨i_170, j_171⟩ x_ st0_ H hst_
  simp only [f60_61_L1] at H hst_
  subst hst_
  refine AW.sseq ?_
  refine AW.rseq ?_
  try simp only [↓wk, ↓wl, nc, evV, wrapBits_eq, ↓reduceIte, Nat.reduceEqDiff, Nat.reduceAdd, Nat.reduceSub, Nat.reduceLeDiff, Nat.reduceLT, Nat.reduceBEq, reduceCtorEq, Int.reduceEq]
  refine AW.ifc H (by rfl) ?_ ?_ <;> clear H <;> intro H
  · refine AW.skip ?_
    refine seqQ.norm ?_
    refine AW.bend ?_
    refine AW.rseq ?_
    try simp only [↓wk, ↓wl, nc, evV, wrapBits_eq, ↓reduceIte, Nat.reduceEqDiff, Nat.reduceAdd, Nat.reduceSub, Nat.reduceLeDiff, Nat.reduceLT, Nat.reduceBEq, reduceCtorEq, Int.reduceEq]
    refine rest_shr (by decide) ?_
    try simp only [↓wk, ↓wl, nc, evV, wrapBits_eq, ↓reduceIte, Nat.reduceEqDiff, Nat.reduceAdd, Nat.reduceSub, Nat.reduceLeDiff, Nat.reduceLT, Nat.reduceBEq, reduceCtorEq, Int.reduceEq]
    refine AW.rseq ?_
    try simp only [↓wk, ↓wl, nc, evV, wrapBits_eq, ↓reduceIte, Nat.reduceEqDiff, Nat.reduceAdd, Nat.reduceSub, Nat.reduceLeDiff, Nat.reduceLT, Nat.reduceBEq, reduceCtorEq, Int.reduceEq]
    refine evTs_at (enc := eApiHue) H (by rfl) (by rfl) ?_ <;> clear H <;> intro x_179 H
    try simp only [eApiHue, eL, ↓wk, ↓wl, nc, evV, wrapBits_eq, ↓reduceIte, Nat.reduceEqDiff, Nat.reduceAdd, Nat.reduceSub, Nat.reduceLeDiff, Nat.reduceLT, Nat.reduceBEq, reduceCtorEq, Int.reduceEq]
    refine evTs_pure hFn H (fun _ h => f61_ok h) (by rfl) (by rfl) (by rfl) (by rfl) (fun _ => rfl) ?_ <;> clear H <;> intro r_180 H
    try simp only [eL, ↓wk, ↓wl, nc, evV, wrapBits_eq, ↓reduceIte, Nat.reduceEqDiff, Nat.reduceAdd, Nat.reduceSub, Nat.reduceLeDiff, Nat.reduceLT, Nat.reduceBEq, reduceCtorEq, Int.reduceEq]
    refine AW.ifc H (by rfl) ?_ ?_ <;> clear H <;> intro H
    · refine AW.rend ?_
      try simp only [↓wk, ↓wl, nc, evV, wrapBits_eq, ↓reduceIte, Nat.reduceEqDiff, Nat.reduceAdd, Nat.reduceSub, Nat.reduceLeDiff, Nat.reduceLT, Nat.reduceBEq, reduceCtorEq, Int.reduceEq]
      refine blk0.norm ?_
      exact loopQ.next H ((Le.none [0] [0, 2, 4, 8, 9, 10] (by decide) (by simp only [f60_61_L1, List.length_set, Option.map_some, restrict_eq, renS_nil, renS_cons, renB_els, renB_cel, renB_dead, deep_eq, map_ren_enc, ren_agg', ren_tup', ren_fn', ren_int', ren_bool', ren_str', ren_sl', ren_pro', ren_nilp', ren_nilfn', ren_junk', ren_ptr', ren_row', ren_arow', ren_eptr', vm, List.idxOf?_cons, List.idxOf?_nil, beq_self_eq_true, Option.map_none, List.getD_cons_zero, List.getD_cons_succ, ↓wk, ↓wl, nc, evV, wrapBits_eq, ↓reduceIte, Nat.reduceEqDiff, Nat.reduceAdd, Nat.reduceSub, Nat.reduceLeDiff, Nat.reduceLT, Nat.reduceBEq, reduceCtorEq, Int.reduceEq] <;> rfl)))
    · refine AW.rend ?_
      try simp only [↓wk, ↓wl, nc, evV, wrapBits_eq, ↓reduceIte, Nat.reduceEqDiff, Nat.reduceAdd, Nat.reduceSub, Nat.reduceLeDiff, Nat.reduceLT, Nat.reduceBEq, reduceCtorEq, Int.reduceEq]
      refine blk0.norm ?_
      exact loopQ.next H ((Le.none [0] [0, 2, 4, 8, 9, 10] (by decide) (by simp only [f60_61_L1, List.length_set, Option.map_some, restrict_eq, renS_nil, renS_cons, renB_els, renB_cel, renB_dead, deep_eq, map_ren_enc, ren_agg', ren_tup', ren_fn', ren_int', ren_bool', ren_str', ren_sl', ren_pro', ren_nilp', ren_nilfn', ren_junk', ren_ptr', ren_row', ren_arow', ren_eptr', vm, List.idxOf?_cons, List.idxOf?_nil, beq_self_eq_true, Option.map_none, List.getD_cons_zero, List.getD_cons_succ, ↓wk, ↓wl, nc, evV, wrapBits_eq, ↓reduceIte, Nat.reduceEqDiff, Nat.reduceAdd, Nat.reduceSub, Nat.reduceLeDiff, Nat.reduceLT, Nat.reduceBEq, reduceCtorEq, Int.reduceEq] <;> rfl)))
  · refine AW.exit ?_
    refine seqQ.exit ?_
    refine loopQ.exit H ?_ <;> clear H <;> intro H
    try dsimp only at H
    refine blkQ.here ?_
    refine AW.rseq ?_
    try simp only [↓wk, ↓wl, nc, evV, wrapBits_eq, ↓reduceIte, Nat.reduceEqDiff, Nat.reduceAdd, Nat.reduceSub, Nat.reduceLeDiff, Nat.reduceLT, Nat.reduceBEq, reduceCtorEq, Int.reduceEq]
    refine evTs_ifg H (by rfl) ?_ ?_ <;> clear H <;> intro H
    · try simp only [↓wk, ↓wl, nc, evV, wrapBits_eq, ↓reduceIte, Nat.reduceEqDiff, Nat.reduceAdd, Nat.reduceSub, Nat.reduceLeDiff, Nat.reduceLT, Nat.reduceBEq, reduceCtorEq, Int.reduceEq]
      refine evTs_at (enc := eApiHue) H (by rfl) (by rfl) ?_ <;> clear H <;> intro x_181 H
      try simp only [eApiHue, eL, ↓wk, ↓wl, nc, evV, wrapBits_eq, ↓reduceIte, Nat.reduceEqDiff, Nat.reduceAdd, Nat.reduceSub, Nat.reduceLeDiff, Nat.reduceLT, Nat.reduceBEq, reduceCtorEq, Int.reduceEq]
      refine evTs_pure hFn H (fun _ h => f61_ok h) (by rfl) (by rfl) (by rfl) (by rfl) (fun _ => rfl) ?_ <;> clear H <;> intro r_182 H
      try simp only [eL, ↓wk, ↓wl, nc, evV, wrapBits_eq, ↓reduceIte, Nat.reduceEqDiff, Nat.reduceAdd, Nat.reduceSub, Nat.reduceLeDiff, Nat.reduceLT, Nat.reduceBEq, reduceCtorEq, Int.reduceEq]
      refine AW.ret ?_
      cases H
      exact hQ _ _ _ _ (.inr rfl) (by simp only [resVs, omap, resV, ↓wk, ↓wl, nc, evV, wrapBits_eq, ↓reduceIte, Nat.reduceEqDiff, Nat.reduceAdd, Nat.reduceSub, Nat.reduceLeDiff, Nat.reduceLT, Nat.reduceBEq, reduceCtorEq, Int.reduceEq]; rfl) (hand_plain (by rfl)) (by first | exact Or.inl rfl | exact Or.inr rfl)
    · try simp only [↓wk, ↓wl, nc, evV, wrapBits_eq, ↓reduceIte, Nat.reduceEqDiff, Nat.reduceAdd, Nat.reduceSub, Nat.reduceLeDiff, Nat.reduceLT, Nat.reduceBEq, reduceCtorEq, Int.reduceEq]
      refine AW.ret ?_
      cases H
      exact hQ _ _ _ _ (.inr rfl) (by simp only [resVs, omap, resV, ↓wk, ↓wl, nc, evV, wrapBits_eq, ↓reduceIte, Nat.reduceEqDiff, Nat.reduceAdd, Nat.reduceSub, Nat.reduceLeDiff, Nat.reduceLT, Nat.reduceBEq, reduceCtorEq, Int.reduceEq]; rfl) (hand_plain (by rfl)) (by first | exact Or.inl rfl | exact Or.inr rfl)
noncomputable def f36_L1 (p_106 : ApiParam) (l_104 : (List ApiPalette)) (r_144 : Int × Bool) : Lp (Int) ((Unit) ⊕ (Int)) where
  body := fun v_192 => (if (decide (v_192 < ((([p_106, (ApiParam.mk 0 p_106.fAttr)]).length : Nat) : Int))) = true then (at? ([p_106, (ApiParam.mk 0 p_106.fAttr)]) v_192).bind fun x_199 => (at? l_104 r_144.1).bind fun x_200 => (f60_61 x_200.fHues x_199).bind fun r_201 => (if r_201.2 = true then (at? l_104 r_144.1).bind fun x_202 => (at? x_202.fHues r_201.1).bind fun x_203 => (some (.brk (Sum.inr x_203.fLevel))) else (some (.next (IntKind.i64.wrap (v_192 + 1))))) else (some (.brk (Sum.inl ()))))
  cst := fun v_192 => ⟨put (put (put (put (put (fun _ => .junk) 28 (.int .i64 v_192)) 27 (.int .i64 ((([p_106, (ApiParam.mk 0 p_106.fAttr)]).length : Nat) : Int))) 26 (.sl 2 true (([p_106, (ApiParam.mk 0 p_106.fAttr)]).map eApiParam))) 8 (.int .i64 r_144.1)) 0 (.sl 2 false (l_104.map eApiPalette)), []⟩
def c36_0 : C := .cond (.t 21) (.seq (.reg [iI 6 (.mv (.c (.int .i64 0))), iI 7 (.mv (.c (.bool false)))]) .ret) (.skip)
def c36_1 : C := .cond (.t 42) (.seq (.reg [iI 43 (.mv (.t 0)), iI 44 (.mv (.t 8)), iI 45 (.iaddr 2 (.t 43) (.t 44)), iI 46 (.faddr 1 (.t 45)), iI 47 (.load 0 (.t 46)), iI 48 (.mv (.t 12)), iI 49 (.iaddr 3 (.t 47) (.t 48)), iI 50 (.faddr 2 (.t 49)), iI 51 (.load 0 (.t 50)), iI 6 (.mv (.t 51)), iI 7 (.mv (.c (.bool true)))]) .ret) (.skip)
def c36_2 : C := .seq (.reg [iI 42 (.mv (.t 13))]) c36_1
def c36_3 : C := .seq (.reg [iI 33 (.mv (.t 0)), iI 34 (.mv (.t 8)), iI 35 (.iaddr 2 (.t 33) (.t 34)), iI 36 (.faddr 1 (.t 35)), iI 37 (.load 0 (.t 36)), iI 38 (.load 2 (.t 11)), iI 39 (.call (.c (.fn 60 [])) [(.t 37), (.t 38), (.c (.fn 61 []))]), iI 32 (.mv (.t 39)), iI 40 (.ext (.t 32) 0), iI 41 (.ext (.t 32) 1), iI 12 (.mv (.t 40)), iI 13 (.mv (.t 41))]) c36_2
def c36_4 : C := .reg [iI 52 (.bin .add (.t 28) (.c (.int .i64 1))), iI 28 (.mv (.t 52))]
def c36_5 : C := .seq (.block 1 (.seq (.reg [iI 30 (.iaddr 2 (.t 26) (.t 28)), iI 31 (.load 2 (.t 30)), iI 11 (.alloc [(1, (.int .i64 0)), (1, (.int .i64 0))]), iN (.store 2 (.t 11) (.t 31))]) c36_3)) c36_4
def c36_6 : C := .seq (.cond (.t 29) (.skip) (.exit 0)) c36_5
def c36_7 : C := .block 0 (.loop (.seq (.reg [iI 29 (.bin .lss (.t 28) (.t 27))]) c36_6))
def c36_8 : C := .seq (.reg [iI 6 (.mv (.c (.int .i64 0))), iI 7 (.mv (.c (.bool false)))]) .ret
def c36_9 : C := .seq (.seq (.reg [iI 22 (.load 2 (.t 5)), iI 23 (.faddr 1 (.t 5)), iI 24 (.load 0 (.t 23)), iI 25 (.build [(1, (.int .i64 0)), (1, (.int .i64 0))] [(1, 0, (.t 24))]), iI 26 (.mkslp 2 2 (.agg [(.int .i64 0), (.int .i64 0)]) [(0, (.t 22)), (1, (.t 25))]), iI 27 (.len 0 (.t 26)), iI 28 (.mv (.c (.int .i64 0)))]) c36_7) c36_8
def c36_10 : C := .seq (.seq (.reg [iI 20 (.mv (.t 9)), iI 21 (.un .not (.t 20))]) c36_0) c36_9
def c36_11 : C := .seq (.reg [iI 15 (.mv (.t 0)), iI 16 (.mv (.t 1)), iI 17 (.call (.c (.fn 52 [])) [(.t 15), (.t 16)]), iI 14 (.mv (.t 17)), iI 18 (.ext (.t 14) 0), iI 19 (.ext (.t 14) 1), iI 8 (.mv (.t 18)), iI 9 (.mv (.t 19))]) c36_10
def ir36 : C := .seq (.reg [iI 5 (.box (.t 2)), iI 6 (.mv (.c (.int .i64 0))), iI 7 (.mv (.c (.bool false)))]) c36_11
theorem fd36 : fd? Try.prog 36 = some (53, [.slot 6, .slot 7], ir36) := by kernel_rfl
noncomputable def f36 (l_104 : (List ApiPalette)) (number_105 : Int) (p_106 : ApiParam) : Option (Int × Bool) :=
  (f52 l_104 number_105).bind fun r_144 => (if (!r_144.2) = true then (some (0, false)) else ((Lp.run (f36_L1 p_106 l_104 r_144) 0).bind fun r_ => match r_ with | (Sum.inl _) => (some (0, false)) | (Sum.inr v_198) => (some (v_198, true))))
theorem f36_ok {l_104 : (List ApiPalette)} {number_105 : Int} {p_106 : ApiParam} {r_ : Int × Bool} (H : f36 l_104 number_105 p_106 = some r_) : Pure Try.prog 36 [.sl 2 false (l_104.map eApiPalette), .int .i64 number_105, .agg [.int .i64 p_106.fChannel, .int .i64 p_106.fAttr]] (· = .tup [.int .i64 r_.1, .bool r_.2]) := by
  refine Pure.walk3 fd36 none (Nat.le_of_ble_eq_true rfl) (by rfl) fun Q hQ => ?_
  simp only [f36] at H
  refine AW.rseq ?_
  try simp only [↓wk, ↓wl, nc, evV, wrapBits_eq, ↓reduceIte, Nat.reduceEqDiff, Nat.reduceAdd, Nat.reduceSub, Nat.reduceLeDiff, Nat.reduceLT, Nat.reduceBEq, reduceCtorEq, Int.reduceEq]
  refine AW.rseq ?_
  try simp only [↓wk, ↓wl, nc, evV, wrapBits_eq, ↓reduceIte, Nat.reduceEqDiff, Nat.reduceAdd, Nat.reduceSub, Nat.reduceLeDiff, Nat.reduceLT, Nat.reduceBEq, reduceCtorEq, Int.reduceEq]
  refine evTs_pure hFn H (fun _ h => f52_ok h) (by rfl) (by rfl) (by rfl) (by rfl) (fun _ => rfl) ?_ <;> clear H <;> intro r_144 H
  try simp only [eL, ↓wk, ↓wl, nc, evV, wrapBits_eq, ↓reduceIte, Nat.reduceEqDiff, Nat.reduceAdd, Nat.reduceSub, Nat.reduceLeDiff, Nat.reduceLT, Nat.reduceBEq, reduceCtorEq, Int.reduceEq]
  refine AW.sseq ?_
  refine AW.rseq ?_
  try simp only [↓wk, ↓wl, nc, evV, wrapBits_eq, ↓reduceIte, Nat.reduceEqDiff, Nat.reduceAdd, Nat.reduceSub, Nat.reduceLeDiff, Nat.reduceLT, Nat.reduceBEq, reduceCtorEq, Int.reduceEq]
  refine AW.ifc H (by rfl) ?_ ?_ <;> clear H <;> intro H
  · refine AW.rseq ?_
    try simp only [↓wk, ↓wl, nc, evV, wrapBits_eq, ↓reduceIte, Nat.reduceEqDiff, Nat.reduceAdd, Nat.reduceSub, Nat.reduceLeDiff, Nat.reduceLT, Nat.reduceBEq, reduceCtorEq, Int.reduceEq]
    refine AW.ret ?_
    refine seqQ.ret ?_
    cases H
    exact hQ _ _ _ _ (.inr rfl) (by simp only [resVs, omap, resV, ↓wk, ↓wl, nc, evV, wrapBits_eq, ↓reduceIte, Nat.reduceEqDiff, Nat.reduceAdd, Nat.reduceSub, Nat.reduceLeDiff, Nat.reduceLT, Nat.reduceBEq, reduceCtorEq, Int.reduceEq]; rfl) (hand_plain (by rfl)) (by first | exact Or.inl rfl | exact Or.inr rfl)
  · refine AW.skip ?_
    refine seqQ.norm ?_
    refine AW.sseq ?_
    refine AW.rseq ?_
    try simp only [↓wk, ↓wl, nc, evV, wrapBits_eq, ↓reduceIte, Nat.reduceEqDiff, Nat.reduceAdd, Nat.reduceSub, Nat.reduceLeDiff, Nat.reduceLT, Nat.reduceBEq, reduceCtorEq, Int.reduceEq]
    refine AW.bend ?_
    refine AW.iter H ((Le.none [] [0, 8, 26, 27, 28] (by decide) (by simp only [f36_L1, List.length_set, Option.map_some, restrict_eq, renS_nil, renS_cons, renB_els, renB_cel, renB_dead, deep_eq, map_ren_enc, ren_agg', ren_tup', ren_fn', ren_int', ren_bool', ren_str', ren_sl', ren_pro', ren_nilp', ren_nilfn', ren_junk', ren_ptr', ren_row', ren_arow', ren_eptr', vm, List.idxOf?_cons, List.idxOf?_nil, beq_self_eq_true, Option.map_none, List.getD_cons_zero, List.getD_cons_succ, ↓wk, ↓wl, nc, evV, wrapBits_eq, ↓reduceIte, Nat.reduceEqDiff, Nat.reduceAdd, Nat.reduceSub, Nat.reduceLeDiff, Nat.reduceLT, Nat.reduceBEq, reduceCtorEq, Int.reduceEq] <;> rfl))) ?_ <;> clear H
    rintro v_192 x_ st0_ H hst_
    simp only [f36_L1] at H hst_
    subst hst_
    refine AW.rseq ?_
    try simp only [↓wk, ↓wl, nc, evV, wrapBits_eq, ↓reduceIte, Nat.reduceEqDiff, Nat.reduceAdd, Nat.reduceSub, Nat.reduceLeDiff, Nat.reduceLT, Nat.reduceBEq, reduceCtorEq, Int.reduceEq]
    refine AW.sseq ?_
    refine AW.ifc H (by rfl) ?_ ?_ <;> clear H <;> intro H
    · refine AW.skip ?_
      refine seqQ.norm ?_
      refine AW.bseq ?_
      refine AW.rseq ?_
      try simp only [↓wk, ↓wl, nc, evV, wrapBits_eq, ↓reduceIte, Nat.reduceEqDiff, Nat.reduceAdd, Nat.reduceSub, Nat.reduceLeDiff, Nat.reduceLT, Nat.reduceBEq, reduceCtorEq, Int.reduceEq]
      refine evTs_at (enc := eApiParam) H (by rfl) (by rfl) ?_ <;> clear H <;> intro x_199 H
      try simp only [eApiParam, eL, ↓wk, ↓wl, nc, evV, wrapBits_eq, ↓reduceIte, Nat.reduceEqDiff, Nat.reduceAdd, Nat.reduceSub, Nat.reduceLeDiff, Nat.reduceLT, Nat.reduceBEq, reduceCtorEq, Int.reduceEq]
      refine AW.rseq ?_
      try simp only [↓wk, ↓wl, nc, evV, wrapBits_eq, ↓reduceIte, Nat.reduceEqDiff, Nat.reduceAdd, Nat.reduceSub, Nat.reduceLeDiff, Nat.reduceLT, Nat.reduceBEq, reduceCtorEq, Int.reduceEq]
      refine evTs_at (enc := eApiPalette) H (by rfl) (by rfl) ?_ <;> clear H <;> intro x_200 H
      try simp only [eApiPalette, eL, ↓wk, ↓wl, nc, evV, wrapBits_eq, ↓reduceIte, Nat.reduceEqDiff, Nat.reduceAdd, Nat.reduceSub, Nat.reduceLeDiff, Nat.reduceLT, Nat.reduceBEq, reduceCtorEq, Int.reduceEq]
      refine evTs_pure hFn H (fun _ h => f60_61_ok h) (by rfl) (by rfl) (by rfl) (by rfl) (fun _ => rfl) ?_ <;> clear H <;> intro r_201 H
      try simp only [eL, ↓wk, ↓wl, nc, evV, wrapBits_eq, ↓reduceIte, Nat.reduceEqDiff, Nat.reduceAdd, Nat.reduceSub, Nat.reduceLeDiff, Nat.reduceLT, Nat.reduceBEq, reduceCtorEq, Int.reduceEq]
      refine AW.rseq ?_
      try simp only [↓wk, ↓wl, nc, evV, wrapBits_eq, ↓reduceIte, Nat.reduceEqDiff, Nat.reduceAdd, Nat.reduceSub, Nat.reduceLeDiff, Nat.reduceLT, Nat.reduceBEq, reduceCtorEq, Int.reduceEq]
      refine AW.ifc H (by rfl) ?_ ?_ <;> clear H <;> intro H
      · refine AW.rseq ?_
        try simp only [↓wk, ↓wl, nc, evV, wrapBits_eq, ↓reduceIte, Nat.reduceEqDiff, Nat.reduceAdd, Nat.reduceSub, Nat.reduceLeDiff, Nat.reduceLT, Nat.reduceBEq, reduceCtorEq, Int.reduceEq]
        refine evTs_at (enc := eApiPalette) H (by rfl) (by rfl) ?_ <;> clear H <;> intro x_202 H
        try simp only [eApiPalette, eL, ↓wk, ↓wl, nc, evV, wrapBits_eq, ↓reduceIte, Nat.reduceEqDiff, Nat.reduceAdd, Nat.reduceSub, Nat.reduceLeDiff, Nat.reduceLT, Nat.reduceBEq, reduceCtorEq, Int.reduceEq]
        refine evTs_at (enc := eApiHue) H (by rfl) (by rfl) ?_ <;> clear H <;> intro x_203 H
        try simp only [eApiHue, eL, ↓wk, ↓wl, nc, evV, wrapBits_eq, ↓reduceIte, Nat.reduceEqDiff, Nat.reduceAdd, Nat.reduceSub, Nat.reduceLeDiff, Nat.reduceLT, Nat.reduceBEq, reduceCtorEq, Int.reduceEq]
        refine AW.ret ?_
        refine blkQ.ret ?_
        refine loopQ.ret H ?_ <;> clear H <;> intro H
        try dsimp only at H
        refine blk0.ret ?_
        refine seqQ.ret ?_
        cases H
        exact hQ _ _ _ _ (.inr rfl) (by simp only [resVs, omap, resV, ↓wk, ↓wl, nc, evV, wrapBits_eq, ↓reduceIte, Nat.reduceEqDiff, Nat.reduceAdd, Nat.reduceSub, Nat.reduceLeDiff, Nat.reduceLT, Nat.reduceBEq, reduceCtorEq, Int.reduceEq]; rfl) (hand_plain (by rfl)) (by first | exact Or.inl rfl | exact Or.inr rfl)
      · refine AW.skip ?_
        refine blkQ.norm ?_
        refine AW.rend ?_
        try simp only [↓wk, ↓wl, nc, evV, wrapBits_eq, ↓reduceIte, Nat.reduceEqDiff, Nat.reduceAdd, Nat.reduceSub, Nat.reduceLeDiff, Nat.reduceLT, Nat.reduceBEq, reduceCtorEq, Int.reduceEq]
        exact loopQ.next H ((Le.none [] [0, 8, 26, 27, 28] (by decide) (by simp only [f36_L1, List.length_set, Option.map_some, restrict_eq, renS_nil, renS_cons, renB_els, renB_cel, renB_dead, deep_eq, map_ren_enc, ren_agg', ren_tup', ren_fn', ren_int', ren_bool', ren_str', ren_sl', ren_pro', ren_nilp', ren_nilfn', ren_junk', ren_ptr', ren_row', ren_arow', ren_eptr', vm, List.idxOf?_cons, List.idxOf?_nil, beq_self_eq_true, Option.map_none, List.getD_cons_zero, List.getD_cons_succ, ↓wk, ↓wl, nc, evV, wrapBits_eq, ↓reduceIte, Nat.reduceEqDiff, Nat.reduceAdd, Nat.reduceSub, Nat.reduceLeDiff, Nat.reduceLT, Nat.reduceBEq, reduceCtorEq, Int.reduceEq] <;> rfl)))
    · refine AW.exit ?_
      refine seqQ.exit ?_
      refine loopQ.exit H ?_ <;> clear H <;> intro H
      try dsimp only at H
      refine blk0.here ?_
      refine seqQ.norm ?_
      refine AW.rseq ?_
      try simp only [↓wk, ↓wl, nc, evV, wrapBits_eq, ↓reduceIte, Nat.reduceEqDiff, Nat.reduceAdd, Nat.reduceSub, Nat.reduceLeDiff, Nat.reduceLT, Nat.reduceBEq, reduceCtorEq, Int.reduceEq]
      refine AW.ret ?_
      cases H
      exact hQ _ _ _ _ (.inr rfl) (by simp only [resVs, omap, resV, ↓wk, ↓wl, nc, evV, wrapBits_eq, ↓reduceIte, Nat.reduceEqDiff, Nat.reduceAdd, Nat.reduceSub, Nat.reduceLeDiff, Nat.reduceLT, Nat.reduceBEq, reduceCtorEq, Int.reduceEq]; rfl) (hand_plain (by rfl)) (by first | exact Or.inl rfl | exact Or.inr rfl)
noncomputable def f9_L1 (r_94 : Int) (r_95 : Int) (r_96 : Int) (home_20 : Int) (l_17 : (List ApiPalette)) (v_18 : ApiValue) (p_19 : ApiParam) : Lp (Int) ((Unit) ⊕ (Int)) where
  body := fun v_100 => (if (decide (v_100 < ((([r_94, r_95, r_96]).length : Nat) : Int))) = true then (at? ([r_94, r_95, r_96]) v_100).bind fun x_206 => (if (decide (x_206 ≠ 0)) = true then (some (.brk (Sum.inr x_206))) else (some (.next (IntKind.i64.wrap (v_100 + 1))))) else (some (.brk (Sum.inl ()))))
  cst := fun v_100 => ⟨put (put (put (put (put (put (put (fun _ => .junk) 22 (.int .i64 v_100)) 21 (.int .i64 ((([r_94, r_95, r_96]).length : Nat) : Int))) 20 (.sl 0 true (([r_94, r_95, r_96]).map (AV.int .i64)))) 6 (.ptr 1 0)) 5 (.ptr 0 0)) 3 (.int .i64 home_20)) 0 (.sl 2 false (l_17.map eApiPalette)), [.cel [.int .i64 v_18.fPalette, .int .i64 v_18.fLevel], .cel [.int .i64 p_19.fChannel, .int .i64 p_19.fAttr]]⟩
def c9_0 : C := .cond (.t 27) (.seq (.reg [iI 28 (.mv (.t 11)), iI 8 (.mv (.c (.int .i64 0))), iI 9 (.mv (.t 28))]) .ret) (.skip)
def c9_1 : C := .seq (.reg [iI 26 (.mv (.t 11)), iI 27 (.bin .neq (.t 26) (.c (.int .i64 0)))]) c9_0
def c9_2 : C := .reg [iI 29 (.bin .add (.t 22) (.c (.int .i64 1))), iI 22 (.mv (.t 29))]
def c9_3 : C := .seq (.block 1 (.seq (.reg [iI 24 (.iaddr 0 (.t 20) (.t 22)), iI 25 (.load 0 (.t 24)), iI 11 (.mv (.t 25))]) c9_1)) c9_2
def c9_4 : C := .seq (.cond (.t 23) (.skip) (.exit 0)) c9_3
def c9_5 : C := .block 0 (.loop (.seq (.reg [iI 23 (.bin .lss (.t 22) (.t 21))]) c9_4))
def c9_6 : C := .cond (.t 32) (.seq (.reg [iI 8 (.mv (.c (.int .i64 0))), iI 9 (.mv (.c (.int .i64 2)))]) .ret) (.skip)
def c9_7 : C := .cond (.t 35) (.seq (.reg [iI 36 (.faddr 1 (.t 5)), iI 37 (.load 0 (.t 36)), iI 8 (.mv (.t 37)), iI 9 (.mv (.c (.int .i64 0)))]) .ret) (.skip)
def c9_8 : C := .cond (.t 46) (.seq (.reg [iI 47 (.mv (.t 12)), iI 8 (.mv (.t 47)), iI 9 (.mv (.c (.int .i64 0)))]) .ret) (.skip)
def c9_9 : C := .seq (.reg [iI 46 (.mv (.t 13))]) c9_8
def c9_10 : C := .seq (.reg [iI 48 (.mv (.t 3)), iI 8 (.mv (.t 48)), iI 9 (.mv (.c (.int .i64 0)))]) .ret
def c9_11 : C := .seq (.seq (.reg [iI 39 (.mv (.t 0)), iI 40 (.faddr 0 (.t 5)), iI 41 (.load 0 (.t 40)), iI 42 (.load 2 (.t 6)), iI 43 (.call (.c (.fn 36 [])) [(.t 39), (.t 41), (.t 42)]), iI 38 (.mv (.t 43)), iI 44 (.ext (.t 38) 0), iI 45 (.ext (.t 38) 1), iI 12 (.mv (.t 44)), iI 13 (.mv (.t 45))]) c9_9) c9_10
def c9_12 : C := .seq (.seq (.reg [iI 33 (.faddr 0 (.t 5)), iI 34 (.load 0 (.t 33)), iI 35 (.bin .eql (.t 34) (.c (.int .i64 0)))]) c9_7) c9_11
def c9_13 : C := .seq (.seq (.reg [iI 30 (.mv (.t 3)), iI 31 (.call (.c (.fn 35 [])) [(.t 30)]), iI 32 (.un .not (.t 31))]) c9_6) c9_12
def c9_14 : C := .seq (.seq (.regq [iI 14 (.mv (.t 0)), iI 15 (.call (.c (.fn 32 [])) [(.t 14)]), iI 16 (.load 2 (.t 5)), iI 17 (.call (.c (.fn 33 [])) [(.t 16)]), iI 18 (.load 2 (.t 6)), iI 19 (.call (.c (.fn 34 [])) [(.t 18), (.c (.int .i64 1))]), iI 20 (.mkslp 0 3 (.int .i64 0) [(0, (.t 15)), (1, (.t 17)), (2, (.t 19))]), iI 21 (.len 0 (.t 20)), iI 22 (.mv (.c (.int .i64 0)))]) c9_5) c9_13
def ir9 : C := .seq (.reg [iI 5 (.box (.t 1)), iI 6 (.box (.t 2)), iI 8 (.mv (.c (.int .i64 0))), iI 9 (.mv (.c (.int .i64 0)))]) c9_14
theorem fd9 : fd? Try.prog 9 = some (49, [.slot 8, .slot 9], ir9) := by kernel_rfl
noncomputable def f9 (l_17 : (List ApiPalette)) (v_18 : ApiValue) (p_19 : ApiParam) (home_20 : Int) : Option (Int × Int) :=
  (f32 l_17).bind fun r_94 => (f33 v_18).bind fun r_95 => (f34 p_19 1).bind fun r_96 => ((Lp.run (f9_L1 r_94 r_95 r_96 home_20 l_17 v_18 p_19) 0).bind fun r_ => match r_ with | (Sum.inl _) => (f35 home_20).bind fun r_103 => (if (!r_103) = true then (some (0, 2)) else (if (decide (v_18.fPalette = 0)) = true then (some (v_18.fLevel, 0)) else (f36 l_17 v_18.fPalette p_19).bind fun r_204 => (if r_204.2 = true then (some (r_204.1, 0)) else (some (home_20, 0))))) | (Sum.inr v_205) => (some (0, v_205)))
theorem f9_ok {l_17 : (List ApiPalette)} {v_18 : ApiValue} {p_19 : ApiParam} {home_20 : Int} {r_ : Int × Int} (H : f9 l_17 v_18 p_19 home_20 = some r_) : Pure Try.prog 9 [.sl 2 false (l_17.map eApiPalette), .agg [.int .i64 v_18.fPalette, .int .i64 v_18.fLevel], .agg [.int .i64 p_19.fChannel, .int .i64 p_19.fAttr], .int .i64 home_20] (· = .tup [.int .i64 r_.1, .int .i64 r_.2]) := by
  refine Pure.walk3 fd9 none (Nat.le_of_ble_eq_true rfl) (by rfl) fun Q hQ => ?_
  simp only [f9] at H
  refine AW.rseq ?_
  try simp only [↓wk, ↓wl, nc, evV, wrapBits_eq, ↓reduceIte, Nat.reduceEqDiff, Nat.reduceAdd, Nat.reduceSub, Nat.reduceLeDiff, Nat.reduceLT, Nat.reduceBEq, reduceCtorEq, Int.reduceEq]
  refine AW.sseq ?_
  refine AW.rqseq ?_
  try simp only [↓wk, ↓wl, nc, evV, wrapBits_eq, ↓reduceIte, Nat.reduceEqDiff, Nat.reduceAdd, Nat.reduceSub, Nat.reduceLeDiff, Nat.reduceLT, Nat.reduceBEq, reduceCtorEq, Int.reduceEq]
  refine evTs_pure hFnq H (fun _ h => f32_ok h) (by rfl) (by rfl) (by rfl) (by rfl) (fun _ => rfl) ?_ <;> clear H <;> intro r_94 H
  try simp only [eL, ↓wk, ↓wl, nc, evV, wrapBits_eq, ↓reduceIte, Nat.reduceEqDiff, Nat.reduceAdd, Nat.reduceSub, Nat.reduceLeDiff, Nat.reduceLT, Nat.reduceBEq, reduceCtorEq, Int.reduceEq]
  refine evTs_pure hFnq H (fun _ h => f33_ok h) (by rfl) (by rfl) (by rfl) (by rfl) (fun _ => rfl) ?_ <;> clear H <;> intro r_95 H
  try simp only [eL, ↓wk, ↓wl, nc, evV, wrapBits_eq, ↓reduceIte, Nat.reduceEqDiff, Nat.reduceAdd, Nat.reduceSub, Nat.reduceLeDiff, Nat.reduceLT, Nat.reduceBEq, reduceCtorEq, Int.reduceEq]
  refine evTs_pure hFnq H (fun _ h => f34_ok h) (by rfl) (by rfl) (by rfl) (by rfl) (fun _ => rfl) ?_ <;> clear H <;> intro r_96 H
  try simp only [eL, ↓wk, ↓wl, nc, evV, wrapBits_eq, ↓reduceIte, Nat.reduceEqDiff, Nat.reduceAdd, Nat.reduceSub, Nat.reduceLeDiff, Nat.reduceLT, Nat.reduceBEq, reduceCtorEq, Int.reduceEq]
  refine AW.bend ?_
  refine AW.iter H ((Le.none [0, 1] [0, 3, 5, 6, 20, 21, 22] (by decide) (by simp only [f9_L1, List.length_set, Option.map_some, restrict_eq, renS_nil, renS_cons, renB_els, renB_cel, renB_dead, deep_eq, map_ren_enc, ren_agg', ren_tup', ren_fn', ren_int', ren_bool', ren_str', ren_sl', ren_pro', ren_nilp', ren_nilfn', ren_junk', ren_ptr', ren_row', ren_arow', ren_eptr', vm, List.idxOf?_cons, List.idxOf?_nil, beq_self_eq_true, Option.map_none, List.getD_cons_zero, List.getD_cons_succ, ↓wk, ↓wl, nc, evV, wrapBits_eq, ↓reduceIte, Nat.reduceEqDiff, Nat.reduceAdd, Nat.reduceSub, Nat.reduceLeDiff, Nat.reduceLT, Nat.reduceBEq, reduceCtorEq, Int.reduceEq] <;> rfl))) ?_ <;> clear H
  rintro v_100 x_ st0_ H hst_
  simp only [f9_L1] at H hst_
  subst hst_
  refine AW.rseq ?_
  try simp only [↓wk, ↓wl, nc, evV, wrapBits_eq, ↓reduceIte, Nat.reduceEqDiff, Nat.reduceAdd, Nat.reduceSub, Nat.reduceLeDiff, Nat.reduceLT, Nat.reduceBEq, reduceCtorEq, Int.reduceEq]
  refine AW.sseq ?_
  refine AW.ifc H (by rfl) ?_ ?_ <;> clear H <;> intro H
  · refine AW.skip ?_
    refine seqQ.norm ?_
    refine AW.bseq ?_
    refine AW.rseq ?_
    try simp only [↓wk, ↓wl, nc, evV, wrapBits_eq, ↓reduceIte, Nat.reduceEqDiff, Nat.reduceAdd, Nat.reduceSub, Nat.reduceLeDiff, Nat.reduceLT, Nat.reduceBEq, reduceCtorEq, Int.reduceEq]
    refine evTs_at (enc := (AV.int .i64)) H (by rfl) (by rfl) ?_ <;> clear H <;> intro x_206 H
    try simp only [↓wk, ↓wl, nc, evV, wrapBits_eq, ↓reduceIte, Nat.reduceEqDiff, Nat.reduceAdd, Nat.reduceSub, Nat.reduceLeDiff, Nat.reduceLT, Nat.reduceBEq, reduceCtorEq, Int.reduceEq]
    refine AW.rseq ?_
    try simp only [↓wk, ↓wl, nc, evV, wrapBits_eq, ↓reduceIte, Nat.reduceEqDiff, Nat.reduceAdd, Nat.reduceSub, Nat.reduceLeDiff, Nat.reduceLT, Nat.reduceBEq, reduceCtorEq, Int.reduceEq]
    refine AW.ifc H (by rfl) ?_ ?_ <;> clear H <;> intro H
    · refine AW.rseq ?_
      try simp only [↓wk, ↓wl, nc, evV, wrapBits_eq, ↓reduceIte, Nat.reduceEqDiff, Nat.reduceAdd, Nat.reduceSub, Nat.reduceLeDiff, Nat.reduceLT, Nat.reduceBEq, reduceCtorEq, Int.reduceEq]
      refine AW.ret ?_
      refine blkQ.ret ?_
      refine loopQ.ret H ?_ <;> clear H <;> intro H
      try dsimp only at H
      refine blk0.ret ?_
      refine seqQ.ret ?_
      cases H
      exact hQ _ _ _ _ (.inr rfl) (by simp only [resVs, omap, resV, ↓wk, ↓wl, nc, evV, wrapBits_eq, ↓reduceIte, Nat.reduceEqDiff, Nat.reduceAdd, Nat.reduceSub, Nat.reduceLeDiff, Nat.reduceLT, Nat.reduceBEq, reduceCtorEq, Int.reduceEq]; rfl) (hand_plain (by rfl)) (by first | exact Or.inl rfl | exact Or.inr rfl)
    · refine AW.skip ?_
      refine blkQ.norm ?_
      refine AW.rend ?_
      try simp only [↓wk, ↓wl, nc, evV, wrapBits_eq, ↓reduceIte, Nat.reduceEqDiff, Nat.reduceAdd, Nat.reduceSub, Nat.reduceLeDiff, Nat.reduceLT, Nat.reduceBEq, reduceCtorEq, Int.reduceEq]
      exact loopQ.next H ((Le.none [0, 1] [0, 3, 5, 6, 20, 21, 22] (by decide) (by simp only [f9_L1, List.length_set, Option.map_some, restrict_eq, renS_nil, renS_cons, renB_els, renB_cel, renB_dead, deep_eq, map_ren_enc, ren_agg', ren_tup', ren_fn', ren_int', ren_bool', ren_str', ren_sl', ren_pro', ren_nilp', ren_nilfn', ren_junk', ren_ptr', ren_row', ren_arow', ren_eptr', vm, List.idxOf?_cons, List.idxOf?_nil, beq_self_eq_true, Option.map_none, List.getD_cons_zero, List.getD_cons_succ, ↓wk, ↓wl, nc, evV, wrapBits_eq, ↓reduceIte, Nat.reduceEqDiff, Nat.reduceAdd, Nat.reduceSub, Nat.reduceLeDiff, Nat.reduceLT, Nat.reduceBEq, reduceCtorEq, Int.reduceEq] <;> rfl)))
  · refine AW.exit ?_
    refine seqQ.exit ?_
    refine loopQ.exit H ?_ <;> clear H <;> intro H
    try dsimp only at H
    refine blk0.here ?_
    refine seqQ.norm ?_
    refine AW.sseq ?_
    refine AW.rseq ?_
    try simp only [↓wk, ↓wl, nc, evV, wrapBits_eq, ↓reduceIte, Nat.reduceEqDiff, Nat.reduceAdd, Nat.reduceSub, Nat.reduceLeDiff, Nat.reduceLT, Nat.reduceBEq, reduceCtorEq, Int.reduceEq]
    refine evTs_pure hFn H (fun _ h => f35_ok h) (by rfl) (by rfl) (by rfl) (by rfl) (fun _ => rfl) ?_ <;> clear H <;> intro r_208 H
    try simp only [eL, ↓wk, ↓wl, nc, evV, wrapBits_eq, ↓reduceIte, Nat.reduceEqDiff, Nat.reduceAdd, Nat.reduceSub, Nat.reduceLeDiff, Nat.reduceLT, Nat.reduceBEq, reduceCtorEq, Int.reduceEq]
    refine AW.ifc H (by rfl) ?_ ?_ <;> clear H <;> intro H
    · refine AW.rseq ?_
      try simp only [↓wk, ↓wl, nc, evV, wrapBits_eq, ↓reduceIte, Nat.reduceEqDiff, Nat.reduceAdd, Nat.reduceSub, Nat.reduceLeDiff, Nat.reduceLT, Nat.reduceBEq, reduceCtorEq, Int.reduceEq]
      refine AW.ret ?_
      refine seqQ.ret ?_
      cases H
      exact hQ _ _ _ _ (.inr rfl) (by simp only [resVs, omap, resV, ↓wk, ↓wl, nc, evV, wrapBits_eq, ↓reduceIte, Nat.reduceEqDiff, Nat.reduceAdd, Nat.reduceSub, Nat.reduceLeDiff, Nat.reduceLT, Nat.reduceBEq, reduceCtorEq, Int.reduceEq]; rfl) (hand_plain (by rfl)) (by first | exact Or.inl rfl | exact Or.inr rfl)
    · refine AW.skip ?_
      refine seqQ.norm ?_
      refine AW.sseq ?_
      refine AW.rseq ?_
      try simp only [↓wk, ↓wl, nc, evV, wrapBits_eq, ↓reduceIte, Nat.reduceEqDiff, Nat.reduceAdd, Nat.reduceSub, Nat.reduceLeDiff, Nat.reduceLT, Nat.reduceBEq, reduceCtorEq, Int.reduceEq]
      refine AW.ifc H (by rfl) ?_ ?_ <;> clear H <;> intro H
      · refine AW.rseq ?_
        try simp only [↓wk, ↓wl, nc, evV, wrapBits_eq, ↓reduceIte, Nat.reduceEqDiff, Nat.reduceAdd, Nat.reduceSub, Nat.reduceLeDiff, Nat.reduceLT, Nat.reduceBEq, reduceCtorEq, Int.reduceEq]
        refine AW.ret ?_
        refine seqQ.ret ?_
        cases H
        exact hQ _ _ _ _ (.inr rfl) (by simp only [resVs, omap, resV, ↓wk, ↓wl, nc, evV, wrapBits_eq, ↓reduceIte, Nat.reduceEqDiff, Nat.reduceAdd, Nat.reduceSub, Nat.reduceLeDiff, Nat.reduceLT, Nat.reduceBEq, reduceCtorEq, Int.reduceEq]; rfl) (hand_plain (by rfl)) (by first | exact Or.inl rfl | exact Or.inr rfl)
      · refine AW.skip ?_
        refine seqQ.norm ?_
        refine AW.sseq ?_
        refine AW.rseq ?_
        try simp only [↓wk, ↓wl, nc, evV, wrapBits_eq, ↓reduceIte, Nat.reduceEqDiff, Nat.reduceAdd, Nat.reduceSub, Nat.reduceLeDiff, Nat.reduceLT, Nat.reduceBEq, reduceCtorEq, Int.reduceEq]
        refine evTs_pure hFn H (fun _ h => f36_ok h) (by rfl) (by rfl) (by rfl) (by rfl) (fun _ => rfl) ?_ <;> clear H <;> intro r_209 H
        try simp only [eL, ↓wk, ↓wl, nc, evV, wrapBits_eq, ↓reduceIte, Nat.reduceEqDiff, Nat.reduceAdd, Nat.reduceSub, Nat.reduceLeDiff, Nat.reduceLT, Nat.reduceBEq, reduceCtorEq, Int.reduceEq]
        refine AW.rseq ?_
        try simp only [↓wk, ↓wl, nc, evV, wrapBits_eq, ↓reduceIte, Nat.reduceEqDiff, Nat.reduceAdd, Nat.reduceSub, Nat.reduceLeDiff, Nat.reduceLT, Nat.reduceBEq, reduceCtorEq, Int.reduceEq]
        refine AW.ifc H (by rfl) ?_ ?_ <;> clear H <;> intro H
        · refine AW.rseq ?_
          try simp only [↓wk, ↓wl, nc, evV, wrapBits_eq, ↓reduceIte, Nat.reduceEqDiff, Nat.reduceAdd, Nat.reduceSub, Nat.reduceLeDiff, Nat.reduceLT, Nat.reduceBEq, reduceCtorEq, Int.reduceEq]
          refine AW.ret ?_
          refine seqQ.ret ?_
          cases H
          exact hQ _ _ _ _ (.inr rfl) (by simp only [resVs, omap, resV, ↓wk, ↓wl, nc, evV, wrapBits_eq, ↓reduceIte, Nat.reduceEqDiff, Nat.reduceAdd, Nat.reduceSub, Nat.reduceLeDiff, Nat.reduceLT, Nat.reduceBEq, reduceCtorEq, Int.reduceEq]; rfl) (hand_plain (by rfl)) (by first | exact Or.inl rfl | exact Or.inr rfl)
        · refine AW.skip ?_
          refine seqQ.norm ?_
          refine AW.rseq ?_
          try simp only [↓wk, ↓wl, nc, evV, wrapBits_eq, ↓reduceIte, Nat.reduceEqDiff, Nat.reduceAdd, Nat.reduceSub, Nat.reduceLeDiff, Nat.reduceLT, Nat.reduceBEq, reduceCtorEq, Int.reduceEq]
          refine AW.ret ?_
          cases H
          exact hQ _ _ _ _ (.inr rfl) (by simp only [resVs, omap, resV, ↓wk, ↓wl, nc, evV, wrapBits_eq, ↓reduceIte, Nat.reduceEqDiff, Nat.reduceAdd, Nat.reduceSub, Nat.reduceLeDiff, Nat.reduceLT, Nat.reduceBEq, reduceCtorEq, Int.reduceEq]; rfl) (hand_plain (by rfl)) (by first | exact Or.inl rfl | exact Or.inr rfl)
def c28_0 : C := .seq (.reg [iI 3 (.mv (.t 0)), iI 4 (.build [(1, (.int .i64 0)), (1, (.int .i64 0))] [(1, 0, (.t 3))]), iN (.store 2 (.t 2) (.t 4))]) .ret
def ir28 : C := .seq (.reg [iI 2 (.alloc [(1, (.int .i64 0)), (1, (.int .i64 0))])]) c28_0
theorem fd28 : fd? Try.prog 28 = some (5, [.cell 2 2], ir28) := by kernel_rfl
noncomputable def f28 (level_223 : Int) : Option (ApiValue) :=
  (some (ApiValue.mk 0 level_223))
theorem f28_ok {level_223 : Int} {r_ : ApiValue} (H : f28 level_223 = some r_) : Pure Try.prog 28 [.int .i64 level_223] (· = .agg [.int .i64 r_.fPalette, .int .i64 r_.fLevel]) := by
  refine Pure.walk3 fd28 none (Nat.le_of_ble_eq_true rfl) (by rfl) fun Q hQ => ?_
  simp only [f28] at H
  refine AW.rseq ?_
  try simp only [↓wk, ↓wl, nc, evV, wrapBits_eq, ↓reduceIte, Nat.reduceEqDiff, Nat.reduceAdd, Nat.reduceSub, Nat.reduceLeDiff, Nat.reduceLT, Nat.reduceBEq, reduceCtorEq, Int.reduceEq]
  refine AW.rseq ?_
  try simp only [↓wk, ↓wl, nc, evV, wrapBits_eq, ↓reduceIte, Nat.reduceEqDiff, Nat.reduceAdd, Nat.reduceSub, Nat.reduceLeDiff, Nat.reduceLT, Nat.reduceBEq, reduceCtorEq, Int.reduceEq]
  refine AW.ret ?_
  cases H
  exact hQ _ _ _ _ (.inr rfl) (by simp only [resVs, omap, resV, ↓wk, ↓wl, nc, evV, wrapBits_eq, ↓reduceIte, Nat.reduceEqDiff, Nat.reduceAdd, Nat.reduceSub, Nat.reduceLeDiff, Nat.reduceLT, Nat.reduceBEq, reduceCtorEq, Int.reduceEq]; rfl) (hand_plain (by rfl)) (by first | exact Or.inl rfl | exact Or.inr rfl)
def c66_0 : C := .cond (.t 8) (.seq (.reg [iI 9 (.mv (.t 3)), iI 2 (.mv (.t 9))]) .ret) (.skip)
def c66_1 : C := .seq (.reg [iI 7 (.mv (.t 3)), iI 8 (.bin .neq (.t 7) (.c (.int .i64 0)))]) c66_0
def c66_2 : C := .seq (.reg [iI 10 (.faddr 2 (.t 1)), iI 11 (.load 2 (.t 10)), iI 12 (.call (.c (.fn 33 [])) [(.t 11)]), iI 2 (.mv (.t 12))]) .ret
def c66_3 : C := .seq (.seq (.reg [iI 4 (.faddr 0 (.t 1)), iI 5 (.load 2 (.t 4)), iI 6 (.call (.c (.fn 34 [])) [(.t 5), (.c (.int .i64 1))]), iI 3 (.mv (.t 6))]) c66_1) c66_2
def ir66 : C := .seq (.reg [iI 1 (.box (.t 0)), iI 2 (.mv (.c (.int .i64 0)))]) c66_3
theorem fd66 : fd? Try.prog 66 = some (13, [.slot 2], ir66) := by kernel_rfl
noncomputable def f66 (x_230 : ApiEntry) : Option (Int) :=
  (f34 x_230.fParam 1).bind fun r_231 => (if (decide (r_231 ≠ 0)) = true then (some r_231) else (f33 x_230.fValue).bind fun r_232 => (some r_232))
theorem f66_ok {x_230 : ApiEntry} {r_ : Int} (H : f66 x_230 = some r_) : Pure Try.prog 66 [.agg [.int .i64 x_230.fParam.fChannel, .int .i64 x_230.fParam.fAttr, .int .i64 x_230.fValue.fPalette, .int .i64 x_230.fValue.fLevel]] (· = .int .i64 r_) := by
  refine Pure.walk3 fd66 none (Nat.le_of_ble_eq_true rfl) (by rfl) fun Q hQ => ?_
  simp only [f66] at H
  refine AW.rseq ?_
  try simp only [↓wk, ↓wl, nc, evV, wrapBits_eq, ↓reduceIte, Nat.reduceEqDiff, Nat.reduceAdd, Nat.reduceSub, Nat.reduceLeDiff, Nat.reduceLT, Nat.reduceBEq, reduceCtorEq, Int.reduceEq]
  refine AW.sseq ?_
  refine AW.rseq ?_
  try simp only [↓wk, ↓wl, nc, evV, wrapBits_eq, ↓reduceIte, Nat.reduceEqDiff, Nat.reduceAdd, Nat.reduceSub, Nat.reduceLeDiff, Nat.reduceLT, Nat.reduceBEq, reduceCtorEq, Int.reduceEq]
  refine evTs_pure hFn H (fun _ h => f34_ok h) (by rfl) (by rfl) (by rfl) (by rfl) (fun _ => rfl) ?_ <;> clear H <;> intro r_231 H
  try simp only [eL, ↓wk, ↓wl, nc, evV, wrapBits_eq, ↓reduceIte, Nat.reduceEqDiff, Nat.reduceAdd, Nat.reduceSub, Nat.reduceLeDiff, Nat.reduceLT, Nat.reduceBEq, reduceCtorEq, Int.reduceEq]
  refine AW.rseq ?_
  try simp only [↓wk, ↓wl, nc, evV, wrapBits_eq, ↓reduceIte, Nat.reduceEqDiff, Nat.reduceAdd, Nat.reduceSub, Nat.reduceLeDiff, Nat.reduceLT, Nat.reduceBEq, reduceCtorEq, Int.reduceEq]
  refine AW.ifc H (by rfl) ?_ ?_ <;> clear H <;> intro H
  · refine AW.rseq ?_
    try simp only [↓wk, ↓wl, nc, evV, wrapBits_eq, ↓reduceIte, Nat.reduceEqDiff, Nat.reduceAdd, Nat.reduceSub, Nat.reduceLeDiff, Nat.reduceLT, Nat.reduceBEq, reduceCtorEq, Int.reduceEq]
    refine AW.ret ?_
    refine seqQ.ret ?_
    cases H
    exact hQ _ _ _ _ (.inr rfl) (by simp only [resVs, omap, resV, ↓wk, ↓wl, nc, evV, wrapBits_eq, ↓reduceIte, Nat.reduceEqDiff, Nat.reduceAdd, Nat.reduceSub, Nat.reduceLeDiff, Nat.reduceLT, Nat.reduceBEq, reduceCtorEq, Int.reduceEq]; rfl) (hand_plain (by rfl)) (by first | exact Or.inl rfl | exact Or.inr rfl)
  · refine AW.skip ?_
    refine seqQ.norm ?_
    refine AW.rseq ?_
    try simp only [↓wk, ↓wl, nc, evV, wrapBits_eq, ↓reduceIte, Nat.reduceEqDiff, Nat.reduceAdd, Nat.reduceSub, Nat.reduceLeDiff, Nat.reduceLT, Nat.reduceBEq, reduceCtorEq, Int.reduceEq]
    refine evTs_pure hFn H (fun _ h => f33_ok h) (by rfl) (by rfl) (by rfl) (by rfl) (fun _ => rfl) ?_ <;> clear H <;> intro r_232 H
    try simp only [eL, ↓wk, ↓wl, nc, evV, wrapBits_eq, ↓reduceIte, Nat.reduceEqDiff, Nat.reduceAdd, Nat.reduceSub, Nat.reduceLeDiff, Nat.reduceLT, Nat.reduceBEq, reduceCtorEq, Int.reduceEq]
    refine AW.ret ?_
    cases H
    exact hQ _ _ _ _ (.inr rfl) (by simp only [resVs, omap, resV, ↓wk, ↓wl, nc, evV, wrapBits_eq, ↓reduceIte, Nat.reduceEqDiff, Nat.reduceAdd, Nat.reduceSub, Nat.reduceLeDiff, Nat.reduceLT, Nat.reduceBEq, reduceCtorEq, Int.reduceEq]; rfl) (hand_plain (by rfl)) (by first | exact Or.inl rfl | exact Or.inr rfl)
def c68_0 : C := .seq (.reg [iI 5 (.faddr 0 (.t 2)), iI 6 (.load 2 (.t 5)), iI 7 (.faddr 0 (.t 3)), iI 8 (.load 2 (.t 7)), iI 9 (.call (.c (.fn 62 [])) [(.t 6), (.t 8)]), iI 4 (.mv (.t 9))]) .ret
def ir68 : C := .seq (.reg [iI 2 (.box (.t 0)), iI 3 (.box (.t 1)), iI 4 (.mv (.c (.int .i64 0)))]) c68_0
theorem fd68 : fd? Try.prog 68 = some (10, [.slot 4], ir68) := by kernel_rfl
noncomputable def f68 (a_236 : ApiEntry) (b_237 : ApiEntry) : Option (Int) :=
  (f62 a_236.fParam b_237.fParam).bind fun r_238 => (some r_238)
theorem f68_ok {a_236 : ApiEntry} {b_237 : ApiEntry} {r_ : Int} (H : f68 a_236 b_237 = some r_) : Pure Try.prog 68 [.agg [.int .i64 a_236.fParam.fChannel, .int .i64 a_236.fParam.fAttr, .int .i64 a_236.fValue.fPalette, .int .i64 a_236.fValue.fLevel], .agg [.int .i64 b_237.fParam.fChannel, .int .i64 b_237.fParam.fAttr, .int .i64 b_237.fValue.fPalette, .int .i64 b_237.fValue.fLevel]] (· = .int .i64 r_) := by
  refine Pure.walk3 fd68 none (Nat.le_of_ble_eq_true rfl) (by rfl) fun Q hQ => ?_
  simp only [f68] at H
  refine AW.rseq ?_
  try simp only [↓wk, ↓wl, nc, evV, wrapBits_eq, ↓reduceIte, Nat.reduceEqDiff, Nat.reduceAdd, Nat.reduceSub, Nat.reduceLeDiff, Nat.reduceLT, Nat.reduceBEq, reduceCtorEq, Int.reduceEq]
  refine AW.rseq ?_
  try simp only [↓wk, ↓wl, nc, evV, wrapBits_eq, ↓reduceIte, Nat.reduceEqDiff, Nat.reduceAdd, Nat.reduceSub, Nat.reduceLeDiff, Nat.reduceLT, Nat.reduceBEq, reduceCtorEq, Int.reduceEq]
  refine evTs_pure hFn H (fun _ h => f62_ok h) (by rfl) (by rfl) (by rfl) (by rfl) (fun _ => rfl) ?_ <;> clear H <;> intro r_238 H
  try simp only [eL, ↓wk, ↓wl, nc, evV, wrapBits_eq, ↓reduceIte, Nat.reduceEqDiff, Nat.reduceAdd, Nat.reduceSub, Nat.reduceLeDiff, Nat.reduceLT, Nat.reduceBEq, reduceCtorEq, Int.reduceEq]
  refine AW.ret ?_
  cases H
  exact hQ _ _ _ _ (.inr rfl) (by simp only [resVs, omap, resV, ↓wk, ↓wl, nc, evV, wrapBits_eq, ↓reduceIte, Nat.reduceEqDiff, Nat.reduceAdd, Nat.reduceSub, Nat.reduceLeDiff, Nat.reduceLT, Nat.reduceBEq, reduceCtorEq, Int.reduceEq]; rfl) (hand_plain (by rfl)) (by first | exact Or.inl rfl | exact Or.inr rfl)
noncomputable def f67_66_68_L1 (l_227 : (List ApiEntry)) : Lp (Int) ((Unit) ⊕ (Int)) where
  body := fun v_246 => (if (decide (v_246 < ((l_227.length : Nat) : Int))) = true then (at? l_227 v_246).bind fun x_253 => (f66 x_253).bind fun r_255 => (if (decide (r_255 ≠ 0)) = true then (some (.brk (Sum.inr r_255))) else (if (decide (0 < v_246)) = true then (at? l_227 (IntKind.i64.wrap (v_246 - 1))).bind fun x_256 => (f68 x_256 x_253).bind fun r_257 => (if (decide (0 ≤ r_257)) = true then (some (.brk (Sum.inr 9))) else (some (.next (IntKind.i64.wrap (v_246 + 1))))) else (some (.next (IntKind.i64.wrap (v_246 + 1)))))) else (some (.brk (Sum.inl ()))))
  cst := fun v_246 => ⟨put (put (put (put (put (put (fun _ => .junk) 18 (.int .i64 v_246)) 17 (.int .i64 ((l_227.length : Nat) : Int))) 16 (.sl 4 false (l_227.map eApiEntry))) 3 (.fn 68 [])) 2 (.fn 66 [])) 0 (.sl 4 false (l_227.map eApiEntry)), []⟩
def c67_0 : C := .cond (.t 15) (.seq (.reg [iI 8 (.mv (.c (.int .i64 5)))]) .ret) (.skip)
def c67_1 : C := .cond (.t 27) (.seq (.reg [iI 28 (.mv (.t 11)), iI 8 (.mv (.t 28))]) .ret) (.skip)
def c67_2 : C := .seq (.reg [iI 26 (.mv (.t 11)), iI 27 (.bin .neq (.t 26) (.c (.int .i64 0)))]) c67_1
def c67_3 : C := .cond (.t 41) (.seq (.reg [iI 8 (.mv (.c (.int .i64 9)))]) .ret) (.skip)
def c67_4 : C := .seq (.reg [iI 29 (.mv (.t 9)), iI 30 (.bin .gtr (.t 29) (.c (.int .i64 0))), iI 31 (.mv (.t 30)), iG (some 32) 31 true (.mv (.t 3)), iG (some 33) 31 true (.mv (.t 0)), iG (some 34) 31 true (.mv (.t 9)), iG (some 35) 31 true (.bin .sub (.t 34) (.c (.int .i64 1))), iG (some 36) 31 true (.iaddr 4 (.t 33) (.t 35)), iG (some 37) 31 true (.load 4 (.t 36)), iG (some 38) 31 true (.load 4 (.t 10)), iG (some 39) 31 true (.call (.t 32) [(.t 37), (.t 38)]), iG (some 40) 31 true (.bin .geq (.t 39) (.c (.int .i64 0))), iI 41 (.pick (.t 31) (.t 40) (.c (.bool false)))]) c67_3
def c67_5 : C := .seq (.seq (.reg [iI 23 (.mv (.t 2)), iI 24 (.load 4 (.t 10)), iI 25 (.call (.t 23) [(.t 24)]), iI 11 (.mv (.t 25))]) c67_2) c67_4
def c67_6 : C := .reg [iI 42 (.bin .add (.t 18) (.c (.int .i64 1))), iI 18 (.mv (.t 42))]
def c67_7 : C := .seq (.block 1 (.seq (.reg [iI 20 (.mv (.t 18)), iI 21 (.iaddr 4 (.t 16) (.t 18)), iI 22 (.load 4 (.t 21)), iI 10 (.alloc [(1, (.int .i64 0)), (1, (.int .i64 0)), (1, (.int .i64 0)), (1, (.int .i64 0))]), iI 9 (.mv (.t 20)), iN (.store 4 (.t 10) (.t 22))]) c67_5)) c67_6
def c67_8 : C := .seq (.cond (.t 19) (.skip) (.exit 0)) c67_7
def c67_9 : C := .block 0 (.loop (.seq (.reg [iI 19 (.bin .lss (.t 18) (.t 17))]) c67_8))
def c67_10 : C := .seq (.reg [iI 8 (.mv (.c (.int .i64 0)))]) .ret
def c67_11 : C := .seq (.seq (.reg [iI 16 (.mv (.t 0)), iI 17 (.len 0 (.t 16)), iI 18 (.mv (.c (.int .i64 0)))]) c67_9) c67_10
def c67_12 : C := .seq (.seq (.reg [iI 12 (.mv (.t 0)), iI 13 (.len 0 (.t 12)), iI 14 (.mv (.t 1)), iI 15 (.bin .gtr (.t 13) (.t 14))]) c67_0) c67_11
def ir67 : C := .seq (.reg [iI 8 (.mv (.c (.int .i64 0)))]) c67_12
theorem fd67 : fd? Try.prog 67 = some (43, [.slot 8], ir67) := by kernel_rfl
noncomputable def f67_66_68 (l_227 : (List ApiEntry)) (most_228 : Int) : Option (Int) :=
  (if (decide (most_228 < ((l_227.length : Nat) : Int))) = true then (some 5) else ((Lp.run (f67_66_68_L1 l_227) 0).bind fun r_ => match r_ with | (Sum.inl _) => (some 0) | (Sum.inr v_252) => (some v_252)))
theorem f67_66_68_ok {l_227 : (List ApiEntry)} {most_228 : Int} {r_ : Int} (H : f67_66_68 l_227 most_228 = some r_) : Pure Try.prog 67 [.sl 4 false (l_227.map eApiEntry), .int .i64 most_228, .fn 66 [], .fn 68 []] (· = .int .i64 r_) := by
  refine Pure.walk3 fd67 none (Nat.le_of_ble_eq_true rfl) (by rfl) fun Q hQ => ?_
  simp only [f67_66_68] at H
  refine AW.rseq ?_
  try simp only [↓wk, ↓wl, nc, evV, wrapBits_eq, ↓reduceIte, Nat.reduceEqDiff, Nat.reduceAdd, Nat.reduceSub, Nat.reduceLeDiff, Nat.reduceLT, Nat.reduceBEq, reduceCtorEq, Int.reduceEq]
  refine AW.sseq ?_
  refine AW.rseq ?_
  try simp only [↓wk, ↓wl, nc, evV, wrapBits_eq, ↓reduceIte, Nat.reduceEqDiff, Nat.reduceAdd, Nat.reduceSub, Nat.reduceLeDiff, Nat.reduceLT, Nat.reduceBEq, reduceCtorEq, Int.reduceEq]
  refine AW.ifc H (by rfl) ?_ ?_ <;> clear H <;> intro H
  · refine AW.rseq ?_
    try simp only [↓wk, ↓wl, nc, evV, wrapBits_eq, ↓reduceIte, Nat.reduceEqDiff, Nat.reduceAdd, Nat.reduceSub, Nat.reduceLeDiff, Nat.reduceLT, Nat.reduceBEq, reduceCtorEq, Int.reduceEq]
    refine AW.ret ?_
    refine seqQ.ret ?_
    cases H
    exact hQ _ _ _ _ (.inr rfl) (by simp only [resVs, omap, resV, ↓wk, ↓wl, nc, evV, wrapBits_eq, ↓reduceIte, Nat.reduceEqDiff, Nat.reduceAdd, Nat.reduceSub, Nat.reduceLeDiff, Nat.reduceLT, Nat.reduceBEq, reduceCtorEq, Int.reduceEq]; rfl) (hand_plain (by rfl)) (by first | exact Or.inl rfl | exact Or.inr rfl)
  · refine AW.skip ?_
    refine seqQ.norm ?_
    refine AW.sseq ?_
    refine AW.rseq ?_
    try simp only [↓wk, ↓wl, nc, evV, wrapBits_eq, ↓reduceIte, Nat.reduceEqDiff, Nat.reduceAdd, Nat.reduceSub, Nat.reduceLeDiff, Nat.reduceLT, Nat.reduceBEq, reduceCtorEq, Int.reduceEq]
    refine AW.bend ?_
    refine AW.iter H ((Le.none [] [0, 2, 3, 16, 17, 18] (by decide) (by simp only [f67_66_68_L1, List.length_set, Option.map_some, restrict_eq, renS_nil, renS_cons, renB_els, renB_cel, renB_dead, deep_eq, map_ren_enc, ren_agg', ren_tup', ren_fn', ren_int', ren_bool', ren_str', ren_sl', ren_pro', ren_nilp', ren_nilfn', ren_junk', ren_ptr', ren_row', ren_arow', ren_eptr', vm, List.idxOf?_cons, List.idxOf?_nil, beq_self_eq_true, Option.map_none, List.getD_cons_zero, List.getD_cons_succ, ↓wk, ↓wl, nc, evV, wrapBits_eq, ↓reduceIte, Nat.reduceEqDiff, Nat.reduceAdd, Nat.reduceSub, Nat.reduceLeDiff, Nat.reduceLT, Nat.reduceBEq, reduceCtorEq, Int.reduceEq] <;> rfl))) ?_ <;> clear H
    rintro v_246 x_ st0_ H hst_
    simp only [f67_66_68_L1] at H hst_
    subst hst_
    refine AW.rseq ?_
    try simp only [↓wk, ↓wl, nc, evV, wrapBits_eq, ↓reduceIte, Nat.reduceEqDiff, Nat.reduceAdd, Nat.reduceSub, Nat.reduceLeDiff, Nat.reduceLT, Nat.reduceBEq, reduceCtorEq, Int.reduceEq]
    refine AW.sseq ?_
    refine AW.ifc H (by rfl) ?_ ?_ <;> clear H <;> intro H
    · refine AW.skip ?_
      refine seqQ.norm ?_
      refine AW.bseq ?_
      refine AW.rseq ?_
      try simp only [↓wk, ↓wl, nc, evV, wrapBits_eq, ↓reduceIte, Nat.reduceEqDiff, Nat.reduceAdd, Nat.reduceSub, Nat.reduceLeDiff, Nat.reduceLT, Nat.reduceBEq, reduceCtorEq, Int.reduceEq]
      refine evTs_at (enc := eApiEntry) H (by rfl) (by rfl) ?_ <;> clear H <;> intro x_253 H
      try simp only [eApiEntry, eL, ↓wk, ↓wl, nc, evV, wrapBits_eq, ↓reduceIte, Nat.reduceEqDiff, Nat.reduceAdd, Nat.reduceSub, Nat.reduceLeDiff, Nat.reduceLT, Nat.reduceBEq, reduceCtorEq, Int.reduceEq]
      refine AW.sseq ?_
      refine AW.rseq ?_
      try simp only [↓wk, ↓wl, nc, evV, wrapBits_eq, ↓reduceIte, Nat.reduceEqDiff, Nat.reduceAdd, Nat.reduceSub, Nat.reduceLeDiff, Nat.reduceLT, Nat.reduceBEq, reduceCtorEq, Int.reduceEq]
      refine evTs_pure hFn H (fun _ h => f66_ok h) (by rfl) (by rfl) (by rfl) (by rfl) (fun _ => rfl) ?_ <;> clear H <;> intro r_255 H
      try simp only [eL, ↓wk, ↓wl, nc, evV, wrapBits_eq, ↓reduceIte, Nat.reduceEqDiff, Nat.reduceAdd, Nat.reduceSub, Nat.reduceLeDiff, Nat.reduceLT, Nat.reduceBEq, reduceCtorEq, Int.reduceEq]
      refine AW.rseq ?_
      try simp only [↓wk, ↓wl, nc, evV, wrapBits_eq, ↓reduceIte, Nat.reduceEqDiff, Nat.reduceAdd, Nat.reduceSub, Nat.reduceLeDiff, Nat.reduceLT, Nat.reduceBEq, reduceCtorEq, Int.reduceEq]
      refine AW.ifc H (by rfl) ?_ ?_ <;> clear H <;> intro H
      · refine AW.rseq ?_
        try simp only [↓wk, ↓wl, nc, evV, wrapBits_eq, ↓reduceIte, Nat.reduceEqDiff, Nat.reduceAdd, Nat.reduceSub, Nat.reduceLeDiff, Nat.reduceLT, Nat.reduceBEq, reduceCtorEq, Int.reduceEq]
        refine AW.ret ?_
        refine seqQ.ret ?_
        refine blkQ.ret ?_
        refine loopQ.ret H ?_ <;> clear H <;> intro H
        try dsimp only at H
        refine blk0.ret ?_
        refine seqQ.ret ?_
        cases H
        exact hQ _ _ _ _ (.inr rfl) (by simp only [resVs, omap, resV, ↓wk, ↓wl, nc, evV, wrapBits_eq, ↓reduceIte, Nat.reduceEqDiff, Nat.reduceAdd, Nat.reduceSub, Nat.reduceLeDiff, Nat.reduceLT, Nat.reduceBEq, reduceCtorEq, Int.reduceEq]; rfl) (hand_plain (by rfl)) (by first | exact Or.inl rfl | exact Or.inr rfl)
      · refine AW.skip ?_
        refine seqQ.norm ?_
        refine AW.rseq ?_
        try simp only [↓wk, ↓wl, nc, evV, wrapBits_eq, ↓reduceIte, Nat.reduceEqDiff, Nat.reduceAdd, Nat.reduceSub, Nat.reduceLeDiff, Nat.reduceLT, Nat.reduceBEq, reduceCtorEq, Int.reduceEq]
        refine evTs_ifg H (by rfl) ?_ ?_ <;> clear H <;> intro H
        · try simp only [↓wk, ↓wl, nc, evV, wrapBits_eq, ↓reduceIte, Nat.reduceEqDiff, Nat.reduceAdd, Nat.reduceSub, Nat.reduceLeDiff, Nat.reduceLT, Nat.reduceBEq, reduceCtorEq, Int.reduceEq]
          refine evTs_at (enc := eApiEntry) H (by rfl) (by rfl) ?_ <;> clear H <;> intro x_256 H
          try simp only [eApiEntry, eL, ↓wk, ↓wl, nc, evV, wrapBits_eq, ↓reduceIte, Nat.reduceEqDiff, Nat.reduceAdd, Nat.reduceSub, Nat.reduceLeDiff, Nat.reduceLT, Nat.reduceBEq, reduceCtorEq, Int.reduceEq]
          refine evTs_pure hFn H (fun _ h => f68_ok h) (by rfl) (by rfl) (by rfl) (by rfl) (fun _ => rfl) ?_ <;> clear H <;> intro r_257 H
          try simp only [eL, ↓wk, ↓wl, nc, evV, wrapBits_eq, ↓reduceIte, Nat.reduceEqDiff, Nat.reduceAdd, Nat.reduceSub, Nat.reduceLeDiff, Nat.reduceLT, Nat.reduceBEq, reduceCtorEq, Int.reduceEq]
          refine AW.ifc H (by rfl) ?_ ?_ <;> clear H <;> intro H
          · refine AW.rseq ?_
            try simp only [↓wk, ↓wl, nc, evV, wrapBits_eq, ↓reduceIte, Nat.reduceEqDiff, Nat.reduceAdd, Nat.reduceSub, Nat.reduceLeDiff, Nat.reduceLT, Nat.reduceBEq, reduceCtorEq, Int.reduceEq]
            refine AW.ret ?_
            refine blkQ.ret ?_
            refine loopQ.ret H ?_ <;> clear H <;> intro H
            try dsimp only at H
            refine blk0.ret ?_
            refine seqQ.ret ?_
            cases H
            exact hQ _ _ _ _ (.inr rfl) (by simp only [resVs, omap, resV, ↓wk, ↓wl, nc, evV, wrapBits_eq, ↓reduceIte, Nat.reduceEqDiff, Nat.reduceAdd, Nat.reduceSub, Nat.reduceLeDiff, Nat.reduceLT, Nat.reduceBEq, reduceCtorEq, Int.reduceEq]; rfl) (hand_plain (by rfl)) (by first | exact Or.inl rfl | exact Or.inr rfl)
          · refine AW.skip ?_
            refine blkQ.norm ?_
            refine AW.rend ?_
            try simp only [↓wk, ↓wl, nc, evV, wrapBits_eq, ↓reduceIte, Nat.reduceEqDiff, Nat.reduceAdd, Nat.reduceSub, Nat.reduceLeDiff, Nat.reduceLT, Nat.reduceBEq, reduceCtorEq, Int.reduceEq]
            exact loopQ.next H ((Le.none [] [0, 2, 3, 16, 17, 18] (by decide) (by simp only [f67_66_68_L1, List.length_set, Option.map_some, restrict_eq, renS_nil, renS_cons, renB_els, renB_cel, renB_dead, deep_eq, map_ren_enc, ren_agg', ren_tup', ren_fn', ren_int', ren_bool', ren_str', ren_sl', ren_pro', ren_nilp', ren_nilfn', ren_junk', ren_ptr', ren_row', ren_arow', ren_eptr', vm, List.idxOf?_cons, List.idxOf?_nil, beq_self_eq_true, Option.map_none, List.getD_cons_zero, List.getD_cons_succ, ↓wk, ↓wl, nc, evV, wrapBits_eq, ↓reduceIte, Nat.reduceEqDiff, Nat.reduceAdd, Nat.reduceSub, Nat.reduceLeDiff, Nat.reduceLT, Nat.reduceBEq, reduceCtorEq, Int.reduceEq] <;> rfl)))
        · try simp only [↓wk, ↓wl, nc, evV, wrapBits_eq, ↓reduceIte, Nat.reduceEqDiff, Nat.reduceAdd, Nat.reduceSub, Nat.reduceLeDiff, Nat.reduceLT, Nat.reduceBEq, reduceCtorEq, Int.reduceEq]
          refine AW.iff (by rfl) ?_
          refine AW.skip ?_
          refine blkQ.norm ?_
          refine AW.rend ?_
          try simp only [↓wk, ↓wl, nc, evV, wrapBits_eq, ↓reduceIte, Nat.reduceEqDiff, Nat.reduceAdd, Nat.reduceSub, Nat.reduceLeDiff, Nat.reduceLT, Nat.reduceBEq, reduceCtorEq, Int.reduceEq]
          exact loopQ.next H ((Le.none [] [0, 2, 3, 16, 17, 18] (by decide) (by simp only [f67_66_68_L1, List.length_set, Option.map_some, restrict_eq, renS_nil, renS_cons, renB_els, renB_cel, renB_dead, deep_eq, map_ren_enc, ren_agg', ren_tup', ren_fn', ren_int', ren_bool', ren_str', ren_sl', ren_pro', ren_nilp', ren_nilfn', ren_junk', ren_ptr', ren_row', ren_arow', ren_eptr', vm, List.idxOf?_cons, List.idxOf?_nil, beq_self_eq_true, Option.map_none, List.getD_cons_zero, List.getD_cons_succ, ↓wk, ↓wl, nc, evV, wrapBits_eq, ↓reduceIte, Nat.reduceEqDiff, Nat.reduceAdd, Nat.reduceSub, Nat.reduceLeDiff, Nat.reduceLT, Nat.reduceBEq, reduceCtorEq, Int.reduceEq] <;> rfl)))
    · refine AW.exit ?_
      refine seqQ.exit ?_
      refine loopQ.exit H ?_ <;> clear H <;> intro H
      try dsimp only at H
      refine blk0.here ?_
      refine seqQ.norm ?_
      refine AW.rseq ?_
      try simp only [↓wk, ↓wl, nc, evV, wrapBits_eq, ↓reduceIte, Nat.reduceEqDiff, Nat.reduceAdd, Nat.reduceSub, Nat.reduceLeDiff, Nat.reduceLT, Nat.reduceBEq, reduceCtorEq, Int.reduceEq]
      refine AW.ret ?_
      cases H
      exact hQ _ _ _ _ (.inr rfl) (by simp only [resVs, omap, resV, ↓wk, ↓wl, nc, evV, wrapBits_eq, ↓reduceIte, Nat.reduceEqDiff, Nat.reduceAdd, Nat.reduceSub, Nat.reduceLeDiff, Nat.reduceLT, Nat.reduceBEq, reduceCtorEq, Int.reduceEq]; rfl) (hand_plain (by rfl)) (by first | exact Or.inl rfl | exact Or.inr rfl)
def c47_0 : C := .seq (.reg [iI 4 (.mv (.t 0)), iI 5 (.mv (.t 3)), iI 6 (.call (.c (.fn 67 [])) [(.t 4), (.c (.int .i64 4096)), (.t 5), (.c (.fn 68 []))]), iI 2 (.mv (.t 6))]) .ret
def c47_1 : C := .seq (.reg [iI 3 (.mv (.c (.fn 66 [])))]) c47_0
def ir47 : C := .seq (.reg [iI 2 (.mv (.c (.int .i64 0)))]) c47_1
theorem fd47 : fd? Try.prog 47 = some (7, [.slot 2], ir47) := by kernel_rfl
noncomputable def f47 (l_226 : (List ApiEntry)) : Option (Int) :=
  (f67_66_68 l_226 4096).bind fun r_258 => (some r_258)
theorem f47_ok {l_226 : (List ApiEntry)} {r_ : Int} (H : f47 l_226 = some r_) : Pure Try.prog 47 [.sl 4 false (l_226.map eApiEntry)] (· = .int .i64 r_) := by
  refine Pure.walk3 fd47 none (Nat.le_of_ble_eq_true rfl) (by rfl) fun Q hQ => ?_
  simp only [f47] at H
  refine AW.rseq ?_
  try simp only [↓wk, ↓wl, nc, evV, wrapBits_eq, ↓reduceIte, Nat.reduceEqDiff, Nat.reduceAdd, Nat.reduceSub, Nat.reduceLeDiff, Nat.reduceLT, Nat.reduceBEq, reduceCtorEq, Int.reduceEq]
  refine AW.rseq ?_
  try simp only [↓wk, ↓wl, nc, evV, wrapBits_eq, ↓reduceIte, Nat.reduceEqDiff, Nat.reduceAdd, Nat.reduceSub, Nat.reduceLeDiff, Nat.reduceLT, Nat.reduceBEq, reduceCtorEq, Int.reduceEq]
  refine AW.rseq ?_
  try simp only [↓wk, ↓wl, nc, evV, wrapBits_eq, ↓reduceIte, Nat.reduceEqDiff, Nat.reduceAdd, Nat.reduceSub, Nat.reduceLeDiff, Nat.reduceLT, Nat.reduceBEq, reduceCtorEq, Int.reduceEq]
  refine evTs_pure hFn H (fun _ h => f67_66_68_ok h) (by rfl) (by rfl) (by rfl) (by rfl) (fun _ => rfl) ?_ <;> clear H <;> intro r_258 H
  try simp only [eL, ↓wk, ↓wl, nc, evV, wrapBits_eq, ↓reduceIte, Nat.reduceEqDiff, Nat.reduceAdd, Nat.reduceSub, Nat.reduceLeDiff, Nat.reduceLT, Nat.reduceBEq, reduceCtorEq, Int.reduceEq]
  refine AW.ret ?_
  cases H
  exact hQ _ _ _ _ (.inr rfl) (by simp only [resVs, omap, resV, ↓wk, ↓wl, nc, evV, wrapBits_eq, ↓reduceIte, Nat.reduceEqDiff, Nat.reduceAdd, Nat.reduceSub, Nat.reduceLeDiff, Nat.reduceLT, Nat.reduceBEq, reduceCtorEq, Int.reduceEq]; rfl) (hand_plain (by rfl)) (by first | exact Or.inl rfl | exact Or.inr rfl)
def c44_0 : C := .seq (.reg [iI 3 (.faddr 2 (.t 1)), iI 4 (.faddr 0 (.t 3)), iI 5 (.load 0 (.t 4)), iI 6 (.bin .gtr (.t 5) (.c (.int .i64 0))), iI 2 (.mv (.t 6))]) .ret
def ir44 : C := .seq (.reg [iI 1 (.box (.t 0)), iI 2 (.mv (.c (.bool false)))]) c44_0
theorem fd44 : fd? Try.prog 44 = some (7, [.slot 2], ir44) := by kernel_rfl
noncomputable def f44 (x_263 : ApiEntry) : Option (Bool) :=
  (some (decide (0 < x_263.fValue.fPalette)))
theorem f44_ok {x_263 : ApiEntry} {r_ : Bool} (H : f44 x_263 = some r_) : Pure Try.prog 44 [.agg [.int .i64 x_263.fParam.fChannel, .int .i64 x_263.fParam.fAttr, .int .i64 x_263.fValue.fPalette, .int .i64 x_263.fValue.fLevel]] (· = .bool r_) := by
  refine Pure.walk3 fd44 none (Nat.le_of_ble_eq_true rfl) (by rfl) fun Q hQ => ?_
  simp only [f44] at H
  refine AW.rseq ?_
  try simp only [↓wk, ↓wl, nc, evV, wrapBits_eq, ↓reduceIte, Nat.reduceEqDiff, Nat.reduceAdd, Nat.reduceSub, Nat.reduceLeDiff, Nat.reduceLT, Nat.reduceBEq, reduceCtorEq, Int.reduceEq]
  refine AW.rseq ?_
  try simp only [↓wk, ↓wl, nc, evV, wrapBits_eq, ↓reduceIte, Nat.reduceEqDiff, Nat.reduceAdd, Nat.reduceSub, Nat.reduceLeDiff, Nat.reduceLT, Nat.reduceBEq, reduceCtorEq, Int.reduceEq]
  refine AW.ret ?_
  cases H
  exact hQ _ _ _ _ (.inr rfl) (by simp only [resVs, omap, resV, ↓wk, ↓wl, nc, evV, wrapBits_eq, ↓reduceIte, Nat.reduceEqDiff, Nat.reduceAdd, Nat.reduceSub, Nat.reduceLeDiff, Nat.reduceLT, Nat.reduceBEq, reduceCtorEq, Int.reduceEq]; rfl) (hand_plain (by rfl)) (by first | exact Or.inl rfl | exact Or.inr rfl)
noncomputable def f45_44_L1 (l_261 : (List ApiEntry)) : Lp (Int × (List ApiEntry)) ((List ApiEntry)) where
  body := fun (v_274, out_275) => (if (decide (v_274 < ((l_261.length : Nat) : Int))) = true then (at? l_261 v_274).bind fun x_280 => (f44 x_280).bind fun r_281 => (if r_281 = true then (app? 32 out_275 ([x_280])).bind fun out_282 => (some (.next ((IntKind.i64.wrap (v_274 + 1)), out_282))) else (some (.next ((IntKind.i64.wrap (v_274 + 1)), out_275)))) else (some (.brk out_275)))
  cst := fun (v_274, out_275) => ⟨put (put (put (put (put (fun _ => .junk) 10 (.int .i64 v_274)) 9 (.int .i64 ((l_261.length : Nat) : Int))) 8 (.sl 4 false (l_261.map eApiEntry))) 5 (.row 4 0 0 out_275.length)) 1 (.fn 44 []), [.els 4 (out_275.map eApiEntry)]⟩
def c45_0 : C := .cond (.t 16) (.reg [iI 17 (.mv (.t 5)), iI 18 (.load 4 (.t 7)), iI 19 (.mkslp 4 1 (.agg [(.int .i64 0), (.int .i64 0), (.int .i64 0), (.int .i64 0)]) [(0, (.t 18))]), iI 20 (.append 4 32 (.t 17) (.t 19)), iI 5 (.mv (.t 20))]) (.skip)
def c45_1 : C := .seq (.reg [iI 14 (.mv (.t 1)), iI 15 (.load 4 (.t 7)), iI 16 (.call (.t 14) [(.t 15)])]) c45_0
def c45_2 : C := .reg [iI 21 (.bin .add (.t 10) (.c (.int .i64 1))), iI 10 (.mv (.t 21))]
def c45_3 : C := .seq (.block 1 (.seq (.reg [iI 12 (.iaddr 4 (.t 8) (.t 10)), iI 13 (.load 4 (.t 12)), iI 7 (.alloc [(1, (.int .i64 0)), (1, (.int .i64 0)), (1, (.int .i64 0)), (1, (.int .i64 0))]), iN (.store 4 (.t 7) (.t 13))]) c45_1)) c45_2
def c45_4 : C := .seq (.cond (.t 11) (.skip) (.exit 0)) c45_3
def c45_5 : C := .block 0 (.loop (.seq (.reg [iI 11 (.bin .lss (.t 10) (.t 9))]) c45_4))
def c45_6 : C := .seq (.reg [iI 22 (.mv (.t 5)), iI 4 (.mv (.t 22))]) .ret
def c45_7 : C := .seq (.seq (.reg [iI 8 (.mv (.t 0)), iI 9 (.len 0 (.t 8)), iI 10 (.mv (.c (.int .i64 0)))]) c45_5) c45_6
def c45_8 : C := .seq (.reg [iI 5 (.mv (.c (.sl 4 true [])))]) c45_7
def ir45 : C := .seq (.reg [iI 4 (.mv (.c (.sl 4 true [])))]) c45_8
theorem fd45 : fd? Try.prog 45 = some (23, [.slot 4], ir45) := by kernel_rfl
noncomputable def f45_44 (l_261 : (List ApiEntry)) : Option ((List ApiEntry)) :=
  (Lp.run (f45_44_L1 l_261) (0, [])).bind fun out_279 => (some out_279)
theorem f45_44_ok {l_261 : (List ApiEntry)} {r_ : (List ApiEntry)} (H : f45_44 l_261 = some r_) : Pure Try.prog 45 [.sl 4 false (l_261.map eApiEntry), .fn 44 []] (· = .fr 4 (r_.map eApiEntry)) := by
  refine Pure.walk3 fd45 (some 0) (Nat.le_of_ble_eq_true rfl) (by rfl) fun Q hQ => ?_
  simp only [f45_44] at H
  refine AW.rseq ?_
  try simp only [↓wk, ↓wl, nc, evV, wrapBits_eq, ↓reduceIte, Nat.reduceEqDiff, Nat.reduceAdd, Nat.reduceSub, Nat.reduceLeDiff, Nat.reduceLT, Nat.reduceBEq, reduceCtorEq, Int.reduceEq]
  refine AW.rseq ?_
  try simp only [↓wk, ↓wl, nc, evV, wrapBits_eq, ↓reduceIte, Nat.reduceEqDiff, Nat.reduceAdd, Nat.reduceSub, Nat.reduceLeDiff, Nat.reduceLT, Nat.reduceBEq, reduceCtorEq, Int.reduceEq]
  refine AW.sseq ?_
  refine AW.rseq ?_
  try simp only [↓wk, ↓wl, nc, evV, wrapBits_eq, ↓reduceIte, Nat.reduceEqDiff, Nat.reduceAdd, Nat.reduceSub, Nat.reduceLeDiff, Nat.reduceLT, Nat.reduceBEq, reduceCtorEq, Int.reduceEq]
  refine AW.bend ?_
  refine AW.iter H ((Le.trans (Le.nilRow (i := 5) (e := 4) (by simp only [↓wk, ↓wl, nc, evV, wrapBits_eq, ↓reduceIte, Nat.reduceEqDiff, Nat.reduceAdd, Nat.reduceSub, Nat.reduceLeDiff, Nat.reduceLT, Nat.reduceBEq, reduceCtorEq, Int.reduceEq])) (Le.none [0] [1, 5, 8, 9, 10] (by decide) (by simp only [f45_44_L1, List.length_set, Option.map_some, restrict_eq, renS_nil, renS_cons, renB_els, renB_cel, renB_dead, deep_eq, map_ren_enc, ren_agg', ren_tup', ren_fn', ren_int', ren_bool', ren_str', ren_sl', ren_pro', ren_nilp', ren_nilfn', ren_junk', ren_ptr', ren_row', ren_arow', ren_eptr', vm, List.idxOf?_cons, List.idxOf?_nil, beq_self_eq_true, Option.map_none, List.getD_cons_zero, List.getD_cons_succ, ↓wk, ↓wl, nc, evV, wrapBits_eq, ↓reduceIte, Nat.reduceEqDiff, Nat.reduceAdd, Nat.reduceSub, Nat.reduceLeDiff, Nat.reduceLT, Nat.reduceBEq, reduceCtorEq, Int.reduceEq] <;> rfl)))) ?_ <;> clear H
  rintro ⟨v_274, out_275⟩ x_ st0_ H hst_
  simp only [f45_44_L1] at H hst_
  subst hst_
  refine AW.rseq ?_
  try simp only [↓wk, ↓wl, nc, evV, wrapBits_eq, ↓reduceIte, Nat.reduceEqDiff, Nat.reduceAdd, Nat.reduceSub, Nat.reduceLeDiff, Nat.reduceLT, Nat.reduceBEq, reduceCtorEq, Int.reduceEq]
  refine AW.sseq ?_
  refine AW.ifc H (by rfl) ?_ ?_ <;> clear H <;> intro H
  · refine AW.skip ?_
    refine seqQ.norm ?_
    refine AW.bseq ?_
    refine AW.rseq ?_
    try simp only [↓wk, ↓wl, nc, evV, wrapBits_eq, ↓reduceIte, Nat.reduceEqDiff, Nat.reduceAdd, Nat.reduceSub, Nat.reduceLeDiff, Nat.reduceLT, Nat.reduceBEq, reduceCtorEq, Int.reduceEq]
    refine evTs_at (enc := eApiEntry) H (by rfl) (by rfl) ?_ <;> clear H <;> intro x_280 H
    try simp only [eApiEntry, eL, ↓wk, ↓wl, nc, evV, wrapBits_eq, ↓reduceIte, Nat.reduceEqDiff, Nat.reduceAdd, Nat.reduceSub, Nat.reduceLeDiff, Nat.reduceLT, Nat.reduceBEq, reduceCtorEq, Int.reduceEq]
    refine AW.rseq ?_
    try simp only [↓wk, ↓wl, nc, evV, wrapBits_eq, ↓reduceIte, Nat.reduceEqDiff, Nat.reduceAdd, Nat.reduceSub, Nat.reduceLeDiff, Nat.reduceLT, Nat.reduceBEq, reduceCtorEq, Int.reduceEq]
    refine evTs_pure hFn H (fun _ h => f44_ok h) (by rfl) (by rfl) (by rfl) (by rfl) (fun _ => rfl) ?_ <;> clear H <;> intro r_281 H
    try simp only [eL, ↓wk, ↓wl, nc, evV, wrapBits_eq, ↓reduceIte, Nat.reduceEqDiff, Nat.reduceAdd, Nat.reduceSub, Nat.reduceLeDiff, Nat.reduceLT, Nat.reduceBEq, reduceCtorEq, Int.reduceEq]
    refine AW.ifc H (by rfl) ?_ ?_ <;> clear H <;> intro H
    · refine AW.rend ?_
      try simp only [↓wk, ↓wl, nc, evV, wrapBits_eq, ↓reduceIte, Nat.reduceEqDiff, Nat.reduceAdd, Nat.reduceSub, Nat.reduceLeDiff, Nat.reduceLT, Nat.reduceBEq, reduceCtorEq, Int.reduceEq]
      refine evTs_app (enc := eApiEntry) H (by rfl) (by first | rfl | simp only [List.length_set]) (by rfl) (by rfl) ?_ <;> clear H <;> intro out_282 H
      try simp only [↓wk, ↓wl, nc, evV, wrapBits_eq, ↓reduceIte, Nat.reduceEqDiff, Nat.reduceAdd, Nat.reduceSub, Nat.reduceLeDiff, Nat.reduceLT, Nat.reduceBEq, reduceCtorEq, Int.reduceEq]
      refine blkQ.norm ?_
      refine AW.rend ?_
      try simp only [↓wk, ↓wl, nc, evV, wrapBits_eq, ↓reduceIte, Nat.reduceEqDiff, Nat.reduceAdd, Nat.reduceSub, Nat.reduceLeDiff, Nat.reduceLT, Nat.reduceBEq, reduceCtorEq, Int.reduceEq]
      exact loopQ.next H ((Le.none [2] [1, 5, 8, 9, 10] (by decide) (by simp only [f45_44_L1, List.length_set, Option.map_some, restrict_eq, renS_nil, renS_cons, renB_els, renB_cel, renB_dead, deep_eq, map_ren_enc, ren_agg', ren_tup', ren_fn', ren_int', ren_bool', ren_str', ren_sl', ren_pro', ren_nilp', ren_nilfn', ren_junk', ren_ptr', ren_row', ren_arow', ren_eptr', vm, List.idxOf?_cons, List.idxOf?_nil, beq_self_eq_true, Option.map_none, List.getD_cons_zero, List.getD_cons_succ, ↓wk, ↓wl, nc, evV, wrapBits_eq, ↓reduceIte, Nat.reduceEqDiff, Nat.reduceAdd, Nat.reduceSub, Nat.reduceLeDiff, Nat.reduceLT, Nat.reduceBEq, reduceCtorEq, Int.reduceEq] <;> rfl)))
    · refine AW.skip ?_
      refine blkQ.norm ?_
      refine AW.rend ?_
      try simp only [↓wk, ↓wl, nc, evV, wrapBits_eq, ↓reduceIte, Nat.reduceEqDiff, Nat.reduceAdd, Nat.reduceSub, Nat.reduceLeDiff, Nat.reduceLT, Nat.reduceBEq, reduceCtorEq, Int.reduceEq]
      exact loopQ.next H ((Le.none [0] [1, 5, 8, 9, 10] (by decide) (by simp only [f45_44_L1, List.length_set, Option.map_some, restrict_eq, renS_nil, renS_cons, renB_els, renB_cel, renB_dead, deep_eq, map_ren_enc, ren_agg', ren_tup', ren_fn', ren_int', ren_bool', ren_str', ren_sl', ren_pro', ren_nilp', ren_nilfn', ren_junk', ren_ptr', ren_row', ren_arow', ren_eptr', vm, List.idxOf?_cons, List.idxOf?_nil, beq_self_eq_true, Option.map_none, List.getD_cons_zero, List.getD_cons_succ, ↓wk, ↓wl, nc, evV, wrapBits_eq, ↓reduceIte, Nat.reduceEqDiff, Nat.reduceAdd, Nat.reduceSub, Nat.reduceLeDiff, Nat.reduceLT, Nat.reduceBEq, reduceCtorEq, Int.reduceEq] <;> rfl)))
  · refine AW.exit ?_
    refine seqQ.exit ?_
    refine loopQ.exit H ?_ <;> clear H <;> intro H
    try dsimp only at H
    refine blk0.here ?_
    refine seqQ.norm ?_
    refine AW.rseq ?_
    try simp only [↓wk, ↓wl, nc, evV, wrapBits_eq, ↓reduceIte, Nat.reduceEqDiff, Nat.reduceAdd, Nat.reduceSub, Nat.reduceLeDiff, Nat.reduceLT, Nat.reduceBEq, reduceCtorEq, Int.reduceEq]
    refine AW.ret ?_
    cases H
    exact hQ _ _ _ _ (.inr rfl) (by simp only [resVs, omap, resV, ↓wk, ↓wl, nc, evV, wrapBits_eq, ↓reduceIte, Nat.reduceEqDiff, Nat.reduceAdd, Nat.reduceSub, Nat.reduceLeDiff, Nat.reduceLT, Nat.reduceBEq, reduceCtorEq, Int.reduceEq]; rfl) (hand_1 (by rfl) (by simp) (enc_all _)) (by first | exact Or.inl rfl | exact Or.inr rfl)
theorem f45_44_im {l_261 : (List ApiEntry)} {r_ : (List ApiEntry)} (H : f45_44 l_261 = some r_) : Pure Try.prog 45 [.sl 4 false (l_261.map eApiEntry), .fn 44 []] (· = .sl 4 false (r_.map eApiEntry)) := (f45_44_ok H).unfr (by first | exact enc_fits _ | simp only [frFits, List.all_cons, List.all_nil, enc_fits, Bool.and_self])
noncomputable def f15_L1 (r_283 : (List ApiEntry)) : Lp (Int × (List Int)) ((List Int)) where
  body := fun (v_292, out_293) => (if (decide (v_292 < ((r_283.length : Nat) : Int))) = true then (at? r_283 v_292).bind fun x_301 => (app? 8 out_293 ([x_301.fValue.fPalette])).bind fun out_302 => (some (.next ((IntKind.i64.wrap (v_292 + 1)), out_302))) else (some (.brk out_293)))
  cst := fun (v_292, out_293) => ⟨put (put (put (put (fun _ => .junk) 16 (.int .i64 v_292)) 15 (.int .i64 ((r_283.length : Nat) : Int))) 14 (.sl 4 false (r_283.map eApiEntry))) 5 (.row 0 0 0 out_293.length), [.els 0 (out_293.map (AV.int .i64))]⟩
def c15_0 : C := .cond (.t 11) (.seq (.reg [iI 12 (.mv (.t 4)), iI 2 (.mv (.c (.sl 0 true []))), iI 3 (.mv (.t 12))]) .ret) (.skip)
def c15_1 : C := .seq (.reg [iI 10 (.mv (.t 4)), iI 11 (.bin .neq (.t 10) (.c (.int .i64 0)))]) c15_0
def c15_2 : C := .reg [iI 20 (.mv (.t 5)), iI 21 (.faddr 2 (.t 7)), iI 22 (.faddr 0 (.t 21)), iI 23 (.load 0 (.t 22)), iI 24 (.mkslp 0 1 (.int .i64 0) [(0, (.t 23))]), iI 25 (.append 0 8 (.t 20) (.t 24)), iI 5 (.mv (.t 25))]
def c15_3 : C := .reg [iI 26 (.bin .add (.t 16) (.c (.int .i64 1))), iI 16 (.mv (.t 26))]
def c15_4 : C := .seq (.block 1 (.seq (.reg [iI 18 (.iaddr 4 (.t 14) (.t 16)), iI 19 (.load 4 (.t 18)), iI 7 (.alloc [(1, (.int .i64 0)), (1, (.int .i64 0)), (1, (.int .i64 0)), (1, (.int .i64 0))]), iN (.store 4 (.t 7) (.t 19))]) c15_2)) c15_3
def c15_5 : C := .seq (.cond (.t 17) (.skip) (.exit 0)) c15_4
def c15_6 : C := .block 0 (.loop (.seq (.reg [iI 17 (.bin .lss (.t 16) (.t 15))]) c15_5))
def c15_7 : C := .seq (.reg [iI 29 (.mv (.t 5)), iI 30 (.call (.c (.fn 49 [])) [(.t 29)]), iI 2 (.mv (.t 30)), iI 3 (.mv (.c (.int .i64 0)))]) .ret
def c15_8 : C := .seq (.reg [iI 27 (.mv (.t 5)), iI 28 (.call (.c (.fn 48 [])) [(.t 27)])]) c15_7
def c15_9 : C := .seq (.seq (.reg [iI 13 (.mv (.t 0)), iI 14 (.call (.c (.fn 45 [])) [(.t 13), (.c (.fn 44 []))]), iI 15 (.len 0 (.t 14)), iI 16 (.mv (.c (.int .i64 0)))]) c15_6) c15_8
def c15_10 : C := .seq (.reg [iI 5 (.mv (.c (.sl 0 true [])))]) c15_9
def c15_11 : C := .seq (.seq (.reg [iI 8 (.mv (.t 0)), iI 9 (.call (.c (.fn 47 [])) [(.t 8)]), iI 4 (.mv (.t 9))]) c15_1) c15_10
def ir15 : C := .seq (.reg [iI 2 (.mv (.c (.sl 0 true []))), iI 3 (.mv (.c (.int .i64 0)))]) c15_11
theorem fd15 : fd? Try.prog 15 = some (31, [.slot 2, .slot 3], ir15) := by kernel_rfl
noncomputable def f15 (l_225 : (List ApiEntry)) : Option ((List Int) × Int) :=
  (f47 l_225).bind fun r_260 => (if (decide (r_260 ≠ 0)) = true then (some ([], r_260)) else (f45_44 l_225).bind fun r_283 => (Lp.run (f15_L1 r_283) (0, [])).bind fun out_296 => (sort? out_296).bind fun sorted_297 => (compact? sorted_297).bind fun out_298 => (some (out_298, 0)))
theorem f15_ok {l_225 : (List ApiEntry)} {r_ : (List Int) × Int} (H : f15 l_225 = some r_) : Pure Try.prog 15 [.sl 4 false (l_225.map eApiEntry)] (· = .tup [.fr 0 (r_.1.map (AV.int .i64)), .int .i64 r_.2]) := by
  refine Pure.walk3 fd15 (some 0) (Nat.le_of_ble_eq_true rfl) (by rfl) fun Q hQ => ?_
  simp only [f15] at H
  refine AW.rseq ?_
  try simp only [↓wk, ↓wl, nc, evV, wrapBits_eq, ↓reduceIte, Nat.reduceEqDiff, Nat.reduceAdd, Nat.reduceSub, Nat.reduceLeDiff, Nat.reduceLT, Nat.reduceBEq, reduceCtorEq, Int.reduceEq]
  refine AW.sseq ?_
  refine AW.rseq ?_
  try simp only [↓wk, ↓wl, nc, evV, wrapBits_eq, ↓reduceIte, Nat.reduceEqDiff, Nat.reduceAdd, Nat.reduceSub, Nat.reduceLeDiff, Nat.reduceLT, Nat.reduceBEq, reduceCtorEq, Int.reduceEq]
  refine evTs_pure hFn H (fun _ h => f47_ok h) (by rfl) (by rfl) (by rfl) (by rfl) (fun _ => rfl) ?_ <;> clear H <;> intro r_260 H
  try simp only [eL, ↓wk, ↓wl, nc, evV, wrapBits_eq, ↓reduceIte, Nat.reduceEqDiff, Nat.reduceAdd, Nat.reduceSub, Nat.reduceLeDiff, Nat.reduceLT, Nat.reduceBEq, reduceCtorEq, Int.reduceEq]
  refine AW.rseq ?_
  try simp only [↓wk, ↓wl, nc, evV, wrapBits_eq, ↓reduceIte, Nat.reduceEqDiff, Nat.reduceAdd, Nat.reduceSub, Nat.reduceLeDiff, Nat.reduceLT, Nat.reduceBEq, reduceCtorEq, Int.reduceEq]
  refine AW.ifc H (by rfl) ?_ ?_ <;> clear H <;> intro H
  · refine AW.rseq ?_
    try simp only [↓wk, ↓wl, nc, evV, wrapBits_eq, ↓reduceIte, Nat.reduceEqDiff, Nat.reduceAdd, Nat.reduceSub, Nat.reduceLeDiff, Nat.reduceLT, Nat.reduceBEq, reduceCtorEq, Int.reduceEq]
    refine AW.ret ?_
    refine seqQ.ret ?_
    cases H
    exact hQ _ _ _ _ (.inr rfl) (by simp only [resVs, omap, resV, ↓wk, ↓wl, nc, evV, wrapBits_eq, ↓reduceIte, Nat.reduceEqDiff, Nat.reduceAdd, Nat.reduceSub, Nat.reduceLeDiff, Nat.reduceLT, Nat.reduceBEq, reduceCtorEq, Int.reduceEq]; rfl) (hand_k0 (by rfl) (by rfl)) (by first | exact Or.inl rfl | exact Or.inr rfl)
  · refine AW.skip ?_
    refine seqQ.norm ?_
    refine AW.rseq ?_
    try simp only [↓wk, ↓wl, nc, evV, wrapBits_eq, ↓reduceIte, Nat.reduceEqDiff, Nat.reduceAdd, Nat.reduceSub, Nat.reduceLeDiff, Nat.reduceLT, Nat.reduceBEq, reduceCtorEq, Int.reduceEq]
    refine AW.sseq ?_
    refine AW.rseq ?_
    try simp only [↓wk, ↓wl, nc, evV, wrapBits_eq, ↓reduceIte, Nat.reduceEqDiff, Nat.reduceAdd, Nat.reduceSub, Nat.reduceLeDiff, Nat.reduceLT, Nat.reduceBEq, reduceCtorEq, Int.reduceEq]
    refine evTs_pure hFn H (fun _ h => f45_44_im h) (by rfl) (by rfl) (by rfl) (by rfl) (fun _ => rfl) ?_ <;> clear H <;> intro r_283 H
    try simp only [eL, ↓wk, ↓wl, nc, evV, wrapBits_eq, ↓reduceIte, Nat.reduceEqDiff, Nat.reduceAdd, Nat.reduceSub, Nat.reduceLeDiff, Nat.reduceLT, Nat.reduceBEq, reduceCtorEq, Int.reduceEq]
    refine AW.bend ?_
    refine AW.iter H ((Le.trans (Le.nilRow (i := 5) (e := 0) (by simp only [↓wk, ↓wl, nc, evV, wrapBits_eq, ↓reduceIte, Nat.reduceEqDiff, Nat.reduceAdd, Nat.reduceSub, Nat.reduceLeDiff, Nat.reduceLT, Nat.reduceBEq, reduceCtorEq, Int.reduceEq])) (Le.none [0] [5, 14, 15, 16] (by decide) (by simp only [f15_L1, List.length_set, Option.map_some, restrict_eq, renS_nil, renS_cons, renB_els, renB_cel, renB_dead, deep_eq, map_ren_enc, ren_agg', ren_tup', ren_fn', ren_int', ren_bool', ren_str', ren_sl', ren_pro', ren_nilp', ren_nilfn', ren_junk', ren_ptr', ren_row', ren_arow', ren_eptr', vm, List.idxOf?_cons, List.idxOf?_nil, beq_self_eq_true, Option.map_none, List.getD_cons_zero, List.getD_cons_succ, ↓wk, ↓wl, nc, evV, wrapBits_eq, ↓reduceIte, Nat.reduceEqDiff, Nat.reduceAdd, Nat.reduceSub, Nat.reduceLeDiff, Nat.reduceLT, Nat.reduceBEq, reduceCtorEq, Int.reduceEq] <;> rfl)))) ?_ <;> clear H
    rintro ⟨v_292, out_293⟩ x_ st0_ H hst_
    simp only [f15_L1] at H hst_
    subst hst_
    refine AW.rseq ?_
    try simp only [↓wk, ↓wl, nc, evV, wrapBits_eq, ↓reduceIte, Nat.reduceEqDiff, Nat.reduceAdd, Nat.reduceSub, Nat.reduceLeDiff, Nat.reduceLT, Nat.reduceBEq, reduceCtorEq, Int.reduceEq]
    refine AW.sseq ?_
    refine AW.ifc H (by rfl) ?_ ?_ <;> clear H <;> intro H
    · refine AW.skip ?_
      refine seqQ.norm ?_
      refine AW.bseq ?_
      refine AW.rseq ?_
      try simp only [↓wk, ↓wl, nc, evV, wrapBits_eq, ↓reduceIte, Nat.reduceEqDiff, Nat.reduceAdd, Nat.reduceSub, Nat.reduceLeDiff, Nat.reduceLT, Nat.reduceBEq, reduceCtorEq, Int.reduceEq]
      refine evTs_at (enc := eApiEntry) H (by rfl) (by rfl) ?_ <;> clear H <;> intro x_301 H
      try simp only [eApiEntry, eL, ↓wk, ↓wl, nc, evV, wrapBits_eq, ↓reduceIte, Nat.reduceEqDiff, Nat.reduceAdd, Nat.reduceSub, Nat.reduceLeDiff, Nat.reduceLT, Nat.reduceBEq, reduceCtorEq, Int.reduceEq]
      refine AW.rend ?_
      try simp only [↓wk, ↓wl, nc, evV, wrapBits_eq, ↓reduceIte, Nat.reduceEqDiff, Nat.reduceAdd, Nat.reduceSub, Nat.reduceLeDiff, Nat.reduceLT, Nat.reduceBEq, reduceCtorEq, Int.reduceEq]
      refine evTs_app (enc := (AV.int .i64)) H (by rfl) (by first | rfl | simp only [List.length_set]) (by rfl) (by rfl) ?_ <;> clear H <;> intro out_302 H
      try simp only [↓wk, ↓wl, nc, evV, wrapBits_eq, ↓reduceIte, Nat.reduceEqDiff, Nat.reduceAdd, Nat.reduceSub, Nat.reduceLeDiff, Nat.reduceLT, Nat.reduceBEq, reduceCtorEq, Int.reduceEq]
      refine blkQ.norm ?_
      refine AW.rend ?_
      try simp only [↓wk, ↓wl, nc, evV, wrapBits_eq, ↓reduceIte, Nat.reduceEqDiff, Nat.reduceAdd, Nat.reduceSub, Nat.reduceLeDiff, Nat.reduceLT, Nat.reduceBEq, reduceCtorEq, Int.reduceEq]
      exact loopQ.next H ((Le.none [2] [5, 14, 15, 16] (by decide) (by simp only [f15_L1, List.length_set, Option.map_some, restrict_eq, renS_nil, renS_cons, renB_els, renB_cel, renB_dead, deep_eq, map_ren_enc, ren_agg', ren_tup', ren_fn', ren_int', ren_bool', ren_str', ren_sl', ren_pro', ren_nilp', ren_nilfn', ren_junk', ren_ptr', ren_row', ren_arow', ren_eptr', vm, List.idxOf?_cons, List.idxOf?_nil, beq_self_eq_true, Option.map_none, List.getD_cons_zero, List.getD_cons_succ, ↓wk, ↓wl, nc, evV, wrapBits_eq, ↓reduceIte, Nat.reduceEqDiff, Nat.reduceAdd, Nat.reduceSub, Nat.reduceLeDiff, Nat.reduceLT, Nat.reduceBEq, reduceCtorEq, Int.reduceEq] <;> rfl)))
    · refine AW.exit ?_
      refine seqQ.exit ?_
      refine loopQ.exit H ?_ <;> clear H <;> intro H
      try dsimp only at H
      refine blk0.here ?_
      refine seqQ.norm ?_
      refine AW.rseq ?_
      try simp only [↓wk, ↓wl, nc, evV, wrapBits_eq, ↓reduceIte, Nat.reduceEqDiff, Nat.reduceAdd, Nat.reduceSub, Nat.reduceLeDiff, Nat.reduceLT, Nat.reduceBEq, reduceCtorEq, Int.reduceEq]
      refine evTs_sort sorts48 H (by rfl) (by rfl) (by first | rfl | simp only [List.length_set]) (by rfl) ?_ <;> clear H <;> intro sorted_303 hlsorted_303 H
      have thlsorted_303 := fun f => take_map_eq hlsorted_303 f
      try simp only [↓wk, ↓wl, nc, evV, wrapBits_eq, ↓reduceIte, Nat.reduceEqDiff, Nat.reduceAdd, Nat.reduceSub, Nat.reduceLeDiff, Nat.reduceLT, Nat.reduceBEq, reduceCtorEq, Int.reduceEq, hlsorted_303, thlsorted_303]
      refine AW.rseq ?_
      try simp only [↓wk, ↓wl, nc, evV, wrapBits_eq, ↓reduceIte, Nat.reduceEqDiff, Nat.reduceAdd, Nat.reduceSub, Nat.reduceLeDiff, Nat.reduceLT, Nat.reduceBEq, reduceCtorEq, Int.reduceEq, hlsorted_303, thlsorted_303]
      refine evTs_compact compacts49 H (by rfl) (by rfl) (by first | rfl | simp only [List.length_set, hlsorted_303, thlsorted_303]) (by rfl) ?_ <;> clear H <;> intro out_304 H
      try simp only [↓wk, ↓wl, nc, evV, wrapBits_eq, ↓reduceIte, Nat.reduceEqDiff, Nat.reduceAdd, Nat.reduceSub, Nat.reduceLeDiff, Nat.reduceLT, Nat.reduceBEq, reduceCtorEq, Int.reduceEq, hlsorted_303, thlsorted_303]
      refine AW.ret ?_
      cases H
      exact hQ _ _ _ _ (.inr rfl) (by simp only [resVs, omap, resV, ↓wk, ↓wl, nc, evV, wrapBits_eq, ↓reduceIte, Nat.reduceEqDiff, Nat.reduceAdd, Nat.reduceSub, Nat.reduceLeDiff, Nat.reduceLT, Nat.reduceBEq, reduceCtorEq, Int.reduceEq, hlsorted_303, thlsorted_303]; rfl) (hand_k (by rfl) (by rfl) (by simp) (enc_all _) (by rfl)) (by first | exact Or.inl rfl | exact Or.inr rfl)
theorem f15_im {l_225 : (List ApiEntry)} {r_ : (List Int) × Int} (H : f15 l_225 = some r_) : Pure Try.prog 15 [.sl 4 false (l_225.map eApiEntry)] (· = .tup [.sl 0 false (r_.1.map (AV.int .i64)), .int .i64 r_.2]) := (f15_ok H).unfr (by first | exact enc_fits _ | simp only [frFits, List.all_cons, List.all_nil, enc_fits, Bool.and_self])
def c42_0 : C := .cond (.t 9) (.seq (.reg [iI 10 (.mv (.t 5)), iI 4 (.mv (.t 10))]) .ret) (.skip)
def c42_1 : C := .seq (.reg [iI 8 (.mv (.t 5)), iI 9 (.bin .neq (.t 8) (.c (.int .i64 0)))]) c42_0
def c42_2 : C := .seq (.reg [iI 11 (.mv (.t 1)), iI 12 (.call (.c (.fn 47 [])) [(.t 11)]), iI 4 (.mv (.t 12))]) .ret
def c42_3 : C := .seq (.seq (.reg [iI 6 (.mv (.t 0)), iI 7 (.call (.c (.fn 32 [])) [(.t 6)]), iI 5 (.mv (.t 7))]) c42_1) c42_2
def ir42 : C := .seq (.reg [iI 4 (.mv (.c (.int .i64 0)))]) c42_3
theorem fd42 : fd? Try.prog 42 = some (13, [.slot 4], ir42) := by kernel_rfl
noncomputable def f42 (l_340 : (List ApiPalette)) (entries_341 : (List ApiEntry)) : Option (Int) :=
  (f32 l_340).bind fun r_342 => (if (decide (r_342 ≠ 0)) = true then (some r_342) else (f47 entries_341).bind fun r_343 => (some r_343))
theorem f42_ok {l_340 : (List ApiPalette)} {entries_341 : (List ApiEntry)} {r_ : Int} (H : f42 l_340 entries_341 = some r_) : Pure Try.prog 42 [.sl 2 false (l_340.map eApiPalette), .sl 4 false (entries_341.map eApiEntry)] (· = .int .i64 r_) := by
  refine Pure.walk3 fd42 none (Nat.le_of_ble_eq_true rfl) (by rfl) fun Q hQ => ?_
  simp only [f42] at H
  refine AW.rseq ?_
  try simp only [↓wk, ↓wl, nc, evV, wrapBits_eq, ↓reduceIte, Nat.reduceEqDiff, Nat.reduceAdd, Nat.reduceSub, Nat.reduceLeDiff, Nat.reduceLT, Nat.reduceBEq, reduceCtorEq, Int.reduceEq]
  refine AW.sseq ?_
  refine AW.rseq ?_
  try simp only [↓wk, ↓wl, nc, evV, wrapBits_eq, ↓reduceIte, Nat.reduceEqDiff, Nat.reduceAdd, Nat.reduceSub, Nat.reduceLeDiff, Nat.reduceLT, Nat.reduceBEq, reduceCtorEq, Int.reduceEq]
  refine evTs_pure hFn H (fun _ h => f32_ok h) (by rfl) (by rfl) (by rfl) (by rfl) (fun _ => rfl) ?_ <;> clear H <;> intro r_342 H
  try simp only [eL, ↓wk, ↓wl, nc, evV, wrapBits_eq, ↓reduceIte, Nat.reduceEqDiff, Nat.reduceAdd, Nat.reduceSub, Nat.reduceLeDiff, Nat.reduceLT, Nat.reduceBEq, reduceCtorEq, Int.reduceEq]
  refine AW.rseq ?_
  try simp only [↓wk, ↓wl, nc, evV, wrapBits_eq, ↓reduceIte, Nat.reduceEqDiff, Nat.reduceAdd, Nat.reduceSub, Nat.reduceLeDiff, Nat.reduceLT, Nat.reduceBEq, reduceCtorEq, Int.reduceEq]
  refine AW.ifc H (by rfl) ?_ ?_ <;> clear H <;> intro H
  · refine AW.rseq ?_
    try simp only [↓wk, ↓wl, nc, evV, wrapBits_eq, ↓reduceIte, Nat.reduceEqDiff, Nat.reduceAdd, Nat.reduceSub, Nat.reduceLeDiff, Nat.reduceLT, Nat.reduceBEq, reduceCtorEq, Int.reduceEq]
    refine AW.ret ?_
    refine seqQ.ret ?_
    cases H
    exact hQ _ _ _ _ (.inr rfl) (by simp only [resVs, omap, resV, ↓wk, ↓wl, nc, evV, wrapBits_eq, ↓reduceIte, Nat.reduceEqDiff, Nat.reduceAdd, Nat.reduceSub, Nat.reduceLeDiff, Nat.reduceLT, Nat.reduceBEq, reduceCtorEq, Int.reduceEq]; rfl) (hand_plain (by rfl)) (by first | exact Or.inl rfl | exact Or.inr rfl)
  · refine AW.skip ?_
    refine seqQ.norm ?_
    refine AW.rseq ?_
    try simp only [↓wk, ↓wl, nc, evV, wrapBits_eq, ↓reduceIte, Nat.reduceEqDiff, Nat.reduceAdd, Nat.reduceSub, Nat.reduceLeDiff, Nat.reduceLT, Nat.reduceBEq, reduceCtorEq, Int.reduceEq]
    refine evTs_pure hFn H (fun _ h => f47_ok h) (by rfl) (by rfl) (by rfl) (by rfl) (fun _ => rfl) ?_ <;> clear H <;> intro r_343 H
    try simp only [eL, ↓wk, ↓wl, nc, evV, wrapBits_eq, ↓reduceIte, Nat.reduceEqDiff, Nat.reduceAdd, Nat.reduceSub, Nat.reduceLeDiff, Nat.reduceLT, Nat.reduceBEq, reduceCtorEq, Int.reduceEq]
    refine AW.ret ?_
    cases H
    exact hQ _ _ _ _ (.inr rfl) (by simp only [resVs, omap, resV, ↓wk, ↓wl, nc, evV, wrapBits_eq, ↓reduceIte, Nat.reduceEqDiff, Nat.reduceAdd, Nat.reduceSub, Nat.reduceLeDiff, Nat.reduceLT, Nat.reduceBEq, reduceCtorEq, Int.reduceEq]; rfl) (hand_plain (by rfl)) (by first | exact Or.inl rfl | exact Or.inr rfl)
def c43_0 : C := .cond (.t 4) (.seq (.reg [iI 2 (.mv (.c (.sl 4 true [])))]) .ret) (.skip)
def c43_1 : C := .seq (.reg [iI 5 (.mkslp 4 0 (.agg [(.int .i64 0), (.int .i64 0), (.int .i64 0), (.int .i64 0)]) []), iI 6 (.mv (.t 0)), iI 7 (.append 4 32 (.t 5) (.t 6)), iI 2 (.mv (.t 7))]) .ret
def c43_2 : C := .seq (.seq (.reg [iI 3 (.mv (.t 0)), iI 4 (.isnil false (.t 3))]) c43_0) c43_1
def ir43 : C := .seq (.reg [iI 2 (.mv (.c (.sl 4 true [])))]) c43_2
theorem fd43 : fd? Try.prog 43 = some (8, [.slot 2], ir43) := by kernel_rfl
noncomputable def f43 (s_346 : (List ApiEntry)) : Option ((List ApiEntry)) :=
  (nil? (s_346 : List ApiEntry) false fun b_347 => (if b_347 = true then (some []) else (app? 32 [] s_346).bind fun out_348 => (some out_348)))
theorem f43_ok {s_346 : (List ApiEntry)} {r_ : (List ApiEntry)} (H : f43 s_346 = some r_) : Pure Try.prog 43 [.sl 4 false (s_346.map eApiEntry)] (· = .fr 4 (r_.map eApiEntry)) := by
  refine Pure.walk3 fd43 (some 0) (Nat.le_of_ble_eq_true rfl) (by rfl) fun Q hQ => ?_
  simp only [f43] at H
  refine AW.rseq ?_
  try simp only [↓wk, ↓wl, nc, evV, wrapBits_eq, ↓reduceIte, Nat.reduceEqDiff, Nat.reduceAdd, Nat.reduceSub, Nat.reduceLeDiff, Nat.reduceLT, Nat.reduceBEq, reduceCtorEq, Int.reduceEq]
  refine AW.sseq ?_
  refine AW.rseq ?_
  try simp only [↓wk, ↓wl, nc, evV, wrapBits_eq, ↓reduceIte, Nat.reduceEqDiff, Nat.reduceAdd, Nat.reduceSub, Nat.reduceLeDiff, Nat.reduceLT, Nat.reduceBEq, reduceCtorEq, Int.reduceEq]
  refine evTs_isnil (enc := eApiEntry) H (by rfl) ?_ <;> clear H <;> intro b_347 H
  try simp only [↓wk, ↓wl, nc, evV, wrapBits_eq, ↓reduceIte, Nat.reduceEqDiff, Nat.reduceAdd, Nat.reduceSub, Nat.reduceLeDiff, Nat.reduceLT, Nat.reduceBEq, reduceCtorEq, Int.reduceEq]
  refine AW.ifc H (by rfl) ?_ ?_ <;> clear H <;> intro H
  · refine AW.rseq ?_
    try simp only [↓wk, ↓wl, nc, evV, wrapBits_eq, ↓reduceIte, Nat.reduceEqDiff, Nat.reduceAdd, Nat.reduceSub, Nat.reduceLeDiff, Nat.reduceLT, Nat.reduceBEq, reduceCtorEq, Int.reduceEq]
    refine AW.ret ?_
    refine seqQ.ret ?_
    cases H
    exact hQ _ _ _ _ (.inr rfl) (by simp only [resVs, omap, resV, ↓wk, ↓wl, nc, evV, wrapBits_eq, ↓reduceIte, Nat.reduceEqDiff, Nat.reduceAdd, Nat.reduceSub, Nat.reduceLeDiff, Nat.reduceLT, Nat.reduceBEq, reduceCtorEq, Int.reduceEq]; rfl) hand_10 (by first | exact Or.inl rfl | exact Or.inr rfl)
  · refine AW.skip ?_
    refine seqQ.norm ?_
    refine AW.rseq ?_
    try simp only [↓wk, ↓wl, nc, evV, wrapBits_eq, ↓reduceIte, Nat.reduceEqDiff, Nat.reduceAdd, Nat.reduceSub, Nat.reduceLeDiff, Nat.reduceLT, Nat.reduceBEq, reduceCtorEq, Int.reduceEq]
    refine evTs_app0 (enc := eApiEntry) H (by rfl) (by rfl) ?_ <;> clear H <;> intro out_348 H
    try simp only [↓wk, ↓wl, nc, evV, wrapBits_eq, ↓reduceIte, Nat.reduceEqDiff, Nat.reduceAdd, Nat.reduceSub, Nat.reduceLeDiff, Nat.reduceLT, Nat.reduceBEq, reduceCtorEq, Int.reduceEq]
    refine AW.ret ?_
    cases H
    exact hQ _ _ _ _ (.inr rfl) (by simp only [resVs, omap, resV, ↓wk, ↓wl, nc, evV, wrapBits_eq, ↓reduceIte, Nat.reduceEqDiff, Nat.reduceAdd, Nat.reduceSub, Nat.reduceLeDiff, Nat.reduceLT, Nat.reduceBEq, reduceCtorEq, Int.reduceEq]; rfl) (hand_1 (by rfl) (by simp) (enc_all _)) (by first | exact Or.inl rfl | exact Or.inr rfl)
theorem f43_im {s_346 : (List ApiEntry)} {r_ : (List ApiEntry)} (H : f43 s_346 = some r_) : Pure Try.prog 43 [.sl 4 false (s_346.map eApiEntry)] (· = .sl 4 false (r_.map eApiEntry)) := (f43_ok H).unfr (by first | exact enc_fits _ | simp only [frFits, List.all_cons, List.all_nil, enc_fits, Bool.and_self])
noncomputable def f12_L1 (r_349 : (List ApiEntry)) (l_338 : (List ApiPalette)) : Lp (Int × (List ApiEntry)) ((List ApiEntry)) where
  body := fun (v_368, out_369) => (if (decide (v_368 < ((r_349.length : Nat) : Int))) = true then (at? out_369 v_368).bind fun x_379 => (f44 x_379).bind fun r_381 => (if (!r_381) = true then (some (.next ((IntKind.i64.wrap (v_368 + 1)), out_369))) else (at? out_369 v_368).bind fun x_382 => (f36 l_338 x_379.fValue.fPalette x_379.fParam).bind fun r_384 => (if r_384.2 = true then (at? (out_369.set v_368.toNat (ApiEntry.mk x_382.fParam (ApiValue.mk (-1) 0))) v_368).bind fun x_385 => (some (.next ((IntKind.i64.wrap (v_368 + 1)), ((out_369.set v_368.toNat (ApiEntry.mk x_382.fParam (ApiValue.mk (-1) 0))).set v_368.toNat (ApiEntry.mk x_385.fParam (ApiValue.mk 0 r_384.1)))))) else (some (.next ((IntKind.i64.wrap (v_368 + 1)), (out_369.set v_368.toNat (ApiEntry.mk x_382.fParam (ApiValue.mk (-1) 0)))))))) else (some (.brk out_369)))
  cst := fun (v_368, out_369) => ⟨put (put (put (put (put (fun _ => .junk) 22 (.int .i64 v_368)) 21 (.int .i64 ((r_349.length : Nat) : Int))) 20 (.row 4 0 0 out_369.length)) 7 (.row 4 0 0 out_369.length)) 0 (.sl 2 false (l_338.map eApiPalette)), [.els 4 (out_369.map eApiEntry)]⟩
def c12_0 : C := .cond (.t 16) (.seq (.reg [iI 17 (.mv (.t 6)), iI 4 (.mv (.c (.sl 4 true []))), iI 5 (.mv (.t 17))]) .ret) (.skip)
def c12_1 : C := .seq (.reg [iI 15 (.mv (.t 6)), iI 16 (.bin .neq (.t 15) (.c (.int .i64 0)))]) c12_0
def c12_2 : C := .cond (.t 29) (.exit 1) (.skip)
def c12_3 : C := .cond (.t 45) (.reg [iI 46 (.mv (.t 7)), iI 47 (.mv (.t 8)), iI 48 (.mv (.t 10)), iI 49 (.build [(1, (.int .i64 0)), (1, (.int .i64 0))] [(1, 0, (.t 48))]), iI 50 (.iaddr 4 (.t 46) (.t 47)), iI 51 (.faddr 2 (.t 50)), iN (.store 2 (.t 51) (.t 49))]) (.skip)
def c12_4 : C := .seq (.reg [iI 45 (.mv (.t 11))]) c12_3
def c12_5 : C := .seq (.reg [iI 36 (.mv (.t 0)), iI 37 (.faddr 2 (.t 9)), iI 38 (.faddr 0 (.t 37)), iI 39 (.load 0 (.t 38)), iI 40 (.faddr 0 (.t 9)), iI 41 (.load 2 (.t 40)), iI 42 (.call (.c (.fn 36 [])) [(.t 36), (.t 39), (.t 41)]), iI 35 (.mv (.t 42)), iI 43 (.ext (.t 35) 0), iI 44 (.ext (.t 35) 1), iI 10 (.mv (.t 43)), iI 11 (.mv (.t 44))]) c12_4
def c12_6 : C := .seq (.reg [iI 30 (.mv (.t 7)), iI 31 (.mv (.t 8)), iI 32 (.build [(1, (.int .i64 0)), (1, (.int .i64 0))] [(0, 0, (.c (.int .i64 (-1))))]), iI 33 (.iaddr 4 (.t 30) (.t 31)), iI 34 (.faddr 2 (.t 33)), iN (.store 2 (.t 34) (.t 32))]) c12_5
def c12_7 : C := .seq (.seq (.reg [iI 27 (.load 4 (.t 9)), iI 28 (.call (.c (.fn 44 [])) [(.t 27)]), iI 29 (.un .not (.t 28))]) c12_2) c12_6
def c12_8 : C := .reg [iI 52 (.bin .add (.t 22) (.c (.int .i64 1))), iI 22 (.mv (.t 52))]
def c12_9 : C := .seq (.block 1 (.seq (.reg [iI 24 (.mv (.t 22)), iI 25 (.iaddr 4 (.t 20) (.t 22)), iI 26 (.load 4 (.t 25)), iI 9 (.alloc [(1, (.int .i64 0)), (1, (.int .i64 0)), (1, (.int .i64 0)), (1, (.int .i64 0))]), iI 8 (.mv (.t 24)), iN (.store 4 (.t 9) (.t 26))]) c12_7)) c12_8
def c12_10 : C := .seq (.cond (.t 23) (.skip) (.exit 0)) c12_9
def c12_11 : C := .block 0 (.loop (.seq (.reg [iI 23 (.bin .lss (.t 22) (.t 21))]) c12_10))
def c12_12 : C := .seq (.reg [iI 53 (.mv (.t 7)), iI 4 (.mv (.t 53)), iI 5 (.mv (.c (.int .i64 0)))]) .ret
def c12_13 : C := .seq (.seq (.reg [iI 20 (.mv (.t 7)), iI 21 (.len 0 (.t 20)), iI 22 (.mv (.c (.int .i64 0)))]) c12_11) c12_12
def c12_14 : C := .seq (.reg [iI 18 (.mv (.t 1)), iI 19 (.call (.c (.fn 43 [])) [(.t 18)]), iI 7 (.mv (.t 19))]) c12_13
def c12_15 : C := .seq (.seq (.reg [iI 12 (.mv (.t 0)), iI 13 (.mv (.t 1)), iI 14 (.call (.c (.fn 42 [])) [(.t 12), (.t 13)]), iI 6 (.mv (.t 14))]) c12_1) c12_14
def ir12 : C := .seq (.reg [iI 4 (.mv (.c (.sl 4 true []))), iI 5 (.mv (.c (.int .i64 0)))]) c12_15
theorem fd12 : fd? Try.prog 12 = some (54, [.slot 4, .slot 5], ir12) := by kernel_rfl
noncomputable def f12 (l_338 : (List ApiPalette)) (entries_339 : (List ApiEntry)) : Option ((List ApiEntry) × Int) :=
  (f42 l_338 entries_339).bind fun r_345 => (if (decide (r_345 ≠ 0)) = true then (some ([], r_345)) else (f43 entries_339).bind fun r_349 => (Lp.run (f12_L1 r_349 l_338) (0, r_349)).bind fun out_378 => (some (out_378, 0)))
theorem f12_ok {l_338 : (List ApiPalette)} {entries_339 : (List ApiEntry)} {r_ : (List ApiEntry) × Int} (H : f12 l_338 entries_339 = some r_) : Pure Try.prog 12 [.sl 2 false (l_338.map eApiPalette), .sl 4 false (entries_339.map eApiEntry)] (· = .tup [.fr 4 (r_.1.map eApiEntry), .int .i64 r_.2]) := by
  refine Pure.walk3 fd12 (some 0) (Nat.le_of_ble_eq_true rfl) (by rfl) fun Q hQ => ?_
  simp only [f12] at H
  refine AW.rseq ?_
  try simp only [↓wk, ↓wl, ncs, evV, wrapBits_eq, ↓reduceIte, Nat.reduceEqDiff, Nat.reduceAdd, Nat.reduceSub, Nat.reduceLeDiff, Nat.reduceLT, Nat.reduceBEq, reduceCtorEq, Int.reduceEq]
  refine AW.sseq ?_
  refine AW.rseq ?_
  try simp only [↓wk, ↓wl, ncs, evV, wrapBits_eq, ↓reduceIte, Nat.reduceEqDiff, Nat.reduceAdd, Nat.reduceSub, Nat.reduceLeDiff, Nat.reduceLT, Nat.reduceBEq, reduceCtorEq, Int.reduceEq]
  refine evTs_pure hFn H (fun _ h => f42_ok h) (by rfl) (by rfl) (by rfl) (by rfl) (fun _ => rfl) ?_ <;> clear H <;> intro r_345 H
  try simp only [eL, ↓wk, ↓wl, ncs, evV, wrapBits_eq, ↓reduceIte, Nat.reduceEqDiff, Nat.reduceAdd, Nat.reduceSub, Nat.reduceLeDiff, Nat.reduceLT, Nat.reduceBEq, reduceCtorEq, Int.reduceEq]
  refine AW.rseq ?_
  try simp only [↓wk, ↓wl, ncs, evV, wrapBits_eq, ↓reduceIte, Nat.reduceEqDiff, Nat.reduceAdd, Nat.reduceSub, Nat.reduceLeDiff, Nat.reduceLT, Nat.reduceBEq, reduceCtorEq, Int.reduceEq]
  refine AW.ifc H (by rfl) ?_ ?_ <;> clear H <;> intro H
  · refine AW.rseq ?_
    try simp only [↓wk, ↓wl, ncs, evV, wrapBits_eq, ↓reduceIte, Nat.reduceEqDiff, Nat.reduceAdd, Nat.reduceSub, Nat.reduceLeDiff, Nat.reduceLT, Nat.reduceBEq, reduceCtorEq, Int.reduceEq]
    refine AW.ret ?_
    refine seqQ.ret ?_
    cases H
    exact hQ _ _ _ _ (.inr rfl) (by simp only [resVs, omap, resV, ↓wk, ↓wl, ncs, evV, wrapBits_eq, ↓reduceIte, Nat.reduceEqDiff, Nat.reduceAdd, Nat.reduceSub, Nat.reduceLeDiff, Nat.reduceLT, Nat.reduceBEq, reduceCtorEq, Int.reduceEq]; rfl) (hand_k0 (by rfl) (by rfl)) (by first | exact Or.inl rfl | exact Or.inr rfl)
  · refine AW.skip ?_
    refine seqQ.norm ?_
    refine AW.rseq ?_
    try simp only [↓wk, ↓wl, ncs, evV, wrapBits_eq, ↓reduceIte, Nat.reduceEqDiff, Nat.reduceAdd, Nat.reduceSub, Nat.reduceLeDiff, Nat.reduceLT, Nat.reduceBEq, reduceCtorEq, Int.reduceEq]
    refine evTs_fr H (fun _ h => f43_ok h) (by rfl) (by rfl) (by rfl) (by rfl) (fun _ => rfl) ?_ <;> clear H <;> intro r_349 H
    try simp only [eL, ↓wk, ↓wl, ncs, evV, wrapBits_eq, ↓reduceIte, Nat.reduceEqDiff, Nat.reduceAdd, Nat.reduceSub, Nat.reduceLeDiff, Nat.reduceLT, Nat.reduceBEq, reduceCtorEq, Int.reduceEq]
    refine AW.sseq ?_
    refine AW.rseq ?_
    try simp only [↓wk, ↓wl, ncs, evV, wrapBits_eq, ↓reduceIte, Nat.reduceEqDiff, Nat.reduceAdd, Nat.reduceSub, Nat.reduceLeDiff, Nat.reduceLT, Nat.reduceBEq, reduceCtorEq, Int.reduceEq]
    refine AW.bend ?_
    refine AW.iter H ((Le.none [0] [0, 7, 20, 21, 22] (by decide) (by simp only [f12_L1, List.length_set, Option.map_some, restrict_eq, renS_nil, renS_cons, renB_els, renB_cel, renB_dead, deep_eq, map_ren_enc, ren_agg', ren_tup', ren_fn', ren_int', ren_bool', ren_str', ren_sl', ren_pro', ren_nilp', ren_nilfn', ren_junk', ren_ptr', ren_row', ren_arow', ren_eptr', vm, List.idxOf?_cons, List.idxOf?_nil, beq_self_eq_true, Option.map_none, List.getD_cons_zero, List.getD_cons_succ, ↓wk, ↓wl, nc, evV, wrapBits_eq, ↓reduceIte, Nat.reduceEqDiff, Nat.reduceAdd, Nat.reduceSub, Nat.reduceLeDiff, Nat.reduceLT, Nat.reduceBEq, reduceCtorEq, Int.reduceEq] <;> rfl))) ?_ <;> clear H
    rintro ⟨v_368, out_369⟩ x_ st0_ H hst_
    simp only [f12_L1] at H hst_
    subst hst_
    refine AW.rseq ?_
    try simp only [↓wk, ↓wl, ncs, evV, wrapBits_eq, ↓reduceIte, Nat.reduceEqDiff, Nat.reduceAdd, Nat.reduceSub, Nat.reduceLeDiff, Nat.reduceLT, Nat.reduceBEq, reduceCtorEq, Int.reduceEq]
    refine AW.sseq ?_
    refine AW.ifc H (by rfl) ?_ ?_ <;> clear H <;> intro H
    · refine AW.skip ?_
      refine seqQ.norm ?_
      refine AW.bseq ?_
      refine AW.rseq ?_
      try simp only [↓wk, ↓wl, ncs, evV, wrapBits_eq, ↓reduceIte, Nat.reduceEqDiff, Nat.reduceAdd, Nat.reduceSub, Nat.reduceLeDiff, Nat.reduceLT, Nat.reduceBEq, reduceCtorEq, Int.reduceEq]
      refine evTs_atr (enc := eApiEntry) H (by rfl) (by first | rfl | simp only [List.length_set]) (by rfl) ?_ <;> clear H <;> intro x_379 hx_379 H
      try simp only [eApiEntry, eL, ↓wk, ↓wl, ncs, evV, wrapBits_eq, ↓reduceIte, Nat.reduceEqDiff, Nat.reduceAdd, Nat.reduceSub, Nat.reduceLeDiff, Nat.reduceLT, Nat.reduceBEq, reduceCtorEq, Int.reduceEq, hx_379, eApiEntry, eL]
      refine evTs_st (by simp only [↓wk, ↓wl, ncs, evV, wrapBits_eq, ↓reduceIte, Nat.reduceEqDiff, Nat.reduceAdd, Nat.reduceSub, Nat.reduceLeDiff, Nat.reduceLT, Nat.reduceBEq, reduceCtorEq, Int.reduceEq, hx_379, eApiEntry, eL, Nat.reduceLeDiff]; rfl) ?_
      try simp only [↓wk, ↓wl, ncs, evV, wrapBits_eq, ↓reduceIte, Nat.reduceEqDiff, Nat.reduceAdd, Nat.reduceSub, Nat.reduceLeDiff, Nat.reduceLT, Nat.reduceBEq, reduceCtorEq, Int.reduceEq, hx_379, eApiEntry, eL]
      refine AW.sseq ?_
      refine AW.rseq ?_
      try simp only [↓wk, ↓wl, ncs, evV, wrapBits_eq, ↓reduceIte, Nat.reduceEqDiff, Nat.reduceAdd, Nat.reduceSub, Nat.reduceLeDiff, Nat.reduceLT, Nat.reduceBEq, reduceCtorEq, Int.reduceEq, hx_379, eApiEntry, eL]
      refine evTs_pure hFn H (fun _ h => f44_ok h) (by rfl) (by rfl) (by rfl) (by rfl) (fun _ => rfl) ?_ <;> clear H <;> intro r_381 H
      try simp only [eL, ↓wk, ↓wl, ncs, evV, wrapBits_eq, ↓reduceIte, Nat.reduceEqDiff, Nat.reduceAdd, Nat.reduceSub, Nat.reduceLeDiff, Nat.reduceLT, Nat.reduceBEq, reduceCtorEq, Int.reduceEq, hx_379, eApiEntry, eL]
      refine AW.ifc H (by rfl) ?_ ?_ <;> clear H <;> intro H
      · refine AW.exit ?_
        refine seqQ.exit ?_
        refine blkQ.here ?_
        refine AW.rend ?_
        try simp only [↓wk, ↓wl, ncs, evV, wrapBits_eq, ↓reduceIte, Nat.reduceEqDiff, Nat.reduceAdd, Nat.reduceSub, Nat.reduceLeDiff, Nat.reduceLT, Nat.reduceBEq, reduceCtorEq, Int.reduceEq, hx_379, eApiEntry, eL]
        exact loopQ.next H ((Le.none [0] [0, 7, 20, 21, 22] (by decide) (by simp only [f12_L1, List.length_set, Option.map_some, restrict_eq, renS_nil, renS_cons, renB_els, renB_cel, renB_dead, deep_eq, map_ren_enc, ren_agg', ren_tup', ren_fn', ren_int', ren_bool', ren_str', ren_sl', ren_pro', ren_nilp', ren_nilfn', ren_junk', ren_ptr', ren_row', ren_arow', ren_eptr', vm, List.idxOf?_cons, List.idxOf?_nil, beq_self_eq_true, Option.map_none, List.getD_cons_zero, List.getD_cons_succ, ↓wk, ↓wl, nc, evV, wrapBits_eq, ↓reduceIte, Nat.reduceEqDiff, Nat.reduceAdd, Nat.reduceSub, Nat.reduceLeDiff, Nat.reduceLT, Nat.reduceBEq, reduceCtorEq, Int.reduceEq, hx_379, eApiEntry, eL] <;> rfl)))
      · refine AW.skip ?_
        refine seqQ.norm ?_
        refine AW.rseq ?_
        try simp only [↓wk, ↓wl, ncs, evV, wrapBits_eq, ↓reduceIte, Nat.reduceEqDiff, Nat.reduceAdd, Nat.reduceSub, Nat.reduceLeDiff, Nat.reduceLT, Nat.reduceBEq, reduceCtorEq, Int.reduceEq, hx_379, eApiEntry, eL]
        refine evTs_atr (enc := eApiEntry) H (by rfl) (by first | rfl | simp only [List.length_set, hx_379, eApiEntry, eL]) (by rfl) ?_ <;> clear H <;> intro x_382 hx_382 H
        try simp only [eApiEntry, eL, ↓wk, ↓wl, ncs, evV, wrapBits_eq, ↓reduceIte, Nat.reduceEqDiff, Nat.reduceAdd, Nat.reduceSub, Nat.reduceLeDiff, Nat.reduceLT, Nat.reduceBEq, reduceCtorEq, Int.reduceEq, hx_379, eApiEntry, eL, hx_382]
        refine evTs_stE (enc := eApiEntry) x_382 (ApiEntry.mk x_382.fParam (ApiValue.mk (-1) 0)) (by rfl) (by rfl) hx_382 (by rfl) ?_
        have hw_383 := set_get hx_382 (ApiEntry.mk x_382.fParam (ApiValue.mk (-1) 0))
        try simp only [eApiEntry, eL, ↓wk, ↓wl, ncs, evV, wrapBits_eq, ↓reduceIte, Nat.reduceEqDiff, Nat.reduceAdd, Nat.reduceSub, Nat.reduceLeDiff, Nat.reduceLT, Nat.reduceBEq, reduceCtorEq, Int.reduceEq, hx_379, eApiEntry, eL, hx_382, hw_383]
        refine AW.rseq ?_
        try simp only [↓wk, ↓wl, ncs, evV, wrapBits_eq, ↓reduceIte, Nat.reduceEqDiff, Nat.reduceAdd, Nat.reduceSub, Nat.reduceLeDiff, Nat.reduceLT, Nat.reduceBEq, reduceCtorEq, Int.reduceEq, hx_379, eApiEntry, eL, hx_382, hw_383]
        refine evTs_pure hFn H (fun _ h => f36_ok h) (by rfl) (by rfl) (by rfl) (by rfl) (fun _ => rfl) ?_ <;> clear H <;> intro r_384 H
        try simp only [eL, ↓wk, ↓wl, ncs, evV, wrapBits_eq, ↓reduceIte, Nat.reduceEqDiff, Nat.reduceAdd, Nat.reduceSub, Nat.reduceLeDiff, Nat.reduceLT, Nat.reduceBEq, reduceCtorEq, Int.reduceEq, hx_379, eApiEntry, eL, hx_382, hw_383]
        refine AW.rseq ?_
        try simp only [↓wk, ↓wl, ncs, evV, wrapBits_eq, ↓reduceIte, Nat.reduceEqDiff, Nat.reduceAdd, Nat.reduceSub, Nat.reduceLeDiff, Nat.reduceLT, Nat.reduceBEq, reduceCtorEq, Int.reduceEq, hx_379, eApiEntry, eL, hx_382, hw_383]
        refine AW.ifc H (by rfl) ?_ ?_ <;> clear H <;> intro H
        · refine AW.rend ?_
          try simp only [↓wk, ↓wl, ncs, evV, wrapBits_eq, ↓reduceIte, Nat.reduceEqDiff, Nat.reduceAdd, Nat.reduceSub, Nat.reduceLeDiff, Nat.reduceLT, Nat.reduceBEq, reduceCtorEq, Int.reduceEq, hx_379, eApiEntry, eL, hx_382, hw_383]
          refine evTs_atr (enc := eApiEntry) H (by rfl) (by first | rfl | simp only [List.length_set, hx_379, eApiEntry, eL, hx_382, hw_383]) (by rfl) ?_ <;> clear H <;> intro x_385 hx_385 H
          try simp only [eApiEntry, eL, ↓wk, ↓wl, ncs, evV, wrapBits_eq, ↓reduceIte, Nat.reduceEqDiff, Nat.reduceAdd, Nat.reduceSub, Nat.reduceLeDiff, Nat.reduceLT, Nat.reduceBEq, reduceCtorEq, Int.reduceEq, hx_379, eApiEntry, eL, hx_382, hw_383, hx_385]
          refine evTs_stE (enc := eApiEntry) x_385 (ApiEntry.mk x_385.fParam (ApiValue.mk 0 r_384.1)) (by rfl) (by rfl) hx_385 (by rfl) ?_
          have hw_386 := set_get hx_385 (ApiEntry.mk x_385.fParam (ApiValue.mk 0 r_384.1))
          try simp only [eApiEntry, eL, ↓wk, ↓wl, ncs, evV, wrapBits_eq, ↓reduceIte, Nat.reduceEqDiff, Nat.reduceAdd, Nat.reduceSub, Nat.reduceLeDiff, Nat.reduceLT, Nat.reduceBEq, reduceCtorEq, Int.reduceEq, hx_379, eApiEntry, eL, hx_382, hw_383, hx_385, hw_386]
          refine blkQ.norm ?_
          refine AW.rend ?_
          try simp only [↓wk, ↓wl, ncs, evV, wrapBits_eq, ↓reduceIte, Nat.reduceEqDiff, Nat.reduceAdd, Nat.reduceSub, Nat.reduceLeDiff, Nat.reduceLT, Nat.reduceBEq, reduceCtorEq, Int.reduceEq, hx_379, eApiEntry, eL, hx_382, hw_383, hx_385, hw_386]
          exact loopQ.next H ((Le.none [0] [0, 7, 20, 21, 22] (by decide) (by simp only [f12_L1, List.length_set, Option.map_some, restrict_eq, renS_nil, renS_cons, renB_els, renB_cel, renB_dead, deep_eq, map_ren_enc, ren_agg', ren_tup', ren_fn', ren_int', ren_bool', ren_str', ren_sl', ren_pro', ren_nilp', ren_nilfn', ren_junk', ren_ptr', ren_row', ren_arow', ren_eptr', vm, List.idxOf?_cons, List.idxOf?_nil, beq_self_eq_true, Option.map_none, List.getD_cons_zero, List.getD_cons_succ, ↓wk, ↓wl, nc, evV, wrapBits_eq, ↓reduceIte, Nat.reduceEqDiff, Nat.reduceAdd, Nat.reduceSub, Nat.reduceLeDiff, Nat.reduceLT, Nat.reduceBEq, reduceCtorEq, Int.reduceEq, hx_379, eApiEntry, eL, hx_382, hw_383, hx_385, hw_386] <;> rfl)))
        · refine AW.skip ?_
          refine blkQ.norm ?_
          refine AW.rend ?_
          try simp only [↓wk, ↓wl, ncs, evV, wrapBits_eq, ↓reduceIte, Nat.reduceEqDiff, Nat.reduceAdd, Nat.reduceSub, Nat.reduceLeDiff, Nat.reduceLT, Nat.reduceBEq, reduceCtorEq, Int.reduceEq, hx_379, eApiEntry, eL, hx_382, hw_383]
          exact loopQ.next H ((Le.none [0] [0, 7, 20, 21, 22] (by decide) (by simp only [f12_L1, List.length_set, Option.map_some, restrict_eq, renS_nil, renS_cons, renB_els, renB_cel, renB_dead, deep_eq, map_ren_enc, ren_agg', ren_tup', ren_fn', ren_int', ren_bool', ren_str', ren_sl', ren_pro', ren_nilp', ren_nilfn', ren_junk', ren_ptr', ren_row', ren_arow', ren_eptr', vm, List.idxOf?_cons, List.idxOf?_nil, beq_self_eq_true, Option.map_none, List.getD_cons_zero, List.getD_cons_succ, ↓wk, ↓wl, nc, evV, wrapBits_eq, ↓reduceIte, Nat.reduceEqDiff, Nat.reduceAdd, Nat.reduceSub, Nat.reduceLeDiff, Nat.reduceLT, Nat.reduceBEq, reduceCtorEq, Int.reduceEq, hx_379, eApiEntry, eL, hx_382, hw_383] <;> rfl)))
    · refine AW.exit ?_
      refine seqQ.exit ?_
      refine loopQ.exit H ?_ <;> clear H <;> intro H
      try dsimp only at H
      refine blk0.here ?_
      refine seqQ.norm ?_
      refine AW.rseq ?_
      try simp only [↓wk, ↓wl, ncs, evV, wrapBits_eq, ↓reduceIte, Nat.reduceEqDiff, Nat.reduceAdd, Nat.reduceSub, Nat.reduceLeDiff, Nat.reduceLT, Nat.reduceBEq, reduceCtorEq, Int.reduceEq]
      refine AW.ret ?_
      cases H
      exact hQ _ _ _ _ (.inr rfl) (by simp only [resVs, omap, resV, ↓wk, ↓wl, ncs, evV, wrapBits_eq, ↓reduceIte, Nat.reduceEqDiff, Nat.reduceAdd, Nat.reduceSub, Nat.reduceLeDiff, Nat.reduceLT, Nat.reduceBEq, reduceCtorEq, Int.reduceEq]; rfl) (hand_k (by rfl) (by rfl) (by simp) (enc_all _) (by rfl)) (by first | exact Or.inl rfl | exact Or.inr rfl)
theorem f12_im {l_338 : (List ApiPalette)} {entries_339 : (List ApiEntry)} {r_ : (List ApiEntry) × Int} (H : f12 l_338 entries_339 = some r_) : Pure Try.prog 12 [.sl 2 false (l_338.map eApiPalette), .sl 4 false (entries_339.map eApiEntry)] (· = .tup [.sl 4 false (r_.1.map eApiEntry), .int .i64 r_.2]) := (f12_ok H).unfr (by first | exact enc_fits _ | simp only [frFits, List.all_cons, List.all_nil, enc_fits, Bool.and_self])
noncomputable def f13_L1 (r_392 : (List ApiEntry)) (l_388 : (List ApiPalette)) : Lp (Int × (List ApiParam)) ((List ApiParam)) where
  body := fun (v_404, out_405) => (if (decide (v_404 < ((r_392.length : Nat) : Int))) = true then (at? r_392 v_404).bind fun x_410 => (f36 l_388 x_410.fValue.fPalette x_410.fParam).bind fun r_411 => (if (!r_411.2) = true then (app? 16 out_405 ([x_410.fParam])).bind fun out_412 => (some (.next ((IntKind.i64.wrap (v_404 + 1)), out_412))) else (some (.next ((IntKind.i64.wrap (v_404 + 1)), out_405)))) else (some (.brk out_405)))
  cst := fun (v_404, out_405) => ⟨put (put (put (put (put (fun _ => .junk) 21 (.int .i64 v_404)) 20 (.int .i64 ((r_392.length : Nat) : Int))) 19 (.sl 4 false (r_392.map eApiEntry))) 7 (.row 2 0 0 out_405.length)) 0 (.sl 2 false (l_388.map eApiPalette)), [.els 2 (out_405.map eApiParam)]⟩
def c13_0 : C := .cond (.t 16) (.seq (.reg [iI 17 (.mv (.t 6)), iI 4 (.mv (.c (.sl 2 true []))), iI 5 (.mv (.t 17))]) .ret) (.skip)
def c13_1 : C := .seq (.reg [iI 15 (.mv (.t 6)), iI 16 (.bin .neq (.t 15) (.c (.int .i64 0)))]) c13_0
def c13_2 : C := .cond (.t 36) (.reg [iI 37 (.mv (.t 7)), iI 38 (.faddr 0 (.t 9)), iI 39 (.load 2 (.t 38)), iI 40 (.mkslp 2 1 (.agg [(.int .i64 0), (.int .i64 0)]) [(0, (.t 39))]), iI 41 (.append 2 16 (.t 37) (.t 40)), iI 7 (.mv (.t 41))]) (.skip)
def c13_3 : C := .seq (.reg [iI 35 (.mv (.t 11)), iI 36 (.un .not (.t 35))]) c13_2
def c13_4 : C := .seq (.reg [iI 26 (.mv (.t 0)), iI 27 (.faddr 2 (.t 9)), iI 28 (.faddr 0 (.t 27)), iI 29 (.load 0 (.t 28)), iI 30 (.faddr 0 (.t 9)), iI 31 (.load 2 (.t 30)), iI 32 (.call (.c (.fn 36 [])) [(.t 26), (.t 29), (.t 31)]), iI 25 (.mv (.t 32)), iI 33 (.ext (.t 25) 0), iI 34 (.ext (.t 25) 1), iI 10 (.mv (.t 33)), iI 11 (.mv (.t 34))]) c13_3
def c13_5 : C := .reg [iI 42 (.bin .add (.t 21) (.c (.int .i64 1))), iI 21 (.mv (.t 42))]
def c13_6 : C := .seq (.block 1 (.seq (.reg [iI 23 (.iaddr 4 (.t 19) (.t 21)), iI 24 (.load 4 (.t 23)), iI 9 (.alloc [(1, (.int .i64 0)), (1, (.int .i64 0)), (1, (.int .i64 0)), (1, (.int .i64 0))]), iN (.store 4 (.t 9) (.t 24))]) c13_4)) c13_5
def c13_7 : C := .seq (.cond (.t 22) (.skip) (.exit 0)) c13_6
def c13_8 : C := .block 0 (.loop (.seq (.reg [iI 22 (.bin .lss (.t 21) (.t 20))]) c13_7))
def c13_9 : C := .seq (.reg [iI 43 (.mv (.t 7)), iI 4 (.mv (.t 43)), iI 5 (.mv (.c (.int .i64 0)))]) .ret
def c13_10 : C := .seq (.seq (.reg [iI 18 (.mv (.t 1)), iI 19 (.call (.c (.fn 45 [])) [(.t 18), (.c (.fn 44 []))]), iI 20 (.len 0 (.t 19)), iI 21 (.mv (.c (.int .i64 0)))]) c13_8) c13_9
def c13_11 : C := .seq (.reg [iI 7 (.mv (.c (.sl 2 true [])))]) c13_10
def c13_12 : C := .seq (.seq (.reg [iI 12 (.mv (.t 0)), iI 13 (.mv (.t 1)), iI 14 (.call (.c (.fn 42 [])) [(.t 12), (.t 13)]), iI 6 (.mv (.t 14))]) c13_1) c13_11
def ir13 : C := .seq (.reg [iI 4 (.mv (.c (.sl 2 true []))), iI 5 (.mv (.c (.int .i64 0)))]) c13_12
theorem fd13 : fd? Try.prog 13 = some (44, [.slot 4, .slot 5], ir13) := by kernel_rfl
noncomputable def f13 (l_388 : (List ApiPalette)) (entries_389 : (List ApiEntry)) : Option ((List ApiParam) × Int) :=
  (f42 l_388 entries_389).bind fun r_391 => (if (decide (r_391 ≠ 0)) = true then (some ([], r_391)) else (f45_44 entries_389).bind fun r_392 => (Lp.run (f13_L1 r_392 l_388) (0, [])).bind fun out_409 => (some (out_409, 0)))
theorem f13_ok {l_388 : (List ApiPalette)} {entries_389 : (List ApiEntry)} {r_ : (List ApiParam) × Int} (H : f13 l_388 entries_389 = some r_) : Pure Try.prog 13 [.sl 2 false (l_388.map eApiPalette), .sl 4 false (entries_389.map eApiEntry)] (· = .tup [.fr 2 (r_.1.map eApiParam), .int .i64 r_.2]) := by
  refine Pure.walk3 fd13 (some 0) (Nat.le_of_ble_eq_true rfl) (by rfl) fun Q hQ => ?_
  simp only [f13] at H
  refine AW.rseq ?_
  try simp only [↓wk, ↓wl, nc, evV, wrapBits_eq, ↓reduceIte, Nat.reduceEqDiff, Nat.reduceAdd, Nat.reduceSub, Nat.reduceLeDiff, Nat.reduceLT, Nat.reduceBEq, reduceCtorEq, Int.reduceEq]
  refine AW.sseq ?_
  refine AW.rseq ?_
  try simp only [↓wk, ↓wl, nc, evV, wrapBits_eq, ↓reduceIte, Nat.reduceEqDiff, Nat.reduceAdd, Nat.reduceSub, Nat.reduceLeDiff, Nat.reduceLT, Nat.reduceBEq, reduceCtorEq, Int.reduceEq]
  refine evTs_pure hFn H (fun _ h => f42_ok h) (by rfl) (by rfl) (by rfl) (by rfl) (fun _ => rfl) ?_ <;> clear H <;> intro r_391 H
  try simp only [eL, ↓wk, ↓wl, nc, evV, wrapBits_eq, ↓reduceIte, Nat.reduceEqDiff, Nat.reduceAdd, Nat.reduceSub, Nat.reduceLeDiff, Nat.reduceLT, Nat.reduceBEq, reduceCtorEq, Int.reduceEq]
  refine AW.rseq ?_
  try simp only [↓wk, ↓wl, nc, evV, wrapBits_eq, ↓reduceIte, Nat.reduceEqDiff, Nat.reduceAdd, Nat.reduceSub, Nat.reduceLeDiff, Nat.reduceLT, Nat.reduceBEq, reduceCtorEq, Int.reduceEq]
  refine AW.ifc H (by rfl) ?_ ?_ <;> clear H <;> intro H
  · refine AW.rseq ?_
    try simp only [↓wk, ↓wl, nc, evV, wrapBits_eq, ↓reduceIte, Nat.reduceEqDiff, Nat.reduceAdd, Nat.reduceSub, Nat.reduceLeDiff, Nat.reduceLT, Nat.reduceBEq, reduceCtorEq, Int.reduceEq]
    refine AW.ret ?_
    refine seqQ.ret ?_
    cases H
    exact hQ _ _ _ _ (.inr rfl) (by simp only [resVs, omap, resV, ↓wk, ↓wl, nc, evV, wrapBits_eq, ↓reduceIte, Nat.reduceEqDiff, Nat.reduceAdd, Nat.reduceSub, Nat.reduceLeDiff, Nat.reduceLT, Nat.reduceBEq, reduceCtorEq, Int.reduceEq]; rfl) (hand_k0 (by rfl) (by rfl)) (by first | exact Or.inl rfl | exact Or.inr rfl)
  · refine AW.skip ?_
    refine seqQ.norm ?_
    refine AW.rseq ?_
    try simp only [↓wk, ↓wl, nc, evV, wrapBits_eq, ↓reduceIte, Nat.reduceEqDiff, Nat.reduceAdd, Nat.reduceSub, Nat.reduceLeDiff, Nat.reduceLT, Nat.reduceBEq, reduceCtorEq, Int.reduceEq]
    refine AW.sseq ?_
    refine AW.rseq ?_
    try simp only [↓wk, ↓wl, nc, evV, wrapBits_eq, ↓reduceIte, Nat.reduceEqDiff, Nat.reduceAdd, Nat.reduceSub, Nat.reduceLeDiff, Nat.reduceLT, Nat.reduceBEq, reduceCtorEq, Int.reduceEq]
    refine evTs_pure hFn H (fun _ h => f45_44_im h) (by rfl) (by rfl) (by rfl) (by rfl) (fun _ => rfl) ?_ <;> clear H <;> intro r_392 H
    try simp only [eL, ↓wk, ↓wl, nc, evV, wrapBits_eq, ↓reduceIte, Nat.reduceEqDiff, Nat.reduceAdd, Nat.reduceSub, Nat.reduceLeDiff, Nat.reduceLT, Nat.reduceBEq, reduceCtorEq, Int.reduceEq]
    refine AW.bend ?_
    refine AW.iter H ((Le.trans (Le.nilRow (i := 7) (e := 2) (by simp only [↓wk, ↓wl, nc, evV, wrapBits_eq, ↓reduceIte, Nat.reduceEqDiff, Nat.reduceAdd, Nat.reduceSub, Nat.reduceLeDiff, Nat.reduceLT, Nat.reduceBEq, reduceCtorEq, Int.reduceEq])) (Le.none [0] [0, 7, 19, 20, 21] (by decide) (by simp only [f13_L1, List.length_set, Option.map_some, restrict_eq, renS_nil, renS_cons, renB_els, renB_cel, renB_dead, deep_eq, map_ren_enc, ren_agg', ren_tup', ren_fn', ren_int', ren_bool', ren_str', ren_sl', ren_pro', ren_nilp', ren_nilfn', ren_junk', ren_ptr', ren_row', ren_arow', ren_eptr', vm, List.idxOf?_cons, List.idxOf?_nil, beq_self_eq_true, Option.map_none, List.getD_cons_zero, List.getD_cons_succ, ↓wk, ↓wl, nc, evV, wrapBits_eq, ↓reduceIte, Nat.reduceEqDiff, Nat.reduceAdd, Nat.reduceSub, Nat.reduceLeDiff, Nat.reduceLT, Nat.reduceBEq, reduceCtorEq, Int.reduceEq] <;> rfl)))) ?_ <;> clear H
    rintro ⟨v_404, out_405⟩ x_ st0_ H hst_
    simp only [f13_L1] at H hst_
    subst hst_
    refine AW.rseq ?_
    try simp only [↓wk, ↓wl, nc, evV, wrapBits_eq, ↓reduceIte, Nat.reduceEqDiff, Nat.reduceAdd, Nat.reduceSub, Nat.reduceLeDiff, Nat.reduceLT, Nat.reduceBEq, reduceCtorEq, Int.reduceEq]
    refine AW.sseq ?_
    refine AW.ifc H (by rfl) ?_ ?_ <;> clear H <;> intro H
    · refine AW.skip ?_
      refine seqQ.norm ?_
      refine AW.bseq ?_
      refine AW.rseq ?_
      try simp only [↓wk, ↓wl, nc, evV, wrapBits_eq, ↓reduceIte, Nat.reduceEqDiff, Nat.reduceAdd, Nat.reduceSub, Nat.reduceLeDiff, Nat.reduceLT, Nat.reduceBEq, reduceCtorEq, Int.reduceEq]
      refine evTs_at (enc := eApiEntry) H (by rfl) (by rfl) ?_ <;> clear H <;> intro x_410 H
      try simp only [eApiEntry, eL, ↓wk, ↓wl, nc, evV, wrapBits_eq, ↓reduceIte, Nat.reduceEqDiff, Nat.reduceAdd, Nat.reduceSub, Nat.reduceLeDiff, Nat.reduceLT, Nat.reduceBEq, reduceCtorEq, Int.reduceEq]
      refine AW.rseq ?_
      try simp only [↓wk, ↓wl, nc, evV, wrapBits_eq, ↓reduceIte, Nat.reduceEqDiff, Nat.reduceAdd, Nat.reduceSub, Nat.reduceLeDiff, Nat.reduceLT, Nat.reduceBEq, reduceCtorEq, Int.reduceEq]
      refine evTs_pure hFn H (fun _ h => f36_ok h) (by rfl) (by rfl) (by rfl) (by rfl) (fun _ => rfl) ?_ <;> clear H <;> intro r_411 H
      try simp only [eL, ↓wk, ↓wl, nc, evV, wrapBits_eq, ↓reduceIte, Nat.reduceEqDiff, Nat.reduceAdd, Nat.reduceSub, Nat.reduceLeDiff, Nat.reduceLT, Nat.reduceBEq, reduceCtorEq, Int.reduceEq]
      refine AW.rseq ?_
      try simp only [↓wk, ↓wl, nc, evV, wrapBits_eq, ↓reduceIte, Nat.reduceEqDiff, Nat.reduceAdd, Nat.reduceSub, Nat.reduceLeDiff, Nat.reduceLT, Nat.reduceBEq, reduceCtorEq, Int.reduceEq]
      refine AW.ifc H (by rfl) ?_ ?_ <;> clear H <;> intro H
      · refine AW.rend ?_
        try simp only [↓wk, ↓wl, nc, evV, wrapBits_eq, ↓reduceIte, Nat.reduceEqDiff, Nat.reduceAdd, Nat.reduceSub, Nat.reduceLeDiff, Nat.reduceLT, Nat.reduceBEq, reduceCtorEq, Int.reduceEq]
        refine evTs_app (enc := eApiParam) H (by rfl) (by first | rfl | simp only [List.length_set]) (by rfl) (by rfl) ?_ <;> clear H <;> intro out_412 H
        try simp only [↓wk, ↓wl, nc, evV, wrapBits_eq, ↓reduceIte, Nat.reduceEqDiff, Nat.reduceAdd, Nat.reduceSub, Nat.reduceLeDiff, Nat.reduceLT, Nat.reduceBEq, reduceCtorEq, Int.reduceEq]
        refine blkQ.norm ?_
        refine AW.rend ?_
        try simp only [↓wk, ↓wl, nc, evV, wrapBits_eq, ↓reduceIte, Nat.reduceEqDiff, Nat.reduceAdd, Nat.reduceSub, Nat.reduceLeDiff, Nat.reduceLT, Nat.reduceBEq, reduceCtorEq, Int.reduceEq]
        exact loopQ.next H ((Le.none [2] [0, 7, 19, 20, 21] (by decide) (by simp only [f13_L1, List.length_set, Option.map_some, restrict_eq, renS_nil, renS_cons, renB_els, renB_cel, renB_dead, deep_eq, map_ren_enc, ren_agg', ren_tup', ren_fn', ren_int', ren_bool', ren_str', ren_sl', ren_pro', ren_nilp', ren_nilfn', ren_junk', ren_ptr', ren_row', ren_arow', ren_eptr', vm, List.idxOf?_cons, List.idxOf?_nil, beq_self_eq_true, Option.map_none, List.getD_cons_zero, List.getD_cons_succ, ↓wk, ↓wl, nc, evV, wrapBits_eq, ↓reduceIte, Nat.reduceEqDiff, Nat.reduceAdd, Nat.reduceSub, Nat.reduceLeDiff, Nat.reduceLT, Nat.reduceBEq, reduceCtorEq, Int.reduceEq] <;> rfl)))
      · refine AW.skip ?_
        refine blkQ.norm ?_
        refine AW.rend ?_
        try simp only [↓wk, ↓wl, nc, evV, wrapBits_eq, ↓reduceIte, Nat.reduceEqDiff, Nat.reduceAdd, Nat.reduceSub, Nat.reduceLeDiff, Nat.reduceLT, Nat.reduceBEq, reduceCtorEq, Int.reduceEq]
        exact loopQ.next H ((Le.none [0] [0, 7, 19, 20, 21] (by decide) (by simp only [f13_L1, List.length_set, Option.map_some, restrict_eq, renS_nil, renS_cons, renB_els, renB_cel, renB_dead, deep_eq, map_ren_enc, ren_agg', ren_tup', ren_fn', ren_int', ren_bool', ren_str', ren_sl', ren_pro', ren_nilp', ren_nilfn', ren_junk', ren_ptr', ren_row', ren_arow', ren_eptr', vm, List.idxOf?_cons, List.idxOf?_nil, beq_self_eq_true, Option.map_none, List.getD_cons_zero, List.getD_cons_succ, ↓wk, ↓wl, nc, evV, wrapBits_eq, ↓reduceIte, Nat.reduceEqDiff, Nat.reduceAdd, Nat.reduceSub, Nat.reduceLeDiff, Nat.reduceLT, Nat.reduceBEq, reduceCtorEq, Int.reduceEq] <;> rfl)))
    · refine AW.exit ?_
      refine seqQ.exit ?_
      refine loopQ.exit H ?_ <;> clear H <;> intro H
      try dsimp only at H
      refine blk0.here ?_
      refine seqQ.norm ?_
      refine AW.rseq ?_
      try simp only [↓wk, ↓wl, nc, evV, wrapBits_eq, ↓reduceIte, Nat.reduceEqDiff, Nat.reduceAdd, Nat.reduceSub, Nat.reduceLeDiff, Nat.reduceLT, Nat.reduceBEq, reduceCtorEq, Int.reduceEq]
      refine AW.ret ?_
      cases H
      exact hQ _ _ _ _ (.inr rfl) (by simp only [resVs, omap, resV, ↓wk, ↓wl, nc, evV, wrapBits_eq, ↓reduceIte, Nat.reduceEqDiff, Nat.reduceAdd, Nat.reduceSub, Nat.reduceLeDiff, Nat.reduceLT, Nat.reduceBEq, reduceCtorEq, Int.reduceEq]; rfl) (hand_k (by rfl) (by rfl) (by simp) (enc_all _) (by rfl)) (by first | exact Or.inl rfl | exact Or.inr rfl)
theorem f13_im {l_388 : (List ApiPalette)} {entries_389 : (List ApiEntry)} {r_ : (List ApiParam) × Int} (H : f13 l_388 entries_389 = some r_) : Pure Try.prog 13 [.sl 2 false (l_388.map eApiPalette), .sl 4 false (entries_389.map eApiEntry)] (· = .tup [.sl 2 false (r_.1.map eApiParam), .int .i64 r_.2]) := (f13_ok H).unfr (by first | exact enc_fits _ | simp only [frFits, List.all_cons, List.all_nil, enc_fits, Bool.and_self])
noncomputable def f29_L1 (s1_414 : (List Int)) (s2_415 : (List Int)) : Lp (Int) ((Unit) ⊕ (Unit)) where
  body := fun v_421 => (if (decide (v_421 < ((s1_414.length : Nat) : Int))) = true then (at? s1_414 v_421).bind fun x_424 => (at? s2_415 v_421).bind fun x_425 => (if (decide (x_424 ≠ x_425)) = true then (some (.brk (Sum.inr ()))) else (some (.next (IntKind.i64.wrap (v_421 + 1))))) else (some (.brk (Sum.inl ()))))
  cst := fun v_421 => ⟨put (put (put (put (fun _ => .junk) 13 (.int .i64 v_421)) 12 (.int .i64 ((s1_414.length : Nat) : Int))) 1 (.sl 0 false (s2_415.map (AV.int .i64)))) 0 (.sl 0 false (s1_414.map (AV.int .i64))), []⟩
def c29_0 : C := .cond (.t 10) (.seq (.reg [iI 4 (.mv (.c (.bool false)))]) .ret) (.skip)
def c29_1 : C := .cond (.t 24) (.seq (.reg [iI 4 (.mv (.c (.bool false)))]) .ret) (.skip)
def c29_2 : C := .seq (.reg [iI 16 (.mv (.t 0)), iI 17 (.mv (.t 5)), iI 18 (.iaddr 0 (.t 16) (.t 17)), iI 19 (.load 0 (.t 18)), iI 20 (.mv (.t 1)), iI 21 (.mv (.t 5)), iI 22 (.iaddr 0 (.t 20) (.t 21)), iI 23 (.load 0 (.t 22)), iI 24 (.bin .neq (.t 19) (.t 23))]) c29_1
def c29_3 : C := .reg [iI 25 (.bin .add (.t 13) (.c (.int .i64 1))), iI 13 (.mv (.t 25))]
def c29_4 : C := .seq (.block 1 (.seq (.reg [iI 15 (.mv (.t 13)), iI 5 (.mv (.t 15))]) c29_2)) c29_3
def c29_5 : C := .seq (.cond (.t 14) (.skip) (.exit 0)) c29_4
def c29_6 : C := .block 0 (.loop (.seq (.reg [iI 14 (.bin .lss (.t 13) (.t 12))]) c29_5))
def c29_7 : C := .seq (.reg [iI 4 (.mv (.c (.bool true)))]) .ret
def c29_8 : C := .seq (.seq (.reg [iI 11 (.mv (.t 0)), iI 12 (.len 0 (.t 11)), iI 13 (.mv (.c (.int .i64 0)))]) c29_6) c29_7
def c29_9 : C := .seq (.seq (.reg [iI 6 (.mv (.t 0)), iI 7 (.len 0 (.t 6)), iI 8 (.mv (.t 1)), iI 9 (.len 0 (.t 8)), iI 10 (.bin .neq (.t 7) (.t 9))]) c29_0) c29_8
def ir29 : C := .seq (.reg [iI 4 (.mv (.c (.bool false)))]) c29_9
theorem fd29 : fd? Try.prog 29 = some (26, [.slot 4], ir29) := by kernel_rfl
noncomputable def f29 (s1_414 : (List Int)) (s2_415 : (List Int)) : Option (Bool) :=
  (if (decide (((s1_414.length : Nat) : Int) ≠ ((s2_415.length : Nat) : Int))) = true then (some false) else ((Lp.run (f29_L1 s1_414 s2_415) 0).bind fun r_ => match r_ with | (Sum.inl _) => (some true) | (Sum.inr _) => (some false)))
theorem f29_ok {s1_414 : (List Int)} {s2_415 : (List Int)} {r_ : Bool} (H : f29 s1_414 s2_415 = some r_) : Pure Try.prog 29 [.sl 0 false (s1_414.map (AV.int .i64)), .sl 0 false (s2_415.map (AV.int .i64))] (· = .bool r_) := by
  refine Pure.walk3 fd29 none (Nat.le_of_ble_eq_true rfl) (by rfl) fun Q hQ => ?_
  simp only [f29] at H
  refine AW.rseq ?_
  try simp only [↓wk, ↓wl, nc, evV, wrapBits_eq, ↓reduceIte, Nat.reduceEqDiff, Nat.reduceAdd, Nat.reduceSub, Nat.reduceLeDiff, Nat.reduceLT, Nat.reduceBEq, reduceCtorEq, Int.reduceEq]
  refine AW.sseq ?_
  refine AW.rseq ?_
  try simp only [↓wk, ↓wl, nc, evV, wrapBits_eq, ↓reduceIte, Nat.reduceEqDiff, Nat.reduceAdd, Nat.reduceSub, Nat.reduceLeDiff, Nat.reduceLT, Nat.reduceBEq, reduceCtorEq, Int.reduceEq]
  refine AW.ifc H (by rfl) ?_ ?_ <;> clear H <;> intro H
  · refine AW.rseq ?_
    try simp only [↓wk, ↓wl, nc, evV, wrapBits_eq, ↓reduceIte, Nat.reduceEqDiff, Nat.reduceAdd, Nat.reduceSub, Nat.reduceLeDiff, Nat.reduceLT, Nat.reduceBEq, reduceCtorEq, Int.reduceEq]
    refine AW.ret ?_
    refine seqQ.ret ?_
    cases H
    exact hQ _ _ _ _ (.inr rfl) (by simp only [resVs, omap, resV, ↓wk, ↓wl, nc, evV, wrapBits_eq, ↓reduceIte, Nat.reduceEqDiff, Nat.reduceAdd, Nat.reduceSub, Nat.reduceLeDiff, Nat.reduceLT, Nat.reduceBEq, reduceCtorEq, Int.reduceEq]; rfl) (hand_plain (by rfl)) (by first | exact Or.inl rfl | exact Or.inr rfl)
  · refine AW.skip ?_
    refine seqQ.norm ?_
    refine AW.sseq ?_
    refine AW.rseq ?_
    try simp only [↓wk, ↓wl, nc, evV, wrapBits_eq, ↓reduceIte, Nat.reduceEqDiff, Nat.reduceAdd, Nat.reduceSub, Nat.reduceLeDiff, Nat.reduceLT, Nat.reduceBEq, reduceCtorEq, Int.reduceEq]
    refine AW.bend ?_
    refine AW.iter H ((Le.none [] [0, 1, 12, 13] (by decide) (by simp only [f29_L1, List.length_set, Option.map_some, restrict_eq, renS_nil, renS_cons, renB_els, renB_cel, renB_dead, deep_eq, map_ren_enc, ren_agg', ren_tup', ren_fn', ren_int', ren_bool', ren_str', ren_sl', ren_pro', ren_nilp', ren_nilfn', ren_junk', ren_ptr', ren_row', ren_arow', ren_eptr', vm, List.idxOf?_cons, List.idxOf?_nil, beq_self_eq_true, Option.map_none, List.getD_cons_zero, List.getD_cons_succ, ↓wk, ↓wl, nc, evV, wrapBits_eq, ↓reduceIte, Nat.reduceEqDiff, Nat.reduceAdd, Nat.reduceSub, Nat.reduceLeDiff, Nat.reduceLT, Nat.reduceBEq, reduceCtorEq, Int.reduceEq] <;> rfl))) ?_ <;> clear H
    rintro v_421 x_ st0_ H hst_
    simp only [f29_L1] at H hst_
    subst hst_
    refine AW.rseq ?_
    try simp only [↓wk, ↓wl, nc, evV, wrapBits_eq, ↓reduceIte, Nat.reduceEqDiff, Nat.reduceAdd, Nat.reduceSub, Nat.reduceLeDiff, Nat.reduceLT, Nat.reduceBEq, reduceCtorEq, Int.reduceEq]
    refine AW.sseq ?_
    refine AW.ifc H (by rfl) ?_ ?_ <;> clear H <;> intro H
    · refine AW.skip ?_
      refine seqQ.norm ?_
      refine AW.bseq ?_
      refine AW.rseq ?_
      try simp only [↓wk, ↓wl, nc, evV, wrapBits_eq, ↓reduceIte, Nat.reduceEqDiff, Nat.reduceAdd, Nat.reduceSub, Nat.reduceLeDiff, Nat.reduceLT, Nat.reduceBEq, reduceCtorEq, Int.reduceEq]
      refine AW.rseq ?_
      try simp only [↓wk, ↓wl, nc, evV, wrapBits_eq, ↓reduceIte, Nat.reduceEqDiff, Nat.reduceAdd, Nat.reduceSub, Nat.reduceLeDiff, Nat.reduceLT, Nat.reduceBEq, reduceCtorEq, Int.reduceEq]
      refine evTs_at (enc := (AV.int .i64)) H (by rfl) (by rfl) ?_ <;> clear H <;> intro x_424 H
      try simp only [↓wk, ↓wl, nc, evV, wrapBits_eq, ↓reduceIte, Nat.reduceEqDiff, Nat.reduceAdd, Nat.reduceSub, Nat.reduceLeDiff, Nat.reduceLT, Nat.reduceBEq, reduceCtorEq, Int.reduceEq]
      refine evTs_at (enc := (AV.int .i64)) H (by rfl) (by rfl) ?_ <;> clear H <;> intro x_425 H
      try simp only [↓wk, ↓wl, nc, evV, wrapBits_eq, ↓reduceIte, Nat.reduceEqDiff, Nat.reduceAdd, Nat.reduceSub, Nat.reduceLeDiff, Nat.reduceLT, Nat.reduceBEq, reduceCtorEq, Int.reduceEq]
      refine AW.ifc H (by rfl) ?_ ?_ <;> clear H <;> intro H
      · refine AW.rseq ?_
        try simp only [↓wk, ↓wl, nc, evV, wrapBits_eq, ↓reduceIte, Nat.reduceEqDiff, Nat.reduceAdd, Nat.reduceSub, Nat.reduceLeDiff, Nat.reduceLT, Nat.reduceBEq, reduceCtorEq, Int.reduceEq]
        refine AW.ret ?_
        refine blkQ.ret ?_
        refine loopQ.ret H ?_ <;> clear H <;> intro H
        try dsimp only at H
        refine blk0.ret ?_
        refine seqQ.ret ?_
        cases H
        exact hQ _ _ _ _ (.inr rfl) (by simp only [resVs, omap, resV, ↓wk, ↓wl, nc, evV, wrapBits_eq, ↓reduceIte, Nat.reduceEqDiff, Nat.reduceAdd, Nat.reduceSub, Nat.reduceLeDiff, Nat.reduceLT, Nat.reduceBEq, reduceCtorEq, Int.reduceEq]; rfl) (hand_plain (by rfl)) (by first | exact Or.inl rfl | exact Or.inr rfl)
      · refine AW.skip ?_
        refine blkQ.norm ?_
        refine AW.rend ?_
        try simp only [↓wk, ↓wl, nc, evV, wrapBits_eq, ↓reduceIte, Nat.reduceEqDiff, Nat.reduceAdd, Nat.reduceSub, Nat.reduceLeDiff, Nat.reduceLT, Nat.reduceBEq, reduceCtorEq, Int.reduceEq]
        exact loopQ.next H ((Le.none [] [0, 1, 12, 13] (by decide) (by simp only [f29_L1, List.length_set, Option.map_some, restrict_eq, renS_nil, renS_cons, renB_els, renB_cel, renB_dead, deep_eq, map_ren_enc, ren_agg', ren_tup', ren_fn', ren_int', ren_bool', ren_str', ren_sl', ren_pro', ren_nilp', ren_nilfn', ren_junk', ren_ptr', ren_row', ren_arow', ren_eptr', vm, List.idxOf?_cons, List.idxOf?_nil, beq_self_eq_true, Option.map_none, List.getD_cons_zero, List.getD_cons_succ, ↓wk, ↓wl, nc, evV, wrapBits_eq, ↓reduceIte, Nat.reduceEqDiff, Nat.reduceAdd, Nat.reduceSub, Nat.reduceLeDiff, Nat.reduceLT, Nat.reduceBEq, reduceCtorEq, Int.reduceEq] <;> rfl)))
    · refine AW.exit ?_
      refine seqQ.exit ?_
      refine loopQ.exit H ?_ <;> clear H <;> intro H
      try dsimp only at H
      refine blk0.here ?_
      refine seqQ.norm ?_
      refine AW.rseq ?_
      try simp only [↓wk, ↓wl, nc, evV, wrapBits_eq, ↓reduceIte, Nat.reduceEqDiff, Nat.reduceAdd, Nat.reduceSub, Nat.reduceLeDiff, Nat.reduceLT, Nat.reduceBEq, reduceCtorEq, Int.reduceEq]
      refine AW.ret ?_
      cases H
      exact hQ _ _ _ _ (.inr rfl) (by simp only [resVs, omap, resV, ↓wk, ↓wl, nc, evV, wrapBits_eq, ↓reduceIte, Nat.reduceEqDiff, Nat.reduceAdd, Nat.reduceSub, Nat.reduceLeDiff, Nat.reduceLT, Nat.reduceBEq, reduceCtorEq, Int.reduceEq]; rfl) (hand_plain (by rfl)) (by first | exact Or.inl rfl | exact Or.inr rfl)
def c30_0 : C := .seq (.reg [iI 1 (.build [(1, (.int .i64 0)), (1, (.int .i64 0))] [(0, 0, (.c (.int .i64 (-1))))]), iN (.store 2 (.t 0) (.t 1))]) .ret
def ir30 : C := .seq (.reg [iI 0 (.alloc [(1, (.int .i64 0)), (1, (.int .i64 0))])]) c30_0
theorem fd30 : fd? Try.prog 30 = some (2, [.cell 0 2], ir30) := by kernel_rfl
noncomputable def f30 : Option (ApiValue) :=
  (some (ApiValue.mk (-1) 0))
theorem f30_ok {r_ : ApiValue} (H : f30 = some r_) : Pure Try.prog 30 [] (· = .agg [.int .i64 r_.fPalette, .int .i64 r_.fLevel]) := by
  refine Pure.walk3 fd30 none (Nat.le_of_ble_eq_true rfl) (by rfl) fun Q hQ => ?_
  simp only [f30] at H
  refine AW.rseq ?_
  try simp only [↓wk, ↓wl, nc, evV, wrapBits_eq, ↓reduceIte, Nat.reduceEqDiff, Nat.reduceAdd, Nat.reduceSub, Nat.reduceLeDiff, Nat.reduceLT, Nat.reduceBEq, reduceCtorEq, Int.reduceEq]
  refine AW.rseq ?_
  try simp only [↓wk, ↓wl, nc, evV, wrapBits_eq, ↓reduceIte, Nat.reduceEqDiff, Nat.reduceAdd, Nat.reduceSub, Nat.reduceLeDiff, Nat.reduceLT, Nat.reduceBEq, reduceCtorEq, Int.reduceEq]
  refine AW.ret ?_
  cases H
  exact hQ _ _ _ _ (.inr rfl) (by simp only [resVs, omap, resV, ↓wk, ↓wl, nc, evV, wrapBits_eq, ↓reduceIte, Nat.reduceEqDiff, Nat.reduceAdd, Nat.reduceSub, Nat.reduceLeDiff, Nat.reduceLT, Nat.reduceBEq, reduceCtorEq, Int.reduceEq]; rfl) (hand_plain (by rfl)) (by first | exact Or.inl rfl | exact Or.inr rfl)
noncomputable def f31_L1 (s1_433 : (List ApiParam)) (s2_434 : (List ApiParam)) : Lp (Int) ((Unit) ⊕ (Unit)) where
  body := fun v_440 => (if (decide (v_440 < ((s1_433.length : Nat) : Int))) = true then (at? s1_433 v_440).bind fun x_443 => (at? s2_434 v_440).bind fun x_444 => (if (!((x_443.fChannel == x_444.fChannel) && ((x_443.fAttr == x_444.fAttr) && true))) = true then (some (.brk (Sum.inr ()))) else (some (.next (IntKind.i64.wrap (v_440 + 1))))) else (some (.brk (Sum.inl ()))))
  cst := fun v_440 => ⟨put (put (put (put (fun _ => .junk) 13 (.int .i64 v_440)) 12 (.int .i64 ((s1_433.length : Nat) : Int))) 1 (.sl 2 false (s2_434.map eApiParam))) 0 (.sl 2 false (s1_433.map eApiParam)), []⟩
def c31_0 : C := .cond (.t 10) (.seq (.reg [iI 4 (.mv (.c (.bool false)))]) .ret) (.skip)
def c31_1 : C := .cond (.t 24) (.seq (.reg [iI 4 (.mv (.c (.bool false)))]) .ret) (.skip)
def c31_2 : C := .seq (.reg [iI 16 (.mv (.t 0)), iI 17 (.mv (.t 5)), iI 18 (.iaddr 2 (.t 16) (.t 17)), iI 19 (.load 2 (.t 18)), iI 20 (.mv (.t 1)), iI 21 (.mv (.t 5)), iI 22 (.iaddr 2 (.t 20) (.t 21)), iI 23 (.load 2 (.t 22)), iI 24 (.eqs true [0, 0] (.t 19) (.t 23))]) c31_1
def c31_3 : C := .reg [iI 25 (.bin .add (.t 13) (.c (.int .i64 1))), iI 13 (.mv (.t 25))]
def c31_4 : C := .seq (.block 1 (.seq (.reg [iI 15 (.mv (.t 13)), iI 5 (.mv (.t 15))]) c31_2)) c31_3
def c31_5 : C := .seq (.cond (.t 14) (.skip) (.exit 0)) c31_4
def c31_6 : C := .block 0 (.loop (.seq (.reg [iI 14 (.bin .lss (.t 13) (.t 12))]) c31_5))
def c31_7 : C := .seq (.reg [iI 4 (.mv (.c (.bool true)))]) .ret
def c31_8 : C := .seq (.seq (.reg [iI 11 (.mv (.t 0)), iI 12 (.len 0 (.t 11)), iI 13 (.mv (.c (.int .i64 0)))]) c31_6) c31_7
def c31_9 : C := .seq (.seq (.reg [iI 6 (.mv (.t 0)), iI 7 (.len 0 (.t 6)), iI 8 (.mv (.t 1)), iI 9 (.len 0 (.t 8)), iI 10 (.bin .neq (.t 7) (.t 9))]) c31_0) c31_8
def ir31 : C := .seq (.reg [iI 4 (.mv (.c (.bool false)))]) c31_9
theorem fd31 : fd? Try.prog 31 = some (26, [.slot 4], ir31) := by kernel_rfl
noncomputable def f31 (s1_433 : (List ApiParam)) (s2_434 : (List ApiParam)) : Option (Bool) :=
  (if (decide (((s1_433.length : Nat) : Int) ≠ ((s2_434.length : Nat) : Int))) = true then (some false) else ((Lp.run (f31_L1 s1_433 s2_434) 0).bind fun r_ => match r_ with | (Sum.inl _) => (some true) | (Sum.inr _) => (some false)))
theorem f31_ok {s1_433 : (List ApiParam)} {s2_434 : (List ApiParam)} {r_ : Bool} (H : f31 s1_433 s2_434 = some r_) : Pure Try.prog 31 [.sl 2 false (s1_433.map eApiParam), .sl 2 false (s2_434.map eApiParam)] (· = .bool r_) := by
  refine Pure.walk3 fd31 none (Nat.le_of_ble_eq_true rfl) (by rfl) fun Q hQ => ?_
  simp only [f31] at H
  refine AW.rseq ?_
  try simp only [↓wk, ↓wl, nc, evV, wrapBits_eq, ↓reduceIte, Nat.reduceEqDiff, Nat.reduceAdd, Nat.reduceSub, Nat.reduceLeDiff, Nat.reduceLT, Nat.reduceBEq, reduceCtorEq, Int.reduceEq]
  refine AW.sseq ?_
  refine AW.rseq ?_
  try simp only [↓wk, ↓wl, nc, evV, wrapBits_eq, ↓reduceIte, Nat.reduceEqDiff, Nat.reduceAdd, Nat.reduceSub, Nat.reduceLeDiff, Nat.reduceLT, Nat.reduceBEq, reduceCtorEq, Int.reduceEq]
  refine AW.ifc H (by rfl) ?_ ?_ <;> clear H <;> intro H
  · refine AW.rseq ?_
    try simp only [↓wk, ↓wl, nc, evV, wrapBits_eq, ↓reduceIte, Nat.reduceEqDiff, Nat.reduceAdd, Nat.reduceSub, Nat.reduceLeDiff, Nat.reduceLT, Nat.reduceBEq, reduceCtorEq, Int.reduceEq]
    refine AW.ret ?_
    refine seqQ.ret ?_
    cases H
    exact hQ _ _ _ _ (.inr rfl) (by simp only [resVs, omap, resV, ↓wk, ↓wl, nc, evV, wrapBits_eq, ↓reduceIte, Nat.reduceEqDiff, Nat.reduceAdd, Nat.reduceSub, Nat.reduceLeDiff, Nat.reduceLT, Nat.reduceBEq, reduceCtorEq, Int.reduceEq]; rfl) (hand_plain (by rfl)) (by first | exact Or.inl rfl | exact Or.inr rfl)
  · refine AW.skip ?_
    refine seqQ.norm ?_
    refine AW.sseq ?_
    refine AW.rseq ?_
    try simp only [↓wk, ↓wl, nc, evV, wrapBits_eq, ↓reduceIte, Nat.reduceEqDiff, Nat.reduceAdd, Nat.reduceSub, Nat.reduceLeDiff, Nat.reduceLT, Nat.reduceBEq, reduceCtorEq, Int.reduceEq]
    refine AW.bend ?_
    refine AW.iter H ((Le.none [] [0, 1, 12, 13] (by decide) (by simp only [f31_L1, List.length_set, Option.map_some, restrict_eq, renS_nil, renS_cons, renB_els, renB_cel, renB_dead, deep_eq, map_ren_enc, ren_agg', ren_tup', ren_fn', ren_int', ren_bool', ren_str', ren_sl', ren_pro', ren_nilp', ren_nilfn', ren_junk', ren_ptr', ren_row', ren_arow', ren_eptr', vm, List.idxOf?_cons, List.idxOf?_nil, beq_self_eq_true, Option.map_none, List.getD_cons_zero, List.getD_cons_succ, ↓wk, ↓wl, nc, evV, wrapBits_eq, ↓reduceIte, Nat.reduceEqDiff, Nat.reduceAdd, Nat.reduceSub, Nat.reduceLeDiff, Nat.reduceLT, Nat.reduceBEq, reduceCtorEq, Int.reduceEq] <;> rfl))) ?_ <;> clear H
    rintro v_440 x_ st0_ H hst_
    simp only [f31_L1] at H hst_
    subst hst_
    refine AW.rseq ?_
    try simp only [↓wk, ↓wl, nc, evV, wrapBits_eq, ↓reduceIte, Nat.reduceEqDiff, Nat.reduceAdd, Nat.reduceSub, Nat.reduceLeDiff, Nat.reduceLT, Nat.reduceBEq, reduceCtorEq, Int.reduceEq]
    refine AW.sseq ?_
    refine AW.ifc H (by rfl) ?_ ?_ <;> clear H <;> intro H
    · refine AW.skip ?_
      refine seqQ.norm ?_
      refine AW.bseq ?_
      refine AW.rseq ?_
      try simp only [↓wk, ↓wl, nc, evV, wrapBits_eq, ↓reduceIte, Nat.reduceEqDiff, Nat.reduceAdd, Nat.reduceSub, Nat.reduceLeDiff, Nat.reduceLT, Nat.reduceBEq, reduceCtorEq, Int.reduceEq]
      refine AW.rseq ?_
      try simp only [↓wk, ↓wl, nc, evV, wrapBits_eq, ↓reduceIte, Nat.reduceEqDiff, Nat.reduceAdd, Nat.reduceSub, Nat.reduceLeDiff, Nat.reduceLT, Nat.reduceBEq, reduceCtorEq, Int.reduceEq]
      refine evTs_at (enc := eApiParam) H (by rfl) (by rfl) ?_ <;> clear H <;> intro x_443 H
      try simp only [eApiParam, eL, ↓wk, ↓wl, nc, evV, wrapBits_eq, ↓reduceIte, Nat.reduceEqDiff, Nat.reduceAdd, Nat.reduceSub, Nat.reduceLeDiff, Nat.reduceLT, Nat.reduceBEq, reduceCtorEq, Int.reduceEq]
      refine evTs_at (enc := eApiParam) H (by rfl) (by rfl) ?_ <;> clear H <;> intro x_444 H
      try simp only [eApiParam, eL, ↓wk, ↓wl, nc, evV, wrapBits_eq, ↓reduceIte, Nat.reduceEqDiff, Nat.reduceAdd, Nat.reduceSub, Nat.reduceLeDiff, Nat.reduceLT, Nat.reduceBEq, reduceCtorEq, Int.reduceEq]
      refine rest_neqs (by rfl) ?_
      try simp only [↓wk, ↓wl, nc, evV, wrapBits_eq, ↓reduceIte, Nat.reduceEqDiff, Nat.reduceAdd, Nat.reduceSub, Nat.reduceLeDiff, Nat.reduceLT, Nat.reduceBEq, reduceCtorEq, Int.reduceEq]
      refine AW.ifc H (by rfl) ?_ ?_ <;> clear H <;> intro H
      · refine AW.rseq ?_
        try simp only [↓wk, ↓wl, nc, evV, wrapBits_eq, ↓reduceIte, Nat.reduceEqDiff, Nat.reduceAdd, Nat.reduceSub, Nat.reduceLeDiff, Nat.reduceLT, Nat.reduceBEq, reduceCtorEq, Int.reduceEq]
        refine AW.ret ?_
        refine blkQ.ret ?_
        refine loopQ.ret H ?_ <;> clear H <;> intro H
        try dsimp only at H
        refine blk0.ret ?_
        refine seqQ.ret ?_
        cases H
        exact hQ _ _ _ _ (.inr rfl) (by simp only [resVs, omap, resV, ↓wk, ↓wl, nc, evV, wrapBits_eq, ↓reduceIte, Nat.reduceEqDiff, Nat.reduceAdd, Nat.reduceSub, Nat.reduceLeDiff, Nat.reduceLT, Nat.reduceBEq, reduceCtorEq, Int.reduceEq]; rfl) (hand_plain (by rfl)) (by first | exact Or.inl rfl | exact Or.inr rfl)
      · refine AW.skip ?_
        refine blkQ.norm ?_
        refine AW.rend ?_
        try simp only [↓wk, ↓wl, nc, evV, wrapBits_eq, ↓reduceIte, Nat.reduceEqDiff, Nat.reduceAdd, Nat.reduceSub, Nat.reduceLeDiff, Nat.reduceLT, Nat.reduceBEq, reduceCtorEq, Int.reduceEq]
        exact loopQ.next H ((Le.none [] [0, 1, 12, 13] (by decide) (by simp only [f31_L1, List.length_set, Option.map_some, restrict_eq, renS_nil, renS_cons, renB_els, renB_cel, renB_dead, deep_eq, map_ren_enc, ren_agg', ren_tup', ren_fn', ren_int', ren_bool', ren_str', ren_sl', ren_pro', ren_nilp', ren_nilfn', ren_junk', ren_ptr', ren_row', ren_arow', ren_eptr', vm, List.idxOf?_cons, List.idxOf?_nil, beq_self_eq_true, Option.map_none, List.getD_cons_zero, List.getD_cons_succ, ↓wk, ↓wl, nc, evV, wrapBits_eq, ↓reduceIte, Nat.reduceEqDiff, Nat.reduceAdd, Nat.reduceSub, Nat.reduceLeDiff, Nat.reduceLT, Nat.reduceBEq, reduceCtorEq, Int.reduceEq] <;> rfl)))
    · refine AW.exit ?_
      refine seqQ.exit ?_
      refine loopQ.exit H ?_ <;> clear H <;> intro H
      try dsimp only at H
      refine blk0.here ?_
      refine seqQ.norm ?_
      refine AW.rseq ?_
      try simp only [↓wk, ↓wl, nc, evV, wrapBits_eq, ↓reduceIte, Nat.reduceEqDiff, Nat.reduceAdd, Nat.reduceSub, Nat.reduceLeDiff, Nat.reduceLT, Nat.reduceBEq, reduceCtorEq, Int.reduceEq]
      refine AW.ret ?_
      cases H
      exact hQ _ _ _ _ (.inr rfl) (by simp only [resVs, omap, resV, ↓wk, ↓wl, nc, evV, wrapBits_eq, ↓reduceIte, Nat.reduceEqDiff, Nat.reduceAdd, Nat.reduceSub, Nat.reduceLeDiff, Nat.reduceLT, Nat.reduceBEq, reduceCtorEq, Int.reduceEq]; rfl) (hand_plain (by rfl)) (by first | exact Or.inl rfl | exact Or.inr rfl)
def c8_0 : C := .cond (.t 72) (.seq (.reg [iI 0 (.mv (.c (.bool false)))]) .ret) (.skip)
def c8_1 : C := .seq (.regq [iI 102 (.mv (.t 5)), iI 103 (.mv (.t 7)), iI 104 (.bin .add (.t 102) (.t 103)), iI 105 (.mv (.t 9)), iI 106 (.bin .add (.t 104) (.t 105)), iI 107 (.bin .eql (.t 106) (.c (.int .i64 0))), iI 108 (.mv (.t 107)), iG (some 109) 108 true (.mv (.t 13)), iG (some 110) 108 true (.mkslp 0 1 (.int .i64 0) [(0, (.c (.int .i64 4)))]), iG (some 111) 108 true (.call (.c (.fn 29 [])) [(.t 109), (.t 110)]), iI 112 (.pick (.t 108) (.t 111) (.c (.bool false))), iI 113 (.mv (.t 112)), iG (some 114) 113 true (.mv (.t 14)), iG (some 115) 113 true (.len 0 (.t 114)), iG (some 116) 113 true (.bin .eql (.t 115) (.c (.int .i64 3))), iI 117 (.pick (.t 113) (.t 116) (.c (.bool false))), iI 118 (.mv (.t 117)), iG (some 119) 118 true (.mv (.t 14)), iG (some 120) 118 true (.iaddr 4 (.t 119) (.c (.int .i64 0))), iG (some 121) 118 true (.faddr 2 (.t 120)), iG (some 122) 118 true (.load 2 (.t 121)), iG (some 123) 118 true (.call (.c (.fn 28 [])) [(.c (.int .i64 100))]), iG (some 124) 118 true (.eqs false [0, 0] (.t 122) (.t 123)), iI 125 (.pick (.t 118) (.t 124) (.c (.bool false))), iI 126 (.mv (.t 125)), iG (some 127) 126 true (.mv (.t 14)), iG (some 128) 126 true (.iaddr 4 (.t 127) (.c (.int .i64 1))), iG (some 129) 126 true (.faddr 2 (.t 128)), iG (some 130) 126 true (.load 2 (.t 129)), iG (some 131) 126 true (.call (.c (.fn 30 [])) []), iG (some 132) 126 true (.eqs false [0, 0] (.t 130) (.t 131)), iI 133 (.pick (.t 126) (.t 132) (.c (.bool false))), iI 134 (.mv (.t 133)), iG (some 135) 134 true (.mv (.t 14)), iG (some 136) 134 true (.iaddr 4 (.t 135) (.c (.int .i64 2))), iG (some 137) 134 true (.load 4 (.t 136)), iG (some 138) 134 true (.mv (.t 12)), iG (some 139) 134 true (.iaddr 4 (.t 138) (.c (.int .i64 2))), iG (some 140) 134 true (.load 4 (.t 139)), iG (some 141) 134 true (.eqs false [0, 0, 0, 0] (.t 137) (.t 140)), iI 142 (.pick (.t 134) (.t 141) (.c (.bool false))), iI 143 (.mv (.t 142)), iG (some 144) 143 true (.mv (.t 15)), iG (some 145) 143 true (.load 2 (.t 3)), iG (some 146) 143 true (.mkslp 2 1 (.agg [(.int .i64 0), (.int .i64 0)]) [(0, (.t 145))]), iG (some 147) 143 true (.call (.c (.fn 31 [])) [(.t 144), (.t 146)]), iI 148 (.pick (.t 143) (.t 147) (.c (.bool false))), iI 0 (.mv (.t 148))]) .ret
def c8_2 : C := .seq (.reg [iI 97 (.mv (.t 1)), iI 98 (.mv (.t 12)), iI 99 (.call (.c (.fn 13 [])) [(.t 97), (.t 98)]), iI 96 (.mv (.t 99)), iI 100 (.ext (.t 96) 0), iI 101 (.ext (.t 96) 1), iI 15 (.mv (.t 100)), iI 9 (.mv (.t 101))]) c8_1
def c8_3 : C := .seq (.reg [iI 91 (.mv (.t 1)), iI 92 (.mv (.t 12)), iI 93 (.call (.c (.fn 12 [])) [(.t 91), (.t 92)]), iI 90 (.mv (.t 93)), iI 94 (.ext (.t 90) 0), iI 95 (.ext (.t 90) 1), iI 14 (.mv (.t 94)), iI 7 (.mv (.t 95))]) c8_2
def c8_4 : C := .seq (.reg [iI 86 (.mv (.t 12)), iI 87 (.call (.c (.fn 15 [])) [(.t 86)]), iI 85 (.mv (.t 87)), iI 88 (.ext (.t 85) 0), iI 89 (.ext (.t 85) 1), iI 13 (.mv (.t 88)), iI 5 (.mv (.t 89))]) c8_3
end Go.Proofs.Ytpkolkbpcdkdbaa
