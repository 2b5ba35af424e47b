import Derived.Test.YtkbjimfganeooaaAb49
import Derived.Test.YtkbjimfganeooaaX2
import Derived.Test.YtkbjimfganeooaaProg
import Derived.KernelRfl
namespace Go.Proofs.Ytkbjimfganeooaa
open Go Go.Ab

set_option maxHeartbeats 1000000
set_option linter.unusedSimpArgs false
set_option linter.unusedVariables false
theorem con11 : fd? Try.prog 11 = some (36, [.slot 2], conC 2 24 22) := by kernel_rfl
theorem gro22 : fd? Try.prog 22 = some (27, [.slot 4], growC 2 24 (.agg [(.int .i64 0), (.str [])])) := by kernel_rfl
noncomputable def f11 (xss : List (List RecordEntry)) : Option (List RecordEntry) := conc? 24 xss
theorem f11_ok {xss : List (List RecordEntry)} {r_ : List RecordEntry} (H : f11 xss = some r_) : Pure Try.prog 11 [.sl 0 false (xss.map (eL 2 eRecordEntry))] (· = .fr 2 (r_.map eRecordEntry)) := conc_ok H con11 gro22
theorem f11_im {xss : List (List RecordEntry)} {r_ : List RecordEntry} (H : f11 xss = some r_) : Pure Try.prog 11 [.sl 0 false (xss.map (eL 2 eRecordEntry))] (· = .sl 2 false (r_.map eRecordEntry)) := (f11_ok H).unfr (by first | exact enc_fits _ | simp only [frFits, List.all_cons, List.all_nil, enc_fits, Bool.and_self])
def c4_0 : C := .cond (.t 25) (.seq (.reg [iI 26 (.call (.c (.fn 7 [])) []), iI 6 (.mv (.t 26))]) .ret) (.skip)
def c4_1 : C := .cond (.t 42) (.seq (.reg [iI 6 (.mv (.c (.bool false)))]) .ret) (.skip)
def c4_2 : C := .cond (.t 64) (.seq (.reg [iI 6 (.mv (.c (.bool false)))]) .ret) (.skip)
def c4_3 : C := .seq (.reg [iI 75 (.mv (.t 17)), iI 76 (.bin .eql (.t 75) (.c (.int .i64 0))), iI 77 (.mv (.t 76)), iG (some 78) 77 true (.mv (.t 16)), iG (some 79) 77 true (.mv (.t 13)), iG (some 80) 77 true (.mv (.t 9)), iG (some 81) 77 true (.len 1 (.t 80)), iG (some 82) 77 true (.bin .add (.t 79) (.t 81)), iG (some 83) 77 true (.bin .eql (.t 78) (.t 82)), iI 84 (.pick (.t 77) (.t 83) (.c (.bool false))), iI 85 (.mv (.t 84)), iG (some 86) 85 true (.mv (.t 15)), iG (some 87) 85 true (.mv (.t 12)), iG (some 88) 85 true (.mv (.t 1)), iG (some 89) 85 true (.mksl 0 2 (.sl 2 true []) [(0, (.t 87)), (1, (.t 88))]), iG (some 90) 85 true (.call (.c (.fn 11 [])) [(.t 89)]), iG (some 91) 85 true (.call (.c (.fn 10 [])) [(.t 86), (.t 90)]), iI 92 (.pick (.t 85) (.t 91) (.c (.bool false))), iI 93 (.mv (.t 92)), iG (some 94) 93 true (.mv (.t 12)), iG (some 95) 93 true (.len 0 (.t 94)), iG (some 96) 93 true (.mv (.t 0)), iG (some 97) 93 true (.len 0 (.t 96)), iG (some 98) 93 true (.bin .leq (.t 95) (.t 97)), iI 99 (.pick (.t 93) (.t 98) (.c (.bool false))), iI 100 (.mv (.t 99)), iG (some 101) 100 true (.mv (.t 12)), iG (some 102) 100 true (.mv (.t 0)), iG (some 103) 100 true (.mv (.t 12)), iG (some 104) 100 true (.len 0 (.t 103)), iG (some 105) 100 true (.slice 2 (.t 102) none (some (.t 104))), iG (some 106) 100 true (.call (.c (.fn 10 [])) [(.t 101), (.t 105)]), iI 107 (.pick (.t 100) (.t 106) (.c (.bool false))), iI 108 (.mv (.t 107)), iG (some 109) 108 true (.call (.c (.fn 7 [])) []), iI 110 (.pick (.t 108) (.t 109) (.c (.bool false))), iI 6 (.mv (.t 110))]) .ret
def c4_4 : C := .seq (.reg [iI 66 (.mv (.t 11)), iI 67 (.mv (.t 13)), iI 68 (.sslice (.t 66) none (some (.t 67))), iI 69 (.mv (.t 9)), iI 70 (.bin .add (.t 68) (.t 69)), iI 71 (.call (.c (.fn 9 [])) [(.t 70)]), iI 65 (.mv (.t 71)), iI 72 (.ext (.t 65) 0), iI 73 (.ext (.t 65) 1), iI 74 (.ext (.t 65) 2), iI 15 (.mv (.t 72)), iI 16 (.mv (.t 73)), iI 17 (.mv (.t 74))]) c4_3
def c4_5 : C := .seq (.seq (.reg [iI 57 (.mv (.t 13)), iI 58 (.bin .lss (.t 57) (.c (.int .i64 0))), iI 59 (.mv (.t 58)), iG (some 60) 59 false (.mv (.t 13)), iG (some 61) 59 false (.mv (.t 11)), iG (some 62) 59 false (.len 1 (.t 61)), iG (some 63) 59 false (.bin .gtr (.t 60) (.t 62)), iI 64 (.pick (.t 59) (.c (.bool true)) (.t 63))]) c4_2) c4_4
def c4_6 : C := .seq (.reg [iI 52 (.mv (.t 11)), iI 53 (.call (.c (.fn 9 [])) [(.t 52)]), iI 51 (.mv (.t 53)), iI 54 (.ext (.t 51) 0), iI 55 (.ext (.t 51) 1), iI 56 (.ext (.t 51) 2), iI 12 (.mv (.t 54)), iI 13 (.mv (.t 55)), iI 14 (.mv (.t 56))]) c4_5
def c4_7 : C := .seq (.reg [iI 43 (.mv (.t 7)), iI 44 (.mv (.t 2)), iI 45 (.cint .i64 (.t 44)), iI 46 (.mv (.t 7)), iI 47 (.len 1 (.t 46)), iI 48 (.bin .add (.t 47) (.c (.int .i64 1))), iI 49 (.bin .rem (.t 45) (.t 48)), iI 50 (.sslice (.t 43) none (some (.t 49))), iI 11 (.mv (.t 50))]) c4_6
def c4_8 : C := .seq (.seq (.reg [iI 37 (.mv (.t 8)), iI 38 (.bin .neq (.t 37) (.c (.int .i64 0))), iI 39 (.mv (.t 38)), iG (some 40) 39 false (.mv (.t 10)), iG (some 41) 39 false (.bin .neq (.t 40) (.c (.int .i64 0))), iI 42 (.pick (.t 39) (.c (.bool true)) (.t 41))]) c4_1) c4_7
def c4_9 : C := .seq (.reg [iI 33 (.mv (.t 1)), iI 34 (.call (.c (.fn 8 [])) [(.t 33)]), iI 32 (.mv (.t 34)), iI 35 (.ext (.t 32) 0), iI 36 (.ext (.t 32) 1), iI 9 (.mv (.t 35)), iI 10 (.mv (.t 36))]) c4_8
def c4_10 : C := .seq (.reg [iI 28 (.mv (.t 0)), iI 29 (.call (.c (.fn 8 [])) [(.t 28)]), iI 27 (.mv (.t 29)), iI 30 (.ext (.t 27) 0), iI 31 (.ext (.t 27) 1), iI 7 (.mv (.t 30)), iI 8 (.mv (.t 31))]) c4_9
def c4_11 : C := .seq (.seq (.reg [iI 18 (.mv (.t 0)), iI 19 (.call (.c (.fn 6 [])) [(.t 18)]), iI 20 (.un .not (.t 19)), iI 21 (.mv (.t 20)), iG (some 22) 21 false (.mv (.t 1)), iG (some 23) 21 false (.call (.c (.fn 6 [])) [(.t 22)]), iG (some 24) 21 false (.un .not (.t 23)), iI 25 (.pick (.t 21) (.c (.bool true)) (.t 24))]) c4_0) c4_10
def ir4 : C := .seq (.reg [iI 6 (.mv (.c (.bool false)))]) c4_11
theorem fd4 : fd? Try.prog 4 = some (111, [.slot 6], ir4) := by kernel_rfl
noncomputable def f4 (l_765 : (List RecordEntry)) (more_766 : (List RecordEntry)) (cut_767 : Int) : Option (Bool) :=
  (f6 l_765).bind fun r_772 => (if (!r_772) = true then (f7).bind fun r_773 => (some r_773) else (f6 more_766).bind fun r_774 => (if (!r_774) = true then (f7).bind fun r_775 => (some r_775) else (f8 l_765).bind fun r_776 => (f8 more_766).bind fun r_777 => (if (decide (r_776.2 ≠ 0)) = true then (some false) else (if (decide (r_777.2 ≠ 0)) = true then (some false) else (nz? (IntKind.i64.wrap (((r_776.1.length : Nat) : Int) + 1))).bind fun _ => (slc? r_776.1 0 ((IntKind.i64.wrap cut_767).tmod (IntKind.i64.wrap (((r_776.1.length : Nat) : Int) + 1)))).bind fun s_778 => (f9 s_778).bind fun r_779 => (if (decide (r_779.2.1 < 0)) = true then (some false) else (if (decide (((s_778.length : Nat) : Int) < r_779.2.1)) = true then (some false) else (slc? s_778 0 r_779.2.1).bind fun s_780 => (cat? s_780 r_777.1).bind fun v_781 => (f9 v_781).bind fun r_782 => (if (decide (r_782.2.2 = 0)) = true then (if (decide (r_782.2.1 = (IntKind.i64.wrap (r_779.2.1 + ((r_777.1.length : Nat) : Int))))) = true then (f11 ([r_779.1, more_766])).bind fun r_783 => (f10 r_782.1 r_783).bind fun r_784 => (if r_784 = true then (if (decide (((r_779.1.length : Nat) : Int) ≤ ((l_765.length : Nat) : Int))) = true then (slc? l_765 0 ((r_779.1.length : Nat) : Int)).bind fun s_785 => (f10 r_779.1 s_785).bind fun r_786 => (if r_786 = true then (f7).bind fun r_787 => (some r_787) else (some false)) else (some false)) else (some false)) else (some false)) else (some false))))))))
theorem f4_ok {l_765 : (List RecordEntry)} {more_766 : (List RecordEntry)} {cut_767 : Int} {r_ : Bool} (H : f4 l_765 more_766 cut_767 = some r_) : Pure Try.prog 4 [.sl 2 false (l_765.map eRecordEntry), .sl 2 false (more_766.map eRecordEntry), .int .u16 cut_767] (· = .bool r_) := by
  refine Pure.walk3 fd4 none (Nat.le_of_ble_eq_true rfl) (by rfl) fun Q hQ => ?_
  simp only [f4] at H
  refine AW.rseq ?_
  try simp only [↓wk, ↓wl, nc, evV, wrapBits_eq, ↓reduceIte, Nat.reduceEqDiff, Nat.reduceAdd, Nat.reduceSub, Nat.reduceLeDiff, Nat.reduceLT, Nat.reduceBEq, reduceCtorEq, Int.reduceEq]
  refine AW.sseq ?_
  refine AW.rseq ?_
  try simp only [↓wk, ↓wl, nc, evV, wrapBits_eq, ↓reduceIte, Nat.reduceEqDiff, Nat.reduceAdd, Nat.reduceSub, Nat.reduceLeDiff, Nat.reduceLT, Nat.reduceBEq, reduceCtorEq, Int.reduceEq]
  refine evTs_pure hFn H (fun _ h => f6_ok h) (by rfl) (by rfl) (by rfl) (by rfl) (fun _ => rfl) ?_ <;> clear H <;> intro r_772 H
  try simp only [eL, ↓wk, ↓wl, nc, evV, wrapBits_eq, ↓reduceIte, Nat.reduceEqDiff, Nat.reduceAdd, Nat.reduceSub, Nat.reduceLeDiff, Nat.reduceLT, Nat.reduceBEq, reduceCtorEq, Int.reduceEq]
  refine evTs_ifg H (by rfl) ?_ ?_ <;> clear H <;> intro H
  · try simp only [↓wk, ↓wl, nc, evV, wrapBits_eq, ↓reduceIte, Nat.reduceEqDiff, Nat.reduceAdd, Nat.reduceSub, Nat.reduceLeDiff, Nat.reduceLT, Nat.reduceBEq, reduceCtorEq, Int.reduceEq]
    refine AW.ift (by rfl) ?_
    refine AW.rseq ?_
    try simp only [↓wk, ↓wl, nc, evV, wrapBits_eq, ↓reduceIte, Nat.reduceEqDiff, Nat.reduceAdd, Nat.reduceSub, Nat.reduceLeDiff, Nat.reduceLT, Nat.reduceBEq, reduceCtorEq, Int.reduceEq]
    refine evTs_pure hFn H (fun _ h => f7_ok h) (by rfl) (by rfl) (by rfl) (by rfl) (fun _ => rfl) ?_ <;> clear H <;> intro r_773 H
    try simp only [eL, ↓wk, ↓wl, nc, evV, wrapBits_eq, ↓reduceIte, Nat.reduceEqDiff, Nat.reduceAdd, Nat.reduceSub, Nat.reduceLeDiff, Nat.reduceLT, Nat.reduceBEq, reduceCtorEq, Int.reduceEq]
    refine AW.ret ?_
    refine seqQ.ret ?_
    cases H
    exact hQ _ _ _ _ (.inr rfl) (by simp only [resVs, omap, resV, ↓wk, ↓wl, nc, evV, wrapBits_eq, ↓reduceIte, Nat.reduceEqDiff, Nat.reduceAdd, Nat.reduceSub, Nat.reduceLeDiff, Nat.reduceLT, Nat.reduceBEq, reduceCtorEq, Int.reduceEq]; rfl) (hand_plain (by rfl)) (by first | exact Or.inl rfl | exact Or.inr rfl)
  · try simp only [↓wk, ↓wl, nc, evV, wrapBits_eq, ↓reduceIte, Nat.reduceEqDiff, Nat.reduceAdd, Nat.reduceSub, Nat.reduceLeDiff, Nat.reduceLT, Nat.reduceBEq, reduceCtorEq, Int.reduceEq]
    refine evTs_pure hFn H (fun _ h => f6_ok h) (by rfl) (by rfl) (by rfl) (by rfl) (fun _ => rfl) ?_ <;> clear H <;> intro r_774 H
    try simp only [eL, ↓wk, ↓wl, nc, evV, wrapBits_eq, ↓reduceIte, Nat.reduceEqDiff, Nat.reduceAdd, Nat.reduceSub, Nat.reduceLeDiff, Nat.reduceLT, Nat.reduceBEq, reduceCtorEq, Int.reduceEq]
    refine AW.ifc H (by rfl) ?_ ?_ <;> clear H <;> intro H
    · refine AW.rseq ?_
      try simp only [↓wk, ↓wl, nc, evV, wrapBits_eq, ↓reduceIte, Nat.reduceEqDiff, Nat.reduceAdd, Nat.reduceSub, Nat.reduceLeDiff, Nat.reduceLT, Nat.reduceBEq, reduceCtorEq, Int.reduceEq]
      refine evTs_pure hFn H (fun _ h => f7_ok h) (by rfl) (by rfl) (by rfl) (by rfl) (fun _ => rfl) ?_ <;> clear H <;> intro r_775 H
      try simp only [eL, ↓wk, ↓wl, nc, evV, wrapBits_eq, ↓reduceIte, Nat.reduceEqDiff, Nat.reduceAdd, Nat.reduceSub, Nat.reduceLeDiff, Nat.reduceLT, Nat.reduceBEq, reduceCtorEq, Int.reduceEq]
      refine AW.ret ?_
      refine seqQ.ret ?_
      cases H
      exact hQ _ _ _ _ (.inr rfl) (by simp only [resVs, omap, resV, ↓wk, ↓wl, nc, evV, wrapBits_eq, ↓reduceIte, Nat.reduceEqDiff, Nat.reduceAdd, Nat.reduceSub, Nat.reduceLeDiff, Nat.reduceLT, Nat.reduceBEq, reduceCtorEq, Int.reduceEq]; rfl) (hand_plain (by rfl)) (by first | exact Or.inl rfl | exact Or.inr rfl)
    · refine AW.skip ?_
      refine seqQ.norm ?_
      refine AW.rseq ?_
      try simp only [↓wk, ↓wl, nc, evV, wrapBits_eq, ↓reduceIte, Nat.reduceEqDiff, Nat.reduceAdd, Nat.reduceSub, Nat.reduceLeDiff, Nat.reduceLT, Nat.reduceBEq, reduceCtorEq, Int.reduceEq]
      refine evTs_pure hFn H (fun _ h => f8_ok h) (by rfl) (by rfl) (by rfl) (by rfl) (fun _ => rfl) ?_ <;> clear H <;> intro r_776 H
      try simp only [eL, ↓wk, ↓wl, nc, evV, wrapBits_eq, ↓reduceIte, Nat.reduceEqDiff, Nat.reduceAdd, Nat.reduceSub, Nat.reduceLeDiff, Nat.reduceLT, Nat.reduceBEq, reduceCtorEq, Int.reduceEq]
      refine AW.rseq ?_
      try simp only [↓wk, ↓wl, nc, evV, wrapBits_eq, ↓reduceIte, Nat.reduceEqDiff, Nat.reduceAdd, Nat.reduceSub, Nat.reduceLeDiff, Nat.reduceLT, Nat.reduceBEq, reduceCtorEq, Int.reduceEq]
      refine evTs_pure hFn H (fun _ h => f8_ok h) (by rfl) (by rfl) (by rfl) (by rfl) (fun _ => rfl) ?_ <;> clear H <;> intro r_777 H
      try simp only [eL, ↓wk, ↓wl, nc, evV, wrapBits_eq, ↓reduceIte, Nat.reduceEqDiff, Nat.reduceAdd, Nat.reduceSub, Nat.reduceLeDiff, Nat.reduceLT, Nat.reduceBEq, reduceCtorEq, Int.reduceEq]
      refine AW.sseq ?_
      refine AW.rseq ?_
      try simp only [↓wk, ↓wl, nc, evV, wrapBits_eq, ↓reduceIte, Nat.reduceEqDiff, Nat.reduceAdd, Nat.reduceSub, Nat.reduceLeDiff, Nat.reduceLT, Nat.reduceBEq, reduceCtorEq, Int.reduceEq]
      refine evTs_ifg H (by rfl) ?_ ?_ <;> clear H <;> intro H
      · try simp only [↓wk, ↓wl, nc, evV, wrapBits_eq, ↓reduceIte, Nat.reduceEqDiff, Nat.reduceAdd, Nat.reduceSub, Nat.reduceLeDiff, Nat.reduceLT, Nat.reduceBEq, reduceCtorEq, Int.reduceEq]
        refine AW.ift (by rfl) ?_
        refine AW.rseq ?_
        try simp only [↓wk, ↓wl, nc, evV, wrapBits_eq, ↓reduceIte, Nat.reduceEqDiff, Nat.reduceAdd, Nat.reduceSub, Nat.reduceLeDiff, Nat.reduceLT, Nat.reduceBEq, reduceCtorEq, Int.reduceEq]
        refine AW.ret ?_
        refine seqQ.ret ?_
        cases H
        exact hQ _ _ _ _ (.inr rfl) (by simp only [resVs, omap, resV, ↓wk, ↓wl, nc, evV, wrapBits_eq, ↓reduceIte, Nat.reduceEqDiff, Nat.reduceAdd, Nat.reduceSub, Nat.reduceLeDiff, Nat.reduceLT, Nat.reduceBEq, reduceCtorEq, Int.reduceEq]; rfl) (hand_plain (by rfl)) (by first | exact Or.inl rfl | exact Or.inr rfl)
      · try simp only [↓wk, ↓wl, nc, evV, wrapBits_eq, ↓reduceIte, Nat.reduceEqDiff, Nat.reduceAdd, Nat.reduceSub, Nat.reduceLeDiff, Nat.reduceLT, Nat.reduceBEq, reduceCtorEq, Int.reduceEq]
        refine AW.ifc H (by rfl) ?_ ?_ <;> clear H <;> intro H
        · refine AW.rseq ?_
          try simp only [↓wk, ↓wl, nc, evV, wrapBits_eq, ↓reduceIte, Nat.reduceEqDiff, Nat.reduceAdd, Nat.reduceSub, Nat.reduceLeDiff, Nat.reduceLT, Nat.reduceBEq, reduceCtorEq, Int.reduceEq]
          refine AW.ret ?_
          refine seqQ.ret ?_
          cases H
          exact hQ _ _ _ _ (.inr rfl) (by simp only [resVs, omap, resV, ↓wk, ↓wl, nc, evV, wrapBits_eq, ↓reduceIte, Nat.reduceEqDiff, Nat.reduceAdd, Nat.reduceSub, Nat.reduceLeDiff, Nat.reduceLT, Nat.reduceBEq, reduceCtorEq, Int.reduceEq]; rfl) (hand_plain (by rfl)) (by first | exact Or.inl rfl | exact Or.inr rfl)
        · refine AW.skip ?_
          refine seqQ.norm ?_
          refine AW.rseq ?_
          try simp only [↓wk, ↓wl, nc, evV, wrapBits_eq, ↓reduceIte, Nat.reduceEqDiff, Nat.reduceAdd, Nat.reduceSub, Nat.reduceLeDiff, Nat.reduceLT, Nat.reduceBEq, reduceCtorEq, Int.reduceEq]
          refine rest_rem H ?_ <;> clear H <;> intro H
          try simp only [↓wk, ↓wl, nc, evV, wrapBits_eq, ↓reduceIte, Nat.reduceEqDiff, Nat.reduceAdd, Nat.reduceSub, Nat.reduceLeDiff, Nat.reduceLT, Nat.reduceBEq, reduceCtorEq, Int.reduceEq]
          refine evTs_sslc H (by rfl) (by simp only [loI, hiI, ↓wk, ↓wl, nc, evV, wrapBits_eq, ↓reduceIte, Nat.reduceEqDiff, Nat.reduceAdd, Nat.reduceSub, Nat.reduceLeDiff, Nat.reduceLT, Nat.reduceBEq, reduceCtorEq, Int.reduceEq]; rfl) (by simp only [loI, hiI, ↓wk, ↓wl, nc, evV, wrapBits_eq, ↓reduceIte, Nat.reduceEqDiff, Nat.reduceAdd, Nat.reduceSub, Nat.reduceLeDiff, Nat.reduceLT, Nat.reduceBEq, reduceCtorEq, Int.reduceEq]; rfl) ?_ <;> clear H <;> intro s_778 H
          try simp only [↓wk, ↓wl, nc, evV, wrapBits_eq, ↓reduceIte, Nat.reduceEqDiff, Nat.reduceAdd, Nat.reduceSub, Nat.reduceLeDiff, Nat.reduceLT, Nat.reduceBEq, reduceCtorEq, Int.reduceEq]
          refine AW.rseq ?_
          try simp only [↓wk, ↓wl, nc, evV, wrapBits_eq, ↓reduceIte, Nat.reduceEqDiff, Nat.reduceAdd, Nat.reduceSub, Nat.reduceLeDiff, Nat.reduceLT, Nat.reduceBEq, reduceCtorEq, Int.reduceEq]
          refine evTs_pure hFn H (fun _ h => f9_im h) (by rfl) (by rfl) (by rfl) (by rfl) (fun _ => rfl) ?_ <;> clear H <;> intro r_779 H
          try simp only [eL, ↓wk, ↓wl, nc, evV, wrapBits_eq, ↓reduceIte, Nat.reduceEqDiff, Nat.reduceAdd, Nat.reduceSub, Nat.reduceLeDiff, Nat.reduceLT, Nat.reduceBEq, reduceCtorEq, Int.reduceEq]
          refine AW.sseq ?_
          refine AW.rseq ?_
          try simp only [↓wk, ↓wl, nc, evV, wrapBits_eq, ↓reduceIte, Nat.reduceEqDiff, Nat.reduceAdd, Nat.reduceSub, Nat.reduceLeDiff, Nat.reduceLT, Nat.reduceBEq, reduceCtorEq, Int.reduceEq]
          refine evTs_ifg H (by rfl) ?_ ?_ <;> clear H <;> intro H
          · try simp only [↓wk, ↓wl, nc, evV, wrapBits_eq, ↓reduceIte, Nat.reduceEqDiff, Nat.reduceAdd, Nat.reduceSub, Nat.reduceLeDiff, Nat.reduceLT, Nat.reduceBEq, reduceCtorEq, Int.reduceEq]
            refine AW.ift (by rfl) ?_
            refine AW.rseq ?_
            try simp only [↓wk, ↓wl, nc, evV, wrapBits_eq, ↓reduceIte, Nat.reduceEqDiff, Nat.reduceAdd, Nat.reduceSub, Nat.reduceLeDiff, Nat.reduceLT, Nat.reduceBEq, reduceCtorEq, Int.reduceEq]
            refine AW.ret ?_
            refine seqQ.ret ?_
            cases H
            exact hQ _ _ _ _ (.inr rfl) (by simp only [resVs, omap, resV, ↓wk, ↓wl, nc, evV, wrapBits_eq, ↓reduceIte, Nat.reduceEqDiff, Nat.reduceAdd, Nat.reduceSub, Nat.reduceLeDiff, Nat.reduceLT, Nat.reduceBEq, reduceCtorEq, Int.reduceEq]; rfl) (hand_plain (by rfl)) (by first | exact Or.inl rfl | exact Or.inr rfl)
          · try simp only [↓wk, ↓wl, nc, evV, wrapBits_eq, ↓reduceIte, Nat.reduceEqDiff, Nat.reduceAdd, Nat.reduceSub, Nat.reduceLeDiff, Nat.reduceLT, Nat.reduceBEq, reduceCtorEq, Int.reduceEq]
            refine AW.ifc H (by rfl) ?_ ?_ <;> clear H <;> intro H
            · refine AW.rseq ?_
              try simp only [↓wk, ↓wl, nc, evV, wrapBits_eq, ↓reduceIte, Nat.reduceEqDiff, Nat.reduceAdd, Nat.reduceSub, Nat.reduceLeDiff, Nat.reduceLT, Nat.reduceBEq, reduceCtorEq, Int.reduceEq]
              refine AW.ret ?_
              refine seqQ.ret ?_
              cases H
              exact hQ _ _ _ _ (.inr rfl) (by simp only [resVs, omap, resV, ↓wk, ↓wl, nc, evV, wrapBits_eq, ↓reduceIte, Nat.reduceEqDiff, Nat.reduceAdd, Nat.reduceSub, Nat.reduceLeDiff, Nat.reduceLT, Nat.reduceBEq, reduceCtorEq, Int.reduceEq]; rfl) (hand_plain (by rfl)) (by first | exact Or.inl rfl | exact Or.inr rfl)
            · refine AW.skip ?_
              refine seqQ.norm ?_
              refine AW.rseq ?_
              try simp only [↓wk, ↓wl, nc, evV, wrapBits_eq, ↓reduceIte, Nat.reduceEqDiff, Nat.reduceAdd, Nat.reduceSub, Nat.reduceLeDiff, Nat.reduceLT, Nat.reduceBEq, reduceCtorEq, Int.reduceEq]
              refine evTs_sslc H (by rfl) (by simp only [loI, hiI, ↓wk, ↓wl, nc, evV, wrapBits_eq, ↓reduceIte, Nat.reduceEqDiff, Nat.reduceAdd, Nat.reduceSub, Nat.reduceLeDiff, Nat.reduceLT, Nat.reduceBEq, reduceCtorEq, Int.reduceEq]; rfl) (by simp only [loI, hiI, ↓wk, ↓wl, nc, evV, wrapBits_eq, ↓reduceIte, Nat.reduceEqDiff, Nat.reduceAdd, Nat.reduceSub, Nat.reduceLeDiff, Nat.reduceLT, Nat.reduceBEq, reduceCtorEq, Int.reduceEq]; rfl) ?_ <;> clear H <;> intro s_780 H
              try simp only [↓wk, ↓wl, nc, evV, wrapBits_eq, ↓reduceIte, Nat.reduceEqDiff, Nat.reduceAdd, Nat.reduceSub, Nat.reduceLeDiff, Nat.reduceLT, Nat.reduceBEq, reduceCtorEq, Int.reduceEq]
              refine rest_cat H ?_ <;> clear H <;> intro v_781 H
              try simp only [↓wk, ↓wl, nc, evV, wrapBits_eq, ↓reduceIte, Nat.reduceEqDiff, Nat.reduceAdd, Nat.reduceSub, Nat.reduceLeDiff, Nat.reduceLT, Nat.reduceBEq, reduceCtorEq, Int.reduceEq]
              refine evTs_pure hFn H (fun _ h => f9_im h) (by rfl) (by rfl) (by rfl) (by rfl) (fun _ => rfl) ?_ <;> clear H <;> intro r_782 H
              try simp only [eL, ↓wk, ↓wl, nc, evV, wrapBits_eq, ↓reduceIte, Nat.reduceEqDiff, Nat.reduceAdd, Nat.reduceSub, Nat.reduceLeDiff, Nat.reduceLT, Nat.reduceBEq, reduceCtorEq, Int.reduceEq]
              refine AW.rseq ?_
              try simp only [↓wk, ↓wl, nc, evV, wrapBits_eq, ↓reduceIte, Nat.reduceEqDiff, Nat.reduceAdd, Nat.reduceSub, Nat.reduceLeDiff, Nat.reduceLT, Nat.reduceBEq, reduceCtorEq, Int.reduceEq]
              refine evTs_ifg H (by rfl) ?_ ?_ <;> clear H <;> intro H
              · try simp only [↓wk, ↓wl, nc, evV, wrapBits_eq, ↓reduceIte, Nat.reduceEqDiff, Nat.reduceAdd, Nat.reduceSub, Nat.reduceLeDiff, Nat.reduceLT, Nat.reduceBEq, reduceCtorEq, Int.reduceEq]
                refine evTs_ifg H (by rfl) ?_ ?_ <;> clear H <;> intro H
                · try simp only [↓wk, ↓wl, nc, evV, wrapBits_eq, ↓reduceIte, Nat.reduceEqDiff, Nat.reduceAdd, Nat.reduceSub, Nat.reduceLeDiff, Nat.reduceLT, Nat.reduceBEq, reduceCtorEq, Int.reduceEq]
                  refine evTs_pure hFn H (fun _ h => f11_im h) (by rfl) (by rfl) (by rfl) (by rfl) (fun _ => rfl) ?_ <;> clear H <;> intro r_783 H
                  try simp only [eL, ↓wk, ↓wl, nc, evV, wrapBits_eq, ↓reduceIte, Nat.reduceEqDiff, Nat.reduceAdd, Nat.reduceSub, Nat.reduceLeDiff, Nat.reduceLT, Nat.reduceBEq, reduceCtorEq, Int.reduceEq]
                  refine evTs_pure hFn H (fun _ h => f10_ok h) (by rfl) (by rfl) (by rfl) (by rfl) (fun _ => rfl) ?_ <;> clear H <;> intro r_784 H
                  try simp only [eL, ↓wk, ↓wl, nc, evV, wrapBits_eq, ↓reduceIte, Nat.reduceEqDiff, Nat.reduceAdd, Nat.reduceSub, Nat.reduceLeDiff, Nat.reduceLT, Nat.reduceBEq, reduceCtorEq, Int.reduceEq]
                  refine evTs_ifg H (by rfl) ?_ ?_ <;> clear H <;> intro H
                  · try simp only [↓wk, ↓wl, nc, evV, wrapBits_eq, ↓reduceIte, Nat.reduceEqDiff, Nat.reduceAdd, Nat.reduceSub, Nat.reduceLeDiff, Nat.reduceLT, Nat.reduceBEq, reduceCtorEq, Int.reduceEq]
                    refine evTs_ifg H (by rfl) ?_ ?_ <;> clear H <;> intro H
                    · try simp only [↓wk, ↓wl, nc, evV, wrapBits_eq, ↓reduceIte, Nat.reduceEqDiff, Nat.reduceAdd, Nat.reduceSub, Nat.reduceLeDiff, Nat.reduceLT, Nat.reduceBEq, reduceCtorEq, Int.reduceEq]
                      refine evTs_slc (enc := eRecordEntry) H (by rfl) (by rfl) (by simp only [loI, hiI, ↓wk, ↓wl, nc, evV, wrapBits_eq, ↓reduceIte, Nat.reduceEqDiff, Nat.reduceAdd, Nat.reduceSub, Nat.reduceLeDiff, Nat.reduceLT, Nat.reduceBEq, reduceCtorEq, Int.reduceEq]; rfl) (by simp only [loI, hiI, ↓wk, ↓wl, nc, evV, wrapBits_eq, ↓reduceIte, Nat.reduceEqDiff, Nat.reduceAdd, Nat.reduceSub, Nat.reduceLeDiff, Nat.reduceLT, Nat.reduceBEq, reduceCtorEq, Int.reduceEq]; rfl) ?_ <;> clear H <;> intro s_785 H
                      try simp only [↓wk, ↓wl, nc, evV, wrapBits_eq, ↓reduceIte, Nat.reduceEqDiff, Nat.reduceAdd, Nat.reduceSub, Nat.reduceLeDiff, Nat.reduceLT, Nat.reduceBEq, reduceCtorEq, Int.reduceEq]
                      refine evTs_pure hFn H (fun _ h => f10_ok h) (by rfl) (by rfl) (by rfl) (by rfl) (fun _ => rfl) ?_ <;> clear H <;> intro r_786 H
                      try simp only [eL, ↓wk, ↓wl, nc, evV, wrapBits_eq, ↓reduceIte, Nat.reduceEqDiff, Nat.reduceAdd, Nat.reduceSub, Nat.reduceLeDiff, Nat.reduceLT, Nat.reduceBEq, reduceCtorEq, Int.reduceEq]
                      refine evTs_ifg H (by rfl) ?_ ?_ <;> clear H <;> intro H
                      · try simp only [↓wk, ↓wl, nc, evV, wrapBits_eq, ↓reduceIte, Nat.reduceEqDiff, Nat.reduceAdd, Nat.reduceSub, Nat.reduceLeDiff, Nat.reduceLT, Nat.reduceBEq, reduceCtorEq, Int.reduceEq]
                        refine evTs_pure hFn H (fun _ h => f7_ok h) (by rfl) (by rfl) (by rfl) (by rfl) (fun _ => rfl) ?_ <;> clear H <;> intro r_787 H
                        try simp only [eL, ↓wk, ↓wl, nc, evV, wrapBits_eq, ↓reduceIte, Nat.reduceEqDiff, Nat.reduceAdd, Nat.reduceSub, Nat.reduceLeDiff, Nat.reduceLT, Nat.reduceBEq, reduceCtorEq, Int.reduceEq]
                        refine AW.ret ?_
                        cases H
                        exact hQ _ _ _ _ (.inr rfl) (by simp only [resVs, omap, resV, ↓wk, ↓wl, nc, evV, wrapBits_eq, ↓reduceIte, Nat.reduceEqDiff, Nat.reduceAdd, Nat.reduceSub, Nat.reduceLeDiff, Nat.reduceLT, Nat.reduceBEq, reduceCtorEq, Int.reduceEq]; rfl) (hand_plain (by rfl)) (by first | exact Or.inl rfl | exact Or.inr rfl)
                      · try simp only [↓wk, ↓wl, nc, evV, wrapBits_eq, ↓reduceIte, Nat.reduceEqDiff, Nat.reduceAdd, Nat.reduceSub, Nat.reduceLeDiff, Nat.reduceLT, Nat.reduceBEq, reduceCtorEq, Int.reduceEq]
                        refine AW.ret ?_
                        cases H
                        exact hQ _ _ _ _ (.inr rfl) (by simp only [resVs, omap, resV, ↓wk, ↓wl, nc, evV, wrapBits_eq, ↓reduceIte, Nat.reduceEqDiff, Nat.reduceAdd, Nat.reduceSub, Nat.reduceLeDiff, Nat.reduceLT, Nat.reduceBEq, reduceCtorEq, Int.reduceEq]; rfl) (hand_plain (by rfl)) (by first | exact Or.inl rfl | exact Or.inr rfl)
                    · try simp only [↓wk, ↓wl, nc, evV, wrapBits_eq, ↓reduceIte, Nat.reduceEqDiff, Nat.reduceAdd, Nat.reduceSub, Nat.reduceLeDiff, Nat.reduceLT, Nat.reduceBEq, reduceCtorEq, Int.reduceEq]
                      refine AW.ret ?_
                      cases H
                      exact hQ _ _ _ _ (.inr rfl) (by simp only [resVs, omap, resV, ↓wk, ↓wl, nc, evV, wrapBits_eq, ↓reduceIte, Nat.reduceEqDiff, Nat.reduceAdd, Nat.reduceSub, Nat.reduceLeDiff, Nat.reduceLT, Nat.reduceBEq, reduceCtorEq, Int.reduceEq]; rfl) (hand_plain (by rfl)) (by first | exact Or.inl rfl | exact Or.inr rfl)
                  · try simp only [↓wk, ↓wl, nc, evV, wrapBits_eq, ↓reduceIte, Nat.reduceEqDiff, Nat.reduceAdd, Nat.reduceSub, Nat.reduceLeDiff, Nat.reduceLT, Nat.reduceBEq, reduceCtorEq, Int.reduceEq]
                    refine AW.ret ?_
                    cases H
                    exact hQ _ _ _ _ (.inr rfl) (by simp only [resVs, omap, resV, ↓wk, ↓wl, nc, evV, wrapBits_eq, ↓reduceIte, Nat.reduceEqDiff, Nat.reduceAdd, Nat.reduceSub, Nat.reduceLeDiff, Nat.reduceLT, Nat.reduceBEq, reduceCtorEq, Int.reduceEq]; rfl) (hand_plain (by rfl)) (by first | exact Or.inl rfl | exact Or.inr rfl)
                · try simp only [↓wk, ↓wl, nc, evV, wrapBits_eq, ↓reduceIte, Nat.reduceEqDiff, Nat.reduceAdd, Nat.reduceSub, Nat.reduceLeDiff, Nat.reduceLT, Nat.reduceBEq, reduceCtorEq, Int.reduceEq]
                  refine AW.ret ?_
                  cases H
                  exact hQ _ _ _ _ (.inr rfl) (by simp only [resVs, omap, resV, ↓wk, ↓wl, nc, evV, wrapBits_eq, ↓reduceIte, Nat.reduceEqDiff, Nat.reduceAdd, Nat.reduceSub, Nat.reduceLeDiff, Nat.reduceLT, Nat.reduceBEq, reduceCtorEq, Int.reduceEq]; rfl) (hand_plain (by rfl)) (by first | exact Or.inl rfl | exact Or.inr rfl)
              · try simp only [↓wk, ↓wl, nc, evV, wrapBits_eq, ↓reduceIte, Nat.reduceEqDiff, Nat.reduceAdd, Nat.reduceSub, Nat.reduceLeDiff, Nat.reduceLT, Nat.reduceBEq, reduceCtorEq, Int.reduceEq]
                refine AW.ret ?_
                cases H
                exact hQ _ _ _ _ (.inr rfl) (by simp only [resVs, omap, resV, ↓wk, ↓wl, nc, evV, wrapBits_eq, ↓reduceIte, Nat.reduceEqDiff, Nat.reduceAdd, Nat.reduceSub, Nat.reduceLeDiff, Nat.reduceLT, Nat.reduceBEq, reduceCtorEq, Int.reduceEq]; rfl) (hand_plain (by rfl)) (by first | exact Or.inl rfl | exact Or.inr rfl)
end Go.Proofs.Ytkbjimfganeooaa
