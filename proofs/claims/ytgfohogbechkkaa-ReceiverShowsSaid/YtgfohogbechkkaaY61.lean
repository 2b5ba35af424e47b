import Derived.Test.YtgfohogbechkkaaX2
import Derived.Test.YtgfohogbechkkaaProg
import Derived.KernelRfl
namespace Go.Proofs.Ytgfohogbechkkaa
open Go Go.Ab

set_option maxHeartbeats 1000000
set_option linter.unusedSimpArgs false
set_option linter.unusedVariables false
noncomputable def f28_L1 (r_882 : (List ReceiverInput)) : Lp (Int × (List Int)) ((List Int)) where
  body := fun (v_891, out_892) => (if (decide (v_891 < ((r_882.length : Nat) : Int))) = true then (at? r_882 v_891).bind fun x_896 => (app? 8 out_892 ([x_896.fSource])).bind fun out_897 => (some (.next ((IntKind.i64.wrap (v_891 + 1)), out_897))) else (some (.brk out_892)))
  cst := fun (v_891, out_892) => ⟨put (put (put (put (fun _ => .junk) 29 (.int .i64 v_891)) 28 (.int .i64 ((r_882.length : Nat) : Int))) 27 (.sl 8 false (r_882.map eReceiverInput))) 9 (.row 0 0 0 out_892.length), [.els 0 (out_892.map (AV.int .u64))]⟩
theorem f28_L1c (r_882 : (List ReceiverInput)) (v_891 : Int) (out_892 : (List Int)) : (f28_L1 r_882).cst (v_891, out_892) = ⟨put (put (put (put (fun _ => .junk) 29 (.int .i64 v_891)) 28 (.int .i64 ((r_882.length : Nat) : Int))) 27 (.sl 8 false (r_882.map eReceiverInput))) 9 (.row 0 0 0 out_892.length), [.els 0 (out_892.map (AV.int .u64))]⟩ := rfl
def c28_0 : C := .cond (.t 16) (.seq (.reg [iI 17 (.mv (.t 8)), iI 6 (.mv (.c (.sl 0 true []))), iI 7 (.mv (.t 17))]) .ret) (.skip)
def c28_1 : C := .seq (.reg [iI 15 (.mv (.t 8)), iI 16 (.bin .neq (.t 15) (.c (.int .i64 0)))]) c28_0
def c28_2 : C := .cond (.t 23) (.seq (.reg [iI 6 (.mv (.c (.sl 0 true []))), iI 7 (.mv (.c (.int .i64 2)))]) .ret) (.skip)
def c28_3 : C := .reg [iI 33 (.mv (.t 9)), iI 34 (.faddr 1 (.t 11)), iI 35 (.load 0 (.t 34)), iI 36 (.mkslp 0 1 (.int .u64 0) [(0, (.t 35))]), iI 37 (.append 0 8 (.t 33) (.t 36)), iI 9 (.mv (.t 37))]
def c28_4 : C := .reg [iI 38 (.bin .add (.t 29) (.c (.int .i64 1))), iI 29 (.mv (.t 38))]
def c28_5 : C := .seq (.block 1 (.seq (.reg [iI 31 (.iaddr 8 (.t 27) (.t 29)), iI 32 (.load 8 (.t 31)), iI 11 (.alloc [(1, (.int .i64 0)), (1, (.int .u64 0)), (1, (.int .i64 0)), (1, (.int .i64 0)), (1, (.int .i64 0)), (1, (.int .i64 0)), (1, (.str [])), (1, (.str []))]), iN (.store 8 (.t 11) (.t 32))]) c28_3)) c28_4
def c28_6 : C := .seq (.cond (.t 30) (.skip) (.exit 0)) c28_5
def c28_7 : C := .block 0 (.loop (.seq (.reg [iI 30 (.bin .lss (.t 29) (.t 28))]) c28_6))
def c28_8 : C := .seq (.reg [iI 39 (.mv (.t 9)), iI 6 (.mv (.t 39)), iI 7 (.mv (.c (.int .i64 0)))]) .ret
def c28_9 : C := .seq (.seq (.reg [iI 24 (.load 1 (.t 3)), iI 25 (.mv (.t 1)), iI 26 (.mv (.t 2)), iI 27 (.call (.c (.fn 73 [])) [(.t 24), (.t 25), (.t 26)]), iI 28 (.len 0 (.t 27)), iI 29 (.mv (.c (.int .i64 0)))]) c28_7) c28_8
def c28_10 : C := .seq (.reg [iI 9 (.mv (.c (.sl 0 true [])))]) c28_9
def c28_11 : C := .seq (.seq (.reg [iI 18 (.mv (.t 2)), iI 19 (.bin .lss (.t 18) (.c (.int .i64 1))), iI 20 (.mv (.t 19)), iG (some 21) 20 false (.mv (.t 2)), iG (some 22) 20 false (.bin .gtr (.t 21) (.c (.int .i64 8))), iI 23 (.pick (.t 20) (.c (.bool true)) (.t 22))]) c28_2) c28_10
def c28_12 : C := .seq (.seq (.reg [iI 12 (.load 1 (.t 3)), iI 13 (.mv (.t 1)), iI 14 (.call (.c (.fn 58 [])) [(.t 12), (.t 13)]), iI 8 (.mv (.t 14))]) c28_1) c28_11
def ir28 : C := .seq (.reg [iI 3 (.box (.t 0)), iI 6 (.mv (.c (.sl 0 true []))), iI 7 (.mv (.c (.int .i64 0)))]) c28_12
theorem fd28 : fd? Try.prog 28 = some (40, [.slot 6, .slot 7], ir28) := by kernel_rfl
noncomputable def f28 (r_877 : ReceiverReceiver) (t_878 : Int) (universe_879 : Int) : Option ((List Int) × Int) :=
  (f58 r_877 t_878).bind fun r_881 => (if (decide (r_881 ≠ 0)) = true then (some ([], r_881)) else (if (decide (universe_879 < 1)) = true then (some ([], 2)) else (if (decide (8 < universe_879)) = true then (some ([], 2)) else (f73 r_877 t_878 universe_879).bind fun r_882 => (Lp.run (f28_L1 r_882) (0, [])).bind fun out_895 => (some (out_895, 0)))))
theorem f28_ok {r_877 : ReceiverReceiver} {t_878 : Int} {universe_879 : Int} {r_ : (List Int) × Int} (H : f28 r_877 t_878 universe_879 = some r_) : Pure Try.prog 28 [.agg [.sl 8 false (r_877.fInputs.map eReceiverInput)], .int .i64 t_878, .int .i64 universe_879] (· = .tup [.fr 0 (r_.1.map (AV.int .u64)), .int .i64 r_.2]) := by
  refine Pure.walk3 fd28 (some 0) (Nat.le_of_ble_eq_true rfl) (by rfl) fun Q hQ => ?_
  simp only [f28] at H
  refine AW.rseq ?_
  try simp only [↓wk, ↓wl, nc, evV, wrapBits_eq, ↓reduceIte, sevalprocAttr]
  refine AW.sseq ?_
  refine AW.rseq ?_
  try simp only [↓wk, ↓wl, nc, evV, wrapBits_eq, ↓reduceIte, sevalprocAttr]
  refine evTs_pure hFn H (fun _ h => f58_ok h) (by rfl) (by rfl) (by rfl) (by rfl) (fun _ => rfl) ?_ <;> clear H <;> intro r_881 H
  try simp only [eL, ↓wk, ↓wl, nc, evV, wrapBits_eq, ↓reduceIte, sevalprocAttr]
  refine AW.rseq ?_
  try simp only [↓wk, ↓wl, nc, evV, wrapBits_eq, ↓reduceIte, sevalprocAttr]
  refine AW.ifc H (by rfl) ?_ ?_ <;> clear H <;> intro H
  · refine AW.rseq ?_
    try simp only [↓wk, ↓wl, nc, evV, wrapBits_eq, ↓reduceIte, sevalprocAttr]
    refine AW.ret ?_
    refine seqQ.ret ?_
    cases H
    exact hQ _ _ _ _ (.inr rfl) (by simp only [resVs, omap, resV, ↓wk, ↓wl, nc, evV, wrapBits_eq, ↓reduceIte, sevalprocAttr]; rfl) (hand_k0 (by rfl) (by rfl)) (by first | exact Or.inl rfl | exact Or.inr rfl)
  · refine AW.skip ?_
    refine seqQ.norm ?_
    refine AW.sseq ?_
    refine AW.rseq ?_
    try simp only [↓wk, ↓wl, nc, evV, wrapBits_eq, ↓reduceIte, sevalprocAttr]
    refine evTs_ifg H (by rfl) ?_ ?_ <;> clear H <;> intro H
    · try simp only [↓wk, ↓wl, nc, evV, wrapBits_eq, ↓reduceIte, sevalprocAttr]
      refine AW.ift (by rfl) ?_
      refine AW.rseq ?_
      try simp only [↓wk, ↓wl, nc, evV, wrapBits_eq, ↓reduceIte, sevalprocAttr]
      refine AW.ret ?_
      refine seqQ.ret ?_
      cases H
      exact hQ _ _ _ _ (.inr rfl) (by simp only [resVs, omap, resV, ↓wk, ↓wl, nc, evV, wrapBits_eq, ↓reduceIte, sevalprocAttr]; rfl) (hand_k0 (by rfl) (by rfl)) (by first | exact Or.inl rfl | exact Or.inr rfl)
    · try simp only [↓wk, ↓wl, nc, evV, wrapBits_eq, ↓reduceIte, sevalprocAttr]
      refine AW.ifc H (by rfl) ?_ ?_ <;> clear H <;> intro H
      · refine AW.rseq ?_
        try simp only [↓wk, ↓wl, nc, evV, wrapBits_eq, ↓reduceIte, sevalprocAttr]
        refine AW.ret ?_
        refine seqQ.ret ?_
        cases H
        exact hQ _ _ _ _ (.inr rfl) (by simp only [resVs, omap, resV, ↓wk, ↓wl, nc, evV, wrapBits_eq, ↓reduceIte, sevalprocAttr]; rfl) (hand_k0 (by rfl) (by rfl)) (by first | exact Or.inl rfl | exact Or.inr rfl)
      · refine AW.skip ?_
        refine seqQ.norm ?_
        refine AW.rseq ?_
        try simp only [↓wk, ↓wl, nc, evV, wrapBits_eq, ↓reduceIte, sevalprocAttr]
        refine AW.sseq ?_
        refine AW.rseq ?_
        try simp only [↓wk, ↓wl, nc, evV, wrapBits_eq, ↓reduceIte, sevalprocAttr]
        refine evTs_pure hFn H (fun _ h => f73_im h) (by rfl) (by rfl) (by rfl) (by rfl) (fun _ => rfl) ?_ <;> clear H <;> intro r_882 H
        try simp only [eL, ↓wk, ↓wl, nc, evV, wrapBits_eq, ↓reduceIte, sevalprocAttr]
        refine AW.bend ?_
        refine AW.iter H ((Le.trans (Le.nilRow (i := 9) (e := 0) (by simp only [↓wk, ↓wl, nc, evV, wrapBits_eq, ↓reduceIte, sevalprocAttr])) (Le.none [1] [9, 27, 28, 29] (by decide) (by simp only [f28_L1c, rrl, Option.map_some, vm, List.idxOf?_cons, List.idxOf?_nil, beq_self_eq_true, Option.map_none, List.getD_cons_zero, List.getD_cons_succ, ↓wk, ↓wl, nc, evV, wrapBits_eq, ↓reduceIte, sevalprocAttr] <;> rfl)))) ?_ <;> clear H
        rintro ⟨v_891, out_892⟩ x_ st0_ H hst_
        rw [f28_L1c] at hst_
        simp only [f28_L1] at H
        subst hst_
        refine AW.rseq ?_
        try simp only [↓wk, ↓wl, nc, evV, wrapBits_eq, ↓reduceIte, sevalprocAttr]
        refine AW.sseq ?_
        refine AW.ifc H (by rfl) ?_ ?_ <;> clear H <;> intro H
        · refine AW.skip ?_
          refine seqQ.norm ?_
          refine AW.bseq ?_
          refine AW.rseq ?_
          try simp only [↓wk, ↓wl, nc, evV, wrapBits_eq, ↓reduceIte, sevalprocAttr]
          refine evTs_at (enc := eReceiverInput) H (by rfl) (by rfl) ?_ <;> clear H <;> intro x_896 H
          try simp only [eReceiverInput, eL, ↓wk, ↓wl, nc, evV, wrapBits_eq, ↓reduceIte, sevalprocAttr]
          refine AW.rend ?_
          try simp only [↓wk, ↓wl, nc, evV, wrapBits_eq, ↓reduceIte, sevalprocAttr]
          refine evTs_app (enc := (AV.int .u64)) H (by rfl) (by first | rfl | simp only [List.length_set]) (by rfl) (by rfl) ?_ <;> clear H <;> intro out_897 H
          try simp only [↓wk, ↓wl, nc, evV, wrapBits_eq, ↓reduceIte, sevalprocAttr]
          refine blkQ.norm ?_
          refine AW.rend ?_
          try simp only [↓wk, ↓wl, nc, evV, wrapBits_eq, ↓reduceIte, sevalprocAttr]
          exact loopQ.next H ((Le.none [2] [9, 27, 28, 29] (by decide) (by simp only [f28_L1c, rrl, Option.map_some, vm, List.idxOf?_cons, List.idxOf?_nil, beq_self_eq_true, Option.map_none, List.getD_cons_zero, List.getD_cons_succ, ↓wk, ↓wl, nc, evV, wrapBits_eq, ↓reduceIte, sevalprocAttr] <;> rfl)))
        · refine AW.exit ?_
          refine seqQ.exit ?_
          refine loopQ.exit H ?_ <;> clear H <;> intro H
          try dsimp only at H
          refine blk0.here ?_
          refine seqQ.norm ?_
          refine AW.rseq ?_
          try simp only [↓wk, ↓wl, nc, evV, wrapBits_eq, ↓reduceIte, sevalprocAttr]
          refine AW.ret ?_
          cases H
          exact hQ _ _ _ _ (.inr rfl) (by simp only [resVs, omap, resV, ↓wk, ↓wl, nc, evV, wrapBits_eq, ↓reduceIte, sevalprocAttr]; rfl) (hand_k (by rfl) (by rfl) (by simp) (enc_all _) (by rfl)) (by first | exact Or.inl rfl | exact Or.inr rfl)
theorem f28_im {r_877 : ReceiverReceiver} {t_878 : Int} {universe_879 : Int} {r_ : (List Int) × Int} (H : f28 r_877 t_878 universe_879 = some r_) : Pure Try.prog 28 [.agg [.sl 8 false (r_877.fInputs.map eReceiverInput)], .int .i64 t_878, .int .i64 universe_879] (· = .tup [.sl 0 false (r_.1.map (AV.int .u64)), .int .i64 r_.2]) := (f28_ok H).unfr (by first | exact enc_fits _ | simp only [frFits, List.all_cons, List.all_nil, enc_fits, Bool.and_self])
noncomputable def f74_L1 (r_905 : Ref57Receiver) (universe_907 : Int) (t_906 : Int) : Lp (Int × Int × (List Ref57Input)) ((List Ref57Input)) where
  body := fun (best_920, i_921, out_922) => (if (decide (i_921 < ((r_905.fInputs.length : Nat) : Int))) = true then (at? r_905.fInputs i_921).bind fun x_927 => (if (decide (x_927.fUniverse ≠ universe_907)) = true then (some (.next (best_920, (IntKind.i64.wrap (i_921 + 1)), out_922))) else (if (decide (2500 < (IntKind.i64.wrap (t_906 - x_927.fLast)))) = true then (some (.next (best_920, (IntKind.i64.wrap (i_921 + 1)), out_922))) else (if (x_927.fSlots == ([])) = true then (some (.next (best_920, (IntKind.i64.wrap (i_921 + 1)), out_922))) else (if (decide (x_927.fPriority < best_920)) = true then (some (.next (best_920, (IntKind.i64.wrap (i_921 + 1)), out_922))) else (if (decide (best_920 < x_927.fPriority)) = true then (app? 80 [] ([x_927])).bind fun out_928 => (some (.next (x_927.fPriority, (IntKind.i64.wrap (i_921 + 1)), out_928))) else (app? 80 out_922 ([x_927])).bind fun out_929 => (some (.next (best_920, (IntKind.i64.wrap (i_921 + 1)), out_929)))))))) else (some (.brk out_922)))
  cst := fun (best_920, i_921, out_922) => ⟨put (put (put (put (put (put (fun _ => .junk) 9 (.int .i64 i_921)) 8 (.row 8 1 0 out_922.length)) 7 (.int .i64 best_920)) 3 (.ptr 0 0)) 2 (.int .i64 universe_907)) 1 (.int .i64 t_906), [.cel [.sl 8 false (r_905.fInputs.map eRef57Input)], .els 8 (out_922.map eRef57Input)]⟩
theorem f74_L1c (r_905 : Ref57Receiver) (universe_907 : Int) (t_906 : Int) (best_920 : Int) (i_921 : Int) (out_922 : (List Ref57Input)) : (f74_L1 r_905 universe_907 t_906).cst (best_920, i_921, out_922) = ⟨put (put (put (put (put (put (fun _ => .junk) 9 (.int .i64 i_921)) 8 (.row 8 1 0 out_922.length)) 7 (.int .i64 best_920)) 3 (.ptr 0 0)) 2 (.int .i64 universe_907)) 1 (.int .i64 t_906), [.cel [.sl 8 false (r_905.fInputs.map eRef57Input)], .els 8 (out_922.map eRef57Input)]⟩ := rfl
def c74_0 : C := .cond (.t 15) (.skip) (.exit 0)
def c74_1 : C := .cond (.t 44) (.exit 1) (.skip)
def c74_2 : C := .cond (.t 48) (.reg [iI 49 (.faddr 2 (.t 10)), iI 50 (.load 0 (.t 49)), iI 7 (.mv (.t 50)), iI 8 (.mv (.c (.sl 8 true [])))]) (.skip)
def c74_3 : C := .reg [iI 51 (.mv (.t 8)), iI 52 (.load 8 (.t 10)), iI 53 (.mkslp 8 1 (.agg [(.int .i64 0), (.int .u64 0), (.int .i64 0), (.int .i64 0), (.int .i64 0), (.int .i64 0), (.str []), (.str [])]) [(0, (.t 52))]), iI 54 (.append 8 80 (.t 51) (.t 53)), iI 8 (.mv (.t 54))]
def c74_4 : C := .seq (.seq (.reg [iI 45 (.faddr 2 (.t 10)), iI 46 (.load 0 (.t 45)), iI 47 (.mv (.t 7)), iI 48 (.bin .gtr (.t 46) (.t 47))]) c74_2) c74_3
def c74_5 : C := .seq (.seq (.reg [iI 23 (.faddr 0 (.t 10)), iI 24 (.load 0 (.t 23)), iI 25 (.mv (.t 2)), iI 26 (.bin .neq (.t 24) (.t 25)), iI 27 (.mv (.t 26)), iG (some 28) 27 false (.mv (.t 1)), iG (some 29) 27 false (.faddr 5 (.t 10)), iG (some 30) 27 false (.load 0 (.t 29)), iG (some 31) 27 false (.bin .sub (.t 28) (.t 30)), iG (some 32) 27 false (.bin .gtr (.t 31) (.c (.int .i64 2500))), iI 33 (.pick (.t 27) (.c (.bool true)) (.t 32)), iI 34 (.mv (.t 33)), iG (some 35) 34 false (.faddr 6 (.t 10)), iG (some 36) 34 false (.load 0 (.t 35)), iG (some 37) 34 false (.bin .eql (.t 36) (.c (.str []))), iI 38 (.pick (.t 34) (.c (.bool true)) (.t 37)), iI 39 (.mv (.t 38)), iG (some 40) 39 false (.faddr 2 (.t 10)), iG (some 41) 39 false (.load 0 (.t 40)), iG (some 42) 39 false (.mv (.t 7)), iG (some 43) 39 false (.bin .lss (.t 41) (.t 42)), iI 44 (.pick (.t 39) (.c (.bool true)) (.t 43))]) c74_1) c74_4
def c74_6 : C := .reg [iI 16 (.mv (.t 9)), iI 17 (.bin .add (.t 16) (.c (.int .i64 1))), iI 9 (.mv (.t 17))]
def c74_7 : C := .seq (.block 1 (.seq (.reg [iI 18 (.faddr 0 (.t 3)), iI 19 (.load 0 (.t 18)), iI 20 (.mv (.t 9)), iI 21 (.iaddr 8 (.t 19) (.t 20)), iI 22 (.load 8 (.t 21)), iI 10 (.alloc [(1, (.int .i64 0)), (1, (.int .u64 0)), (1, (.int .i64 0)), (1, (.int .i64 0)), (1, (.int .i64 0)), (1, (.int .i64 0)), (1, (.str [])), (1, (.str []))]), iN (.store 8 (.t 10) (.t 22))]) c74_5)) c74_6
def c74_8 : C := .block 0 (.loop (.seq (.seq (.reg [iI 11 (.mv (.t 9)), iI 12 (.faddr 0 (.t 3)), iI 13 (.load 0 (.t 12)), iI 14 (.len 0 (.t 13)), iI 15 (.bin .lss (.t 11) (.t 14))]) c74_0) c74_7))
def c74_9 : C := .seq (.reg [iI 55 (.mv (.t 8)), iI 6 (.mv (.t 55))]) .ret
def c74_10 : C := .seq (.seq (.reg [iI 9 (.mv (.c (.int .i64 0)))]) c74_8) c74_9
def c74_11 : C := .seq (.reg [iI 8 (.mv (.c (.sl 8 true [])))]) c74_10
def c74_12 : C := .seq (.reg [iI 7 (.mv (.c (.int .i64 (-1))))]) c74_11
def ir74 : C := .seq (.reg [iI 3 (.box (.t 0)), iI 6 (.mv (.c (.sl 8 true [])))]) c74_12
theorem fd74 : fd? Try.prog 74 = some (56, [.slot 6], ir74) := by kernel_rfl
noncomputable def f74 (r_905 : Ref57Receiver) (t_906 : Int) (universe_907 : Int) : Option ((List Ref57Input)) :=
  (Lp.run (f74_L1 r_905 universe_907 t_906) ((-1), 0, [])).bind fun out_926 => (some out_926)
theorem f74_ok {r_905 : Ref57Receiver} {t_906 : Int} {universe_907 : Int} {r_ : (List Ref57Input)} (H : f74 r_905 t_906 universe_907 = some r_) : Pure Try.prog 74 [.agg [.sl 8 false (r_905.fInputs.map eRef57Input)], .int .i64 t_906, .int .i64 universe_907] (· = .fr 8 (r_.map eRef57Input)) := by
  refine Pure.walk3 fd74 (some 0) (Nat.le_of_ble_eq_true rfl) (by rfl) fun Q hQ => ?_
  simp only [f74] at H
  refine AW.rseq ?_
  try simp only [↓wk, ↓wl, nc, evV, wrapBits_eq, ↓reduceIte, sevalprocAttr]
  refine AW.rseq ?_
  try simp only [↓wk, ↓wl, nc, evV, wrapBits_eq, ↓reduceIte, sevalprocAttr]
  refine AW.rseq ?_
  try simp only [↓wk, ↓wl, nc, evV, wrapBits_eq, ↓reduceIte, sevalprocAttr]
  refine AW.sseq ?_
  refine AW.rseq ?_
  try simp only [↓wk, ↓wl, nc, evV, wrapBits_eq, ↓reduceIte, sevalprocAttr]
  refine AW.bend ?_
  refine AW.iter H ((Le.trans (Le.nilRow (i := 8) (e := 8) (by simp only [↓wk, ↓wl, nc, evV, wrapBits_eq, ↓reduceIte, sevalprocAttr])) (Le.none [0, 1] [1, 2, 3, 7, 8, 9] (by decide) (by simp only [f74_L1c, rrl, Option.map_some, vm, List.idxOf?_cons, List.idxOf?_nil, beq_self_eq_true, Option.map_none, List.getD_cons_zero, List.getD_cons_succ, ↓wk, ↓wl, nc, evV, wrapBits_eq, ↓reduceIte, sevalprocAttr] <;> rfl)))) ?_ <;> clear H
  rintro ⟨best_920, i_921, out_922⟩ x_ st0_ H hst_
  rw [f74_L1c] at hst_
  simp only [f74_L1] at H
  subst hst_
  refine AW.sseq ?_
  refine AW.rseq ?_
  try simp only [↓wk, ↓wl, nc, evV, wrapBits_eq, ↓reduceIte, sevalprocAttr]
  refine AW.ifc H (by rfl) ?_ ?_ <;> clear H <;> intro H
  · refine AW.skip ?_
    refine seqQ.norm ?_
    refine AW.bseq ?_
    refine AW.rseq ?_
    try simp only [↓wk, ↓wl, nc, evV, wrapBits_eq, ↓reduceIte, sevalprocAttr]
    refine evTs_at (enc := eRef57Input) H (by rfl) (by rfl) ?_ <;> clear H <;> intro x_927 H
    try simp only [eRef57Input, eL, ↓wk, ↓wl, nc, evV, wrapBits_eq, ↓reduceIte, sevalprocAttr]
    refine AW.sseq ?_
    refine AW.rseq ?_
    try simp only [↓wk, ↓wl, nc, evV, wrapBits_eq, ↓reduceIte, sevalprocAttr]
    refine evTs_ifg H (by rfl) ?_ ?_ <;> clear H <;> intro H
    · try simp only [↓wk, ↓wl, nc, evV, wrapBits_eq, ↓reduceIte, sevalprocAttr]
      refine AW.ift (by rfl) ?_
      refine AW.exit ?_
      refine seqQ.exit ?_
      refine blkQ.here ?_
      refine AW.rend ?_
      try simp only [↓wk, ↓wl, nc, evV, wrapBits_eq, ↓reduceIte, sevalprocAttr]
      exact loopQ.next H ((Le.none [0, 1] [1, 2, 3, 7, 8, 9] (by decide) (by simp only [f74_L1c, rrl, Option.map_some, vm, List.idxOf?_cons, List.idxOf?_nil, beq_self_eq_true, Option.map_none, List.getD_cons_zero, List.getD_cons_succ, ↓wk, ↓wl, nc, evV, wrapBits_eq, ↓reduceIte, sevalprocAttr] <;> rfl)))
    · try simp only [↓wk, ↓wl, nc, evV, wrapBits_eq, ↓reduceIte, sevalprocAttr]
      refine evTs_ifg H (by rfl) ?_ ?_ <;> clear H <;> intro H
      · try simp only [↓wk, ↓wl, nc, evV, wrapBits_eq, ↓reduceIte, sevalprocAttr]
        refine AW.ift (by rfl) ?_
        refine AW.exit ?_
        refine seqQ.exit ?_
        refine blkQ.here ?_
        refine AW.rend ?_
        try simp only [↓wk, ↓wl, nc, evV, wrapBits_eq, ↓reduceIte, sevalprocAttr]
        exact loopQ.next H ((Le.none [0, 1] [1, 2, 3, 7, 8, 9] (by decide) (by simp only [f74_L1c, rrl, Option.map_some, vm, List.idxOf?_cons, List.idxOf?_nil, beq_self_eq_true, Option.map_none, List.getD_cons_zero, List.getD_cons_succ, ↓wk, ↓wl, nc, evV, wrapBits_eq, ↓reduceIte, sevalprocAttr] <;> rfl)))
      · try simp only [↓wk, ↓wl, nc, evV, wrapBits_eq, ↓reduceIte, sevalprocAttr]
        refine evTs_ifg H (by rfl) ?_ ?_ <;> clear H <;> intro H
        · try simp only [↓wk, ↓wl, nc, evV, wrapBits_eq, ↓reduceIte, sevalprocAttr]
          refine AW.ift (by rfl) ?_
          refine AW.exit ?_
          refine seqQ.exit ?_
          refine blkQ.here ?_
          refine AW.rend ?_
          try simp only [↓wk, ↓wl, nc, evV, wrapBits_eq, ↓reduceIte, sevalprocAttr]
          exact loopQ.next H ((Le.none [0, 1] [1, 2, 3, 7, 8, 9] (by decide) (by simp only [f74_L1c, rrl, Option.map_some, vm, List.idxOf?_cons, List.idxOf?_nil, beq_self_eq_true, Option.map_none, List.getD_cons_zero, List.getD_cons_succ, ↓wk, ↓wl, nc, evV, wrapBits_eq, ↓reduceIte, sevalprocAttr] <;> rfl)))
        · try simp only [↓wk, ↓wl, nc, evV, wrapBits_eq, ↓reduceIte, sevalprocAttr]
          refine AW.ifc H (by rfl) ?_ ?_ <;> clear H <;> intro H
          · refine AW.exit ?_
            refine seqQ.exit ?_
            refine blkQ.here ?_
            refine AW.rend ?_
            try simp only [↓wk, ↓wl, nc, evV, wrapBits_eq, ↓reduceIte, sevalprocAttr]
            exact loopQ.next H ((Le.none [0, 1] [1, 2, 3, 7, 8, 9] (by decide) (by simp only [f74_L1c, rrl, Option.map_some, vm, List.idxOf?_cons, List.idxOf?_nil, beq_self_eq_true, Option.map_none, List.getD_cons_zero, List.getD_cons_succ, ↓wk, ↓wl, nc, evV, wrapBits_eq, ↓reduceIte, sevalprocAttr] <;> rfl)))
          · refine AW.skip ?_
            refine seqQ.norm ?_
            refine AW.sseq ?_
            refine AW.rseq ?_
            try simp only [↓wk, ↓wl, nc, evV, wrapBits_eq, ↓reduceIte, sevalprocAttr]
            refine AW.ifc H (by rfl) ?_ ?_ <;> clear H <;> intro H
            · refine AW.rend ?_
              try simp only [↓wk, ↓wl, nc, evV, wrapBits_eq, ↓reduceIte, sevalprocAttr]
              refine seqQ.norm ?_
              refine AW.rend ?_
              try simp only [↓wk, ↓wl, nc, evV, wrapBits_eq, ↓reduceIte, sevalprocAttr]
              refine evTs_app0 (enc := eRef57Input) H (by rfl) (by rfl) ?_ <;> clear H <;> intro out_928 H
              try simp only [↓wk, ↓wl, nc, evV, wrapBits_eq, ↓reduceIte, sevalprocAttr]
              refine blkQ.norm ?_
              refine AW.rend ?_
              try simp only [↓wk, ↓wl, nc, evV, wrapBits_eq, ↓reduceIte, sevalprocAttr]
              exact loopQ.next H ((Le.none [0, 3] [1, 2, 3, 7, 8, 9] (by decide) (by simp only [f74_L1c, rrl, Option.map_some, vm, List.idxOf?_cons, List.idxOf?_nil, beq_self_eq_true, Option.map_none, List.getD_cons_zero, List.getD_cons_succ, ↓wk, ↓wl, nc, evV, wrapBits_eq, ↓reduceIte, sevalprocAttr] <;> rfl)))
            · refine AW.skip ?_
              refine seqQ.norm ?_
              refine AW.rend ?_
              try simp only [↓wk, ↓wl, nc, evV, wrapBits_eq, ↓reduceIte, sevalprocAttr]
              refine evTs_app (enc := eRef57Input) H (by rfl) (by first | rfl | simp only [List.length_set]) (by rfl) (by rfl) ?_ <;> clear H <;> intro out_929 H
              try simp only [↓wk, ↓wl, nc, evV, wrapBits_eq, ↓reduceIte, sevalprocAttr]
              refine blkQ.norm ?_
              refine AW.rend ?_
              try simp only [↓wk, ↓wl, nc, evV, wrapBits_eq, ↓reduceIte, sevalprocAttr]
              exact loopQ.next H ((Le.none [0, 3] [1, 2, 3, 7, 8, 9] (by decide) (by simp only [f74_L1c, rrl, Option.map_some, vm, List.idxOf?_cons, List.idxOf?_nil, beq_self_eq_true, Option.map_none, List.getD_cons_zero, List.getD_cons_succ, ↓wk, ↓wl, nc, evV, wrapBits_eq, ↓reduceIte, sevalprocAttr] <;> rfl)))
  · refine AW.exit ?_
    refine seqQ.exit ?_
    refine loopQ.exit H ?_ <;> clear H <;> intro H
    try dsimp only at H
    refine blk0.here ?_
    refine seqQ.norm ?_
    refine AW.rseq ?_
    try simp only [↓wk, ↓wl, nc, evV, wrapBits_eq, ↓reduceIte, sevalprocAttr]
    refine AW.ret ?_
    cases H
    exact hQ _ _ _ _ (.inr rfl) (by simp only [resVs, omap, resV, ↓wk, ↓wl, nc, evV, wrapBits_eq, ↓reduceIte, sevalprocAttr]; rfl) (hand_1 (by rfl) (by simp) (enc_all _)) (by first | exact Or.inl rfl | exact Or.inr rfl)
theorem f74_im {r_905 : Ref57Receiver} {t_906 : Int} {universe_907 : Int} {r_ : (List Ref57Input)} (H : f74 r_905 t_906 universe_907 = some r_) : Pure Try.prog 74 [.agg [.sl 8 false (r_905.fInputs.map eRef57Input)], .int .i64 t_906, .int .i64 universe_907] (· = .sl 8 false (r_.map eRef57Input)) := (f74_ok H).unfr (by first | exact enc_fits _ | simp only [frFits, List.all_cons, List.all_nil, enc_fits, Bool.and_self])
noncomputable def f29_L1 (r_930 : (List Ref57Input)) : Lp (Int × (List Int)) ((List Int)) where
  body := fun (i_939, out_940) => (if (decide (i_939 < ((r_930.length : Nat) : Int))) = true then (at? r_930 i_939).bind fun x_944 => (app? 8 out_940 ([x_944.fSource])).bind fun out_945 => (some (.next ((IntKind.i64.wrap (i_939 + 1)), out_945))) else (some (.brk out_940)))
  cst := fun (i_939, out_940) => ⟨put (put (put (fun _ => .junk) 11 (.int .i64 i_939)) 10 (.row 0 0 0 out_940.length)) 9 (.sl 8 false (r_930.map eRef57Input)), [.els 0 (out_940.map (AV.int .u64))]⟩
theorem f29_L1c (r_930 : (List Ref57Input)) (i_939 : Int) (out_940 : (List Int)) : (f29_L1 r_930).cst (i_939, out_940) = ⟨put (put (put (fun _ => .junk) 11 (.int .i64 i_939)) 10 (.row 0 0 0 out_940.length)) 9 (.sl 8 false (r_930.map eRef57Input)), [.els 0 (out_940.map (AV.int .u64))]⟩ := rfl
def c29_0 : C := .cond (.t 16) (.seq (.reg [iI 17 (.mv (.t 8)), iI 6 (.mv (.c (.sl 0 true []))), iI 7 (.mv (.t 17))]) .ret) (.skip)
def c29_1 : C := .seq (.reg [iI 15 (.mv (.t 8)), iI 16 (.bin .neq (.t 15) (.c (.int .i64 0)))]) c29_0
def c29_2 : C := .cond (.t 23) (.seq (.reg [iI 6 (.mv (.c (.sl 0 true []))), iI 7 (.mv (.c (.int .i64 2)))]) .ret) (.skip)
def c29_3 : C := .cond (.t 31) (.skip) (.exit 0)
def c29_4 : C := .reg [iI 32 (.mv (.t 11)), iI 33 (.bin .add (.t 32) (.c (.int .i64 1))), iI 11 (.mv (.t 33))]
def c29_5 : C := .seq (.block 1 (.reg [iI 34 (.mv (.t 10)), iI 35 (.mv (.t 9)), iI 36 (.mv (.t 11)), iI 37 (.iaddr 8 (.t 35) (.t 36)), iI 38 (.faddr 1 (.t 37)), iI 39 (.load 0 (.t 38)), iI 40 (.mkslp 0 1 (.int .u64 0) [(0, (.t 39))]), iI 41 (.append 0 8 (.t 34) (.t 40)), iI 10 (.mv (.t 41))])) c29_4
def c29_6 : C := .block 0 (.loop (.seq (.seq (.reg [iI 28 (.mv (.t 11)), iI 29 (.mv (.t 9)), iI 30 (.len 0 (.t 29)), iI 31 (.bin .lss (.t 28) (.t 30))]) c29_3) c29_5))
def c29_7 : C := .seq (.reg [iI 42 (.mv (.t 10)), iI 6 (.mv (.t 42)), iI 7 (.mv (.c (.int .i64 0)))]) .ret
def c29_8 : C := .seq (.seq (.reg [iI 11 (.mv (.c (.int .i64 0)))]) c29_6) c29_7
def c29_9 : C := .seq (.reg [iI 10 (.mv (.c (.sl 0 true [])))]) c29_8
def c29_10 : C := .seq (.reg [iI 24 (.load 1 (.t 3)), iI 25 (.mv (.t 1)), iI 26 (.mv (.t 2)), iI 27 (.call (.c (.fn 74 [])) [(.t 24), (.t 25), (.t 26)]), iI 9 (.mv (.t 27))]) c29_9
def c29_11 : C := .seq (.seq (.reg [iI 18 (.mv (.t 2)), iI 19 (.bin .lss (.t 18) (.c (.int .i64 1))), iI 20 (.mv (.t 19)), iG (some 21) 20 false (.mv (.t 2)), iG (some 22) 20 false (.bin .gtr (.t 21) (.c (.int .i64 8))), iI 23 (.pick (.t 20) (.c (.bool true)) (.t 22))]) c29_2) c29_10
def c29_12 : C := .seq (.seq (.reg [iI 12 (.load 1 (.t 3)), iI 13 (.mv (.t 1)), iI 14 (.call (.c (.fn 61 [])) [(.t 12), (.t 13)]), iI 8 (.mv (.t 14))]) c29_1) c29_11
def ir29 : C := .seq (.reg [iI 3 (.box (.t 0)), iI 6 (.mv (.c (.sl 0 true []))), iI 7 (.mv (.c (.int .i64 0)))]) c29_12
theorem fd29 : fd? Try.prog 29 = some (43, [.slot 6, .slot 7], ir29) := by kernel_rfl
noncomputable def f29 (r_900 : Ref57Receiver) (t_901 : Int) (universe_902 : Int) : Option ((List Int) × Int) :=
  (f61 r_900 t_901).bind fun r_904 => (if (decide (r_904 ≠ 0)) = true then (some ([], r_904)) else (if (decide (universe_902 < 1)) = true then (some ([], 2)) else (if (decide (8 < universe_902)) = true then (some ([], 2)) else (f74 r_900 t_901 universe_902).bind fun r_930 => (Lp.run (f29_L1 r_930) (0, [])).bind fun out_943 => (some (out_943, 0)))))
theorem f29_ok {r_900 : Ref57Receiver} {t_901 : Int} {universe_902 : Int} {r_ : (List Int) × Int} (H : f29 r_900 t_901 universe_902 = some r_) : Pure Try.prog 29 [.agg [.sl 8 false (r_900.fInputs.map eRef57Input)], .int .i64 t_901, .int .i64 universe_902] (· = .tup [.fr 0 (r_.1.map (AV.int .u64)), .int .i64 r_.2]) := by
  refine Pure.walk3 fd29 (some 0) (Nat.le_of_ble_eq_true rfl) (by rfl) fun Q hQ => ?_
  simp only [f29] at H
  refine AW.rseq ?_
  try simp only [↓wk, ↓wl, nc, evV, wrapBits_eq, ↓reduceIte, sevalprocAttr]
  refine AW.sseq ?_
  refine AW.rseq ?_
  try simp only [↓wk, ↓wl, nc, evV, wrapBits_eq, ↓reduceIte, sevalprocAttr]
  refine evTs_pure hFn H (fun _ h => f61_ok h) (by rfl) (by rfl) (by rfl) (by rfl) (fun _ => rfl) ?_ <;> clear H <;> intro r_904 H
  try simp only [eL, ↓wk, ↓wl, nc, evV, wrapBits_eq, ↓reduceIte, sevalprocAttr]
  refine AW.rseq ?_
  try simp only [↓wk, ↓wl, nc, evV, wrapBits_eq, ↓reduceIte, sevalprocAttr]
  refine AW.ifc H (by rfl) ?_ ?_ <;> clear H <;> intro H
  · refine AW.rseq ?_
    try simp only [↓wk, ↓wl, nc, evV, wrapBits_eq, ↓reduceIte, sevalprocAttr]
    refine AW.ret ?_
    refine seqQ.ret ?_
    cases H
    exact hQ _ _ _ _ (.inr rfl) (by simp only [resVs, omap, resV, ↓wk, ↓wl, nc, evV, wrapBits_eq, ↓reduceIte, sevalprocAttr]; rfl) (hand_k0 (by rfl) (by rfl)) (by first | exact Or.inl rfl | exact Or.inr rfl)
  · refine AW.skip ?_
    refine seqQ.norm ?_
    refine AW.sseq ?_
    refine AW.rseq ?_
    try simp only [↓wk, ↓wl, nc, evV, wrapBits_eq, ↓reduceIte, sevalprocAttr]
    refine evTs_ifg H (by rfl) ?_ ?_ <;> clear H <;> intro H
    · try simp only [↓wk, ↓wl, nc, evV, wrapBits_eq, ↓reduceIte, sevalprocAttr]
      refine AW.ift (by rfl) ?_
      refine AW.rseq ?_
      try simp only [↓wk, ↓wl, nc, evV, wrapBits_eq, ↓reduceIte, sevalprocAttr]
      refine AW.ret ?_
      refine seqQ.ret ?_
      cases H
      exact hQ _ _ _ _ (.inr rfl) (by simp only [resVs, omap, resV, ↓wk, ↓wl, nc, evV, wrapBits_eq, ↓reduceIte, sevalprocAttr]; rfl) (hand_k0 (by rfl) (by rfl)) (by first | exact Or.inl rfl | exact Or.inr rfl)
    · try simp only [↓wk, ↓wl, nc, evV, wrapBits_eq, ↓reduceIte, sevalprocAttr]
      refine AW.ifc H (by rfl) ?_ ?_ <;> clear H <;> intro H
      · refine AW.rseq ?_
        try simp only [↓wk, ↓wl, nc, evV, wrapBits_eq, ↓reduceIte, sevalprocAttr]
        refine AW.ret ?_
        refine seqQ.ret ?_
        cases H
        exact hQ _ _ _ _ (.inr rfl) (by simp only [resVs, omap, resV, ↓wk, ↓wl, nc, evV, wrapBits_eq, ↓reduceIte, sevalprocAttr]; rfl) (hand_k0 (by rfl) (by rfl)) (by first | exact Or.inl rfl | exact Or.inr rfl)
      · refine AW.skip ?_
        refine seqQ.norm ?_
        refine AW.rseq ?_
        try simp only [↓wk, ↓wl, nc, evV, wrapBits_eq, ↓reduceIte, sevalprocAttr]
        refine evTs_pure hFn H (fun _ h => f74_im h) (by rfl) (by rfl) (by rfl) (by rfl) (fun _ => rfl) ?_ <;> clear H <;> intro r_930 H
        try simp only [eL, ↓wk, ↓wl, nc, evV, wrapBits_eq, ↓reduceIte, sevalprocAttr]
        refine AW.rseq ?_
        try simp only [↓wk, ↓wl, nc, evV, wrapBits_eq, ↓reduceIte, sevalprocAttr]
        refine AW.sseq ?_
        refine AW.rseq ?_
        try simp only [↓wk, ↓wl, nc, evV, wrapBits_eq, ↓reduceIte, sevalprocAttr]
        refine AW.bend ?_
        refine AW.iter H ((Le.trans (Le.nilRow (i := 10) (e := 0) (by simp only [↓wk, ↓wl, nc, evV, wrapBits_eq, ↓reduceIte, sevalprocAttr])) (Le.none [1] [9, 10, 11] (by decide) (by simp only [f29_L1c, rrl, Option.map_some, vm, List.idxOf?_cons, List.idxOf?_nil, beq_self_eq_true, Option.map_none, List.getD_cons_zero, List.getD_cons_succ, ↓wk, ↓wl, nc, evV, wrapBits_eq, ↓reduceIte, sevalprocAttr] <;> rfl)))) ?_ <;> clear H
        rintro ⟨i_939, out_940⟩ x_ st0_ H hst_
        rw [f29_L1c] at hst_
        simp only [f29_L1] at H
        subst hst_
        refine AW.sseq ?_
        refine AW.rseq ?_
        try simp only [↓wk, ↓wl, nc, evV, wrapBits_eq, ↓reduceIte, sevalprocAttr]
        refine AW.ifc H (by rfl) ?_ ?_ <;> clear H <;> intro H
        · refine AW.skip ?_
          refine seqQ.norm ?_
          refine AW.bseq ?_
          refine AW.rend ?_
          try simp only [↓wk, ↓wl, nc, evV, wrapBits_eq, ↓reduceIte, sevalprocAttr]
          refine evTs_at (enc := eRef57Input) H (by rfl) (by rfl) ?_ <;> clear H <;> intro x_944 H
          try simp only [eRef57Input, eL, ↓wk, ↓wl, nc, evV, wrapBits_eq, ↓reduceIte, sevalprocAttr]
          refine evTs_app (enc := (AV.int .u64)) H (by rfl) (by first | rfl | simp only [List.length_set]) (by rfl) (by rfl) ?_ <;> clear H <;> intro out_945 H
          try simp only [↓wk, ↓wl, nc, evV, wrapBits_eq, ↓reduceIte, sevalprocAttr]
          refine blkQ.norm ?_
          refine AW.rend ?_
          try simp only [↓wk, ↓wl, nc, evV, wrapBits_eq, ↓reduceIte, sevalprocAttr]
          exact loopQ.next H ((Le.none [1] [9, 10, 11] (by decide) (by simp only [f29_L1c, rrl, Option.map_some, vm, List.idxOf?_cons, List.idxOf?_nil, beq_self_eq_true, Option.map_none, List.getD_cons_zero, List.getD_cons_succ, ↓wk, ↓wl, nc, evV, wrapBits_eq, ↓reduceIte, sevalprocAttr] <;> rfl)))
        · refine AW.exit ?_
          refine seqQ.exit ?_
          refine loopQ.exit H ?_ <;> clear H <;> intro H
          try dsimp only at H
          refine blk0.here ?_
          refine seqQ.norm ?_
          refine AW.rseq ?_
          try simp only [↓wk, ↓wl, nc, evV, wrapBits_eq, ↓reduceIte, sevalprocAttr]
          refine AW.ret ?_
          cases H
          exact hQ _ _ _ _ (.inr rfl) (by simp only [resVs, omap, resV, ↓wk, ↓wl, nc, evV, wrapBits_eq, ↓reduceIte, sevalprocAttr]; rfl) (hand_k (by rfl) (by rfl) (by simp) (enc_all _) (by rfl)) (by first | exact Or.inl rfl | exact Or.inr rfl)
theorem f29_im {r_900 : Ref57Receiver} {t_901 : Int} {universe_902 : Int} {r_ : (List Int) × Int} (H : f29 r_900 t_901 universe_902 = some r_) : Pure Try.prog 29 [.agg [.sl 8 false (r_900.fInputs.map eRef57Input)], .int .i64 t_901, .int .i64 universe_902] (· = .tup [.sl 0 false (r_.1.map (AV.int .u64)), .int .i64 r_.2]) := (f29_ok H).unfr (by first | exact enc_fits _ | simp only [frFits, List.all_cons, List.all_nil, enc_fits, Bool.and_self])
noncomputable def f110_L2 (l_1079 : (List Ref57Input)) (i_1123 : Int) : Lp (Int × (List Int)) ((List Int)) where
  body := fun (k_1158, out_1159) => (if (decide (k_1158 < ((out_1159.length : Nat) : Int))) = true then (at? out_1159 k_1158).bind fun x_1166 => (at? l_1079 i_1123).bind fun x_1167 => (at? x_1167.fSlots k_1158).bind fun b_1168 => (at? out_1159 k_1158).bind fun x_1169 => (some (.next ((IntKind.i64.wrap (k_1158 + 1)), (out_1159.set k_1158.toNat (if (b_1168.toNat : Int) > x_1166 then (b_1168.toNat : Int) else x_1166))))) else (some (.brk out_1159)))
  cst := fun (k_1158, out_1159) => ⟨put (put (put (put (fun _ => .junk) 5 (.int .i64 k_1158)) 4 (.int .i64 i_1123)) 3 (.row 0 0 0 out_1159.length)) 0 (.sl 8 false (l_1079.map eRef57Input)), [.els 0 (out_1159.map (AV.int .u8))]⟩
theorem f110_L2c (l_1079 : (List Ref57Input)) (i_1123 : Int) (k_1158 : Int) (out_1159 : (List Int)) : (f110_L2 l_1079 i_1123).cst (k_1158, out_1159) = ⟨put (put (put (put (fun _ => .junk) 5 (.int .i64 k_1158)) 4 (.int .i64 i_1123)) 3 (.row 0 0 0 out_1159.length)) 0 (.sl 8 false (l_1079.map eRef57Input)), [.els 0 (out_1159.map (AV.int .u8))]⟩ := rfl
noncomputable def f110_L1 (l_1079 : (List Ref57Input)) : Lp (Int × (List Int)) ((List Int)) where
  body := fun (i_1123, out_1124) => (if (decide (i_1123 < ((l_1079.length : Nat) : Int))) = true then (Lp.run (f110_L2 l_1079 i_1123) (0, out_1124)).bind fun out_1165 => (some (.next ((IntKind.i64.wrap (i_1123 + 1)), out_1165))) else (some (.brk out_1124)))
  cst := fun (i_1123, out_1124) => ⟨put (put (put (fun _ => .junk) 4 (.int .i64 i_1123)) 3 (.row 0 0 0 out_1124.length)) 0 (.sl 8 false (l_1079.map eRef57Input)), [.els 0 (out_1124.map (AV.int .u8))]⟩
theorem f110_L1c (l_1079 : (List Ref57Input)) (i_1123 : Int) (out_1124 : (List Int)) : (f110_L1 l_1079).cst (i_1123, out_1124) = ⟨put (put (put (fun _ => .junk) 4 (.int .i64 i_1123)) 3 (.row 0 0 0 out_1124.length)) 0 (.sl 8 false (l_1079.map eRef57Input)), [.els 0 (out_1124.map (AV.int .u8))]⟩ := rfl
def c110_0 : C := .cond (.t 14) (.skip) (.exit 0)
def c110_1 : C := .cond (.t 20) (.skip) (.exit 2)
def c110_2 : C := .reg [iI 21 (.mv (.t 5)), iI 22 (.bin .add (.t 21) (.c (.int .i64 1))), iI 5 (.mv (.t 22))]
def c110_3 : C := .seq (.block 3 (.reg [iI 23 (.mv (.t 3)), iI 24 (.mv (.t 5)), iI 25 (.mv (.t 3)), iI 26 (.mv (.t 5)), iI 27 (.iaddr 0 (.t 25) (.t 26)), iI 28 (.load 0 (.t 27)), iI 29 (.mv (.t 0)), iI 30 (.mv (.t 4)), iI 31 (.iaddr 8 (.t 29) (.t 30)), iI 32 (.faddr 6 (.t 31)), iI 33 (.load 0 (.t 32)), iI 34 (.mv (.t 5)), iI 35 (.sidx (.t 33) (.t 34)), iI 36 (.maxmin true (.t 28) [(.t 35)]), iI 37 (.iaddr 0 (.t 23) (.t 24)), iN (.store 0 (.t 37) (.t 36))])) c110_2
def c110_4 : C := .block 2 (.loop (.seq (.seq (.reg [iI 17 (.mv (.t 5)), iI 18 (.mv (.t 3)), iI 19 (.len 0 (.t 18)), iI 20 (.bin .lss (.t 17) (.t 19))]) c110_1) c110_3))
def c110_5 : C := .reg [iI 15 (.mv (.t 4)), iI 16 (.bin .add (.t 15) (.c (.int .i64 1))), iI 4 (.mv (.t 16))]
def c110_6 : C := .seq (.block 1 (.seq (.reg [iI 5 (.mv (.c (.int .i64 0)))]) c110_4)) c110_5
def c110_7 : C := .block 0 (.loop (.seq (.seq (.reg [iI 11 (.mv (.t 4)), iI 12 (.mv (.t 0)), iI 13 (.len 0 (.t 12)), iI 14 (.bin .lss (.t 11) (.t 13))]) c110_0) c110_6))
def c110_8 : C := .seq (.reg [iI 38 (.mv (.t 3)), iI 39 (.cstr (.t 38)), iI 2 (.mv (.t 39))]) .ret
def c110_9 : C := .seq (.seq (.reg [iI 4 (.mv (.c (.int .i64 1)))]) c110_7) c110_8
def c110_10 : C := .seq (.reg [iI 6 (.mv (.t 0)), iI 7 (.iaddr 8 (.t 6) (.c (.int .i64 0))), iI 8 (.faddr 6 (.t 7)), iI 9 (.load 0 (.t 8)), iI 10 (.cbytes (.t 9)), iI 3 (.mv (.t 10))]) c110_9
def ir110 : C := .seq (.reg [iI 2 (.mv (.c (.str [])))]) c110_10
theorem fd110 : fd? Try.prog 110 = some (40, [.slot 2], ir110) := by kernel_rfl
noncomputable def f110 (l_1079 : (List Ref57Input)) : Option ((List UInt8)) :=
  (at? l_1079 0).bind fun x_1080 => (room? x_1080.fSlots.length).bind fun _ => (Lp.run (f110_L1 l_1079) (1, (b2i x_1080.fSlots))).bind fun out_1145 => (some (out_1145.map b8))
theorem f110_ok {l_1079 : (List Ref57Input)} {r_ : (List UInt8)} (H : f110 l_1079 = some r_) : Pure Try.prog 110 [.sl 8 false (l_1079.map eRef57Input)] (· = .str r_) := by
  refine Pure.walk3 fd110 none (Nat.le_of_ble_eq_true rfl) (by rfl) fun Q hQ => ?_
  simp only [f110] at H
  refine AW.rseq ?_
  try simp only [↓wk, ↓wl, ncs, evV, wrapBits_eq, ↓reduceIte, sevalprocAttr]
  refine AW.rseq ?_
  try simp only [↓wk, ↓wl, ncs, evV, wrapBits_eq, ↓reduceIte, sevalprocAttr]
  refine evTs_at (enc := eRef57Input) H (by rfl) (by rfl) ?_ <;> clear H <;> intro x_1080 H
  try simp only [eRef57Input, eL, ↓wk, ↓wl, ncs, evV, wrapBits_eq, ↓reduceIte, sevalprocAttr]
  refine evTs_cbytes H (by rfl) ?_ <;> clear H <;> intro H
  try simp only [↓wk, ↓wl, ncs, evV, wrapBits_eq, ↓reduceIte, sevalprocAttr]
  refine AW.sseq ?_
  refine AW.rseq ?_
  try simp only [↓wk, ↓wl, ncs, evV, wrapBits_eq, ↓reduceIte, sevalprocAttr]
  refine AW.bend ?_
  refine AW.iter H ((Le.none [0] [0, 3, 4] (by decide) (by simp only [f110_L1c, rrl, Option.map_some, vm, List.idxOf?_cons, List.idxOf?_nil, beq_self_eq_true, Option.map_none, List.getD_cons_zero, List.getD_cons_succ, ↓wk, ↓wl, nc, evV, wrapBits_eq, ↓reduceIte, sevalprocAttr] <;> rfl))) ?_ <;> clear H
  rintro ⟨i_1123, out_1124⟩ x_ st0_ H hst_
  rw [f110_L1c] at hst_
  simp only [f110_L1] at H
  subst hst_
  refine AW.sseq ?_
  refine AW.rseq ?_
  try simp only [↓wk, ↓wl, ncs, evV, wrapBits_eq, ↓reduceIte, sevalprocAttr]
  refine AW.ifc H (by rfl) ?_ ?_ <;> clear H <;> intro H
  · refine AW.skip ?_
    refine seqQ.norm ?_
    refine AW.bseq ?_
    refine AW.rseq ?_
    try simp only [↓wk, ↓wl, ncs, evV, wrapBits_eq, ↓reduceIte, sevalprocAttr]
    refine AW.bend ?_
    refine AW.iter H ((Le.none [0] [0, 3, 4, 5] (by decide) (by simp only [f110_L2c, rrl, Option.map_some, vm, List.idxOf?_cons, List.idxOf?_nil, beq_self_eq_true, Option.map_none, List.getD_cons_zero, List.getD_cons_succ, ↓wk, ↓wl, nc, evV, wrapBits_eq, ↓reduceIte, sevalprocAttr] <;> rfl))) ?_ <;> clear H
    rintro ⟨k_1158, out_1159⟩ x_ st0_ H hst_
    rw [f110_L2c] at hst_
    simp only [f110_L2] at H
    subst hst_
    refine AW.sseq ?_
    refine AW.rseq ?_
    try simp only [↓wk, ↓wl, ncs, evV, wrapBits_eq, ↓reduceIte, sevalprocAttr]
    refine AW.ifc H (by rfl) ?_ ?_ <;> clear H <;> intro H
    · refine AW.skip ?_
      refine seqQ.norm ?_
      refine AW.bseq ?_
      refine AW.rend ?_
      try simp only [↓wk, ↓wl, ncs, evV, wrapBits_eq, ↓reduceIte, sevalprocAttr]
      refine evTs_atr (enc := (AV.int .u8)) H (by rfl) (by first | rfl | simp only [List.length_set]) (by rfl) ?_ <;> clear H <;> intro x_1166 hx_1166 H
      try simp only [↓wk, ↓wl, ncs, evV, wrapBits_eq, ↓reduceIte, sevalprocAttr, hx_1166]
      refine evTs_at (enc := eRef57Input) H (by rfl) (by rfl) ?_ <;> clear H <;> intro x_1167 H
      try simp only [eRef57Input, eL, ↓wk, ↓wl, ncs, evV, wrapBits_eq, ↓reduceIte, sevalprocAttr, hx_1166]
      refine evTs_sat H (by rfl) (by rfl) ?_ <;> clear H <;> intro b_1168 H
      try simp only [↓wk, ↓wl, ncs, evV, wrapBits_eq, ↓reduceIte, sevalprocAttr, hx_1166]
      refine evTs_atr (enc := (AV.int .u8)) H (by rfl) (by first | rfl | simp only [List.length_set, hx_1166]) (by rfl) ?_ <;> clear H <;> intro x_1169 hx_1169 H
      try simp only [↓wk, ↓wl, ncs, evV, wrapBits_eq, ↓reduceIte, sevalprocAttr, hx_1169]
      refine evTs_stW (enc := (AV.int .u8)) (if (b_1168.toNat : Int) > x_1166 then (b_1168.toNat : Int) else x_1166) (by rfl) (by rfl) (by first | exact lt_map hx_1169 | (simp only [List.length_set]; exact lt_map hx_1169)) (fun _ => by rfl) ?_
      have hw_1170 := set_get hx_1169 (if (b_1168.toNat : Int) > x_1166 then (b_1168.toNat : Int) else x_1166)
      try simp only [↓wk, ↓wl, ncs, evV, wrapBits_eq, ↓reduceIte, sevalprocAttr, hx_1169, hw_1170]
      refine blkQ.norm ?_
      refine AW.rend ?_
      try simp only [↓wk, ↓wl, ncs, evV, wrapBits_eq, ↓reduceIte, sevalprocAttr, hx_1169, hw_1170]
      exact loopQ.next H ((Le.none [0] [0, 3, 4, 5] (by decide) (by simp only [f110_L2c, rrl, Option.map_some, vm, List.idxOf?_cons, List.idxOf?_nil, beq_self_eq_true, Option.map_none, List.getD_cons_zero, List.getD_cons_succ, ↓wk, ↓wl, nc, evV, wrapBits_eq, ↓reduceIte, sevalprocAttr, hx_1169, hw_1170] <;> rfl)))
    · refine AW.exit ?_
      refine seqQ.exit ?_
      refine loopQ.exit H ?_ <;> clear H <;> intro H
      try dsimp only at H
      refine blk0.here ?_
      refine blkQ.norm ?_
      refine AW.rend ?_
      try simp only [↓wk, ↓wl, ncs, evV, wrapBits_eq, ↓reduceIte, sevalprocAttr]
      exact loopQ.next H ((Le.none [0] [0, 3, 4] (by decide) (by simp only [f110_L1c, rrl, Option.map_some, vm, List.idxOf?_cons, List.idxOf?_nil, beq_self_eq_true, Option.map_none, List.getD_cons_zero, List.getD_cons_succ, ↓wk, ↓wl, nc, evV, wrapBits_eq, ↓reduceIte, sevalprocAttr] <;> rfl)))
  · refine AW.exit ?_
    refine seqQ.exit ?_
    refine loopQ.exit H ?_ <;> clear H <;> intro H
    try dsimp only at H
    refine blk0.here ?_
    refine seqQ.norm ?_
    refine AW.rseq ?_
    try simp only [↓wk, ↓wl, ncs, evV, wrapBits_eq, ↓reduceIte, sevalprocAttr]
    refine evTs_cstrr (xs := out_1124) (by rfl) (by rfl) (by rfl) ?_
    try simp only [↓wk, ↓wl, ncs, evV, wrapBits_eq, ↓reduceIte, sevalprocAttr]
    refine AW.ret ?_
    cases H
    exact hQ _ _ _ _ (.inr rfl) (by simp only [resVs, omap, resV, ↓wk, ↓wl, ncs, evV, wrapBits_eq, ↓reduceIte, sevalprocAttr]; rfl) (hand_plain (by rfl)) (by first | exact Or.inl rfl | exact Or.inr rfl)
noncomputable def f75_L1 (r_1076 : Ref57Receiver) (t_1077 : Int) : Lp (Int × (List ApiFrame)) ((List ApiFrame)) where
  body := fun (u_1181, out_1182) => (if (decide (u_1181 ≤ 8)) = true then (f74 r_1076 t_1077 u_1181).bind fun r_1187 => (if (decide (0 < ((r_1187.length : Nat) : Int))) = true then (f110 r_1187).bind fun r_1188 => (app? 24 out_1182 ([(ApiFrame.mk u_1181 r_1188)])).bind fun out_1189 => (some (.next ((IntKind.i64.wrap (u_1181 + 1)), out_1189))) else (some (.next ((IntKind.i64.wrap (u_1181 + 1)), out_1182)))) else (some (.brk out_1182)))
  cst := fun (u_1181, out_1182) => ⟨put (put (put (put (fun _ => .junk) 6 (.int .i64 u_1181)) 5 (.row 2 1 0 out_1182.length)) 2 (.ptr 0 0)) 1 (.int .i64 t_1077), [.cel [.sl 8 false (r_1076.fInputs.map eRef57Input)], .els 2 (out_1182.map eApiFrame)]⟩
theorem f75_L1c (r_1076 : Ref57Receiver) (t_1077 : Int) (u_1181 : Int) (out_1182 : (List ApiFrame)) : (f75_L1 r_1076 t_1077).cst (u_1181, out_1182) = ⟨put (put (put (put (fun _ => .junk) 6 (.int .i64 u_1181)) 5 (.row 2 1 0 out_1182.length)) 2 (.ptr 0 0)) 1 (.int .i64 t_1077), [.cel [.sl 8 false (r_1076.fInputs.map eRef57Input)], .els 2 (out_1182.map eApiFrame)]⟩ := rfl
def c75_0 : C := .cond (.t 9) (.skip) (.exit 0)
def c75_1 : C := .cond (.t 18) (.reg [iI 19 (.mv (.t 5)), iI 20 (.mv (.t 6)), iI 21 (.mv (.t 7)), iI 22 (.call (.c (.fn 110 [])) [(.t 21)]), iI 23 (.build [(1, (.int .i64 0)), (1, (.str []))] [(0, 0, (.t 20)), (1, 0, (.t 22))]), iI 24 (.mkslp 2 1 (.agg [(.int .i64 0), (.str [])]) [(0, (.t 23))]), iI 25 (.append 2 24 (.t 19) (.t 24)), iI 5 (.mv (.t 25))]) (.skip)
def c75_2 : C := .seq (.reg [iI 16 (.mv (.t 7)), iI 17 (.len 0 (.t 16)), iI 18 (.bin .gtr (.t 17) (.c (.int .i64 0)))]) c75_1
def c75_3 : C := .reg [iI 10 (.mv (.t 6)), iI 11 (.bin .add (.t 10) (.c (.int .i64 1))), iI 6 (.mv (.t 11))]
def c75_4 : C := .seq (.block 1 (.seq (.reg [iI 12 (.load 1 (.t 2)), iI 13 (.mv (.t 1)), iI 14 (.mv (.t 6)), iI 15 (.call (.c (.fn 74 [])) [(.t 12), (.t 13), (.t 14)]), iI 7 (.mv (.t 15))]) c75_2)) c75_3
def c75_5 : C := .block 0 (.loop (.seq (.seq (.reg [iI 8 (.mv (.t 6)), iI 9 (.bin .leq (.t 8) (.c (.int .i64 8)))]) c75_0) c75_4))
def c75_6 : C := .seq (.reg [iI 26 (.mv (.t 5)), iI 4 (.mv (.t 26))]) .ret
def c75_7 : C := .seq (.seq (.reg [iI 6 (.mv (.c (.int .i64 1)))]) c75_5) c75_6
def c75_8 : C := .seq (.reg [iI 5 (.mv (.c (.sl 2 true [])))]) c75_7
def ir75 : C := .seq (.reg [iI 2 (.box (.t 0)), iI 4 (.mv (.c (.sl 2 true [])))]) c75_8
theorem fd75 : fd? Try.prog 75 = some (27, [.slot 4], ir75) := by kernel_rfl
noncomputable def f75 (r_1076 : Ref57Receiver) (t_1077 : Int) : Option ((List ApiFrame)) :=
  (Lp.run (f75_L1 r_1076 t_1077) (1, [])).bind fun out_1186 => (some out_1186)
theorem f75_ok {r_1076 : Ref57Receiver} {t_1077 : Int} {r_ : (List ApiFrame)} (H : f75 r_1076 t_1077 = some r_) : Pure Try.prog 75 [.agg [.sl 8 false (r_1076.fInputs.map eRef57Input)], .int .i64 t_1077] (· = .fr 2 (r_.map eApiFrame)) := by
  refine Pure.walk3 fd75 (some 0) (Nat.le_of_ble_eq_true rfl) (by rfl) fun Q hQ => ?_
  simp only [f75] at H
  refine AW.rseq ?_
  try simp only [↓wk, ↓wl, nc, evV, wrapBits_eq, ↓reduceIte, sevalprocAttr]
  refine AW.rseq ?_
  try simp only [↓wk, ↓wl, nc, evV, wrapBits_eq, ↓reduceIte, sevalprocAttr]
  refine AW.sseq ?_
  refine AW.rseq ?_
  try simp only [↓wk, ↓wl, nc, evV, wrapBits_eq, ↓reduceIte, sevalprocAttr]
  refine AW.bend ?_
  refine AW.iter H ((Le.trans (Le.nilRow (i := 5) (e := 2) (by simp only [↓wk, ↓wl, nc, evV, wrapBits_eq, ↓reduceIte, sevalprocAttr])) (Le.none [0, 1] [1, 2, 5, 6] (by decide) (by simp only [f75_L1c, rrl, Option.map_some, vm, List.idxOf?_cons, List.idxOf?_nil, beq_self_eq_true, Option.map_none, List.getD_cons_zero, List.getD_cons_succ, ↓wk, ↓wl, nc, evV, wrapBits_eq, ↓reduceIte, sevalprocAttr] <;> rfl)))) ?_ <;> clear H
  rintro ⟨u_1181, out_1182⟩ x_ st0_ H hst_
  rw [f75_L1c] at hst_
  simp only [f75_L1] at H
  subst hst_
  refine AW.sseq ?_
  refine AW.rseq ?_
  try simp only [↓wk, ↓wl, nc, evV, wrapBits_eq, ↓reduceIte, sevalprocAttr]
  refine AW.ifc H (by rfl) ?_ ?_ <;> clear H <;> intro H
  · refine AW.skip ?_
    refine seqQ.norm ?_
    refine AW.bseq ?_
    refine AW.rseq ?_
    try simp only [↓wk, ↓wl, nc, evV, wrapBits_eq, ↓reduceIte, sevalprocAttr]
    refine evTs_pure hFn H (fun _ h => f74_im h) (by rfl) (by rfl) (by rfl) (by rfl) (fun _ => rfl) ?_ <;> clear H <;> intro r_1187 H
    try simp only [eL, ↓wk, ↓wl, nc, evV, wrapBits_eq, ↓reduceIte, sevalprocAttr]
    refine AW.rseq ?_
    try simp only [↓wk, ↓wl, nc, evV, wrapBits_eq, ↓reduceIte, sevalprocAttr]
    refine AW.ifc H (by rfl) ?_ ?_ <;> clear H <;> intro H
    · refine AW.rend ?_
      try simp only [↓wk, ↓wl, nc, evV, wrapBits_eq, ↓reduceIte, sevalprocAttr]
      refine evTs_pure hFn H (fun _ h => f110_ok h) (by rfl) (by rfl) (by rfl) (by rfl) (fun _ => rfl) ?_ <;> clear H <;> intro r_1188 H
      try simp only [eL, ↓wk, ↓wl, nc, evV, wrapBits_eq, ↓reduceIte, sevalprocAttr]
      refine evTs_app (enc := eApiFrame) H (by rfl) (by first | rfl | simp only [List.length_set]) (by rfl) (by rfl) ?_ <;> clear H <;> intro out_1189 H
      try simp only [↓wk, ↓wl, nc, evV, wrapBits_eq, ↓reduceIte, sevalprocAttr]
      refine blkQ.norm ?_
      refine AW.rend ?_
      try simp only [↓wk, ↓wl, nc, evV, wrapBits_eq, ↓reduceIte, sevalprocAttr]
      exact loopQ.next H ((Le.none [0, 2] [1, 2, 5, 6] (by decide) (by simp only [f75_L1c, rrl, Option.map_some, vm, List.idxOf?_cons, List.idxOf?_nil, beq_self_eq_true, Option.map_none, List.getD_cons_zero, List.getD_cons_succ, ↓wk, ↓wl, nc, evV, wrapBits_eq, ↓reduceIte, sevalprocAttr] <;> rfl)))
    · refine AW.skip ?_
      refine blkQ.norm ?_
      refine AW.rend ?_
      try simp only [↓wk, ↓wl, nc, evV, wrapBits_eq, ↓reduceIte, sevalprocAttr]
      exact loopQ.next H ((Le.none [0, 1] [1, 2, 5, 6] (by decide) (by simp only [f75_L1c, rrl, Option.map_some, vm, List.idxOf?_cons, List.idxOf?_nil, beq_self_eq_true, Option.map_none, List.getD_cons_zero, List.getD_cons_succ, ↓wk, ↓wl, nc, evV, wrapBits_eq, ↓reduceIte, sevalprocAttr] <;> rfl)))
  · refine AW.exit ?_
    refine seqQ.exit ?_
    refine loopQ.exit H ?_ <;> clear H <;> intro H
    try dsimp only at H
    refine blk0.here ?_
    refine seqQ.norm ?_
    refine AW.rseq ?_
    try simp only [↓wk, ↓wl, nc, evV, wrapBits_eq, ↓reduceIte, sevalprocAttr]
    refine AW.ret ?_
    cases H
    exact hQ _ _ _ _ (.inr rfl) (by simp only [resVs, omap, resV, ↓wk, ↓wl, nc, evV, wrapBits_eq, ↓reduceIte, sevalprocAttr]; rfl) (hand_1 (by rfl) (by simp) (enc_all _)) (by first | exact Or.inl rfl | exact Or.inr rfl)
theorem f75_im {r_1076 : Ref57Receiver} {t_1077 : Int} {r_ : (List ApiFrame)} (H : f75 r_1076 t_1077 = some r_) : Pure Try.prog 75 [.agg [.sl 8 false (r_1076.fInputs.map eRef57Input)], .int .i64 t_1077] (· = .sl 2 false (r_.map eApiFrame)) := (f75_ok H).unfr (by first | exact enc_fits _ | simp only [frFits, List.all_cons, List.all_nil, enc_fits, Bool.and_self])
def c31_0 : C := .cond (.t 11) (.seq (.reg [iI 12 (.mv (.t 6)), iI 4 (.mv (.c (.sl 2 true []))), iI 5 (.mv (.t 12))]) .ret) (.skip)
def c31_1 : C := .seq (.reg [iI 10 (.mv (.t 6)), iI 11 (.bin .neq (.t 10) (.c (.int .i64 0)))]) c31_0
def c31_2 : C := .seq (.reg [iI 13 (.load 1 (.t 2)), iI 14 (.mv (.t 1)), iI 15 (.call (.c (.fn 75 [])) [(.t 13), (.t 14)]), iI 4 (.mv (.t 15)), iI 5 (.mv (.c (.int .i64 0)))]) .ret
def c31_3 : C := .seq (.seq (.reg [iI 7 (.load 1 (.t 2)), iI 8 (.mv (.t 1)), iI 9 (.call (.c (.fn 61 [])) [(.t 7), (.t 8)]), iI 6 (.mv (.t 9))]) c31_1) c31_2
def ir31 : C := .seq (.reg [iI 2 (.box (.t 0)), iI 4 (.mv (.c (.sl 2 true []))), iI 5 (.mv (.c (.int .i64 0)))]) c31_3
theorem fd31 : fd? Try.prog 31 = some (16, [.slot 4, .slot 5], ir31) := by kernel_rfl
noncomputable def f31 (r_1073 : Ref57Receiver) (t_1074 : Int) : Option ((List ApiFrame) × Int) :=
  (f61 r_1073 t_1074).bind fun r_1075 => (if (decide (r_1075 ≠ 0)) = true then (some ([], r_1075)) else (f75 r_1073 t_1074).bind fun r_1190 => (some (r_1190, 0)))
theorem f31_ok {r_1073 : Ref57Receiver} {t_1074 : Int} {r_ : (List ApiFrame) × Int} (H : f31 r_1073 t_1074 = some r_) : Pure Try.prog 31 [.agg [.sl 8 false (r_1073.fInputs.map eRef57Input)], .int .i64 t_1074] (· = .tup [.sl 2 false (r_.1.map eApiFrame), .int .i64 r_.2]) := by
  refine Pure.walk3 fd31 none (Nat.le_of_ble_eq_true rfl) (by rfl) fun Q hQ => ?_
  simp only [f31] at H
  refine AW.rseq ?_
  try simp only [↓wk, ↓wl, nc, evV, wrapBits_eq, ↓reduceIte, sevalprocAttr]
  refine AW.sseq ?_
  refine AW.rseq ?_
  try simp only [↓wk, ↓wl, nc, evV, wrapBits_eq, ↓reduceIte, sevalprocAttr]
  refine evTs_pure hFn H (fun _ h => f61_ok h) (by rfl) (by rfl) (by rfl) (by rfl) (fun _ => rfl) ?_ <;> clear H <;> intro r_1075 H
  try simp only [eL, ↓wk, ↓wl, nc, evV, wrapBits_eq, ↓reduceIte, sevalprocAttr]
  refine AW.rseq ?_
  try simp only [↓wk, ↓wl, nc, evV, wrapBits_eq, ↓reduceIte, sevalprocAttr]
  refine AW.ifc H (by rfl) ?_ ?_ <;> clear H <;> intro H
  · refine AW.rseq ?_
    try simp only [↓wk, ↓wl, nc, evV, wrapBits_eq, ↓reduceIte, sevalprocAttr]
    refine AW.ret ?_
    refine seqQ.ret ?_
    cases H
    exact hQ _ _ _ _ (.inr rfl) (by simp only [resVs, omap, resV, ↓wk, ↓wl, nc, evV, wrapBits_eq, ↓reduceIte, sevalprocAttr]; rfl) (hand_plain (by rfl)) (by first | exact Or.inl rfl | exact Or.inr rfl)
  · refine AW.skip ?_
    refine seqQ.norm ?_
    refine AW.rseq ?_
    try simp only [↓wk, ↓wl, nc, evV, wrapBits_eq, ↓reduceIte, sevalprocAttr]
    refine evTs_pure hFn H (fun _ h => f75_im h) (by rfl) (by rfl) (by rfl) (by rfl) (fun _ => rfl) ?_ <;> clear H <;> intro r_1190 H
    try simp only [eL, ↓wk, ↓wl, nc, evV, wrapBits_eq, ↓reduceIte, sevalprocAttr]
    refine AW.ret ?_
    cases H
    exact hQ _ _ _ _ (.inr rfl) (by simp only [resVs, omap, resV, ↓wk, ↓wl, nc, evV, wrapBits_eq, ↓reduceIte, sevalprocAttr]; rfl) (hand_plain (by rfl)) (by first | exact Or.inl rfl | exact Or.inr rfl)
noncomputable def f32_L1 (s1_1193 : (List Int)) (s2_1194 : (List Int)) : Lp (Int) ((Unit) ⊕ (Unit)) where
  body := fun v_1200 => (if (decide (v_1200 < ((s1_1193.length : Nat) : Int))) = true then (at? s1_1193 v_1200).bind fun x_1203 => (at? s2_1194 v_1200).bind fun x_1204 => (if (decide (x_1203 ≠ x_1204)) = true then (some (.brk (Sum.inr ()))) else (some (.next (IntKind.i64.wrap (v_1200 + 1))))) else (some (.brk (Sum.inl ()))))
  cst := fun v_1200 => ⟨put (put (put (put (fun _ => .junk) 13 (.int .i64 v_1200)) 12 (.int .i64 ((s1_1193.length : Nat) : Int))) 1 (.sl 0 false (s2_1194.map (AV.int .u64)))) 0 (.sl 0 false (s1_1193.map (AV.int .u64))), []⟩
theorem f32_L1c (s1_1193 : (List Int)) (s2_1194 : (List Int)) (v_1200 : Int) : (f32_L1 s1_1193 s2_1194).cst v_1200 = ⟨put (put (put (put (fun _ => .junk) 13 (.int .i64 v_1200)) 12 (.int .i64 ((s1_1193.length : Nat) : Int))) 1 (.sl 0 false (s2_1194.map (AV.int .u64)))) 0 (.sl 0 false (s1_1193.map (AV.int .u64))), []⟩ := rfl
def c32_0 : C := .cond (.t 10) (.seq (.reg [iI 4 (.mv (.c (.bool false)))]) .ret) (.skip)
def c32_1 : C := .cond (.t 24) (.seq (.reg [iI 4 (.mv (.c (.bool false)))]) .ret) (.skip)
def c32_2 : C := .seq (.reg [iI 16 (.mv (.t 0)), iI 17 (.mv (.t 5)), iI 18 (.iaddr 0 (.t 16) (.t 17)), iI 19 (.load 0 (.t 18)), iI 20 (.mv (.t 1)), iI 21 (.mv (.t 5)), iI 22 (.iaddr 0 (.t 20) (.t 21)), iI 23 (.load 0 (.t 22)), iI 24 (.bin .neq (.t 19) (.t 23))]) c32_1
def c32_3 : C := .reg [iI 25 (.bin .add (.t 13) (.c (.int .i64 1))), iI 13 (.mv (.t 25))]
def c32_4 : C := .seq (.block 1 (.seq (.reg [iI 15 (.mv (.t 13)), iI 5 (.mv (.t 15))]) c32_2)) c32_3
def c32_5 : C := .seq (.cond (.t 14) (.skip) (.exit 0)) c32_4
def c32_6 : C := .block 0 (.loop (.seq (.reg [iI 14 (.bin .lss (.t 13) (.t 12))]) c32_5))
def c32_7 : C := .seq (.reg [iI 4 (.mv (.c (.bool true)))]) .ret
def c32_8 : C := .seq (.seq (.reg [iI 11 (.mv (.t 0)), iI 12 (.len 0 (.t 11)), iI 13 (.mv (.c (.int .i64 0)))]) c32_6) c32_7
def c32_9 : C := .seq (.seq (.reg [iI 6 (.mv (.t 0)), iI 7 (.len 0 (.t 6)), iI 8 (.mv (.t 1)), iI 9 (.len 0 (.t 8)), iI 10 (.bin .neq (.t 7) (.t 9))]) c32_0) c32_8
def ir32 : C := .seq (.reg [iI 4 (.mv (.c (.bool false)))]) c32_9
theorem fd32 : fd? Try.prog 32 = some (26, [.slot 4], ir32) := by kernel_rfl
noncomputable def f32 (s1_1193 : (List Int)) (s2_1194 : (List Int)) : Option (Bool) :=
  (if (decide (((s1_1193.length : Nat) : Int) ≠ ((s2_1194.length : Nat) : Int))) = true then (some false) else ((Lp.run (f32_L1 s1_1193 s2_1194) 0).bind fun r_ => match r_ with | (Sum.inl _) => (some true) | (Sum.inr _) => (some false)))
theorem f32_ok {s1_1193 : (List Int)} {s2_1194 : (List Int)} {r_ : Bool} (H : f32 s1_1193 s2_1194 = some r_) : Pure Try.prog 32 [.sl 0 false (s1_1193.map (AV.int .u64)), .sl 0 false (s2_1194.map (AV.int .u64))] (· = .bool r_) := by
  refine Pure.walk3 fd32 none (Nat.le_of_ble_eq_true rfl) (by rfl) fun Q hQ => ?_
  simp only [f32] at H
  refine AW.rseq ?_
  try simp only [↓wk, ↓wl, nc, evV, wrapBits_eq, ↓reduceIte, sevalprocAttr]
  refine AW.sseq ?_
  refine AW.rseq ?_
  try simp only [↓wk, ↓wl, nc, evV, wrapBits_eq, ↓reduceIte, sevalprocAttr]
  refine AW.ifc H (by rfl) ?_ ?_ <;> clear H <;> intro H
  · refine AW.rseq ?_
    try simp only [↓wk, ↓wl, nc, evV, wrapBits_eq, ↓reduceIte, sevalprocAttr]
    refine AW.ret ?_
    refine seqQ.ret ?_
    cases H
    exact hQ _ _ _ _ (.inr rfl) (by simp only [resVs, omap, resV, ↓wk, ↓wl, nc, evV, wrapBits_eq, ↓reduceIte, sevalprocAttr]; rfl) (hand_plain (by rfl)) (by first | exact Or.inl rfl | exact Or.inr rfl)
  · refine AW.skip ?_
    refine seqQ.norm ?_
    refine AW.sseq ?_
    refine AW.rseq ?_
    try simp only [↓wk, ↓wl, nc, evV, wrapBits_eq, ↓reduceIte, sevalprocAttr]
    refine AW.bend ?_
    refine AW.iter H ((Le.none [] [0, 1, 12, 13] (by decide) (by simp only [f32_L1c, rrl, Option.map_some, vm, List.idxOf?_cons, List.idxOf?_nil, beq_self_eq_true, Option.map_none, List.getD_cons_zero, List.getD_cons_succ, ↓wk, ↓wl, nc, evV, wrapBits_eq, ↓reduceIte, sevalprocAttr] <;> rfl))) ?_ <;> clear H
    rintro v_1200 x_ st0_ H hst_
    rw [f32_L1c] at hst_
    simp only [f32_L1] at H
    subst hst_
    refine AW.rseq ?_
    try simp only [↓wk, ↓wl, nc, evV, wrapBits_eq, ↓reduceIte, sevalprocAttr]
    refine AW.sseq ?_
    refine AW.ifc H (by rfl) ?_ ?_ <;> clear H <;> intro H
    · refine AW.skip ?_
      refine seqQ.norm ?_
      refine AW.bseq ?_
      refine AW.rseq ?_
      try simp only [↓wk, ↓wl, nc, evV, wrapBits_eq, ↓reduceIte, sevalprocAttr]
      refine AW.rseq ?_
      try simp only [↓wk, ↓wl, nc, evV, wrapBits_eq, ↓reduceIte, sevalprocAttr]
      refine evTs_at (enc := (AV.int .u64)) H (by rfl) (by rfl) ?_ <;> clear H <;> intro x_1203 H
      try simp only [↓wk, ↓wl, nc, evV, wrapBits_eq, ↓reduceIte, sevalprocAttr]
      refine evTs_at (enc := (AV.int .u64)) H (by rfl) (by rfl) ?_ <;> clear H <;> intro x_1204 H
      try simp only [↓wk, ↓wl, nc, evV, wrapBits_eq, ↓reduceIte, sevalprocAttr]
      refine AW.ifc H (by rfl) ?_ ?_ <;> clear H <;> intro H
      · refine AW.rseq ?_
        try simp only [↓wk, ↓wl, nc, evV, wrapBits_eq, ↓reduceIte, sevalprocAttr]
        refine AW.ret ?_
        refine blkQ.ret ?_
        refine loopQ.ret H ?_ <;> clear H <;> intro H
        try dsimp only at H
        refine blk0.ret ?_
        refine seqQ.ret ?_
        cases H
        exact hQ _ _ _ _ (.inr rfl) (by simp only [resVs, omap, resV, ↓wk, ↓wl, nc, evV, wrapBits_eq, ↓reduceIte, sevalprocAttr]; rfl) (hand_plain (by rfl)) (by first | exact Or.inl rfl | exact Or.inr rfl)
      · refine AW.skip ?_
        refine blkQ.norm ?_
        refine AW.rend ?_
        try simp only [↓wk, ↓wl, nc, evV, wrapBits_eq, ↓reduceIte, sevalprocAttr]
        exact loopQ.next H ((Le.none [] [0, 1, 12, 13] (by decide) (by simp only [f32_L1c, rrl, Option.map_some, vm, List.idxOf?_cons, List.idxOf?_nil, beq_self_eq_true, Option.map_none, List.getD_cons_zero, List.getD_cons_succ, ↓wk, ↓wl, nc, evV, wrapBits_eq, ↓reduceIte, sevalprocAttr] <;> rfl)))
    · refine AW.exit ?_
      refine seqQ.exit ?_
      refine loopQ.exit H ?_ <;> clear H <;> intro H
      try dsimp only at H
      refine blk0.here ?_
      refine seqQ.norm ?_
      refine AW.rseq ?_
      try simp only [↓wk, ↓wl, nc, evV, wrapBits_eq, ↓reduceIte, sevalprocAttr]
      refine AW.ret ?_
      cases H
      exact hQ _ _ _ _ (.inr rfl) (by simp only [resVs, omap, resV, ↓wk, ↓wl, nc, evV, wrapBits_eq, ↓reduceIte, sevalprocAttr]; rfl) (hand_plain (by rfl)) (by first | exact Or.inl rfl | exact Or.inr rfl)
noncomputable def f33_L1 (a_1206 : (List ApiFrame)) (b_1207 : (List ApiFrame)) : Lp (Int) ((Unit) ⊕ (Unit)) where
  body := fun i_1213 => (if (decide (i_1213 < ((a_1206.length : Nat) : Int))) = true then (at? a_1206 i_1213).bind fun x_1216 => (at? b_1207 i_1213).bind fun x_1217 => (if (!((x_1216.fUniverse == x_1217.fUniverse) && ((x_1216.fSlots == x_1217.fSlots) && true))) = true then (some (.brk (Sum.inr ()))) else (some (.next (IntKind.i64.wrap (i_1213 + 1))))) else (some (.brk (Sum.inl ()))))
  cst := fun i_1213 => ⟨put (put (put (fun _ => .junk) 5 (.int .i64 i_1213)) 1 (.sl 2 false (b_1207.map eApiFrame))) 0 (.sl 2 false (a_1206.map eApiFrame)), []⟩
theorem f33_L1c (a_1206 : (List ApiFrame)) (b_1207 : (List ApiFrame)) (i_1213 : Int) : (f33_L1 a_1206 b_1207).cst i_1213 = ⟨put (put (put (fun _ => .junk) 5 (.int .i64 i_1213)) 1 (.sl 2 false (b_1207.map eApiFrame))) 0 (.sl 2 false (a_1206.map eApiFrame)), []⟩ := rfl
def c33_0 : C := .cond (.t 10) (.seq (.reg [iI 4 (.mv (.c (.bool false)))]) .ret) (.skip)
def c33_1 : C := .cond (.t 14) (.skip) (.exit 0)
def c33_2 : C := .cond (.t 25) (.seq (.reg [iI 4 (.mv (.c (.bool false)))]) .ret) (.skip)
def c33_3 : C := .reg [iI 15 (.mv (.t 5)), iI 16 (.bin .add (.t 15) (.c (.int .i64 1))), iI 5 (.mv (.t 16))]
def c33_4 : C := .seq (.block 1 (.seq (.reg [iI 17 (.mv (.t 0)), iI 18 (.mv (.t 5)), iI 19 (.iaddr 2 (.t 17) (.t 18)), iI 20 (.load 2 (.t 19)), iI 21 (.mv (.t 1)), iI 22 (.mv (.t 5)), iI 23 (.iaddr 2 (.t 21) (.t 22)), iI 24 (.load 2 (.t 23)), iI 25 (.eqs true [0, 1] (.t 20) (.t 24))]) c33_2)) c33_3
def c33_5 : C := .block 0 (.loop (.seq (.seq (.reg [iI 11 (.mv (.t 5)), iI 12 (.mv (.t 0)), iI 13 (.len 0 (.t 12)), iI 14 (.bin .lss (.t 11) (.t 13))]) c33_1) c33_4))
def c33_6 : C := .seq (.reg [iI 4 (.mv (.c (.bool true)))]) .ret
def c33_7 : C := .seq (.seq (.reg [iI 5 (.mv (.c (.int .i64 0)))]) c33_5) c33_6
def c33_8 : C := .seq (.seq (.reg [iI 6 (.mv (.t 0)), iI 7 (.len 0 (.t 6)), iI 8 (.mv (.t 1)), iI 9 (.len 0 (.t 8)), iI 10 (.bin .neq (.t 7) (.t 9))]) c33_0) c33_7
def ir33 : C := .seq (.reg [iI 4 (.mv (.c (.bool false)))]) c33_8
theorem fd33 : fd? Try.prog 33 = some (26, [.slot 4], ir33) := by kernel_rfl
noncomputable def f33 (a_1206 : (List ApiFrame)) (b_1207 : (List ApiFrame)) : Option (Bool) :=
  (if (decide (((a_1206.length : Nat) : Int) ≠ ((b_1207.length : Nat) : Int))) = true then (some false) else ((Lp.run (f33_L1 a_1206 b_1207) 0).bind fun r_ => match r_ with | (Sum.inl _) => (some true) | (Sum.inr _) => (some false)))
theorem f33_ok {a_1206 : (List ApiFrame)} {b_1207 : (List ApiFrame)} {r_ : Bool} (H : f33 a_1206 b_1207 = some r_) : Pure Try.prog 33 [.sl 2 false (a_1206.map eApiFrame), .sl 2 false (b_1207.map eApiFrame)] (· = .bool r_) := by
  refine Pure.walk3 fd33 none (Nat.le_of_ble_eq_true rfl) (by rfl) fun Q hQ => ?_
  simp only [f33] at H
  refine AW.rseq ?_
  try simp only [↓wk, ↓wl, nc, evV, wrapBits_eq, ↓reduceIte, sevalprocAttr]
  refine AW.sseq ?_
  refine AW.rseq ?_
  try simp only [↓wk, ↓wl, nc, evV, wrapBits_eq, ↓reduceIte, sevalprocAttr]
  refine AW.ifc H (by rfl) ?_ ?_ <;> clear H <;> intro H
  · refine AW.rseq ?_
    try simp only [↓wk, ↓wl, nc, evV, wrapBits_eq, ↓reduceIte, sevalprocAttr]
    refine AW.ret ?_
    refine seqQ.ret ?_
    cases H
    exact hQ _ _ _ _ (.inr rfl) (by simp only [resVs, omap, resV, ↓wk, ↓wl, nc, evV, wrapBits_eq, ↓reduceIte, sevalprocAttr]; rfl) (hand_plain (by rfl)) (by first | exact Or.inl rfl | exact Or.inr rfl)
  · refine AW.skip ?_
    refine seqQ.norm ?_
    refine AW.sseq ?_
    refine AW.rseq ?_
    try simp only [↓wk, ↓wl, nc, evV, wrapBits_eq, ↓reduceIte, sevalprocAttr]
    refine AW.bend ?_
    refine AW.iter H ((Le.none [] [0, 1, 5] (by decide) (by simp only [f33_L1c, rrl, Option.map_some, vm, List.idxOf?_cons, List.idxOf?_nil, beq_self_eq_true, Option.map_none, List.getD_cons_zero, List.getD_cons_succ, ↓wk, ↓wl, nc, evV, wrapBits_eq, ↓reduceIte, sevalprocAttr] <;> rfl))) ?_ <;> clear H
    rintro i_1213 x_ st0_ H hst_
    rw [f33_L1c] at hst_
    simp only [f33_L1] at H
    subst hst_
    refine AW.sseq ?_
    refine AW.rseq ?_
    try simp only [↓wk, ↓wl, nc, evV, wrapBits_eq, ↓reduceIte, sevalprocAttr]
    refine AW.ifc H (by rfl) ?_ ?_ <;> clear H <;> intro H
    · refine AW.skip ?_
      refine seqQ.norm ?_
      refine AW.bseq ?_
      refine AW.rseq ?_
      try simp only [↓wk, ↓wl, nc, evV, wrapBits_eq, ↓reduceIte, sevalprocAttr]
      refine evTs_at (enc := eApiFrame) H (by rfl) (by rfl) ?_ <;> clear H <;> intro x_1216 H
      try simp only [eApiFrame, eL, ↓wk, ↓wl, nc, evV, wrapBits_eq, ↓reduceIte, sevalprocAttr]
      refine evTs_at (enc := eApiFrame) H (by rfl) (by rfl) ?_ <;> clear H <;> intro x_1217 H
      try simp only [eApiFrame, eL, ↓wk, ↓wl, nc, evV, wrapBits_eq, ↓reduceIte, sevalprocAttr]
      refine rest_neqs (by rfl) ?_
      try simp only [↓wk, ↓wl, nc, evV, wrapBits_eq, ↓reduceIte, sevalprocAttr]
      refine AW.ifc H (by rfl) ?_ ?_ <;> clear H <;> intro H
      · refine AW.rseq ?_
        try simp only [↓wk, ↓wl, nc, evV, wrapBits_eq, ↓reduceIte, sevalprocAttr]
        refine AW.ret ?_
        refine blkQ.ret ?_
        refine loopQ.ret H ?_ <;> clear H <;> intro H
        try dsimp only at H
        refine blk0.ret ?_
        refine seqQ.ret ?_
        cases H
        exact hQ _ _ _ _ (.inr rfl) (by simp only [resVs, omap, resV, ↓wk, ↓wl, nc, evV, wrapBits_eq, ↓reduceIte, sevalprocAttr]; rfl) (hand_plain (by rfl)) (by first | exact Or.inl rfl | exact Or.inr rfl)
      · refine AW.skip ?_
        refine blkQ.norm ?_
        refine AW.rend ?_
        try simp only [↓wk, ↓wl, nc, evV, wrapBits_eq, ↓reduceIte, sevalprocAttr]
        exact loopQ.next H ((Le.none [] [0, 1, 5] (by decide) (by simp only [f33_L1c, rrl, Option.map_some, vm, List.idxOf?_cons, List.idxOf?_nil, beq_self_eq_true, Option.map_none, List.getD_cons_zero, List.getD_cons_succ, ↓wk, ↓wl, nc, evV, wrapBits_eq, ↓reduceIte, sevalprocAttr] <;> rfl)))
    · refine AW.exit ?_
      refine seqQ.exit ?_
      refine loopQ.exit H ?_ <;> clear H <;> intro H
      try dsimp only at H
      refine blk0.here ?_
      refine seqQ.norm ?_
      refine AW.rseq ?_
      try simp only [↓wk, ↓wl, nc, evV, wrapBits_eq, ↓reduceIte, sevalprocAttr]
      refine AW.ret ?_
      cases H
      exact hQ _ _ _ _ (.inr rfl) (by simp only [resVs, omap, resV, ↓wk, ↓wl, nc, evV, wrapBits_eq, ↓reduceIte, sevalprocAttr]; rfl) (hand_plain (by rfl)) (by first | exact Or.inl rfl | exact Or.inr rfl)
def c6_0 : C := .cond (.t 17) (.seq (.reg [iI 18 (.call (.c (.fn 15 [])) []), iI 6 (.mv (.t 18))]) .ret) (.skip)
def c6_1 : C := .seq (.reg [iI 47 (.call (.c (.fn 15 [])) []), iI 48 (.mv (.t 47)), iG (some 49) 48 true (.mv (.t 7)), iG (some 50) 48 true (.mv (.t 9)), iG (some 51) 48 true (.call (.c (.fn 32 [])) [(.t 49), (.t 50)]), iI 52 (.pick (.t 48) (.t 51) (.c (.bool false))), iI 53 (.mv (.t 52)), iG (some 54) 53 true (.mv (.t 8)), iG (some 55) 53 true (.mv (.t 10)), iG (some 56) 53 true (.bin .eql (.t 54) (.t 55)), iI 57 (.pick (.t 53) (.t 56) (.c (.bool false))), iI 58 (.mv (.t 57)), iG (some 59) 58 true (.mv (.t 11)), iG (some 60) 58 true (.mv (.t 13)), iG (some 61) 58 true (.call (.c (.fn 33 [])) [(.t 59), (.t 60)]), iI 62 (.pick (.t 58) (.t 61) (.c (.bool false))), iI 63 (.mv (.t 62)), iG (some 64) 63 true (.mv (.t 12)), iG (some 65) 63 true (.mv (.t 14)), iG (some 66) 63 true (.bin .eql (.t 64) (.t 65)), iI 67 (.pick (.t 63) (.t 66) (.c (.bool false))), iI 6 (.mv (.t 67))]) .ret
def c6_2 : C := .seq (.reg [iI 41 (.load 1 (.t 3)), iI 42 (.call (.c (.fn 18 [])) [(.t 41)]), iI 43 (.mv (.t 1)), iI 44 (.call (.c (.fn 31 [])) [(.t 42), (.t 43)]), iI 40 (.mv (.t 44)), iI 45 (.ext (.t 40) 0), iI 46 (.ext (.t 40) 1), iI 13 (.mv (.t 45)), iI 14 (.mv (.t 46))]) c6_1
def c6_3 : C := .seq (.reg [iI 35 (.load 1 (.t 3)), iI 36 (.mv (.t 1)), iI 37 (.call (.c (.fn 30 [])) [(.t 35), (.t 36)]), iI 34 (.mv (.t 37)), iI 38 (.ext (.t 34) 0), iI 39 (.ext (.t 34) 1), iI 11 (.mv (.t 38)), iI 12 (.mv (.t 39))]) c6_2
def c6_4 : C := .seq (.reg [iI 27 (.load 1 (.t 3)), iI 28 (.call (.c (.fn 18 [])) [(.t 27)]), iI 29 (.mv (.t 1)), iI 30 (.mv (.t 2)), iI 31 (.call (.c (.fn 29 [])) [(.t 28), (.t 29), (.t 30)]), iI 26 (.mv (.t 31)), iI 32 (.ext (.t 26) 0), iI 33 (.ext (.t 26) 1), iI 9 (.mv (.t 32)), iI 10 (.mv (.t 33))]) c6_3
def c6_5 : C := .seq (.reg [iI 20 (.load 1 (.t 3)), iI 21 (.mv (.t 1)), iI 22 (.mv (.t 2)), iI 23 (.call (.c (.fn 28 [])) [(.t 20), (.t 21), (.t 22)]), iI 19 (.mv (.t 23)), iI 24 (.ext (.t 19) 0), iI 25 (.ext (.t 19) 1), iI 7 (.mv (.t 24)), iI 8 (.mv (.t 25))]) c6_4
def c6_6 : C := .seq (.seq (.reg [iI 15 (.load 1 (.t 3)), iI 16 (.call (.c (.fn 14 [])) [(.t 15)]), iI 17 (.un .not (.t 16))]) c6_0) c6_5
def ir6 : C := .seq (.reg [iI 3 (.box (.t 0)), iI 6 (.mv (.c (.bool false)))]) c6_6
theorem fd6 : fd? Try.prog 6 = some (68, [.slot 6], ir6) := by kernel_rfl
noncomputable def f6 (r_870 : ReceiverReceiver) (t_871 : Int) (universe_872 : Int) : Option (Bool) :=
  (f14 r_870).bind fun r_875 => (if (!r_875) = true then (f15).bind fun r_876 => (some r_876) else (f28 r_870 t_871 universe_872).bind fun r_898 => (f18 r_870).bind fun r_899 => (f29 r_899 t_871 universe_872).bind fun r_946 => (f30 r_870 t_871).bind fun r_947 => (f18 r_870).bind fun r_948 => (f31 r_948 t_871).bind fun r_1191 => (f15).bind fun r_1192 => (if r_1192 = true then (f32 r_898.1 r_946.1).bind fun r_1205 => (if r_1205 = true then (if (decide (r_898.2 = r_946.2)) = true then (f33 r_947.1 r_1191.1).bind fun r_1218 => (if r_1218 = true then (some (decide (r_947.2 = r_1191.2))) else (some false)) else (some false)) else (some false)) else (some false)))
theorem f6_ok {r_870 : ReceiverReceiver} {t_871 : Int} {universe_872 : Int} {r_ : Bool} (H : f6 r_870 t_871 universe_872 = some r_) : Pure Try.prog 6 [.agg [.sl 8 false (r_870.fInputs.map eReceiverInput)], .int .i64 t_871, .int .i64 universe_872] (· = .bool r_) := by
  refine Pure.walk3 fd6 none (Nat.le_of_ble_eq_true rfl) (by rfl) fun Q hQ => ?_
  simp only [f6] at H
  refine AW.rseq ?_
  try simp only [↓wk, ↓wl, nc, evV, wrapBits_eq, ↓reduceIte, sevalprocAttr]
  refine AW.sseq ?_
  refine AW.rseq ?_
  try simp only [↓wk, ↓wl, nc, evV, wrapBits_eq, ↓reduceIte, sevalprocAttr]
  refine evTs_pure hFn H (fun _ h => f14_ok h) (by rfl) (by rfl) (by rfl) (by rfl) (fun _ => rfl) ?_ <;> clear H <;> intro r_875 H
  try simp only [eL, ↓wk, ↓wl, nc, evV, wrapBits_eq, ↓reduceIte, sevalprocAttr]
  refine AW.ifc H (by rfl) ?_ ?_ <;> clear H <;> intro H
  · refine AW.rseq ?_
    try simp only [↓wk, ↓wl, nc, evV, wrapBits_eq, ↓reduceIte, sevalprocAttr]
    refine evTs_pure hFn H (fun _ h => f15_ok h) (by rfl) (by rfl) (by rfl) (by rfl) (fun _ => rfl) ?_ <;> clear H <;> intro r_876 H
    try simp only [eL, ↓wk, ↓wl, nc, evV, wrapBits_eq, ↓reduceIte, sevalprocAttr]
    refine AW.ret ?_
    refine seqQ.ret ?_
    cases H
    exact hQ _ _ _ _ (.inr rfl) (by simp only [resVs, omap, resV, ↓wk, ↓wl, nc, evV, wrapBits_eq, ↓reduceIte, sevalprocAttr]; rfl) (hand_plain (by rfl)) (by first | exact Or.inl rfl | exact Or.inr rfl)
  · refine AW.skip ?_
    refine seqQ.norm ?_
    refine AW.rseq ?_
    try simp only [↓wk, ↓wl, nc, evV, wrapBits_eq, ↓reduceIte, sevalprocAttr]
    refine evTs_pure hFn H (fun _ h => f28_im h) (by rfl) (by rfl) (by rfl) (by rfl) (fun _ => rfl) ?_ <;> clear H <;> intro r_898 H
    try simp only [eL, ↓wk, ↓wl, nc, evV, wrapBits_eq, ↓reduceIte, sevalprocAttr]
    refine AW.rseq ?_
    try simp only [↓wk, ↓wl, nc, evV, wrapBits_eq, ↓reduceIte, sevalprocAttr]
    refine evTs_pure hFn H (fun _ h => f18_ok h) (by rfl) (by rfl) (by rfl) (by rfl) (fun _ => rfl) ?_ <;> clear H <;> intro r_899 H
    try simp only [eL, eRef57Receiver, ↓wk, ↓wl, nc, evV, wrapBits_eq, ↓reduceIte, sevalprocAttr]
    refine evTs_pure hFn H (fun _ h => f29_im h) (by rfl) (by rfl) (by rfl) (by rfl) (fun _ => rfl) ?_ <;> clear H <;> intro r_946 H
    try simp only [eL, ↓wk, ↓wl, nc, evV, wrapBits_eq, ↓reduceIte, sevalprocAttr]
    refine AW.rseq ?_
    try simp only [↓wk, ↓wl, nc, evV, wrapBits_eq, ↓reduceIte, sevalprocAttr]
    refine evTs_pure hFn H (fun _ h => f30_im h) (by rfl) (by rfl) (by rfl) (by rfl) (fun _ => rfl) ?_ <;> clear H <;> intro r_947 H
    try simp only [eL, ↓wk, ↓wl, nc, evV, wrapBits_eq, ↓reduceIte, sevalprocAttr]
    refine AW.rseq ?_
    try simp only [↓wk, ↓wl, nc, evV, wrapBits_eq, ↓reduceIte, sevalprocAttr]
    refine evTs_pure hFn H (fun _ h => f18_ok h) (by rfl) (by rfl) (by rfl) (by rfl) (fun _ => rfl) ?_ <;> clear H <;> intro r_948 H
    try simp only [eL, eRef57Receiver, ↓wk, ↓wl, nc, evV, wrapBits_eq, ↓reduceIte, sevalprocAttr]
    refine evTs_pure hFn H (fun _ h => f31_ok h) (by rfl) (by rfl) (by rfl) (by rfl) (fun _ => rfl) ?_ <;> clear H <;> intro r_1191 H
    try simp only [eL, ↓wk, ↓wl, nc, evV, wrapBits_eq, ↓reduceIte, sevalprocAttr]
    refine AW.rseq ?_
    try simp only [↓wk, ↓wl, nc, evV, wrapBits_eq, ↓reduceIte, sevalprocAttr]
    refine evTs_pure hFn H (fun _ h => f15_ok h) (by rfl) (by rfl) (by rfl) (by rfl) (fun _ => rfl) ?_ <;> clear H <;> intro r_1192 H
    try simp only [eL, ↓wk, ↓wl, nc, evV, wrapBits_eq, ↓reduceIte, sevalprocAttr]
    refine evTs_ifg H (by rfl) ?_ ?_ <;> clear H <;> intro H
    · try simp only [↓wk, ↓wl, nc, evV, wrapBits_eq, ↓reduceIte, sevalprocAttr]
      refine evTs_pure hFn H (fun _ h => f32_ok h) (by rfl) (by rfl) (by rfl) (by rfl) (fun _ => rfl) ?_ <;> clear H <;> intro r_1205 H
      try simp only [eL, ↓wk, ↓wl, nc, evV, wrapBits_eq, ↓reduceIte, sevalprocAttr]
      refine evTs_ifg H (by rfl) ?_ ?_ <;> clear H <;> intro H
      · try simp only [↓wk, ↓wl, nc, evV, wrapBits_eq, ↓reduceIte, sevalprocAttr]
        refine evTs_ifg H (by rfl) ?_ ?_ <;> clear H <;> intro H
        · try simp only [↓wk, ↓wl, nc, evV, wrapBits_eq, ↓reduceIte, sevalprocAttr]
          refine evTs_pure hFn H (fun _ h => f33_ok h) (by rfl) (by rfl) (by rfl) (by rfl) (fun _ => rfl) ?_ <;> clear H <;> intro r_1218 H
          try simp only [eL, ↓wk, ↓wl, nc, evV, wrapBits_eq, ↓reduceIte, sevalprocAttr]
          refine evTs_ifg H (by rfl) ?_ ?_ <;> clear H <;> intro H
          · try simp only [↓wk, ↓wl, nc, evV, wrapBits_eq, ↓reduceIte, sevalprocAttr]
            refine AW.ret ?_
            cases H
            exact hQ _ _ _ _ (.inr rfl) (by simp only [resVs, omap, resV, ↓wk, ↓wl, nc, evV, wrapBits_eq, ↓reduceIte, sevalprocAttr]; rfl) (hand_plain (by rfl)) (by first | exact Or.inl rfl | exact Or.inr rfl)
          · try simp only [↓wk, ↓wl, nc, evV, wrapBits_eq, ↓reduceIte, sevalprocAttr]
            refine AW.ret ?_
            cases H
            exact hQ _ _ _ _ (.inr rfl) (by simp only [resVs, omap, resV, ↓wk, ↓wl, nc, evV, wrapBits_eq, ↓reduceIte, sevalprocAttr]; rfl) (hand_plain (by rfl)) (by first | exact Or.inl rfl | exact Or.inr rfl)
        · try simp only [↓wk, ↓wl, nc, evV, wrapBits_eq, ↓reduceIte, sevalprocAttr]
          refine AW.ret ?_
          cases H
          exact hQ _ _ _ _ (.inr rfl) (by simp only [resVs, omap, resV, ↓wk, ↓wl, nc, evV, wrapBits_eq, ↓reduceIte, sevalprocAttr]; rfl) (hand_plain (by rfl)) (by first | exact Or.inl rfl | exact Or.inr rfl)
      · try simp only [↓wk, ↓wl, nc, evV, wrapBits_eq, ↓reduceIte, sevalprocAttr]
        refine AW.ret ?_
        cases H
        exact hQ _ _ _ _ (.inr rfl) (by simp only [resVs, omap, resV, ↓wk, ↓wl, nc, evV, wrapBits_eq, ↓reduceIte, sevalprocAttr]; rfl) (hand_plain (by rfl)) (by first | exact Or.inl rfl | exact Or.inr rfl)
    · try simp only [↓wk, ↓wl, nc, evV, wrapBits_eq, ↓reduceIte, sevalprocAttr]
      refine AW.ret ?_
      cases H
      exact hQ _ _ _ _ (.inr rfl) (by simp only [resVs, omap, resV, ↓wk, ↓wl, nc, evV, wrapBits_eq, ↓reduceIte, sevalprocAttr]; rfl) (hand_plain (by rfl)) (by first | exact Or.inl rfl | exact Or.inr rfl)
end Go.Proofs.Ytgfohogbechkkaa
