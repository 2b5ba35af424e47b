import Derived.Test.YtgfohogbechkkaaX2
import Derived.Test.YtgfohogbechkkaaM5
import Derived.Test.YtgfohogbechkkaaM6
import Derived.Test.YtgfohogbechkkaaProg
import Derived.KernelRfl
namespace Go.Proofs.Ytgfohogbechkkaa
open Go Go.Ab

set_option maxHeartbeats 1000000
set_option maxRecDepth 4000
set_option linter.unusedSimpArgs false
set_option linter.unusedVariables false
noncomputable def f28_L1 (r_996 : (List ReceiverInput)) : Lp (Int × (List Int)) ((List Int)) where
  body := fun (v_1005, out_1006) => (if (decide (v_1005 < ((r_996.length : Nat) : Int))) = true then (at? r_996 v_1005).bind fun x_1010 => (app? 8 out_1006 ([x_1010.fSource])).bind fun out_1011 => (some (.next ((IntKind.i64.wrap (v_1005 + 1)), out_1011))) else (some (.brk out_1006)))
  cst := fun (v_1005, out_1006) => ⟨put (put (put (put (fun _ => .junk) 29 (.int .i64 v_1005)) 28 (.int .i64 ((r_996.length : Nat) : Int))) 27 (.sl 8 false (r_996.map eReceiverInput))) 9 (.row 0 0 0 out_1006.length), [.els 0 (out_1006.map (AV.int .u64))]⟩
theorem f28_L1c (r_996 : (List ReceiverInput)) (v_1005 : Int) (out_1006 : (List Int)) : (f28_L1 r_996).cst (v_1005, out_1006) = ⟨put (put (put (put (fun _ => .junk) 29 (.int .i64 v_1005)) 28 (.int .i64 ((r_996.length : Nat) : Int))) 27 (.sl 8 false (r_996.map eReceiverInput))) 9 (.row 0 0 0 out_1006.length), [.els 0 (out_1006.map (AV.int .u64))]⟩ := rfl
def c28_0 : C := .cond (.t 16) (.seq (.reg [iI 17 (.mv (.t 8)), iI 6 (.mv (.c (.sl 0 true []))), iI 7 (.mv (.t 17))]) .ret) (.skip)
def c28_1 : C := .seq (.reg [iI 15 (.mv (.t 8)), iI 16 (.bin .neq (.t 15) (.c (.int .i64 0)))]) c28_0
def c28_2 : C := .cond (.t 23) (.seq (.reg [iI 6 (.mv (.c (.sl 0 true []))), iI 7 (.mv (.c (.int .i64 2)))]) .ret) (.skip)
def c28_3 : C := .reg [iI 33 (.mv (.t 9)), iI 34 (.faddr 1 (.t 11)), iI 35 (.load 0 (.t 34)), iI 36 (.mkslp 0 1 (.int .u64 0) [(0, (.t 35))]), iI 37 (.append 0 8 (.t 33) (.t 36)), iI 9 (.mv (.t 37))]
def c28_4 : C := .reg [iI 38 (.bin .add (.t 29) (.c (.int .i64 1))), iI 29 (.mv (.t 38))]
def c28_5 : C := .seq (.block 1 (.seq (.reg [iI 31 (.iaddr 8 (.t 27) (.t 29)), iI 32 (.load 8 (.t 31)), iI 11 (.alloc [(1, (.int .i64 0)), (1, (.int .u64 0)), (1, (.int .i64 0)), (1, (.int .i64 0)), (1, (.int .i64 0)), (1, (.int .i64 0)), (1, (.str [])), (1, (.str []))]), iN (.store 8 (.t 11) (.t 32))]) c28_3)) c28_4
def c28_6 : C := .seq (.cond (.t 30) (.skip) (.exit 0)) c28_5
def c28_7 : C := .block 0 (.loop (.seq (.reg [iI 30 (.bin .lss (.t 29) (.t 28))]) c28_6))
def c28_8 : C := .seq (.reg [iI 39 (.mv (.t 9)), iI 6 (.mv (.t 39)), iI 7 (.mv (.c (.int .i64 0)))]) .ret
def c28_9 : C := .seq (.seq (.reg [iI 24 (.load 1 (.t 3)), iI 25 (.mv (.t 1)), iI 26 (.mv (.t 2)), iI 27 (.call (.c (.fn 73 [])) [(.t 24), (.t 25), (.t 26)]), iI 28 (.len 0 (.t 27)), iI 29 (.mv (.c (.int .i64 0)))]) c28_7) c28_8
def c28_10 : C := .seq (.reg [iI 9 (.mv (.c (.sl 0 true [])))]) c28_9
def c28_11 : C := .seq (.seq (.reg [iI 18 (.mv (.t 2)), iI 19 (.bin .lss (.t 18) (.c (.int .i64 1))), iI 20 (.mv (.t 19)), iG (some 21) 20 false (.mv (.t 2)), iG (some 22) 20 false (.bin .gtr (.t 21) (.c (.int .i64 8))), iI 23 (.pick (.t 20) (.c (.bool true)) (.t 22))]) c28_2) c28_10
def c28_12 : C := .seq (.seq (.reg [iI 12 (.load 1 (.t 3)), iI 13 (.mv (.t 1)), iI 14 (.call (.c (.fn 58 [])) [(.t 12), (.t 13)]), iI 8 (.mv (.t 14))]) c28_1) c28_11
def ir28 : C := .seq (.reg [iI 3 (.box (.t 0)), iI 6 (.mv (.c (.sl 0 true []))), iI 7 (.mv (.c (.int .i64 0)))]) c28_12
theorem fd28 : fd? Try.prog 28 = some (40, [.slot 6, .slot 7], ir28) := by kernel_rfl
noncomputable def f28 (r_991 : ReceiverReceiver) (t_992 : Int) (universe_993 : Int) : Option ((List Int) × Int) :=
  (f58 r_991 t_992).bind fun r_995 => (if (decide (r_995 ≠ 0)) = true then (some ([], r_995)) else (if (decide (universe_993 < 1)) = true then (some ([], 2)) else (if (decide (8 < universe_993)) = true then (some ([], 2)) else (f73 r_991 t_992 universe_993).bind fun r_996 => (Lp.run (f28_L1 r_996) (0, [])).bind fun out_1009 => (some (out_1009, 0)))))
theorem f28_ok {r_991 : ReceiverReceiver} {t_992 : Int} {universe_993 : Int} {r_ : (List Int) × Int} (H : f28 r_991 t_992 universe_993 = some r_) : Pure Try.prog 28 [.agg [.sl 8 false (r_991.fInputs.map eReceiverInput)], .int .i64 t_992, .int .i64 universe_993] (· = .tup [.fr 0 (r_.1.map (AV.int .u64)), .int .i64 r_.2]) := by
 refine Pure.walk3 fd28 (some 0) (Nat.le_of_ble_eq_true rfl) (by rfl) fun Q hQ => ?_
 simp only [f28] at H
 refine AW.rseq ?_
 try simp only [↓wk, ↓wl, nq, evV, ↓reduceIte, sevalprocAttr]
 refine AW.sseq ?_
 refine AW.rseq ?_
 try simp only [↓wk, ↓wl, nq, evV, ↓reduceIte, sevalprocAttr]
 refine evTs_pure hFn H (fun _ h => f58_ok h) (by rfl) (by rfl) (by rfl) (by rfl) (fun _ => rfl) ?_ <;> clear H <;> intro r_995 H
 try simp only [eL, ↓wk, ↓wl, nq, evV, ↓reduceIte, sevalprocAttr]
 refine AW.rseq ?_
 try simp only [↓wk, ↓wl, nq, evV, ↓reduceIte, sevalprocAttr]
 refine AW.ifc H (by rfl) ?_ ?_ <;> clear H <;> intro H
 ·refine AW.rseq ?_
  try simp only [↓wk, ↓wl, nq, evV, ↓reduceIte, sevalprocAttr]
  refine AW.ret ?_
  refine seqQ.ret ?_
  cases H
  exact hQ _ _ _ _ (.inr rfl) (by simp only [resVs, omap, resV, ↓wk, ↓wl, nq, evV, ↓reduceIte, sevalprocAttr]; rfl) (hand_k0 (by rfl) (by rfl)) (by first | exact Or.inl rfl | exact Or.inr rfl)
 ·refine AW.skip ?_
  refine seqQ.norm ?_
  refine AW.sseq ?_
  refine AW.rseq ?_
  try simp only [↓wk, ↓wl, nq, evV, ↓reduceIte, sevalprocAttr]
  refine evTs_ifg H (by rfl) ?_ ?_ <;> clear H <;> intro H
  ·try simp only [↓wk, ↓wl, nq, evV, ↓reduceIte, sevalprocAttr]
   refine AW.ift (by rfl) ?_
   refine AW.rseq ?_
   try simp only [↓wk, ↓wl, nq, evV, ↓reduceIte, sevalprocAttr]
   refine AW.ret ?_
   refine seqQ.ret ?_
   cases H
   exact hQ _ _ _ _ (.inr rfl) (by simp only [resVs, omap, resV, ↓wk, ↓wl, nq, evV, ↓reduceIte, sevalprocAttr]; rfl) (hand_k0 (by rfl) (by rfl)) (by first | exact Or.inl rfl | exact Or.inr rfl)
  ·try simp only [↓wk, ↓wl, nq, evV, ↓reduceIte, sevalprocAttr]
   refine AW.ifc H (by rfl) ?_ ?_ <;> clear H <;> intro H
   ·refine AW.rseq ?_
    try simp only [↓wk, ↓wl, nq, evV, ↓reduceIte, sevalprocAttr]
    refine AW.ret ?_
    refine seqQ.ret ?_
    cases H
    exact hQ _ _ _ _ (.inr rfl) (by simp only [resVs, omap, resV, ↓wk, ↓wl, nq, evV, ↓reduceIte, sevalprocAttr]; rfl) (hand_k0 (by rfl) (by rfl)) (by first | exact Or.inl rfl | exact Or.inr rfl)
   ·refine AW.skip ?_
    refine seqQ.norm ?_
    refine AW.rseq ?_
    try simp only [↓wk, ↓wl, nq, evV, ↓reduceIte, sevalprocAttr]
    refine AW.sseq ?_
    refine AW.rseq ?_
    try simp only [↓wk, ↓wl, nq, evV, ↓reduceIte, sevalprocAttr]
    refine evTs_pure hFn H (fun _ h => f73_im h) (by rfl) (by rfl) (by rfl) (by rfl) (fun _ => rfl) ?_ <;> clear H <;> intro r_996 H
    try simp only [eL, ↓wk, ↓wl, nq, evV, ↓reduceIte, sevalprocAttr]
    refine AW.bend ?_
    refine AW.iter H ((Le.trans (Le.nilRow (i := 9) (e := 0) (by simp only [↓wk, ↓wl, nq, evV, ↓reduceIte, sevalprocAttr])) (Le.tz [1] [9, 27, 28, 29] (by simp only [f28_L1c, rrm, ↓wk, ↓wl, evV, ↓reduceIte, sevalprocAttr] <;> rfl)))) ?_ <;> clear H
    rintro ⟨v_1005, out_1006⟩ x_ st0_ H hst_
    rw [f28_L1c] at hst_
    simp only [f28_L1] at H
    subst hst_
    refine AW.rseq ?_
    try simp only [↓wk, ↓wl, nq, evV, ↓reduceIte, sevalprocAttr]
    refine AW.sseq ?_
    refine AW.ifc H (by rfl) ?_ ?_ <;> clear H <;> intro H
    ·refine AW.skip ?_
     refine seqQ.norm ?_
     refine AW.bseq ?_
     refine AW.rseq ?_
     try simp only [↓wk, ↓wl, nq, evV, ↓reduceIte, sevalprocAttr]
     refine evTs_at (enc := eReceiverInput) H (by rfl) (by rfl) ?_ <;> clear H <;> intro x_1010 H
     try simp only [eReceiverInput, eL, ↓wk, ↓wl, nq, evV, ↓reduceIte, sevalprocAttr]
     refine AW.rend ?_
     try simp only [↓wk, ↓wl, nq, evV, ↓reduceIte, sevalprocAttr]
     refine evTs_app (enc := (AV.int .u64)) H (by rfl) (by first | rfl | simp only [List.length_set]) (by rfl) (by rfl) ?_ <;> clear H <;> intro out_1011 H
     try simp only [↓wk, ↓wl, nq, evV, ↓reduceIte, sevalprocAttr]
     refine blkQ.norm ?_
     refine AW.rend ?_
     try simp only [↓wk, ↓wl, nq, evV, ↓reduceIte, sevalprocAttr]
     exact loopQ.next H ((Le.tz [2] [9, 27, 28, 29] (by simp only [f28_L1c, rrm, ↓wk, ↓wl, evV, ↓reduceIte, sevalprocAttr] <;> rfl)))
    ·refine AW.exit ?_
     refine seqQ.exit ?_
     refine loopQ.exit H ?_ <;> clear H <;> intro H
     try dsimp only at H
     refine blk0.here ?_
     refine seqQ.norm ?_
     refine AW.rseq ?_
     try simp only [↓wk, ↓wl, nq, evV, ↓reduceIte, sevalprocAttr]
     refine AW.ret ?_
     cases H
     exact hQ _ _ _ _ (.inr rfl) (by simp only [resVs, omap, resV, ↓wk, ↓wl, nq, evV, ↓reduceIte, sevalprocAttr]; rfl) (hand_k (by rfl) (by rfl) (by simp) (enc_all _) (by rfl)) (by first | exact Or.inl rfl | exact Or.inr rfl)
theorem f28_im {r_991 : ReceiverReceiver} {t_992 : Int} {universe_993 : Int} {r_ : (List Int) × Int} (H : f28 r_991 t_992 universe_993 = some r_) : Pure Try.prog 28 [.agg [.sl 8 false (r_991.fInputs.map eReceiverInput)], .int .i64 t_992, .int .i64 universe_993] (· = .tup [.sl 0 false (r_.1.map (AV.int .u64)), .int .i64 r_.2]) := (f28_ok H).unfr (by first | exact enc_fits _ | simp only [frFits, List.all_cons, List.all_nil, enc_fits, Bool.and_self])
def c36_0 : C := .seq (.reg [iI 4 (.faddr 0 (.t 2)), iI 5 (.load 0 (.t 4)), iI 6 (.faddr 0 (.t 1)), iI 7 (.load 0 (.t 6)), iI 8 (.bin .eql (.t 5) (.t 7)), iI 3 (.mv (.t 8))]) .ret
def ir36 : C := .seq (.reg [iI 2 (.box (.t 0)), iI 3 (.mv (.c (.bool false)))]) c36_0
theorem fd36 : fd? Try.prog 36 = some (9, [.slot 3], ir36) := by kernel_rfl
noncomputable def f36p (y_1024 : ApiFrame) (c_1025 : Int) (c_1026 : Int) (c_1027 : Int) (c_1028 : Int) (c_1029 : Int) (c_1030 : Int) (c_1031 : (List UInt8)) (c_1032 : (List UInt8)) : Option (Bool) :=
  (some (decide (y_1024.fUniverse = c_1025)))
theorem f36p_ok {y_1024 : ApiFrame} {c_1025 : Int} {c_1026 : Int} {c_1027 : Int} {c_1028 : Int} {c_1029 : Int} {c_1030 : Int} {c_1031 : (List UInt8)} {c_1032 : (List UInt8)} {r_ : Bool} (H : f36p y_1024 c_1025 c_1026 c_1027 c_1028 c_1029 c_1030 c_1031 c_1032 = some r_) : Pure Try.prog 36 [.agg [.int .i64 y_1024.fUniverse, .str y_1024.fSlots], .pro [.int .i64 c_1025, .int .u64 c_1026, .int .i64 c_1027, .int .i64 c_1028, .int .i64 c_1029, .int .i64 c_1030, .str c_1031, .str c_1032]] (· = .bool r_) := by
 refine Pure.walk3 fd36 none (Nat.le_of_ble_eq_true rfl) (by rfl) fun Q hQ => ?_
 simp only [f36p] at H
 refine AW.rseq ?_
 try simp only [↓wk, ↓wl, nq, evV, ↓reduceIte, sevalprocAttr]
 refine AW.rseq ?_
 try simp only [↓wk, ↓wl, nq, evV, ↓reduceIte, sevalprocAttr]
 refine AW.ret ?_
 cases H
 exact hQ.fin
noncomputable def f35_36_L1 (s_1014 : (List ApiFrame)) (f_1015 : Int) (f_1016 : Int) (f_1017 : Int) (f_1018 : Int) (f_1019 : Int) (f_1020 : Int) (f_1021 : (List UInt8)) (f_1022 : (List UInt8)) : Lp (Int) ((Unit) ⊕ (Int)) where
  body := fun v_1037 => (if (decide (v_1037 < ((s_1014.length : Nat) : Int))) = true then (at? s_1014 v_1037).bind fun x_1041 => (f36p x_1041 f_1015 f_1016 f_1017 f_1018 f_1019 f_1020 f_1021 f_1022).bind fun r_1042 => (if r_1042 = true then (some (.brk (Sum.inr v_1037))) else (some (.next (IntKind.i64.wrap (v_1037 + 1))))) else (some (.brk (Sum.inl ()))))
  cst := fun v_1037 => ⟨put (put (put (put (fun _ => .junk) 8 (.int .i64 v_1037)) 7 (.int .i64 ((s_1014.length : Nat) : Int))) 1 (.fn 36 [.pro [.int .i64 f_1015, .int .u64 f_1016, .int .i64 f_1017, .int .i64 f_1018, .int .i64 f_1019, .int .i64 f_1020, .str f_1021, .str f_1022]])) 0 (.sl 2 false (s_1014.map eApiFrame)), []⟩
theorem f35_36_L1c (s_1014 : (List ApiFrame)) (f_1015 : Int) (f_1016 : Int) (f_1017 : Int) (f_1018 : Int) (f_1019 : Int) (f_1020 : Int) (f_1021 : (List UInt8)) (f_1022 : (List UInt8)) (v_1037 : Int) : (f35_36_L1 s_1014 f_1015 f_1016 f_1017 f_1018 f_1019 f_1020 f_1021 f_1022).cst v_1037 = ⟨put (put (put (put (fun _ => .junk) 8 (.int .i64 v_1037)) 7 (.int .i64 ((s_1014.length : Nat) : Int))) 1 (.fn 36 [.pro [.int .i64 f_1015, .int .u64 f_1016, .int .i64 f_1017, .int .i64 f_1018, .int .i64 f_1019, .int .i64 f_1020, .str f_1021, .str f_1022]])) 0 (.sl 2 false (s_1014.map eApiFrame)), []⟩ := rfl
def c35_0 : C := .cond (.t 16) (.seq (.reg [iI 17 (.mv (.t 5)), iI 4 (.mv (.t 17))]) .ret) (.skip)
def c35_1 : C := .seq (.reg [iI 11 (.mv (.t 1)), iI 12 (.mv (.t 0)), iI 13 (.mv (.t 5)), iI 14 (.iaddr 2 (.t 12) (.t 13)), iI 15 (.load 2 (.t 14)), iI 16 (.call (.t 11) [(.t 15)])]) c35_0
def c35_2 : C := .reg [iI 18 (.bin .add (.t 8) (.c (.int .i64 1))), iI 8 (.mv (.t 18))]
def c35_3 : C := .seq (.block 1 (.seq (.reg [iI 10 (.mv (.t 8)), iI 5 (.mv (.t 10))]) c35_1)) c35_2
def c35_4 : C := .seq (.cond (.t 9) (.skip) (.exit 0)) c35_3
def c35_5 : C := .block 0 (.loop (.seq (.reg [iI 9 (.bin .lss (.t 8) (.t 7))]) c35_4))
def c35_6 : C := .seq (.reg [iI 4 (.mv (.c (.int .i64 (-1))))]) .ret
def c35_7 : C := .seq (.seq (.reg [iI 6 (.mv (.t 0)), iI 7 (.len 0 (.t 6)), iI 8 (.mv (.c (.int .i64 0)))]) c35_5) c35_6
def ir35 : C := .seq (.reg [iI 4 (.mv (.c (.int .i64 0)))]) c35_7
theorem fd35 : fd? Try.prog 35 = some (19, [.slot 4], ir35) := by kernel_rfl
noncomputable def f35_36 (s_1014 : (List ApiFrame)) (f_1015 : Int) (f_1016 : Int) (f_1017 : Int) (f_1018 : Int) (f_1019 : Int) (f_1020 : Int) (f_1021 : (List UInt8)) (f_1022 : (List UInt8)) : Option (Int) :=
  ((Lp.run (f35_36_L1 s_1014 f_1015 f_1016 f_1017 f_1018 f_1019 f_1020 f_1021 f_1022) 0).bind fun r_ => match r_ with | (Sum.inl _) => (some (-1)) | (Sum.inr v_1040) => (some v_1040))
theorem f35_36_ok {s_1014 : (List ApiFrame)} {f_1015 : Int} {f_1016 : Int} {f_1017 : Int} {f_1018 : Int} {f_1019 : Int} {f_1020 : Int} {f_1021 : (List UInt8)} {f_1022 : (List UInt8)} {r_ : Int} (H : f35_36 s_1014 f_1015 f_1016 f_1017 f_1018 f_1019 f_1020 f_1021 f_1022 = some r_) : Pure Try.prog 35 [.sl 2 false (s_1014.map eApiFrame), .fn 36 [.pro [.int .i64 f_1015, .int .u64 f_1016, .int .i64 f_1017, .int .i64 f_1018, .int .i64 f_1019, .int .i64 f_1020, .str f_1021, .str f_1022]]] (· = .int .i64 r_) := by
 refine Pure.walk3 fd35 none (Nat.le_of_ble_eq_true rfl) (by rfl) fun Q hQ => ?_
 simp only [f35_36] at H
 refine AW.rseq ?_
 try simp only [↓wk, ↓wl, nq, evV, ↓reduceIte, sevalprocAttr]
 refine AW.sseq ?_
 refine AW.rseq ?_
 try simp only [↓wk, ↓wl, nq, evV, ↓reduceIte, sevalprocAttr]
 refine AW.bend ?_
 refine AW.iter H ((Le.tz [] [0, 1, 7, 8] (by simp only [f35_36_L1c, rrm, ↓wk, ↓wl, evV, ↓reduceIte, sevalprocAttr] <;> rfl))) ?_ <;> clear H
 rintro v_1037 x_ st0_ H hst_
 rw [f35_36_L1c] at hst_
 simp only [f35_36_L1] at H
 subst hst_
 refine AW.rseq ?_
 try simp only [↓wk, ↓wl, nq, evV, ↓reduceIte, sevalprocAttr]
 refine AW.sseq ?_
 refine AW.ifc H (by rfl) ?_ ?_ <;> clear H <;> intro H
 ·refine AW.skip ?_
  refine seqQ.norm ?_
  refine AW.bseq ?_
  refine AW.rseq ?_
  try simp only [↓wk, ↓wl, nq, evV, ↓reduceIte, sevalprocAttr]
  refine AW.rseq ?_
  try simp only [↓wk, ↓wl, nq, evV, ↓reduceIte, sevalprocAttr]
  refine evTs_at (enc := eApiFrame) H (by rfl) (by rfl) ?_ <;> clear H <;> intro x_1041 H
  try simp only [eApiFrame, eL, ↓wk, ↓wl, nq, evV, ↓reduceIte, sevalprocAttr]
  refine evTs_pure hFn H (fun _ h => f36p_ok h) (by rfl) (by rfl) (by rfl) (by rfl) (fun _ => rfl) ?_ <;> clear H <;> intro r_1042 H
  try simp only [eL, ↓wk, ↓wl, nq, evV, ↓reduceIte, sevalprocAttr]
  refine AW.ifc H (by rfl) ?_ ?_ <;> clear H <;> intro H
  ·refine AW.rseq ?_
   try simp only [↓wk, ↓wl, nq, evV, ↓reduceIte, sevalprocAttr]
   refine AW.ret ?_
   refine blkQ.ret ?_
   refine loopQ.ret H ?_ <;> clear H <;> intro H
   try dsimp only at H
   refine blk0.ret ?_
   refine seqQ.ret ?_
   cases H
   exact hQ.fin
  ·refine AW.skip ?_
   refine blkQ.norm ?_
   refine AW.rend ?_
   try simp only [↓wk, ↓wl, nq, evV, ↓reduceIte, sevalprocAttr]
   exact loopQ.next H ((Le.tz [] [0, 1, 7, 8] (by simp only [f35_36_L1c, rrm, ↓wk, ↓wl, evV, ↓reduceIte, sevalprocAttr] <;> rfl)))
 ·refine AW.exit ?_
  refine seqQ.exit ?_
  refine loopQ.exit H ?_ <;> clear H <;> intro H
  try dsimp only at H
  refine blk0.here ?_
  refine seqQ.norm ?_
  refine AW.rseq ?_
  try simp only [↓wk, ↓wl, nq, evV, ↓reduceIte, sevalprocAttr]
  refine AW.ret ?_
  cases H
  exact hQ.fin
noncomputable def f76_L1 (s_1046 : (List Int)) (v_1047 : Int) : Lp (Int) ((Unit) ⊕ (Int)) where
  body := fun v_1051 => (if (decide (v_1051 < ((s_1046.length : Nat) : Int))) = true then (at? s_1046 v_1051).bind fun x_1054 => (if (decide (v_1047 = x_1054)) = true then (some (.brk (Sum.inr v_1051))) else (some (.next (IntKind.i64.wrap (v_1051 + 1))))) else (some (.brk (Sum.inl ()))))
  cst := fun v_1051 => ⟨put (put (put (put (fun _ => .junk) 8 (.int .i64 v_1051)) 7 (.int .i64 ((s_1046.length : Nat) : Int))) 1 (.int .u64 v_1047)) 0 (.sl 0 false (s_1046.map (AV.int .u64))), []⟩
theorem f76_L1c (s_1046 : (List Int)) (v_1047 : Int) (v_1051 : Int) : (f76_L1 s_1046 v_1047).cst v_1051 = ⟨put (put (put (put (fun _ => .junk) 8 (.int .i64 v_1051)) 7 (.int .i64 ((s_1046.length : Nat) : Int))) 1 (.int .u64 v_1047)) 0 (.sl 0 false (s_1046.map (AV.int .u64))), []⟩ := rfl
def c76_0 : C := .cond (.t 16) (.seq (.reg [iI 17 (.mv (.t 5)), iI 4 (.mv (.t 17))]) .ret) (.skip)
def c76_1 : C := .seq (.reg [iI 11 (.mv (.t 1)), iI 12 (.mv (.t 0)), iI 13 (.mv (.t 5)), iI 14 (.iaddr 0 (.t 12) (.t 13)), iI 15 (.load 0 (.t 14)), iI 16 (.bin .eql (.t 11) (.t 15))]) c76_0
def c76_2 : C := .reg [iI 18 (.bin .add (.t 8) (.c (.int .i64 1))), iI 8 (.mv (.t 18))]
def c76_3 : C := .seq (.block 1 (.seq (.reg [iI 10 (.mv (.t 8)), iI 5 (.mv (.t 10))]) c76_1)) c76_2
def c76_4 : C := .seq (.cond (.t 9) (.skip) (.exit 0)) c76_3
def c76_5 : C := .block 0 (.loop (.seq (.reg [iI 9 (.bin .lss (.t 8) (.t 7))]) c76_4))
def c76_6 : C := .seq (.reg [iI 4 (.mv (.c (.int .i64 (-1))))]) .ret
def c76_7 : C := .seq (.seq (.reg [iI 6 (.mv (.t 0)), iI 7 (.len 0 (.t 6)), iI 8 (.mv (.c (.int .i64 0)))]) c76_5) c76_6
def ir76 : C := .seq (.reg [iI 4 (.mv (.c (.int .i64 0)))]) c76_7
theorem fd76 : fd? Try.prog 76 = some (19, [.slot 4], ir76) := by kernel_rfl
noncomputable def f76 (s_1046 : (List Int)) (v_1047 : Int) : Option (Int) :=
  ((Lp.run (f76_L1 s_1046 v_1047) 0).bind fun r_ => match r_ with | (Sum.inl _) => (some (-1)) | (Sum.inr v_1053) => (some v_1053))
theorem f76_ok {s_1046 : (List Int)} {v_1047 : Int} {r_ : Int} (H : f76 s_1046 v_1047 = some r_) : Pure Try.prog 76 [.sl 0 false (s_1046.map (AV.int .u64)), .int .u64 v_1047] (· = .int .i64 r_) := by
 refine Pure.walk3 fd76 none (Nat.le_of_ble_eq_true rfl) (by rfl) fun Q hQ => ?_
 simp only [f76] at H
 refine AW.rseq ?_
 try simp only [↓wk, ↓wl, nq, evV, ↓reduceIte, sevalprocAttr]
 refine AW.sseq ?_
 refine AW.rseq ?_
 try simp only [↓wk, ↓wl, nq, evV, ↓reduceIte, sevalprocAttr]
 refine AW.bend ?_
 refine AW.iter H ((Le.tz [] [0, 1, 7, 8] (by simp only [f76_L1c, rrm, ↓wk, ↓wl, evV, ↓reduceIte, sevalprocAttr] <;> rfl))) ?_ <;> clear H
 rintro v_1051 x_ st0_ H hst_
 rw [f76_L1c] at hst_
 simp only [f76_L1] at H
 subst hst_
 refine AW.rseq ?_
 try simp only [↓wk, ↓wl, nq, evV, ↓reduceIte, sevalprocAttr]
 refine AW.sseq ?_
 refine AW.ifc H (by rfl) ?_ ?_ <;> clear H <;> intro H
 ·refine AW.skip ?_
  refine seqQ.norm ?_
  refine AW.bseq ?_
  refine AW.rseq ?_
  try simp only [↓wk, ↓wl, nq, evV, ↓reduceIte, sevalprocAttr]
  refine AW.rseq ?_
  try simp only [↓wk, ↓wl, nq, evV, ↓reduceIte, sevalprocAttr]
  refine evTs_at (enc := (AV.int .u64)) H (by rfl) (by rfl) ?_ <;> clear H <;> intro x_1054 H
  try simp only [↓wk, ↓wl, nq, evV, ↓reduceIte, sevalprocAttr]
  refine AW.ifc H (by rfl) ?_ ?_ <;> clear H <;> intro H
  ·refine AW.rseq ?_
   try simp only [↓wk, ↓wl, nq, evV, ↓reduceIte, sevalprocAttr]
   refine AW.ret ?_
   refine blkQ.ret ?_
   refine loopQ.ret H ?_ <;> clear H <;> intro H
   try dsimp only at H
   refine blk0.ret ?_
   refine seqQ.ret ?_
   cases H
   exact hQ.fin
  ·refine AW.skip ?_
   refine blkQ.norm ?_
   refine AW.rend ?_
   try simp only [↓wk, ↓wl, nq, evV, ↓reduceIte, sevalprocAttr]
   exact loopQ.next H ((Le.tz [] [0, 1, 7, 8] (by simp only [f76_L1c, rrm, ↓wk, ↓wl, evV, ↓reduceIte, sevalprocAttr] <;> rfl)))
 ·refine AW.exit ?_
  refine seqQ.exit ?_
  refine loopQ.exit H ?_ <;> clear H <;> intro H
  try dsimp only at H
  refine blk0.here ?_
  refine seqQ.norm ?_
  refine AW.rseq ?_
  try simp only [↓wk, ↓wl, nq, evV, ↓reduceIte, sevalprocAttr]
  refine AW.ret ?_
  cases H
  exact hQ.fin
def c37_0 : C := .seq (.reg [iI 5 (.mv (.t 0)), iI 6 (.mv (.t 1)), iI 7 (.call (.c (.fn 76 [])) [(.t 5), (.t 6)]), iI 8 (.bin .geq (.t 7) (.c (.int .i64 0))), iI 4 (.mv (.t 8))]) .ret
def ir37 : C := .seq (.reg [iI 4 (.mv (.c (.bool false)))]) c37_0
theorem fd37 : fd? Try.prog 37 = some (9, [.slot 4], ir37) := by kernel_rfl
noncomputable def f37 (s_1044 : (List Int)) (v_1045 : Int) : Option (Bool) :=
  (f76 s_1044 v_1045).bind fun r_1055 => (some (decide (0 ≤ r_1055)))
theorem f37_ok {s_1044 : (List Int)} {v_1045 : Int} {r_ : Bool} (H : f37 s_1044 v_1045 = some r_) : Pure Try.prog 37 [.sl 0 false (s_1044.map (AV.int .u64)), .int .u64 v_1045] (· = .bool r_) := by
 refine Pure.walk3 fd37 none (Nat.le_of_ble_eq_true rfl) (by rfl) fun Q hQ => ?_
 simp only [f37] at H
 refine AW.rseq ?_
 try simp only [↓wk, ↓wl, nq, evV, ↓reduceIte, sevalprocAttr]
 refine AW.rseq ?_
 try simp only [↓wk, ↓wl, nq, evV, ↓reduceIte, sevalprocAttr]
 refine evTs_pure hFn H (fun _ h => f76_ok h) (by rfl) (by rfl) (by rfl) (by rfl) (fun _ => rfl) ?_ <;> clear H <;> intro r_1055 H
 try simp only [eL, ↓wk, ↓wl, nq, evV, ↓reduceIte, sevalprocAttr]
 refine AW.ret ?_
 cases H
 exact hQ.fin
noncomputable def f8_L1 (x_990 : ReceiverInput) (r_1013 : (List ApiFrame) × Int) (r_1043 : Int) : Lp (Nat) ((Unit) ⊕ (Unit)) where
  body := fun v_1081 => (if decide (v_1081 < x_990.fSlots.length) = true then (at? r_1013.1 r_1043).bind fun x_1086 => (at? x_1086.fSlots (v_1081 : Int)).bind fun b_1087 => (at? x_990.fSlots (v_1081 : Int)).bind fun b_1088 => (if (decide ((b_1087.toNat : Int) < (b_1088.toNat : Int))) = true then (some (.brk (Sum.inr ()))) else (some (.next (v_1081 + (dcd x_990.fSlots v_1081).2)))) else (some (.brk (Sum.inl ()))))
  cst := fun v_1081 => ⟨put (put (put (put (fun _ => .junk) 80 (.ptr 1 0)) 12 (.int .i64 r_1043)) 10 (.sl 2 false (r_1013.1.map eApiFrame))) 7 (.ptr 0 0), [.cel [.int .i64 x_990.fUniverse, .int .u64 x_990.fSource, .int .i64 x_990.fPriority, .int .i64 x_990.fSeq, .int .i64 x_990.fSync, .int .i64 x_990.fLast, .str x_990.fSlots, .str x_990.fWait], .itr x_990.fSlots v_1081]⟩
theorem f8_L1c (x_990 : ReceiverInput) (r_1013 : (List ApiFrame) × Int) (r_1043 : Int) (v_1081 : Nat) : (f8_L1 x_990 r_1013 r_1043).cst v_1081 = ⟨put (put (put (put (fun _ => .junk) 80 (.ptr 1 0)) 12 (.int .i64 r_1043)) 10 (.sl 2 false (r_1013.1.map eApiFrame))) 7 (.ptr 0 0), [.cel [.int .i64 x_990.fUniverse, .int .u64 x_990.fSource, .int .i64 x_990.fPriority, .int .i64 x_990.fSeq, .int .i64 x_990.fSync, .int .i64 x_990.fLast, .str x_990.fSlots, .str x_990.fWait], .itr x_990.fSlots v_1081]⟩ := rfl
theorem dlf38 : fd? Try.prog 38 = some (42, [.slot 4], dlgC 8 [(1, (.int .i64 0)), (1, (.int .u64 0)), (1, (.int .i64 0)), (1, (.int .i64 0)), (1, (.int .i64 0)), (1, (.int .i64 0)), (1, (.str [])), (1, (.str []))] (.agg [(.int .i64 0), (.int .u64 0), (.int .i64 0), (.int .i64 0), (.int .i64 0), (.int .i64 0), (.str []), (.str [])]) 77) := by kernel_rfl
theorem idx77 : fd? Try.prog 77 = some (19, [.slot 4], idxC 8) := by kernel_rfl
def c40_0 : C := .seq (.reg [iI 4 (.faddr 0 (.t 2)), iI 5 (.load 0 (.t 4)), iI 6 (.faddr 0 (.t 1)), iI 7 (.load 0 (.t 6)), iI 8 (.bin .eql (.t 5) (.t 7)), iI 9 (.mv (.t 8)), iG (some 10) 9 true (.faddr 1 (.t 2)), iG (some 11) 9 true (.load 0 (.t 10)), iG (some 12) 9 true (.faddr 1 (.t 1)), iG (some 13) 9 true (.load 0 (.t 12)), iG (some 14) 9 true (.bin .eql (.t 11) (.t 13)), iI 15 (.pick (.t 9) (.t 14) (.c (.bool false))), iI 3 (.mv (.t 15))]) .ret
def ir40 : C := .seq (.reg [iI 2 (.box (.t 0)), iI 3 (.mv (.c (.bool false)))]) c40_0
theorem fd40 : fd? Try.prog 40 = some (16, [.slot 3], ir40) := by kernel_rfl
noncomputable def f40p (y_1092 : ReceiverInput) (c_1093 : Int) (c_1094 : Int) (c_1095 : Int) (c_1096 : Int) (c_1097 : Int) (c_1098 : Int) (c_1099 : (List UInt8)) (c_1100 : (List UInt8)) : Option (Bool) :=
  (if (decide (y_1092.fUniverse = c_1093)) = true then (some (decide (y_1092.fSource = c_1094))) else (some false))
theorem f40p_ok {y_1092 : ReceiverInput} {c_1093 : Int} {c_1094 : Int} {c_1095 : Int} {c_1096 : Int} {c_1097 : Int} {c_1098 : Int} {c_1099 : (List UInt8)} {c_1100 : (List UInt8)} {r_ : Bool} (H : f40p y_1092 c_1093 c_1094 c_1095 c_1096 c_1097 c_1098 c_1099 c_1100 = some r_) : Pure Try.prog 40 [.agg [.int .i64 y_1092.fUniverse, .int .u64 y_1092.fSource, .int .i64 y_1092.fPriority, .int .i64 y_1092.fSeq, .int .i64 y_1092.fSync, .int .i64 y_1092.fLast, .str y_1092.fSlots, .str y_1092.fWait], .pro [.int .i64 c_1093, .int .u64 c_1094, .int .i64 c_1095, .int .i64 c_1096, .int .i64 c_1097, .int .i64 c_1098, .str c_1099, .str c_1100]] (· = .bool r_) := by
 refine Pure.walk3 fd40 none (Nat.le_of_ble_eq_true rfl) (by rfl) fun Q hQ => ?_
 simp only [f40p] at H
 refine AW.rseq ?_
 try simp only [↓wk, ↓wl, nq, evV, ↓reduceIte, sevalprocAttr]
 refine AW.rseq ?_
 try simp only [↓wk, ↓wl, nq, evV, ↓reduceIte, sevalprocAttr]
 refine evTs_ifg H (by rfl) ?_ ?_ <;> clear H <;> intro H
 ·try simp only [↓wk, ↓wl, nq, evV, ↓reduceIte, sevalprocAttr]
  refine AW.ret ?_
  cases H
  exact hQ.fin
 ·try simp only [↓wk, ↓wl, nq, evV, ↓reduceIte, sevalprocAttr]
  refine AW.ret ?_
  cases H
  exact hQ.fin
noncomputable def f34_L1 (s1_1104 : (List ApiFrame)) (s2_1105 : (List ApiFrame)) : Lp (Int) ((Unit) ⊕ (Unit)) where
  body := fun v_1111 => (if (decide (v_1111 < ((s1_1104.length : Nat) : Int))) = true then (at? s1_1104 v_1111).bind fun x_1114 => (at? s2_1105 v_1111).bind fun x_1115 => (if (!((x_1114.fUniverse == x_1115.fUniverse) && ((x_1114.fSlots == x_1115.fSlots) && true))) = true then (some (.brk (Sum.inr ()))) else (some (.next (IntKind.i64.wrap (v_1111 + 1))))) else (some (.brk (Sum.inl ()))))
  cst := fun v_1111 => ⟨put (put (put (put (fun _ => .junk) 13 (.int .i64 v_1111)) 12 (.int .i64 ((s1_1104.length : Nat) : Int))) 1 (.sl 2 false (s2_1105.map eApiFrame))) 0 (.sl 2 false (s1_1104.map eApiFrame)), []⟩
theorem f34_L1c (s1_1104 : (List ApiFrame)) (s2_1105 : (List ApiFrame)) (v_1111 : Int) : (f34_L1 s1_1104 s2_1105).cst v_1111 = ⟨put (put (put (put (fun _ => .junk) 13 (.int .i64 v_1111)) 12 (.int .i64 ((s1_1104.length : Nat) : Int))) 1 (.sl 2 false (s2_1105.map eApiFrame))) 0 (.sl 2 false (s1_1104.map eApiFrame)), []⟩ := rfl
def c34_0 : C := .cond (.t 10) (.seq (.reg [iI 4 (.mv (.c (.bool false)))]) .ret) (.skip)
def c34_1 : C := .cond (.t 24) (.seq (.reg [iI 4 (.mv (.c (.bool false)))]) .ret) (.skip)
def c34_2 : C := .seq (.reg [iI 16 (.mv (.t 0)), iI 17 (.mv (.t 5)), iI 18 (.iaddr 2 (.t 16) (.t 17)), iI 19 (.load 2 (.t 18)), iI 20 (.mv (.t 1)), iI 21 (.mv (.t 5)), iI 22 (.iaddr 2 (.t 20) (.t 21)), iI 23 (.load 2 (.t 22)), iI 24 (.eqs true [0, 1] (.t 19) (.t 23))]) c34_1
def c34_3 : C := .reg [iI 25 (.bin .add (.t 13) (.c (.int .i64 1))), iI 13 (.mv (.t 25))]
def c34_4 : C := .seq (.block 1 (.seq (.reg [iI 15 (.mv (.t 13)), iI 5 (.mv (.t 15))]) c34_2)) c34_3
def c34_5 : C := .seq (.cond (.t 14) (.skip) (.exit 0)) c34_4
def c34_6 : C := .block 0 (.loop (.seq (.reg [iI 14 (.bin .lss (.t 13) (.t 12))]) c34_5))
def c34_7 : C := .seq (.reg [iI 4 (.mv (.c (.bool true)))]) .ret
def c34_8 : C := .seq (.seq (.reg [iI 11 (.mv (.t 0)), iI 12 (.len 0 (.t 11)), iI 13 (.mv (.c (.int .i64 0)))]) c34_6) c34_7
def c34_9 : C := .seq (.seq (.reg [iI 6 (.mv (.t 0)), iI 7 (.len 0 (.t 6)), iI 8 (.mv (.t 1)), iI 9 (.len 0 (.t 8)), iI 10 (.bin .neq (.t 7) (.t 9))]) c34_0) c34_8
def ir34 : C := .seq (.reg [iI 4 (.mv (.c (.bool false)))]) c34_9
theorem fd34 : fd? Try.prog 34 = some (26, [.slot 4], ir34) := by kernel_rfl
noncomputable def f34 (s1_1104 : (List ApiFrame)) (s2_1105 : (List ApiFrame)) : Option (Bool) :=
  (if (decide (((s1_1104.length : Nat) : Int) ≠ ((s2_1105.length : Nat) : Int))) = true then (some false) else ((Lp.run (f34_L1 s1_1104 s2_1105) 0).bind fun r_ => match r_ with | (Sum.inl _) => (some true) | (Sum.inr _) => (some false)))
theorem f34_ok {s1_1104 : (List ApiFrame)} {s2_1105 : (List ApiFrame)} {r_ : Bool} (H : f34 s1_1104 s2_1105 = some r_) : Pure Try.prog 34 [.sl 2 false (s1_1104.map eApiFrame), .sl 2 false (s2_1105.map eApiFrame)] (· = .bool r_) := by
 refine Pure.walk3 fd34 none (Nat.le_of_ble_eq_true rfl) (by rfl) fun Q hQ => ?_
 simp only [f34] at H
 refine AW.rseq ?_
 try simp only [↓wk, ↓wl, nq, evV, ↓reduceIte, sevalprocAttr]
 refine AW.sseq ?_
 refine AW.rseq ?_
 try simp only [↓wk, ↓wl, nq, evV, ↓reduceIte, sevalprocAttr]
 refine AW.ifc H (by rfl) ?_ ?_ <;> clear H <;> intro H
 ·refine AW.rseq ?_
  try simp only [↓wk, ↓wl, nq, evV, ↓reduceIte, sevalprocAttr]
  refine AW.ret ?_
  refine seqQ.ret ?_
  cases H
  exact hQ.fin
 ·refine AW.skip ?_
  refine seqQ.norm ?_
  refine AW.sseq ?_
  refine AW.rseq ?_
  try simp only [↓wk, ↓wl, nq, evV, ↓reduceIte, sevalprocAttr]
  refine AW.bend ?_
  refine AW.iter H ((Le.tz [] [0, 1, 12, 13] (by simp only [f34_L1c, rrm, ↓wk, ↓wl, evV, ↓reduceIte, sevalprocAttr] <;> rfl))) ?_ <;> clear H
  rintro v_1111 x_ st0_ H hst_
  rw [f34_L1c] at hst_
  simp only [f34_L1] at H
  subst hst_
  refine AW.rseq ?_
  try simp only [↓wk, ↓wl, nq, evV, ↓reduceIte, sevalprocAttr]
  refine AW.sseq ?_
  refine AW.ifc H (by rfl) ?_ ?_ <;> clear H <;> intro H
  ·refine AW.skip ?_
   refine seqQ.norm ?_
   refine AW.bseq ?_
   refine AW.rseq ?_
   try simp only [↓wk, ↓wl, nq, evV, ↓reduceIte, sevalprocAttr]
   refine AW.rseq ?_
   try simp only [↓wk, ↓wl, nq, evV, ↓reduceIte, sevalprocAttr]
   refine evTs_at (enc := eApiFrame) H (by rfl) (by rfl) ?_ <;> clear H <;> intro x_1114 H
   try simp only [eApiFrame, eL, ↓wk, ↓wl, nq, evV, ↓reduceIte, sevalprocAttr]
   refine evTs_at (enc := eApiFrame) H (by rfl) (by rfl) ?_ <;> clear H <;> intro x_1115 H
   try simp only [eApiFrame, eL, ↓wk, ↓wl, nq, evV, ↓reduceIte, sevalprocAttr]
   refine rest_neqs (by rfl) ?_
   try simp only [↓wk, ↓wl, nq, evV, ↓reduceIte, sevalprocAttr]
   refine AW.ifc H (by rfl) ?_ ?_ <;> clear H <;> intro H
   ·refine AW.rseq ?_
    try simp only [↓wk, ↓wl, nq, evV, ↓reduceIte, sevalprocAttr]
    refine AW.ret ?_
    refine blkQ.ret ?_
    refine loopQ.ret H ?_ <;> clear H <;> intro H
    try dsimp only at H
    refine blk0.ret ?_
    refine seqQ.ret ?_
    cases H
    exact hQ.fin
   ·refine AW.skip ?_
    refine blkQ.norm ?_
    refine AW.rend ?_
    try simp only [↓wk, ↓wl, nq, evV, ↓reduceIte, sevalprocAttr]
    exact loopQ.next H ((Le.tz [] [0, 1, 12, 13] (by simp only [f34_L1c, rrm, ↓wk, ↓wl, evV, ↓reduceIte, sevalprocAttr] <;> rfl)))
  ·refine AW.exit ?_
   refine seqQ.exit ?_
   refine loopQ.exit H ?_ <;> clear H <;> intro H
   try dsimp only at H
   refine blk0.here ?_
   refine seqQ.norm ?_
   refine AW.rseq ?_
   try simp only [↓wk, ↓wl, nq, evV, ↓reduceIte, sevalprocAttr]
   refine AW.ret ?_
   cases H
   exact hQ.fin
def c8_0 : C := .cond (.t 25) (.seq (.reg [iI 26 (.call (.c (.fn 15 [])) []), iI 6 (.mv (.t 26))]) .ret) (.skip)
def c8_1 : C := .cond (.t 54) (.seq (.reg [iI 6 (.mv (.c (.bool false)))]) .ret) (.skip)
def c8_2 : C := .cond (.t 63) (.seq (.reg [iI 6 (.mv (.c (.bool false)))]) .ret) (.skip)
def c8_3 : C := .cond (.t 77) (.seq (.reg [iI 6 (.mv (.c (.bool false)))]) .ret) (.skip)
def c8_4 : C := .cond (.t 95) (.seq (.reg [iI 6 (.mv (.c (.bool false)))]) .ret) (.skip)
def c8_5 : C := .seq (.reg [iI 84 (.mv (.t 10)), iI 85 (.mv (.t 12)), iI 86 (.iaddr 2 (.t 84) (.t 85)), iI 87 (.faddr 1 (.t 86)), iI 88 (.load 0 (.t 87)), iI 89 (.mv (.t 13)), iI 90 (.sidx (.t 88) (.t 89)), iI 91 (.faddr 6 (.t 7)), iI 92 (.load 0 (.t 91)), iI 93 (.mv (.t 13)), iI 94 (.sidx (.t 92) (.t 93)), iI 95 (.bin .lss (.t 90) (.t 94))]) c8_4
def c8_6 : C := .block 1 (.seq (.reg [iI 83 (.ext (.t 81) 1), iI 13 (.mv (.t 83))]) c8_5)
def c8_7 : C := .seq (.cond (.t 82) (.skip) (.exit 0)) c8_6
def c8_8 : C := .block 0 (.loop (.seq (.reg [iI 81 (.next (.t 80)), iI 82 (.ext (.t 81) 0)]) c8_7))
def c8_9 : C := .seq (.reg [iI 96 (.call (.c (.fn 15 [])) []), iI 6 (.mv (.t 96))]) .ret
def c8_10 : C := .seq (.seq (.reg [iI 78 (.faddr 6 (.t 7)), iI 79 (.load 0 (.t 78)), iI 80 (.rng (.t 79))]) c8_8) c8_9
def c8_11 : C := .cond (.t 67) (.seq (.seq (.reg [iI 68 (.mv (.t 10)), iI 69 (.mv (.t 12)), iI 70 (.iaddr 2 (.t 68) (.t 69)), iI 71 (.faddr 1 (.t 70)), iI 72 (.load 0 (.t 71)), iI 73 (.len 1 (.t 72)), iI 74 (.faddr 6 (.t 7)), iI 75 (.load 0 (.t 74)), iI 76 (.len 1 (.t 75)), iI 77 (.bin .neq (.t 73) (.t 76))]) c8_3) c8_10) (.skip)
def c8_12 : C := .seq (.reg [iI 109 (.mv (.t 9)), iI 110 (.bin .eql (.t 109) (.c (.int .i64 0))), iI 111 (.mv (.t 110)), iG (some 112) 111 true (.mv (.t 15)), iG (some 113) 111 true (.mv (.t 10)), iG (some 114) 111 true (.call (.c (.fn 34 [])) [(.t 112), (.t 113)]), iI 115 (.pick (.t 111) (.t 114) (.c (.bool false))), iI 116 (.mv (.t 115)), iG (some 117) 116 true (.call (.c (.fn 15 [])) []), iI 118 (.pick (.t 116) (.t 117) (.c (.bool false))), iI 6 (.mv (.t 118))]) .ret
def c8_13 : C := .seq (.reg [iI 104 (.load 1 (.t 14)), iI 105 (.mv (.t 1)), iI 106 (.call (.c (.fn 30 [])) [(.t 104), (.t 105)]), iI 103 (.mv (.t 106)), iI 107 (.ext (.t 103) 0), iI 108 (.ext (.t 103) 1), iI 15 (.mv (.t 107)), iI 9 (.mv (.t 108))]) c8_12
def c8_14 : C := .seq (.reg [iI 97 (.faddr 0 (.t 3)), iI 98 (.load 0 (.t 97)), iI 99 (.call (.c (.fn 39 [])) [(.t 98)]), iI 100 (.mkfn 40 [(.t 7)]), iI 101 (.call (.c (.fn 38 [])) [(.t 99), (.t 100)]), iI 102 (.build [(1, (.sl 8 true []))] [(0, 0, (.t 101))]), iI 14 (.alloc [(1, (.sl 8 true []))]), iN (.store 1 (.t 14) (.t 102))]) c8_13
def c8_15 : C := .seq (.seq (.reg [iI 64 (.mv (.t 8)), iI 65 (.faddr 1 (.t 7)), iI 66 (.load 0 (.t 65)), iI 67 (.call (.c (.fn 37 [])) [(.t 64), (.t 66)])]) c8_11) c8_14
def c8_16 : C := .seq (.seq (.reg [iI 58 (.mv (.t 12)), iI 59 (.bin .geq (.t 58) (.c (.int .i64 0))), iI 60 (.mv (.t 8)), iI 61 (.len 0 (.t 60)), iI 62 (.bin .gtr (.t 61) (.c (.int .i64 0))), iI 63 (.binb .neq (.t 59) (.t 62))]) c8_2) c8_15
def c8_17 : C := .seq (.reg [iI 55 (.mv (.t 10)), iI 56 (.mkfn 36 [(.t 7)]), iI 57 (.call (.c (.fn 35 [])) [(.t 55), (.t 56)]), iI 12 (.mv (.t 57))]) c8_16
def c8_18 : C := .seq (.seq (.reg [iI 51 (.mv (.t 9)), iI 52 (.mv (.t 11)), iI 53 (.bin .add (.t 51) (.t 52)), iI 54 (.bin .neq (.t 53) (.c (.int .i64 0)))]) c8_1) c8_17
def c8_19 : C := .seq (.reg [iI 46 (.load 1 (.t 3)), iI 47 (.mv (.t 1)), iI 48 (.call (.c (.fn 30 [])) [(.t 46), (.t 47)]), iI 45 (.mv (.t 48)), iI 49 (.ext (.t 45) 0), iI 50 (.ext (.t 45) 1), iI 10 (.mv (.t 49)), iI 11 (.mv (.t 50))]) c8_18
def c8_20 : C := .seq (.reg [iI 38 (.load 1 (.t 3)), iI 39 (.mv (.t 1)), iI 40 (.faddr 0 (.t 7)), iI 41 (.load 0 (.t 40)), iI 42 (.call (.c (.fn 28 [])) [(.t 38), (.t 39), (.t 41)]), iI 37 (.mv (.t 42)), iI 43 (.ext (.t 37) 0), iI 44 (.ext (.t 37) 1), iI 8 (.mv (.t 43)), iI 9 (.mv (.t 44))]) c8_19
def c8_21 : C := .seq (.reg [iI 27 (.faddr 0 (.t 3)), iI 28 (.load 0 (.t 27)), iI 29 (.mv (.t 2)), iI 30 (.cint .i64 (.t 29)), iI 31 (.faddr 0 (.t 3)), iI 32 (.load 0 (.t 31)), iI 33 (.len 0 (.t 32)), iI 34 (.bin .rem (.t 30) (.t 33)), iI 35 (.iaddr 8 (.t 28) (.t 34)), iI 36 (.load 8 (.t 35)), iI 7 (.alloc [(1, (.int .i64 0)), (1, (.int .u64 0)), (1, (.int .i64 0)), (1, (.int .i64 0)), (1, (.int .i64 0)), (1, (.int .i64 0)), (1, (.str [])), (1, (.str []))]), iN (.store 8 (.t 7) (.t 36))]) c8_20
def c8_22 : C := .seq (.seq (.reg [iI 16 (.load 1 (.t 3)), iI 17 (.mv (.t 1)), iI 18 (.call (.c (.fn 22 [])) [(.t 16), (.t 17)]), iI 19 (.un .not (.t 18)), iI 20 (.mv (.t 19)), iG (some 21) 20 false (.faddr 0 (.t 3)), iG (some 22) 20 false (.load 0 (.t 21)), iG (some 23) 20 false (.len 0 (.t 22)), iG (some 24) 20 false (.bin .eql (.t 23) (.c (.int .i64 0))), iI 25 (.pick (.t 20) (.c (.bool true)) (.t 24))]) c8_0) c8_21
def ir8 : C := .seq (.reg [iI 3 (.box (.t 0)), iI 6 (.mv (.c (.bool false)))]) c8_22
theorem fd8 : fd? Try.prog 8 = some (119, [.slot 6], ir8) := by kernel_rfl
noncomputable def f8 (r_981 : ReceiverReceiver) (t_982 : Int) (n_983 : Int) : Option (Bool) :=
  (f22 r_981 t_982).bind fun r_987 => (if (!r_987) = true then (f15).bind fun r_988 => (some r_988) else (if (decide (((r_981.fInputs.length : Nat) : Int) = 0)) = true then (f15).bind fun r_989 => (some r_989) else (nz? ((r_981.fInputs.length : Nat) : Int)).bind fun _ => (at? r_981.fInputs ((IntKind.i64.wrap n_983).tmod ((r_981.fInputs.length : Nat) : Int))).bind fun x_990 => (f28 r_981 t_982 x_990.fUniverse).bind fun r_1012 => (f30 r_981 t_982).bind fun r_1013 => (if (decide ((IntKind.i64.wrap (r_1012.2 + r_1013.2)) ≠ 0)) = true then (some false) else (f35_36 r_1013.1 x_990.fUniverse x_990.fSource x_990.fPriority x_990.fSeq x_990.fSync x_990.fLast x_990.fSlots x_990.fWait).bind fun r_1043 => (if (!((decide (0 ≤ r_1043)) == (decide (0 < ((r_1012.1.length : Nat) : Int))))) = true then (some false) else (f37 r_1012.1 x_990.fSource).bind fun r_1071 => (if r_1071 = true then (at? r_1013.1 r_1043).bind fun x_1073 => (if (decide (((x_1073.fSlots.length : Nat) : Int) ≠ ((x_990.fSlots.length : Nat) : Int))) = true then (some false) else ((Lp.run (f8_L1 x_990 r_1013 r_1043) 0).bind fun r_ => match r_ with | (Sum.inl _) => (f15).bind fun r_1085 => (some r_1085) | (Sum.inr _) => (some false))) else (f39 r_981.fInputs).bind fun r_1091 => (delf? (fun x_1101 => f40p x_1101 x_990.fUniverse x_990.fSource x_990.fPriority x_990.fSeq x_990.fSync x_990.fLast x_990.fSlots x_990.fWait) r_1091).bind fun v_1102 => (f30 (ReceiverReceiver.mk v_1102) t_982).bind fun r_1103 => (if (decide (r_1103.2 = 0)) = true then (f34 r_1103.1 r_1013.1).bind fun r_1116 => (if r_1116 = true then (f15).bind fun r_1117 => (some r_1117) else (some false)) else (some false)))))))
theorem f8_ok {r_981 : ReceiverReceiver} {t_982 : Int} {n_983 : Int} {r_ : Bool} (H : f8 r_981 t_982 n_983 = some r_) : Pure Try.prog 8 [.agg [.sl 8 false (r_981.fInputs.map eReceiverInput)], .int .i64 t_982, .int .u8 n_983] (· = .bool r_) := by
 refine Pure.walk3 fd8 none (Nat.le_of_ble_eq_true rfl) (by rfl) fun Q hQ => ?_
 simp only [f8] at H
 refine AW.rseq ?_
 try simp only [↓wk, ↓wl, nq, evV, ↓reduceIte, sevalprocAttr]
 refine AW.sseq ?_
 refine AW.rseq ?_
 try simp only [↓wk, ↓wl, nq, evV, ↓reduceIte, sevalprocAttr]
 refine evTs_pure hFn H (fun _ h => f22_ok h) (by rfl) (by rfl) (by rfl) (by rfl) (fun _ => rfl) ?_ <;> clear H <;> intro r_987 H
 try simp only [eL, ↓wk, ↓wl, nq, evV, ↓reduceIte, sevalprocAttr]
 refine evTs_ifg H (by rfl) ?_ ?_ <;> clear H <;> intro H
 ·try simp only [↓wk, ↓wl, nq, evV, ↓reduceIte, sevalprocAttr]
  refine AW.ift (by rfl) ?_
  refine AW.rseq ?_
  try simp only [↓wk, ↓wl, nq, evV, ↓reduceIte, sevalprocAttr]
  refine evTs_pure hFn H (fun _ h => f15_ok h) (by rfl) (by rfl) (by rfl) (by rfl) (fun _ => rfl) ?_ <;> clear H <;> intro r_988 H
  try simp only [eL, ↓wk, ↓wl, nq, evV, ↓reduceIte, sevalprocAttr]
  refine AW.ret ?_
  refine seqQ.ret ?_
  cases H
  exact hQ.fin
 ·try simp only [↓wk, ↓wl, nq, evV, ↓reduceIte, sevalprocAttr]
  refine AW.ifc H (by rfl) ?_ ?_ <;> clear H <;> intro H
  ·refine AW.rseq ?_
   try simp only [↓wk, ↓wl, nq, evV, ↓reduceIte, sevalprocAttr]
   refine evTs_pure hFn H (fun _ h => f15_ok h) (by rfl) (by rfl) (by rfl) (by rfl) (fun _ => rfl) ?_ <;> clear H <;> intro r_989 H
   try simp only [eL, ↓wk, ↓wl, nq, evV, ↓reduceIte, sevalprocAttr]
   refine AW.ret ?_
   refine seqQ.ret ?_
   cases H
   exact hQ.fin
  ·refine AW.skip ?_
   refine seqQ.norm ?_
   refine AW.rseq ?_
   try simp only [↓wk, ↓wl, nq, evV, ↓reduceIte, sevalprocAttr]
   refine rest_rem H ?_ <;> clear H <;> intro H
   try simp only [↓wk, ↓wl, nq, evV, ↓reduceIte, sevalprocAttr]
   refine evTs_at (enc := eReceiverInput) H (by rfl) (by rfl) ?_ <;> clear H <;> intro x_990 H
   try simp only [eReceiverInput, eL, ↓wk, ↓wl, nq, evV, ↓reduceIte, sevalprocAttr]
   refine AW.rseq ?_
   try simp only [↓wk, ↓wl, nq, evV, ↓reduceIte, sevalprocAttr]
   refine evTs_pure hFn H (fun _ h => f28_im h) (by rfl) (by rfl) (by rfl) (by rfl) (fun _ => rfl) ?_ <;> clear H <;> intro r_1012 H
   try simp only [eL, ↓wk, ↓wl, nq, evV, ↓reduceIte, sevalprocAttr]
   refine AW.rseq ?_
   try simp only [↓wk, ↓wl, nq, evV, ↓reduceIte, sevalprocAttr]
   refine evTs_pure hFn H (fun _ h => f30_im h) (by rfl) (by rfl) (by rfl) (by rfl) (fun _ => rfl) ?_ <;> clear H <;> intro r_1013 H
   try simp only [eL, ↓wk, ↓wl, nq, evV, ↓reduceIte, sevalprocAttr]
   refine AW.sseq ?_
   refine AW.rseq ?_
   try simp only [↓wk, ↓wl, nq, evV, ↓reduceIte, sevalprocAttr]
   refine AW.ifc H (by rfl) ?_ ?_ <;> clear H <;> intro H
   ·refine AW.rseq ?_
    try simp only [↓wk, ↓wl, nq, evV, ↓reduceIte, sevalprocAttr]
    refine AW.ret ?_
    refine seqQ.ret ?_
    cases H
    exact hQ.fin
   ·refine AW.skip ?_
    refine seqQ.norm ?_
    refine AW.rseq ?_
    try simp only [↓wk, ↓wl, nq, evV, ↓reduceIte, sevalprocAttr]
    refine evTs_flat hFn H (fun _ h => f35_36_ok h) (by rfl) (by rfl) (by simp only [deep_eq, imm_simps, imm_rowE, imm_ptrE, imm_enc, omap_simps, take_map_len, take_map_set, take_map_set2, List.length_set, le_refl_true, Nat.zero_add, and_true, true_and, List.drop_zero, Option.map_some, ↓wk, ↓wl, nq, evV, ↓reduceIte, sevalprocAttr]; rfl) (by rfl) (fun _ => rfl) (fun _ => rfl) ?_ <;> clear H <;> intro r_1043 H
    try simp only [eL, ↓wk, ↓wl, nq, evV, ↓reduceIte, sevalprocAttr]
    refine AW.sseq ?_
    refine AW.rseq ?_
    try simp only [↓wk, ↓wl, nq, evV, ↓reduceIte, sevalprocAttr]
    refine AW.ifc H (by rfl) ?_ ?_ <;> clear H <;> intro H
    ·refine AW.rseq ?_
     try simp only [↓wk, ↓wl, nq, evV, ↓reduceIte, sevalprocAttr]
     refine AW.ret ?_
     refine seqQ.ret ?_
     cases H
     exact hQ.fin
    ·refine AW.skip ?_
     refine seqQ.norm ?_
     refine AW.sseq ?_
     refine AW.rseq ?_
     try simp only [↓wk, ↓wl, nq, evV, ↓reduceIte, sevalprocAttr]
     refine evTs_pure hFn H (fun _ h => f37_ok h) (by rfl) (by rfl) (by rfl) (by rfl) (fun _ => rfl) ?_ <;> clear H <;> intro r_1071 H
     try simp only [eL, ↓wk, ↓wl, nq, evV, ↓reduceIte, sevalprocAttr]
     refine AW.ifc H (by rfl) ?_ ?_ <;> clear H <;> intro H
     ·refine AW.sseq ?_
      refine AW.rseq ?_
      try simp only [↓wk, ↓wl, nq, evV, ↓reduceIte, sevalprocAttr]
      refine evTs_at (enc := eApiFrame) H (by rfl) (by rfl) ?_ <;> clear H <;> intro x_1073 H
      try simp only [eApiFrame, eL, ↓wk, ↓wl, nq, evV, ↓reduceIte, sevalprocAttr]
      refine AW.ifc H (by rfl) ?_ ?_ <;> clear H <;> intro H
      ·refine AW.rseq ?_
       try simp only [↓wk, ↓wl, nq, evV, ↓reduceIte, sevalprocAttr]
       refine AW.ret ?_
       refine seqQ.ret ?_
       refine seqQ.ret ?_
       cases H
       exact hQ.fin
      ·refine AW.skip ?_
       refine seqQ.norm ?_
       refine AW.sseq ?_
       refine AW.rseq ?_
       try simp only [↓wk, ↓wl, nq, evV, ↓reduceIte, sevalprocAttr]
       refine evTs_rng (by rfl) ?_
       try simp only [↓wk, ↓wl, nq, evV, ↓reduceIte, sevalprocAttr]
       refine AW.bend ?_
       refine AW.iter H ((Le.tz [1, 2] [7, 10, 12, 80] (by simp only [f8_L1c, rrm, ↓wk, ↓wl, evV, ↓reduceIte, sevalprocAttr] <;> rfl))) ?_ <;> clear H
       rintro v_1081 x_ st0_ H hst_
       rw [f8_L1c] at hst_
       simp only [f8_L1] at H
       subst hst_
       refine AW.rseq ?_
       try simp only [↓wk, ↓wl, nq, evV, ↓reduceIte, sevalprocAttr]
       refine evTs_next H (by rfl) (by rfl) ?_ ?_ <;> clear H <;> intro H
       ·try simp only [↓wk, ↓wl, nq, evV, ↓reduceIte, sevalprocAttr]
        refine AW.sseq ?_
        refine AW.ift (by rfl) ?_
        refine AW.skip ?_
        refine seqQ.norm ?_
        refine AW.bend ?_
        refine AW.rseq ?_
        try simp only [↓wk, ↓wl, nq, evV, ↓reduceIte, sevalprocAttr]
        refine AW.rseq ?_
        try simp only [↓wk, ↓wl, nq, evV, ↓reduceIte, sevalprocAttr]
        refine evTs_at (enc := eApiFrame) H (by rfl) (by rfl) ?_ <;> clear H <;> intro x_1086 H
        try simp only [eApiFrame, eL, ↓wk, ↓wl, nq, evV, ↓reduceIte, sevalprocAttr]
        refine evTs_sat H (by rfl) (by rfl) ?_ <;> clear H <;> intro b_1087 H
        try simp only [↓wk, ↓wl, nq, evV, ↓reduceIte, sevalprocAttr]
        refine evTs_sat H (by rfl) (by rfl) ?_ <;> clear H <;> intro b_1088 H
        try simp only [↓wk, ↓wl, nq, evV, ↓reduceIte, sevalprocAttr]
        refine AW.ifc H (by rfl) ?_ ?_ <;> clear H <;> intro H
        ·refine AW.rseq ?_
         try simp only [↓wk, ↓wl, nq, evV, ↓reduceIte, sevalprocAttr]
         refine AW.ret ?_
         refine blk0.ret ?_
         refine loopQ.ret H ?_ <;> clear H <;> intro H
         try dsimp only at H
         refine blk0.ret ?_
         refine seqQ.ret ?_
         refine seqQ.ret ?_
         cases H
         exact hQ.fin
        ·refine AW.skip ?_
         refine blk0.norm ?_
         exact loopQ.next H ((Le.tz [0, 1] [7, 10, 12, 80] (by simp only [f8_L1c, rrm, ↓wk, ↓wl, evV, ↓reduceIte, sevalprocAttr] <;> rfl)))
       ·try simp only [↓wk, ↓wl, nq, evV, ↓reduceIte, sevalprocAttr]
        refine AW.sseq ?_
        refine AW.iff (by rfl) ?_
        refine AW.exit ?_
        refine seqQ.exit ?_
        refine loopQ.exit H ?_ <;> clear H <;> intro H
        try dsimp only at H
        refine blk0.here ?_
        refine seqQ.norm ?_
        refine AW.rseq ?_
        try simp only [↓wk, ↓wl, nq, evV, ↓reduceIte, sevalprocAttr]
        refine evTs_pure hFn H (fun _ h => f15_ok h) (by rfl) (by rfl) (by rfl) (by rfl) (fun _ => rfl) ?_ <;> clear H <;> intro r_1090 H
        try simp only [eL, ↓wk, ↓wl, nq, evV, ↓reduceIte, sevalprocAttr]
        refine AW.ret ?_
        refine seqQ.ret ?_
        cases H
        exact hQ.fin
     ·refine AW.skip ?_
      refine seqQ.norm ?_
      refine AW.rseq ?_
      try simp only [↓wk, ↓wl, nq, evV, ↓reduceIte, sevalprocAttr]
      refine evTs_fr H (fun _ h => f39_ok h) (by rfl) (by rfl) (by rfl) (by rfl) (fun _ => rfl) ?_ <;> clear H <;> intro r_1091 H
      try simp only [eL, ↓wk, ↓wl, nq, evV, ↓reduceIte, sevalprocAttr]
      refine evTs_dlg (enc := eReceiverInput) H [.pro [.int .i64 x_990.fUniverse, .int .u64 x_990.fSource, .int .i64 x_990.fPriority, .int .i64 x_990.fSeq, .int .i64 x_990.fSync, .int .i64 x_990.fLast, .str x_990.fSlots, .str x_990.fWait]] (fun _ _ h => f40p_ok h) dlf38 (by decide) (by rfl) idx77 (by rfl) (by rfl) (by show List.map (renB [0, 1, 2]) _ = _; simp only [rrm, ↓wk, ↓wl, evV, ↓reduceIte, sevalprocAttr]) (by show ren [0, 1, 2] deep _ = _; simp only [rrm, ↓wk, ↓wl, evV, ↓reduceIte, sevalprocAttr]) (fun h_ hh_ x_ => by have e0_ := hh_ 1 _ (by decide) (by rfl); simp only [deep_eq, imm_simps, imm_ptrE, imm_encx (enc := eReceiverInput), omap_simps, List.drop_zero, Option.map_some, e0_, ↓wk, ↓wl, nq, evV, ↓reduceIte, sevalprocAttr] <;> rfl) (by first | rfl | simp only [List.length_set]) (by rfl) ?_ <;> clear H <;> intro v_1102 H
      try simp only [↓wk, ↓wl, nq, evV, ↓reduceIte, sevalprocAttr]
      refine AW.rseq ?_
      try simp only [↓wk, ↓wl, nq, evV, ↓reduceIte, sevalprocAttr]
      refine evTs_frR H (fun _ h => f30_ok h) (by rfl) (by rfl) (by simp only [deep_eq, imm_simps, imm_rowE, imm_ptrE, imm_enc, omap_simps, take_map_len, take_map_set, take_map_set2, List.length_set, le_refl_true, Nat.zero_add, and_true, true_and, List.drop_zero, Option.map_some, ↓wk, ↓wl, nq, evV, ↓reduceIte, sevalprocAttr]; rfl) (by rfl) (fun _ => by simp only [flatR, List.all_cons, List.all_nil, flat_all, Bool.and_true]; try rfl) (fun _ => rfl) ?_ <;> clear H <;> intro r_1103 H
      try simp only [eL, ↓wk, ↓wl, nq, evV, ↓reduceIte, sevalprocAttr]
      refine AW.rseq ?_
      try simp only [↓wk, ↓wl, nq, evV, ↓reduceIte, sevalprocAttr]
      refine evTs_ifg H (by rfl) ?_ ?_ <;> clear H <;> intro H
      ·try simp only [↓wk, ↓wl, nq, evV, ↓reduceIte, sevalprocAttr]
       refine evTs_flat hFn H (fun _ h => f34_ok h) (by rfl) (by rfl) (by simp only [deep_eq, imm_simps, imm_rowE, imm_ptrE, imm_enc, omap_simps, take_map_len, take_map_set, take_map_set2, List.length_set, le_refl_true, Nat.zero_add, and_true, true_and, List.drop_zero, Option.map_some, ↓wk, ↓wl, nq, evV, ↓reduceIte, sevalprocAttr]; rfl) (by rfl) (fun _ => rfl) (fun _ => rfl) ?_ <;> clear H <;> intro r_1116 H
       try simp only [eL, ↓wk, ↓wl, nq, evV, ↓reduceIte, sevalprocAttr]
       refine evTs_ifg H (by rfl) ?_ ?_ <;> clear H <;> intro H
       ·try simp only [↓wk, ↓wl, nq, evV, ↓reduceIte, sevalprocAttr]
        refine evTs_pure hFn H (fun _ h => f15_ok h) (by rfl) (by rfl) (by rfl) (by rfl) (fun _ => rfl) ?_ <;> clear H <;> intro r_1117 H
        try simp only [eL, ↓wk, ↓wl, nq, evV, ↓reduceIte, sevalprocAttr]
        refine AW.ret ?_
        cases H
        exact hQ.fin
       ·try simp only [↓wk, ↓wl, nq, evV, ↓reduceIte, sevalprocAttr]
        refine AW.ret ?_
        cases H
        exact hQ.fin
      ·try simp only [↓wk, ↓wl, nq, evV, ↓reduceIte, sevalprocAttr]
       refine AW.ret ?_
       cases H
       exact hQ.fin
end Go.Proofs.Ytgfohogbechkkaa
