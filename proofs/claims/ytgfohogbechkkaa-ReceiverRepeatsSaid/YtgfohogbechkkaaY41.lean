import Derived.Test.YtgfohogbechkkaaX2
import Derived.Test.YtgfohogbechkkaaProg
import Derived.KernelRfl
namespace Go.Proofs.Ytgfohogbechkkaa
open Go Go.Ab

set_option maxHeartbeats 1000000
set_option linter.unusedSimpArgs false
set_option linter.unusedVariables false
noncomputable def f4_L1 (r_885 : ReceiverReceiver × Bool × Int) (t_871 : Int) (p_872 : NetworkPacket) : Lp (Int × Int) ((Int) ⊕ (Unit)) where
  body := fun (v_926, p_927) => (if (decide (v_926 < ((([0, 1, 7, 19]).length : Nat) : Int))) = true then (at? ([0, 1, 7, 19]) v_926).bind fun x_940 => (f16 r_885.1 t_871 (NetworkPacket.mk p_872.fSource p_872.fUniverse p_872.fPriority ((IntKind.i64.wrap ((IntKind.i64.wrap (p_872.fSeq - x_940)) + 256)).tmod 256) p_872.fSync p_872.fEnd p_872.fSlots)).bind fun r_941 => (if (decide (r_941.2.2 ≠ 0)) = true then (some (.brk (Sum.inr ()))) else (if r_941.2.1 = true then (some (.brk (Sum.inr ()))) else (f18 r_885.1).bind fun r_942 => (f18 r_941.1).bind fun r_943 => (f21 r_942 r_943).bind fun r_944 => (if (!r_944) = true then (some (.brk (Sum.inr ()))) else (some (.next ((IntKind.i64.wrap (v_926 + 1)), ((IntKind.i64.wrap ((IntKind.i64.wrap (p_872.fSeq - x_940)) + 256)).tmod 256))))))) else (some (.brk (Sum.inl p_927))))
  cst := fun (v_926, p_927) => ⟨put (put (put (put (put (put (put (fun _ => .junk) 64 (.int .i64 v_926)) 63 (.int .i64 ((([0, 1, 7, 19]).length : Nat) : Int))) 62 (.sl 0 true (([0, 1, 7, 19]).map (AV.int .i64)))) 10 (.int .i64 p_872.fSeq)) 7 (.ptr 1 0)) 5 (.ptr 0 0)) 1 (.int .i64 t_871), [.cel [.int .u64 p_872.fSource, .int .i64 p_872.fUniverse, .int .i64 p_872.fPriority, .int .i64 p_927, .int .i64 p_872.fSync, .bool p_872.fEnd, .str p_872.fSlots], .cel [.sl 8 false (r_885.1.fInputs.map eReceiverInput)]]⟩
theorem f4_L1c (r_885 : ReceiverReceiver × Bool × Int) (t_871 : Int) (p_872 : NetworkPacket) (v_926 : Int) (p_927 : Int) : (f4_L1 r_885 t_871 p_872).cst (v_926, p_927) = ⟨put (put (put (put (put (put (put (fun _ => .junk) 64 (.int .i64 v_926)) 63 (.int .i64 ((([0, 1, 7, 19]).length : Nat) : Int))) 62 (.sl 0 true (([0, 1, 7, 19]).map (AV.int .i64)))) 10 (.int .i64 p_872.fSeq)) 7 (.ptr 1 0)) 5 (.ptr 0 0)) 1 (.int .i64 t_871), [.cel [.int .u64 p_872.fSource, .int .i64 p_872.fUniverse, .int .i64 p_872.fPriority, .int .i64 p_927, .int .i64 p_872.fSync, .bool p_872.fEnd, .str p_872.fSlots], .cel [.sl 8 false (r_885.1.fInputs.map eReceiverInput)]]⟩ := rfl
def c4_0 : C := .cond (.t 38) (.seq (.reg [iI 39 (.call (.c (.fn 15 [])) []), iI 6 (.mv (.t 39))]) .ret) (.skip)
def c4_1 : C := .cond (.t 49) (.seq (.reg [iI 6 (.mv (.c (.bool false)))]) .ret) (.skip)
def c4_2 : C := .cond (.t 51) (.seq (.regq [iI 52 (.load 1 (.t 7)), iI 53 (.call (.c (.fn 18 [])) [(.t 52)]), iI 54 (.load 1 (.t 3)), iI 55 (.call (.c (.fn 18 [])) [(.t 54)]), iI 56 (.call (.c (.fn 21 [])) [(.t 53), (.t 55)]), iI 57 (.mv (.t 56)), iG (some 58) 57 true (.call (.c (.fn 15 [])) []), iI 59 (.pick (.t 57) (.t 58) (.c (.bool false))), iI 6 (.mv (.t 59))]) .ret) (.skip)
def c4_3 : C := .cond (.t 94) (.seq (.reg [iI 6 (.mv (.c (.bool false)))]) .ret) (.skip)
def c4_4 : C := .seq (.regq [iI 82 (.mv (.t 15)), iI 83 (.bin .neq (.t 82) (.c (.int .i64 0))), iI 84 (.mv (.t 83)), iG (some 85) 84 false (.mv (.t 14)), iI 86 (.pick (.t 84) (.c (.bool true)) (.t 85)), iI 87 (.mv (.t 86)), iG (some 88) 87 false (.load 1 (.t 7)), iG (some 89) 87 false (.call (.c (.fn 18 [])) [(.t 88)]), iG (some 90) 87 false (.load 1 (.t 13)), iG (some 91) 87 false (.call (.c (.fn 18 [])) [(.t 90)]), iG (some 92) 87 false (.call (.c (.fn 21 [])) [(.t 89), (.t 91)]), iG (some 93) 87 false (.un .not (.t 92)), iI 94 (.pick (.t 87) (.c (.bool true)) (.t 93))]) c4_3
def c4_5 : C := .seq (.reg [iI 75 (.load 1 (.t 7)), iI 76 (.mv (.t 1)), iI 77 (.load 7 (.t 5)), iI 78 (.call (.c (.fn 16 [])) [(.t 75), (.t 76), (.t 77)]), iI 74 (.mv (.t 78)), iI 79 (.ext (.t 74) 0), iI 80 (.ext (.t 74) 1), iI 81 (.ext (.t 74) 2), iI 13 (.alloc [(1, (.sl 8 true []))]), iN (.store 1 (.t 13) (.t 79)), iI 14 (.mv (.t 80)), iI 15 (.mv (.t 81))]) c4_4
def c4_6 : C := .seq (.reg [iI 68 (.mv (.t 10)), iI 69 (.mv (.t 12)), iI 70 (.bin .sub (.t 68) (.t 69)), iI 71 (.bin .add (.t 70) (.c (.int .i64 256))), iI 72 (.bin .rem (.t 71) (.c (.int .i64 256))), iI 73 (.faddr 3 (.t 5)), iN (.store 0 (.t 73) (.t 72))]) c4_5
def c4_7 : C := .reg [iI 95 (.bin .add (.t 64) (.c (.int .i64 1))), iI 64 (.mv (.t 95))]
def c4_8 : C := .seq (.block 1 (.seq (.reg [iI 66 (.iaddr 0 (.t 62) (.t 64)), iI 67 (.load 0 (.t 66)), iI 12 (.mv (.t 67))]) c4_6)) c4_7
def c4_9 : C := .seq (.cond (.t 65) (.skip) (.exit 0)) c4_8
def c4_10 : C := .block 0 (.loop (.seq (.reg [iI 65 (.bin .lss (.t 64) (.t 63))]) c4_9))
def c4_11 : C := .seq (.reg [iI 117 (.mv (.t 9)), iI 118 (.mv (.t 20)), iI 119 (.bin .add (.t 117) (.t 118)), iI 120 (.bin .eql (.t 119) (.c (.int .i64 0))), iI 121 (.mv (.t 120)), iG (some 122) 121 true (.mv (.t 17)), iI 123 (.pick (.t 121) (.t 122) (.c (.bool false))), iI 124 (.mv (.t 123)), iG (some 125) 124 true (.mv (.t 19)), iI 126 (.pick (.t 124) (.t 125) (.c (.bool false))), iI 127 (.mv (.t 126)), iG (some 128) 127 true (.faddr 0 (.t 18)), iG (some 129) 127 true (.load 0 (.t 128)), iG (some 130) 127 true (.len 0 (.t 129)), iG (some 131) 127 true (.faddr 0 (.t 7)), iG (some 132) 127 true (.load 0 (.t 131)), iG (some 133) 127 true (.len 0 (.t 132)), iG (some 134) 127 true (.bin .sub (.t 133) (.c (.int .i64 1))), iG (some 135) 127 true (.bin .eql (.t 130) (.t 134)), iI 136 (.pick (.t 127) (.t 135) (.c (.bool false))), iI 137 (.mv (.t 136)), iG (some 138) 137 true (.call (.c (.fn 15 [])) []), iI 139 (.pick (.t 137) (.t 138) (.c (.bool false))), iI 6 (.mv (.t 139))]) .ret
def c4_12 : C := .seq (.reg [iI 110 (.load 1 (.t 7)), iI 111 (.mv (.t 1)), iI 112 (.load 7 (.t 5)), iI 113 (.call (.c (.fn 16 [])) [(.t 110), (.t 111), (.t 112)]), iI 109 (.mv (.t 113)), iI 114 (.ext (.t 109) 0), iI 115 (.ext (.t 109) 1), iI 116 (.ext (.t 109) 2), iI 18 (.alloc [(1, (.sl 8 true []))]), iN (.store 1 (.t 18) (.t 114)), iI 19 (.mv (.t 115)), iI 20 (.mv (.t 116))]) c4_11
def c4_13 : C := .seq (.reg [iI 108 (.faddr 5 (.t 5)), iN (.store 0 (.t 108) (.c (.bool true)))]) c4_12
def c4_14 : C := .seq (.reg [iI 101 (.load 1 (.t 7)), iI 102 (.mv (.t 1)), iI 103 (.load 7 (.t 5)), iI 104 (.call (.c (.fn 16 [])) [(.t 101), (.t 102), (.t 103)]), iI 100 (.mv (.t 104)), iI 105 (.ext (.t 100) 0), iI 106 (.ext (.t 100) 1), iI 107 (.ext (.t 100) 2), iI 16 (.alloc [(1, (.sl 8 true []))]), iN (.store 1 (.t 16) (.t 105)), iI 17 (.mv (.t 106)), iI 9 (.mv (.t 107))]) c4_13
def c4_15 : C := .seq (.reg [iI 96 (.mv (.t 10)), iI 97 (.bin .add (.t 96) (.c (.int .i64 1))), iI 98 (.bin .rem (.t 97) (.c (.int .i64 256))), iI 99 (.faddr 3 (.t 5)), iN (.store 0 (.t 99) (.t 98))]) c4_14
def c4_16 : C := .seq (.seq (.reg [iI 62 (.mkslp 0 4 (.int .i64 0) [(0, (.c (.int .i64 0))), (1, (.c (.int .i64 1))), (2, (.c (.int .i64 7))), (3, (.c (.int .i64 19)))]), iI 63 (.len 0 (.t 62)), iI 64 (.mv (.c (.int .i64 0)))]) c4_10) c4_15
def c4_17 : C := .seq (.reg [iI 60 (.faddr 3 (.t 5)), iI 61 (.load 0 (.t 60)), iI 10 (.mv (.t 61))]) c4_16
def c4_18 : C := .seq (.seq (.reg [iI 50 (.mv (.t 8)), iI 51 (.un .not (.t 50))]) c4_2) c4_17
def c4_19 : C := .seq (.seq (.reg [iI 48 (.mv (.t 9)), iI 49 (.bin .neq (.t 48) (.c (.int .i64 0)))]) c4_1) c4_18
def c4_20 : C := .seq (.reg [iI 41 (.load 1 (.t 3)), iI 42 (.mv (.t 1)), iI 43 (.load 7 (.t 5)), iI 44 (.call (.c (.fn 16 [])) [(.t 41), (.t 42), (.t 43)]), iI 40 (.mv (.t 44)), iI 45 (.ext (.t 40) 0), iI 46 (.ext (.t 40) 1), iI 47 (.ext (.t 40) 2), iI 7 (.alloc [(1, (.sl 8 true []))]), iN (.store 1 (.t 7) (.t 45)), iI 8 (.mv (.t 46)), iI 9 (.mv (.t 47))]) c4_19
def c4_21 : C := .seq (.seq (.reg [iI 21 (.load 1 (.t 3)), iI 22 (.mv (.t 1)), iI 23 (.call (.c (.fn 22 [])) [(.t 21), (.t 22)]), iI 24 (.un .not (.t 23)), iI 25 (.mv (.t 24)), iG (some 26) 25 false (.load 7 (.t 5)), iG (some 27) 25 false (.call (.c (.fn 23 [])) [(.t 26)]), iG (some 28) 25 false (.bin .neq (.t 27) (.c (.int .i64 0))), iI 29 (.pick (.t 25) (.c (.bool true)) (.t 28)), iI 30 (.mv (.t 29)), iG (some 31) 30 false (.faddr 1 (.t 5)), iG (some 32) 30 false (.load 0 (.t 31)), iG (some 33) 30 false (.bin .eql (.t 32) (.c (.int .i64 0))), iI 34 (.pick (.t 30) (.c (.bool true)) (.t 33)), iI 35 (.mv (.t 34)), iG (some 36) 35 false (.faddr 5 (.t 5)), iG (some 37) 35 false (.load 0 (.t 36)), iI 38 (.pick (.t 35) (.c (.bool true)) (.t 37))]) c4_0) c4_20
def ir4 : C := .seq (.reg [iI 3 (.box (.t 0)), iI 5 (.box (.t 2)), iI 6 (.mv (.c (.bool false)))]) c4_21
theorem fd4 : fd? Try.prog 4 = some (140, [.slot 6], ir4) := by kernel_rfl
noncomputable def f4 (r_870 : ReceiverReceiver) (t_871 : Int) (p_872 : NetworkPacket) : Option (Bool) :=
  (f22 r_870 t_871).bind fun r_879 => (if (!r_879) = true then (f15).bind fun r_880 => (some r_880) else (f23 (Ref56Packet.mk p_872.fSource p_872.fUniverse p_872.fPriority p_872.fSeq p_872.fSync p_872.fEnd p_872.fSlots)).bind fun r_881 => (if (decide (r_881 ≠ 0)) = true then (f15).bind fun r_882 => (some r_882) else (if (decide (p_872.fUniverse = 0)) = true then (f15).bind fun r_883 => (some r_883) else (if p_872.fEnd = true then (f15).bind fun r_884 => (some r_884) else (f16 r_870 t_871 p_872).bind fun r_885 => (if (decide (r_885.2.2 ≠ 0)) = true then (some false) else (if (!r_885.2.1) = true then (f18 r_885.1).bind fun r_890 => (f18 r_870).bind fun r_891 => (f21 r_890 r_891).bind fun r_892 => (if r_892 = true then (f15).bind fun r_893 => (some r_893) else (some false)) else ((Lp.run (f4_L1 r_885 t_871 p_872) (0, p_872.fSeq)).bind fun r_ => match r_ with | (Sum.inl p_933) => (f16 r_885.1 t_871 (NetworkPacket.mk p_872.fSource p_872.fUniverse p_872.fPriority ((IntKind.i64.wrap (p_872.fSeq + 1)).tmod 256) p_872.fSync p_872.fEnd p_872.fSlots)).bind fun r_934 => (f16 r_885.1 t_871 (NetworkPacket.mk p_872.fSource p_872.fUniverse p_872.fPriority ((IntKind.i64.wrap (p_872.fSeq + 1)).tmod 256) p_872.fSync true p_872.fSlots)).bind fun r_935 => (if (decide ((IntKind.i64.wrap (r_934.2.2 + r_935.2.2)) = 0)) = true then (if r_934.2.1 = true then (if r_935.2.1 = true then (if (decide (((r_935.1.fInputs.length : Nat) : Int) = (IntKind.i64.wrap (((r_885.1.fInputs.length : Nat) : Int) - 1)))) = true then (f15).bind fun r_936 => (some r_936) else (some false)) else (some false)) else (some false)) else (some false)) | (Sum.inr _) => (some false))))))))
theorem f4_ok {r_870 : ReceiverReceiver} {t_871 : Int} {p_872 : NetworkPacket} {r_ : Bool} (H : f4 r_870 t_871 p_872 = some r_) : Pure Try.prog 4 [.agg [.sl 8 false (r_870.fInputs.map eReceiverInput)], .int .i64 t_871, .agg [.int .u64 p_872.fSource, .int .i64 p_872.fUniverse, .int .i64 p_872.fPriority, .int .i64 p_872.fSeq, .int .i64 p_872.fSync, .bool p_872.fEnd, .str p_872.fSlots]] (· = .bool r_) := by
  refine Pure.walk3 fd4 none (Nat.le_of_ble_eq_true rfl) (by rfl) fun Q hQ => ?_
  simp only [f4] at H
  refine AW.rseq ?_
  try simp only [↓wk, ↓wl, nc, evV, wrapBits_eq, ↓reduceIte, sevalprocAttr]
  refine AW.sseq ?_
  refine AW.rseq ?_
  try simp only [↓wk, ↓wl, nc, evV, wrapBits_eq, ↓reduceIte, sevalprocAttr]
  refine evTs_pure hFn H (fun _ h => f22_ok h) (by rfl) (by rfl) (by rfl) (by rfl) (fun _ => rfl) ?_ <;> clear H <;> intro r_879 H
  try simp only [eL, ↓wk, ↓wl, nc, evV, wrapBits_eq, ↓reduceIte, sevalprocAttr]
  refine evTs_ifg H (by rfl) ?_ ?_ <;> clear H <;> intro H
  · try simp only [↓wk, ↓wl, nc, evV, wrapBits_eq, ↓reduceIte, sevalprocAttr]
    refine AW.ift (by rfl) ?_
    refine AW.rseq ?_
    try simp only [↓wk, ↓wl, nc, evV, wrapBits_eq, ↓reduceIte, sevalprocAttr]
    refine evTs_pure hFn H (fun _ h => f15_ok h) (by rfl) (by rfl) (by rfl) (by rfl) (fun _ => rfl) ?_ <;> clear H <;> intro r_880 H
    try simp only [eL, ↓wk, ↓wl, nc, evV, wrapBits_eq, ↓reduceIte, sevalprocAttr]
    refine AW.ret ?_
    refine seqQ.ret ?_
    cases H
    exact hQ _ _ _ _ (.inr rfl) (by simp only [resVs, omap, resV, ↓wk, ↓wl, nc, evV, wrapBits_eq, ↓reduceIte, sevalprocAttr]; rfl) (hand_plain (by rfl)) (by first | exact Or.inl rfl | exact Or.inr rfl)
  · try simp only [↓wk, ↓wl, nc, evV, wrapBits_eq, ↓reduceIte, sevalprocAttr]
    refine evTs_pure hFn H (fun _ h => f23_ok h) (by rfl) (by rfl) (by rfl) (by rfl) (fun _ => rfl) ?_ <;> clear H <;> intro r_881 H
    try simp only [eL, ↓wk, ↓wl, nc, evV, wrapBits_eq, ↓reduceIte, sevalprocAttr]
    refine evTs_ifg H (by rfl) ?_ ?_ <;> clear H <;> intro H
    · try simp only [↓wk, ↓wl, nc, evV, wrapBits_eq, ↓reduceIte, sevalprocAttr]
      refine AW.ift (by rfl) ?_
      refine AW.rseq ?_
      try simp only [↓wk, ↓wl, nc, evV, wrapBits_eq, ↓reduceIte, sevalprocAttr]
      refine evTs_pure hFn H (fun _ h => f15_ok h) (by rfl) (by rfl) (by rfl) (by rfl) (fun _ => rfl) ?_ <;> clear H <;> intro r_882 H
      try simp only [eL, ↓wk, ↓wl, nc, evV, wrapBits_eq, ↓reduceIte, sevalprocAttr]
      refine AW.ret ?_
      refine seqQ.ret ?_
      cases H
      exact hQ _ _ _ _ (.inr rfl) (by simp only [resVs, omap, resV, ↓wk, ↓wl, nc, evV, wrapBits_eq, ↓reduceIte, sevalprocAttr]; rfl) (hand_plain (by rfl)) (by first | exact Or.inl rfl | exact Or.inr rfl)
    · try simp only [↓wk, ↓wl, nc, evV, wrapBits_eq, ↓reduceIte, sevalprocAttr]
      refine evTs_ifg H (by rfl) ?_ ?_ <;> clear H <;> intro H
      · try simp only [↓wk, ↓wl, nc, evV, wrapBits_eq, ↓reduceIte, sevalprocAttr]
        refine AW.ift (by rfl) ?_
        refine AW.rseq ?_
        try simp only [↓wk, ↓wl, nc, evV, wrapBits_eq, ↓reduceIte, sevalprocAttr]
        refine evTs_pure hFn H (fun _ h => f15_ok h) (by rfl) (by rfl) (by rfl) (by rfl) (fun _ => rfl) ?_ <;> clear H <;> intro r_883 H
        try simp only [eL, ↓wk, ↓wl, nc, evV, wrapBits_eq, ↓reduceIte, sevalprocAttr]
        refine AW.ret ?_
        refine seqQ.ret ?_
        cases H
        exact hQ _ _ _ _ (.inr rfl) (by simp only [resVs, omap, resV, ↓wk, ↓wl, nc, evV, wrapBits_eq, ↓reduceIte, sevalprocAttr]; rfl) (hand_plain (by rfl)) (by first | exact Or.inl rfl | exact Or.inr rfl)
      · try simp only [↓wk, ↓wl, nc, evV, wrapBits_eq, ↓reduceIte, sevalprocAttr]
        refine AW.ifc H (by rfl) ?_ ?_ <;> clear H <;> intro H
        · refine AW.rseq ?_
          try simp only [↓wk, ↓wl, nc, evV, wrapBits_eq, ↓reduceIte, sevalprocAttr]
          refine evTs_pure hFn H (fun _ h => f15_ok h) (by rfl) (by rfl) (by rfl) (by rfl) (fun _ => rfl) ?_ <;> clear H <;> intro r_884 H
          try simp only [eL, ↓wk, ↓wl, nc, evV, wrapBits_eq, ↓reduceIte, sevalprocAttr]
          refine AW.ret ?_
          refine seqQ.ret ?_
          cases H
          exact hQ _ _ _ _ (.inr rfl) (by simp only [resVs, omap, resV, ↓wk, ↓wl, nc, evV, wrapBits_eq, ↓reduceIte, sevalprocAttr]; rfl) (hand_plain (by rfl)) (by first | exact Or.inl rfl | exact Or.inr rfl)
        · refine AW.skip ?_
          refine seqQ.norm ?_
          refine AW.rseq ?_
          try simp only [↓wk, ↓wl, nc, evV, wrapBits_eq, ↓reduceIte, sevalprocAttr]
          refine evTs_pure hFn H (fun _ h => f16_ok h) (by rfl) (by rfl) (by rfl) (by rfl) (fun _ => rfl) ?_ <;> clear H <;> intro r_885 H
          try simp only [eL, eReceiverReceiver, ↓wk, ↓wl, nc, evV, wrapBits_eq, ↓reduceIte, sevalprocAttr]
          refine AW.sseq ?_
          refine AW.rseq ?_
          try simp only [↓wk, ↓wl, nc, evV, wrapBits_eq, ↓reduceIte, sevalprocAttr]
          refine AW.ifc H (by rfl) ?_ ?_ <;> clear H <;> intro H
          · refine AW.rseq ?_
            try simp only [↓wk, ↓wl, nc, evV, wrapBits_eq, ↓reduceIte, sevalprocAttr]
            refine AW.ret ?_
            refine seqQ.ret ?_
            cases H
            exact hQ _ _ _ _ (.inr rfl) (by simp only [resVs, omap, resV, ↓wk, ↓wl, nc, evV, wrapBits_eq, ↓reduceIte, sevalprocAttr]; rfl) (hand_plain (by rfl)) (by first | exact Or.inl rfl | exact Or.inr rfl)
          · refine AW.skip ?_
            refine seqQ.norm ?_
            refine AW.sseq ?_
            refine AW.rseq ?_
            try simp only [↓wk, ↓wl, nc, evV, wrapBits_eq, ↓reduceIte, sevalprocAttr]
            refine AW.ifc H (by rfl) ?_ ?_ <;> clear H <;> intro H
            · refine AW.rqseq ?_
              try simp only [↓wk, ↓wl, nc, evV, wrapBits_eq, ↓reduceIte, sevalprocAttr]
              refine evTs_pure hFnq H (fun _ h => f18_ok h) (by rfl) (by rfl) (by rfl) (by rfl) (fun _ => rfl) ?_ <;> clear H <;> intro r_890 H
              try simp only [eL, eRef57Receiver, ↓wk, ↓wl, nc, evV, wrapBits_eq, ↓reduceIte, sevalprocAttr]
              refine evTs_pure hFnq H (fun _ h => f18_ok h) (by rfl) (by rfl) (by rfl) (by rfl) (fun _ => rfl) ?_ <;> clear H <;> intro r_891 H
              try simp only [eL, eRef57Receiver, ↓wk, ↓wl, nc, evV, wrapBits_eq, ↓reduceIte, sevalprocAttr]
              refine evTs_pure hFnq H (fun _ h => f21_ok h) (by rfl) (by rfl) (by rfl) (by rfl) (fun _ => rfl) ?_ <;> clear H <;> intro r_892 H
              try simp only [eL, ↓wk, ↓wl, nc, evV, wrapBits_eq, ↓reduceIte, sevalprocAttr]
              refine evTs_ifg H (by rfl) ?_ ?_ <;> clear H <;> intro H
              · try simp only [↓wk, ↓wl, nc, evV, wrapBits_eq, ↓reduceIte, sevalprocAttr]
                refine evTs_pure hFnq H (fun _ h => f15_ok h) (by rfl) (by rfl) (by rfl) (by rfl) (fun _ => rfl) ?_ <;> clear H <;> intro r_893 H
                try simp only [eL, ↓wk, ↓wl, nc, evV, wrapBits_eq, ↓reduceIte, sevalprocAttr]
                refine AW.ret ?_
                refine seqQ.ret ?_
                cases H
                exact hQ _ _ _ _ (.inr rfl) (by simp only [resVs, omap, resV, ↓wk, ↓wl, nc, evV, wrapBits_eq, ↓reduceIte, sevalprocAttr]; rfl) (hand_plain (by rfl)) (by first | exact Or.inl rfl | exact Or.inr rfl)
              · try simp only [↓wk, ↓wl, nc, evV, wrapBits_eq, ↓reduceIte, sevalprocAttr]
                refine AW.ret ?_
                refine seqQ.ret ?_
                cases H
                exact hQ _ _ _ _ (.inr rfl) (by simp only [resVs, omap, resV, ↓wk, ↓wl, nc, evV, wrapBits_eq, ↓reduceIte, sevalprocAttr]; rfl) (hand_plain (by rfl)) (by first | exact Or.inl rfl | exact Or.inr rfl)
            · refine AW.skip ?_
              refine seqQ.norm ?_
              refine AW.rseq ?_
              try simp only [↓wk, ↓wl, nc, evV, wrapBits_eq, ↓reduceIte, sevalprocAttr]
              refine AW.sseq ?_
              refine AW.rseq ?_
              try simp only [↓wk, ↓wl, nc, evV, wrapBits_eq, ↓reduceIte, sevalprocAttr]
              refine AW.bend ?_
              refine AW.iter H ((Le.none [1, 2] [1, 5, 7, 10, 62, 63, 64] (by decide) (by simp only [f4_L1c, rrl, Option.map_some, vm, List.idxOf?_cons, List.idxOf?_nil, beq_self_eq_true, Option.map_none, List.getD_cons_zero, List.getD_cons_succ, ↓wk, ↓wl, nc, evV, wrapBits_eq, ↓reduceIte, sevalprocAttr] <;> rfl))) ?_ <;> clear H
              rintro ⟨v_926, p_927⟩ x_ st0_ H hst_
              rw [f4_L1c] at hst_
              simp only [f4_L1] at H
              subst hst_
              refine AW.rseq ?_
              try simp only [↓wk, ↓wl, nc, evV, wrapBits_eq, ↓reduceIte, sevalprocAttr]
              refine AW.sseq ?_
              refine AW.ifc H (by rfl) ?_ ?_ <;> clear H <;> intro H
              · refine AW.skip ?_
                refine seqQ.norm ?_
                refine AW.bseq ?_
                refine AW.rseq ?_
                try simp only [↓wk, ↓wl, nc, evV, wrapBits_eq, ↓reduceIte, sevalprocAttr]
                refine evTs_at (enc := (AV.int .i64)) H (by rfl) (by rfl) ?_ <;> clear H <;> intro x_940 H
                try simp only [↓wk, ↓wl, nc, evV, wrapBits_eq, ↓reduceIte, sevalprocAttr]
                refine AW.rseq ?_
                try simp only [↓wk, ↓wl, nc, evV, wrapBits_eq, ↓reduceIte, sevalprocAttr]
                refine AW.rseq ?_
                try simp only [↓wk, ↓wl, nc, evV, wrapBits_eq, ↓reduceIte, sevalprocAttr]
                refine evTs_pure hFn H (fun _ h => f16_ok h) (by rfl) (by rfl) (by rfl) (by rfl) (fun _ => rfl) ?_ <;> clear H <;> intro r_941 H
                try simp only [eL, eReceiverReceiver, ↓wk, ↓wl, nc, evV, wrapBits_eq, ↓reduceIte, sevalprocAttr]
                refine AW.rqseq ?_
                try simp only [↓wk, ↓wl, nc, evV, wrapBits_eq, ↓reduceIte, sevalprocAttr]
                refine evTs_ifg H (by rfl) ?_ ?_ <;> clear H <;> intro H
                · try simp only [↓wk, ↓wl, nc, evV, wrapBits_eq, ↓reduceIte, sevalprocAttr]
                  refine AW.ift (by rfl) ?_
                  refine AW.rseq ?_
                  try simp only [↓wk, ↓wl, nc, evV, wrapBits_eq, ↓reduceIte, sevalprocAttr]
                  refine AW.ret ?_
                  refine blkQ.ret ?_
                  refine loopQ.ret H ?_ <;> clear H <;> intro H
                  try dsimp only at H
                  refine blk0.ret ?_
                  refine seqQ.ret ?_
                  cases H
                  exact hQ _ _ _ _ (.inr rfl) (by simp only [resVs, omap, resV, ↓wk, ↓wl, nc, evV, wrapBits_eq, ↓reduceIte, sevalprocAttr]; rfl) (hand_plain (by rfl)) (by first | exact Or.inl rfl | exact Or.inr rfl)
                · try simp only [↓wk, ↓wl, nc, evV, wrapBits_eq, ↓reduceIte, sevalprocAttr]
                  refine evTs_ifg H (by rfl) ?_ ?_ <;> clear H <;> intro H
                  · try simp only [↓wk, ↓wl, nc, evV, wrapBits_eq, ↓reduceIte, sevalprocAttr]
                    refine AW.ift (by rfl) ?_
                    refine AW.rseq ?_
                    try simp only [↓wk, ↓wl, nc, evV, wrapBits_eq, ↓reduceIte, sevalprocAttr]
                    refine AW.ret ?_
                    refine blkQ.ret ?_
                    refine loopQ.ret H ?_ <;> clear H <;> intro H
                    try dsimp only at H
                    refine blk0.ret ?_
                    refine seqQ.ret ?_
                    cases H
                    exact hQ _ _ _ _ (.inr rfl) (by simp only [resVs, omap, resV, ↓wk, ↓wl, nc, evV, wrapBits_eq, ↓reduceIte, sevalprocAttr]; rfl) (hand_plain (by rfl)) (by first | exact Or.inl rfl | exact Or.inr rfl)
                  · try simp only [↓wk, ↓wl, nc, evV, wrapBits_eq, ↓reduceIte, sevalprocAttr]
                    refine evTs_pure hFnq H (fun _ h => f18_ok h) (by rfl) (by rfl) (by rfl) (by rfl) (fun _ => rfl) ?_ <;> clear H <;> intro r_942 H
                    try simp only [eL, eRef57Receiver, ↓wk, ↓wl, nc, evV, wrapBits_eq, ↓reduceIte, sevalprocAttr]
                    refine evTs_pure hFnq H (fun _ h => f18_ok h) (by rfl) (by rfl) (by rfl) (by rfl) (fun _ => rfl) ?_ <;> clear H <;> intro r_943 H
                    try simp only [eL, eRef57Receiver, ↓wk, ↓wl, nc, evV, wrapBits_eq, ↓reduceIte, sevalprocAttr]
                    refine evTs_pure hFnq H (fun _ h => f21_ok h) (by rfl) (by rfl) (by rfl) (by rfl) (fun _ => rfl) ?_ <;> clear H <;> intro r_944 H
                    try simp only [eL, ↓wk, ↓wl, nc, evV, wrapBits_eq, ↓reduceIte, sevalprocAttr]
                    refine AW.ifc H (by rfl) ?_ ?_ <;> clear H <;> intro H
                    · refine AW.rseq ?_
                      try simp only [↓wk, ↓wl, nc, evV, wrapBits_eq, ↓reduceIte, sevalprocAttr]
                      refine AW.ret ?_
                      refine blkQ.ret ?_
                      refine loopQ.ret H ?_ <;> clear H <;> intro H
                      try dsimp only at H
                      refine blk0.ret ?_
                      refine seqQ.ret ?_
                      cases H
                      exact hQ _ _ _ _ (.inr rfl) (by simp only [resVs, omap, resV, ↓wk, ↓wl, nc, evV, wrapBits_eq, ↓reduceIte, sevalprocAttr]; rfl) (hand_plain (by rfl)) (by first | exact Or.inl rfl | exact Or.inr rfl)
                    · refine AW.skip ?_
                      refine blkQ.norm ?_
                      refine AW.rend ?_
                      try simp only [↓wk, ↓wl, nc, evV, wrapBits_eq, ↓reduceIte, sevalprocAttr]
                      exact loopQ.next H ((Le.none [0, 1] [1, 5, 7, 10, 62, 63, 64] (by decide) (by simp only [f4_L1c, rrl, Option.map_some, vm, List.idxOf?_cons, List.idxOf?_nil, beq_self_eq_true, Option.map_none, List.getD_cons_zero, List.getD_cons_succ, ↓wk, ↓wl, nc, evV, wrapBits_eq, ↓reduceIte, sevalprocAttr] <;> rfl)))
              · refine AW.exit ?_
                refine seqQ.exit ?_
                refine loopQ.exit H ?_ <;> clear H <;> intro H
                try dsimp only at H
                refine blk0.here ?_
                refine seqQ.norm ?_
                refine AW.rseq ?_
                try simp only [↓wk, ↓wl, nc, evV, wrapBits_eq, ↓reduceIte, sevalprocAttr]
                refine AW.rseq ?_
                try simp only [↓wk, ↓wl, nc, evV, wrapBits_eq, ↓reduceIte, sevalprocAttr]
                refine evTs_pure hFn H (fun _ h => f16_ok h) (by rfl) (by rfl) (by rfl) (by rfl) (fun _ => rfl) ?_ <;> clear H <;> intro r_945 H
                try simp only [eL, eReceiverReceiver, ↓wk, ↓wl, nc, evV, wrapBits_eq, ↓reduceIte, sevalprocAttr]
                refine AW.rseq ?_
                try simp only [↓wk, ↓wl, nc, evV, wrapBits_eq, ↓reduceIte, sevalprocAttr]
                refine AW.rseq ?_
                try simp only [↓wk, ↓wl, nc, evV, wrapBits_eq, ↓reduceIte, sevalprocAttr]
                refine evTs_pure hFn H (fun _ h => f16_ok h) (by rfl) (by rfl) (by rfl) (by rfl) (fun _ => rfl) ?_ <;> clear H <;> intro r_946 H
                try simp only [eL, eReceiverReceiver, ↓wk, ↓wl, nc, evV, wrapBits_eq, ↓reduceIte, sevalprocAttr]
                refine AW.rseq ?_
                try simp only [↓wk, ↓wl, nc, evV, wrapBits_eq, ↓reduceIte, sevalprocAttr]
                refine evTs_ifg H (by rfl) ?_ ?_ <;> clear H <;> intro H
                · try simp only [↓wk, ↓wl, nc, evV, wrapBits_eq, ↓reduceIte, sevalprocAttr]
                  refine evTs_ifg H (by rfl) ?_ ?_ <;> clear H <;> intro H
                  · try simp only [↓wk, ↓wl, nc, evV, wrapBits_eq, ↓reduceIte, sevalprocAttr]
                    refine evTs_ifg H (by rfl) ?_ ?_ <;> clear H <;> intro H
                    · try simp only [↓wk, ↓wl, nc, evV, wrapBits_eq, ↓reduceIte, sevalprocAttr]
                      refine evTs_ifg H (by rfl) ?_ ?_ <;> clear H <;> intro H
                      · try simp only [↓wk, ↓wl, nc, evV, wrapBits_eq, ↓reduceIte, sevalprocAttr]
                        refine evTs_pure hFn H (fun _ h => f15_ok h) (by rfl) (by rfl) (by rfl) (by rfl) (fun _ => rfl) ?_ <;> clear H <;> intro r_947 H
                        try simp only [eL, ↓wk, ↓wl, nc, evV, wrapBits_eq, ↓reduceIte, sevalprocAttr]
                        refine AW.ret ?_
                        cases H
                        exact hQ _ _ _ _ (.inr rfl) (by simp only [resVs, omap, resV, ↓wk, ↓wl, nc, evV, wrapBits_eq, ↓reduceIte, sevalprocAttr]; rfl) (hand_plain (by rfl)) (by first | exact Or.inl rfl | exact Or.inr rfl)
                      · try simp only [↓wk, ↓wl, nc, evV, wrapBits_eq, ↓reduceIte, sevalprocAttr]
                        refine AW.ret ?_
                        cases H
                        exact hQ _ _ _ _ (.inr rfl) (by simp only [resVs, omap, resV, ↓wk, ↓wl, nc, evV, wrapBits_eq, ↓reduceIte, sevalprocAttr]; rfl) (hand_plain (by rfl)) (by first | exact Or.inl rfl | exact Or.inr rfl)
                    · try simp only [↓wk, ↓wl, nc, evV, wrapBits_eq, ↓reduceIte, sevalprocAttr]
                      refine AW.ret ?_
                      cases H
                      exact hQ _ _ _ _ (.inr rfl) (by simp only [resVs, omap, resV, ↓wk, ↓wl, nc, evV, wrapBits_eq, ↓reduceIte, sevalprocAttr]; rfl) (hand_plain (by rfl)) (by first | exact Or.inl rfl | exact Or.inr rfl)
                  · try simp only [↓wk, ↓wl, nc, evV, wrapBits_eq, ↓reduceIte, sevalprocAttr]
                    refine AW.ret ?_
                    cases H
                    exact hQ _ _ _ _ (.inr rfl) (by simp only [resVs, omap, resV, ↓wk, ↓wl, nc, evV, wrapBits_eq, ↓reduceIte, sevalprocAttr]; rfl) (hand_plain (by rfl)) (by first | exact Or.inl rfl | exact Or.inr rfl)
                · try simp only [↓wk, ↓wl, nc, evV, wrapBits_eq, ↓reduceIte, sevalprocAttr]
                  refine AW.ret ?_
                  cases H
                  exact hQ _ _ _ _ (.inr rfl) (by simp only [resVs, omap, resV, ↓wk, ↓wl, nc, evV, wrapBits_eq, ↓reduceIte, sevalprocAttr]; rfl) (hand_plain (by rfl)) (by first | exact Or.inl rfl | exact Or.inr rfl)
end Go.Proofs.Ytgfohogbechkkaa
