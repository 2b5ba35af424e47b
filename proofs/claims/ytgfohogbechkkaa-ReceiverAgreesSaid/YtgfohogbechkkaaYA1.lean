import Derived.Test.YtgfohogbechkkaaXA2
import Derived.Test.YtgfohogbechkkaaM6
import Derived.Test.YtgfohogbechkkaaProg
import Derived.KernelRfl
namespace Go.Proofs.Ytgfohogbechkkaa
open Go Go.Ab

set_option maxHeartbeats 1000000
set_option maxRecDepth 4000
set_option linter.unusedSimpArgs false
set_option linter.unusedVariables false
structure NetworkStream where
  fUniverse : Int
  fSeq : Int
  fLast : Int
  fTimes : Int
  fSlots : (List UInt8)
def eNetworkStream (x : NetworkStream) : AV := .agg [.int .i64 x.fUniverse, .int .i64 x.fSeq, .int .i64 x.fLast, .int .i64 x.fTimes, .str x.fSlots]
instance : IsFlat eNetworkStream := ⟨fun _ => rfl⟩
instance : IsEnc 5 eNetworkStream := ⟨fun _ => rfl, fun _ => rfl, fun _ => rfl⟩
structure NetworkSender where
  fSource : Int
  fPriority : Int
  fSync : Int
  fPulse : Int
  fStreams : (List NetworkStream)
def eNetworkSender (x : NetworkSender) : AV := .agg [.int .u64 x.fSource, .int .i64 x.fPriority, .int .i64 x.fSync, .int .i64 x.fPulse, .sl 5 false (x.fStreams.map eNetworkStream)]
instance : IsEnc 5 eNetworkSender := ⟨fun _ => rfl, fun _ => rfl, fun _ => rfl⟩
noncomputable def f41_L1 (l_2574 : (List ApiFrame)) : Lp (Int) ((Unit) ⊕ (Int)) where
  body := fun i_2590 => (if (decide (i_2590 < ((l_2574.length : Nat) : Int))) = true then (at? l_2574 i_2590).bind fun x_2602 => (if (decide (x_2602.fUniverse < 1)) = true then (some (.brk (Sum.inr 2))) else (at? l_2574 i_2590).bind fun x_2603 => (if (decide (8 < x_2603.fUniverse)) = true then (some (.brk (Sum.inr 2))) else (at? l_2574 i_2590).bind fun x_2605 => (if (decide (((x_2605.fSlots.length : Nat) : Int) ≠ 512)) = true then (some (.brk (Sum.inr 14))) else (if (decide (0 < i_2590)) = true then (at? l_2574 i_2590).bind fun x_2606 => (at? l_2574 (IntKind.i64.wrap (i_2590 - 1))).bind fun x_2607 => (if (decide (x_2606.fUniverse ≤ x_2607.fUniverse)) = true then (some (.brk (Sum.inr 9))) else (some (.next (IntKind.i64.wrap (i_2590 + 1))))) else (some (.next (IntKind.i64.wrap (i_2590 + 1)))))))) else (some (.brk (Sum.inl ()))))
  cst := fun i_2590 => ⟨put (put (fun _ => .junk) 3 (.int .i64 i_2590)) 0 (.sl 2 false (l_2574.map eApiFrame)), []⟩
theorem f41_L1c (l_2574 : (List ApiFrame)) (i_2590 : Int) : (f41_L1 l_2574).cst i_2590 = ⟨put (put (fun _ => .junk) 3 (.int .i64 i_2590)) 0 (.sl 2 false (l_2574.map eApiFrame)), []⟩ := rfl
def c41_0 : C := .cond (.t 6) (.seq (.reg [iI 2 (.mv (.c (.int .i64 5)))]) .ret) (.skip)
def c41_1 : C := .cond (.t 10) (.skip) (.exit 0)
def c41_2 : C := .cond (.t 26) (.seq (.reg [iI 2 (.mv (.c (.int .i64 2)))]) .ret) (.skip)
def c41_3 : C := .cond (.t 33) (.seq (.reg [iI 2 (.mv (.c (.int .i64 14)))]) .ret) (.skip)
def c41_4 : C := .cond (.t 49) (.seq (.reg [iI 2 (.mv (.c (.int .i64 9)))]) .ret) (.skip)
def c41_5 : C := .seq (.reg [iI 34 (.mv (.t 3)), iI 35 (.bin .gtr (.t 34) (.c (.int .i64 0))), iI 36 (.mv (.t 35)), iG (some 37) 36 true (.mv (.t 0)), iG (some 38) 36 true (.mv (.t 3)), iG (some 39) 36 true (.iaddr 2 (.t 37) (.t 38)), iG (some 40) 36 true (.faddr 0 (.t 39)), iG (some 41) 36 true (.load 0 (.t 40)), iG (some 42) 36 true (.mv (.t 0)), iG (some 43) 36 true (.mv (.t 3)), iG (some 44) 36 true (.bin .sub (.t 43) (.c (.int .i64 1))), iG (some 45) 36 true (.iaddr 2 (.t 42) (.t 44)), iG (some 46) 36 true (.faddr 0 (.t 45)), iG (some 47) 36 true (.load 0 (.t 46)), iG (some 48) 36 true (.bin .leq (.t 41) (.t 47)), iI 49 (.pick (.t 36) (.t 48) (.c (.bool false)))]) c41_4
def c41_6 : C := .seq (.seq (.reg [iI 27 (.mv (.t 0)), iI 28 (.mv (.t 3)), iI 29 (.iaddr 2 (.t 27) (.t 28)), iI 30 (.faddr 1 (.t 29)), iI 31 (.load 0 (.t 30)), iI 32 (.len 1 (.t 31)), iI 33 (.bin .neq (.t 32) (.c (.int .i64 512)))]) c41_3) c41_5
def c41_7 : C := .reg [iI 11 (.mv (.t 3)), iI 12 (.bin .add (.t 11) (.c (.int .i64 1))), iI 3 (.mv (.t 12))]
def c41_8 : C := .seq (.block 1 (.seq (.seq (.reg [iI 13 (.mv (.t 0)), iI 14 (.mv (.t 3)), iI 15 (.iaddr 2 (.t 13) (.t 14)), iI 16 (.faddr 0 (.t 15)), iI 17 (.load 0 (.t 16)), iI 18 (.bin .lss (.t 17) (.c (.int .i64 1))), iI 19 (.mv (.t 18)), iG (some 20) 19 false (.mv (.t 0)), iG (some 21) 19 false (.mv (.t 3)), iG (some 22) 19 false (.iaddr 2 (.t 20) (.t 21)), iG (some 23) 19 false (.faddr 0 (.t 22)), iG (some 24) 19 false (.load 0 (.t 23)), iG (some 25) 19 false (.bin .gtr (.t 24) (.c (.int .i64 8))), iI 26 (.pick (.t 19) (.c (.bool true)) (.t 25))]) c41_2) c41_6)) c41_7
def c41_9 : C := .block 0 (.loop (.seq (.seq (.reg [iI 7 (.mv (.t 3)), iI 8 (.mv (.t 0)), iI 9 (.len 0 (.t 8)), iI 10 (.bin .lss (.t 7) (.t 9))]) c41_1) c41_8))
def c41_10 : C := .seq (.reg [iI 2 (.mv (.c (.int .i64 0)))]) .ret
def c41_11 : C := .seq (.seq (.reg [iI 3 (.mv (.c (.int .i64 0)))]) c41_9) c41_10
def c41_12 : C := .seq (.seq (.reg [iI 4 (.mv (.t 0)), iI 5 (.len 0 (.t 4)), iI 6 (.bin .gtr (.t 5) (.c (.int .i64 8)))]) c41_0) c41_11
def ir41 : C := .seq (.reg [iI 2 (.mv (.c (.int .i64 0)))]) c41_12
theorem fd41 : fd? Try.prog 41 = some (50, [.slot 2], ir41) := by kernel_rfl
noncomputable def f41 (l_2574 : (List ApiFrame)) : Option (Int) :=
  (if (decide (8 < ((l_2574.length : Nat) : Int))) = true then (some 5) else ((Lp.run (f41_L1 l_2574) 0).bind fun r_ => match r_ with | (Sum.inl _) => (some 0) | (Sum.inr v_2599) => (some v_2599)))
theorem f41_ok {l_2574 : (List ApiFrame)} {r_ : Int} (H : f41 l_2574 = some r_) : Pure Try.prog 41 [.sl 2 false (l_2574.map eApiFrame)] (· = .int .i64 r_) := by
 refine Pure.walk3 fd41 none (Nat.le_of_ble_eq_true rfl) (by rfl) fun Q hQ => ?_
 simp only [f41] at H
 refine AW.rseq ?_
 try simp only [↓wk, ↓wl, nq, evV, ↓reduceIte, sevalprocAttr]
 refine AW.sseq ?_
 refine AW.rseq ?_
 try simp only [↓wk, ↓wl, nq, evV, ↓reduceIte, sevalprocAttr]
 refine AW.ifc H (by rfl) ?_ ?_ <;> clear H <;> intro H
 ·refine AW.rseq ?_
  try simp only [↓wk, ↓wl, nq, evV, ↓reduceIte, sevalprocAttr]
  refine AW.ret ?_
  refine seqQ.ret ?_
  cases H
  exact hQ _ _ _ _ (.inr rfl) (by simp only [resVs, omap, resV, ↓wk, ↓wl, nq, evV, ↓reduceIte, sevalprocAttr]; rfl) (hand_plain (by rfl)) (by first | exact Or.inl rfl | exact Or.inr rfl)
 ·refine AW.skip ?_
  refine seqQ.norm ?_
  refine AW.sseq ?_
  refine AW.rseq ?_
  try simp only [↓wk, ↓wl, nq, evV, ↓reduceIte, sevalprocAttr]
  refine AW.bend ?_
  refine AW.iter H ((Le.none [] [0, 3] (by decide) (by simp only [f41_L1c, rrl, Option.map_some, vm, List.idxOf?_cons, List.idxOf?_nil, beq_self_eq_true, Option.map_none, List.getD_cons_zero, List.getD_cons_succ, ↓wk, ↓wl, nq, evV, ↓reduceIte, sevalprocAttr] <;> rfl))) ?_ <;> clear H
  rintro i_2590 x_ st0_ H hst_
  rw [f41_L1c] at hst_
  simp only [f41_L1] at H
  subst hst_
  refine AW.sseq ?_
  refine AW.rseq ?_
  try simp only [↓wk, ↓wl, nq, evV, ↓reduceIte, sevalprocAttr]
  refine AW.ifc H (by rfl) ?_ ?_ <;> clear H <;> intro H
  ·refine AW.skip ?_
   refine seqQ.norm ?_
   refine AW.bseq ?_
   refine AW.sseq ?_
   refine AW.rseq ?_
   try simp only [↓wk, ↓wl, nq, evV, ↓reduceIte, sevalprocAttr]
   refine evTs_at (enc := eApiFrame) H (by rfl) (by rfl) ?_ <;> clear H <;> intro x_2602 H
   try simp only [eApiFrame, eL, ↓wk, ↓wl, nq, evV, ↓reduceIte, sevalprocAttr]
   refine evTs_ifg H (by rfl) ?_ ?_ <;> clear H <;> intro H
   ·try simp only [↓wk, ↓wl, nq, evV, ↓reduceIte, sevalprocAttr]
    refine AW.ift (by rfl) ?_
    refine AW.rseq ?_
    try simp only [↓wk, ↓wl, nq, evV, ↓reduceIte, sevalprocAttr]
    refine AW.ret ?_
    refine seqQ.ret ?_
    refine blkQ.ret ?_
    refine loopQ.ret H ?_ <;> clear H <;> intro H
    try dsimp only at H
    refine blk0.ret ?_
    refine seqQ.ret ?_
    cases H
    exact hQ _ _ _ _ (.inr rfl) (by simp only [resVs, omap, resV, ↓wk, ↓wl, nq, evV, ↓reduceIte, sevalprocAttr]; rfl) (hand_plain (by rfl)) (by first | exact Or.inl rfl | exact Or.inr rfl)
   ·try simp only [↓wk, ↓wl, nq, evV, ↓reduceIte, sevalprocAttr]
    refine evTs_at (enc := eApiFrame) H (by rfl) (by rfl) ?_ <;> clear H <;> intro x_2603 H
    try simp only [eApiFrame, eL, ↓wk, ↓wl, nq, evV, ↓reduceIte, sevalprocAttr]
    refine AW.ifc H (by rfl) ?_ ?_ <;> clear H <;> intro H
    ·refine AW.rseq ?_
     try simp only [↓wk, ↓wl, nq, evV, ↓reduceIte, sevalprocAttr]
     refine AW.ret ?_
     refine seqQ.ret ?_
     refine blkQ.ret ?_
     refine loopQ.ret H ?_ <;> clear H <;> intro H
     try dsimp only at H
     refine blk0.ret ?_
     refine seqQ.ret ?_
     cases H
     exact hQ _ _ _ _ (.inr rfl) (by simp only [resVs, omap, resV, ↓wk, ↓wl, nq, evV, ↓reduceIte, sevalprocAttr]; rfl) (hand_plain (by rfl)) (by first | exact Or.inl rfl | exact Or.inr rfl)
    ·refine AW.skip ?_
     refine seqQ.norm ?_
     refine AW.sseq ?_
     refine AW.rseq ?_
     try simp only [↓wk, ↓wl, nq, evV, ↓reduceIte, sevalprocAttr]
     refine evTs_at (enc := eApiFrame) H (by rfl) (by rfl) ?_ <;> clear H <;> intro x_2605 H
     try simp only [eApiFrame, eL, ↓wk, ↓wl, nq, evV, ↓reduceIte, sevalprocAttr]
     refine AW.ifc H (by rfl) ?_ ?_ <;> clear H <;> intro H
     ·refine AW.rseq ?_
      try simp only [↓wk, ↓wl, nq, evV, ↓reduceIte, sevalprocAttr]
      refine AW.ret ?_
      refine seqQ.ret ?_
      refine blkQ.ret ?_
      refine loopQ.ret H ?_ <;> clear H <;> intro H
      try dsimp only at H
      refine blk0.ret ?_
      refine seqQ.ret ?_
      cases H
      exact hQ _ _ _ _ (.inr rfl) (by simp only [resVs, omap, resV, ↓wk, ↓wl, nq, evV, ↓reduceIte, sevalprocAttr]; rfl) (hand_plain (by rfl)) (by first | exact Or.inl rfl | exact Or.inr rfl)
     ·refine AW.skip ?_
      refine seqQ.norm ?_
      refine AW.rseq ?_
      try simp only [↓wk, ↓wl, nq, evV, ↓reduceIte, sevalprocAttr]
      refine evTs_ifg H (by rfl) ?_ ?_ <;> clear H <;> intro H
      ·try simp only [↓wk, ↓wl, nq, evV, ↓reduceIte, sevalprocAttr]
       refine evTs_at (enc := eApiFrame) H (by rfl) (by rfl) ?_ <;> clear H <;> intro x_2606 H
       try simp only [eApiFrame, eL, ↓wk, ↓wl, nq, evV, ↓reduceIte, sevalprocAttr]
       refine evTs_at (enc := eApiFrame) H (by rfl) (by rfl) ?_ <;> clear H <;> intro x_2607 H
       try simp only [eApiFrame, eL, ↓wk, ↓wl, nq, evV, ↓reduceIte, sevalprocAttr]
       refine AW.ifc H (by rfl) ?_ ?_ <;> clear H <;> intro H
       ·refine AW.rseq ?_
        try simp only [↓wk, ↓wl, nq, evV, ↓reduceIte, sevalprocAttr]
        refine AW.ret ?_
        refine blkQ.ret ?_
        refine loopQ.ret H ?_ <;> clear H <;> intro H
        try dsimp only at H
        refine blk0.ret ?_
        refine seqQ.ret ?_
        cases H
        exact hQ _ _ _ _ (.inr rfl) (by simp only [resVs, omap, resV, ↓wk, ↓wl, nq, evV, ↓reduceIte, sevalprocAttr]; rfl) (hand_plain (by rfl)) (by first | exact Or.inl rfl | exact Or.inr rfl)
       ·refine AW.skip ?_
        refine blkQ.norm ?_
        refine AW.rend ?_
        try simp only [↓wk, ↓wl, nq, evV, ↓reduceIte, sevalprocAttr]
        exact loopQ.next H ((Le.none [] [0, 3] (by decide) (by simp only [f41_L1c, rrl, Option.map_some, vm, List.idxOf?_cons, List.idxOf?_nil, beq_self_eq_true, Option.map_none, List.getD_cons_zero, List.getD_cons_succ, ↓wk, ↓wl, nq, evV, ↓reduceIte, sevalprocAttr] <;> rfl)))
      ·try simp only [↓wk, ↓wl, nq, evV, ↓reduceIte, sevalprocAttr]
       refine AW.iff (by rfl) ?_
       refine AW.skip ?_
       refine blkQ.norm ?_
       refine AW.rend ?_
       try simp only [↓wk, ↓wl, nq, evV, ↓reduceIte, sevalprocAttr]
       exact loopQ.next H ((Le.none [] [0, 3] (by decide) (by simp only [f41_L1c, rrl, Option.map_some, vm, List.idxOf?_cons, List.idxOf?_nil, beq_self_eq_true, Option.map_none, List.getD_cons_zero, List.getD_cons_succ, ↓wk, ↓wl, nq, evV, ↓reduceIte, sevalprocAttr] <;> rfl)))
  ·refine AW.exit ?_
   refine seqQ.exit ?_
   refine loopQ.exit H ?_ <;> clear H <;> intro H
   try dsimp only at H
   refine blk0.here ?_
   refine seqQ.norm ?_
   refine AW.rseq ?_
   try simp only [↓wk, ↓wl, nq, evV, ↓reduceIte, sevalprocAttr]
   refine AW.ret ?_
   cases H
   exact hQ _ _ _ _ (.inr rfl) (by simp only [resVs, omap, resV, ↓wk, ↓wl, nq, evV, ↓reduceIte, sevalprocAttr]; rfl) (hand_plain (by rfl)) (by first | exact Or.inl rfl | exact Or.inr rfl)
def c42_0 : C := .cond (.t 12) (.seq (.reg [iI 13 (.build [(1, (.int .u64 0)), (1, (.int .i64 0)), (1, (.int .i64 0)), (1, (.int .i64 0)), (1, (.sl 5 true []))] []), iN (.store 5 (.t 6) (.t 13)), iI 7 (.mv (.c (.int .i64 2)))]) .ret) (.skip)
def c42_1 : C := .seq (.reg [iI 14 (.mv (.t 0)), iI 15 (.mv (.t 1)), iI 16 (.mv (.t 2)), iI 17 (.build [(1, (.int .u64 0)), (1, (.int .i64 0)), (1, (.int .i64 0)), (1, (.int .i64 0)), (1, (.sl 5 true []))] [(0, 0, (.t 14)), (1, 0, (.t 15)), (2, 0, (.t 16))]), iN (.store 5 (.t 6) (.t 17)), iI 7 (.mv (.c (.int .i64 0)))]) .ret
def c42_2 : C := .seq (.seq (.reg [iI 8 (.mv (.t 0)), iI 9 (.mv (.t 1)), iI 10 (.mv (.t 2)), iI 11 (.call (.c (.fn 78 [])) [(.t 8), (.t 9), (.t 10)]), iI 12 (.un .not (.t 11))]) c42_0) c42_1
def ir42 : C := .seq (.reg [iI 6 (.alloc [(1, (.int .u64 0)), (1, (.int .i64 0)), (1, (.int .i64 0)), (1, (.int .i64 0)), (1, (.sl 5 true []))]), iI 7 (.mv (.c (.int .i64 0)))]) c42_2
theorem fd42 : fd? Try.prog 42 = some (18, [.cell 6 5, .slot 7], ir42) := by kernel_rfl
noncomputable def f42 (source_2620 : Int) (priority_2621 : Int) (sync_2622 : Int) : Option (NetworkSender × Int) :=
  (f78 source_2620 priority_2621 sync_2622).bind fun r_2623 => (if (!r_2623) = true then (some ((NetworkSender.mk 0 0 0 0 ([])), 2)) else (some ((NetworkSender.mk source_2620 priority_2621 sync_2622 0 ([])), 0)))
theorem f42_ok {source_2620 : Int} {priority_2621 : Int} {sync_2622 : Int} {r_ : NetworkSender × Int} (H : f42 source_2620 priority_2621 sync_2622 = some r_) : Pure Try.prog 42 [.int .u64 source_2620, .int .i64 priority_2621, .int .i64 sync_2622] (· = .tup [.agg [.int .u64 r_.1.fSource, .int .i64 r_.1.fPriority, .int .i64 r_.1.fSync, .int .i64 r_.1.fPulse, .sl 5 false (r_.1.fStreams.map eNetworkStream)], .int .i64 r_.2]) := by
 refine Pure.walk3 fd42 none (Nat.le_of_ble_eq_true rfl) (by rfl) fun Q hQ => ?_
 simp only [f42] at H
 refine AW.rseq ?_
 try simp only [↓wk, ↓wl, nq, evV, ↓reduceIte, sevalprocAttr]
 refine AW.sseq ?_
 refine AW.rseq ?_
 try simp only [↓wk, ↓wl, nq, evV, ↓reduceIte, sevalprocAttr]
 refine evTs_pure hFn H (fun _ h => f78_ok h) (by rfl) (by rfl) (by rfl) (by rfl) (fun _ => rfl) ?_ <;> clear H <;> intro r_2623 H
 try simp only [eL, ↓wk, ↓wl, nq, evV, ↓reduceIte, sevalprocAttr]
 refine AW.ifc H (by rfl) ?_ ?_ <;> clear H <;> intro H
 ·refine AW.rseq ?_
  try simp only [↓wk, ↓wl, nq, evV, ↓reduceIte, sevalprocAttr]
  refine AW.ret ?_
  refine seqQ.ret ?_
  cases H
  exact hQ _ _ _ _ (.inr rfl) (by simp only [resVs, omap, resV, ↓wk, ↓wl, nq, evV, ↓reduceIte, sevalprocAttr]; rfl) (hand_plain (by rfl)) (by first | exact Or.inl rfl | exact Or.inr rfl)
 ·refine AW.skip ?_
  refine seqQ.norm ?_
  refine AW.rseq ?_
  try simp only [↓wk, ↓wl, nq, evV, ↓reduceIte, sevalprocAttr]
  refine AW.ret ?_
  cases H
  exact hQ _ _ _ _ (.inr rfl) (by simp only [resVs, omap, resV, ↓wk, ↓wl, nq, evV, ↓reduceIte, sevalprocAttr]; rfl) (hand_plain (by rfl)) (by first | exact Or.inl rfl | exact Or.inr rfl)
noncomputable def f111_L1 (s_3244 : NetworkSender) : Lp (Int) ((Unit) ⊕ (Int)) where
  body := fun v_3261 => (if (decide (v_3261 < ((s_3244.fStreams.length : Nat) : Int))) = true then (at? s_3244.fStreams v_3261).bind fun x_3269 => (f93 x_3269.fUniverse 1 8).bind fun r_3270 => (if (!r_3270) = true then (some (.brk (Sum.inr 2))) else (f94 x_3269.fSeq).bind fun r_3271 => (if (!r_3271) = true then (some (.brk (Sum.inr 2))) else (f93 x_3269.fLast 0 10000000).bind fun r_3272 => (if (!r_3272) = true then (some (.brk (Sum.inr 2))) else (f93 x_3269.fTimes 1 3).bind fun r_3273 => (if (!r_3273) = true then (some (.brk (Sum.inr 2))) else (if (decide (((x_3269.fSlots.length : Nat) : Int) ≠ 512)) = true then (some (.brk (Sum.inr 14))) else (if (decide (0 < v_3261)) = true then (at? s_3244.fStreams (IntKind.i64.wrap (v_3261 - 1))).bind fun x_3274 => (if (decide (x_3269.fUniverse ≤ x_3274.fUniverse)) = true then (some (.brk (Sum.inr 9))) else (some (.next (IntKind.i64.wrap (v_3261 + 1))))) else (some (.next (IntKind.i64.wrap (v_3261 + 1)))))))))) else (some (.brk (Sum.inl ()))))
  cst := fun v_3261 => ⟨put (put (put (put (fun _ => .junk) 26 (.int .i64 v_3261)) 25 (.int .i64 ((s_3244.fStreams.length : Nat) : Int))) 24 (.sl 5 false (s_3244.fStreams.map eNetworkStream))) 1 (.ptr 0 0), [.cel [.int .u64 s_3244.fSource, .int .i64 s_3244.fPriority, .int .i64 s_3244.fSync, .int .i64 s_3244.fPulse, .sl 5 false (s_3244.fStreams.map eNetworkStream)]]⟩
theorem f111_L1c (s_3244 : NetworkSender) (v_3261 : Int) : (f111_L1 s_3244).cst v_3261 = ⟨put (put (put (put (fun _ => .junk) 26 (.int .i64 v_3261)) 25 (.int .i64 ((s_3244.fStreams.length : Nat) : Int))) 24 (.sl 5 false (s_3244.fStreams.map eNetworkStream))) 1 (.ptr 0 0), [.cel [.int .u64 s_3244.fSource, .int .i64 s_3244.fPriority, .int .i64 s_3244.fSync, .int .i64 s_3244.fPulse, .sl 5 false (s_3244.fStreams.map eNetworkStream)]]⟩ := rfl
def c111_0 : C := .cond (.t 18) (.seq (.reg [iI 2 (.mv (.c (.int .i64 2)))]) .ret) (.skip)
def c111_1 : C := .cond (.t 22) (.seq (.reg [iI 2 (.mv (.c (.int .i64 5)))]) .ret) (.skip)
def c111_2 : C := .cond (.t 59) (.seq (.reg [iI 2 (.mv (.c (.int .i64 9)))]) .ret) (.skip)
def c111_3 : C := .cond (.t 54) (.seq (.reg [iI 2 (.mv (.c (.int .i64 14)))]) .ret) (.seq (.reg [iI 60 (.mv (.t 3)), iI 61 (.bin .gtr (.t 60) (.c (.int .i64 0))), iI 62 (.mv (.t 61)), iG (some 63) 62 true (.faddr 0 (.t 4)), iG (some 64) 62 true (.load 0 (.t 63)), iG (some 65) 62 true (.faddr 4 (.t 1)), iG (some 66) 62 true (.load 0 (.t 65)), iG (some 67) 62 true (.mv (.t 3)), iG (some 68) 62 true (.bin .sub (.t 67) (.c (.int .i64 1))), iG (some 69) 62 true (.iaddr 5 (.t 66) (.t 68)), iG (some 70) 62 true (.faddr 0 (.t 69)), iG (some 71) 62 true (.load 0 (.t 70)), iG (some 72) 62 true (.bin .leq (.t 64) (.t 71)), iI 73 (.pick (.t 62) (.t 72) (.c (.bool false))), iI 59 (.mv (.t 73))]) c111_2)
def c111_4 : C := .cond (.t 31) (.seq (.reg [iI 2 (.mv (.c (.int .i64 2)))]) .ret) (.seq (.reg [iI 55 (.faddr 4 (.t 4)), iI 56 (.load 0 (.t 55)), iI 57 (.len 1 (.t 56)), iI 58 (.bin .neq (.t 57) (.c (.int .i64 512))), iI 54 (.mv (.t 58))]) c111_3)
def c111_5 : C := .block 2 (.seq (.reg [iI 32 (.faddr 0 (.t 4)), iI 33 (.load 0 (.t 32)), iI 34 (.call (.c (.fn 93 [])) [(.t 33), (.c (.int .i64 1)), (.c (.int .i64 8))]), iI 35 (.un .not (.t 34)), iI 36 (.mv (.t 35)), iG (some 37) 36 false (.faddr 1 (.t 4)), iG (some 38) 36 false (.load 0 (.t 37)), iG (some 39) 36 false (.call (.c (.fn 94 [])) [(.t 38)]), iG (some 40) 36 false (.un .not (.t 39)), iI 41 (.pick (.t 36) (.c (.bool true)) (.t 40)), iI 42 (.mv (.t 41)), iG (some 43) 42 false (.faddr 2 (.t 4)), iG (some 44) 42 false (.load 0 (.t 43)), iG (some 45) 42 false (.call (.c (.fn 93 [])) [(.t 44), (.c (.int .i64 0)), (.c (.int .i64 10000000))]), iG (some 46) 42 false (.un .not (.t 45)), iI 47 (.pick (.t 42) (.c (.bool true)) (.t 46)), iI 48 (.mv (.t 47)), iG (some 49) 48 false (.faddr 3 (.t 4)), iG (some 50) 48 false (.load 0 (.t 49)), iG (some 51) 48 false (.call (.c (.fn 93 [])) [(.t 50), (.c (.int .i64 1)), (.c (.int .i64 3))]), iG (some 52) 48 false (.un .not (.t 51)), iI 53 (.pick (.t 48) (.c (.bool true)) (.t 52)), iI 31 (.mv (.t 53))]) c111_4)
def c111_6 : C := .reg [iI 74 (.bin .add (.t 26) (.c (.int .i64 1))), iI 26 (.mv (.t 74))]
def c111_7 : C := .seq (.block 1 (.seq (.reg [iI 28 (.mv (.t 26)), iI 29 (.iaddr 5 (.t 24) (.t 26)), iI 30 (.load 5 (.t 29)), iI 4 (.alloc [(1, (.int .i64 0)), (1, (.int .i64 0)), (1, (.int .i64 0)), (1, (.int .i64 0)), (1, (.str []))]), iI 3 (.mv (.t 28)), iN (.store 5 (.t 4) (.t 30))]) c111_5)) c111_6
def c111_8 : C := .seq (.cond (.t 27) (.skip) (.exit 0)) c111_7
def c111_9 : C := .block 0 (.loop (.seq (.reg [iI 27 (.bin .lss (.t 26) (.t 25))]) c111_8))
def c111_10 : C := .seq (.reg [iI 2 (.mv (.c (.int .i64 0)))]) .ret
def c111_11 : C := .seq (.seq (.reg [iI 23 (.faddr 4 (.t 1)), iI 24 (.load 0 (.t 23)), iI 25 (.len 0 (.t 24)), iI 26 (.mv (.c (.int .i64 0)))]) c111_9) c111_10
def c111_12 : C := .seq (.seq (.reg [iI 19 (.faddr 4 (.t 1)), iI 20 (.load 0 (.t 19)), iI 21 (.len 0 (.t 20)), iI 22 (.bin .gtr (.t 21) (.c (.int .i64 8)))]) c111_1) c111_11
def c111_13 : C := .seq (.seq (.reg [iI 5 (.faddr 0 (.t 1)), iI 6 (.load 0 (.t 5)), iI 7 (.faddr 1 (.t 1)), iI 8 (.load 0 (.t 7)), iI 9 (.faddr 2 (.t 1)), iI 10 (.load 0 (.t 9)), iI 11 (.call (.c (.fn 78 [])) [(.t 6), (.t 8), (.t 10)]), iI 12 (.un .not (.t 11)), iI 13 (.mv (.t 12)), iG (some 14) 13 false (.faddr 3 (.t 1)), iG (some 15) 13 false (.load 0 (.t 14)), iG (some 16) 13 false (.call (.c (.fn 94 [])) [(.t 15)]), iG (some 17) 13 false (.un .not (.t 16)), iI 18 (.pick (.t 13) (.c (.bool true)) (.t 17))]) c111_0) c111_12
def ir111 : C := .seq (.reg [iI 1 (.box (.t 0)), iI 2 (.mv (.c (.int .i64 0)))]) c111_13
theorem fd111 : fd? Try.prog 111 = some (75, [.slot 2], ir111) := by kernel_rfl
noncomputable def f111 (s_3244 : NetworkSender) : Option (Int) :=
  (f78 s_3244.fSource s_3244.fPriority s_3244.fSync).bind fun r_3247 => (if (!r_3247) = true then (some 2) else (f94 s_3244.fPulse).bind fun r_3248 => (if (!r_3248) = true then (some 2) else (if (decide (8 < ((s_3244.fStreams.length : Nat) : Int))) = true then (some 5) else ((Lp.run (f111_L1 s_3244) 0).bind fun r_ => match r_ with | (Sum.inl _) => (some 0) | (Sum.inr v_3268) => (some v_3268)))))
theorem f111_ok {s_3244 : NetworkSender} {r_ : Int} (H : f111 s_3244 = some r_) : Pure Try.prog 111 [.agg [.int .u64 s_3244.fSource, .int .i64 s_3244.fPriority, .int .i64 s_3244.fSync, .int .i64 s_3244.fPulse, .sl 5 false (s_3244.fStreams.map eNetworkStream)]] (· = .int .i64 r_) := by
 refine Pure.walk3 fd111 none (Nat.le_of_ble_eq_true rfl) (by rfl) fun Q hQ => ?_
 simp only [f111] at H
 refine AW.rseq ?_
 try simp only [↓wk, ↓wl, nq, evV, ↓reduceIte, sevalprocAttr]
 refine AW.sseq ?_
 refine AW.rseq ?_
 try simp only [↓wk, ↓wl, nq, evV, ↓reduceIte, sevalprocAttr]
 refine evTs_pure hFn H (fun _ h => f78_ok h) (by rfl) (by rfl) (by rfl) (by rfl) (fun _ => rfl) ?_ <;> clear H <;> intro r_3247 H
 try simp only [eL, ↓wk, ↓wl, nq, evV, ↓reduceIte, sevalprocAttr]
 refine evTs_ifg H (by rfl) ?_ ?_ <;> clear H <;> intro H
 ·try simp only [↓wk, ↓wl, nq, evV, ↓reduceIte, sevalprocAttr]
  refine AW.ift (by rfl) ?_
  refine AW.rseq ?_
  try simp only [↓wk, ↓wl, nq, evV, ↓reduceIte, sevalprocAttr]
  refine AW.ret ?_
  refine seqQ.ret ?_
  cases H
  exact hQ _ _ _ _ (.inr rfl) (by simp only [resVs, omap, resV, ↓wk, ↓wl, nq, evV, ↓reduceIte, sevalprocAttr]; rfl) (hand_plain (by rfl)) (by first | exact Or.inl rfl | exact Or.inr rfl)
 ·try simp only [↓wk, ↓wl, nq, evV, ↓reduceIte, sevalprocAttr]
  refine evTs_pure hFn H (fun _ h => f94_ok h) (by rfl) (by rfl) (by rfl) (by rfl) (fun _ => rfl) ?_ <;> clear H <;> intro r_3248 H
  try simp only [eL, ↓wk, ↓wl, nq, evV, ↓reduceIte, sevalprocAttr]
  refine AW.ifc H (by rfl) ?_ ?_ <;> clear H <;> intro H
  ·refine AW.rseq ?_
   try simp only [↓wk, ↓wl, nq, evV, ↓reduceIte, sevalprocAttr]
   refine AW.ret ?_
   refine seqQ.ret ?_
   cases H
   exact hQ _ _ _ _ (.inr rfl) (by simp only [resVs, omap, resV, ↓wk, ↓wl, nq, evV, ↓reduceIte, sevalprocAttr]; rfl) (hand_plain (by rfl)) (by first | exact Or.inl rfl | exact Or.inr rfl)
  ·refine AW.skip ?_
   refine seqQ.norm ?_
   refine AW.sseq ?_
   refine AW.rseq ?_
   try simp only [↓wk, ↓wl, nq, evV, ↓reduceIte, sevalprocAttr]
   refine AW.ifc H (by rfl) ?_ ?_ <;> clear H <;> intro H
   ·refine AW.rseq ?_
    try simp only [↓wk, ↓wl, nq, evV, ↓reduceIte, sevalprocAttr]
    refine AW.ret ?_
    refine seqQ.ret ?_
    cases H
    exact hQ _ _ _ _ (.inr rfl) (by simp only [resVs, omap, resV, ↓wk, ↓wl, nq, evV, ↓reduceIte, sevalprocAttr]; rfl) (hand_plain (by rfl)) (by first | exact Or.inl rfl | exact Or.inr rfl)
   ·refine AW.skip ?_
    refine seqQ.norm ?_
    refine AW.sseq ?_
    refine AW.rseq ?_
    try simp only [↓wk, ↓wl, nq, evV, ↓reduceIte, sevalprocAttr]
    refine AW.bend ?_
    refine AW.iter H ((Le.none [0] [1, 24, 25, 26] (by decide) (by simp only [f111_L1c, rrl, Option.map_some, vm, List.idxOf?_cons, List.idxOf?_nil, beq_self_eq_true, Option.map_none, List.getD_cons_zero, List.getD_cons_succ, ↓wk, ↓wl, nq, evV, ↓reduceIte, sevalprocAttr] <;> rfl))) ?_ <;> clear H
    rintro v_3261 x_ st0_ H hst_
    rw [f111_L1c] at hst_
    simp only [f111_L1] at H
    subst hst_
    refine AW.rseq ?_
    try simp only [↓wk, ↓wl, nq, evV, ↓reduceIte, sevalprocAttr]
    refine AW.sseq ?_
    refine AW.ifc H (by rfl) ?_ ?_ <;> clear H <;> intro H
    ·refine AW.skip ?_
     refine seqQ.norm ?_
     refine AW.bseq ?_
     refine AW.rseq ?_
     try simp only [↓wk, ↓wl, nq, evV, ↓reduceIte, sevalprocAttr]
     refine evTs_at (enc := eNetworkStream) H (by rfl) (by rfl) ?_ <;> clear H <;> intro x_3269 H
     try simp only [eNetworkStream, eL, ↓wk, ↓wl, nq, evV, ↓reduceIte, sevalprocAttr]
     refine AW.bend ?_
     refine AW.rseq ?_
     try simp only [↓wk, ↓wl, nq, evV, ↓reduceIte, sevalprocAttr]
     refine evTs_pure hFn H (fun _ h => f93_ok h) (by rfl) (by rfl) (by rfl) (by rfl) (fun _ => rfl) ?_ <;> clear H <;> intro r_3270 H
     try simp only [eL, ↓wk, ↓wl, nq, evV, ↓reduceIte, sevalprocAttr]
     refine evTs_ifg H (by rfl) ?_ ?_ <;> clear H <;> intro H
     ·try simp only [↓wk, ↓wl, nq, evV, ↓reduceIte, sevalprocAttr]
      refine AW.ift (by rfl) ?_
      refine AW.rseq ?_
      try simp only [↓wk, ↓wl, nq, evV, ↓reduceIte, sevalprocAttr]
      refine AW.ret ?_
      refine blk0.ret ?_
      refine blkQ.ret ?_
      refine loopQ.ret H ?_ <;> clear H <;> intro H
      try dsimp only at H
      refine blk0.ret ?_
      refine seqQ.ret ?_
      cases H
      exact hQ _ _ _ _ (.inr rfl) (by simp only [resVs, omap, resV, ↓wk, ↓wl, nq, evV, ↓reduceIte, sevalprocAttr]; rfl) (hand_plain (by rfl)) (by first | exact Or.inl rfl | exact Or.inr rfl)
     ·try simp only [↓wk, ↓wl, nq, evV, ↓reduceIte, sevalprocAttr]
      refine evTs_pure hFn H (fun _ h => f94_ok h) (by rfl) (by rfl) (by rfl) (by rfl) (fun _ => rfl) ?_ <;> clear H <;> intro r_3271 H
      try simp only [eL, ↓wk, ↓wl, nq, evV, ↓reduceIte, sevalprocAttr]
      refine evTs_ifg H (by rfl) ?_ ?_ <;> clear H <;> intro H
      ·try simp only [↓wk, ↓wl, nq, evV, ↓reduceIte, sevalprocAttr]
       refine AW.ift (by rfl) ?_
       refine AW.rseq ?_
       try simp only [↓wk, ↓wl, nq, evV, ↓reduceIte, sevalprocAttr]
       refine AW.ret ?_
       refine blk0.ret ?_
       refine blkQ.ret ?_
       refine loopQ.ret H ?_ <;> clear H <;> intro H
       try dsimp only at H
       refine blk0.ret ?_
       refine seqQ.ret ?_
       cases H
       exact hQ _ _ _ _ (.inr rfl) (by simp only [resVs, omap, resV, ↓wk, ↓wl, nq, evV, ↓reduceIte, sevalprocAttr]; rfl) (hand_plain (by rfl)) (by first | exact Or.inl rfl | exact Or.inr rfl)
      ·try simp only [↓wk, ↓wl, nq, evV, ↓reduceIte, sevalprocAttr]
       refine evTs_pure hFn H (fun _ h => f93_ok h) (by rfl) (by rfl) (by rfl) (by rfl) (fun _ => rfl) ?_ <;> clear H <;> intro r_3272 H
       try simp only [eL, ↓wk, ↓wl, nq, evV, ↓reduceIte, sevalprocAttr]
       refine evTs_ifg H (by rfl) ?_ ?_ <;> clear H <;> intro H
       ·try simp only [↓wk, ↓wl, nq, evV, ↓reduceIte, sevalprocAttr]
        refine AW.ift (by rfl) ?_
        refine AW.rseq ?_
        try simp only [↓wk, ↓wl, nq, evV, ↓reduceIte, sevalprocAttr]
        refine AW.ret ?_
        refine blk0.ret ?_
        refine blkQ.ret ?_
        refine loopQ.ret H ?_ <;> clear H <;> intro H
        try dsimp only at H
        refine blk0.ret ?_
        refine seqQ.ret ?_
        cases H
        exact hQ _ _ _ _ (.inr rfl) (by simp only [resVs, omap, resV, ↓wk, ↓wl, nq, evV, ↓reduceIte, sevalprocAttr]; rfl) (hand_plain (by rfl)) (by first | exact Or.inl rfl | exact Or.inr rfl)
       ·try simp only [↓wk, ↓wl, nq, evV, ↓reduceIte, sevalprocAttr]
        refine evTs_pure hFn H (fun _ h => f93_ok h) (by rfl) (by rfl) (by rfl) (by rfl) (fun _ => rfl) ?_ <;> clear H <;> intro r_3273 H
        try simp only [eL, ↓wk, ↓wl, nq, evV, ↓reduceIte, sevalprocAttr]
        refine AW.ifc H (by rfl) ?_ ?_ <;> clear H <;> intro H
        ·refine AW.rseq ?_
         try simp only [↓wk, ↓wl, nq, evV, ↓reduceIte, sevalprocAttr]
         refine AW.ret ?_
         refine blk0.ret ?_
         refine blkQ.ret ?_
         refine loopQ.ret H ?_ <;> clear H <;> intro H
         try dsimp only at H
         refine blk0.ret ?_
         refine seqQ.ret ?_
         cases H
         exact hQ _ _ _ _ (.inr rfl) (by simp only [resVs, omap, resV, ↓wk, ↓wl, nq, evV, ↓reduceIte, sevalprocAttr]; rfl) (hand_plain (by rfl)) (by first | exact Or.inl rfl | exact Or.inr rfl)
        ·refine AW.rseq ?_
         try simp only [↓wk, ↓wl, nq, evV, ↓reduceIte, sevalprocAttr]
         refine AW.ifc H (by rfl) ?_ ?_ <;> clear H <;> intro H
         ·refine AW.rseq ?_
          try simp only [↓wk, ↓wl, nq, evV, ↓reduceIte, sevalprocAttr]
          refine AW.ret ?_
          refine blk0.ret ?_
          refine blkQ.ret ?_
          refine loopQ.ret H ?_ <;> clear H <;> intro H
          try dsimp only at H
          refine blk0.ret ?_
          refine seqQ.ret ?_
          cases H
          exact hQ _ _ _ _ (.inr rfl) (by simp only [resVs, omap, resV, ↓wk, ↓wl, nq, evV, ↓reduceIte, sevalprocAttr]; rfl) (hand_plain (by rfl)) (by first | exact Or.inl rfl | exact Or.inr rfl)
         ·refine AW.rseq ?_
          try simp only [↓wk, ↓wl, nq, evV, ↓reduceIte, sevalprocAttr]
          refine evTs_ifg H (by rfl) ?_ ?_ <;> clear H <;> intro H
          ·try simp only [↓wk, ↓wl, nq, evV, ↓reduceIte, sevalprocAttr]
           refine evTs_at (enc := eNetworkStream) H (by rfl) (by rfl) ?_ <;> clear H <;> intro x_3274 H
           try simp only [eNetworkStream, eL, ↓wk, ↓wl, nq, evV, ↓reduceIte, sevalprocAttr]
           refine AW.ifc H (by rfl) ?_ ?_ <;> clear H <;> intro H
           ·refine AW.rseq ?_
            try simp only [↓wk, ↓wl, nq, evV, ↓reduceIte, sevalprocAttr]
            refine AW.ret ?_
            refine blk0.ret ?_
            refine blkQ.ret ?_
            refine loopQ.ret H ?_ <;> clear H <;> intro H
            try dsimp only at H
            refine blk0.ret ?_
            refine seqQ.ret ?_
            cases H
            exact hQ _ _ _ _ (.inr rfl) (by simp only [resVs, omap, resV, ↓wk, ↓wl, nq, evV, ↓reduceIte, sevalprocAttr]; rfl) (hand_plain (by rfl)) (by first | exact Or.inl rfl | exact Or.inr rfl)
           ·refine AW.skip ?_
            refine blk0.norm ?_
            refine blkQ.norm ?_
            refine AW.rend ?_
            try simp only [↓wk, ↓wl, nq, evV, ↓reduceIte, sevalprocAttr]
            exact loopQ.next H ((Le.none [0] [1, 24, 25, 26] (by decide) (by simp only [f111_L1c, rrl, Option.map_some, vm, List.idxOf?_cons, List.idxOf?_nil, beq_self_eq_true, Option.map_none, List.getD_cons_zero, List.getD_cons_succ, ↓wk, ↓wl, nq, evV, ↓reduceIte, sevalprocAttr] <;> rfl)))
          ·try simp only [↓wk, ↓wl, nq, evV, ↓reduceIte, sevalprocAttr]
           refine AW.iff (by rfl) ?_
           refine AW.skip ?_
           refine blk0.norm ?_
           refine blkQ.norm ?_
           refine AW.rend ?_
           try simp only [↓wk, ↓wl, nq, evV, ↓reduceIte, sevalprocAttr]
           exact loopQ.next H ((Le.none [0] [1, 24, 25, 26] (by decide) (by simp only [f111_L1c, rrl, Option.map_some, vm, List.idxOf?_cons, List.idxOf?_nil, beq_self_eq_true, Option.map_none, List.getD_cons_zero, List.getD_cons_succ, ↓wk, ↓wl, nq, evV, ↓reduceIte, sevalprocAttr] <;> rfl)))
    ·refine AW.exit ?_
     refine seqQ.exit ?_
     refine loopQ.exit H ?_ <;> clear H <;> intro H
     try dsimp only at H
     refine blk0.here ?_
     refine seqQ.norm ?_
     refine AW.rseq ?_
     try simp only [↓wk, ↓wl, nq, evV, ↓reduceIte, sevalprocAttr]
     refine AW.ret ?_
     cases H
     exact hQ _ _ _ _ (.inr rfl) (by simp only [resVs, omap, resV, ↓wk, ↓wl, nq, evV, ↓reduceIte, sevalprocAttr]; rfl) (hand_plain (by rfl)) (by first | exact Or.inl rfl | exact Or.inr rfl)
def c113_0 : C := .seq (.reg [iI 4 (.load 0 (.t 1)), iI 5 (.faddr 2 (.t 2)), iI 6 (.load 0 (.t 5)), iI 7 (.bin .lss (.t 4) (.t 6)), iI 3 (.mv (.t 7))]) .ret
def ir113 : C := .seq (.reg [iI 2 (.box (.t 0)), iI 3 (.mv (.c (.bool false)))]) c113_0
theorem fd113 : fd? Try.prog 113 = some (8, [.slot 3], ir113) := by kernel_rfl
noncomputable def f113p (x_3282 : NetworkStream) (c_3283 : Int) : Option (Bool) :=
  (some (decide (c_3283 < x_3282.fLast)))
theorem f113p_ok {x_3282 : NetworkStream} {c_3283 : Int} {r_ : Bool} (H : f113p x_3282 c_3283 = some r_) : Pure Try.prog 113 [.agg [.int .i64 x_3282.fUniverse, .int .i64 x_3282.fSeq, .int .i64 x_3282.fLast, .int .i64 x_3282.fTimes, .str x_3282.fSlots], .pro [.int .i64 c_3283]] (· = .bool r_) := by
 refine Pure.walk3 fd113 none (Nat.le_of_ble_eq_true rfl) (by rfl) fun Q hQ => ?_
 simp only [f113p] at H
 refine AW.rseq ?_
 try simp only [↓wk, ↓wl, nq, evV, ↓reduceIte, sevalprocAttr]
 refine AW.rseq ?_
 try simp only [↓wk, ↓wl, nq, evV, ↓reduceIte, sevalprocAttr]
 refine AW.ret ?_
 cases H
 exact hQ _ _ _ _ (.inr rfl) (by simp only [resVs, omap, resV, ↓wk, ↓wl, nq, evV, ↓reduceIte, sevalprocAttr]; rfl) (hand_plain (by rfl)) (by first | exact Or.inl rfl | exact Or.inr rfl)
noncomputable def f146_113_L1 (s_3279 : (List NetworkStream)) (f_3280 : Int) : Lp (Int) ((Unit) ⊕ (Int)) where
  body := fun v_3288 => (if (decide (v_3288 < ((s_3279.length : Nat) : Int))) = true then (at? s_3279 v_3288).bind fun x_3292 => (f113p x_3292 f_3280).bind fun r_3293 => (if r_3293 = true then (some (.brk (Sum.inr v_3288))) else (some (.next (IntKind.i64.wrap (v_3288 + 1))))) else (some (.brk (Sum.inl ()))))
  cst := fun v_3288 => ⟨put (put (put (put (fun _ => .junk) 8 (.int .i64 v_3288)) 7 (.int .i64 ((s_3279.length : Nat) : Int))) 1 (.fn 113 [.pro [.int .i64 f_3280]])) 0 (.sl 5 false (s_3279.map eNetworkStream)), []⟩
theorem f146_113_L1c (s_3279 : (List NetworkStream)) (f_3280 : Int) (v_3288 : Int) : (f146_113_L1 s_3279 f_3280).cst v_3288 = ⟨put (put (put (put (fun _ => .junk) 8 (.int .i64 v_3288)) 7 (.int .i64 ((s_3279.length : Nat) : Int))) 1 (.fn 113 [.pro [.int .i64 f_3280]])) 0 (.sl 5 false (s_3279.map eNetworkStream)), []⟩ := rfl
def c146_0 : C := .cond (.t 16) (.seq (.reg [iI 17 (.mv (.t 5)), iI 4 (.mv (.t 17))]) .ret) (.skip)
def c146_1 : C := .seq (.reg [iI 11 (.mv (.t 1)), iI 12 (.mv (.t 0)), iI 13 (.mv (.t 5)), iI 14 (.iaddr 5 (.t 12) (.t 13)), iI 15 (.load 5 (.t 14)), iI 16 (.call (.t 11) [(.t 15)])]) c146_0
def c146_2 : C := .reg [iI 18 (.bin .add (.t 8) (.c (.int .i64 1))), iI 8 (.mv (.t 18))]
def c146_3 : C := .seq (.block 1 (.seq (.reg [iI 10 (.mv (.t 8)), iI 5 (.mv (.t 10))]) c146_1)) c146_2
def c146_4 : C := .seq (.cond (.t 9) (.skip) (.exit 0)) c146_3
def c146_5 : C := .block 0 (.loop (.seq (.reg [iI 9 (.bin .lss (.t 8) (.t 7))]) c146_4))
def c146_6 : C := .seq (.reg [iI 4 (.mv (.c (.int .i64 (-1))))]) .ret
def c146_7 : C := .seq (.seq (.reg [iI 6 (.mv (.t 0)), iI 7 (.len 0 (.t 6)), iI 8 (.mv (.c (.int .i64 0)))]) c146_5) c146_6
def ir146 : C := .seq (.reg [iI 4 (.mv (.c (.int .i64 0)))]) c146_7
theorem fd146 : fd? Try.prog 146 = some (19, [.slot 4], ir146) := by kernel_rfl
noncomputable def f146_113 (s_3279 : (List NetworkStream)) (f_3280 : Int) : Option (Int) :=
  ((Lp.run (f146_113_L1 s_3279 f_3280) 0).bind fun r_ => match r_ with | (Sum.inl _) => (some (-1)) | (Sum.inr v_3291) => (some v_3291))
theorem f146_113_ok {s_3279 : (List NetworkStream)} {f_3280 : Int} {r_ : Int} (H : f146_113 s_3279 f_3280 = some r_) : Pure Try.prog 146 [.sl 5 false (s_3279.map eNetworkStream), .fn 113 [.pro [.int .i64 f_3280]]] (· = .int .i64 r_) := by
 refine Pure.walk3 fd146 none (Nat.le_of_ble_eq_true rfl) (by rfl) fun Q hQ => ?_
 simp only [f146_113] at H
 refine AW.rseq ?_
 try simp only [↓wk, ↓wl, nq, evV, ↓reduceIte, sevalprocAttr]
 refine AW.sseq ?_
 refine AW.rseq ?_
 try simp only [↓wk, ↓wl, nq, evV, ↓reduceIte, sevalprocAttr]
 refine AW.bend ?_
 refine AW.iter H ((Le.none [] [0, 1, 7, 8] (by decide) (by simp only [f146_113_L1c, rrl, Option.map_some, vm, List.idxOf?_cons, List.idxOf?_nil, beq_self_eq_true, Option.map_none, List.getD_cons_zero, List.getD_cons_succ, ↓wk, ↓wl, nq, evV, ↓reduceIte, sevalprocAttr] <;> rfl))) ?_ <;> clear H
 rintro v_3288 x_ st0_ H hst_
 rw [f146_113_L1c] at hst_
 simp only [f146_113_L1] at H
 subst hst_
 refine AW.rseq ?_
 try simp only [↓wk, ↓wl, nq, evV, ↓reduceIte, sevalprocAttr]
 refine AW.sseq ?_
 refine AW.ifc H (by rfl) ?_ ?_ <;> clear H <;> intro H
 ·refine AW.skip ?_
  refine seqQ.norm ?_
  refine AW.bseq ?_
  refine AW.rseq ?_
  try simp only [↓wk, ↓wl, nq, evV, ↓reduceIte, sevalprocAttr]
  refine AW.rseq ?_
  try simp only [↓wk, ↓wl, nq, evV, ↓reduceIte, sevalprocAttr]
  refine evTs_at (enc := eNetworkStream) H (by rfl) (by rfl) ?_ <;> clear H <;> intro x_3292 H
  try simp only [eNetworkStream, eL, ↓wk, ↓wl, nq, evV, ↓reduceIte, sevalprocAttr]
  refine evTs_pure hFn H (fun _ h => f113p_ok h) (by rfl) (by rfl) (by rfl) (by rfl) (fun _ => rfl) ?_ <;> clear H <;> intro r_3293 H
  try simp only [eL, ↓wk, ↓wl, nq, evV, ↓reduceIte, sevalprocAttr]
  refine AW.ifc H (by rfl) ?_ ?_ <;> clear H <;> intro H
  ·refine AW.rseq ?_
   try simp only [↓wk, ↓wl, nq, evV, ↓reduceIte, sevalprocAttr]
   refine AW.ret ?_
   refine blkQ.ret ?_
   refine loopQ.ret H ?_ <;> clear H <;> intro H
   try dsimp only at H
   refine blk0.ret ?_
   refine seqQ.ret ?_
   cases H
   exact hQ _ _ _ _ (.inr rfl) (by simp only [resVs, omap, resV, ↓wk, ↓wl, nq, evV, ↓reduceIte, sevalprocAttr]; rfl) (hand_plain (by rfl)) (by first | exact Or.inl rfl | exact Or.inr rfl)
  ·refine AW.skip ?_
   refine blkQ.norm ?_
   refine AW.rend ?_
   try simp only [↓wk, ↓wl, nq, evV, ↓reduceIte, sevalprocAttr]
   exact loopQ.next H ((Le.none [] [0, 1, 7, 8] (by decide) (by simp only [f146_113_L1c, rrl, Option.map_some, vm, List.idxOf?_cons, List.idxOf?_nil, beq_self_eq_true, Option.map_none, List.getD_cons_zero, List.getD_cons_succ, ↓wk, ↓wl, nq, evV, ↓reduceIte, sevalprocAttr] <;> rfl)))
 ·refine AW.exit ?_
  refine seqQ.exit ?_
  refine loopQ.exit H ?_ <;> clear H <;> intro H
  try dsimp only at H
  refine blk0.here ?_
  refine seqQ.norm ?_
  refine AW.rseq ?_
  try simp only [↓wk, ↓wl, nq, evV, ↓reduceIte, sevalprocAttr]
  refine AW.ret ?_
  cases H
  exact hQ _ _ _ _ (.inr rfl) (by simp only [resVs, omap, resV, ↓wk, ↓wl, nq, evV, ↓reduceIte, sevalprocAttr]; rfl) (hand_plain (by rfl)) (by first | exact Or.inl rfl | exact Or.inr rfl)
def c112_0 : C := .seq (.reg [iI 5 (.mv (.t 0)), iI 6 (.mv (.t 1)), iI 7 (.call (.c (.fn 146 [])) [(.t 5), (.t 6)]), iI 8 (.bin .geq (.t 7) (.c (.int .i64 0))), iI 4 (.mv (.t 8))]) .ret
def ir112 : C := .seq (.reg [iI 4 (.mv (.c (.bool false)))]) c112_0
theorem fd112 : fd? Try.prog 112 = some (9, [.slot 4], ir112) := by kernel_rfl
noncomputable def f112_113 (s_3277 : (List NetworkStream)) (f_3278 : Int) : Option (Bool) :=
  (f146_113 s_3277 f_3278).bind fun r_3294 => (some (decide (0 ≤ r_3294)))
theorem f112_113_ok {s_3277 : (List NetworkStream)} {f_3278 : Int} {r_ : Bool} (H : f112_113 s_3277 f_3278 = some r_) : Pure Try.prog 112 [.sl 5 false (s_3277.map eNetworkStream), .fn 113 [.pro [.int .i64 f_3278]]] (· = .bool r_) := by
 refine Pure.walk3 fd112 none (Nat.le_of_ble_eq_true rfl) (by rfl) fun Q hQ => ?_
 simp only [f112_113] at H
 refine AW.rseq ?_
 try simp only [↓wk, ↓wl, nq, evV, ↓reduceIte, sevalprocAttr]
 refine AW.rseq ?_
 try simp only [↓wk, ↓wl, nq, evV, ↓reduceIte, sevalprocAttr]
 refine evTs_pure hFn H (fun _ h => f146_113_ok h) (by rfl) (by rfl) (by rfl) (by rfl) (fun _ => rfl) ?_ <;> clear H <;> intro r_3294 H
 try simp only [eL, ↓wk, ↓wl, nq, evV, ↓reduceIte, sevalprocAttr]
 refine AW.ret ?_
 cases H
 exact hQ _ _ _ _ (.inr rfl) (by simp only [resVs, omap, resV, ↓wk, ↓wl, nq, evV, ↓reduceIte, sevalprocAttr]; rfl) (hand_plain (by rfl)) (by first | exact Or.inl rfl | exact Or.inr rfl)
def c79_0 : C := .cond (.t 9) (.seq (.reg [iI 10 (.mv (.t 5)), iI 4 (.mv (.t 10))]) .ret) (.skip)
def c79_1 : C := .seq (.reg [iI 8 (.mv (.t 5)), iI 9 (.bin .neq (.t 8) (.c (.int .i64 0)))]) c79_0
def c79_2 : C := .cond (.t 13) (.seq (.reg [iI 4 (.mv (.c (.int .i64 2)))]) .ret) (.skip)
def c79_3 : C := .cond (.t 17) (.seq (.reg [iI 4 (.mv (.c (.int .i64 9)))]) .ret) (.skip)
def c79_4 : C := .seq (.reg [iI 4 (.mv (.c (.int .i64 0)))]) .ret
def c79_5 : C := .seq (.seq (.reg [iI 14 (.faddr 4 (.t 2)), iI 15 (.load 0 (.t 14)), iI 16 (.mkfn 113 [(.t 3)]), iI 17 (.call (.c (.fn 112 [])) [(.t 15), (.t 16)])]) c79_3) c79_4
def c79_6 : C := .seq (.seq (.reg [iI 11 (.load 0 (.t 3)), iI 12 (.call (.c (.fn 93 [])) [(.t 11), (.c (.int .i64 0)), (.c (.int .i64 10000000))]), iI 13 (.un .not (.t 12))]) c79_2) c79_5
def c79_7 : C := .seq (.seq (.reg [iI 6 (.load 5 (.t 2)), iI 7 (.call (.c (.fn 111 [])) [(.t 6)]), iI 5 (.mv (.t 7))]) c79_1) c79_6
def ir79 : C := .seq (.reg [iI 2 (.box (.t 0)), iI 3 (.box (.t 1)), iI 4 (.mv (.c (.int .i64 0)))]) c79_7
theorem fd79 : fd? Try.prog 79 = some (18, [.slot 4], ir79) := by kernel_rfl
noncomputable def f79 (s_3242 : NetworkSender) (t_3243 : Int) : Option (Int) :=
  (f111 s_3242).bind fun r_3275 => (if (decide (r_3275 ≠ 0)) = true then (some r_3275) else (f93 t_3243 0 10000000).bind fun r_3276 => (if (!r_3276) = true then (some 2) else (f112_113 s_3242.fStreams t_3243).bind fun r_3295 => (if r_3295 = true then (some 9) else (some 0))))
theorem f79_ok {s_3242 : NetworkSender} {t_3243 : Int} {r_ : Int} (H : f79 s_3242 t_3243 = some r_) : Pure Try.prog 79 [.agg [.int .u64 s_3242.fSource, .int .i64 s_3242.fPriority, .int .i64 s_3242.fSync, .int .i64 s_3242.fPulse, .sl 5 false (s_3242.fStreams.map eNetworkStream)], .int .i64 t_3243] (· = .int .i64 r_) := by
 refine Pure.walk3 fd79 none (Nat.le_of_ble_eq_true rfl) (by rfl) fun Q hQ => ?_
 simp only [f79] at H
 refine AW.rseq ?_
 try simp only [↓wk, ↓wl, nq, evV, ↓reduceIte, sevalprocAttr]
 refine AW.sseq ?_
 refine AW.rseq ?_
 try simp only [↓wk, ↓wl, nq, evV, ↓reduceIte, sevalprocAttr]
 refine evTs_pure hFn H (fun _ h => f111_ok h) (by rfl) (by rfl) (by rfl) (by rfl) (fun _ => rfl) ?_ <;> clear H <;> intro r_3275 H
 try simp only [eL, ↓wk, ↓wl, nq, evV, ↓reduceIte, sevalprocAttr]
 refine AW.rseq ?_
 try simp only [↓wk, ↓wl, nq, evV, ↓reduceIte, sevalprocAttr]
 refine AW.ifc H (by rfl) ?_ ?_ <;> clear H <;> intro H
 ·refine AW.rseq ?_
  try simp only [↓wk, ↓wl, nq, evV, ↓reduceIte, sevalprocAttr]
  refine AW.ret ?_
  refine seqQ.ret ?_
  cases H
  exact hQ _ _ _ _ (.inr rfl) (by simp only [resVs, omap, resV, ↓wk, ↓wl, nq, evV, ↓reduceIte, sevalprocAttr]; rfl) (hand_plain (by rfl)) (by first | exact Or.inl rfl | exact Or.inr rfl)
 ·refine AW.skip ?_
  refine seqQ.norm ?_
  refine AW.sseq ?_
  refine AW.rseq ?_
  try simp only [↓wk, ↓wl, nq, evV, ↓reduceIte, sevalprocAttr]
  refine evTs_pure hFn H (fun _ h => f93_ok h) (by rfl) (by rfl) (by rfl) (by rfl) (fun _ => rfl) ?_ <;> clear H <;> intro r_3276 H
  try simp only [eL, ↓wk, ↓wl, nq, evV, ↓reduceIte, sevalprocAttr]
  refine AW.ifc H (by rfl) ?_ ?_ <;> clear H <;> intro H
  ·refine AW.rseq ?_
   try simp only [↓wk, ↓wl, nq, evV, ↓reduceIte, sevalprocAttr]
   refine AW.ret ?_
   refine seqQ.ret ?_
   cases H
   exact hQ _ _ _ _ (.inr rfl) (by simp only [resVs, omap, resV, ↓wk, ↓wl, nq, evV, ↓reduceIte, sevalprocAttr]; rfl) (hand_plain (by rfl)) (by first | exact Or.inl rfl | exact Or.inr rfl)
  ·refine AW.skip ?_
   refine seqQ.norm ?_
   refine AW.sseq ?_
   refine AW.rseq ?_
   try simp only [↓wk, ↓wl, nq, evV, ↓reduceIte, sevalprocAttr]
   refine evTs_flat hFn H (fun _ h => f112_113_ok h) (by rfl) (by rfl) (by simp only [deep_eq, imm_simps, imm_rowE, imm_ptrE, imm_enc, omap_simps, take_map_len, take_map_set, take_map_set2, le_refl_true, Nat.zero_add, and_true, true_and, List.drop_zero, Option.map_some, ↓wk, ↓wl, nq, evV, ↓reduceIte, sevalprocAttr]; rfl) (by rfl) (fun _ => rfl) (fun _ => rfl) ?_ <;> clear H <;> intro r_3295 H
   try simp only [eL, ↓wk, ↓wl, nq, evV, ↓reduceIte, sevalprocAttr]
   refine AW.ifc H (by rfl) ?_ ?_ <;> clear H <;> intro H
   ·refine AW.rseq ?_
    try simp only [↓wk, ↓wl, nq, evV, ↓reduceIte, sevalprocAttr]
    refine AW.ret ?_
    refine seqQ.ret ?_
    cases H
    exact hQ _ _ _ _ (.inr rfl) (by simp only [resVs, omap, resV, ↓wk, ↓wl, nq, evV, ↓reduceIte, sevalprocAttr]; rfl) (hand_plain (by rfl)) (by first | exact Or.inl rfl | exact Or.inr rfl)
   ·refine AW.skip ?_
    refine seqQ.norm ?_
    refine AW.rseq ?_
    try simp only [↓wk, ↓wl, nq, evV, ↓reduceIte, sevalprocAttr]
    refine AW.ret ?_
    cases H
    exact hQ _ _ _ _ (.inr rfl) (by simp only [resVs, omap, resV, ↓wk, ↓wl, nq, evV, ↓reduceIte, sevalprocAttr]; rfl) (hand_plain (by rfl)) (by first | exact Or.inl rfl | exact Or.inr rfl)
noncomputable def f80_L1 (l_3298 : (List ApiFrame)) : Lp (Int) ((Unit) ⊕ (Int)) where
  body := fun v_3303 => (if (decide (v_3303 < ((l_3298.length : Nat) : Int))) = true then (at? l_3298 v_3303).bind fun x_3307 => (if (decide (x_3307.fUniverse < 1)) = true then (some (.brk (Sum.inr 2))) else (if (decide (8 < x_3307.fUniverse)) = true then (some (.brk (Sum.inr 2))) else (if (decide (((x_3307.fSlots.length : Nat) : Int) ≠ 512)) = true then (some (.brk (Sum.inr 14))) else (if (decide (0 < v_3303)) = true then (at? l_3298 (IntKind.i64.wrap (v_3303 - 1))).bind fun x_3308 => (if (decide (x_3307.fUniverse ≤ x_3308.fUniverse)) = true then (some (.brk (Sum.inr 9))) else (some (.next (IntKind.i64.wrap (v_3303 + 1))))) else (some (.next (IntKind.i64.wrap (v_3303 + 1)))))))) else (some (.brk (Sum.inl ()))))
  cst := fun v_3303 => ⟨put (put (put (put (fun _ => .junk) 10 (.int .i64 v_3303)) 9 (.int .i64 ((l_3298.length : Nat) : Int))) 8 (.sl 2 false (l_3298.map eApiFrame))) 0 (.sl 2 false (l_3298.map eApiFrame)), []⟩
theorem f80_L1c (l_3298 : (List ApiFrame)) (v_3303 : Int) : (f80_L1 l_3298).cst v_3303 = ⟨put (put (put (put (fun _ => .junk) 10 (.int .i64 v_3303)) 9 (.int .i64 ((l_3298.length : Nat) : Int))) 8 (.sl 2 false (l_3298.map eApiFrame))) 0 (.sl 2 false (l_3298.map eApiFrame)), []⟩ := rfl
def c80_0 : C := .cond (.t 7) (.seq (.reg [iI 2 (.mv (.c (.int .i64 5)))]) .ret) (.skip)
def c80_1 : C := .cond (.t 29) (.seq (.reg [iI 2 (.mv (.c (.int .i64 9)))]) .ret) (.skip)
def c80_2 : C := .cond (.t 24) (.seq (.reg [iI 2 (.mv (.c (.int .i64 14)))]) .ret) (.seq (.reg [iI 30 (.mv (.t 3)), iI 31 (.bin .gtr (.t 30) (.c (.int .i64 0))), iI 32 (.mv (.t 31)), iG (some 33) 32 true (.faddr 0 (.t 4)), iG (some 34) 32 true (.load 0 (.t 33)), iG (some 35) 32 true (.mv (.t 0)), iG (some 36) 32 true (.mv (.t 3)), iG (some 37) 32 true (.bin .sub (.t 36) (.c (.int .i64 1))), iG (some 38) 32 true (.iaddr 2 (.t 35) (.t 37)), iG (some 39) 32 true (.faddr 0 (.t 38)), iG (some 40) 32 true (.load 0 (.t 39)), iG (some 41) 32 true (.bin .leq (.t 34) (.t 40)), iI 42 (.pick (.t 32) (.t 41) (.c (.bool false))), iI 29 (.mv (.t 42))]) c80_1)
def c80_3 : C := .cond (.t 15) (.seq (.reg [iI 2 (.mv (.c (.int .i64 2)))]) .ret) (.seq (.reg [iI 25 (.faddr 1 (.t 4)), iI 26 (.load 0 (.t 25)), iI 27 (.len 1 (.t 26)), iI 28 (.bin .neq (.t 27) (.c (.int .i64 512))), iI 24 (.mv (.t 28))]) c80_2)
def c80_4 : C := .block 2 (.seq (.reg [iI 16 (.faddr 0 (.t 4)), iI 17 (.load 0 (.t 16)), iI 18 (.bin .lss (.t 17) (.c (.int .i64 1))), iI 19 (.mv (.t 18)), iG (some 20) 19 false (.faddr 0 (.t 4)), iG (some 21) 19 false (.load 0 (.t 20)), iG (some 22) 19 false (.bin .gtr (.t 21) (.c (.int .i64 8))), iI 23 (.pick (.t 19) (.c (.bool true)) (.t 22)), iI 15 (.mv (.t 23))]) c80_3)
def c80_5 : C := .reg [iI 43 (.bin .add (.t 10) (.c (.int .i64 1))), iI 10 (.mv (.t 43))]
def c80_6 : C := .seq (.block 1 (.seq (.reg [iI 12 (.mv (.t 10)), iI 13 (.iaddr 2 (.t 8) (.t 10)), iI 14 (.load 2 (.t 13)), iI 4 (.alloc [(1, (.int .i64 0)), (1, (.str []))]), iI 3 (.mv (.t 12)), iN (.store 2 (.t 4) (.t 14))]) c80_4)) c80_5
def c80_7 : C := .seq (.cond (.t 11) (.skip) (.exit 0)) c80_6
def c80_8 : C := .block 0 (.loop (.seq (.reg [iI 11 (.bin .lss (.t 10) (.t 9))]) c80_7))
def c80_9 : C := .seq (.reg [iI 2 (.mv (.c (.int .i64 0)))]) .ret
def c80_10 : C := .seq (.seq (.reg [iI 8 (.mv (.t 0)), iI 9 (.len 0 (.t 8)), iI 10 (.mv (.c (.int .i64 0)))]) c80_8) c80_9
def c80_11 : C := .seq (.seq (.reg [iI 5 (.mv (.t 0)), iI 6 (.len 0 (.t 5)), iI 7 (.bin .gtr (.t 6) (.c (.int .i64 8)))]) c80_0) c80_10
def ir80 : C := .seq (.reg [iI 2 (.mv (.c (.int .i64 0)))]) c80_11
theorem fd80 : fd? Try.prog 80 = some (44, [.slot 2], ir80) := by kernel_rfl
noncomputable def f80 (l_3298 : (List ApiFrame)) : Option (Int) :=
  (if (decide (8 < ((l_3298.length : Nat) : Int))) = true then (some 5) else ((Lp.run (f80_L1 l_3298) 0).bind fun r_ => match r_ with | (Sum.inl _) => (some 0) | (Sum.inr v_3306) => (some v_3306)))
theorem f80_ok {l_3298 : (List ApiFrame)} {r_ : Int} (H : f80 l_3298 = some r_) : Pure Try.prog 80 [.sl 2 false (l_3298.map eApiFrame)] (· = .int .i64 r_) := by
 refine Pure.walk3 fd80 none (Nat.le_of_ble_eq_true rfl) (by rfl) fun Q hQ => ?_
 simp only [f80] at H
 refine AW.rseq ?_
 try simp only [↓wk, ↓wl, nq, evV, ↓reduceIte, sevalprocAttr]
 refine AW.sseq ?_
 refine AW.rseq ?_
 try simp only [↓wk, ↓wl, nq, evV, ↓reduceIte, sevalprocAttr]
 refine AW.ifc H (by rfl) ?_ ?_ <;> clear H <;> intro H
 ·refine AW.rseq ?_
  try simp only [↓wk, ↓wl, nq, evV, ↓reduceIte, sevalprocAttr]
  refine AW.ret ?_
  refine seqQ.ret ?_
  cases H
  exact hQ _ _ _ _ (.inr rfl) (by simp only [resVs, omap, resV, ↓wk, ↓wl, nq, evV, ↓reduceIte, sevalprocAttr]; rfl) (hand_plain (by rfl)) (by first | exact Or.inl rfl | exact Or.inr rfl)
 ·refine AW.skip ?_
  refine seqQ.norm ?_
  refine AW.sseq ?_
  refine AW.rseq ?_
  try simp only [↓wk, ↓wl, nq, evV, ↓reduceIte, sevalprocAttr]
  refine AW.bend ?_
  refine AW.iter H ((Le.none [] [0, 8, 9, 10] (by decide) (by simp only [f80_L1c, rrl, Option.map_some, vm, List.idxOf?_cons, List.idxOf?_nil, beq_self_eq_true, Option.map_none, List.getD_cons_zero, List.getD_cons_succ, ↓wk, ↓wl, nq, evV, ↓reduceIte, sevalprocAttr] <;> rfl))) ?_ <;> clear H
  rintro v_3303 x_ st0_ H hst_
  rw [f80_L1c] at hst_
  simp only [f80_L1] at H
  subst hst_
  refine AW.rseq ?_
  try simp only [↓wk, ↓wl, nq, evV, ↓reduceIte, sevalprocAttr]
  refine AW.sseq ?_
  refine AW.ifc H (by rfl) ?_ ?_ <;> clear H <;> intro H
  ·refine AW.skip ?_
   refine seqQ.norm ?_
   refine AW.bseq ?_
   refine AW.rseq ?_
   try simp only [↓wk, ↓wl, nq, evV, ↓reduceIte, sevalprocAttr]
   refine evTs_at (enc := eApiFrame) H (by rfl) (by rfl) ?_ <;> clear H <;> intro x_3307 H
   try simp only [eApiFrame, eL, ↓wk, ↓wl, nq, evV, ↓reduceIte, sevalprocAttr]
   refine AW.bend ?_
   refine AW.rseq ?_
   try simp only [↓wk, ↓wl, nq, evV, ↓reduceIte, sevalprocAttr]
   refine evTs_ifg H (by rfl) ?_ ?_ <;> clear H <;> intro H
   ·try simp only [↓wk, ↓wl, nq, evV, ↓reduceIte, sevalprocAttr]
    refine AW.ift (by rfl) ?_
    refine AW.rseq ?_
    try simp only [↓wk, ↓wl, nq, evV, ↓reduceIte, sevalprocAttr]
    refine AW.ret ?_
    refine blk0.ret ?_
    refine blkQ.ret ?_
    refine loopQ.ret H ?_ <;> clear H <;> intro H
    try dsimp only at H
    refine blk0.ret ?_
    refine seqQ.ret ?_
    cases H
    exact hQ _ _ _ _ (.inr rfl) (by simp only [resVs, omap, resV, ↓wk, ↓wl, nq, evV, ↓reduceIte, sevalprocAttr]; rfl) (hand_plain (by rfl)) (by first | exact Or.inl rfl | exact Or.inr rfl)
   ·try simp only [↓wk, ↓wl, nq, evV, ↓reduceIte, sevalprocAttr]
    refine AW.ifc H (by rfl) ?_ ?_ <;> clear H <;> intro H
    ·refine AW.rseq ?_
     try simp only [↓wk, ↓wl, nq, evV, ↓reduceIte, sevalprocAttr]
     refine AW.ret ?_
     refine blk0.ret ?_
     refine blkQ.ret ?_
     refine loopQ.ret H ?_ <;> clear H <;> intro H
     try dsimp only at H
     refine blk0.ret ?_
     refine seqQ.ret ?_
     cases H
     exact hQ _ _ _ _ (.inr rfl) (by simp only [resVs, omap, resV, ↓wk, ↓wl, nq, evV, ↓reduceIte, sevalprocAttr]; rfl) (hand_plain (by rfl)) (by first | exact Or.inl rfl | exact Or.inr rfl)
    ·refine AW.rseq ?_
     try simp only [↓wk, ↓wl, nq, evV, ↓reduceIte, sevalprocAttr]
     refine AW.ifc H (by rfl) ?_ ?_ <;> clear H <;> intro H
     ·refine AW.rseq ?_
      try simp only [↓wk, ↓wl, nq, evV, ↓reduceIte, sevalprocAttr]
      refine AW.ret ?_
      refine blk0.ret ?_
      refine blkQ.ret ?_
      refine loopQ.ret H ?_ <;> clear H <;> intro H
      try dsimp only at H
      refine blk0.ret ?_
      refine seqQ.ret ?_
      cases H
      exact hQ _ _ _ _ (.inr rfl) (by simp only [resVs, omap, resV, ↓wk, ↓wl, nq, evV, ↓reduceIte, sevalprocAttr]; rfl) (hand_plain (by rfl)) (by first | exact Or.inl rfl | exact Or.inr rfl)
     ·refine AW.rseq ?_
      try simp only [↓wk, ↓wl, nq, evV, ↓reduceIte, sevalprocAttr]
      refine evTs_ifg H (by rfl) ?_ ?_ <;> clear H <;> intro H
      ·try simp only [↓wk, ↓wl, nq, evV, ↓reduceIte, sevalprocAttr]
       refine evTs_at (enc := eApiFrame) H (by rfl) (by rfl) ?_ <;> clear H <;> intro x_3308 H
       try simp only [eApiFrame, eL, ↓wk, ↓wl, nq, evV, ↓reduceIte, sevalprocAttr]
       refine AW.ifc H (by rfl) ?_ ?_ <;> clear H <;> intro H
       ·refine AW.rseq ?_
        try simp only [↓wk, ↓wl, nq, evV, ↓reduceIte, sevalprocAttr]
        refine AW.ret ?_
        refine blk0.ret ?_
        refine blkQ.ret ?_
        refine loopQ.ret H ?_ <;> clear H <;> intro H
        try dsimp only at H
        refine blk0.ret ?_
        refine seqQ.ret ?_
        cases H
        exact hQ _ _ _ _ (.inr rfl) (by simp only [resVs, omap, resV, ↓wk, ↓wl, nq, evV, ↓reduceIte, sevalprocAttr]; rfl) (hand_plain (by rfl)) (by first | exact Or.inl rfl | exact Or.inr rfl)
       ·refine AW.skip ?_
        refine blk0.norm ?_
        refine blkQ.norm ?_
        refine AW.rend ?_
        try simp only [↓wk, ↓wl, nq, evV, ↓reduceIte, sevalprocAttr]
        exact loopQ.next H ((Le.none [] [0, 8, 9, 10] (by decide) (by simp only [f80_L1c, rrl, Option.map_some, vm, List.idxOf?_cons, List.idxOf?_nil, beq_self_eq_true, Option.map_none, List.getD_cons_zero, List.getD_cons_succ, ↓wk, ↓wl, nq, evV, ↓reduceIte, sevalprocAttr] <;> rfl)))
      ·try simp only [↓wk, ↓wl, nq, evV, ↓reduceIte, sevalprocAttr]
       refine AW.iff (by rfl) ?_
       refine AW.skip ?_
       refine blk0.norm ?_
       refine blkQ.norm ?_
       refine AW.rend ?_
       try simp only [↓wk, ↓wl, nq, evV, ↓reduceIte, sevalprocAttr]
       exact loopQ.next H ((Le.none [] [0, 8, 9, 10] (by decide) (by simp only [f80_L1c, rrl, Option.map_some, vm, List.idxOf?_cons, List.idxOf?_nil, beq_self_eq_true, Option.map_none, List.getD_cons_zero, List.getD_cons_succ, ↓wk, ↓wl, nq, evV, ↓reduceIte, sevalprocAttr] <;> rfl)))
  ·refine AW.exit ?_
   refine seqQ.exit ?_
   refine loopQ.exit H ?_ <;> clear H <;> intro H
   try dsimp only at H
   refine blk0.here ?_
   refine seqQ.norm ?_
   refine AW.rseq ?_
   try simp only [↓wk, ↓wl, nq, evV, ↓reduceIte, sevalprocAttr]
   refine AW.ret ?_
   cases H
   exact hQ _ _ _ _ (.inr rfl) (by simp only [resVs, omap, resV, ↓wk, ↓wl, nq, evV, ↓reduceIte, sevalprocAttr]; rfl) (hand_plain (by rfl)) (by first | exact Or.inl rfl | exact Or.inr rfl)
def c81_0 : C := .cond (.t 4) (.seq (.reg [iI 2 (.mv (.c (.sl 5 true [])))]) .ret) (.skip)
def c81_1 : C := .seq (.reg [iI 5 (.mkslp 5 0 (.agg [(.int .i64 0), (.int .i64 0), (.int .i64 0), (.int .i64 0), (.str [])]) []), iI 6 (.mv (.t 0)), iI 7 (.append 5 48 (.t 5) (.t 6)), iI 2 (.mv (.t 7))]) .ret
def c81_2 : C := .seq (.seq (.reg [iI 3 (.mv (.t 0)), iI 4 (.isnil false (.t 3))]) c81_0) c81_1
def ir81 : C := .seq (.reg [iI 2 (.mv (.c (.sl 5 true [])))]) c81_2
theorem fd81 : fd? Try.prog 81 = some (8, [.slot 2], ir81) := by kernel_rfl
noncomputable def f81 (s_3311 : (List NetworkStream)) : Option ((List NetworkStream)) :=
  (nil? (s_3311 : List NetworkStream) false fun b_3312 => (if b_3312 = true then (some []) else (app? 48 [] s_3311).bind fun out_3313 => (some out_3313)))
theorem f81_ok {s_3311 : (List NetworkStream)} {r_ : (List NetworkStream)} (H : f81 s_3311 = some r_) : Pure Try.prog 81 [.sl 5 false (s_3311.map eNetworkStream)] (· = .fr 5 (r_.map eNetworkStream)) := by
 refine Pure.walk3 fd81 (some 0) (Nat.le_of_ble_eq_true rfl) (by rfl) fun Q hQ => ?_
 simp only [f81] at H
 refine AW.rseq ?_
 try simp only [↓wk, ↓wl, nq, evV, ↓reduceIte, sevalprocAttr]
 refine AW.sseq ?_
 refine AW.rseq ?_
 try simp only [↓wk, ↓wl, nq, evV, ↓reduceIte, sevalprocAttr]
 refine evTs_isnil (enc := eNetworkStream) H (by rfl) ?_ <;> clear H <;> intro b_3312 H
 try simp only [↓wk, ↓wl, nq, evV, ↓reduceIte, sevalprocAttr]
 refine AW.ifc H (by rfl) ?_ ?_ <;> clear H <;> intro H
 ·refine AW.rseq ?_
  try simp only [↓wk, ↓wl, nq, evV, ↓reduceIte, sevalprocAttr]
  refine AW.ret ?_
  refine seqQ.ret ?_
  cases H
  exact hQ _ _ _ _ (.inr rfl) (by simp only [resVs, omap, resV, ↓wk, ↓wl, nq, evV, ↓reduceIte, sevalprocAttr]; rfl) hand_10 (by first | exact Or.inl rfl | exact Or.inr rfl)
 ·refine AW.skip ?_
  refine seqQ.norm ?_
  refine AW.rseq ?_
  try simp only [↓wk, ↓wl, nq, evV, ↓reduceIte, sevalprocAttr]
  refine evTs_app0 (enc := eNetworkStream) H (by rfl) (by rfl) ?_ <;> clear H <;> intro out_3313 H
  try simp only [↓wk, ↓wl, nq, evV, ↓reduceIte, sevalprocAttr]
  refine AW.ret ?_
  cases H
  exact hQ _ _ _ _ (.inr rfl) (by simp only [resVs, omap, resV, ↓wk, ↓wl, nq, evV, ↓reduceIte, sevalprocAttr]; rfl) (hand_1 (by rfl) (by simp) (enc_all _)) (by first | exact Or.inl rfl | exact Or.inr rfl)
theorem f81_im {s_3311 : (List NetworkStream)} {r_ : (List NetworkStream)} (H : f81 s_3311 = some r_) : Pure Try.prog 81 [.sl 5 false (s_3311.map eNetworkStream)] (· = .sl 5 false (r_.map eNetworkStream)) := (f81_ok H).unfr (by first | exact enc_fits _ | simp only [frFits, List.all_cons, List.all_nil, enc_fits, Bool.and_self])
def c115_0 : C := .seq (.reg [iI 5 (.faddr 0 (.t 2)), iI 6 (.load 0 (.t 5)), iI 7 (.mv (.t 1)), iI 8 (.bin .sub (.t 6) (.t 7)), iI 4 (.mv (.t 8))]) .ret
def ir115 : C := .seq (.reg [iI 2 (.box (.t 0)), iI 4 (.mv (.c (.int .i64 0)))]) c115_0
theorem fd115 : fd? Try.prog 115 = some (9, [.slot 4], ir115) := by kernel_rfl
noncomputable def f115 (x_3319 : NetworkStream) (u_3320 : Int) : Option (Int) :=
  (some (IntKind.i64.wrap (x_3319.fUniverse - u_3320)))
theorem f115_ok {x_3319 : NetworkStream} {u_3320 : Int} {r_ : Int} (H : f115 x_3319 u_3320 = some r_) : Pure Try.prog 115 [.agg [.int .i64 x_3319.fUniverse, .int .i64 x_3319.fSeq, .int .i64 x_3319.fLast, .int .i64 x_3319.fTimes, .str x_3319.fSlots], .int .i64 u_3320] (· = .int .i64 r_) := by
 refine Pure.walk3 fd115 none (Nat.le_of_ble_eq_true rfl) (by rfl) fun Q hQ => ?_
 simp only [f115] at H
 refine AW.rseq ?_
 try simp only [↓wk, ↓wl, nq, evV, ↓reduceIte, sevalprocAttr]
 refine AW.rseq ?_
 try simp only [↓wk, ↓wl, nq, evV, ↓reduceIte, sevalprocAttr]
 refine AW.ret ?_
 cases H
 exact hQ _ _ _ _ (.inr rfl) (by simp only [resVs, omap, resV, ↓wk, ↓wl, nq, evV, ↓reduceIte, sevalprocAttr]; rfl) (hand_plain (by rfl)) (by first | exact Or.inl rfl | exact Or.inr rfl)
noncomputable def f114_115_L1 (x_3316 : (List NetworkStream)) (target_3317 : Int) : Lp (Int × Int) (Int) where
  body := fun (i_3337, j_3338) => (if (decide (i_3337 < j_3338)) = true then (at? x_3316 (IntKind.i64.wrap (Int.fdiv (IntKind.u64.wrap (IntKind.i64.wrap (i_3337 + j_3338))) (2 ^ (min (Int.toNat 1) (IntKind.bits .u64)))))).bind fun x_3346 => (f115 x_3346 target_3317).bind fun r_3347 => (if (decide (r_3347 < 0)) = true then (some (.next ((IntKind.i64.wrap ((IntKind.i64.wrap (Int.fdiv (IntKind.u64.wrap (IntKind.i64.wrap (i_3337 + j_3338))) (2 ^ (min (Int.toNat 1) (IntKind.bits .u64))))) + 1)), j_3338))) else (some (.next (i_3337, (IntKind.i64.wrap (Int.fdiv (IntKind.u64.wrap (IntKind.i64.wrap (i_3337 + j_3338))) (2 ^ (min (Int.toNat 1) (IntKind.bits .u64))))))))) else (some (.brk i_3337)))
  cst := fun (i_3337, j_3338) => ⟨put (put (put (put (put (put (fun _ => .junk) 10 (.int .i64 j_3338)) 9 (.int .i64 i_3337)) 8 (.int .i64 ((x_3316.length : Nat) : Int))) 2 (.fn 115 [])) 1 (.int .i64 target_3317)) 0 (.sl 5 false (x_3316.map eNetworkStream)), []⟩
theorem f114_115_L1c (x_3316 : (List NetworkStream)) (target_3317 : Int) (i_3337 : Int) (j_3338 : Int) : (f114_115_L1 x_3316 target_3317).cst (i_3337, j_3338) = ⟨put (put (put (put (put (put (fun _ => .junk) 10 (.int .i64 j_3338)) 9 (.int .i64 i_3337)) 8 (.int .i64 ((x_3316.length : Nat) : Int))) 2 (.fn 115 [])) 1 (.int .i64 target_3317)) 0 (.sl 5 false (x_3316.map eNetworkStream)), []⟩ := rfl
def c114_0 : C := .cond (.t 17) (.skip) (.exit 0)
def c114_1 : C := .cond (.t 31) (.reg [iI 32 (.mv (.t 11)), iI 33 (.bin .add (.t 32) (.c (.int .i64 1))), iI 9 (.mv (.t 33))]) (.reg [iI 34 (.mv (.t 11)), iI 10 (.mv (.t 34))])
def c114_2 : C := .seq (.reg [iI 24 (.mv (.t 2)), iI 25 (.mv (.t 0)), iI 26 (.mv (.t 11)), iI 27 (.iaddr 5 (.t 25) (.t 26)), iI 28 (.load 5 (.t 27)), iI 29 (.mv (.t 1)), iI 30 (.call (.t 24) [(.t 28), (.t 29)]), iI 31 (.bin .lss (.t 30) (.c (.int .i64 0)))]) c114_1
def c114_3 : C := .block 1 (.seq (.reg [iI 18 (.mv (.t 9)), iI 19 (.mv (.t 10)), iI 20 (.bin .add (.t 18) (.t 19)), iI 21 (.cint .u64 (.t 20)), iI 22 (.bin .shr (.t 21) (.c (.int .u64 1))), iI 23 (.cint .i64 (.t 22)), iI 11 (.mv (.t 23))]) c114_2)
def c114_4 : C := .seq (.reg [iI 35 (.mv (.t 9)), iI 36 (.mv (.t 9)), iI 37 (.mv (.t 8)), iI 38 (.bin .lss (.t 36) (.t 37)), iI 39 (.mv (.t 38)), iG (some 40) 39 true (.mv (.t 2)), iG (some 41) 39 true (.mv (.t 0)), iG (some 42) 39 true (.mv (.t 9)), iG (some 43) 39 true (.iaddr 5 (.t 41) (.t 42)), iG (some 44) 39 true (.load 5 (.t 43)), iG (some 45) 39 true (.mv (.t 1)), iG (some 46) 39 true (.call (.t 40) [(.t 44), (.t 45)]), iG (some 47) 39 true (.bin .eql (.t 46) (.c (.int .i64 0))), iI 48 (.pick (.t 39) (.t 47) (.c (.bool false))), iI 6 (.mv (.t 35)), iI 7 (.mv (.t 48))]) .ret
def c114_5 : C := .seq (.block 0 (.loop (.seq (.seq (.reg [iI 15 (.mv (.t 9)), iI 16 (.mv (.t 10)), iI 17 (.bin .lss (.t 15) (.t 16))]) c114_0) c114_3))) c114_4
def c114_6 : C := .seq (.reg [iI 14 (.mv (.t 8)), iI 9 (.mv (.c (.int .i64 0))), iI 10 (.mv (.t 14))]) c114_5
def c114_7 : C := .seq (.reg [iI 12 (.mv (.t 0)), iI 13 (.len 0 (.t 12)), iI 8 (.mv (.t 13))]) c114_6
def ir114 : C := .seq (.reg [iI 6 (.mv (.c (.int .i64 0))), iI 7 (.mv (.c (.bool false)))]) c114_7
theorem fd114 : fd? Try.prog 114 = some (49, [.slot 6, .slot 7], ir114) := by kernel_rfl
noncomputable def f114_115 (x_3316 : (List NetworkStream)) (target_3317 : Int) : Option (Int × Bool) :=
  (Lp.run (f114_115_L1 x_3316 target_3317) (0, ((x_3316.length : Nat) : Int))).bind fun i_3341 => (if (decide (i_3341 < ((x_3316.length : Nat) : Int))) = true then (at? x_3316 i_3341).bind fun x_3342 => (f115 x_3342 target_3317).bind fun r_3343 => (some (i_3341, (decide (r_3343 = 0)))) else (some (i_3341, false)))
theorem f114_115_ok {x_3316 : (List NetworkStream)} {target_3317 : Int} {r_ : Int × Bool} (H : f114_115 x_3316 target_3317 = some r_) : Pure Try.prog 114 [.sl 5 false (x_3316.map eNetworkStream), .int .i64 target_3317, .fn 115 []] (· = .tup [.int .i64 r_.1, .bool r_.2]) := by
 refine Pure.walk3 fd114 none (Nat.le_of_ble_eq_true rfl) (by rfl) fun Q hQ => ?_
 simp only [f114_115] at H
 refine AW.rseq ?_
 try simp only [↓wk, ↓wl, nq, evV, ↓reduceIte, sevalprocAttr]
 refine AW.rseq ?_
 try simp only [↓wk, ↓wl, nq, evV, ↓reduceIte, sevalprocAttr]
 refine AW.rseq ?_
 try simp only [↓wk, ↓wl, nq, evV, ↓reduceIte, sevalprocAttr]
 refine AW.bseq ?_
 refine AW.iter H ((Le.none [] [0, 1, 2, 8, 9, 10] (by decide) (by simp only [f114_115_L1c, rrl, Option.map_some, vm, List.idxOf?_cons, List.idxOf?_nil, beq_self_eq_true, Option.map_none, List.getD_cons_zero, List.getD_cons_succ, ↓wk, ↓wl, nq, evV, ↓reduceIte, sevalprocAttr] <;> rfl))) ?_ <;> clear H
 rintro ⟨i_3337, j_3338⟩ x_ st0_ H hst_
 rw [f114_115_L1c] at hst_
 simp only [f114_115_L1] at H
 subst hst_
 refine AW.sseq ?_
 refine AW.rseq ?_
 try simp only [↓wk, ↓wl, nq, evV, ↓reduceIte, sevalprocAttr]
 refine AW.ifc H (by rfl) ?_ ?_ <;> clear H <;> intro H
 ·refine AW.skip ?_
  refine seqQ.norm ?_
  refine AW.bend ?_
  refine AW.rseq ?_
  try simp only [↓wk, ↓wl, nq, evV, ↓reduceIte, sevalprocAttr]
  refine rest_shr (by decide) ?_
  try simp only [↓wk, ↓wl, nq, evV, ↓reduceIte, sevalprocAttr]
  refine AW.rseq ?_
  try simp only [↓wk, ↓wl, nq, evV, ↓reduceIte, sevalprocAttr]
  refine evTs_at (enc := eNetworkStream) H (by rfl) (by rfl) ?_ <;> clear H <;> intro x_3346 H
  try simp only [eNetworkStream, eL, ↓wk, ↓wl, nq, evV, ↓reduceIte, sevalprocAttr]
  refine evTs_pure hFn H (fun _ h => f115_ok h) (by rfl) (by rfl) (by rfl) (by rfl) (fun _ => rfl) ?_ <;> clear H <;> intro r_3347 H
  try simp only [eL, ↓wk, ↓wl, nq, evV, ↓reduceIte, sevalprocAttr]
  refine AW.ifc H (by rfl) ?_ ?_ <;> clear H <;> intro H
  ·refine AW.rend ?_
   try simp only [↓wk, ↓wl, nq, evV, ↓reduceIte, sevalprocAttr]
   refine blk0.norm ?_
   exact loopQ.next H ((Le.none [] [0, 1, 2, 8, 9, 10] (by decide) (by simp only [f114_115_L1c, rrl, Option.map_some, vm, List.idxOf?_cons, List.idxOf?_nil, beq_self_eq_true, Option.map_none, List.getD_cons_zero, List.getD_cons_succ, ↓wk, ↓wl, nq, evV, ↓reduceIte, sevalprocAttr] <;> rfl)))
  ·refine AW.rend ?_
   try simp only [↓wk, ↓wl, nq, evV, ↓reduceIte, sevalprocAttr]
   refine blk0.norm ?_
   exact loopQ.next H ((Le.none [] [0, 1, 2, 8, 9, 10] (by decide) (by simp only [f114_115_L1c, rrl, Option.map_some, vm, List.idxOf?_cons, List.idxOf?_nil, beq_self_eq_true, Option.map_none, List.getD_cons_zero, List.getD_cons_succ, ↓wk, ↓wl, nq, evV, ↓reduceIte, sevalprocAttr] <;> rfl)))
 ·refine AW.exit ?_
  refine seqQ.exit ?_
  refine loopQ.exit H ?_ <;> clear H <;> intro H
  try dsimp only at H
  refine blkQ.here ?_
  refine AW.rseq ?_
  try simp only [↓wk, ↓wl, nq, evV, ↓reduceIte, sevalprocAttr]
  refine evTs_ifg H (by rfl) ?_ ?_ <;> clear H <;> intro H
  ·try simp only [↓wk, ↓wl, nq, evV, ↓reduceIte, sevalprocAttr]
   refine evTs_at (enc := eNetworkStream) H (by rfl) (by rfl) ?_ <;> clear H <;> intro x_3348 H
   try simp only [eNetworkStream, eL, ↓wk, ↓wl, nq, evV, ↓reduceIte, sevalprocAttr]
   refine evTs_pure hFn H (fun _ h => f115_ok h) (by rfl) (by rfl) (by rfl) (by rfl) (fun _ => rfl) ?_ <;> clear H <;> intro r_3349 H
   try simp only [eL, ↓wk, ↓wl, nq, evV, ↓reduceIte, sevalprocAttr]
   refine AW.ret ?_
   cases H
   exact hQ _ _ _ _ (.inr rfl) (by simp only [resVs, omap, resV, ↓wk, ↓wl, nq, evV, ↓reduceIte, sevalprocAttr]; rfl) (hand_plain (by rfl)) (by first | exact Or.inl rfl | exact Or.inr rfl)
  ·try simp only [↓wk, ↓wl, nq, evV, ↓reduceIte, sevalprocAttr]
   refine AW.ret ?_
   cases H
   exact hQ _ _ _ _ (.inr rfl) (by simp only [resVs, omap, resV, ↓wk, ↓wl, nq, evV, ↓reduceIte, sevalprocAttr]; rfl) (hand_plain (by rfl)) (by first | exact Or.inl rfl | exact Or.inr rfl)
theorem ins116 : fd? Try.prog 116 = some (95, [.slot 6], insC 5 48 (.agg [(.int .i64 0), (.int .i64 0), (.int .i64 0), (.int .i64 0), (.str [])]) 148) := by kernel_rfl
def c84_0 : C := .seq (.reg [iI 3 (.mv (.t 0)), iI 4 (.bin .add (.t 3) (.c (.int .i64 1))), iI 5 (.bin .rem (.t 4) (.c (.int .i64 256))), iI 2 (.mv (.t 5))]) .ret
def ir84 : C := .seq (.reg [iI 2 (.mv (.c (.int .i64 0)))]) c84_0
theorem fd84 : fd? Try.prog 84 = some (6, [.slot 2], ir84) := by kernel_rfl
noncomputable def f84 (seq_3360 : Int) : Option (Int) :=
  (some ((IntKind.i64.wrap (seq_3360 + 1)).tmod 256))
theorem f84_ok {seq_3360 : Int} {r_ : Int} (H : f84 seq_3360 = some r_) : Pure Try.prog 84 [.int .i64 seq_3360] (· = .int .i64 r_) := by
 refine Pure.walk3 fd84 none (Nat.le_of_ble_eq_true rfl) (by rfl) fun Q hQ => ?_
 simp only [f84] at H
 refine AW.rseq ?_
 try simp only [↓wk, ↓wl, nq, evV, ↓reduceIte, sevalprocAttr]
 refine AW.rseq ?_
 try simp only [↓wk, ↓wl, nq, evV, ↓reduceIte, sevalprocAttr]
 refine AW.ret ?_
 cases H
 exact hQ _ _ _ _ (.inr rfl) (by simp only [resVs, omap, resV, ↓wk, ↓wl, nq, evV, ↓reduceIte, sevalprocAttr]; rfl) (hand_plain (by rfl)) (by first | exact Or.inl rfl | exact Or.inr rfl)
def c91_0 : C := .seq (.reg [iI 5 (.faddr 0 (.t 2)), iI 6 (.load 0 (.t 5)), iI 7 (.faddr 0 (.t 3)), iI 8 (.load 0 (.t 7)), iI 9 (.faddr 1 (.t 2)), iI 10 (.load 0 (.t 9)), iI 11 (.faddr 1 (.t 3)), iI 12 (.load 0 (.t 11)), iI 13 (.faddr 2 (.t 2)), iI 14 (.load 0 (.t 13)), iI 15 (.faddr 4 (.t 3)), iI 16 (.load 0 (.t 15)), iI 17 (.build [(1, (.int .u64 0)), (1, (.int .i64 0)), (1, (.int .i64 0)), (1, (.int .i64 0)), (1, (.int .i64 0)), (1, (.bool false)), (1, (.str []))] [(0, 0, (.t 6)), (1, 0, (.t 8)), (2, 0, (.t 10)), (3, 0, (.t 12)), (4, 0, (.t 14)), (6, 0, (.t 16))]), iN (.store 7 (.t 4) (.t 17))]) .ret
def ir91 : C := .seq (.reg [iI 2 (.box (.t 0)), iI 3 (.box (.t 1)), iI 4 (.alloc [(1, (.int .u64 0)), (1, (.int .i64 0)), (1, (.int .i64 0)), (1, (.int .i64 0)), (1, (.int .i64 0)), (1, (.bool false)), (1, (.str []))])]) c91_0
theorem fd91 : fd? Try.prog 91 = some (18, [.cell 4 7], ir91) := by kernel_rfl
noncomputable def f91 (s_3364 : NetworkSender) (x_3365 : NetworkStream) : Option (NetworkPacket) :=
  (some (NetworkPacket.mk s_3364.fSource x_3365.fUniverse s_3364.fPriority x_3365.fSeq s_3364.fSync false x_3365.fSlots))
theorem f91_ok {s_3364 : NetworkSender} {x_3365 : NetworkStream} {r_ : NetworkPacket} (H : f91 s_3364 x_3365 = some r_) : Pure Try.prog 91 [.agg [.int .u64 s_3364.fSource, .int .i64 s_3364.fPriority, .int .i64 s_3364.fSync, .int .i64 s_3364.fPulse, .sl 5 false (s_3364.fStreams.map eNetworkStream)], .agg [.int .i64 x_3365.fUniverse, .int .i64 x_3365.fSeq, .int .i64 x_3365.fLast, .int .i64 x_3365.fTimes, .str x_3365.fSlots]] (· = .agg [.int .u64 r_.fSource, .int .i64 r_.fUniverse, .int .i64 r_.fPriority, .int .i64 r_.fSeq, .int .i64 r_.fSync, .bool r_.fEnd, .str r_.fSlots]) := by
 refine Pure.walk3 fd91 none (Nat.le_of_ble_eq_true rfl) (by rfl) fun Q hQ => ?_
 simp only [f91] at H
 refine AW.rseq ?_
 try simp only [↓wk, ↓wl, nq, evV, ↓reduceIte, sevalprocAttr]
 refine AW.rseq ?_
 try simp only [↓wk, ↓wl, nq, evV, ↓reduceIte, sevalprocAttr]
 refine AW.ret ?_
 cases H
 exact hQ _ _ _ _ (.inr rfl) (by simp only [resVs, omap, resV, ↓wk, ↓wl, nq, evV, ↓reduceIte, sevalprocAttr]; rfl) (hand_plain (by rfl)) (by first | exact Or.inl rfl | exact Or.inr rfl)
noncomputable def f43_J3 (s_3239 : NetworkSender) (s_3850 : Int) (s_3846 : (List NetworkStream)) (out_3851 : (List NetworkPacket)) : Jn (Unit) (NetworkSender × (List NetworkPacket) × Int) where
  run := fun _ => (some ((NetworkSender.mk s_3239.fSource s_3239.fPriority s_3239.fSync s_3850 s_3846), out_3851, 0))
  cst := fun _ => ⟨put (put (put (fun _ => .junk) 8 (.int .i64 0)) 7 (.row 7 1 0 out_3851.length)) 6 (.ptr 0 0), [.cel [.int .u64 s_3239.fSource, .int .i64 s_3239.fPriority, .int .i64 s_3239.fSync, .int .i64 s_3850, .row 5 2 0 s_3846.length], .els 7 (out_3851.map eNetworkPacket), .els 5 (s_3846.map eNetworkStream)]⟩
theorem f43_J3c (s_3239 : NetworkSender) (s_3850 : Int) (s_3846 : (List NetworkStream)) (out_3851 : (List NetworkPacket)) (x_ : Unit) : (f43_J3 s_3239 s_3850 s_3846 out_3851).cst x_ = ⟨put (put (put (fun _ => .junk) 8 (.int .i64 0)) 7 (.row 7 1 0 out_3851.length)) 6 (.ptr 0 0), [.cel [.int .u64 s_3239.fSource, .int .i64 s_3239.fPriority, .int .i64 s_3239.fSync, .int .i64 s_3850, .row 5 2 0 s_3846.length], .els 7 (out_3851.map eNetworkPacket), .els 5 (s_3846.map eNetworkStream)]⟩ := rfl
noncomputable def f43_J2 (s_3239 : NetworkSender) (s_3846 : (List NetworkStream)) : Jn (Int × (List NetworkPacket)) (NetworkSender × (List NetworkPacket) × Int) where
  run := fun (s_3850, out_3851) => ((f43_J3 s_3239 s_3850 s_3846 out_3851).run ())
  cst := fun (s_3850, out_3851) => ⟨put (put (put (fun _ => .junk) 11 (.ptr 2 0)) 6 (.ptr 1 0)) 3 (.ptr 0 0), [.cel [.int .u64 s_3239.fSource, .int .i64 s_3239.fPriority, .int .i64 s_3239.fSync, .int .i64 s_3850, .row 5 3 0 s_3846.length], .cel [.int .u64 0, .int .i64 0, .int .i64 0, .int .i64 0, .sl 5 true []], .cel [.row 7 4 0 out_3851.length], .els 5 (s_3846.map eNetworkStream), .els 7 (out_3851.map eNetworkPacket)]⟩
theorem f43_J2c (s_3239 : NetworkSender) (s_3846 : (List NetworkStream)) (s_3850 : Int) (out_3851 : (List NetworkPacket)) : (f43_J2 s_3239 s_3846).cst (s_3850, out_3851) = ⟨put (put (put (fun _ => .junk) 11 (.ptr 2 0)) 6 (.ptr 1 0)) 3 (.ptr 0 0), [.cel [.int .u64 s_3239.fSource, .int .i64 s_3239.fPriority, .int .i64 s_3239.fSync, .int .i64 s_3850, .row 5 3 0 s_3846.length], .cel [.int .u64 0, .int .i64 0, .int .i64 0, .int .i64 0, .sl 5 true []], .cel [.row 7 4 0 out_3851.length], .els 5 (s_3846.map eNetworkStream), .els 7 (out_3851.map eNetworkPacket)]⟩ := rfl
def c82_0 : C := .cond (.t 22) (.reg [iI 23 (.mv (.t 0)), iI 24 (.mv (.t 0)), iI 25 (.nilchk (.t 24)), iI 26 (.faddr 4 (.t 25)), iI 27 (.load 0 (.t 26)), iI 28 (.mv (.t 8)), iI 29 (.faddr 0 (.t 6)), iI 30 (.load 0 (.t 29)), iI 31 (.faddr 1 (.t 6)), iI 32 (.load 0 (.t 31)), iI 33 (.build [(1, (.int .i64 0)), (1, (.int .i64 0)), (1, (.int .i64 0)), (1, (.int .i64 0)), (1, (.str []))] [(0, 0, (.t 30)), (1, 0, (.c (.int .i64 255))), (4, 0, (.t 32))]), iI 34 (.mkslp 5 1 (.agg [(.int .i64 0), (.int .i64 0), (.int .i64 0), (.int .i64 0), (.str [])]) [(0, (.t 33))]), iI 35 (.call (.c (.fn 116 [])) [(.t 27), (.t 28), (.t 34)]), iI 36 (.nilchk (.t 23)), iI 37 (.faddr 4 (.t 36)), iN (.store 0 (.t 37) (.t 35))]) (.skip)
def c82_1 : C := .cond (.t 60) (.reg [iI 75 (.mv (.t 10)), iI 76 (.mv (.t 10)), iI 77 (.nilchk (.t 76)), iI 78 (.faddr 3 (.t 77)), iI 79 (.load 0 (.t 78)), iI 80 (.bin .add (.t 79) (.c (.int .i64 1))), iI 81 (.maxmin false (.t 80) [(.c (.int .i64 3))]), iI 82 (.nilchk (.t 75)), iI 83 (.faddr 3 (.t 82)), iN (.store 0 (.t 83) (.t 81))]) (.ret)
def c82_2 : C := .cond (.t 44) (.reg [iI 52 (.mv (.t 10)), iI 53 (.mv (.t 10)), iI 54 (.faddr 1 (.t 6)), iI 55 (.load 0 (.t 54)), iI 56 (.nilchk (.t 52)), iI 57 (.faddr 4 (.t 56)), iN (.store 0 (.t 57) (.t 55)), iI 58 (.nilchk (.t 53)), iI 59 (.faddr 3 (.t 58)), iN (.store 0 (.t 59) (.c (.int .i64 1)))]) (.seq (.reg [iI 61 (.mv (.t 10)), iI 62 (.nilchk (.t 61)), iI 63 (.faddr 3 (.t 62)), iI 64 (.load 0 (.t 63)), iI 65 (.bin .lss (.t 64) (.c (.int .i64 3))), iI 66 (.mv (.t 65)), iG (some 67) 66 false (.mv (.t 1)), iG (some 68) 66 false (.mv (.t 10)), iG (some 69) 66 false (.nilchk (.t 68)), iG (some 70) 66 false (.faddr 2 (.t 69)), iG (some 71) 66 false (.load 0 (.t 70)), iG (some 72) 66 false (.bin .sub (.t 67) (.t 71)), iG (some 73) 66 false (.bin .geq (.t 72) (.c (.int .i64 1000))), iI 74 (.pick (.t 66) (.c (.bool true)) (.t 73)), iI 60 (.mv (.t 74))]) c82_1)
def c82_3 : C := .reg [iI 96 (.mv (.t 3)), iI 97 (.mv (.t 0)), iI 98 (.nilchk (.t 97)), iI 99 (.load 5 (.t 98)), iI 100 (.mv (.t 10)), iI 101 (.nilchk (.t 100)), iI 102 (.load 5 (.t 101)), iI 103 (.call (.c (.fn 91 [])) [(.t 99), (.t 102)]), iI 104 (.call (.t 96) [(.t 103)])]
def c82_4 : C := .seq (.reg [iI 84 (.mv (.t 10)), iI 85 (.mv (.t 10)), iI 86 (.mv (.t 10)), iI 87 (.nilchk (.t 86)), iI 88 (.faddr 1 (.t 87)), iI 89 (.load 0 (.t 88)), iI 90 (.call (.c (.fn 84 [])) [(.t 89)]), iI 91 (.mv (.t 1)), iI 92 (.nilchk (.t 84)), iI 93 (.faddr 1 (.t 92)), iN (.store 0 (.t 93) (.t 90)), iI 94 (.nilchk (.t 85)), iI 95 (.faddr 2 (.t 94)), iN (.store 0 (.t 95) (.t 91))]) c82_3
def c82_5 : C := .seq (.block 0 (.seq (.reg [iI 45 (.mv (.t 10)), iI 46 (.nilchk (.t 45)), iI 47 (.faddr 4 (.t 46)), iI 48 (.load 0 (.t 47)), iI 49 (.faddr 1 (.t 6)), iI 50 (.load 0 (.t 49)), iI 51 (.bin .neq (.t 48) (.t 50)), iI 44 (.mv (.t 51))]) c82_2)) c82_4
def c82_6 : C := .seq (.reg [iI 38 (.mv (.t 0)), iI 39 (.nilchk (.t 38)), iI 40 (.faddr 4 (.t 39)), iI 41 (.load 0 (.t 40)), iI 42 (.mv (.t 8)), iI 43 (.iaddr 5 (.t 41) (.t 42)), iI 10 (.mv (.t 43))]) c82_5
def c82_7 : C := .seq (.seq (.reg [iI 21 (.mv (.t 9)), iI 22 (.un .not (.t 21))]) c82_0) c82_6
def c82_8 : C := .seq (.reg [iI 12 (.mv (.t 0)), iI 13 (.nilchk (.t 12)), iI 14 (.faddr 4 (.t 13)), iI 15 (.load 0 (.t 14)), iI 16 (.faddr 0 (.t 6)), iI 17 (.load 0 (.t 16)), iI 18 (.call (.c (.fn 114 [])) [(.t 15), (.t 17), (.c (.fn 115 []))]), iI 11 (.mv (.t 18)), iI 19 (.ext (.t 11) 0), iI 20 (.ext (.t 11) 1), iI 8 (.mv (.t 19)), iI 9 (.mv (.t 20))]) c82_7
def ir82 : C := .seq (.reg [iI 6 (.box (.t 2))]) c82_8
theorem fd82 : fd? Try.prog 82 = some (105, [], ir82) := by kernel_rfl
noncomputable def f43_C5 (s_3239 : NetworkSender) (x_3917 : NetworkStream) (r_3924 : Int) (x_3854 : ApiFrame) (v_3916 : (List NetworkStream)) (out_3785 : (List NetworkPacket)) (r_3914 : Int × Bool) (t_3240 : Int) : Il (Unit) where
  run := (some ())
  res := fun _ => .agg [.int .u64 s_3239.fSource, .int .i64 x_3917.fUniverse, .int .i64 s_3239.fPriority, .int .i64 r_3924, .int .i64 s_3239.fSync, .bool false, .str x_3854.fSlots]
  hp := fun _ => [.cel [.int .u64 s_3239.fSource, .int .i64 s_3239.fPriority, .int .i64 s_3239.fSync, .int .i64 s_3239.fPulse, .row 5 7 0 v_3916.length], .cel [.int .u64 0, .int .i64 0, .int .i64 0, .int .i64 0, .sl 5 true []], .cel [.row 7 4 0 out_3785.length], .dead, .els 7 (out_3785.map eNetworkPacket), .cel [.int .i64 x_3854.fUniverse, .str x_3854.fSlots], .cel [.int .i64 x_3854.fUniverse, .str x_3854.fSlots], .els 5 (((((v_3916.set r_3914.1.toNat (NetworkStream.mk x_3917.fUniverse x_3917.fSeq x_3917.fLast x_3917.fTimes x_3854.fSlots)).set r_3914.1.toNat (NetworkStream.mk x_3917.fUniverse x_3917.fSeq x_3917.fLast 1 x_3854.fSlots)).set r_3914.1.toNat (NetworkStream.mk x_3917.fUniverse r_3924 x_3917.fLast 1 x_3854.fSlots)).set r_3914.1.toNat (NetworkStream.mk x_3917.fUniverse r_3924 t_3240 1 x_3854.fSlots)).map eNetworkStream), .cel [.int .u64 s_3239.fSource, .int .i64 x_3917.fUniverse, .int .i64 s_3239.fPriority, .int .i64 r_3924, .int .i64 s_3239.fSync, .bool false, .str x_3854.fSlots]]
def c83_0 : C := .reg [iI 3 (.load 0 (.t 1)), iI 4 (.load 7 (.t 2)), iI 5 (.mkslp 7 1 (.agg [(.int .u64 0), (.int .i64 0), (.int .i64 0), (.int .i64 0), (.int .i64 0), (.bool false), (.str [])]) [(0, (.t 4))]), iI 6 (.append 7 64 (.t 3) (.t 5)), iN (.store 0 (.t 1) (.t 6))]
def ir83 : C := .seq (.reg [iI 2 (.box (.t 0))]) c83_0
theorem fd83 : fd? Try.prog 83 = some (7, [], ir83) := by kernel_rfl
noncomputable def f43_C6 (out_3785 : (List NetworkPacket)) (s_3239 : NetworkSender) (x_3917 : NetworkStream) (r_3924 : Int) (x_3854 : ApiFrame) (v_3916 : (List NetworkStream)) (r_3914 : Int × Bool) (t_3240 : Int) : Il ((List NetworkPacket)) where
  run := (app? 64 out_3785 ([(NetworkPacket.mk s_3239.fSource x_3917.fUniverse s_3239.fPriority r_3924 s_3239.fSync false x_3854.fSlots)])).bind fun out_3930 => (some out_3930)
  res := fun v_3929 => .tup []
  hp := fun v_3929 => [.cel [.int .u64 s_3239.fSource, .int .i64 s_3239.fPriority, .int .i64 s_3239.fSync, .int .i64 s_3239.fPulse, .row 5 7 0 v_3916.length], .cel [.int .u64 0, .int .i64 0, .int .i64 0, .int .i64 0, .sl 5 true []], .cel [.row 7 9 0 v_3929.length], .dead, .dead, .cel [.int .i64 x_3854.fUniverse, .str x_3854.fSlots], .cel [.int .i64 x_3854.fUniverse, .str x_3854.fSlots], .els 5 (((((v_3916.set r_3914.1.toNat (NetworkStream.mk x_3917.fUniverse x_3917.fSeq x_3917.fLast x_3917.fTimes x_3854.fSlots)).set r_3914.1.toNat (NetworkStream.mk x_3917.fUniverse x_3917.fSeq x_3917.fLast 1 x_3854.fSlots)).set r_3914.1.toNat (NetworkStream.mk x_3917.fUniverse r_3924 x_3917.fLast 1 x_3854.fSlots)).set r_3914.1.toNat (NetworkStream.mk x_3917.fUniverse r_3924 t_3240 1 x_3854.fSlots)).map eNetworkStream), .cel [.int .u64 s_3239.fSource, .int .i64 x_3917.fUniverse, .int .i64 s_3239.fPriority, .int .i64 r_3924, .int .i64 s_3239.fSync, .bool false, .str x_3854.fSlots], .els 7 (v_3929.map eNetworkPacket)]
noncomputable def f43_C7 (s_3239 : NetworkSender) (x_3917 : NetworkStream) (r_3932 : Int) (v_3916 : (List NetworkStream)) (out_3785 : (List NetworkPacket)) (x_3854 : ApiFrame) (r_3914 : Int × Bool) (t_3240 : Int) : Il (Unit) where
  run := (some ())
  res := fun _ => .agg [.int .u64 s_3239.fSource, .int .i64 x_3917.fUniverse, .int .i64 s_3239.fPriority, .int .i64 r_3932, .int .i64 s_3239.fSync, .bool false, .str x_3917.fSlots]
  hp := fun _ => [.cel [.int .u64 s_3239.fSource, .int .i64 s_3239.fPriority, .int .i64 s_3239.fSync, .int .i64 s_3239.fPulse, .row 5 7 0 v_3916.length], .cel [.int .u64 0, .int .i64 0, .int .i64 0, .int .i64 0, .sl 5 true []], .cel [.row 7 4 0 out_3785.length], .dead, .els 7 (out_3785.map eNetworkPacket), .cel [.int .i64 x_3854.fUniverse, .str x_3854.fSlots], .cel [.int .i64 x_3854.fUniverse, .str x_3854.fSlots], .els 5 ((((v_3916.set r_3914.1.toNat (NetworkStream.mk x_3917.fUniverse x_3917.fSeq x_3917.fLast (if 3 < (IntKind.i64.wrap (x_3917.fTimes + 1)) then 3 else (IntKind.i64.wrap (x_3917.fTimes + 1))) x_3917.fSlots)).set r_3914.1.toNat (NetworkStream.mk x_3917.fUniverse r_3932 x_3917.fLast (if 3 < (IntKind.i64.wrap (x_3917.fTimes + 1)) then 3 else (IntKind.i64.wrap (x_3917.fTimes + 1))) x_3917.fSlots)).set r_3914.1.toNat (NetworkStream.mk x_3917.fUniverse r_3932 t_3240 (if 3 < (IntKind.i64.wrap (x_3917.fTimes + 1)) then 3 else (IntKind.i64.wrap (x_3917.fTimes + 1))) x_3917.fSlots)).map eNetworkStream), .cel [.int .u64 s_3239.fSource, .int .i64 x_3917.fUniverse, .int .i64 s_3239.fPriority, .int .i64 r_3932, .int .i64 s_3239.fSync, .bool false, .str x_3917.fSlots]]
noncomputable def f43_C8 (out_3785 : (List NetworkPacket)) (s_3239 : NetworkSender) (x_3917 : NetworkStream) (r_3932 : Int) (v_3916 : (List NetworkStream)) (x_3854 : ApiFrame) (r_3914 : Int × Bool) (t_3240 : Int) : Il ((List NetworkPacket)) where
  run := (app? 64 out_3785 ([(NetworkPacket.mk s_3239.fSource x_3917.fUniverse s_3239.fPriority r_3932 s_3239.fSync false x_3917.fSlots)])).bind fun out_3938 => (some out_3938)
  res := fun v_3937 => .tup []
  hp := fun v_3937 => [.cel [.int .u64 s_3239.fSource, .int .i64 s_3239.fPriority, .int .i64 s_3239.fSync, .int .i64 s_3239.fPulse, .row 5 7 0 v_3916.length], .cel [.int .u64 0, .int .i64 0, .int .i64 0, .int .i64 0, .sl 5 true []], .cel [.row 7 9 0 v_3937.length], .dead, .dead, .cel [.int .i64 x_3854.fUniverse, .str x_3854.fSlots], .cel [.int .i64 x_3854.fUniverse, .str x_3854.fSlots], .els 5 ((((v_3916.set r_3914.1.toNat (NetworkStream.mk x_3917.fUniverse x_3917.fSeq x_3917.fLast (if 3 < (IntKind.i64.wrap (x_3917.fTimes + 1)) then 3 else (IntKind.i64.wrap (x_3917.fTimes + 1))) x_3917.fSlots)).set r_3914.1.toNat (NetworkStream.mk x_3917.fUniverse r_3932 x_3917.fLast (if 3 < (IntKind.i64.wrap (x_3917.fTimes + 1)) then 3 else (IntKind.i64.wrap (x_3917.fTimes + 1))) x_3917.fSlots)).set r_3914.1.toNat (NetworkStream.mk x_3917.fUniverse r_3932 t_3240 (if 3 < (IntKind.i64.wrap (x_3917.fTimes + 1)) then 3 else (IntKind.i64.wrap (x_3917.fTimes + 1))) x_3917.fSlots)).map eNetworkStream), .cel [.int .u64 s_3239.fSource, .int .i64 x_3917.fUniverse, .int .i64 s_3239.fPriority, .int .i64 r_3932, .int .i64 s_3239.fSync, .bool false, .str x_3917.fSlots], .els 7 (v_3937.map eNetworkPacket)]
noncomputable def f43_C9 (s_3239 : NetworkSender) (x_3917 : NetworkStream) (r_3940 : Int) (v_3916 : (List NetworkStream)) (out_3785 : (List NetworkPacket)) (x_3854 : ApiFrame) (r_3914 : Int × Bool) (t_3240 : Int) : Il (Unit) where
  run := (some ())
  res := fun _ => .agg [.int .u64 s_3239.fSource, .int .i64 x_3917.fUniverse, .int .i64 s_3239.fPriority, .int .i64 r_3940, .int .i64 s_3239.fSync, .bool false, .str x_3917.fSlots]
  hp := fun _ => [.cel [.int .u64 s_3239.fSource, .int .i64 s_3239.fPriority, .int .i64 s_3239.fSync, .int .i64 s_3239.fPulse, .row 5 7 0 v_3916.length], .cel [.int .u64 0, .int .i64 0, .int .i64 0, .int .i64 0, .sl 5 true []], .cel [.row 7 4 0 out_3785.length], .dead, .els 7 (out_3785.map eNetworkPacket), .cel [.int .i64 x_3854.fUniverse, .str x_3854.fSlots], .cel [.int .i64 x_3854.fUniverse, .str x_3854.fSlots], .els 5 ((((v_3916.set r_3914.1.toNat (NetworkStream.mk x_3917.fUniverse x_3917.fSeq x_3917.fLast (if 3 < (IntKind.i64.wrap (x_3917.fTimes + 1)) then 3 else (IntKind.i64.wrap (x_3917.fTimes + 1))) x_3917.fSlots)).set r_3914.1.toNat (NetworkStream.mk x_3917.fUniverse r_3940 x_3917.fLast (if 3 < (IntKind.i64.wrap (x_3917.fTimes + 1)) then 3 else (IntKind.i64.wrap (x_3917.fTimes + 1))) x_3917.fSlots)).set r_3914.1.toNat (NetworkStream.mk x_3917.fUniverse r_3940 t_3240 (if 3 < (IntKind.i64.wrap (x_3917.fTimes + 1)) then 3 else (IntKind.i64.wrap (x_3917.fTimes + 1))) x_3917.fSlots)).map eNetworkStream), .cel [.int .u64 s_3239.fSource, .int .i64 x_3917.fUniverse, .int .i64 s_3239.fPriority, .int .i64 r_3940, .int .i64 s_3239.fSync, .bool false, .str x_3917.fSlots]]
noncomputable def f43_C10 (out_3785 : (List NetworkPacket)) (s_3239 : NetworkSender) (x_3917 : NetworkStream) (r_3940 : Int) (v_3916 : (List NetworkStream)) (x_3854 : ApiFrame) (r_3914 : Int × Bool) (t_3240 : Int) : Il ((List NetworkPacket)) where
  run := (app? 64 out_3785 ([(NetworkPacket.mk s_3239.fSource x_3917.fUniverse s_3239.fPriority r_3940 s_3239.fSync false x_3917.fSlots)])).bind fun out_3946 => (some out_3946)
  res := fun v_3945 => .tup []
  hp := fun v_3945 => [.cel [.int .u64 s_3239.fSource, .int .i64 s_3239.fPriority, .int .i64 s_3239.fSync, .int .i64 s_3239.fPulse, .row 5 7 0 v_3916.length], .cel [.int .u64 0, .int .i64 0, .int .i64 0, .int .i64 0, .sl 5 true []], .cel [.row 7 9 0 v_3945.length], .dead, .dead, .cel [.int .i64 x_3854.fUniverse, .str x_3854.fSlots], .cel [.int .i64 x_3854.fUniverse, .str x_3854.fSlots], .els 5 ((((v_3916.set r_3914.1.toNat (NetworkStream.mk x_3917.fUniverse x_3917.fSeq x_3917.fLast (if 3 < (IntKind.i64.wrap (x_3917.fTimes + 1)) then 3 else (IntKind.i64.wrap (x_3917.fTimes + 1))) x_3917.fSlots)).set r_3914.1.toNat (NetworkStream.mk x_3917.fUniverse r_3940 x_3917.fLast (if 3 < (IntKind.i64.wrap (x_3917.fTimes + 1)) then 3 else (IntKind.i64.wrap (x_3917.fTimes + 1))) x_3917.fSlots)).set r_3914.1.toNat (NetworkStream.mk x_3917.fUniverse r_3940 t_3240 (if 3 < (IntKind.i64.wrap (x_3917.fTimes + 1)) then 3 else (IntKind.i64.wrap (x_3917.fTimes + 1))) x_3917.fSlots)).map eNetworkStream), .cel [.int .u64 s_3239.fSource, .int .i64 x_3917.fUniverse, .int .i64 s_3239.fPriority, .int .i64 r_3940, .int .i64 s_3239.fSync, .bool false, .str x_3917.fSlots], .els 7 (v_3945.map eNetworkPacket)]
noncomputable def f43_C11 (s_3239 : NetworkSender) (x_3947 : NetworkStream) (r_3954 : Int) (x_3854 : ApiFrame) (s_3784 : (List NetworkStream)) (out_3785 : (List NetworkPacket)) (r_3914 : Int × Bool) (t_3240 : Int) : Il (Unit) where
  run := (some ())
  res := fun _ => .agg [.int .u64 s_3239.fSource, .int .i64 x_3947.fUniverse, .int .i64 s_3239.fPriority, .int .i64 r_3954, .int .i64 s_3239.fSync, .bool false, .str x_3854.fSlots]
  hp := fun _ => [.cel [.int .u64 s_3239.fSource, .int .i64 s_3239.fPriority, .int .i64 s_3239.fSync, .int .i64 s_3239.fPulse, .row 5 3 0 s_3784.length], .cel [.int .u64 0, .int .i64 0, .int .i64 0, .int .i64 0, .sl 5 true []], .cel [.row 7 4 0 out_3785.length], .els 5 (((((s_3784.set r_3914.1.toNat (NetworkStream.mk x_3947.fUniverse x_3947.fSeq x_3947.fLast x_3947.fTimes x_3854.fSlots)).set r_3914.1.toNat (NetworkStream.mk x_3947.fUniverse x_3947.fSeq x_3947.fLast 1 x_3854.fSlots)).set r_3914.1.toNat (NetworkStream.mk x_3947.fUniverse r_3954 x_3947.fLast 1 x_3854.fSlots)).set r_3914.1.toNat (NetworkStream.mk x_3947.fUniverse r_3954 t_3240 1 x_3854.fSlots)).map eNetworkStream), .els 7 (out_3785.map eNetworkPacket), .cel [.int .i64 x_3854.fUniverse, .str x_3854.fSlots], .cel [.int .i64 x_3854.fUniverse, .str x_3854.fSlots], .cel [.int .u64 s_3239.fSource, .int .i64 x_3947.fUniverse, .int .i64 s_3239.fPriority, .int .i64 r_3954, .int .i64 s_3239.fSync, .bool false, .str x_3854.fSlots]]
noncomputable def f43_C12 (out_3785 : (List NetworkPacket)) (s_3239 : NetworkSender) (x_3947 : NetworkStream) (r_3954 : Int) (x_3854 : ApiFrame) (s_3784 : (List NetworkStream)) (r_3914 : Int × Bool) (t_3240 : Int) : Il ((List NetworkPacket)) where
  run := (app? 64 out_3785 ([(NetworkPacket.mk s_3239.fSource x_3947.fUniverse s_3239.fPriority r_3954 s_3239.fSync false x_3854.fSlots)])).bind fun out_3960 => (some out_3960)
  res := fun v_3959 => .tup []
  hp := fun v_3959 => [.cel [.int .u64 s_3239.fSource, .int .i64 s_3239.fPriority, .int .i64 s_3239.fSync, .int .i64 s_3239.fPulse, .row 5 3 0 s_3784.length], .cel [.int .u64 0, .int .i64 0, .int .i64 0, .int .i64 0, .sl 5 true []], .cel [.row 7 8 0 v_3959.length], .els 5 (((((s_3784.set r_3914.1.toNat (NetworkStream.mk x_3947.fUniverse x_3947.fSeq x_3947.fLast x_3947.fTimes x_3854.fSlots)).set r_3914.1.toNat (NetworkStream.mk x_3947.fUniverse x_3947.fSeq x_3947.fLast 1 x_3854.fSlots)).set r_3914.1.toNat (NetworkStream.mk x_3947.fUniverse r_3954 x_3947.fLast 1 x_3854.fSlots)).set r_3914.1.toNat (NetworkStream.mk x_3947.fUniverse r_3954 t_3240 1 x_3854.fSlots)).map eNetworkStream), .dead, .cel [.int .i64 x_3854.fUniverse, .str x_3854.fSlots], .cel [.int .i64 x_3854.fUniverse, .str x_3854.fSlots], .cel [.int .u64 s_3239.fSource, .int .i64 x_3947.fUniverse, .int .i64 s_3239.fPriority, .int .i64 r_3954, .int .i64 s_3239.fSync, .bool false, .str x_3854.fSlots], .els 7 (v_3959.map eNetworkPacket)]
noncomputable def f43_C13 (s_3239 : NetworkSender) (x_3947 : NetworkStream) (r_3962 : Int) (s_3784 : (List NetworkStream)) (out_3785 : (List NetworkPacket)) (r_3914 : Int × Bool) (t_3240 : Int) (x_3854 : ApiFrame) : Il (Unit) where
  run := (some ())
  res := fun _ => .agg [.int .u64 s_3239.fSource, .int .i64 x_3947.fUniverse, .int .i64 s_3239.fPriority, .int .i64 r_3962, .int .i64 s_3239.fSync, .bool false, .str x_3947.fSlots]
  hp := fun _ => [.cel [.int .u64 s_3239.fSource, .int .i64 s_3239.fPriority, .int .i64 s_3239.fSync, .int .i64 s_3239.fPulse, .row 5 3 0 s_3784.length], .cel [.int .u64 0, .int .i64 0, .int .i64 0, .int .i64 0, .sl 5 true []], .cel [.row 7 4 0 out_3785.length], .els 5 ((((s_3784.set r_3914.1.toNat (NetworkStream.mk x_3947.fUniverse x_3947.fSeq x_3947.fLast (if 3 < (IntKind.i64.wrap (x_3947.fTimes + 1)) then 3 else (IntKind.i64.wrap (x_3947.fTimes + 1))) x_3947.fSlots)).set r_3914.1.toNat (NetworkStream.mk x_3947.fUniverse r_3962 x_3947.fLast (if 3 < (IntKind.i64.wrap (x_3947.fTimes + 1)) then 3 else (IntKind.i64.wrap (x_3947.fTimes + 1))) x_3947.fSlots)).set r_3914.1.toNat (NetworkStream.mk x_3947.fUniverse r_3962 t_3240 (if 3 < (IntKind.i64.wrap (x_3947.fTimes + 1)) then 3 else (IntKind.i64.wrap (x_3947.fTimes + 1))) x_3947.fSlots)).map eNetworkStream), .els 7 (out_3785.map eNetworkPacket), .cel [.int .i64 x_3854.fUniverse, .str x_3854.fSlots], .cel [.int .i64 x_3854.fUniverse, .str x_3854.fSlots], .cel [.int .u64 s_3239.fSource, .int .i64 x_3947.fUniverse, .int .i64 s_3239.fPriority, .int .i64 r_3962, .int .i64 s_3239.fSync, .bool false, .str x_3947.fSlots]]
noncomputable def f43_C14 (out_3785 : (List NetworkPacket)) (s_3239 : NetworkSender) (x_3947 : NetworkStream) (r_3962 : Int) (s_3784 : (List NetworkStream)) (r_3914 : Int × Bool) (t_3240 : Int) (x_3854 : ApiFrame) : Il ((List NetworkPacket)) where
  run := (app? 64 out_3785 ([(NetworkPacket.mk s_3239.fSource x_3947.fUniverse s_3239.fPriority r_3962 s_3239.fSync false x_3947.fSlots)])).bind fun out_3968 => (some out_3968)
  res := fun v_3967 => .tup []
  hp := fun v_3967 => [.cel [.int .u64 s_3239.fSource, .int .i64 s_3239.fPriority, .int .i64 s_3239.fSync, .int .i64 s_3239.fPulse, .row 5 3 0 s_3784.length], .cel [.int .u64 0, .int .i64 0, .int .i64 0, .int .i64 0, .sl 5 true []], .cel [.row 7 8 0 v_3967.length], .els 5 ((((s_3784.set r_3914.1.toNat (NetworkStream.mk x_3947.fUniverse x_3947.fSeq x_3947.fLast (if 3 < (IntKind.i64.wrap (x_3947.fTimes + 1)) then 3 else (IntKind.i64.wrap (x_3947.fTimes + 1))) x_3947.fSlots)).set r_3914.1.toNat (NetworkStream.mk x_3947.fUniverse r_3962 x_3947.fLast (if 3 < (IntKind.i64.wrap (x_3947.fTimes + 1)) then 3 else (IntKind.i64.wrap (x_3947.fTimes + 1))) x_3947.fSlots)).set r_3914.1.toNat (NetworkStream.mk x_3947.fUniverse r_3962 t_3240 (if 3 < (IntKind.i64.wrap (x_3947.fTimes + 1)) then 3 else (IntKind.i64.wrap (x_3947.fTimes + 1))) x_3947.fSlots)).map eNetworkStream), .dead, .cel [.int .i64 x_3854.fUniverse, .str x_3854.fSlots], .cel [.int .i64 x_3854.fUniverse, .str x_3854.fSlots], .cel [.int .u64 s_3239.fSource, .int .i64 x_3947.fUniverse, .int .i64 s_3239.fPriority, .int .i64 r_3962, .int .i64 s_3239.fSync, .bool false, .str x_3947.fSlots], .els 7 (v_3967.map eNetworkPacket)]
noncomputable def f43_C15 (s_3239 : NetworkSender) (x_3947 : NetworkStream) (r_3970 : Int) (s_3784 : (List NetworkStream)) (out_3785 : (List NetworkPacket)) (r_3914 : Int × Bool) (t_3240 : Int) (x_3854 : ApiFrame) : Il (Unit) where
  run := (some ())
  res := fun _ => .agg [.int .u64 s_3239.fSource, .int .i64 x_3947.fUniverse, .int .i64 s_3239.fPriority, .int .i64 r_3970, .int .i64 s_3239.fSync, .bool false, .str x_3947.fSlots]
  hp := fun _ => [.cel [.int .u64 s_3239.fSource, .int .i64 s_3239.fPriority, .int .i64 s_3239.fSync, .int .i64 s_3239.fPulse, .row 5 3 0 s_3784.length], .cel [.int .u64 0, .int .i64 0, .int .i64 0, .int .i64 0, .sl 5 true []], .cel [.row 7 4 0 out_3785.length], .els 5 ((((s_3784.set r_3914.1.toNat (NetworkStream.mk x_3947.fUniverse x_3947.fSeq x_3947.fLast (if 3 < (IntKind.i64.wrap (x_3947.fTimes + 1)) then 3 else (IntKind.i64.wrap (x_3947.fTimes + 1))) x_3947.fSlots)).set r_3914.1.toNat (NetworkStream.mk x_3947.fUniverse r_3970 x_3947.fLast (if 3 < (IntKind.i64.wrap (x_3947.fTimes + 1)) then 3 else (IntKind.i64.wrap (x_3947.fTimes + 1))) x_3947.fSlots)).set r_3914.1.toNat (NetworkStream.mk x_3947.fUniverse r_3970 t_3240 (if 3 < (IntKind.i64.wrap (x_3947.fTimes + 1)) then 3 else (IntKind.i64.wrap (x_3947.fTimes + 1))) x_3947.fSlots)).map eNetworkStream), .els 7 (out_3785.map eNetworkPacket), .cel [.int .i64 x_3854.fUniverse, .str x_3854.fSlots], .cel [.int .i64 x_3854.fUniverse, .str x_3854.fSlots], .cel [.int .u64 s_3239.fSource, .int .i64 x_3947.fUniverse, .int .i64 s_3239.fPriority, .int .i64 r_3970, .int .i64 s_3239.fSync, .bool false, .str x_3947.fSlots]]
noncomputable def f43_C16 (out_3785 : (List NetworkPacket)) (s_3239 : NetworkSender) (x_3947 : NetworkStream) (r_3970 : Int) (s_3784 : (List NetworkStream)) (r_3914 : Int × Bool) (t_3240 : Int) (x_3854 : ApiFrame) : Il ((List NetworkPacket)) where
  run := (app? 64 out_3785 ([(NetworkPacket.mk s_3239.fSource x_3947.fUniverse s_3239.fPriority r_3970 s_3239.fSync false x_3947.fSlots)])).bind fun out_3976 => (some out_3976)
  res := fun v_3975 => .tup []
  hp := fun v_3975 => [.cel [.int .u64 s_3239.fSource, .int .i64 s_3239.fPriority, .int .i64 s_3239.fSync, .int .i64 s_3239.fPulse, .row 5 3 0 s_3784.length], .cel [.int .u64 0, .int .i64 0, .int .i64 0, .int .i64 0, .sl 5 true []], .cel [.row 7 8 0 v_3975.length], .els 5 ((((s_3784.set r_3914.1.toNat (NetworkStream.mk x_3947.fUniverse x_3947.fSeq x_3947.fLast (if 3 < (IntKind.i64.wrap (x_3947.fTimes + 1)) then 3 else (IntKind.i64.wrap (x_3947.fTimes + 1))) x_3947.fSlots)).set r_3914.1.toNat (NetworkStream.mk x_3947.fUniverse r_3970 x_3947.fLast (if 3 < (IntKind.i64.wrap (x_3947.fTimes + 1)) then 3 else (IntKind.i64.wrap (x_3947.fTimes + 1))) x_3947.fSlots)).set r_3914.1.toNat (NetworkStream.mk x_3947.fUniverse r_3970 t_3240 (if 3 < (IntKind.i64.wrap (x_3947.fTimes + 1)) then 3 else (IntKind.i64.wrap (x_3947.fTimes + 1))) x_3947.fSlots)).map eNetworkStream), .dead, .cel [.int .i64 x_3854.fUniverse, .str x_3854.fSlots], .cel [.int .i64 x_3854.fUniverse, .str x_3854.fSlots], .cel [.int .u64 s_3239.fSource, .int .i64 x_3947.fUniverse, .int .i64 s_3239.fPriority, .int .i64 r_3970, .int .i64 s_3239.fSync, .bool false, .str x_3947.fSlots], .els 7 (v_3975.map eNetworkPacket)]
noncomputable def f43_C4 (s_3784 : (List NetworkStream)) (x_3854 : ApiFrame) (s_3239 : NetworkSender) (out_3785 : (List NetworkPacket)) (t_3240 : Int) : Il ((List NetworkStream) × (List NetworkPacket)) where
  run := (f114_115 s_3784 x_3854.fUniverse).bind fun r_3914 => (if (!r_3914.2) = true then (ins? 48 s_3784 r_3914.1 (NetworkStream.mk x_3854.fUniverse 255 0 0 x_3854.fSlots)).bind fun v_3916 => (at? v_3916 r_3914.1).bind fun x_3917 => (if (!(x_3917.fSlots == x_3854.fSlots)) = true then (f84 x_3917.fSeq).bind fun r_3924 => ((f43_C5 s_3239 x_3917 r_3924 x_3854 v_3916 out_3785 r_3914 t_3240).run.bind fun _ => ((f43_C6 out_3785 s_3239 x_3917 r_3924 x_3854 v_3916 r_3914 t_3240).run.bind fun v_3929 => (some (((((v_3916.set r_3914.1.toNat (NetworkStream.mk x_3917.fUniverse x_3917.fSeq x_3917.fLast x_3917.fTimes x_3854.fSlots)).set r_3914.1.toNat (NetworkStream.mk x_3917.fUniverse x_3917.fSeq x_3917.fLast 1 x_3854.fSlots)).set r_3914.1.toNat (NetworkStream.mk x_3917.fUniverse r_3924 x_3917.fLast 1 x_3854.fSlots)).set r_3914.1.toNat (NetworkStream.mk x_3917.fUniverse r_3924 t_3240 1 x_3854.fSlots)), v_3929)))) else (if (decide (x_3917.fTimes < 3)) = true then (f84 x_3917.fSeq).bind fun r_3932 => ((f43_C7 s_3239 x_3917 r_3932 v_3916 out_3785 x_3854 r_3914 t_3240).run.bind fun _ => ((f43_C8 out_3785 s_3239 x_3917 r_3932 v_3916 x_3854 r_3914 t_3240).run.bind fun v_3937 => (some ((((v_3916.set r_3914.1.toNat (NetworkStream.mk x_3917.fUniverse x_3917.fSeq x_3917.fLast (if 3 < (IntKind.i64.wrap (x_3917.fTimes + 1)) then 3 else (IntKind.i64.wrap (x_3917.fTimes + 1))) x_3917.fSlots)).set r_3914.1.toNat (NetworkStream.mk x_3917.fUniverse r_3932 x_3917.fLast (if 3 < (IntKind.i64.wrap (x_3917.fTimes + 1)) then 3 else (IntKind.i64.wrap (x_3917.fTimes + 1))) x_3917.fSlots)).set r_3914.1.toNat (NetworkStream.mk x_3917.fUniverse r_3932 t_3240 (if 3 < (IntKind.i64.wrap (x_3917.fTimes + 1)) then 3 else (IntKind.i64.wrap (x_3917.fTimes + 1))) x_3917.fSlots)), v_3937)))) else (if (decide (1000 ≤ (IntKind.i64.wrap (t_3240 - x_3917.fLast)))) = true then (f84 x_3917.fSeq).bind fun r_3940 => ((f43_C9 s_3239 x_3917 r_3940 v_3916 out_3785 x_3854 r_3914 t_3240).run.bind fun _ => ((f43_C10 out_3785 s_3239 x_3917 r_3940 v_3916 x_3854 r_3914 t_3240).run.bind fun v_3945 => (some ((((v_3916.set r_3914.1.toNat (NetworkStream.mk x_3917.fUniverse x_3917.fSeq x_3917.fLast (if 3 < (IntKind.i64.wrap (x_3917.fTimes + 1)) then 3 else (IntKind.i64.wrap (x_3917.fTimes + 1))) x_3917.fSlots)).set r_3914.1.toNat (NetworkStream.mk x_3917.fUniverse r_3940 x_3917.fLast (if 3 < (IntKind.i64.wrap (x_3917.fTimes + 1)) then 3 else (IntKind.i64.wrap (x_3917.fTimes + 1))) x_3917.fSlots)).set r_3914.1.toNat (NetworkStream.mk x_3917.fUniverse r_3940 t_3240 (if 3 < (IntKind.i64.wrap (x_3917.fTimes + 1)) then 3 else (IntKind.i64.wrap (x_3917.fTimes + 1))) x_3917.fSlots)), v_3945)))) else (some (v_3916, out_3785))))) else (at? s_3784 r_3914.1).bind fun x_3947 => (if (!(x_3947.fSlots == x_3854.fSlots)) = true then (f84 x_3947.fSeq).bind fun r_3954 => ((f43_C11 s_3239 x_3947 r_3954 x_3854 s_3784 out_3785 r_3914 t_3240).run.bind fun _ => ((f43_C12 out_3785 s_3239 x_3947 r_3954 x_3854 s_3784 r_3914 t_3240).run.bind fun v_3959 => (some (((((s_3784.set r_3914.1.toNat (NetworkStream.mk x_3947.fUniverse x_3947.fSeq x_3947.fLast x_3947.fTimes x_3854.fSlots)).set r_3914.1.toNat (NetworkStream.mk x_3947.fUniverse x_3947.fSeq x_3947.fLast 1 x_3854.fSlots)).set r_3914.1.toNat (NetworkStream.mk x_3947.fUniverse r_3954 x_3947.fLast 1 x_3854.fSlots)).set r_3914.1.toNat (NetworkStream.mk x_3947.fUniverse r_3954 t_3240 1 x_3854.fSlots)), v_3959)))) else (if (decide (x_3947.fTimes < 3)) = true then (f84 x_3947.fSeq).bind fun r_3962 => ((f43_C13 s_3239 x_3947 r_3962 s_3784 out_3785 r_3914 t_3240 x_3854).run.bind fun _ => ((f43_C14 out_3785 s_3239 x_3947 r_3962 s_3784 r_3914 t_3240 x_3854).run.bind fun v_3967 => (some ((((s_3784.set r_3914.1.toNat (NetworkStream.mk x_3947.fUniverse x_3947.fSeq x_3947.fLast (if 3 < (IntKind.i64.wrap (x_3947.fTimes + 1)) then 3 else (IntKind.i64.wrap (x_3947.fTimes + 1))) x_3947.fSlots)).set r_3914.1.toNat (NetworkStream.mk x_3947.fUniverse r_3962 x_3947.fLast (if 3 < (IntKind.i64.wrap (x_3947.fTimes + 1)) then 3 else (IntKind.i64.wrap (x_3947.fTimes + 1))) x_3947.fSlots)).set r_3914.1.toNat (NetworkStream.mk x_3947.fUniverse r_3962 t_3240 (if 3 < (IntKind.i64.wrap (x_3947.fTimes + 1)) then 3 else (IntKind.i64.wrap (x_3947.fTimes + 1))) x_3947.fSlots)), v_3967)))) else (if (decide (1000 ≤ (IntKind.i64.wrap (t_3240 - x_3947.fLast)))) = true then (f84 x_3947.fSeq).bind fun r_3970 => ((f43_C15 s_3239 x_3947 r_3970 s_3784 out_3785 r_3914 t_3240 x_3854).run.bind fun _ => ((f43_C16 out_3785 s_3239 x_3947 r_3970 s_3784 r_3914 t_3240 x_3854).run.bind fun v_3975 => (some ((((s_3784.set r_3914.1.toNat (NetworkStream.mk x_3947.fUniverse x_3947.fSeq x_3947.fLast (if 3 < (IntKind.i64.wrap (x_3947.fTimes + 1)) then 3 else (IntKind.i64.wrap (x_3947.fTimes + 1))) x_3947.fSlots)).set r_3914.1.toNat (NetworkStream.mk x_3947.fUniverse r_3970 x_3947.fLast (if 3 < (IntKind.i64.wrap (x_3947.fTimes + 1)) then 3 else (IntKind.i64.wrap (x_3947.fTimes + 1))) x_3947.fSlots)).set r_3914.1.toNat (NetworkStream.mk x_3947.fUniverse r_3970 t_3240 (if 3 < (IntKind.i64.wrap (x_3947.fTimes + 1)) then 3 else (IntKind.i64.wrap (x_3947.fTimes + 1))) x_3947.fSlots)), v_3975)))) else (some (s_3784, out_3785))))))
  res := fun (v_3912, v_3913) => .tup []
  hp := fun (v_3912, v_3913) => [.cel [.int .u64 s_3239.fSource, .int .i64 s_3239.fPriority, .int .i64 s_3239.fSync, .int .i64 s_3239.fPulse, .row 5 6 0 v_3912.length], .cel [.int .u64 0, .int .i64 0, .int .i64 0, .int .i64 0, .sl 5 true []], .cel [.row 7 7 0 v_3913.length], .dead, .dead, .cel [.int .i64 x_3854.fUniverse, .str x_3854.fSlots], .els 5 (v_3912.map eNetworkStream), .els 7 (v_3913.map eNetworkPacket)]
noncomputable def f43_L1 (frames_3241 : (List ApiFrame)) (s_3239 : NetworkSender) (t_3240 : Int) : Lp (Int × (List NetworkStream) × (List NetworkPacket)) ((List NetworkStream) × (List NetworkPacket)) where
  body := fun (v_3783, s_3784, out_3785) => (if (decide (v_3783 < ((frames_3241.length : Nat) : Int))) = true then (at? frames_3241 v_3783).bind fun x_3854 => ((f43_C4 s_3784 x_3854 s_3239 out_3785 t_3240).run.bind fun (v_3912, v_3913) => (some (.next ((IntKind.i64.wrap (v_3783 + 1)), v_3912, v_3913)))) else (some (.brk (s_3784, out_3785))))
  cst := fun (v_3783, s_3784, out_3785) => ⟨put (put (put (put (put (put (put (fun _ => .junk) 33 (.int .i64 v_3783)) 32 (.int .i64 ((frames_3241.length : Nat) : Int))) 31 (.sl 2 false (frames_3241.map eApiFrame))) 11 (.ptr 2 0)) 6 (.ptr 1 0)) 3 (.ptr 0 0)) 1 (.int .i64 t_3240), [.cel [.int .u64 s_3239.fSource, .int .i64 s_3239.fPriority, .int .i64 s_3239.fSync, .int .i64 s_3239.fPulse, .row 5 3 0 s_3784.length], .cel [.int .u64 0, .int .i64 0, .int .i64 0, .int .i64 0, .sl 5 true []], .cel [.row 7 4 0 out_3785.length], .els 5 (s_3784.map eNetworkStream), .els 7 (out_3785.map eNetworkPacket)]⟩
theorem f43_L1c (frames_3241 : (List ApiFrame)) (s_3239 : NetworkSender) (t_3240 : Int) (v_3783 : Int) (s_3784 : (List NetworkStream)) (out_3785 : (List NetworkPacket)) : (f43_L1 frames_3241 s_3239 t_3240).cst (v_3783, s_3784, out_3785) = ⟨put (put (put (put (put (put (put (fun _ => .junk) 33 (.int .i64 v_3783)) 32 (.int .i64 ((frames_3241.length : Nat) : Int))) 31 (.sl 2 false (frames_3241.map eApiFrame))) 11 (.ptr 2 0)) 6 (.ptr 1 0)) 3 (.ptr 0 0)) 1 (.int .i64 t_3240), [.cel [.int .u64 s_3239.fSource, .int .i64 s_3239.fPriority, .int .i64 s_3239.fSync, .int .i64 s_3239.fPulse, .row 5 3 0 s_3784.length], .cel [.int .u64 0, .int .i64 0, .int .i64 0, .int .i64 0, .sl 5 true []], .cel [.row 7 4 0 out_3785.length], .els 5 (s_3784.map eNetworkStream), .els 7 (out_3785.map eNetworkPacket)]⟩ := rfl
def c43_0 : C := .cond (.t 18) (.seq (.reg [iI 19 (.build [(1, (.int .u64 0)), (1, (.int .i64 0)), (1, (.int .i64 0)), (1, (.int .i64 0)), (1, (.sl 5 true []))] []), iI 20 (.mv (.t 9)), iN (.store 5 (.t 6) (.t 19)), iI 7 (.mv (.c (.sl 7 true []))), iI 8 (.mv (.t 20))]) .ret) (.skip)
def c43_1 : C := .seq (.reg [iI 17 (.mv (.t 9)), iI 18 (.bin .neq (.t 17) (.c (.int .i64 0)))]) c43_0
def c43_2 : C := .cond (.t 24) (.seq (.reg [iI 25 (.build [(1, (.int .u64 0)), (1, (.int .i64 0)), (1, (.int .i64 0)), (1, (.int .i64 0)), (1, (.sl 5 true []))] []), iI 26 (.mv (.t 10)), iN (.store 5 (.t 6) (.t 25)), iI 7 (.mv (.c (.sl 7 true []))), iI 8 (.mv (.t 26))]) .ret) (.skip)
def c43_3 : C := .seq (.reg [iI 23 (.mv (.t 10)), iI 24 (.bin .neq (.t 23) (.c (.int .i64 0)))]) c43_2
def c43_4 : C := .reg [iI 37 (.mv (.t 1)), iI 38 (.load 2 (.t 13)), iI 39 (.mkfn 83 [(.t 11)]), iI 40 (.call (.c (.fn 82 [])) [(.t 3), (.t 37), (.t 38), (.t 39)])]
def c43_5 : C := .reg [iI 41 (.bin .add (.t 33) (.c (.int .i64 1))), iI 33 (.mv (.t 41))]
def c43_6 : C := .seq (.block 1 (.seq (.reg [iI 35 (.iaddr 2 (.t 31) (.t 33)), iI 36 (.load 2 (.t 35)), iI 13 (.alloc [(1, (.int .i64 0)), (1, (.str []))]), iN (.store 2 (.t 13) (.t 36))]) c43_4)) c43_5
def c43_7 : C := .seq (.cond (.t 34) (.skip) (.exit 0)) c43_6
def c43_8 : C := .block 0 (.loop (.seq (.reg [iI 34 (.bin .lss (.t 33) (.t 32))]) c43_7))
def c43_9 : C := .reg [iI 62 (.faddr 3 (.t 3)), iI 63 (.load 0 (.t 62)), iI 64 (.call (.c (.fn 84 [])) [(.t 63)]), iI 65 (.faddr 3 (.t 3)), iN (.store 0 (.t 65) (.t 64))]
def c43_10 : C := .cond (.t 49) (.seq (.reg [iI 50 (.load 0 (.t 11)), iI 51 (.faddr 0 (.t 3)), iI 52 (.load 0 (.t 51)), iI 53 (.faddr 1 (.t 3)), iI 54 (.load 0 (.t 53)), iI 55 (.faddr 3 (.t 3)), iI 56 (.load 0 (.t 55)), iI 57 (.faddr 2 (.t 3)), iI 58 (.load 0 (.t 57)), iI 59 (.build [(1, (.int .u64 0)), (1, (.int .i64 0)), (1, (.int .i64 0)), (1, (.int .i64 0)), (1, (.int .i64 0)), (1, (.bool false)), (1, (.str []))] [(0, 0, (.t 52)), (2, 0, (.t 54)), (3, 0, (.t 56)), (4, 0, (.t 58))]), iI 60 (.mkslp 7 1 (.agg [(.int .u64 0), (.int .i64 0), (.int .i64 0), (.int .i64 0), (.int .i64 0), (.bool false), (.str [])]) [(0, (.t 59))]), iI 61 (.append 7 64 (.t 50) (.t 60)), iN (.store 0 (.t 11) (.t 61))]) c43_9) (.skip)
def c43_11 : C := .seq (.regt (.fork [iI 66 (.load 5 (.t 3))] (.run [iI 67 (.load 0 (.t 11)), iN (.store 5 (.t 6) (.t 66)), iI 7 (.mv (.t 67)), iI 8 (.mv (.c (.int .i64 0)))]) (.run [iN (.store 5 (.t 6) (.t 66)), iI 67 (.load 0 (.t 11)), iI 7 (.mv (.t 67)), iI 8 (.mv (.c (.int .i64 0)))]))) .ret
def c43_12 : C := .seq (.seq (.reg [iI 42 (.load 0 (.t 11)), iI 43 (.len 0 (.t 42)), iI 44 (.bin .gtr (.t 43) (.c (.int .i64 0))), iI 45 (.mv (.t 44)), iG (some 46) 45 true (.faddr 2 (.t 3)), iG (some 47) 45 true (.load 0 (.t 46)), iG (some 48) 45 true (.bin .neq (.t 47) (.c (.int .i64 0))), iI 49 (.pick (.t 45) (.t 48) (.c (.bool false)))]) c43_10) c43_11
def c43_13 : C := .seq (.seq (.reg [iI 31 (.mv (.t 2)), iI 32 (.len 0 (.t 31)), iI 33 (.mv (.c (.int .i64 0)))]) c43_8) c43_12
def c43_14 : C := .seq (.reg [iI 11 (.alloc [(1, (.sl 7 true []))])]) c43_13
def c43_15 : C := .seq (.reg [iI 27 (.faddr 4 (.t 3)), iI 28 (.load 0 (.t 27)), iI 29 (.call (.c (.fn 81 [])) [(.t 28)]), iI 30 (.faddr 4 (.t 3)), iN (.store 0 (.t 30) (.t 29))]) c43_14
def c43_16 : C := .seq (.seq (.reg [iI 21 (.mv (.t 2)), iI 22 (.call (.c (.fn 80 [])) [(.t 21)]), iI 10 (.mv (.t 22))]) c43_3) c43_15
def c43_17 : C := .seq (.seq (.reg [iI 14 (.load 5 (.t 3)), iI 15 (.mv (.t 1)), iI 16 (.call (.c (.fn 79 [])) [(.t 14), (.t 15)]), iI 9 (.mv (.t 16))]) c43_1) c43_16
def ir43 : C := .seq (.reg [iI 3 (.box (.t 0)), iI 6 (.alloc [(1, (.int .u64 0)), (1, (.int .i64 0)), (1, (.int .i64 0)), (1, (.int .i64 0)), (1, (.sl 5 true []))]), iI 7 (.mv (.c (.sl 7 true []))), iI 8 (.mv (.c (.int .i64 0)))]) c43_17
theorem fd43 : fd? Try.prog 43 = some (68, [.cell 6 5, .slot 7, .slot 8], ir43) := by kernel_rfl
noncomputable def f43 (s_3239 : NetworkSender) (t_3240 : Int) (frames_3241 : (List ApiFrame)) : Option (NetworkSender × (List NetworkPacket) × Int) :=
  (f79 s_3239 t_3240).bind fun r_3297 => (if (decide (r_3297 ≠ 0)) = true then (some ((NetworkSender.mk 0 0 0 0 ([])), [], r_3297)) else (f80 frames_3241).bind fun r_3310 => (if (decide (r_3310 ≠ 0)) = true then (some ((NetworkSender.mk 0 0 0 0 ([])), [], r_3310)) else (f81 s_3239.fStreams).bind fun r_3314 => (Lp.run (f43_L1 frames_3241 s_3239 t_3240) (0, r_3314, [])).bind fun (s_3846, out_3847) => (if (decide (0 < ((out_3847.length : Nat) : Int))) = true then (if (decide (s_3239.fSync ≠ 0)) = true then (app? 64 out_3847 ([(NetworkPacket.mk s_3239.fSource 0 s_3239.fPriority s_3239.fPulse s_3239.fSync false ([]))])).bind fun out_3852 => (f84 s_3239.fPulse).bind fun r_3853 => ((f43_J2 s_3239 s_3846).run (r_3853, out_3852)) else ((f43_J2 s_3239 s_3846).run (s_3239.fPulse, out_3847))) else ((f43_J2 s_3239 s_3846).run (s_3239.fPulse, out_3847)))))
theorem f43_ok {s_3239 : NetworkSender} {t_3240 : Int} {frames_3241 : (List ApiFrame)} {r_ : NetworkSender × (List NetworkPacket) × Int} (H : f43 s_3239 t_3240 frames_3241 = some r_) : Pure Try.prog 43 [.agg [.int .u64 s_3239.fSource, .int .i64 s_3239.fPriority, .int .i64 s_3239.fSync, .int .i64 s_3239.fPulse, .sl 5 false (s_3239.fStreams.map eNetworkStream)], .int .i64 t_3240, .sl 2 false (frames_3241.map eApiFrame)] (· = .tup [.agg [.int .u64 r_.1.fSource, .int .i64 r_.1.fPriority, .int .i64 r_.1.fSync, .int .i64 r_.1.fPulse, .sl 5 false (r_.1.fStreams.map eNetworkStream)], .sl 7 false (r_.2.1.map eNetworkPacket), .int .i64 r_.2.2]) := by
 refine Pure.walk3 fd43 none (Nat.le_of_ble_eq_true rfl) (by rfl) fun Q hQ => ?_
 simp only [f43] at H
 refine AW.rseq ?_
 try simp only [↓wk, ↓wl, nqs, evV, ↓reduceIte, sevalprocAttr]
 refine AW.sseq ?_
 refine AW.rseq ?_
 try simp only [↓wk, ↓wl, nqs, evV, ↓reduceIte, sevalprocAttr]
 refine evTs_pure hFn H (fun _ h => f79_ok h) (by rfl) (by rfl) (by rfl) (by rfl) (fun _ => rfl) ?_ <;> clear H <;> intro r_3297 H
 try simp only [eL, ↓wk, ↓wl, nqs, evV, ↓reduceIte, sevalprocAttr]
 refine AW.rseq ?_
 try simp only [↓wk, ↓wl, nqs, evV, ↓reduceIte, sevalprocAttr]
 refine AW.ifc H (by rfl) ?_ ?_ <;> clear H <;> intro H
 ·refine AW.rseq ?_
  try simp only [↓wk, ↓wl, nqs, evV, ↓reduceIte, sevalprocAttr]
  refine evTs_st (by simp only [↓wk, ↓wl, nqs, evV, ↓reduceIte, sevalprocAttr, Nat.reduceLeDiff]; rfl) ?_
  try simp only [↓wk, ↓wl, nqs, evV, ↓reduceIte, sevalprocAttr]
  refine AW.ret ?_
  refine seqQ.ret ?_
  cases H
  exact hQ _ _ _ _ (.inr rfl) (by simp only [resVs, omap, resV, ↓wk, ↓wl, nqs, evV, ↓reduceIte, sevalprocAttr]; rfl) (hand_plain (by rfl)) (by first | exact Or.inl rfl | exact Or.inr rfl)
 ·refine AW.skip ?_
  refine seqQ.norm ?_
  refine AW.sseq ?_
  refine AW.rseq ?_
  try simp only [↓wk, ↓wl, nqs, evV, ↓reduceIte, sevalprocAttr]
  refine evTs_pure hFn H (fun _ h => f80_ok h) (by rfl) (by rfl) (by rfl) (by rfl) (fun _ => rfl) ?_ <;> clear H <;> intro r_3310 H
  try simp only [eL, ↓wk, ↓wl, nqs, evV, ↓reduceIte, sevalprocAttr]
  refine AW.rseq ?_
  try simp only [↓wk, ↓wl, nqs, evV, ↓reduceIte, sevalprocAttr]
  refine AW.ifc H (by rfl) ?_ ?_ <;> clear H <;> intro H
  ·refine AW.rseq ?_
   try simp only [↓wk, ↓wl, nqs, evV, ↓reduceIte, sevalprocAttr]
   refine evTs_st (by simp only [↓wk, ↓wl, nqs, evV, ↓reduceIte, sevalprocAttr, Nat.reduceLeDiff]; rfl) ?_
   try simp only [↓wk, ↓wl, nqs, evV, ↓reduceIte, sevalprocAttr]
   refine AW.ret ?_
   refine seqQ.ret ?_
   cases H
   exact hQ _ _ _ _ (.inr rfl) (by simp only [resVs, omap, resV, ↓wk, ↓wl, nqs, evV, ↓reduceIte, sevalprocAttr]; rfl) (hand_plain (by rfl)) (by first | exact Or.inl rfl | exact Or.inr rfl)
  ·refine AW.skip ?_
   refine seqQ.norm ?_
   refine AW.rseq ?_
   try simp only [↓wk, ↓wl, nqs, evV, ↓reduceIte, sevalprocAttr]
   refine evTs_fr H (fun _ h => f81_ok h) (by rfl) (by rfl) (by rfl) (by rfl) (fun _ => rfl) ?_ <;> clear H <;> intro r_3314 H
   try simp only [eL, ↓wk, ↓wl, nqs, evV, ↓reduceIte, sevalprocAttr]
   refine evTs_st (by simp only [↓wk, ↓wl, nqs, evV, ↓reduceIte, sevalprocAttr, Nat.reduceLeDiff]; rfl) ?_
   try simp only [↓wk, ↓wl, nqs, evV, ↓reduceIte, sevalprocAttr]
   refine AW.rseq ?_
   try simp only [↓wk, ↓wl, nqs, evV, ↓reduceIte, sevalprocAttr]
   refine AW.sseq ?_
   refine AW.rseq ?_
   try simp only [↓wk, ↓wl, nqs, evV, ↓reduceIte, sevalprocAttr]
   refine AW.bend ?_
   refine AW.iter H ((Le.trans (Le.nilCell (b := 3) (o := 0) (e := 7) (by rfl) (by rfl)) (Le.none [0, 1, 3, 2, 4] [1, 3, 6, 11, 31, 32, 33] (by decide) (by simp only [f43_L1c, rrl, Option.map_some, vm, List.idxOf?_cons, List.idxOf?_nil, beq_self_eq_true, Option.map_none, List.getD_cons_zero, List.getD_cons_succ, ↓wk, ↓wl, nq, evV, ↓reduceIte, sevalprocAttr] <;> rfl)))) ?_ <;> clear H
   rintro ⟨v_3783, s_3784, out_3785⟩ x_ st0_ H hst_
   rw [f43_L1c] at hst_
   simp only [f43_L1] at H
   subst hst_
   refine AW.rseq ?_
   try simp only [↓wk, ↓wl, nqs, evV, ↓reduceIte, sevalprocAttr]
   refine AW.sseq ?_
   refine AW.ifc H (by rfl) ?_ ?_ <;> clear H <;> intro H
   ·refine AW.skip ?_
    refine seqQ.norm ?_
    refine AW.bseq ?_
    refine AW.rseq ?_
    try simp only [↓wk, ↓wl, nqs, evV, ↓reduceIte, sevalprocAttr]
    refine evTs_at (enc := eApiFrame) H (by rfl) (by rfl) ?_ <;> clear H <;> intro x_3854 H
    try simp only [eApiFrame, eL, ↓wk, ↓wl, nqs, evV, ↓reduceIte, sevalprocAttr]
    refine evTs_st (by simp only [↓wk, ↓wl, nqs, evV, ↓reduceIte, sevalprocAttr, Nat.reduceLeDiff]; rfl) ?_
    try simp only [↓wk, ↓wl, nqs, evV, ↓reduceIte, sevalprocAttr]
    refine AW.rend ?_
    try simp only [↓wk, ↓wl, nqs, evV, ↓reduceIte, sevalprocAttr]
    refine evTs_inl (I := f43_C4 s_3784 x_3854 s_3239 out_3785 t_3240) (args := [.ptr 0 0, .int .i64 t_3240, .agg [.int .i64 x_3854.fUniverse, .str x_3854.fSlots], .fn 83 [.ptr 2 0]]) H (by rfl) fd82 (by rfl) (Nat.le_of_ble_eq_true rfl) ?_ ?_ <;> clear H
    ·rintro v_ Q_ H hqf43_C4
     simp only [f43_C4] at H
     dsimp only [List.length_cons, List.length_nil]
     refine AW.rseq ?_
     try simp only [↓wk, ↓wl, nqs, evV, ↓reduceIte, sevalprocAttr]
     refine AW.rseq ?_
     try simp only [↓wk, ↓wl, nqs, evV, ↓reduceIte, sevalprocAttr]
     refine evTs_flat hFn H (fun _ h => f114_115_ok h) (by rfl) (by rfl) (by simp only [deep_eq, imm_simps, imm_rowE, imm_ptrE, imm_enc, omap_simps, take_map_len, take_map_set, take_map_set2, le_refl_true, Nat.zero_add, and_true, true_and, List.drop_zero, Option.map_some, ↓wk, ↓wl, nqs, evV, ↓reduceIte, sevalprocAttr]; rfl) (by rfl) (fun _ => rfl) (fun _ => rfl) ?_ <;> clear H <;> intro r_3914 H
     try simp only [eL, ↓wk, ↓wl, nqs, evV, ↓reduceIte, sevalprocAttr]
     refine AW.sseq ?_
     refine AW.rseq ?_
     try simp only [↓wk, ↓wl, nqs, evV, ↓reduceIte, sevalprocAttr]
     refine AW.ifc H (by rfl) ?_ ?_ <;> clear H <;> intro H
     ·refine AW.rend ?_
      try simp only [↓wk, ↓wl, nqs, evV, ↓reduceIte, sevalprocAttr]
      refine evTs_ins (enc := eNetworkStream) H ins116 (by rfl) (by rfl) (by first | rfl | simp only [List.length_set]) (by rfl) ?_ <;> clear H <;> intro v_3916 H
      try simp only [↓wk, ↓wl, nqs, evV, ↓reduceIte, sevalprocAttr]
      refine evTs_st (by simp only [↓wk, ↓wl, nqs, evV, ↓reduceIte, sevalprocAttr, Nat.reduceLeDiff]; rfl) ?_
      try simp only [↓wk, ↓wl, nqs, evV, ↓reduceIte, sevalprocAttr]
      refine seqQ.norm ?_
      refine AW.rseq ?_
      try simp only [↓wk, ↓wl, nqs, evV, ↓reduceIte, sevalprocAttr]
      refine evTs_atr (enc := eNetworkStream) H (by rfl) (by first | rfl | simp only [List.length_set]) (by rfl) ?_ <;> clear H <;> intro x_3917 hx_3917 H
      try simp only [eNetworkStream, eL, ↓wk, ↓wl, nqs, evV, ↓reduceIte, sevalprocAttr, hx_3917, eNetworkStream, eL]
      refine AW.bseq ?_
      refine AW.rseq ?_
      try simp only [↓wk, ↓wl, nqs, evV, ↓reduceIte, sevalprocAttr, hx_3917, eNetworkStream, eL]
      refine AW.ifc H (by rfl) ?_ ?_ <;> clear H <;> intro H
      ·refine AW.rend ?_
       try simp only [↓wk, ↓wl, nqs, evV, ↓reduceIte, sevalprocAttr, hx_3917, eNetworkStream, eL]
       refine evTs_stE (enc := eNetworkStream) x_3917 (NetworkStream.mk x_3917.fUniverse x_3917.fSeq x_3917.fLast x_3917.fTimes x_3854.fSlots) (by rfl) (by rfl) hx_3917 (by rfl) ?_
       have hw_3922 := set_get hx_3917 (NetworkStream.mk x_3917.fUniverse x_3917.fSeq x_3917.fLast x_3917.fTimes x_3854.fSlots)
       try simp only [eNetworkStream, eL, ↓wk, ↓wl, nqs, evV, ↓reduceIte, sevalprocAttr, hx_3917, eNetworkStream, eL, hw_3922]
       refine evTs_stE (enc := eNetworkStream) (NetworkStream.mk x_3917.fUniverse x_3917.fSeq x_3917.fLast x_3917.fTimes x_3854.fSlots) (NetworkStream.mk x_3917.fUniverse x_3917.fSeq x_3917.fLast 1 x_3854.fSlots) (by rfl) (by rfl) hw_3922 (by rfl) ?_
       have hw_3923 := set_get hw_3922 (NetworkStream.mk x_3917.fUniverse x_3917.fSeq x_3917.fLast 1 x_3854.fSlots)
       try simp only [eNetworkStream, eL, ↓wk, ↓wl, nqs, evV, ↓reduceIte, sevalprocAttr, hx_3917, eNetworkStream, eL, hw_3922, hw_3923]
       refine blkQ.norm ?_
       refine AW.rseq ?_
       try simp only [↓wk, ↓wl, nqs, evV, ↓reduceIte, sevalprocAttr, hx_3917, eNetworkStream, eL, hw_3922, hw_3923]
       refine evTs_pure hFn H (fun _ h => f84_ok h) (by rfl) (by rfl) (by rfl) (by rfl) (fun _ => rfl) ?_ <;> clear H <;> intro r_3924 H
       try simp only [eL, ↓wk, ↓wl, nqs, evV, ↓reduceIte, sevalprocAttr, hx_3917, eNetworkStream, eL, hw_3922, hw_3923]
       refine evTs_stE (enc := eNetworkStream) (NetworkStream.mk x_3917.fUniverse x_3917.fSeq x_3917.fLast 1 x_3854.fSlots) (NetworkStream.mk x_3917.fUniverse r_3924 x_3917.fLast 1 x_3854.fSlots) (by rfl) (by rfl) hw_3923 (by rfl) ?_
       have hw_3925 := set_get hw_3923 (NetworkStream.mk x_3917.fUniverse r_3924 x_3917.fLast 1 x_3854.fSlots)
       try simp only [eNetworkStream, eL, ↓wk, ↓wl, nqs, evV, ↓reduceIte, sevalprocAttr, hx_3917, eNetworkStream, eL, hw_3922, hw_3923, hw_3925]
       refine evTs_stE (enc := eNetworkStream) (NetworkStream.mk x_3917.fUniverse r_3924 x_3917.fLast 1 x_3854.fSlots) (NetworkStream.mk x_3917.fUniverse r_3924 t_3240 1 x_3854.fSlots) (by rfl) (by rfl) hw_3925 (by rfl) ?_
       have hw_3926 := set_get hw_3925 (NetworkStream.mk x_3917.fUniverse r_3924 t_3240 1 x_3854.fSlots)
       try simp only [eNetworkStream, eL, ↓wk, ↓wl, nqs, evV, ↓reduceIte, sevalprocAttr, hx_3917, eNetworkStream, eL, hw_3922, hw_3923, hw_3925, hw_3926]
       refine AW.rend ?_
       try simp only [↓wk, ↓wl, nqs, evV, ↓reduceIte, sevalprocAttr, hx_3917, eNetworkStream, eL, hw_3922, hw_3923, hw_3925, hw_3926]
       refine evTs_inl (I := f43_C5 s_3239 x_3917 r_3924 x_3854 v_3916 out_3785 r_3914 t_3240) (args := [.agg [.int .u64 s_3239.fSource, .int .i64 s_3239.fPriority, .int .i64 s_3239.fSync, .int .i64 s_3239.fPulse, .row 5 7 0 v_3916.length], .agg [.int .i64 x_3917.fUniverse, .int .i64 r_3924, .int .i64 t_3240, .int .i64 1, .str x_3854.fSlots]]) H (by rfl) fd91 (by rfl) (Nat.le_of_ble_eq_true rfl) ?_ ?_ <;> clear H
       ·rintro v_ Q_ H hqf43_C5
        simp only [f43_C5] at H
        dsimp only [List.length_cons, List.length_nil]
        refine AW.rseq ?_
        try simp only [↓wk, ↓wl, nqs, evV, ↓reduceIte, sevalprocAttr, hx_3917, eNetworkStream, eL, hw_3922, hw_3923, hw_3925, hw_3926]
        refine AW.rseq ?_
        try simp only [↓wk, ↓wl, nqs, evV, ↓reduceIte, sevalprocAttr, hx_3917, eNetworkStream, eL, hw_3922, hw_3923, hw_3925, hw_3926]
        refine evTs_st (by simp only [↓wk, ↓wl, nqs, evV, ↓reduceIte, sevalprocAttr, hx_3917, eNetworkStream, eL, hw_3922, hw_3923, hw_3925, hw_3926, Nat.reduceLeDiff]; rfl) ?_
        try simp only [↓wk, ↓wl, nqs, evV, ↓reduceIte, sevalprocAttr, hx_3917, eNetworkStream, eL, hw_3922, hw_3923, hw_3925, hw_3926]
        refine AW.ret ?_
        cases H
        exact hqf43_C5 _ _ _ (.inr rfl) (Le.toL 8 (by rfl) [0, 1, 2, 3, 4, 5, 6, 7, 10] [4] (by decide) (by decide) rfl) (by simp only [resVs, omap, resV, f43_C5, rrl, Option.map_some, vm, List.idxOf?_cons, List.idxOf?_nil, beq_self_eq_true, Option.map_none, List.getD_cons_zero, List.getD_cons_succ, ↓wk, ↓wl, nq, evV, ↓reduceIte, sevalprocAttr, hx_3917, eNetworkStream, eL, hw_3922, hw_3923, hw_3925, hw_3926]) (by simp only [f43_C5, rrl, Option.map_some, vm, List.idxOf?_cons, List.idxOf?_nil, beq_self_eq_true, Option.map_none, List.getD_cons_zero, List.getD_cons_succ, ↓wk, ↓wl, nq, evV, ↓reduceIte, sevalprocAttr, hx_3917, eNetworkStream, eL, hw_3922, hw_3923, hw_3925, hw_3926])
       ·rintro _ s_ h_ H hs_ hh_
        simp only [f43_C5] at H hs_ hh_
        subst hs_
        subst hh_
        try simp only [↓wk, ↓wl, nqs, evV, ↓reduceIte, sevalprocAttr, hx_3917, eNetworkStream, eL, hw_3922, hw_3923, hw_3925, hw_3926]
        refine evTs_inl (I := f43_C6 out_3785 s_3239 x_3917 r_3924 x_3854 v_3916 r_3914 t_3240) (args := [.agg [.int .u64 s_3239.fSource, .int .i64 x_3917.fUniverse, .int .i64 s_3239.fPriority, .int .i64 r_3924, .int .i64 s_3239.fSync, .bool false, .str x_3854.fSlots], .ptr 2 0]) H (by rfl) fd83 (by rfl) (Nat.le_of_ble_eq_true rfl) ?_ ?_ <;> clear H
        ·rintro v_ Q_ H hqf43_C6
         simp only [f43_C6] at H
         dsimp only [List.length_cons, List.length_nil]
         refine AW.rseq ?_
         try simp only [↓wk, ↓wl, nqs, evV, ↓reduceIte, sevalprocAttr, hx_3917, eNetworkStream, eL, hw_3922, hw_3923, hw_3925, hw_3926]
         refine AW.rend ?_
         try simp only [↓wk, ↓wl, nqs, evV, ↓reduceIte, sevalprocAttr, hx_3917, eNetworkStream, eL, hw_3922, hw_3923, hw_3925, hw_3926]
         refine evTs_app (enc := eNetworkPacket) H (by rfl) (by first | rfl | simp only [List.length_set, hx_3917, eNetworkStream, eL, hw_3922, hw_3923, hw_3925, hw_3926]) (by rfl) (by rfl) ?_ <;> clear H <;> intro out_3930 H
         try simp only [↓wk, ↓wl, nqs, evV, ↓reduceIte, sevalprocAttr, hx_3917, eNetworkStream, eL, hw_3922, hw_3923, hw_3925, hw_3926]
         refine evTs_st (by simp only [↓wk, ↓wl, nqs, evV, ↓reduceIte, sevalprocAttr, hx_3917, eNetworkStream, eL, hw_3922, hw_3923, hw_3925, hw_3926, Nat.reduceLeDiff]; rfl) ?_
         try simp only [↓wk, ↓wl, nqs, evV, ↓reduceIte, sevalprocAttr, hx_3917, eNetworkStream, eL, hw_3922, hw_3923, hw_3925, hw_3926]
         cases H
         exact hqf43_C6 _ _ _ (.inl rfl) (Le.toL 9 (by rfl) [0, 1, 2, 3, 4, 5, 6, 7, 8, 10] [] (by decide) (by decide) rfl) (by simp only [resVs, omap, resV, f43_C6, rrl, Option.map_some, vm, List.idxOf?_cons, List.idxOf?_nil, beq_self_eq_true, Option.map_none, List.getD_cons_zero, List.getD_cons_succ, ↓wk, ↓wl, nq, evV, ↓reduceIte, sevalprocAttr, hx_3917, eNetworkStream, eL, hw_3922, hw_3923, hw_3925, hw_3926]) (by simp only [f43_C6, rrl, Option.map_some, vm, List.idxOf?_cons, List.idxOf?_nil, beq_self_eq_true, Option.map_none, List.getD_cons_zero, List.getD_cons_succ, ↓wk, ↓wl, nq, evV, ↓reduceIte, sevalprocAttr, hx_3917, eNetworkStream, eL, hw_3922, hw_3923, hw_3925, hw_3926])
        ·rintro v_3929 s_ h_ H hs_ hh_
         simp only [f43_C6] at H hs_ hh_
         subst hs_
         subst hh_
         try simp only [↓wk, ↓wl, nqs, evV, ↓reduceIte, sevalprocAttr, hx_3917, eNetworkStream, eL, hw_3922, hw_3923, hw_3925, hw_3926]
         cases H
         exact hqf43_C4 _ _ _ (.inl rfl) (Le.toL 6 (by rfl) [0, 1, 2, 3, 4, 5, 7, 9] [] (by decide) (by decide) rfl) (by simp only [resVs, omap, resV, f43_C4, rrl, Option.map_some, vm, List.idxOf?_cons, List.idxOf?_nil, beq_self_eq_true, Option.map_none, List.getD_cons_zero, List.getD_cons_succ, ↓wk, ↓wl, nq, evV, ↓reduceIte, sevalprocAttr, hx_3917, eNetworkStream, eL, hw_3922, hw_3923, hw_3925, hw_3926]) (by simp only [f43_C4, rrl, Option.map_some, vm, List.idxOf?_cons, List.idxOf?_nil, beq_self_eq_true, Option.map_none, List.getD_cons_zero, List.getD_cons_succ, ↓wk, ↓wl, nq, evV, ↓reduceIte, sevalprocAttr, hx_3917, eNetworkStream, eL, hw_3922, hw_3923, hw_3925, hw_3926])
      ·refine AW.rseq ?_
       try simp only [↓wk, ↓wl, nqs, evV, ↓reduceIte, sevalprocAttr, hx_3917, eNetworkStream, eL]
       refine evTs_ifg H (by rfl) ?_ ?_ <;> clear H <;> intro H
       ·try simp only [↓wk, ↓wl, nqs, evV, ↓reduceIte, sevalprocAttr, hx_3917, eNetworkStream, eL]
        refine AW.ift (by rfl) ?_
        refine AW.rend ?_
        try simp only [↓wk, ↓wl, nqs, evV, ↓reduceIte, sevalprocAttr, hx_3917, eNetworkStream, eL]
        refine evTs_stE (enc := eNetworkStream) x_3917 (NetworkStream.mk x_3917.fUniverse x_3917.fSeq x_3917.fLast (if 3 < (IntKind.i64.wrap (x_3917.fTimes + 1)) then 3 else (IntKind.i64.wrap (x_3917.fTimes + 1))) x_3917.fSlots) (by rfl) (by rfl) hx_3917 (by rfl) ?_
        have hw_3931 := set_get hx_3917 (NetworkStream.mk x_3917.fUniverse x_3917.fSeq x_3917.fLast (if 3 < (IntKind.i64.wrap (x_3917.fTimes + 1)) then 3 else (IntKind.i64.wrap (x_3917.fTimes + 1))) x_3917.fSlots)
        try simp only [eNetworkStream, eL, ↓wk, ↓wl, nqs, evV, ↓reduceIte, sevalprocAttr, hx_3917, eNetworkStream, eL, hw_3931]
        refine blkQ.norm ?_
        refine AW.rseq ?_
        try simp only [↓wk, ↓wl, nqs, evV, ↓reduceIte, sevalprocAttr, hx_3917, eNetworkStream, eL, hw_3931]
        refine evTs_pure hFn H (fun _ h => f84_ok h) (by rfl) (by rfl) (by rfl) (by rfl) (fun _ => rfl) ?_ <;> clear H <;> intro r_3932 H
        try simp only [eL, ↓wk, ↓wl, nqs, evV, ↓reduceIte, sevalprocAttr, hx_3917, eNetworkStream, eL, hw_3931]
        refine evTs_stE (enc := eNetworkStream) (NetworkStream.mk x_3917.fUniverse x_3917.fSeq x_3917.fLast (if 3 < (IntKind.i64.wrap (x_3917.fTimes + 1)) then 3 else (IntKind.i64.wrap (x_3917.fTimes + 1))) x_3917.fSlots) (NetworkStream.mk x_3917.fUniverse r_3932 x_3917.fLast (if 3 < (IntKind.i64.wrap (x_3917.fTimes + 1)) then 3 else (IntKind.i64.wrap (x_3917.fTimes + 1))) x_3917.fSlots) (by rfl) (by rfl) hw_3931 (by rfl) ?_
        have hw_3933 := set_get hw_3931 (NetworkStream.mk x_3917.fUniverse r_3932 x_3917.fLast (if 3 < (IntKind.i64.wrap (x_3917.fTimes + 1)) then 3 else (IntKind.i64.wrap (x_3917.fTimes + 1))) x_3917.fSlots)
        try simp only [eNetworkStream, eL, ↓wk, ↓wl, nqs, evV, ↓reduceIte, sevalprocAttr, hx_3917, eNetworkStream, eL, hw_3931, hw_3933]
        refine evTs_stE (enc := eNetworkStream) (NetworkStream.mk x_3917.fUniverse r_3932 x_3917.fLast (if 3 < (IntKind.i64.wrap (x_3917.fTimes + 1)) then 3 else (IntKind.i64.wrap (x_3917.fTimes + 1))) x_3917.fSlots) (NetworkStream.mk x_3917.fUniverse r_3932 t_3240 (if 3 < (IntKind.i64.wrap (x_3917.fTimes + 1)) then 3 else (IntKind.i64.wrap (x_3917.fTimes + 1))) x_3917.fSlots) (by rfl) (by rfl) hw_3933 (by rfl) ?_
        have hw_3934 := set_get hw_3933 (NetworkStream.mk x_3917.fUniverse r_3932 t_3240 (if 3 < (IntKind.i64.wrap (x_3917.fTimes + 1)) then 3 else (IntKind.i64.wrap (x_3917.fTimes + 1))) x_3917.fSlots)
        try simp only [eNetworkStream, eL, ↓wk, ↓wl, nqs, evV, ↓reduceIte, sevalprocAttr, hx_3917, eNetworkStream, eL, hw_3931, hw_3933, hw_3934]
        refine AW.rend ?_
        try simp only [↓wk, ↓wl, nqs, evV, ↓reduceIte, sevalprocAttr, hx_3917, eNetworkStream, eL, hw_3931, hw_3933, hw_3934]
        refine evTs_inl (I := f43_C7 s_3239 x_3917 r_3932 v_3916 out_3785 x_3854 r_3914 t_3240) (args := [.agg [.int .u64 s_3239.fSource, .int .i64 s_3239.fPriority, .int .i64 s_3239.fSync, .int .i64 s_3239.fPulse, .row 5 7 0 v_3916.length], .agg [.int .i64 x_3917.fUniverse, .int .i64 r_3932, .int .i64 t_3240, .int .i64 (if 3 < (IntKind.i64.wrap (x_3917.fTimes + 1)) then 3 else (IntKind.i64.wrap (x_3917.fTimes + 1))), .str x_3917.fSlots]]) H (by rfl) fd91 (by rfl) (Nat.le_of_ble_eq_true rfl) ?_ ?_ <;> clear H
        ·rintro v_ Q_ H hqf43_C7
         simp only [f43_C7] at H
         dsimp only [List.length_cons, List.length_nil]
         refine AW.rseq ?_
         try simp only [↓wk, ↓wl, nqs, evV, ↓reduceIte, sevalprocAttr, hx_3917, eNetworkStream, eL, hw_3931, hw_3933, hw_3934]
         refine AW.rseq ?_
         try simp only [↓wk, ↓wl, nqs, evV, ↓reduceIte, sevalprocAttr, hx_3917, eNetworkStream, eL, hw_3931, hw_3933, hw_3934]
         refine evTs_st (by simp only [↓wk, ↓wl, nqs, evV, ↓reduceIte, sevalprocAttr, hx_3917, eNetworkStream, eL, hw_3931, hw_3933, hw_3934, Nat.reduceLeDiff]; rfl) ?_
         try simp only [↓wk, ↓wl, nqs, evV, ↓reduceIte, sevalprocAttr, hx_3917, eNetworkStream, eL, hw_3931, hw_3933, hw_3934]
         refine AW.ret ?_
         cases H
         exact hqf43_C7 _ _ _ (.inr rfl) (Le.toL 8 (by rfl) [0, 1, 2, 3, 4, 5, 6, 7, 10] [4] (by decide) (by decide) rfl) (by simp only [resVs, omap, resV, f43_C7, rrl, Option.map_some, vm, List.idxOf?_cons, List.idxOf?_nil, beq_self_eq_true, Option.map_none, List.getD_cons_zero, List.getD_cons_succ, ↓wk, ↓wl, nq, evV, ↓reduceIte, sevalprocAttr, hx_3917, eNetworkStream, eL, hw_3931, hw_3933, hw_3934]) (by simp only [f43_C7, rrl, Option.map_some, vm, List.idxOf?_cons, List.idxOf?_nil, beq_self_eq_true, Option.map_none, List.getD_cons_zero, List.getD_cons_succ, ↓wk, ↓wl, nq, evV, ↓reduceIte, sevalprocAttr, hx_3917, eNetworkStream, eL, hw_3931, hw_3933, hw_3934])
        ·rintro _ s_ h_ H hs_ hh_
         simp only [f43_C7] at H hs_ hh_
         subst hs_
         subst hh_
         try simp only [↓wk, ↓wl, nqs, evV, ↓reduceIte, sevalprocAttr, hx_3917, eNetworkStream, eL, hw_3931, hw_3933, hw_3934]
         refine evTs_inl (I := f43_C8 out_3785 s_3239 x_3917 r_3932 v_3916 x_3854 r_3914 t_3240) (args := [.agg [.int .u64 s_3239.fSource, .int .i64 x_3917.fUniverse, .int .i64 s_3239.fPriority, .int .i64 r_3932, .int .i64 s_3239.fSync, .bool false, .str x_3917.fSlots], .ptr 2 0]) H (by rfl) fd83 (by rfl) (Nat.le_of_ble_eq_true rfl) ?_ ?_ <;> clear H
         ·rintro v_ Q_ H hqf43_C8
          simp only [f43_C8] at H
          dsimp only [List.length_cons, List.length_nil]
          refine AW.rseq ?_
          try simp only [↓wk, ↓wl, nqs, evV, ↓reduceIte, sevalprocAttr, hx_3917, eNetworkStream, eL, hw_3931, hw_3933, hw_3934]
          refine AW.rend ?_
          try simp only [↓wk, ↓wl, nqs, evV, ↓reduceIte, sevalprocAttr, hx_3917, eNetworkStream, eL, hw_3931, hw_3933, hw_3934]
          refine evTs_app (enc := eNetworkPacket) H (by rfl) (by first | rfl | simp only [List.length_set, hx_3917, eNetworkStream, eL, hw_3931, hw_3933, hw_3934]) (by rfl) (by rfl) ?_ <;> clear H <;> intro out_3938 H
          try simp only [↓wk, ↓wl, nqs, evV, ↓reduceIte, sevalprocAttr, hx_3917, eNetworkStream, eL, hw_3931, hw_3933, hw_3934]
          refine evTs_st (by simp only [↓wk, ↓wl, nqs, evV, ↓reduceIte, sevalprocAttr, hx_3917, eNetworkStream, eL, hw_3931, hw_3933, hw_3934, Nat.reduceLeDiff]; rfl) ?_
          try simp only [↓wk, ↓wl, nqs, evV, ↓reduceIte, sevalprocAttr, hx_3917, eNetworkStream, eL, hw_3931, hw_3933, hw_3934]
          cases H
          exact hqf43_C8 _ _ _ (.inl rfl) (Le.toL 9 (by rfl) [0, 1, 2, 3, 4, 5, 6, 7, 8, 10] [] (by decide) (by decide) rfl) (by simp only [resVs, omap, resV, f43_C8, rrl, Option.map_some, vm, List.idxOf?_cons, List.idxOf?_nil, beq_self_eq_true, Option.map_none, List.getD_cons_zero, List.getD_cons_succ, ↓wk, ↓wl, nq, evV, ↓reduceIte, sevalprocAttr, hx_3917, eNetworkStream, eL, hw_3931, hw_3933, hw_3934]) (by simp only [f43_C8, rrl, Option.map_some, vm, List.idxOf?_cons, List.idxOf?_nil, beq_self_eq_true, Option.map_none, List.getD_cons_zero, List.getD_cons_succ, ↓wk, ↓wl, nq, evV, ↓reduceIte, sevalprocAttr, hx_3917, eNetworkStream, eL, hw_3931, hw_3933, hw_3934])
         ·rintro v_3937 s_ h_ H hs_ hh_
          simp only [f43_C8] at H hs_ hh_
          subst hs_
          subst hh_
          try simp only [↓wk, ↓wl, nqs, evV, ↓reduceIte, sevalprocAttr, hx_3917, eNetworkStream, eL, hw_3931, hw_3933, hw_3934]
          cases H
          exact hqf43_C4 _ _ _ (.inl rfl) (Le.toL 6 (by rfl) [0, 1, 2, 3, 4, 5, 7, 9] [] (by decide) (by decide) rfl) (by simp only [resVs, omap, resV, f43_C4, rrl, Option.map_some, vm, List.idxOf?_cons, List.idxOf?_nil, beq_self_eq_true, Option.map_none, List.getD_cons_zero, List.getD_cons_succ, ↓wk, ↓wl, nq, evV, ↓reduceIte, sevalprocAttr, hx_3917, eNetworkStream, eL, hw_3931, hw_3933, hw_3934]) (by simp only [f43_C4, rrl, Option.map_some, vm, List.idxOf?_cons, List.idxOf?_nil, beq_self_eq_true, Option.map_none, List.getD_cons_zero, List.getD_cons_succ, ↓wk, ↓wl, nq, evV, ↓reduceIte, sevalprocAttr, hx_3917, eNetworkStream, eL, hw_3931, hw_3933, hw_3934])
       ·try simp only [↓wk, ↓wl, nqs, evV, ↓reduceIte, sevalprocAttr, hx_3917, eNetworkStream, eL]
        refine AW.ifc H (by rfl) ?_ ?_ <;> clear H <;> intro H
        ·refine AW.rend ?_
         try simp only [↓wk, ↓wl, nqs, evV, ↓reduceIte, sevalprocAttr, hx_3917, eNetworkStream, eL]
         refine evTs_stE (enc := eNetworkStream) x_3917 (NetworkStream.mk x_3917.fUniverse x_3917.fSeq x_3917.fLast (if 3 < (IntKind.i64.wrap (x_3917.fTimes + 1)) then 3 else (IntKind.i64.wrap (x_3917.fTimes + 1))) x_3917.fSlots) (by rfl) (by rfl) hx_3917 (by rfl) ?_
         have hw_3939 := set_get hx_3917 (NetworkStream.mk x_3917.fUniverse x_3917.fSeq x_3917.fLast (if 3 < (IntKind.i64.wrap (x_3917.fTimes + 1)) then 3 else (IntKind.i64.wrap (x_3917.fTimes + 1))) x_3917.fSlots)
         try simp only [eNetworkStream, eL, ↓wk, ↓wl, nqs, evV, ↓reduceIte, sevalprocAttr, hx_3917, eNetworkStream, eL, hw_3939]
         refine blkQ.norm ?_
         refine AW.rseq ?_
         try simp only [↓wk, ↓wl, nqs, evV, ↓reduceIte, sevalprocAttr, hx_3917, eNetworkStream, eL, hw_3939]
         refine evTs_pure hFn H (fun _ h => f84_ok h) (by rfl) (by rfl) (by rfl) (by rfl) (fun _ => rfl) ?_ <;> clear H <;> intro r_3940 H
         try simp only [eL, ↓wk, ↓wl, nqs, evV, ↓reduceIte, sevalprocAttr, hx_3917, eNetworkStream, eL, hw_3939]
         refine evTs_stE (enc := eNetworkStream) (NetworkStream.mk x_3917.fUniverse x_3917.fSeq x_3917.fLast (if 3 < (IntKind.i64.wrap (x_3917.fTimes + 1)) then 3 else (IntKind.i64.wrap (x_3917.fTimes + 1))) x_3917.fSlots) (NetworkStream.mk x_3917.fUniverse r_3940 x_3917.fLast (if 3 < (IntKind.i64.wrap (x_3917.fTimes + 1)) then 3 else (IntKind.i64.wrap (x_3917.fTimes + 1))) x_3917.fSlots) (by rfl) (by rfl) hw_3939 (by rfl) ?_
         have hw_3941 := set_get hw_3939 (NetworkStream.mk x_3917.fUniverse r_3940 x_3917.fLast (if 3 < (IntKind.i64.wrap (x_3917.fTimes + 1)) then 3 else (IntKind.i64.wrap (x_3917.fTimes + 1))) x_3917.fSlots)
         try simp only [eNetworkStream, eL, ↓wk, ↓wl, nqs, evV, ↓reduceIte, sevalprocAttr, hx_3917, eNetworkStream, eL, hw_3939, hw_3941]
         refine evTs_stE (enc := eNetworkStream) (NetworkStream.mk x_3917.fUniverse r_3940 x_3917.fLast (if 3 < (IntKind.i64.wrap (x_3917.fTimes + 1)) then 3 else (IntKind.i64.wrap (x_3917.fTimes + 1))) x_3917.fSlots) (NetworkStream.mk x_3917.fUniverse r_3940 t_3240 (if 3 < (IntKind.i64.wrap (x_3917.fTimes + 1)) then 3 else (IntKind.i64.wrap (x_3917.fTimes + 1))) x_3917.fSlots) (by rfl) (by rfl) hw_3941 (by rfl) ?_
         have hw_3942 := set_get hw_3941 (NetworkStream.mk x_3917.fUniverse r_3940 t_3240 (if 3 < (IntKind.i64.wrap (x_3917.fTimes + 1)) then 3 else (IntKind.i64.wrap (x_3917.fTimes + 1))) x_3917.fSlots)
         try simp only [eNetworkStream, eL, ↓wk, ↓wl, nqs, evV, ↓reduceIte, sevalprocAttr, hx_3917, eNetworkStream, eL, hw_3939, hw_3941, hw_3942]
         refine AW.rend ?_
         try simp only [↓wk, ↓wl, nqs, evV, ↓reduceIte, sevalprocAttr, hx_3917, eNetworkStream, eL, hw_3939, hw_3941, hw_3942]
         refine evTs_inl (I := f43_C9 s_3239 x_3917 r_3940 v_3916 out_3785 x_3854 r_3914 t_3240) (args := [.agg [.int .u64 s_3239.fSource, .int .i64 s_3239.fPriority, .int .i64 s_3239.fSync, .int .i64 s_3239.fPulse, .row 5 7 0 v_3916.length], .agg [.int .i64 x_3917.fUniverse, .int .i64 r_3940, .int .i64 t_3240, .int .i64 (if 3 < (IntKind.i64.wrap (x_3917.fTimes + 1)) then 3 else (IntKind.i64.wrap (x_3917.fTimes + 1))), .str x_3917.fSlots]]) H (by rfl) fd91 (by rfl) (Nat.le_of_ble_eq_true rfl) ?_ ?_ <;> clear H
         ·rintro v_ Q_ H hqf43_C9
          simp only [f43_C9] at H
          dsimp only [List.length_cons, List.length_nil]
          refine AW.rseq ?_
          try simp only [↓wk, ↓wl, nqs, evV, ↓reduceIte, sevalprocAttr, hx_3917, eNetworkStream, eL, hw_3939, hw_3941, hw_3942]
          refine AW.rseq ?_
          try simp only [↓wk, ↓wl, nqs, evV, ↓reduceIte, sevalprocAttr, hx_3917, eNetworkStream, eL, hw_3939, hw_3941, hw_3942]
          refine evTs_st (by simp only [↓wk, ↓wl, nqs, evV, ↓reduceIte, sevalprocAttr, hx_3917, eNetworkStream, eL, hw_3939, hw_3941, hw_3942, Nat.reduceLeDiff]; rfl) ?_
          try simp only [↓wk, ↓wl, nqs, evV, ↓reduceIte, sevalprocAttr, hx_3917, eNetworkStream, eL, hw_3939, hw_3941, hw_3942]
          refine AW.ret ?_
          cases H
          exact hqf43_C9 _ _ _ (.inr rfl) (Le.toL 8 (by rfl) [0, 1, 2, 3, 4, 5, 6, 7, 10] [4] (by decide) (by decide) rfl) (by simp only [resVs, omap, resV, f43_C9, rrl, Option.map_some, vm, List.idxOf?_cons, List.idxOf?_nil, beq_self_eq_true, Option.map_none, List.getD_cons_zero, List.getD_cons_succ, ↓wk, ↓wl, nq, evV, ↓reduceIte, sevalprocAttr, hx_3917, eNetworkStream, eL, hw_3939, hw_3941, hw_3942]) (by simp only [f43_C9, rrl, Option.map_some, vm, List.idxOf?_cons, List.idxOf?_nil, beq_self_eq_true, Option.map_none, List.getD_cons_zero, List.getD_cons_succ, ↓wk, ↓wl, nq, evV, ↓reduceIte, sevalprocAttr, hx_3917, eNetworkStream, eL, hw_3939, hw_3941, hw_3942])
         ·rintro _ s_ h_ H hs_ hh_
          simp only [f43_C9] at H hs_ hh_
          subst hs_
          subst hh_
          try simp only [↓wk, ↓wl, nqs, evV, ↓reduceIte, sevalprocAttr, hx_3917, eNetworkStream, eL, hw_3939, hw_3941, hw_3942]
          refine evTs_inl (I := f43_C10 out_3785 s_3239 x_3917 r_3940 v_3916 x_3854 r_3914 t_3240) (args := [.agg [.int .u64 s_3239.fSource, .int .i64 x_3917.fUniverse, .int .i64 s_3239.fPriority, .int .i64 r_3940, .int .i64 s_3239.fSync, .bool false, .str x_3917.fSlots], .ptr 2 0]) H (by rfl) fd83 (by rfl) (Nat.le_of_ble_eq_true rfl) ?_ ?_ <;> clear H
          ·rintro v_ Q_ H hqf43_C10
           simp only [f43_C10] at H
           dsimp only [List.length_cons, List.length_nil]
           refine AW.rseq ?_
           try simp only [↓wk, ↓wl, nqs, evV, ↓reduceIte, sevalprocAttr, hx_3917, eNetworkStream, eL, hw_3939, hw_3941, hw_3942]
           refine AW.rend ?_
           try simp only [↓wk, ↓wl, nqs, evV, ↓reduceIte, sevalprocAttr, hx_3917, eNetworkStream, eL, hw_3939, hw_3941, hw_3942]
           refine evTs_app (enc := eNetworkPacket) H (by rfl) (by first | rfl | simp only [List.length_set, hx_3917, eNetworkStream, eL, hw_3939, hw_3941, hw_3942]) (by rfl) (by rfl) ?_ <;> clear H <;> intro out_3946 H
           try simp only [↓wk, ↓wl, nqs, evV, ↓reduceIte, sevalprocAttr, hx_3917, eNetworkStream, eL, hw_3939, hw_3941, hw_3942]
           refine evTs_st (by simp only [↓wk, ↓wl, nqs, evV, ↓reduceIte, sevalprocAttr, hx_3917, eNetworkStream, eL, hw_3939, hw_3941, hw_3942, Nat.reduceLeDiff]; rfl) ?_
           try simp only [↓wk, ↓wl, nqs, evV, ↓reduceIte, sevalprocAttr, hx_3917, eNetworkStream, eL, hw_3939, hw_3941, hw_3942]
           cases H
           exact hqf43_C10 _ _ _ (.inl rfl) (Le.toL 9 (by rfl) [0, 1, 2, 3, 4, 5, 6, 7, 8, 10] [] (by decide) (by decide) rfl) (by simp only [resVs, omap, resV, f43_C10, rrl, Option.map_some, vm, List.idxOf?_cons, List.idxOf?_nil, beq_self_eq_true, Option.map_none, List.getD_cons_zero, List.getD_cons_succ, ↓wk, ↓wl, nq, evV, ↓reduceIte, sevalprocAttr, hx_3917, eNetworkStream, eL, hw_3939, hw_3941, hw_3942]) (by simp only [f43_C10, rrl, Option.map_some, vm, List.idxOf?_cons, List.idxOf?_nil, beq_self_eq_true, Option.map_none, List.getD_cons_zero, List.getD_cons_succ, ↓wk, ↓wl, nq, evV, ↓reduceIte, sevalprocAttr, hx_3917, eNetworkStream, eL, hw_3939, hw_3941, hw_3942])
          ·rintro v_3945 s_ h_ H hs_ hh_
           simp only [f43_C10] at H hs_ hh_
           subst hs_
           subst hh_
           try simp only [↓wk, ↓wl, nqs, evV, ↓reduceIte, sevalprocAttr, hx_3917, eNetworkStream, eL, hw_3939, hw_3941, hw_3942]
           cases H
           exact hqf43_C4 _ _ _ (.inl rfl) (Le.toL 6 (by rfl) [0, 1, 2, 3, 4, 5, 7, 9] [] (by decide) (by decide) rfl) (by simp only [resVs, omap, resV, f43_C4, rrl, Option.map_some, vm, List.idxOf?_cons, List.idxOf?_nil, beq_self_eq_true, Option.map_none, List.getD_cons_zero, List.getD_cons_succ, ↓wk, ↓wl, nq, evV, ↓reduceIte, sevalprocAttr, hx_3917, eNetworkStream, eL, hw_3939, hw_3941, hw_3942]) (by simp only [f43_C4, rrl, Option.map_some, vm, List.idxOf?_cons, List.idxOf?_nil, beq_self_eq_true, Option.map_none, List.getD_cons_zero, List.getD_cons_succ, ↓wk, ↓wl, nq, evV, ↓reduceIte, sevalprocAttr, hx_3917, eNetworkStream, eL, hw_3939, hw_3941, hw_3942])
        ·refine AW.ret ?_
         refine blkQ.ret ?_
         cases H
         exact hqf43_C4 _ _ _ (.inr rfl) (Le.trans (Le.moveCell 2 0 (by rfl) (by rfl) (by rfl)) (Le.toL 6 (by rfl) [0, 1, 2, 3, 4, 5, 7, 8] [] (by decide) (by decide) rfl)) (by simp only [resVs, omap, resV, f43_C4, rrl, Option.map_some, vm, List.idxOf?_cons, List.idxOf?_nil, beq_self_eq_true, Option.map_none, List.getD_cons_zero, List.getD_cons_succ, ↓wk, ↓wl, nq, evV, ↓reduceIte, sevalprocAttr, hx_3917, eNetworkStream, eL]) (by simp only [f43_C4, rrl, Option.map_some, vm, List.idxOf?_cons, List.idxOf?_nil, beq_self_eq_true, Option.map_none, List.getD_cons_zero, List.getD_cons_succ, ↓wk, ↓wl, nq, evV, ↓reduceIte, sevalprocAttr, hx_3917, eNetworkStream, eL])
     ·refine AW.skip ?_
      refine seqQ.norm ?_
      refine AW.rseq ?_
      try simp only [↓wk, ↓wl, nqs, evV, ↓reduceIte, sevalprocAttr]
      refine evTs_atr (enc := eNetworkStream) H (by rfl) (by first | rfl | simp only [List.length_set]) (by rfl) ?_ <;> clear H <;> intro x_3947 hx_3947 H
      try simp only [eNetworkStream, eL, ↓wk, ↓wl, nqs, evV, ↓reduceIte, sevalprocAttr, hx_3947, eNetworkStream, eL]
      refine AW.bseq ?_
      refine AW.rseq ?_
      try simp only [↓wk, ↓wl, nqs, evV, ↓reduceIte, sevalprocAttr, hx_3947, eNetworkStream, eL]
      refine AW.ifc H (by rfl) ?_ ?_ <;> clear H <;> intro H
      ·refine AW.rend ?_
       try simp only [↓wk, ↓wl, nqs, evV, ↓reduceIte, sevalprocAttr, hx_3947, eNetworkStream, eL]
       refine evTs_stE (enc := eNetworkStream) x_3947 (NetworkStream.mk x_3947.fUniverse x_3947.fSeq x_3947.fLast x_3947.fTimes x_3854.fSlots) (by rfl) (by rfl) hx_3947 (by rfl) ?_
       have hw_3952 := set_get hx_3947 (NetworkStream.mk x_3947.fUniverse x_3947.fSeq x_3947.fLast x_3947.fTimes x_3854.fSlots)
       try simp only [eNetworkStream, eL, ↓wk, ↓wl, nqs, evV, ↓reduceIte, sevalprocAttr, hx_3947, eNetworkStream, eL, hw_3952]
       refine evTs_stE (enc := eNetworkStream) (NetworkStream.mk x_3947.fUniverse x_3947.fSeq x_3947.fLast x_3947.fTimes x_3854.fSlots) (NetworkStream.mk x_3947.fUniverse x_3947.fSeq x_3947.fLast 1 x_3854.fSlots) (by rfl) (by rfl) hw_3952 (by rfl) ?_
       have hw_3953 := set_get hw_3952 (NetworkStream.mk x_3947.fUniverse x_3947.fSeq x_3947.fLast 1 x_3854.fSlots)
       try simp only [eNetworkStream, eL, ↓wk, ↓wl, nqs, evV, ↓reduceIte, sevalprocAttr, hx_3947, eNetworkStream, eL, hw_3952, hw_3953]
       refine blkQ.norm ?_
       refine AW.rseq ?_
       try simp only [↓wk, ↓wl, nqs, evV, ↓reduceIte, sevalprocAttr, hx_3947, eNetworkStream, eL, hw_3952, hw_3953]
       refine evTs_pure hFn H (fun _ h => f84_ok h) (by rfl) (by rfl) (by rfl) (by rfl) (fun _ => rfl) ?_ <;> clear H <;> intro r_3954 H
       try simp only [eL, ↓wk, ↓wl, nqs, evV, ↓reduceIte, sevalprocAttr, hx_3947, eNetworkStream, eL, hw_3952, hw_3953]
       refine evTs_stE (enc := eNetworkStream) (NetworkStream.mk x_3947.fUniverse x_3947.fSeq x_3947.fLast 1 x_3854.fSlots) (NetworkStream.mk x_3947.fUniverse r_3954 x_3947.fLast 1 x_3854.fSlots) (by rfl) (by rfl) hw_3953 (by rfl) ?_
       have hw_3955 := set_get hw_3953 (NetworkStream.mk x_3947.fUniverse r_3954 x_3947.fLast 1 x_3854.fSlots)
       try simp only [eNetworkStream, eL, ↓wk, ↓wl, nqs, evV, ↓reduceIte, sevalprocAttr, hx_3947, eNetworkStream, eL, hw_3952, hw_3953, hw_3955]
       refine evTs_stE (enc := eNetworkStream) (NetworkStream.mk x_3947.fUniverse r_3954 x_3947.fLast 1 x_3854.fSlots) (NetworkStream.mk x_3947.fUniverse r_3954 t_3240 1 x_3854.fSlots) (by rfl) (by rfl) hw_3955 (by rfl) ?_
       have hw_3956 := set_get hw_3955 (NetworkStream.mk x_3947.fUniverse r_3954 t_3240 1 x_3854.fSlots)
       try simp only [eNetworkStream, eL, ↓wk, ↓wl, nqs, evV, ↓reduceIte, sevalprocAttr, hx_3947, eNetworkStream, eL, hw_3952, hw_3953, hw_3955, hw_3956]
       refine AW.rend ?_
       try simp only [↓wk, ↓wl, nqs, evV, ↓reduceIte, sevalprocAttr, hx_3947, eNetworkStream, eL, hw_3952, hw_3953, hw_3955, hw_3956]
       refine evTs_inl (I := f43_C11 s_3239 x_3947 r_3954 x_3854 s_3784 out_3785 r_3914 t_3240) (args := [.agg [.int .u64 s_3239.fSource, .int .i64 s_3239.fPriority, .int .i64 s_3239.fSync, .int .i64 s_3239.fPulse, .row 5 3 0 s_3784.length], .agg [.int .i64 x_3947.fUniverse, .int .i64 r_3954, .int .i64 t_3240, .int .i64 1, .str x_3854.fSlots]]) H (by rfl) fd91 (by rfl) (Nat.le_of_ble_eq_true rfl) ?_ ?_ <;> clear H
       ·rintro v_ Q_ H hqf43_C11
        simp only [f43_C11] at H
        dsimp only [List.length_cons, List.length_nil]
        refine AW.rseq ?_
        try simp only [↓wk, ↓wl, nqs, evV, ↓reduceIte, sevalprocAttr, hx_3947, eNetworkStream, eL, hw_3952, hw_3953, hw_3955, hw_3956]
        refine AW.rseq ?_
        try simp only [↓wk, ↓wl, nqs, evV, ↓reduceIte, sevalprocAttr, hx_3947, eNetworkStream, eL, hw_3952, hw_3953, hw_3955, hw_3956]
        refine evTs_st (by simp only [↓wk, ↓wl, nqs, evV, ↓reduceIte, sevalprocAttr, hx_3947, eNetworkStream, eL, hw_3952, hw_3953, hw_3955, hw_3956, Nat.reduceLeDiff]; rfl) ?_
        try simp only [↓wk, ↓wl, nqs, evV, ↓reduceIte, sevalprocAttr, hx_3947, eNetworkStream, eL, hw_3952, hw_3953, hw_3955, hw_3956]
        refine AW.ret ?_
        cases H
        exact hqf43_C11 _ _ _ (.inr rfl) (Le.toL 7 (by rfl) [0, 1, 2, 3, 4, 5, 6, 9] [4] (by decide) (by decide) rfl) (by simp only [resVs, omap, resV, f43_C11, rrl, Option.map_some, vm, List.idxOf?_cons, List.idxOf?_nil, beq_self_eq_true, Option.map_none, List.getD_cons_zero, List.getD_cons_succ, ↓wk, ↓wl, nq, evV, ↓reduceIte, sevalprocAttr, hx_3947, eNetworkStream, eL, hw_3952, hw_3953, hw_3955, hw_3956]) (by simp only [f43_C11, rrl, Option.map_some, vm, List.idxOf?_cons, List.idxOf?_nil, beq_self_eq_true, Option.map_none, List.getD_cons_zero, List.getD_cons_succ, ↓wk, ↓wl, nq, evV, ↓reduceIte, sevalprocAttr, hx_3947, eNetworkStream, eL, hw_3952, hw_3953, hw_3955, hw_3956])
       ·rintro _ s_ h_ H hs_ hh_
        simp only [f43_C11] at H hs_ hh_
        subst hs_
        subst hh_
        try simp only [↓wk, ↓wl, nqs, evV, ↓reduceIte, sevalprocAttr, hx_3947, eNetworkStream, eL, hw_3952, hw_3953, hw_3955, hw_3956]
        refine evTs_inl (I := f43_C12 out_3785 s_3239 x_3947 r_3954 x_3854 s_3784 r_3914 t_3240) (args := [.agg [.int .u64 s_3239.fSource, .int .i64 x_3947.fUniverse, .int .i64 s_3239.fPriority, .int .i64 r_3954, .int .i64 s_3239.fSync, .bool false, .str x_3854.fSlots], .ptr 2 0]) H (by rfl) fd83 (by rfl) (Nat.le_of_ble_eq_true rfl) ?_ ?_ <;> clear H
        ·rintro v_ Q_ H hqf43_C12
         simp only [f43_C12] at H
         dsimp only [List.length_cons, List.length_nil]
         refine AW.rseq ?_
         try simp only [↓wk, ↓wl, nqs, evV, ↓reduceIte, sevalprocAttr, hx_3947, eNetworkStream, eL, hw_3952, hw_3953, hw_3955, hw_3956]
         refine AW.rend ?_
         try simp only [↓wk, ↓wl, nqs, evV, ↓reduceIte, sevalprocAttr, hx_3947, eNetworkStream, eL, hw_3952, hw_3953, hw_3955, hw_3956]
         refine evTs_app (enc := eNetworkPacket) H (by rfl) (by first | rfl | simp only [List.length_set, hx_3947, eNetworkStream, eL, hw_3952, hw_3953, hw_3955, hw_3956]) (by rfl) (by rfl) ?_ <;> clear H <;> intro out_3960 H
         try simp only [↓wk, ↓wl, nqs, evV, ↓reduceIte, sevalprocAttr, hx_3947, eNetworkStream, eL, hw_3952, hw_3953, hw_3955, hw_3956]
         refine evTs_st (by simp only [↓wk, ↓wl, nqs, evV, ↓reduceIte, sevalprocAttr, hx_3947, eNetworkStream, eL, hw_3952, hw_3953, hw_3955, hw_3956, Nat.reduceLeDiff]; rfl) ?_
         try simp only [↓wk, ↓wl, nqs, evV, ↓reduceIte, sevalprocAttr, hx_3947, eNetworkStream, eL, hw_3952, hw_3953, hw_3955, hw_3956]
         cases H
         exact hqf43_C12 _ _ _ (.inl rfl) (Le.toL 8 (by rfl) [0, 1, 2, 3, 4, 5, 6, 7, 9] [] (by decide) (by decide) rfl) (by simp only [resVs, omap, resV, f43_C12, rrl, Option.map_some, vm, List.idxOf?_cons, List.idxOf?_nil, beq_self_eq_true, Option.map_none, List.getD_cons_zero, List.getD_cons_succ, ↓wk, ↓wl, nq, evV, ↓reduceIte, sevalprocAttr, hx_3947, eNetworkStream, eL, hw_3952, hw_3953, hw_3955, hw_3956]) (by simp only [f43_C12, rrl, Option.map_some, vm, List.idxOf?_cons, List.idxOf?_nil, beq_self_eq_true, Option.map_none, List.getD_cons_zero, List.getD_cons_succ, ↓wk, ↓wl, nq, evV, ↓reduceIte, sevalprocAttr, hx_3947, eNetworkStream, eL, hw_3952, hw_3953, hw_3955, hw_3956])
        ·rintro v_3959 s_ h_ H hs_ hh_
         simp only [f43_C12] at H hs_ hh_
         subst hs_
         subst hh_
         try simp only [↓wk, ↓wl, nqs, evV, ↓reduceIte, sevalprocAttr, hx_3947, eNetworkStream, eL, hw_3952, hw_3953, hw_3955, hw_3956]
         cases H
         exact hqf43_C4 _ _ _ (.inl rfl) (Le.trans (Le.moveCell 0 4 (by rfl) (by rfl) (by rfl)) (Le.toL 6 (by rfl) [0, 1, 2, 3, 4, 5, 9, 8] [] (by decide) (by decide) rfl)) (by simp only [resVs, omap, resV, f43_C4, rrl, Option.map_some, vm, List.idxOf?_cons, List.idxOf?_nil, beq_self_eq_true, Option.map_none, List.getD_cons_zero, List.getD_cons_succ, ↓wk, ↓wl, nq, evV, ↓reduceIte, sevalprocAttr, hx_3947, eNetworkStream, eL, hw_3952, hw_3953, hw_3955, hw_3956]) (by simp only [f43_C4, rrl, Option.map_some, vm, List.idxOf?_cons, List.idxOf?_nil, beq_self_eq_true, Option.map_none, List.getD_cons_zero, List.getD_cons_succ, ↓wk, ↓wl, nq, evV, ↓reduceIte, sevalprocAttr, hx_3947, eNetworkStream, eL, hw_3952, hw_3953, hw_3955, hw_3956])
      ·refine AW.rseq ?_
       try simp only [↓wk, ↓wl, nqs, evV, ↓reduceIte, sevalprocAttr, hx_3947, eNetworkStream, eL]
       refine evTs_ifg H (by rfl) ?_ ?_ <;> clear H <;> intro H
       ·try simp only [↓wk, ↓wl, nqs, evV, ↓reduceIte, sevalprocAttr, hx_3947, eNetworkStream, eL]
        refine AW.ift (by rfl) ?_
        refine AW.rend ?_
        try simp only [↓wk, ↓wl, nqs, evV, ↓reduceIte, sevalprocAttr, hx_3947, eNetworkStream, eL]
        refine evTs_stE (enc := eNetworkStream) x_3947 (NetworkStream.mk x_3947.fUniverse x_3947.fSeq x_3947.fLast (if 3 < (IntKind.i64.wrap (x_3947.fTimes + 1)) then 3 else (IntKind.i64.wrap (x_3947.fTimes + 1))) x_3947.fSlots) (by rfl) (by rfl) hx_3947 (by rfl) ?_
        have hw_3961 := set_get hx_3947 (NetworkStream.mk x_3947.fUniverse x_3947.fSeq x_3947.fLast (if 3 < (IntKind.i64.wrap (x_3947.fTimes + 1)) then 3 else (IntKind.i64.wrap (x_3947.fTimes + 1))) x_3947.fSlots)
        try simp only [eNetworkStream, eL, ↓wk, ↓wl, nqs, evV, ↓reduceIte, sevalprocAttr, hx_3947, eNetworkStream, eL, hw_3961]
        refine blkQ.norm ?_
        refine AW.rseq ?_
        try simp only [↓wk, ↓wl, nqs, evV, ↓reduceIte, sevalprocAttr, hx_3947, eNetworkStream, eL, hw_3961]
        refine evTs_pure hFn H (fun _ h => f84_ok h) (by rfl) (by rfl) (by rfl) (by rfl) (fun _ => rfl) ?_ <;> clear H <;> intro r_3962 H
        try simp only [eL, ↓wk, ↓wl, nqs, evV, ↓reduceIte, sevalprocAttr, hx_3947, eNetworkStream, eL, hw_3961]
        refine evTs_stE (enc := eNetworkStream) (NetworkStream.mk x_3947.fUniverse x_3947.fSeq x_3947.fLast (if 3 < (IntKind.i64.wrap (x_3947.fTimes + 1)) then 3 else (IntKind.i64.wrap (x_3947.fTimes + 1))) x_3947.fSlots) (NetworkStream.mk x_3947.fUniverse r_3962 x_3947.fLast (if 3 < (IntKind.i64.wrap (x_3947.fTimes + 1)) then 3 else (IntKind.i64.wrap (x_3947.fTimes + 1))) x_3947.fSlots) (by rfl) (by rfl) hw_3961 (by rfl) ?_
        have hw_3963 := set_get hw_3961 (NetworkStream.mk x_3947.fUniverse r_3962 x_3947.fLast (if 3 < (IntKind.i64.wrap (x_3947.fTimes + 1)) then 3 else (IntKind.i64.wrap (x_3947.fTimes + 1))) x_3947.fSlots)
        try simp only [eNetworkStream, eL, ↓wk, ↓wl, nqs, evV, ↓reduceIte, sevalprocAttr, hx_3947, eNetworkStream, eL, hw_3961, hw_3963]
        refine evTs_stE (enc := eNetworkStream) (NetworkStream.mk x_3947.fUniverse r_3962 x_3947.fLast (if 3 < (IntKind.i64.wrap (x_3947.fTimes + 1)) then 3 else (IntKind.i64.wrap (x_3947.fTimes + 1))) x_3947.fSlots) (NetworkStream.mk x_3947.fUniverse r_3962 t_3240 (if 3 < (IntKind.i64.wrap (x_3947.fTimes + 1)) then 3 else (IntKind.i64.wrap (x_3947.fTimes + 1))) x_3947.fSlots) (by rfl) (by rfl) hw_3963 (by rfl) ?_
        have hw_3964 := set_get hw_3963 (NetworkStream.mk x_3947.fUniverse r_3962 t_3240 (if 3 < (IntKind.i64.wrap (x_3947.fTimes + 1)) then 3 else (IntKind.i64.wrap (x_3947.fTimes + 1))) x_3947.fSlots)
        try simp only [eNetworkStream, eL, ↓wk, ↓wl, nqs, evV, ↓reduceIte, sevalprocAttr, hx_3947, eNetworkStream, eL, hw_3961, hw_3963, hw_3964]
        refine AW.rend ?_
        try simp only [↓wk, ↓wl, nqs, evV, ↓reduceIte, sevalprocAttr, hx_3947, eNetworkStream, eL, hw_3961, hw_3963, hw_3964]
        refine evTs_inl (I := f43_C13 s_3239 x_3947 r_3962 s_3784 out_3785 r_3914 t_3240 x_3854) (args := [.agg [.int .u64 s_3239.fSource, .int .i64 s_3239.fPriority, .int .i64 s_3239.fSync, .int .i64 s_3239.fPulse, .row 5 3 0 s_3784.length], .agg [.int .i64 x_3947.fUniverse, .int .i64 r_3962, .int .i64 t_3240, .int .i64 (if 3 < (IntKind.i64.wrap (x_3947.fTimes + 1)) then 3 else (IntKind.i64.wrap (x_3947.fTimes + 1))), .str x_3947.fSlots]]) H (by rfl) fd91 (by rfl) (Nat.le_of_ble_eq_true rfl) ?_ ?_ <;> clear H
        ·rintro v_ Q_ H hqf43_C13
         simp only [f43_C13] at H
         dsimp only [List.length_cons, List.length_nil]
         refine AW.rseq ?_
         try simp only [↓wk, ↓wl, nqs, evV, ↓reduceIte, sevalprocAttr, hx_3947, eNetworkStream, eL, hw_3961, hw_3963, hw_3964]
         refine AW.rseq ?_
         try simp only [↓wk, ↓wl, nqs, evV, ↓reduceIte, sevalprocAttr, hx_3947, eNetworkStream, eL, hw_3961, hw_3963, hw_3964]
         refine evTs_st (by simp only [↓wk, ↓wl, nqs, evV, ↓reduceIte, sevalprocAttr, hx_3947, eNetworkStream, eL, hw_3961, hw_3963, hw_3964, Nat.reduceLeDiff]; rfl) ?_
         try simp only [↓wk, ↓wl, nqs, evV, ↓reduceIte, sevalprocAttr, hx_3947, eNetworkStream, eL, hw_3961, hw_3963, hw_3964]
         refine AW.ret ?_
         cases H
         exact hqf43_C13 _ _ _ (.inr rfl) (Le.toL 7 (by rfl) [0, 1, 2, 3, 4, 5, 6, 9] [4] (by decide) (by decide) rfl) (by simp only [resVs, omap, resV, f43_C13, rrl, Option.map_some, vm, List.idxOf?_cons, List.idxOf?_nil, beq_self_eq_true, Option.map_none, List.getD_cons_zero, List.getD_cons_succ, ↓wk, ↓wl, nq, evV, ↓reduceIte, sevalprocAttr, hx_3947, eNetworkStream, eL, hw_3961, hw_3963, hw_3964]) (by simp only [f43_C13, rrl, Option.map_some, vm, List.idxOf?_cons, List.idxOf?_nil, beq_self_eq_true, Option.map_none, List.getD_cons_zero, List.getD_cons_succ, ↓wk, ↓wl, nq, evV, ↓reduceIte, sevalprocAttr, hx_3947, eNetworkStream, eL, hw_3961, hw_3963, hw_3964])
        ·rintro _ s_ h_ H hs_ hh_
         simp only [f43_C13] at H hs_ hh_
         subst hs_
         subst hh_
         try simp only [↓wk, ↓wl, nqs, evV, ↓reduceIte, sevalprocAttr, hx_3947, eNetworkStream, eL, hw_3961, hw_3963, hw_3964]
         refine evTs_inl (I := f43_C14 out_3785 s_3239 x_3947 r_3962 s_3784 r_3914 t_3240 x_3854) (args := [.agg [.int .u64 s_3239.fSource, .int .i64 x_3947.fUniverse, .int .i64 s_3239.fPriority, .int .i64 r_3962, .int .i64 s_3239.fSync, .bool false, .str x_3947.fSlots], .ptr 2 0]) H (by rfl) fd83 (by rfl) (Nat.le_of_ble_eq_true rfl) ?_ ?_ <;> clear H
         ·rintro v_ Q_ H hqf43_C14
          simp only [f43_C14] at H
          dsimp only [List.length_cons, List.length_nil]
          refine AW.rseq ?_
          try simp only [↓wk, ↓wl, nqs, evV, ↓reduceIte, sevalprocAttr, hx_3947, eNetworkStream, eL, hw_3961, hw_3963, hw_3964]
          refine AW.rend ?_
          try simp only [↓wk, ↓wl, nqs, evV, ↓reduceIte, sevalprocAttr, hx_3947, eNetworkStream, eL, hw_3961, hw_3963, hw_3964]
          refine evTs_app (enc := eNetworkPacket) H (by rfl) (by first | rfl | simp only [List.length_set, hx_3947, eNetworkStream, eL, hw_3961, hw_3963, hw_3964]) (by rfl) (by rfl) ?_ <;> clear H <;> intro out_3968 H
          try simp only [↓wk, ↓wl, nqs, evV, ↓reduceIte, sevalprocAttr, hx_3947, eNetworkStream, eL, hw_3961, hw_3963, hw_3964]
          refine evTs_st (by simp only [↓wk, ↓wl, nqs, evV, ↓reduceIte, sevalprocAttr, hx_3947, eNetworkStream, eL, hw_3961, hw_3963, hw_3964, Nat.reduceLeDiff]; rfl) ?_
          try simp only [↓wk, ↓wl, nqs, evV, ↓reduceIte, sevalprocAttr, hx_3947, eNetworkStream, eL, hw_3961, hw_3963, hw_3964]
          cases H
          exact hqf43_C14 _ _ _ (.inl rfl) (Le.toL 8 (by rfl) [0, 1, 2, 3, 4, 5, 6, 7, 9] [] (by decide) (by decide) rfl) (by simp only [resVs, omap, resV, f43_C14, rrl, Option.map_some, vm, List.idxOf?_cons, List.idxOf?_nil, beq_self_eq_true, Option.map_none, List.getD_cons_zero, List.getD_cons_succ, ↓wk, ↓wl, nq, evV, ↓reduceIte, sevalprocAttr, hx_3947, eNetworkStream, eL, hw_3961, hw_3963, hw_3964]) (by simp only [f43_C14, rrl, Option.map_some, vm, List.idxOf?_cons, List.idxOf?_nil, beq_self_eq_true, Option.map_none, List.getD_cons_zero, List.getD_cons_succ, ↓wk, ↓wl, nq, evV, ↓reduceIte, sevalprocAttr, hx_3947, eNetworkStream, eL, hw_3961, hw_3963, hw_3964])
         ·rintro v_3967 s_ h_ H hs_ hh_
          simp only [f43_C14] at H hs_ hh_
          subst hs_
          subst hh_
          try simp only [↓wk, ↓wl, nqs, evV, ↓reduceIte, sevalprocAttr, hx_3947, eNetworkStream, eL, hw_3961, hw_3963, hw_3964]
          cases H
          exact hqf43_C4 _ _ _ (.inl rfl) (Le.trans (Le.moveCell 0 4 (by rfl) (by rfl) (by rfl)) (Le.toL 6 (by rfl) [0, 1, 2, 3, 4, 5, 9, 8] [] (by decide) (by decide) rfl)) (by simp only [resVs, omap, resV, f43_C4, rrl, Option.map_some, vm, List.idxOf?_cons, List.idxOf?_nil, beq_self_eq_true, Option.map_none, List.getD_cons_zero, List.getD_cons_succ, ↓wk, ↓wl, nq, evV, ↓reduceIte, sevalprocAttr, hx_3947, eNetworkStream, eL, hw_3961, hw_3963, hw_3964]) (by simp only [f43_C4, rrl, Option.map_some, vm, List.idxOf?_cons, List.idxOf?_nil, beq_self_eq_true, Option.map_none, List.getD_cons_zero, List.getD_cons_succ, ↓wk, ↓wl, nq, evV, ↓reduceIte, sevalprocAttr, hx_3947, eNetworkStream, eL, hw_3961, hw_3963, hw_3964])
       ·try simp only [↓wk, ↓wl, nqs, evV, ↓reduceIte, sevalprocAttr, hx_3947, eNetworkStream, eL]
        refine AW.ifc H (by rfl) ?_ ?_ <;> clear H <;> intro H
        ·refine AW.rend ?_
         try simp only [↓wk, ↓wl, nqs, evV, ↓reduceIte, sevalprocAttr, hx_3947, eNetworkStream, eL]
         refine evTs_stE (enc := eNetworkStream) x_3947 (NetworkStream.mk x_3947.fUniverse x_3947.fSeq x_3947.fLast (if 3 < (IntKind.i64.wrap (x_3947.fTimes + 1)) then 3 else (IntKind.i64.wrap (x_3947.fTimes + 1))) x_3947.fSlots) (by rfl) (by rfl) hx_3947 (by rfl) ?_
         have hw_3969 := set_get hx_3947 (NetworkStream.mk x_3947.fUniverse x_3947.fSeq x_3947.fLast (if 3 < (IntKind.i64.wrap (x_3947.fTimes + 1)) then 3 else (IntKind.i64.wrap (x_3947.fTimes + 1))) x_3947.fSlots)
         try simp only [eNetworkStream, eL, ↓wk, ↓wl, nqs, evV, ↓reduceIte, sevalprocAttr, hx_3947, eNetworkStream, eL, hw_3969]
         refine blkQ.norm ?_
         refine AW.rseq ?_
         try simp only [↓wk, ↓wl, nqs, evV, ↓reduceIte, sevalprocAttr, hx_3947, eNetworkStream, eL, hw_3969]
         refine evTs_pure hFn H (fun _ h => f84_ok h) (by rfl) (by rfl) (by rfl) (by rfl) (fun _ => rfl) ?_ <;> clear H <;> intro r_3970 H
         try simp only [eL, ↓wk, ↓wl, nqs, evV, ↓reduceIte, sevalprocAttr, hx_3947, eNetworkStream, eL, hw_3969]
         refine evTs_stE (enc := eNetworkStream) (NetworkStream.mk x_3947.fUniverse x_3947.fSeq x_3947.fLast (if 3 < (IntKind.i64.wrap (x_3947.fTimes + 1)) then 3 else (IntKind.i64.wrap (x_3947.fTimes + 1))) x_3947.fSlots) (NetworkStream.mk x_3947.fUniverse r_3970 x_3947.fLast (if 3 < (IntKind.i64.wrap (x_3947.fTimes + 1)) then 3 else (IntKind.i64.wrap (x_3947.fTimes + 1))) x_3947.fSlots) (by rfl) (by rfl) hw_3969 (by rfl) ?_
         have hw_3971 := set_get hw_3969 (NetworkStream.mk x_3947.fUniverse r_3970 x_3947.fLast (if 3 < (IntKind.i64.wrap (x_3947.fTimes + 1)) then 3 else (IntKind.i64.wrap (x_3947.fTimes + 1))) x_3947.fSlots)
         try simp only [eNetworkStream, eL, ↓wk, ↓wl, nqs, evV, ↓reduceIte, sevalprocAttr, hx_3947, eNetworkStream, eL, hw_3969, hw_3971]
         refine evTs_stE (enc := eNetworkStream) (NetworkStream.mk x_3947.fUniverse r_3970 x_3947.fLast (if 3 < (IntKind.i64.wrap (x_3947.fTimes + 1)) then 3 else (IntKind.i64.wrap (x_3947.fTimes + 1))) x_3947.fSlots) (NetworkStream.mk x_3947.fUniverse r_3970 t_3240 (if 3 < (IntKind.i64.wrap (x_3947.fTimes + 1)) then 3 else (IntKind.i64.wrap (x_3947.fTimes + 1))) x_3947.fSlots) (by rfl) (by rfl) hw_3971 (by rfl) ?_
         have hw_3972 := set_get hw_3971 (NetworkStream.mk x_3947.fUniverse r_3970 t_3240 (if 3 < (IntKind.i64.wrap (x_3947.fTimes + 1)) then 3 else (IntKind.i64.wrap (x_3947.fTimes + 1))) x_3947.fSlots)
         try simp only [eNetworkStream, eL, ↓wk, ↓wl, nqs, evV, ↓reduceIte, sevalprocAttr, hx_3947, eNetworkStream, eL, hw_3969, hw_3971, hw_3972]
         refine AW.rend ?_
         try simp only [↓wk, ↓wl, nqs, evV, ↓reduceIte, sevalprocAttr, hx_3947, eNetworkStream, eL, hw_3969, hw_3971, hw_3972]
         refine evTs_inl (I := f43_C15 s_3239 x_3947 r_3970 s_3784 out_3785 r_3914 t_3240 x_3854) (args := [.agg [.int .u64 s_3239.fSource, .int .i64 s_3239.fPriority, .int .i64 s_3239.fSync, .int .i64 s_3239.fPulse, .row 5 3 0 s_3784.length], .agg [.int .i64 x_3947.fUniverse, .int .i64 r_3970, .int .i64 t_3240, .int .i64 (if 3 < (IntKind.i64.wrap (x_3947.fTimes + 1)) then 3 else (IntKind.i64.wrap (x_3947.fTimes + 1))), .str x_3947.fSlots]]) H (by rfl) fd91 (by rfl) (Nat.le_of_ble_eq_true rfl) ?_ ?_ <;> clear H
         ·rintro v_ Q_ H hqf43_C15
          simp only [f43_C15] at H
          dsimp only [List.length_cons, List.length_nil]
          refine AW.rseq ?_
          try simp only [↓wk, ↓wl, nqs, evV, ↓reduceIte, sevalprocAttr, hx_3947, eNetworkStream, eL, hw_3969, hw_3971, hw_3972]
          refine AW.rseq ?_
          try simp only [↓wk, ↓wl, nqs, evV, ↓reduceIte, sevalprocAttr, hx_3947, eNetworkStream, eL, hw_3969, hw_3971, hw_3972]
          refine evTs_st (by simp only [↓wk, ↓wl, nqs, evV, ↓reduceIte, sevalprocAttr, hx_3947, eNetworkStream, eL, hw_3969, hw_3971, hw_3972, Nat.reduceLeDiff]; rfl) ?_
          try simp only [↓wk, ↓wl, nqs, evV, ↓reduceIte, sevalprocAttr, hx_3947, eNetworkStream, eL, hw_3969, hw_3971, hw_3972]
          refine AW.ret ?_
          cases H
          exact hqf43_C15 _ _ _ (.inr rfl) (Le.toL 7 (by rfl) [0, 1, 2, 3, 4, 5, 6, 9] [4] (by decide) (by decide) rfl) (by simp only [resVs, omap, resV, f43_C15, rrl, Option.map_some, vm, List.idxOf?_cons, List.idxOf?_nil, beq_self_eq_true, Option.map_none, List.getD_cons_zero, List.getD_cons_succ, ↓wk, ↓wl, nq, evV, ↓reduceIte, sevalprocAttr, hx_3947, eNetworkStream, eL, hw_3969, hw_3971, hw_3972]) (by simp only [f43_C15, rrl, Option.map_some, vm, List.idxOf?_cons, List.idxOf?_nil, beq_self_eq_true, Option.map_none, List.getD_cons_zero, List.getD_cons_succ, ↓wk, ↓wl, nq, evV, ↓reduceIte, sevalprocAttr, hx_3947, eNetworkStream, eL, hw_3969, hw_3971, hw_3972])
         ·rintro _ s_ h_ H hs_ hh_
          simp only [f43_C15] at H hs_ hh_
          subst hs_
          subst hh_
          try simp only [↓wk, ↓wl, nqs, evV, ↓reduceIte, sevalprocAttr, hx_3947, eNetworkStream, eL, hw_3969, hw_3971, hw_3972]
          refine evTs_inl (I := f43_C16 out_3785 s_3239 x_3947 r_3970 s_3784 r_3914 t_3240 x_3854) (args := [.agg [.int .u64 s_3239.fSource, .int .i64 x_3947.fUniverse, .int .i64 s_3239.fPriority, .int .i64 r_3970, .int .i64 s_3239.fSync, .bool false, .str x_3947.fSlots], .ptr 2 0]) H (by rfl) fd83 (by rfl) (Nat.le_of_ble_eq_true rfl) ?_ ?_ <;> clear H
          ·rintro v_ Q_ H hqf43_C16
           simp only [f43_C16] at H
           dsimp only [List.length_cons, List.length_nil]
           refine AW.rseq ?_
           try simp only [↓wk, ↓wl, nqs, evV, ↓reduceIte, sevalprocAttr, hx_3947, eNetworkStream, eL, hw_3969, hw_3971, hw_3972]
           refine AW.rend ?_
           try simp only [↓wk, ↓wl, nqs, evV, ↓reduceIte, sevalprocAttr, hx_3947, eNetworkStream, eL, hw_3969, hw_3971, hw_3972]
           refine evTs_app (enc := eNetworkPacket) H (by rfl) (by first | rfl | simp only [List.length_set, hx_3947, eNetworkStream, eL, hw_3969, hw_3971, hw_3972]) (by rfl) (by rfl) ?_ <;> clear H <;> intro out_3976 H
           try simp only [↓wk, ↓wl, nqs, evV, ↓reduceIte, sevalprocAttr, hx_3947, eNetworkStream, eL, hw_3969, hw_3971, hw_3972]
           refine evTs_st (by simp only [↓wk, ↓wl, nqs, evV, ↓reduceIte, sevalprocAttr, hx_3947, eNetworkStream, eL, hw_3969, hw_3971, hw_3972, Nat.reduceLeDiff]; rfl) ?_
           try simp only [↓wk, ↓wl, nqs, evV, ↓reduceIte, sevalprocAttr, hx_3947, eNetworkStream, eL, hw_3969, hw_3971, hw_3972]
           cases H
           exact hqf43_C16 _ _ _ (.inl rfl) (Le.toL 8 (by rfl) [0, 1, 2, 3, 4, 5, 6, 7, 9] [] (by decide) (by decide) rfl) (by simp only [resVs, omap, resV, f43_C16, rrl, Option.map_some, vm, List.idxOf?_cons, List.idxOf?_nil, beq_self_eq_true, Option.map_none, List.getD_cons_zero, List.getD_cons_succ, ↓wk, ↓wl, nq, evV, ↓reduceIte, sevalprocAttr, hx_3947, eNetworkStream, eL, hw_3969, hw_3971, hw_3972]) (by simp only [f43_C16, rrl, Option.map_some, vm, List.idxOf?_cons, List.idxOf?_nil, beq_self_eq_true, Option.map_none, List.getD_cons_zero, List.getD_cons_succ, ↓wk, ↓wl, nq, evV, ↓reduceIte, sevalprocAttr, hx_3947, eNetworkStream, eL, hw_3969, hw_3971, hw_3972])
          ·rintro v_3975 s_ h_ H hs_ hh_
           simp only [f43_C16] at H hs_ hh_
           subst hs_
           subst hh_
           try simp only [↓wk, ↓wl, nqs, evV, ↓reduceIte, sevalprocAttr, hx_3947, eNetworkStream, eL, hw_3969, hw_3971, hw_3972]
           cases H
           exact hqf43_C4 _ _ _ (.inl rfl) (Le.trans (Le.moveCell 0 4 (by rfl) (by rfl) (by rfl)) (Le.toL 6 (by rfl) [0, 1, 2, 3, 4, 5, 9, 8] [] (by decide) (by decide) rfl)) (by simp only [resVs, omap, resV, f43_C4, rrl, Option.map_some, vm, List.idxOf?_cons, List.idxOf?_nil, beq_self_eq_true, Option.map_none, List.getD_cons_zero, List.getD_cons_succ, ↓wk, ↓wl, nq, evV, ↓reduceIte, sevalprocAttr, hx_3947, eNetworkStream, eL, hw_3969, hw_3971, hw_3972]) (by simp only [f43_C4, rrl, Option.map_some, vm, List.idxOf?_cons, List.idxOf?_nil, beq_self_eq_true, Option.map_none, List.getD_cons_zero, List.getD_cons_succ, ↓wk, ↓wl, nq, evV, ↓reduceIte, sevalprocAttr, hx_3947, eNetworkStream, eL, hw_3969, hw_3971, hw_3972])
        ·refine AW.ret ?_
         refine blkQ.ret ?_
         cases H
         exact hqf43_C4 _ _ _ (.inr rfl) (Le.trans (Le.moveCell 0 4 (by rfl) (by rfl) (by rfl)) (Le.trans (Le.moveCell 2 0 (by rfl) (by rfl) (by rfl)) (Le.toL 6 (by rfl) [0, 1, 2, 3, 4, 5, 7, 8] [] (by decide) (by decide) rfl))) (by simp only [resVs, omap, resV, f43_C4, rrl, Option.map_some, vm, List.idxOf?_cons, List.idxOf?_nil, beq_self_eq_true, Option.map_none, List.getD_cons_zero, List.getD_cons_succ, ↓wk, ↓wl, nq, evV, ↓reduceIte, sevalprocAttr, hx_3947, eNetworkStream, eL]) (by simp only [f43_C4, rrl, Option.map_some, vm, List.idxOf?_cons, List.idxOf?_nil, beq_self_eq_true, Option.map_none, List.getD_cons_zero, List.getD_cons_succ, ↓wk, ↓wl, nq, evV, ↓reduceIte, sevalprocAttr, hx_3947, eNetworkStream, eL])
    ·rintro ⟨v_3912, v_3913⟩ s_ h_ H hs_ hh_
     simp only [f43_C4] at H hs_ hh_
     subst hs_
     subst hh_
     try simp only [↓wk, ↓wl, nqs, evV, ↓reduceIte, sevalprocAttr]
     refine blkQ.norm ?_
     refine AW.rend ?_
     try simp only [↓wk, ↓wl, nqs, evV, ↓reduceIte, sevalprocAttr]
     exact loopQ.next H ((Le.none [0, 1, 2, 6, 7] [1, 3, 6, 11, 31, 32, 33] (by decide) (by simp only [f43_L1c, rrl, Option.map_some, vm, List.idxOf?_cons, List.idxOf?_nil, beq_self_eq_true, Option.map_none, List.getD_cons_zero, List.getD_cons_succ, ↓wk, ↓wl, nq, evV, ↓reduceIte, sevalprocAttr] <;> rfl)))
   ·refine AW.exit ?_
    refine seqQ.exit ?_
    refine loopQ.exit H ?_ <;> clear H <;> intro H
    try dsimp only at H
    refine blk0.here ?_
    refine seqQ.norm ?_
    refine AW.join (f43_J2 s_3239 s_3784) H ?_ fun hf43_J2 => ?_
    ·clear H
     rintro ⟨s_3979, out_3980⟩ st0_ H hst_
     rw [f43_J2c] at hst_
     simp only [f43_J2] at H
     subst hst_
     refine AW.join (f43_J3 s_3239 s_3979 s_3784 out_3980) H ?_ fun hf43_J3 => ?_
     ·clear H
      rintro _ st0_ H hst_
      rw [f43_J3c] at hst_
      simp only [f43_J3] at H
      subst hst_
      refine AW.ret ?_
      cases H
      exact hQ _ _ _ _ (.inr rfl) (by simp only [resVs, omap, resV, ↓wk, ↓wl, nqs, evV, ↓reduceIte, sevalprocAttr]; rfl) (by simp only [handOver, deep_eq, imm_simps, imm_rowE, imm_ptrE, imm_enc, omap_simps, take_map_len, take_map_set, take_map_set2, le_refl_true, Nat.zero_add, and_true, true_and, List.drop_zero, Option.map_some, ↓wk, ↓wl, nqs, evV, ↓reduceIte, sevalprocAttr]; rfl) (by first | exact Or.inl rfl | exact Or.inr rfl)
     ·refine AW.regt ?_
      refine evR.fork ?_
      try simp only [↓wk, ↓wl, nqs, evV, ↓reduceIte, sevalprocAttr]
      refine evR.both ?_ ?_
      ·refine evR.run ?_
       try simp only [↓wk, ↓wl, nqs, evV, ↓reduceIte, sevalprocAttr]
       refine evTs_st (by simp only [↓wk, ↓wl, nqs, evV, ↓reduceIte, sevalprocAttr, Nat.reduceLeDiff]; rfl) ?_
       try simp only [↓wk, ↓wl, nqs, evV, ↓reduceIte, sevalprocAttr]
       refine seqQ.norm ?_
       exact hf43_J3 _ _ H ((Le.none [1, 4, 3] [6, 7, 8] (by decide) (by simp only [f43_J3c, rrl, Option.map_some, vm, List.idxOf?_cons, List.idxOf?_nil, beq_self_eq_true, Option.map_none, List.getD_cons_zero, List.getD_cons_succ, ↓wk, ↓wl, nq, evV, ↓reduceIte, sevalprocAttr] <;> rfl)))
      ·refine evR.run ?_
       try simp only [↓wk, ↓wl, nqs, evV, ↓reduceIte, sevalprocAttr]
       refine evTs_st (by simp only [↓wk, ↓wl, nqs, evV, ↓reduceIte, sevalprocAttr, Nat.reduceLeDiff]; rfl) ?_
       try simp only [↓wk, ↓wl, nqs, evV, ↓reduceIte, sevalprocAttr]
       refine seqQ.norm ?_
       exact hf43_J3 _ _ H ((Le.none [1, 4, 3] [6, 7, 8] (by decide) (by simp only [f43_J3c, rrl, Option.map_some, vm, List.idxOf?_cons, List.idxOf?_nil, beq_self_eq_true, Option.map_none, List.getD_cons_zero, List.getD_cons_succ, ↓wk, ↓wl, nq, evV, ↓reduceIte, sevalprocAttr] <;> rfl)))
    ·refine AW.rseq ?_
     try simp only [↓wk, ↓wl, nqs, evV, ↓reduceIte, sevalprocAttr]
     refine evTs_ifg H (by rfl) ?_ ?_ <;> clear H <;> intro H
     ·try simp only [↓wk, ↓wl, nqs, evV, ↓reduceIte, sevalprocAttr]
      refine AW.ifc H (by rfl) ?_ ?_ <;> clear H <;> intro H
      ·refine AW.rseq ?_
       try simp only [↓wk, ↓wl, nqs, evV, ↓reduceIte, sevalprocAttr]
       refine evTs_app (enc := eNetworkPacket) H (by rfl) (by first | rfl | simp only [List.length_set]) (by rfl) (by rfl) ?_ <;> clear H <;> intro out_3981 H
       try simp only [↓wk, ↓wl, nqs, evV, ↓reduceIte, sevalprocAttr]
       refine evTs_st (by simp only [↓wk, ↓wl, nqs, evV, ↓reduceIte, sevalprocAttr, Nat.reduceLeDiff]; rfl) ?_
       try simp only [↓wk, ↓wl, nqs, evV, ↓reduceIte, sevalprocAttr]
       refine AW.rend ?_
       try simp only [↓wk, ↓wl, nqs, evV, ↓reduceIte, sevalprocAttr]
       refine evTs_pure hFn H (fun _ h => f84_ok h) (by rfl) (by rfl) (by rfl) (by rfl) (fun _ => rfl) ?_ <;> clear H <;> intro r_3982 H
       try simp only [eL, ↓wk, ↓wl, nqs, evV, ↓reduceIte, sevalprocAttr]
       refine evTs_st (by simp only [↓wk, ↓wl, nqs, evV, ↓reduceIte, sevalprocAttr, Nat.reduceLeDiff]; rfl) ?_
       try simp only [↓wk, ↓wl, nqs, evV, ↓reduceIte, sevalprocAttr]
       refine seqQ.norm ?_
       exact hf43_J2 _ _ H ((Le.none [0, 1, 2, 3, 5] [3, 6, 11] (by decide) (by simp only [f43_J2c, rrl, Option.map_some, vm, List.idxOf?_cons, List.idxOf?_nil, beq_self_eq_true, Option.map_none, List.getD_cons_zero, List.getD_cons_succ, ↓wk, ↓wl, nq, evV, ↓reduceIte, sevalprocAttr] <;> rfl)))
      ·refine AW.skip ?_
       refine seqQ.norm ?_
       exact hf43_J2 _ _ H ((Le.none [0, 1, 2, 3, 4] [3, 6, 11] (by decide) (by simp only [f43_J2c, rrl, Option.map_some, vm, List.idxOf?_cons, List.idxOf?_nil, beq_self_eq_true, Option.map_none, List.getD_cons_zero, List.getD_cons_succ, ↓wk, ↓wl, nq, evV, ↓reduceIte, sevalprocAttr] <;> rfl)))
     ·try simp only [↓wk, ↓wl, nqs, evV, ↓reduceIte, sevalprocAttr]
      refine AW.iff (by rfl) ?_
      refine AW.skip ?_
      refine seqQ.norm ?_
      exact hf43_J2 _ _ H ((Le.none [0, 1, 2, 3, 4] [3, 6, 11] (by decide) (by simp only [f43_J2c, rrl, Option.map_some, vm, List.idxOf?_cons, List.idxOf?_nil, beq_self_eq_true, Option.map_none, List.getD_cons_zero, List.getD_cons_succ, ↓wk, ↓wl, nq, evV, ↓reduceIte, sevalprocAttr] <;> rfl)))
def c44_0 : C := .cond (.t 4) (.seq (.reg [iI 2 (.mv (.c (.sl 2 true [])))]) .ret) (.skip)
def c44_1 : C := .seq (.reg [iI 5 (.mkslp 2 0 (.agg [(.int .i64 0), (.str [])]) []), iI 6 (.mv (.t 0)), iI 7 (.append 2 24 (.t 5) (.t 6)), iI 2 (.mv (.t 7))]) .ret
def c44_2 : C := .seq (.seq (.reg [iI 3 (.mv (.t 0)), iI 4 (.isnil false (.t 3))]) c44_0) c44_1
def ir44 : C := .seq (.reg [iI 2 (.mv (.c (.sl 2 true [])))]) c44_2
theorem fd44 : fd? Try.prog 44 = some (8, [.slot 2], ir44) := by kernel_rfl
noncomputable def f44 (s_4090 : (List ApiFrame)) : Option ((List ApiFrame)) :=
  (nil? (s_4090 : List ApiFrame) false fun b_4091 => (if b_4091 = true then (some []) else (app? 24 [] s_4090).bind fun out_4092 => (some out_4092)))
theorem f44_ok {s_4090 : (List ApiFrame)} {r_ : (List ApiFrame)} (H : f44 s_4090 = some r_) : Pure Try.prog 44 [.sl 2 false (s_4090.map eApiFrame)] (· = .fr 2 (r_.map eApiFrame)) := by
 refine Pure.walk3 fd44 (some 0) (Nat.le_of_ble_eq_true rfl) (by rfl) fun Q hQ => ?_
 simp only [f44] at H
 refine AW.rseq ?_
 try simp only [↓wk, ↓wl, nq, evV, ↓reduceIte, sevalprocAttr]
 refine AW.sseq ?_
 refine AW.rseq ?_
 try simp only [↓wk, ↓wl, nq, evV, ↓reduceIte, sevalprocAttr]
 refine evTs_isnil (enc := eApiFrame) H (by rfl) ?_ <;> clear H <;> intro b_4091 H
 try simp only [↓wk, ↓wl, nq, evV, ↓reduceIte, sevalprocAttr]
 refine AW.ifc H (by rfl) ?_ ?_ <;> clear H <;> intro H
 ·refine AW.rseq ?_
  try simp only [↓wk, ↓wl, nq, evV, ↓reduceIte, sevalprocAttr]
  refine AW.ret ?_
  refine seqQ.ret ?_
  cases H
  exact hQ _ _ _ _ (.inr rfl) (by simp only [resVs, omap, resV, ↓wk, ↓wl, nq, evV, ↓reduceIte, sevalprocAttr]; rfl) hand_10 (by first | exact Or.inl rfl | exact Or.inr rfl)
 ·refine AW.skip ?_
  refine seqQ.norm ?_
  refine AW.rseq ?_
  try simp only [↓wk, ↓wl, nq, evV, ↓reduceIte, sevalprocAttr]
  refine evTs_app0 (enc := eApiFrame) H (by rfl) (by rfl) ?_ <;> clear H <;> intro out_4092 H
  try simp only [↓wk, ↓wl, nq, evV, ↓reduceIte, sevalprocAttr]
  refine AW.ret ?_
  cases H
  exact hQ _ _ _ _ (.inr rfl) (by simp only [resVs, omap, resV, ↓wk, ↓wl, nq, evV, ↓reduceIte, sevalprocAttr]; rfl) (hand_1 (by rfl) (by simp) (enc_all _)) (by first | exact Or.inl rfl | exact Or.inr rfl)
theorem f44_im {s_4090 : (List ApiFrame)} {r_ : (List ApiFrame)} (H : f44 s_4090 = some r_) : Pure Try.prog 44 [.sl 2 false (s_4090.map eApiFrame)] (· = .sl 2 false (r_.map eApiFrame)) := (f44_ok H).unfr (by first | exact enc_fits _ | simp only [frFits, List.all_cons, List.all_nil, enc_fits, Bool.and_self])
def c46_0 : C := .seq (.reg [iI 4 (.faddr 0 (.t 2)), iI 5 (.load 0 (.t 4)), iI 6 (.faddr 0 (.t 1)), iI 7 (.load 0 (.t 6)), iI 8 (.bin .eql (.t 5) (.t 7)), iI 3 (.mv (.t 8))]) .ret
def ir46 : C := .seq (.reg [iI 2 (.box (.t 0)), iI 3 (.mv (.c (.bool false)))]) c46_0
theorem fd46 : fd? Try.prog 46 = some (9, [.slot 3], ir46) := by kernel_rfl
noncomputable def f46p (g_4102 : ApiFrame) (c_4103 : Int) (c_4104 : (List UInt8)) : Option (Bool) :=
  (some (decide (g_4102.fUniverse = c_4103)))
theorem f46p_ok {g_4102 : ApiFrame} {c_4103 : Int} {c_4104 : (List UInt8)} {r_ : Bool} (H : f46p g_4102 c_4103 c_4104 = some r_) : Pure Try.prog 46 [.agg [.int .i64 g_4102.fUniverse, .str g_4102.fSlots], .pro [.int .i64 c_4103, .str c_4104]] (· = .bool r_) := by
 refine Pure.walk3 fd46 none (Nat.le_of_ble_eq_true rfl) (by rfl) fun Q hQ => ?_
 simp only [f46p] at H
 refine AW.rseq ?_
 try simp only [↓wk, ↓wl, nq, evV, ↓reduceIte, sevalprocAttr]
 refine AW.rseq ?_
 try simp only [↓wk, ↓wl, nq, evV, ↓reduceIte, sevalprocAttr]
 refine AW.ret ?_
 cases H
 exact hQ _ _ _ _ (.inr rfl) (by simp only [resVs, omap, resV, ↓wk, ↓wl, nq, evV, ↓reduceIte, sevalprocAttr]; rfl) (hand_plain (by rfl)) (by first | exact Or.inl rfl | exact Or.inr rfl)
noncomputable def f35_46_L1 (s_4098 : (List ApiFrame)) (f_4099 : Int) (f_4100 : (List UInt8)) : Lp (Int) ((Unit) ⊕ (Int)) where
  body := fun v_4109 => (if (decide (v_4109 < ((s_4098.length : Nat) : Int))) = true then (at? s_4098 v_4109).bind fun x_4113 => (f46p x_4113 f_4099 f_4100).bind fun r_4114 => (if r_4114 = true then (some (.brk (Sum.inr v_4109))) else (some (.next (IntKind.i64.wrap (v_4109 + 1))))) else (some (.brk (Sum.inl ()))))
  cst := fun v_4109 => ⟨put (put (put (put (fun _ => .junk) 8 (.int .i64 v_4109)) 7 (.int .i64 ((s_4098.length : Nat) : Int))) 1 (.fn 46 [.pro [.int .i64 f_4099, .str f_4100]])) 0 (.sl 2 false (s_4098.map eApiFrame)), []⟩
theorem f35_46_L1c (s_4098 : (List ApiFrame)) (f_4099 : Int) (f_4100 : (List UInt8)) (v_4109 : Int) : (f35_46_L1 s_4098 f_4099 f_4100).cst v_4109 = ⟨put (put (put (put (fun _ => .junk) 8 (.int .i64 v_4109)) 7 (.int .i64 ((s_4098.length : Nat) : Int))) 1 (.fn 46 [.pro [.int .i64 f_4099, .str f_4100]])) 0 (.sl 2 false (s_4098.map eApiFrame)), []⟩ := rfl
def c35_0 : C := .cond (.t 16) (.seq (.reg [iI 17 (.mv (.t 5)), iI 4 (.mv (.t 17))]) .ret) (.skip)
def c35_1 : C := .seq (.reg [iI 11 (.mv (.t 1)), iI 12 (.mv (.t 0)), iI 13 (.mv (.t 5)), iI 14 (.iaddr 2 (.t 12) (.t 13)), iI 15 (.load 2 (.t 14)), iI 16 (.call (.t 11) [(.t 15)])]) c35_0
def c35_2 : C := .reg [iI 18 (.bin .add (.t 8) (.c (.int .i64 1))), iI 8 (.mv (.t 18))]
def c35_3 : C := .seq (.block 1 (.seq (.reg [iI 10 (.mv (.t 8)), iI 5 (.mv (.t 10))]) c35_1)) c35_2
def c35_4 : C := .seq (.cond (.t 9) (.skip) (.exit 0)) c35_3
def c35_5 : C := .block 0 (.loop (.seq (.reg [iI 9 (.bin .lss (.t 8) (.t 7))]) c35_4))
def c35_6 : C := .seq (.reg [iI 4 (.mv (.c (.int .i64 (-1))))]) .ret
def c35_7 : C := .seq (.seq (.reg [iI 6 (.mv (.t 0)), iI 7 (.len 0 (.t 6)), iI 8 (.mv (.c (.int .i64 0)))]) c35_5) c35_6
def ir35 : C := .seq (.reg [iI 4 (.mv (.c (.int .i64 0)))]) c35_7
theorem fd35 : fd? Try.prog 35 = some (19, [.slot 4], ir35) := by kernel_rfl
noncomputable def f35_46 (s_4098 : (List ApiFrame)) (f_4099 : Int) (f_4100 : (List UInt8)) : Option (Int) :=
  ((Lp.run (f35_46_L1 s_4098 f_4099 f_4100) 0).bind fun r_ => match r_ with | (Sum.inl _) => (some (-1)) | (Sum.inr v_4112) => (some v_4112))
theorem f35_46_ok {s_4098 : (List ApiFrame)} {f_4099 : Int} {f_4100 : (List UInt8)} {r_ : Int} (H : f35_46 s_4098 f_4099 f_4100 = some r_) : Pure Try.prog 35 [.sl 2 false (s_4098.map eApiFrame), .fn 46 [.pro [.int .i64 f_4099, .str f_4100]]] (· = .int .i64 r_) := by
 refine Pure.walk3 fd35 none (Nat.le_of_ble_eq_true rfl) (by rfl) fun Q hQ => ?_
 simp only [f35_46] at H
 refine AW.rseq ?_
 try simp only [↓wk, ↓wl, nq, evV, ↓reduceIte, sevalprocAttr]
 refine AW.sseq ?_
 refine AW.rseq ?_
 try simp only [↓wk, ↓wl, nq, evV, ↓reduceIte, sevalprocAttr]
 refine AW.bend ?_
 refine AW.iter H ((Le.none [] [0, 1, 7, 8] (by decide) (by simp only [f35_46_L1c, rrl, Option.map_some, vm, List.idxOf?_cons, List.idxOf?_nil, beq_self_eq_true, Option.map_none, List.getD_cons_zero, List.getD_cons_succ, ↓wk, ↓wl, nq, evV, ↓reduceIte, sevalprocAttr] <;> rfl))) ?_ <;> clear H
 rintro v_4109 x_ st0_ H hst_
 rw [f35_46_L1c] at hst_
 simp only [f35_46_L1] at H
 subst hst_
 refine AW.rseq ?_
 try simp only [↓wk, ↓wl, nq, evV, ↓reduceIte, sevalprocAttr]
 refine AW.sseq ?_
 refine AW.ifc H (by rfl) ?_ ?_ <;> clear H <;> intro H
 ·refine AW.skip ?_
  refine seqQ.norm ?_
  refine AW.bseq ?_
  refine AW.rseq ?_
  try simp only [↓wk, ↓wl, nq, evV, ↓reduceIte, sevalprocAttr]
  refine AW.rseq ?_
  try simp only [↓wk, ↓wl, nq, evV, ↓reduceIte, sevalprocAttr]
  refine evTs_at (enc := eApiFrame) H (by rfl) (by rfl) ?_ <;> clear H <;> intro x_4113 H
  try simp only [eApiFrame, eL, ↓wk, ↓wl, nq, evV, ↓reduceIte, sevalprocAttr]
  refine evTs_pure hFn H (fun _ h => f46p_ok h) (by rfl) (by rfl) (by rfl) (by rfl) (fun _ => rfl) ?_ <;> clear H <;> intro r_4114 H
  try simp only [eL, ↓wk, ↓wl, nq, evV, ↓reduceIte, sevalprocAttr]
  refine AW.ifc H (by rfl) ?_ ?_ <;> clear H <;> intro H
  ·refine AW.rseq ?_
   try simp only [↓wk, ↓wl, nq, evV, ↓reduceIte, sevalprocAttr]
   refine AW.ret ?_
   refine blkQ.ret ?_
   refine loopQ.ret H ?_ <;> clear H <;> intro H
   try dsimp only at H
   refine blk0.ret ?_
   refine seqQ.ret ?_
   cases H
   exact hQ _ _ _ _ (.inr rfl) (by simp only [resVs, omap, resV, ↓wk, ↓wl, nq, evV, ↓reduceIte, sevalprocAttr]; rfl) (hand_plain (by rfl)) (by first | exact Or.inl rfl | exact Or.inr rfl)
  ·refine AW.skip ?_
   refine blkQ.norm ?_
   refine AW.rend ?_
   try simp only [↓wk, ↓wl, nq, evV, ↓reduceIte, sevalprocAttr]
   exact loopQ.next H ((Le.none [] [0, 1, 7, 8] (by decide) (by simp only [f35_46_L1c, rrl, Option.map_some, vm, List.idxOf?_cons, List.idxOf?_nil, beq_self_eq_true, Option.map_none, List.getD_cons_zero, List.getD_cons_succ, ↓wk, ↓wl, nq, evV, ↓reduceIte, sevalprocAttr] <;> rfl)))
 ·refine AW.exit ?_
  refine seqQ.exit ?_
  refine loopQ.exit H ?_ <;> clear H <;> intro H
  try dsimp only at H
  refine blk0.here ?_
  refine seqQ.norm ?_
  refine AW.rseq ?_
  try simp only [↓wk, ↓wl, nq, evV, ↓reduceIte, sevalprocAttr]
  refine AW.ret ?_
  cases H
  exact hQ _ _ _ _ (.inr rfl) (by simp only [resVs, omap, resV, ↓wk, ↓wl, nq, evV, ↓reduceIte, sevalprocAttr]; rfl) (hand_plain (by rfl)) (by first | exact Or.inl rfl | exact Or.inr rfl)
def c45_0 : C := .seq (.reg [iI 5 (.mv (.t 0)), iI 6 (.mv (.t 1)), iI 7 (.call (.c (.fn 35 [])) [(.t 5), (.t 6)]), iI 8 (.bin .geq (.t 7) (.c (.int .i64 0))), iI 4 (.mv (.t 8))]) .ret
def ir45 : C := .seq (.reg [iI 4 (.mv (.c (.bool false)))]) c45_0
theorem fd45 : fd? Try.prog 45 = some (9, [.slot 4], ir45) := by kernel_rfl
noncomputable def f45_46 (s_4095 : (List ApiFrame)) (f_4096 : Int) (f_4097 : (List UInt8)) : Option (Bool) :=
  (f35_46 s_4095 f_4096 f_4097).bind fun r_4115 => (some (decide (0 ≤ r_4115)))
theorem f45_46_ok {s_4095 : (List ApiFrame)} {f_4096 : Int} {f_4097 : (List UInt8)} {r_ : Bool} (H : f45_46 s_4095 f_4096 f_4097 = some r_) : Pure Try.prog 45 [.sl 2 false (s_4095.map eApiFrame), .fn 46 [.pro [.int .i64 f_4096, .str f_4097]]] (· = .bool r_) := by
 refine Pure.walk3 fd45 none (Nat.le_of_ble_eq_true rfl) (by rfl) fun Q hQ => ?_
 simp only [f45_46] at H
 refine AW.rseq ?_
 try simp only [↓wk, ↓wl, nq, evV, ↓reduceIte, sevalprocAttr]
 refine AW.rseq ?_
 try simp only [↓wk, ↓wl, nq, evV, ↓reduceIte, sevalprocAttr]
 refine evTs_pure hFn H (fun _ h => f35_46_ok h) (by rfl) (by rfl) (by rfl) (by rfl) (fun _ => rfl) ?_ <;> clear H <;> intro r_4115 H
 try simp only [eL, ↓wk, ↓wl, nq, evV, ↓reduceIte, sevalprocAttr]
 refine AW.ret ?_
 cases H
 exact hQ _ _ _ _ (.inr rfl) (by simp only [resVs, omap, resV, ↓wk, ↓wl, nq, evV, ↓reduceIte, sevalprocAttr]; rfl) (hand_plain (by rfl)) (by first | exact Or.inl rfl | exact Or.inr rfl)
noncomputable def f126_J2 : Jn (Int × Int) (Int) where
  run := fun (v_4147, n_4148) => (if (decide (256 ≤ v_4147)) = true then (at? ([0, 1, 2, 2, 3, 3, 3, 3, 4, 4, 4, 4, 4, 4, 4, 4, 5, 5, 5, 5, 5, 5, 5, 5, 5, 5, 5, 5, 5, 5, 5, 5, 6, 6, 6, 6, 6, 6, 6, 6, 6, 6, 6, 6, 6, 6, 6, 6, 6, 6, 6, 6, 6, 6, 6, 6, 6, 6, 6, 6, 6, 6, 6, 6, 7, 7, 7, 7, 7, 7, 7, 7, 7, 7, 7, 7, 7, 7, 7, 7, 7, 7, 7, 7, 7, 7, 7, 7, 7, 7, 7, 7, 7, 7, 7, 7, 7, 7, 7, 7, 7, 7, 7, 7, 7, 7, 7, 7, 7, 7, 7, 7, 7, 7, 7, 7, 7, 7, 7, 7, 7, 7, 7, 7, 7, 7, 7, 7, 8, 8, 8, 8, 8, 8, 8, 8, 8, 8, 8, 8, 8, 8, 8, 8, 8, 8, 8, 8, 8, 8, 8, 8, 8, 8, 8, 8, 8, 8, 8, 8, 8, 8, 8, 8, 8, 8, 8, 8, 8, 8, 8, 8, 8, 8, 8, 8, 8, 8, 8, 8, 8, 8, 8, 8, 8, 8, 8, 8, 8, 8, 8, 8, 8, 8, 8, 8, 8, 8, 8, 8, 8, 8, 8, 8, 8, 8, 8, 8, 8, 8, 8, 8, 8, 8, 8, 8, 8, 8, 8, 8, 8, 8, 8, 8, 8, 8, 8, 8, 8, 8, 8, 8, 8, 8, 8, 8, 8, 8, 8, 8, 8, 8, 8, 8, 8, 8, 8, 8, 8, 8, 8, 8, 8, 8, 8, 8] : List UInt8) (IntKind.u8.wrap (Int.fdiv v_4147 (2 ^ (min (Int.toNat 8) (IntKind.bits .u64)))))).bind fun b_4149 => (some (IntKind.i64.wrap ((IntKind.i64.wrap (n_4148 + 8)) + (IntKind.i64.wrap (b_4149.toNat : Int))))) else (at? ([0, 1, 2, 2, 3, 3, 3, 3, 4, 4, 4, 4, 4, 4, 4, 4, 5, 5, 5, 5, 5, 5, 5, 5, 5, 5, 5, 5, 5, 5, 5, 5, 6, 6, 6, 6, 6, 6, 6, 6, 6, 6, 6, 6, 6, 6, 6, 6, 6, 6, 6, 6, 6, 6, 6, 6, 6, 6, 6, 6, 6, 6, 6, 6, 7, 7, 7, 7, 7, 7, 7, 7, 7, 7, 7, 7, 7, 7, 7, 7, 7, 7, 7, 7, 7, 7, 7, 7, 7, 7, 7, 7, 7, 7, 7, 7, 7, 7, 7, 7, 7, 7, 7, 7, 7, 7, 7, 7, 7, 7, 7, 7, 7, 7, 7, 7, 7, 7, 7, 7, 7, 7, 7, 7, 7, 7, 7, 7, 8, 8, 8, 8, 8, 8, 8, 8, 8, 8, 8, 8, 8, 8, 8, 8, 8, 8, 8, 8, 8, 8, 8, 8, 8, 8, 8, 8, 8, 8, 8, 8, 8, 8, 8, 8, 8, 8, 8, 8, 8, 8, 8, 8, 8, 8, 8, 8, 8, 8, 8, 8, 8, 8, 8, 8, 8, 8, 8, 8, 8, 8, 8, 8, 8, 8, 8, 8, 8, 8, 8, 8, 8, 8, 8, 8, 8, 8, 8, 8, 8, 8, 8, 8, 8, 8, 8, 8, 8, 8, 8, 8, 8, 8, 8, 8, 8, 8, 8, 8, 8, 8, 8, 8, 8, 8, 8, 8, 8, 8, 8, 8, 8, 8, 8, 8, 8, 8, 8, 8, 8, 8, 8, 8, 8, 8, 8, 8] : List UInt8) (IntKind.u8.wrap v_4147)).bind fun b_4150 => (some (IntKind.i64.wrap (n_4148 + (IntKind.i64.wrap (b_4150.toNat : Int))))))
  cst := fun (v_4147, n_4148) => ⟨put (put (fun _ => .junk) 2 (.int .i64 n_4148)) 0 (.int .u64 v_4147), []⟩
theorem f126_J2c (v_4147 : Int) (n_4148 : Int) : (f126_J2).cst (v_4147, n_4148) = ⟨put (put (fun _ => .junk) 2 (.int .i64 n_4148)) 0 (.int .u64 v_4147), []⟩ := rfl
noncomputable def f126_J1 : Jn (Int × Int) (Int) where
  run := fun (v_4145, n_4146) => (if (decide (65536 ≤ v_4145)) = true then ((f126_J2).run ((Int.fdiv v_4145 (2 ^ (min (Int.toNat 16) (IntKind.bits .u64)))), (IntKind.i64.wrap (n_4146 + 16)))) else ((f126_J2).run (v_4145, n_4146)))
  cst := fun (v_4145, n_4146) => ⟨put (put (fun _ => .junk) 2 (.int .i64 n_4146)) 0 (.int .u64 v_4145), []⟩
theorem f126_J1c (v_4145 : Int) (n_4146 : Int) : (f126_J1).cst (v_4145, n_4146) = ⟨put (put (fun _ => .junk) 2 (.int .i64 n_4146)) 0 (.int .u64 v_4145), []⟩ := rfl
def c126_0 : C := .reg [iI 2 (.mv (.c (.int .i64 32)))]
def c126_1 : C := .cond (.t 4) (.seq (.reg [iI 5 (.mv (.t 0)), iI 6 (.bin .shr (.t 5) (.c (.int .u64 32))), iI 0 (.mv (.t 6))]) c126_0) (.skip)
def c126_2 : C := .reg [iI 11 (.mv (.t 2)), iI 12 (.bin .add (.t 11) (.c (.int .i64 16))), iI 2 (.mv (.t 12))]
def c126_3 : C := .cond (.t 8) (.seq (.reg [iI 9 (.mv (.t 0)), iI 10 (.bin .shr (.t 9) (.c (.int .u64 16))), iI 0 (.mv (.t 10))]) c126_2) (.skip)
def c126_4 : C := .reg [iI 17 (.mv (.t 2)), iI 18 (.bin .add (.t 17) (.c (.int .i64 8))), iI 2 (.mv (.t 18))]
def c126_5 : C := .cond (.t 14) (.seq (.reg [iI 15 (.mv (.t 0)), iI 16 (.bin .shr (.t 15) (.c (.int .u64 8))), iI 0 (.mv (.t 16))]) c126_4) (.skip)
def c126_6 : C := .seq (.reg [iI 19 (.mv (.t 2)), iI 20 (.mv (.t 0)), iI 21 (.cint .u8 (.t 20)), iI 22 (.sidx (.c (.str [0, 1, 2, 2, 3, 3, 3, 3, 4, 4, 4, 4, 4, 4, 4, 4, 5, 5, 5, 5, 5, 5, 5, 5, 5, 5, 5, 5, 5, 5, 5, 5, 6, 6, 6, 6, 6, 6, 6, 6, 6, 6, 6, 6, 6, 6, 6, 6, 6, 6, 6, 6, 6, 6, 6, 6, 6, 6, 6, 6, 6, 6, 6, 6, 7, 7, 7, 7, 7, 7, 7, 7, 7, 7, 7, 7, 7, 7, 7, 7, 7, 7, 7, 7, 7, 7, 7, 7, 7, 7, 7, 7, 7, 7, 7, 7, 7, 7, 7, 7, 7, 7, 7, 7, 7, 7, 7, 7, 7, 7, 7, 7, 7, 7, 7, 7, 7, 7, 7, 7, 7, 7, 7, 7, 7, 7, 7, 7, 8, 8, 8, 8, 8, 8, 8, 8, 8, 8, 8, 8, 8, 8, 8, 8, 8, 8, 8, 8, 8, 8, 8, 8, 8, 8, 8, 8, 8, 8, 8, 8, 8, 8, 8, 8, 8, 8, 8, 8, 8, 8, 8, 8, 8, 8, 8, 8, 8, 8, 8, 8, 8, 8, 8, 8, 8, 8, 8, 8, 8, 8, 8, 8, 8, 8, 8, 8, 8, 8, 8, 8, 8, 8, 8, 8, 8, 8, 8, 8, 8, 8, 8, 8, 8, 8, 8, 8, 8, 8, 8, 8, 8, 8, 8, 8, 8, 8, 8, 8, 8, 8, 8, 8, 8, 8, 8, 8, 8, 8, 8, 8, 8, 8, 8, 8, 8, 8, 8, 8, 8, 8, 8, 8, 8, 8, 8, 8])) (.t 21)), iI 23 (.cint .i64 (.t 22)), iI 24 (.bin .add (.t 19) (.t 23)), iI 2 (.mv (.t 24))]) .ret
def c126_7 : C := .seq (.seq (.reg [iI 13 (.mv (.t 0)), iI 14 (.bin .geq (.t 13) (.c (.int .u64 256)))]) c126_5) c126_6
def c126_8 : C := .seq (.seq (.reg [iI 7 (.mv (.t 0)), iI 8 (.bin .geq (.t 7) (.c (.int .u64 65536)))]) c126_3) c126_7
def c126_9 : C := .seq (.seq (.reg [iI 3 (.mv (.t 0)), iI 4 (.bin .geq (.t 3) (.c (.int .u64 4294967296)))]) c126_1) c126_8
def ir126 : C := .seq (.reg [iI 2 (.mv (.c (.int .i64 0)))]) c126_9
theorem fd126 : fd? Try.prog 126 = some (25, [.slot 2], ir126) := by kernel_rfl
noncomputable def f126 (x_4144 : Int) : Option (Int) :=
  (if (decide (4294967296 ≤ x_4144)) = true then ((f126_J1).run ((Int.fdiv x_4144 (2 ^ (min (Int.toNat 32) (IntKind.bits .u64)))), 32)) else ((f126_J1).run (x_4144, 0)))
theorem f126_ok {x_4144 : Int} {r_ : Int} (H : f126 x_4144 = some r_) : Pure Try.prog 126 [.int .u64 x_4144] (· = .int .i64 r_) := by
 refine Pure.walk3 fd126 none (Nat.le_of_ble_eq_true rfl) (by rfl) fun Q hQ => ?_
 simp only [f126] at H
 refine AW.rseq ?_
 try simp only [↓wk, ↓wl, nq, evV, ↓reduceIte, sevalprocAttr]
 refine AW.join (f126_J1) H ?_ fun hf126_J1 => ?_
 ·clear H
  rintro ⟨v_4145, n_4146⟩ st0_ H hst_
  rw [f126_J1c] at hst_
  unfold f126_J1 at H
  try dsimp only at H
  subst hst_
  refine AW.join (f126_J2) H ?_ fun hf126_J2 => ?_
  ·clear H
   rintro ⟨v_4147, n_4148⟩ st0_ H hst_
   rw [f126_J2c] at hst_
   unfold f126_J2 at H
   try dsimp only at H
   subst hst_
   refine AW.sseq ?_
   refine AW.rseq ?_
   try simp only [↓wk, ↓wl, nq, evV, ↓reduceIte, sevalprocAttr]
   refine AW.ifc H (by rfl) ?_ ?_ <;> clear H <;> intro H
   ·refine AW.rseq ?_
    try simp only [↓wk, ↓wl, nq, evV, ↓reduceIte, sevalprocAttr]
    refine rest_shr (by decide) ?_
    try simp only [↓wk, ↓wl, nq, evV, ↓reduceIte, sevalprocAttr]
    refine AW.rend ?_
    try simp only [↓wk, ↓wl, nq, evV, ↓reduceIte, sevalprocAttr]
    refine seqQ.norm ?_
    refine AW.rseq ?_
    try simp only [↓wk, ↓wl, nq, evV, ↓reduceIte, sevalprocAttr]
    refine evTs_sat H (by rfl) (by rfl) ?_ <;> clear H <;> intro b_4149 H
    try simp only [↓wk, ↓wl, nq, evV, ↓reduceIte, sevalprocAttr]
    refine AW.ret ?_
    cases H
    exact hQ _ _ _ _ (.inr rfl) (by simp only [resVs, omap, resV, ↓wk, ↓wl, nq, evV, ↓reduceIte, sevalprocAttr]; rfl) (hand_plain (by rfl)) (by first | exact Or.inl rfl | exact Or.inr rfl)
   ·refine AW.skip ?_
    refine seqQ.norm ?_
    refine AW.rseq ?_
    try simp only [↓wk, ↓wl, nq, evV, ↓reduceIte, sevalprocAttr]
    refine evTs_sat H (by rfl) (by rfl) ?_ <;> clear H <;> intro b_4150 H
    try simp only [↓wk, ↓wl, nq, evV, ↓reduceIte, sevalprocAttr]
    refine AW.ret ?_
    cases H
    exact hQ _ _ _ _ (.inr rfl) (by simp only [resVs, omap, resV, ↓wk, ↓wl, nq, evV, ↓reduceIte, sevalprocAttr]; rfl) (hand_plain (by rfl)) (by first | exact Or.inl rfl | exact Or.inr rfl)
  ·refine AW.rseq ?_
   try simp only [↓wk, ↓wl, nq, evV, ↓reduceIte, sevalprocAttr]
   refine AW.ifc H (by rfl) ?_ ?_ <;> clear H <;> intro H
   ·refine AW.rseq ?_
    try simp only [↓wk, ↓wl, nq, evV, ↓reduceIte, sevalprocAttr]
    refine rest_shr (by decide) ?_
    try simp only [↓wk, ↓wl, nq, evV, ↓reduceIte, sevalprocAttr]
    refine AW.rend ?_
    try simp only [↓wk, ↓wl, nq, evV, ↓reduceIte, sevalprocAttr]
    refine seqQ.norm ?_
    exact hf126_J2 _ _ H ((Le.none [] [0, 2] (by decide) (by simp only [f126_J2c, rrl, Option.map_some, vm, List.idxOf?_cons, List.idxOf?_nil, beq_self_eq_true, Option.map_none, List.getD_cons_zero, List.getD_cons_succ, ↓wk, ↓wl, nq, evV, ↓reduceIte, sevalprocAttr] <;> rfl)))
   ·refine AW.skip ?_
    refine seqQ.norm ?_
    exact hf126_J2 _ _ H ((Le.none [] [0, 2] (by decide) (by simp only [f126_J2c, rrl, Option.map_some, vm, List.idxOf?_cons, List.idxOf?_nil, beq_self_eq_true, Option.map_none, List.getD_cons_zero, List.getD_cons_succ, ↓wk, ↓wl, nq, evV, ↓reduceIte, sevalprocAttr] <;> rfl)))
 ·refine AW.rseq ?_
  try simp only [↓wk, ↓wl, nq, evV, ↓reduceIte, sevalprocAttr]
  refine AW.ifc H (by rfl) ?_ ?_ <;> clear H <;> intro H
  ·refine AW.rseq ?_
   try simp only [↓wk, ↓wl, nq, evV, ↓reduceIte, sevalprocAttr]
   refine rest_shr (by decide) ?_
   try simp only [↓wk, ↓wl, nq, evV, ↓reduceIte, sevalprocAttr]
   refine AW.rend ?_
   try simp only [↓wk, ↓wl, nq, evV, ↓reduceIte, sevalprocAttr]
   refine seqQ.norm ?_
   exact hf126_J1 _ _ H ((Le.none [] [0, 2] (by decide) (by simp only [f126_J1c, rrl, Option.map_some, vm, List.idxOf?_cons, List.idxOf?_nil, beq_self_eq_true, Option.map_none, List.getD_cons_zero, List.getD_cons_succ, ↓wk, ↓wl, nq, evV, ↓reduceIte, sevalprocAttr] <;> rfl)))
  ·refine AW.skip ?_
   refine seqQ.norm ?_
   exact hf126_J1 _ _ H ((Le.none [] [0, 2] (by decide) (by simp only [f126_J1c, rrl, Option.map_some, vm, List.idxOf?_cons, List.idxOf?_nil, beq_self_eq_true, Option.map_none, List.getD_cons_zero, List.getD_cons_succ, ↓wk, ↓wl, nq, evV, ↓reduceIte, sevalprocAttr] <;> rfl)))
def c86_0 : C := .seq (.reg [iI 6 (.mv (.t 0)), iI 7 (.call (.c (.fn 126 [])) [(.t 6)]), iI 2 (.mv (.t 7))]) .ret
def c86_1 : C := .seq (.cond (.c (.bool false)) (.seq (.reg [iI 3 (.mv (.t 0)), iI 4 (.cint .u32 (.t 3)), iI 5 (.call (.c (.fn 125 [])) [(.t 4)]), iI 2 (.mv (.t 5))]) .ret) (.skip)) c86_0
def ir86 : C := .seq (.reg [iI 2 (.mv (.c (.int .i64 0)))]) c86_1
theorem fd86 : fd? Try.prog 86 = some (8, [.slot 2], ir86) := by kernel_rfl
noncomputable def f86 (x_4143 : Int) : Option (Int) :=
  (f126 x_4143).bind fun r_4151 => (some r_4151)
theorem f86_ok {x_4143 : Int} {r_ : Int} (H : f86 x_4143 = some r_) : Pure Try.prog 86 [.int .u64 x_4143] (· = .int .i64 r_) := by
 refine Pure.walk3 fd86 none (Nat.le_of_ble_eq_true rfl) (by rfl) fun Q hQ => ?_
 simp only [f86] at H
 refine AW.rseq ?_
 try simp only [↓wk, ↓wl, nq, evV, ↓reduceIte, sevalprocAttr]
 refine AW.sseq ?_
 refine AW.iff (by rfl) ?_
 refine AW.skip ?_
 refine seqQ.norm ?_
 refine AW.rseq ?_
 try simp only [↓wk, ↓wl, nq, evV, ↓reduceIte, sevalprocAttr]
 refine evTs_pure hFn H (fun _ h => f126_ok h) (by rfl) (by rfl) (by rfl) (by rfl) (fun _ => rfl) ?_ <;> clear H <;> intro r_4151 H
 try simp only [eL, ↓wk, ↓wl, nq, evV, ↓reduceIte, sevalprocAttr]
 refine AW.ret ?_
 cases H
 exact hQ _ _ _ _ (.inr rfl) (by simp only [resVs, omap, resV, ↓wk, ↓wl, nq, evV, ↓reduceIte, sevalprocAttr]; rfl) (hand_plain (by rfl)) (by first | exact Or.inl rfl | exact Or.inr rfl)
theorem len86 : ∀ n : Nat, n ≤ 12 → ∃ r : Int, Pure Try.prog 86 [.int .u64 (n : Int)] (· = .int .i64 r) := fun n hn => match n, hn with | 0, _ => ⟨0, f86_ok (by kernel_rfl)⟩ | 1, _ => ⟨1, f86_ok (by kernel_rfl)⟩ | 2, _ => ⟨2, f86_ok (by kernel_rfl)⟩ | 3, _ => ⟨2, f86_ok (by kernel_rfl)⟩ | 4, _ => ⟨3, f86_ok (by kernel_rfl)⟩ | 5, _ => ⟨3, f86_ok (by kernel_rfl)⟩ | 6, _ => ⟨3, f86_ok (by kernel_rfl)⟩ | 7, _ => ⟨3, f86_ok (by kernel_rfl)⟩ | 8, _ => ⟨4, f86_ok (by kernel_rfl)⟩ | 9, _ => ⟨4, f86_ok (by kernel_rfl)⟩ | 10, _ => ⟨4, f86_ok (by kernel_rfl)⟩ | 11, _ => ⟨4, f86_ok (by kernel_rfl)⟩ | 12, _ => ⟨4, f86_ok (by kernel_rfl)⟩ | n + 13, h => absurd h (by omega)
theorem srf47 : Sorts Try.prog 2 47 85 117 86 := ⟨by kernel_rfl, by kernel_rfl, by kernel_rfl, len86⟩
def c48_0 : C := .seq (.reg [iI 5 (.faddr 0 (.t 2)), iI 6 (.load 0 (.t 5)), iI 7 (.faddr 0 (.t 3)), iI 8 (.load 0 (.t 7)), iI 9 (.bin .sub (.t 6) (.t 8)), iI 4 (.mv (.t 9))]) .ret
def ir48 : C := .seq (.reg [iI 2 (.box (.t 0)), iI 3 (.box (.t 1)), iI 4 (.mv (.c (.int .i64 0)))]) c48_0
theorem fd48 : fd? Try.prog 48 = some (10, [.slot 4], ir48) := by kernel_rfl
noncomputable def f48 (f_4152 : ApiFrame) (g_4153 : ApiFrame) : Option (Int) :=
  (some (IntKind.i64.wrap (f_4152.fUniverse - g_4153.fUniverse)))
theorem f48_ok {f_4152 : ApiFrame} {g_4153 : ApiFrame} {r_ : Int} (H : f48 f_4152 g_4153 = some r_) : Pure Try.prog 48 [.agg [.int .i64 f_4152.fUniverse, .str f_4152.fSlots], .agg [.int .i64 g_4153.fUniverse, .str g_4153.fSlots]] (· = .int .i64 r_) := by
 refine Pure.walk3 fd48 none (Nat.le_of_ble_eq_true rfl) (by rfl) fun Q hQ => ?_
 simp only [f48] at H
 refine AW.rseq ?_
 try simp only [↓wk, ↓wl, nq, evV, ↓reduceIte, sevalprocAttr]
 refine AW.rseq ?_
 try simp only [↓wk, ↓wl, nq, evV, ↓reduceIte, sevalprocAttr]
 refine AW.ret ?_
 cases H
 exact hQ _ _ _ _ (.inr rfl) (by simp only [resVs, omap, resV, ↓wk, ↓wl, nq, evV, ↓reduceIte, sevalprocAttr]; rfl) (hand_plain (by rfl)) (by first | exact Or.inl rfl | exact Or.inr rfl)
noncomputable def f34_L1 (s1_4158 : (List ApiFrame)) (s2_4159 : (List ApiFrame)) : Lp (Int) ((Unit) ⊕ (Unit)) where
  body := fun v_4165 => (if (decide (v_4165 < ((s1_4158.length : Nat) : Int))) = true then (at? s1_4158 v_4165).bind fun x_4168 => (at? s2_4159 v_4165).bind fun x_4169 => (if (!((x_4168.fUniverse == x_4169.fUniverse) && ((x_4168.fSlots == x_4169.fSlots) && true))) = true then (some (.brk (Sum.inr ()))) else (some (.next (IntKind.i64.wrap (v_4165 + 1))))) else (some (.brk (Sum.inl ()))))
  cst := fun v_4165 => ⟨put (put (put (put (fun _ => .junk) 13 (.int .i64 v_4165)) 12 (.int .i64 ((s1_4158.length : Nat) : Int))) 1 (.sl 2 false (s2_4159.map eApiFrame))) 0 (.sl 2 false (s1_4158.map eApiFrame)), []⟩
theorem f34_L1c (s1_4158 : (List ApiFrame)) (s2_4159 : (List ApiFrame)) (v_4165 : Int) : (f34_L1 s1_4158 s2_4159).cst v_4165 = ⟨put (put (put (put (fun _ => .junk) 13 (.int .i64 v_4165)) 12 (.int .i64 ((s1_4158.length : Nat) : Int))) 1 (.sl 2 false (s2_4159.map eApiFrame))) 0 (.sl 2 false (s1_4158.map eApiFrame)), []⟩ := rfl
def c34_0 : C := .cond (.t 10) (.seq (.reg [iI 4 (.mv (.c (.bool false)))]) .ret) (.skip)
def c34_1 : C := .cond (.t 24) (.seq (.reg [iI 4 (.mv (.c (.bool false)))]) .ret) (.skip)
def c34_2 : C := .seq (.reg [iI 16 (.mv (.t 0)), iI 17 (.mv (.t 5)), iI 18 (.iaddr 2 (.t 16) (.t 17)), iI 19 (.load 2 (.t 18)), iI 20 (.mv (.t 1)), iI 21 (.mv (.t 5)), iI 22 (.iaddr 2 (.t 20) (.t 21)), iI 23 (.load 2 (.t 22)), iI 24 (.eqs true [0, 1] (.t 19) (.t 23))]) c34_1
def c34_3 : C := .reg [iI 25 (.bin .add (.t 13) (.c (.int .i64 1))), iI 13 (.mv (.t 25))]
def c34_4 : C := .seq (.block 1 (.seq (.reg [iI 15 (.mv (.t 13)), iI 5 (.mv (.t 15))]) c34_2)) c34_3
def c34_5 : C := .seq (.cond (.t 14) (.skip) (.exit 0)) c34_4
def c34_6 : C := .block 0 (.loop (.seq (.reg [iI 14 (.bin .lss (.t 13) (.t 12))]) c34_5))
def c34_7 : C := .seq (.reg [iI 4 (.mv (.c (.bool true)))]) .ret
def c34_8 : C := .seq (.seq (.reg [iI 11 (.mv (.t 0)), iI 12 (.len 0 (.t 11)), iI 13 (.mv (.c (.int .i64 0)))]) c34_6) c34_7
def c34_9 : C := .seq (.seq (.reg [iI 6 (.mv (.t 0)), iI 7 (.len 0 (.t 6)), iI 8 (.mv (.t 1)), iI 9 (.len 0 (.t 8)), iI 10 (.bin .neq (.t 7) (.t 9))]) c34_0) c34_8
def ir34 : C := .seq (.reg [iI 4 (.mv (.c (.bool false)))]) c34_9
theorem fd34 : fd? Try.prog 34 = some (26, [.slot 4], ir34) := by kernel_rfl
noncomputable def f34 (s1_4158 : (List ApiFrame)) (s2_4159 : (List ApiFrame)) : Option (Bool) :=
  (if (decide (((s1_4158.length : Nat) : Int) ≠ ((s2_4159.length : Nat) : Int))) = true then (some false) else ((Lp.run (f34_L1 s1_4158 s2_4159) 0).bind fun r_ => match r_ with | (Sum.inl _) => (some true) | (Sum.inr _) => (some false)))
theorem f34_ok {s1_4158 : (List ApiFrame)} {s2_4159 : (List ApiFrame)} {r_ : Bool} (H : f34 s1_4158 s2_4159 = some r_) : Pure Try.prog 34 [.sl 2 false (s1_4158.map eApiFrame), .sl 2 false (s2_4159.map eApiFrame)] (· = .bool r_) := by
 refine Pure.walk3 fd34 none (Nat.le_of_ble_eq_true rfl) (by rfl) fun Q hQ => ?_
 simp only [f34] at H
 refine AW.rseq ?_
 try simp only [↓wk, ↓wl, nq, evV, ↓reduceIte, sevalprocAttr]
 refine AW.sseq ?_
 refine AW.rseq ?_
 try simp only [↓wk, ↓wl, nq, evV, ↓reduceIte, sevalprocAttr]
 refine AW.ifc H (by rfl) ?_ ?_ <;> clear H <;> intro H
 ·refine AW.rseq ?_
  try simp only [↓wk, ↓wl, nq, evV, ↓reduceIte, sevalprocAttr]
  refine AW.ret ?_
  refine seqQ.ret ?_
  cases H
  exact hQ _ _ _ _ (.inr rfl) (by simp only [resVs, omap, resV, ↓wk, ↓wl, nq, evV, ↓reduceIte, sevalprocAttr]; rfl) (hand_plain (by rfl)) (by first | exact Or.inl rfl | exact Or.inr rfl)
 ·refine AW.skip ?_
  refine seqQ.norm ?_
  refine AW.sseq ?_
  refine AW.rseq ?_
  try simp only [↓wk, ↓wl, nq, evV, ↓reduceIte, sevalprocAttr]
  refine AW.bend ?_
  refine AW.iter H ((Le.none [] [0, 1, 12, 13] (by decide) (by simp only [f34_L1c, rrl, Option.map_some, vm, List.idxOf?_cons, List.idxOf?_nil, beq_self_eq_true, Option.map_none, List.getD_cons_zero, List.getD_cons_succ, ↓wk, ↓wl, nq, evV, ↓reduceIte, sevalprocAttr] <;> rfl))) ?_ <;> clear H
  rintro v_4165 x_ st0_ H hst_
  rw [f34_L1c] at hst_
  simp only [f34_L1] at H
  subst hst_
  refine AW.rseq ?_
  try simp only [↓wk, ↓wl, nq, evV, ↓reduceIte, sevalprocAttr]
  refine AW.sseq ?_
  refine AW.ifc H (by rfl) ?_ ?_ <;> clear H <;> intro H
  ·refine AW.skip ?_
   refine seqQ.norm ?_
   refine AW.bseq ?_
   refine AW.rseq ?_
   try simp only [↓wk, ↓wl, nq, evV, ↓reduceIte, sevalprocAttr]
   refine AW.rseq ?_
   try simp only [↓wk, ↓wl, nq, evV, ↓reduceIte, sevalprocAttr]
   refine evTs_at (enc := eApiFrame) H (by rfl) (by rfl) ?_ <;> clear H <;> intro x_4168 H
   try simp only [eApiFrame, eL, ↓wk, ↓wl, nq, evV, ↓reduceIte, sevalprocAttr]
   refine evTs_at (enc := eApiFrame) H (by rfl) (by rfl) ?_ <;> clear H <;> intro x_4169 H
   try simp only [eApiFrame, eL, ↓wk, ↓wl, nq, evV, ↓reduceIte, sevalprocAttr]
   refine rest_neqs (by rfl) ?_
   try simp only [↓wk, ↓wl, nq, evV, ↓reduceIte, sevalprocAttr]
   refine AW.ifc H (by rfl) ?_ ?_ <;> clear H <;> intro H
   ·refine AW.rseq ?_
    try simp only [↓wk, ↓wl, nq, evV, ↓reduceIte, sevalprocAttr]
    refine AW.ret ?_
    refine blkQ.ret ?_
    refine loopQ.ret H ?_ <;> clear H <;> intro H
    try dsimp only at H
    refine blk0.ret ?_
    refine seqQ.ret ?_
    cases H
    exact hQ _ _ _ _ (.inr rfl) (by simp only [resVs, omap, resV, ↓wk, ↓wl, nq, evV, ↓reduceIte, sevalprocAttr]; rfl) (hand_plain (by rfl)) (by first | exact Or.inl rfl | exact Or.inr rfl)
   ·refine AW.skip ?_
    refine blkQ.norm ?_
    refine AW.rend ?_
    try simp only [↓wk, ↓wl, nq, evV, ↓reduceIte, sevalprocAttr]
    exact loopQ.next H ((Le.none [] [0, 1, 12, 13] (by decide) (by simp only [f34_L1c, rrl, Option.map_some, vm, List.idxOf?_cons, List.idxOf?_nil, beq_self_eq_true, Option.map_none, List.getD_cons_zero, List.getD_cons_succ, ↓wk, ↓wl, nq, evV, ↓reduceIte, sevalprocAttr] <;> rfl)))
  ·refine AW.exit ?_
   refine seqQ.exit ?_
   refine loopQ.exit H ?_ <;> clear H <;> intro H
   try dsimp only at H
   refine blk0.here ?_
   refine seqQ.norm ?_
   refine AW.rseq ?_
   try simp only [↓wk, ↓wl, nq, evV, ↓reduceIte, sevalprocAttr]
   refine AW.ret ?_
   cases H
   exact hQ _ _ _ _ (.inr rfl) (by simp only [resVs, omap, resV, ↓wk, ↓wl, nq, evV, ↓reduceIte, sevalprocAttr]; rfl) (hand_plain (by rfl)) (by first | exact Or.inl rfl | exact Or.inr rfl)
noncomputable def f9_L2 (a_2571 : (List ApiFrame)) (b_2572 : (List ApiFrame)) (r_4089 : (List ReceiverInput)) : Lp (Int × (List ApiFrame)) ((List ApiFrame)) where
  body := fun (v_4137, want_4138) => (if (decide (v_4137 < ((a_2571.length : Nat) : Int))) = true then (at? a_2571 v_4137).bind fun x_4178 => (f45_46 b_2572 x_4178.fUniverse x_4178.fSlots).bind fun r_4179 => (if (!r_4179) = true then (app? 24 want_4138 ([x_4178])).bind fun out_4180 => (some (.next ((IntKind.i64.wrap (v_4137 + 1)), out_4180))) else (some (.next ((IntKind.i64.wrap (v_4137 + 1)), want_4138)))) else (some (.brk want_4138)))
  cst := fun (v_4137, want_4138) => ⟨put (put (put (put (put (put (fun _ => .junk) 93 (.int .i64 v_4137)) 92 (.int .i64 ((a_2571.length : Nat) : Int))) 91 (.sl 2 false (a_2571.map eApiFrame))) 17 (.row 2 1 0 want_4138.length)) 9 (.ptr 0 0)) 1 (.sl 2 false (b_2572.map eApiFrame)), [.cel [.sl 8 false (r_4089.map eReceiverInput)], .els 2 (want_4138.map eApiFrame)]⟩
theorem f9_L2c (a_2571 : (List ApiFrame)) (b_2572 : (List ApiFrame)) (r_4089 : (List ReceiverInput)) (v_4137 : Int) (want_4138 : (List ApiFrame)) : (f9_L2 a_2571 b_2572 r_4089).cst (v_4137, want_4138) = ⟨put (put (put (put (put (put (fun _ => .junk) 93 (.int .i64 v_4137)) 92 (.int .i64 ((a_2571.length : Nat) : Int))) 91 (.sl 2 false (a_2571.map eApiFrame))) 17 (.row 2 1 0 want_4138.length)) 9 (.ptr 0 0)) 1 (.sl 2 false (b_2572.map eApiFrame)), [.cel [.sl 8 false (r_4089.map eReceiverInput)], .els 2 (want_4138.map eApiFrame)]⟩ := rfl
noncomputable def f9_L3 (r_4223 : NetworkSender × (List NetworkPacket) × Int) (v_4069 : Int) (a_2571 : (List ApiFrame)) (b_2572 : (List ApiFrame)) : Lp (Int × (List ReceiverInput)) (((List ReceiverInput)) ⊕ (Unit)) where
  body := fun (v_4230, r_4231) => (if (decide (v_4230 < ((r_4223.2.1.length : Nat) : Int))) = true then (at? r_4223.2.1 v_4230).bind fun x_4235 => (f16 (ReceiverReceiver.mk r_4231) (IntKind.i64.wrap (1000 * v_4069)) x_4235).bind fun r_4236 => (if (decide (r_4236.2.2 ≠ 0)) = true then (some (.brk (Sum.inr ()))) else (some (.next ((IntKind.i64.wrap (v_4230 + 1)), r_4236.1.fInputs)))) else (some (.brk (Sum.inl r_4231))))
  cst := fun (v_4230, r_4231) => ⟨put (put (put (put (put (put (put (put (put (put (put (fun _ => .junk) 72 (.int .i64 v_4230)) 71 (.int .i64 ((r_4223.2.1.length : Nat) : Int))) 70 (.sl 7 false (r_4223.2.1.map eNetworkPacket))) 53 (.int .i64 v_4069)) 52 (.int .i64 ((([a_2571, b_2572]).length : Nat) : Int))) 51 (.sl 0 true (([a_2571, b_2572]).map (eL 2 eApiFrame)))) 10 (.int .i64 v_4069)) 9 (.ptr 1 0)) 7 (.ptr 0 0)) 1 (.sl 2 false (b_2572.map eApiFrame))) 0 (.sl 2 false (a_2571.map eApiFrame)), [.cel [.int .u64 r_4223.1.fSource, .int .i64 r_4223.1.fPriority, .int .i64 r_4223.1.fSync, .int .i64 r_4223.1.fPulse, .sl 5 false (r_4223.1.fStreams.map eNetworkStream)], .cel [.sl 8 false (r_4231.map eReceiverInput)]]⟩
theorem f9_L3c (r_4223 : NetworkSender × (List NetworkPacket) × Int) (v_4069 : Int) (a_2571 : (List ApiFrame)) (b_2572 : (List ApiFrame)) (v_4230 : Int) (r_4231 : (List ReceiverInput)) : (f9_L3 r_4223 v_4069 a_2571 b_2572).cst (v_4230, r_4231) = ⟨put (put (put (put (put (put (put (put (put (put (put (fun _ => .junk) 72 (.int .i64 v_4230)) 71 (.int .i64 ((r_4223.2.1.length : Nat) : Int))) 70 (.sl 7 false (r_4223.2.1.map eNetworkPacket))) 53 (.int .i64 v_4069)) 52 (.int .i64 ((([a_2571, b_2572]).length : Nat) : Int))) 51 (.sl 0 true (([a_2571, b_2572]).map (eL 2 eApiFrame)))) 10 (.int .i64 v_4069)) 9 (.ptr 1 0)) 7 (.ptr 0 0)) 1 (.sl 2 false (b_2572.map eApiFrame))) 0 (.sl 2 false (a_2571.map eApiFrame)), [.cel [.int .u64 r_4223.1.fSource, .int .i64 r_4223.1.fPriority, .int .i64 r_4223.1.fSync, .int .i64 r_4223.1.fPulse, .sl 5 false (r_4223.1.fStreams.map eNetworkStream)], .cel [.sl 8 false (r_4231.map eReceiverInput)]]⟩ := rfl
noncomputable def f9_L1 (a_2571 : (List ApiFrame)) (b_2572 : (List ApiFrame)) : Lp (Int × Int × Int × Int × Int × (List NetworkStream) × (List ReceiverInput)) (((List ReceiverInput)) ⊕ (Unit)) where
  body := fun (v_4069, v_4070, v_4071, v_4072, v_4073, v_4074, v_4075) => (if (decide (v_4069 < ((([a_2571, b_2572]).length : Nat) : Int))) = true then (at? ([a_2571, b_2572]) v_4069).bind fun x_4222 => (f43 (NetworkSender.mk v_4070 v_4071 v_4072 v_4073 v_4074) (IntKind.i64.wrap (1000 * v_4069)) x_4222).bind fun r_4223 => (if (decide (r_4223.2.2 ≠ 0)) = true then (some (.brk (Sum.inr ()))) else ((Lp.run (f9_L3 r_4223 v_4069 a_2571 b_2572) (0, v_4075)).bind fun r_ => match r_ with | (Sum.inl r_4234) => (some (.next ((IntKind.i64.wrap (v_4069 + 1)), r_4223.1.fSource, r_4223.1.fPriority, r_4223.1.fSync, r_4223.1.fPulse, r_4223.1.fStreams, r_4234))) | (Sum.inr _) => (some (.brk (Sum.inr ()))))) else (some (.brk (Sum.inl v_4075))))
  cst := fun (v_4069, v_4070, v_4071, v_4072, v_4073, v_4074, v_4075) => ⟨put (put (put (put (put (put (put (fun _ => .junk) 53 (.int .i64 v_4069)) 52 (.int .i64 ((([a_2571, b_2572]).length : Nat) : Int))) 51 (.sl 0 true (([a_2571, b_2572]).map (eL 2 eApiFrame)))) 9 (.ptr 1 0)) 7 (.ptr 0 0)) 1 (.sl 2 false (b_2572.map eApiFrame))) 0 (.sl 2 false (a_2571.map eApiFrame)), [.cel [.int .u64 v_4070, .int .i64 v_4071, .int .i64 v_4072, .int .i64 v_4073, .sl 5 false (v_4074.map eNetworkStream)], .cel [.sl 8 false (v_4075.map eReceiverInput)]]⟩
theorem f9_L1c (a_2571 : (List ApiFrame)) (b_2572 : (List ApiFrame)) (v_4069 : Int) (v_4070 : Int) (v_4071 : Int) (v_4072 : Int) (v_4073 : Int) (v_4074 : (List NetworkStream)) (v_4075 : (List ReceiverInput)) : (f9_L1 a_2571 b_2572).cst (v_4069, v_4070, v_4071, v_4072, v_4073, v_4074, v_4075) = ⟨put (put (put (put (put (put (put (fun _ => .junk) 53 (.int .i64 v_4069)) 52 (.int .i64 ((([a_2571, b_2572]).length : Nat) : Int))) 51 (.sl 0 true (([a_2571, b_2572]).map (eL 2 eApiFrame)))) 9 (.ptr 1 0)) 7 (.ptr 0 0)) 1 (.sl 2 false (b_2572.map eApiFrame))) 0 (.sl 2 false (a_2571.map eApiFrame)), [.cel [.int .u64 v_4070, .int .i64 v_4071, .int .i64 v_4072, .int .i64 v_4073, .sl 5 false (v_4074.map eNetworkStream)], .cel [.sl 8 false (v_4075.map eReceiverInput)]]⟩ := rfl
def c9_0 : C := .cond (.t 38) (.seq (.reg [iI 39 (.call (.c (.fn 15 [])) []), iI 6 (.mv (.t 39))]) .ret) (.skip)
def c9_1 : C := .cond (.t 48) (.seq (.reg [iI 6 (.mv (.c (.bool false)))]) .ret) (.skip)
def c9_2 : C := .cond (.t 68) (.seq (.reg [iI 6 (.mv (.c (.bool false)))]) .ret) (.skip)
def c9_3 : C := .cond (.t 86) (.seq (.reg [iI 6 (.mv (.c (.bool false)))]) .ret) (.skip)
def c9_4 : C := .seq (.reg [iI 85 (.mv (.t 14)), iI 86 (.bin .neq (.t 85) (.c (.int .i64 0)))]) c9_3
def c9_5 : C := .seq (.reg [iI 77 (.load 1 (.t 9)), iI 78 (.mv (.t 10)), iI 79 (.bin .mul (.c (.int .i64 1000)) (.t 78)), iI 80 (.load 7 (.t 16)), iI 81 (.call (.c (.fn 16 [])) [(.t 77), (.t 79), (.t 80)]), iI 76 (.mv (.t 81)), iI 82 (.ext (.t 76) 0), iI 83 (.ext (.t 76) 1), iI 84 (.ext (.t 76) 2), iN (.store 1 (.t 9) (.t 82)), iI 14 (.mv (.t 84))]) c9_4
def c9_6 : C := .reg [iI 87 (.bin .add (.t 72) (.c (.int .i64 1))), iI 72 (.mv (.t 87))]
def c9_7 : C := .seq (.block 3 (.seq (.reg [iI 74 (.iaddr 7 (.t 70) (.t 72)), iI 75 (.load 7 (.t 74)), iI 16 (.alloc [(1, (.int .u64 0)), (1, (.int .i64 0)), (1, (.int .i64 0)), (1, (.int .i64 0)), (1, (.int .i64 0)), (1, (.bool false)), (1, (.str []))]), iN (.store 7 (.t 16) (.t 75))]) c9_5)) c9_6
def c9_8 : C := .seq (.cond (.t 73) (.skip) (.exit 2)) c9_7
def c9_9 : C := .block 2 (.loop (.seq (.reg [iI 73 (.bin .lss (.t 72) (.t 71))]) c9_8))
def c9_10 : C := .seq (.reg [iI 70 (.mv (.t 13)), iI 71 (.len 0 (.t 70)), iI 72 (.mv (.c (.int .i64 0)))]) c9_9
def c9_11 : C := .seq (.reg [iI 69 (.load 5 (.t 12)), iN (.store 5 (.t 7) (.t 69))]) c9_10
def c9_12 : C := .seq (.seq (.reg [iI 67 (.mv (.t 14)), iI 68 (.bin .neq (.t 67) (.c (.int .i64 0)))]) c9_2) c9_11
def c9_13 : C := .seq (.reg [iI 59 (.load 5 (.t 7)), iI 60 (.mv (.t 10)), iI 61 (.bin .mul (.c (.int .i64 1000)) (.t 60)), iI 62 (.mv (.t 11)), iI 63 (.call (.c (.fn 43 [])) [(.t 59), (.t 61), (.t 62)]), iI 58 (.mv (.t 63)), iI 64 (.ext (.t 58) 0), iI 65 (.ext (.t 58) 1), iI 66 (.ext (.t 58) 2), iI 12 (.alloc [(1, (.int .u64 0)), (1, (.int .i64 0)), (1, (.int .i64 0)), (1, (.int .i64 0)), (1, (.sl 5 true []))]), iN (.store 5 (.t 12) (.t 64)), iI 13 (.mv (.t 65)), iI 14 (.mv (.t 66))]) c9_12
def c9_14 : C := .reg [iI 88 (.bin .add (.t 53) (.c (.int .i64 1))), iI 53 (.mv (.t 88))]
def c9_15 : C := .seq (.block 1 (.seq (.reg [iI 55 (.mv (.t 53)), iI 56 (.iaddr 0 (.t 51) (.t 53)), iI 57 (.load 0 (.t 56)), iI 10 (.mv (.t 55)), iI 11 (.mv (.t 57))]) c9_13)) c9_14
def c9_16 : C := .seq (.cond (.t 54) (.skip) (.exit 0)) c9_15
def c9_17 : C := .block 0 (.loop (.seq (.reg [iI 54 (.bin .lss (.t 53) (.t 52))]) c9_16))
def c9_18 : C := .cond (.t 100) (.reg [iI 101 (.mv (.t 17)), iI 102 (.load 2 (.t 19)), iI 103 (.mkslp 2 1 (.agg [(.int .i64 0), (.str [])]) [(0, (.t 102))]), iI 104 (.append 2 24 (.t 101) (.t 103)), iI 17 (.mv (.t 104))]) (.skip)
def c9_19 : C := .seq (.reg [iI 97 (.mv (.t 1)), iI 98 (.mkfn 46 [(.t 19)]), iI 99 (.call (.c (.fn 45 [])) [(.t 97), (.t 98)]), iI 100 (.un .not (.t 99))]) c9_18
def c9_20 : C := .reg [iI 105 (.bin .add (.t 93) (.c (.int .i64 1))), iI 93 (.mv (.t 105))]
def c9_21 : C := .seq (.block 5 (.seq (.reg [iI 95 (.iaddr 2 (.t 91) (.t 93)), iI 96 (.load 2 (.t 95)), iI 19 (.alloc [(1, (.int .i64 0)), (1, (.str []))]), iN (.store 2 (.t 19) (.t 96))]) c9_19)) c9_20
def c9_22 : C := .seq (.cond (.t 94) (.skip) (.exit 4)) c9_21
def c9_23 : C := .block 4 (.loop (.seq (.reg [iI 94 (.bin .lss (.t 93) (.t 92))]) c9_22))
def c9_24 : C := .seq (.reg [iI 113 (.mv (.t 8)), iI 114 (.bin .eql (.t 113) (.c (.int .i64 0))), iI 115 (.mv (.t 114)), iG (some 116) 115 true (.mv (.t 20)), iG (some 117) 115 true (.mv (.t 17)), iG (some 118) 115 true (.call (.c (.fn 34 [])) [(.t 116), (.t 117)]), iI 119 (.pick (.t 115) (.t 118) (.c (.bool false))), iI 120 (.mv (.t 119)), iG (some 121) 120 true (.call (.c (.fn 15 [])) []), iI 122 (.pick (.t 120) (.t 121) (.c (.bool false))), iI 6 (.mv (.t 122))]) .ret
def c9_25 : C := .seq (.reg [iI 109 (.load 1 (.t 9)), iI 110 (.call (.c (.fn 30 [])) [(.t 109), (.c (.int .i64 1000))]), iI 108 (.mv (.t 110)), iI 111 (.ext (.t 108) 0), iI 112 (.ext (.t 108) 1), iI 20 (.mv (.t 111)), iI 8 (.mv (.t 112))]) c9_24
def c9_26 : C := .seq (.reg [iI 106 (.mv (.t 17)), iI 107 (.call (.c (.fn 47 [])) [(.t 106), (.c (.fn 48 []))])]) c9_25
def c9_27 : C := .seq (.seq (.reg [iI 91 (.mv (.t 0)), iI 92 (.len 0 (.t 91)), iI 93 (.mv (.c (.int .i64 0)))]) c9_23) c9_26
def c9_28 : C := .seq (.reg [iI 89 (.mv (.t 1)), iI 90 (.call (.c (.fn 44 [])) [(.t 89)]), iI 17 (.mv (.t 90))]) c9_27
def c9_29 : C := .seq (.seq (.reg [iI 49 (.mv (.t 0)), iI 50 (.mv (.t 1)), iI 51 (.mksl 0 2 (.sl 2 true []) [(0, (.t 49)), (1, (.t 50))]), iI 52 (.len 0 (.t 51)), iI 53 (.mv (.c (.int .i64 0)))]) c9_17) c9_28
def c9_30 : C := .seq (.reg [iI 9 (.alloc [(1, (.sl 8 true []))])]) c9_29
def c9_31 : C := .seq (.seq (.reg [iI 47 (.mv (.t 8)), iI 48 (.bin .neq (.t 47) (.c (.int .i64 0)))]) c9_1) c9_30
def c9_32 : C := .seq (.reg [iI 41 (.mv (.t 2)), iI 42 (.cint .i64 (.t 41)), iI 43 (.bin .rem (.t 42) (.c (.int .i64 3))), iI 44 (.call (.c (.fn 42 [])) [(.c (.int .u64 77)), (.c (.int .i64 100)), (.t 43)]), iI 40 (.mv (.t 44)), iI 45 (.ext (.t 40) 0), iI 46 (.ext (.t 40) 1), iI 7 (.alloc [(1, (.int .u64 0)), (1, (.int .i64 0)), (1, (.int .i64 0)), (1, (.int .i64 0)), (1, (.sl 5 true []))]), iN (.store 5 (.t 7) (.t 45)), iI 8 (.mv (.t 46))]) c9_31
def c9_33 : C := .seq (.seq (.reg [iI 21 (.mv (.t 0)), iI 22 (.call (.c (.fn 41 [])) [(.t 21)]), iI 23 (.bin .neq (.t 22) (.c (.int .i64 0))), iI 24 (.mv (.t 23)), iG (some 25) 24 false (.mv (.t 1)), iG (some 26) 24 false (.call (.c (.fn 41 [])) [(.t 25)]), iG (some 27) 24 false (.bin .neq (.t 26) (.c (.int .i64 0))), iI 28 (.pick (.t 24) (.c (.bool true)) (.t 27)), iI 29 (.mv (.t 28)), iG (some 30) 29 false (.mv (.t 0)), iG (some 31) 29 false (.len 0 (.t 30)), iG (some 32) 29 false (.bin .gtr (.t 31) (.c (.int .i64 3))), iI 33 (.pick (.t 29) (.c (.bool true)) (.t 32)), iI 34 (.mv (.t 33)), iG (some 35) 34 false (.mv (.t 1)), iG (some 36) 34 false (.len 0 (.t 35)), iG (some 37) 34 false (.bin .gtr (.t 36) (.c (.int .i64 3))), iI 38 (.pick (.t 34) (.c (.bool true)) (.t 37))]) c9_0) c9_32
def ir9 : C := .seq (.reg [iI 6 (.mv (.c (.bool false)))]) c9_33
theorem fd9 : fd? Try.prog 9 = some (123, [.slot 6], ir9) := by kernel_rfl
noncomputable def f9 (a_2571 : (List ApiFrame)) (b_2572 : (List ApiFrame)) (sync_2573 : Int) : Option (Bool) :=
  (f41 a_2571).bind fun r_2614 => (if (decide (r_2614 ≠ 0)) = true then (f15).bind fun r_2615 => (some r_2615) else (f41 b_2572).bind fun r_2616 => (if (decide (r_2616 ≠ 0)) = true then (f15).bind fun r_2617 => (some r_2617) else (if (decide (3 < ((a_2571.length : Nat) : Int))) = true then (f15).bind fun r_2618 => (some r_2618) else (if (decide (3 < ((b_2572.length : Nat) : Int))) = true then (f15).bind fun r_2619 => (some r_2619) else (f42 77 100 ((IntKind.i64.wrap sync_2573).tmod 3)).bind fun r_2624 => (if (decide (r_2624.2 ≠ 0)) = true then (some false) else ((Lp.run (f9_L1 a_2571 b_2572) (0, r_2624.1.fSource, r_2624.1.fPriority, r_2624.1.fSync, r_2624.1.fPulse, r_2624.1.fStreams, [])).bind fun r_ => match r_ with | (Sum.inl r_4089) => (f44 b_2572).bind fun r_4093 => (Lp.run (f9_L2 a_2571 b_2572 r_4089) (0, r_4093)).bind fun want_4142 => (sortf? (fun x_4154 y_4155 => f48 x_4154 y_4155) want_4142).bind fun sorted_4156 => (f30 (ReceiverReceiver.mk r_4089) 1000).bind fun r_4157 => (if (decide (r_4157.2 = 0)) = true then (f34 r_4157.1 sorted_4156).bind fun r_4170 => (if r_4170 = true then (f15).bind fun r_4171 => (some r_4171) else (some false)) else (some false)) | (Sum.inr _) => (some false)))))))
theorem f9_ok {a_2571 : (List ApiFrame)} {b_2572 : (List ApiFrame)} {sync_2573 : Int} {r_ : Bool} (H : f9 a_2571 b_2572 sync_2573 = some r_) : Pure Try.prog 9 [.sl 2 false (a_2571.map eApiFrame), .sl 2 false (b_2572.map eApiFrame), .int .u8 sync_2573] (· = .bool r_) := by
 refine Pure.walk3 fd9 none (Nat.le_of_ble_eq_true rfl) (by rfl) fun Q hQ => ?_
 simp only [f9] at H
 refine AW.rseq ?_
 try simp only [↓wk, ↓wl, nq, evV, ↓reduceIte, sevalprocAttr]
 refine AW.sseq ?_
 refine AW.rseq ?_
 try simp only [↓wk, ↓wl, nq, evV, ↓reduceIte, sevalprocAttr]
 refine evTs_pure hFn H (fun _ h => f41_ok h) (by rfl) (by rfl) (by rfl) (by rfl) (fun _ => rfl) ?_ <;> clear H <;> intro r_2614 H
 try simp only [eL, ↓wk, ↓wl, nq, evV, ↓reduceIte, sevalprocAttr]
 refine evTs_ifg H (by rfl) ?_ ?_ <;> clear H <;> intro H
 ·try simp only [↓wk, ↓wl, nq, evV, ↓reduceIte, sevalprocAttr]
  refine AW.ift (by rfl) ?_
  refine AW.rseq ?_
  try simp only [↓wk, ↓wl, nq, evV, ↓reduceIte, sevalprocAttr]
  refine evTs_pure hFn H (fun _ h => f15_ok h) (by rfl) (by rfl) (by rfl) (by rfl) (fun _ => rfl) ?_ <;> clear H <;> intro r_2615 H
  try simp only [eL, ↓wk, ↓wl, nq, evV, ↓reduceIte, sevalprocAttr]
  refine AW.ret ?_
  refine seqQ.ret ?_
  cases H
  exact hQ _ _ _ _ (.inr rfl) (by simp only [resVs, omap, resV, ↓wk, ↓wl, nq, evV, ↓reduceIte, sevalprocAttr]; rfl) (hand_plain (by rfl)) (by first | exact Or.inl rfl | exact Or.inr rfl)
 ·try simp only [↓wk, ↓wl, nq, evV, ↓reduceIte, sevalprocAttr]
  refine evTs_pure hFn H (fun _ h => f41_ok h) (by rfl) (by rfl) (by rfl) (by rfl) (fun _ => rfl) ?_ <;> clear H <;> intro r_2616 H
  try simp only [eL, ↓wk, ↓wl, nq, evV, ↓reduceIte, sevalprocAttr]
  refine evTs_ifg H (by rfl) ?_ ?_ <;> clear H <;> intro H
  ·try simp only [↓wk, ↓wl, nq, evV, ↓reduceIte, sevalprocAttr]
   refine AW.ift (by rfl) ?_
   refine AW.rseq ?_
   try simp only [↓wk, ↓wl, nq, evV, ↓reduceIte, sevalprocAttr]
   refine evTs_pure hFn H (fun _ h => f15_ok h) (by rfl) (by rfl) (by rfl) (by rfl) (fun _ => rfl) ?_ <;> clear H <;> intro r_2617 H
   try simp only [eL, ↓wk, ↓wl, nq, evV, ↓reduceIte, sevalprocAttr]
   refine AW.ret ?_
   refine seqQ.ret ?_
   cases H
   exact hQ _ _ _ _ (.inr rfl) (by simp only [resVs, omap, resV, ↓wk, ↓wl, nq, evV, ↓reduceIte, sevalprocAttr]; rfl) (hand_plain (by rfl)) (by first | exact Or.inl rfl | exact Or.inr rfl)
  ·try simp only [↓wk, ↓wl, nq, evV, ↓reduceIte, sevalprocAttr]
   refine evTs_ifg H (by rfl) ?_ ?_ <;> clear H <;> intro H
   ·try simp only [↓wk, ↓wl, nq, evV, ↓reduceIte, sevalprocAttr]
    refine AW.ift (by rfl) ?_
    refine AW.rseq ?_
    try simp only [↓wk, ↓wl, nq, evV, ↓reduceIte, sevalprocAttr]
    refine evTs_pure hFn H (fun _ h => f15_ok h) (by rfl) (by rfl) (by rfl) (by rfl) (fun _ => rfl) ?_ <;> clear H <;> intro r_2618 H
    try simp only [eL, ↓wk, ↓wl, nq, evV, ↓reduceIte, sevalprocAttr]
    refine AW.ret ?_
    refine seqQ.ret ?_
    cases H
    exact hQ _ _ _ _ (.inr rfl) (by simp only [resVs, omap, resV, ↓wk, ↓wl, nq, evV, ↓reduceIte, sevalprocAttr]; rfl) (hand_plain (by rfl)) (by first | exact Or.inl rfl | exact Or.inr rfl)
   ·try simp only [↓wk, ↓wl, nq, evV, ↓reduceIte, sevalprocAttr]
    refine AW.ifc H (by rfl) ?_ ?_ <;> clear H <;> intro H
    ·refine AW.rseq ?_
     try simp only [↓wk, ↓wl, nq, evV, ↓reduceIte, sevalprocAttr]
     refine evTs_pure hFn H (fun _ h => f15_ok h) (by rfl) (by rfl) (by rfl) (by rfl) (fun _ => rfl) ?_ <;> clear H <;> intro r_2619 H
     try simp only [eL, ↓wk, ↓wl, nq, evV, ↓reduceIte, sevalprocAttr]
     refine AW.ret ?_
     refine seqQ.ret ?_
     cases H
     exact hQ _ _ _ _ (.inr rfl) (by simp only [resVs, omap, resV, ↓wk, ↓wl, nq, evV, ↓reduceIte, sevalprocAttr]; rfl) (hand_plain (by rfl)) (by first | exact Or.inl rfl | exact Or.inr rfl)
    ·refine AW.skip ?_
     refine seqQ.norm ?_
     refine AW.rseq ?_
     try simp only [↓wk, ↓wl, nq, evV, ↓reduceIte, sevalprocAttr]
     refine evTs_pure hFn H (fun _ h => f42_ok h) (by rfl) (by rfl) (by rfl) (by rfl) (fun _ => rfl) ?_ <;> clear H <;> intro r_2624 H
     try simp only [eL, eNetworkSender, ↓wk, ↓wl, nq, evV, ↓reduceIte, sevalprocAttr]
     refine AW.sseq ?_
     refine AW.rseq ?_
     try simp only [↓wk, ↓wl, nq, evV, ↓reduceIte, sevalprocAttr]
     refine AW.ifc H (by rfl) ?_ ?_ <;> clear H <;> intro H
     ·refine AW.rseq ?_
      try simp only [↓wk, ↓wl, nq, evV, ↓reduceIte, sevalprocAttr]
      refine AW.ret ?_
      refine seqQ.ret ?_
      cases H
      exact hQ _ _ _ _ (.inr rfl) (by simp only [resVs, omap, resV, ↓wk, ↓wl, nq, evV, ↓reduceIte, sevalprocAttr]; rfl) (hand_plain (by rfl)) (by first | exact Or.inl rfl | exact Or.inr rfl)
     ·refine AW.skip ?_
      refine seqQ.norm ?_
      refine AW.rseq ?_
      try simp only [↓wk, ↓wl, nq, evV, ↓reduceIte, sevalprocAttr]
      refine AW.sseq ?_
      refine AW.rseq ?_
      try simp only [↓wk, ↓wl, nq, evV, ↓reduceIte, sevalprocAttr]
      refine AW.bend ?_
      refine AW.iter H ((Le.trans (Le.unfullCell (b := 1) (o := 0) (by rfl) (by rfl)) (Le.none [0, 1] [0, 1, 7, 9, 51, 52, 53] (by decide) (by simp only [f9_L1c, rrl, Option.map_some, vm, List.idxOf?_cons, List.idxOf?_nil, beq_self_eq_true, Option.map_none, List.getD_cons_zero, List.getD_cons_succ, ↓wk, ↓wl, nq, evV, ↓reduceIte, sevalprocAttr] <;> rfl)))) ?_ <;> clear H
      rintro ⟨v_4069, v_4070, v_4071, v_4072, v_4073, v_4074, v_4075⟩ x_ st0_ H hst_
      rw [f9_L1c] at hst_
      simp only [f9_L1] at H
      subst hst_
      refine AW.rseq ?_
      try simp only [↓wk, ↓wl, nq, evV, ↓reduceIte, sevalprocAttr]
      refine AW.sseq ?_
      refine AW.ifc H (by rfl) ?_ ?_ <;> clear H <;> intro H
      ·refine AW.skip ?_
       refine seqQ.norm ?_
       refine AW.bseq ?_
       refine AW.rseq ?_
       try simp only [↓wk, ↓wl, nq, evV, ↓reduceIte, sevalprocAttr]
       refine evTs_at (enc := (eL 2 eApiFrame)) H (by rfl) (by rfl) ?_ <;> clear H <;> intro x_4222 H
       try simp only [eL, ↓wk, ↓wl, nq, evV, ↓reduceIte, sevalprocAttr]
       refine AW.rseq ?_
       try simp only [↓wk, ↓wl, nq, evV, ↓reduceIte, sevalprocAttr]
       refine evTs_pure hFn H (fun _ h => f43_ok h) (by rfl) (by rfl) (by rfl) (by rfl) (fun _ => rfl) ?_ <;> clear H <;> intro r_4223 H
       try simp only [eL, eNetworkSender, ↓wk, ↓wl, nq, evV, ↓reduceIte, sevalprocAttr]
       refine AW.sseq ?_
       refine AW.rseq ?_
       try simp only [↓wk, ↓wl, nq, evV, ↓reduceIte, sevalprocAttr]
       refine AW.ifc H (by rfl) ?_ ?_ <;> clear H <;> intro H
       ·refine AW.rseq ?_
        try simp only [↓wk, ↓wl, nq, evV, ↓reduceIte, sevalprocAttr]
        refine AW.ret ?_
        refine seqQ.ret ?_
        refine blkQ.ret ?_
        refine loopQ.ret H ?_ <;> clear H <;> intro H
        try dsimp only at H
        refine blk0.ret ?_
        refine seqQ.ret ?_
        cases H
        exact hQ _ _ _ _ (.inr rfl) (by simp only [resVs, omap, resV, ↓wk, ↓wl, nq, evV, ↓reduceIte, sevalprocAttr]; rfl) (hand_plain (by rfl)) (by first | exact Or.inl rfl | exact Or.inr rfl)
       ·refine AW.skip ?_
        refine seqQ.norm ?_
        refine AW.rseq ?_
        try simp only [↓wk, ↓wl, nq, evV, ↓reduceIte, sevalprocAttr]
        refine AW.rseq ?_
        try simp only [↓wk, ↓wl, nq, evV, ↓reduceIte, sevalprocAttr]
        refine AW.bend ?_
        refine AW.iter H ((Le.none [0, 1] [0, 1, 7, 9, 10, 51, 52, 53, 70, 71, 72] (by decide) (by simp only [f9_L3c, rrl, Option.map_some, vm, List.idxOf?_cons, List.idxOf?_nil, beq_self_eq_true, Option.map_none, List.getD_cons_zero, List.getD_cons_succ, ↓wk, ↓wl, nq, evV, ↓reduceIte, sevalprocAttr] <;> rfl))) ?_ <;> clear H
        rintro ⟨v_4230, r_4231⟩ x_ st0_ H hst_
        rw [f9_L3c] at hst_
        simp only [f9_L3] at H
        subst hst_
        refine AW.rseq ?_
        try simp only [↓wk, ↓wl, nq, evV, ↓reduceIte, sevalprocAttr]
        refine AW.sseq ?_
        refine AW.ifc H (by rfl) ?_ ?_ <;> clear H <;> intro H
        ·refine AW.skip ?_
         refine seqQ.norm ?_
         refine AW.bseq ?_
         refine AW.rseq ?_
         try simp only [↓wk, ↓wl, nq, evV, ↓reduceIte, sevalprocAttr]
         refine evTs_at (enc := eNetworkPacket) H (by rfl) (by rfl) ?_ <;> clear H <;> intro x_4235 H
         try simp only [eNetworkPacket, eL, ↓wk, ↓wl, nq, evV, ↓reduceIte, sevalprocAttr]
         refine AW.rseq ?_
         try simp only [↓wk, ↓wl, nq, evV, ↓reduceIte, sevalprocAttr]
         refine evTs_pure hFn H (fun _ h => f16_ok h) (by rfl) (by rfl) (by rfl) (by rfl) (fun _ => rfl) ?_ <;> clear H <;> intro r_4236 H
         try simp only [eL, eReceiverReceiver, ↓wk, ↓wl, nq, evV, ↓reduceIte, sevalprocAttr]
         refine AW.rseq ?_
         try simp only [↓wk, ↓wl, nq, evV, ↓reduceIte, sevalprocAttr]
         refine AW.ifc H (by rfl) ?_ ?_ <;> clear H <;> intro H
         ·refine AW.rseq ?_
          try simp only [↓wk, ↓wl, nq, evV, ↓reduceIte, sevalprocAttr]
          refine AW.ret ?_
          refine blkQ.ret ?_
          refine loopQ.ret H ?_ <;> clear H <;> intro H
          try dsimp only at H
          refine blk0.ret ?_
          refine blkQ.ret ?_
          refine loopQ.ret H ?_ <;> clear H <;> intro H
          try dsimp only at H
          refine blk0.ret ?_
          refine seqQ.ret ?_
          cases H
          exact hQ _ _ _ _ (.inr rfl) (by simp only [resVs, omap, resV, ↓wk, ↓wl, nq, evV, ↓reduceIte, sevalprocAttr]; rfl) (hand_plain (by rfl)) (by first | exact Or.inl rfl | exact Or.inr rfl)
         ·refine AW.skip ?_
          refine blkQ.norm ?_
          refine AW.rend ?_
          try simp only [↓wk, ↓wl, nq, evV, ↓reduceIte, sevalprocAttr]
          exact loopQ.next H ((Le.none [0, 1] [0, 1, 7, 9, 10, 51, 52, 53, 70, 71, 72] (by decide) (by simp only [f9_L3c, rrl, Option.map_some, vm, List.idxOf?_cons, List.idxOf?_nil, beq_self_eq_true, Option.map_none, List.getD_cons_zero, List.getD_cons_succ, ↓wk, ↓wl, nq, evV, ↓reduceIte, sevalprocAttr] <;> rfl)))
        ·refine AW.exit ?_
         refine seqQ.exit ?_
         refine loopQ.exit H ?_ <;> clear H <;> intro H
         try dsimp only at H
         refine blk0.here ?_
         refine blkQ.norm ?_
         refine AW.rend ?_
         try simp only [↓wk, ↓wl, nq, evV, ↓reduceIte, sevalprocAttr]
         exact loopQ.next H ((Le.none [0, 1] [0, 1, 7, 9, 51, 52, 53] (by decide) (by simp only [f9_L1c, rrl, Option.map_some, vm, List.idxOf?_cons, List.idxOf?_nil, beq_self_eq_true, Option.map_none, List.getD_cons_zero, List.getD_cons_succ, ↓wk, ↓wl, nq, evV, ↓reduceIte, sevalprocAttr] <;> rfl)))
      ·refine AW.exit ?_
       refine seqQ.exit ?_
       refine loopQ.exit H ?_ <;> clear H <;> intro H
       try dsimp only at H
       refine blk0.here ?_
       refine seqQ.norm ?_
       refine AW.rseq ?_
       try simp only [↓wk, ↓wl, nq, evV, ↓reduceIte, sevalprocAttr]
       refine evTs_fr H (fun _ h => f44_ok h) (by rfl) (by rfl) (by rfl) (by rfl) (fun _ => rfl) ?_ <;> clear H <;> intro r_4237 H
       try simp only [eL, ↓wk, ↓wl, nq, evV, ↓reduceIte, sevalprocAttr]
       refine AW.sseq ?_
       refine AW.rseq ?_
       try simp only [↓wk, ↓wl, nq, evV, ↓reduceIte, sevalprocAttr]
       refine AW.bend ?_
       refine AW.iter H ((Le.none [1, 2] [1, 9, 17, 91, 92, 93] (by decide) (by simp only [f9_L2c, rrl, Option.map_some, vm, List.idxOf?_cons, List.idxOf?_nil, beq_self_eq_true, Option.map_none, List.getD_cons_zero, List.getD_cons_succ, ↓wk, ↓wl, nq, evV, ↓reduceIte, sevalprocAttr] <;> rfl))) ?_ <;> clear H
       rintro ⟨v_4260, want_4261⟩ x_ st0_ H hst_
       rw [f9_L2c] at hst_
       simp only [f9_L2] at H
       subst hst_
       refine AW.rseq ?_
       try simp only [↓wk, ↓wl, nq, evV, ↓reduceIte, sevalprocAttr]
       refine AW.sseq ?_
       refine AW.ifc H (by rfl) ?_ ?_ <;> clear H <;> intro H
       ·refine AW.skip ?_
        refine seqQ.norm ?_
        refine AW.bseq ?_
        refine AW.rseq ?_
        try simp only [↓wk, ↓wl, nq, evV, ↓reduceIte, sevalprocAttr]
        refine evTs_at (enc := eApiFrame) H (by rfl) (by rfl) ?_ <;> clear H <;> intro x_4278 H
        try simp only [eApiFrame, eL, ↓wk, ↓wl, nq, evV, ↓reduceIte, sevalprocAttr]
        refine AW.rseq ?_
        try simp only [↓wk, ↓wl, nq, evV, ↓reduceIte, sevalprocAttr]
        refine evTs_flat hFn H (fun _ h => f45_46_ok h) (by rfl) (by rfl) (by simp only [deep_eq, imm_simps, imm_rowE, imm_ptrE, imm_enc, omap_simps, take_map_len, take_map_set, take_map_set2, le_refl_true, Nat.zero_add, and_true, true_and, List.drop_zero, Option.map_some, ↓wk, ↓wl, nq, evV, ↓reduceIte, sevalprocAttr]; rfl) (by rfl) (fun _ => rfl) (fun _ => rfl) ?_ <;> clear H <;> intro r_4279 H
        try simp only [eL, ↓wk, ↓wl, nq, evV, ↓reduceIte, sevalprocAttr]
        refine AW.ifc H (by rfl) ?_ ?_ <;> clear H <;> intro H
        ·refine AW.rend ?_
         try simp only [↓wk, ↓wl, nq, evV, ↓reduceIte, sevalprocAttr]
         refine evTs_app (enc := eApiFrame) H (by rfl) (by first | rfl | simp only [List.length_set]) (by rfl) (by rfl) ?_ <;> clear H <;> intro out_4280 H
         try simp only [↓wk, ↓wl, nq, evV, ↓reduceIte, sevalprocAttr]
         refine blkQ.norm ?_
         refine AW.rend ?_
         try simp only [↓wk, ↓wl, nq, evV, ↓reduceIte, sevalprocAttr]
         exact loopQ.next H ((Le.none [0, 3] [1, 9, 17, 91, 92, 93] (by decide) (by simp only [f9_L2c, rrl, Option.map_some, vm, List.idxOf?_cons, List.idxOf?_nil, beq_self_eq_true, Option.map_none, List.getD_cons_zero, List.getD_cons_succ, ↓wk, ↓wl, nq, evV, ↓reduceIte, sevalprocAttr] <;> rfl)))
        ·refine AW.skip ?_
         refine blkQ.norm ?_
         refine AW.rend ?_
         try simp only [↓wk, ↓wl, nq, evV, ↓reduceIte, sevalprocAttr]
         exact loopQ.next H ((Le.none [0, 1] [1, 9, 17, 91, 92, 93] (by decide) (by simp only [f9_L2c, rrl, Option.map_some, vm, List.idxOf?_cons, List.idxOf?_nil, beq_self_eq_true, Option.map_none, List.getD_cons_zero, List.getD_cons_succ, ↓wk, ↓wl, nq, evV, ↓reduceIte, sevalprocAttr] <;> rfl)))
       ·refine AW.exit ?_
        refine seqQ.exit ?_
        refine loopQ.exit H ?_ <;> clear H <;> intro H
        try dsimp only at H
        refine blk0.here ?_
        refine seqQ.norm ?_
        refine AW.rseq ?_
        try simp only [↓wk, ↓wl, nq, evV, ↓reduceIte, sevalprocAttr]
        refine evTs_srf (enc := eApiFrame) H [] (fun _ _ _ h => f48_ok h) srf47 (by rfl) (by rfl) (fun h_ hh_ x_ y_ => by  simp only [deep_eq, imm_simps, imm_ptrE, imm_encx (enc := eApiFrame), omap_simps, List.drop_zero, Option.map_some, ↓wk, ↓wl, nq, evV, ↓reduceIte, sevalprocAttr] <;> rfl) (by first | rfl | simp only [List.length_set]) (by rfl) ?_ <;> clear H <;> intro sorted_4283 hlsorted_4283 H
        have thlsorted_4283 := fun f => take_map_eq hlsorted_4283 f
        try simp only [↓wk, ↓wl, nq, evV, ↓reduceIte, sevalprocAttr, hlsorted_4283, thlsorted_4283]
        refine AW.rseq ?_
        try simp only [↓wk, ↓wl, nq, evV, ↓reduceIte, sevalprocAttr, hlsorted_4283, thlsorted_4283]
        refine evTs_pure hFn H (fun _ h => f30_im h) (by rfl) (by rfl) (by rfl) (by rfl) (fun _ => rfl) ?_ <;> clear H <;> intro r_4284 H
        try simp only [eL, ↓wk, ↓wl, nq, evV, ↓reduceIte, sevalprocAttr, hlsorted_4283, thlsorted_4283]
        refine AW.rseq ?_
        try simp only [↓wk, ↓wl, nq, evV, ↓reduceIte, sevalprocAttr, hlsorted_4283, thlsorted_4283]
        refine evTs_ifg H (by rfl) ?_ ?_ <;> clear H <;> intro H
        ·try simp only [↓wk, ↓wl, nq, evV, ↓reduceIte, sevalprocAttr, hlsorted_4283, thlsorted_4283]
         refine evTs_flat hFn H (fun _ h => f34_ok h) (by rfl) (by rfl) (by simp only [deep_eq, imm_simps, imm_rowE, imm_ptrE, imm_enc, omap_simps, take_map_len, take_map_set, take_map_set2, le_refl_true, Nat.zero_add, and_true, true_and, List.drop_zero, Option.map_some, ↓wk, ↓wl, nq, evV, ↓reduceIte, sevalprocAttr, hlsorted_4283, thlsorted_4283]; rfl) (by rfl) (fun _ => rfl) (fun _ => rfl) ?_ <;> clear H <;> intro r_4285 H
         try simp only [eL, ↓wk, ↓wl, nq, evV, ↓reduceIte, sevalprocAttr, hlsorted_4283, thlsorted_4283]
         refine evTs_ifg H (by rfl) ?_ ?_ <;> clear H <;> intro H
         ·try simp only [↓wk, ↓wl, nq, evV, ↓reduceIte, sevalprocAttr, hlsorted_4283, thlsorted_4283]
          refine evTs_pure hFn H (fun _ h => f15_ok h) (by rfl) (by rfl) (by rfl) (by rfl) (fun _ => rfl) ?_ <;> clear H <;> intro r_4286 H
          try simp only [eL, ↓wk, ↓wl, nq, evV, ↓reduceIte, sevalprocAttr, hlsorted_4283, thlsorted_4283]
          refine AW.ret ?_
          cases H
          exact hQ _ _ _ _ (.inr rfl) (by simp only [resVs, omap, resV, ↓wk, ↓wl, nq, evV, ↓reduceIte, sevalprocAttr, hlsorted_4283, thlsorted_4283]; rfl) (hand_plain (by rfl)) (by first | exact Or.inl rfl | exact Or.inr rfl)
         ·try simp only [↓wk, ↓wl, nq, evV, ↓reduceIte, sevalprocAttr, hlsorted_4283, thlsorted_4283]
          refine AW.ret ?_
          cases H
          exact hQ _ _ _ _ (.inr rfl) (by simp only [resVs, omap, resV, ↓wk, ↓wl, nq, evV, ↓reduceIte, sevalprocAttr, hlsorted_4283, thlsorted_4283]; rfl) (hand_plain (by rfl)) (by first | exact Or.inl rfl | exact Or.inr rfl)
        ·try simp only [↓wk, ↓wl, nq, evV, ↓reduceIte, sevalprocAttr, hlsorted_4283, thlsorted_4283]
         refine AW.ret ?_
         cases H
         exact hQ _ _ _ _ (.inr rfl) (by simp only [resVs, omap, resV, ↓wk, ↓wl, nq, evV, ↓reduceIte, sevalprocAttr, hlsorted_4283, thlsorted_4283]; rfl) (hand_plain (by rfl)) (by first | exact Or.inl rfl | exact Or.inr rfl)
end Go.Proofs.Ytgfohogbechkkaa
