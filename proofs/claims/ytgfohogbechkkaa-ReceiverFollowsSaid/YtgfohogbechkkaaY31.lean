import Derived.Test.YtgfohogbechkkaaX2
import Derived.Test.YtgfohogbechkkaaProg
import Derived.KernelRfl
namespace Go.Proofs.Ytgfohogbechkkaa
open Go Go.Ab

set_option maxHeartbeats 1000000
set_option linter.unusedSimpArgs false
set_option linter.unusedVariables false
noncomputable def f101_L1 (r_891 : Ref57Receiver) (p_892 : Ref56Packet) : Lp (Bool × Int × (List Ref57Input)) (Bool × (List Ref57Input)) where
  body := fun (some_911, i_912, out_913) => (if (decide (i_912 < ((r_891.fInputs.length : Nat) : Int))) = true then (at? r_891.fInputs i_912).bind fun x_921 => (if (decide (x_921.fSource = p_892.fSource)) = true then (if (decide (x_921.fSync = p_892.fSync)) = true then (if (!(x_921.fWait == ([]))) = true then (app? 80 out_913 ([(Ref57Input.mk x_921.fUniverse x_921.fSource x_921.fPriority x_921.fSeq x_921.fSync x_921.fLast x_921.fWait ([]))])).bind fun out_922 => (some (.next (true, (IntKind.i64.wrap (i_912 + 1)), out_922))) else (app? 80 out_913 ([x_921])).bind fun out_923 => (some (.next (some_911, (IntKind.i64.wrap (i_912 + 1)), out_923)))) else (app? 80 out_913 ([x_921])).bind fun out_924 => (some (.next (some_911, (IntKind.i64.wrap (i_912 + 1)), out_924)))) else (app? 80 out_913 ([x_921])).bind fun out_925 => (some (.next (some_911, (IntKind.i64.wrap (i_912 + 1)), out_925)))) else (some (.brk (some_911, out_913))))
  cst := fun (some_911, i_912, out_913) => ⟨put (put (put (put (put (put (fun _ => .junk) 8 (.int .i64 i_912)) 7 (.bool some_911)) 6 (.ptr 3 0)) 4 (.ptr 2 0)) 3 (.ptr 1 0)) 2 (.ptr 0 0), [.cel [.sl 8 false (r_891.fInputs.map eRef57Input)], .cel [.int .u64 p_892.fSource, .int .i64 p_892.fUniverse, .int .i64 p_892.fPriority, .int .i64 p_892.fSeq, .int .i64 p_892.fSync, .bool p_892.fEnd, .str p_892.fSlots], .cel [.sl 8 true []], .cel [.row 8 4 0 out_913.length], .els 8 (out_913.map eRef57Input)]⟩
theorem f101_L1c (r_891 : Ref57Receiver) (p_892 : Ref56Packet) (some_911 : Bool) (i_912 : Int) (out_913 : (List Ref57Input)) : (f101_L1 r_891 p_892).cst (some_911, i_912, out_913) = ⟨put (put (put (put (put (put (fun _ => .junk) 8 (.int .i64 i_912)) 7 (.bool some_911)) 6 (.ptr 3 0)) 4 (.ptr 2 0)) 3 (.ptr 1 0)) 2 (.ptr 0 0), [.cel [.sl 8 false (r_891.fInputs.map eRef57Input)], .cel [.int .u64 p_892.fSource, .int .i64 p_892.fUniverse, .int .i64 p_892.fPriority, .int .i64 p_892.fSeq, .int .i64 p_892.fSync, .bool p_892.fEnd, .str p_892.fSlots], .cel [.sl 8 true []], .cel [.row 8 4 0 out_913.length], .els 8 (out_913.map eRef57Input)]⟩ := rfl
def c101_0 : C := .cond (.t 15) (.skip) (.exit 0)
def c101_1 : C := .reg [iI 7 (.mv (.c (.bool true)))]
def c101_2 : C := .cond (.t 39) (.seq (.reg [iI 40 (.faddr 7 (.t 9)), iI 41 (.load 0 (.t 40)), iI 42 (.faddr 6 (.t 9)), iN (.store 0 (.t 42) (.t 41)), iI 43 (.faddr 7 (.t 9)), iN (.store 0 (.t 43) (.c (.str [])))]) c101_1) (.skip)
def c101_3 : C := .reg [iI 44 (.faddr 0 (.t 6)), iI 45 (.load 0 (.t 44)), iI 46 (.load 8 (.t 9)), iI 47 (.mkslp 8 1 (.agg [(.int .i64 0), (.int .u64 0), (.int .i64 0), (.int .i64 0), (.int .i64 0), (.int .i64 0), (.str []), (.str [])]) [(0, (.t 46))]), iI 48 (.append 8 80 (.t 45) (.t 47)), iI 49 (.faddr 0 (.t 6)), iN (.store 0 (.t 49) (.t 48))]
def c101_4 : C := .seq (.seq (.reg [iI 23 (.faddr 1 (.t 9)), iI 24 (.load 0 (.t 23)), iI 25 (.faddr 0 (.t 3)), iI 26 (.load 0 (.t 25)), iI 27 (.bin .eql (.t 24) (.t 26)), iI 28 (.mv (.t 27)), iG (some 29) 28 true (.faddr 4 (.t 9)), iG (some 30) 28 true (.load 0 (.t 29)), iG (some 31) 28 true (.faddr 4 (.t 3)), iG (some 32) 28 true (.load 0 (.t 31)), iG (some 33) 28 true (.bin .eql (.t 30) (.t 32)), iI 34 (.pick (.t 28) (.t 33) (.c (.bool false))), iI 35 (.mv (.t 34)), iG (some 36) 35 true (.faddr 7 (.t 9)), iG (some 37) 35 true (.load 0 (.t 36)), iG (some 38) 35 true (.bin .neq (.t 37) (.c (.str []))), iI 39 (.pick (.t 35) (.t 38) (.c (.bool false)))]) c101_2) c101_3
def c101_5 : C := .reg [iI 16 (.mv (.t 8)), iI 17 (.bin .add (.t 16) (.c (.int .i64 1))), iI 8 (.mv (.t 17))]
def c101_6 : C := .seq (.block 1 (.seq (.reg [iI 18 (.faddr 0 (.t 2)), iI 19 (.load 0 (.t 18)), iI 20 (.mv (.t 8)), iI 21 (.iaddr 8 (.t 19) (.t 20)), iI 22 (.load 8 (.t 21)), iI 9 (.alloc [(1, (.int .i64 0)), (1, (.int .u64 0)), (1, (.int .i64 0)), (1, (.int .i64 0)), (1, (.int .i64 0)), (1, (.int .i64 0)), (1, (.str [])), (1, (.str []))]), iN (.store 8 (.t 9) (.t 22))]) c101_4)) c101_5
def c101_7 : C := .block 0 (.loop (.seq (.seq (.reg [iI 11 (.mv (.t 8)), iI 12 (.faddr 0 (.t 2)), iI 13 (.load 0 (.t 12)), iI 14 (.len 0 (.t 13)), iI 15 (.bin .lss (.t 11) (.t 14))]) c101_0) c101_6))
def c101_8 : C := .seq (.reg [iI 50 (.load 1 (.t 6)), iI 51 (.mv (.t 7)), iN (.store 1 (.t 4) (.t 50)), iI 5 (.mv (.t 51))]) .ret
def c101_9 : C := .seq (.seq (.reg [iI 8 (.mv (.c (.int .i64 0)))]) c101_7) c101_8
def c101_10 : C := .seq (.reg [iI 7 (.mv (.c (.bool false)))]) c101_9
def c101_11 : C := .seq (.reg [iI 10 (.build [(1, (.sl 8 true []))] []), iI 6 (.alloc [(1, (.sl 8 true []))]), iN (.store 1 (.t 6) (.t 10))]) c101_10
def ir101 : C := .seq (.reg [iI 2 (.box (.t 0)), iI 3 (.box (.t 1)), iI 4 (.alloc [(1, (.sl 8 true []))]), iI 5 (.mv (.c (.bool false)))]) c101_11
theorem fd101 : fd? Try.prog 101 = some (52, [.cell 4 1, .slot 5], ir101) := by kernel_rfl
noncomputable def f101 (r_891 : Ref57Receiver) (p_892 : Ref56Packet) : Option (Ref57Receiver × Bool) :=
  (Lp.run (f101_L1 r_891 p_892) (false, 0, [])).bind fun (some_919, out_920) => (some ((Ref57Receiver.mk out_920), some_919))
theorem f101_ok {r_891 : Ref57Receiver} {p_892 : Ref56Packet} {r_ : Ref57Receiver × Bool} (H : f101 r_891 p_892 = some r_) : Pure Try.prog 101 [.agg [.sl 8 false (r_891.fInputs.map eRef57Input)], .agg [.int .u64 p_892.fSource, .int .i64 p_892.fUniverse, .int .i64 p_892.fPriority, .int .i64 p_892.fSeq, .int .i64 p_892.fSync, .bool p_892.fEnd, .str p_892.fSlots]] (· = .tup [.agg [.sl 8 false (r_.1.fInputs.map eRef57Input)], .bool r_.2]) := by
  refine Pure.walk3 fd101 none (Nat.le_of_ble_eq_true rfl) (by rfl) fun Q hQ => ?_
  simp only [f101] at H
  refine AW.rseq ?_
  try simp only [↓wk, ↓wl, nc, evV, wrapBits_eq, ↓reduceIte, sevalprocAttr]
  refine AW.rseq ?_
  try simp only [↓wk, ↓wl, nc, evV, wrapBits_eq, ↓reduceIte, sevalprocAttr]
  refine AW.rseq ?_
  try simp only [↓wk, ↓wl, nc, evV, wrapBits_eq, ↓reduceIte, sevalprocAttr]
  refine AW.sseq ?_
  refine AW.rseq ?_
  try simp only [↓wk, ↓wl, nc, evV, wrapBits_eq, ↓reduceIte, sevalprocAttr]
  refine AW.bend ?_
  refine AW.iter H ((Le.trans (Le.nilCell (b := 3) (o := 0) (e := 8) (by rfl) (by rfl)) (Le.none [0, 1, 2, 3, 4] [2, 3, 4, 6, 7, 8] (by decide) (by simp only [f101_L1c, rrl, Option.map_some, vm, List.idxOf?_cons, List.idxOf?_nil, beq_self_eq_true, Option.map_none, List.getD_cons_zero, List.getD_cons_succ, ↓wk, ↓wl, nc, evV, wrapBits_eq, ↓reduceIte, sevalprocAttr] <;> rfl)))) ?_ <;> clear H
  rintro ⟨some_911, i_912, out_913⟩ x_ st0_ H hst_
  rw [f101_L1c] at hst_
  simp only [f101_L1] at H
  subst hst_
  refine AW.sseq ?_
  refine AW.rseq ?_
  try simp only [↓wk, ↓wl, nc, evV, wrapBits_eq, ↓reduceIte, sevalprocAttr]
  refine AW.ifc H (by rfl) ?_ ?_ <;> clear H <;> intro H
  · refine AW.skip ?_
    refine seqQ.norm ?_
    refine AW.bseq ?_
    refine AW.rseq ?_
    try simp only [↓wk, ↓wl, nc, evV, wrapBits_eq, ↓reduceIte, sevalprocAttr]
    refine evTs_at (enc := eRef57Input) H (by rfl) (by rfl) ?_ <;> clear H <;> intro x_921 H
    try simp only [eRef57Input, eL, ↓wk, ↓wl, nc, evV, wrapBits_eq, ↓reduceIte, sevalprocAttr]
    refine AW.sseq ?_
    refine AW.rseq ?_
    try simp only [↓wk, ↓wl, nc, evV, wrapBits_eq, ↓reduceIte, sevalprocAttr]
    refine evTs_ifg H (by rfl) ?_ ?_ <;> clear H <;> intro H
    · try simp only [↓wk, ↓wl, nc, evV, wrapBits_eq, ↓reduceIte, sevalprocAttr]
      refine evTs_ifg H (by rfl) ?_ ?_ <;> clear H <;> intro H
      · try simp only [↓wk, ↓wl, nc, evV, wrapBits_eq, ↓reduceIte, sevalprocAttr]
        refine AW.ifc H (by rfl) ?_ ?_ <;> clear H <;> intro H
        · refine AW.rseq ?_
          try simp only [↓wk, ↓wl, nc, evV, wrapBits_eq, ↓reduceIte, sevalprocAttr]
          refine AW.rend ?_
          try simp only [↓wk, ↓wl, nc, evV, wrapBits_eq, ↓reduceIte, sevalprocAttr]
          refine seqQ.norm ?_
          refine AW.rend ?_
          try simp only [↓wk, ↓wl, nc, evV, wrapBits_eq, ↓reduceIte, sevalprocAttr]
          refine evTs_app (enc := eRef57Input) H (by rfl) (by first | rfl | simp only [List.length_set]) (by rfl) (by rfl) ?_ <;> clear H <;> intro out_922 H
          try simp only [↓wk, ↓wl, nc, evV, wrapBits_eq, ↓reduceIte, sevalprocAttr]
          refine blkQ.norm ?_
          refine AW.rend ?_
          try simp only [↓wk, ↓wl, nc, evV, wrapBits_eq, ↓reduceIte, sevalprocAttr]
          exact loopQ.next H ((Le.none [0, 1, 2, 3, 6] [2, 3, 4, 6, 7, 8] (by decide) (by simp only [f101_L1c, rrl, Option.map_some, vm, List.idxOf?_cons, List.idxOf?_nil, beq_self_eq_true, Option.map_none, List.getD_cons_zero, List.getD_cons_succ, ↓wk, ↓wl, nc, evV, wrapBits_eq, ↓reduceIte, sevalprocAttr] <;> rfl)))
        · refine AW.skip ?_
          refine seqQ.norm ?_
          refine AW.rend ?_
          try simp only [↓wk, ↓wl, nc, evV, wrapBits_eq, ↓reduceIte, sevalprocAttr]
          refine evTs_app (enc := eRef57Input) H (by rfl) (by first | rfl | simp only [List.length_set]) (by rfl) (by rfl) ?_ <;> clear H <;> intro out_923 H
          try simp only [↓wk, ↓wl, nc, evV, wrapBits_eq, ↓reduceIte, sevalprocAttr]
          refine blkQ.norm ?_
          refine AW.rend ?_
          try simp only [↓wk, ↓wl, nc, evV, wrapBits_eq, ↓reduceIte, sevalprocAttr]
          exact loopQ.next H ((Le.none [0, 1, 2, 3, 6] [2, 3, 4, 6, 7, 8] (by decide) (by simp only [f101_L1c, rrl, Option.map_some, vm, List.idxOf?_cons, List.idxOf?_nil, beq_self_eq_true, Option.map_none, List.getD_cons_zero, List.getD_cons_succ, ↓wk, ↓wl, nc, evV, wrapBits_eq, ↓reduceIte, sevalprocAttr] <;> rfl)))
      · try simp only [↓wk, ↓wl, nc, evV, wrapBits_eq, ↓reduceIte, sevalprocAttr]
        refine AW.iff (by rfl) ?_
        refine AW.skip ?_
        refine seqQ.norm ?_
        refine AW.rend ?_
        try simp only [↓wk, ↓wl, nc, evV, wrapBits_eq, ↓reduceIte, sevalprocAttr]
        refine evTs_app (enc := eRef57Input) H (by rfl) (by first | rfl | simp only [List.length_set]) (by rfl) (by rfl) ?_ <;> clear H <;> intro out_924 H
        try simp only [↓wk, ↓wl, nc, evV, wrapBits_eq, ↓reduceIte, sevalprocAttr]
        refine blkQ.norm ?_
        refine AW.rend ?_
        try simp only [↓wk, ↓wl, nc, evV, wrapBits_eq, ↓reduceIte, sevalprocAttr]
        exact loopQ.next H ((Le.none [0, 1, 2, 3, 6] [2, 3, 4, 6, 7, 8] (by decide) (by simp only [f101_L1c, rrl, Option.map_some, vm, List.idxOf?_cons, List.idxOf?_nil, beq_self_eq_true, Option.map_none, List.getD_cons_zero, List.getD_cons_succ, ↓wk, ↓wl, nc, evV, wrapBits_eq, ↓reduceIte, sevalprocAttr] <;> rfl)))
    · try simp only [↓wk, ↓wl, nc, evV, wrapBits_eq, ↓reduceIte, sevalprocAttr]
      refine AW.iff (by rfl) ?_
      refine AW.skip ?_
      refine seqQ.norm ?_
      refine AW.rend ?_
      try simp only [↓wk, ↓wl, nc, evV, wrapBits_eq, ↓reduceIte, sevalprocAttr]
      refine evTs_app (enc := eRef57Input) H (by rfl) (by first | rfl | simp only [List.length_set]) (by rfl) (by rfl) ?_ <;> clear H <;> intro out_925 H
      try simp only [↓wk, ↓wl, nc, evV, wrapBits_eq, ↓reduceIte, sevalprocAttr]
      refine blkQ.norm ?_
      refine AW.rend ?_
      try simp only [↓wk, ↓wl, nc, evV, wrapBits_eq, ↓reduceIte, sevalprocAttr]
      exact loopQ.next H ((Le.none [0, 1, 2, 3, 6] [2, 3, 4, 6, 7, 8] (by decide) (by simp only [f101_L1c, rrl, Option.map_some, vm, List.idxOf?_cons, List.idxOf?_nil, beq_self_eq_true, Option.map_none, List.getD_cons_zero, List.getD_cons_succ, ↓wk, ↓wl, nc, evV, wrapBits_eq, ↓reduceIte, sevalprocAttr] <;> rfl)))
  · refine AW.exit ?_
    refine seqQ.exit ?_
    refine loopQ.exit H ?_ <;> clear H <;> intro H
    try dsimp only at H
    refine blk0.here ?_
    refine seqQ.norm ?_
    refine AW.rseq ?_
    try simp only [↓wk, ↓wl, nc, evV, wrapBits_eq, ↓reduceIte, sevalprocAttr]
    refine AW.ret ?_
    cases H
    exact hQ _ _ _ _ (.inr rfl) (by simp only [resVs, omap, resV, ↓wk, ↓wl, nc, evV, wrapBits_eq, ↓reduceIte, sevalprocAttr]; rfl) (by simp only [handOver, deep_eq, imm_simps, imm_rowE, imm_ptrE, imm_enc, omap_simps, take_map_len, take_map_set, take_map_set2, le_refl_true, Nat.zero_add, and_true, true_and, List.drop_zero, Option.map_some, ↓wk, ↓wl, nc, evV, wrapBits_eq, ↓reduceIte, sevalprocAttr]; rfl) (by first | exact Or.inl rfl | exact Or.inr rfl)
noncomputable def f102_L1 (l_928 : (List Ref57Input)) (universe_929 : Int) (source_930 : Int) : Lp (Int) (Int) where
  body := fun i_945 => (if (decide (i_945 < ((l_928.length : Nat) : Int))) = true then (at? l_928 i_945).bind fun x_951 => (f67 x_951 (Ref57Input.mk universe_929 source_930 0 0 0 0 ([]) ([]))).bind fun r_952 => (if r_952 = true then (some (.next (IntKind.i64.wrap (i_945 + 1)))) else (some (.brk i_945))) else (some (.brk i_945)))
  cst := fun i_945 => ⟨put (put (put (put (fun _ => .junk) 8 (.int .i64 i_945)) 2 (.int .u64 source_930)) 1 (.int .i64 universe_929)) 0 (.sl 8 false (l_928.map eRef57Input)), []⟩
theorem f102_L1c (l_928 : (List Ref57Input)) (universe_929 : Int) (source_930 : Int) (i_945 : Int) : (f102_L1 l_928 universe_929 source_930).cst i_945 = ⟨put (put (put (put (fun _ => .junk) 8 (.int .i64 i_945)) 2 (.int .u64 source_930)) 1 (.int .i64 universe_929)) 0 (.sl 8 false (l_928.map eRef57Input)), []⟩ := rfl
def c102_0 : C := .cond (.t 22) (.skip) (.exit 0)
def c102_1 : C := .block 1 (.reg [iI 23 (.mv (.t 8)), iI 24 (.bin .add (.t 23) (.c (.int .i64 1))), iI 8 (.mv (.t 24))])
def c102_2 : C := .seq (.reg [iI 25 (.mv (.t 8)), iI 26 (.mv (.t 8)), iI 27 (.mv (.t 0)), iI 28 (.len 0 (.t 27)), iI 29 (.bin .lss (.t 26) (.t 28)), iI 30 (.mv (.t 29)), iG (some 31) 30 true (.mv (.t 0)), iG (some 32) 30 true (.mv (.t 8)), iG (some 33) 30 true (.iaddr 8 (.t 31) (.t 32)), iG (some 34) 30 true (.faddr 0 (.t 33)), iG (some 35) 30 true (.load 0 (.t 34)), iG (some 36) 30 true (.mv (.t 1)), iG (some 37) 30 true (.bin .eql (.t 35) (.t 36)), iI 38 (.pick (.t 30) (.t 37) (.c (.bool false))), iI 39 (.mv (.t 38)), iG (some 40) 39 true (.mv (.t 0)), iG (some 41) 39 true (.mv (.t 8)), iG (some 42) 39 true (.iaddr 8 (.t 40) (.t 41)), iG (some 43) 39 true (.faddr 1 (.t 42)), iG (some 44) 39 true (.load 0 (.t 43)), iG (some 45) 39 true (.mv (.t 2)), iG (some 46) 39 true (.bin .eql (.t 44) (.t 45)), iI 47 (.pick (.t 39) (.t 46) (.c (.bool false))), iI 6 (.mv (.t 25)), iI 7 (.mv (.t 47))]) .ret
def c102_3 : C := .seq (.block 0 (.loop (.seq (.seq (.reg [iI 9 (.mv (.t 8)), iI 10 (.mv (.t 0)), iI 11 (.len 0 (.t 10)), iI 12 (.bin .lss (.t 9) (.t 11)), iI 13 (.mv (.t 12)), iG (some 14) 13 true (.mv (.t 0)), iG (some 15) 13 true (.mv (.t 8)), iG (some 16) 13 true (.iaddr 8 (.t 14) (.t 15)), iG (some 17) 13 true (.load 8 (.t 16)), iG (some 18) 13 true (.mv (.t 1)), iG (some 19) 13 true (.mv (.t 2)), iG (some 20) 13 true (.build [(1, (.int .i64 0)), (1, (.int .u64 0)), (1, (.int .i64 0)), (1, (.int .i64 0)), (1, (.int .i64 0)), (1, (.int .i64 0)), (1, (.str [])), (1, (.str []))] [(0, 0, (.t 18)), (1, 0, (.t 19))]), iG (some 21) 13 true (.call (.c (.fn 67 [])) [(.t 17), (.t 20)]), iI 22 (.pick (.t 13) (.t 21) (.c (.bool false)))]) c102_0) c102_1))) c102_2
def c102_4 : C := .seq (.reg [iI 8 (.mv (.c (.int .i64 0)))]) c102_3
def ir102 : C := .seq (.reg [iI 6 (.mv (.c (.int .i64 0))), iI 7 (.mv (.c (.bool false)))]) c102_4
theorem fd102 : fd? Try.prog 102 = some (48, [.slot 6, .slot 7], ir102) := by kernel_rfl
noncomputable def f102 (l_928 : (List Ref57Input)) (universe_929 : Int) (source_930 : Int) : Option (Int × Bool) :=
  (Lp.run (f102_L1 l_928 universe_929 source_930) 0).bind fun i_948 => (if (decide (i_948 < ((l_928.length : Nat) : Int))) = true then (at? l_928 i_948).bind fun x_949 => (if (decide (x_949.fUniverse = universe_929)) = true then (at? l_928 i_948).bind fun x_950 => (some (i_948, (decide (x_950.fSource = source_930)))) else (some (i_948, false))) else (some (i_948, false)))
theorem f102_ok {l_928 : (List Ref57Input)} {universe_929 : Int} {source_930 : Int} {r_ : Int × Bool} (H : f102 l_928 universe_929 source_930 = some r_) : Pure Try.prog 102 [.sl 8 false (l_928.map eRef57Input), .int .i64 universe_929, .int .u64 source_930] (· = .tup [.int .i64 r_.1, .bool r_.2]) := by
  refine Pure.walk3 fd102 none (Nat.le_of_ble_eq_true rfl) (by rfl) fun Q hQ => ?_
  simp only [f102] at H
  refine AW.rseq ?_
  try simp only [↓wk, ↓wl, nc, evV, wrapBits_eq, ↓reduceIte, sevalprocAttr]
  refine AW.rseq ?_
  try simp only [↓wk, ↓wl, nc, evV, wrapBits_eq, ↓reduceIte, sevalprocAttr]
  refine AW.bseq ?_
  refine AW.iter H ((Le.none [] [0, 1, 2, 8] (by decide) (by simp only [f102_L1c, rrl, Option.map_some, vm, List.idxOf?_cons, List.idxOf?_nil, beq_self_eq_true, Option.map_none, List.getD_cons_zero, List.getD_cons_succ, ↓wk, ↓wl, nc, evV, wrapBits_eq, ↓reduceIte, sevalprocAttr] <;> rfl))) ?_ <;> clear H
  rintro i_945 x_ st0_ H hst_
  rw [f102_L1c] at hst_
  simp only [f102_L1] at H
  subst hst_
  refine AW.sseq ?_
  refine AW.rseq ?_
  try simp only [↓wk, ↓wl, nc, evV, wrapBits_eq, ↓reduceIte, sevalprocAttr]
  refine evTs_ifg H (by rfl) ?_ ?_ <;> clear H <;> intro H
  · try simp only [↓wk, ↓wl, nc, evV, wrapBits_eq, ↓reduceIte, sevalprocAttr]
    refine evTs_at (enc := eRef57Input) H (by rfl) (by rfl) ?_ <;> clear H <;> intro x_951 H
    try simp only [eRef57Input, eL, ↓wk, ↓wl, nc, evV, wrapBits_eq, ↓reduceIte, sevalprocAttr]
    refine evTs_pure hFn H (fun _ h => f67_ok h) (by rfl) (by rfl) (by rfl) (by rfl) (fun _ => rfl) ?_ <;> clear H <;> intro r_952 H
    try simp only [eL, ↓wk, ↓wl, nc, evV, wrapBits_eq, ↓reduceIte, sevalprocAttr]
    refine AW.ifc H (by rfl) ?_ ?_ <;> clear H <;> intro H
    · refine AW.skip ?_
      refine seqQ.norm ?_
      refine AW.bend ?_
      refine AW.rend ?_
      try simp only [↓wk, ↓wl, nc, evV, wrapBits_eq, ↓reduceIte, sevalprocAttr]
      refine blk0.norm ?_
      exact loopQ.next H ((Le.none [] [0, 1, 2, 8] (by decide) (by simp only [f102_L1c, rrl, Option.map_some, vm, List.idxOf?_cons, List.idxOf?_nil, beq_self_eq_true, Option.map_none, List.getD_cons_zero, List.getD_cons_succ, ↓wk, ↓wl, nc, evV, wrapBits_eq, ↓reduceIte, sevalprocAttr] <;> rfl)))
    · refine AW.exit ?_
      refine seqQ.exit ?_
      refine loopQ.exit H ?_ <;> clear H <;> intro H
      try dsimp only at H
      refine blkQ.here ?_
      refine AW.rseq ?_
      try simp only [↓wk, ↓wl, nc, evV, wrapBits_eq, ↓reduceIte, sevalprocAttr]
      refine evTs_ifg H (by rfl) ?_ ?_ <;> clear H <;> intro H
      · try simp only [↓wk, ↓wl, nc, evV, wrapBits_eq, ↓reduceIte, sevalprocAttr]
        refine evTs_at (enc := eRef57Input) H (by rfl) (by rfl) ?_ <;> clear H <;> intro x_953 H
        try simp only [eRef57Input, eL, ↓wk, ↓wl, nc, evV, wrapBits_eq, ↓reduceIte, sevalprocAttr]
        refine evTs_ifg H (by rfl) ?_ ?_ <;> clear H <;> intro H
        · try simp only [↓wk, ↓wl, nc, evV, wrapBits_eq, ↓reduceIte, sevalprocAttr]
          refine evTs_at (enc := eRef57Input) H (by rfl) (by rfl) ?_ <;> clear H <;> intro x_954 H
          try simp only [eRef57Input, eL, ↓wk, ↓wl, nc, evV, wrapBits_eq, ↓reduceIte, sevalprocAttr]
          refine AW.ret ?_
          cases H
          exact hQ _ _ _ _ (.inr rfl) (by simp only [resVs, omap, resV, ↓wk, ↓wl, nc, evV, wrapBits_eq, ↓reduceIte, sevalprocAttr]; rfl) (hand_plain (by rfl)) (by first | exact Or.inl rfl | exact Or.inr rfl)
        · try simp only [↓wk, ↓wl, nc, evV, wrapBits_eq, ↓reduceIte, sevalprocAttr]
          refine AW.ret ?_
          cases H
          exact hQ _ _ _ _ (.inr rfl) (by simp only [resVs, omap, resV, ↓wk, ↓wl, nc, evV, wrapBits_eq, ↓reduceIte, sevalprocAttr]; rfl) (hand_plain (by rfl)) (by first | exact Or.inl rfl | exact Or.inr rfl)
      · try simp only [↓wk, ↓wl, nc, evV, wrapBits_eq, ↓reduceIte, sevalprocAttr]
        refine AW.ret ?_
        cases H
        exact hQ _ _ _ _ (.inr rfl) (by simp only [resVs, omap, resV, ↓wk, ↓wl, nc, evV, wrapBits_eq, ↓reduceIte, sevalprocAttr]; rfl) (hand_plain (by rfl)) (by first | exact Or.inl rfl | exact Or.inr rfl)
  · try simp only [↓wk, ↓wl, nc, evV, wrapBits_eq, ↓reduceIte, sevalprocAttr]
    refine AW.iff (by rfl) ?_
    refine AW.exit ?_
    refine seqQ.exit ?_
    refine loopQ.exit H ?_ <;> clear H <;> intro H
    try dsimp only at H
    refine blkQ.here ?_
    refine AW.rseq ?_
    try simp only [↓wk, ↓wl, nc, evV, wrapBits_eq, ↓reduceIte, sevalprocAttr]
    refine evTs_ifg H (by rfl) ?_ ?_ <;> clear H <;> intro H
    · try simp only [↓wk, ↓wl, nc, evV, wrapBits_eq, ↓reduceIte, sevalprocAttr]
      refine evTs_at (enc := eRef57Input) H (by rfl) (by rfl) ?_ <;> clear H <;> intro x_955 H
      try simp only [eRef57Input, eL, ↓wk, ↓wl, nc, evV, wrapBits_eq, ↓reduceIte, sevalprocAttr]
      refine evTs_ifg H (by rfl) ?_ ?_ <;> clear H <;> intro H
      · try simp only [↓wk, ↓wl, nc, evV, wrapBits_eq, ↓reduceIte, sevalprocAttr]
        refine evTs_at (enc := eRef57Input) H (by rfl) (by rfl) ?_ <;> clear H <;> intro x_956 H
        try simp only [eRef57Input, eL, ↓wk, ↓wl, nc, evV, wrapBits_eq, ↓reduceIte, sevalprocAttr]
        refine AW.ret ?_
        cases H
        exact hQ _ _ _ _ (.inr rfl) (by simp only [resVs, omap, resV, ↓wk, ↓wl, nc, evV, wrapBits_eq, ↓reduceIte, sevalprocAttr]; rfl) (hand_plain (by rfl)) (by first | exact Or.inl rfl | exact Or.inr rfl)
      · try simp only [↓wk, ↓wl, nc, evV, wrapBits_eq, ↓reduceIte, sevalprocAttr]
        refine AW.ret ?_
        cases H
        exact hQ _ _ _ _ (.inr rfl) (by simp only [resVs, omap, resV, ↓wk, ↓wl, nc, evV, wrapBits_eq, ↓reduceIte, sevalprocAttr]; rfl) (hand_plain (by rfl)) (by first | exact Or.inl rfl | exact Or.inr rfl)
    · try simp only [↓wk, ↓wl, nc, evV, wrapBits_eq, ↓reduceIte, sevalprocAttr]
      refine AW.ret ?_
      cases H
      exact hQ _ _ _ _ (.inr rfl) (by simp only [resVs, omap, resV, ↓wk, ↓wl, nc, evV, wrapBits_eq, ↓reduceIte, sevalprocAttr]; rfl) (hand_plain (by rfl)) (by first | exact Or.inl rfl | exact Or.inr rfl)
noncomputable def f143_L1 : Lp ((List Int)) ((List Int)) where
  body := fun out_967 => (if (decide (((out_967.length : Nat) : Int) < 512)) = true then (app? 1 out_967 ([0])).bind fun out_970 => (some (.next out_970)) else (some (.brk out_967)))
  cst := fun out_967 => ⟨put (fun _ => .junk) 3 (.row 0 0 0 out_967.length), [.els 0 (out_967.map (AV.int .u8))]⟩
theorem f143_L1c (out_967 : (List Int)) : (f143_L1).cst out_967 = ⟨put (fun _ => .junk) 3 (.row 0 0 0 out_967.length), [.els 0 (out_967.map (AV.int .u8))]⟩ := rfl
def c143_0 : C := .cond (.t 8) (.skip) (.exit 0)
def c143_1 : C := .block 1 (.reg [iI 9 (.mv (.t 3)), iI 10 (.mkslp 0 1 (.int .u8 0) [(0, (.c (.int .u8 0)))]), iI 11 (.append 0 1 (.t 9) (.t 10)), iI 3 (.mv (.t 11))])
def c143_2 : C := .seq (.reg [iI 12 (.mv (.t 3)), iI 13 (.cstr (.t 12)), iI 2 (.mv (.t 13))]) .ret
def c143_3 : C := .seq (.block 0 (.loop (.seq (.seq (.reg [iI 6 (.mv (.t 3)), iI 7 (.len 0 (.t 6)), iI 8 (.bin .lss (.t 7) (.c (.int .i64 512)))]) c143_0) c143_1))) c143_2
def c143_4 : C := .seq (.reg [iI 4 (.mv (.t 0)), iI 5 (.cbytes (.t 4)), iI 3 (.mv (.t 5))]) c143_3
def ir143 : C := .seq (.reg [iI 2 (.mv (.c (.str [])))]) c143_4
theorem fd143 : fd? Try.prog 143 = some (14, [.slot 2], ir143) := by kernel_rfl
noncomputable def f143 (s_963 : (List UInt8)) : Option ((List UInt8)) :=
  (room? s_963.length).bind fun _ => (Lp.run (f143_L1) (b2i s_963)).bind fun out_969 => (some (out_969.map b8))
theorem f143_ok {s_963 : (List UInt8)} {r_ : (List UInt8)} (H : f143 s_963 = some r_) : Pure Try.prog 143 [.str s_963] (· = .str r_) := by
  refine Pure.walk3 fd143 none (Nat.le_of_ble_eq_true rfl) (by rfl) fun Q hQ => ?_
  simp only [f143] at H
  refine AW.rseq ?_
  try simp only [↓wk, ↓wl, nc, evV, wrapBits_eq, ↓reduceIte, sevalprocAttr]
  refine AW.rseq ?_
  try simp only [↓wk, ↓wl, nc, evV, wrapBits_eq, ↓reduceIte, sevalprocAttr]
  refine evTs_cbytes H (by rfl) ?_ <;> clear H <;> intro H
  try simp only [↓wk, ↓wl, nc, evV, wrapBits_eq, ↓reduceIte, sevalprocAttr]
  refine AW.bseq ?_
  refine AW.iter H ((Le.none [0] [3] (by decide) (by simp only [f143_L1c, rrl, Option.map_some, vm, List.idxOf?_cons, List.idxOf?_nil, beq_self_eq_true, Option.map_none, List.getD_cons_zero, List.getD_cons_succ, ↓wk, ↓wl, nc, evV, wrapBits_eq, ↓reduceIte, sevalprocAttr] <;> rfl))) ?_ <;> clear H
  rintro out_967 x_ st0_ H hst_
  rw [f143_L1c] at hst_
  unfold f143_L1 at H
  try dsimp only at H
  subst hst_
  refine AW.sseq ?_
  refine AW.rseq ?_
  try simp only [↓wk, ↓wl, nc, evV, wrapBits_eq, ↓reduceIte, sevalprocAttr]
  refine AW.ifc H (by rfl) ?_ ?_ <;> clear H <;> intro H
  · refine AW.skip ?_
    refine seqQ.norm ?_
    refine AW.bend ?_
    refine AW.rend ?_
    try simp only [↓wk, ↓wl, nc, evV, wrapBits_eq, ↓reduceIte, sevalprocAttr]
    refine evTs_app (enc := (AV.int .u8)) H (by rfl) (by first | rfl | simp only [List.length_set]) (by rfl) (by rfl) ?_ <;> clear H <;> intro out_970 H
    try simp only [↓wk, ↓wl, nc, evV, wrapBits_eq, ↓reduceIte, sevalprocAttr]
    refine blk0.norm ?_
    exact loopQ.next H ((Le.none [1] [3] (by decide) (by simp only [f143_L1c, rrl, Option.map_some, vm, List.idxOf?_cons, List.idxOf?_nil, beq_self_eq_true, Option.map_none, List.getD_cons_zero, List.getD_cons_succ, ↓wk, ↓wl, nc, evV, wrapBits_eq, ↓reduceIte, sevalprocAttr] <;> rfl)))
  · refine AW.exit ?_
    refine seqQ.exit ?_
    refine loopQ.exit H ?_ <;> clear H <;> intro H
    try dsimp only at H
    refine blkQ.here ?_
    refine AW.rseq ?_
    try simp only [↓wk, ↓wl, nc, evV, wrapBits_eq, ↓reduceIte, sevalprocAttr]
    refine evTs_cstrr (xs := out_967) (by rfl) (by rfl) (by rfl) ?_
    try simp only [↓wk, ↓wl, nc, evV, wrapBits_eq, ↓reduceIte, sevalprocAttr]
    refine AW.ret ?_
    cases H
    exact hQ _ _ _ _ (.inr rfl) (by simp only [resVs, omap, resV, ↓wk, ↓wl, nc, evV, wrapBits_eq, ↓reduceIte, sevalprocAttr]; rfl) (hand_plain (by rfl)) (by first | exact Or.inl rfl | exact Or.inr rfl)
noncomputable def f103_J1 (p_962 : Ref56Packet) (x_960 : Ref57Input) (t_961 : Int) : Jn (Unit) (Ref57Input) where
  run := fun _ => (if (decide (p_962.fSync = 0)) = true then (f143 p_962.fSlots).bind fun r_971 => (some (Ref57Input.mk x_960.fUniverse x_960.fSource p_962.fPriority p_962.fSeq p_962.fSync t_961 r_971 ([]))) else (f143 p_962.fSlots).bind fun r_972 => (some (Ref57Input.mk x_960.fUniverse x_960.fSource p_962.fPriority p_962.fSeq p_962.fSync t_961 x_960.fSlots r_972)))
  cst := fun _ => ⟨put (put (put (fun _ => .junk) 6 (.ptr 2 0)) 5 (.ptr 1 0)) 3 (.ptr 0 0), [.cel [.int .i64 x_960.fUniverse, .int .u64 x_960.fSource, .int .i64 p_962.fPriority, .int .i64 p_962.fSeq, .int .i64 p_962.fSync, .int .i64 t_961, .str x_960.fSlots, .str x_960.fWait], .cel [.int .u64 p_962.fSource, .int .i64 p_962.fUniverse, .int .i64 p_962.fPriority, .int .i64 p_962.fSeq, .int .i64 p_962.fSync, .bool p_962.fEnd, .str p_962.fSlots], .cel [.int .i64 0, .int .u64 0, .int .i64 0, .int .i64 0, .int .i64 0, .int .i64 0, .str ([]), .str ([])]]⟩
theorem f103_J1c (p_962 : Ref56Packet) (x_960 : Ref57Input) (t_961 : Int) (x_ : Unit) : (f103_J1 p_962 x_960 t_961).cst x_ = ⟨put (put (put (fun _ => .junk) 6 (.ptr 2 0)) 5 (.ptr 1 0)) 3 (.ptr 0 0), [.cel [.int .i64 x_960.fUniverse, .int .u64 x_960.fSource, .int .i64 p_962.fPriority, .int .i64 p_962.fSeq, .int .i64 p_962.fSync, .int .i64 t_961, .str x_960.fSlots, .str x_960.fWait], .cel [.int .u64 p_962.fSource, .int .i64 p_962.fUniverse, .int .i64 p_962.fPriority, .int .i64 p_962.fSeq, .int .i64 p_962.fSync, .bool p_962.fEnd, .str p_962.fSlots], .cel [.int .i64 0, .int .u64 0, .int .i64 0, .int .i64 0, .int .i64 0, .int .i64 0, .str ([]), .str ([])]]⟩ := rfl
def c103_0 : C := .cond (.t 20) (.reg [iI 21 (.faddr 6 (.t 5)), iI 22 (.load 0 (.t 21)), iI 23 (.call (.c (.fn 143 [])) [(.t 22)]), iI 24 (.faddr 6 (.t 3)), iN (.store 0 (.t 24) (.t 23)), iI 25 (.faddr 7 (.t 3)), iN (.store 0 (.t 25) (.c (.str [])))]) (.reg [iI 26 (.faddr 6 (.t 5)), iI 27 (.load 0 (.t 26)), iI 28 (.call (.c (.fn 143 [])) [(.t 27)]), iI 29 (.faddr 7 (.t 3)), iN (.store 0 (.t 29) (.t 28))])
def c103_1 : C := .seq (.reg [iI 30 (.load 8 (.t 3)), iN (.store 8 (.t 6) (.t 30))]) .ret
def c103_2 : C := .seq (.seq (.reg [iI 18 (.faddr 4 (.t 5)), iI 19 (.load 0 (.t 18)), iI 20 (.bin .eql (.t 19) (.c (.int .i64 0)))]) c103_0) c103_1
def c103_3 : C := .seq (.regt (.fork [iI 7 (.faddr 2 (.t 5)), iI 8 (.load 0 (.t 7)), iI 9 (.faddr 3 (.t 5)), iI 11 (.faddr 4 (.t 5)), iI 13 (.mv (.t 1)), iI 14 (.faddr 2 (.t 3))] (.fork [iI 10 (.load 0 (.t 9))] (.run [iI 12 (.load 0 (.t 11)), iN (.store 0 (.t 14) (.t 8)), iI 15 (.faddr 3 (.t 3)), iN (.store 0 (.t 15) (.t 10)), iI 16 (.faddr 4 (.t 3)), iN (.store 0 (.t 16) (.t 12)), iI 17 (.faddr 5 (.t 3)), iN (.store 0 (.t 17) (.t 13))]) (.fork [iN (.store 0 (.t 14) (.t 8)), iI 15 (.faddr 3 (.t 3))] (.run [iI 12 (.load 0 (.t 11)), iN (.store 0 (.t 15) (.t 10)), iI 16 (.faddr 4 (.t 3)), iN (.store 0 (.t 16) (.t 12)), iI 17 (.faddr 5 (.t 3)), iN (.store 0 (.t 17) (.t 13))]) (.run [iN (.store 0 (.t 15) (.t 10)), iI 12 (.load 0 (.t 11)), iI 16 (.faddr 4 (.t 3)), iN (.store 0 (.t 16) (.t 12)), iI 17 (.faddr 5 (.t 3)), iN (.store 0 (.t 17) (.t 13))]))) (.fork [] (.fork [iI 12 (.load 0 (.t 11))] (.run [iI 10 (.load 0 (.t 9)), iN (.store 0 (.t 14) (.t 8)), iI 15 (.faddr 3 (.t 3)), iN (.store 0 (.t 15) (.t 10)), iI 16 (.faddr 4 (.t 3)), iN (.store 0 (.t 16) (.t 12)), iI 17 (.faddr 5 (.t 3)), iN (.store 0 (.t 17) (.t 13))]) (.run [iN (.store 0 (.t 14) (.t 8)), iI 10 (.load 0 (.t 9)), iI 15 (.faddr 3 (.t 3)), iN (.store 0 (.t 15) (.t 10)), iI 16 (.faddr 4 (.t 3)), iN (.store 0 (.t 16) (.t 12)), iI 17 (.faddr 5 (.t 3)), iN (.store 0 (.t 17) (.t 13))])) (.fork [iN (.store 0 (.t 14) (.t 8)), iI 10 (.load 0 (.t 9)), iI 15 (.faddr 3 (.t 3))] (.run [iI 12 (.load 0 (.t 11)), iN (.store 0 (.t 15) (.t 10)), iI 16 (.faddr 4 (.t 3)), iN (.store 0 (.t 16) (.t 12)), iI 17 (.faddr 5 (.t 3)), iN (.store 0 (.t 17) (.t 13))]) (.run [iN (.store 0 (.t 15) (.t 10)), iI 12 (.load 0 (.t 11)), iI 16 (.faddr 4 (.t 3)), iN (.store 0 (.t 16) (.t 12)), iI 17 (.faddr 5 (.t 3)), iN (.store 0 (.t 17) (.t 13))]))))) c103_2
def ir103 : C := .seq (.reg [iI 3 (.box (.t 0)), iI 5 (.box (.t 2)), iI 6 (.alloc [(1, (.int .i64 0)), (1, (.int .u64 0)), (1, (.int .i64 0)), (1, (.int .i64 0)), (1, (.int .i64 0)), (1, (.int .i64 0)), (1, (.str [])), (1, (.str []))])]) c103_3
theorem fd103 : fd? Try.prog 103 = some (31, [.cell 6 8], ir103) := by kernel_rfl
noncomputable def f103 (x_960 : Ref57Input) (t_961 : Int) (p_962 : Ref56Packet) : Option (Ref57Input) :=
  ((f103_J1 p_962 x_960 t_961).run ())
theorem f103_ok {x_960 : Ref57Input} {t_961 : Int} {p_962 : Ref56Packet} {r_ : Ref57Input} (H : f103 x_960 t_961 p_962 = some r_) : Pure Try.prog 103 [.agg [.int .i64 x_960.fUniverse, .int .u64 x_960.fSource, .int .i64 x_960.fPriority, .int .i64 x_960.fSeq, .int .i64 x_960.fSync, .int .i64 x_960.fLast, .str x_960.fSlots, .str x_960.fWait], .int .i64 t_961, .agg [.int .u64 p_962.fSource, .int .i64 p_962.fUniverse, .int .i64 p_962.fPriority, .int .i64 p_962.fSeq, .int .i64 p_962.fSync, .bool p_962.fEnd, .str p_962.fSlots]] (· = .agg [.int .i64 r_.fUniverse, .int .u64 r_.fSource, .int .i64 r_.fPriority, .int .i64 r_.fSeq, .int .i64 r_.fSync, .int .i64 r_.fLast, .str r_.fSlots, .str r_.fWait]) := by
  refine Pure.walk3 fd103 none (Nat.le_of_ble_eq_true rfl) (by rfl) fun Q hQ => ?_
  simp only [f103] at H
  refine AW.rseq ?_
  try simp only [↓wk, ↓wl, nc, evV, wrapBits_eq, ↓reduceIte, sevalprocAttr]
  refine AW.join (f103_J1 p_962 x_960 t_961) H ?_ fun hf103_J1 => ?_
  · clear H
    rintro _ st0_ H hst_
    rw [f103_J1c] at hst_
    simp only [f103_J1] at H
    subst hst_
    refine AW.sseq ?_
    refine AW.rseq ?_
    try simp only [↓wk, ↓wl, nc, evV, wrapBits_eq, ↓reduceIte, sevalprocAttr]
    refine AW.ifc H (by rfl) ?_ ?_ <;> clear H <;> intro H
    · refine AW.rend ?_
      try simp only [↓wk, ↓wl, nc, evV, wrapBits_eq, ↓reduceIte, sevalprocAttr]
      refine evTs_pure hFn H (fun _ h => f143_ok h) (by rfl) (by rfl) (by rfl) (by rfl) (fun _ => rfl) ?_ <;> clear H <;> intro r_971 H
      try simp only [eL, ↓wk, ↓wl, nc, evV, wrapBits_eq, ↓reduceIte, sevalprocAttr]
      refine seqQ.norm ?_
      refine AW.rseq ?_
      try simp only [↓wk, ↓wl, nc, evV, wrapBits_eq, ↓reduceIte, sevalprocAttr]
      refine AW.ret ?_
      cases H
      exact hQ _ _ _ _ (.inr rfl) (by simp only [resVs, omap, resV, ↓wk, ↓wl, nc, evV, wrapBits_eq, ↓reduceIte, sevalprocAttr]; rfl) (hand_plain (by rfl)) (by first | exact Or.inl rfl | exact Or.inr rfl)
    · refine AW.rend ?_
      try simp only [↓wk, ↓wl, nc, evV, wrapBits_eq, ↓reduceIte, sevalprocAttr]
      refine evTs_pure hFn H (fun _ h => f143_ok h) (by rfl) (by rfl) (by rfl) (by rfl) (fun _ => rfl) ?_ <;> clear H <;> intro r_972 H
      try simp only [eL, ↓wk, ↓wl, nc, evV, wrapBits_eq, ↓reduceIte, sevalprocAttr]
      refine seqQ.norm ?_
      refine AW.rseq ?_
      try simp only [↓wk, ↓wl, nc, evV, wrapBits_eq, ↓reduceIte, sevalprocAttr]
      refine AW.ret ?_
      cases H
      exact hQ _ _ _ _ (.inr rfl) (by simp only [resVs, omap, resV, ↓wk, ↓wl, nc, evV, wrapBits_eq, ↓reduceIte, sevalprocAttr]; rfl) (hand_plain (by rfl)) (by first | exact Or.inl rfl | exact Or.inr rfl)
  · refine AW.regt ?_
    refine evR.fork ?_
    try simp only [↓wk, ↓wl, nc, evV, wrapBits_eq, ↓reduceIte, sevalprocAttr]
    refine evR.both ?_ ?_
    · refine evR.fork ?_
      try simp only [↓wk, ↓wl, nc, evV, wrapBits_eq, ↓reduceIte, sevalprocAttr]
      refine evR.both ?_ ?_
      · refine evR.run ?_
        try simp only [↓wk, ↓wl, nc, evV, wrapBits_eq, ↓reduceIte, sevalprocAttr]
        refine seqQ.norm ?_
        exact hf103_J1 _ _ H ((Le.none [0, 1, 2] [3, 5, 6] (by decide) (by simp only [f103_J1c, rrl, Option.map_some, vm, List.idxOf?_cons, List.idxOf?_nil, beq_self_eq_true, Option.map_none, List.getD_cons_zero, List.getD_cons_succ, ↓wk, ↓wl, nc, evV, wrapBits_eq, ↓reduceIte, sevalprocAttr] <;> rfl)))
      · refine evR.fork ?_
        try simp only [↓wk, ↓wl, nc, evV, wrapBits_eq, ↓reduceIte, sevalprocAttr]
        refine evR.both ?_ ?_
        · refine evR.run ?_
          try simp only [↓wk, ↓wl, nc, evV, wrapBits_eq, ↓reduceIte, sevalprocAttr]
          refine seqQ.norm ?_
          exact hf103_J1 _ _ H ((Le.none [0, 1, 2] [3, 5, 6] (by decide) (by simp only [f103_J1c, rrl, Option.map_some, vm, List.idxOf?_cons, List.idxOf?_nil, beq_self_eq_true, Option.map_none, List.getD_cons_zero, List.getD_cons_succ, ↓wk, ↓wl, nc, evV, wrapBits_eq, ↓reduceIte, sevalprocAttr] <;> rfl)))
        · refine evR.run ?_
          try simp only [↓wk, ↓wl, nc, evV, wrapBits_eq, ↓reduceIte, sevalprocAttr]
          refine seqQ.norm ?_
          exact hf103_J1 _ _ H ((Le.none [0, 1, 2] [3, 5, 6] (by decide) (by simp only [f103_J1c, rrl, Option.map_some, vm, List.idxOf?_cons, List.idxOf?_nil, beq_self_eq_true, Option.map_none, List.getD_cons_zero, List.getD_cons_succ, ↓wk, ↓wl, nc, evV, wrapBits_eq, ↓reduceIte, sevalprocAttr] <;> rfl)))
    · refine evR.fork ?_
      try simp only [↓wk, ↓wl, nc, evV, wrapBits_eq, ↓reduceIte, sevalprocAttr]
      refine evR.both ?_ ?_
      · refine evR.fork ?_
        try simp only [↓wk, ↓wl, nc, evV, wrapBits_eq, ↓reduceIte, sevalprocAttr]
        refine evR.both ?_ ?_
        · refine evR.run ?_
          try simp only [↓wk, ↓wl, nc, evV, wrapBits_eq, ↓reduceIte, sevalprocAttr]
          refine seqQ.norm ?_
          exact hf103_J1 _ _ H ((Le.none [0, 1, 2] [3, 5, 6] (by decide) (by simp only [f103_J1c, rrl, Option.map_some, vm, List.idxOf?_cons, List.idxOf?_nil, beq_self_eq_true, Option.map_none, List.getD_cons_zero, List.getD_cons_succ, ↓wk, ↓wl, nc, evV, wrapBits_eq, ↓reduceIte, sevalprocAttr] <;> rfl)))
        · refine evR.run ?_
          try simp only [↓wk, ↓wl, nc, evV, wrapBits_eq, ↓reduceIte, sevalprocAttr]
          refine seqQ.norm ?_
          exact hf103_J1 _ _ H ((Le.none [0, 1, 2] [3, 5, 6] (by decide) (by simp only [f103_J1c, rrl, Option.map_some, vm, List.idxOf?_cons, List.idxOf?_nil, beq_self_eq_true, Option.map_none, List.getD_cons_zero, List.getD_cons_succ, ↓wk, ↓wl, nc, evV, wrapBits_eq, ↓reduceIte, sevalprocAttr] <;> rfl)))
      · refine evR.fork ?_
        try simp only [↓wk, ↓wl, nc, evV, wrapBits_eq, ↓reduceIte, sevalprocAttr]
        refine evR.both ?_ ?_
        · refine evR.run ?_
          try simp only [↓wk, ↓wl, nc, evV, wrapBits_eq, ↓reduceIte, sevalprocAttr]
          refine seqQ.norm ?_
          exact hf103_J1 _ _ H ((Le.none [0, 1, 2] [3, 5, 6] (by decide) (by simp only [f103_J1c, rrl, Option.map_some, vm, List.idxOf?_cons, List.idxOf?_nil, beq_self_eq_true, Option.map_none, List.getD_cons_zero, List.getD_cons_succ, ↓wk, ↓wl, nc, evV, wrapBits_eq, ↓reduceIte, sevalprocAttr] <;> rfl)))
        · refine evR.run ?_
          try simp only [↓wk, ↓wl, nc, evV, wrapBits_eq, ↓reduceIte, sevalprocAttr]
          refine seqQ.norm ?_
          exact hf103_J1 _ _ H ((Le.none [0, 1, 2] [3, 5, 6] (by decide) (by simp only [f103_J1c, rrl, Option.map_some, vm, List.idxOf?_cons, List.idxOf?_nil, beq_self_eq_true, Option.map_none, List.getD_cons_zero, List.getD_cons_succ, ↓wk, ↓wl, nc, evV, wrapBits_eq, ↓reduceIte, sevalprocAttr] <;> rfl)))
def c104_0 : C := .cond (.t 13) (.seq (.reg [iI 4 (.mv (.c (.bool false)))]) .ret) (.skip)
def c104_1 : C := .seq (.reg [iI 19 (.mv (.t 5)), iI 20 (.bin .gtr (.t 19) (.c (.int .i64 0))), iI 21 (.mv (.t 20)), iG (some 22) 21 true (.mv (.t 5)), iG (some 23) 21 true (.bin .lss (.t 22) (.c (.int .i64 237))), iI 24 (.pick (.t 21) (.t 23) (.c (.bool false))), iI 4 (.mv (.t 24))]) .ret
def c104_2 : C := .seq (.reg [iI 14 (.mv (.t 1)), iI 15 (.mv (.t 0)), iI 16 (.bin .sub (.t 14) (.t 15)), iI 17 (.bin .add (.t 16) (.c (.int .i64 256))), iI 18 (.bin .rem (.t 17) (.c (.int .i64 256))), iI 5 (.mv (.t 18))]) c104_1
def c104_3 : C := .seq (.seq (.reg [iI 6 (.mv (.t 0)), iI 7 (.call (.c (.fn 71 [])) [(.t 6), (.c (.int .i64 0)), (.c (.int .i64 255))]), iI 8 (.un .not (.t 7)), iI 9 (.mv (.t 8)), iG (some 10) 9 false (.mv (.t 1)), iG (some 11) 9 false (.call (.c (.fn 71 [])) [(.t 10), (.c (.int .i64 0)), (.c (.int .i64 255))]), iG (some 12) 9 false (.un .not (.t 11)), iI 13 (.pick (.t 9) (.c (.bool true)) (.t 12))]) c104_0) c104_2
def ir104 : C := .seq (.reg [iI 4 (.mv (.c (.bool false)))]) c104_3
theorem fd104 : fd? Try.prog 104 = some (25, [.slot 4], ir104) := by kernel_rfl
noncomputable def f104 (old_982 : Int) (seq_983 : Int) : Option (Bool) :=
  (f71 old_982 0 255).bind fun r_984 => (if (!r_984) = true then (some false) else (f71 seq_983 0 255).bind fun r_985 => (if (!r_985) = true then (some false) else (if (decide (0 < ((IntKind.i64.wrap ((IntKind.i64.wrap (seq_983 - old_982)) + 256)).tmod 256))) = true then (some (decide (((IntKind.i64.wrap ((IntKind.i64.wrap (seq_983 - old_982)) + 256)).tmod 256) < 237))) else (some false))))
theorem f104_ok {old_982 : Int} {seq_983 : Int} {r_ : Bool} (H : f104 old_982 seq_983 = some r_) : Pure Try.prog 104 [.int .i64 old_982, .int .i64 seq_983] (· = .bool r_) := by
  refine Pure.walk3 fd104 none (Nat.le_of_ble_eq_true rfl) (by rfl) fun Q hQ => ?_
  simp only [f104] at H
  refine AW.rseq ?_
  try simp only [↓wk, ↓wl, nc, evV, wrapBits_eq, ↓reduceIte, sevalprocAttr]
  refine AW.sseq ?_
  refine AW.rseq ?_
  try simp only [↓wk, ↓wl, nc, evV, wrapBits_eq, ↓reduceIte, sevalprocAttr]
  refine evTs_pure hFn H (fun _ h => f71_ok h) (by rfl) (by rfl) (by rfl) (by rfl) (fun _ => rfl) ?_ <;> clear H <;> intro r_984 H
  try simp only [eL, ↓wk, ↓wl, nc, evV, wrapBits_eq, ↓reduceIte, sevalprocAttr]
  refine evTs_ifg H (by rfl) ?_ ?_ <;> clear H <;> intro H
  · try simp only [↓wk, ↓wl, nc, evV, wrapBits_eq, ↓reduceIte, sevalprocAttr]
    refine AW.ift (by rfl) ?_
    refine AW.rseq ?_
    try simp only [↓wk, ↓wl, nc, evV, wrapBits_eq, ↓reduceIte, sevalprocAttr]
    refine AW.ret ?_
    refine seqQ.ret ?_
    cases H
    exact hQ _ _ _ _ (.inr rfl) (by simp only [resVs, omap, resV, ↓wk, ↓wl, nc, evV, wrapBits_eq, ↓reduceIte, sevalprocAttr]; rfl) (hand_plain (by rfl)) (by first | exact Or.inl rfl | exact Or.inr rfl)
  · try simp only [↓wk, ↓wl, nc, evV, wrapBits_eq, ↓reduceIte, sevalprocAttr]
    refine evTs_pure hFn H (fun _ h => f71_ok h) (by rfl) (by rfl) (by rfl) (by rfl) (fun _ => rfl) ?_ <;> clear H <;> intro r_985 H
    try simp only [eL, ↓wk, ↓wl, nc, evV, wrapBits_eq, ↓reduceIte, sevalprocAttr]
    refine AW.ifc H (by rfl) ?_ ?_ <;> clear H <;> intro H
    · refine AW.rseq ?_
      try simp only [↓wk, ↓wl, nc, evV, wrapBits_eq, ↓reduceIte, sevalprocAttr]
      refine AW.ret ?_
      refine seqQ.ret ?_
      cases H
      exact hQ _ _ _ _ (.inr rfl) (by simp only [resVs, omap, resV, ↓wk, ↓wl, nc, evV, wrapBits_eq, ↓reduceIte, sevalprocAttr]; rfl) (hand_plain (by rfl)) (by first | exact Or.inl rfl | exact Or.inr rfl)
    · refine AW.skip ?_
      refine seqQ.norm ?_
      refine AW.rseq ?_
      try simp only [↓wk, ↓wl, nc, evV, wrapBits_eq, ↓reduceIte, sevalprocAttr]
      refine AW.rseq ?_
      try simp only [↓wk, ↓wl, nc, evV, wrapBits_eq, ↓reduceIte, sevalprocAttr]
      refine evTs_ifg H (by rfl) ?_ ?_ <;> clear H <;> intro H
      · try simp only [↓wk, ↓wl, nc, evV, wrapBits_eq, ↓reduceIte, sevalprocAttr]
        refine AW.ret ?_
        cases H
        exact hQ _ _ _ _ (.inr rfl) (by simp only [resVs, omap, resV, ↓wk, ↓wl, nc, evV, wrapBits_eq, ↓reduceIte, sevalprocAttr]; rfl) (hand_plain (by rfl)) (by first | exact Or.inl rfl | exact Or.inr rfl)
      · try simp only [↓wk, ↓wl, nc, evV, wrapBits_eq, ↓reduceIte, sevalprocAttr]
        refine AW.ret ?_
        cases H
        exact hQ _ _ _ _ (.inr rfl) (by simp only [resVs, omap, resV, ↓wk, ↓wl, nc, evV, wrapBits_eq, ↓reduceIte, sevalprocAttr]; rfl) (hand_plain (by rfl)) (by first | exact Or.inl rfl | exact Or.inr rfl)
def c62_0 : C := .cond (.t 13) (.seq (.reg [iI 14 (.load 1 (.t 3)), iI 15 (.load 7 (.t 5)), iI 16 (.call (.c (.fn 101 [])) [(.t 14), (.t 15)]), iI 17 (.ext (.t 16) 0), iI 18 (.ext (.t 16) 1), iN (.store 1 (.t 6) (.t 17)), iI 7 (.mv (.t 18))]) .ret) (.skip)
def c62_1 : C := .cond (.t 44) (.seq (.reg [iI 45 (.load 1 (.t 3)), iN (.store 1 (.t 6) (.t 45)), iI 7 (.mv (.c (.bool false)))]) .ret) (.skip)
def c62_2 : C := .seq (.reg [iI 57 (.mv (.t 10)), iI 58 (.faddr 0 (.t 3)), iI 59 (.load 0 (.t 58)), iI 60 (.mv (.t 8)), iI 61 (.slice 8 (.t 59) (some (.t 60)) none), iI 62 (.append 8 80 (.t 57) (.t 61)), iI 63 (.build [(1, (.sl 8 true []))] [(0, 0, (.t 62))]), iN (.store 1 (.t 6) (.t 63)), iI 7 (.mv (.c (.bool true)))]) .ret
def c62_3 : C := .seq (.reg [iI 46 (.mv (.t 10)), iI 47 (.faddr 1 (.t 5)), iI 48 (.load 0 (.t 47)), iI 49 (.faddr 0 (.t 5)), iI 50 (.load 0 (.t 49)), iI 51 (.build [(1, (.int .i64 0)), (1, (.int .u64 0)), (1, (.int .i64 0)), (1, (.int .i64 0)), (1, (.int .i64 0)), (1, (.int .i64 0)), (1, (.str [])), (1, (.str []))] [(0, 0, (.t 48)), (1, 0, (.t 50))]), iI 52 (.mv (.t 1)), iI 53 (.load 7 (.t 5)), iI 54 (.call (.c (.fn 103 [])) [(.t 51), (.t 52), (.t 53)]), iI 55 (.mkslp 8 1 (.agg [(.int .i64 0), (.int .u64 0), (.int .i64 0), (.int .i64 0), (.int .i64 0), (.int .i64 0), (.str []), (.str [])]) [(0, (.t 54))]), iI 56 (.append 8 80 (.t 46) (.t 55)), iI 10 (.mv (.t 56))]) c62_2
def c62_4 : C := .cond (.t 36) (.seq (.seq (.reg [iI 37 (.faddr 5 (.t 5)), iI 38 (.load 0 (.t 37)), iI 39 (.mv (.t 38)), iG (some 40) 39 false (.faddr 0 (.t 3)), iG (some 41) 39 false (.load 0 (.t 40)), iG (some 42) 39 false (.len 0 (.t 41)), iG (some 43) 39 false (.bin .eql (.t 42) (.c (.int .i64 64))), iI 44 (.pick (.t 39) (.c (.bool true)) (.t 43))]) c62_1) c62_3) (.skip)
def c62_5 : C := .cond (.t 73) (.seq (.reg [iI 74 (.load 1 (.t 3)), iN (.store 1 (.t 6) (.t 74)), iI 7 (.mv (.c (.bool false)))]) .ret) (.skip)
def c62_6 : C := .cond (.t 77) (.reg [iI 78 (.mv (.t 10)), iI 79 (.faddr 0 (.t 3)), iI 80 (.load 0 (.t 79)), iI 81 (.mv (.t 8)), iI 82 (.iaddr 8 (.t 80) (.t 81)), iI 83 (.load 8 (.t 82)), iI 84 (.mv (.t 1)), iI 85 (.load 7 (.t 5)), iI 86 (.call (.c (.fn 103 [])) [(.t 83), (.t 84), (.t 85)]), iI 87 (.mkslp 8 1 (.agg [(.int .i64 0), (.int .u64 0), (.int .i64 0), (.int .i64 0), (.int .i64 0), (.int .i64 0), (.str []), (.str [])]) [(0, (.t 86))]), iI 88 (.append 8 80 (.t 78) (.t 87)), iI 10 (.mv (.t 88))]) (.skip)
def c62_7 : C := .seq (.reg [iI 89 (.mv (.t 10)), iI 90 (.faddr 0 (.t 3)), iI 91 (.load 0 (.t 90)), iI 92 (.mv (.t 8)), iI 93 (.bin .add (.t 92) (.c (.int .i64 1))), iI 94 (.slice 8 (.t 91) (some (.t 93)) none), iI 95 (.append 8 80 (.t 89) (.t 94)), iI 96 (.build [(1, (.sl 8 true []))] [(0, 0, (.t 95))]), iN (.store 1 (.t 6) (.t 96)), iI 7 (.mv (.c (.bool true)))]) .ret
def c62_8 : C := .seq (.seq (.reg [iI 75 (.faddr 5 (.t 5)), iI 76 (.load 0 (.t 75)), iI 77 (.un .not (.t 76))]) c62_6) c62_7
def c62_9 : C := .seq (.seq (.reg [iI 64 (.faddr 0 (.t 3)), iI 65 (.load 0 (.t 64)), iI 66 (.mv (.t 8)), iI 67 (.iaddr 8 (.t 65) (.t 66)), iI 68 (.faddr 3 (.t 67)), iI 69 (.load 0 (.t 68)), iI 70 (.faddr 3 (.t 5)), iI 71 (.load 0 (.t 70)), iI 72 (.call (.c (.fn 104 [])) [(.t 69), (.t 71)]), iI 73 (.un .not (.t 72))]) c62_5) c62_8
def c62_10 : C := .seq (.seq (.reg [iI 35 (.mv (.t 9)), iI 36 (.un .not (.t 35))]) c62_4) c62_9
def c62_11 : C := .seq (.reg [iI 29 (.mkslp 8 0 (.agg [(.int .i64 0), (.int .u64 0), (.int .i64 0), (.int .i64 0), (.int .i64 0), (.int .i64 0), (.str []), (.str [])]) []), iI 30 (.faddr 0 (.t 3)), iI 31 (.load 0 (.t 30)), iI 32 (.mv (.t 8)), iI 33 (.slice 8 (.t 31) none (some (.t 32))), iI 34 (.append 8 80 (.t 29) (.t 33)), iI 10 (.mv (.t 34))]) c62_10
def c62_12 : C := .seq (.reg [iI 20 (.faddr 0 (.t 3)), iI 21 (.load 0 (.t 20)), iI 22 (.faddr 1 (.t 5)), iI 23 (.load 0 (.t 22)), iI 24 (.faddr 0 (.t 5)), iI 25 (.load 0 (.t 24)), iI 26 (.call (.c (.fn 102 [])) [(.t 21), (.t 23), (.t 25)]), iI 19 (.mv (.t 26)), iI 27 (.ext (.t 19) 0), iI 28 (.ext (.t 19) 1), iI 8 (.mv (.t 27)), iI 9 (.mv (.t 28))]) c62_11
def c62_13 : C := .seq (.seq (.reg [iI 11 (.faddr 1 (.t 5)), iI 12 (.load 0 (.t 11)), iI 13 (.bin .eql (.t 12) (.c (.int .i64 0)))]) c62_0) c62_12
def ir62 : C := .seq (.reg [iI 3 (.box (.t 0)), iI 5 (.box (.t 2)), iI 6 (.alloc [(1, (.sl 8 true []))]), iI 7 (.mv (.c (.bool false)))]) c62_13
theorem fd62 : fd? Try.prog 62 = some (97, [.cell 6 1, .slot 7], ir62) := by kernel_rfl
noncomputable def f62 (r_888 : Ref57Receiver) (t_889 : Int) (p_890 : Ref56Packet) : Option (Ref57Receiver × Bool) :=
  (if (decide (p_890.fUniverse = 0)) = true then (f101 r_888 p_890).bind fun r_927 => (some (r_927.1, r_927.2)) else (f102 r_888.fInputs p_890.fUniverse p_890.fSource).bind fun r_957 => (slc? r_888.fInputs 0 r_957.1).bind fun s_958 => (app? 80 [] s_958).bind fun out_959 => (if (!r_957.2) = true then (if p_890.fEnd = true then (some (r_888, false)) else (if (decide (((r_888.fInputs.length : Nat) : Int) = 64)) = true then (some (r_888, false)) else (f103 (Ref57Input.mk p_890.fUniverse p_890.fSource 0 0 0 0 ([]) ([])) t_889 p_890).bind fun r_977 => (app? 80 out_959 ([r_977])).bind fun out_978 => (slc? r_888.fInputs r_957.1 ((r_888.fInputs.length : Nat) : Int)).bind fun s_979 => (app? 80 out_978 s_979).bind fun out_980 => (some ((Ref57Receiver.mk out_980), true)))) else (at? r_888.fInputs r_957.1).bind fun x_987 => (f104 x_987.fSeq p_890.fSeq).bind fun r_988 => (if (!r_988) = true then (some (r_888, false)) else (if (!p_890.fEnd) = true then (at? r_888.fInputs r_957.1).bind fun x_989 => (f103 x_989 t_889 p_890).bind fun r_990 => (app? 80 out_959 ([r_990])).bind fun out_991 => (slc? r_888.fInputs (IntKind.i64.wrap (r_957.1 + 1)) ((r_888.fInputs.length : Nat) : Int)).bind fun s_992 => (app? 80 out_991 s_992).bind fun out_993 => (some ((Ref57Receiver.mk out_993), true)) else (slc? r_888.fInputs (IntKind.i64.wrap (r_957.1 + 1)) ((r_888.fInputs.length : Nat) : Int)).bind fun s_994 => (app? 80 out_959 s_994).bind fun out_995 => (some ((Ref57Receiver.mk out_995), true))))))
theorem f62_ok {r_888 : Ref57Receiver} {t_889 : Int} {p_890 : Ref56Packet} {r_ : Ref57Receiver × Bool} (H : f62 r_888 t_889 p_890 = some r_) : Pure Try.prog 62 [.agg [.sl 8 false (r_888.fInputs.map eRef57Input)], .int .i64 t_889, .agg [.int .u64 p_890.fSource, .int .i64 p_890.fUniverse, .int .i64 p_890.fPriority, .int .i64 p_890.fSeq, .int .i64 p_890.fSync, .bool p_890.fEnd, .str p_890.fSlots]] (· = .tup [.agg [.sl 8 false (r_.1.fInputs.map eRef57Input)], .bool r_.2]) := by
  refine Pure.walk3 fd62 none (Nat.le_of_ble_eq_true rfl) (by rfl) fun Q hQ => ?_
  simp only [f62] at H
  refine AW.rseq ?_
  try simp only [↓wk, ↓wl, nc, evV, wrapBits_eq, ↓reduceIte, sevalprocAttr]
  refine AW.sseq ?_
  refine AW.rseq ?_
  try simp only [↓wk, ↓wl, nc, evV, wrapBits_eq, ↓reduceIte, sevalprocAttr]
  refine AW.ifc H (by rfl) ?_ ?_ <;> clear H <;> intro H
  · refine AW.rseq ?_
    try simp only [↓wk, ↓wl, nc, evV, wrapBits_eq, ↓reduceIte, sevalprocAttr]
    refine evTs_pure hFn H (fun _ h => f101_ok h) (by rfl) (by rfl) (by rfl) (by rfl) (fun _ => rfl) ?_ <;> clear H <;> intro r_927 H
    try simp only [eL, eRef57Receiver, ↓wk, ↓wl, nc, evV, wrapBits_eq, ↓reduceIte, sevalprocAttr]
    refine AW.ret ?_
    refine seqQ.ret ?_
    cases H
    exact hQ _ _ _ _ (.inr rfl) (by simp only [resVs, omap, resV, ↓wk, ↓wl, nc, evV, wrapBits_eq, ↓reduceIte, sevalprocAttr]; rfl) (hand_plain (by rfl)) (by first | exact Or.inl rfl | exact Or.inr rfl)
  · refine AW.skip ?_
    refine seqQ.norm ?_
    refine AW.rseq ?_
    try simp only [↓wk, ↓wl, nc, evV, wrapBits_eq, ↓reduceIte, sevalprocAttr]
    refine evTs_pure hFn H (fun _ h => f102_ok h) (by rfl) (by rfl) (by rfl) (by rfl) (fun _ => rfl) ?_ <;> clear H <;> intro r_957 H
    try simp only [eL, ↓wk, ↓wl, nc, evV, wrapBits_eq, ↓reduceIte, sevalprocAttr]
    refine AW.rseq ?_
    try simp only [↓wk, ↓wl, nc, evV, wrapBits_eq, ↓reduceIte, sevalprocAttr]
    refine evTs_slc (enc := eRef57Input) H (by rfl) (by rfl) (by simp only [loI, hiI, ↓wk, ↓wl, nc, evV, wrapBits_eq, ↓reduceIte, sevalprocAttr]; rfl) (by simp only [loI, hiI, ↓wk, ↓wl, nc, evV, wrapBits_eq, ↓reduceIte, sevalprocAttr]; rfl) ?_ <;> clear H <;> intro s_958 H
    try simp only [↓wk, ↓wl, nc, evV, wrapBits_eq, ↓reduceIte, sevalprocAttr]
    refine evTs_app0 (enc := eRef57Input) H (by rfl) (by rfl) ?_ <;> clear H <;> intro out_959 H
    try simp only [↓wk, ↓wl, nc, evV, wrapBits_eq, ↓reduceIte, sevalprocAttr]
    refine AW.sseq ?_
    refine AW.rseq ?_
    try simp only [↓wk, ↓wl, nc, evV, wrapBits_eq, ↓reduceIte, sevalprocAttr]
    refine AW.ifc H (by rfl) ?_ ?_ <;> clear H <;> intro H
    · refine AW.sseq ?_
      refine AW.rseq ?_
      try simp only [↓wk, ↓wl, nc, evV, wrapBits_eq, ↓reduceIte, sevalprocAttr]
      refine evTs_ifg H (by rfl) ?_ ?_ <;> clear H <;> intro H
      · try simp only [↓wk, ↓wl, nc, evV, wrapBits_eq, ↓reduceIte, sevalprocAttr]
        refine AW.ift (by rfl) ?_
        refine AW.rseq ?_
        try simp only [↓wk, ↓wl, nc, evV, wrapBits_eq, ↓reduceIte, sevalprocAttr]
        refine AW.ret ?_
        refine seqQ.ret ?_
        refine seqQ.ret ?_
        cases H
        exact hQ _ _ _ _ (.inr rfl) (by simp only [resVs, omap, resV, ↓wk, ↓wl, nc, evV, wrapBits_eq, ↓reduceIte, sevalprocAttr]; rfl) (hand_plain (by rfl)) (by first | exact Or.inl rfl | exact Or.inr rfl)
      · try simp only [↓wk, ↓wl, nc, evV, wrapBits_eq, ↓reduceIte, sevalprocAttr]
        refine AW.ifc H (by rfl) ?_ ?_ <;> clear H <;> intro H
        · refine AW.rseq ?_
          try simp only [↓wk, ↓wl, nc, evV, wrapBits_eq, ↓reduceIte, sevalprocAttr]
          refine AW.ret ?_
          refine seqQ.ret ?_
          refine seqQ.ret ?_
          cases H
          exact hQ _ _ _ _ (.inr rfl) (by simp only [resVs, omap, resV, ↓wk, ↓wl, nc, evV, wrapBits_eq, ↓reduceIte, sevalprocAttr]; rfl) (hand_plain (by rfl)) (by first | exact Or.inl rfl | exact Or.inr rfl)
        · refine AW.skip ?_
          refine seqQ.norm ?_
          refine AW.rseq ?_
          try simp only [↓wk, ↓wl, nc, evV, wrapBits_eq, ↓reduceIte, sevalprocAttr]
          refine evTs_pure hFn H (fun _ h => f103_ok h) (by rfl) (by rfl) (by rfl) (by rfl) (fun _ => rfl) ?_ <;> clear H <;> intro r_977 H
          try simp only [eL, eRef57Input, ↓wk, ↓wl, nc, evV, wrapBits_eq, ↓reduceIte, sevalprocAttr]
          refine evTs_app (enc := eRef57Input) H (by rfl) (by first | rfl | simp only [List.length_set]) (by rfl) (by rfl) ?_ <;> clear H <;> intro out_978 H
          try simp only [↓wk, ↓wl, nc, evV, wrapBits_eq, ↓reduceIte, sevalprocAttr]
          refine AW.rseq ?_
          try simp only [↓wk, ↓wl, nc, evV, wrapBits_eq, ↓reduceIte, sevalprocAttr]
          refine evTs_slc (enc := eRef57Input) H (by rfl) (by rfl) (by simp only [loI, hiI, ↓wk, ↓wl, nc, evV, wrapBits_eq, ↓reduceIte, sevalprocAttr]; rfl) (by simp only [loI, hiI, ↓wk, ↓wl, nc, evV, wrapBits_eq, ↓reduceIte, sevalprocAttr]; rfl) ?_ <;> clear H <;> intro s_979 H
          try simp only [↓wk, ↓wl, nc, evV, wrapBits_eq, ↓reduceIte, sevalprocAttr]
          refine evTs_app (enc := eRef57Input) H (by rfl) (by first | rfl | simp only [List.length_set]) (by rfl) (by rfl) ?_ <;> clear H <;> intro out_980 H
          try simp only [↓wk, ↓wl, nc, evV, wrapBits_eq, ↓reduceIte, sevalprocAttr]
          refine AW.ret ?_
          refine seqQ.ret ?_
          cases H
          exact hQ _ _ _ _ (.inr rfl) (by simp only [resVs, omap, resV, ↓wk, ↓wl, nc, evV, wrapBits_eq, ↓reduceIte, sevalprocAttr]; rfl) (by simp only [handOver, deep_eq, imm_simps, imm_rowE, imm_ptrE, imm_enc, omap_simps, take_map_len, take_map_set, take_map_set2, le_refl_true, Nat.zero_add, and_true, true_and, List.drop_zero, Option.map_some, ↓wk, ↓wl, nc, evV, wrapBits_eq, ↓reduceIte, sevalprocAttr]; rfl) (by first | exact Or.inl rfl | exact Or.inr rfl)
    · refine AW.skip ?_
      refine seqQ.norm ?_
      refine AW.sseq ?_
      refine AW.rseq ?_
      try simp only [↓wk, ↓wl, nc, evV, wrapBits_eq, ↓reduceIte, sevalprocAttr]
      refine evTs_at (enc := eRef57Input) H (by rfl) (by rfl) ?_ <;> clear H <;> intro x_987 H
      try simp only [eRef57Input, eL, ↓wk, ↓wl, nc, evV, wrapBits_eq, ↓reduceIte, sevalprocAttr]
      refine evTs_pure hFn H (fun _ h => f104_ok h) (by rfl) (by rfl) (by rfl) (by rfl) (fun _ => rfl) ?_ <;> clear H <;> intro r_988 H
      try simp only [eL, ↓wk, ↓wl, nc, evV, wrapBits_eq, ↓reduceIte, sevalprocAttr]
      refine AW.ifc H (by rfl) ?_ ?_ <;> clear H <;> intro H
      · refine AW.rseq ?_
        try simp only [↓wk, ↓wl, nc, evV, wrapBits_eq, ↓reduceIte, sevalprocAttr]
        refine AW.ret ?_
        refine seqQ.ret ?_
        cases H
        exact hQ _ _ _ _ (.inr rfl) (by simp only [resVs, omap, resV, ↓wk, ↓wl, nc, evV, wrapBits_eq, ↓reduceIte, sevalprocAttr]; rfl) (hand_plain (by rfl)) (by first | exact Or.inl rfl | exact Or.inr rfl)
      · refine AW.skip ?_
        refine seqQ.norm ?_
        refine AW.sseq ?_
        refine AW.rseq ?_
        try simp only [↓wk, ↓wl, nc, evV, wrapBits_eq, ↓reduceIte, sevalprocAttr]
        refine AW.ifc H (by rfl) ?_ ?_ <;> clear H <;> intro H
        · refine AW.rend ?_
          try simp only [↓wk, ↓wl, nc, evV, wrapBits_eq, ↓reduceIte, sevalprocAttr]
          refine evTs_at (enc := eRef57Input) H (by rfl) (by rfl) ?_ <;> clear H <;> intro x_989 H
          try simp only [eRef57Input, eL, ↓wk, ↓wl, nc, evV, wrapBits_eq, ↓reduceIte, sevalprocAttr]
          refine evTs_pure hFn H (fun _ h => f103_ok h) (by rfl) (by rfl) (by rfl) (by rfl) (fun _ => rfl) ?_ <;> clear H <;> intro r_990 H
          try simp only [eL, eRef57Input, ↓wk, ↓wl, nc, evV, wrapBits_eq, ↓reduceIte, sevalprocAttr]
          refine evTs_app (enc := eRef57Input) H (by rfl) (by first | rfl | simp only [List.length_set]) (by rfl) (by rfl) ?_ <;> clear H <;> intro out_991 H
          try simp only [↓wk, ↓wl, nc, evV, wrapBits_eq, ↓reduceIte, sevalprocAttr]
          refine seqQ.norm ?_
          refine AW.rseq ?_
          try simp only [↓wk, ↓wl, nc, evV, wrapBits_eq, ↓reduceIte, sevalprocAttr]
          refine evTs_slc (enc := eRef57Input) H (by rfl) (by rfl) (by simp only [loI, hiI, ↓wk, ↓wl, nc, evV, wrapBits_eq, ↓reduceIte, sevalprocAttr]; rfl) (by simp only [loI, hiI, ↓wk, ↓wl, nc, evV, wrapBits_eq, ↓reduceIte, sevalprocAttr]; rfl) ?_ <;> clear H <;> intro s_992 H
          try simp only [↓wk, ↓wl, nc, evV, wrapBits_eq, ↓reduceIte, sevalprocAttr]
          refine evTs_app (enc := eRef57Input) H (by rfl) (by first | rfl | simp only [List.length_set]) (by rfl) (by rfl) ?_ <;> clear H <;> intro out_993 H
          try simp only [↓wk, ↓wl, nc, evV, wrapBits_eq, ↓reduceIte, sevalprocAttr]
          refine AW.ret ?_
          cases H
          exact hQ _ _ _ _ (.inr rfl) (by simp only [resVs, omap, resV, ↓wk, ↓wl, nc, evV, wrapBits_eq, ↓reduceIte, sevalprocAttr]; rfl) (by simp only [handOver, deep_eq, imm_simps, imm_rowE, imm_ptrE, imm_enc, omap_simps, take_map_len, take_map_set, take_map_set2, le_refl_true, Nat.zero_add, and_true, true_and, List.drop_zero, Option.map_some, ↓wk, ↓wl, nc, evV, wrapBits_eq, ↓reduceIte, sevalprocAttr]; rfl) (by first | exact Or.inl rfl | exact Or.inr rfl)
        · refine AW.skip ?_
          refine seqQ.norm ?_
          refine AW.rseq ?_
          try simp only [↓wk, ↓wl, nc, evV, wrapBits_eq, ↓reduceIte, sevalprocAttr]
          refine evTs_slc (enc := eRef57Input) H (by rfl) (by rfl) (by simp only [loI, hiI, ↓wk, ↓wl, nc, evV, wrapBits_eq, ↓reduceIte, sevalprocAttr]; rfl) (by simp only [loI, hiI, ↓wk, ↓wl, nc, evV, wrapBits_eq, ↓reduceIte, sevalprocAttr]; rfl) ?_ <;> clear H <;> intro s_994 H
          try simp only [↓wk, ↓wl, nc, evV, wrapBits_eq, ↓reduceIte, sevalprocAttr]
          refine evTs_app (enc := eRef57Input) H (by rfl) (by first | rfl | simp only [List.length_set]) (by rfl) (by rfl) ?_ <;> clear H <;> intro out_995 H
          try simp only [↓wk, ↓wl, nc, evV, wrapBits_eq, ↓reduceIte, sevalprocAttr]
          refine AW.ret ?_
          cases H
          exact hQ _ _ _ _ (.inr rfl) (by simp only [resVs, omap, resV, ↓wk, ↓wl, nc, evV, wrapBits_eq, ↓reduceIte, sevalprocAttr]; rfl) (by simp only [handOver, deep_eq, imm_simps, imm_rowE, imm_ptrE, imm_enc, omap_simps, take_map_len, take_map_set, take_map_set2, le_refl_true, Nat.zero_add, and_true, true_and, List.drop_zero, Option.map_some, ↓wk, ↓wl, nc, evV, wrapBits_eq, ↓reduceIte, sevalprocAttr]; rfl) (by first | exact Or.inl rfl | exact Or.inr rfl)
def c17_0 : C := .cond (.t 17) (.seq (.reg [iI 18 (.build [(1, (.sl 8 true []))] []), iI 19 (.mv (.t 9)), iN (.store 1 (.t 6) (.t 18)), iI 7 (.mv (.c (.bool false))), iI 8 (.mv (.t 19))]) .ret) (.skip)
def c17_1 : C := .seq (.reg [iI 16 (.mv (.t 9)), iI 17 (.bin .neq (.t 16) (.c (.int .i64 0)))]) c17_0
def c17_2 : C := .cond (.t 23) (.seq (.reg [iI 24 (.build [(1, (.sl 8 true []))] []), iI 25 (.mv (.t 10)), iN (.store 1 (.t 6) (.t 24)), iI 7 (.mv (.c (.bool false))), iI 8 (.mv (.t 25))]) .ret) (.skip)
def c17_3 : C := .seq (.reg [iI 22 (.mv (.t 10)), iI 23 (.bin .neq (.t 22) (.c (.int .i64 0)))]) c17_2
def c17_4 : C := .seq (.reg [iI 33 (.load 1 (.t 11)), iI 34 (.mv (.t 12)), iN (.store 1 (.t 6) (.t 33)), iI 7 (.mv (.t 34)), iI 8 (.mv (.c (.int .i64 0)))]) .ret
def c17_5 : C := .seq (.reg [iI 27 (.load 1 (.t 3)), iI 28 (.mv (.t 1)), iI 29 (.load 7 (.t 5)), iI 30 (.call (.c (.fn 62 [])) [(.t 27), (.t 28), (.t 29)]), iI 26 (.mv (.t 30)), iI 31 (.ext (.t 26) 0), iI 32 (.ext (.t 26) 1), iI 11 (.alloc [(1, (.sl 8 true []))]), iN (.store 1 (.t 11) (.t 31)), iI 12 (.mv (.t 32))]) c17_4
def c17_6 : C := .seq (.seq (.reg [iI 20 (.load 7 (.t 5)), iI 21 (.call (.c (.fn 23 [])) [(.t 20)]), iI 10 (.mv (.t 21))]) c17_3) c17_5
def c17_7 : C := .seq (.seq (.reg [iI 13 (.load 1 (.t 3)), iI 14 (.mv (.t 1)), iI 15 (.call (.c (.fn 61 [])) [(.t 13), (.t 14)]), iI 9 (.mv (.t 15))]) c17_1) c17_6
def ir17 : C := .seq (.reg [iI 3 (.box (.t 0)), iI 5 (.box (.t 2)), iI 6 (.alloc [(1, (.sl 8 true []))]), iI 7 (.mv (.c (.bool false))), iI 8 (.mv (.c (.int .i64 0)))]) c17_7
theorem fd17 : fd? Try.prog 17 = some (35, [.cell 6 1, .slot 7, .slot 8], ir17) := by kernel_rfl
noncomputable def f17 (r_881 : Ref57Receiver) (t_882 : Int) (p_883 : Ref56Packet) : Option (Ref57Receiver × Bool × Int) :=
  (f61 r_881 t_882).bind fun r_885 => (if (decide (r_885 ≠ 0)) = true then (some ((Ref57Receiver.mk ([])), false, r_885)) else (f23 p_883).bind fun r_887 => (if (decide (r_887 ≠ 0)) = true then (some ((Ref57Receiver.mk ([])), false, r_887)) else (f62 r_881 t_882 p_883).bind fun r_996 => (some (r_996.1, r_996.2, 0))))
theorem f17_ok {r_881 : Ref57Receiver} {t_882 : Int} {p_883 : Ref56Packet} {r_ : Ref57Receiver × Bool × Int} (H : f17 r_881 t_882 p_883 = some r_) : Pure Try.prog 17 [.agg [.sl 8 false (r_881.fInputs.map eRef57Input)], .int .i64 t_882, .agg [.int .u64 p_883.fSource, .int .i64 p_883.fUniverse, .int .i64 p_883.fPriority, .int .i64 p_883.fSeq, .int .i64 p_883.fSync, .bool p_883.fEnd, .str p_883.fSlots]] (· = .tup [.agg [.sl 8 false (r_.1.fInputs.map eRef57Input)], .bool r_.2.1, .int .i64 r_.2.2]) := by
  refine Pure.walk3 fd17 none (Nat.le_of_ble_eq_true rfl) (by rfl) fun Q hQ => ?_
  simp only [f17] at H
  refine AW.rseq ?_
  try simp only [↓wk, ↓wl, nc, evV, wrapBits_eq, ↓reduceIte, sevalprocAttr]
  refine AW.sseq ?_
  refine AW.rseq ?_
  try simp only [↓wk, ↓wl, nc, evV, wrapBits_eq, ↓reduceIte, sevalprocAttr]
  refine evTs_pure hFn H (fun _ h => f61_ok h) (by rfl) (by rfl) (by rfl) (by rfl) (fun _ => rfl) ?_ <;> clear H <;> intro r_885 H
  try simp only [eL, ↓wk, ↓wl, nc, evV, wrapBits_eq, ↓reduceIte, sevalprocAttr]
  refine AW.rseq ?_
  try simp only [↓wk, ↓wl, nc, evV, wrapBits_eq, ↓reduceIte, sevalprocAttr]
  refine AW.ifc H (by rfl) ?_ ?_ <;> clear H <;> intro H
  · refine AW.rseq ?_
    try simp only [↓wk, ↓wl, nc, evV, wrapBits_eq, ↓reduceIte, sevalprocAttr]
    refine AW.ret ?_
    refine seqQ.ret ?_
    cases H
    exact hQ _ _ _ _ (.inr rfl) (by simp only [resVs, omap, resV, ↓wk, ↓wl, nc, evV, wrapBits_eq, ↓reduceIte, sevalprocAttr]; rfl) (hand_plain (by rfl)) (by first | exact Or.inl rfl | exact Or.inr rfl)
  · refine AW.skip ?_
    refine seqQ.norm ?_
    refine AW.sseq ?_
    refine AW.rseq ?_
    try simp only [↓wk, ↓wl, nc, evV, wrapBits_eq, ↓reduceIte, sevalprocAttr]
    refine evTs_pure hFn H (fun _ h => f23_ok h) (by rfl) (by rfl) (by rfl) (by rfl) (fun _ => rfl) ?_ <;> clear H <;> intro r_887 H
    try simp only [eL, ↓wk, ↓wl, nc, evV, wrapBits_eq, ↓reduceIte, sevalprocAttr]
    refine AW.rseq ?_
    try simp only [↓wk, ↓wl, nc, evV, wrapBits_eq, ↓reduceIte, sevalprocAttr]
    refine AW.ifc H (by rfl) ?_ ?_ <;> clear H <;> intro H
    · refine AW.rseq ?_
      try simp only [↓wk, ↓wl, nc, evV, wrapBits_eq, ↓reduceIte, sevalprocAttr]
      refine AW.ret ?_
      refine seqQ.ret ?_
      cases H
      exact hQ _ _ _ _ (.inr rfl) (by simp only [resVs, omap, resV, ↓wk, ↓wl, nc, evV, wrapBits_eq, ↓reduceIte, sevalprocAttr]; rfl) (hand_plain (by rfl)) (by first | exact Or.inl rfl | exact Or.inr rfl)
    · refine AW.skip ?_
      refine seqQ.norm ?_
      refine AW.rseq ?_
      try simp only [↓wk, ↓wl, nc, evV, wrapBits_eq, ↓reduceIte, sevalprocAttr]
      refine evTs_pure hFn H (fun _ h => f62_ok h) (by rfl) (by rfl) (by rfl) (by rfl) (fun _ => rfl) ?_ <;> clear H <;> intro r_996 H
      try simp only [eL, eRef57Receiver, ↓wk, ↓wl, nc, evV, wrapBits_eq, ↓reduceIte, sevalprocAttr]
      refine AW.rseq ?_
      try simp only [↓wk, ↓wl, nc, evV, wrapBits_eq, ↓reduceIte, sevalprocAttr]
      refine AW.ret ?_
      cases H
      exact hQ _ _ _ _ (.inr rfl) (by simp only [resVs, omap, resV, ↓wk, ↓wl, nc, evV, wrapBits_eq, ↓reduceIte, sevalprocAttr]; rfl) (hand_plain (by rfl)) (by first | exact Or.inl rfl | exact Or.inr rfl)
noncomputable def f3_J1 (r_870 : ReceiverReceiver) (r_879 : ReceiverReceiver × Bool × Int) : Jn (Bool × Int × (List Ref57Input)) (Bool) where
  run := fun (is_998, f_999, b_1000) => (f15).bind fun r_1001 => (if r_1001 = true then (f19 r_870).bind fun r_1002 => (f18 r_870).bind fun r_1003 => (f20 r_1003).bind fun r_1004 => (if (decide (r_1002 = r_1004)) = true then (f18 r_879.1).bind fun r_1005 => (f21 r_1005 (Ref57Receiver.mk b_1000)).bind fun r_1006 => (if r_1006 = true then (if (r_879.2.1 == is_998) = true then (some (decide (r_879.2.2 = f_999))) else (some false)) else (some false)) else (some false)) else (some false))
  cst := fun (is_998, f_999, b_1000) => ⟨put (put (put (put (put (put (put (fun _ => .junk) 12 (.int .i64 f_999)) 11 (.bool is_998)) 10 (.ptr 2 0)) 9 (.int .i64 r_879.2.2)) 8 (.bool r_879.2.1)) 7 (.ptr 1 0)) 3 (.ptr 0 0), [.cel [.sl 8 false (r_870.fInputs.map eReceiverInput)], .cel [.sl 8 false (r_879.1.fInputs.map eReceiverInput)], .cel [.sl 8 false (b_1000.map eRef57Input)]]⟩
theorem f3_J1c (r_870 : ReceiverReceiver) (r_879 : ReceiverReceiver × Bool × Int) (is_998 : Bool) (f_999 : Int) (b_1000 : (List Ref57Input)) : (f3_J1 r_870 r_879).cst (is_998, f_999, b_1000) = ⟨put (put (put (put (put (put (put (fun _ => .junk) 12 (.int .i64 f_999)) 11 (.bool is_998)) 10 (.ptr 2 0)) 9 (.int .i64 r_879.2.2)) 8 (.bool r_879.2.1)) 7 (.ptr 1 0)) 3 (.ptr 0 0), [.cel [.sl 8 false (r_870.fInputs.map eReceiverInput)], .cel [.sl 8 false (r_879.1.fInputs.map eReceiverInput)], .cel [.sl 8 false (b_1000.map eRef57Input)]]⟩ := rfl
def c3_0 : C := .cond (.t 21) (.seq (.reg [iI 22 (.call (.c (.fn 15 [])) []), iI 6 (.mv (.t 22))]) .ret) (.skip)
def c3_1 : C := .seq (.regq [iI 40 (.call (.c (.fn 15 [])) []), iI 41 (.mv (.t 40)), iG (some 42) 41 true (.load 1 (.t 3)), iG (some 43) 41 true (.call (.c (.fn 19 [])) [(.t 42)]), iG (some 44) 41 true (.load 1 (.t 3)), iG (some 45) 41 true (.call (.c (.fn 18 [])) [(.t 44)]), iG (some 46) 41 true (.call (.c (.fn 20 [])) [(.t 45)]), iG (some 47) 41 true (.bin .eql (.t 43) (.t 46)), iI 48 (.pick (.t 41) (.t 47) (.c (.bool false))), iI 49 (.mv (.t 48)), iG (some 50) 49 true (.load 1 (.t 7)), iG (some 51) 49 true (.call (.c (.fn 18 [])) [(.t 50)]), iG (some 52) 49 true (.load 1 (.t 10)), iG (some 53) 49 true (.call (.c (.fn 21 [])) [(.t 51), (.t 52)]), iI 54 (.pick (.t 49) (.t 53) (.c (.bool false))), iI 55 (.mv (.t 54)), iG (some 56) 55 true (.mv (.t 8)), iG (some 57) 55 true (.mv (.t 11)), iG (some 58) 55 true (.binb .eql (.t 56) (.t 57)), iI 59 (.pick (.t 55) (.t 58) (.c (.bool false))), iI 60 (.mv (.t 59)), iG (some 61) 60 true (.mv (.t 9)), iG (some 62) 60 true (.mv (.t 12)), iG (some 63) 60 true (.bin .eql (.t 61) (.t 62)), iI 64 (.pick (.t 60) (.t 63) (.c (.bool false))), iI 6 (.mv (.t 64))]) .ret
def c3_2 : C := .seq (.regt (.fork [iI 32 (.load 1 (.t 3)), iI 34 (.mv (.t 1)), iI 35 (.load 7 (.t 5))] (.fork [iI 33 (.call (.c (.fn 18 [])) [(.t 32)])] (.run [iI 36 (.call (.c (.fn 17 [])) [(.t 33), (.t 34), (.t 35)]), iI 31 (.mv (.t 36)), iI 37 (.ext (.t 31) 0), iI 38 (.ext (.t 31) 1), iI 39 (.ext (.t 31) 2), iI 10 (.alloc [(1, (.sl 8 true []))]), iN (.store 1 (.t 10) (.t 37)), iI 11 (.mv (.t 38)), iI 12 (.mv (.t 39))]) (.run [iI 10 (.alloc [(1, (.sl 8 true []))]), iI 36 (.call (.c (.fn 17 [])) [(.t 33), (.t 34), (.t 35)]), iI 31 (.mv (.t 36)), iI 37 (.ext (.t 31) 0), iI 38 (.ext (.t 31) 1), iI 39 (.ext (.t 31) 2), iN (.store 1 (.t 10) (.t 37)), iI 11 (.mv (.t 38)), iI 12 (.mv (.t 39))])) (.run [iI 10 (.alloc [(1, (.sl 8 true []))]), iI 33 (.call (.c (.fn 18 [])) [(.t 32)]), iI 36 (.call (.c (.fn 17 [])) [(.t 33), (.t 34), (.t 35)]), iI 31 (.mv (.t 36)), iI 37 (.ext (.t 31) 0), iI 38 (.ext (.t 31) 1), iI 39 (.ext (.t 31) 2), iN (.store 1 (.t 10) (.t 37)), iI 11 (.mv (.t 38)), iI 12 (.mv (.t 39))]))) c3_1
def c3_3 : C := .seq (.reg [iI 24 (.load 1 (.t 3)), iI 25 (.mv (.t 1)), iI 26 (.load 7 (.t 5)), iI 27 (.call (.c (.fn 16 [])) [(.t 24), (.t 25), (.t 26)]), iI 23 (.mv (.t 27)), iI 28 (.ext (.t 23) 0), iI 29 (.ext (.t 23) 1), iI 30 (.ext (.t 23) 2), iI 7 (.alloc [(1, (.sl 8 true []))]), iN (.store 1 (.t 7) (.t 28)), iI 8 (.mv (.t 29)), iI 9 (.mv (.t 30))]) c3_2
def c3_4 : C := .seq (.seq (.reg [iI 13 (.load 1 (.t 3)), iI 14 (.call (.c (.fn 14 [])) [(.t 13)]), iI 15 (.un .not (.t 14)), iI 16 (.mv (.t 15)), iG (some 17) 16 false (.faddr 6 (.t 5)), iG (some 18) 16 false (.load 0 (.t 17)), iG (some 19) 16 false (.len 1 (.t 18)), iG (some 20) 16 false (.bin .gtr (.t 19) (.c (.int .i64 521))), iI 21 (.pick (.t 16) (.c (.bool true)) (.t 20))]) c3_0) c3_3
def ir3 : C := .seq (.reg [iI 3 (.box (.t 0)), iI 5 (.box (.t 2)), iI 6 (.mv (.c (.bool false)))]) c3_4
theorem fd3 : fd? Try.prog 3 = some (65, [.slot 6], ir3) := by kernel_rfl
noncomputable def f3 (r_870 : ReceiverReceiver) (t_871 : Int) (p_872 : NetworkPacket) : Option (Bool) :=
  (f14 r_870).bind fun r_876 => (if (!r_876) = true then (f15).bind fun r_877 => (some r_877) else (if (decide (521 < ((p_872.fSlots.length : Nat) : Int))) = true then (f15).bind fun r_878 => (some r_878) else (f16 r_870 t_871 p_872).bind fun r_879 => (f18 r_870).bind fun r_1007 => (f17 r_1007 t_871 (Ref56Packet.mk p_872.fSource p_872.fUniverse p_872.fPriority p_872.fSeq p_872.fSync p_872.fEnd p_872.fSlots)).bind fun r_1008 => ((f3_J1 r_870 r_879).run (r_1008.2.1, r_1008.2.2, r_1008.1.fInputs))))
theorem f3_ok {r_870 : ReceiverReceiver} {t_871 : Int} {p_872 : NetworkPacket} {r_ : Bool} (H : f3 r_870 t_871 p_872 = some r_) : Pure Try.prog 3 [.agg [.sl 8 false (r_870.fInputs.map eReceiverInput)], .int .i64 t_871, .agg [.int .u64 p_872.fSource, .int .i64 p_872.fUniverse, .int .i64 p_872.fPriority, .int .i64 p_872.fSeq, .int .i64 p_872.fSync, .bool p_872.fEnd, .str p_872.fSlots]] (· = .bool r_) := by
  refine Pure.walk3 fd3 none (Nat.le_of_ble_eq_true rfl) (by rfl) fun Q hQ => ?_
  simp only [f3] at H
  refine AW.rseq ?_
  try simp only [↓wk, ↓wl, nc, evV, wrapBits_eq, ↓reduceIte, sevalprocAttr]
  refine AW.sseq ?_
  refine AW.rseq ?_
  try simp only [↓wk, ↓wl, nc, evV, wrapBits_eq, ↓reduceIte, sevalprocAttr]
  refine evTs_pure hFn H (fun _ h => f14_ok h) (by rfl) (by rfl) (by rfl) (by rfl) (fun _ => rfl) ?_ <;> clear H <;> intro r_876 H
  try simp only [eL, ↓wk, ↓wl, nc, evV, wrapBits_eq, ↓reduceIte, sevalprocAttr]
  refine evTs_ifg H (by rfl) ?_ ?_ <;> clear H <;> intro H
  · try simp only [↓wk, ↓wl, nc, evV, wrapBits_eq, ↓reduceIte, sevalprocAttr]
    refine AW.ift (by rfl) ?_
    refine AW.rseq ?_
    try simp only [↓wk, ↓wl, nc, evV, wrapBits_eq, ↓reduceIte, sevalprocAttr]
    refine evTs_pure hFn H (fun _ h => f15_ok h) (by rfl) (by rfl) (by rfl) (by rfl) (fun _ => rfl) ?_ <;> clear H <;> intro r_877 H
    try simp only [eL, ↓wk, ↓wl, nc, evV, wrapBits_eq, ↓reduceIte, sevalprocAttr]
    refine AW.ret ?_
    refine seqQ.ret ?_
    cases H
    exact hQ _ _ _ _ (.inr rfl) (by simp only [resVs, omap, resV, ↓wk, ↓wl, nc, evV, wrapBits_eq, ↓reduceIte, sevalprocAttr]; rfl) (hand_plain (by rfl)) (by first | exact Or.inl rfl | exact Or.inr rfl)
  · try simp only [↓wk, ↓wl, nc, evV, wrapBits_eq, ↓reduceIte, sevalprocAttr]
    refine AW.ifc H (by rfl) ?_ ?_ <;> clear H <;> intro H
    · refine AW.rseq ?_
      try simp only [↓wk, ↓wl, nc, evV, wrapBits_eq, ↓reduceIte, sevalprocAttr]
      refine evTs_pure hFn H (fun _ h => f15_ok h) (by rfl) (by rfl) (by rfl) (by rfl) (fun _ => rfl) ?_ <;> clear H <;> intro r_878 H
      try simp only [eL, ↓wk, ↓wl, nc, evV, wrapBits_eq, ↓reduceIte, sevalprocAttr]
      refine AW.ret ?_
      refine seqQ.ret ?_
      cases H
      exact hQ _ _ _ _ (.inr rfl) (by simp only [resVs, omap, resV, ↓wk, ↓wl, nc, evV, wrapBits_eq, ↓reduceIte, sevalprocAttr]; rfl) (hand_plain (by rfl)) (by first | exact Or.inl rfl | exact Or.inr rfl)
    · refine AW.skip ?_
      refine seqQ.norm ?_
      refine AW.rseq ?_
      try simp only [↓wk, ↓wl, nc, evV, wrapBits_eq, ↓reduceIte, sevalprocAttr]
      refine evTs_pure hFn H (fun _ h => f16_ok h) (by rfl) (by rfl) (by rfl) (by rfl) (fun _ => rfl) ?_ <;> clear H <;> intro r_879 H
      try simp only [eL, eReceiverReceiver, ↓wk, ↓wl, nc, evV, wrapBits_eq, ↓reduceIte, sevalprocAttr]
      refine AW.join (f3_J1 r_870 r_879) H ?_ fun hf3_J1 => ?_
      · clear H
        rintro ⟨is_998, f_999, b_1000⟩ st0_ H hst_
        rw [f3_J1c] at hst_
        simp only [f3_J1] at H
        subst hst_
        refine AW.rqseq ?_
        try simp only [↓wk, ↓wl, nc, evV, wrapBits_eq, ↓reduceIte, sevalprocAttr]
        refine evTs_pure hFnq H (fun _ h => f15_ok h) (by rfl) (by rfl) (by rfl) (by rfl) (fun _ => rfl) ?_ <;> clear H <;> intro r_1001 H
        try simp only [eL, ↓wk, ↓wl, nc, evV, wrapBits_eq, ↓reduceIte, sevalprocAttr]
        refine evTs_ifg H (by rfl) ?_ ?_ <;> clear H <;> intro H
        · try simp only [↓wk, ↓wl, nc, evV, wrapBits_eq, ↓reduceIte, sevalprocAttr]
          refine evTs_pure hFnq H (fun _ h => f19_ok h) (by rfl) (by rfl) (by rfl) (by rfl) (fun _ => rfl) ?_ <;> clear H <;> intro r_1002 H
          try simp only [eL, ↓wk, ↓wl, nc, evV, wrapBits_eq, ↓reduceIte, sevalprocAttr]
          refine evTs_pure hFnq H (fun _ h => f18_ok h) (by rfl) (by rfl) (by rfl) (by rfl) (fun _ => rfl) ?_ <;> clear H <;> intro r_1003 H
          try simp only [eL, eRef57Receiver, ↓wk, ↓wl, nc, evV, wrapBits_eq, ↓reduceIte, sevalprocAttr]
          refine evTs_pure hFnq H (fun _ h => f20_ok h) (by rfl) (by rfl) (by rfl) (by rfl) (fun _ => rfl) ?_ <;> clear H <;> intro r_1004 H
          try simp only [eL, ↓wk, ↓wl, nc, evV, wrapBits_eq, ↓reduceIte, sevalprocAttr]
          refine evTs_ifg H (by rfl) ?_ ?_ <;> clear H <;> intro H
          · try simp only [↓wk, ↓wl, nc, evV, wrapBits_eq, ↓reduceIte, sevalprocAttr]
            refine evTs_pure hFnq H (fun _ h => f18_ok h) (by rfl) (by rfl) (by rfl) (by rfl) (fun _ => rfl) ?_ <;> clear H <;> intro r_1005 H
            try simp only [eL, eRef57Receiver, ↓wk, ↓wl, nc, evV, wrapBits_eq, ↓reduceIte, sevalprocAttr]
            refine evTs_pure hFnq H (fun _ h => f21_ok h) (by rfl) (by rfl) (by rfl) (by rfl) (fun _ => rfl) ?_ <;> clear H <;> intro r_1006 H
            try simp only [eL, ↓wk, ↓wl, nc, evV, wrapBits_eq, ↓reduceIte, sevalprocAttr]
            refine evTs_ifg H (by rfl) ?_ ?_ <;> clear H <;> intro H
            · try simp only [↓wk, ↓wl, nc, evV, wrapBits_eq, ↓reduceIte, sevalprocAttr]
              refine evTs_ifg H (by rfl) ?_ ?_ <;> clear H <;> intro H
              · try simp only [↓wk, ↓wl, nc, evV, wrapBits_eq, ↓reduceIte, sevalprocAttr]
                refine AW.ret ?_
                cases H
                exact hQ _ _ _ _ (.inr rfl) (by simp only [resVs, omap, resV, ↓wk, ↓wl, nc, evV, wrapBits_eq, ↓reduceIte, sevalprocAttr]; rfl) (hand_plain (by rfl)) (by first | exact Or.inl rfl | exact Or.inr rfl)
              · try simp only [↓wk, ↓wl, nc, evV, wrapBits_eq, ↓reduceIte, sevalprocAttr]
                refine AW.ret ?_
                cases H
                exact hQ _ _ _ _ (.inr rfl) (by simp only [resVs, omap, resV, ↓wk, ↓wl, nc, evV, wrapBits_eq, ↓reduceIte, sevalprocAttr]; rfl) (hand_plain (by rfl)) (by first | exact Or.inl rfl | exact Or.inr rfl)
            · try simp only [↓wk, ↓wl, nc, evV, wrapBits_eq, ↓reduceIte, sevalprocAttr]
              refine AW.ret ?_
              cases H
              exact hQ _ _ _ _ (.inr rfl) (by simp only [resVs, omap, resV, ↓wk, ↓wl, nc, evV, wrapBits_eq, ↓reduceIte, sevalprocAttr]; rfl) (hand_plain (by rfl)) (by first | exact Or.inl rfl | exact Or.inr rfl)
          · try simp only [↓wk, ↓wl, nc, evV, wrapBits_eq, ↓reduceIte, sevalprocAttr]
            refine AW.ret ?_
            cases H
            exact hQ _ _ _ _ (.inr rfl) (by simp only [resVs, omap, resV, ↓wk, ↓wl, nc, evV, wrapBits_eq, ↓reduceIte, sevalprocAttr]; rfl) (hand_plain (by rfl)) (by first | exact Or.inl rfl | exact Or.inr rfl)
        · try simp only [↓wk, ↓wl, nc, evV, wrapBits_eq, ↓reduceIte, sevalprocAttr]
          refine AW.ret ?_
          cases H
          exact hQ _ _ _ _ (.inr rfl) (by simp only [resVs, omap, resV, ↓wk, ↓wl, nc, evV, wrapBits_eq, ↓reduceIte, sevalprocAttr]; rfl) (hand_plain (by rfl)) (by first | exact Or.inl rfl | exact Or.inr rfl)
      · refine AW.regt ?_
        refine evR.fork ?_
        try simp only [↓wk, ↓wl, nc, evV, wrapBits_eq, ↓reduceIte, sevalprocAttr]
        refine evR.both ?_ ?_
        · refine evR.fork ?_
          try simp only [↓wk, ↓wl, nc, evV, wrapBits_eq, ↓reduceIte, sevalprocAttr]
          refine evTs_pure hFnq H (fun _ h => f18_ok h) (by rfl) (by rfl) (by rfl) (by rfl) (fun _ => rfl) ?_ <;> clear H <;> intro r_1007 H
          try simp only [eL, eRef57Receiver, ↓wk, ↓wl, nc, evV, wrapBits_eq, ↓reduceIte, sevalprocAttr]
          refine evR.both ?_ ?_
          · refine evR.run ?_
            try simp only [↓wk, ↓wl, nc, evV, wrapBits_eq, ↓reduceIte, sevalprocAttr]
            refine evTs_pure hFnq H (fun _ h => f17_ok h) (by rfl) (by rfl) (by rfl) (by rfl) (fun _ => rfl) ?_ <;> clear H <;> intro r_1008 H
            try simp only [eL, eRef57Receiver, ↓wk, ↓wl, nc, evV, wrapBits_eq, ↓reduceIte, sevalprocAttr]
            refine seqQ.norm ?_
            exact hf3_J1 _ _ H ((Le.none [0, 2, 3] [3, 7, 8, 9, 10, 11, 12] (by decide) (by simp only [f3_J1c, rrl, Option.map_some, vm, List.idxOf?_cons, List.idxOf?_nil, beq_self_eq_true, Option.map_none, List.getD_cons_zero, List.getD_cons_succ, ↓wk, ↓wl, nc, evV, wrapBits_eq, ↓reduceIte, sevalprocAttr] <;> rfl)))
          · refine evR.run ?_
            try simp only [↓wk, ↓wl, nc, evV, wrapBits_eq, ↓reduceIte, sevalprocAttr]
            refine evTs_pure hFnq H (fun _ h => f17_ok h) (by rfl) (by rfl) (by rfl) (by rfl) (fun _ => rfl) ?_ <;> clear H <;> intro r_1008 H
            try simp only [eL, eRef57Receiver, ↓wk, ↓wl, nc, evV, wrapBits_eq, ↓reduceIte, sevalprocAttr]
            refine seqQ.norm ?_
            exact hf3_J1 _ _ H ((Le.none [0, 2, 3] [3, 7, 8, 9, 10, 11, 12] (by decide) (by simp only [f3_J1c, rrl, Option.map_some, vm, List.idxOf?_cons, List.idxOf?_nil, beq_self_eq_true, Option.map_none, List.getD_cons_zero, List.getD_cons_succ, ↓wk, ↓wl, nc, evV, wrapBits_eq, ↓reduceIte, sevalprocAttr] <;> rfl)))
        · refine evR.run ?_
          try simp only [↓wk, ↓wl, nc, evV, wrapBits_eq, ↓reduceIte, sevalprocAttr]
          refine evTs_pure hFnq H (fun _ h => f18_ok h) (by rfl) (by rfl) (by rfl) (by rfl) (fun _ => rfl) ?_ <;> clear H <;> intro r_1007 H
          try simp only [eL, eRef57Receiver, ↓wk, ↓wl, nc, evV, wrapBits_eq, ↓reduceIte, sevalprocAttr]
          refine evTs_pure hFnq H (fun _ h => f17_ok h) (by rfl) (by rfl) (by rfl) (by rfl) (fun _ => rfl) ?_ <;> clear H <;> intro r_1008 H
          try simp only [eL, eRef57Receiver, ↓wk, ↓wl, nc, evV, wrapBits_eq, ↓reduceIte, sevalprocAttr]
          refine seqQ.norm ?_
          exact hf3_J1 _ _ H ((Le.none [0, 2, 3] [3, 7, 8, 9, 10, 11, 12] (by decide) (by simp only [f3_J1c, rrl, Option.map_some, vm, List.idxOf?_cons, List.idxOf?_nil, beq_self_eq_true, Option.map_none, List.getD_cons_zero, List.getD_cons_succ, ↓wk, ↓wl, nc, evV, wrapBits_eq, ↓reduceIte, sevalprocAttr] <;> rfl)))
end Go.Proofs.Ytgfohogbechkkaa
