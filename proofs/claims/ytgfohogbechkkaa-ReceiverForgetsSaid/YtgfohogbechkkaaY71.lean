import Derived.Test.YtgfohogbechkkaaX2
import Derived.Test.YtgfohogbechkkaaM5
import Derived.Test.YtgfohogbechkkaaProg
import Derived.KernelRfl
namespace Go.Proofs.Ytgfohogbechkkaa
open Go Go.Ab

set_option maxHeartbeats 1000000
set_option linter.unusedSimpArgs false
set_option linter.unusedVariables false
theorem dlf38 : fd? Try.prog 38 = some (42, [.slot 4], dlgC 8 [(1, (.int .i64 0)), (1, (.int .u64 0)), (1, (.int .i64 0)), (1, (.int .i64 0)), (1, (.int .i64 0)), (1, (.int .i64 0)), (1, (.str [])), (1, (.str []))] (.agg [(.int .i64 0), (.int .u64 0), (.int .i64 0), (.int .i64 0), (.int .i64 0), (.int .i64 0), (.str []), (.str [])]) 77) := by kernel_rfl
theorem idx77 : fd? Try.prog 77 = some (19, [.slot 4], idxC 8) := by kernel_rfl
def c72_0 : C := .seq (.reg [iI 4 (.load 0 (.t 1)), iI 5 (.faddr 5 (.t 2)), iI 6 (.load 0 (.t 5)), iI 7 (.bin .sub (.t 4) (.t 6)), iI 8 (.bin .gtr (.t 7) (.c (.int .i64 2500))), iI 3 (.mv (.t 8))]) .ret
def ir72 : C := .seq (.reg [iI 2 (.box (.t 0)), iI 3 (.mv (.c (.bool false)))]) c72_0
theorem fd72 : fd? Try.prog 72 = some (9, [.slot 3], ir72) := by kernel_rfl
noncomputable def f72p (x_888 : ReceiverInput) (c_889 : Int) : Option (Bool) :=
  (some (decide (2500 < (IntKind.i64.wrap (c_889 - x_888.fLast)))))
theorem f72p_ok {x_888 : ReceiverInput} {c_889 : Int} {r_ : Bool} (H : f72p x_888 c_889 = some r_) : Pure Try.prog 72 [.agg [.int .i64 x_888.fUniverse, .int .u64 x_888.fSource, .int .i64 x_888.fPriority, .int .i64 x_888.fSeq, .int .i64 x_888.fSync, .int .i64 x_888.fLast, .str x_888.fSlots, .str x_888.fWait], .pro [.int .i64 c_889]] (· = .bool r_) := by
  refine Pure.walk3 fd72 none (Nat.le_of_ble_eq_true rfl) (by rfl) fun Q hQ => ?_
  simp only [f72p] at H
  refine AW.rseq ?_
  try simp only [↓wk, ↓wl, nc, evV, wrapBits_eq, ↓reduceIte, sevalprocAttr]
  refine AW.rseq ?_
  try simp only [↓wk, ↓wl, nc, evV, wrapBits_eq, ↓reduceIte, sevalprocAttr]
  refine AW.ret ?_
  cases H
  exact hQ _ _ _ _ (.inr rfl) (by simp only [resVs, omap, resV, ↓wk, ↓wl, nc, evV, wrapBits_eq, ↓reduceIte, sevalprocAttr]; rfl) (hand_plain (by rfl)) (by first | exact Or.inl rfl | exact Or.inr rfl)
noncomputable def f26_J1 (v_891 : (List ReceiverInput)) (r_883 : ReceiverReceiver) : Jn (Unit) (ReceiverReceiver × Int × Int) where
  run := fun _ => (some ((ReceiverReceiver.mk v_891), (IntKind.i64.wrap (((r_883.fInputs.length : Nat) : Int) - ((v_891.length : Nat) : Int))), 0))
  cst := fun _ => ⟨put (put (put (fun _ => .junk) 6 (.int .i64 0)) 5 (.int .i64 (IntKind.i64.wrap (((r_883.fInputs.length : Nat) : Int) - ((v_891.length : Nat) : Int))))) 4 (.ptr 0 0), [.cel [.row 8 1 0 v_891.length], .els 8 (v_891.map eReceiverInput)]⟩
theorem f26_J1c (v_891 : (List ReceiverInput)) (r_883 : ReceiverReceiver) (x_ : Unit) : (f26_J1 v_891 r_883).cst x_ = ⟨put (put (put (fun _ => .junk) 6 (.int .i64 0)) 5 (.int .i64 (IntKind.i64.wrap (((r_883.fInputs.length : Nat) : Int) - ((v_891.length : Nat) : Int))))) 4 (.ptr 0 0), [.cel [.row 8 1 0 v_891.length], .els 8 (v_891.map eReceiverInput)]⟩ := rfl
def c26_0 : C := .cond (.t 13) (.seq (.reg [iI 14 (.build [(1, (.sl 8 true []))] []), iI 15 (.mv (.t 7)), iN (.store 1 (.t 4) (.t 14)), iI 5 (.mv (.c (.int .i64 0))), iI 6 (.mv (.t 15))]) .ret) (.skip)
def c26_1 : C := .seq (.reg [iI 12 (.mv (.t 7)), iI 13 (.bin .neq (.t 12) (.c (.int .i64 0)))]) c26_0
def c26_2 : C := .seq (.regt (.fork [iI 21 (.mv (.t 8)), iI 22 (.build [(1, (.sl 8 true []))] [(0, 0, (.t 21))]), iI 23 (.faddr 0 (.t 2)), iI 26 (.mv (.t 8))] (.fork [iI 24 (.load 0 (.t 23))] (.fork [iI 25 (.len 0 (.t 24))] (.run [iI 27 (.len 0 (.t 26)), iI 28 (.bin .sub (.t 25) (.t 27)), iN (.store 1 (.t 4) (.t 22)), iI 5 (.mv (.t 28)), iI 6 (.mv (.c (.int .i64 0)))]) (.run [iN (.store 1 (.t 4) (.t 22)), iI 27 (.len 0 (.t 26)), iI 28 (.bin .sub (.t 25) (.t 27)), iI 5 (.mv (.t 28)), iI 6 (.mv (.c (.int .i64 0)))])) (.fork [] (.fork [iI 27 (.len 0 (.t 26))] (.run [iI 25 (.len 0 (.t 24)), iI 28 (.bin .sub (.t 25) (.t 27)), iN (.store 1 (.t 4) (.t 22)), iI 5 (.mv (.t 28)), iI 6 (.mv (.c (.int .i64 0)))]) (.run [iN (.store 1 (.t 4) (.t 22)), iI 25 (.len 0 (.t 24)), iI 28 (.bin .sub (.t 25) (.t 27)), iI 5 (.mv (.t 28)), iI 6 (.mv (.c (.int .i64 0)))])) (.run [iN (.store 1 (.t 4) (.t 22)), iI 25 (.len 0 (.t 24)), iI 27 (.len 0 (.t 26)), iI 28 (.bin .sub (.t 25) (.t 27)), iI 5 (.mv (.t 28)), iI 6 (.mv (.c (.int .i64 0)))]))) (.fork [] (.fork [iI 27 (.len 0 (.t 26))] (.fork [iI 24 (.load 0 (.t 23))] (.run [iI 25 (.len 0 (.t 24)), iI 28 (.bin .sub (.t 25) (.t 27)), iN (.store 1 (.t 4) (.t 22)), iI 5 (.mv (.t 28)), iI 6 (.mv (.c (.int .i64 0)))]) (.run [iN (.store 1 (.t 4) (.t 22)), iI 25 (.len 0 (.t 24)), iI 28 (.bin .sub (.t 25) (.t 27)), iI 5 (.mv (.t 28)), iI 6 (.mv (.c (.int .i64 0)))])) (.run [iN (.store 1 (.t 4) (.t 22)), iI 24 (.load 0 (.t 23)), iI 25 (.len 0 (.t 24)), iI 28 (.bin .sub (.t 25) (.t 27)), iI 5 (.mv (.t 28)), iI 6 (.mv (.c (.int .i64 0)))])) (.run [iN (.store 1 (.t 4) (.t 22)), iI 24 (.load 0 (.t 23)), iI 25 (.len 0 (.t 24)), iI 27 (.len 0 (.t 26)), iI 28 (.bin .sub (.t 25) (.t 27)), iI 5 (.mv (.t 28)), iI 6 (.mv (.c (.int .i64 0)))])))) .ret
def c26_3 : C := .seq (.reg [iI 16 (.faddr 0 (.t 2)), iI 17 (.load 0 (.t 16)), iI 18 (.call (.c (.fn 39 [])) [(.t 17)]), iI 19 (.mkfn 72 [(.t 3)]), iI 20 (.call (.c (.fn 38 [])) [(.t 18), (.t 19)]), iI 8 (.mv (.t 20))]) c26_2
def c26_4 : C := .seq (.seq (.reg [iI 9 (.load 1 (.t 2)), iI 10 (.load 0 (.t 3)), iI 11 (.call (.c (.fn 58 [])) [(.t 9), (.t 10)]), iI 7 (.mv (.t 11))]) c26_1) c26_3
def ir26 : C := .seq (.reg [iI 2 (.box (.t 0)), iI 3 (.box (.t 1)), iI 4 (.alloc [(1, (.sl 8 true []))]), iI 5 (.mv (.c (.int .i64 0))), iI 6 (.mv (.c (.int .i64 0)))]) c26_4
theorem fd26 : fd? Try.prog 26 = some (29, [.cell 4 1, .slot 5, .slot 6], ir26) := by kernel_rfl
noncomputable def f26 (r_883 : ReceiverReceiver) (t_884 : Int) : Option (ReceiverReceiver × Int × Int) :=
  (f58 r_883 t_884).bind fun r_886 => (if (decide (r_886 ≠ 0)) = true then (some ((ReceiverReceiver.mk ([])), 0, r_886)) else (f39 r_883.fInputs).bind fun r_887 => (delf? (fun x_890 => f72p x_890 t_884) r_887).bind fun v_891 => ((f26_J1 v_891 r_883).run ()))
theorem f26_ok {r_883 : ReceiverReceiver} {t_884 : Int} {r_ : ReceiverReceiver × Int × Int} (H : f26 r_883 t_884 = some r_) : Pure Try.prog 26 [.agg [.sl 8 false (r_883.fInputs.map eReceiverInput)], .int .i64 t_884] (· = .tup [.agg [.sl 8 false (r_.1.fInputs.map eReceiverInput)], .int .i64 r_.2.1, .int .i64 r_.2.2]) := by
  refine Pure.walk3 fd26 none (Nat.le_of_ble_eq_true rfl) (by rfl) fun Q hQ => ?_
  simp only [f26] at H
  refine AW.rseq ?_
  try simp only [↓wk, ↓wl, nc, evV, wrapBits_eq, ↓reduceIte, sevalprocAttr]
  refine AW.sseq ?_
  refine AW.rseq ?_
  try simp only [↓wk, ↓wl, nc, evV, wrapBits_eq, ↓reduceIte, sevalprocAttr]
  refine evTs_pure hFn H (fun _ h => f58_ok h) (by rfl) (by rfl) (by rfl) (by rfl) (fun _ => rfl) ?_ <;> clear H <;> intro r_886 H
  try simp only [eL, ↓wk, ↓wl, nc, evV, wrapBits_eq, ↓reduceIte, sevalprocAttr]
  refine AW.rseq ?_
  try simp only [↓wk, ↓wl, nc, evV, wrapBits_eq, ↓reduceIte, sevalprocAttr]
  refine AW.ifc H (by rfl) ?_ ?_ <;> clear H <;> intro H
  · refine AW.rseq ?_
    try simp only [↓wk, ↓wl, nc, evV, wrapBits_eq, ↓reduceIte, sevalprocAttr]
    refine AW.ret ?_
    refine seqQ.ret ?_
    cases H
    exact hQ _ _ _ _ (.inr rfl) (by simp only [resVs, omap, resV, ↓wk, ↓wl, nc, evV, wrapBits_eq, ↓reduceIte, sevalprocAttr]; rfl) (hand_plain (by rfl)) (by first | exact Or.inl rfl | exact Or.inr rfl)
  · refine AW.skip ?_
    refine seqQ.norm ?_
    refine AW.rseq ?_
    try simp only [↓wk, ↓wl, nc, evV, wrapBits_eq, ↓reduceIte, sevalprocAttr]
    refine evTs_fr H (fun _ h => f39_ok h) (by rfl) (by rfl) (by rfl) (by rfl) (fun _ => rfl) ?_ <;> clear H <;> intro r_887 H
    try simp only [eL, ↓wk, ↓wl, nc, evV, wrapBits_eq, ↓reduceIte, sevalprocAttr]
    refine evTs_dlg (enc := eReceiverInput) H [.pro [.int .i64 t_884]] (fun _ _ h => f72p_ok h) dlf38 (by decide) (by rfl) idx77 (by rfl) (by rfl) (by show List.map (renB [0, 1, 2, 3]) _ = _; simp only [rrl, Option.map_some, vm, List.idxOf?_cons, List.idxOf?_nil, beq_self_eq_true, Option.map_none, List.getD_cons_zero, List.getD_cons_succ, ↓wk, ↓wl, nc, evV, wrapBits_eq, ↓reduceIte, sevalprocAttr]) (by show ren [0, 1, 2, 3] deep _ = _; simp only [rrl, Option.map_some, vm, List.idxOf?_cons, List.idxOf?_nil, beq_self_eq_true, Option.map_none, List.getD_cons_zero, List.getD_cons_succ, ↓wk, ↓wl, nc, evV, wrapBits_eq, ↓reduceIte, sevalprocAttr]) (fun h_ hh_ x_ => by have e0_ := hh_ 1 _ (by decide) (by rfl); simp only [deep_eq, imm_simps, imm_ptrE, imm_encx (enc := eReceiverInput), omap_simps, List.drop_zero, Option.map_some, e0_, ↓wk, ↓wl, nc, evV, wrapBits_eq, ↓reduceIte, sevalprocAttr] <;> rfl) (by first | rfl | simp only [List.length_set]) (by rfl) ?_ <;> clear H <;> intro v_891 H
    try simp only [↓wk, ↓wl, nc, evV, wrapBits_eq, ↓reduceIte, sevalprocAttr]
    refine AW.join (f26_J1 v_891 r_883) H ?_ fun hf26_J1 => ?_
    · clear H
      rintro _ st0_ H hst_
      rw [f26_J1c] at hst_
      simp only [f26_J1] at H
      subst hst_
      refine AW.ret ?_
      cases H
      exact hQ _ _ _ _ (.inr rfl) (by simp only [resVs, omap, resV, ↓wk, ↓wl, nc, evV, wrapBits_eq, ↓reduceIte, sevalprocAttr]; rfl) (by simp only [handOver, deep_eq, imm_simps, imm_rowE, imm_ptrE, imm_enc, omap_simps, take_map_len, take_map_set, take_map_set2, le_refl_true, Nat.zero_add, and_true, true_and, List.drop_zero, Option.map_some, ↓wk, ↓wl, nc, evV, wrapBits_eq, ↓reduceIte, sevalprocAttr]; rfl) (by first | exact Or.inl rfl | exact Or.inr rfl)
    · refine AW.regt ?_
      refine evR.fork ?_
      try simp only [↓wk, ↓wl, nc, evV, wrapBits_eq, ↓reduceIte, sevalprocAttr]
      refine evR.both ?_ ?_
      · refine evR.fork ?_
        try simp only [↓wk, ↓wl, nc, evV, wrapBits_eq, ↓reduceIte, sevalprocAttr]
        refine evR.both ?_ ?_
        · refine evR.fork ?_
          try simp only [↓wk, ↓wl, nc, evV, wrapBits_eq, ↓reduceIte, sevalprocAttr]
          refine evR.both ?_ ?_
          · refine evR.run ?_
            try simp only [↓wk, ↓wl, nc, evV, wrapBits_eq, ↓reduceIte, sevalprocAttr]
            refine seqQ.norm ?_
            exact hf26_J1 _ _ H ((Le.none [2, 4] [4, 5, 6] (by decide) (by simp only [f26_J1c, rrl, Option.map_some, vm, List.idxOf?_cons, List.idxOf?_nil, beq_self_eq_true, Option.map_none, List.getD_cons_zero, List.getD_cons_succ, ↓wk, ↓wl, nc, evV, wrapBits_eq, ↓reduceIte, sevalprocAttr] <;> rfl)))
          · refine evR.run ?_
            try simp only [↓wk, ↓wl, nc, evV, wrapBits_eq, ↓reduceIte, sevalprocAttr]
            refine seqQ.norm ?_
            exact hf26_J1 _ _ H ((Le.none [2, 4] [4, 5, 6] (by decide) (by simp only [f26_J1c, rrl, Option.map_some, vm, List.idxOf?_cons, List.idxOf?_nil, beq_self_eq_true, Option.map_none, List.getD_cons_zero, List.getD_cons_succ, ↓wk, ↓wl, nc, evV, wrapBits_eq, ↓reduceIte, sevalprocAttr] <;> rfl)))
        · refine evR.fork ?_
          try simp only [↓wk, ↓wl, nc, evV, wrapBits_eq, ↓reduceIte, sevalprocAttr]
          refine evR.both ?_ ?_
          · refine evR.fork ?_
            try simp only [↓wk, ↓wl, nc, evV, wrapBits_eq, ↓reduceIte, sevalprocAttr]
            refine evR.both ?_ ?_
            · refine evR.run ?_
              try simp only [↓wk, ↓wl, nc, evV, wrapBits_eq, ↓reduceIte, sevalprocAttr]
              refine seqQ.norm ?_
              exact hf26_J1 _ _ H ((Le.none [2, 4] [4, 5, 6] (by decide) (by simp only [f26_J1c, rrl, Option.map_some, vm, List.idxOf?_cons, List.idxOf?_nil, beq_self_eq_true, Option.map_none, List.getD_cons_zero, List.getD_cons_succ, ↓wk, ↓wl, nc, evV, wrapBits_eq, ↓reduceIte, sevalprocAttr] <;> rfl)))
            · refine evR.run ?_
              try simp only [↓wk, ↓wl, nc, evV, wrapBits_eq, ↓reduceIte, sevalprocAttr]
              refine seqQ.norm ?_
              exact hf26_J1 _ _ H ((Le.none [2, 4] [4, 5, 6] (by decide) (by simp only [f26_J1c, rrl, Option.map_some, vm, List.idxOf?_cons, List.idxOf?_nil, beq_self_eq_true, Option.map_none, List.getD_cons_zero, List.getD_cons_succ, ↓wk, ↓wl, nc, evV, wrapBits_eq, ↓reduceIte, sevalprocAttr] <;> rfl)))
          · refine evR.run ?_
            try simp only [↓wk, ↓wl, nc, evV, wrapBits_eq, ↓reduceIte, sevalprocAttr]
            refine seqQ.norm ?_
            exact hf26_J1 _ _ H ((Le.none [2, 4] [4, 5, 6] (by decide) (by simp only [f26_J1c, rrl, Option.map_some, vm, List.idxOf?_cons, List.idxOf?_nil, beq_self_eq_true, Option.map_none, List.getD_cons_zero, List.getD_cons_succ, ↓wk, ↓wl, nc, evV, wrapBits_eq, ↓reduceIte, sevalprocAttr] <;> rfl)))
      · refine evR.fork ?_
        try simp only [↓wk, ↓wl, nc, evV, wrapBits_eq, ↓reduceIte, sevalprocAttr]
        refine evR.both ?_ ?_
        · refine evR.fork ?_
          try simp only [↓wk, ↓wl, nc, evV, wrapBits_eq, ↓reduceIte, sevalprocAttr]
          refine evR.both ?_ ?_
          · refine evR.fork ?_
            try simp only [↓wk, ↓wl, nc, evV, wrapBits_eq, ↓reduceIte, sevalprocAttr]
            refine evR.both ?_ ?_
            · refine evR.run ?_
              try simp only [↓wk, ↓wl, nc, evV, wrapBits_eq, ↓reduceIte, sevalprocAttr]
              refine seqQ.norm ?_
              exact hf26_J1 _ _ H ((Le.none [2, 4] [4, 5, 6] (by decide) (by simp only [f26_J1c, rrl, Option.map_some, vm, List.idxOf?_cons, List.idxOf?_nil, beq_self_eq_true, Option.map_none, List.getD_cons_zero, List.getD_cons_succ, ↓wk, ↓wl, nc, evV, wrapBits_eq, ↓reduceIte, sevalprocAttr] <;> rfl)))
            · refine evR.run ?_
              try simp only [↓wk, ↓wl, nc, evV, wrapBits_eq, ↓reduceIte, sevalprocAttr]
              refine seqQ.norm ?_
              exact hf26_J1 _ _ H ((Le.none [2, 4] [4, 5, 6] (by decide) (by simp only [f26_J1c, rrl, Option.map_some, vm, List.idxOf?_cons, List.idxOf?_nil, beq_self_eq_true, Option.map_none, List.getD_cons_zero, List.getD_cons_succ, ↓wk, ↓wl, nc, evV, wrapBits_eq, ↓reduceIte, sevalprocAttr] <;> rfl)))
          · refine evR.run ?_
            try simp only [↓wk, ↓wl, nc, evV, wrapBits_eq, ↓reduceIte, sevalprocAttr]
            refine seqQ.norm ?_
            exact hf26_J1 _ _ H ((Le.none [2, 4] [4, 5, 6] (by decide) (by simp only [f26_J1c, rrl, Option.map_some, vm, List.idxOf?_cons, List.idxOf?_nil, beq_self_eq_true, Option.map_none, List.getD_cons_zero, List.getD_cons_succ, ↓wk, ↓wl, nc, evV, wrapBits_eq, ↓reduceIte, sevalprocAttr] <;> rfl)))
        · refine evR.run ?_
          try simp only [↓wk, ↓wl, nc, evV, wrapBits_eq, ↓reduceIte, sevalprocAttr]
          refine seqQ.norm ?_
          exact hf26_J1 _ _ H ((Le.none [2, 4] [4, 5, 6] (by decide) (by simp only [f26_J1c, rrl, Option.map_some, vm, List.idxOf?_cons, List.idxOf?_nil, beq_self_eq_true, Option.map_none, List.getD_cons_zero, List.getD_cons_succ, ↓wk, ↓wl, nc, evV, wrapBits_eq, ↓reduceIte, sevalprocAttr] <;> rfl)))
noncomputable def f34_L1 (s1_897 : (List ApiFrame)) (s2_898 : (List ApiFrame)) : Lp (Int) ((Unit) ⊕ (Unit)) where
  body := fun v_904 => (if (decide (v_904 < ((s1_897.length : Nat) : Int))) = true then (at? s1_897 v_904).bind fun x_907 => (at? s2_898 v_904).bind fun x_908 => (if (!((x_907.fUniverse == x_908.fUniverse) && ((x_907.fSlots == x_908.fSlots) && true))) = true then (some (.brk (Sum.inr ()))) else (some (.next (IntKind.i64.wrap (v_904 + 1))))) else (some (.brk (Sum.inl ()))))
  cst := fun v_904 => ⟨put (put (put (put (fun _ => .junk) 13 (.int .i64 v_904)) 12 (.int .i64 ((s1_897.length : Nat) : Int))) 1 (.sl 2 false (s2_898.map eApiFrame))) 0 (.sl 2 false (s1_897.map eApiFrame)), []⟩
theorem f34_L1c (s1_897 : (List ApiFrame)) (s2_898 : (List ApiFrame)) (v_904 : Int) : (f34_L1 s1_897 s2_898).cst v_904 = ⟨put (put (put (put (fun _ => .junk) 13 (.int .i64 v_904)) 12 (.int .i64 ((s1_897.length : Nat) : Int))) 1 (.sl 2 false (s2_898.map eApiFrame))) 0 (.sl 2 false (s1_897.map eApiFrame)), []⟩ := rfl
def c34_0 : C := .cond (.t 10) (.seq (.reg [iI 4 (.mv (.c (.bool false)))]) .ret) (.skip)
def c34_1 : C := .cond (.t 24) (.seq (.reg [iI 4 (.mv (.c (.bool false)))]) .ret) (.skip)
def c34_2 : C := .seq (.reg [iI 16 (.mv (.t 0)), iI 17 (.mv (.t 5)), iI 18 (.iaddr 2 (.t 16) (.t 17)), iI 19 (.load 2 (.t 18)), iI 20 (.mv (.t 1)), iI 21 (.mv (.t 5)), iI 22 (.iaddr 2 (.t 20) (.t 21)), iI 23 (.load 2 (.t 22)), iI 24 (.eqs true [0, 1] (.t 19) (.t 23))]) c34_1
def c34_3 : C := .reg [iI 25 (.bin .add (.t 13) (.c (.int .i64 1))), iI 13 (.mv (.t 25))]
def c34_4 : C := .seq (.block 1 (.seq (.reg [iI 15 (.mv (.t 13)), iI 5 (.mv (.t 15))]) c34_2)) c34_3
def c34_5 : C := .seq (.cond (.t 14) (.skip) (.exit 0)) c34_4
def c34_6 : C := .block 0 (.loop (.seq (.reg [iI 14 (.bin .lss (.t 13) (.t 12))]) c34_5))
def c34_7 : C := .seq (.reg [iI 4 (.mv (.c (.bool true)))]) .ret
def c34_8 : C := .seq (.seq (.reg [iI 11 (.mv (.t 0)), iI 12 (.len 0 (.t 11)), iI 13 (.mv (.c (.int .i64 0)))]) c34_6) c34_7
def c34_9 : C := .seq (.seq (.reg [iI 6 (.mv (.t 0)), iI 7 (.len 0 (.t 6)), iI 8 (.mv (.t 1)), iI 9 (.len 0 (.t 8)), iI 10 (.bin .neq (.t 7) (.t 9))]) c34_0) c34_8
def ir34 : C := .seq (.reg [iI 4 (.mv (.c (.bool false)))]) c34_9
theorem fd34 : fd? Try.prog 34 = some (26, [.slot 4], ir34) := by kernel_rfl
noncomputable def f34 (s1_897 : (List ApiFrame)) (s2_898 : (List ApiFrame)) : Option (Bool) :=
  (if (decide (((s1_897.length : Nat) : Int) ≠ ((s2_898.length : Nat) : Int))) = true then (some false) else ((Lp.run (f34_L1 s1_897 s2_898) 0).bind fun r_ => match r_ with | (Sum.inl _) => (some true) | (Sum.inr _) => (some false)))
theorem f34_ok {s1_897 : (List ApiFrame)} {s2_898 : (List ApiFrame)} {r_ : Bool} (H : f34 s1_897 s2_898 = some r_) : Pure Try.prog 34 [.sl 2 false (s1_897.map eApiFrame), .sl 2 false (s2_898.map eApiFrame)] (· = .bool r_) := by
  refine Pure.walk3 fd34 none (Nat.le_of_ble_eq_true rfl) (by rfl) fun Q hQ => ?_
  simp only [f34] at H
  refine AW.rseq ?_
  try simp only [↓wk, ↓wl, nc, evV, wrapBits_eq, ↓reduceIte, sevalprocAttr]
  refine AW.sseq ?_
  refine AW.rseq ?_
  try simp only [↓wk, ↓wl, nc, evV, wrapBits_eq, ↓reduceIte, sevalprocAttr]
  refine AW.ifc H (by rfl) ?_ ?_ <;> clear H <;> intro H
  · refine AW.rseq ?_
    try simp only [↓wk, ↓wl, nc, evV, wrapBits_eq, ↓reduceIte, sevalprocAttr]
    refine AW.ret ?_
    refine seqQ.ret ?_
    cases H
    exact hQ _ _ _ _ (.inr rfl) (by simp only [resVs, omap, resV, ↓wk, ↓wl, nc, evV, wrapBits_eq, ↓reduceIte, sevalprocAttr]; rfl) (hand_plain (by rfl)) (by first | exact Or.inl rfl | exact Or.inr rfl)
  · refine AW.skip ?_
    refine seqQ.norm ?_
    refine AW.sseq ?_
    refine AW.rseq ?_
    try simp only [↓wk, ↓wl, nc, evV, wrapBits_eq, ↓reduceIte, sevalprocAttr]
    refine AW.bend ?_
    refine AW.iter H ((Le.none [] [0, 1, 12, 13] (by decide) (by simp only [f34_L1c, rrl, Option.map_some, vm, List.idxOf?_cons, List.idxOf?_nil, beq_self_eq_true, Option.map_none, List.getD_cons_zero, List.getD_cons_succ, ↓wk, ↓wl, nc, evV, wrapBits_eq, ↓reduceIte, sevalprocAttr] <;> rfl))) ?_ <;> clear H
    rintro v_904 x_ st0_ H hst_
    rw [f34_L1c] at hst_
    simp only [f34_L1] at H
    subst hst_
    refine AW.rseq ?_
    try simp only [↓wk, ↓wl, nc, evV, wrapBits_eq, ↓reduceIte, sevalprocAttr]
    refine AW.sseq ?_
    refine AW.ifc H (by rfl) ?_ ?_ <;> clear H <;> intro H
    · refine AW.skip ?_
      refine seqQ.norm ?_
      refine AW.bseq ?_
      refine AW.rseq ?_
      try simp only [↓wk, ↓wl, nc, evV, wrapBits_eq, ↓reduceIte, sevalprocAttr]
      refine AW.rseq ?_
      try simp only [↓wk, ↓wl, nc, evV, wrapBits_eq, ↓reduceIte, sevalprocAttr]
      refine evTs_at (enc := eApiFrame) H (by rfl) (by rfl) ?_ <;> clear H <;> intro x_907 H
      try simp only [eApiFrame, eL, ↓wk, ↓wl, nc, evV, wrapBits_eq, ↓reduceIte, sevalprocAttr]
      refine evTs_at (enc := eApiFrame) H (by rfl) (by rfl) ?_ <;> clear H <;> intro x_908 H
      try simp only [eApiFrame, eL, ↓wk, ↓wl, nc, evV, wrapBits_eq, ↓reduceIte, sevalprocAttr]
      refine rest_neqs (by rfl) ?_
      try simp only [↓wk, ↓wl, nc, evV, wrapBits_eq, ↓reduceIte, sevalprocAttr]
      refine AW.ifc H (by rfl) ?_ ?_ <;> clear H <;> intro H
      · refine AW.rseq ?_
        try simp only [↓wk, ↓wl, nc, evV, wrapBits_eq, ↓reduceIte, sevalprocAttr]
        refine AW.ret ?_
        refine blkQ.ret ?_
        refine loopQ.ret H ?_ <;> clear H <;> intro H
        try dsimp only at H
        refine blk0.ret ?_
        refine seqQ.ret ?_
        cases H
        exact hQ _ _ _ _ (.inr rfl) (by simp only [resVs, omap, resV, ↓wk, ↓wl, nc, evV, wrapBits_eq, ↓reduceIte, sevalprocAttr]; rfl) (hand_plain (by rfl)) (by first | exact Or.inl rfl | exact Or.inr rfl)
      · refine AW.skip ?_
        refine blkQ.norm ?_
        refine AW.rend ?_
        try simp only [↓wk, ↓wl, nc, evV, wrapBits_eq, ↓reduceIte, sevalprocAttr]
        exact loopQ.next H ((Le.none [] [0, 1, 12, 13] (by decide) (by simp only [f34_L1c, rrl, Option.map_some, vm, List.idxOf?_cons, List.idxOf?_nil, beq_self_eq_true, Option.map_none, List.getD_cons_zero, List.getD_cons_succ, ↓wk, ↓wl, nc, evV, wrapBits_eq, ↓reduceIte, sevalprocAttr] <;> rfl)))
    · refine AW.exit ?_
      refine seqQ.exit ?_
      refine loopQ.exit H ?_ <;> clear H <;> intro H
      try dsimp only at H
      refine blk0.here ?_
      refine seqQ.norm ?_
      refine AW.rseq ?_
      try simp only [↓wk, ↓wl, nc, evV, wrapBits_eq, ↓reduceIte, sevalprocAttr]
      refine AW.ret ?_
      cases H
      exact hQ _ _ _ _ (.inr rfl) (by simp only [resVs, omap, resV, ↓wk, ↓wl, nc, evV, wrapBits_eq, ↓reduceIte, sevalprocAttr]; rfl) (hand_plain (by rfl)) (by first | exact Or.inl rfl | exact Or.inr rfl)
def c7_0 : C := .cond (.t 25) (.seq (.reg [iI 26 (.call (.c (.fn 15 [])) []), iI 4 (.mv (.t 26))]) .ret) (.skip)
def c7_1 : C := .seq (.reg [iI 61 (.mv (.t 7)), iI 62 (.mv (.t 9)), iI 63 (.bin .add (.t 61) (.t 62)), iI 64 (.mv (.t 11)), iI 65 (.bin .add (.t 63) (.t 64)), iI 66 (.mv (.t 13)), iI 67 (.bin .add (.t 65) (.t 66)), iI 68 (.mv (.t 16)), iI 69 (.bin .add (.t 67) (.t 68)), iI 70 (.bin .eql (.t 69) (.c (.int .i64 0))), iI 71 (.mv (.t 70)), iG (some 72) 71 true (.mv (.t 8)), iG (some 73) 71 true (.mv (.t 10)), iG (some 74) 71 true (.call (.c (.fn 34 [])) [(.t 72), (.t 73)]), iI 75 (.pick (.t 71) (.t 74) (.c (.bool false))), iI 76 (.mv (.t 75)), iG (some 77) 76 true (.mv (.t 12)), iG (some 78) 76 true (.len 0 (.t 77)), iG (some 79) 76 true (.bin .eql (.t 78) (.c (.int .i64 0))), iI 80 (.pick (.t 76) (.t 79) (.c (.bool false))), iI 81 (.mv (.t 80)), iG (some 82) 81 true (.faddr 0 (.t 14)), iG (some 83) 81 true (.load 0 (.t 82)), iG (some 84) 81 true (.len 0 (.t 83)), iG (some 85) 81 true (.bin .eql (.t 84) (.c (.int .i64 0))), iI 86 (.pick (.t 81) (.t 85) (.c (.bool false))), iI 87 (.mv (.t 86)), iG (some 88) 87 true (.mv (.t 15)), iG (some 89) 87 true (.faddr 0 (.t 2)), iG (some 90) 87 true (.load 0 (.t 89)), iG (some 91) 87 true (.len 0 (.t 90)), iG (some 92) 87 true (.bin .eql (.t 88) (.t 91)), iI 93 (.pick (.t 87) (.t 92) (.c (.bool false))), iI 94 (.mv (.t 93)), iG (some 95) 94 true (.faddr 0 (.t 5)), iG (some 96) 94 true (.load 0 (.t 95)), iG (some 97) 94 true (.len 0 (.t 96)), iG (some 98) 94 true (.mv (.t 6)), iG (some 99) 94 true (.bin .add (.t 97) (.t 98)), iG (some 100) 94 true (.faddr 0 (.t 2)), iG (some 101) 94 true (.load 0 (.t 100)), iG (some 102) 94 true (.len 0 (.t 101)), iG (some 103) 94 true (.bin .eql (.t 99) (.t 102)), iI 104 (.pick (.t 94) (.t 103) (.c (.bool false))), iI 105 (.mv (.t 104)), iG (some 106) 105 true (.call (.c (.fn 15 [])) []), iI 107 (.pick (.t 105) (.t 106) (.c (.bool false))), iI 4 (.mv (.t 107))]) .ret
def c7_2 : C := .seq (.reg [iI 54 (.load 1 (.t 2)), iI 55 (.mv (.t 1)), iI 56 (.bin .add (.t 55) (.c (.int .i64 2501))), iI 57 (.call (.c (.fn 26 [])) [(.t 54), (.t 56)]), iI 53 (.mv (.t 57)), iI 58 (.ext (.t 53) 0), iI 59 (.ext (.t 53) 1), iI 60 (.ext (.t 53) 2), iI 14 (.alloc [(1, (.sl 8 true []))]), iN (.store 1 (.t 14) (.t 58)), iI 15 (.mv (.t 59)), iI 16 (.mv (.t 60))]) c7_1
def c7_3 : C := .seq (.reg [iI 47 (.load 1 (.t 2)), iI 48 (.mv (.t 1)), iI 49 (.bin .add (.t 48) (.c (.int .i64 2501))), iI 50 (.call (.c (.fn 30 [])) [(.t 47), (.t 49)]), iI 46 (.mv (.t 50)), iI 51 (.ext (.t 46) 0), iI 52 (.ext (.t 46) 1), iI 12 (.mv (.t 51)), iI 13 (.mv (.t 52))]) c7_2
def c7_4 : C := .seq (.reg [iI 41 (.load 1 (.t 5)), iI 42 (.mv (.t 1)), iI 43 (.call (.c (.fn 30 [])) [(.t 41), (.t 42)]), iI 40 (.mv (.t 43)), iI 44 (.ext (.t 40) 0), iI 45 (.ext (.t 40) 1), iI 10 (.mv (.t 44)), iI 11 (.mv (.t 45))]) c7_3
def c7_5 : C := .seq (.reg [iI 35 (.load 1 (.t 2)), iI 36 (.mv (.t 1)), iI 37 (.call (.c (.fn 30 [])) [(.t 35), (.t 36)]), iI 34 (.mv (.t 37)), iI 38 (.ext (.t 34) 0), iI 39 (.ext (.t 34) 1), iI 8 (.mv (.t 38)), iI 9 (.mv (.t 39))]) c7_4
def c7_6 : C := .seq (.reg [iI 28 (.load 1 (.t 2)), iI 29 (.mv (.t 1)), iI 30 (.call (.c (.fn 26 [])) [(.t 28), (.t 29)]), iI 27 (.mv (.t 30)), iI 31 (.ext (.t 27) 0), iI 32 (.ext (.t 27) 1), iI 33 (.ext (.t 27) 2), iI 5 (.alloc [(1, (.sl 8 true []))]), iN (.store 1 (.t 5) (.t 31)), iI 6 (.mv (.t 32)), iI 7 (.mv (.t 33))]) c7_5
def c7_7 : C := .seq (.seq (.reg [iI 17 (.load 1 (.t 2)), iI 18 (.mv (.t 1)), iI 19 (.call (.c (.fn 22 [])) [(.t 17), (.t 18)]), iI 20 (.un .not (.t 19)), iI 21 (.mv (.t 20)), iG (some 22) 21 false (.mv (.t 1)), iG (some 23) 21 false (.bin .add (.t 22) (.c (.int .i64 2501))), iG (some 24) 21 false (.bin .gtr (.t 23) (.c (.int .i64 10000000))), iI 25 (.pick (.t 21) (.c (.bool true)) (.t 24))]) c7_0) c7_6
def ir7 : C := .seq (.reg [iI 2 (.box (.t 0)), iI 4 (.mv (.c (.bool false)))]) c7_7
theorem fd7 : fd? Try.prog 7 = some (108, [.slot 4], ir7) := by kernel_rfl
noncomputable def f7 (r_870 : ReceiverReceiver) (t_871 : Int) : Option (Bool) :=
  (f22 r_870 t_871).bind fun r_875 => (if (!r_875) = true then (f15).bind fun r_876 => (some r_876) else (if (decide (10000000 < (IntKind.i64.wrap (t_871 + 2501)))) = true then (f15).bind fun r_877 => (some r_877) else (f26 r_870 t_871).bind fun r_892 => (f30 r_870 t_871).bind fun r_893 => (f30 r_892.1 t_871).bind fun r_894 => (f30 r_870 (IntKind.i64.wrap (t_871 + 2501))).bind fun r_895 => (f26 r_870 (IntKind.i64.wrap (t_871 + 2501))).bind fun r_896 => (if (decide ((IntKind.i64.wrap ((IntKind.i64.wrap ((IntKind.i64.wrap ((IntKind.i64.wrap (r_892.2.2 + r_893.2)) + r_894.2)) + r_895.2)) + r_896.2.2)) = 0)) = true then (f34 r_893.1 r_894.1).bind fun r_909 => (if r_909 = true then (if (decide (((r_895.1.length : Nat) : Int) = 0)) = true then (if (decide (((r_896.1.fInputs.length : Nat) : Int) = 0)) = true then (if (decide (r_896.2.1 = ((r_870.fInputs.length : Nat) : Int))) = true then (if (decide ((IntKind.i64.wrap (((r_892.1.fInputs.length : Nat) : Int) + r_892.2.1)) = ((r_870.fInputs.length : Nat) : Int))) = true then (f15).bind fun r_910 => (some r_910) else (some false)) else (some false)) else (some false)) else (some false)) else (some false)) else (some false))))
theorem f7_ok {r_870 : ReceiverReceiver} {t_871 : Int} {r_ : Bool} (H : f7 r_870 t_871 = some r_) : Pure Try.prog 7 [.agg [.sl 8 false (r_870.fInputs.map eReceiverInput)], .int .i64 t_871] (· = .bool r_) := by
  refine Pure.walk3 fd7 none (Nat.le_of_ble_eq_true rfl) (by rfl) fun Q hQ => ?_
  simp only [f7] at H
  refine AW.rseq ?_
  try simp only [↓wk, ↓wl, nc, evV, wrapBits_eq, ↓reduceIte, sevalprocAttr]
  refine AW.sseq ?_
  refine AW.rseq ?_
  try simp only [↓wk, ↓wl, nc, evV, wrapBits_eq, ↓reduceIte, sevalprocAttr]
  refine evTs_pure hFn H (fun _ h => f22_ok h) (by rfl) (by rfl) (by rfl) (by rfl) (fun _ => rfl) ?_ <;> clear H <;> intro r_875 H
  try simp only [eL, ↓wk, ↓wl, nc, evV, wrapBits_eq, ↓reduceIte, sevalprocAttr]
  refine evTs_ifg H (by rfl) ?_ ?_ <;> clear H <;> intro H
  · try simp only [↓wk, ↓wl, nc, evV, wrapBits_eq, ↓reduceIte, sevalprocAttr]
    refine AW.ift (by rfl) ?_
    refine AW.rseq ?_
    try simp only [↓wk, ↓wl, nc, evV, wrapBits_eq, ↓reduceIte, sevalprocAttr]
    refine evTs_pure hFn H (fun _ h => f15_ok h) (by rfl) (by rfl) (by rfl) (by rfl) (fun _ => rfl) ?_ <;> clear H <;> intro r_876 H
    try simp only [eL, ↓wk, ↓wl, nc, evV, wrapBits_eq, ↓reduceIte, sevalprocAttr]
    refine AW.ret ?_
    refine seqQ.ret ?_
    cases H
    exact hQ _ _ _ _ (.inr rfl) (by simp only [resVs, omap, resV, ↓wk, ↓wl, nc, evV, wrapBits_eq, ↓reduceIte, sevalprocAttr]; rfl) (hand_plain (by rfl)) (by first | exact Or.inl rfl | exact Or.inr rfl)
  · try simp only [↓wk, ↓wl, nc, evV, wrapBits_eq, ↓reduceIte, sevalprocAttr]
    refine AW.ifc H (by rfl) ?_ ?_ <;> clear H <;> intro H
    · refine AW.rseq ?_
      try simp only [↓wk, ↓wl, nc, evV, wrapBits_eq, ↓reduceIte, sevalprocAttr]
      refine evTs_pure hFn H (fun _ h => f15_ok h) (by rfl) (by rfl) (by rfl) (by rfl) (fun _ => rfl) ?_ <;> clear H <;> intro r_877 H
      try simp only [eL, ↓wk, ↓wl, nc, evV, wrapBits_eq, ↓reduceIte, sevalprocAttr]
      refine AW.ret ?_
      refine seqQ.ret ?_
      cases H
      exact hQ _ _ _ _ (.inr rfl) (by simp only [resVs, omap, resV, ↓wk, ↓wl, nc, evV, wrapBits_eq, ↓reduceIte, sevalprocAttr]; rfl) (hand_plain (by rfl)) (by first | exact Or.inl rfl | exact Or.inr rfl)
    · refine AW.skip ?_
      refine seqQ.norm ?_
      refine AW.rseq ?_
      try simp only [↓wk, ↓wl, nc, evV, wrapBits_eq, ↓reduceIte, sevalprocAttr]
      refine evTs_pure hFn H (fun _ h => f26_ok h) (by rfl) (by rfl) (by rfl) (by rfl) (fun _ => rfl) ?_ <;> clear H <;> intro r_892 H
      try simp only [eL, eReceiverReceiver, ↓wk, ↓wl, nc, evV, wrapBits_eq, ↓reduceIte, sevalprocAttr]
      refine AW.rseq ?_
      try simp only [↓wk, ↓wl, nc, evV, wrapBits_eq, ↓reduceIte, sevalprocAttr]
      refine evTs_pure hFn H (fun _ h => f30_im h) (by rfl) (by rfl) (by rfl) (by rfl) (fun _ => rfl) ?_ <;> clear H <;> intro r_893 H
      try simp only [eL, ↓wk, ↓wl, nc, evV, wrapBits_eq, ↓reduceIte, sevalprocAttr]
      refine AW.rseq ?_
      try simp only [↓wk, ↓wl, nc, evV, wrapBits_eq, ↓reduceIte, sevalprocAttr]
      refine evTs_pure hFn H (fun _ h => f30_im h) (by rfl) (by rfl) (by rfl) (by rfl) (fun _ => rfl) ?_ <;> clear H <;> intro r_894 H
      try simp only [eL, ↓wk, ↓wl, nc, evV, wrapBits_eq, ↓reduceIte, sevalprocAttr]
      refine AW.rseq ?_
      try simp only [↓wk, ↓wl, nc, evV, wrapBits_eq, ↓reduceIte, sevalprocAttr]
      refine evTs_pure hFn H (fun _ h => f30_im h) (by rfl) (by rfl) (by rfl) (by rfl) (fun _ => rfl) ?_ <;> clear H <;> intro r_895 H
      try simp only [eL, ↓wk, ↓wl, nc, evV, wrapBits_eq, ↓reduceIte, sevalprocAttr]
      refine AW.rseq ?_
      try simp only [↓wk, ↓wl, nc, evV, wrapBits_eq, ↓reduceIte, sevalprocAttr]
      refine evTs_pure hFn H (fun _ h => f26_ok h) (by rfl) (by rfl) (by rfl) (by rfl) (fun _ => rfl) ?_ <;> clear H <;> intro r_896 H
      try simp only [eL, eReceiverReceiver, ↓wk, ↓wl, nc, evV, wrapBits_eq, ↓reduceIte, sevalprocAttr]
      refine AW.rseq ?_
      try simp only [↓wk, ↓wl, nc, evV, wrapBits_eq, ↓reduceIte, sevalprocAttr]
      refine evTs_ifg H (by rfl) ?_ ?_ <;> clear H <;> intro H
      · try simp only [↓wk, ↓wl, nc, evV, wrapBits_eq, ↓reduceIte, sevalprocAttr]
        refine evTs_pure hFn H (fun _ h => f34_ok h) (by rfl) (by rfl) (by rfl) (by rfl) (fun _ => rfl) ?_ <;> clear H <;> intro r_909 H
        try simp only [eL, ↓wk, ↓wl, nc, evV, wrapBits_eq, ↓reduceIte, sevalprocAttr]
        refine evTs_ifg H (by rfl) ?_ ?_ <;> clear H <;> intro H
        · try simp only [↓wk, ↓wl, nc, evV, wrapBits_eq, ↓reduceIte, sevalprocAttr]
          refine evTs_ifg H (by rfl) ?_ ?_ <;> clear H <;> intro H
          · try simp only [↓wk, ↓wl, nc, evV, wrapBits_eq, ↓reduceIte, sevalprocAttr]
            refine evTs_ifg H (by rfl) ?_ ?_ <;> clear H <;> intro H
            · try simp only [↓wk, ↓wl, nc, evV, wrapBits_eq, ↓reduceIte, sevalprocAttr]
              refine evTs_ifg H (by rfl) ?_ ?_ <;> clear H <;> intro H
              · try simp only [↓wk, ↓wl, nc, evV, wrapBits_eq, ↓reduceIte, sevalprocAttr]
                refine evTs_ifg H (by rfl) ?_ ?_ <;> clear H <;> intro H
                · try simp only [↓wk, ↓wl, nc, evV, wrapBits_eq, ↓reduceIte, sevalprocAttr]
                  refine evTs_pure hFn H (fun _ h => f15_ok h) (by rfl) (by rfl) (by rfl) (by rfl) (fun _ => rfl) ?_ <;> clear H <;> intro r_910 H
                  try simp only [eL, ↓wk, ↓wl, nc, evV, wrapBits_eq, ↓reduceIte, sevalprocAttr]
                  refine AW.ret ?_
                  cases H
                  exact hQ _ _ _ _ (.inr rfl) (by simp only [resVs, omap, resV, ↓wk, ↓wl, nc, evV, wrapBits_eq, ↓reduceIte, sevalprocAttr]; rfl) (hand_plain (by rfl)) (by first | exact Or.inl rfl | exact Or.inr rfl)
                · try simp only [↓wk, ↓wl, nc, evV, wrapBits_eq, ↓reduceIte, sevalprocAttr]
                  refine AW.ret ?_
                  cases H
                  exact hQ _ _ _ _ (.inr rfl) (by simp only [resVs, omap, resV, ↓wk, ↓wl, nc, evV, wrapBits_eq, ↓reduceIte, sevalprocAttr]; rfl) (hand_plain (by rfl)) (by first | exact Or.inl rfl | exact Or.inr rfl)
              · try simp only [↓wk, ↓wl, nc, evV, wrapBits_eq, ↓reduceIte, sevalprocAttr]
                refine AW.ret ?_
                cases H
                exact hQ _ _ _ _ (.inr rfl) (by simp only [resVs, omap, resV, ↓wk, ↓wl, nc, evV, wrapBits_eq, ↓reduceIte, sevalprocAttr]; rfl) (hand_plain (by rfl)) (by first | exact Or.inl rfl | exact Or.inr rfl)
            · try simp only [↓wk, ↓wl, nc, evV, wrapBits_eq, ↓reduceIte, sevalprocAttr]
              refine AW.ret ?_
              cases H
              exact hQ _ _ _ _ (.inr rfl) (by simp only [resVs, omap, resV, ↓wk, ↓wl, nc, evV, wrapBits_eq, ↓reduceIte, sevalprocAttr]; rfl) (hand_plain (by rfl)) (by first | exact Or.inl rfl | exact Or.inr rfl)
          · try simp only [↓wk, ↓wl, nc, evV, wrapBits_eq, ↓reduceIte, sevalprocAttr]
            refine AW.ret ?_
            cases H
            exact hQ _ _ _ _ (.inr rfl) (by simp only [resVs, omap, resV, ↓wk, ↓wl, nc, evV, wrapBits_eq, ↓reduceIte, sevalprocAttr]; rfl) (hand_plain (by rfl)) (by first | exact Or.inl rfl | exact Or.inr rfl)
        · try simp only [↓wk, ↓wl, nc, evV, wrapBits_eq, ↓reduceIte, sevalprocAttr]
          refine AW.ret ?_
          cases H
          exact hQ _ _ _ _ (.inr rfl) (by simp only [resVs, omap, resV, ↓wk, ↓wl, nc, evV, wrapBits_eq, ↓reduceIte, sevalprocAttr]; rfl) (hand_plain (by rfl)) (by first | exact Or.inl rfl | exact Or.inr rfl)
      · try simp only [↓wk, ↓wl, nc, evV, wrapBits_eq, ↓reduceIte, sevalprocAttr]
        refine AW.ret ?_
        cases H
        exact hQ _ _ _ _ (.inr rfl) (by simp only [resVs, omap, resV, ↓wk, ↓wl, nc, evV, wrapBits_eq, ↓reduceIte, sevalprocAttr]; rfl) (hand_plain (by rfl)) (by first | exact Or.inl rfl | exact Or.inr rfl)
end Go.Proofs.Ytgfohogbechkkaa
