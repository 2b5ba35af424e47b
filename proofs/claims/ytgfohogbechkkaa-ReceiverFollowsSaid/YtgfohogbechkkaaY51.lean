import Derived.Test.YtgfohogbechkkaaY31
import Derived.Test.YtgfohogbechkkaaM5
import Derived.Test.YtgfohogbechkkaaProg
import Derived.KernelRfl
namespace Go.Proofs.Ytgfohogbechkkaa
open Go Go.Ab

set_option maxHeartbeats 1000000
set_option linter.unusedSimpArgs false
set_option linter.unusedVariables false
structure Ref57Event where
  fAt : Int
  fPacket : Ref56Packet
def eRef57Event (x : Ref57Event) : AV := .agg [.int .i64 x.fAt, .int .u64 x.fPacket.fSource, .int .i64 x.fPacket.fUniverse, .int .i64 x.fPacket.fPriority, .int .i64 x.fPacket.fSeq, .int .i64 x.fPacket.fSync, .bool x.fPacket.fEnd, .str x.fPacket.fSlots]
instance : IsFlat eRef57Event := ⟨fun _ => rfl⟩
instance : IsEnc 8 eRef57Event := ⟨fun _ => rfl, fun _ => rfl, fun _ => rfl⟩
noncomputable def f25_J2 (n_1073 : Int) (i_1074 : Int) (l_1055 : (List Ref57Event)) (r_1075 : (List Ref57Input)) : Jn (Bool × Int × (List Ref57Input)) (Ctl (Int × Int × (List Ref57Input)) ((Int × (List Ref57Input)) ⊕ (Int))) where
  run := fun (ok_1088, e_1089, next_1090) => (if (decide (e_1089 ≠ 0)) = true then (some (.brk (Sum.inr e_1089))) else (if ok_1088 = true then (some (.next ((IntKind.i64.wrap (n_1073 + 1)), (IntKind.i64.wrap (i_1074 + 1)), next_1090))) else (some (.next (n_1073, (IntKind.i64.wrap (i_1074 + 1)), next_1090)))))
  cst := fun (ok_1088, e_1089, next_1090) => ⟨put (put (put (put (put (put (put (put (fun _ => .junk) 12 (.int .i64 e_1089)) 11 (.bool ok_1088)) 10 (.ptr 2 0)) 9 (.int .i64 i_1074)) 8 (.int .i64 n_1073)) 4 (.ptr 1 0)) 2 (.ptr 0 0)) 1 (.sl 8 false (l_1055.map eRef57Event)), [.cel [.sl 8 false (r_1075.map eRef57Input)], .cel [.sl 8 true []], .cel [.sl 8 false (next_1090.map eRef57Input)]]⟩
theorem f25_J2c (n_1073 : Int) (i_1074 : Int) (l_1055 : (List Ref57Event)) (r_1075 : (List Ref57Input)) (ok_1088 : Bool) (e_1089 : Int) (next_1090 : (List Ref57Input)) : (f25_J2 n_1073 i_1074 l_1055 r_1075).cst (ok_1088, e_1089, next_1090) = ⟨put (put (put (put (put (put (put (put (fun _ => .junk) 12 (.int .i64 e_1089)) 11 (.bool ok_1088)) 10 (.ptr 2 0)) 9 (.int .i64 i_1074)) 8 (.int .i64 n_1073)) 4 (.ptr 1 0)) 2 (.ptr 0 0)) 1 (.sl 8 false (l_1055.map eRef57Event)), [.cel [.sl 8 false (r_1075.map eRef57Input)], .cel [.sl 8 true []], .cel [.sl 8 false (next_1090.map eRef57Input)]]⟩ := rfl
noncomputable def f25_L1 (l_1055 : (List Ref57Event)) : Lp (Int × Int × (List Ref57Input)) ((Int × (List Ref57Input)) ⊕ (Int)) where
  body := fun (n_1073, i_1074, r_1075) => (if (decide (i_1074 < ((l_1055.length : Nat) : Int))) = true then (at? l_1055 i_1074).bind fun x_1091 => (at? l_1055 i_1074).bind fun x_1092 => (f17 (Ref57Receiver.mk r_1075) x_1091.fAt x_1092.fPacket).bind fun r_1093 => ((f25_J2 n_1073 i_1074 l_1055 r_1075).run (r_1093.2.1, r_1093.2.2, r_1093.1.fInputs)) else (some (.brk (Sum.inl (n_1073, r_1075)))))
  cst := fun (n_1073, i_1074, r_1075) => ⟨put (put (put (put (put (fun _ => .junk) 9 (.int .i64 i_1074)) 8 (.int .i64 n_1073)) 4 (.ptr 1 0)) 2 (.ptr 0 0)) 1 (.sl 8 false (l_1055.map eRef57Event)), [.cel [.sl 8 false (r_1075.map eRef57Input)], .cel [.sl 8 true []]]⟩
theorem f25_L1c (l_1055 : (List Ref57Event)) (n_1073 : Int) (i_1074 : Int) (r_1075 : (List Ref57Input)) : (f25_L1 l_1055).cst (n_1073, i_1074, r_1075) = ⟨put (put (put (put (put (fun _ => .junk) 9 (.int .i64 i_1074)) 8 (.int .i64 n_1073)) 4 (.ptr 1 0)) 2 (.ptr 0 0)) 1 (.sl 8 false (l_1055.map eRef57Event)), [.cel [.sl 8 false (r_1075.map eRef57Input)], .cel [.sl 8 true []]]⟩ := rfl
def c25_0 : C := .cond (.t 16) (.seq (.reg [iI 17 (.build [(1, (.sl 8 true []))] []), iI 18 (.mv (.t 7)), iN (.store 1 (.t 4) (.t 17)), iI 5 (.mv (.c (.int .i64 0))), iI 6 (.mv (.t 18))]) .ret) (.skip)
def c25_1 : C := .seq (.reg [iI 15 (.mv (.t 7)), iI 16 (.bin .neq (.t 15) (.c (.int .i64 0)))]) c25_0
def c25_2 : C := .cond (.t 21) (.seq (.reg [iI 22 (.build [(1, (.sl 8 true []))] []), iN (.store 1 (.t 4) (.t 22)), iI 5 (.mv (.c (.int .i64 0))), iI 6 (.mv (.c (.int .i64 5)))]) .ret) (.skip)
def c25_3 : C := .cond (.t 26) (.skip) (.exit 0)
def c25_4 : C := .cond (.t 46) (.seq (.reg [iI 47 (.build [(1, (.sl 8 true []))] []), iI 48 (.mv (.t 12)), iN (.store 1 (.t 4) (.t 47)), iI 5 (.mv (.c (.int .i64 0))), iI 6 (.mv (.t 48))]) .ret) (.skip)
def c25_5 : C := .cond (.t 49) (.reg [iI 50 (.mv (.t 8)), iI 51 (.bin .add (.t 50) (.c (.int .i64 1))), iI 8 (.mv (.t 51))]) (.skip)
def c25_6 : C := .reg [iI 52 (.load 1 (.t 10)), iN (.store 1 (.t 2) (.t 52))]
def c25_7 : C := .seq (.seq (.reg [iI 49 (.mv (.t 11))]) c25_5) c25_6
def c25_8 : C := .seq (.seq (.reg [iI 45 (.mv (.t 12)), iI 46 (.bin .neq (.t 45) (.c (.int .i64 0)))]) c25_4) c25_7
def c25_9 : C := .reg [iI 27 (.mv (.t 9)), iI 28 (.bin .add (.t 27) (.c (.int .i64 1))), iI 9 (.mv (.t 28))]
def c25_10 : C := .seq (.block 1 (.seq (.regt (.fork [iI 30 (.load 1 (.t 2)), iI 31 (.mv (.t 1)), iI 32 (.mv (.t 9)), iI 33 (.iaddr 8 (.t 31) (.t 32)), iI 34 (.faddr 0 (.t 33)), iI 35 (.load 0 (.t 34)), iI 36 (.mv (.t 1)), iI 37 (.mv (.t 9)), iI 38 (.iaddr 8 (.t 36) (.t 37)), iI 39 (.faddr 1 (.t 38)), iI 40 (.load 7 (.t 39))] (.run [iI 41 (.call (.c (.fn 17 [])) [(.t 30), (.t 35), (.t 40)]), iI 29 (.mv (.t 41)), iI 42 (.ext (.t 29) 0), iI 43 (.ext (.t 29) 1), iI 44 (.ext (.t 29) 2), iI 10 (.alloc [(1, (.sl 8 true []))]), iN (.store 1 (.t 10) (.t 42)), iI 11 (.mv (.t 43)), iI 12 (.mv (.t 44))]) (.run [iI 10 (.alloc [(1, (.sl 8 true []))]), iI 41 (.call (.c (.fn 17 [])) [(.t 30), (.t 35), (.t 40)]), iI 29 (.mv (.t 41)), iI 42 (.ext (.t 29) 0), iI 43 (.ext (.t 29) 1), iI 44 (.ext (.t 29) 2), iN (.store 1 (.t 10) (.t 42)), iI 11 (.mv (.t 43)), iI 12 (.mv (.t 44))]))) c25_8)) c25_9
def c25_11 : C := .block 0 (.loop (.seq (.seq (.reg [iI 23 (.mv (.t 9)), iI 24 (.mv (.t 1)), iI 25 (.len 0 (.t 24)), iI 26 (.bin .lss (.t 23) (.t 25))]) c25_3) c25_10))
def c25_12 : C := .seq (.reg [iI 53 (.load 1 (.t 2)), iI 54 (.mv (.t 8)), iN (.store 1 (.t 4) (.t 53)), iI 5 (.mv (.t 54)), iI 6 (.mv (.c (.int .i64 0)))]) .ret
def c25_13 : C := .seq (.seq (.reg [iI 9 (.mv (.c (.int .i64 0)))]) c25_11) c25_12
def c25_14 : C := .seq (.reg [iI 8 (.mv (.c (.int .i64 0)))]) c25_13
def c25_15 : C := .seq (.seq (.reg [iI 19 (.mv (.t 1)), iI 20 (.len 0 (.t 19)), iI 21 (.bin .gtr (.t 20) (.c (.int .i64 4096)))]) c25_2) c25_14
def c25_16 : C := .seq (.seq (.reg [iI 13 (.load 1 (.t 2)), iI 14 (.call (.c (.fn 20 [])) [(.t 13)]), iI 7 (.mv (.t 14))]) c25_1) c25_15
def ir25 : C := .seq (.reg [iI 2 (.box (.t 0)), iI 4 (.alloc [(1, (.sl 8 true []))]), iI 5 (.mv (.c (.int .i64 0))), iI 6 (.mv (.c (.int .i64 0)))]) c25_16
theorem fd25 : fd? Try.prog 25 = some (55, [.cell 4 1, .slot 5, .slot 6], ir25) := by kernel_rfl
noncomputable def f25 (r_1054 : Ref57Receiver) (l_1055 : (List Ref57Event)) : Option (Ref57Receiver × Int × Int) :=
  (f20 r_1054).bind fun r_1057 => (if (decide (r_1057 ≠ 0)) = true then (some ((Ref57Receiver.mk ([])), 0, r_1057)) else (if (decide (4096 < ((l_1055.length : Nat) : Int))) = true then (some ((Ref57Receiver.mk ([])), 0, 5)) else ((Lp.run (f25_L1 l_1055) (0, 0, r_1054.fInputs)).bind fun r_ => match r_ with | (Sum.inl (n_1082, r_1083)) => (some ((Ref57Receiver.mk r_1083), n_1082, 0)) | (Sum.inr v_1084) => (some ((Ref57Receiver.mk ([])), 0, v_1084)))))
theorem f25_ok {r_1054 : Ref57Receiver} {l_1055 : (List Ref57Event)} {r_ : Ref57Receiver × Int × Int} (H : f25 r_1054 l_1055 = some r_) : Pure Try.prog 25 [.agg [.sl 8 false (r_1054.fInputs.map eRef57Input)], .sl 8 false (l_1055.map eRef57Event)] (· = .tup [.agg [.sl 8 false (r_.1.fInputs.map eRef57Input)], .int .i64 r_.2.1, .int .i64 r_.2.2]) := by
  refine Pure.walk3 fd25 none (Nat.le_of_ble_eq_true rfl) (by rfl) fun Q hQ => ?_
  simp only [f25] at H
  refine AW.rseq ?_
  try simp only [↓wk, ↓wl, nc, evV, wrapBits_eq, ↓reduceIte, sevalprocAttr]
  refine AW.sseq ?_
  refine AW.rseq ?_
  try simp only [↓wk, ↓wl, nc, evV, wrapBits_eq, ↓reduceIte, sevalprocAttr]
  refine evTs_pure hFn H (fun _ h => f20_ok h) (by rfl) (by rfl) (by rfl) (by rfl) (fun _ => rfl) ?_ <;> clear H <;> intro r_1057 H
  try simp only [eL, ↓wk, ↓wl, nc, evV, wrapBits_eq, ↓reduceIte, sevalprocAttr]
  refine AW.rseq ?_
  try simp only [↓wk, ↓wl, nc, evV, wrapBits_eq, ↓reduceIte, sevalprocAttr]
  refine AW.ifc H (by rfl) ?_ ?_ <;> clear H <;> intro H
  · refine AW.rseq ?_
    try simp only [↓wk, ↓wl, nc, evV, wrapBits_eq, ↓reduceIte, sevalprocAttr]
    refine AW.ret ?_
    refine seqQ.ret ?_
    cases H
    exact hQ _ _ _ _ (.inr rfl) (by simp only [resVs, omap, resV, ↓wk, ↓wl, nc, evV, wrapBits_eq, ↓reduceIte, sevalprocAttr]; rfl) (hand_plain (by rfl)) (by first | exact Or.inl rfl | exact Or.inr rfl)
  · refine AW.skip ?_
    refine seqQ.norm ?_
    refine AW.sseq ?_
    refine AW.rseq ?_
    try simp only [↓wk, ↓wl, nc, evV, wrapBits_eq, ↓reduceIte, sevalprocAttr]
    refine AW.ifc H (by rfl) ?_ ?_ <;> clear H <;> intro H
    · refine AW.rseq ?_
      try simp only [↓wk, ↓wl, nc, evV, wrapBits_eq, ↓reduceIte, sevalprocAttr]
      refine AW.ret ?_
      refine seqQ.ret ?_
      cases H
      exact hQ _ _ _ _ (.inr rfl) (by simp only [resVs, omap, resV, ↓wk, ↓wl, nc, evV, wrapBits_eq, ↓reduceIte, sevalprocAttr]; rfl) (hand_plain (by rfl)) (by first | exact Or.inl rfl | exact Or.inr rfl)
    · refine AW.skip ?_
      refine seqQ.norm ?_
      refine AW.rseq ?_
      try simp only [↓wk, ↓wl, nc, evV, wrapBits_eq, ↓reduceIte, sevalprocAttr]
      refine AW.sseq ?_
      refine AW.rseq ?_
      try simp only [↓wk, ↓wl, nc, evV, wrapBits_eq, ↓reduceIte, sevalprocAttr]
      refine AW.bend ?_
      refine AW.iter H ((Le.none [0, 1] [1, 2, 4, 8, 9] (by decide) (by simp only [f25_L1c, rrl, Option.map_some, vm, List.idxOf?_cons, List.idxOf?_nil, beq_self_eq_true, Option.map_none, List.getD_cons_zero, List.getD_cons_succ, ↓wk, ↓wl, nc, evV, wrapBits_eq, ↓reduceIte, sevalprocAttr] <;> rfl))) ?_ <;> clear H
      rintro ⟨n_1073, i_1074, r_1075⟩ x_ st0_ H hst_
      rw [f25_L1c] at hst_
      simp only [f25_L1] at H
      subst hst_
      refine AW.sseq ?_
      refine AW.rseq ?_
      try simp only [↓wk, ↓wl, nc, evV, wrapBits_eq, ↓reduceIte, sevalprocAttr]
      refine AW.ifc H (by rfl) ?_ ?_ <;> clear H <;> intro H
      · refine AW.skip ?_
        refine seqQ.norm ?_
        refine AW.bseq ?_
        refine AW.join (f25_J2 n_1073 i_1074 l_1055 r_1075) H ?_ fun hf25_J2 => ?_
        · clear H
          rintro ⟨ok_1088, e_1089, next_1090⟩ st0_ H hst_
          rw [f25_J2c] at hst_
          simp only [f25_J2] at H
          subst hst_
          refine AW.sseq ?_
          refine AW.rseq ?_
          try simp only [↓wk, ↓wl, nc, evV, wrapBits_eq, ↓reduceIte, sevalprocAttr]
          refine AW.ifc H (by rfl) ?_ ?_ <;> clear H <;> intro H
          · refine AW.rseq ?_
            try simp only [↓wk, ↓wl, nc, evV, wrapBits_eq, ↓reduceIte, sevalprocAttr]
            refine AW.ret ?_
            refine seqQ.ret ?_
            refine blkQ.ret ?_
            refine loopQ.ret H ?_ <;> clear H <;> intro H
            try dsimp only at H
            refine blk0.ret ?_
            refine seqQ.ret ?_
            cases H
            exact hQ _ _ _ _ (.inr rfl) (by simp only [resVs, omap, resV, ↓wk, ↓wl, nc, evV, wrapBits_eq, ↓reduceIte, sevalprocAttr]; rfl) (hand_plain (by rfl)) (by first | exact Or.inl rfl | exact Or.inr rfl)
          · refine AW.skip ?_
            refine seqQ.norm ?_
            refine AW.sseq ?_
            refine AW.rseq ?_
            try simp only [↓wk, ↓wl, nc, evV, wrapBits_eq, ↓reduceIte, sevalprocAttr]
            refine AW.ifc H (by rfl) ?_ ?_ <;> clear H <;> intro H
            · refine AW.rend ?_
              try simp only [↓wk, ↓wl, nc, evV, wrapBits_eq, ↓reduceIte, sevalprocAttr]
              refine seqQ.norm ?_
              refine AW.rend ?_
              try simp only [↓wk, ↓wl, nc, evV, wrapBits_eq, ↓reduceIte, sevalprocAttr]
              refine blkQ.norm ?_
              refine AW.rend ?_
              try simp only [↓wk, ↓wl, nc, evV, wrapBits_eq, ↓reduceIte, sevalprocAttr]
              exact loopQ.next H ((Le.none [0, 1] [1, 2, 4, 8, 9] (by decide) (by simp only [f25_L1c, rrl, Option.map_some, vm, List.idxOf?_cons, List.idxOf?_nil, beq_self_eq_true, Option.map_none, List.getD_cons_zero, List.getD_cons_succ, ↓wk, ↓wl, nc, evV, wrapBits_eq, ↓reduceIte, sevalprocAttr] <;> rfl)))
            · refine AW.skip ?_
              refine seqQ.norm ?_
              refine AW.rend ?_
              try simp only [↓wk, ↓wl, nc, evV, wrapBits_eq, ↓reduceIte, sevalprocAttr]
              refine blkQ.norm ?_
              refine AW.rend ?_
              try simp only [↓wk, ↓wl, nc, evV, wrapBits_eq, ↓reduceIte, sevalprocAttr]
              exact loopQ.next H ((Le.none [0, 1] [1, 2, 4, 8, 9] (by decide) (by simp only [f25_L1c, rrl, Option.map_some, vm, List.idxOf?_cons, List.idxOf?_nil, beq_self_eq_true, Option.map_none, List.getD_cons_zero, List.getD_cons_succ, ↓wk, ↓wl, nc, evV, wrapBits_eq, ↓reduceIte, sevalprocAttr] <;> rfl)))
        · refine AW.regt ?_
          refine evR.fork ?_
          try simp only [↓wk, ↓wl, nc, evV, wrapBits_eq, ↓reduceIte, sevalprocAttr]
          refine evTs_at (enc := eRef57Event) H (by rfl) (by rfl) ?_ <;> clear H <;> intro x_1091 H
          try simp only [eRef57Event, eL, ↓wk, ↓wl, nc, evV, wrapBits_eq, ↓reduceIte, sevalprocAttr]
          refine evTs_at (enc := eRef57Event) H (by rfl) (by rfl) ?_ <;> clear H <;> intro x_1092 H
          try simp only [eRef57Event, eL, ↓wk, ↓wl, nc, evV, wrapBits_eq, ↓reduceIte, sevalprocAttr]
          refine evR.both ?_ ?_
          · refine evR.run ?_
            try simp only [↓wk, ↓wl, nc, evV, wrapBits_eq, ↓reduceIte, sevalprocAttr]
            refine evTs_pure hFnq H (fun _ h => f17_ok h) (by rfl) (by rfl) (by rfl) (by rfl) (fun _ => rfl) ?_ <;> clear H <;> intro r_1093 H
            try simp only [eL, eRef57Receiver, ↓wk, ↓wl, nc, evV, wrapBits_eq, ↓reduceIte, sevalprocAttr]
            refine seqQ.norm ?_
            exact hf25_J2 _ _ H ((Le.none [0, 1, 2] [1, 2, 4, 8, 9, 10, 11, 12] (by decide) (by simp only [f25_J2c, rrl, Option.map_some, vm, List.idxOf?_cons, List.idxOf?_nil, beq_self_eq_true, Option.map_none, List.getD_cons_zero, List.getD_cons_succ, ↓wk, ↓wl, nc, evV, wrapBits_eq, ↓reduceIte, sevalprocAttr] <;> rfl)))
          · refine evR.run ?_
            try simp only [↓wk, ↓wl, nc, evV, wrapBits_eq, ↓reduceIte, sevalprocAttr]
            refine evTs_pure hFnq H (fun _ h => f17_ok h) (by rfl) (by rfl) (by rfl) (by rfl) (fun _ => rfl) ?_ <;> clear H <;> intro r_1093 H
            try simp only [eL, eRef57Receiver, ↓wk, ↓wl, nc, evV, wrapBits_eq, ↓reduceIte, sevalprocAttr]
            refine seqQ.norm ?_
            exact hf25_J2 _ _ H ((Le.none [0, 1, 2] [1, 2, 4, 8, 9, 10, 11, 12] (by decide) (by simp only [f25_J2c, rrl, Option.map_some, vm, List.idxOf?_cons, List.idxOf?_nil, beq_self_eq_true, Option.map_none, List.getD_cons_zero, List.getD_cons_succ, ↓wk, ↓wl, nc, evV, wrapBits_eq, ↓reduceIte, sevalprocAttr] <;> rfl)))
      · refine AW.exit ?_
        refine seqQ.exit ?_
        refine loopQ.exit H ?_ <;> clear H <;> intro H
        try dsimp only at H
        refine blk0.here ?_
        refine seqQ.norm ?_
        refine AW.rseq ?_
        try simp only [↓wk, ↓wl, nc, evV, wrapBits_eq, ↓reduceIte, sevalprocAttr]
        refine AW.ret ?_
        cases H
        exact hQ _ _ _ _ (.inr rfl) (by simp only [resVs, omap, resV, ↓wk, ↓wl, nc, evV, wrapBits_eq, ↓reduceIte, sevalprocAttr]; rfl) (hand_plain (by rfl)) (by first | exact Or.inl rfl | exact Or.inr rfl)
theorem dlf38 : fd? Try.prog 38 = some (42, [.slot 4], dlgC 8 [(1, (.int .i64 0)), (1, (.int .u64 0)), (1, (.int .i64 0)), (1, (.int .i64 0)), (1, (.int .i64 0)), (1, (.int .i64 0)), (1, (.str [])), (1, (.str []))] (.agg [(.int .i64 0), (.int .u64 0), (.int .i64 0), (.int .i64 0), (.int .i64 0), (.int .i64 0), (.str []), (.str [])]) 77) := by kernel_rfl
theorem idx77 : fd? Try.prog 77 = some (19, [.slot 4], idxC 8) := by kernel_rfl
def c72_0 : C := .seq (.reg [iI 4 (.load 0 (.t 1)), iI 5 (.faddr 5 (.t 2)), iI 6 (.load 0 (.t 5)), iI 7 (.bin .sub (.t 4) (.t 6)), iI 8 (.bin .gtr (.t 7) (.c (.int .i64 2500))), iI 3 (.mv (.t 8))]) .ret
def ir72 : C := .seq (.reg [iI 2 (.box (.t 0)), iI 3 (.mv (.c (.bool false)))]) c72_0
theorem fd72 : fd? Try.prog 72 = some (9, [.slot 3], ir72) := by kernel_rfl
noncomputable def f72p (x_1105 : ReceiverInput) (c_1106 : Int) : Option (Bool) :=
  (some (decide (2500 < (IntKind.i64.wrap (c_1106 - x_1105.fLast)))))
theorem f72p_ok {x_1105 : ReceiverInput} {c_1106 : Int} {r_ : Bool} (H : f72p x_1105 c_1106 = some r_) : Pure Try.prog 72 [.agg [.int .i64 x_1105.fUniverse, .int .u64 x_1105.fSource, .int .i64 x_1105.fPriority, .int .i64 x_1105.fSeq, .int .i64 x_1105.fSync, .int .i64 x_1105.fLast, .str x_1105.fSlots, .str x_1105.fWait], .pro [.int .i64 c_1106]] (· = .bool r_) := by
  refine Pure.walk3 fd72 none (Nat.le_of_ble_eq_true rfl) (by rfl) fun Q hQ => ?_
  simp only [f72p] at H
  refine AW.rseq ?_
  try simp only [↓wk, ↓wl, nc, evV, wrapBits_eq, ↓reduceIte, sevalprocAttr]
  refine AW.rseq ?_
  try simp only [↓wk, ↓wl, nc, evV, wrapBits_eq, ↓reduceIte, sevalprocAttr]
  refine AW.ret ?_
  cases H
  exact hQ _ _ _ _ (.inr rfl) (by simp only [resVs, omap, resV, ↓wk, ↓wl, nc, evV, wrapBits_eq, ↓reduceIte, sevalprocAttr]; rfl) (hand_plain (by rfl)) (by first | exact Or.inl rfl | exact Or.inr rfl)
noncomputable def f26_J1 (v_1108 : (List ReceiverInput)) (r_1100 : ReceiverReceiver) : Jn (Unit) (ReceiverReceiver × Int × Int) where
  run := fun _ => (some ((ReceiverReceiver.mk v_1108), (IntKind.i64.wrap (((r_1100.fInputs.length : Nat) : Int) - ((v_1108.length : Nat) : Int))), 0))
  cst := fun _ => ⟨put (put (put (fun _ => .junk) 6 (.int .i64 0)) 5 (.int .i64 (IntKind.i64.wrap (((r_1100.fInputs.length : Nat) : Int) - ((v_1108.length : Nat) : Int))))) 4 (.ptr 0 0), [.cel [.row 8 1 0 v_1108.length], .els 8 (v_1108.map eReceiverInput)]⟩
theorem f26_J1c (v_1108 : (List ReceiverInput)) (r_1100 : ReceiverReceiver) (x_ : Unit) : (f26_J1 v_1108 r_1100).cst x_ = ⟨put (put (put (fun _ => .junk) 6 (.int .i64 0)) 5 (.int .i64 (IntKind.i64.wrap (((r_1100.fInputs.length : Nat) : Int) - ((v_1108.length : Nat) : Int))))) 4 (.ptr 0 0), [.cel [.row 8 1 0 v_1108.length], .els 8 (v_1108.map eReceiverInput)]⟩ := rfl
def c26_0 : C := .cond (.t 13) (.seq (.reg [iI 14 (.build [(1, (.sl 8 true []))] []), iI 15 (.mv (.t 7)), iN (.store 1 (.t 4) (.t 14)), iI 5 (.mv (.c (.int .i64 0))), iI 6 (.mv (.t 15))]) .ret) (.skip)
def c26_1 : C := .seq (.reg [iI 12 (.mv (.t 7)), iI 13 (.bin .neq (.t 12) (.c (.int .i64 0)))]) c26_0
def c26_2 : C := .seq (.regt (.fork [iI 21 (.mv (.t 8)), iI 22 (.build [(1, (.sl 8 true []))] [(0, 0, (.t 21))]), iI 23 (.faddr 0 (.t 2)), iI 26 (.mv (.t 8))] (.fork [iI 24 (.load 0 (.t 23))] (.fork [iI 25 (.len 0 (.t 24))] (.run [iI 27 (.len 0 (.t 26)), iI 28 (.bin .sub (.t 25) (.t 27)), iN (.store 1 (.t 4) (.t 22)), iI 5 (.mv (.t 28)), iI 6 (.mv (.c (.int .i64 0)))]) (.run [iN (.store 1 (.t 4) (.t 22)), iI 27 (.len 0 (.t 26)), iI 28 (.bin .sub (.t 25) (.t 27)), iI 5 (.mv (.t 28)), iI 6 (.mv (.c (.int .i64 0)))])) (.fork [] (.fork [iI 27 (.len 0 (.t 26))] (.run [iI 25 (.len 0 (.t 24)), iI 28 (.bin .sub (.t 25) (.t 27)), iN (.store 1 (.t 4) (.t 22)), iI 5 (.mv (.t 28)), iI 6 (.mv (.c (.int .i64 0)))]) (.run [iN (.store 1 (.t 4) (.t 22)), iI 25 (.len 0 (.t 24)), iI 28 (.bin .sub (.t 25) (.t 27)), iI 5 (.mv (.t 28)), iI 6 (.mv (.c (.int .i64 0)))])) (.run [iN (.store 1 (.t 4) (.t 22)), iI 25 (.len 0 (.t 24)), iI 27 (.len 0 (.t 26)), iI 28 (.bin .sub (.t 25) (.t 27)), iI 5 (.mv (.t 28)), iI 6 (.mv (.c (.int .i64 0)))]))) (.fork [] (.fork [iI 27 (.len 0 (.t 26))] (.fork [iI 24 (.load 0 (.t 23))] (.run [iI 25 (.len 0 (.t 24)), iI 28 (.bin .sub (.t 25) (.t 27)), iN (.store 1 (.t 4) (.t 22)), iI 5 (.mv (.t 28)), iI 6 (.mv (.c (.int .i64 0)))]) (.run [iN (.store 1 (.t 4) (.t 22)), iI 25 (.len 0 (.t 24)), iI 28 (.bin .sub (.t 25) (.t 27)), iI 5 (.mv (.t 28)), iI 6 (.mv (.c (.int .i64 0)))])) (.run [iN (.store 1 (.t 4) (.t 22)), iI 24 (.load 0 (.t 23)), iI 25 (.len 0 (.t 24)), iI 28 (.bin .sub (.t 25) (.t 27)), iI 5 (.mv (.t 28)), iI 6 (.mv (.c (.int .i64 0)))])) (.run [iN (.store 1 (.t 4) (.t 22)), iI 24 (.load 0 (.t 23)), iI 25 (.len 0 (.t 24)), iI 27 (.len 0 (.t 26)), iI 28 (.bin .sub (.t 25) (.t 27)), iI 5 (.mv (.t 28)), iI 6 (.mv (.c (.int .i64 0)))])))) .ret
def c26_3 : C := .seq (.reg [iI 16 (.faddr 0 (.t 2)), iI 17 (.load 0 (.t 16)), iI 18 (.call (.c (.fn 39 [])) [(.t 17)]), iI 19 (.mkfn 72 [(.t 3)]), iI 20 (.call (.c (.fn 38 [])) [(.t 18), (.t 19)]), iI 8 (.mv (.t 20))]) c26_2
def c26_4 : C := .seq (.seq (.reg [iI 9 (.load 1 (.t 2)), iI 10 (.load 0 (.t 3)), iI 11 (.call (.c (.fn 58 [])) [(.t 9), (.t 10)]), iI 7 (.mv (.t 11))]) c26_1) c26_3
def ir26 : C := .seq (.reg [iI 2 (.box (.t 0)), iI 3 (.box (.t 1)), iI 4 (.alloc [(1, (.sl 8 true []))]), iI 5 (.mv (.c (.int .i64 0))), iI 6 (.mv (.c (.int .i64 0)))]) c26_4
theorem fd26 : fd? Try.prog 26 = some (29, [.cell 4 1, .slot 5, .slot 6], ir26) := by kernel_rfl
noncomputable def f26 (r_1100 : ReceiverReceiver) (t_1101 : Int) : Option (ReceiverReceiver × Int × Int) :=
  (f58 r_1100 t_1101).bind fun r_1103 => (if (decide (r_1103 ≠ 0)) = true then (some ((ReceiverReceiver.mk ([])), 0, r_1103)) else (f39 r_1100.fInputs).bind fun r_1104 => (delf? (fun x_1107 => f72p x_1107 t_1101) r_1104).bind fun v_1108 => ((f26_J1 v_1108 r_1100).run ()))
theorem f26_ok {r_1100 : ReceiverReceiver} {t_1101 : Int} {r_ : ReceiverReceiver × Int × Int} (H : f26 r_1100 t_1101 = some r_) : Pure Try.prog 26 [.agg [.sl 8 false (r_1100.fInputs.map eReceiverInput)], .int .i64 t_1101] (· = .tup [.agg [.sl 8 false (r_.1.fInputs.map eReceiverInput)], .int .i64 r_.2.1, .int .i64 r_.2.2]) := by
  refine Pure.walk3 fd26 none (Nat.le_of_ble_eq_true rfl) (by rfl) fun Q hQ => ?_
  simp only [f26] at H
  refine AW.rseq ?_
  try simp only [↓wk, ↓wl, nc, evV, wrapBits_eq, ↓reduceIte, sevalprocAttr]
  refine AW.sseq ?_
  refine AW.rseq ?_
  try simp only [↓wk, ↓wl, nc, evV, wrapBits_eq, ↓reduceIte, sevalprocAttr]
  refine evTs_pure hFn H (fun _ h => f58_ok h) (by rfl) (by rfl) (by rfl) (by rfl) (fun _ => rfl) ?_ <;> clear H <;> intro r_1103 H
  try simp only [eL, ↓wk, ↓wl, nc, evV, wrapBits_eq, ↓reduceIte, sevalprocAttr]
  refine AW.rseq ?_
  try simp only [↓wk, ↓wl, nc, evV, wrapBits_eq, ↓reduceIte, sevalprocAttr]
  refine AW.ifc H (by rfl) ?_ ?_ <;> clear H <;> intro H
  · refine AW.rseq ?_
    try simp only [↓wk, ↓wl, nc, evV, wrapBits_eq, ↓reduceIte, sevalprocAttr]
    refine AW.ret ?_
    refine seqQ.ret ?_
    cases H
    exact hQ _ _ _ _ (.inr rfl) (by simp only [resVs, omap, resV, ↓wk, ↓wl, nc, evV, wrapBits_eq, ↓reduceIte, sevalprocAttr]; rfl) (hand_plain (by rfl)) (by first | exact Or.inl rfl | exact Or.inr rfl)
  · refine AW.skip ?_
    refine seqQ.norm ?_
    refine AW.rseq ?_
    try simp only [↓wk, ↓wl, nc, evV, wrapBits_eq, ↓reduceIte, sevalprocAttr]
    refine evTs_fr H (fun _ h => f39_ok h) (by rfl) (by rfl) (by rfl) (by rfl) (fun _ => rfl) ?_ <;> clear H <;> intro r_1104 H
    try simp only [eL, ↓wk, ↓wl, nc, evV, wrapBits_eq, ↓reduceIte, sevalprocAttr]
    refine evTs_dlg (enc := eReceiverInput) H [.pro [.int .i64 t_1101]] (fun _ _ h => f72p_ok h) dlf38 (by decide) (by rfl) idx77 (by rfl) (by rfl) (by show List.map (renB [0, 1, 2, 3]) _ = _; simp only [rrl, Option.map_some, vm, List.idxOf?_cons, List.idxOf?_nil, beq_self_eq_true, Option.map_none, List.getD_cons_zero, List.getD_cons_succ, ↓wk, ↓wl, nc, evV, wrapBits_eq, ↓reduceIte, sevalprocAttr]) (by show ren [0, 1, 2, 3] deep _ = _; simp only [rrl, Option.map_some, vm, List.idxOf?_cons, List.idxOf?_nil, beq_self_eq_true, Option.map_none, List.getD_cons_zero, List.getD_cons_succ, ↓wk, ↓wl, nc, evV, wrapBits_eq, ↓reduceIte, sevalprocAttr]) (fun h_ hh_ x_ => by have e0_ := hh_ 1 _ (by decide) (by rfl); simp only [deep_eq, imm_simps, imm_ptrE, imm_encx (enc := eReceiverInput), omap_simps, List.drop_zero, Option.map_some, e0_, ↓wk, ↓wl, nc, evV, wrapBits_eq, ↓reduceIte, sevalprocAttr] <;> rfl) (by first | rfl | simp only [List.length_set]) (by rfl) ?_ <;> clear H <;> intro v_1108 H
    try simp only [↓wk, ↓wl, nc, evV, wrapBits_eq, ↓reduceIte, sevalprocAttr]
    refine AW.join (f26_J1 v_1108 r_1100) H ?_ fun hf26_J1 => ?_
    · clear H
      rintro _ st0_ H hst_
      rw [f26_J1c] at hst_
      simp only [f26_J1] at H
      subst hst_
      refine AW.ret ?_
      cases H
      exact hQ _ _ _ _ (.inr rfl) (by simp only [resVs, omap, resV, ↓wk, ↓wl, nc, evV, wrapBits_eq, ↓reduceIte, sevalprocAttr]; rfl) (by simp only [handOver, deep_eq, imm_simps, imm_rowE, imm_ptrE, imm_enc, omap_simps, take_map_len, take_map_set, take_map_set2, le_refl_true, Nat.zero_add, and_true, true_and, List.drop_zero, Option.map_some, ↓wk, ↓wl, nc, evV, wrapBits_eq, ↓reduceIte, sevalprocAttr]; rfl) (by first | exact Or.inl rfl | exact Or.inr rfl)
    · refine AW.regt ?_
      refine evR.fork ?_
      try simp only [↓wk, ↓wl, nc, evV, wrapBits_eq, ↓reduceIte, sevalprocAttr]
      refine evR.both ?_ ?_
      · refine evR.fork ?_
        try simp only [↓wk, ↓wl, nc, evV, wrapBits_eq, ↓reduceIte, sevalprocAttr]
        refine evR.both ?_ ?_
        · refine evR.fork ?_
          try simp only [↓wk, ↓wl, nc, evV, wrapBits_eq, ↓reduceIte, sevalprocAttr]
          refine evR.both ?_ ?_
          · refine evR.run ?_
            try simp only [↓wk, ↓wl, nc, evV, wrapBits_eq, ↓reduceIte, sevalprocAttr]
            refine seqQ.norm ?_
            exact hf26_J1 _ _ H ((Le.none [2, 4] [4, 5, 6] (by decide) (by simp only [f26_J1c, rrl, Option.map_some, vm, List.idxOf?_cons, List.idxOf?_nil, beq_self_eq_true, Option.map_none, List.getD_cons_zero, List.getD_cons_succ, ↓wk, ↓wl, nc, evV, wrapBits_eq, ↓reduceIte, sevalprocAttr] <;> rfl)))
          · refine evR.run ?_
            try simp only [↓wk, ↓wl, nc, evV, wrapBits_eq, ↓reduceIte, sevalprocAttr]
            refine seqQ.norm ?_
            exact hf26_J1 _ _ H ((Le.none [2, 4] [4, 5, 6] (by decide) (by simp only [f26_J1c, rrl, Option.map_some, vm, List.idxOf?_cons, List.idxOf?_nil, beq_self_eq_true, Option.map_none, List.getD_cons_zero, List.getD_cons_succ, ↓wk, ↓wl, nc, evV, wrapBits_eq, ↓reduceIte, sevalprocAttr] <;> rfl)))
        · refine evR.fork ?_
          try simp only [↓wk, ↓wl, nc, evV, wrapBits_eq, ↓reduceIte, sevalprocAttr]
          refine evR.both ?_ ?_
          · refine evR.fork ?_
            try simp only [↓wk, ↓wl, nc, evV, wrapBits_eq, ↓reduceIte, sevalprocAttr]
            refine evR.both ?_ ?_
            · refine evR.run ?_
              try simp only [↓wk, ↓wl, nc, evV, wrapBits_eq, ↓reduceIte, sevalprocAttr]
              refine seqQ.norm ?_
              exact hf26_J1 _ _ H ((Le.none [2, 4] [4, 5, 6] (by decide) (by simp only [f26_J1c, rrl, Option.map_some, vm, List.idxOf?_cons, List.idxOf?_nil, beq_self_eq_true, Option.map_none, List.getD_cons_zero, List.getD_cons_succ, ↓wk, ↓wl, nc, evV, wrapBits_eq, ↓reduceIte, sevalprocAttr] <;> rfl)))
            · refine evR.run ?_
              try simp only [↓wk, ↓wl, nc, evV, wrapBits_eq, ↓reduceIte, sevalprocAttr]
              refine seqQ.norm ?_
              exact hf26_J1 _ _ H ((Le.none [2, 4] [4, 5, 6] (by decide) (by simp only [f26_J1c, rrl, Option.map_some, vm, List.idxOf?_cons, List.idxOf?_nil, beq_self_eq_true, Option.map_none, List.getD_cons_zero, List.getD_cons_succ, ↓wk, ↓wl, nc, evV, wrapBits_eq, ↓reduceIte, sevalprocAttr] <;> rfl)))
          · refine evR.run ?_
            try simp only [↓wk, ↓wl, nc, evV, wrapBits_eq, ↓reduceIte, sevalprocAttr]
            refine seqQ.norm ?_
            exact hf26_J1 _ _ H ((Le.none [2, 4] [4, 5, 6] (by decide) (by simp only [f26_J1c, rrl, Option.map_some, vm, List.idxOf?_cons, List.idxOf?_nil, beq_self_eq_true, Option.map_none, List.getD_cons_zero, List.getD_cons_succ, ↓wk, ↓wl, nc, evV, wrapBits_eq, ↓reduceIte, sevalprocAttr] <;> rfl)))
      · refine evR.fork ?_
        try simp only [↓wk, ↓wl, nc, evV, wrapBits_eq, ↓reduceIte, sevalprocAttr]
        refine evR.both ?_ ?_
        · refine evR.fork ?_
          try simp only [↓wk, ↓wl, nc, evV, wrapBits_eq, ↓reduceIte, sevalprocAttr]
          refine evR.both ?_ ?_
          · refine evR.fork ?_
            try simp only [↓wk, ↓wl, nc, evV, wrapBits_eq, ↓reduceIte, sevalprocAttr]
            refine evR.both ?_ ?_
            · refine evR.run ?_
              try simp only [↓wk, ↓wl, nc, evV, wrapBits_eq, ↓reduceIte, sevalprocAttr]
              refine seqQ.norm ?_
              exact hf26_J1 _ _ H ((Le.none [2, 4] [4, 5, 6] (by decide) (by simp only [f26_J1c, rrl, Option.map_some, vm, List.idxOf?_cons, List.idxOf?_nil, beq_self_eq_true, Option.map_none, List.getD_cons_zero, List.getD_cons_succ, ↓wk, ↓wl, nc, evV, wrapBits_eq, ↓reduceIte, sevalprocAttr] <;> rfl)))
            · refine evR.run ?_
              try simp only [↓wk, ↓wl, nc, evV, wrapBits_eq, ↓reduceIte, sevalprocAttr]
              refine seqQ.norm ?_
              exact hf26_J1 _ _ H ((Le.none [2, 4] [4, 5, 6] (by decide) (by simp only [f26_J1c, rrl, Option.map_some, vm, List.idxOf?_cons, List.idxOf?_nil, beq_self_eq_true, Option.map_none, List.getD_cons_zero, List.getD_cons_succ, ↓wk, ↓wl, nc, evV, wrapBits_eq, ↓reduceIte, sevalprocAttr] <;> rfl)))
          · refine evR.run ?_
            try simp only [↓wk, ↓wl, nc, evV, wrapBits_eq, ↓reduceIte, sevalprocAttr]
            refine seqQ.norm ?_
            exact hf26_J1 _ _ H ((Le.none [2, 4] [4, 5, 6] (by decide) (by simp only [f26_J1c, rrl, Option.map_some, vm, List.idxOf?_cons, List.idxOf?_nil, beq_self_eq_true, Option.map_none, List.getD_cons_zero, List.getD_cons_succ, ↓wk, ↓wl, nc, evV, wrapBits_eq, ↓reduceIte, sevalprocAttr] <;> rfl)))
        · refine evR.run ?_
          try simp only [↓wk, ↓wl, nc, evV, wrapBits_eq, ↓reduceIte, sevalprocAttr]
          refine seqQ.norm ?_
          exact hf26_J1 _ _ H ((Le.none [2, 4] [4, 5, 6] (by decide) (by simp only [f26_J1c, rrl, Option.map_some, vm, List.idxOf?_cons, List.idxOf?_nil, beq_self_eq_true, Option.map_none, List.getD_cons_zero, List.getD_cons_succ, ↓wk, ↓wl, nc, evV, wrapBits_eq, ↓reduceIte, sevalprocAttr] <;> rfl)))
noncomputable def f27_J2 (out_1148 : (List Ref57Input)) (r_1111 : Ref57Receiver) : Jn (Unit) (Ref57Receiver × Int × Int) where
  run := fun _ => (some ((Ref57Receiver.mk out_1148), (IntKind.i64.wrap (((r_1111.fInputs.length : Nat) : Int) - ((out_1148.length : Nat) : Int))), 0))
  cst := fun _ => ⟨put (put (put (fun _ => .junk) 6 (.int .i64 0)) 5 (.int .i64 (IntKind.i64.wrap (((r_1111.fInputs.length : Nat) : Int) - ((out_1148.length : Nat) : Int))))) 4 (.ptr 0 0), [.cel [.row 8 1 0 out_1148.length], .els 8 (out_1148.map eRef57Input)]⟩
theorem f27_J2c (out_1148 : (List Ref57Input)) (r_1111 : Ref57Receiver) (x_ : Unit) : (f27_J2 out_1148 r_1111).cst x_ = ⟨put (put (put (fun _ => .junk) 6 (.int .i64 0)) 5 (.int .i64 (IntKind.i64.wrap (((r_1111.fInputs.length : Nat) : Int) - ((out_1148.length : Nat) : Int))))) 4 (.ptr 0 0), [.cel [.row 8 1 0 out_1148.length], .els 8 (out_1148.map eRef57Input)]⟩ := rfl
noncomputable def f27_L1 (r_1111 : Ref57Receiver) (t_1112 : Int) : Lp (Int × (List Ref57Input)) ((List Ref57Input)) where
  body := fun (i_1143, out_1144) => (if (decide (i_1143 < ((r_1111.fInputs.length : Nat) : Int))) = true then (at? r_1111.fInputs i_1143).bind fun x_1149 => (if (decide ((IntKind.i64.wrap (t_1112 - x_1149.fLast)) ≤ 2500)) = true then (at? r_1111.fInputs i_1143).bind fun x_1150 => (app? 80 out_1144 ([x_1150])).bind fun out_1151 => (some (.next ((IntKind.i64.wrap (i_1143 + 1)), out_1151))) else (some (.next ((IntKind.i64.wrap (i_1143 + 1)), out_1144)))) else (some (.brk out_1144)))
  cst := fun (i_1143, out_1144) => ⟨put (put (put (put (put (fun _ => .junk) 9 (.int .i64 i_1143)) 8 (.ptr 2 0)) 4 (.ptr 1 0)) 2 (.ptr 0 0)) 1 (.int .i64 t_1112), [.cel [.sl 8 false (r_1111.fInputs.map eRef57Input)], .cel [.sl 8 true []], .cel [.row 8 3 0 out_1144.length], .els 8 (out_1144.map eRef57Input)]⟩
theorem f27_L1c (r_1111 : Ref57Receiver) (t_1112 : Int) (i_1143 : Int) (out_1144 : (List Ref57Input)) : (f27_L1 r_1111 t_1112).cst (i_1143, out_1144) = ⟨put (put (put (put (put (fun _ => .junk) 9 (.int .i64 i_1143)) 8 (.ptr 2 0)) 4 (.ptr 1 0)) 2 (.ptr 0 0)) 1 (.int .i64 t_1112), [.cel [.sl 8 false (r_1111.fInputs.map eRef57Input)], .cel [.sl 8 true []], .cel [.row 8 3 0 out_1144.length], .els 8 (out_1144.map eRef57Input)]⟩ := rfl
def c27_0 : C := .cond (.t 14) (.seq (.reg [iI 15 (.build [(1, (.sl 8 true []))] []), iI 16 (.mv (.t 7)), iN (.store 1 (.t 4) (.t 15)), iI 5 (.mv (.c (.int .i64 0))), iI 6 (.mv (.t 16))]) .ret) (.skip)
def c27_1 : C := .seq (.reg [iI 13 (.mv (.t 7)), iI 14 (.bin .neq (.t 13) (.c (.int .i64 0)))]) c27_0
def c27_2 : C := .cond (.t 22) (.skip) (.exit 0)
def c27_3 : C := .cond (.t 33) (.reg [iI 34 (.faddr 0 (.t 8)), iI 35 (.load 0 (.t 34)), iI 36 (.faddr 0 (.t 2)), iI 37 (.load 0 (.t 36)), iI 38 (.mv (.t 9)), iI 39 (.iaddr 8 (.t 37) (.t 38)), iI 40 (.load 8 (.t 39)), iI 41 (.mkslp 8 1 (.agg [(.int .i64 0), (.int .u64 0), (.int .i64 0), (.int .i64 0), (.int .i64 0), (.int .i64 0), (.str []), (.str [])]) [(0, (.t 40))]), iI 42 (.append 8 80 (.t 35) (.t 41)), iI 43 (.faddr 0 (.t 8)), iN (.store 0 (.t 43) (.t 42))]) (.skip)
def c27_4 : C := .reg [iI 23 (.mv (.t 9)), iI 24 (.bin .add (.t 23) (.c (.int .i64 1))), iI 9 (.mv (.t 24))]
def c27_5 : C := .seq (.block 1 (.seq (.reg [iI 25 (.mv (.t 1)), iI 26 (.faddr 0 (.t 2)), iI 27 (.load 0 (.t 26)), iI 28 (.mv (.t 9)), iI 29 (.iaddr 8 (.t 27) (.t 28)), iI 30 (.faddr 5 (.t 29)), iI 31 (.load 0 (.t 30)), iI 32 (.bin .sub (.t 25) (.t 31)), iI 33 (.bin .leq (.t 32) (.c (.int .i64 2500)))]) c27_3)) c27_4
def c27_6 : C := .block 0 (.loop (.seq (.seq (.reg [iI 18 (.mv (.t 9)), iI 19 (.faddr 0 (.t 2)), iI 20 (.load 0 (.t 19)), iI 21 (.len 0 (.t 20)), iI 22 (.bin .lss (.t 18) (.t 21))]) c27_2) c27_5))
def c27_7 : C := .seq (.regt (.fork [iI 44 (.load 1 (.t 8)), iI 45 (.faddr 0 (.t 2)), iI 48 (.faddr 0 (.t 8))] (.fork [iI 46 (.load 0 (.t 45))] (.fork [iI 47 (.len 0 (.t 46))] (.fork [iI 49 (.load 0 (.t 48))] (.run [iI 50 (.len 0 (.t 49)), iI 51 (.bin .sub (.t 47) (.t 50)), iN (.store 1 (.t 4) (.t 44)), iI 5 (.mv (.t 51)), iI 6 (.mv (.c (.int .i64 0)))]) (.run [iN (.store 1 (.t 4) (.t 44)), iI 50 (.len 0 (.t 49)), iI 51 (.bin .sub (.t 47) (.t 50)), iI 5 (.mv (.t 51)), iI 6 (.mv (.c (.int .i64 0)))])) (.run [iN (.store 1 (.t 4) (.t 44)), iI 49 (.load 0 (.t 48)), iI 50 (.len 0 (.t 49)), iI 51 (.bin .sub (.t 47) (.t 50)), iI 5 (.mv (.t 51)), iI 6 (.mv (.c (.int .i64 0)))])) (.fork [] (.fork [iI 49 (.load 0 (.t 48))] (.fork [iI 47 (.len 0 (.t 46))] (.run [iI 50 (.len 0 (.t 49)), iI 51 (.bin .sub (.t 47) (.t 50)), iN (.store 1 (.t 4) (.t 44)), iI 5 (.mv (.t 51)), iI 6 (.mv (.c (.int .i64 0)))]) (.run [iN (.store 1 (.t 4) (.t 44)), iI 50 (.len 0 (.t 49)), iI 51 (.bin .sub (.t 47) (.t 50)), iI 5 (.mv (.t 51)), iI 6 (.mv (.c (.int .i64 0)))])) (.fork [] (.fork [iI 50 (.len 0 (.t 49))] (.run [iI 47 (.len 0 (.t 46)), iI 51 (.bin .sub (.t 47) (.t 50)), iN (.store 1 (.t 4) (.t 44)), iI 5 (.mv (.t 51)), iI 6 (.mv (.c (.int .i64 0)))]) (.run [iN (.store 1 (.t 4) (.t 44)), iI 47 (.len 0 (.t 46)), iI 51 (.bin .sub (.t 47) (.t 50)), iI 5 (.mv (.t 51)), iI 6 (.mv (.c (.int .i64 0)))])) (.run [iN (.store 1 (.t 4) (.t 44)), iI 47 (.len 0 (.t 46)), iI 50 (.len 0 (.t 49)), iI 51 (.bin .sub (.t 47) (.t 50)), iI 5 (.mv (.t 51)), iI 6 (.mv (.c (.int .i64 0)))]))) (.run [iN (.store 1 (.t 4) (.t 44)), iI 47 (.len 0 (.t 46)), iI 49 (.load 0 (.t 48)), iI 50 (.len 0 (.t 49)), iI 51 (.bin .sub (.t 47) (.t 50)), iI 5 (.mv (.t 51)), iI 6 (.mv (.c (.int .i64 0)))]))) (.fork [] (.fork [iI 49 (.load 0 (.t 48))] (.fork [iI 46 (.load 0 (.t 45))] (.fork [iI 47 (.len 0 (.t 46))] (.run [iI 50 (.len 0 (.t 49)), iI 51 (.bin .sub (.t 47) (.t 50)), iN (.store 1 (.t 4) (.t 44)), iI 5 (.mv (.t 51)), iI 6 (.mv (.c (.int .i64 0)))]) (.run [iN (.store 1 (.t 4) (.t 44)), iI 50 (.len 0 (.t 49)), iI 51 (.bin .sub (.t 47) (.t 50)), iI 5 (.mv (.t 51)), iI 6 (.mv (.c (.int .i64 0)))])) (.fork [] (.fork [iI 50 (.len 0 (.t 49))] (.run [iI 47 (.len 0 (.t 46)), iI 51 (.bin .sub (.t 47) (.t 50)), iN (.store 1 (.t 4) (.t 44)), iI 5 (.mv (.t 51)), iI 6 (.mv (.c (.int .i64 0)))]) (.run [iN (.store 1 (.t 4) (.t 44)), iI 47 (.len 0 (.t 46)), iI 51 (.bin .sub (.t 47) (.t 50)), iI 5 (.mv (.t 51)), iI 6 (.mv (.c (.int .i64 0)))])) (.run [iN (.store 1 (.t 4) (.t 44)), iI 47 (.len 0 (.t 46)), iI 50 (.len 0 (.t 49)), iI 51 (.bin .sub (.t 47) (.t 50)), iI 5 (.mv (.t 51)), iI 6 (.mv (.c (.int .i64 0)))]))) (.fork [] (.fork [iI 50 (.len 0 (.t 49))] (.fork [iI 46 (.load 0 (.t 45))] (.run [iI 47 (.len 0 (.t 46)), iI 51 (.bin .sub (.t 47) (.t 50)), iN (.store 1 (.t 4) (.t 44)), iI 5 (.mv (.t 51)), iI 6 (.mv (.c (.int .i64 0)))]) (.run [iN (.store 1 (.t 4) (.t 44)), iI 47 (.len 0 (.t 46)), iI 51 (.bin .sub (.t 47) (.t 50)), iI 5 (.mv (.t 51)), iI 6 (.mv (.c (.int .i64 0)))])) (.run [iN (.store 1 (.t 4) (.t 44)), iI 46 (.load 0 (.t 45)), iI 47 (.len 0 (.t 46)), iI 51 (.bin .sub (.t 47) (.t 50)), iI 5 (.mv (.t 51)), iI 6 (.mv (.c (.int .i64 0)))])) (.run [iN (.store 1 (.t 4) (.t 44)), iI 46 (.load 0 (.t 45)), iI 47 (.len 0 (.t 46)), iI 50 (.len 0 (.t 49)), iI 51 (.bin .sub (.t 47) (.t 50)), iI 5 (.mv (.t 51)), iI 6 (.mv (.c (.int .i64 0)))]))) (.run [iN (.store 1 (.t 4) (.t 44)), iI 46 (.load 0 (.t 45)), iI 47 (.len 0 (.t 46)), iI 49 (.load 0 (.t 48)), iI 50 (.len 0 (.t 49)), iI 51 (.bin .sub (.t 47) (.t 50)), iI 5 (.mv (.t 51)), iI 6 (.mv (.c (.int .i64 0)))])))) .ret
def c27_8 : C := .seq (.seq (.reg [iI 9 (.mv (.c (.int .i64 0)))]) c27_6) c27_7
def c27_9 : C := .seq (.reg [iI 17 (.build [(1, (.sl 8 true []))] []), iI 8 (.alloc [(1, (.sl 8 true []))]), iN (.store 1 (.t 8) (.t 17))]) c27_8
def c27_10 : C := .seq (.seq (.reg [iI 10 (.load 1 (.t 2)), iI 11 (.mv (.t 1)), iI 12 (.call (.c (.fn 61 [])) [(.t 10), (.t 11)]), iI 7 (.mv (.t 12))]) c27_1) c27_9
def ir27 : C := .seq (.reg [iI 2 (.box (.t 0)), iI 4 (.alloc [(1, (.sl 8 true []))]), iI 5 (.mv (.c (.int .i64 0))), iI 6 (.mv (.c (.int .i64 0)))]) c27_10
theorem fd27 : fd? Try.prog 27 = some (52, [.cell 4 1, .slot 5, .slot 6], ir27) := by kernel_rfl
noncomputable def f27 (r_1111 : Ref57Receiver) (t_1112 : Int) : Option (Ref57Receiver × Int × Int) :=
  (f61 r_1111 t_1112).bind fun r_1114 => (if (decide (r_1114 ≠ 0)) = true then (some ((Ref57Receiver.mk ([])), 0, r_1114)) else (Lp.run (f27_L1 r_1111 t_1112) (0, [])).bind fun out_1148 => ((f27_J2 out_1148 r_1111).run ()))
theorem f27_ok {r_1111 : Ref57Receiver} {t_1112 : Int} {r_ : Ref57Receiver × Int × Int} (H : f27 r_1111 t_1112 = some r_) : Pure Try.prog 27 [.agg [.sl 8 false (r_1111.fInputs.map eRef57Input)], .int .i64 t_1112] (· = .tup [.agg [.sl 8 false (r_.1.fInputs.map eRef57Input)], .int .i64 r_.2.1, .int .i64 r_.2.2]) := by
  refine Pure.walk3 fd27 none (Nat.le_of_ble_eq_true rfl) (by rfl) fun Q hQ => ?_
  simp only [f27] at H
  refine AW.rseq ?_
  try simp only [↓wk, ↓wl, nc, evV, wrapBits_eq, ↓reduceIte, sevalprocAttr]
  refine AW.sseq ?_
  refine AW.rseq ?_
  try simp only [↓wk, ↓wl, nc, evV, wrapBits_eq, ↓reduceIte, sevalprocAttr]
  refine evTs_pure hFn H (fun _ h => f61_ok h) (by rfl) (by rfl) (by rfl) (by rfl) (fun _ => rfl) ?_ <;> clear H <;> intro r_1114 H
  try simp only [eL, ↓wk, ↓wl, nc, evV, wrapBits_eq, ↓reduceIte, sevalprocAttr]
  refine AW.rseq ?_
  try simp only [↓wk, ↓wl, nc, evV, wrapBits_eq, ↓reduceIte, sevalprocAttr]
  refine AW.ifc H (by rfl) ?_ ?_ <;> clear H <;> intro H
  · refine AW.rseq ?_
    try simp only [↓wk, ↓wl, nc, evV, wrapBits_eq, ↓reduceIte, sevalprocAttr]
    refine AW.ret ?_
    refine seqQ.ret ?_
    cases H
    exact hQ _ _ _ _ (.inr rfl) (by simp only [resVs, omap, resV, ↓wk, ↓wl, nc, evV, wrapBits_eq, ↓reduceIte, sevalprocAttr]; rfl) (hand_plain (by rfl)) (by first | exact Or.inl rfl | exact Or.inr rfl)
  · refine AW.skip ?_
    refine seqQ.norm ?_
    refine AW.rseq ?_
    try simp only [↓wk, ↓wl, nc, evV, wrapBits_eq, ↓reduceIte, sevalprocAttr]
    refine AW.sseq ?_
    refine AW.rseq ?_
    try simp only [↓wk, ↓wl, nc, evV, wrapBits_eq, ↓reduceIte, sevalprocAttr]
    refine AW.bend ?_
    refine AW.iter H ((Le.trans (Le.nilCell (b := 2) (o := 0) (e := 8) (by rfl) (by rfl)) (Le.none [0, 1, 2, 3] [1, 2, 4, 8, 9] (by decide) (by simp only [f27_L1c, rrl, Option.map_some, vm, List.idxOf?_cons, List.idxOf?_nil, beq_self_eq_true, Option.map_none, List.getD_cons_zero, List.getD_cons_succ, ↓wk, ↓wl, nc, evV, wrapBits_eq, ↓reduceIte, sevalprocAttr] <;> rfl)))) ?_ <;> clear H
    rintro ⟨i_1143, out_1144⟩ x_ st0_ H hst_
    rw [f27_L1c] at hst_
    simp only [f27_L1] at H
    subst hst_
    refine AW.sseq ?_
    refine AW.rseq ?_
    try simp only [↓wk, ↓wl, nc, evV, wrapBits_eq, ↓reduceIte, sevalprocAttr]
    refine AW.ifc H (by rfl) ?_ ?_ <;> clear H <;> intro H
    · refine AW.skip ?_
      refine seqQ.norm ?_
      refine AW.bseq ?_
      refine AW.rseq ?_
      try simp only [↓wk, ↓wl, nc, evV, wrapBits_eq, ↓reduceIte, sevalprocAttr]
      refine evTs_at (enc := eRef57Input) H (by rfl) (by rfl) ?_ <;> clear H <;> intro x_1149 H
      try simp only [eRef57Input, eL, ↓wk, ↓wl, nc, evV, wrapBits_eq, ↓reduceIte, sevalprocAttr]
      refine AW.ifc H (by rfl) ?_ ?_ <;> clear H <;> intro H
      · refine AW.rend ?_
        try simp only [↓wk, ↓wl, nc, evV, wrapBits_eq, ↓reduceIte, sevalprocAttr]
        refine evTs_at (enc := eRef57Input) H (by rfl) (by rfl) ?_ <;> clear H <;> intro x_1150 H
        try simp only [eRef57Input, eL, ↓wk, ↓wl, nc, evV, wrapBits_eq, ↓reduceIte, sevalprocAttr]
        refine evTs_app (enc := eRef57Input) H (by rfl) (by first | rfl | simp only [List.length_set]) (by rfl) (by rfl) ?_ <;> clear H <;> intro out_1151 H
        try simp only [↓wk, ↓wl, nc, evV, wrapBits_eq, ↓reduceIte, sevalprocAttr]
        refine blkQ.norm ?_
        refine AW.rend ?_
        try simp only [↓wk, ↓wl, nc, evV, wrapBits_eq, ↓reduceIte, sevalprocAttr]
        exact loopQ.next H ((Le.none [0, 1, 2, 4] [1, 2, 4, 8, 9] (by decide) (by simp only [f27_L1c, rrl, Option.map_some, vm, List.idxOf?_cons, List.idxOf?_nil, beq_self_eq_true, Option.map_none, List.getD_cons_zero, List.getD_cons_succ, ↓wk, ↓wl, nc, evV, wrapBits_eq, ↓reduceIte, sevalprocAttr] <;> rfl)))
      · refine AW.skip ?_
        refine blkQ.norm ?_
        refine AW.rend ?_
        try simp only [↓wk, ↓wl, nc, evV, wrapBits_eq, ↓reduceIte, sevalprocAttr]
        exact loopQ.next H ((Le.none [0, 1, 2, 3] [1, 2, 4, 8, 9] (by decide) (by simp only [f27_L1c, rrl, Option.map_some, vm, List.idxOf?_cons, List.idxOf?_nil, beq_self_eq_true, Option.map_none, List.getD_cons_zero, List.getD_cons_succ, ↓wk, ↓wl, nc, evV, wrapBits_eq, ↓reduceIte, sevalprocAttr] <;> rfl)))
    · refine AW.exit ?_
      refine seqQ.exit ?_
      refine loopQ.exit H ?_ <;> clear H <;> intro H
      try dsimp only at H
      refine blk0.here ?_
      refine seqQ.norm ?_
      refine AW.join (f27_J2 out_1144 r_1111) H ?_ fun hf27_J2 => ?_
      · clear H
        rintro _ st0_ H hst_
        rw [f27_J2c] at hst_
        simp only [f27_J2] at H
        subst hst_
        refine AW.ret ?_
        cases H
        exact hQ _ _ _ _ (.inr rfl) (by simp only [resVs, omap, resV, ↓wk, ↓wl, nc, evV, wrapBits_eq, ↓reduceIte, sevalprocAttr]; rfl) (by simp only [handOver, deep_eq, imm_simps, imm_rowE, imm_ptrE, imm_enc, omap_simps, take_map_len, take_map_set, take_map_set2, le_refl_true, Nat.zero_add, and_true, true_and, List.drop_zero, Option.map_some, ↓wk, ↓wl, nc, evV, wrapBits_eq, ↓reduceIte, sevalprocAttr]; rfl) (by first | exact Or.inl rfl | exact Or.inr rfl)
      · refine AW.regt ?_
        refine evR.fork ?_
        try simp only [↓wk, ↓wl, nc, evV, wrapBits_eq, ↓reduceIte, sevalprocAttr]
        refine evR.both ?_ ?_
        · refine evR.fork ?_
          try simp only [↓wk, ↓wl, nc, evV, wrapBits_eq, ↓reduceIte, sevalprocAttr]
          refine evR.both ?_ ?_
          · refine evR.fork ?_
            try simp only [↓wk, ↓wl, nc, evV, wrapBits_eq, ↓reduceIte, sevalprocAttr]
            refine evR.both ?_ ?_
            · refine evR.fork ?_
              try simp only [↓wk, ↓wl, nc, evV, wrapBits_eq, ↓reduceIte, sevalprocAttr]
              refine evR.both ?_ ?_
              · refine evR.run ?_
                try simp only [↓wk, ↓wl, nc, evV, wrapBits_eq, ↓reduceIte, sevalprocAttr]
                refine seqQ.norm ?_
                exact hf27_J2 _ _ H ((Le.none [1, 3] [4, 5, 6] (by decide) (by simp only [f27_J2c, rrl, Option.map_some, vm, List.idxOf?_cons, List.idxOf?_nil, beq_self_eq_true, Option.map_none, List.getD_cons_zero, List.getD_cons_succ, ↓wk, ↓wl, nc, evV, wrapBits_eq, ↓reduceIte, sevalprocAttr] <;> rfl)))
              · refine evR.run ?_
                try simp only [↓wk, ↓wl, nc, evV, wrapBits_eq, ↓reduceIte, sevalprocAttr]
                refine seqQ.norm ?_
                exact hf27_J2 _ _ H ((Le.none [1, 3] [4, 5, 6] (by decide) (by simp only [f27_J2c, rrl, Option.map_some, vm, List.idxOf?_cons, List.idxOf?_nil, beq_self_eq_true, Option.map_none, List.getD_cons_zero, List.getD_cons_succ, ↓wk, ↓wl, nc, evV, wrapBits_eq, ↓reduceIte, sevalprocAttr] <;> rfl)))
            · refine evR.run ?_
              try simp only [↓wk, ↓wl, nc, evV, wrapBits_eq, ↓reduceIte, sevalprocAttr]
              refine seqQ.norm ?_
              exact hf27_J2 _ _ H ((Le.none [1, 3] [4, 5, 6] (by decide) (by simp only [f27_J2c, rrl, Option.map_some, vm, List.idxOf?_cons, List.idxOf?_nil, beq_self_eq_true, Option.map_none, List.getD_cons_zero, List.getD_cons_succ, ↓wk, ↓wl, nc, evV, wrapBits_eq, ↓reduceIte, sevalprocAttr] <;> rfl)))
          · refine evR.fork ?_
            try simp only [↓wk, ↓wl, nc, evV, wrapBits_eq, ↓reduceIte, sevalprocAttr]
            refine evR.both ?_ ?_
            · refine evR.fork ?_
              try simp only [↓wk, ↓wl, nc, evV, wrapBits_eq, ↓reduceIte, sevalprocAttr]
              refine evR.both ?_ ?_
              · refine evR.fork ?_
                try simp only [↓wk, ↓wl, nc, evV, wrapBits_eq, ↓reduceIte, sevalprocAttr]
                refine evR.both ?_ ?_
                · refine evR.run ?_
                  try simp only [↓wk, ↓wl, nc, evV, wrapBits_eq, ↓reduceIte, sevalprocAttr]
                  refine seqQ.norm ?_
                  exact hf27_J2 _ _ H ((Le.none [1, 3] [4, 5, 6] (by decide) (by simp only [f27_J2c, rrl, Option.map_some, vm, List.idxOf?_cons, List.idxOf?_nil, beq_self_eq_true, Option.map_none, List.getD_cons_zero, List.getD_cons_succ, ↓wk, ↓wl, nc, evV, wrapBits_eq, ↓reduceIte, sevalprocAttr] <;> rfl)))
                · refine evR.run ?_
                  try simp only [↓wk, ↓wl, nc, evV, wrapBits_eq, ↓reduceIte, sevalprocAttr]
                  refine seqQ.norm ?_
                  exact hf27_J2 _ _ H ((Le.none [1, 3] [4, 5, 6] (by decide) (by simp only [f27_J2c, rrl, Option.map_some, vm, List.idxOf?_cons, List.idxOf?_nil, beq_self_eq_true, Option.map_none, List.getD_cons_zero, List.getD_cons_succ, ↓wk, ↓wl, nc, evV, wrapBits_eq, ↓reduceIte, sevalprocAttr] <;> rfl)))
              · refine evR.fork ?_
                try simp only [↓wk, ↓wl, nc, evV, wrapBits_eq, ↓reduceIte, sevalprocAttr]
                refine evR.both ?_ ?_
                · refine evR.fork ?_
                  try simp only [↓wk, ↓wl, nc, evV, wrapBits_eq, ↓reduceIte, sevalprocAttr]
                  refine evR.both ?_ ?_
                  · refine evR.run ?_
                    try simp only [↓wk, ↓wl, nc, evV, wrapBits_eq, ↓reduceIte, sevalprocAttr]
                    refine seqQ.norm ?_
                    exact hf27_J2 _ _ H ((Le.none [1, 3] [4, 5, 6] (by decide) (by simp only [f27_J2c, rrl, Option.map_some, vm, List.idxOf?_cons, List.idxOf?_nil, beq_self_eq_true, Option.map_none, List.getD_cons_zero, List.getD_cons_succ, ↓wk, ↓wl, nc, evV, wrapBits_eq, ↓reduceIte, sevalprocAttr] <;> rfl)))
                  · refine evR.run ?_
                    try simp only [↓wk, ↓wl, nc, evV, wrapBits_eq, ↓reduceIte, sevalprocAttr]
                    refine seqQ.norm ?_
                    exact hf27_J2 _ _ H ((Le.none [1, 3] [4, 5, 6] (by decide) (by simp only [f27_J2c, rrl, Option.map_some, vm, List.idxOf?_cons, List.idxOf?_nil, beq_self_eq_true, Option.map_none, List.getD_cons_zero, List.getD_cons_succ, ↓wk, ↓wl, nc, evV, wrapBits_eq, ↓reduceIte, sevalprocAttr] <;> rfl)))
                · refine evR.run ?_
                  try simp only [↓wk, ↓wl, nc, evV, wrapBits_eq, ↓reduceIte, sevalprocAttr]
                  refine seqQ.norm ?_
                  exact hf27_J2 _ _ H ((Le.none [1, 3] [4, 5, 6] (by decide) (by simp only [f27_J2c, rrl, Option.map_some, vm, List.idxOf?_cons, List.idxOf?_nil, beq_self_eq_true, Option.map_none, List.getD_cons_zero, List.getD_cons_succ, ↓wk, ↓wl, nc, evV, wrapBits_eq, ↓reduceIte, sevalprocAttr] <;> rfl)))
            · refine evR.run ?_
              try simp only [↓wk, ↓wl, nc, evV, wrapBits_eq, ↓reduceIte, sevalprocAttr]
              refine seqQ.norm ?_
              exact hf27_J2 _ _ H ((Le.none [1, 3] [4, 5, 6] (by decide) (by simp only [f27_J2c, rrl, Option.map_some, vm, List.idxOf?_cons, List.idxOf?_nil, beq_self_eq_true, Option.map_none, List.getD_cons_zero, List.getD_cons_succ, ↓wk, ↓wl, nc, evV, wrapBits_eq, ↓reduceIte, sevalprocAttr] <;> rfl)))
        · refine evR.fork ?_
          try simp only [↓wk, ↓wl, nc, evV, wrapBits_eq, ↓reduceIte, sevalprocAttr]
          refine evR.both ?_ ?_
          · refine evR.fork ?_
            try simp only [↓wk, ↓wl, nc, evV, wrapBits_eq, ↓reduceIte, sevalprocAttr]
            refine evR.both ?_ ?_
            · refine evR.fork ?_
              try simp only [↓wk, ↓wl, nc, evV, wrapBits_eq, ↓reduceIte, sevalprocAttr]
              refine evR.both ?_ ?_
              · refine evR.fork ?_
                try simp only [↓wk, ↓wl, nc, evV, wrapBits_eq, ↓reduceIte, sevalprocAttr]
                refine evR.both ?_ ?_
                · refine evR.run ?_
                  try simp only [↓wk, ↓wl, nc, evV, wrapBits_eq, ↓reduceIte, sevalprocAttr]
                  refine seqQ.norm ?_
                  exact hf27_J2 _ _ H ((Le.none [1, 3] [4, 5, 6] (by decide) (by simp only [f27_J2c, rrl, Option.map_some, vm, List.idxOf?_cons, List.idxOf?_nil, beq_self_eq_true, Option.map_none, List.getD_cons_zero, List.getD_cons_succ, ↓wk, ↓wl, nc, evV, wrapBits_eq, ↓reduceIte, sevalprocAttr] <;> rfl)))
                · refine evR.run ?_
                  try simp only [↓wk, ↓wl, nc, evV, wrapBits_eq, ↓reduceIte, sevalprocAttr]
                  refine seqQ.norm ?_
                  exact hf27_J2 _ _ H ((Le.none [1, 3] [4, 5, 6] (by decide) (by simp only [f27_J2c, rrl, Option.map_some, vm, List.idxOf?_cons, List.idxOf?_nil, beq_self_eq_true, Option.map_none, List.getD_cons_zero, List.getD_cons_succ, ↓wk, ↓wl, nc, evV, wrapBits_eq, ↓reduceIte, sevalprocAttr] <;> rfl)))
              · refine evR.fork ?_
                try simp only [↓wk, ↓wl, nc, evV, wrapBits_eq, ↓reduceIte, sevalprocAttr]
                refine evR.both ?_ ?_
                · refine evR.fork ?_
                  try simp only [↓wk, ↓wl, nc, evV, wrapBits_eq, ↓reduceIte, sevalprocAttr]
                  refine evR.both ?_ ?_
                  · refine evR.run ?_
                    try simp only [↓wk, ↓wl, nc, evV, wrapBits_eq, ↓reduceIte, sevalprocAttr]
                    refine seqQ.norm ?_
                    exact hf27_J2 _ _ H ((Le.none [1, 3] [4, 5, 6] (by decide) (by simp only [f27_J2c, rrl, Option.map_some, vm, List.idxOf?_cons, List.idxOf?_nil, beq_self_eq_true, Option.map_none, List.getD_cons_zero, List.getD_cons_succ, ↓wk, ↓wl, nc, evV, wrapBits_eq, ↓reduceIte, sevalprocAttr] <;> rfl)))
                  · refine evR.run ?_
                    try simp only [↓wk, ↓wl, nc, evV, wrapBits_eq, ↓reduceIte, sevalprocAttr]
                    refine seqQ.norm ?_
                    exact hf27_J2 _ _ H ((Le.none [1, 3] [4, 5, 6] (by decide) (by simp only [f27_J2c, rrl, Option.map_some, vm, List.idxOf?_cons, List.idxOf?_nil, beq_self_eq_true, Option.map_none, List.getD_cons_zero, List.getD_cons_succ, ↓wk, ↓wl, nc, evV, wrapBits_eq, ↓reduceIte, sevalprocAttr] <;> rfl)))
                · refine evR.run ?_
                  try simp only [↓wk, ↓wl, nc, evV, wrapBits_eq, ↓reduceIte, sevalprocAttr]
                  refine seqQ.norm ?_
                  exact hf27_J2 _ _ H ((Le.none [1, 3] [4, 5, 6] (by decide) (by simp only [f27_J2c, rrl, Option.map_some, vm, List.idxOf?_cons, List.idxOf?_nil, beq_self_eq_true, Option.map_none, List.getD_cons_zero, List.getD_cons_succ, ↓wk, ↓wl, nc, evV, wrapBits_eq, ↓reduceIte, sevalprocAttr] <;> rfl)))
            · refine evR.fork ?_
              try simp only [↓wk, ↓wl, nc, evV, wrapBits_eq, ↓reduceIte, sevalprocAttr]
              refine evR.both ?_ ?_
              · refine evR.fork ?_
                try simp only [↓wk, ↓wl, nc, evV, wrapBits_eq, ↓reduceIte, sevalprocAttr]
                refine evR.both ?_ ?_
                · refine evR.fork ?_
                  try simp only [↓wk, ↓wl, nc, evV, wrapBits_eq, ↓reduceIte, sevalprocAttr]
                  refine evR.both ?_ ?_
                  · refine evR.run ?_
                    try simp only [↓wk, ↓wl, nc, evV, wrapBits_eq, ↓reduceIte, sevalprocAttr]
                    refine seqQ.norm ?_
                    exact hf27_J2 _ _ H ((Le.none [1, 3] [4, 5, 6] (by decide) (by simp only [f27_J2c, rrl, Option.map_some, vm, List.idxOf?_cons, List.idxOf?_nil, beq_self_eq_true, Option.map_none, List.getD_cons_zero, List.getD_cons_succ, ↓wk, ↓wl, nc, evV, wrapBits_eq, ↓reduceIte, sevalprocAttr] <;> rfl)))
                  · refine evR.run ?_
                    try simp only [↓wk, ↓wl, nc, evV, wrapBits_eq, ↓reduceIte, sevalprocAttr]
                    refine seqQ.norm ?_
                    exact hf27_J2 _ _ H ((Le.none [1, 3] [4, 5, 6] (by decide) (by simp only [f27_J2c, rrl, Option.map_some, vm, List.idxOf?_cons, List.idxOf?_nil, beq_self_eq_true, Option.map_none, List.getD_cons_zero, List.getD_cons_succ, ↓wk, ↓wl, nc, evV, wrapBits_eq, ↓reduceIte, sevalprocAttr] <;> rfl)))
                · refine evR.run ?_
                  try simp only [↓wk, ↓wl, nc, evV, wrapBits_eq, ↓reduceIte, sevalprocAttr]
                  refine seqQ.norm ?_
                  exact hf27_J2 _ _ H ((Le.none [1, 3] [4, 5, 6] (by decide) (by simp only [f27_J2c, rrl, Option.map_some, vm, List.idxOf?_cons, List.idxOf?_nil, beq_self_eq_true, Option.map_none, List.getD_cons_zero, List.getD_cons_succ, ↓wk, ↓wl, nc, evV, wrapBits_eq, ↓reduceIte, sevalprocAttr] <;> rfl)))
              · refine evR.run ?_
                try simp only [↓wk, ↓wl, nc, evV, wrapBits_eq, ↓reduceIte, sevalprocAttr]
                refine seqQ.norm ?_
                exact hf27_J2 _ _ H ((Le.none [1, 3] [4, 5, 6] (by decide) (by simp only [f27_J2c, rrl, Option.map_some, vm, List.idxOf?_cons, List.idxOf?_nil, beq_self_eq_true, Option.map_none, List.getD_cons_zero, List.getD_cons_succ, ↓wk, ↓wl, nc, evV, wrapBits_eq, ↓reduceIte, sevalprocAttr] <;> rfl)))
          · refine evR.run ?_
            try simp only [↓wk, ↓wl, nc, evV, wrapBits_eq, ↓reduceIte, sevalprocAttr]
            refine seqQ.norm ?_
            exact hf27_J2 _ _ H ((Le.none [1, 3] [4, 5, 6] (by decide) (by simp only [f27_J2c, rrl, Option.map_some, vm, List.idxOf?_cons, List.idxOf?_nil, beq_self_eq_true, Option.map_none, List.getD_cons_zero, List.getD_cons_succ, ↓wk, ↓wl, nc, evV, wrapBits_eq, ↓reduceIte, sevalprocAttr] <;> rfl)))
noncomputable def f5_L2 (l_1010 : (List ReceiverEvent)) (t_1011 : Int) (r_1009 : ReceiverReceiver) : Lp (Int × (List Ref57Event)) (((List Ref57Event)) ⊕ (Bool)) where
  body := fun (v_1046, m_1047) => (if (decide (v_1046 < ((l_1010.length : Nat) : Int))) = true then (at? l_1010 v_1046).bind fun x_1170 => (if (decide (521 < ((x_1170.fPacket.fSlots.length : Nat) : Int))) = true then (f15).bind fun r_1171 => (some (.brk (Sum.inr r_1171))) else (app? 72 m_1047 ([(Ref57Event.mk x_1170.fAt (Ref56Packet.mk x_1170.fPacket.fSource x_1170.fPacket.fUniverse x_1170.fPacket.fPriority x_1170.fPacket.fSeq x_1170.fPacket.fSync x_1170.fPacket.fEnd x_1170.fPacket.fSlots))])).bind fun out_1172 => (some (.next ((IntKind.i64.wrap (v_1046 + 1)), out_1172)))) else (some (.brk (Sum.inl m_1047))))
  cst := fun (v_1046, m_1047) => ⟨put (put (put (put (put (put (put (fun _ => .junk) 43 (.int .i64 v_1046)) 42 (.int .i64 ((l_1010.length : Nat) : Int))) 41 (.sl 8 false (l_1010.map eReceiverEvent))) 7 (.row 8 1 0 m_1047.length)) 3 (.ptr 0 0)) 2 (.int .i64 t_1011)) 1 (.sl 8 false (l_1010.map eReceiverEvent)), [.cel [.sl 8 false (r_1009.fInputs.map eReceiverInput)], .els 8 (m_1047.map eRef57Event)]⟩
theorem f5_L2c (l_1010 : (List ReceiverEvent)) (t_1011 : Int) (r_1009 : ReceiverReceiver) (v_1046 : Int) (m_1047 : (List Ref57Event)) : (f5_L2 l_1010 t_1011 r_1009).cst (v_1046, m_1047) = ⟨put (put (put (put (put (put (put (fun _ => .junk) 43 (.int .i64 v_1046)) 42 (.int .i64 ((l_1010.length : Nat) : Int))) 41 (.sl 8 false (l_1010.map eReceiverEvent))) 7 (.row 8 1 0 m_1047.length)) 3 (.ptr 0 0)) 2 (.int .i64 t_1011)) 1 (.sl 8 false (l_1010.map eReceiverEvent)), [.cel [.sl 8 false (r_1009.fInputs.map eReceiverInput)], .els 8 (m_1047.map eRef57Event)]⟩ := rfl
noncomputable def f5_J1 (l_1010 : (List ReceiverEvent)) (t_1011 : Int) (r_1009 : ReceiverReceiver) : Jn (Unit) (Bool) where
  run := fun _ => ((Lp.run (f5_L2 l_1010 t_1011 r_1009) (0, [])).bind fun r_ => match r_ with | (Sum.inl m_1051) => (f24 r_1009 l_1010).bind fun r_1052 => (f18 r_1009).bind fun r_1053 => (f25 r_1053 m_1051).bind fun r_1094 => (f26 r_1009 t_1011).bind fun r_1109 => (f18 r_1009).bind fun r_1110 => (f27 r_1110 t_1011).bind fun r_1152 => (f15).bind fun r_1153 => (if r_1153 = true then (f18 r_1052.1).bind fun r_1154 => (f21 r_1154 r_1094.1).bind fun r_1155 => (if r_1155 = true then (if (decide (r_1052.2.1 = r_1094.2.1)) = true then (if (decide (r_1052.2.2 = r_1094.2.2)) = true then (f18 r_1109.1).bind fun r_1156 => (f21 r_1156 r_1152.1).bind fun r_1157 => (if r_1157 = true then (if (decide (r_1109.2.1 = r_1152.2.1)) = true then (some (decide (r_1109.2.2 = r_1152.2.2))) else (some false)) else (some false)) else (some false)) else (some false)) else (some false)) else (some false)) | (Sum.inr v_1158) => (some v_1158))
  cst := fun _ => ⟨put (put (put (fun _ => .junk) 3 (.ptr 0 0)) 2 (.int .i64 t_1011)) 1 (.sl 8 false (l_1010.map eReceiverEvent)), [.cel [.sl 8 false (r_1009.fInputs.map eReceiverInput)]]⟩
theorem f5_J1c (l_1010 : (List ReceiverEvent)) (t_1011 : Int) (r_1009 : ReceiverReceiver) (x_ : Unit) : (f5_J1 l_1010 t_1011 r_1009).cst x_ = ⟨put (put (put (fun _ => .junk) 3 (.ptr 0 0)) 2 (.int .i64 t_1011)) 1 (.sl 8 false (l_1010.map eReceiverEvent)), [.cel [.sl 8 false (r_1009.fInputs.map eReceiverInput)]]⟩ := rfl
def c5_0 : C := .cond (.t 39) (.seq (.reg [iI 40 (.call (.c (.fn 15 [])) []), iI 6 (.mv (.t 40))]) .ret) (.skip)
def c5_1 : C := .cond (.t 51) (.seq (.reg [iI 52 (.call (.c (.fn 15 [])) []), iI 6 (.mv (.t 52))]) .ret) (.skip)
def c5_2 : C := .reg [iI 53 (.mv (.t 7)), iI 54 (.faddr 0 (.t 9)), iI 55 (.load 0 (.t 54)), iI 56 (.faddr 1 (.t 9)), iI 57 (.load 7 (.t 56)), iI 58 (.build [(1, (.int .i64 0)), (1, (.int .u64 0)), (1, (.int .i64 0)), (1, (.int .i64 0)), (1, (.int .i64 0)), (1, (.int .i64 0)), (1, (.bool false)), (1, (.str []))] [(0, 0, (.t 55)), (1, 7, (.t 57))]), iI 59 (.mkslp 8 1 (.agg [(.int .i64 0), (.int .u64 0), (.int .i64 0), (.int .i64 0), (.int .i64 0), (.int .i64 0), (.bool false), (.str [])]) [(0, (.t 58))]), iI 60 (.append 8 72 (.t 53) (.t 59)), iI 7 (.mv (.t 60))]
def c5_3 : C := .seq (.seq (.reg [iI 47 (.faddr 1 (.t 9)), iI 48 (.faddr 6 (.t 47)), iI 49 (.load 0 (.t 48)), iI 50 (.len 1 (.t 49)), iI 51 (.bin .gtr (.t 50) (.c (.int .i64 521)))]) c5_1) c5_2
def c5_4 : C := .reg [iI 61 (.bin .add (.t 43) (.c (.int .i64 1))), iI 43 (.mv (.t 61))]
def c5_5 : C := .seq (.block 1 (.seq (.reg [iI 45 (.iaddr 8 (.t 41) (.t 43)), iI 46 (.load 8 (.t 45)), iI 9 (.alloc [(1, (.int .i64 0)), (1, (.int .u64 0)), (1, (.int .i64 0)), (1, (.int .i64 0)), (1, (.int .i64 0)), (1, (.int .i64 0)), (1, (.bool false)), (1, (.str []))]), iN (.store 8 (.t 9) (.t 46))]) c5_3)) c5_4
def c5_6 : C := .seq (.cond (.t 44) (.skip) (.exit 0)) c5_5
def c5_7 : C := .block 0 (.loop (.seq (.reg [iI 44 (.bin .lss (.t 43) (.t 42))]) c5_6))
def c5_8 : C := .seq (.regq [iI 92 (.call (.c (.fn 15 [])) []), iI 93 (.mv (.t 92)), iG (some 94) 93 true (.load 1 (.t 10)), iG (some 95) 93 true (.call (.c (.fn 18 [])) [(.t 94)]), iG (some 96) 93 true (.load 1 (.t 13)), iG (some 97) 93 true (.call (.c (.fn 21 [])) [(.t 95), (.t 96)]), iI 98 (.pick (.t 93) (.t 97) (.c (.bool false))), iI 99 (.mv (.t 98)), iG (some 100) 99 true (.mv (.t 11)), iG (some 101) 99 true (.mv (.t 14)), iG (some 102) 99 true (.bin .eql (.t 100) (.t 101)), iI 103 (.pick (.t 99) (.t 102) (.c (.bool false))), iI 104 (.mv (.t 103)), iG (some 105) 104 true (.mv (.t 12)), iG (some 106) 104 true (.mv (.t 15)), iG (some 107) 104 true (.bin .eql (.t 105) (.t 106)), iI 108 (.pick (.t 104) (.t 107) (.c (.bool false))), iI 109 (.mv (.t 108)), iG (some 110) 109 true (.load 1 (.t 16)), iG (some 111) 109 true (.call (.c (.fn 18 [])) [(.t 110)]), iG (some 112) 109 true (.load 1 (.t 19)), iG (some 113) 109 true (.call (.c (.fn 21 [])) [(.t 111), (.t 112)]), iI 114 (.pick (.t 109) (.t 113) (.c (.bool false))), iI 115 (.mv (.t 114)), iG (some 116) 115 true (.mv (.t 17)), iG (some 117) 115 true (.mv (.t 20)), iG (some 118) 115 true (.bin .eql (.t 116) (.t 117)), iI 119 (.pick (.t 115) (.t 118) (.c (.bool false))), iI 120 (.mv (.t 119)), iG (some 121) 120 true (.mv (.t 18)), iG (some 122) 120 true (.mv (.t 21)), iG (some 123) 120 true (.bin .eql (.t 121) (.t 122)), iI 124 (.pick (.t 120) (.t 123) (.c (.bool false))), iI 6 (.mv (.t 124))]) .ret
def c5_9 : C := .seq (.reg [iI 85 (.load 1 (.t 3)), iI 86 (.call (.c (.fn 18 [])) [(.t 85)]), iI 87 (.mv (.t 2)), iI 88 (.call (.c (.fn 27 [])) [(.t 86), (.t 87)]), iI 84 (.mv (.t 88)), iI 89 (.ext (.t 84) 0), iI 90 (.ext (.t 84) 1), iI 91 (.ext (.t 84) 2), iI 19 (.alloc [(1, (.sl 8 true []))]), iN (.store 1 (.t 19) (.t 89)), iI 20 (.mv (.t 90)), iI 21 (.mv (.t 91))]) c5_8
def c5_10 : C := .seq (.reg [iI 78 (.load 1 (.t 3)), iI 79 (.mv (.t 2)), iI 80 (.call (.c (.fn 26 [])) [(.t 78), (.t 79)]), iI 77 (.mv (.t 80)), iI 81 (.ext (.t 77) 0), iI 82 (.ext (.t 77) 1), iI 83 (.ext (.t 77) 2), iI 16 (.alloc [(1, (.sl 8 true []))]), iN (.store 1 (.t 16) (.t 81)), iI 17 (.mv (.t 82)), iI 18 (.mv (.t 83))]) c5_9
def c5_11 : C := .seq (.reg [iI 70 (.load 1 (.t 3)), iI 71 (.call (.c (.fn 18 [])) [(.t 70)]), iI 72 (.mv (.t 7)), iI 73 (.call (.c (.fn 25 [])) [(.t 71), (.t 72)]), iI 69 (.mv (.t 73)), iI 74 (.ext (.t 69) 0), iI 75 (.ext (.t 69) 1), iI 76 (.ext (.t 69) 2), iI 13 (.alloc [(1, (.sl 8 true []))]), iN (.store 1 (.t 13) (.t 74)), iI 14 (.mv (.t 75)), iI 15 (.mv (.t 76))]) c5_10
def c5_12 : C := .seq (.reg [iI 63 (.load 1 (.t 3)), iI 64 (.mv (.t 1)), iI 65 (.call (.c (.fn 24 [])) [(.t 63), (.t 64)]), iI 62 (.mv (.t 65)), iI 66 (.ext (.t 62) 0), iI 67 (.ext (.t 62) 1), iI 68 (.ext (.t 62) 2), iI 10 (.alloc [(1, (.sl 8 true []))]), iN (.store 1 (.t 10) (.t 66)), iI 11 (.mv (.t 67)), iI 12 (.mv (.t 68))]) c5_11
def c5_13 : C := .seq (.seq (.reg [iI 41 (.mv (.t 1)), iI 42 (.len 0 (.t 41)), iI 43 (.mv (.c (.int .i64 0)))]) c5_7) c5_12
def c5_14 : C := .seq (.reg [iI 7 (.mv (.c (.sl 8 true [])))]) c5_13
def c5_15 : C := .seq (.seq (.reg [iI 22 (.load 1 (.t 3)), iI 23 (.call (.c (.fn 14 [])) [(.t 22)]), iI 24 (.un .not (.t 23)), iI 25 (.mv (.t 24)), iG (some 26) 25 false (.mv (.t 1)), iG (some 27) 25 false (.len 0 (.t 26)), iG (some 28) 25 false (.bin .gtr (.t 27) (.c (.int .i64 12))), iG (some 29) 25 false (.mv (.t 28)), iG (some 30) 29 true (.mv (.t 1)), iG (some 31) 29 true (.len 0 (.t 30)), iG (some 32) 29 true (.bin .leq (.t 31) (.c (.int .i64 4096))), iG (some 33) 25 false (.pick (.t 29) (.t 32) (.c (.bool false))), iI 34 (.pick (.t 25) (.c (.bool true)) (.t 33)), iI 35 (.mv (.t 34)), iG (some 36) 35 false (.mv (.t 1)), iG (some 37) 35 false (.len 0 (.t 36)), iG (some 38) 35 false (.bin .gtr (.t 37) (.c (.int .i64 4100))), iI 39 (.pick (.t 35) (.c (.bool true)) (.t 38))]) c5_0) c5_14
def ir5 : C := .seq (.reg [iI 3 (.box (.t 0)), iI 6 (.mv (.c (.bool false)))]) c5_15
theorem fd5 : fd? Try.prog 5 = some (125, [.slot 6], ir5) := by kernel_rfl
noncomputable def f5 (r_1009 : ReceiverReceiver) (l_1010 : (List ReceiverEvent)) (t_1011 : Int) : Option (Bool) :=
  (f14 r_1009).bind fun r_1184 => (if (!r_1184) = true then (f15).bind fun r_1185 => (some r_1185) else (if (decide (12 < ((l_1010.length : Nat) : Int))) = true then (if (decide (((l_1010.length : Nat) : Int) ≤ 4096)) = true then (f15).bind fun r_1186 => (some r_1186) else (if (decide (4100 < ((l_1010.length : Nat) : Int))) = true then (f15).bind fun r_1187 => (some r_1187) else ((f5_J1 l_1010 t_1011 r_1009).run ()))) else (if (decide (4100 < ((l_1010.length : Nat) : Int))) = true then (f15).bind fun r_1188 => (some r_1188) else ((f5_J1 l_1010 t_1011 r_1009).run ()))))
theorem f5_ok {r_1009 : ReceiverReceiver} {l_1010 : (List ReceiverEvent)} {t_1011 : Int} {r_ : Bool} (H : f5 r_1009 l_1010 t_1011 = some r_) : Pure Try.prog 5 [.agg [.sl 8 false (r_1009.fInputs.map eReceiverInput)], .sl 8 false (l_1010.map eReceiverEvent), .int .i64 t_1011] (· = .bool r_) := by
  refine Pure.walk3 fd5 none (Nat.le_of_ble_eq_true rfl) (by rfl) fun Q hQ => ?_
  simp only [f5] at H
  refine AW.rseq ?_
  try simp only [↓wk, ↓wl, nc, evV, wrapBits_eq, ↓reduceIte, sevalprocAttr]
  refine AW.join (f5_J1 l_1010 t_1011 r_1009) H ?_ fun hf5_J1 => ?_
  · clear H
    rintro _ st0_ H hst_
    rw [f5_J1c] at hst_
    simp only [f5_J1] at H
    subst hst_
    refine AW.rseq ?_
    try simp only [↓wk, ↓wl, nc, evV, wrapBits_eq, ↓reduceIte, sevalprocAttr]
    refine AW.sseq ?_
    refine AW.rseq ?_
    try simp only [↓wk, ↓wl, nc, evV, wrapBits_eq, ↓reduceIte, sevalprocAttr]
    refine AW.bend ?_
    refine AW.iter H ((Le.trans (Le.nilRow (i := 7) (e := 8) (by simp only [↓wk, ↓wl, nc, evV, wrapBits_eq, ↓reduceIte, sevalprocAttr])) (Le.none [0, 1] [1, 2, 3, 7, 41, 42, 43] (by decide) (by simp only [f5_L2c, rrl, Option.map_some, vm, List.idxOf?_cons, List.idxOf?_nil, beq_self_eq_true, Option.map_none, List.getD_cons_zero, List.getD_cons_succ, ↓wk, ↓wl, nc, evV, wrapBits_eq, ↓reduceIte, sevalprocAttr] <;> rfl)))) ?_ <;> clear H
    rintro ⟨v_1046, m_1047⟩ x_ st0_ H hst_
    rw [f5_L2c] at hst_
    simp only [f5_L2] at H
    subst hst_
    refine AW.rseq ?_
    try simp only [↓wk, ↓wl, nc, evV, wrapBits_eq, ↓reduceIte, sevalprocAttr]
    refine AW.sseq ?_
    refine AW.ifc H (by rfl) ?_ ?_ <;> clear H <;> intro H
    · refine AW.skip ?_
      refine seqQ.norm ?_
      refine AW.bseq ?_
      refine AW.rseq ?_
      try simp only [↓wk, ↓wl, nc, evV, wrapBits_eq, ↓reduceIte, sevalprocAttr]
      refine evTs_at (enc := eReceiverEvent) H (by rfl) (by rfl) ?_ <;> clear H <;> intro x_1170 H
      try simp only [eReceiverEvent, eL, ↓wk, ↓wl, nc, evV, wrapBits_eq, ↓reduceIte, sevalprocAttr]
      refine AW.sseq ?_
      refine AW.rseq ?_
      try simp only [↓wk, ↓wl, nc, evV, wrapBits_eq, ↓reduceIte, sevalprocAttr]
      refine AW.ifc H (by rfl) ?_ ?_ <;> clear H <;> intro H
      · refine AW.rseq ?_
        try simp only [↓wk, ↓wl, nc, evV, wrapBits_eq, ↓reduceIte, sevalprocAttr]
        refine evTs_pure hFn H (fun _ h => f15_ok h) (by rfl) (by rfl) (by rfl) (by rfl) (fun _ => rfl) ?_ <;> clear H <;> intro r_1171 H
        try simp only [eL, ↓wk, ↓wl, nc, evV, wrapBits_eq, ↓reduceIte, sevalprocAttr]
        refine AW.ret ?_
        refine seqQ.ret ?_
        refine blkQ.ret ?_
        refine loopQ.ret H ?_ <;> clear H <;> intro H
        try dsimp only at H
        refine blk0.ret ?_
        refine seqQ.ret ?_
        cases H
        exact hQ _ _ _ _ (.inr rfl) (by simp only [resVs, omap, resV, ↓wk, ↓wl, nc, evV, wrapBits_eq, ↓reduceIte, sevalprocAttr]; rfl) (hand_plain (by rfl)) (by first | exact Or.inl rfl | exact Or.inr rfl)
      · refine AW.skip ?_
        refine seqQ.norm ?_
        refine AW.rend ?_
        try simp only [↓wk, ↓wl, nc, evV, wrapBits_eq, ↓reduceIte, sevalprocAttr]
        refine evTs_app (enc := eRef57Event) H (by rfl) (by first | rfl | simp only [List.length_set]) (by rfl) (by rfl) ?_ <;> clear H <;> intro out_1172 H
        try simp only [↓wk, ↓wl, nc, evV, wrapBits_eq, ↓reduceIte, sevalprocAttr]
        refine blkQ.norm ?_
        refine AW.rend ?_
        try simp only [↓wk, ↓wl, nc, evV, wrapBits_eq, ↓reduceIte, sevalprocAttr]
        exact loopQ.next H ((Le.none [0, 3] [1, 2, 3, 7, 41, 42, 43] (by decide) (by simp only [f5_L2c, rrl, Option.map_some, vm, List.idxOf?_cons, List.idxOf?_nil, beq_self_eq_true, Option.map_none, List.getD_cons_zero, List.getD_cons_succ, ↓wk, ↓wl, nc, evV, wrapBits_eq, ↓reduceIte, sevalprocAttr] <;> rfl)))
    · refine AW.exit ?_
      refine seqQ.exit ?_
      refine loopQ.exit H ?_ <;> clear H <;> intro H
      try dsimp only at H
      refine blk0.here ?_
      refine seqQ.norm ?_
      refine AW.rseq ?_
      try simp only [↓wk, ↓wl, nc, evV, wrapBits_eq, ↓reduceIte, sevalprocAttr]
      refine evTs_pure hFn H (fun _ h => f24_ok h) (by rfl) (by rfl) (by rfl) (by rfl) (fun _ => rfl) ?_ <;> clear H <;> intro r_1173 H
      try simp only [eL, eReceiverReceiver, ↓wk, ↓wl, nc, evV, wrapBits_eq, ↓reduceIte, sevalprocAttr]
      refine AW.rseq ?_
      try simp only [↓wk, ↓wl, nc, evV, wrapBits_eq, ↓reduceIte, sevalprocAttr]
      refine evTs_pure hFn H (fun _ h => f18_ok h) (by rfl) (by rfl) (by rfl) (by rfl) (fun _ => rfl) ?_ <;> clear H <;> intro r_1174 H
      try simp only [eL, eRef57Receiver, ↓wk, ↓wl, nc, evV, wrapBits_eq, ↓reduceIte, sevalprocAttr]
      refine evTs_frz (args := [.agg [.sl 8 false (r_1174.fInputs.map eRef57Input)], .row 8 1 0 m_1047.length]) (h1 := [.cel [.sl 8 false (r_1009.fInputs.map eReceiverInput)], .dead, .cel [.sl 8 false (r_1173.1.fInputs.map eReceiverInput)]]) H (fun _ h => f25_ok h) (by rfl) (by rfl) (freeze_rows (by rfl) (by simp only [deep_eq, imm_simps, imm_rowE, imm_ptrE, imm_enc, omap_simps, take_map_len, take_map_set, take_map_set2, le_refl_true, Nat.zero_add, and_true, true_and, List.drop_zero, Option.map_some, ↓wk, ↓wl, nc, evV, wrapBits_eq, ↓reduceIte, sevalprocAttr]; try rfl) (by show kill _ (visit _ (11 + 1) _) = _; rw [visit_tup_cons, visit_pl (by rfl), visit_tup_cons, visit_rowE (enc := eRef57Event) (by rfl), visit_tup_nil]; try rfl)) (by rfl) (fun _ => by rfl) (fun _ => rfl) ?_ <;> clear H <;> intro r_1175 H
      try simp only [eL, eRef57Receiver, ↓wk, ↓wl, nc, evV, wrapBits_eq, ↓reduceIte, sevalprocAttr]
      refine AW.rseq ?_
      try simp only [↓wk, ↓wl, nc, evV, wrapBits_eq, ↓reduceIte, sevalprocAttr]
      refine evTs_pure hFn H (fun _ h => f26_ok h) (by rfl) (by rfl) (by rfl) (by rfl) (fun _ => rfl) ?_ <;> clear H <;> intro r_1176 H
      try simp only [eL, eReceiverReceiver, ↓wk, ↓wl, nc, evV, wrapBits_eq, ↓reduceIte, sevalprocAttr]
      refine AW.rseq ?_
      try simp only [↓wk, ↓wl, nc, evV, wrapBits_eq, ↓reduceIte, sevalprocAttr]
      refine evTs_pure hFn H (fun _ h => f18_ok h) (by rfl) (by rfl) (by rfl) (by rfl) (fun _ => rfl) ?_ <;> clear H <;> intro r_1177 H
      try simp only [eL, eRef57Receiver, ↓wk, ↓wl, nc, evV, wrapBits_eq, ↓reduceIte, sevalprocAttr]
      refine evTs_pure hFn H (fun _ h => f27_ok h) (by rfl) (by rfl) (by rfl) (by rfl) (fun _ => rfl) ?_ <;> clear H <;> intro r_1178 H
      try simp only [eL, eRef57Receiver, ↓wk, ↓wl, nc, evV, wrapBits_eq, ↓reduceIte, sevalprocAttr]
      refine AW.rqseq ?_
      try simp only [↓wk, ↓wl, nc, evV, wrapBits_eq, ↓reduceIte, sevalprocAttr]
      refine evTs_pure hFnq H (fun _ h => f15_ok h) (by rfl) (by rfl) (by rfl) (by rfl) (fun _ => rfl) ?_ <;> clear H <;> intro r_1179 H
      try simp only [eL, ↓wk, ↓wl, nc, evV, wrapBits_eq, ↓reduceIte, sevalprocAttr]
      refine evTs_ifg H (by rfl) ?_ ?_ <;> clear H <;> intro H
      · try simp only [↓wk, ↓wl, nc, evV, wrapBits_eq, ↓reduceIte, sevalprocAttr]
        refine evTs_pure hFnq H (fun _ h => f18_ok h) (by rfl) (by rfl) (by rfl) (by rfl) (fun _ => rfl) ?_ <;> clear H <;> intro r_1180 H
        try simp only [eL, eRef57Receiver, ↓wk, ↓wl, nc, evV, wrapBits_eq, ↓reduceIte, sevalprocAttr]
        refine evTs_pure hFnq H (fun _ h => f21_ok h) (by rfl) (by rfl) (by rfl) (by rfl) (fun _ => rfl) ?_ <;> clear H <;> intro r_1181 H
        try simp only [eL, ↓wk, ↓wl, nc, evV, wrapBits_eq, ↓reduceIte, sevalprocAttr]
        refine evTs_ifg H (by rfl) ?_ ?_ <;> clear H <;> intro H
        · try simp only [↓wk, ↓wl, nc, evV, wrapBits_eq, ↓reduceIte, sevalprocAttr]
          refine evTs_ifg H (by rfl) ?_ ?_ <;> clear H <;> intro H
          · try simp only [↓wk, ↓wl, nc, evV, wrapBits_eq, ↓reduceIte, sevalprocAttr]
            refine evTs_ifg H (by rfl) ?_ ?_ <;> clear H <;> intro H
            · try simp only [↓wk, ↓wl, nc, evV, wrapBits_eq, ↓reduceIte, sevalprocAttr]
              refine evTs_pure hFnq H (fun _ h => f18_ok h) (by rfl) (by rfl) (by rfl) (by rfl) (fun _ => rfl) ?_ <;> clear H <;> intro r_1182 H
              try simp only [eL, eRef57Receiver, ↓wk, ↓wl, nc, evV, wrapBits_eq, ↓reduceIte, sevalprocAttr]
              refine evTs_pure hFnq H (fun _ h => f21_ok h) (by rfl) (by rfl) (by rfl) (by rfl) (fun _ => rfl) ?_ <;> clear H <;> intro r_1183 H
              try simp only [eL, ↓wk, ↓wl, nc, evV, wrapBits_eq, ↓reduceIte, sevalprocAttr]
              refine evTs_ifg H (by rfl) ?_ ?_ <;> clear H <;> intro H
              · try simp only [↓wk, ↓wl, nc, evV, wrapBits_eq, ↓reduceIte, sevalprocAttr]
                refine evTs_ifg H (by rfl) ?_ ?_ <;> clear H <;> intro H
                · try simp only [↓wk, ↓wl, nc, evV, wrapBits_eq, ↓reduceIte, sevalprocAttr]
                  refine AW.ret ?_
                  cases H
                  exact hQ _ _ _ _ (.inr rfl) (by simp only [resVs, omap, resV, ↓wk, ↓wl, nc, evV, wrapBits_eq, ↓reduceIte, sevalprocAttr]; rfl) (hand_plain (by rfl)) (by first | exact Or.inl rfl | exact Or.inr rfl)
                · try simp only [↓wk, ↓wl, nc, evV, wrapBits_eq, ↓reduceIte, sevalprocAttr]
                  refine AW.ret ?_
                  cases H
                  exact hQ _ _ _ _ (.inr rfl) (by simp only [resVs, omap, resV, ↓wk, ↓wl, nc, evV, wrapBits_eq, ↓reduceIte, sevalprocAttr]; rfl) (hand_plain (by rfl)) (by first | exact Or.inl rfl | exact Or.inr rfl)
              · try simp only [↓wk, ↓wl, nc, evV, wrapBits_eq, ↓reduceIte, sevalprocAttr]
                refine AW.ret ?_
                cases H
                exact hQ _ _ _ _ (.inr rfl) (by simp only [resVs, omap, resV, ↓wk, ↓wl, nc, evV, wrapBits_eq, ↓reduceIte, sevalprocAttr]; rfl) (hand_plain (by rfl)) (by first | exact Or.inl rfl | exact Or.inr rfl)
            · try simp only [↓wk, ↓wl, nc, evV, wrapBits_eq, ↓reduceIte, sevalprocAttr]
              refine AW.ret ?_
              cases H
              exact hQ _ _ _ _ (.inr rfl) (by simp only [resVs, omap, resV, ↓wk, ↓wl, nc, evV, wrapBits_eq, ↓reduceIte, sevalprocAttr]; rfl) (hand_plain (by rfl)) (by first | exact Or.inl rfl | exact Or.inr rfl)
          · try simp only [↓wk, ↓wl, nc, evV, wrapBits_eq, ↓reduceIte, sevalprocAttr]
            refine AW.ret ?_
            cases H
            exact hQ _ _ _ _ (.inr rfl) (by simp only [resVs, omap, resV, ↓wk, ↓wl, nc, evV, wrapBits_eq, ↓reduceIte, sevalprocAttr]; rfl) (hand_plain (by rfl)) (by first | exact Or.inl rfl | exact Or.inr rfl)
        · try simp only [↓wk, ↓wl, nc, evV, wrapBits_eq, ↓reduceIte, sevalprocAttr]
          refine AW.ret ?_
          cases H
          exact hQ _ _ _ _ (.inr rfl) (by simp only [resVs, omap, resV, ↓wk, ↓wl, nc, evV, wrapBits_eq, ↓reduceIte, sevalprocAttr]; rfl) (hand_plain (by rfl)) (by first | exact Or.inl rfl | exact Or.inr rfl)
      · try simp only [↓wk, ↓wl, nc, evV, wrapBits_eq, ↓reduceIte, sevalprocAttr]
        refine AW.ret ?_
        cases H
        exact hQ _ _ _ _ (.inr rfl) (by simp only [resVs, omap, resV, ↓wk, ↓wl, nc, evV, wrapBits_eq, ↓reduceIte, sevalprocAttr]; rfl) (hand_plain (by rfl)) (by first | exact Or.inl rfl | exact Or.inr rfl)
  · refine AW.rseq ?_
    try simp only [↓wk, ↓wl, nc, evV, wrapBits_eq, ↓reduceIte, sevalprocAttr]
    refine evTs_pure hFn H (fun _ h => f14_ok h) (by rfl) (by rfl) (by rfl) (by rfl) (fun _ => rfl) ?_ <;> clear H <;> intro r_1184 H
    try simp only [eL, ↓wk, ↓wl, nc, evV, wrapBits_eq, ↓reduceIte, sevalprocAttr]
    refine evTs_ifg H (by rfl) ?_ ?_ <;> clear H <;> intro H
    · try simp only [↓wk, ↓wl, nc, evV, wrapBits_eq, ↓reduceIte, sevalprocAttr]
      refine AW.ift (by rfl) ?_
      refine AW.rseq ?_
      try simp only [↓wk, ↓wl, nc, evV, wrapBits_eq, ↓reduceIte, sevalprocAttr]
      refine evTs_pure hFn H (fun _ h => f15_ok h) (by rfl) (by rfl) (by rfl) (by rfl) (fun _ => rfl) ?_ <;> clear H <;> intro r_1185 H
      try simp only [eL, ↓wk, ↓wl, nc, evV, wrapBits_eq, ↓reduceIte, sevalprocAttr]
      refine AW.ret ?_
      refine seqQ.ret ?_
      cases H
      exact hQ _ _ _ _ (.inr rfl) (by simp only [resVs, omap, resV, ↓wk, ↓wl, nc, evV, wrapBits_eq, ↓reduceIte, sevalprocAttr]; rfl) (hand_plain (by rfl)) (by first | exact Or.inl rfl | exact Or.inr rfl)
    · try simp only [↓wk, ↓wl, nc, evV, wrapBits_eq, ↓reduceIte, sevalprocAttr]
      refine evTs_ifg H (by rfl) ?_ ?_ <;> clear H <;> intro H
      · try simp only [↓wk, ↓wl, nc, evV, wrapBits_eq, ↓reduceIte, sevalprocAttr]
        refine evTs_ifg H (by rfl) ?_ ?_ <;> clear H <;> intro H
        · try simp only [↓wk, ↓wl, nc, evV, wrapBits_eq, ↓reduceIte, sevalprocAttr]
          refine AW.ift (by rfl) ?_
          refine AW.rseq ?_
          try simp only [↓wk, ↓wl, nc, evV, wrapBits_eq, ↓reduceIte, sevalprocAttr]
          refine evTs_pure hFn H (fun _ h => f15_ok h) (by rfl) (by rfl) (by rfl) (by rfl) (fun _ => rfl) ?_ <;> clear H <;> intro r_1186 H
          try simp only [eL, ↓wk, ↓wl, nc, evV, wrapBits_eq, ↓reduceIte, sevalprocAttr]
          refine AW.ret ?_
          refine seqQ.ret ?_
          cases H
          exact hQ _ _ _ _ (.inr rfl) (by simp only [resVs, omap, resV, ↓wk, ↓wl, nc, evV, wrapBits_eq, ↓reduceIte, sevalprocAttr]; rfl) (hand_plain (by rfl)) (by first | exact Or.inl rfl | exact Or.inr rfl)
        · try simp only [↓wk, ↓wl, nc, evV, wrapBits_eq, ↓reduceIte, sevalprocAttr]
          refine AW.ifc H (by rfl) ?_ ?_ <;> clear H <;> intro H
          · refine AW.rseq ?_
            try simp only [↓wk, ↓wl, nc, evV, wrapBits_eq, ↓reduceIte, sevalprocAttr]
            refine evTs_pure hFn H (fun _ h => f15_ok h) (by rfl) (by rfl) (by rfl) (by rfl) (fun _ => rfl) ?_ <;> clear H <;> intro r_1187 H
            try simp only [eL, ↓wk, ↓wl, nc, evV, wrapBits_eq, ↓reduceIte, sevalprocAttr]
            refine AW.ret ?_
            refine seqQ.ret ?_
            cases H
            exact hQ _ _ _ _ (.inr rfl) (by simp only [resVs, omap, resV, ↓wk, ↓wl, nc, evV, wrapBits_eq, ↓reduceIte, sevalprocAttr]; rfl) (hand_plain (by rfl)) (by first | exact Or.inl rfl | exact Or.inr rfl)
          · refine AW.skip ?_
            refine seqQ.norm ?_
            exact hf5_J1 _ _ H ((Le.none [0] [1, 2, 3] (by decide) (by simp only [f5_J1c, rrl, Option.map_some, vm, List.idxOf?_cons, List.idxOf?_nil, beq_self_eq_true, Option.map_none, List.getD_cons_zero, List.getD_cons_succ, ↓wk, ↓wl, nc, evV, wrapBits_eq, ↓reduceIte, sevalprocAttr] <;> rfl)))
      · try simp only [↓wk, ↓wl, nc, evV, wrapBits_eq, ↓reduceIte, sevalprocAttr]
        refine AW.ifc H (by rfl) ?_ ?_ <;> clear H <;> intro H
        · refine AW.rseq ?_
          try simp only [↓wk, ↓wl, nc, evV, wrapBits_eq, ↓reduceIte, sevalprocAttr]
          refine evTs_pure hFn H (fun _ h => f15_ok h) (by rfl) (by rfl) (by rfl) (by rfl) (fun _ => rfl) ?_ <;> clear H <;> intro r_1188 H
          try simp only [eL, ↓wk, ↓wl, nc, evV, wrapBits_eq, ↓reduceIte, sevalprocAttr]
          refine AW.ret ?_
          refine seqQ.ret ?_
          cases H
          exact hQ _ _ _ _ (.inr rfl) (by simp only [resVs, omap, resV, ↓wk, ↓wl, nc, evV, wrapBits_eq, ↓reduceIte, sevalprocAttr]; rfl) (hand_plain (by rfl)) (by first | exact Or.inl rfl | exact Or.inr rfl)
        · refine AW.skip ?_
          refine seqQ.norm ?_
          exact hf5_J1 _ _ H ((Le.none [0] [1, 2, 3] (by decide) (by simp only [f5_J1c, rrl, Option.map_some, vm, List.idxOf?_cons, List.idxOf?_nil, beq_self_eq_true, Option.map_none, List.getD_cons_zero, List.getD_cons_succ, ↓wk, ↓wl, nc, evV, wrapBits_eq, ↓reduceIte, sevalprocAttr] <;> rfl)))
end Go.Proofs.Ytgfohogbechkkaa
