import Derived.Test.YtccipmhffapcmaaX1
import Derived.Test.YtccipmhffapcmaaM7
import Derived.Test.YtccipmhffapcmaaM6
import Derived.Test.YtccipmhffapcmaaProg
import Derived.KernelRfl
namespace Go.Proofs.Ytccipmhffapcmaa
open Go Go.Ab

set_option maxHeartbeats 1000000
set_option maxRecDepth 4000
set_option linter.unusedSimpArgs false
set_option linter.unusedVariables false
theorem con37 : fd? Try.prog 37 = some (36, [.slot 2], conC 0 8 59) := by kernel_rfl
theorem gro59 : fd? Try.prog 59 = some (27, [.slot 4], growC 0 8 (.int .i64 0)) := by kernel_rfl
noncomputable def f37 (xss : List (List Int)) : Option (List Int) := conc? 8 xss
theorem f37_ok {xss : List (List Int)} {r_ : List Int} (H : f37 xss = some r_) : Pure Try.prog 37 [.sl 0 false (xss.map (eL 0 (AV.int .i64)))] (· = .fr 0 (r_.map (AV.int .i64))) := conc_ok H con37 gro59
theorem f37_im {xss : List (List Int)} {r_ : List Int} (H : f37 xss = some r_) : Pure Try.prog 37 [.sl 0 false (xss.map (eL 0 (AV.int .i64)))] (· = .sl 0 false (r_.map (AV.int .i64))) := (f37_ok H).unfr (by first | exact enc_fits _ | simp only [frFits, List.all_cons, List.all_nil, enc_fits, Bool.and_self])
def c36_0 : C := .seq (.reg [iI 3 (.mkfn 58 [(.t 1)]), iI 2 (.mv (.t 3))]) .ret
def ir36 : C := .seq (.reg [iI 1 (.box (.t 0)), iI 2 (.mv (.c .nilfn))]) c36_0
theorem fd36 : fd? Try.prog 36 = some (4, [.slot 2], ir36) := by kernel_rfl
noncomputable def f10_C1 (x_574 : ApiGroup) (r_583 : ApiGroup × Int) (r_584 : ApiGroup × Int) (r_585 : ApiGroup × Int) (r_586 : ApiGroup × Int) (r_587 : ApiGroup × Int) (r_592 : (List Int)) : Il (Unit) where
  run := (some ())
  res := fun _ => .fn 58 [.ptr 7 0]
  hp := fun _ => [.cel [.int .i64 x_574.fNumber, .sl 0 false (x_574.fChannels.map (AV.int .i64))], .cel [.int .i64 r_583.1.fNumber, .sl 0 false (r_583.1.fChannels.map (AV.int .i64))], .cel [.int .i64 r_584.1.fNumber, .sl 0 false (r_584.1.fChannels.map (AV.int .i64))], .cel [.int .i64 r_585.1.fNumber, .sl 0 false (r_585.1.fChannels.map (AV.int .i64))], .cel [.int .i64 r_586.1.fNumber, .sl 0 false (r_586.1.fChannels.map (AV.int .i64))], .cel [.int .i64 r_587.1.fNumber, .sl 0 false (r_587.1.fChannels.map (AV.int .i64))], .els 0 (r_592.map (AV.int .i64)), .cel [.row 0 6 0 r_592.length]]
noncomputable def f35_58 (zs : List Int) : Option (List Int) := sortv? zs
theorem f35_58_ok {zs r_ : List Int} (H : f35_58 zs = some r_) : Pure Try.prog 35 [.fn 58 [.pro [.sl 0 false (zs.map (AV.int .i64))]]] (· = .fr 0 (r_.map (AV.int .i64))) := sortv_pure (fun _ _ => trivial) sortsv35 H
theorem f35_58_im {zs r_ : List Int} (H : f35_58 zs = some r_) : Pure Try.prog 35 [.fn 58 [.pro [.sl 0 false (zs.map (AV.int .i64))]]] (· = .sl 0 false (r_.map (AV.int .i64))) := (f35_58_ok H).unfr (by first | exact enc_fits _ | simp only [frFits, List.all_cons, List.all_nil, enc_fits, Bool.and_self])
noncomputable def f10_C2 (x_574 : ApiGroup) (r_583 : ApiGroup × Int) (r_584 : ApiGroup × Int) (r_585 : ApiGroup × Int) (r_586 : ApiGroup × Int) (r_587 : ApiGroup × Int) (r_592 : (List Int)) (r_593 : (List Int)) : Il (Unit) where
  run := (some ())
  res := fun _ => .fn 58 [.ptr 9 0]
  hp := fun _ => [.cel [.int .i64 x_574.fNumber, .sl 0 false (x_574.fChannels.map (AV.int .i64))], .cel [.int .i64 r_583.1.fNumber, .sl 0 false (r_583.1.fChannels.map (AV.int .i64))], .cel [.int .i64 r_584.1.fNumber, .sl 0 false (r_584.1.fChannels.map (AV.int .i64))], .cel [.int .i64 r_585.1.fNumber, .sl 0 false (r_585.1.fChannels.map (AV.int .i64))], .cel [.int .i64 r_586.1.fNumber, .sl 0 false (r_586.1.fChannels.map (AV.int .i64))], .cel [.int .i64 r_587.1.fNumber, .sl 0 false (r_587.1.fChannels.map (AV.int .i64))], .els 0 (r_592.map (AV.int .i64)), .cel [.row 0 6 0 r_592.length], .els 0 (r_593.map (AV.int .i64)), .cel [.sl 0 false (x_574.fChannels.map (AV.int .i64))]]
def c10_0 : C := .cond (.t 22) (.seq (.reg [iI 23 (.call (.c (.fn 15 [])) []), iI 2 (.mv (.t 23))]) .ret) (.skip)
def c10_1 : C := .cond (.t 92) (.seq (.reg [iI 2 (.mv (.c (.bool false)))]) .ret) (.skip)
def c10_2 : C := .seq (.reg [iI 101 (.mv (.t 13)), iI 102 (.faddr 1 (.t 1)), iI 103 (.load 0 (.t 102)), iI 104 (.call (.c (.fn 36 [])) [(.t 103)]), iI 105 (.call (.c (.fn 35 [])) [(.t 104)]), iI 106 (.call (.c (.fn 16 [])) [(.t 101), (.t 105)]), iI 107 (.mv (.t 106)), iG (some 108) 107 true (.call (.c (.fn 15 [])) []), iI 109 (.pick (.t 107) (.t 108) (.c (.bool false))), iI 2 (.mv (.t 109))]) .ret
def c10_3 : C := .seq (.reg [iI 93 (.faddr 1 (.t 9)), iI 94 (.load 0 (.t 93)), iI 95 (.faddr 1 (.t 11)), iI 96 (.load 0 (.t 95)), iI 97 (.mksl 0 2 (.sl 0 true []) [(0, (.t 94)), (1, (.t 96))]), iI 98 (.call (.c (.fn 37 [])) [(.t 97)]), iI 99 (.call (.c (.fn 36 [])) [(.t 98)]), iI 100 (.call (.c (.fn 35 [])) [(.t 99)]), iI 13 (.mv (.t 100))]) c10_2
def c10_4 : C := .seq (.seq (.reg [iI 49 (.mv (.t 4)), iI 50 (.mv (.t 6)), iI 51 (.bin .add (.t 49) (.t 50)), iI 52 (.mv (.t 8)), iI 53 (.bin .add (.t 51) (.t 52)), iI 54 (.mv (.t 10)), iI 55 (.bin .add (.t 53) (.t 54)), iI 56 (.mv (.t 12)), iI 57 (.bin .add (.t 55) (.t 56)), iI 58 (.bin .neq (.t 57) (.c (.int .i64 0))), iI 59 (.mv (.t 58)), iG (some 60) 59 false (.load 2 (.t 5)), iG (some 61) 59 false (.load 2 (.t 1)), iG (some 62) 59 false (.call (.c (.fn 19 [])) [(.t 60), (.t 61)]), iG (some 63) 59 false (.un .not (.t 62)), iI 64 (.pick (.t 59) (.c (.bool true)) (.t 63)), iI 65 (.mv (.t 64)), iG (some 66) 65 false (.load 2 (.t 7)), iG (some 67) 65 false (.load 2 (.t 1)), iG (some 68) 65 false (.call (.c (.fn 19 [])) [(.t 66), (.t 67)]), iG (some 69) 65 false (.un .not (.t 68)), iI 70 (.pick (.t 65) (.c (.bool true)) (.t 69)), iI 71 (.mv (.t 70)), iG (some 72) 71 false (.faddr 1 (.t 9)), iG (some 73) 71 false (.load 0 (.t 72)), iG (some 74) 71 false (.len 0 (.t 73)), iG (some 75) 71 false (.faddr 1 (.t 11)), iG (some 76) 71 false (.load 0 (.t 75)), iG (some 77) 71 false (.len 0 (.t 76)), iG (some 78) 71 false (.bin .add (.t 74) (.t 77)), iG (some 79) 71 false (.faddr 1 (.t 1)), iG (some 80) 71 false (.load 0 (.t 79)), iG (some 81) 71 false (.len 0 (.t 80)), iG (some 82) 71 false (.bin .neq (.t 78) (.t 81)), iI 83 (.pick (.t 71) (.c (.bool true)) (.t 82)), iI 84 (.mv (.t 83)), iG (some 85) 84 false (.faddr 1 (.t 3)), iG (some 86) 84 false (.load 0 (.t 85)), iG (some 87) 84 false (.len 0 (.t 86)), iG (some 88) 84 false (.faddr 1 (.t 1)), iG (some 89) 84 false (.load 0 (.t 88)), iG (some 90) 84 false (.len 0 (.t 89)), iG (some 91) 84 false (.bin .neq (.t 87) (.t 90)), iI 92 (.pick (.t 84) (.c (.bool true)) (.t 91))]) c10_1) c10_3
def c10_5 : C := .seq (.reg [iI 45 (.load 2 (.t 1)), iI 46 (.call (.c (.fn 26 [])) [(.t 45), (.c (.int .i64 2)), (.c (.int .i64 1))]), iI 44 (.mv (.t 46)), iI 47 (.ext (.t 44) 0), iI 48 (.ext (.t 44) 1), iI 11 (.alloc [(1, (.int .i64 0)), (1, (.sl 0 true []))]), iN (.store 2 (.t 11) (.t 47)), iI 12 (.mv (.t 48))]) c10_4
def c10_6 : C := .seq (.reg [iI 40 (.load 2 (.t 1)), iI 41 (.call (.c (.fn 26 [])) [(.t 40), (.c (.int .i64 2)), (.c (.int .i64 0))]), iI 39 (.mv (.t 41)), iI 42 (.ext (.t 39) 0), iI 43 (.ext (.t 39) 1), iI 9 (.alloc [(1, (.int .i64 0)), (1, (.sl 0 true []))]), iN (.store 2 (.t 9) (.t 42)), iI 10 (.mv (.t 43))]) c10_5
def c10_7 : C := .seq (.reg [iI 35 (.load 2 (.t 1)), iI 36 (.call (.c (.fn 26 [])) [(.t 35), (.c (.int .i64 1)), (.c (.int .i64 0))]), iI 34 (.mv (.t 36)), iI 37 (.ext (.t 34) 0), iI 38 (.ext (.t 34) 1), iI 7 (.alloc [(1, (.int .i64 0)), (1, (.sl 0 true []))]), iN (.store 2 (.t 7) (.t 37)), iI 8 (.mv (.t 38))]) c10_6
def c10_8 : C := .seq (.reg [iI 30 (.load 2 (.t 3)), iI 31 (.call (.c (.fn 24 [])) [(.t 30)]), iI 29 (.mv (.t 31)), iI 32 (.ext (.t 29) 0), iI 33 (.ext (.t 29) 1), iI 5 (.alloc [(1, (.int .i64 0)), (1, (.sl 0 true []))]), iN (.store 2 (.t 5) (.t 32)), iI 6 (.mv (.t 33))]) c10_7
def c10_9 : C := .seq (.reg [iI 25 (.load 2 (.t 1)), iI 26 (.call (.c (.fn 24 [])) [(.t 25)]), iI 24 (.mv (.t 26)), iI 27 (.ext (.t 24) 0), iI 28 (.ext (.t 24) 1), iI 3 (.alloc [(1, (.int .i64 0)), (1, (.sl 0 true []))]), iN (.store 2 (.t 3) (.t 27)), iI 4 (.mv (.t 28))]) c10_8
def c10_10 : C := .seq (.seq (.reg [iI 14 (.load 2 (.t 1)), iI 15 (.mksl 2 1 (.agg [(.int .i64 0), (.sl 0 true [])]) [(0, (.t 14))]), iI 16 (.call (.c (.fn 17 [])) [(.t 15)]), iI 17 (.un .not (.t 16)), iI 18 (.mv (.t 17)), iG (some 19) 18 false (.load 2 (.t 1)), iG (some 20) 18 false (.call (.c (.fn 21 [])) [(.t 19)]), iG (some 21) 18 false (.bin .neq (.t 20) (.c (.int .i64 0))), iI 22 (.pick (.t 18) (.c (.bool true)) (.t 21))]) c10_0) c10_9
def ir10 : C := .seq (.reg [iI 1 (.box (.t 0)), iI 2 (.mv (.c (.bool false)))]) c10_10
theorem fd10 : fd? Try.prog 10 = some (110, [.slot 2], ir10) := by kernel_rfl
noncomputable def f10 (x_574 : ApiGroup) : Option (Bool) :=
  (f17 ([x_574])).bind fun r_579 => (if (!r_579) = true then (f15).bind fun r_580 => (some r_580) else (f21 x_574).bind fun r_581 => (if (decide (r_581 ≠ 0)) = true then (f15).bind fun r_582 => (some r_582) else (f24 x_574).bind fun r_583 => (f24 r_583.1).bind fun r_584 => (f26 x_574 1 0).bind fun r_585 => (f26 x_574 2 0).bind fun r_586 => (f26 x_574 2 1).bind fun r_587 => (if (decide ((IntKind.i64.wrap ((IntKind.i64.wrap ((IntKind.i64.wrap ((IntKind.i64.wrap (r_583.2 + r_584.2)) + r_585.2)) + r_586.2)) + r_587.2)) ≠ 0)) = true then (some false) else (f19 r_584.1 x_574).bind fun r_590 => (if (!r_590) = true then (some false) else (f19 r_585.1 x_574).bind fun r_591 => (if (!r_591) = true then (some false) else (if (decide ((IntKind.i64.wrap (((r_586.1.fChannels.length : Nat) : Int) + ((r_587.1.fChannels.length : Nat) : Int))) ≠ ((x_574.fChannels.length : Nat) : Int))) = true then (some false) else (if (decide (((r_583.1.fChannels.length : Nat) : Int) ≠ ((x_574.fChannels.length : Nat) : Int))) = true then (some false) else (f37 ([r_586.1.fChannels, r_587.1.fChannels])).bind fun r_592 => ((f10_C1 x_574 r_583 r_584 r_585 r_586 r_587 r_592).run.bind fun _ => (f35_58 r_592).bind fun r_593 => ((f10_C2 x_574 r_583 r_584 r_585 r_586 r_587 r_592 r_593).run.bind fun _ => (f35_58 x_574.fChannels).bind fun r_594 => (f16 r_593 r_594).bind fun r_595 => (if r_595 = true then (f15).bind fun r_596 => (some r_596) else (some false)))))))))))
theorem f10_ok {x_574 : ApiGroup} {r_ : Bool} (H : f10 x_574 = some r_) : Pure Try.prog 10 [.agg [.int .i64 x_574.fNumber, .sl 0 false (x_574.fChannels.map (AV.int .i64))]] (· = .bool r_) := by
 refine Pure.walk3 fd10 none (Nat.le_of_ble_eq_true rfl) (by rfl) fun Q hQ => ?_
 simp only [f10] at H
 refine AW.rseq ?_
 try simp only [↓wk, ↓wl, nq, evV, ↓reduceIte, sevalprocAttr]
 refine AW.sseq ?_
 refine AW.rseq ?_
 try simp only [↓wk, ↓wl, nq, evV, ↓reduceIte, sevalprocAttr]
 refine evTs_pure hFn H (fun _ h => f17_ok h) (by rfl) (by rfl) (by rfl) (by rfl) (fun _ => rfl) ?_ <;> clear H <;> intro r_579 H
 try simp only [eL, ↓wk, ↓wl, nq, evV, ↓reduceIte, sevalprocAttr]
 refine evTs_ifg H (by rfl) ?_ ?_ <;> clear H <;> intro H
 ·try simp only [↓wk, ↓wl, nq, evV, ↓reduceIte, sevalprocAttr]
  refine AW.ift (by rfl) ?_
  refine AW.rseq ?_
  try simp only [↓wk, ↓wl, nq, evV, ↓reduceIte, sevalprocAttr]
  refine evTs_pure hFn H (fun _ h => f15_ok h) (by rfl) (by rfl) (by rfl) (by rfl) (fun _ => rfl) ?_ <;> clear H <;> intro r_580 H
  try simp only [eL, ↓wk, ↓wl, nq, evV, ↓reduceIte, sevalprocAttr]
  refine AW.ret ?_
  refine seqQ.ret ?_
  cases H
  exact hQ.fin
 ·try simp only [↓wk, ↓wl, nq, evV, ↓reduceIte, sevalprocAttr]
  refine evTs_pure hFn H (fun _ h => f21_ok h) (by rfl) (by rfl) (by rfl) (by rfl) (fun _ => rfl) ?_ <;> clear H <;> intro r_581 H
  try simp only [eL, ↓wk, ↓wl, nq, evV, ↓reduceIte, sevalprocAttr]
  refine AW.ifc H (by rfl) ?_ ?_ <;> clear H <;> intro H
  ·refine AW.rseq ?_
   try simp only [↓wk, ↓wl, nq, evV, ↓reduceIte, sevalprocAttr]
   refine evTs_pure hFn H (fun _ h => f15_ok h) (by rfl) (by rfl) (by rfl) (by rfl) (fun _ => rfl) ?_ <;> clear H <;> intro r_582 H
   try simp only [eL, ↓wk, ↓wl, nq, evV, ↓reduceIte, sevalprocAttr]
   refine AW.ret ?_
   refine seqQ.ret ?_
   cases H
   exact hQ.fin
  ·refine AW.skip ?_
   refine seqQ.norm ?_
   refine AW.rseq ?_
   try simp only [↓wk, ↓wl, nq, evV, ↓reduceIte, sevalprocAttr]
   refine evTs_pure hFn H (fun _ h => f24_ok h) (by rfl) (by rfl) (by rfl) (by rfl) (fun _ => rfl) ?_ <;> clear H <;> intro r_583 H
   try simp only [eL, eApiGroup, ↓wk, ↓wl, nq, evV, ↓reduceIte, sevalprocAttr]
   refine AW.rseq ?_
   try simp only [↓wk, ↓wl, nq, evV, ↓reduceIte, sevalprocAttr]
   refine evTs_pure hFn H (fun _ h => f24_ok h) (by rfl) (by rfl) (by rfl) (by rfl) (fun _ => rfl) ?_ <;> clear H <;> intro r_584 H
   try simp only [eL, eApiGroup, ↓wk, ↓wl, nq, evV, ↓reduceIte, sevalprocAttr]
   refine AW.rseq ?_
   try simp only [↓wk, ↓wl, nq, evV, ↓reduceIte, sevalprocAttr]
   refine evTs_pure hFn H (fun _ h => f26_ok h) (by rfl) (by rfl) (by rfl) (by rfl) (fun _ => rfl) ?_ <;> clear H <;> intro r_585 H
   try simp only [eL, eApiGroup, ↓wk, ↓wl, nq, evV, ↓reduceIte, sevalprocAttr]
   refine AW.rseq ?_
   try simp only [↓wk, ↓wl, nq, evV, ↓reduceIte, sevalprocAttr]
   refine evTs_pure hFn H (fun _ h => f26_ok h) (by rfl) (by rfl) (by rfl) (by rfl) (fun _ => rfl) ?_ <;> clear H <;> intro r_586 H
   try simp only [eL, eApiGroup, ↓wk, ↓wl, nq, evV, ↓reduceIte, sevalprocAttr]
   refine AW.rseq ?_
   try simp only [↓wk, ↓wl, nq, evV, ↓reduceIte, sevalprocAttr]
   refine evTs_pure hFn H (fun _ h => f26_ok h) (by rfl) (by rfl) (by rfl) (by rfl) (fun _ => rfl) ?_ <;> clear H <;> intro r_587 H
   try simp only [eL, eApiGroup, ↓wk, ↓wl, nq, evV, ↓reduceIte, sevalprocAttr]
   refine AW.sseq ?_
   refine AW.rseq ?_
   try simp only [↓wk, ↓wl, nq, evV, ↓reduceIte, sevalprocAttr]
   refine evTs_ifg H (by rfl) ?_ ?_ <;> clear H <;> intro H
   ·try simp only [↓wk, ↓wl, nq, evV, ↓reduceIte, sevalprocAttr]
    refine AW.ift (by rfl) ?_
    refine AW.rseq ?_
    try simp only [↓wk, ↓wl, nq, evV, ↓reduceIte, sevalprocAttr]
    refine AW.ret ?_
    refine seqQ.ret ?_
    cases H
    exact hQ.fin
   ·try simp only [↓wk, ↓wl, nq, evV, ↓reduceIte, sevalprocAttr]
    refine evTs_pure hFn H (fun _ h => f19_ok h) (by rfl) (by rfl) (by rfl) (by rfl) (fun _ => rfl) ?_ <;> clear H <;> intro r_590 H
    try simp only [eL, ↓wk, ↓wl, nq, evV, ↓reduceIte, sevalprocAttr]
    refine evTs_ifg H (by rfl) ?_ ?_ <;> clear H <;> intro H
    ·try simp only [↓wk, ↓wl, nq, evV, ↓reduceIte, sevalprocAttr]
     refine AW.ift (by rfl) ?_
     refine AW.rseq ?_
     try simp only [↓wk, ↓wl, nq, evV, ↓reduceIte, sevalprocAttr]
     refine AW.ret ?_
     refine seqQ.ret ?_
     cases H
     exact hQ.fin
    ·try simp only [↓wk, ↓wl, nq, evV, ↓reduceIte, sevalprocAttr]
     refine evTs_pure hFn H (fun _ h => f19_ok h) (by rfl) (by rfl) (by rfl) (by rfl) (fun _ => rfl) ?_ <;> clear H <;> intro r_591 H
     try simp only [eL, ↓wk, ↓wl, nq, evV, ↓reduceIte, sevalprocAttr]
     refine evTs_ifg H (by rfl) ?_ ?_ <;> clear H <;> intro H
     ·try simp only [↓wk, ↓wl, nq, evV, ↓reduceIte, sevalprocAttr]
      refine AW.ift (by rfl) ?_
      refine AW.rseq ?_
      try simp only [↓wk, ↓wl, nq, evV, ↓reduceIte, sevalprocAttr]
      refine AW.ret ?_
      refine seqQ.ret ?_
      cases H
      exact hQ.fin
     ·try simp only [↓wk, ↓wl, nq, evV, ↓reduceIte, sevalprocAttr]
      refine evTs_ifg H (by rfl) ?_ ?_ <;> clear H <;> intro H
      ·try simp only [↓wk, ↓wl, nq, evV, ↓reduceIte, sevalprocAttr]
       refine AW.ift (by rfl) ?_
       refine AW.rseq ?_
       try simp only [↓wk, ↓wl, nq, evV, ↓reduceIte, sevalprocAttr]
       refine AW.ret ?_
       refine seqQ.ret ?_
       cases H
       exact hQ.fin
      ·try simp only [↓wk, ↓wl, nq, evV, ↓reduceIte, sevalprocAttr]
       refine AW.ifc H (by rfl) ?_ ?_ <;> clear H <;> intro H
       ·refine AW.rseq ?_
        try simp only [↓wk, ↓wl, nq, evV, ↓reduceIte, sevalprocAttr]
        refine AW.ret ?_
        refine seqQ.ret ?_
        cases H
        exact hQ.fin
       ·refine AW.skip ?_
        refine seqQ.norm ?_
        refine AW.rseq ?_
        try simp only [↓wk, ↓wl, nq, evV, ↓reduceIte, sevalprocAttr]
        refine evTs_fr H (fun _ h => f37_ok h) (by rfl) (by rfl) (by rfl) (by rfl) (fun _ => rfl) ?_ <;> clear H <;> intro r_592 H
        try simp only [eL, ↓wk, ↓wl, nq, evV, ↓reduceIte, sevalprocAttr]
        refine evTs_inl (I := f10_C1 x_574 r_583 r_584 r_585 r_586 r_587 r_592) (args := [.row 0 6 0 r_592.length]) H (by rfl) fd36 (by rfl) (Nat.le_of_ble_eq_true rfl) ?_ ?_ <;> clear H
        ·rintro v_ Q_ H hqf10_C1
         simp only [f10_C1] at H
         dsimp only [List.length_cons, List.length_nil]
         refine AW.rseq ?_
         try simp only [↓wk, ↓wl, nq, evV, ↓reduceIte, sevalprocAttr]
         refine AW.rseq ?_
         try simp only [↓wk, ↓wl, nq, evV, ↓reduceIte, sevalprocAttr]
         refine AW.ret ?_
         cases H
         exact hqf10_C1 _ _ _ (.inr rfl) (Le.tq 7 [0, 1, 2, 3, 4, 5, 6, 7] [2] rfl) (by simp only [resVs, omap, resV, f10_C1, rrm, ↓wk, ↓wl, evV, ↓reduceIte, sevalprocAttr]) (by simp only [f10_C1, rrm, ↓wk, ↓wl, evV, ↓reduceIte, sevalprocAttr])
        ·rintro _ s_ h_ H hs_ hh_
         simp only [f10_C1] at H hs_ hh_
         subst hs_
         subst hh_
         try simp only [↓wk, ↓wl, nq, evV, ↓reduceIte, sevalprocAttr]
         refine evTs_frR H (fun _ h => f35_58_ok h) (by rfl) (by rfl) (by simp only [deep_eq, imm_simps, imm_rowE, imm_ptrE, imm_enc, omap_simps, take_map_len, take_map_set, take_map_set2, List.length_set, le_refl_true, Nat.zero_add, and_true, true_and, List.drop_zero, Option.map_some, ↓wk, ↓wl, nq, evV, ↓reduceIte, sevalprocAttr]; rfl) (by rfl) (fun _ => by simp only [flatR, List.all_cons, List.all_nil, flat_all, Bool.and_true]; try rfl) (fun _ => rfl) ?_ <;> clear H <;> intro r_593 H
         try simp only [eL, ↓wk, ↓wl, nq, evV, ↓reduceIte, sevalprocAttr]
         refine AW.rseq ?_
         try simp only [↓wk, ↓wl, nq, evV, ↓reduceIte, sevalprocAttr]
         refine evTs_inl (I := f10_C2 x_574 r_583 r_584 r_585 r_586 r_587 r_592 r_593) (args := [.sl 0 false (x_574.fChannels.map (AV.int .i64))]) H (by rfl) fd36 (by rfl) (Nat.le_of_ble_eq_true rfl) ?_ ?_ <;> clear H
         ·rintro v_ Q_ H hqf10_C2
          simp only [f10_C2] at H
          dsimp only [List.length_cons, List.length_nil]
          refine AW.rseq ?_
          try simp only [↓wk, ↓wl, nq, evV, ↓reduceIte, sevalprocAttr]
          refine AW.rseq ?_
          try simp only [↓wk, ↓wl, nq, evV, ↓reduceIte, sevalprocAttr]
          refine AW.ret ?_
          cases H
          exact hqf10_C2 _ _ _ (.inr rfl) (Le.tq 9 [0, 1, 2, 3, 4, 5, 6, 7, 8, 9] [2] rfl) (by simp only [resVs, omap, resV, f10_C2, rrm, ↓wk, ↓wl, evV, ↓reduceIte, sevalprocAttr]) (by simp only [f10_C2, rrm, ↓wk, ↓wl, evV, ↓reduceIte, sevalprocAttr])
         ·rintro _ s_ h_ H hs_ hh_
          simp only [f10_C2] at H hs_ hh_
          subst hs_
          subst hh_
          try simp only [↓wk, ↓wl, nq, evV, ↓reduceIte, sevalprocAttr]
          refine evTs_frR H (fun _ h => f35_58_ok h) (by rfl) (by rfl) (by simp only [deep_eq, imm_simps, imm_rowE, imm_ptrE, imm_enc, omap_simps, take_map_len, take_map_set, take_map_set2, List.length_set, le_refl_true, Nat.zero_add, and_true, true_and, List.drop_zero, Option.map_some, ↓wk, ↓wl, nq, evV, ↓reduceIte, sevalprocAttr]; rfl) (by rfl) (fun _ => by simp only [flatR, List.all_cons, List.all_nil, flat_all, Bool.and_true]; try rfl) (fun _ => rfl) ?_ <;> clear H <;> intro r_594 H
          try simp only [eL, ↓wk, ↓wl, nq, evV, ↓reduceIte, sevalprocAttr]
          refine evTs_flat hFn H (fun _ h => f16_ok h) (by rfl) (by rfl) (by simp only [deep_eq, imm_simps, imm_rowE, imm_ptrE, imm_enc, omap_simps, take_map_len, take_map_set, take_map_set2, List.length_set, le_refl_true, Nat.zero_add, and_true, true_and, List.drop_zero, Option.map_some, ↓wk, ↓wl, nq, evV, ↓reduceIte, sevalprocAttr]; rfl) (by rfl) (fun _ => rfl) (fun _ => rfl) ?_ <;> clear H <;> intro r_595 H
          try simp only [eL, ↓wk, ↓wl, nq, evV, ↓reduceIte, sevalprocAttr]
          refine evTs_ifg H (by rfl) ?_ ?_ <;> clear H <;> intro H
          ·try simp only [↓wk, ↓wl, nq, evV, ↓reduceIte, sevalprocAttr]
           refine evTs_pure hFn H (fun _ h => f15_ok h) (by rfl) (by rfl) (by rfl) (by rfl) (fun _ => rfl) ?_ <;> clear H <;> intro r_596 H
           try simp only [eL, ↓wk, ↓wl, nq, evV, ↓reduceIte, sevalprocAttr]
           refine AW.ret ?_
           cases H
           exact hQ.fin
          ·try simp only [↓wk, ↓wl, nq, evV, ↓reduceIte, sevalprocAttr]
           refine AW.ret ?_
           cases H
           exact hQ.fin
end Go.Proofs.Ytccipmhffapcmaa
