import Derived.Test.YthikbfhdebaceaaX2
import Derived.Test.YthikbfhdebaceaaM6
import Derived.Test.YthikbfhdebaceaaProg
import Derived.KernelRfl
namespace Go.Proofs.Ythikbfhdebaceaa
open Go Go.Ab

set_option maxHeartbeats 1000000
set_option maxRecDepth 4000
set_option linter.unusedSimpArgs false
set_option linter.unusedVariables false
def c29_0 : C := .seq (.reg [iI 5 (.mv (.t 0)), iI 6 (.mv (.t 1)), iI 7 (.call (.c (.fn 10 [])) [(.t 5), (.t 6)]), iI 8 (.mv (.t 7)), iG (some 9) 8 true (.mv (.t 0)), iG (some 10) 8 true (.mv (.t 1)), iG (some 11) 8 true (.call (.c (.fn 17 [])) [(.t 9), (.t 10)]), iG (some 12) 8 true (.bin .eql (.t 11) (.c (.int .i64 0))), iI 13 (.pick (.t 8) (.t 12) (.c (.bool false))), iI 4 (.mv (.t 13))]) .ret
def ir29 : C := .seq (.reg [iI 4 (.mv (.c (.bool false)))]) c29_0
theorem fd29 : fd? Try.prog 29 = some (14, [.slot 4], ir29) := by kernel_rfl
noncomputable def f29 (l_826 : (List ApiFixture)) (profiles_827 : (List ApiProfile)) : Option (Bool) :=
  (f10 l_826 profiles_827).bind fun r_828 => (if r_828 = true then (f17 l_826 profiles_827).bind fun r_829 => (some (decide (r_829 = 0))) else (some false))
theorem f29_ok {l_826 : (List ApiFixture)} {profiles_827 : (List ApiProfile)} {r_ : Bool} (H : f29 l_826 profiles_827 = some r_) : Pure Try.prog 29 [.sl 7 false (l_826.map eApiFixture), .sl 4 false (profiles_827.map eApiProfile)] (· = .bool r_) := by
 refine Pure.walk3 fd29 none (Nat.le_of_ble_eq_true rfl) (by rfl) fun Q hQ => ?_
 simp only [f29] at H
 refine AW.rseq ?_
 try simp only [wm, ↓wk, ↓wl, nq, evV, ↓reduceIte, sevalprocAttr]
 refine AW.rseq ?_
 try simp only [wm, ↓wk, ↓wl, nq, evV, ↓reduceIte, sevalprocAttr]
 refine evTs_pure hFn H (fun _ h => f10_ok h) (by rfl) (by rfl) (by rfl) (by rfl) (fun _ => rfl) ?_ <;> clear H <;> intro r_828 H
 try simp only [eL, wm, ↓wk, ↓wl, nq, evV, ↓reduceIte, sevalprocAttr]
 refine evTs_ifg H (by rfl) ?_ ?_ <;> clear H <;> intro H
 ·try simp only [wm, ↓wk, ↓wl, nq, evV, ↓reduceIte, sevalprocAttr]
  refine evTs_pure hFn H (fun _ h => f17_ok h) (by rfl) (by rfl) (by rfl) (by rfl) (fun _ => rfl) ?_ <;> clear H <;> intro r_829 H
  try simp only [eL, wm, ↓wk, ↓wl, nq, evV, ↓reduceIte, sevalprocAttr]
  refine AW.ret ?_
  cases H
  exact hQ _ _ _ _ (.inr rfl) (by simp only [resVs, omap, resV, wm, ↓wk, ↓wl, nq, evV, ↓reduceIte, sevalprocAttr]; rfl) (hand_plain (by rfl)) (by first | exact Or.inl rfl | exact Or.inr rfl)
 ·try simp only [wm, ↓wk, ↓wl, nq, evV, ↓reduceIte, sevalprocAttr]
  refine AW.ret ?_
  cases H
  exact hQ _ _ _ _ (.inr rfl) (by simp only [resVs, omap, resV, wm, ↓wk, ↓wl, nq, evV, ↓reduceIte, sevalprocAttr]; rfl) (hand_plain (by rfl)) (by first | exact Or.inl rfl | exact Or.inr rfl)
noncomputable def f6_L2 (l_824 : (List ApiFixture)) (profiles_825 : (List ApiProfile)) (sum_951 : Int) : Lp (Int × Int) ((Int) ⊕ (Unit)) where
  body := fun (used_956, u_957) => (if (decide (u_957 ≤ 8)) = true then (f24 l_824 profiles_825 u_957).bind fun r_962 => (if (decide (r_962.2 ≠ 0)) = true then (some (.brk (Sum.inr ()))) else (some (.next ((IntKind.i64.wrap (used_956 + r_962.1)), (IntKind.i64.wrap (u_957 + 1)))))) else (some (.brk (Sum.inl used_956))))
  cst := fun (used_956, u_957) => ⟨put (put (put (put (put (fun _ => .junk) 17 (.int .i64 u_957)) 6 (.int .i64 used_956)) 5 (.int .i64 sum_951)) 1 (.sl 4 false (profiles_825.map eApiProfile))) 0 (.sl 7 false (l_824.map eApiFixture)), []⟩
theorem f6_L2c (l_824 : (List ApiFixture)) (profiles_825 : (List ApiProfile)) (sum_951 : Int) (used_956 : Int) (u_957 : Int) : (f6_L2 l_824 profiles_825 sum_951).cst (used_956, u_957) = ⟨put (put (put (put (put (fun _ => .junk) 17 (.int .i64 u_957)) 6 (.int .i64 used_956)) 5 (.int .i64 sum_951)) 1 (.sl 4 false (profiles_825.map eApiProfile))) 0 (.sl 7 false (l_824.map eApiFixture)), []⟩ := rfl
noncomputable def f6_L4 (size_985 : Int) (l_824 : (List ApiFixture)) (profiles_825 : (List ApiProfile)) (x_973 : ApiFixture) (v_932 : Int) (sum_931 : Int) : Lp (Int) ((Unit) ⊕ (Unit)) where
  body := fun v_989 => (if (decide (v_989 < size_985)) = true then (f20 l_824 profiles_825 x_973.fUniverse (IntKind.i64.wrap (x_973.fAddress + v_989))).bind fun r_991 => (if (decide (r_991.2.2.2 ≠ 0)) = true then (some (.brk (Sum.inr ()))) else (if (!r_991.2.2.1) = true then (some (.brk (Sum.inr ()))) else (if (decide (r_991.1 ≠ v_932)) = true then (some (.brk (Sum.inr ()))) else (if (decide (r_991.2.1 ≠ v_989)) = true then (some (.brk (Sum.inr ()))) else (some (.next (IntKind.i64.wrap (v_989 + 1)))))))) else (some (.brk (Sum.inl ()))))
  cst := fun v_989 => ⟨put (put (put (put (put (put (put (put (put (put (put (fun _ => .junk) 50 (.int .i64 v_989)) 49 (.int .i64 size_985)) 27 (.int .i64 v_932)) 26 (.int .i64 ((l_824.length : Nat) : Int))) 25 (.sl 7 false (l_824.map eApiFixture))) 8 (.ptr 0 0)) 7 (.int .i64 v_932)) 6 (.int .i64 0)) 5 (.int .i64 (IntKind.i64.wrap (sum_931 + size_985)))) 1 (.sl 4 false (profiles_825.map eApiProfile))) 0 (.sl 7 false (l_824.map eApiFixture)), [.cel [.int .i64 x_973.fChannel, .int .i64 x_973.fPart, .str x_973.fProfile, .int .i64 x_973.fUniverse, .int .i64 x_973.fAddress, .int .i64 x_973.fPhase, .str x_973.fCable]]⟩
theorem f6_L4c (size_985 : Int) (l_824 : (List ApiFixture)) (profiles_825 : (List ApiProfile)) (x_973 : ApiFixture) (v_932 : Int) (sum_931 : Int) (v_989 : Int) : (f6_L4 size_985 l_824 profiles_825 x_973 v_932 sum_931).cst v_989 = ⟨put (put (put (put (put (put (put (put (put (put (put (fun _ => .junk) 50 (.int .i64 v_989)) 49 (.int .i64 size_985)) 27 (.int .i64 v_932)) 26 (.int .i64 ((l_824.length : Nat) : Int))) 25 (.sl 7 false (l_824.map eApiFixture))) 8 (.ptr 0 0)) 7 (.int .i64 v_932)) 6 (.int .i64 0)) 5 (.int .i64 (IntKind.i64.wrap (sum_931 + size_985)))) 1 (.sl 4 false (profiles_825.map eApiProfile))) 0 (.sl 7 false (l_824.map eApiFixture)), [.cel [.int .i64 x_973.fChannel, .int .i64 x_973.fPart, .str x_973.fProfile, .int .i64 x_973.fUniverse, .int .i64 x_973.fAddress, .int .i64 x_973.fPhase, .str x_973.fCable]]⟩ := rfl
noncomputable def f6_L3 (profiles_825 : (List ApiProfile)) (x_973 : ApiFixture) (v_932 : Int) (l_824 : (List ApiFixture)) (sum_931 : Int) : Lp (Int) (Int) where
  body := fun v_983 => (if (decide (v_983 < ((profiles_825.length : Nat) : Int))) = true then (at? profiles_825 v_983).bind fun x_992 => (if (x_992.fName == x_973.fProfile) = true then (some (.brk x_992.fFootprint)) else (some (.next (IntKind.i64.wrap (v_983 + 1))))) else (some (.brk 0)))
  cst := fun v_983 => ⟨put (put (put (put (put (put (put (put (put (put (put (put (put (fun _ => .junk) 34 (.int .i64 v_983)) 33 (.int .i64 ((profiles_825.length : Nat) : Int))) 32 (.sl 4 false (profiles_825.map eApiProfile))) 27 (.int .i64 v_932)) 26 (.int .i64 ((l_824.length : Nat) : Int))) 25 (.sl 7 false (l_824.map eApiFixture))) 9 (.int .i64 0)) 8 (.ptr 0 0)) 7 (.int .i64 v_932)) 6 (.int .i64 0)) 5 (.int .i64 sum_931)) 1 (.sl 4 false (profiles_825.map eApiProfile))) 0 (.sl 7 false (l_824.map eApiFixture)), [.cel [.int .i64 x_973.fChannel, .int .i64 x_973.fPart, .str x_973.fProfile, .int .i64 x_973.fUniverse, .int .i64 x_973.fAddress, .int .i64 x_973.fPhase, .str x_973.fCable]]⟩
theorem f6_L3c (profiles_825 : (List ApiProfile)) (x_973 : ApiFixture) (v_932 : Int) (l_824 : (List ApiFixture)) (sum_931 : Int) (v_983 : Int) : (f6_L3 profiles_825 x_973 v_932 l_824 sum_931).cst v_983 = ⟨put (put (put (put (put (put (put (put (put (put (put (put (put (fun _ => .junk) 34 (.int .i64 v_983)) 33 (.int .i64 ((profiles_825.length : Nat) : Int))) 32 (.sl 4 false (profiles_825.map eApiProfile))) 27 (.int .i64 v_932)) 26 (.int .i64 ((l_824.length : Nat) : Int))) 25 (.sl 7 false (l_824.map eApiFixture))) 9 (.int .i64 0)) 8 (.ptr 0 0)) 7 (.int .i64 v_932)) 6 (.int .i64 0)) 5 (.int .i64 sum_931)) 1 (.sl 4 false (profiles_825.map eApiProfile))) 0 (.sl 7 false (l_824.map eApiFixture)), [.cel [.int .i64 x_973.fChannel, .int .i64 x_973.fPart, .str x_973.fProfile, .int .i64 x_973.fUniverse, .int .i64 x_973.fAddress, .int .i64 x_973.fPhase, .str x_973.fCable]]⟩ := rfl
noncomputable def f6_L1 (l_824 : (List ApiFixture)) (profiles_825 : (List ApiProfile)) : Lp (Int × Int) ((Int) ⊕ (Unit)) where
  body := fun (sum_931, v_932) => (if (decide (v_932 < ((l_824.length : Nat) : Int))) = true then (at? l_824 v_932).bind fun x_973 => (Lp.run (f6_L3 profiles_825 x_973 v_932 l_824 sum_931) 0).bind fun size_985 => ((Lp.run (f6_L4 size_985 l_824 profiles_825 x_973 v_932 sum_931) 0).bind fun r_ => match r_ with | (Sum.inl _) => (some (.next ((IntKind.i64.wrap (sum_931 + size_985)), (IntKind.i64.wrap (v_932 + 1))))) | (Sum.inr _) => (some (.brk (Sum.inr ())))) else (some (.brk (Sum.inl sum_931))))
  cst := fun (sum_931, v_932) => ⟨put (put (put (put (put (put (put (fun _ => .junk) 27 (.int .i64 v_932)) 26 (.int .i64 ((l_824.length : Nat) : Int))) 25 (.sl 7 false (l_824.map eApiFixture))) 6 (.int .i64 0)) 5 (.int .i64 sum_931)) 1 (.sl 4 false (profiles_825.map eApiProfile))) 0 (.sl 7 false (l_824.map eApiFixture)), []⟩
theorem f6_L1c (l_824 : (List ApiFixture)) (profiles_825 : (List ApiProfile)) (sum_931 : Int) (v_932 : Int) : (f6_L1 l_824 profiles_825).cst (sum_931, v_932) = ⟨put (put (put (put (put (put (put (fun _ => .junk) 27 (.int .i64 v_932)) 26 (.int .i64 ((l_824.length : Nat) : Int))) 25 (.sl 7 false (l_824.map eApiFixture))) 6 (.int .i64 0)) 5 (.int .i64 sum_931)) 1 (.sl 4 false (profiles_825.map eApiProfile))) 0 (.sl 7 false (l_824.map eApiFixture)), []⟩ := rfl
def c6_0 : C := .cond (.t 23) (.seq (.reg [iI 24 (.call (.c (.fn 11 [])) []), iI 4 (.mv (.t 24))]) .ret) (.skip)
def c6_1 : C := .cond (.t 42) (.seq (.reg [iI 43 (.faddr 1 (.t 11)), iI 44 (.load 0 (.t 43)), iI 9 (.mv (.t 44))]) (.exit 2)) (.skip)
def c6_2 : C := .seq (.reg [iI 38 (.faddr 0 (.t 11)), iI 39 (.load 0 (.t 38)), iI 40 (.faddr 2 (.t 8)), iI 41 (.load 0 (.t 40)), iI 42 (.bin .eql (.t 39) (.t 41))]) c6_1
def c6_3 : C := .reg [iI 45 (.bin .add (.t 34) (.c (.int .i64 1))), iI 34 (.mv (.t 45))]
def c6_4 : C := .seq (.block 3 (.seq (.reg [iI 36 (.iaddr 4 (.t 32) (.t 34)), iI 37 (.load 4 (.t 36)), iI 11 (.alloc [(1, (.str [])), (1, (.int .i64 0)), (1, (.int .i64 0)), (1, (.sl 10 true []))]), iN (.store 4 (.t 11) (.t 37))]) c6_2)) c6_3
def c6_5 : C := .seq (.cond (.t 35) (.skip) (.exit 2)) c6_4
def c6_6 : C := .block 2 (.loop (.seq (.reg [iI 35 (.bin .lss (.t 34) (.t 33))]) c6_5))
def c6_7 : C := .cond (.t 82) (.seq (.reg [iI 4 (.mv (.c (.bool false)))]) .ret) (.skip)
def c6_8 : C := .seq (.reg [iI 67 (.mv (.t 16)), iI 68 (.bin .neq (.t 67) (.c (.int .i64 0))), iI 69 (.mv (.t 68)), iG (some 70) 69 false (.mv (.t 15)), iG (some 71) 69 false (.un .not (.t 70)), iI 72 (.pick (.t 69) (.c (.bool true)) (.t 71)), iI 73 (.mv (.t 72)), iG (some 74) 73 false (.mv (.t 13)), iG (some 75) 73 false (.mv (.t 7)), iG (some 76) 73 false (.bin .neq (.t 74) (.t 75)), iI 77 (.pick (.t 73) (.c (.bool true)) (.t 76)), iI 78 (.mv (.t 77)), iG (some 79) 78 false (.mv (.t 14)), iG (some 80) 78 false (.mv (.t 12)), iG (some 81) 78 false (.bin .neq (.t 79) (.t 80)), iI 82 (.pick (.t 78) (.c (.bool true)) (.t 81))]) c6_7
def c6_9 : C := .seq (.reg [iI 54 (.mv (.t 0)), iI 55 (.mv (.t 1)), iI 56 (.faddr 3 (.t 8)), iI 57 (.load 0 (.t 56)), iI 58 (.faddr 4 (.t 8)), iI 59 (.load 0 (.t 58)), iI 60 (.mv (.t 12)), iI 61 (.bin .add (.t 59) (.t 60)), iI 62 (.call (.c (.fn 20 [])) [(.t 54), (.t 55), (.t 57), (.t 61)]), iI 53 (.mv (.t 62)), iI 63 (.ext (.t 53) 0), iI 64 (.ext (.t 53) 1), iI 65 (.ext (.t 53) 2), iI 66 (.ext (.t 53) 3), iI 13 (.mv (.t 63)), iI 14 (.mv (.t 64)), iI 15 (.mv (.t 65)), iI 16 (.mv (.t 66))]) c6_8
def c6_10 : C := .reg [iI 83 (.bin .add (.t 50) (.c (.int .i64 1))), iI 50 (.mv (.t 83))]
def c6_11 : C := .seq (.block 5 (.seq (.reg [iI 52 (.mv (.t 50)), iI 12 (.mv (.t 52))]) c6_9)) c6_10
def c6_12 : C := .seq (.cond (.t 51) (.skip) (.exit 4)) c6_11
def c6_13 : C := .block 4 (.loop (.seq (.reg [iI 51 (.bin .lss (.t 50) (.t 49))]) c6_12))
def c6_14 : C := .seq (.reg [iI 49 (.mv (.t 9)), iI 50 (.mv (.c (.int .i64 0)))]) c6_13
def c6_15 : C := .seq (.reg [iI 46 (.mv (.t 5)), iI 47 (.mv (.t 9)), iI 48 (.bin .add (.t 46) (.t 47)), iI 5 (.mv (.t 48))]) c6_14
def c6_16 : C := .seq (.seq (.reg [iI 32 (.mv (.t 1)), iI 33 (.len 0 (.t 32)), iI 34 (.mv (.c (.int .i64 0)))]) c6_6) c6_15
def c6_17 : C := .seq (.reg [iI 9 (.mv (.c (.int .i64 0)))]) c6_16
def c6_18 : C := .reg [iI 84 (.bin .add (.t 27) (.c (.int .i64 1))), iI 27 (.mv (.t 84))]
def c6_19 : C := .seq (.block 1 (.seq (.reg [iI 29 (.mv (.t 27)), iI 30 (.iaddr 7 (.t 25) (.t 27)), iI 31 (.load 7 (.t 30)), iI 8 (.alloc [(1, (.int .i64 0)), (1, (.int .i64 0)), (1, (.str [])), (1, (.int .i64 0)), (1, (.int .i64 0)), (1, (.int .i64 0)), (1, (.str []))]), iI 7 (.mv (.t 29)), iN (.store 7 (.t 8) (.t 31))]) c6_17)) c6_18
def c6_20 : C := .seq (.cond (.t 28) (.skip) (.exit 0)) c6_19
def c6_21 : C := .block 0 (.loop (.seq (.reg [iI 28 (.bin .lss (.t 27) (.t 26))]) c6_20))
def c6_22 : C := .cond (.t 86) (.skip) (.exit 6)
def c6_23 : C := .cond (.t 97) (.seq (.reg [iI 4 (.mv (.c (.bool false)))]) .ret) (.skip)
def c6_24 : C := .reg [iI 98 (.mv (.t 6)), iI 99 (.mv (.t 18)), iI 100 (.bin .add (.t 98) (.t 99)), iI 6 (.mv (.t 100))]
def c6_25 : C := .seq (.seq (.reg [iI 96 (.mv (.t 19)), iI 97 (.bin .neq (.t 96) (.c (.int .i64 0)))]) c6_23) c6_24
def c6_26 : C := .reg [iI 87 (.mv (.t 17)), iI 88 (.bin .add (.t 87) (.c (.int .i64 1))), iI 17 (.mv (.t 88))]
def c6_27 : C := .seq (.block 7 (.seq (.reg [iI 90 (.mv (.t 0)), iI 91 (.mv (.t 1)), iI 92 (.mv (.t 17)), iI 93 (.call (.c (.fn 24 [])) [(.t 90), (.t 91), (.t 92)]), iI 89 (.mv (.t 93)), iI 94 (.ext (.t 89) 0), iI 95 (.ext (.t 89) 1), iI 18 (.mv (.t 94)), iI 19 (.mv (.t 95))]) c6_25)) c6_26
def c6_28 : C := .block 6 (.loop (.seq (.seq (.reg [iI 85 (.mv (.t 17)), iI 86 (.bin .leq (.t 85) (.c (.int .i64 8)))]) c6_22) c6_27))
def c6_29 : C := .seq (.reg [iI 101 (.mv (.t 5)), iI 102 (.mv (.t 6)), iI 103 (.bin .eql (.t 101) (.t 102)), iI 104 (.mv (.t 103)), iG (some 105) 104 true (.call (.c (.fn 11 [])) []), iI 106 (.pick (.t 104) (.t 105) (.c (.bool false))), iI 4 (.mv (.t 106))]) .ret
def c6_30 : C := .seq (.seq (.reg [iI 17 (.mv (.c (.int .i64 1)))]) c6_28) c6_29
def c6_31 : C := .seq (.seq (.reg [iI 25 (.mv (.t 0)), iI 26 (.len 0 (.t 25)), iI 27 (.mv (.c (.int .i64 0)))]) c6_21) c6_30
def c6_32 : C := .seq (.reg [iI 5 (.mv (.c (.int .i64 0))), iI 6 (.mv (.c (.int .i64 0)))]) c6_31
def c6_33 : C := .seq (.seq (.reg [iI 20 (.mv (.t 0)), iI 21 (.mv (.t 1)), iI 22 (.call (.c (.fn 29 [])) [(.t 20), (.t 21)]), iI 23 (.un .not (.t 22))]) c6_0) c6_32
def ir6 : C := .seq (.reg [iI 4 (.mv (.c (.bool false)))]) c6_33
theorem fd6 : fd? Try.prog 6 = some (107, [.slot 4], ir6) := by kernel_rfl
noncomputable def f6 (l_824 : (List ApiFixture)) (profiles_825 : (List ApiProfile)) : Option (Bool) :=
  (f29 l_824 profiles_825).bind fun r_832 => (if (!r_832) = true then (f11).bind fun r_833 => (some r_833) else ((Lp.run (f6_L1 l_824 profiles_825) (0, 0)).bind fun r_ => match r_ with | (Sum.inl sum_951) => ((Lp.run (f6_L2 l_824 profiles_825 sum_951) (0, 1)).bind fun r_ => match r_ with | (Sum.inl used_959) => (if (decide (sum_951 = used_959)) = true then (f11).bind fun r_960 => (some r_960) else (some false)) | (Sum.inr _) => (some false)) | (Sum.inr _) => (some false)))
theorem f6_ok {l_824 : (List ApiFixture)} {profiles_825 : (List ApiProfile)} {r_ : Bool} (H : f6 l_824 profiles_825 = some r_) : Pure Try.prog 6 [.sl 7 false (l_824.map eApiFixture), .sl 4 false (profiles_825.map eApiProfile)] (· = .bool r_) := by
 refine Pure.walk3 fd6 none (Nat.le_of_ble_eq_true rfl) (by rfl) fun Q hQ => ?_
 simp only [f6] at H
 refine AW.rseq ?_
 try simp only [wm, ↓wk, ↓wl, nq, evV, ↓reduceIte, sevalprocAttr]
 refine AW.sseq ?_
 refine AW.rseq ?_
 try simp only [wm, ↓wk, ↓wl, nq, evV, ↓reduceIte, sevalprocAttr]
 refine evTs_pure hFn H (fun _ h => f29_ok h) (by rfl) (by rfl) (by rfl) (by rfl) (fun _ => rfl) ?_ <;> clear H <;> intro r_832 H
 try simp only [eL, wm, ↓wk, ↓wl, nq, evV, ↓reduceIte, sevalprocAttr]
 refine AW.ifc H (by rfl) ?_ ?_ <;> clear H <;> intro H
 ·refine AW.rseq ?_
  try simp only [wm, ↓wk, ↓wl, nq, evV, ↓reduceIte, sevalprocAttr]
  refine evTs_pure hFn H (fun _ h => f11_ok h) (by rfl) (by rfl) (by rfl) (by rfl) (fun _ => rfl) ?_ <;> clear H <;> intro r_833 H
  try simp only [eL, wm, ↓wk, ↓wl, nq, evV, ↓reduceIte, sevalprocAttr]
  refine AW.ret ?_
  refine seqQ.ret ?_
  cases H
  exact hQ _ _ _ _ (.inr rfl) (by simp only [resVs, omap, resV, wm, ↓wk, ↓wl, nq, evV, ↓reduceIte, sevalprocAttr]; rfl) (hand_plain (by rfl)) (by first | exact Or.inl rfl | exact Or.inr rfl)
 ·refine AW.skip ?_
  refine seqQ.norm ?_
  refine AW.rseq ?_
  try simp only [wm, ↓wk, ↓wl, nq, evV, ↓reduceIte, sevalprocAttr]
  refine AW.sseq ?_
  refine AW.rseq ?_
  try simp only [wm, ↓wk, ↓wl, nq, evV, ↓reduceIte, sevalprocAttr]
  refine AW.bend ?_
  refine AW.iter H ((Le.tz [] [0, 1, 5, 6, 25, 26, 27] (by simp only [f6_L1c, wm, wmr, rrm, ↓wk, ↓wl, evV, ↓reduceIte, sevalprocAttr] <;> rfl))) ?_ <;> clear H
  rintro ⟨sum_931, v_932⟩ x_ st0_ H hst_
  rw [f6_L1c] at hst_
  simp only [f6_L1] at H
  subst hst_
  refine AW.rseq ?_
  try simp only [wm, ↓wk, ↓wl, nq, evV, ↓reduceIte, sevalprocAttr]
  refine AW.sseq ?_
  refine AW.ifc H (by rfl) ?_ ?_ <;> clear H <;> intro H
  ·refine AW.skip ?_
   refine seqQ.norm ?_
   refine AW.bseq ?_
   refine AW.rseq ?_
   try simp only [wm, ↓wk, ↓wl, nq, evV, ↓reduceIte, sevalprocAttr]
   refine evTs_at (enc := eApiFixture) H (by rfl) (by rfl) ?_ <;> clear H <;> intro x_973 H
   try simp only [eApiFixture, eL, eM, wm, ↓wk, ↓wl, nq, evV, ↓reduceIte, sevalprocAttr]
   refine AW.rseq ?_
   try simp only [wm, ↓wk, ↓wl, nq, evV, ↓reduceIte, sevalprocAttr]
   refine AW.sseq ?_
   refine AW.rseq ?_
   try simp only [wm, ↓wk, ↓wl, nq, evV, ↓reduceIte, sevalprocAttr]
   refine AW.bend ?_
   refine AW.iter H ((Le.tz [0] [0, 1, 5, 6, 7, 8, 9, 25, 26, 27, 32, 33, 34] (by simp only [f6_L3c, wm, wmr, rrm, ↓wk, ↓wl, evV, ↓reduceIte, sevalprocAttr] <;> rfl))) ?_ <;> clear H
   rintro v_983 x_ st0_ H hst_
   rw [f6_L3c] at hst_
   simp only [f6_L3] at H
   subst hst_
   refine AW.rseq ?_
   try simp only [wm, ↓wk, ↓wl, nq, evV, ↓reduceIte, sevalprocAttr]
   refine AW.sseq ?_
   refine AW.ifc H (by rfl) ?_ ?_ <;> clear H <;> intro H
   ·refine AW.skip ?_
    refine seqQ.norm ?_
    refine AW.bseq ?_
    refine AW.rseq ?_
    try simp only [wm, ↓wk, ↓wl, nq, evV, ↓reduceIte, sevalprocAttr]
    refine evTs_at (enc := eApiProfile) H (by rfl) (by rfl) ?_ <;> clear H <;> intro x_992 H
    try simp only [eApiProfile, eL, eM, wm, ↓wk, ↓wl, nq, evV, ↓reduceIte, sevalprocAttr]
    refine AW.rseq ?_
    try simp only [wm, ↓wk, ↓wl, nq, evV, ↓reduceIte, sevalprocAttr]
    refine AW.ifc H (by rfl) ?_ ?_ <;> clear H <;> intro H
    ·refine AW.rseq ?_
     try simp only [wm, ↓wk, ↓wl, nq, evV, ↓reduceIte, sevalprocAttr]
     refine AW.exit ?_
     refine blkQ.out (by rfl) ?_
     refine loopQ.exit H ?_ <;> clear H <;> intro H
     try dsimp only at H
     refine blk0.here ?_
     refine seqQ.norm ?_
     refine AW.rseq ?_
     try simp only [wm, ↓wk, ↓wl, nq, evV, ↓reduceIte, sevalprocAttr]
     refine AW.rseq ?_
     try simp only [wm, ↓wk, ↓wl, nq, evV, ↓reduceIte, sevalprocAttr]
     refine AW.bend ?_
     refine AW.iter H ((Le.tz [0] [0, 1, 5, 6, 7, 8, 25, 26, 27, 49, 50] (by simp only [f6_L4c, wm, wmr, rrm, ↓wk, ↓wl, evV, ↓reduceIte, sevalprocAttr] <;> rfl))) ?_ <;> clear H
     rintro v_996 x_ st0_ H hst_
     rw [f6_L4c] at hst_
     simp only [f6_L4] at H
     subst hst_
     refine AW.rseq ?_
     try simp only [wm, ↓wk, ↓wl, nq, evV, ↓reduceIte, sevalprocAttr]
     refine AW.sseq ?_
     refine AW.ifc H (by rfl) ?_ ?_ <;> clear H <;> intro H
     ·refine AW.skip ?_
      refine seqQ.norm ?_
      refine AW.bseq ?_
      refine AW.rseq ?_
      try simp only [wm, ↓wk, ↓wl, nq, evV, ↓reduceIte, sevalprocAttr]
      refine AW.rseq ?_
      try simp only [wm, ↓wk, ↓wl, nq, evV, ↓reduceIte, sevalprocAttr]
      refine evTs_pure hFn H (fun _ h => f20_ok h) (by rfl) (by rfl) (by rfl) (by rfl) (fun _ => rfl) ?_ <;> clear H <;> intro r_998 H
      try simp only [eL, wm, ↓wk, ↓wl, nq, evV, ↓reduceIte, sevalprocAttr]
      refine AW.rseq ?_
      try simp only [wm, ↓wk, ↓wl, nq, evV, ↓reduceIte, sevalprocAttr]
      refine evTs_ifg H (by rfl) ?_ ?_ <;> clear H <;> intro H
      ·try simp only [wm, ↓wk, ↓wl, nq, evV, ↓reduceIte, sevalprocAttr]
       refine AW.ift (by rfl) ?_
       refine AW.rseq ?_
       try simp only [wm, ↓wk, ↓wl, nq, evV, ↓reduceIte, sevalprocAttr]
       refine AW.ret ?_
       refine blkQ.ret ?_
       refine loopQ.ret H ?_ <;> clear H <;> intro H
       try dsimp only at H
       refine blk0.ret ?_
       refine blkQ.ret ?_
       refine loopQ.ret H ?_ <;> clear H <;> intro H
       try dsimp only at H
       refine blk0.ret ?_
       refine seqQ.ret ?_
       cases H
       exact hQ _ _ _ _ (.inr rfl) (by simp only [resVs, omap, resV, wm, ↓wk, ↓wl, nq, evV, ↓reduceIte, sevalprocAttr]; rfl) (hand_plain (by rfl)) (by first | exact Or.inl rfl | exact Or.inr rfl)
      ·try simp only [wm, ↓wk, ↓wl, nq, evV, ↓reduceIte, sevalprocAttr]
       refine evTs_ifg H (by rfl) ?_ ?_ <;> clear H <;> intro H
       ·try simp only [wm, ↓wk, ↓wl, nq, evV, ↓reduceIte, sevalprocAttr]
        refine AW.ift (by rfl) ?_
        refine AW.rseq ?_
        try simp only [wm, ↓wk, ↓wl, nq, evV, ↓reduceIte, sevalprocAttr]
        refine AW.ret ?_
        refine blkQ.ret ?_
        refine loopQ.ret H ?_ <;> clear H <;> intro H
        try dsimp only at H
        refine blk0.ret ?_
        refine blkQ.ret ?_
        refine loopQ.ret H ?_ <;> clear H <;> intro H
        try dsimp only at H
        refine blk0.ret ?_
        refine seqQ.ret ?_
        cases H
        exact hQ _ _ _ _ (.inr rfl) (by simp only [resVs, omap, resV, wm, ↓wk, ↓wl, nq, evV, ↓reduceIte, sevalprocAttr]; rfl) (hand_plain (by rfl)) (by first | exact Or.inl rfl | exact Or.inr rfl)
       ·try simp only [wm, ↓wk, ↓wl, nq, evV, ↓reduceIte, sevalprocAttr]
        refine evTs_ifg H (by rfl) ?_ ?_ <;> clear H <;> intro H
        ·try simp only [wm, ↓wk, ↓wl, nq, evV, ↓reduceIte, sevalprocAttr]
         refine AW.ift (by rfl) ?_
         refine AW.rseq ?_
         try simp only [wm, ↓wk, ↓wl, nq, evV, ↓reduceIte, sevalprocAttr]
         refine AW.ret ?_
         refine blkQ.ret ?_
         refine loopQ.ret H ?_ <;> clear H <;> intro H
         try dsimp only at H
         refine blk0.ret ?_
         refine blkQ.ret ?_
         refine loopQ.ret H ?_ <;> clear H <;> intro H
         try dsimp only at H
         refine blk0.ret ?_
         refine seqQ.ret ?_
         cases H
         exact hQ _ _ _ _ (.inr rfl) (by simp only [resVs, omap, resV, wm, ↓wk, ↓wl, nq, evV, ↓reduceIte, sevalprocAttr]; rfl) (hand_plain (by rfl)) (by first | exact Or.inl rfl | exact Or.inr rfl)
        ·try simp only [wm, ↓wk, ↓wl, nq, evV, ↓reduceIte, sevalprocAttr]
         refine AW.ifc H (by rfl) ?_ ?_ <;> clear H <;> intro H
         ·refine AW.rseq ?_
          try simp only [wm, ↓wk, ↓wl, nq, evV, ↓reduceIte, sevalprocAttr]
          refine AW.ret ?_
          refine blkQ.ret ?_
          refine loopQ.ret H ?_ <;> clear H <;> intro H
          try dsimp only at H
          refine blk0.ret ?_
          refine blkQ.ret ?_
          refine loopQ.ret H ?_ <;> clear H <;> intro H
          try dsimp only at H
          refine blk0.ret ?_
          refine seqQ.ret ?_
          cases H
          exact hQ _ _ _ _ (.inr rfl) (by simp only [resVs, omap, resV, wm, ↓wk, ↓wl, nq, evV, ↓reduceIte, sevalprocAttr]; rfl) (hand_plain (by rfl)) (by first | exact Or.inl rfl | exact Or.inr rfl)
         ·refine AW.skip ?_
          refine blkQ.norm ?_
          refine AW.rend ?_
          try simp only [wm, ↓wk, ↓wl, nq, evV, ↓reduceIte, sevalprocAttr]
          exact loopQ.next H ((Le.tz [0] [0, 1, 5, 6, 7, 8, 25, 26, 27, 49, 50] (by simp only [f6_L4c, wm, wmr, rrm, ↓wk, ↓wl, evV, ↓reduceIte, sevalprocAttr] <;> rfl)))
     ·refine AW.exit ?_
      refine seqQ.exit ?_
      refine loopQ.exit H ?_ <;> clear H <;> intro H
      try dsimp only at H
      refine blk0.here ?_
      refine blkQ.norm ?_
      refine AW.rend ?_
      try simp only [wm, ↓wk, ↓wl, nq, evV, ↓reduceIte, sevalprocAttr]
      exact loopQ.next H ((Le.tz [] [0, 1, 5, 6, 25, 26, 27] (by simp only [f6_L1c, wm, wmr, rrm, ↓wk, ↓wl, evV, ↓reduceIte, sevalprocAttr] <;> rfl)))
    ·refine AW.skip ?_
     refine blkQ.norm ?_
     refine AW.rend ?_
     try simp only [wm, ↓wk, ↓wl, nq, evV, ↓reduceIte, sevalprocAttr]
     exact loopQ.next H ((Le.tz [0] [0, 1, 5, 6, 7, 8, 9, 25, 26, 27, 32, 33, 34] (by simp only [f6_L3c, wm, wmr, rrm, ↓wk, ↓wl, evV, ↓reduceIte, sevalprocAttr] <;> rfl)))
   ·refine AW.exit ?_
    refine seqQ.exit ?_
    refine loopQ.exit H ?_ <;> clear H <;> intro H
    try dsimp only at H
    refine blk0.here ?_
    refine seqQ.norm ?_
    refine AW.rseq ?_
    try simp only [wm, ↓wk, ↓wl, nq, evV, ↓reduceIte, sevalprocAttr]
    refine AW.rseq ?_
    try simp only [wm, ↓wk, ↓wl, nq, evV, ↓reduceIte, sevalprocAttr]
    refine AW.bend ?_
    refine AW.iter H ((Le.tz [0] [0, 1, 5, 6, 7, 8, 25, 26, 27, 49, 50] (by simp only [f6_L4c, wm, wmr, rrm, ↓wk, ↓wl, evV, ↓reduceIte, sevalprocAttr] <;> rfl))) ?_ <;> clear H
    rintro v_1002 x_ st0_ H hst_
    rw [f6_L4c] at hst_
    simp only [f6_L4] at H
    subst hst_
    refine AW.rseq ?_
    try simp only [wm, ↓wk, ↓wl, nq, evV, ↓reduceIte, sevalprocAttr]
    refine AW.sseq ?_
    refine AW.ifc H (by rfl) ?_ ?_ <;> clear H <;> intro H
    ·refine AW.skip ?_
     refine seqQ.norm ?_
     refine AW.bseq ?_
     refine AW.rseq ?_
     try simp only [wm, ↓wk, ↓wl, nq, evV, ↓reduceIte, sevalprocAttr]
     refine AW.rseq ?_
     try simp only [wm, ↓wk, ↓wl, nq, evV, ↓reduceIte, sevalprocAttr]
     refine evTs_pure hFn H (fun _ h => f20_ok h) (by rfl) (by rfl) (by rfl) (by rfl) (fun _ => rfl) ?_ <;> clear H <;> intro r_1004 H
     try simp only [eL, wm, ↓wk, ↓wl, nq, evV, ↓reduceIte, sevalprocAttr]
     refine AW.rseq ?_
     try simp only [wm, ↓wk, ↓wl, nq, evV, ↓reduceIte, sevalprocAttr]
     refine evTs_ifg H (by rfl) ?_ ?_ <;> clear H <;> intro H
     ·try simp only [wm, ↓wk, ↓wl, nq, evV, ↓reduceIte, sevalprocAttr]
      refine AW.ift (by rfl) ?_
      refine AW.rseq ?_
      try simp only [wm, ↓wk, ↓wl, nq, evV, ↓reduceIte, sevalprocAttr]
      refine AW.ret ?_
      refine blkQ.ret ?_
      refine loopQ.ret H ?_ <;> clear H <;> intro H
      try dsimp only at H
      refine blk0.ret ?_
      refine blkQ.ret ?_
      refine loopQ.ret H ?_ <;> clear H <;> intro H
      try dsimp only at H
      refine blk0.ret ?_
      refine seqQ.ret ?_
      cases H
      exact hQ _ _ _ _ (.inr rfl) (by simp only [resVs, omap, resV, wm, ↓wk, ↓wl, nq, evV, ↓reduceIte, sevalprocAttr]; rfl) (hand_plain (by rfl)) (by first | exact Or.inl rfl | exact Or.inr rfl)
     ·try simp only [wm, ↓wk, ↓wl, nq, evV, ↓reduceIte, sevalprocAttr]
      refine evTs_ifg H (by rfl) ?_ ?_ <;> clear H <;> intro H
      ·try simp only [wm, ↓wk, ↓wl, nq, evV, ↓reduceIte, sevalprocAttr]
       refine AW.ift (by rfl) ?_
       refine AW.rseq ?_
       try simp only [wm, ↓wk, ↓wl, nq, evV, ↓reduceIte, sevalprocAttr]
       refine AW.ret ?_
       refine blkQ.ret ?_
       refine loopQ.ret H ?_ <;> clear H <;> intro H
       try dsimp only at H
       refine blk0.ret ?_
       refine blkQ.ret ?_
       refine loopQ.ret H ?_ <;> clear H <;> intro H
       try dsimp only at H
       refine blk0.ret ?_
       refine seqQ.ret ?_
       cases H
       exact hQ _ _ _ _ (.inr rfl) (by simp only [resVs, omap, resV, wm, ↓wk, ↓wl, nq, evV, ↓reduceIte, sevalprocAttr]; rfl) (hand_plain (by rfl)) (by first | exact Or.inl rfl | exact Or.inr rfl)
      ·try simp only [wm, ↓wk, ↓wl, nq, evV, ↓reduceIte, sevalprocAttr]
       refine evTs_ifg H (by rfl) ?_ ?_ <;> clear H <;> intro H
       ·try simp only [wm, ↓wk, ↓wl, nq, evV, ↓reduceIte, sevalprocAttr]
        refine AW.ift (by rfl) ?_
        refine AW.rseq ?_
        try simp only [wm, ↓wk, ↓wl, nq, evV, ↓reduceIte, sevalprocAttr]
        refine AW.ret ?_
        refine blkQ.ret ?_
        refine loopQ.ret H ?_ <;> clear H <;> intro H
        try dsimp only at H
        refine blk0.ret ?_
        refine blkQ.ret ?_
        refine loopQ.ret H ?_ <;> clear H <;> intro H
        try dsimp only at H
        refine blk0.ret ?_
        refine seqQ.ret ?_
        cases H
        exact hQ _ _ _ _ (.inr rfl) (by simp only [resVs, omap, resV, wm, ↓wk, ↓wl, nq, evV, ↓reduceIte, sevalprocAttr]; rfl) (hand_plain (by rfl)) (by first | exact Or.inl rfl | exact Or.inr rfl)
       ·try simp only [wm, ↓wk, ↓wl, nq, evV, ↓reduceIte, sevalprocAttr]
        refine AW.ifc H (by rfl) ?_ ?_ <;> clear H <;> intro H
        ·refine AW.rseq ?_
         try simp only [wm, ↓wk, ↓wl, nq, evV, ↓reduceIte, sevalprocAttr]
         refine AW.ret ?_
         refine blkQ.ret ?_
         refine loopQ.ret H ?_ <;> clear H <;> intro H
         try dsimp only at H
         refine blk0.ret ?_
         refine blkQ.ret ?_
         refine loopQ.ret H ?_ <;> clear H <;> intro H
         try dsimp only at H
         refine blk0.ret ?_
         refine seqQ.ret ?_
         cases H
         exact hQ _ _ _ _ (.inr rfl) (by simp only [resVs, omap, resV, wm, ↓wk, ↓wl, nq, evV, ↓reduceIte, sevalprocAttr]; rfl) (hand_plain (by rfl)) (by first | exact Or.inl rfl | exact Or.inr rfl)
        ·refine AW.skip ?_
         refine blkQ.norm ?_
         refine AW.rend ?_
         try simp only [wm, ↓wk, ↓wl, nq, evV, ↓reduceIte, sevalprocAttr]
         exact loopQ.next H ((Le.tz [0] [0, 1, 5, 6, 7, 8, 25, 26, 27, 49, 50] (by simp only [f6_L4c, wm, wmr, rrm, ↓wk, ↓wl, evV, ↓reduceIte, sevalprocAttr] <;> rfl)))
    ·refine AW.exit ?_
     refine seqQ.exit ?_
     refine loopQ.exit H ?_ <;> clear H <;> intro H
     try dsimp only at H
     refine blk0.here ?_
     refine blkQ.norm ?_
     refine AW.rend ?_
     try simp only [wm, ↓wk, ↓wl, nq, evV, ↓reduceIte, sevalprocAttr]
     exact loopQ.next H ((Le.tz [] [0, 1, 5, 6, 25, 26, 27] (by simp only [f6_L1c, wm, wmr, rrm, ↓wk, ↓wl, evV, ↓reduceIte, sevalprocAttr] <;> rfl)))
  ·refine AW.exit ?_
   refine seqQ.exit ?_
   refine loopQ.exit H ?_ <;> clear H <;> intro H
   try dsimp only at H
   refine blk0.here ?_
   refine seqQ.norm ?_
   refine AW.sseq ?_
   refine AW.rseq ?_
   try simp only [wm, ↓wk, ↓wl, nq, evV, ↓reduceIte, sevalprocAttr]
   refine AW.bend ?_
   refine AW.iter H ((Le.tz [] [0, 1, 5, 6, 17] (by simp only [f6_L2c, wm, wmr, rrm, ↓wk, ↓wl, evV, ↓reduceIte, sevalprocAttr] <;> rfl))) ?_ <;> clear H
   rintro ⟨used_1009, u_1010⟩ x_ st0_ H hst_
   rw [f6_L2c] at hst_
   simp only [f6_L2] at H
   subst hst_
   refine AW.sseq ?_
   refine AW.rseq ?_
   try simp only [wm, ↓wk, ↓wl, nq, evV, ↓reduceIte, sevalprocAttr]
   refine AW.ifc H (by rfl) ?_ ?_ <;> clear H <;> intro H
   ·refine AW.skip ?_
    refine seqQ.norm ?_
    refine AW.bseq ?_
    refine AW.rseq ?_
    try simp only [wm, ↓wk, ↓wl, nq, evV, ↓reduceIte, sevalprocAttr]
    refine evTs_pure hFn H (fun _ h => f24_ok h) (by rfl) (by rfl) (by rfl) (by rfl) (fun _ => rfl) ?_ <;> clear H <;> intro r_1015 H
    try simp only [eL, wm, ↓wk, ↓wl, nq, evV, ↓reduceIte, sevalprocAttr]
    refine AW.sseq ?_
    refine AW.rseq ?_
    try simp only [wm, ↓wk, ↓wl, nq, evV, ↓reduceIte, sevalprocAttr]
    refine AW.ifc H (by rfl) ?_ ?_ <;> clear H <;> intro H
    ·refine AW.rseq ?_
     try simp only [wm, ↓wk, ↓wl, nq, evV, ↓reduceIte, sevalprocAttr]
     refine AW.ret ?_
     refine seqQ.ret ?_
     refine blkQ.ret ?_
     refine loopQ.ret H ?_ <;> clear H <;> intro H
     try dsimp only at H
     refine blk0.ret ?_
     refine seqQ.ret ?_
     cases H
     exact hQ _ _ _ _ (.inr rfl) (by simp only [resVs, omap, resV, wm, ↓wk, ↓wl, nq, evV, ↓reduceIte, sevalprocAttr]; rfl) (hand_plain (by rfl)) (by first | exact Or.inl rfl | exact Or.inr rfl)
    ·refine AW.skip ?_
     refine seqQ.norm ?_
     refine AW.rend ?_
     try simp only [wm, ↓wk, ↓wl, nq, evV, ↓reduceIte, sevalprocAttr]
     refine blkQ.norm ?_
     refine AW.rend ?_
     try simp only [wm, ↓wk, ↓wl, nq, evV, ↓reduceIte, sevalprocAttr]
     exact loopQ.next H ((Le.tz [] [0, 1, 5, 6, 17] (by simp only [f6_L2c, wm, wmr, rrm, ↓wk, ↓wl, evV, ↓reduceIte, sevalprocAttr] <;> rfl)))
   ·refine AW.exit ?_
    refine seqQ.exit ?_
    refine loopQ.exit H ?_ <;> clear H <;> intro H
    try dsimp only at H
    refine blk0.here ?_
    refine seqQ.norm ?_
    refine AW.rseq ?_
    try simp only [wm, ↓wk, ↓wl, nq, evV, ↓reduceIte, sevalprocAttr]
    refine evTs_ifg H (by rfl) ?_ ?_ <;> clear H <;> intro H
    ·try simp only [wm, ↓wk, ↓wl, nq, evV, ↓reduceIte, sevalprocAttr]
     refine evTs_pure hFn H (fun _ h => f11_ok h) (by rfl) (by rfl) (by rfl) (by rfl) (fun _ => rfl) ?_ <;> clear H <;> intro r_1016 H
     try simp only [eL, wm, ↓wk, ↓wl, nq, evV, ↓reduceIte, sevalprocAttr]
     refine AW.ret ?_
     cases H
     exact hQ _ _ _ _ (.inr rfl) (by simp only [resVs, omap, resV, wm, ↓wk, ↓wl, nq, evV, ↓reduceIte, sevalprocAttr]; rfl) (hand_plain (by rfl)) (by first | exact Or.inl rfl | exact Or.inr rfl)
    ·try simp only [wm, ↓wk, ↓wl, nq, evV, ↓reduceIte, sevalprocAttr]
     refine AW.ret ?_
     cases H
     exact hQ _ _ _ _ (.inr rfl) (by simp only [resVs, omap, resV, wm, ↓wk, ↓wl, nq, evV, ↓reduceIte, sevalprocAttr]; rfl) (hand_plain (by rfl)) (by first | exact Or.inl rfl | exact Or.inr rfl)
end Go.Proofs.Ythikbfhdebaceaa
