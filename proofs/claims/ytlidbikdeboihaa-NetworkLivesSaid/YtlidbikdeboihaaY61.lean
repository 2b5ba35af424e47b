import Derived.Test.YtlidbikdeboihaaX2
import Derived.Test.YtlidbikdeboihaaProg
import Derived.KernelRfl
namespace Go.Proofs.Ytlidbikdeboihaa
open Go Go.Ab

set_option maxHeartbeats 1000000
set_option linter.unusedSimpArgs false
set_option linter.unusedVariables false
structure Law56Beat where
  fUniverse : Int
  fAfter : Int
  fValue : Int
def eLaw56Beat (x : Law56Beat) : AV := .agg [.int .u8 x.fUniverse, .int .u8 x.fAfter, .int .u8 x.fValue]
instance : IsFlat eLaw56Beat := ⟨fun _ => rfl⟩
instance : IsEnc 3 eLaw56Beat := ⟨fun _ => rfl, fun _ => rfl, fun _ => rfl⟩
noncomputable def f6_J4 (l_1809 : (List NetworkPacket)) (x_1806 : Law56Beat) (t_1780 : Int) (value_1816 : Int) (times_1817 : Int) (v_1784 : Int) (next_1811 : Int) (next_1812 : Int) (next_1813 : Int) (next_1814 : Int) (next_1815 : (List NetworkStream)) (last_1783 : Int) (beats_1737 : (List Law56Beat)) (s_1785 : Int) (s_1786 : Int) (s_1787 : Int) (s_1788 : Int) (s_1789 : (List NetworkStream)) : Jn (Unit) (Ctl (Int × Int × Int × Int × Int × Int × Int × Int × Int × (List NetworkStream)) ((Unit) ⊕ (Unit))) where
  run := fun _ => (if (decide (((l_1809.length : Nat) : Int) = 1)) = true then (at? l_1809 0).bind fun x_1818 => (f27 1 (IntKind.i64.wrap (x_1806.fValue.tmod 2))).bind fun r_1819 => (if (!(x_1818.fSlots == r_1819.fSlots)) = true then (some (.brk (Sum.inr ()))) else (some (.next ((IntKind.i64.wrap (t_1780 + (IntKind.i64.wrap (5 * (IntKind.i64.wrap x_1806.fAfter))))), value_1816, (IntKind.i64.wrap (times_1817 + 1)), (IntKind.i64.wrap (t_1780 + (IntKind.i64.wrap (5 * (IntKind.i64.wrap x_1806.fAfter))))), (IntKind.i64.wrap (v_1784 + 1)), next_1811, next_1812, next_1813, next_1814, next_1815)))) else (some (.next ((IntKind.i64.wrap (t_1780 + (IntKind.i64.wrap (5 * (IntKind.i64.wrap x_1806.fAfter))))), value_1816, times_1817, last_1783, (IntKind.i64.wrap (v_1784 + 1)), next_1811, next_1812, next_1813, next_1814, next_1815))))
  cst := fun _ => ⟨put (put (put (put (put (put (put (put (put (put (put (fun _ => .junk) 33 (.int .i64 v_1784)) 32 (.int .i64 ((beats_1737.length : Nat) : Int))) 31 (.sl 3 false (beats_1737.map eLaw56Beat))) 13 (.sl 7 false (l_1809.map eNetworkPacket))) 12 (.ptr 1 0)) 11 (.int .i64 (IntKind.i64.wrap (x_1806.fValue.tmod 2)))) 8 (.int .i64 last_1783)) 7 (.int .i64 times_1817)) 6 (.int .i64 value_1816)) 5 (.int .i64 (IntKind.i64.wrap (t_1780 + (IntKind.i64.wrap (5 * (IntKind.i64.wrap x_1806.fAfter))))))) 3 (.ptr 0 0), [.cel [.int .u64 s_1785, .int .i64 s_1786, .int .i64 s_1787, .int .i64 s_1788, .sl 5 false (s_1789.map eNetworkStream)], .cel [.int .u64 next_1811, .int .i64 next_1812, .int .i64 next_1813, .int .i64 next_1814, .sl 5 false (next_1815.map eNetworkStream)]]⟩
noncomputable def f6_J3 (l_1809 : (List NetworkPacket)) (x_1806 : Law56Beat) (t_1780 : Int) (v_1784 : Int) (next_1811 : Int) (next_1812 : Int) (next_1813 : Int) (next_1814 : Int) (next_1815 : (List NetworkStream)) (last_1783 : Int) (beats_1737 : (List Law56Beat)) (s_1785 : Int) (s_1786 : Int) (s_1787 : Int) (s_1788 : Int) (s_1789 : (List NetworkStream)) : Jn (Int × Int) (Ctl (Int × Int × Int × Int × Int × Int × Int × Int × Int × (List NetworkStream)) ((Unit) ⊕ (Unit))) where
  run := fun (value_1816, times_1817) => (if (decide (times_1817 < 3)) = true then (if (!((decide (((l_1809.length : Nat) : Int) = 1)) == true)) = true then (some (.brk (Sum.inr ()))) else ((f6_J4 l_1809 x_1806 t_1780 value_1816 times_1817 v_1784 next_1811 next_1812 next_1813 next_1814 next_1815 last_1783 beats_1737 s_1785 s_1786 s_1787 s_1788 s_1789).run ())) else (if (!((decide (((l_1809.length : Nat) : Int) = 1)) == (decide (1000 ≤ (IntKind.i64.wrap ((IntKind.i64.wrap (t_1780 + (IntKind.i64.wrap (5 * (IntKind.i64.wrap x_1806.fAfter))))) - last_1783)))))) = true then (some (.brk (Sum.inr ()))) else ((f6_J4 l_1809 x_1806 t_1780 value_1816 times_1817 v_1784 next_1811 next_1812 next_1813 next_1814 next_1815 last_1783 beats_1737 s_1785 s_1786 s_1787 s_1788 s_1789).run ())))
  cst := fun (value_1816, times_1817) => ⟨put (put (put (put (put (put (put (put (put (put (put (fun _ => .junk) 33 (.int .i64 v_1784)) 32 (.int .i64 ((beats_1737.length : Nat) : Int))) 31 (.sl 3 false (beats_1737.map eLaw56Beat))) 13 (.sl 7 false (l_1809.map eNetworkPacket))) 12 (.ptr 1 0)) 11 (.int .i64 (IntKind.i64.wrap (x_1806.fValue.tmod 2)))) 8 (.int .i64 last_1783)) 7 (.int .i64 times_1817)) 6 (.int .i64 value_1816)) 5 (.int .i64 (IntKind.i64.wrap (t_1780 + (IntKind.i64.wrap (5 * (IntKind.i64.wrap x_1806.fAfter))))))) 3 (.ptr 0 0), [.cel [.int .u64 s_1785, .int .i64 s_1786, .int .i64 s_1787, .int .i64 s_1788, .sl 5 false (s_1789.map eNetworkStream)], .cel [.int .u64 next_1811, .int .i64 next_1812, .int .i64 next_1813, .int .i64 next_1814, .sl 5 false (next_1815.map eNetworkStream)]]⟩
noncomputable def f6_J2 (x_1806 : Law56Beat) (value_1781 : Int) (t_1780 : Int) (v_1784 : Int) (last_1783 : Int) (beats_1737 : (List Law56Beat)) (s_1785 : Int) (s_1786 : Int) (s_1787 : Int) (s_1788 : Int) (s_1789 : (List NetworkStream)) (times_1782 : Int) : Jn ((List NetworkPacket) × Int × Int × Int × Int × Int × (List NetworkStream)) (Ctl (Int × Int × Int × Int × Int × Int × Int × Int × Int × (List NetworkStream)) ((Unit) ⊕ (Unit))) where
  run := fun (l_1809, e_1810, next_1811, next_1812, next_1813, next_1814, next_1815) => (if (decide (e_1810 ≠ 0)) = true then (some (.brk (Sum.inr ()))) else (if (decide ((IntKind.i64.wrap (x_1806.fValue.tmod 2)) ≠ value_1781)) = true then ((f6_J3 l_1809 x_1806 t_1780 v_1784 next_1811 next_1812 next_1813 next_1814 next_1815 last_1783 beats_1737 s_1785 s_1786 s_1787 s_1788 s_1789).run ((IntKind.i64.wrap (x_1806.fValue.tmod 2)), 0)) else ((f6_J3 l_1809 x_1806 t_1780 v_1784 next_1811 next_1812 next_1813 next_1814 next_1815 last_1783 beats_1737 s_1785 s_1786 s_1787 s_1788 s_1789).run (value_1781, times_1782))))
  cst := fun (l_1809, e_1810, next_1811, next_1812, next_1813, next_1814, next_1815) => ⟨put (put (put (put (put (put (put (put (put (put (put (put (fun _ => .junk) 33 (.int .i64 v_1784)) 32 (.int .i64 ((beats_1737.length : Nat) : Int))) 31 (.sl 3 false (beats_1737.map eLaw56Beat))) 14 (.int .i64 e_1810)) 13 (.sl 7 false (l_1809.map eNetworkPacket))) 12 (.ptr 1 0)) 11 (.int .i64 (IntKind.i64.wrap (x_1806.fValue.tmod 2)))) 8 (.int .i64 last_1783)) 7 (.int .i64 times_1782)) 6 (.int .i64 value_1781)) 5 (.int .i64 (IntKind.i64.wrap (t_1780 + (IntKind.i64.wrap (5 * (IntKind.i64.wrap x_1806.fAfter))))))) 3 (.ptr 0 0), [.cel [.int .u64 s_1785, .int .i64 s_1786, .int .i64 s_1787, .int .i64 s_1788, .sl 5 false (s_1789.map eNetworkStream)], .cel [.int .u64 next_1811, .int .i64 next_1812, .int .i64 next_1813, .int .i64 next_1814, .sl 5 false (next_1815.map eNetworkStream)]]⟩
noncomputable def f6_L1 (beats_1737 : (List Law56Beat)) : Lp (Int × Int × Int × Int × Int × Int × Int × Int × Int × (List NetworkStream)) ((Unit) ⊕ (Unit)) where
  body := fun (t_1780, value_1781, times_1782, last_1783, v_1784, s_1785, s_1786, s_1787, s_1788, s_1789) => (if (decide (v_1784 < ((beats_1737.length : Nat) : Int))) = true then (at? beats_1737 v_1784).bind fun x_1806 => (f27 1 (IntKind.i64.wrap (x_1806.fValue.tmod 2))).bind fun r_1820 => (f23 (NetworkSender.mk s_1785 s_1786 s_1787 s_1788 s_1789) (IntKind.i64.wrap (t_1780 + (IntKind.i64.wrap (5 * (IntKind.i64.wrap x_1806.fAfter))))) ([r_1820])).bind fun r_1821 => ((f6_J2 x_1806 value_1781 t_1780 v_1784 last_1783 beats_1737 s_1785 s_1786 s_1787 s_1788 s_1789 times_1782).run (r_1821.2.1, r_1821.2.2, r_1821.1.fSource, r_1821.1.fPriority, r_1821.1.fSync, r_1821.1.fPulse, r_1821.1.fStreams)) else (some (.brk (Sum.inl ()))))
  cst := fun (t_1780, value_1781, times_1782, last_1783, v_1784, s_1785, s_1786, s_1787, s_1788, s_1789) => ⟨put (put (put (put (put (put (put (put (fun _ => .junk) 33 (.int .i64 v_1784)) 32 (.int .i64 ((beats_1737.length : Nat) : Int))) 31 (.sl 3 false (beats_1737.map eLaw56Beat))) 8 (.int .i64 last_1783)) 7 (.int .i64 times_1782)) 6 (.int .i64 value_1781)) 5 (.int .i64 t_1780)) 3 (.ptr 0 0), [.cel [.int .u64 s_1785, .int .i64 s_1786, .int .i64 s_1787, .int .i64 s_1788, .sl 5 false (s_1789.map eNetworkStream)]]⟩
def c6_0 : C := .cond (.t 25) (.seq (.reg [iI 26 (.mv (.t 4)), iI 27 (.bin .eql (.t 26) (.c (.int .i64 0))), iI 28 (.mv (.t 27)), iG (some 29) 28 true (.call (.c (.fn 14 [])) []), iI 30 (.pick (.t 28) (.t 29) (.c (.bool false))), iI 2 (.mv (.t 30))]) .ret) (.skip)
def c6_1 : C := .cond (.t 58) (.seq (.reg [iI 2 (.mv (.c (.bool false)))]) .ret) (.skip)
def c6_2 : C := .cond (.t 61) (.reg [iI 62 (.mv (.t 11)), iI 6 (.mv (.t 62)), iI 7 (.mv (.c (.int .i64 0)))]) (.skip)
def c6_3 : C := .cond (.t 74) (.seq (.reg [iI 2 (.mv (.c (.bool false)))]) .ret) (.skip)
def c6_4 : C := .cond (.t 88) (.seq (.reg [iI 2 (.mv (.c (.bool false)))]) .ret) (.skip)
def c6_5 : C := .seq (.regq [iI 81 (.mv (.t 13)), iI 82 (.iaddr 7 (.t 81) (.c (.int .i64 0))), iI 83 (.faddr 6 (.t 82)), iI 84 (.load 0 (.t 83)), iI 85 (.mv (.t 11)), iI 86 (.call (.c (.fn 27 [])) [(.c (.int .i64 1)), (.t 85)]), iI 87 (.fld 1 0 (.t 86)), iI 88 (.bin .neq (.t 84) (.t 87))]) c6_4
def c6_6 : C := .cond (.t 77) (.seq (.reg [iI 78 (.mv (.t 7)), iI 79 (.bin .add (.t 78) (.c (.int .i64 1))), iI 80 (.mv (.t 5)), iI 7 (.mv (.t 79)), iI 8 (.mv (.t 80))]) c6_5) (.skip)
def c6_7 : C := .reg [iI 89 (.load 5 (.t 12)), iN (.store 5 (.t 3) (.t 89))]
def c6_8 : C := .seq (.seq (.reg [iI 75 (.mv (.t 13)), iI 76 (.len 0 (.t 75)), iI 77 (.bin .eql (.t 76) (.c (.int .i64 1)))]) c6_6) c6_7
def c6_9 : C := .seq (.seq (.reg [iI 63 (.mv (.t 13)), iI 64 (.len 0 (.t 63)), iI 65 (.bin .eql (.t 64) (.c (.int .i64 1))), iI 66 (.mv (.t 7)), iI 67 (.bin .lss (.t 66) (.c (.int .i64 3))), iI 68 (.mv (.t 67)), iG (some 69) 68 false (.mv (.t 5)), iG (some 70) 68 false (.mv (.t 8)), iG (some 71) 68 false (.bin .sub (.t 69) (.t 70)), iG (some 72) 68 false (.bin .geq (.t 71) (.c (.int .i64 1000))), iI 73 (.pick (.t 68) (.c (.bool true)) (.t 72)), iI 74 (.binb .neq (.t 65) (.t 73))]) c6_3) c6_8
def c6_10 : C := .seq (.seq (.reg [iI 59 (.mv (.t 11)), iI 60 (.mv (.t 6)), iI 61 (.bin .neq (.t 59) (.t 60))]) c6_2) c6_9
def c6_11 : C := .seq (.seq (.reg [iI 57 (.mv (.t 14)), iI 58 (.bin .neq (.t 57) (.c (.int .i64 0)))]) c6_1) c6_10
def c6_12 : C := .seq (.regt (.fork [iI 48 (.load 5 (.t 3)), iI 49 (.mv (.t 5)), iI 50 (.mv (.t 11))] (.fork [iI 51 (.call (.c (.fn 27 [])) [(.c (.int .i64 1)), (.t 50)]), iI 52 (.mkslp 2 1 (.agg [(.int .i64 0), (.str [])]) [(0, (.t 51))])] (.run [iI 53 (.call (.c (.fn 23 [])) [(.t 48), (.t 49), (.t 52)]), iI 47 (.mv (.t 53)), iI 54 (.ext (.t 47) 0), iI 55 (.ext (.t 47) 1), iI 56 (.ext (.t 47) 2), iI 12 (.alloc [(1, (.int .u64 0)), (1, (.int .i64 0)), (1, (.int .i64 0)), (1, (.int .i64 0)), (1, (.sl 5 true []))]), iN (.store 5 (.t 12) (.t 54)), iI 13 (.mv (.t 55)), iI 14 (.mv (.t 56))]) (.run [iI 12 (.alloc [(1, (.int .u64 0)), (1, (.int .i64 0)), (1, (.int .i64 0)), (1, (.int .i64 0)), (1, (.sl 5 true []))]), iI 53 (.call (.c (.fn 23 [])) [(.t 48), (.t 49), (.t 52)]), iI 47 (.mv (.t 53)), iI 54 (.ext (.t 47) 0), iI 55 (.ext (.t 47) 1), iI 56 (.ext (.t 47) 2), iN (.store 5 (.t 12) (.t 54)), iI 13 (.mv (.t 55)), iI 14 (.mv (.t 56))])) (.run [iI 12 (.alloc [(1, (.int .u64 0)), (1, (.int .i64 0)), (1, (.int .i64 0)), (1, (.int .i64 0)), (1, (.sl 5 true []))]), iI 51 (.call (.c (.fn 27 [])) [(.c (.int .i64 1)), (.t 50)]), iI 52 (.mkslp 2 1 (.agg [(.int .i64 0), (.str [])]) [(0, (.t 51))]), iI 53 (.call (.c (.fn 23 [])) [(.t 48), (.t 49), (.t 52)]), iI 47 (.mv (.t 53)), iI 54 (.ext (.t 47) 0), iI 55 (.ext (.t 47) 1), iI 56 (.ext (.t 47) 2), iN (.store 5 (.t 12) (.t 54)), iI 13 (.mv (.t 55)), iI 14 (.mv (.t 56))]))) c6_11
def c6_13 : C := .seq (.reg [iI 43 (.faddr 2 (.t 10)), iI 44 (.load 0 (.t 43)), iI 45 (.bin .rem (.t 44) (.c (.int .u8 2))), iI 46 (.cint .i64 (.t 45)), iI 11 (.mv (.t 46))]) c6_12
def c6_14 : C := .seq (.reg [iI 37 (.mv (.t 5)), iI 38 (.faddr 1 (.t 10)), iI 39 (.load 0 (.t 38)), iI 40 (.cint .i64 (.t 39)), iI 41 (.bin .mul (.c (.int .i64 5)) (.t 40)), iI 42 (.bin .add (.t 37) (.t 41)), iI 5 (.mv (.t 42))]) c6_13
def c6_15 : C := .reg [iI 90 (.bin .add (.t 33) (.c (.int .i64 1))), iI 33 (.mv (.t 90))]
def c6_16 : C := .seq (.block 1 (.seq (.reg [iI 35 (.iaddr 3 (.t 31) (.t 33)), iI 36 (.load 3 (.t 35)), iI 10 (.alloc [(1, (.int .u8 0)), (1, (.int .u8 0)), (1, (.int .u8 0))]), iN (.store 3 (.t 10) (.t 36))]) c6_14)) c6_15
def c6_17 : C := .seq (.cond (.t 34) (.skip) (.exit 0)) c6_16
def c6_18 : C := .block 0 (.loop (.seq (.reg [iI 34 (.bin .lss (.t 33) (.t 32))]) c6_17))
def c6_19 : C := .seq (.reg [iI 91 (.call (.c (.fn 14 [])) []), iI 2 (.mv (.t 91))]) .ret
def c6_20 : C := .seq (.seq (.reg [iI 31 (.mv (.t 0)), iI 32 (.len 0 (.t 31)), iI 33 (.mv (.c (.int .i64 0)))]) c6_18) c6_19
def c6_21 : C := .seq (.reg [iI 5 (.mv (.c (.int .i64 0))), iI 6 (.mv (.c (.int .i64 (-1)))), iI 7 (.mv (.c (.int .i64 0))), iI 8 (.mv (.c (.int .i64 0)))]) c6_20
def c6_22 : C := .seq (.seq (.reg [iI 19 (.mv (.t 4)), iI 20 (.bin .neq (.t 19) (.c (.int .i64 0))), iI 21 (.mv (.t 20)), iG (some 22) 21 false (.mv (.t 0)), iG (some 23) 21 false (.len 0 (.t 22)), iG (some 24) 21 false (.bin .gtr (.t 23) (.c (.int .i64 40))), iI 25 (.pick (.t 21) (.c (.bool true)) (.t 24))]) c6_0) c6_21
def c6_23 : C := .seq (.reg [iI 16 (.call (.c (.fn 17 [])) [(.c (.int .u64 9)), (.c (.int .i64 100)), (.c (.int .i64 0))]), iI 15 (.mv (.t 16)), iI 17 (.ext (.t 15) 0), iI 18 (.ext (.t 15) 1), iI 3 (.alloc [(1, (.int .u64 0)), (1, (.int .i64 0)), (1, (.int .i64 0)), (1, (.int .i64 0)), (1, (.sl 5 true []))]), iN (.store 5 (.t 3) (.t 17)), iI 4 (.mv (.t 18))]) c6_22
def ir6 : C := .seq (.reg [iI 2 (.mv (.c (.bool false)))]) c6_23
theorem fd6 : fd? Try.prog 6 = some (92, [.slot 2], ir6) := by kernel_rfl
noncomputable def f6 (beats_1737 : (List Law56Beat)) : Option (Bool) :=
  (f17 9 100 0).bind fun r_1738 => (if (decide (r_1738.2 ≠ 0)) = true then (if (decide (r_1738.2 = 0)) = true then (f14).bind fun r_1741 => (some r_1741) else (some false)) else (if (decide (40 < ((beats_1737.length : Nat) : Int))) = true then (if (decide (r_1738.2 = 0)) = true then (f14).bind fun r_1742 => (some r_1742) else (some false)) else ((Lp.run (f6_L1 beats_1737) (0, (-1), 0, 0, 0, r_1738.1.fSource, r_1738.1.fPriority, r_1738.1.fSync, r_1738.1.fPulse, r_1738.1.fStreams)).bind fun r_ => match r_ with | (Sum.inl _) => (f14).bind fun r_1804 => (some r_1804) | (Sum.inr _) => (some false))))
theorem f6_ok {beats_1737 : (List Law56Beat)} {r_ : Bool} (H : f6 beats_1737 = some r_) : Pure Try.prog 6 [.sl 3 false (beats_1737.map eLaw56Beat)] (· = .bool r_) := by
  refine Pure.walk2 fd6 none (Nat.le_of_ble_eq_true rfl) (by rfl) fun Q hQ => ?_
  simp only [f6] at H
  refine AW.rseq ?_
  try simp only [↓wk, ↓wl, nc, evV, wrapBits_eq, ↓reduceIte, Nat.reduceEqDiff, Nat.reduceAdd, Nat.reduceSub, Nat.reduceLeDiff, Nat.reduceLT, Nat.reduceBEq, reduceCtorEq, Int.reduceEq]
  refine AW.rseq ?_
  try simp only [↓wk, ↓wl, nc, evV, wrapBits_eq, ↓reduceIte, Nat.reduceEqDiff, Nat.reduceAdd, Nat.reduceSub, Nat.reduceLeDiff, Nat.reduceLT, Nat.reduceBEq, reduceCtorEq, Int.reduceEq]
  refine evTs_pure hFn H (fun _ h => f17_ok h) (by rfl) (by rfl) (by rfl) (by rfl) (fun _ => rfl) ?_ <;> clear H <;> intro r_1738 H
  try simp only [eL, eNetworkSender, ↓wk, ↓wl, nc, evV, wrapBits_eq, ↓reduceIte, Nat.reduceEqDiff, Nat.reduceAdd, Nat.reduceSub, Nat.reduceLeDiff, Nat.reduceLT, Nat.reduceBEq, reduceCtorEq, Int.reduceEq]
  refine AW.sseq ?_
  refine AW.rseq ?_
  try simp only [↓wk, ↓wl, nc, evV, wrapBits_eq, ↓reduceIte, Nat.reduceEqDiff, Nat.reduceAdd, Nat.reduceSub, Nat.reduceLeDiff, Nat.reduceLT, Nat.reduceBEq, reduceCtorEq, Int.reduceEq]
  refine evTs_ifg H (by rfl) ?_ ?_ <;> clear H <;> intro H
  · try simp only [↓wk, ↓wl, nc, evV, wrapBits_eq, ↓reduceIte, Nat.reduceEqDiff, Nat.reduceAdd, Nat.reduceSub, Nat.reduceLeDiff, Nat.reduceLT, Nat.reduceBEq, reduceCtorEq, Int.reduceEq]
    refine AW.ift (by rfl) ?_
    refine AW.rseq ?_
    try simp only [↓wk, ↓wl, nc, evV, wrapBits_eq, ↓reduceIte, Nat.reduceEqDiff, Nat.reduceAdd, Nat.reduceSub, Nat.reduceLeDiff, Nat.reduceLT, Nat.reduceBEq, reduceCtorEq, Int.reduceEq]
    refine evTs_ifg H (by rfl) ?_ ?_ <;> clear H <;> intro H
    · try simp only [↓wk, ↓wl, nc, evV, wrapBits_eq, ↓reduceIte, Nat.reduceEqDiff, Nat.reduceAdd, Nat.reduceSub, Nat.reduceLeDiff, Nat.reduceLT, Nat.reduceBEq, reduceCtorEq, Int.reduceEq]
      refine evTs_pure hFn H (fun _ h => f14_ok h) (by rfl) (by rfl) (by rfl) (by rfl) (fun _ => rfl) ?_ <;> clear H <;> intro r_1741 H
      try simp only [eL, ↓wk, ↓wl, nc, evV, wrapBits_eq, ↓reduceIte, Nat.reduceEqDiff, Nat.reduceAdd, Nat.reduceSub, Nat.reduceLeDiff, Nat.reduceLT, Nat.reduceBEq, reduceCtorEq, Int.reduceEq]
      refine AW.ret ?_
      refine seqQ.ret ?_
      cases H
      exact hQ _ _ _ _ (.inr rfl) (by simp only [resVs, omap, resV, ↓wk, ↓wl, nc, evV, wrapBits_eq, ↓reduceIte, Nat.reduceEqDiff, Nat.reduceAdd, Nat.reduceSub, Nat.reduceLeDiff, Nat.reduceLT, Nat.reduceBEq, reduceCtorEq, Int.reduceEq]; rfl) (hand_plain (by rfl)) (by rfl)
    · try simp only [↓wk, ↓wl, nc, evV, wrapBits_eq, ↓reduceIte, Nat.reduceEqDiff, Nat.reduceAdd, Nat.reduceSub, Nat.reduceLeDiff, Nat.reduceLT, Nat.reduceBEq, reduceCtorEq, Int.reduceEq]
      refine AW.ret ?_
      refine seqQ.ret ?_
      cases H
      exact hQ _ _ _ _ (.inr rfl) (by simp only [resVs, omap, resV, ↓wk, ↓wl, nc, evV, wrapBits_eq, ↓reduceIte, Nat.reduceEqDiff, Nat.reduceAdd, Nat.reduceSub, Nat.reduceLeDiff, Nat.reduceLT, Nat.reduceBEq, reduceCtorEq, Int.reduceEq]; rfl) (hand_plain (by rfl)) (by rfl)
  · try simp only [↓wk, ↓wl, nc, evV, wrapBits_eq, ↓reduceIte, Nat.reduceEqDiff, Nat.reduceAdd, Nat.reduceSub, Nat.reduceLeDiff, Nat.reduceLT, Nat.reduceBEq, reduceCtorEq, Int.reduceEq]
    refine AW.ifc H (by rfl) ?_ ?_ <;> clear H <;> intro H
    · refine AW.rseq ?_
      try simp only [↓wk, ↓wl, nc, evV, wrapBits_eq, ↓reduceIte, Nat.reduceEqDiff, Nat.reduceAdd, Nat.reduceSub, Nat.reduceLeDiff, Nat.reduceLT, Nat.reduceBEq, reduceCtorEq, Int.reduceEq]
      refine evTs_ifg H (by rfl) ?_ ?_ <;> clear H <;> intro H
      · try simp only [↓wk, ↓wl, nc, evV, wrapBits_eq, ↓reduceIte, Nat.reduceEqDiff, Nat.reduceAdd, Nat.reduceSub, Nat.reduceLeDiff, Nat.reduceLT, Nat.reduceBEq, reduceCtorEq, Int.reduceEq]
        refine evTs_pure hFn H (fun _ h => f14_ok h) (by rfl) (by rfl) (by rfl) (by rfl) (fun _ => rfl) ?_ <;> clear H <;> intro r_1742 H
        try simp only [eL, ↓wk, ↓wl, nc, evV, wrapBits_eq, ↓reduceIte, Nat.reduceEqDiff, Nat.reduceAdd, Nat.reduceSub, Nat.reduceLeDiff, Nat.reduceLT, Nat.reduceBEq, reduceCtorEq, Int.reduceEq]
        refine AW.ret ?_
        refine seqQ.ret ?_
        cases H
        exact hQ _ _ _ _ (.inr rfl) (by simp only [resVs, omap, resV, ↓wk, ↓wl, nc, evV, wrapBits_eq, ↓reduceIte, Nat.reduceEqDiff, Nat.reduceAdd, Nat.reduceSub, Nat.reduceLeDiff, Nat.reduceLT, Nat.reduceBEq, reduceCtorEq, Int.reduceEq]; rfl) (hand_plain (by rfl)) (by rfl)
      · try simp only [↓wk, ↓wl, nc, evV, wrapBits_eq, ↓reduceIte, Nat.reduceEqDiff, Nat.reduceAdd, Nat.reduceSub, Nat.reduceLeDiff, Nat.reduceLT, Nat.reduceBEq, reduceCtorEq, Int.reduceEq]
        refine AW.ret ?_
        refine seqQ.ret ?_
        cases H
        exact hQ _ _ _ _ (.inr rfl) (by simp only [resVs, omap, resV, ↓wk, ↓wl, nc, evV, wrapBits_eq, ↓reduceIte, Nat.reduceEqDiff, Nat.reduceAdd, Nat.reduceSub, Nat.reduceLeDiff, Nat.reduceLT, Nat.reduceBEq, reduceCtorEq, Int.reduceEq]; rfl) (hand_plain (by rfl)) (by rfl)
    · refine AW.skip ?_
      refine seqQ.norm ?_
      refine AW.rseq ?_
      try simp only [↓wk, ↓wl, nc, evV, wrapBits_eq, ↓reduceIte, Nat.reduceEqDiff, Nat.reduceAdd, Nat.reduceSub, Nat.reduceLeDiff, Nat.reduceLT, Nat.reduceBEq, reduceCtorEq, Int.reduceEq]
      refine AW.sseq ?_
      refine AW.rseq ?_
      try simp only [↓wk, ↓wl, nc, evV, wrapBits_eq, ↓reduceIte, Nat.reduceEqDiff, Nat.reduceAdd, Nat.reduceSub, Nat.reduceLeDiff, Nat.reduceLT, Nat.reduceBEq, reduceCtorEq, Int.reduceEq]
      refine AW.bend ?_
      refine AW.iter H ((Le.none [0] [3, 5, 6, 7, 8, 31, 32, 33] (by decide) (by simp only [f6_L1, List.length_set, Option.map_some, restrict_eq, renS_nil, renS_cons, renB_els, renB_cel, renB_dead, deep_eq, map_ren_enc, ren_agg', ren_tup', ren_fn', ren_int', ren_bool', ren_str', ren_sl', ren_pro', ren_nilp', ren_nilfn', ren_junk', ren_ptr', ren_row', ren_arow', ren_eptr', vm, List.idxOf?_cons, List.idxOf?_nil, beq_self_eq_true, Option.map_none, List.getD_cons_zero, List.getD_cons_succ, ↓wk, ↓wl, nc, evV, wrapBits_eq, ↓reduceIte, Nat.reduceEqDiff, Nat.reduceAdd, Nat.reduceSub, Nat.reduceLeDiff, Nat.reduceLT, Nat.reduceBEq, reduceCtorEq, Int.reduceEq]))) ?_ <;> clear H
      rintro ⟨t_1780, value_1781, times_1782, last_1783, v_1784, s_1785, s_1786, s_1787, s_1788, s_1789⟩ x_ st0_ H hst_
      simp only [f6_L1] at H hst_
      subst hst_
      refine AW.rseq ?_
      try simp only [↓wk, ↓wl, nc, evV, wrapBits_eq, ↓reduceIte, Nat.reduceEqDiff, Nat.reduceAdd, Nat.reduceSub, Nat.reduceLeDiff, Nat.reduceLT, Nat.reduceBEq, reduceCtorEq, Int.reduceEq]
      refine AW.sseq ?_
      refine AW.ifc H (by rfl) ?_ ?_ <;> clear H <;> intro H
      · refine AW.skip ?_
        refine seqQ.norm ?_
        refine AW.bseq ?_
        refine AW.rseq ?_
        try simp only [↓wk, ↓wl, nc, evV, wrapBits_eq, ↓reduceIte, Nat.reduceEqDiff, Nat.reduceAdd, Nat.reduceSub, Nat.reduceLeDiff, Nat.reduceLT, Nat.reduceBEq, reduceCtorEq, Int.reduceEq]
        refine evTs_at (enc := eLaw56Beat) H (by rfl) (by rfl) ?_ <;> clear H <;> intro x_1806 H
        try simp only [eLaw56Beat, eL, ↓wk, ↓wl, nc, evV, wrapBits_eq, ↓reduceIte, Nat.reduceEqDiff, Nat.reduceAdd, Nat.reduceSub, Nat.reduceLeDiff, Nat.reduceLT, Nat.reduceBEq, reduceCtorEq, Int.reduceEq]
        refine AW.rseq ?_
        try simp only [↓wk, ↓wl, nc, evV, wrapBits_eq, ↓reduceIte, Nat.reduceEqDiff, Nat.reduceAdd, Nat.reduceSub, Nat.reduceLeDiff, Nat.reduceLT, Nat.reduceBEq, reduceCtorEq, Int.reduceEq]
        refine AW.rseq ?_
        try simp only [↓wk, ↓wl, nc, evV, wrapBits_eq, ↓reduceIte, Nat.reduceEqDiff, Nat.reduceAdd, Nat.reduceSub, Nat.reduceLeDiff, Nat.reduceLT, Nat.reduceBEq, reduceCtorEq, Int.reduceEq]
        refine AW.join (f6_J2 x_1806 value_1781 t_1780 v_1784 last_1783 beats_1737 s_1785 s_1786 s_1787 s_1788 s_1789 times_1782) H ?_ fun hf6_J2 => ?_
        · clear H
          rintro ⟨l_1809, e_1810, next_1811, next_1812, next_1813, next_1814, next_1815⟩ st0_ H hst_
          simp only [f6_J2] at H hst_
          subst hst_
          refine AW.sseq ?_
          refine AW.rseq ?_
          try simp only [↓wk, ↓wl, nc, evV, wrapBits_eq, ↓reduceIte, Nat.reduceEqDiff, Nat.reduceAdd, Nat.reduceSub, Nat.reduceLeDiff, Nat.reduceLT, Nat.reduceBEq, reduceCtorEq, Int.reduceEq]
          refine AW.ifc H (by rfl) ?_ ?_ <;> clear H <;> intro H
          · refine AW.rseq ?_
            try simp only [↓wk, ↓wl, nc, evV, wrapBits_eq, ↓reduceIte, Nat.reduceEqDiff, Nat.reduceAdd, Nat.reduceSub, Nat.reduceLeDiff, Nat.reduceLT, Nat.reduceBEq, reduceCtorEq, Int.reduceEq]
            refine AW.ret ?_
            refine seqQ.ret ?_
            refine blkQ.ret ?_
            refine loopQ.ret H ?_ <;> clear H <;> intro H
            try dsimp only at H
            refine blk0.ret ?_
            refine seqQ.ret ?_
            cases H
            exact hQ _ _ _ _ (.inr rfl) (by simp only [resVs, omap, resV, ↓wk, ↓wl, nc, evV, wrapBits_eq, ↓reduceIte, Nat.reduceEqDiff, Nat.reduceAdd, Nat.reduceSub, Nat.reduceLeDiff, Nat.reduceLT, Nat.reduceBEq, reduceCtorEq, Int.reduceEq]; rfl) (hand_plain (by rfl)) (by rfl)
          · refine AW.skip ?_
            refine seqQ.norm ?_
            refine AW.join (f6_J3 l_1809 x_1806 t_1780 v_1784 next_1811 next_1812 next_1813 next_1814 next_1815 last_1783 beats_1737 s_1785 s_1786 s_1787 s_1788 s_1789) H ?_ fun hf6_J3 => ?_
            · clear H
              rintro ⟨value_1816, times_1817⟩ st0_ H hst_
              simp only [f6_J3] at H hst_
              subst hst_
              refine AW.join (f6_J4 l_1809 x_1806 t_1780 value_1816 times_1817 v_1784 next_1811 next_1812 next_1813 next_1814 next_1815 last_1783 beats_1737 s_1785 s_1786 s_1787 s_1788 s_1789) H ?_ fun hf6_J4 => ?_
              · clear H
                rintro _ st0_ H hst_
                simp only [f6_J4] at H hst_
                subst hst_
                refine AW.sseq ?_
                refine AW.rseq ?_
                try simp only [↓wk, ↓wl, nc, evV, wrapBits_eq, ↓reduceIte, Nat.reduceEqDiff, Nat.reduceAdd, Nat.reduceSub, Nat.reduceLeDiff, Nat.reduceLT, Nat.reduceBEq, reduceCtorEq, Int.reduceEq]
                refine AW.ifc H (by rfl) ?_ ?_ <;> clear H <;> intro H
                · refine AW.rseq ?_
                  try simp only [↓wk, ↓wl, nc, evV, wrapBits_eq, ↓reduceIte, Nat.reduceEqDiff, Nat.reduceAdd, Nat.reduceSub, Nat.reduceLeDiff, Nat.reduceLT, Nat.reduceBEq, reduceCtorEq, Int.reduceEq]
                  refine AW.rqseq ?_
                  try simp only [↓wk, ↓wl, nc, evV, wrapBits_eq, ↓reduceIte, Nat.reduceEqDiff, Nat.reduceAdd, Nat.reduceSub, Nat.reduceLeDiff, Nat.reduceLT, Nat.reduceBEq, reduceCtorEq, Int.reduceEq]
                  refine evTs_at (enc := eNetworkPacket) H (by rfl) (by rfl) ?_ <;> clear H <;> intro x_1818 H
                  try simp only [eNetworkPacket, eL, ↓wk, ↓wl, nc, evV, wrapBits_eq, ↓reduceIte, Nat.reduceEqDiff, Nat.reduceAdd, Nat.reduceSub, Nat.reduceLeDiff, Nat.reduceLT, Nat.reduceBEq, reduceCtorEq, Int.reduceEq]
                  refine evTs_pure hFnq H (fun _ h => f27_ok h) (by rfl) (by rfl) (by rfl) (by rfl) (fun _ => rfl) ?_ <;> clear H <;> intro r_1819 H
                  try simp only [eL, eApiFrame, ↓wk, ↓wl, nc, evV, wrapBits_eq, ↓reduceIte, Nat.reduceEqDiff, Nat.reduceAdd, Nat.reduceSub, Nat.reduceLeDiff, Nat.reduceLT, Nat.reduceBEq, reduceCtorEq, Int.reduceEq]
                  refine AW.ifc H (by rfl) ?_ ?_ <;> clear H <;> intro H
                  · refine AW.rseq ?_
                    try simp only [↓wk, ↓wl, nc, evV, wrapBits_eq, ↓reduceIte, Nat.reduceEqDiff, Nat.reduceAdd, Nat.reduceSub, Nat.reduceLeDiff, Nat.reduceLT, Nat.reduceBEq, reduceCtorEq, Int.reduceEq]
                    refine AW.ret ?_
                    refine seqQ.ret ?_
                    refine blkQ.ret ?_
                    refine loopQ.ret H ?_ <;> clear H <;> intro H
                    try dsimp only at H
                    refine blk0.ret ?_
                    refine seqQ.ret ?_
                    cases H
                    exact hQ _ _ _ _ (.inr rfl) (by simp only [resVs, omap, resV, ↓wk, ↓wl, nc, evV, wrapBits_eq, ↓reduceIte, Nat.reduceEqDiff, Nat.reduceAdd, Nat.reduceSub, Nat.reduceLeDiff, Nat.reduceLT, Nat.reduceBEq, reduceCtorEq, Int.reduceEq]; rfl) (hand_plain (by rfl)) (by rfl)
                  · refine AW.skip ?_
                    refine seqQ.norm ?_
                    refine AW.rend ?_
                    try simp only [↓wk, ↓wl, nc, evV, wrapBits_eq, ↓reduceIte, Nat.reduceEqDiff, Nat.reduceAdd, Nat.reduceSub, Nat.reduceLeDiff, Nat.reduceLT, Nat.reduceBEq, reduceCtorEq, Int.reduceEq]
                    refine blkQ.norm ?_
                    refine AW.rend ?_
                    try simp only [↓wk, ↓wl, nc, evV, wrapBits_eq, ↓reduceIte, Nat.reduceEqDiff, Nat.reduceAdd, Nat.reduceSub, Nat.reduceLeDiff, Nat.reduceLT, Nat.reduceBEq, reduceCtorEq, Int.reduceEq]
                    exact loopQ.next H ((Le.none [0] [3, 5, 6, 7, 8, 31, 32, 33] (by decide) (by simp only [f6_L1, List.length_set, Option.map_some, restrict_eq, renS_nil, renS_cons, renB_els, renB_cel, renB_dead, deep_eq, map_ren_enc, ren_agg', ren_tup', ren_fn', ren_int', ren_bool', ren_str', ren_sl', ren_pro', ren_nilp', ren_nilfn', ren_junk', ren_ptr', ren_row', ren_arow', ren_eptr', vm, List.idxOf?_cons, List.idxOf?_nil, beq_self_eq_true, Option.map_none, List.getD_cons_zero, List.getD_cons_succ, ↓wk, ↓wl, nc, evV, wrapBits_eq, ↓reduceIte, Nat.reduceEqDiff, Nat.reduceAdd, Nat.reduceSub, Nat.reduceLeDiff, Nat.reduceLT, Nat.reduceBEq, reduceCtorEq, Int.reduceEq])))
                · refine AW.skip ?_
                  refine seqQ.norm ?_
                  refine AW.rend ?_
                  try simp only [↓wk, ↓wl, nc, evV, wrapBits_eq, ↓reduceIte, Nat.reduceEqDiff, Nat.reduceAdd, Nat.reduceSub, Nat.reduceLeDiff, Nat.reduceLT, Nat.reduceBEq, reduceCtorEq, Int.reduceEq]
                  refine blkQ.norm ?_
                  refine AW.rend ?_
                  try simp only [↓wk, ↓wl, nc, evV, wrapBits_eq, ↓reduceIte, Nat.reduceEqDiff, Nat.reduceAdd, Nat.reduceSub, Nat.reduceLeDiff, Nat.reduceLT, Nat.reduceBEq, reduceCtorEq, Int.reduceEq]
                  exact loopQ.next H ((Le.none [0] [3, 5, 6, 7, 8, 31, 32, 33] (by decide) (by simp only [f6_L1, List.length_set, Option.map_some, restrict_eq, renS_nil, renS_cons, renB_els, renB_cel, renB_dead, deep_eq, map_ren_enc, ren_agg', ren_tup', ren_fn', ren_int', ren_bool', ren_str', ren_sl', ren_pro', ren_nilp', ren_nilfn', ren_junk', ren_ptr', ren_row', ren_arow', ren_eptr', vm, List.idxOf?_cons, List.idxOf?_nil, beq_self_eq_true, Option.map_none, List.getD_cons_zero, List.getD_cons_succ, ↓wk, ↓wl, nc, evV, wrapBits_eq, ↓reduceIte, Nat.reduceEqDiff, Nat.reduceAdd, Nat.reduceSub, Nat.reduceLeDiff, Nat.reduceLT, Nat.reduceBEq, reduceCtorEq, Int.reduceEq])))
              · refine AW.rseq ?_
                try simp only [↓wk, ↓wl, nc, evV, wrapBits_eq, ↓reduceIte, Nat.reduceEqDiff, Nat.reduceAdd, Nat.reduceSub, Nat.reduceLeDiff, Nat.reduceLT, Nat.reduceBEq, reduceCtorEq, Int.reduceEq]
                refine evTs_ifg H (by rfl) ?_ ?_ <;> clear H <;> intro H
                · try simp only [↓wk, ↓wl, nc, evV, wrapBits_eq, ↓reduceIte, Nat.reduceEqDiff, Nat.reduceAdd, Nat.reduceSub, Nat.reduceLeDiff, Nat.reduceLT, Nat.reduceBEq, reduceCtorEq, Int.reduceEq]
                  refine AW.ifc H (by rfl) ?_ ?_ <;> clear H <;> intro H
                  · refine AW.rseq ?_
                    try simp only [↓wk, ↓wl, nc, evV, wrapBits_eq, ↓reduceIte, Nat.reduceEqDiff, Nat.reduceAdd, Nat.reduceSub, Nat.reduceLeDiff, Nat.reduceLT, Nat.reduceBEq, reduceCtorEq, Int.reduceEq]
                    refine AW.ret ?_
                    refine seqQ.ret ?_
                    refine blkQ.ret ?_
                    refine loopQ.ret H ?_ <;> clear H <;> intro H
                    try dsimp only at H
                    refine blk0.ret ?_
                    refine seqQ.ret ?_
                    cases H
                    exact hQ _ _ _ _ (.inr rfl) (by simp only [resVs, omap, resV, ↓wk, ↓wl, nc, evV, wrapBits_eq, ↓reduceIte, Nat.reduceEqDiff, Nat.reduceAdd, Nat.reduceSub, Nat.reduceLeDiff, Nat.reduceLT, Nat.reduceBEq, reduceCtorEq, Int.reduceEq]; rfl) (hand_plain (by rfl)) (by rfl)
                  · refine AW.skip ?_
                    refine seqQ.norm ?_
                    exact hf6_J4 _ _ H ((Le.none [0, 1] [3, 5, 6, 7, 8, 11, 12, 13, 31, 32, 33] (by decide) (by simp only [f6_J4, List.length_set, Option.map_some, restrict_eq, renS_nil, renS_cons, renB_els, renB_cel, renB_dead, deep_eq, map_ren_enc, ren_agg', ren_tup', ren_fn', ren_int', ren_bool', ren_str', ren_sl', ren_pro', ren_nilp', ren_nilfn', ren_junk', ren_ptr', ren_row', ren_arow', ren_eptr', vm, List.idxOf?_cons, List.idxOf?_nil, beq_self_eq_true, Option.map_none, List.getD_cons_zero, List.getD_cons_succ, ↓wk, ↓wl, nc, evV, wrapBits_eq, ↓reduceIte, Nat.reduceEqDiff, Nat.reduceAdd, Nat.reduceSub, Nat.reduceLeDiff, Nat.reduceLT, Nat.reduceBEq, reduceCtorEq, Int.reduceEq])))
                · try simp only [↓wk, ↓wl, nc, evV, wrapBits_eq, ↓reduceIte, Nat.reduceEqDiff, Nat.reduceAdd, Nat.reduceSub, Nat.reduceLeDiff, Nat.reduceLT, Nat.reduceBEq, reduceCtorEq, Int.reduceEq]
                  refine AW.ifc H (by rfl) ?_ ?_ <;> clear H <;> intro H
                  · refine AW.rseq ?_
                    try simp only [↓wk, ↓wl, nc, evV, wrapBits_eq, ↓reduceIte, Nat.reduceEqDiff, Nat.reduceAdd, Nat.reduceSub, Nat.reduceLeDiff, Nat.reduceLT, Nat.reduceBEq, reduceCtorEq, Int.reduceEq]
                    refine AW.ret ?_
                    refine seqQ.ret ?_
                    refine blkQ.ret ?_
                    refine loopQ.ret H ?_ <;> clear H <;> intro H
                    try dsimp only at H
                    refine blk0.ret ?_
                    refine seqQ.ret ?_
                    cases H
                    exact hQ _ _ _ _ (.inr rfl) (by simp only [resVs, omap, resV, ↓wk, ↓wl, nc, evV, wrapBits_eq, ↓reduceIte, Nat.reduceEqDiff, Nat.reduceAdd, Nat.reduceSub, Nat.reduceLeDiff, Nat.reduceLT, Nat.reduceBEq, reduceCtorEq, Int.reduceEq]; rfl) (hand_plain (by rfl)) (by rfl)
                  · refine AW.skip ?_
                    refine seqQ.norm ?_
                    exact hf6_J4 _ _ H ((Le.none [0, 1] [3, 5, 6, 7, 8, 11, 12, 13, 31, 32, 33] (by decide) (by simp only [f6_J4, List.length_set, Option.map_some, restrict_eq, renS_nil, renS_cons, renB_els, renB_cel, renB_dead, deep_eq, map_ren_enc, ren_agg', ren_tup', ren_fn', ren_int', ren_bool', ren_str', ren_sl', ren_pro', ren_nilp', ren_nilfn', ren_junk', ren_ptr', ren_row', ren_arow', ren_eptr', vm, List.idxOf?_cons, List.idxOf?_nil, beq_self_eq_true, Option.map_none, List.getD_cons_zero, List.getD_cons_succ, ↓wk, ↓wl, nc, evV, wrapBits_eq, ↓reduceIte, Nat.reduceEqDiff, Nat.reduceAdd, Nat.reduceSub, Nat.reduceLeDiff, Nat.reduceLT, Nat.reduceBEq, reduceCtorEq, Int.reduceEq])))
            · refine AW.rseq ?_
              try simp only [↓wk, ↓wl, nc, evV, wrapBits_eq, ↓reduceIte, Nat.reduceEqDiff, Nat.reduceAdd, Nat.reduceSub, Nat.reduceLeDiff, Nat.reduceLT, Nat.reduceBEq, reduceCtorEq, Int.reduceEq]
              refine AW.ifc H (by rfl) ?_ ?_ <;> clear H <;> intro H
              · refine AW.rend ?_
                try simp only [↓wk, ↓wl, nc, evV, wrapBits_eq, ↓reduceIte, Nat.reduceEqDiff, Nat.reduceAdd, Nat.reduceSub, Nat.reduceLeDiff, Nat.reduceLT, Nat.reduceBEq, reduceCtorEq, Int.reduceEq]
                refine seqQ.norm ?_
                exact hf6_J3 _ _ H ((Le.none [0, 1] [3, 5, 6, 7, 8, 11, 12, 13, 31, 32, 33] (by decide) (by simp only [f6_J3, List.length_set, Option.map_some, restrict_eq, renS_nil, renS_cons, renB_els, renB_cel, renB_dead, deep_eq, map_ren_enc, ren_agg', ren_tup', ren_fn', ren_int', ren_bool', ren_str', ren_sl', ren_pro', ren_nilp', ren_nilfn', ren_junk', ren_ptr', ren_row', ren_arow', ren_eptr', vm, List.idxOf?_cons, List.idxOf?_nil, beq_self_eq_true, Option.map_none, List.getD_cons_zero, List.getD_cons_succ, ↓wk, ↓wl, nc, evV, wrapBits_eq, ↓reduceIte, Nat.reduceEqDiff, Nat.reduceAdd, Nat.reduceSub, Nat.reduceLeDiff, Nat.reduceLT, Nat.reduceBEq, reduceCtorEq, Int.reduceEq])))
              · refine AW.skip ?_
                refine seqQ.norm ?_
                exact hf6_J3 _ _ H ((Le.none [0, 1] [3, 5, 6, 7, 8, 11, 12, 13, 31, 32, 33] (by decide) (by simp only [f6_J3, List.length_set, Option.map_some, restrict_eq, renS_nil, renS_cons, renB_els, renB_cel, renB_dead, deep_eq, map_ren_enc, ren_agg', ren_tup', ren_fn', ren_int', ren_bool', ren_str', ren_sl', ren_pro', ren_nilp', ren_nilfn', ren_junk', ren_ptr', ren_row', ren_arow', ren_eptr', vm, List.idxOf?_cons, List.idxOf?_nil, beq_self_eq_true, Option.map_none, List.getD_cons_zero, List.getD_cons_succ, ↓wk, ↓wl, nc, evV, wrapBits_eq, ↓reduceIte, Nat.reduceEqDiff, Nat.reduceAdd, Nat.reduceSub, Nat.reduceLeDiff, Nat.reduceLT, Nat.reduceBEq, reduceCtorEq, Int.reduceEq])))
        · refine AW.regt ?_
          refine evR.fork ?_
          try simp only [↓wk, ↓wl, nc, evV, wrapBits_eq, ↓reduceIte, Nat.reduceEqDiff, Nat.reduceAdd, Nat.reduceSub, Nat.reduceLeDiff, Nat.reduceLT, Nat.reduceBEq, reduceCtorEq, Int.reduceEq]
          refine evR.both ?_ ?_
          · refine evR.fork ?_
            try simp only [↓wk, ↓wl, nc, evV, wrapBits_eq, ↓reduceIte, Nat.reduceEqDiff, Nat.reduceAdd, Nat.reduceSub, Nat.reduceLeDiff, Nat.reduceLT, Nat.reduceBEq, reduceCtorEq, Int.reduceEq]
            refine evTs_pure hFnq H (fun _ h => f27_ok h) (by rfl) (by rfl) (by rfl) (by rfl) (fun _ => rfl) ?_ <;> clear H <;> intro r_1820 H
            try simp only [eL, eApiFrame, ↓wk, ↓wl, nc, evV, wrapBits_eq, ↓reduceIte, Nat.reduceEqDiff, Nat.reduceAdd, Nat.reduceSub, Nat.reduceLeDiff, Nat.reduceLT, Nat.reduceBEq, reduceCtorEq, Int.reduceEq]
            refine evR.both ?_ ?_
            · refine evR.run ?_
              try simp only [↓wk, ↓wl, nc, evV, wrapBits_eq, ↓reduceIte, Nat.reduceEqDiff, Nat.reduceAdd, Nat.reduceSub, Nat.reduceLeDiff, Nat.reduceLT, Nat.reduceBEq, reduceCtorEq, Int.reduceEq]
              refine evTs_pure hFnq H (fun _ h => f23_ok h) (by rfl) (by rfl) (by rfl) (by rfl) (fun _ => rfl) ?_ <;> clear H <;> intro r_1821 H
              try simp only [eL, eNetworkSender, ↓wk, ↓wl, nc, evV, wrapBits_eq, ↓reduceIte, Nat.reduceEqDiff, Nat.reduceAdd, Nat.reduceSub, Nat.reduceLeDiff, Nat.reduceLT, Nat.reduceBEq, reduceCtorEq, Int.reduceEq]
              refine seqQ.norm ?_
              exact hf6_J2 _ _ H ((Le.none [0, 2] [3, 5, 6, 7, 8, 11, 12, 13, 14, 31, 32, 33] (by decide) (by simp only [f6_J2, List.length_set, Option.map_some, restrict_eq, renS_nil, renS_cons, renB_els, renB_cel, renB_dead, deep_eq, map_ren_enc, ren_agg', ren_tup', ren_fn', ren_int', ren_bool', ren_str', ren_sl', ren_pro', ren_nilp', ren_nilfn', ren_junk', ren_ptr', ren_row', ren_arow', ren_eptr', vm, List.idxOf?_cons, List.idxOf?_nil, beq_self_eq_true, Option.map_none, List.getD_cons_zero, List.getD_cons_succ, ↓wk, ↓wl, nc, evV, wrapBits_eq, ↓reduceIte, Nat.reduceEqDiff, Nat.reduceAdd, Nat.reduceSub, Nat.reduceLeDiff, Nat.reduceLT, Nat.reduceBEq, reduceCtorEq, Int.reduceEq])))
            · refine evR.run ?_
              try simp only [↓wk, ↓wl, nc, evV, wrapBits_eq, ↓reduceIte, Nat.reduceEqDiff, Nat.reduceAdd, Nat.reduceSub, Nat.reduceLeDiff, Nat.reduceLT, Nat.reduceBEq, reduceCtorEq, Int.reduceEq]
              refine evTs_pure hFnq H (fun _ h => f23_ok h) (by rfl) (by rfl) (by rfl) (by rfl) (fun _ => rfl) ?_ <;> clear H <;> intro r_1821 H
              try simp only [eL, eNetworkSender, ↓wk, ↓wl, nc, evV, wrapBits_eq, ↓reduceIte, Nat.reduceEqDiff, Nat.reduceAdd, Nat.reduceSub, Nat.reduceLeDiff, Nat.reduceLT, Nat.reduceBEq, reduceCtorEq, Int.reduceEq]
              refine seqQ.norm ?_
              exact hf6_J2 _ _ H ((Le.none [0, 2] [3, 5, 6, 7, 8, 11, 12, 13, 14, 31, 32, 33] (by decide) (by simp only [f6_J2, List.length_set, Option.map_some, restrict_eq, renS_nil, renS_cons, renB_els, renB_cel, renB_dead, deep_eq, map_ren_enc, ren_agg', ren_tup', ren_fn', ren_int', ren_bool', ren_str', ren_sl', ren_pro', ren_nilp', ren_nilfn', ren_junk', ren_ptr', ren_row', ren_arow', ren_eptr', vm, List.idxOf?_cons, List.idxOf?_nil, beq_self_eq_true, Option.map_none, List.getD_cons_zero, List.getD_cons_succ, ↓wk, ↓wl, nc, evV, wrapBits_eq, ↓reduceIte, Nat.reduceEqDiff, Nat.reduceAdd, Nat.reduceSub, Nat.reduceLeDiff, Nat.reduceLT, Nat.reduceBEq, reduceCtorEq, Int.reduceEq])))
          · refine evR.run ?_
            try simp only [↓wk, ↓wl, nc, evV, wrapBits_eq, ↓reduceIte, Nat.reduceEqDiff, Nat.reduceAdd, Nat.reduceSub, Nat.reduceLeDiff, Nat.reduceLT, Nat.reduceBEq, reduceCtorEq, Int.reduceEq]
            refine evTs_pure hFnq H (fun _ h => f27_ok h) (by rfl) (by rfl) (by rfl) (by rfl) (fun _ => rfl) ?_ <;> clear H <;> intro r_1820 H
            try simp only [eL, eApiFrame, ↓wk, ↓wl, nc, evV, wrapBits_eq, ↓reduceIte, Nat.reduceEqDiff, Nat.reduceAdd, Nat.reduceSub, Nat.reduceLeDiff, Nat.reduceLT, Nat.reduceBEq, reduceCtorEq, Int.reduceEq]
            refine evTs_pure hFnq H (fun _ h => f23_ok h) (by rfl) (by rfl) (by rfl) (by rfl) (fun _ => rfl) ?_ <;> clear H <;> intro r_1821 H
            try simp only [eL, eNetworkSender, ↓wk, ↓wl, nc, evV, wrapBits_eq, ↓reduceIte, Nat.reduceEqDiff, Nat.reduceAdd, Nat.reduceSub, Nat.reduceLeDiff, Nat.reduceLT, Nat.reduceBEq, reduceCtorEq, Int.reduceEq]
            refine seqQ.norm ?_
            exact hf6_J2 _ _ H ((Le.none [0, 2] [3, 5, 6, 7, 8, 11, 12, 13, 14, 31, 32, 33] (by decide) (by simp only [f6_J2, List.length_set, Option.map_some, restrict_eq, renS_nil, renS_cons, renB_els, renB_cel, renB_dead, deep_eq, map_ren_enc, ren_agg', ren_tup', ren_fn', ren_int', ren_bool', ren_str', ren_sl', ren_pro', ren_nilp', ren_nilfn', ren_junk', ren_ptr', ren_row', ren_arow', ren_eptr', vm, List.idxOf?_cons, List.idxOf?_nil, beq_self_eq_true, Option.map_none, List.getD_cons_zero, List.getD_cons_succ, ↓wk, ↓wl, nc, evV, wrapBits_eq, ↓reduceIte, Nat.reduceEqDiff, Nat.reduceAdd, Nat.reduceSub, Nat.reduceLeDiff, Nat.reduceLT, Nat.reduceBEq, reduceCtorEq, Int.reduceEq])))
      · refine AW.exit ?_
        refine seqQ.exit ?_
        refine loopQ.exit H ?_ <;> clear H <;> intro H
        try dsimp only at H
        refine blk0.here ?_
        refine seqQ.norm ?_
        refine AW.rseq ?_
        try simp only [↓wk, ↓wl, nc, evV, wrapBits_eq, ↓reduceIte, Nat.reduceEqDiff, Nat.reduceAdd, Nat.reduceSub, Nat.reduceLeDiff, Nat.reduceLT, Nat.reduceBEq, reduceCtorEq, Int.reduceEq]
        refine evTs_pure hFn H (fun _ h => f14_ok h) (by rfl) (by rfl) (by rfl) (by rfl) (fun _ => rfl) ?_ <;> clear H <;> intro r_1822 H
        try simp only [eL, ↓wk, ↓wl, nc, evV, wrapBits_eq, ↓reduceIte, Nat.reduceEqDiff, Nat.reduceAdd, Nat.reduceSub, Nat.reduceLeDiff, Nat.reduceLT, Nat.reduceBEq, reduceCtorEq, Int.reduceEq]
        refine AW.ret ?_
        cases H
        exact hQ _ _ _ _ (.inr rfl) (by simp only [resVs, omap, resV, ↓wk, ↓wl, nc, evV, wrapBits_eq, ↓reduceIte, Nat.reduceEqDiff, Nat.reduceAdd, Nat.reduceSub, Nat.reduceLeDiff, Nat.reduceLT, Nat.reduceBEq, reduceCtorEq, Int.reduceEq]; rfl) (hand_plain (by rfl)) (by rfl)
end Go.Proofs.Ytlidbikdeboihaa
