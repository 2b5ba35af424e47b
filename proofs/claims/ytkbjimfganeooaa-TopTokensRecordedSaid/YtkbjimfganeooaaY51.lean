import Derived.Test.YtkbjimfganeooaaX1
import Derived.Test.YtkbjimfganeooaaM7
import Derived.Test.YtkbjimfganeooaaM6
import Derived.Test.YtkbjimfganeooaaProg
import Derived.KernelRfl
namespace Go.Proofs.Ytkbjimfganeooaa
open Go Go.Ab

set_option maxHeartbeats 1000000
set_option maxRecDepth 4000
set_option linter.unusedSimpArgs false
set_option linter.unusedVariables false
def c13_0 : C := .seq (.reg [iI 3 (.mv (.t 0)), iI 4 (.len 1 (.t 3)), iI 5 (.bin .gtr (.t 4) (.c (.int .i64 200))), iI 2 (.mv (.t 5))]) .ret
def ir13 : C := .seq (.reg [iI 2 (.mv (.c (.bool false)))]) c13_0
theorem fd13 : fd? Try.prog 13 = some (6, [.slot 2], ir13) := by kernel_rfl
noncomputable def f13 (s_656 : (List UInt8)) : Option (Bool) :=
  (some (decide (200 < ((s_656.length : Nat) : Int))))
theorem f13_ok {s_656 : (List UInt8)} {r_ : Bool} (H : f13 s_656 = some r_) : Pure Try.prog 13 [.str s_656] (· = .bool r_) := by
 refine Pure.walk3 fd13 none (Nat.le_of_ble_eq_true rfl) (by rfl) fun Q hQ => ?_
 simp only [f13] at H
 refine AW.rseq ?_
 try simp only [↓wk, ↓wl, nq, evV, ↓reduceIte, sevalprocAttr]
 refine AW.rseq ?_
 try simp only [↓wk, ↓wl, nq, evV, ↓reduceIte, sevalprocAttr]
 refine AW.ret ?_
 cases H
 exact hQ.fin
noncomputable def f23_13_L1 (s_654 : (List (List UInt8))) : Lp (Int) ((Unit) ⊕ (Int)) where
  body := fun v_661 => (if (decide (v_661 < ((s_654.length : Nat) : Int))) = true then (at? s_654 v_661).bind fun x_665 => (f13 x_665).bind fun r_666 => (if r_666 = true then (some (.brk (Sum.inr v_661))) else (some (.next (IntKind.i64.wrap (v_661 + 1))))) else (some (.brk (Sum.inl ()))))
  cst := fun v_661 => ⟨put (put (put (put (fun _ => .junk) 8 (.int .i64 v_661)) 7 (.int .i64 ((s_654.length : Nat) : Int))) 1 (.fn 13 [])) 0 (.sl 0 false (s_654.map AV.str)), []⟩
theorem f23_13_L1c (s_654 : (List (List UInt8))) (v_661 : Int) : (f23_13_L1 s_654).cst v_661 = ⟨put (put (put (put (fun _ => .junk) 8 (.int .i64 v_661)) 7 (.int .i64 ((s_654.length : Nat) : Int))) 1 (.fn 13 [])) 0 (.sl 0 false (s_654.map AV.str)), []⟩ := rfl
def c23_0 : C := .cond (.t 16) (.seq (.reg [iI 17 (.mv (.t 5)), iI 4 (.mv (.t 17))]) .ret) (.skip)
def c23_1 : C := .seq (.reg [iI 11 (.mv (.t 1)), iI 12 (.mv (.t 0)), iI 13 (.mv (.t 5)), iI 14 (.iaddr 0 (.t 12) (.t 13)), iI 15 (.load 0 (.t 14)), iI 16 (.call (.t 11) [(.t 15)])]) c23_0
def c23_2 : C := .reg [iI 18 (.bin .add (.t 8) (.c (.int .i64 1))), iI 8 (.mv (.t 18))]
def c23_3 : C := .seq (.block 1 (.seq (.reg [iI 10 (.mv (.t 8)), iI 5 (.mv (.t 10))]) c23_1)) c23_2
def c23_4 : C := .seq (.cond (.t 9) (.skip) (.exit 0)) c23_3
def c23_5 : C := .block 0 (.loop (.seq (.reg [iI 9 (.bin .lss (.t 8) (.t 7))]) c23_4))
def c23_6 : C := .seq (.reg [iI 4 (.mv (.c (.int .i64 (-1))))]) .ret
def c23_7 : C := .seq (.seq (.reg [iI 6 (.mv (.t 0)), iI 7 (.len 0 (.t 6)), iI 8 (.mv (.c (.int .i64 0)))]) c23_5) c23_6
def ir23 : C := .seq (.reg [iI 4 (.mv (.c (.int .i64 0)))]) c23_7
theorem fd23 : fd? Try.prog 23 = some (19, [.slot 4], ir23) := by kernel_rfl
noncomputable def f23_13 (s_654 : (List (List UInt8))) : Option (Int) :=
  ((Lp.run (f23_13_L1 s_654) 0).bind fun r_ => match r_ with | (Sum.inl _) => (some (-1)) | (Sum.inr v_664) => (some v_664))
theorem f23_13_ok {s_654 : (List (List UInt8))} {r_ : Int} (H : f23_13 s_654 = some r_) : Pure Try.prog 23 [.sl 0 false (s_654.map AV.str), .fn 13 []] (· = .int .i64 r_) := by
 refine Pure.walk3 fd23 none (Nat.le_of_ble_eq_true rfl) (by rfl) fun Q hQ => ?_
 simp only [f23_13] at H
 refine AW.rseq ?_
 try simp only [↓wk, ↓wl, nq, evV, ↓reduceIte, sevalprocAttr]
 refine AW.sseq ?_
 refine AW.rseq ?_
 try simp only [↓wk, ↓wl, nq, evV, ↓reduceIte, sevalprocAttr]
 refine AW.bend ?_
 refine AW.iter H ((Le.tz [] [0, 1, 7, 8] (by simp only [f23_13_L1c, rrm, ↓wk, ↓wl, evV, ↓reduceIte, sevalprocAttr] <;> rfl))) ?_ <;> clear H
 rintro v_661 x_ st0_ H hst_
 rw [f23_13_L1c] at hst_
 simp only [f23_13_L1] at H
 subst hst_
 refine AW.rseq ?_
 try simp only [↓wk, ↓wl, nq, evV, ↓reduceIte, sevalprocAttr]
 refine AW.sseq ?_
 refine AW.ifc H (by rfl) ?_ ?_ <;> clear H <;> intro H
 ·refine AW.skip ?_
  refine seqQ.norm ?_
  refine AW.bseq ?_
  refine AW.rseq ?_
  try simp only [↓wk, ↓wl, nq, evV, ↓reduceIte, sevalprocAttr]
  refine AW.rseq ?_
  try simp only [↓wk, ↓wl, nq, evV, ↓reduceIte, sevalprocAttr]
  refine evTs_at (enc := AV.str) H (by rfl) (by rfl) ?_ <;> clear H <;> intro x_665 H
  try simp only [↓wk, ↓wl, nq, evV, ↓reduceIte, sevalprocAttr]
  refine evTs_pure hFn H (fun _ h => f13_ok h) (by rfl) (by rfl) (by rfl) (by rfl) (fun _ => rfl) ?_ <;> clear H <;> intro r_666 H
  try simp only [eL, ↓wk, ↓wl, nq, evV, ↓reduceIte, sevalprocAttr]
  refine AW.ifc H (by rfl) ?_ ?_ <;> clear H <;> intro H
  ·refine AW.rseq ?_
   try simp only [↓wk, ↓wl, nq, evV, ↓reduceIte, sevalprocAttr]
   refine AW.ret ?_
   refine blkQ.ret ?_
   refine loopQ.ret H ?_ <;> clear H <;> intro H
   try dsimp only at H
   refine blk0.ret ?_
   refine seqQ.ret ?_
   cases H
   exact hQ.fin
  ·refine AW.skip ?_
   refine blkQ.norm ?_
   refine AW.rend ?_
   try simp only [↓wk, ↓wl, nq, evV, ↓reduceIte, sevalprocAttr]
   exact loopQ.next H ((Le.tz [] [0, 1, 7, 8] (by simp only [f23_13_L1c, rrm, ↓wk, ↓wl, evV, ↓reduceIte, sevalprocAttr] <;> rfl)))
 ·refine AW.exit ?_
  refine seqQ.exit ?_
  refine loopQ.exit H ?_ <;> clear H <;> intro H
  try dsimp only at H
  refine blk0.here ?_
  refine seqQ.norm ?_
  refine AW.rseq ?_
  try simp only [↓wk, ↓wl, nq, evV, ↓reduceIte, sevalprocAttr]
  refine AW.ret ?_
  cases H
  exact hQ.fin
def c12_0 : C := .seq (.reg [iI 5 (.mv (.t 0)), iI 6 (.mv (.t 1)), iI 7 (.call (.c (.fn 23 [])) [(.t 5), (.t 6)]), iI 8 (.bin .geq (.t 7) (.c (.int .i64 0))), iI 4 (.mv (.t 8))]) .ret
def ir12 : C := .seq (.reg [iI 4 (.mv (.c (.bool false)))]) c12_0
theorem fd12 : fd? Try.prog 12 = some (9, [.slot 4], ir12) := by kernel_rfl
noncomputable def f12_13 (s_653 : (List (List UInt8))) : Option (Bool) :=
  (f23_13 s_653).bind fun r_667 => (some (decide (0 ≤ r_667)))
theorem f12_13_ok {s_653 : (List (List UInt8))} {r_ : Bool} (H : f12_13 s_653 = some r_) : Pure Try.prog 12 [.sl 0 false (s_653.map AV.str), .fn 13 []] (· = .bool r_) := by
 refine Pure.walk3 fd12 none (Nat.le_of_ble_eq_true rfl) (by rfl) fun Q hQ => ?_
 simp only [f12_13] at H
 refine AW.rseq ?_
 try simp only [↓wk, ↓wl, nq, evV, ↓reduceIte, sevalprocAttr]
 refine AW.rseq ?_
 try simp only [↓wk, ↓wl, nq, evV, ↓reduceIte, sevalprocAttr]
 refine evTs_pure hFn H (fun _ h => f23_13_ok h) (by rfl) (by rfl) (by rfl) (by rfl) (fun _ => rfl) ?_ <;> clear H <;> intro r_667 H
 try simp only [eL, ↓wk, ↓wl, nq, evV, ↓reduceIte, sevalprocAttr]
 refine AW.ret ?_
 cases H
 exact hQ.fin
noncomputable def f25_L3 (s_687 : (List UInt8)) : Lp (Int) (Int) where
  body := fun v_768 => (f38_36p s_687 v_768 0).bind fun r_771 => (if r_771 = true then (some (.next (IntKind.i64.wrap (v_768 + 1)))) else (some (.brk v_768)))
  cst := fun v_768 => ⟨put (put (fun _ => .junk) 1 (.fn 36 [])) 0 (.ptr 1 0), [.cel [.int .i64 0, .str ([]), .int .i64 0], .cel [.str s_687, .int .i64 v_768], .cel [.ptr 1 0], .cel [.int .i64 0, .str ([]), .int .i64 0]]⟩
theorem f25_L3c (s_687 : (List UInt8)) (v_768 : Int) : (f25_L3 s_687).cst v_768 = ⟨put (put (fun _ => .junk) 1 (.fn 36 [])) 0 (.ptr 1 0), [.cel [.int .i64 0, .str ([]), .int .i64 0], .cel [.str s_687, .int .i64 v_768], .cel [.ptr 1 0], .cel [.int .i64 0, .str ([]), .int .i64 0]]⟩ := rfl
noncomputable def f25_C2 (s_687 : (List UInt8)) : Il (Int) where
  run := (Lp.run (f25_L3 s_687) 0).bind fun v_770 => (some v_770)
  res := fun v_764 => .tup []
  hp := fun v_764 => [.cel [.int .i64 0, .str ([]), .int .i64 0], .cel [.str s_687, .int .i64 v_764], .cel [.ptr 1 0], .cel [.int .i64 0, .str ([]), .int .i64 0]]
noncomputable def f25_C4 (s_687 : (List UInt8)) (v_764 : Int) : Il ((List UInt8)) where
  run := (slc? s_687 v_764 v_764).bind fun s_775 => (some s_775)
  res := fun v_774 => .tup [.agg [.int .i64 3, .str v_774, .int .i64 v_764], .bool true]
  hp := fun v_774 => [.cel [.int .i64 0, .str ([]), .int .i64 0], .cel [.str s_687, .int .i64 v_764], .cel [.ptr 1 0], .cel [.int .i64 0, .str ([]), .int .i64 0], .cel [.int .i64 v_764], .cel [.int .i64 3, .str v_774, .int .i64 v_764]]
noncomputable def f25_L6 (s_687 : (List UInt8)) (v_764 : Int) : Lp (Int) (Int) where
  body := fun v_787 => (f38_40p s_687 v_787 0).bind fun r_790 => (if r_790 = true then (some (.next (IntKind.i64.wrap (v_787 + 1)))) else (some (.brk v_787)))
  cst := fun v_787 => ⟨put (put (fun _ => .junk) 1 (.fn 40 [])) 0 (.ptr 1 0), [.cel [.int .i64 0, .str ([]), .int .i64 0], .cel [.str s_687, .int .i64 v_787], .cel [.ptr 1 0], .cel [.int .i64 0, .str ([]), .int .i64 0], .cel [.int .i64 v_764]]⟩
theorem f25_L6c (s_687 : (List UInt8)) (v_764 : Int) (v_787 : Int) : (f25_L6 s_687 v_764).cst v_787 = ⟨put (put (fun _ => .junk) 1 (.fn 40 [])) 0 (.ptr 1 0), [.cel [.int .i64 0, .str ([]), .int .i64 0], .cel [.str s_687, .int .i64 v_787], .cel [.ptr 1 0], .cel [.int .i64 0, .str ([]), .int .i64 0], .cel [.int .i64 v_764]]⟩ := rfl
noncomputable def f25_C5 (s_687 : (List UInt8)) (v_764 : Int) : Il (Int) where
  run := (Lp.run (f25_L6 s_687 v_764) v_764).bind fun v_789 => (some v_789)
  res := fun v_783 => .tup []
  hp := fun v_783 => [.cel [.int .i64 0, .str ([]), .int .i64 0], .cel [.str s_687, .int .i64 v_783], .cel [.ptr 1 0], .cel [.int .i64 0, .str ([]), .int .i64 0], .cel [.int .i64 v_764]]
noncomputable def f25_C7 (s_687 : (List UInt8)) (v_764 : Int) (v_783 : Int) : Il ((List UInt8)) where
  run := (slc? s_687 v_764 v_783).bind fun s_794 => (some s_794)
  res := fun v_793 => .tup [.agg [.int .i64 0, .str v_793, .int .i64 v_764], .bool true]
  hp := fun v_793 => [.cel [.int .i64 0, .str ([]), .int .i64 0], .cel [.str s_687, .int .i64 v_783], .cel [.ptr 1 0], .cel [.int .i64 0, .str ([]), .int .i64 0], .cel [.int .i64 v_764], .cel [.int .i64 0, .str v_793, .int .i64 v_764]]
noncomputable def f25_L9 (s_687 : (List UInt8)) (v_764 : Int) : Lp (Int) (Int) where
  body := fun v_807 => (f38_42p s_687 v_807 0).bind fun r_810 => (if r_810 = true then (some (.next (IntKind.i64.wrap (v_807 + 1)))) else (some (.brk v_807)))
  cst := fun v_807 => ⟨put (put (fun _ => .junk) 1 (.fn 42 [])) 0 (.ptr 1 0), [.cel [.int .i64 0, .str ([]), .int .i64 0], .cel [.str s_687, .int .i64 v_807], .cel [.ptr 1 0], .cel [.int .i64 0, .str ([]), .int .i64 0], .cel [.int .i64 v_764]]⟩
theorem f25_L9c (s_687 : (List UInt8)) (v_764 : Int) (v_807 : Int) : (f25_L9 s_687 v_764).cst v_807 = ⟨put (put (fun _ => .junk) 1 (.fn 42 [])) 0 (.ptr 1 0), [.cel [.int .i64 0, .str ([]), .int .i64 0], .cel [.str s_687, .int .i64 v_807], .cel [.ptr 1 0], .cel [.int .i64 0, .str ([]), .int .i64 0], .cel [.int .i64 v_764]]⟩ := rfl
noncomputable def f25_C8 (s_687 : (List UInt8)) (v_764 : Int) : Il (Int) where
  run := (Lp.run (f25_L9 s_687 v_764) (IntKind.i64.wrap (v_764 + 1))).bind fun v_809 => (some v_809)
  res := fun v_803 => .tup []
  hp := fun v_803 => [.cel [.int .i64 0, .str ([]), .int .i64 0], .cel [.str s_687, .int .i64 v_803], .cel [.ptr 1 0], .cel [.int .i64 0, .str ([]), .int .i64 0], .cel [.int .i64 v_764]]
noncomputable def f25_C10 (s_687 : (List UInt8)) (v_764 : Int) (v_803 : Int) : Il ((List UInt8)) where
  run := (slc? s_687 v_764 (IntKind.i64.wrap (v_803 + 1))).bind fun s_816 => (some s_816)
  res := fun v_815 => .tup [.agg [.int .i64 0, .str v_815, .int .i64 v_764], .bool true]
  hp := fun v_815 => [.cel [.int .i64 0, .str ([]), .int .i64 0], .cel [.str s_687, .int .i64 (IntKind.i64.wrap (v_803 + 1))], .cel [.ptr 1 0], .cel [.int .i64 0, .str ([]), .int .i64 0], .cel [.int .i64 v_764], .cel [.int .i64 0, .str v_815, .int .i64 v_764]]
noncomputable def f25_L12 (s_687 : (List UInt8)) (v_764 : Int) : Lp (Int) (Int) where
  body := fun v_828 => (f38_44p s_687 v_828 0).bind fun r_831 => (if r_831 = true then (some (.next (IntKind.i64.wrap (v_828 + 1)))) else (some (.brk v_828)))
  cst := fun v_828 => ⟨put (put (fun _ => .junk) 1 (.fn 44 [])) 0 (.ptr 1 0), [.cel [.int .i64 0, .str ([]), .int .i64 0], .cel [.str s_687, .int .i64 v_828], .cel [.ptr 1 0], .cel [.int .i64 0, .str ([]), .int .i64 0], .cel [.int .i64 v_764]]⟩
theorem f25_L12c (s_687 : (List UInt8)) (v_764 : Int) (v_828 : Int) : (f25_L12 s_687 v_764).cst v_828 = ⟨put (put (fun _ => .junk) 1 (.fn 44 [])) 0 (.ptr 1 0), [.cel [.int .i64 0, .str ([]), .int .i64 0], .cel [.str s_687, .int .i64 v_828], .cel [.ptr 1 0], .cel [.int .i64 0, .str ([]), .int .i64 0], .cel [.int .i64 v_764]]⟩ := rfl
noncomputable def f25_C11 (s_687 : (List UInt8)) (v_764 : Int) : Il (Int) where
  run := (Lp.run (f25_L12 s_687 v_764) v_764).bind fun v_830 => (some v_830)
  res := fun v_824 => .tup []
  hp := fun v_824 => [.cel [.int .i64 0, .str ([]), .int .i64 0], .cel [.str s_687, .int .i64 v_824], .cel [.ptr 1 0], .cel [.int .i64 0, .str ([]), .int .i64 0], .cel [.int .i64 v_764]]
noncomputable def f25_L14 (s_687 : (List UInt8)) (v_764 : Int) : Lp (Int) (Int) where
  body := fun v_844 => (f38_44p s_687 v_844 0).bind fun r_847 => (if r_847 = true then (some (.next (IntKind.i64.wrap (v_844 + 1)))) else (some (.brk v_844)))
  cst := fun v_844 => ⟨put (put (fun _ => .junk) 1 (.fn 44 [])) 0 (.ptr 1 0), [.cel [.int .i64 0, .str ([]), .int .i64 0], .cel [.str s_687, .int .i64 v_844], .cel [.ptr 1 0], .cel [.int .i64 0, .str ([]), .int .i64 0], .cel [.int .i64 v_764]]⟩
theorem f25_L14c (s_687 : (List UInt8)) (v_764 : Int) (v_844 : Int) : (f25_L14 s_687 v_764).cst v_844 = ⟨put (put (fun _ => .junk) 1 (.fn 44 [])) 0 (.ptr 1 0), [.cel [.int .i64 0, .str ([]), .int .i64 0], .cel [.str s_687, .int .i64 v_844], .cel [.ptr 1 0], .cel [.int .i64 0, .str ([]), .int .i64 0], .cel [.int .i64 v_764]]⟩ := rfl
noncomputable def f25_C13 (s_687 : (List UInt8)) (v_764 : Int) (v_824 : Int) : Il (Int) where
  run := (Lp.run (f25_L14 s_687 v_764) (IntKind.i64.wrap (v_824 + 1))).bind fun v_846 => (some v_846)
  res := fun v_840 => .tup []
  hp := fun v_840 => [.cel [.int .i64 0, .str ([]), .int .i64 0], .cel [.str s_687, .int .i64 v_840], .cel [.ptr 1 0], .cel [.int .i64 0, .str ([]), .int .i64 0], .cel [.int .i64 v_764]]
noncomputable def f25_C15 (s_687 : (List UInt8)) (v_764 : Int) (v_840 : Int) : Il ((List UInt8)) where
  run := (slc? s_687 v_764 v_840).bind fun s_851 => (some s_851)
  res := fun v_850 => .tup [.agg [.int .i64 1, .str v_850, .int .i64 v_764], .bool true]
  hp := fun v_850 => [.cel [.int .i64 0, .str ([]), .int .i64 0], .cel [.str s_687, .int .i64 v_840], .cel [.ptr 1 0], .cel [.int .i64 0, .str ([]), .int .i64 0], .cel [.int .i64 v_764], .cel [.int .i64 1, .str v_850, .int .i64 v_764]]
noncomputable def f25_C16 (s_687 : (List UInt8)) (v_764 : Int) (v_824 : Int) : Il ((List UInt8)) where
  run := (slc? s_687 v_764 v_824).bind fun s_855 => (some s_855)
  res := fun v_854 => .tup [.agg [.int .i64 1, .str v_854, .int .i64 v_764], .bool true]
  hp := fun v_854 => [.cel [.int .i64 0, .str ([]), .int .i64 0], .cel [.str s_687, .int .i64 v_824], .cel [.ptr 1 0], .cel [.int .i64 0, .str ([]), .int .i64 0], .cel [.int .i64 v_764], .cel [.int .i64 1, .str v_854, .int .i64 v_764]]
noncomputable def f25_C17 (s_687 : (List UInt8)) (v_764 : Int) (v_824 : Int) : Il ((List UInt8)) where
  run := (slc? s_687 v_764 v_824).bind fun s_859 => (some s_859)
  res := fun v_858 => .tup [.agg [.int .i64 1, .str v_858, .int .i64 v_764], .bool true]
  hp := fun v_858 => [.cel [.int .i64 0, .str ([]), .int .i64 0], .cel [.str s_687, .int .i64 v_824], .cel [.ptr 1 0], .cel [.int .i64 0, .str ([]), .int .i64 0], .cel [.int .i64 v_764], .cel [.int .i64 1, .str v_858, .int .i64 v_764]]
noncomputable def f25_C18 (s_687 : (List UInt8)) (v_764 : Int) : Il ((List UInt8)) where
  run := (slc? s_687 v_764 (IntKind.i64.wrap (v_764 + 1))).bind fun s_864 => (some s_864)
  res := fun v_863 => .tup [.agg [.int .i64 2, .str v_863, .int .i64 v_764], .bool true]
  hp := fun v_863 => [.cel [.int .i64 0, .str ([]), .int .i64 0], .cel [.str s_687, .int .i64 (IntKind.i64.wrap (v_764 + 1))], .cel [.ptr 1 0], .cel [.int .i64 0, .str ([]), .int .i64 0], .cel [.int .i64 v_764], .cel [.int .i64 2, .str v_863, .int .i64 v_764]]
noncomputable def f25_C1 (s_687 : (List UInt8)) : Il (Bool × Int × Int × (List UInt8) × Int) where
  run := ((f25_C2 s_687).run.bind fun v_764 => (if (decide (v_764 = ((s_687.length : Nat) : Int))) = true then ((f25_C4 s_687 v_764).run.bind fun v_774 => (some (true, v_764, 3, v_774, v_764))) else (f38_39p s_687 v_764 0).bind fun r_776 => (if r_776 = true then ((f25_C5 s_687 v_764).run.bind fun v_783 => ((f25_C7 s_687 v_764 v_783).run.bind fun v_793 => (f41 v_793).bind fun r_795 => (some (true, v_783, 0, r_795, v_764)))) else (at? s_687 v_764).bind fun b_796 => (if (decide ((b_796.toNat : Int) = 34)) = true then ((f25_C8 s_687 v_764).run.bind fun v_803 => (f38_43p s_687 v_803 0).bind fun r_812 => (if (!r_812) = true then (some (false, v_764, 0, [], 0)) else ((f25_C10 s_687 v_764 v_803).run.bind fun v_815 => (some (true, (IntKind.i64.wrap (v_803 + 1)), 0, v_815, v_764))))) else (f38_44p s_687 v_764 0).bind fun r_817 => (if r_817 = true then ((f25_C11 s_687 v_764).run.bind fun v_824 => (f38_45p s_687 v_824 0).bind fun r_832 => (if r_832 = true then (f38_44p s_687 v_824 1).bind fun r_833 => (if r_833 = true then ((f25_C13 s_687 v_764 v_824).run.bind fun v_840 => ((f25_C15 s_687 v_764 v_840).run.bind fun v_850 => (some (true, v_840, 1, v_850, v_764)))) else ((f25_C16 s_687 v_764 v_824).run.bind fun v_854 => (some (true, v_824, 1, v_854, v_764)))) else ((f25_C17 s_687 v_764 v_824).run.bind fun v_858 => (some (true, v_824, 1, v_858, v_764))))) else (f38_46p s_687 v_764 0).bind fun r_860 => (if r_860 = true then ((f25_C18 s_687 v_764).run.bind fun v_863 => (some (true, (IntKind.i64.wrap (v_764 + 1)), 2, v_863, v_764))) else (some (false, v_764, 0, [], 0))))))))
  res := fun (v_753, v_754, v_755, v_756, v_757) => .tup [.agg [.int .i64 v_755, .str v_756, .int .i64 v_757], .bool v_753]
  hp := fun (v_753, v_754, v_755, v_756, v_757) => [.cel [.int .i64 0, .str ([]), .int .i64 0], .cel [.str s_687, .int .i64 v_754], .cel [.int .i64 v_755, .str v_756, .int .i64 v_757]]
noncomputable def f25_J19 (v_755 : Int) (v_756 : (List UInt8)) (v_757 : Int) : Jn (Bool) (ApiToken × Bool) where
  run := fun v_865 => (some ((ApiToken.mk v_755 v_756 v_757), v_865))
  cst := fun v_865 => ⟨put (put (fun _ => .junk) 3 (.bool v_865)) 2 (.ptr 0 0), [.cel [.int .i64 v_755, .str v_756, .int .i64 v_757]]⟩
theorem f25_J19c (v_755 : Int) (v_756 : (List UInt8)) (v_757 : Int) (v_865 : Bool) : (f25_J19 v_755 v_756 v_757).cst v_865 = ⟨put (put (fun _ => .junk) 3 (.bool v_865)) 2 (.ptr 0 0), [.cel [.int .i64 v_755, .str v_756, .int .i64 v_757]]⟩ := rfl
def c25_0 : C := .seq (.regt (.fork [iI 15 (.load 3 (.t 5)), iI 16 (.mv (.t 6)), iI 17 (.mv (.t 16)), iG (some 18) 17 true (.faddr 2 (.t 5)), iG (some 19) 17 true (.load 0 (.t 18)), iG (some 20) 17 true (.bin .eql (.t 19) (.c (.int .i64 0))), iI 21 (.pick (.t 17) (.t 20) (.c (.bool false))), iI 22 (.mv (.t 21)), iG (some 23) 22 true (.mv (.t 4)), iG (some 24) 22 true (.nilchk (.t 23)), iG (some 25) 22 true (.faddr 1 (.t 24)), iG (some 26) 22 true (.load 0 (.t 25)), iG (some 27) 22 true (.mv (.t 0)), iG (some 28) 22 true (.len 1 (.t 27)), iG (some 29) 22 true (.bin .eql (.t 26) (.t 28)), iI 30 (.pick (.t 22) (.t 29) (.c (.bool false))), iI 31 (.mv (.t 30)), iG (some 32) 31 true (.faddr 0 (.t 5))] (.run [iG (some 33) 31 true (.load 0 (.t 32)), iG (some 34) 31 true (.bin .neq (.t 33) (.c (.int .i64 3))), iI 35 (.pick (.t 31) (.t 34) (.c (.bool false))), iN (.store 3 (.t 2) (.t 15)), iI 3 (.mv (.t 35))]) (.run [iN (.store 3 (.t 2) (.t 15)), iG (some 33) 31 true (.load 0 (.t 32)), iG (some 34) 31 true (.bin .neq (.t 33) (.c (.int .i64 3))), iI 35 (.pick (.t 31) (.t 34) (.c (.bool false))), iI 3 (.mv (.t 35))]))) .ret
def c25_1 : C := .seq (.reg [iI 11 (.mv (.t 4)), iI 12 (.call (.c (.fn 24 [])) [(.t 11)]), iI 10 (.mv (.t 12)), iI 13 (.ext (.t 10) 0), iI 14 (.ext (.t 10) 1), iI 5 (.alloc [(1, (.int .i64 0)), (1, (.str [])), (1, (.int .i64 0))]), iN (.store 3 (.t 5) (.t 13)), iI 6 (.mv (.t 14))]) c25_0
def c25_2 : C := .seq (.reg [iI 7 (.mv (.t 0)), iI 8 (.build [(1, (.str [])), (1, (.int .i64 0))] [(0, 0, (.t 7))]), iI 9 (.box (.t 8)), iI 4 (.mv (.t 9))]) c25_1
def ir25 : C := .seq (.reg [iI 2 (.alloc [(1, (.int .i64 0)), (1, (.str [])), (1, (.int .i64 0))]), iI 3 (.mv (.c (.bool false)))]) c25_2
theorem fd25 : fd? Try.prog 25 = some (36, [.cell 2 3, .slot 3], ir25) := by kernel_rfl
noncomputable def f25 (s_687 : (List UInt8)) : Option (ApiToken × Bool) :=
  ((f25_C1 s_687).run.bind fun (v_753, v_754, v_755, v_756, v_757) => (if v_753 = true then (if (decide (v_757 = 0)) = true then (if (decide (v_754 = ((s_687.length : Nat) : Int))) = true then ((f25_J19 v_755 v_756 v_757).run (decide (v_755 ≠ 3))) else ((f25_J19 v_755 v_756 v_757).run false)) else ((f25_J19 v_755 v_756 v_757).run false)) else ((f25_J19 v_755 v_756 v_757).run false)))
theorem f25_ok {s_687 : (List UInt8)} {r_ : ApiToken × Bool} (H : f25 s_687 = some r_) : Pure Try.prog 25 [.str s_687] (· = .tup [.agg [.int .i64 r_.1.fKind, .str r_.1.fText, .int .i64 r_.1.fAt], .bool r_.2]) := by
 refine Pure.walk3 fd25 none (Nat.le_of_ble_eq_true rfl) (by rfl) fun Q hQ => ?_
 simp only [f25] at H
 refine AW.rseq ?_
 try simp only [↓wk, ↓wl, nq, evV, ↓reduceIte, sevalprocAttr]
 refine AW.rseq ?_
 try simp only [↓wk, ↓wl, nq, evV, ↓reduceIte, sevalprocAttr]
 refine AW.rseq ?_
 try simp only [↓wk, ↓wl, nq, evV, ↓reduceIte, sevalprocAttr]
 refine evTs_inl (I := f25_C1 s_687) (args := [.ptr 1 0]) H (by rfl) fd24 (by rfl) (Nat.le_of_ble_eq_true rfl) ?_ ?_ <;> clear H
 ·rintro v_ Q_ H hqf25_C1
  simp only [f25_C1] at H
  dsimp only [List.length_cons, List.length_nil]
  refine AW.rseq ?_
  try simp only [↓wk, ↓wl, nq, evV, ↓reduceIte, sevalprocAttr]
  refine AW.rseq ?_
  try simp only [↓wk, ↓wl, nq, evV, ↓reduceIte, sevalprocAttr]
  refine evTs_inl (I := f25_C2 s_687) (args := [.ptr 1 0, .fn 36 []]) H (by rfl) fd35 (by rfl) (Nat.le_of_ble_eq_true rfl) ?_ ?_ <;> clear H
  ·rintro v_ Q_ H hqf25_C2
   simp only [f25_C2] at H
   dsimp only [List.length_cons, List.length_nil]
   refine AW.bend ?_
   refine AW.iter H ((Le.tq 4 [0, 1, 2, 3] [0, 1] (by simp only [f25_L3c, rrm, ↓wk, ↓wl, evV, ↓reduceIte, sevalprocAttr] <;> rfl))) ?_ <;> clear H
   rintro v_768 x_ st0_ H hst_
   rw [f25_L3c] at hst_
   simp only [f25_L3] at H
   subst hst_
   refine AW.sseq ?_
   refine AW.rseq ?_
   try simp only [↓wk, ↓wl, nq, evV, ↓reduceIte, sevalprocAttr]
   refine evTs_flat hFn H (fun _ h => f38_36p_ok h) (by rfl) (by rfl) (by simp only [deep_eq, imm_simps, imm_rowE, imm_ptrE, imm_enc, omap_simps, take_map_len, take_map_set, take_map_set2, List.length_set, le_refl_true, Nat.zero_add, and_true, true_and, List.drop_zero, Option.map_some, ↓wk, ↓wl, nq, evV, ↓reduceIte, sevalprocAttr]; rfl) (by rfl) (fun _ => rfl) (fun _ => rfl) ?_ <;> clear H <;> intro r_771 H
   try simp only [eL, ↓wk, ↓wl, nq, evV, ↓reduceIte, sevalprocAttr]
   refine AW.ifc H (by rfl) ?_ ?_ <;> clear H <;> intro H
   ·refine AW.skip ?_
    refine seqQ.norm ?_
    refine AW.bend ?_
    refine AW.rend ?_
    try simp only [↓wk, ↓wl, nq, evV, ↓reduceIte, sevalprocAttr]
    refine blk0.norm ?_
    exact loopQ.next H ((Le.tq 4 [0, 1, 2, 3] [0, 1] (by simp only [f25_L3c, rrm, ↓wk, ↓wl, evV, ↓reduceIte, sevalprocAttr] <;> rfl)))
   ·refine AW.exit ?_
    refine seqQ.exit ?_
    refine loopQ.exit H ?_ <;> clear H <;> intro H
    try dsimp only at H
    refine blk0.here ?_
    cases H
    exact hqf25_C2 _ _ _ (.inl rfl) (Le.tq 4 [0, 1, 2, 3] [] rfl) (by simp only [resVs, omap, resV, f25_C2, rrm, ↓wk, ↓wl, evV, ↓reduceIte, sevalprocAttr]) (by simp only [f25_C2, rrm, ↓wk, ↓wl, evV, ↓reduceIte, sevalprocAttr])
  ·rintro v_764 s_ h_ H hs_ hh_
   simp only [f25_C2] at H hs_ hh_
   subst hs_
   subst hh_
   try simp only [↓wk, ↓wl, nq, evV, ↓reduceIte, sevalprocAttr]
   refine AW.rseq ?_
   try simp only [↓wk, ↓wl, nq, evV, ↓reduceIte, sevalprocAttr]
   refine AW.rseq ?_
   try simp only [↓wk, ↓wl, nq, evV, ↓reduceIte, sevalprocAttr]
   refine AW.bseq ?_
   refine AW.rseq ?_
   try simp only [↓wk, ↓wl, nq, evV, ↓reduceIte, sevalprocAttr]
   refine AW.ifc H (by rfl) ?_ ?_ <;> clear H <;> intro H
   ·refine AW.rseq ?_
    try simp only [↓wk, ↓wl, nq, evV, ↓reduceIte, sevalprocAttr]
    refine evTs_inl (I := f25_C4 s_687 v_764) (args := [.int .i64 3, .ptr 2 0, .ptr 4 0]) H (by rfl) fd37 (by rfl) (Nat.le_of_ble_eq_true rfl) ?_ ?_ <;> clear H
    ·rintro v_ Q_ H hqf25_C4
     simp only [f25_C4] at H
     dsimp only [List.length_cons, List.length_nil]
     refine AW.rseq ?_
     try simp only [↓wk, ↓wl, nq, evV, ↓reduceIte, sevalprocAttr]
     refine AW.rseq ?_
     try simp only [↓wk, ↓wl, nq, evV, ↓reduceIte, sevalprocAttr]
     refine evTs_sslc H (by rfl) (by simp only [loI, hiI, ↓wk, ↓wl, nq, evV, ↓reduceIte, sevalprocAttr]; rfl) (by simp only [loI, hiI, ↓wk, ↓wl, nq, evV, ↓reduceIte, sevalprocAttr]; rfl) ?_ <;> clear H <;> intro s_775 H
     try simp only [↓wk, ↓wl, nq, evV, ↓reduceIte, sevalprocAttr]
     refine AW.ret ?_
     cases H
     exact hqf25_C4 _ _ _ (.inr rfl) (Le.tq 5 [0, 1, 2, 3, 4, 5] [4, 5] rfl) (by simp only [resVs, omap, resV, f25_C4, rrm, ↓wk, ↓wl, evV, ↓reduceIte, sevalprocAttr]) (by simp only [f25_C4, rrm, ↓wk, ↓wl, evV, ↓reduceIte, sevalprocAttr])
    ·rintro v_774 s_ h_ H hs_ hh_
     simp only [f25_C4] at H hs_ hh_
     subst hs_
     subst hh_
     try simp only [↓wk, ↓wl, nq, evV, ↓reduceIte, sevalprocAttr]
     refine AW.ret ?_
     refine blkQ.ret ?_
     cases H
     exact hqf25_C1 _ _ _ (.inr rfl) (Le.tq 2 [0, 1, 3] [2, 3] rfl) (by simp only [resVs, omap, resV, f25_C1, rrm, ↓wk, ↓wl, evV, ↓reduceIte, sevalprocAttr]) (by simp only [f25_C1, rrm, ↓wk, ↓wl, evV, ↓reduceIte, sevalprocAttr])
   ·refine AW.rseq ?_
    try simp only [↓wk, ↓wl, nq, evV, ↓reduceIte, sevalprocAttr]
    refine evTs_flat hFn H (fun _ h => f38_39p_ok h) (by rfl) (by rfl) (by simp only [deep_eq, imm_simps, imm_rowE, imm_ptrE, imm_enc, omap_simps, take_map_len, take_map_set, take_map_set2, List.length_set, le_refl_true, Nat.zero_add, and_true, true_and, List.drop_zero, Option.map_some, ↓wk, ↓wl, nq, evV, ↓reduceIte, sevalprocAttr]; rfl) (by rfl) (fun _ => rfl) (fun _ => rfl) ?_ <;> clear H <;> intro r_776 H
    try simp only [eL, ↓wk, ↓wl, nq, evV, ↓reduceIte, sevalprocAttr]
    refine AW.ifc H (by rfl) ?_ ?_ <;> clear H <;> intro H
    ·refine AW.rseq ?_
     try simp only [↓wk, ↓wl, nq, evV, ↓reduceIte, sevalprocAttr]
     refine evTs_inl (I := f25_C5 s_687 v_764) (args := [.ptr 1 0, .fn 40 []]) H (by rfl) fd35 (by rfl) (Nat.le_of_ble_eq_true rfl) ?_ ?_ <;> clear H
     ·rintro v_ Q_ H hqf25_C5
      simp only [f25_C5] at H
      dsimp only [List.length_cons, List.length_nil]
      refine AW.bend ?_
      refine AW.iter H ((Le.tq 5 [0, 1, 2, 3, 4] [0, 1] (by simp only [f25_L6c, rrm, ↓wk, ↓wl, evV, ↓reduceIte, sevalprocAttr] <;> rfl))) ?_ <;> clear H
      rintro v_787 x_ st0_ H hst_
      rw [f25_L6c] at hst_
      simp only [f25_L6] at H
      subst hst_
      refine AW.sseq ?_
      refine AW.rseq ?_
      try simp only [↓wk, ↓wl, nq, evV, ↓reduceIte, sevalprocAttr]
      refine evTs_flat hFn H (fun _ h => f38_40p_ok h) (by rfl) (by rfl) (by simp only [deep_eq, imm_simps, imm_rowE, imm_ptrE, imm_enc, omap_simps, take_map_len, take_map_set, take_map_set2, List.length_set, le_refl_true, Nat.zero_add, and_true, true_and, List.drop_zero, Option.map_some, ↓wk, ↓wl, nq, evV, ↓reduceIte, sevalprocAttr]; rfl) (by rfl) (fun _ => rfl) (fun _ => rfl) ?_ <;> clear H <;> intro r_790 H
      try simp only [eL, ↓wk, ↓wl, nq, evV, ↓reduceIte, sevalprocAttr]
      refine AW.ifc H (by rfl) ?_ ?_ <;> clear H <;> intro H
      ·refine AW.skip ?_
       refine seqQ.norm ?_
       refine AW.bend ?_
       refine AW.rend ?_
       try simp only [↓wk, ↓wl, nq, evV, ↓reduceIte, sevalprocAttr]
       refine blk0.norm ?_
       exact loopQ.next H ((Le.tq 5 [0, 1, 2, 3, 4] [0, 1] (by simp only [f25_L6c, rrm, ↓wk, ↓wl, evV, ↓reduceIte, sevalprocAttr] <;> rfl)))
      ·refine AW.exit ?_
       refine seqQ.exit ?_
       refine loopQ.exit H ?_ <;> clear H <;> intro H
       try dsimp only at H
       refine blk0.here ?_
       cases H
       exact hqf25_C5 _ _ _ (.inl rfl) (Le.tq 5 [0, 1, 2, 3, 4] [] rfl) (by simp only [resVs, omap, resV, f25_C5, rrm, ↓wk, ↓wl, evV, ↓reduceIte, sevalprocAttr]) (by simp only [f25_C5, rrm, ↓wk, ↓wl, evV, ↓reduceIte, sevalprocAttr])
     ·rintro v_783 s_ h_ H hs_ hh_
      simp only [f25_C5] at H hs_ hh_
      subst hs_
      subst hh_
      try simp only [↓wk, ↓wl, nq, evV, ↓reduceIte, sevalprocAttr]
      refine AW.rseq ?_
      try simp only [↓wk, ↓wl, nq, evV, ↓reduceIte, sevalprocAttr]
      refine evTs_inl (I := f25_C7 s_687 v_764 v_783) (args := [.int .i64 0, .ptr 2 0, .ptr 4 0]) H (by rfl) fd37 (by rfl) (Nat.le_of_ble_eq_true rfl) ?_ ?_ <;> clear H
      ·rintro v_ Q_ H hqf25_C7
       simp only [f25_C7] at H
       dsimp only [List.length_cons, List.length_nil]
       refine AW.rseq ?_
       try simp only [↓wk, ↓wl, nq, evV, ↓reduceIte, sevalprocAttr]
       refine AW.rseq ?_
       try simp only [↓wk, ↓wl, nq, evV, ↓reduceIte, sevalprocAttr]
       refine evTs_sslc H (by rfl) (by simp only [loI, hiI, ↓wk, ↓wl, nq, evV, ↓reduceIte, sevalprocAttr]; rfl) (by simp only [loI, hiI, ↓wk, ↓wl, nq, evV, ↓reduceIte, sevalprocAttr]; rfl) ?_ <;> clear H <;> intro s_794 H
       try simp only [↓wk, ↓wl, nq, evV, ↓reduceIte, sevalprocAttr]
       refine AW.ret ?_
       cases H
       exact hqf25_C7 _ _ _ (.inr rfl) (Le.tq 5 [0, 1, 2, 3, 4, 5] [4, 5] rfl) (by simp only [resVs, omap, resV, f25_C7, rrm, ↓wk, ↓wl, evV, ↓reduceIte, sevalprocAttr]) (by simp only [f25_C7, rrm, ↓wk, ↓wl, evV, ↓reduceIte, sevalprocAttr])
      ·rintro v_793 s_ h_ H hs_ hh_
       simp only [f25_C7] at H hs_ hh_
       subst hs_
       subst hh_
       try simp only [↓wk, ↓wl, nq, evV, ↓reduceIte, sevalprocAttr]
       refine AW.rseq ?_
       try simp only [↓wk, ↓wl, nq, evV, ↓reduceIte, sevalprocAttr]
       refine evTs_pure hFn H (fun _ h => f41_ok h) (by rfl) (by rfl) (by rfl) (by rfl) (fun _ => rfl) ?_ <;> clear H <;> intro r_795 H
       try simp only [eL, ↓wk, ↓wl, nq, evV, ↓reduceIte, sevalprocAttr]
       refine AW.rseq ?_
       try simp only [↓wk, ↓wl, nq, evV, ↓reduceIte, sevalprocAttr]
       refine AW.ret ?_
       refine blkQ.ret ?_
       cases H
       exact hqf25_C1 _ _ _ (.inr rfl) (Le.tq 2 [0, 1, 3] [2, 3] rfl) (by simp only [resVs, omap, resV, f25_C1, rrm, ↓wk, ↓wl, evV, ↓reduceIte, sevalprocAttr]) (by simp only [f25_C1, rrm, ↓wk, ↓wl, evV, ↓reduceIte, sevalprocAttr])
    ·refine AW.rseq ?_
     try simp only [↓wk, ↓wl, nq, evV, ↓reduceIte, sevalprocAttr]
     refine evTs_sat H (by rfl) (by rfl) ?_ <;> clear H <;> intro b_796 H
     try simp only [↓wk, ↓wl, nq, evV, ↓reduceIte, sevalprocAttr]
     refine AW.ifc H (by rfl) ?_ ?_ <;> clear H <;> intro H
     ·refine AW.rseq ?_
      try simp only [↓wk, ↓wl, nq, evV, ↓reduceIte, sevalprocAttr]
      refine AW.rseq ?_
      try simp only [↓wk, ↓wl, nq, evV, ↓reduceIte, sevalprocAttr]
      refine evTs_inl (I := f25_C8 s_687 v_764) (args := [.ptr 1 0, .fn 42 []]) H (by rfl) fd35 (by rfl) (Nat.le_of_ble_eq_true rfl) ?_ ?_ <;> clear H
      ·rintro v_ Q_ H hqf25_C8
       simp only [f25_C8] at H
       dsimp only [List.length_cons, List.length_nil]
       refine AW.bend ?_
       refine AW.iter H ((Le.tq 5 [0, 1, 2, 3, 4] [0, 1] (by simp only [f25_L9c, rrm, ↓wk, ↓wl, evV, ↓reduceIte, sevalprocAttr] <;> rfl))) ?_ <;> clear H
       rintro v_807 x_ st0_ H hst_
       rw [f25_L9c] at hst_
       simp only [f25_L9] at H
       subst hst_
       refine AW.sseq ?_
       refine AW.rseq ?_
       try simp only [↓wk, ↓wl, nq, evV, ↓reduceIte, sevalprocAttr]
       refine evTs_flat hFn H (fun _ h => f38_42p_ok h) (by rfl) (by rfl) (by simp only [deep_eq, imm_simps, imm_rowE, imm_ptrE, imm_enc, omap_simps, take_map_len, take_map_set, take_map_set2, List.length_set, le_refl_true, Nat.zero_add, and_true, true_and, List.drop_zero, Option.map_some, ↓wk, ↓wl, nq, evV, ↓reduceIte, sevalprocAttr]; rfl) (by rfl) (fun _ => rfl) (fun _ => rfl) ?_ <;> clear H <;> intro r_810 H
       try simp only [eL, ↓wk, ↓wl, nq, evV, ↓reduceIte, sevalprocAttr]
       refine AW.ifc H (by rfl) ?_ ?_ <;> clear H <;> intro H
       ·refine AW.skip ?_
        refine seqQ.norm ?_
        refine AW.bend ?_
        refine AW.rend ?_
        try simp only [↓wk, ↓wl, nq, evV, ↓reduceIte, sevalprocAttr]
        refine blk0.norm ?_
        exact loopQ.next H ((Le.tq 5 [0, 1, 2, 3, 4] [0, 1] (by simp only [f25_L9c, rrm, ↓wk, ↓wl, evV, ↓reduceIte, sevalprocAttr] <;> rfl)))
       ·refine AW.exit ?_
        refine seqQ.exit ?_
        refine loopQ.exit H ?_ <;> clear H <;> intro H
        try dsimp only at H
        refine blk0.here ?_
        cases H
        exact hqf25_C8 _ _ _ (.inl rfl) (Le.tq 5 [0, 1, 2, 3, 4] [] rfl) (by simp only [resVs, omap, resV, f25_C8, rrm, ↓wk, ↓wl, evV, ↓reduceIte, sevalprocAttr]) (by simp only [f25_C8, rrm, ↓wk, ↓wl, evV, ↓reduceIte, sevalprocAttr])
      ·rintro v_803 s_ h_ H hs_ hh_
       simp only [f25_C8] at H hs_ hh_
       subst hs_
       subst hh_
       try simp only [↓wk, ↓wl, nq, evV, ↓reduceIte, sevalprocAttr]
       refine AW.sseq ?_
       refine AW.rseq ?_
       try simp only [↓wk, ↓wl, nq, evV, ↓reduceIte, sevalprocAttr]
       refine evTs_flat hFn H (fun _ h => f38_43p_ok h) (by rfl) (by rfl) (by simp only [deep_eq, imm_simps, imm_rowE, imm_ptrE, imm_enc, omap_simps, take_map_len, take_map_set, take_map_set2, List.length_set, le_refl_true, Nat.zero_add, and_true, true_and, List.drop_zero, Option.map_some, ↓wk, ↓wl, nq, evV, ↓reduceIte, sevalprocAttr]; rfl) (by rfl) (fun _ => rfl) (fun _ => rfl) ?_ <;> clear H <;> intro r_812 H
       try simp only [eL, ↓wk, ↓wl, nq, evV, ↓reduceIte, sevalprocAttr]
       refine AW.ifc H (by rfl) ?_ ?_ <;> clear H <;> intro H
       ·refine AW.rseq ?_
        try simp only [↓wk, ↓wl, nq, evV, ↓reduceIte, sevalprocAttr]
        refine AW.rseq ?_
        try simp only [↓wk, ↓wl, nq, evV, ↓reduceIte, sevalprocAttr]
        refine AW.ret ?_
        refine seqQ.ret ?_
        refine blkQ.ret ?_
        cases H
        exact hqf25_C1 _ _ _ (.inr rfl) (Le.tq 2 [0, 1, 3] [2, 3] rfl) (by simp only [resVs, omap, resV, f25_C1, rrm, ↓wk, ↓wl, evV, ↓reduceIte, sevalprocAttr]) (by simp only [f25_C1, rrm, ↓wk, ↓wl, evV, ↓reduceIte, sevalprocAttr])
       ·refine AW.skip ?_
        refine seqQ.norm ?_
        refine AW.rseq ?_
        try simp only [↓wk, ↓wl, nq, evV, ↓reduceIte, sevalprocAttr]
        refine AW.rseq ?_
        try simp only [↓wk, ↓wl, nq, evV, ↓reduceIte, sevalprocAttr]
        refine evTs_inl (I := f25_C10 s_687 v_764 v_803) (args := [.int .i64 0, .ptr 2 0, .ptr 4 0]) H (by rfl) fd37 (by rfl) (Nat.le_of_ble_eq_true rfl) ?_ ?_ <;> clear H
        ·rintro v_ Q_ H hqf25_C10
         simp only [f25_C10] at H
         dsimp only [List.length_cons, List.length_nil]
         refine AW.rseq ?_
         try simp only [↓wk, ↓wl, nq, evV, ↓reduceIte, sevalprocAttr]
         refine AW.rseq ?_
         try simp only [↓wk, ↓wl, nq, evV, ↓reduceIte, sevalprocAttr]
         refine evTs_sslc H (by rfl) (by simp only [loI, hiI, ↓wk, ↓wl, nq, evV, ↓reduceIte, sevalprocAttr]; rfl) (by simp only [loI, hiI, ↓wk, ↓wl, nq, evV, ↓reduceIte, sevalprocAttr]; rfl) ?_ <;> clear H <;> intro s_816 H
         try simp only [↓wk, ↓wl, nq, evV, ↓reduceIte, sevalprocAttr]
         refine AW.ret ?_
         cases H
         exact hqf25_C10 _ _ _ (.inr rfl) (Le.tq 5 [0, 1, 2, 3, 4, 5] [4, 5] rfl) (by simp only [resVs, omap, resV, f25_C10, rrm, ↓wk, ↓wl, evV, ↓reduceIte, sevalprocAttr]) (by simp only [f25_C10, rrm, ↓wk, ↓wl, evV, ↓reduceIte, sevalprocAttr])
        ·rintro v_815 s_ h_ H hs_ hh_
         simp only [f25_C10] at H hs_ hh_
         subst hs_
         subst hh_
         try simp only [↓wk, ↓wl, nq, evV, ↓reduceIte, sevalprocAttr]
         refine AW.ret ?_
         refine blkQ.ret ?_
         cases H
         exact hqf25_C1 _ _ _ (.inr rfl) (Le.tq 2 [0, 1, 3] [2, 3] rfl) (by simp only [resVs, omap, resV, f25_C1, rrm, ↓wk, ↓wl, evV, ↓reduceIte, sevalprocAttr]) (by simp only [f25_C1, rrm, ↓wk, ↓wl, evV, ↓reduceIte, sevalprocAttr])
     ·refine AW.rseq ?_
      try simp only [↓wk, ↓wl, nq, evV, ↓reduceIte, sevalprocAttr]
      refine evTs_flat hFn H (fun _ h => f38_44p_ok h) (by rfl) (by rfl) (by simp only [deep_eq, imm_simps, imm_rowE, imm_ptrE, imm_enc, omap_simps, take_map_len, take_map_set, take_map_set2, List.length_set, le_refl_true, Nat.zero_add, and_true, true_and, List.drop_zero, Option.map_some, ↓wk, ↓wl, nq, evV, ↓reduceIte, sevalprocAttr]; rfl) (by rfl) (fun _ => rfl) (fun _ => rfl) ?_ <;> clear H <;> intro r_817 H
      try simp only [eL, ↓wk, ↓wl, nq, evV, ↓reduceIte, sevalprocAttr]
      refine AW.ifc H (by rfl) ?_ ?_ <;> clear H <;> intro H
      ·refine AW.rseq ?_
       try simp only [↓wk, ↓wl, nq, evV, ↓reduceIte, sevalprocAttr]
       refine evTs_inl (I := f25_C11 s_687 v_764) (args := [.ptr 1 0, .fn 44 []]) H (by rfl) fd35 (by rfl) (Nat.le_of_ble_eq_true rfl) ?_ ?_ <;> clear H
       ·rintro v_ Q_ H hqf25_C11
        simp only [f25_C11] at H
        dsimp only [List.length_cons, List.length_nil]
        refine AW.bend ?_
        refine AW.iter H ((Le.tq 5 [0, 1, 2, 3, 4] [0, 1] (by simp only [f25_L12c, rrm, ↓wk, ↓wl, evV, ↓reduceIte, sevalprocAttr] <;> rfl))) ?_ <;> clear H
        rintro v_828 x_ st0_ H hst_
        rw [f25_L12c] at hst_
        simp only [f25_L12] at H
        subst hst_
        refine AW.sseq ?_
        refine AW.rseq ?_
        try simp only [↓wk, ↓wl, nq, evV, ↓reduceIte, sevalprocAttr]
        refine evTs_flat hFn H (fun _ h => f38_44p_ok h) (by rfl) (by rfl) (by simp only [deep_eq, imm_simps, imm_rowE, imm_ptrE, imm_enc, omap_simps, take_map_len, take_map_set, take_map_set2, List.length_set, le_refl_true, Nat.zero_add, and_true, true_and, List.drop_zero, Option.map_some, ↓wk, ↓wl, nq, evV, ↓reduceIte, sevalprocAttr]; rfl) (by rfl) (fun _ => rfl) (fun _ => rfl) ?_ <;> clear H <;> intro r_831 H
        try simp only [eL, ↓wk, ↓wl, nq, evV, ↓reduceIte, sevalprocAttr]
        refine AW.ifc H (by rfl) ?_ ?_ <;> clear H <;> intro H
        ·refine AW.skip ?_
         refine seqQ.norm ?_
         refine AW.bend ?_
         refine AW.rend ?_
         try simp only [↓wk, ↓wl, nq, evV, ↓reduceIte, sevalprocAttr]
         refine blk0.norm ?_
         exact loopQ.next H ((Le.tq 5 [0, 1, 2, 3, 4] [0, 1] (by simp only [f25_L12c, rrm, ↓wk, ↓wl, evV, ↓reduceIte, sevalprocAttr] <;> rfl)))
        ·refine AW.exit ?_
         refine seqQ.exit ?_
         refine loopQ.exit H ?_ <;> clear H <;> intro H
         try dsimp only at H
         refine blk0.here ?_
         cases H
         exact hqf25_C11 _ _ _ (.inl rfl) (Le.tq 5 [0, 1, 2, 3, 4] [] rfl) (by simp only [resVs, omap, resV, f25_C11, rrm, ↓wk, ↓wl, evV, ↓reduceIte, sevalprocAttr]) (by simp only [f25_C11, rrm, ↓wk, ↓wl, evV, ↓reduceIte, sevalprocAttr])
       ·rintro v_824 s_ h_ H hs_ hh_
        simp only [f25_C11] at H hs_ hh_
        subst hs_
        subst hh_
        try simp only [↓wk, ↓wl, nq, evV, ↓reduceIte, sevalprocAttr]
        refine AW.sseq ?_
        refine AW.rseq ?_
        try simp only [↓wk, ↓wl, nq, evV, ↓reduceIte, sevalprocAttr]
        refine evTs_flat hFn H (fun _ h => f38_45p_ok h) (by rfl) (by rfl) (by simp only [deep_eq, imm_simps, imm_rowE, imm_ptrE, imm_enc, omap_simps, take_map_len, take_map_set, take_map_set2, List.length_set, le_refl_true, Nat.zero_add, and_true, true_and, List.drop_zero, Option.map_some, ↓wk, ↓wl, nq, evV, ↓reduceIte, sevalprocAttr]; rfl) (by rfl) (fun _ => rfl) (fun _ => rfl) ?_ <;> clear H <;> intro r_832 H
        try simp only [eL, ↓wk, ↓wl, nq, evV, ↓reduceIte, sevalprocAttr]
        refine evTs_ifg H (by rfl) ?_ ?_ <;> clear H <;> intro H
        ·try simp only [↓wk, ↓wl, nq, evV, ↓reduceIte, sevalprocAttr]
         refine evTs_flat hFn H (fun _ h => f38_44p_ok h) (by rfl) (by rfl) (by simp only [deep_eq, imm_simps, imm_rowE, imm_ptrE, imm_enc, omap_simps, take_map_len, take_map_set, take_map_set2, List.length_set, le_refl_true, Nat.zero_add, and_true, true_and, List.drop_zero, Option.map_some, ↓wk, ↓wl, nq, evV, ↓reduceIte, sevalprocAttr]; rfl) (by rfl) (fun _ => rfl) (fun _ => rfl) ?_ <;> clear H <;> intro r_833 H
         try simp only [eL, ↓wk, ↓wl, nq, evV, ↓reduceIte, sevalprocAttr]
         refine AW.ifc H (by rfl) ?_ ?_ <;> clear H <;> intro H
         ·refine AW.rseq ?_
          try simp only [↓wk, ↓wl, nq, evV, ↓reduceIte, sevalprocAttr]
          refine AW.rend ?_
          try simp only [↓wk, ↓wl, nq, evV, ↓reduceIte, sevalprocAttr]
          refine evTs_inl (I := f25_C13 s_687 v_764 v_824) (args := [.ptr 1 0, .fn 44 []]) H (by rfl) fd35 (by rfl) (Nat.le_of_ble_eq_true rfl) ?_ ?_ <;> clear H
          ·rintro v_ Q_ H hqf25_C13
           simp only [f25_C13] at H
           dsimp only [List.length_cons, List.length_nil]
           refine AW.bend ?_
           refine AW.iter H ((Le.tq 5 [0, 1, 2, 3, 4] [0, 1] (by simp only [f25_L14c, rrm, ↓wk, ↓wl, evV, ↓reduceIte, sevalprocAttr] <;> rfl))) ?_ <;> clear H
           rintro v_844 x_ st0_ H hst_
           rw [f25_L14c] at hst_
           simp only [f25_L14] at H
           subst hst_
           refine AW.sseq ?_
           refine AW.rseq ?_
           try simp only [↓wk, ↓wl, nq, evV, ↓reduceIte, sevalprocAttr]
           refine evTs_flat hFn H (fun _ h => f38_44p_ok h) (by rfl) (by rfl) (by simp only [deep_eq, imm_simps, imm_rowE, imm_ptrE, imm_enc, omap_simps, take_map_len, take_map_set, take_map_set2, List.length_set, le_refl_true, Nat.zero_add, and_true, true_and, List.drop_zero, Option.map_some, ↓wk, ↓wl, nq, evV, ↓reduceIte, sevalprocAttr]; rfl) (by rfl) (fun _ => rfl) (fun _ => rfl) ?_ <;> clear H <;> intro r_847 H
           try simp only [eL, ↓wk, ↓wl, nq, evV, ↓reduceIte, sevalprocAttr]
           refine AW.ifc H (by rfl) ?_ ?_ <;> clear H <;> intro H
           ·refine AW.skip ?_
            refine seqQ.norm ?_
            refine AW.bend ?_
            refine AW.rend ?_
            try simp only [↓wk, ↓wl, nq, evV, ↓reduceIte, sevalprocAttr]
            refine blk0.norm ?_
            exact loopQ.next H ((Le.tq 5 [0, 1, 2, 3, 4] [0, 1] (by simp only [f25_L14c, rrm, ↓wk, ↓wl, evV, ↓reduceIte, sevalprocAttr] <;> rfl)))
           ·refine AW.exit ?_
            refine seqQ.exit ?_
            refine loopQ.exit H ?_ <;> clear H <;> intro H
            try dsimp only at H
            refine blk0.here ?_
            cases H
            exact hqf25_C13 _ _ _ (.inl rfl) (Le.tq 5 [0, 1, 2, 3, 4] [] rfl) (by simp only [resVs, omap, resV, f25_C13, rrm, ↓wk, ↓wl, evV, ↓reduceIte, sevalprocAttr]) (by simp only [f25_C13, rrm, ↓wk, ↓wl, evV, ↓reduceIte, sevalprocAttr])
          ·rintro v_840 s_ h_ H hs_ hh_
           simp only [f25_C13] at H hs_ hh_
           subst hs_
           subst hh_
           try simp only [↓wk, ↓wl, nq, evV, ↓reduceIte, sevalprocAttr]
           refine seqQ.norm ?_
           refine AW.rseq ?_
           try simp only [↓wk, ↓wl, nq, evV, ↓reduceIte, sevalprocAttr]
           refine evTs_inl (I := f25_C15 s_687 v_764 v_840) (args := [.int .i64 1, .ptr 2 0, .ptr 4 0]) H (by rfl) fd37 (by rfl) (Nat.le_of_ble_eq_true rfl) ?_ ?_ <;> clear H
           ·rintro v_ Q_ H hqf25_C15
            simp only [f25_C15] at H
            dsimp only [List.length_cons, List.length_nil]
            refine AW.rseq ?_
            try simp only [↓wk, ↓wl, nq, evV, ↓reduceIte, sevalprocAttr]
            refine AW.rseq ?_
            try simp only [↓wk, ↓wl, nq, evV, ↓reduceIte, sevalprocAttr]
            refine evTs_sslc H (by rfl) (by simp only [loI, hiI, ↓wk, ↓wl, nq, evV, ↓reduceIte, sevalprocAttr]; rfl) (by simp only [loI, hiI, ↓wk, ↓wl, nq, evV, ↓reduceIte, sevalprocAttr]; rfl) ?_ <;> clear H <;> intro s_851 H
            try simp only [↓wk, ↓wl, nq, evV, ↓reduceIte, sevalprocAttr]
            refine AW.ret ?_
            cases H
            exact hqf25_C15 _ _ _ (.inr rfl) (Le.tq 5 [0, 1, 2, 3, 4, 5] [4, 5] rfl) (by simp only [resVs, omap, resV, f25_C15, rrm, ↓wk, ↓wl, evV, ↓reduceIte, sevalprocAttr]) (by simp only [f25_C15, rrm, ↓wk, ↓wl, evV, ↓reduceIte, sevalprocAttr])
           ·rintro v_850 s_ h_ H hs_ hh_
            simp only [f25_C15] at H hs_ hh_
            subst hs_
            subst hh_
            try simp only [↓wk, ↓wl, nq, evV, ↓reduceIte, sevalprocAttr]
            refine AW.ret ?_
            refine blkQ.ret ?_
            cases H
            exact hqf25_C1 _ _ _ (.inr rfl) (Le.tq 2 [0, 1, 3] [2, 3] rfl) (by simp only [resVs, omap, resV, f25_C1, rrm, ↓wk, ↓wl, evV, ↓reduceIte, sevalprocAttr]) (by simp only [f25_C1, rrm, ↓wk, ↓wl, evV, ↓reduceIte, sevalprocAttr])
         ·refine AW.skip ?_
          refine seqQ.norm ?_
          refine AW.rseq ?_
          try simp only [↓wk, ↓wl, nq, evV, ↓reduceIte, sevalprocAttr]
          refine evTs_inl (I := f25_C16 s_687 v_764 v_824) (args := [.int .i64 1, .ptr 2 0, .ptr 4 0]) H (by rfl) fd37 (by rfl) (Nat.le_of_ble_eq_true rfl) ?_ ?_ <;> clear H
          ·rintro v_ Q_ H hqf25_C16
           simp only [f25_C16] at H
           dsimp only [List.length_cons, List.length_nil]
           refine AW.rseq ?_
           try simp only [↓wk, ↓wl, nq, evV, ↓reduceIte, sevalprocAttr]
           refine AW.rseq ?_
           try simp only [↓wk, ↓wl, nq, evV, ↓reduceIte, sevalprocAttr]
           refine evTs_sslc H (by rfl) (by simp only [loI, hiI, ↓wk, ↓wl, nq, evV, ↓reduceIte, sevalprocAttr]; rfl) (by simp only [loI, hiI, ↓wk, ↓wl, nq, evV, ↓reduceIte, sevalprocAttr]; rfl) ?_ <;> clear H <;> intro s_855 H
           try simp only [↓wk, ↓wl, nq, evV, ↓reduceIte, sevalprocAttr]
           refine AW.ret ?_
           cases H
           exact hqf25_C16 _ _ _ (.inr rfl) (Le.tq 5 [0, 1, 2, 3, 4, 5] [4, 5] rfl) (by simp only [resVs, omap, resV, f25_C16, rrm, ↓wk, ↓wl, evV, ↓reduceIte, sevalprocAttr]) (by simp only [f25_C16, rrm, ↓wk, ↓wl, evV, ↓reduceIte, sevalprocAttr])
          ·rintro v_854 s_ h_ H hs_ hh_
           simp only [f25_C16] at H hs_ hh_
           subst hs_
           subst hh_
           try simp only [↓wk, ↓wl, nq, evV, ↓reduceIte, sevalprocAttr]
           refine AW.ret ?_
           refine blkQ.ret ?_
           cases H
           exact hqf25_C1 _ _ _ (.inr rfl) (Le.tq 2 [0, 1, 3] [2, 3] rfl) (by simp only [resVs, omap, resV, f25_C1, rrm, ↓wk, ↓wl, evV, ↓reduceIte, sevalprocAttr]) (by simp only [f25_C1, rrm, ↓wk, ↓wl, evV, ↓reduceIte, sevalprocAttr])
        ·try simp only [↓wk, ↓wl, nq, evV, ↓reduceIte, sevalprocAttr]
         refine AW.iff (by rfl) ?_
         refine AW.skip ?_
         refine seqQ.norm ?_
         refine AW.rseq ?_
         try simp only [↓wk, ↓wl, nq, evV, ↓reduceIte, sevalprocAttr]
         refine evTs_inl (I := f25_C17 s_687 v_764 v_824) (args := [.int .i64 1, .ptr 2 0, .ptr 4 0]) H (by rfl) fd37 (by rfl) (Nat.le_of_ble_eq_true rfl) ?_ ?_ <;> clear H
         ·rintro v_ Q_ H hqf25_C17
          simp only [f25_C17] at H
          dsimp only [List.length_cons, List.length_nil]
          refine AW.rseq ?_
          try simp only [↓wk, ↓wl, nq, evV, ↓reduceIte, sevalprocAttr]
          refine AW.rseq ?_
          try simp only [↓wk, ↓wl, nq, evV, ↓reduceIte, sevalprocAttr]
          refine evTs_sslc H (by rfl) (by simp only [loI, hiI, ↓wk, ↓wl, nq, evV, ↓reduceIte, sevalprocAttr]; rfl) (by simp only [loI, hiI, ↓wk, ↓wl, nq, evV, ↓reduceIte, sevalprocAttr]; rfl) ?_ <;> clear H <;> intro s_859 H
          try simp only [↓wk, ↓wl, nq, evV, ↓reduceIte, sevalprocAttr]
          refine AW.ret ?_
          cases H
          exact hqf25_C17 _ _ _ (.inr rfl) (Le.tq 5 [0, 1, 2, 3, 4, 5] [4, 5] rfl) (by simp only [resVs, omap, resV, f25_C17, rrm, ↓wk, ↓wl, evV, ↓reduceIte, sevalprocAttr]) (by simp only [f25_C17, rrm, ↓wk, ↓wl, evV, ↓reduceIte, sevalprocAttr])
         ·rintro v_858 s_ h_ H hs_ hh_
          simp only [f25_C17] at H hs_ hh_
          subst hs_
          subst hh_
          try simp only [↓wk, ↓wl, nq, evV, ↓reduceIte, sevalprocAttr]
          refine AW.ret ?_
          refine blkQ.ret ?_
          cases H
          exact hqf25_C1 _ _ _ (.inr rfl) (Le.tq 2 [0, 1, 3] [2, 3] rfl) (by simp only [resVs, omap, resV, f25_C1, rrm, ↓wk, ↓wl, evV, ↓reduceIte, sevalprocAttr]) (by simp only [f25_C1, rrm, ↓wk, ↓wl, evV, ↓reduceIte, sevalprocAttr])
      ·refine AW.rseq ?_
       try simp only [↓wk, ↓wl, nq, evV, ↓reduceIte, sevalprocAttr]
       refine evTs_flat hFn H (fun _ h => f38_46p_ok h) (by rfl) (by rfl) (by simp only [deep_eq, imm_simps, imm_rowE, imm_ptrE, imm_enc, omap_simps, take_map_len, take_map_set, take_map_set2, List.length_set, le_refl_true, Nat.zero_add, and_true, true_and, List.drop_zero, Option.map_some, ↓wk, ↓wl, nq, evV, ↓reduceIte, sevalprocAttr]; rfl) (by rfl) (fun _ => rfl) (fun _ => rfl) ?_ <;> clear H <;> intro r_860 H
       try simp only [eL, ↓wk, ↓wl, nq, evV, ↓reduceIte, sevalprocAttr]
       refine AW.ifc H (by rfl) ?_ ?_ <;> clear H <;> intro H
       ·refine AW.rseq ?_
        try simp only [↓wk, ↓wl, nq, evV, ↓reduceIte, sevalprocAttr]
        refine AW.rseq ?_
        try simp only [↓wk, ↓wl, nq, evV, ↓reduceIte, sevalprocAttr]
        refine evTs_inl (I := f25_C18 s_687 v_764) (args := [.int .i64 2, .ptr 2 0, .ptr 4 0]) H (by rfl) fd37 (by rfl) (Nat.le_of_ble_eq_true rfl) ?_ ?_ <;> clear H
        ·rintro v_ Q_ H hqf25_C18
         simp only [f25_C18] at H
         dsimp only [List.length_cons, List.length_nil]
         refine AW.rseq ?_
         try simp only [↓wk, ↓wl, nq, evV, ↓reduceIte, sevalprocAttr]
         refine AW.rseq ?_
         try simp only [↓wk, ↓wl, nq, evV, ↓reduceIte, sevalprocAttr]
         refine evTs_sslc H (by rfl) (by simp only [loI, hiI, ↓wk, ↓wl, nq, evV, ↓reduceIte, sevalprocAttr]; rfl) (by simp only [loI, hiI, ↓wk, ↓wl, nq, evV, ↓reduceIte, sevalprocAttr]; rfl) ?_ <;> clear H <;> intro s_864 H
         try simp only [↓wk, ↓wl, nq, evV, ↓reduceIte, sevalprocAttr]
         refine AW.ret ?_
         cases H
         exact hqf25_C18 _ _ _ (.inr rfl) (Le.tq 5 [0, 1, 2, 3, 4, 5] [4, 5] rfl) (by simp only [resVs, omap, resV, f25_C18, rrm, ↓wk, ↓wl, evV, ↓reduceIte, sevalprocAttr]) (by simp only [f25_C18, rrm, ↓wk, ↓wl, evV, ↓reduceIte, sevalprocAttr])
        ·rintro v_863 s_ h_ H hs_ hh_
         simp only [f25_C18] at H hs_ hh_
         subst hs_
         subst hh_
         try simp only [↓wk, ↓wl, nq, evV, ↓reduceIte, sevalprocAttr]
         refine AW.ret ?_
         refine blkQ.ret ?_
         cases H
         exact hqf25_C1 _ _ _ (.inr rfl) (Le.tq 2 [0, 1, 3] [2, 3] rfl) (by simp only [resVs, omap, resV, f25_C1, rrm, ↓wk, ↓wl, evV, ↓reduceIte, sevalprocAttr]) (by simp only [f25_C1, rrm, ↓wk, ↓wl, evV, ↓reduceIte, sevalprocAttr])
       ·refine AW.skip ?_
        refine blkQ.norm ?_
        refine AW.rseq ?_
        try simp only [↓wk, ↓wl, nq, evV, ↓reduceIte, sevalprocAttr]
        refine AW.ret ?_
        cases H
        exact hqf25_C1 _ _ _ (.inr rfl) (Le.tq 2 [0, 1, 3] [2, 3] rfl) (by simp only [resVs, omap, resV, f25_C1, rrm, ↓wk, ↓wl, evV, ↓reduceIte, sevalprocAttr]) (by simp only [f25_C1, rrm, ↓wk, ↓wl, evV, ↓reduceIte, sevalprocAttr])
 ·rintro ⟨v_753, v_754, v_755, v_756, v_757⟩ s_ h_ H hs_ hh_
  simp only [f25_C1] at H hs_ hh_
  subst hs_
  subst hh_
  try simp only [↓wk, ↓wl, nq, evV, ↓reduceIte, sevalprocAttr]
  refine AW.join (f25_J19 v_755 v_756 v_757) H ?_ fun hf25_J19 => ?_
  ·clear H
   rintro v_865 st0_ H hst_
   rw [f25_J19c] at hst_
   simp only [f25_J19] at H
   subst hst_
   refine AW.ret ?_
   cases H
   exact hQ.fin
  ·refine AW.regt ?_
   refine evR.fork ?_
   try simp only [↓wk, ↓wl, nq, evV, ↓reduceIte, sevalprocAttr]
   refine evTs_ifg H (by rfl) ?_ ?_ <;> clear H <;> intro H
   ·try simp only [↓wk, ↓wl, nq, evV, ↓reduceIte, sevalprocAttr]
    refine evTs_ifg H (by rfl) ?_ ?_ <;> clear H <;> intro H
    ·try simp only [↓wk, ↓wl, nq, evV, ↓reduceIte, sevalprocAttr]
     refine evTs_ifg H (by rfl) ?_ ?_ <;> clear H <;> intro H
     ·try simp only [↓wk, ↓wl, nq, evV, ↓reduceIte, sevalprocAttr]
      refine evR.both ?_ ?_
      ·refine evR.run ?_
       try simp only [↓wk, ↓wl, nq, evV, ↓reduceIte, sevalprocAttr]
       refine seqQ.norm ?_
       exact hf25_J19 _ _ H ((Le.tz [0] [2, 3] (by simp only [f25_J19c, rrm, ↓wk, ↓wl, evV, ↓reduceIte, sevalprocAttr] <;> rfl)))
      ·refine evR.run ?_
       try simp only [↓wk, ↓wl, nq, evV, ↓reduceIte, sevalprocAttr]
       refine seqQ.norm ?_
       exact hf25_J19 _ _ H ((Le.tz [0] [2, 3] (by simp only [f25_J19c, rrm, ↓wk, ↓wl, evV, ↓reduceIte, sevalprocAttr] <;> rfl)))
     ·try simp only [↓wk, ↓wl, nq, evV, ↓reduceIte, sevalprocAttr]
      refine evR.both ?_ ?_
      ·refine evR.run ?_
       try simp only [↓wk, ↓wl, nq, evV, ↓reduceIte, sevalprocAttr]
       refine seqQ.norm ?_
       exact hf25_J19 _ _ H ((Le.tz [0] [2, 3] (by simp only [f25_J19c, rrm, ↓wk, ↓wl, evV, ↓reduceIte, sevalprocAttr] <;> rfl)))
      ·refine evR.run ?_
       try simp only [↓wk, ↓wl, nq, evV, ↓reduceIte, sevalprocAttr]
       refine seqQ.norm ?_
       exact hf25_J19 _ _ H ((Le.tz [0] [2, 3] (by simp only [f25_J19c, rrm, ↓wk, ↓wl, evV, ↓reduceIte, sevalprocAttr] <;> rfl)))
    ·try simp only [↓wk, ↓wl, nq, evV, ↓reduceIte, sevalprocAttr]
     refine evR.both ?_ ?_
     ·refine evR.run ?_
      try simp only [↓wk, ↓wl, nq, evV, ↓reduceIte, sevalprocAttr]
      refine seqQ.norm ?_
      exact hf25_J19 _ _ H ((Le.tz [0] [2, 3] (by simp only [f25_J19c, rrm, ↓wk, ↓wl, evV, ↓reduceIte, sevalprocAttr] <;> rfl)))
     ·refine evR.run ?_
      try simp only [↓wk, ↓wl, nq, evV, ↓reduceIte, sevalprocAttr]
      refine seqQ.norm ?_
      exact hf25_J19 _ _ H ((Le.tz [0] [2, 3] (by simp only [f25_J19c, rrm, ↓wk, ↓wl, evV, ↓reduceIte, sevalprocAttr] <;> rfl)))
   ·try simp only [↓wk, ↓wl, nq, evV, ↓reduceIte, sevalprocAttr]
    refine evR.both ?_ ?_
    ·refine evR.run ?_
     try simp only [↓wk, ↓wl, nq, evV, ↓reduceIte, sevalprocAttr]
     refine seqQ.norm ?_
     exact hf25_J19 _ _ H ((Le.tz [0] [2, 3] (by simp only [f25_J19c, rrm, ↓wk, ↓wl, evV, ↓reduceIte, sevalprocAttr] <;> rfl)))
    ·refine evR.run ?_
     try simp only [↓wk, ↓wl, nq, evV, ↓reduceIte, sevalprocAttr]
     refine seqQ.norm ?_
     exact hf25_J19 _ _ H ((Le.tz [0] [2, 3] (by simp only [f25_J19c, rrm, ↓wk, ↓wl, evV, ↓reduceIte, sevalprocAttr] <;> rfl)))
noncomputable def f26 (xs : List (List UInt8)) (sep : List UInt8) : Option (List UInt8) := join? xs sep
theorem f26_ok {xs : List (List UInt8)} {sep r_ : List UInt8} (H : f26 xs sep = some r_) : Pure Try.prog 26 [.sl 0 false (xs.map AV.str), .str sep] (· = .str r_) :=
  join_pure (fun _ _ => trivial) joins26 H
noncomputable def f15_L2 (l_675 : (List ApiToken)) : Lp (Int × (List (List UInt8))) (((List (List UInt8))) ⊕ (Int)) where
  body := fun (v_876, texts_877) => (if (decide (v_876 < ((l_675.length : Nat) : Int))) = true then (at? l_675 v_876).bind fun x_885 => (if (decide (x_885.fKind < 0)) = true then (some (.brk (Sum.inr 1))) else (if (decide (3 < x_885.fKind)) = true then (some (.brk (Sum.inr 1))) else (if (decide (v_876 = (IntKind.i64.wrap (((l_675.length : Nat) : Int) - 1)))) = true then (if (!(x_885.fText == ([]))) = true then (some (.brk (Sum.inr 3))) else (some (.brk (Sum.inl texts_877)))) else (f25 x_885.fText).bind fun r_888 => (if (!r_888.2) = true then (some (.brk (Sum.inr 3))) else (if (decide (r_888.1.fKind ≠ x_885.fKind)) = true then (some (.brk (Sum.inr 3))) else (if (!(r_888.1.fText == x_885.fText)) = true then (some (.brk (Sum.inr 3))) else (app? 16 texts_877 ([x_885.fText])).bind fun out_889 => (some (.next ((IntKind.i64.wrap (v_876 + 1)), out_889))))))))) else (some (.brk (Sum.inl texts_877))))
  cst := fun (v_876, texts_877) => ⟨put (put (put (put (put (fun _ => .junk) 35 (.int .i64 v_876)) 34 (.int .i64 ((l_675.length : Nat) : Int))) 33 (.sl 3 false (l_675.map eApiToken))) 7 (.row 0 0 0 texts_877.length)) 4 (.int .i64 (IntKind.i64.wrap (((l_675.length : Nat) : Int) - 1))), [.els 0 (texts_877.map AV.str)]⟩
theorem f15_L2c (l_675 : (List ApiToken)) (v_876 : Int) (texts_877 : (List (List UInt8))) : (f15_L2 l_675).cst (v_876, texts_877) = ⟨put (put (put (put (put (fun _ => .junk) 35 (.int .i64 v_876)) 34 (.int .i64 ((l_675.length : Nat) : Int))) 33 (.sl 3 false (l_675.map eApiToken))) 7 (.row 0 0 0 texts_877.length)) 4 (.int .i64 (IntKind.i64.wrap (((l_675.length : Nat) : Int) - 1))), [.els 0 (texts_877.map AV.str)]⟩ := rfl
noncomputable def f15_L1 (l_675 : (List ApiToken)) : Lp (Int) ((Unit) ⊕ (Unit)) where
  body := fun v_684 => (if (decide (v_684 < ((l_675.length : Nat) : Int))) = true then (at? l_675 v_684).bind fun x_910 => (if (!((decide (x_910.fKind = 3)) == (decide (v_684 = (IntKind.i64.wrap (((l_675.length : Nat) : Int) - 1)))))) = true then (some (.brk (Sum.inr ()))) else (some (.next (IntKind.i64.wrap (v_684 + 1))))) else (some (.brk (Sum.inl ()))))
  cst := fun v_684 => ⟨put (put (put (put (put (fun _ => .junk) 18 (.int .i64 v_684)) 17 (.int .i64 ((l_675.length : Nat) : Int))) 16 (.sl 3 false (l_675.map eApiToken))) 4 (.int .i64 (IntKind.i64.wrap (((l_675.length : Nat) : Int) - 1)))) 0 (.sl 3 false (l_675.map eApiToken)), []⟩
theorem f15_L1c (l_675 : (List ApiToken)) (v_684 : Int) : (f15_L1 l_675).cst v_684 = ⟨put (put (put (put (put (fun _ => .junk) 18 (.int .i64 v_684)) 17 (.int .i64 ((l_675.length : Nat) : Int))) 16 (.sl 3 false (l_675.map eApiToken))) 4 (.int .i64 (IntKind.i64.wrap (((l_675.length : Nat) : Int) - 1)))) 0 (.sl 3 false (l_675.map eApiToken)), []⟩ := rfl
def c15_0 : C := .cond (.t 29) (.seq (.reg [iI 2 (.mv (.c (.str []))), iI 3 (.mv (.c (.int .i64 12)))]) .ret) (.skip)
def c15_1 : C := .seq (.reg [iI 23 (.faddr 0 (.t 6)), iI 24 (.load 0 (.t 23)), iI 25 (.bin .eql (.t 24) (.c (.int .i64 3))), iI 26 (.mv (.t 5)), iI 27 (.mv (.t 4)), iI 28 (.bin .eql (.t 26) (.t 27)), iI 29 (.binb .neq (.t 25) (.t 28))]) c15_0
def c15_2 : C := .reg [iI 30 (.bin .add (.t 18) (.c (.int .i64 1))), iI 18 (.mv (.t 30))]
def c15_3 : C := .seq (.block 1 (.seq (.reg [iI 20 (.mv (.t 18)), iI 21 (.iaddr 3 (.t 16) (.t 18)), iI 22 (.load 3 (.t 21)), iI 6 (.alloc [(1, (.int .i64 0)), (1, (.str [])), (1, (.int .i64 0))]), iI 5 (.mv (.t 20)), iN (.store 3 (.t 6) (.t 22))]) c15_1)) c15_2
def c15_4 : C := .seq (.cond (.t 19) (.skip) (.exit 0)) c15_3
def c15_5 : C := .block 0 (.loop (.seq (.reg [iI 19 (.bin .lss (.t 18) (.t 17))]) c15_4))
def c15_6 : C := .cond (.t 32) (.seq (.reg [iI 2 (.mv (.c (.str []))), iI 3 (.mv (.c (.int .i64 12)))]) .ret) (.skip)
def c15_7 : C := .cond (.t 47) (.seq (.reg [iI 2 (.mv (.c (.str []))), iI 3 (.mv (.c (.int .i64 1)))]) .ret) (.skip)
def c15_8 : C := .cond (.t 53) (.seq (.reg [iI 2 (.mv (.c (.str []))), iI 3 (.mv (.c (.int .i64 3)))]) .ret) (.skip)
def c15_9 : C := .cond (.t 50) (.seq (.seq (.reg [iI 51 (.faddr 1 (.t 9)), iI 52 (.load 0 (.t 51)), iI 53 (.bin .neq (.t 52) (.c (.str [])))]) c15_8) (.exit 2)) (.skip)
def c15_10 : C := .cond (.t 75) (.seq (.reg [iI 2 (.mv (.c (.str []))), iI 3 (.mv (.c (.int .i64 3)))]) .ret) (.skip)
def c15_11 : C := .seq (.reg [iI 60 (.mv (.t 11)), iI 61 (.un .not (.t 60)), iI 62 (.mv (.t 61)), iG (some 63) 62 false (.faddr 0 (.t 10)), iG (some 64) 62 false (.load 0 (.t 63)), iG (some 65) 62 false (.faddr 0 (.t 9)), iG (some 66) 62 false (.load 0 (.t 65)), iG (some 67) 62 false (.bin .neq (.t 64) (.t 66)), iI 68 (.pick (.t 62) (.c (.bool true)) (.t 67)), iI 69 (.mv (.t 68)), iG (some 70) 69 false (.faddr 1 (.t 10)), iG (some 71) 69 false (.load 0 (.t 70)), iG (some 72) 69 false (.faddr 1 (.t 9)), iG (some 73) 69 false (.load 0 (.t 72)), iG (some 74) 69 false (.bin .neq (.t 71) (.t 73)), iI 75 (.pick (.t 69) (.c (.bool true)) (.t 74))]) c15_10
def c15_12 : C := .reg [iI 76 (.mv (.t 7)), iI 77 (.faddr 1 (.t 9)), iI 78 (.load 0 (.t 77)), iI 79 (.mkslp 0 1 (.str []) [(0, (.t 78))]), iI 80 (.append 0 16 (.t 76) (.t 79)), iI 7 (.mv (.t 80))]
def c15_13 : C := .seq (.seq (.reg [iI 55 (.faddr 1 (.t 9)), iI 56 (.load 0 (.t 55)), iI 57 (.call (.c (.fn 25 [])) [(.t 56)]), iI 54 (.mv (.t 57)), iI 58 (.ext (.t 54) 0), iI 59 (.ext (.t 54) 1), iI 10 (.alloc [(1, (.int .i64 0)), (1, (.str [])), (1, (.int .i64 0))]), iN (.store 3 (.t 10) (.t 58)), iI 11 (.mv (.t 59))]) c15_11) c15_12
def c15_14 : C := .seq (.seq (.reg [iI 48 (.mv (.t 8)), iI 49 (.mv (.t 4)), iI 50 (.bin .eql (.t 48) (.t 49))]) c15_9) c15_13
def c15_15 : C := .seq (.seq (.reg [iI 40 (.faddr 0 (.t 9)), iI 41 (.load 0 (.t 40)), iI 42 (.bin .lss (.t 41) (.c (.int .i64 0))), iI 43 (.mv (.t 42)), iG (some 44) 43 false (.faddr 0 (.t 9)), iG (some 45) 43 false (.load 0 (.t 44)), iG (some 46) 43 false (.bin .gtr (.t 45) (.c (.int .i64 3))), iI 47 (.pick (.t 43) (.c (.bool true)) (.t 46))]) c15_7) c15_14
def c15_16 : C := .reg [iI 81 (.bin .add (.t 35) (.c (.int .i64 1))), iI 35 (.mv (.t 81))]
def c15_17 : C := .seq (.block 3 (.seq (.reg [iI 37 (.mv (.t 35)), iI 38 (.iaddr 3 (.t 33) (.t 35)), iI 39 (.load 3 (.t 38)), iI 9 (.alloc [(1, (.int .i64 0)), (1, (.str [])), (1, (.int .i64 0))]), iI 8 (.mv (.t 37)), iN (.store 3 (.t 9) (.t 39))]) c15_15)) c15_16
def c15_18 : C := .seq (.cond (.t 36) (.skip) (.exit 2)) c15_17
def c15_19 : C := .block 2 (.loop (.seq (.reg [iI 36 (.bin .lss (.t 35) (.t 34))]) c15_18))
def c15_20 : C := .cond (.t 86) (.seq (.reg [iI 2 (.mv (.c (.str []))), iI 3 (.mv (.c (.int .i64 13)))]) .ret) (.skip)
def c15_21 : C := .seq (.reg [iI 87 (.mv (.t 12)), iI 2 (.mv (.t 87)), iI 3 (.mv (.c (.int .i64 0)))]) .ret
def c15_22 : C := .seq (.seq (.reg [iI 84 (.mv (.t 12)), iI 85 (.len 1 (.t 84)), iI 86 (.bin .gtr (.t 85) (.c (.int .i64 4096)))]) c15_20) c15_21
def c15_23 : C := .seq (.reg [iI 82 (.mv (.t 7)), iI 83 (.call (.c (.fn 26 [])) [(.t 82), (.c (.str [32]))]), iI 12 (.mv (.t 83))]) c15_22
def c15_24 : C := .seq (.seq (.reg [iI 33 (.mv (.t 0)), iI 34 (.len 0 (.t 33)), iI 35 (.mv (.c (.int .i64 0)))]) c15_19) c15_23
def c15_25 : C := .seq (.reg [iI 7 (.mv (.c (.sl 0 true [])))]) c15_24
def c15_26 : C := .seq (.seq (.reg [iI 31 (.mv (.t 4)), iI 32 (.bin .lss (.t 31) (.c (.int .i64 0)))]) c15_6) c15_25
def c15_27 : C := .seq (.seq (.reg [iI 16 (.mv (.t 0)), iI 17 (.len 0 (.t 16)), iI 18 (.mv (.c (.int .i64 0)))]) c15_5) c15_26
def c15_28 : C := .seq (.reg [iI 13 (.mv (.t 0)), iI 14 (.len 0 (.t 13)), iI 15 (.bin .sub (.t 14) (.c (.int .i64 1))), iI 4 (.mv (.t 15))]) c15_27
def ir15 : C := .seq (.reg [iI 2 (.mv (.c (.str []))), iI 3 (.mv (.c (.int .i64 0)))]) c15_28
theorem fd15 : fd? Try.prog 15 = some (88, [.slot 2, .slot 3], ir15) := by kernel_rfl
noncomputable def f15 (l_675 : (List ApiToken)) : Option ((List UInt8) × Int) :=
  ((Lp.run (f15_L1 l_675) 0).bind fun r_ => match r_ with | (Sum.inl _) => (if (decide ((IntKind.i64.wrap (((l_675.length : Nat) : Int) - 1)) < 0)) = true then (some ([], 12)) else ((Lp.run (f15_L2 l_675) (0, [])).bind fun r_ => match r_ with | (Sum.inl texts_881) => (f26 texts_881 ([32])).bind fun r_882 => (if (decide (4096 < ((r_882.length : Nat) : Int))) = true then (some ([], 13)) else (some (r_882, 0))) | (Sum.inr v_883) => (some ([], v_883)))) | (Sum.inr _) => (some ([], 12)))
theorem f15_ok {l_675 : (List ApiToken)} {r_ : (List UInt8) × Int} (H : f15 l_675 = some r_) : Pure Try.prog 15 [.sl 3 false (l_675.map eApiToken)] (· = .tup [.str r_.1, .int .i64 r_.2]) := by
 refine Pure.walk3 fd15 none (Nat.le_of_ble_eq_true rfl) (by rfl) fun Q hQ => ?_
 simp only [f15] at H
 refine AW.rseq ?_
 try simp only [↓wk, ↓wl, nq, evV, ↓reduceIte, sevalprocAttr]
 refine AW.rseq ?_
 try simp only [↓wk, ↓wl, nq, evV, ↓reduceIte, sevalprocAttr]
 refine AW.sseq ?_
 refine AW.rseq ?_
 try simp only [↓wk, ↓wl, nq, evV, ↓reduceIte, sevalprocAttr]
 refine AW.bend ?_
 refine AW.iter H ((Le.tz [] [0, 4, 16, 17, 18] (by simp only [f15_L1c, rrm, ↓wk, ↓wl, evV, ↓reduceIte, sevalprocAttr] <;> rfl))) ?_ <;> clear H
 rintro v_684 x_ st0_ H hst_
 rw [f15_L1c] at hst_
 simp only [f15_L1] at H
 subst hst_
 refine AW.rseq ?_
 try simp only [↓wk, ↓wl, nq, evV, ↓reduceIte, sevalprocAttr]
 refine AW.sseq ?_
 refine AW.ifc H (by rfl) ?_ ?_ <;> clear H <;> intro H
 ·refine AW.skip ?_
  refine seqQ.norm ?_
  refine AW.bseq ?_
  refine AW.rseq ?_
  try simp only [↓wk, ↓wl, nq, evV, ↓reduceIte, sevalprocAttr]
  refine evTs_at (enc := eApiToken) H (by rfl) (by rfl) ?_ <;> clear H <;> intro x_910 H
  try simp only [eApiToken, eL, ↓wk, ↓wl, nq, evV, ↓reduceIte, sevalprocAttr]
  refine AW.rseq ?_
  try simp only [↓wk, ↓wl, nq, evV, ↓reduceIte, sevalprocAttr]
  refine AW.ifc H (by rfl) ?_ ?_ <;> clear H <;> intro H
  ·refine AW.rseq ?_
   try simp only [↓wk, ↓wl, nq, evV, ↓reduceIte, sevalprocAttr]
   refine AW.ret ?_
   refine blkQ.ret ?_
   refine loopQ.ret H ?_ <;> clear H <;> intro H
   try dsimp only at H
   refine blk0.ret ?_
   refine seqQ.ret ?_
   cases H
   exact hQ.fin
  ·refine AW.skip ?_
   refine blkQ.norm ?_
   refine AW.rend ?_
   try simp only [↓wk, ↓wl, nq, evV, ↓reduceIte, sevalprocAttr]
   exact loopQ.next H ((Le.tz [] [0, 4, 16, 17, 18] (by simp only [f15_L1c, rrm, ↓wk, ↓wl, evV, ↓reduceIte, sevalprocAttr] <;> rfl)))
 ·refine AW.exit ?_
  refine seqQ.exit ?_
  refine loopQ.exit H ?_ <;> clear H <;> intro H
  try dsimp only at H
  refine blk0.here ?_
  refine seqQ.norm ?_
  refine AW.sseq ?_
  refine AW.rseq ?_
  try simp only [↓wk, ↓wl, nq, evV, ↓reduceIte, sevalprocAttr]
  refine AW.ifc H (by rfl) ?_ ?_ <;> clear H <;> intro H
  ·refine AW.rseq ?_
   try simp only [↓wk, ↓wl, nq, evV, ↓reduceIte, sevalprocAttr]
   refine AW.ret ?_
   refine seqQ.ret ?_
   cases H
   exact hQ.fin
  ·refine AW.skip ?_
   refine seqQ.norm ?_
   refine AW.rseq ?_
   try simp only [↓wk, ↓wl, nq, evV, ↓reduceIte, sevalprocAttr]
   refine AW.sseq ?_
   refine AW.rseq ?_
   try simp only [↓wk, ↓wl, nq, evV, ↓reduceIte, sevalprocAttr]
   refine AW.bend ?_
   refine AW.iter H ((Le.trans (Le.nilRow (i := 7) (e := 0) (by simp only [↓wk, ↓wl, nq, evV, ↓reduceIte, sevalprocAttr])) (Le.tz [0] [4, 7, 33, 34, 35] (by simp only [f15_L2c, rrm, ↓wk, ↓wl, evV, ↓reduceIte, sevalprocAttr] <;> rfl)))) ?_ <;> clear H
   rintro ⟨v_922, texts_923⟩ x_ st0_ H hst_
   rw [f15_L2c] at hst_
   simp only [f15_L2] at H
   subst hst_
   refine AW.rseq ?_
   try simp only [↓wk, ↓wl, nq, evV, ↓reduceIte, sevalprocAttr]
   refine AW.sseq ?_
   refine AW.ifc H (by rfl) ?_ ?_ <;> clear H <;> intro H
   ·refine AW.skip ?_
    refine seqQ.norm ?_
    refine AW.bseq ?_
    refine AW.rseq ?_
    try simp only [↓wk, ↓wl, nq, evV, ↓reduceIte, sevalprocAttr]
    refine evTs_at (enc := eApiToken) H (by rfl) (by rfl) ?_ <;> clear H <;> intro x_931 H
    try simp only [eApiToken, eL, ↓wk, ↓wl, nq, evV, ↓reduceIte, sevalprocAttr]
    refine AW.sseq ?_
    refine AW.rseq ?_
    try simp only [↓wk, ↓wl, nq, evV, ↓reduceIte, sevalprocAttr]
    refine evTs_ifg H (by rfl) ?_ ?_ <;> clear H <;> intro H
    ·try simp only [↓wk, ↓wl, nq, evV, ↓reduceIte, sevalprocAttr]
     refine AW.ift (by rfl) ?_
     refine AW.rseq ?_
     try simp only [↓wk, ↓wl, nq, evV, ↓reduceIte, sevalprocAttr]
     refine AW.ret ?_
     refine seqQ.ret ?_
     refine blkQ.ret ?_
     refine loopQ.ret H ?_ <;> clear H <;> intro H
     try dsimp only at H
     refine blk0.ret ?_
     refine seqQ.ret ?_
     cases H
     exact hQ.fin
    ·try simp only [↓wk, ↓wl, nq, evV, ↓reduceIte, sevalprocAttr]
     refine AW.ifc H (by rfl) ?_ ?_ <;> clear H <;> intro H
     ·refine AW.rseq ?_
      try simp only [↓wk, ↓wl, nq, evV, ↓reduceIte, sevalprocAttr]
      refine AW.ret ?_
      refine seqQ.ret ?_
      refine blkQ.ret ?_
      refine loopQ.ret H ?_ <;> clear H <;> intro H
      try dsimp only at H
      refine blk0.ret ?_
      refine seqQ.ret ?_
      cases H
      exact hQ.fin
     ·refine AW.skip ?_
      refine seqQ.norm ?_
      refine AW.sseq ?_
      refine AW.rseq ?_
      try simp only [↓wk, ↓wl, nq, evV, ↓reduceIte, sevalprocAttr]
      refine AW.ifc H (by rfl) ?_ ?_ <;> clear H <;> intro H
      ·refine AW.sseq ?_
       refine AW.rseq ?_
       try simp only [↓wk, ↓wl, nq, evV, ↓reduceIte, sevalprocAttr]
       refine AW.ifc H (by rfl) ?_ ?_ <;> clear H <;> intro H
       ·refine AW.rseq ?_
        try simp only [↓wk, ↓wl, nq, evV, ↓reduceIte, sevalprocAttr]
        refine AW.ret ?_
        refine seqQ.ret ?_
        refine seqQ.ret ?_
        refine blkQ.ret ?_
        refine loopQ.ret H ?_ <;> clear H <;> intro H
        try dsimp only at H
        refine blk0.ret ?_
        refine seqQ.ret ?_
        cases H
        exact hQ.fin
       ·refine AW.skip ?_
        refine seqQ.norm ?_
        refine AW.exit ?_
        refine seqQ.exit ?_
        refine blkQ.out (by rfl) ?_
        refine loopQ.exit H ?_ <;> clear H <;> intro H
        try dsimp only at H
        refine blk0.here ?_
        refine seqQ.norm ?_
        refine AW.rseq ?_
        try simp only [↓wk, ↓wl, nq, evV, ↓reduceIte, sevalprocAttr]
        refine evTs_flat hFn H (fun _ h => f26_ok h) (by rfl) (by rfl) (by simp only [deep_eq, imm_simps, imm_rowE, imm_ptrE, imm_enc, omap_simps, take_map_len, take_map_set, take_map_set2, List.length_set, le_refl_true, Nat.zero_add, and_true, true_and, List.drop_zero, Option.map_some, ↓wk, ↓wl, nq, evV, ↓reduceIte, sevalprocAttr]; rfl) (by rfl) (fun _ => rfl) (fun _ => rfl) ?_ <;> clear H <;> intro r_933 H
        try simp only [eL, ↓wk, ↓wl, nq, evV, ↓reduceIte, sevalprocAttr]
        refine AW.sseq ?_
        refine AW.rseq ?_
        try simp only [↓wk, ↓wl, nq, evV, ↓reduceIte, sevalprocAttr]
        refine AW.ifc H (by rfl) ?_ ?_ <;> clear H <;> intro H
        ·refine AW.rseq ?_
         try simp only [↓wk, ↓wl, nq, evV, ↓reduceIte, sevalprocAttr]
         refine AW.ret ?_
         refine seqQ.ret ?_
         cases H
         exact hQ.fin
        ·refine AW.skip ?_
         refine seqQ.norm ?_
         refine AW.rseq ?_
         try simp only [↓wk, ↓wl, nq, evV, ↓reduceIte, sevalprocAttr]
         refine AW.ret ?_
         cases H
         exact hQ.fin
      ·refine AW.skip ?_
       refine seqQ.norm ?_
       refine AW.sseq ?_
       refine AW.rseq ?_
       try simp only [↓wk, ↓wl, nq, evV, ↓reduceIte, sevalprocAttr]
       refine evTs_pure hFn H (fun _ h => f25_ok h) (by rfl) (by rfl) (by rfl) (by rfl) (fun _ => rfl) ?_ <;> clear H <;> intro r_934 H
       try simp only [eL, eApiToken, ↓wk, ↓wl, nq, evV, ↓reduceIte, sevalprocAttr]
       refine AW.rseq ?_
       try simp only [↓wk, ↓wl, nq, evV, ↓reduceIte, sevalprocAttr]
       refine evTs_ifg H (by rfl) ?_ ?_ <;> clear H <;> intro H
       ·try simp only [↓wk, ↓wl, nq, evV, ↓reduceIte, sevalprocAttr]
        refine AW.ift (by rfl) ?_
        refine AW.rseq ?_
        try simp only [↓wk, ↓wl, nq, evV, ↓reduceIte, sevalprocAttr]
        refine AW.ret ?_
        refine seqQ.ret ?_
        refine blkQ.ret ?_
        refine loopQ.ret H ?_ <;> clear H <;> intro H
        try dsimp only at H
        refine blk0.ret ?_
        refine seqQ.ret ?_
        cases H
        exact hQ.fin
       ·try simp only [↓wk, ↓wl, nq, evV, ↓reduceIte, sevalprocAttr]
        refine evTs_ifg H (by rfl) ?_ ?_ <;> clear H <;> intro H
        ·try simp only [↓wk, ↓wl, nq, evV, ↓reduceIte, sevalprocAttr]
         refine AW.ift (by rfl) ?_
         refine AW.rseq ?_
         try simp only [↓wk, ↓wl, nq, evV, ↓reduceIte, sevalprocAttr]
         refine AW.ret ?_
         refine seqQ.ret ?_
         refine blkQ.ret ?_
         refine loopQ.ret H ?_ <;> clear H <;> intro H
         try dsimp only at H
         refine blk0.ret ?_
         refine seqQ.ret ?_
         cases H
         exact hQ.fin
        ·try simp only [↓wk, ↓wl, nq, evV, ↓reduceIte, sevalprocAttr]
         refine AW.ifc H (by rfl) ?_ ?_ <;> clear H <;> intro H
         ·refine AW.rseq ?_
          try simp only [↓wk, ↓wl, nq, evV, ↓reduceIte, sevalprocAttr]
          refine AW.ret ?_
          refine seqQ.ret ?_
          refine blkQ.ret ?_
          refine loopQ.ret H ?_ <;> clear H <;> intro H
          try dsimp only at H
          refine blk0.ret ?_
          refine seqQ.ret ?_
          cases H
          exact hQ.fin
         ·refine AW.skip ?_
          refine seqQ.norm ?_
          refine AW.rend ?_
          try simp only [↓wk, ↓wl, nq, evV, ↓reduceIte, sevalprocAttr]
          refine evTs_app (enc := AV.str) H (by rfl) (by first | rfl | simp only [List.length_set]) (by rfl) (by rfl) ?_ <;> clear H <;> intro out_935 H
          try simp only [↓wk, ↓wl, nq, evV, ↓reduceIte, sevalprocAttr]
          refine blkQ.norm ?_
          refine AW.rend ?_
          try simp only [↓wk, ↓wl, nq, evV, ↓reduceIte, sevalprocAttr]
          exact loopQ.next H ((Le.tz [3] [4, 7, 33, 34, 35] (by simp only [f15_L2c, rrm, ↓wk, ↓wl, evV, ↓reduceIte, sevalprocAttr] <;> rfl)))
   ·refine AW.exit ?_
    refine seqQ.exit ?_
    refine loopQ.exit H ?_ <;> clear H <;> intro H
    try dsimp only at H
    refine blk0.here ?_
    refine seqQ.norm ?_
    refine AW.rseq ?_
    try simp only [↓wk, ↓wl, nq, evV, ↓reduceIte, sevalprocAttr]
    refine evTs_flat hFn H (fun _ h => f26_ok h) (by rfl) (by rfl) (by simp only [deep_eq, imm_simps, imm_rowE, imm_ptrE, imm_enc, omap_simps, take_map_len, take_map_set, take_map_set2, List.length_set, le_refl_true, Nat.zero_add, and_true, true_and, List.drop_zero, Option.map_some, ↓wk, ↓wl, nq, evV, ↓reduceIte, sevalprocAttr]; rfl) (by rfl) (fun _ => rfl) (fun _ => rfl) ?_ <;> clear H <;> intro r_936 H
    try simp only [eL, ↓wk, ↓wl, nq, evV, ↓reduceIte, sevalprocAttr]
    refine AW.sseq ?_
    refine AW.rseq ?_
    try simp only [↓wk, ↓wl, nq, evV, ↓reduceIte, sevalprocAttr]
    refine AW.ifc H (by rfl) ?_ ?_ <;> clear H <;> intro H
    ·refine AW.rseq ?_
     try simp only [↓wk, ↓wl, nq, evV, ↓reduceIte, sevalprocAttr]
     refine AW.ret ?_
     refine seqQ.ret ?_
     cases H
     exact hQ.fin
    ·refine AW.skip ?_
     refine seqQ.norm ?_
     refine AW.rseq ?_
     try simp only [↓wk, ↓wl, nq, evV, ↓reduceIte, sevalprocAttr]
     refine AW.ret ?_
     cases H
     exact hQ.fin
noncomputable def f27_L1 : Lp (Int × (List Int)) (Int × (List Int)) where
  body := fun (z_945, out_946) => (if (decide (128 ≤ z_945)) = true then (app? 1 out_946 ([(IntKind.u8.wrap ((BitVec.ofInt (IntKind.bits .u8) (IntKind.u8.wrap z_945) ||| BitVec.ofInt (IntKind.bits .u8) 128).toNat : Int))])).bind fun out_951 => (some (.next ((Int.fdiv z_945 (2 ^ (min (Int.toNat 7) (IntKind.bits .u64)))), out_951))) else (some (.brk (z_945, out_946))))
  cst := fun (z_945, out_946) => ⟨put (put (fun _ => .junk) 4 (.row 0 0 0 out_946.length)) 3 (.int .u64 z_945), [.els 0 (out_946.map (AV.int .u8))]⟩
theorem f27_L1c (z_945 : Int) (out_946 : (List Int)) : (f27_L1).cst (z_945, out_946) = ⟨put (put (fun _ => .junk) 4 (.row 0 0 0 out_946.length)) 3 (.int .u64 z_945), [.els 0 (out_946.map (AV.int .u8))]⟩ := rfl
def c27_0 : C := .cond (.t 13) (.skip) (.exit 0)
def c27_1 : C := .reg [iI 14 (.mv (.t 3)), iI 15 (.bin .shr (.t 14) (.c (.int .u64 7))), iI 3 (.mv (.t 15))]
def c27_2 : C := .seq (.block 1 (.reg [iI 16 (.mv (.t 4)), iI 17 (.mv (.t 3)), iI 18 (.cint .u8 (.t 17)), iI 19 (.bin .or (.t 18) (.c (.int .u8 128))), iI 20 (.mkslp 0 1 (.int .u8 0) [(0, (.t 19))]), iI 21 (.append 0 1 (.t 16) (.t 20)), iI 4 (.mv (.t 21))])) c27_1
def c27_3 : C := .seq (.reg [iI 22 (.mv (.t 4)), iI 23 (.mv (.t 3)), iI 24 (.cint .u8 (.t 23)), iI 25 (.mkslp 0 1 (.int .u8 0) [(0, (.t 24))]), iI 26 (.append 0 1 (.t 22) (.t 25)), iI 27 (.cstr (.t 26)), iI 2 (.mv (.t 27))]) .ret
def c27_4 : C := .seq (.block 0 (.loop (.seq (.seq (.reg [iI 12 (.mv (.t 3)), iI 13 (.bin .geq (.t 12) (.c (.int .u64 128)))]) c27_0) c27_2))) c27_3
def c27_5 : C := .seq (.reg [iI 4 (.mv (.c (.sl 0 true [])))]) c27_4
def c27_6 : C := .seq (.reg [iI 5 (.mv (.t 0)), iI 6 (.cint .u64 (.t 5)), iI 7 (.bin .shl (.t 6) (.c (.int .u64 1))), iI 8 (.mv (.t 0)), iI 9 (.bin .shr (.t 8) (.c (.int .u64 63))), iI 10 (.cint .u64 (.t 9)), iI 11 (.bin .xor (.t 7) (.t 10)), iI 3 (.mv (.t 11))]) c27_5
def ir27 : C := .seq (.reg [iI 2 (.mv (.c (.str [])))]) c27_6
theorem fd27 : fd? Try.prog 27 = some (28, [.slot 2], ir27) := by kernel_rfl
noncomputable def f27 (n_939 : Int) : Option ((List UInt8)) :=
  (Lp.run (f27_L1) ((IntKind.u64.wrap ((BitVec.ofInt (IntKind.bits .u64) (IntKind.u64.wrap ((IntKind.u64.wrap n_939) * 2 ^ (min (Int.toNat 1) (IntKind.bits .u64)))) ^^^ BitVec.ofInt (IntKind.bits .u64) (IntKind.u64.wrap (Int.fdiv n_939 (2 ^ (min (Int.toNat 63) (IntKind.bits .i64)))))).toNat : Int)), [])).bind fun (z_948, out_949) => (app? 1 out_949 ([(IntKind.u8.wrap z_948)])).bind fun out_950 => (some (out_950.map b8))
theorem f27_ok {n_939 : Int} {r_ : (List UInt8)} (H : f27 n_939 = some r_) : Pure Try.prog 27 [.int .i64 n_939] (· = .str r_) := by
 refine Pure.walk3 fd27 none (Nat.le_of_ble_eq_true rfl) (by rfl) fun Q hQ => ?_
 simp only [f27] at H
 refine AW.rseq ?_
 try simp only [↓wk, ↓wl, nq, evV, ↓reduceIte, sevalprocAttr]
 refine AW.rseq ?_
 try simp only [↓wk, ↓wl, nq, evV, ↓reduceIte, sevalprocAttr]
 refine rest_shl (by decide) ?_
 try simp only [↓wk, ↓wl, nq, evV, ↓reduceIte, sevalprocAttr]
 refine rest_shr (by decide) ?_
 try simp only [↓wk, ↓wl, nq, evV, ↓reduceIte, sevalprocAttr]
 refine rest_xor ?_
 try simp only [↓wk, ↓wl, nq, evV, ↓reduceIte, sevalprocAttr]
 refine AW.rseq ?_
 try simp only [↓wk, ↓wl, nq, evV, ↓reduceIte, sevalprocAttr]
 refine AW.bseq ?_
 refine AW.iter H ((Le.trans (Le.nilRow (i := 4) (e := 0) (by simp only [↓wk, ↓wl, nq, evV, ↓reduceIte, sevalprocAttr])) (Le.tz [0] [3, 4] (by simp only [f27_L1c, rrm, ↓wk, ↓wl, evV, ↓reduceIte, sevalprocAttr] <;> rfl)))) ?_ <;> clear H
 rintro ⟨z_945, out_946⟩ x_ st0_ H hst_
 rw [f27_L1c] at hst_
 unfold f27_L1 at H
 try dsimp only at H
 subst hst_
 refine AW.sseq ?_
 refine AW.rseq ?_
 try simp only [↓wk, ↓wl, nq, evV, ↓reduceIte, sevalprocAttr]
 refine AW.ifc H (by rfl) ?_ ?_ <;> clear H <;> intro H
 ·refine AW.skip ?_
  refine seqQ.norm ?_
  refine AW.bseq ?_
  refine AW.rend ?_
  try simp only [↓wk, ↓wl, nq, evV, ↓reduceIte, sevalprocAttr]
  refine rest_or ?_
  try simp only [↓wk, ↓wl, nq, evV, ↓reduceIte, sevalprocAttr]
  refine evTs_app (enc := (AV.int .u8)) H (by rfl) (by first | rfl | simp only [List.length_set]) (by rfl) (by rfl) ?_ <;> clear H <;> intro out_951 H
  try simp only [↓wk, ↓wl, nq, evV, ↓reduceIte, sevalprocAttr]
  refine blkQ.norm ?_
  refine AW.rend ?_
  try simp only [↓wk, ↓wl, nq, evV, ↓reduceIte, sevalprocAttr]
  refine rest_shr (by decide) ?_
  try simp only [↓wk, ↓wl, nq, evV, ↓reduceIte, sevalprocAttr]
  exact loopQ.next H ((Le.tz [1] [3, 4] (by simp only [f27_L1c, rrm, ↓wk, ↓wl, evV, ↓reduceIte, sevalprocAttr] <;> rfl)))
 ·refine AW.exit ?_
  refine seqQ.exit ?_
  refine loopQ.exit H ?_ <;> clear H <;> intro H
  try dsimp only at H
  refine blkQ.here ?_
  refine AW.rseq ?_
  try simp only [↓wk, ↓wl, nq, evV, ↓reduceIte, sevalprocAttr]
  refine evTs_app (enc := (AV.int .u8)) H (by rfl) (by first | rfl | simp only [List.length_set]) (by rfl) (by rfl) ?_ <;> clear H <;> intro out_952 H
  try simp only [↓wk, ↓wl, nq, evV, ↓reduceIte, sevalprocAttr]
  refine evTs_cstrr (xs := out_952) (by rfl) (by rfl) (by rfl) ?_
  try simp only [↓wk, ↓wl, nq, evV, ↓reduceIte, sevalprocAttr]
  refine AW.ret ?_
  cases H
  exact hQ.fin
def c16_0 : C := .cond (.t 6) (.seq (.reg [iI 2 (.mv (.c (.str []))), iI 3 (.mv (.c (.int .i64 13)))]) .ret) (.skip)
def c16_1 : C := .seq (.reg [iI 7 (.mv (.t 0)), iI 8 (.len 1 (.t 7)), iI 9 (.call (.c (.fn 27 [])) [(.t 8)]), iI 10 (.mv (.t 0)), iI 11 (.bin .add (.t 9) (.t 10)), iI 2 (.mv (.t 11)), iI 3 (.mv (.c (.int .i64 0)))]) .ret
def c16_2 : C := .seq (.seq (.reg [iI 4 (.mv (.t 0)), iI 5 (.len 1 (.t 4)), iI 6 (.bin .gtr (.t 5) (.c (.int .i64 65535)))]) c16_0) c16_1
def ir16 : C := .seq (.reg [iI 2 (.mv (.c (.str []))), iI 3 (.mv (.c (.int .i64 0)))]) c16_2
theorem fd16 : fd? Try.prog 16 = some (12, [.slot 2, .slot 3], ir16) := by kernel_rfl
noncomputable def f16 (t_938 : (List UInt8)) : Option ((List UInt8) × Int) :=
  (if (decide (65535 < ((t_938.length : Nat) : Int))) = true then (some ([], 13)) else (f27 ((t_938.length : Nat) : Int)).bind fun r_953 => (cat? r_953 t_938).bind fun v_954 => (some (v_954, 0)))
theorem f16_ok {t_938 : (List UInt8)} {r_ : (List UInt8) × Int} (H : f16 t_938 = some r_) : Pure Try.prog 16 [.str t_938] (· = .tup [.str r_.1, .int .i64 r_.2]) := by
 refine Pure.walk3 fd16 none (Nat.le_of_ble_eq_true rfl) (by rfl) fun Q hQ => ?_
 simp only [f16] at H
 refine AW.rseq ?_
 try simp only [↓wk, ↓wl, nq, evV, ↓reduceIte, sevalprocAttr]
 refine AW.sseq ?_
 refine AW.rseq ?_
 try simp only [↓wk, ↓wl, nq, evV, ↓reduceIte, sevalprocAttr]
 refine AW.ifc H (by rfl) ?_ ?_ <;> clear H <;> intro H
 ·refine AW.rseq ?_
  try simp only [↓wk, ↓wl, nq, evV, ↓reduceIte, sevalprocAttr]
  refine AW.ret ?_
  refine seqQ.ret ?_
  cases H
  exact hQ.fin
 ·refine AW.skip ?_
  refine seqQ.norm ?_
  refine AW.rseq ?_
  try simp only [↓wk, ↓wl, nq, evV, ↓reduceIte, sevalprocAttr]
  refine evTs_pure hFn H (fun _ h => f27_ok h) (by rfl) (by rfl) (by rfl) (by rfl) (fun _ => rfl) ?_ <;> clear H <;> intro r_953 H
  try simp only [eL, ↓wk, ↓wl, nq, evV, ↓reduceIte, sevalprocAttr]
  refine rest_cat H ?_ <;> clear H <;> intro v_954 H
  try simp only [↓wk, ↓wl, nq, evV, ↓reduceIte, sevalprocAttr]
  refine AW.ret ?_
  cases H
  exact hQ.fin
def c33_0 : C := .cond (.t 22) (.seq (.reg [iI 2 (.mv (.c (.str []))), iI 3 (.mv (.c (.int .i64 20)))]) .ret) (.skip)
def c33_1 : C := .cond (.t 15) (.seq (.reg [iI 2 (.mv (.c (.str []))), iI 3 (.mv (.c (.int .i64 3)))]) .ret) (.seq (.reg [iI 23 (.mv (.t 0)), iI 24 (.mv (.t 4)), iI 25 (.call (.c (.fn 31 [])) [(.t 23), (.t 24)]), iI 26 (.un .not (.t 25)), iI 22 (.mv (.t 26))]) c33_0)
def c33_2 : C := .cond (.t 11) (.seq (.reg [iI 14 (.mv (.t 5)), iI 2 (.mv (.c (.str []))), iI 3 (.mv (.t 14))]) .ret) (.seq (.reg [iI 16 (.mv (.t 4)), iI 17 (.bin .lss (.t 16) (.c (.int .i64 0))), iI 18 (.mv (.t 17)), iG (some 19) 18 false (.mv (.t 4)), iG (some 20) 18 false (.bin .gtr (.t 19) (.c (.int .i64 65535))), iI 21 (.pick (.t 18) (.c (.bool true)) (.t 20)), iI 15 (.mv (.t 21))]) c33_1)
def c33_3 : C := .seq (.reg [iI 27 (.mv (.t 0)), iI 28 (.mv (.t 4)), iI 29 (.call (.c (.fn 32 [])) [(.t 27), (.t 28)]), iI 2 (.mv (.t 29)), iI 3 (.mv (.c (.int .i64 0)))]) .ret
def c33_4 : C := .seq (.block 0 (.seq (.reg [iI 12 (.mv (.t 5)), iI 13 (.bin .neq (.t 12) (.c (.int .i64 0))), iI 11 (.mv (.t 13))]) c33_2)) c33_3
def c33_5 : C := .seq (.reg [iI 7 (.mv (.t 0)), iI 8 (.call (.c (.fn 50 [])) [(.t 7)]), iI 6 (.mv (.t 8)), iI 9 (.ext (.t 6) 0), iI 10 (.ext (.t 6) 1), iI 4 (.mv (.t 9)), iI 5 (.mv (.t 10))]) c33_4
def ir33 : C := .seq (.reg [iI 2 (.mv (.c (.str []))), iI 3 (.mv (.c (.int .i64 0)))]) c33_5
theorem fd33 : fd? Try.prog 33 = some (30, [.slot 2, .slot 3], ir33) := by kernel_rfl
def c50_0 : C := .cond (.t 11) (.seq (.reg [iI 2 (.mv (.c (.int .i64 0))), iI 3 (.mv (.c (.int .i64 20)))]) .ret) (.skip)
def c50_1 : C := .cond (.t 22) (.skip) (.reg [iI 29 (.mv (.t 6)), iI 30 (.bin .eql (.t 29) (.c (.int .u8 0))), iI 31 (.mv (.t 30)), iG (some 32) 31 true (.mv (.t 5)), iG (some 33) 31 true (.bin .gtr (.t 32) (.c (.int .i64 0))), iI 34 (.pick (.t 31) (.t 33) (.c (.bool false))), iI 22 (.mv (.t 34))])
def c50_2 : C := .cond (.t 35) (.exit 0) (.skip)
def c50_3 : C := .cond (.t 22) (.seq (.reg [iI 2 (.mv (.c (.int .i64 0))), iI 3 (.mv (.c (.int .i64 3)))]) .ret) (.seq (.reg [iI 36 (.mv (.t 6)), iI 37 (.bin .lss (.t 36) (.c (.int .u8 128))), iI 35 (.mv (.t 37))]) c50_2)
def c50_4 : C := .block 2 (.seq (.seq (.reg [iI 23 (.mv (.t 5)), iI 24 (.bin .eql (.t 23) (.c (.int .i64 63))), iI 25 (.mv (.t 24)), iG (some 26) 25 true (.mv (.t 6)), iG (some 27) 25 true (.bin .gtr (.t 26) (.c (.int .u8 1))), iI 28 (.pick (.t 25) (.t 27) (.c (.bool false))), iI 22 (.mv (.t 28))]) c50_1) c50_3)
def c50_5 : C := .seq (.reg [iI 15 (.mv (.t 4)), iI 16 (.mv (.t 6)), iI 17 (.bin .and (.t 16) (.c (.int .u8 127))), iI 18 (.cint .u64 (.t 17)), iI 19 (.mv (.t 5)), iI 20 (.bin .shl (.t 18) (.t 19)), iI 21 (.bin .or (.t 15) (.t 20)), iI 4 (.mv (.t 21))]) c50_4
def c50_6 : C := .seq (.reg [iI 12 (.mv (.t 0)), iI 13 (.call (.c (.fn 32 [])) [(.t 12), (.c (.int .i64 1))]), iI 14 (.sidx (.t 13) (.c (.int .i64 0))), iI 6 (.mv (.t 14))]) c50_5
def c50_7 : C := .reg [iI 7 (.mv (.t 5)), iI 8 (.bin .add (.t 7) (.c (.int .i64 7))), iI 5 (.mv (.t 8))]
def c50_8 : C := .block 0 (.loop (.seq (.block 1 (.seq (.seq (.reg [iI 9 (.mv (.t 0)), iI 10 (.call (.c (.fn 31 [])) [(.t 9), (.c (.int .i64 1))]), iI 11 (.un .not (.t 10))]) c50_0) c50_6)) c50_7))
def c50_9 : C := .seq (.reg [iI 38 (.mv (.t 4)), iI 39 (.bin .shr (.t 38) (.c (.int .u64 1))), iI 40 (.cint .i64 (.t 39)), iI 41 (.mv (.t 4)), iI 42 (.bin .and (.t 41) (.c (.int .u64 1))), iI 43 (.cint .i64 (.t 42)), iI 44 (.un .neg (.t 43)), iI 45 (.bin .xor (.t 40) (.t 44)), iI 2 (.mv (.t 45)), iI 3 (.mv (.c (.int .i64 0)))]) .ret
def c50_10 : C := .seq (.seq (.reg [iI 5 (.mv (.c (.int .i64 0)))]) c50_8) c50_9
def c50_11 : C := .seq (.skip) c50_10
def c50_12 : C := .scope (.seq (.reg [iI 4 (.mv (.c (.int .u64 0)))]) c50_11)
def ir50 : C := .seq (.reg [iI 2 (.mv (.c (.int .i64 0))), iI 3 (.mv (.c (.int .i64 0)))]) c50_12
theorem fd50 : fd? Try.prog 50 = some (46, [.slot 2, .slot 3], ir50) := by kernel_rfl
noncomputable def f19_C4 (s_1019 : (List UInt8)) (v_1115 : Int) : Il ((List UInt8) × Int) where
  run := (slc? s_1019 (IntKind.i64.wrap ((IntKind.i64.wrap (v_1115 + 1)) - 1)) (IntKind.i64.wrap (v_1115 + 1))).bind fun s_1131 => (some (s_1131, (IntKind.i64.wrap (v_1115 + 1))))
  res := fun (v_1129, v_1130) => .str v_1129
  hp := fun (v_1129, v_1130) => [.cel [.str s_1019, .int .i64 v_1130]]
noncomputable def f19_L3 (s_1019 : (List UInt8)) : Lp (Int × Int × Int) ((Int × Int) ⊕ (Int × Int)) where
  body := fun (z_1113, shift_1114, v_1115) => (f31p s_1019 v_1115 1).bind fun r_1127 => (if (!r_1127) = true then (some (.brk (Sum.inr (v_1115, 20)))) else ((f19_C4 s_1019 v_1115).run.bind fun (v_1129, v_1130) => (at? v_1129 0).bind fun b_1132 => (must? (0 ≤ shift_1114)).bind fun _ => (if (decide (shift_1114 = 63)) = true then (if (decide (1 < (b_1132.toNat : Int))) = true then (if (decide (1 < (b_1132.toNat : Int))) = true then (some (.brk (Sum.inr (v_1130, 3)))) else (if (decide ((b_1132.toNat : Int) < 128)) = true then (some (.brk (Sum.inl ((IntKind.u64.wrap ((BitVec.ofInt (IntKind.bits .u64) z_1113 ||| BitVec.ofInt (IntKind.bits .u64) (IntKind.u64.wrap ((IntKind.u64.wrap (IntKind.u8.wrap ((BitVec.ofInt (IntKind.bits .u8) (b_1132.toNat : Int) &&& BitVec.ofInt (IntKind.bits .u8) 127).toNat : Int))) * 2 ^ (min (Int.toNat shift_1114) (IntKind.bits .u64))))).toNat : Int)), v_1130)))) else (some (.next ((IntKind.u64.wrap ((BitVec.ofInt (IntKind.bits .u64) z_1113 ||| BitVec.ofInt (IntKind.bits .u64) (IntKind.u64.wrap ((IntKind.u64.wrap (IntKind.u8.wrap ((BitVec.ofInt (IntKind.bits .u8) (b_1132.toNat : Int) &&& BitVec.ofInt (IntKind.bits .u8) 127).toNat : Int))) * 2 ^ (min (Int.toNat shift_1114) (IntKind.bits .u64))))).toNat : Int)), (IntKind.i64.wrap (shift_1114 + 7)), v_1130))))) else (if (decide ((b_1132.toNat : Int) = 0)) = true then (if (decide (0 < shift_1114)) = true then (some (.brk (Sum.inr (v_1130, 3)))) else (if (decide ((b_1132.toNat : Int) < 128)) = true then (some (.brk (Sum.inl ((IntKind.u64.wrap ((BitVec.ofInt (IntKind.bits .u64) z_1113 ||| BitVec.ofInt (IntKind.bits .u64) (IntKind.u64.wrap ((IntKind.u64.wrap (IntKind.u8.wrap ((BitVec.ofInt (IntKind.bits .u8) (b_1132.toNat : Int) &&& BitVec.ofInt (IntKind.bits .u8) 127).toNat : Int))) * 2 ^ (min (Int.toNat shift_1114) (IntKind.bits .u64))))).toNat : Int)), v_1130)))) else (some (.next ((IntKind.u64.wrap ((BitVec.ofInt (IntKind.bits .u64) z_1113 ||| BitVec.ofInt (IntKind.bits .u64) (IntKind.u64.wrap ((IntKind.u64.wrap (IntKind.u8.wrap ((BitVec.ofInt (IntKind.bits .u8) (b_1132.toNat : Int) &&& BitVec.ofInt (IntKind.bits .u8) 127).toNat : Int))) * 2 ^ (min (Int.toNat shift_1114) (IntKind.bits .u64))))).toNat : Int)), (IntKind.i64.wrap (shift_1114 + 7)), v_1130))))) else (if (decide ((b_1132.toNat : Int) < 128)) = true then (some (.brk (Sum.inl ((IntKind.u64.wrap ((BitVec.ofInt (IntKind.bits .u64) z_1113 ||| BitVec.ofInt (IntKind.bits .u64) (IntKind.u64.wrap ((IntKind.u64.wrap (IntKind.u8.wrap ((BitVec.ofInt (IntKind.bits .u8) (b_1132.toNat : Int) &&& BitVec.ofInt (IntKind.bits .u8) 127).toNat : Int))) * 2 ^ (min (Int.toNat shift_1114) (IntKind.bits .u64))))).toNat : Int)), v_1130)))) else (some (.next ((IntKind.u64.wrap ((BitVec.ofInt (IntKind.bits .u64) z_1113 ||| BitVec.ofInt (IntKind.bits .u64) (IntKind.u64.wrap ((IntKind.u64.wrap (IntKind.u8.wrap ((BitVec.ofInt (IntKind.bits .u8) (b_1132.toNat : Int) &&& BitVec.ofInt (IntKind.bits .u8) 127).toNat : Int))) * 2 ^ (min (Int.toNat shift_1114) (IntKind.bits .u64))))).toNat : Int)), (IntKind.i64.wrap (shift_1114 + 7)), v_1130)))))) else (if (decide ((b_1132.toNat : Int) = 0)) = true then (if (decide (0 < shift_1114)) = true then (some (.brk (Sum.inr (v_1130, 3)))) else (if (decide ((b_1132.toNat : Int) < 128)) = true then (some (.brk (Sum.inl ((IntKind.u64.wrap ((BitVec.ofInt (IntKind.bits .u64) z_1113 ||| BitVec.ofInt (IntKind.bits .u64) (IntKind.u64.wrap ((IntKind.u64.wrap (IntKind.u8.wrap ((BitVec.ofInt (IntKind.bits .u8) (b_1132.toNat : Int) &&& BitVec.ofInt (IntKind.bits .u8) 127).toNat : Int))) * 2 ^ (min (Int.toNat shift_1114) (IntKind.bits .u64))))).toNat : Int)), v_1130)))) else (some (.next ((IntKind.u64.wrap ((BitVec.ofInt (IntKind.bits .u64) z_1113 ||| BitVec.ofInt (IntKind.bits .u64) (IntKind.u64.wrap ((IntKind.u64.wrap (IntKind.u8.wrap ((BitVec.ofInt (IntKind.bits .u8) (b_1132.toNat : Int) &&& BitVec.ofInt (IntKind.bits .u8) 127).toNat : Int))) * 2 ^ (min (Int.toNat shift_1114) (IntKind.bits .u64))))).toNat : Int)), (IntKind.i64.wrap (shift_1114 + 7)), v_1130))))) else (if (decide ((b_1132.toNat : Int) < 128)) = true then (some (.brk (Sum.inl ((IntKind.u64.wrap ((BitVec.ofInt (IntKind.bits .u64) z_1113 ||| BitVec.ofInt (IntKind.bits .u64) (IntKind.u64.wrap ((IntKind.u64.wrap (IntKind.u8.wrap ((BitVec.ofInt (IntKind.bits .u8) (b_1132.toNat : Int) &&& BitVec.ofInt (IntKind.bits .u8) 127).toNat : Int))) * 2 ^ (min (Int.toNat shift_1114) (IntKind.bits .u64))))).toNat : Int)), v_1130)))) else (some (.next ((IntKind.u64.wrap ((BitVec.ofInt (IntKind.bits .u64) z_1113 ||| BitVec.ofInt (IntKind.bits .u64) (IntKind.u64.wrap ((IntKind.u64.wrap (IntKind.u8.wrap ((BitVec.ofInt (IntKind.bits .u8) (b_1132.toNat : Int) &&& BitVec.ofInt (IntKind.bits .u8) 127).toNat : Int))) * 2 ^ (min (Int.toNat shift_1114) (IntKind.bits .u64))))).toNat : Int)), (IntKind.i64.wrap (shift_1114 + 7)), v_1130))))))))
  cst := fun (z_1113, shift_1114, v_1115) => ⟨put (put (put (fun _ => .junk) 5 (.int .i64 shift_1114)) 4 (.int .u64 z_1113)) 0 (.ptr 0 0), [.cel [.str s_1019, .int .i64 v_1115]]⟩
theorem f19_L3c (s_1019 : (List UInt8)) (z_1113 : Int) (shift_1114 : Int) (v_1115 : Int) : (f19_L3 s_1019).cst (z_1113, shift_1114, v_1115) = ⟨put (put (put (fun _ => .junk) 5 (.int .i64 shift_1114)) 4 (.int .u64 z_1113)) 0 (.ptr 0 0), [.cel [.str s_1019, .int .i64 v_1115]]⟩ := rfl
noncomputable def f19_C2 (s_1019 : (List UInt8)) (at_1020 : Int) : Il (Int × Int × Int) where
  run := ((Lp.run (f19_L3 s_1019) (0, 0, at_1020)).bind fun r_ => match r_ with | (Sum.inl (z_1122, v_1123)) => (some ((IntKind.i64.wrap ((BitVec.ofInt (IntKind.bits .i64) (IntKind.i64.wrap (Int.fdiv z_1122 (2 ^ (min (Int.toNat 1) (IntKind.bits .u64))))) ^^^ BitVec.ofInt (IntKind.bits .i64) (IntKind.i64.wrap (0 - (IntKind.i64.wrap (IntKind.u64.wrap ((BitVec.ofInt (IntKind.bits .u64) z_1122 &&& BitVec.ofInt (IntKind.bits .u64) 1).toNat : Int)))))).toNat : Int)), 0, v_1123)) | (Sum.inr (v_1124, v_1125)) => (some (0, v_1125, v_1124)))
  res := fun (v_1095, v_1096, v_1097) => .tup [.int .i64 v_1095, .int .i64 v_1096]
  hp := fun (v_1095, v_1096, v_1097) => [.cel [.str s_1019, .int .i64 v_1097]]
noncomputable def f19_C5 (s_1019 : (List UInt8)) (v_1097 : Int) (v_1095 : Int) : Il ((List UInt8) × Int) where
  run := (slc? s_1019 (IntKind.i64.wrap ((IntKind.i64.wrap (v_1097 + v_1095)) - v_1095)) (IntKind.i64.wrap (v_1097 + v_1095))).bind fun s_1137 => (some (s_1137, (IntKind.i64.wrap (v_1097 + v_1095))))
  res := fun (v_1135, v_1136) => .str v_1135
  hp := fun (v_1135, v_1136) => [.cel [.str s_1019, .int .i64 v_1136]]
noncomputable def f19_C1 (s_1019 : (List UInt8)) (at_1020 : Int) : Il ((List UInt8) × Int × Int) where
  run := ((f19_C2 s_1019 at_1020).run.bind fun (v_1095, v_1096, v_1097) => (if (decide (v_1096 ≠ 0)) = true then (some ([], v_1096, v_1097)) else (if (decide (v_1095 < 0)) = true then (some ([], 3, v_1097)) else (if (decide (65535 < v_1095)) = true then (some ([], 3, v_1097)) else (f31p s_1019 v_1097 v_1095).bind fun r_1133 => (if (!r_1133) = true then (some ([], 20, v_1097)) else ((f19_C5 s_1019 v_1097 v_1095).run.bind fun (v_1135, v_1136) => (some (v_1135, 0, v_1136))))))))
  res := fun (v_1064, v_1065, v_1066) => .tup [.str v_1064, .int .i64 v_1065]
  hp := fun (v_1064, v_1065, v_1066) => [.cel [.str s_1019, .int .i64 v_1066]]
def c19_0 : C := .cond (.t 18) (.seq (.reg [iI 19 (.mv (.t 8)), iI 4 (.mv (.c (.str []))), iI 5 (.mv (.c (.int .i64 0))), iI 6 (.mv (.t 19))]) .ret) (.skip)
def c19_1 : C := .seq (.reg [iI 17 (.mv (.t 8)), iI 18 (.bin .neq (.t 17) (.c (.int .i64 0)))]) c19_0
def c19_2 : C := .cond (.t 26) (.seq (.reg [iI 27 (.mv (.t 10)), iI 4 (.mv (.c (.str []))), iI 5 (.mv (.c (.int .i64 0))), iI 6 (.mv (.t 27))]) .ret) (.skip)
def c19_3 : C := .seq (.reg [iI 28 (.mv (.t 9)), iI 29 (.mv (.t 7)), iI 30 (.nilchk (.t 29)), iI 31 (.faddr 1 (.t 30)), iI 32 (.load 0 (.t 31)), iI 4 (.mv (.t 28)), iI 5 (.mv (.t 32)), iI 6 (.mv (.c (.int .i64 0)))]) .ret
def c19_4 : C := .seq (.seq (.reg [iI 25 (.mv (.t 10)), iI 26 (.bin .neq (.t 25) (.c (.int .i64 0)))]) c19_2) c19_3
def c19_5 : C := .seq (.reg [iI 21 (.mv (.t 7)), iI 22 (.call (.c (.fn 33 [])) [(.t 21)]), iI 20 (.mv (.t 22)), iI 23 (.ext (.t 20) 0), iI 24 (.ext (.t 20) 1), iI 9 (.mv (.t 23)), iI 10 (.mv (.t 24))]) c19_4
def c19_6 : C := .seq (.seq (.reg [iI 15 (.mv (.t 7)), iI 16 (.call (.c (.fn 30 [])) [(.t 15)]), iI 8 (.mv (.t 16))]) c19_1) c19_5
def c19_7 : C := .seq (.reg [iI 11 (.mv (.t 0)), iI 12 (.mv (.t 1)), iI 13 (.build [(1, (.str [])), (1, (.int .i64 0))] [(0, 0, (.t 11)), (1, 0, (.t 12))]), iI 14 (.box (.t 13)), iI 7 (.mv (.t 14))]) c19_6
def ir19 : C := .seq (.reg [iI 4 (.mv (.c (.str []))), iI 5 (.mv (.c (.int .i64 0))), iI 6 (.mv (.c (.int .i64 0)))]) c19_7
theorem fd19 : fd? Try.prog 19 = some (33, [.slot 4, .slot 5, .slot 6], ir19) := by kernel_rfl
noncomputable def f19 (s_1019 : (List UInt8)) (at_1020 : Int) : Option ((List UInt8) × Int × Int) :=
  (f30p s_1019 at_1020).bind fun r_1022 => (if (decide (r_1022 ≠ 0)) = true then (some ([], 0, r_1022)) else ((f19_C1 s_1019 at_1020).run.bind fun (v_1064, v_1065, v_1066) => (if (decide (v_1065 ≠ 0)) = true then (some ([], 0, v_1065)) else (some (v_1064, v_1066, 0)))))
theorem f19_ok {s_1019 : (List UInt8)} {at_1020 : Int} {r_ : (List UInt8) × Int × Int} (H : f19 s_1019 at_1020 = some r_) : Pure Try.prog 19 [.str s_1019, .int .i64 at_1020] (· = .tup [.str r_.1, .int .i64 r_.2.1, .int .i64 r_.2.2]) := by
 refine Pure.walk3 fd19 none (Nat.le_of_ble_eq_true rfl) (by rfl) fun Q hQ => ?_
 simp only [f19] at H
 refine AW.rseq ?_
 try simp only [↓wk, ↓wl, nq, evV, ↓reduceIte, sevalprocAttr]
 refine AW.rseq ?_
 try simp only [↓wk, ↓wl, nq, evV, ↓reduceIte, sevalprocAttr]
 refine AW.sseq ?_
 refine AW.rseq ?_
 try simp only [↓wk, ↓wl, nq, evV, ↓reduceIte, sevalprocAttr]
 refine evTs_flat hFn H (fun _ h => f30p_ok h) (by rfl) (by rfl) (by simp only [deep_eq, imm_simps, imm_rowE, imm_ptrE, imm_enc, omap_simps, take_map_len, take_map_set, take_map_set2, List.length_set, le_refl_true, Nat.zero_add, and_true, true_and, List.drop_zero, Option.map_some, ↓wk, ↓wl, nq, evV, ↓reduceIte, sevalprocAttr]; rfl) (by rfl) (fun _ => rfl) (fun _ => rfl) ?_ <;> clear H <;> intro r_1022 H
 try simp only [eL, ↓wk, ↓wl, nq, evV, ↓reduceIte, sevalprocAttr]
 refine AW.rseq ?_
 try simp only [↓wk, ↓wl, nq, evV, ↓reduceIte, sevalprocAttr]
 refine AW.ifc H (by rfl) ?_ ?_ <;> clear H <;> intro H
 ·refine AW.rseq ?_
  try simp only [↓wk, ↓wl, nq, evV, ↓reduceIte, sevalprocAttr]
  refine AW.ret ?_
  refine seqQ.ret ?_
  cases H
  exact hQ.fin
 ·refine AW.skip ?_
  refine seqQ.norm ?_
  refine AW.rseq ?_
  try simp only [↓wk, ↓wl, nq, evV, ↓reduceIte, sevalprocAttr]
  refine evTs_inl (I := f19_C1 s_1019 at_1020) (args := [.ptr 0 0]) H (by rfl) fd33 (by rfl) (Nat.le_of_ble_eq_true rfl) ?_ ?_ <;> clear H
  ·rintro v_ Q_ H hqf19_C1
   simp only [f19_C1] at H
   dsimp only [List.length_cons, List.length_nil]
   refine AW.rseq ?_
   try simp only [↓wk, ↓wl, nq, evV, ↓reduceIte, sevalprocAttr]
   refine AW.rseq ?_
   try simp only [↓wk, ↓wl, nq, evV, ↓reduceIte, sevalprocAttr]
   refine evTs_inl (I := f19_C2 s_1019 at_1020) (args := [.ptr 0 0]) H (by rfl) fd50 (by rfl) (Nat.le_of_ble_eq_true rfl) ?_ ?_ <;> clear H
   ·rintro v_ Q_ H hqf19_C2
    simp only [f19_C2] at H
    dsimp only [List.length_cons, List.length_nil]
    refine AW.rseq ?_
    try simp only [↓wk, ↓wl, nq, evV, ↓reduceIte, sevalprocAttr]
    refine AW.scope ?_
    refine AW.rseq ?_
    try simp only [↓wk, ↓wl, nq, evV, ↓reduceIte, sevalprocAttr]
    refine AW.skseq ?_
    refine AW.sseq ?_
    refine AW.rseq ?_
    try simp only [↓wk, ↓wl, nq, evV, ↓reduceIte, sevalprocAttr]
    refine AW.bend ?_
    refine AW.iter H ((Le.tq 1 [0] [0, 4, 5] (by simp only [f19_L3c, rrm, ↓wk, ↓wl, evV, ↓reduceIte, sevalprocAttr] <;> rfl))) ?_ <;> clear H
    rintro ⟨z_1113, shift_1114, v_1115⟩ x_ st0_ H hst_
    rw [f19_L3c] at hst_
    simp only [f19_L3] at H
    subst hst_
    refine AW.bseq ?_
    refine AW.sseq ?_
    refine AW.rseq ?_
    try simp only [↓wk, ↓wl, nq, evV, ↓reduceIte, sevalprocAttr]
    refine evTs_flat hFn H (fun _ h => f31p_ok h) (by rfl) (by rfl) (by simp only [deep_eq, imm_simps, imm_rowE, imm_ptrE, imm_enc, omap_simps, take_map_len, take_map_set, take_map_set2, List.length_set, le_refl_true, Nat.zero_add, and_true, true_and, List.drop_zero, Option.map_some, ↓wk, ↓wl, nq, evV, ↓reduceIte, sevalprocAttr]; rfl) (by rfl) (fun _ => rfl) (fun _ => rfl) ?_ <;> clear H <;> intro r_1127 H
    try simp only [eL, ↓wk, ↓wl, nq, evV, ↓reduceIte, sevalprocAttr]
    refine AW.ifc H (by rfl) ?_ ?_ <;> clear H <;> intro H
    ·refine AW.rseq ?_
     try simp only [↓wk, ↓wl, nq, evV, ↓reduceIte, sevalprocAttr]
     refine AW.ret ?_
     refine seqQ.ret ?_
     refine blkQ.ret ?_
     refine loopQ.ret H ?_ <;> clear H <;> intro H
     try dsimp only at H
     refine blk0.ret ?_
     refine seqQ.ret ?_
     cases H
     exact hqf19_C2 _ _ _ (.inr rfl) (Le.tq 1 [0] [2, 3] rfl) (by simp only [resVs, omap, resV, f19_C2, rrm, ↓wk, ↓wl, evV, ↓reduceIte, sevalprocAttr]) (by simp only [f19_C2, rrm, ↓wk, ↓wl, evV, ↓reduceIte, sevalprocAttr])
    ·refine AW.skip ?_
     refine seqQ.norm ?_
     refine AW.rseq ?_
     try simp only [↓wk, ↓wl, nq, evV, ↓reduceIte, sevalprocAttr]
     refine evTs_inl (I := f19_C4 s_1019 v_1115) (args := [.ptr 0 0, .int .i64 1]) H (by rfl) fd32 (by rfl) (Nat.le_of_ble_eq_true rfl) ?_ ?_ <;> clear H
     ·rintro v_ Q_ H hqf19_C4
      simp only [f19_C4] at H
      dsimp only [List.length_cons, List.length_nil]
      refine AW.rseq ?_
      try simp only [↓wk, ↓wl, nq, evV, ↓reduceIte, sevalprocAttr]
      refine AW.rseq ?_
      try simp only [↓wk, ↓wl, nq, evV, ↓reduceIte, sevalprocAttr]
      refine AW.rseq ?_
      try simp only [↓wk, ↓wl, nq, evV, ↓reduceIte, sevalprocAttr]
      refine evTs_sslc H (by rfl) (by simp only [loI, hiI, ↓wk, ↓wl, nq, evV, ↓reduceIte, sevalprocAttr]; rfl) (by simp only [loI, hiI, ↓wk, ↓wl, nq, evV, ↓reduceIte, sevalprocAttr]; rfl) ?_ <;> clear H <;> intro s_1131 H
      try simp only [↓wk, ↓wl, nq, evV, ↓reduceIte, sevalprocAttr]
      refine AW.ret ?_
      cases H
      exact hqf19_C4 _ _ _ (.inr rfl) (Le.tq 1 [0] [4] rfl) (by simp only [resVs, omap, resV, f19_C4, rrm, ↓wk, ↓wl, evV, ↓reduceIte, sevalprocAttr]) (by simp only [f19_C4, rrm, ↓wk, ↓wl, evV, ↓reduceIte, sevalprocAttr])
     ·rintro ⟨v_1129, v_1130⟩ s_ h_ H hs_ hh_
      simp only [f19_C4] at H hs_ hh_
      subst hs_
      subst hh_
      try simp only [↓wk, ↓wl, nq, evV, ↓reduceIte, sevalprocAttr]
      refine evTs_sat H (by rfl) (by rfl) ?_ <;> clear H <;> intro b_1132 H
      try simp only [↓wk, ↓wl, nq, evV, ↓reduceIte, sevalprocAttr]
      refine AW.rseq ?_
      try simp only [↓wk, ↓wl, nq, evV, ↓reduceIte, sevalprocAttr]
      refine rest_and ?_
      try simp only [↓wk, ↓wl, nq, evV, ↓reduceIte, sevalprocAttr]
      refine rest_shlv H ?_ <;> clear H <;> intro H
      try simp only [↓wk, ↓wl, nq, evV, ↓reduceIte, sevalprocAttr]
      refine rest_or ?_
      try simp only [↓wk, ↓wl, nq, evV, ↓reduceIte, sevalprocAttr]
      refine AW.bend ?_
      refine AW.sseq ?_
      refine AW.rseq ?_
      try simp only [↓wk, ↓wl, nq, evV, ↓reduceIte, sevalprocAttr]
      refine evTs_ifg H (by rfl) ?_ ?_ <;> clear H <;> intro H
      ·try simp only [↓wk, ↓wl, nq, evV, ↓reduceIte, sevalprocAttr]
       refine AW.ifc H (by rfl) ?_ ?_ <;> clear H <;> intro H
       ·refine AW.skip ?_
        refine seqQ.norm ?_
        refine AW.ifc H (by rfl) ?_ ?_ <;> clear H <;> intro H
        ·refine AW.rseq ?_
         try simp only [↓wk, ↓wl, nq, evV, ↓reduceIte, sevalprocAttr]
         refine AW.ret ?_
         refine blk0.ret ?_
         refine blkQ.ret ?_
         refine loopQ.ret H ?_ <;> clear H <;> intro H
         try dsimp only at H
         refine blk0.ret ?_
         refine seqQ.ret ?_
         cases H
         exact hqf19_C2 _ _ _ (.inr rfl) (Le.tq 1 [0] [2, 3] rfl) (by simp only [resVs, omap, resV, f19_C2, rrm, ↓wk, ↓wl, evV, ↓reduceIte, sevalprocAttr]) (by simp only [f19_C2, rrm, ↓wk, ↓wl, evV, ↓reduceIte, sevalprocAttr])
        ·refine AW.rseq ?_
         try simp only [↓wk, ↓wl, nq, evV, ↓reduceIte, sevalprocAttr]
         refine AW.ifc H (by rfl) ?_ ?_ <;> clear H <;> intro H
         ·refine AW.exit ?_
          refine blk0.out (by rfl) ?_
          refine blkQ.out (by rfl) ?_
          refine loopQ.exit H ?_ <;> clear H <;> intro H
          try dsimp only at H
          refine blk0.here ?_
          refine seqQ.norm ?_
          refine AW.rseq ?_
          try simp only [↓wk, ↓wl, nq, evV, ↓reduceIte, sevalprocAttr]
          refine rest_shr (by decide) ?_
          try simp only [↓wk, ↓wl, nq, evV, ↓reduceIte, sevalprocAttr]
          refine rest_and ?_
          try simp only [↓wk, ↓wl, nq, evV, ↓reduceIte, sevalprocAttr]
          refine rest_xor ?_
          try simp only [↓wk, ↓wl, nq, evV, ↓reduceIte, sevalprocAttr]
          refine AW.ret ?_
          cases H
          exact hqf19_C2 _ _ _ (.inr rfl) (Le.tq 1 [0] [2, 3] rfl) (by simp only [resVs, omap, resV, f19_C2, rrm, ↓wk, ↓wl, evV, ↓reduceIte, sevalprocAttr]) (by simp only [f19_C2, rrm, ↓wk, ↓wl, evV, ↓reduceIte, sevalprocAttr])
         ·refine AW.skip ?_
          refine blk0.norm ?_
          refine blkQ.norm ?_
          refine AW.rend ?_
          try simp only [↓wk, ↓wl, nq, evV, ↓reduceIte, sevalprocAttr]
          exact loopQ.next H ((Le.tq 1 [0] [0, 4, 5] (by simp only [f19_L3c, rrm, ↓wk, ↓wl, evV, ↓reduceIte, sevalprocAttr] <;> rfl)))
       ·refine AW.rend ?_
        try simp only [↓wk, ↓wl, nq, evV, ↓reduceIte, sevalprocAttr]
        refine evTs_ifg H (by rfl) ?_ ?_ <;> clear H <;> intro H
        ·try simp only [↓wk, ↓wl, nq, evV, ↓reduceIte, sevalprocAttr]
         refine seqQ.norm ?_
         refine AW.ifc H (by rfl) ?_ ?_ <;> clear H <;> intro H
         ·refine AW.rseq ?_
          try simp only [↓wk, ↓wl, nq, evV, ↓reduceIte, sevalprocAttr]
          refine AW.ret ?_
          refine blk0.ret ?_
          refine blkQ.ret ?_
          refine loopQ.ret H ?_ <;> clear H <;> intro H
          try dsimp only at H
          refine blk0.ret ?_
          refine seqQ.ret ?_
          cases H
          exact hqf19_C2 _ _ _ (.inr rfl) (Le.tq 1 [0] [2, 3] rfl) (by simp only [resVs, omap, resV, f19_C2, rrm, ↓wk, ↓wl, evV, ↓reduceIte, sevalprocAttr]) (by simp only [f19_C2, rrm, ↓wk, ↓wl, evV, ↓reduceIte, sevalprocAttr])
         ·refine AW.rseq ?_
          try simp only [↓wk, ↓wl, nq, evV, ↓reduceIte, sevalprocAttr]
          refine AW.ifc H (by rfl) ?_ ?_ <;> clear H <;> intro H
          ·refine AW.exit ?_
           refine blk0.out (by rfl) ?_
           refine blkQ.out (by rfl) ?_
           refine loopQ.exit H ?_ <;> clear H <;> intro H
           try dsimp only at H
           refine blk0.here ?_
           refine seqQ.norm ?_
           refine AW.rseq ?_
           try simp only [↓wk, ↓wl, nq, evV, ↓reduceIte, sevalprocAttr]
           refine rest_shr (by decide) ?_
           try simp only [↓wk, ↓wl, nq, evV, ↓reduceIte, sevalprocAttr]
           refine rest_and ?_
           try simp only [↓wk, ↓wl, nq, evV, ↓reduceIte, sevalprocAttr]
           refine rest_xor ?_
           try simp only [↓wk, ↓wl, nq, evV, ↓reduceIte, sevalprocAttr]
           refine AW.ret ?_
           cases H
           exact hqf19_C2 _ _ _ (.inr rfl) (Le.tq 1 [0] [2, 3] rfl) (by simp only [resVs, omap, resV, f19_C2, rrm, ↓wk, ↓wl, evV, ↓reduceIte, sevalprocAttr]) (by simp only [f19_C2, rrm, ↓wk, ↓wl, evV, ↓reduceIte, sevalprocAttr])
          ·refine AW.skip ?_
           refine blk0.norm ?_
           refine blkQ.norm ?_
           refine AW.rend ?_
           try simp only [↓wk, ↓wl, nq, evV, ↓reduceIte, sevalprocAttr]
           exact loopQ.next H ((Le.tq 1 [0] [0, 4, 5] (by simp only [f19_L3c, rrm, ↓wk, ↓wl, evV, ↓reduceIte, sevalprocAttr] <;> rfl)))
        ·try simp only [↓wk, ↓wl, nq, evV, ↓reduceIte, sevalprocAttr]
         refine seqQ.norm ?_
         refine AW.iff (by rfl) ?_
         refine AW.rseq ?_
         try simp only [↓wk, ↓wl, nq, evV, ↓reduceIte, sevalprocAttr]
         refine AW.ifc H (by rfl) ?_ ?_ <;> clear H <;> intro H
         ·refine AW.exit ?_
          refine blk0.out (by rfl) ?_
          refine blkQ.out (by rfl) ?_
          refine loopQ.exit H ?_ <;> clear H <;> intro H
          try dsimp only at H
          refine blk0.here ?_
          refine seqQ.norm ?_
          refine AW.rseq ?_
          try simp only [↓wk, ↓wl, nq, evV, ↓reduceIte, sevalprocAttr]
          refine rest_shr (by decide) ?_
          try simp only [↓wk, ↓wl, nq, evV, ↓reduceIte, sevalprocAttr]
          refine rest_and ?_
          try simp only [↓wk, ↓wl, nq, evV, ↓reduceIte, sevalprocAttr]
          refine rest_xor ?_
          try simp only [↓wk, ↓wl, nq, evV, ↓reduceIte, sevalprocAttr]
          refine AW.ret ?_
          cases H
          exact hqf19_C2 _ _ _ (.inr rfl) (Le.tq 1 [0] [2, 3] rfl) (by simp only [resVs, omap, resV, f19_C2, rrm, ↓wk, ↓wl, evV, ↓reduceIte, sevalprocAttr]) (by simp only [f19_C2, rrm, ↓wk, ↓wl, evV, ↓reduceIte, sevalprocAttr])
         ·refine AW.skip ?_
          refine blk0.norm ?_
          refine blkQ.norm ?_
          refine AW.rend ?_
          try simp only [↓wk, ↓wl, nq, evV, ↓reduceIte, sevalprocAttr]
          exact loopQ.next H ((Le.tq 1 [0] [0, 4, 5] (by simp only [f19_L3c, rrm, ↓wk, ↓wl, evV, ↓reduceIte, sevalprocAttr] <;> rfl)))
      ·try simp only [↓wk, ↓wl, nq, evV, ↓reduceIte, sevalprocAttr]
       refine AW.iff (by rfl) ?_
       refine AW.rend ?_
       try simp only [↓wk, ↓wl, nq, evV, ↓reduceIte, sevalprocAttr]
       refine evTs_ifg H (by rfl) ?_ ?_ <;> clear H <;> intro H
       ·try simp only [↓wk, ↓wl, nq, evV, ↓reduceIte, sevalprocAttr]
        refine seqQ.norm ?_
        refine AW.ifc H (by rfl) ?_ ?_ <;> clear H <;> intro H
        ·refine AW.rseq ?_
         try simp only [↓wk, ↓wl, nq, evV, ↓reduceIte, sevalprocAttr]
         refine AW.ret ?_
         refine blk0.ret ?_
         refine blkQ.ret ?_
         refine loopQ.ret H ?_ <;> clear H <;> intro H
         try dsimp only at H
         refine blk0.ret ?_
         refine seqQ.ret ?_
         cases H
         exact hqf19_C2 _ _ _ (.inr rfl) (Le.tq 1 [0] [2, 3] rfl) (by simp only [resVs, omap, resV, f19_C2, rrm, ↓wk, ↓wl, evV, ↓reduceIte, sevalprocAttr]) (by simp only [f19_C2, rrm, ↓wk, ↓wl, evV, ↓reduceIte, sevalprocAttr])
        ·refine AW.rseq ?_
         try simp only [↓wk, ↓wl, nq, evV, ↓reduceIte, sevalprocAttr]
         refine AW.ifc H (by rfl) ?_ ?_ <;> clear H <;> intro H
         ·refine AW.exit ?_
          refine blk0.out (by rfl) ?_
          refine blkQ.out (by rfl) ?_
          refine loopQ.exit H ?_ <;> clear H <;> intro H
          try dsimp only at H
          refine blk0.here ?_
          refine seqQ.norm ?_
          refine AW.rseq ?_
          try simp only [↓wk, ↓wl, nq, evV, ↓reduceIte, sevalprocAttr]
          refine rest_shr (by decide) ?_
          try simp only [↓wk, ↓wl, nq, evV, ↓reduceIte, sevalprocAttr]
          refine rest_and ?_
          try simp only [↓wk, ↓wl, nq, evV, ↓reduceIte, sevalprocAttr]
          refine rest_xor ?_
          try simp only [↓wk, ↓wl, nq, evV, ↓reduceIte, sevalprocAttr]
          refine AW.ret ?_
          cases H
          exact hqf19_C2 _ _ _ (.inr rfl) (Le.tq 1 [0] [2, 3] rfl) (by simp only [resVs, omap, resV, f19_C2, rrm, ↓wk, ↓wl, evV, ↓reduceIte, sevalprocAttr]) (by simp only [f19_C2, rrm, ↓wk, ↓wl, evV, ↓reduceIte, sevalprocAttr])
         ·refine AW.skip ?_
          refine blk0.norm ?_
          refine blkQ.norm ?_
          refine AW.rend ?_
          try simp only [↓wk, ↓wl, nq, evV, ↓reduceIte, sevalprocAttr]
          exact loopQ.next H ((Le.tq 1 [0] [0, 4, 5] (by simp only [f19_L3c, rrm, ↓wk, ↓wl, evV, ↓reduceIte, sevalprocAttr] <;> rfl)))
       ·try simp only [↓wk, ↓wl, nq, evV, ↓reduceIte, sevalprocAttr]
        refine seqQ.norm ?_
        refine AW.iff (by rfl) ?_
        refine AW.rseq ?_
        try simp only [↓wk, ↓wl, nq, evV, ↓reduceIte, sevalprocAttr]
        refine AW.ifc H (by rfl) ?_ ?_ <;> clear H <;> intro H
        ·refine AW.exit ?_
         refine blk0.out (by rfl) ?_
         refine blkQ.out (by rfl) ?_
         refine loopQ.exit H ?_ <;> clear H <;> intro H
         try dsimp only at H
         refine blk0.here ?_
         refine seqQ.norm ?_
         refine AW.rseq ?_
         try simp only [↓wk, ↓wl, nq, evV, ↓reduceIte, sevalprocAttr]
         refine rest_shr (by decide) ?_
         try simp only [↓wk, ↓wl, nq, evV, ↓reduceIte, sevalprocAttr]
         refine rest_and ?_
         try simp only [↓wk, ↓wl, nq, evV, ↓reduceIte, sevalprocAttr]
         refine rest_xor ?_
         try simp only [↓wk, ↓wl, nq, evV, ↓reduceIte, sevalprocAttr]
         refine AW.ret ?_
         cases H
         exact hqf19_C2 _ _ _ (.inr rfl) (Le.tq 1 [0] [2, 3] rfl) (by simp only [resVs, omap, resV, f19_C2, rrm, ↓wk, ↓wl, evV, ↓reduceIte, sevalprocAttr]) (by simp only [f19_C2, rrm, ↓wk, ↓wl, evV, ↓reduceIte, sevalprocAttr])
        ·refine AW.skip ?_
         refine blk0.norm ?_
         refine blkQ.norm ?_
         refine AW.rend ?_
         try simp only [↓wk, ↓wl, nq, evV, ↓reduceIte, sevalprocAttr]
         exact loopQ.next H ((Le.tq 1 [0] [0, 4, 5] (by simp only [f19_L3c, rrm, ↓wk, ↓wl, evV, ↓reduceIte, sevalprocAttr] <;> rfl)))
   ·rintro ⟨v_1095, v_1096, v_1097⟩ s_ h_ H hs_ hh_
    simp only [f19_C2] at H hs_ hh_
    subst hs_
    subst hh_
    try simp only [↓wk, ↓wl, nq, evV, ↓reduceIte, sevalprocAttr]
    refine AW.bseq ?_
    refine AW.rseq ?_
    try simp only [↓wk, ↓wl, nq, evV, ↓reduceIte, sevalprocAttr]
    refine AW.ifc H (by rfl) ?_ ?_ <;> clear H <;> intro H
    ·refine AW.rseq ?_
     try simp only [↓wk, ↓wl, nq, evV, ↓reduceIte, sevalprocAttr]
     refine AW.ret ?_
     refine blkQ.ret ?_
     cases H
     exact hqf19_C1 _ _ _ (.inr rfl) (Le.tq 1 [0] [2, 3] rfl) (by simp only [resVs, omap, resV, f19_C1, rrm, ↓wk, ↓wl, evV, ↓reduceIte, sevalprocAttr]) (by simp only [f19_C1, rrm, ↓wk, ↓wl, evV, ↓reduceIte, sevalprocAttr])
    ·refine AW.rseq ?_
     try simp only [↓wk, ↓wl, nq, evV, ↓reduceIte, sevalprocAttr]
     refine evTs_ifg H (by rfl) ?_ ?_ <;> clear H <;> intro H
     ·try simp only [↓wk, ↓wl, nq, evV, ↓reduceIte, sevalprocAttr]
      refine AW.ift (by rfl) ?_
      refine AW.rseq ?_
      try simp only [↓wk, ↓wl, nq, evV, ↓reduceIte, sevalprocAttr]
      refine AW.ret ?_
      refine blkQ.ret ?_
      cases H
      exact hqf19_C1 _ _ _ (.inr rfl) (Le.tq 1 [0] [2, 3] rfl) (by simp only [resVs, omap, resV, f19_C1, rrm, ↓wk, ↓wl, evV, ↓reduceIte, sevalprocAttr]) (by simp only [f19_C1, rrm, ↓wk, ↓wl, evV, ↓reduceIte, sevalprocAttr])
     ·try simp only [↓wk, ↓wl, nq, evV, ↓reduceIte, sevalprocAttr]
      refine AW.ifc H (by rfl) ?_ ?_ <;> clear H <;> intro H
      ·refine AW.rseq ?_
       try simp only [↓wk, ↓wl, nq, evV, ↓reduceIte, sevalprocAttr]
       refine AW.ret ?_
       refine blkQ.ret ?_
       cases H
       exact hqf19_C1 _ _ _ (.inr rfl) (Le.tq 1 [0] [2, 3] rfl) (by simp only [resVs, omap, resV, f19_C1, rrm, ↓wk, ↓wl, evV, ↓reduceIte, sevalprocAttr]) (by simp only [f19_C1, rrm, ↓wk, ↓wl, evV, ↓reduceIte, sevalprocAttr])
      ·refine AW.rseq ?_
       try simp only [↓wk, ↓wl, nq, evV, ↓reduceIte, sevalprocAttr]
       refine evTs_flat hFn H (fun _ h => f31p_ok h) (by rfl) (by rfl) (by simp only [deep_eq, imm_simps, imm_rowE, imm_ptrE, imm_enc, omap_simps, take_map_len, take_map_set, take_map_set2, List.length_set, le_refl_true, Nat.zero_add, and_true, true_and, List.drop_zero, Option.map_some, ↓wk, ↓wl, nq, evV, ↓reduceIte, sevalprocAttr]; rfl) (by rfl) (fun _ => rfl) (fun _ => rfl) ?_ <;> clear H <;> intro r_1133 H
       try simp only [eL, ↓wk, ↓wl, nq, evV, ↓reduceIte, sevalprocAttr]
       refine AW.ifc H (by rfl) ?_ ?_ <;> clear H <;> intro H
       ·refine AW.rseq ?_
        try simp only [↓wk, ↓wl, nq, evV, ↓reduceIte, sevalprocAttr]
        refine AW.ret ?_
        refine blkQ.ret ?_
        cases H
        exact hqf19_C1 _ _ _ (.inr rfl) (Le.tq 1 [0] [2, 3] rfl) (by simp only [resVs, omap, resV, f19_C1, rrm, ↓wk, ↓wl, evV, ↓reduceIte, sevalprocAttr]) (by simp only [f19_C1, rrm, ↓wk, ↓wl, evV, ↓reduceIte, sevalprocAttr])
       ·refine AW.skip ?_
        refine blkQ.norm ?_
        refine AW.rseq ?_
        try simp only [↓wk, ↓wl, nq, evV, ↓reduceIte, sevalprocAttr]
        refine evTs_inl (I := f19_C5 s_1019 v_1097 v_1095) (args := [.ptr 0 0, .int .i64 v_1095]) H (by rfl) fd32 (by rfl) (Nat.le_of_ble_eq_true rfl) ?_ ?_ <;> clear H
        ·rintro v_ Q_ H hqf19_C5
         simp only [f19_C5] at H
         dsimp only [List.length_cons, List.length_nil]
         refine AW.rseq ?_
         try simp only [↓wk, ↓wl, nq, evV, ↓reduceIte, sevalprocAttr]
         refine AW.rseq ?_
         try simp only [↓wk, ↓wl, nq, evV, ↓reduceIte, sevalprocAttr]
         refine AW.rseq ?_
         try simp only [↓wk, ↓wl, nq, evV, ↓reduceIte, sevalprocAttr]
         refine evTs_sslc H (by rfl) (by simp only [loI, hiI, ↓wk, ↓wl, nq, evV, ↓reduceIte, sevalprocAttr]; rfl) (by simp only [loI, hiI, ↓wk, ↓wl, nq, evV, ↓reduceIte, sevalprocAttr]; rfl) ?_ <;> clear H <;> intro s_1137 H
         try simp only [↓wk, ↓wl, nq, evV, ↓reduceIte, sevalprocAttr]
         refine AW.ret ?_
         cases H
         exact hqf19_C5 _ _ _ (.inr rfl) (Le.tq 1 [0] [4] rfl) (by simp only [resVs, omap, resV, f19_C5, rrm, ↓wk, ↓wl, evV, ↓reduceIte, sevalprocAttr]) (by simp only [f19_C5, rrm, ↓wk, ↓wl, evV, ↓reduceIte, sevalprocAttr])
        ·rintro ⟨v_1135, v_1136⟩ s_ h_ H hs_ hh_
         simp only [f19_C5] at H hs_ hh_
         subst hs_
         subst hh_
         try simp only [↓wk, ↓wl, nq, evV, ↓reduceIte, sevalprocAttr]
         refine AW.ret ?_
         cases H
         exact hqf19_C1 _ _ _ (.inr rfl) (Le.tq 1 [0] [2, 3] rfl) (by simp only [resVs, omap, resV, f19_C1, rrm, ↓wk, ↓wl, evV, ↓reduceIte, sevalprocAttr]) (by simp only [f19_C1, rrm, ↓wk, ↓wl, evV, ↓reduceIte, sevalprocAttr])
  ·rintro ⟨v_1064, v_1065, v_1066⟩ s_ h_ H hs_ hh_
   simp only [f19_C1] at H hs_ hh_
   subst hs_
   subst hh_
   try simp only [↓wk, ↓wl, nq, evV, ↓reduceIte, sevalprocAttr]
   refine AW.sseq ?_
   refine AW.rseq ?_
   try simp only [↓wk, ↓wl, nq, evV, ↓reduceIte, sevalprocAttr]
   refine AW.ifc H (by rfl) ?_ ?_ <;> clear H <;> intro H
   ·refine AW.rseq ?_
    try simp only [↓wk, ↓wl, nq, evV, ↓reduceIte, sevalprocAttr]
    refine AW.ret ?_
    refine seqQ.ret ?_
    cases H
    exact hQ.fin
   ·refine AW.skip ?_
    refine seqQ.norm ?_
    refine AW.rseq ?_
    try simp only [↓wk, ↓wl, nq, evV, ↓reduceIte, sevalprocAttr]
    refine AW.ret ?_
    cases H
    exact hQ.fin
noncomputable def f5_L3 (x_1186 : (List ApiToken)) (r_1188 : (List ApiToken) × Int × Int) (v_1168 : Int) (all_1015 : (List (List ApiToken))) (r_1187 : (List UInt8) × Int × Int) (r_1017 : RecordEntry × Int × Int) : Lp (Int) ((Unit) ⊕ (Unit)) where
  body := fun v_1196 => (if (decide (v_1196 < ((x_1186.length : Nat) : Int))) = true then (at? x_1186 v_1196).bind fun x_1200 => (at? r_1188.1 v_1196).bind fun x_1201 => (if (decide (x_1200.fKind ≠ x_1201.fKind)) = true then (some (.brk (Sum.inr ()))) else (at? r_1188.1 v_1196).bind fun x_1202 => (if (!(x_1200.fText == x_1202.fText)) = true then (some (.brk (Sum.inr ()))) else (some (.next (IntKind.i64.wrap (v_1196 + 1)))))) else (some (.brk (Sum.inl ()))))
  cst := fun v_1196 => ⟨put (put (put (put (put (put (put (put (put (fun _ => .junk) 139 (.int .i64 v_1196)) 138 (.int .i64 ((x_1186.length : Nat) : Int))) 137 (.sl 3 false (x_1186.map eApiToken))) 106 (.int .i64 v_1168)) 105 (.int .i64 ((all_1015.length : Nat) : Int))) 104 (.row 0 1 0 all_1015.length)) 24 (.sl 3 false (r_1188.1.map eApiToken))) 22 (.int .i64 r_1187.2.1)) 15 (.ptr 0 0), [.cel [.int .i64 r_1017.1.fKind, .str r_1017.1.fData], .els 0 (all_1015.map (eL 3 eApiToken))]⟩
theorem f5_L3c (x_1186 : (List ApiToken)) (r_1188 : (List ApiToken) × Int × Int) (v_1168 : Int) (all_1015 : (List (List ApiToken))) (r_1187 : (List UInt8) × Int × Int) (r_1017 : RecordEntry × Int × Int) (v_1196 : Int) : (f5_L3 x_1186 r_1188 v_1168 all_1015 r_1187 r_1017).cst v_1196 = ⟨put (put (put (put (put (put (put (put (put (fun _ => .junk) 139 (.int .i64 v_1196)) 138 (.int .i64 ((x_1186.length : Nat) : Int))) 137 (.sl 3 false (x_1186.map eApiToken))) 106 (.int .i64 v_1168)) 105 (.int .i64 ((all_1015.length : Nat) : Int))) 104 (.row 0 1 0 all_1015.length)) 24 (.sl 3 false (r_1188.1.map eApiToken))) 22 (.int .i64 r_1187.2.1)) 15 (.ptr 0 0), [.cel [.int .i64 r_1017.1.fKind, .str r_1017.1.fData], .els 0 (all_1015.map (eL 3 eApiToken))]⟩ := rfl
noncomputable def f5_L2 (all_1015 : (List (List ApiToken))) (r_1017 : RecordEntry × Int × Int) : Lp (Int × Int) ((Int) ⊕ (Unit)) where
  body := fun (at_1167, v_1168) => (if (decide (v_1168 < ((all_1015.length : Nat) : Int))) = true then (at? all_1015 v_1168).bind fun x_1186 => (f19 r_1017.1.fData at_1167).bind fun r_1187 => (f14 r_1187.1).bind fun r_1188 => (if (decide (r_1187.2.2 ≠ 0)) = true then (some (.brk (Sum.inr ()))) else (if (decide (r_1188.2.2 ≠ 0)) = true then (some (.brk (Sum.inr ()))) else (if (decide (((r_1188.1.length : Nat) : Int) ≠ ((x_1186.length : Nat) : Int))) = true then (some (.brk (Sum.inr ()))) else ((Lp.run (f5_L3 x_1186 r_1188 v_1168 all_1015 r_1187 r_1017) 0).bind fun r_ => match r_ with | (Sum.inl _) => (some (.next (r_1187.2.1, (IntKind.i64.wrap (v_1168 + 1))))) | (Sum.inr _) => (some (.brk (Sum.inr ()))))))) else (some (.brk (Sum.inl at_1167))))
  cst := fun (at_1167, v_1168) => ⟨put (put (put (put (put (fun _ => .junk) 106 (.int .i64 v_1168)) 105 (.int .i64 ((all_1015.length : Nat) : Int))) 104 (.row 0 1 0 all_1015.length)) 18 (.int .i64 at_1167)) 15 (.ptr 0 0), [.cel [.int .i64 r_1017.1.fKind, .str r_1017.1.fData], .els 0 (all_1015.map (eL 3 eApiToken))]⟩
theorem f5_L2c (all_1015 : (List (List ApiToken))) (r_1017 : RecordEntry × Int × Int) (at_1167 : Int) (v_1168 : Int) : (f5_L2 all_1015 r_1017).cst (at_1167, v_1168) = ⟨put (put (put (put (put (fun _ => .junk) 106 (.int .i64 v_1168)) 105 (.int .i64 ((all_1015.length : Nat) : Int))) 104 (.row 0 1 0 all_1015.length)) 18 (.int .i64 at_1167)) 15 (.ptr 0 0), [.cel [.int .i64 r_1017.1.fKind, .str r_1017.1.fData], .els 0 (all_1015.map (eL 3 eApiToken))]⟩ := rfl
noncomputable def f5_L1 (l_651 : (List (List UInt8))) : Lp ((List UInt8) × Int × (List (List ApiToken))) (((List UInt8) × (List (List ApiToken))) ⊕ (Unit)) where
  body := fun (data_1005, v_1006, all_1007) => (if (decide (v_1006 < ((l_651.length : Nat) : Int))) = true then (at? l_651 v_1006).bind fun x_1254 => (f14 x_1254).bind fun r_1255 => (if (decide (r_1255.2.2 ≠ 0)) = true then (some (.next (data_1005, (IntKind.i64.wrap (v_1006 + 1)), all_1007))) else (f15 r_1255.1).bind fun r_1256 => (f16 r_1256.1).bind fun r_1257 => (if (decide (r_1256.2 ≠ 0)) = true then (some (.brk (Sum.inr ()))) else (if (decide (r_1257.2 ≠ 0)) = true then (some (.brk (Sum.inr ()))) else (app? 24 all_1007 ([r_1255.1])).bind fun out_1258 => (cat? data_1005 r_1257.1).bind fun v_1259 => (some (.next (v_1259, (IntKind.i64.wrap (v_1006 + 1)), out_1258)))))) else (some (.brk (Sum.inl (data_1005, all_1007)))))
  cst := fun (data_1005, v_1006, all_1007) => ⟨put (put (put (put (put (fun _ => .junk) 39 (.int .i64 v_1006)) 38 (.int .i64 ((l_651.length : Nat) : Int))) 37 (.sl 0 false (l_651.map AV.str))) 4 (.row 0 0 0 all_1007.length)) 3 (.str data_1005), [.els 0 (all_1007.map (eL 3 eApiToken))]⟩
theorem f5_L1c (l_651 : (List (List UInt8))) (data_1005 : (List UInt8)) (v_1006 : Int) (all_1007 : (List (List ApiToken))) : (f5_L1 l_651).cst (data_1005, v_1006, all_1007) = ⟨put (put (put (put (put (fun _ => .junk) 39 (.int .i64 v_1006)) 38 (.int .i64 ((l_651.length : Nat) : Int))) 37 (.sl 0 false (l_651.map AV.str))) 4 (.row 0 0 0 all_1007.length)) 3 (.str data_1005), [.els 0 (all_1007.map (eL 3 eApiToken))]⟩ := rfl
def c5_0 : C := .cond (.t 35) (.seq (.reg [iI 36 (.call (.c (.fn 7 [])) []), iI 2 (.mv (.t 36))]) .ret) (.skip)
def c5_1 : C := .cond (.t 50) (.exit 1) (.skip)
def c5_2 : C := .cond (.t 66) (.seq (.reg [iI 2 (.mv (.c (.bool false)))]) .ret) (.skip)
def c5_3 : C := .reg [iI 67 (.mv (.t 4)), iI 68 (.mv (.t 7)), iI 69 (.mksl 0 1 (.sl 3 true []) [(0, (.t 68))]), iI 70 (.append 0 24 (.t 67) (.t 69)), iI 71 (.mv (.t 3)), iI 72 (.mv (.t 11)), iI 73 (.bin .add (.t 71) (.t 72)), iI 4 (.mv (.t 70)), iI 3 (.mv (.t 73))]
def c5_4 : C := .seq (.seq (.reg [iI 61 (.mv (.t 9)), iI 62 (.bin .neq (.t 61) (.c (.int .i64 0))), iI 63 (.mv (.t 62)), iG (some 64) 63 false (.mv (.t 12)), iG (some 65) 63 false (.bin .neq (.t 64) (.c (.int .i64 0))), iI 66 (.pick (.t 63) (.c (.bool true)) (.t 65))]) c5_2) c5_3
def c5_5 : C := .seq (.reg [iI 57 (.mv (.t 10)), iI 58 (.call (.c (.fn 16 [])) [(.t 57)]), iI 56 (.mv (.t 58)), iI 59 (.ext (.t 56) 0), iI 60 (.ext (.t 56) 1), iI 11 (.mv (.t 59)), iI 12 (.mv (.t 60))]) c5_4
def c5_6 : C := .seq (.reg [iI 52 (.mv (.t 7)), iI 53 (.call (.c (.fn 15 [])) [(.t 52)]), iI 51 (.mv (.t 53)), iI 54 (.ext (.t 51) 0), iI 55 (.ext (.t 51) 1), iI 10 (.mv (.t 54)), iI 9 (.mv (.t 55))]) c5_5
def c5_7 : C := .seq (.seq (.reg [iI 49 (.mv (.t 9)), iI 50 (.bin .neq (.t 49) (.c (.int .i64 0)))]) c5_1) c5_6
def c5_8 : C := .seq (.reg [iI 44 (.mv (.t 6)), iI 45 (.call (.c (.fn 14 [])) [(.t 44)]), iI 43 (.mv (.t 45)), iI 46 (.ext (.t 43) 0), iI 47 (.ext (.t 43) 1), iI 48 (.ext (.t 43) 2), iI 7 (.mv (.t 46)), iI 8 (.mv (.t 47)), iI 9 (.mv (.t 48))]) c5_7
def c5_9 : C := .reg [iI 74 (.bin .add (.t 39) (.c (.int .i64 1))), iI 39 (.mv (.t 74))]
def c5_10 : C := .seq (.block 1 (.seq (.reg [iI 41 (.iaddr 0 (.t 37) (.t 39)), iI 42 (.load 0 (.t 41)), iI 6 (.mv (.t 42))]) c5_8)) c5_9
def c5_11 : C := .seq (.cond (.t 40) (.skip) (.exit 0)) c5_10
def c5_12 : C := .block 0 (.loop (.seq (.reg [iI 40 (.bin .lss (.t 39) (.t 38))]) c5_11))
def c5_13 : C := .cond (.t 103) (.seq (.reg [iI 2 (.mv (.c (.bool false)))]) .ret) (.skip)
def c5_14 : C := .cond (.t 136) (.seq (.reg [iI 2 (.mv (.c (.bool false)))]) .ret) (.skip)
def c5_15 : C := .cond (.t 161) (.seq (.reg [iI 2 (.mv (.c (.bool false)))]) .ret) (.skip)
def c5_16 : C := .seq (.reg [iI 144 (.faddr 0 (.t 28)), iI 145 (.load 0 (.t 144)), iI 146 (.mv (.t 24)), iI 147 (.mv (.t 27)), iI 148 (.iaddr 3 (.t 146) (.t 147)), iI 149 (.faddr 0 (.t 148)), iI 150 (.load 0 (.t 149)), iI 151 (.bin .neq (.t 145) (.t 150)), iI 152 (.mv (.t 151)), iG (some 153) 152 false (.faddr 1 (.t 28)), iG (some 154) 152 false (.load 0 (.t 153)), iG (some 155) 152 false (.mv (.t 24)), iG (some 156) 152 false (.mv (.t 27)), iG (some 157) 152 false (.iaddr 3 (.t 155) (.t 156)), iG (some 158) 152 false (.faddr 1 (.t 157)), iG (some 159) 152 false (.load 0 (.t 158)), iG (some 160) 152 false (.bin .neq (.t 154) (.t 159)), iI 161 (.pick (.t 152) (.c (.bool true)) (.t 160))]) c5_15
def c5_17 : C := .reg [iI 162 (.bin .add (.t 139) (.c (.int .i64 1))), iI 139 (.mv (.t 162))]
def c5_18 : C := .seq (.block 5 (.seq (.reg [iI 141 (.mv (.t 139)), iI 142 (.iaddr 3 (.t 137) (.t 139)), iI 143 (.load 3 (.t 142)), iI 28 (.alloc [(1, (.int .i64 0)), (1, (.str [])), (1, (.int .i64 0))]), iI 27 (.mv (.t 141)), iN (.store 3 (.t 28) (.t 143))]) c5_16)) c5_17
def c5_19 : C := .seq (.cond (.t 140) (.skip) (.exit 4)) c5_18
def c5_20 : C := .block 4 (.loop (.seq (.reg [iI 140 (.bin .lss (.t 139) (.t 138))]) c5_19))
def c5_21 : C := .reg [iI 163 (.mv (.t 22)), iI 18 (.mv (.t 163))]
def c5_22 : C := .seq (.seq (.reg [iI 137 (.mv (.t 20)), iI 138 (.len 0 (.t 137)), iI 139 (.mv (.c (.int .i64 0)))]) c5_20) c5_21
def c5_23 : C := .seq (.seq (.reg [iI 124 (.mv (.t 23)), iI 125 (.bin .neq (.t 124) (.c (.int .i64 0))), iI 126 (.mv (.t 125)), iG (some 127) 126 false (.mv (.t 26)), iG (some 128) 126 false (.bin .neq (.t 127) (.c (.int .i64 0))), iI 129 (.pick (.t 126) (.c (.bool true)) (.t 128)), iI 130 (.mv (.t 129)), iG (some 131) 130 false (.mv (.t 24)), iG (some 132) 130 false (.len 0 (.t 131)), iG (some 133) 130 false (.mv (.t 20)), iG (some 134) 130 false (.len 0 (.t 133)), iG (some 135) 130 false (.bin .neq (.t 132) (.t 134)), iI 136 (.pick (.t 130) (.c (.bool true)) (.t 135))]) c5_14) c5_22
def c5_24 : C := .seq (.reg [iI 119 (.mv (.t 21)), iI 120 (.call (.c (.fn 14 [])) [(.t 119)]), iI 118 (.mv (.t 120)), iI 121 (.ext (.t 118) 0), iI 122 (.ext (.t 118) 1), iI 123 (.ext (.t 118) 2), iI 24 (.mv (.t 121)), iI 25 (.mv (.t 122)), iI 26 (.mv (.t 123))]) c5_23
def c5_25 : C := .seq (.reg [iI 111 (.faddr 1 (.t 15)), iI 112 (.load 0 (.t 111)), iI 113 (.mv (.t 18)), iI 114 (.call (.c (.fn 19 [])) [(.t 112), (.t 113)]), iI 110 (.mv (.t 114)), iI 115 (.ext (.t 110) 0), iI 116 (.ext (.t 110) 1), iI 117 (.ext (.t 110) 2), iI 21 (.mv (.t 115)), iI 22 (.mv (.t 116)), iI 23 (.mv (.t 117))]) c5_24
def c5_26 : C := .reg [iI 164 (.bin .add (.t 106) (.c (.int .i64 1))), iI 106 (.mv (.t 164))]
def c5_27 : C := .seq (.block 3 (.seq (.reg [iI 108 (.iaddr 0 (.t 104) (.t 106)), iI 109 (.load 0 (.t 108)), iI 20 (.mv (.t 109))]) c5_25)) c5_26
def c5_28 : C := .seq (.cond (.t 107) (.skip) (.exit 2)) c5_27
def c5_29 : C := .block 2 (.loop (.seq (.reg [iI 107 (.bin .lss (.t 106) (.t 105))]) c5_28))
def c5_30 : C := .seq (.reg [iI 165 (.mv (.t 18)), iI 166 (.faddr 1 (.t 15)), iI 167 (.load 0 (.t 166)), iI 168 (.len 1 (.t 167)), iI 169 (.bin .eql (.t 165) (.t 168)), iI 170 (.mv (.t 169)), iG (some 171) 170 true (.call (.c (.fn 7 [])) []), iI 172 (.pick (.t 170) (.t 171) (.c (.bool false))), iI 2 (.mv (.t 172))]) .ret
def c5_31 : C := .seq (.seq (.reg [iI 104 (.mv (.t 4)), iI 105 (.len 0 (.t 104)), iI 106 (.mv (.c (.int .i64 0)))]) c5_29) c5_30
def c5_32 : C := .seq (.reg [iI 18 (.mv (.c (.int .i64 0)))]) c5_31
def c5_33 : C := .seq (.seq (.reg [iI 87 (.mv (.t 14)), iI 88 (.bin .neq (.t 87) (.c (.int .i64 0))), iI 89 (.mv (.t 88)), iG (some 90) 89 false (.mv (.t 17)), iG (some 91) 89 false (.bin .neq (.t 90) (.c (.int .i64 0))), iI 92 (.pick (.t 89) (.c (.bool true)) (.t 91)), iI 93 (.mv (.t 92)), iG (some 94) 93 false (.mv (.t 16)), iG (some 95) 93 false (.mv (.t 13)), iG (some 96) 93 false (.len 1 (.t 95)), iG (some 97) 93 false (.bin .neq (.t 94) (.t 96)), iI 98 (.pick (.t 93) (.c (.bool true)) (.t 97)), iI 99 (.mv (.t 98)), iG (some 100) 99 false (.faddr 0 (.t 15)), iG (some 101) 99 false (.load 0 (.t 100)), iG (some 102) 99 false (.bin .neq (.t 101) (.c (.int .i64 7))), iI 103 (.pick (.t 99) (.c (.bool true)) (.t 102))]) c5_13) c5_32
def c5_34 : C := .seq (.reg [iI 82 (.mv (.t 13)), iI 83 (.call (.c (.fn 18 [])) [(.t 82), (.c (.int .i64 0))]), iI 81 (.mv (.t 83)), iI 84 (.ext (.t 81) 0), iI 85 (.ext (.t 81) 1), iI 86 (.ext (.t 81) 2), iI 15 (.alloc [(1, (.int .i64 0)), (1, (.str []))]), iN (.store 2 (.t 15) (.t 84)), iI 16 (.mv (.t 85)), iI 17 (.mv (.t 86))]) c5_33
def c5_35 : C := .seq (.reg [iI 76 (.mv (.t 3)), iI 77 (.build [(1, (.int .i64 0)), (1, (.str []))] [(0, 0, (.c (.int .i64 7))), (1, 0, (.t 76))]), iI 78 (.call (.c (.fn 17 [])) [(.t 77)]), iI 75 (.mv (.t 78)), iI 79 (.ext (.t 75) 0), iI 80 (.ext (.t 75) 1), iI 13 (.mv (.t 79)), iI 14 (.mv (.t 80))]) c5_34
def c5_36 : C := .seq (.seq (.reg [iI 37 (.mv (.t 0)), iI 38 (.len 0 (.t 37)), iI 39 (.mv (.c (.int .i64 0)))]) c5_12) c5_35
def c5_37 : C := .seq (.reg [iI 4 (.mv (.c (.sl 0 true [])))]) c5_36
def c5_38 : C := .seq (.reg [iI 3 (.mv (.c (.str [])))]) c5_37
def c5_39 : C := .seq (.seq (.reg [iI 29 (.mv (.t 0)), iI 30 (.len 0 (.t 29)), iI 31 (.bin .gtr (.t 30) (.c (.int .i64 12))), iI 32 (.mv (.t 31)), iG (some 33) 32 false (.mv (.t 0)), iG (some 34) 32 false (.call (.c (.fn 12 [])) [(.t 33), (.c (.fn 13 []))]), iI 35 (.pick (.t 32) (.c (.bool true)) (.t 34))]) c5_0) c5_38
def ir5 : C := .seq (.reg [iI 2 (.mv (.c (.bool false)))]) c5_39
theorem fd5 : fd? Try.prog 5 = some (173, [.slot 2], ir5) := by kernel_rfl
noncomputable def f5 (l_651 : (List (List UInt8))) : Option (Bool) :=
  (if (decide (12 < ((l_651.length : Nat) : Int))) = true then (f7).bind fun r_670 => (some r_670) else (f12_13 l_651).bind fun r_671 => (if r_671 = true then (f7).bind fun r_672 => (some r_672) else ((Lp.run (f5_L1 l_651) ([], 0, [])).bind fun r_ => match r_ with | (Sum.inl (data_1014, all_1015)) => (f17 (RecordEntry.mk 7 data_1014)).bind fun r_1016 => (f18 r_1016.1 0).bind fun r_1017 => (if (decide (r_1016.2 ≠ 0)) = true then (some false) else (if (decide (r_1017.2.2 ≠ 0)) = true then (some false) else (if (decide (r_1017.2.1 ≠ ((r_1016.1.length : Nat) : Int))) = true then (some false) else (if (decide (r_1017.1.fKind ≠ 7)) = true then (some false) else ((Lp.run (f5_L2 all_1015 r_1017) (0, 0)).bind fun r_ => match r_ with | (Sum.inl at_1183) => (if (decide (at_1183 = ((r_1017.1.fData.length : Nat) : Int))) = true then (f7).bind fun r_1184 => (some r_1184) else (some false)) | (Sum.inr _) => (some false)))))) | (Sum.inr _) => (some false))))
theorem f5_ok {l_651 : (List (List UInt8))} {r_ : Bool} (H : f5 l_651 = some r_) : Pure Try.prog 5 [.sl 0 false (l_651.map AV.str)] (· = .bool r_) := by
 refine Pure.walk3 fd5 none (Nat.le_of_ble_eq_true rfl) (by rfl) fun Q hQ => ?_
 simp only [f5] at H
 refine AW.rseq ?_
 try simp only [↓wk, ↓wl, nq, evV, ↓reduceIte, sevalprocAttr]
 refine AW.sseq ?_
 refine AW.rseq ?_
 try simp only [↓wk, ↓wl, nq, evV, ↓reduceIte, sevalprocAttr]
 refine evTs_ifg H (by rfl) ?_ ?_ <;> clear H <;> intro H
 ·try simp only [↓wk, ↓wl, nq, evV, ↓reduceIte, sevalprocAttr]
  refine AW.ift (by rfl) ?_
  refine AW.rseq ?_
  try simp only [↓wk, ↓wl, nq, evV, ↓reduceIte, sevalprocAttr]
  refine evTs_pure hFn H (fun _ h => f7_ok h) (by rfl) (by rfl) (by rfl) (by rfl) (fun _ => rfl) ?_ <;> clear H <;> intro r_670 H
  try simp only [eL, ↓wk, ↓wl, nq, evV, ↓reduceIte, sevalprocAttr]
  refine AW.ret ?_
  refine seqQ.ret ?_
  cases H
  exact hQ.fin
 ·try simp only [↓wk, ↓wl, nq, evV, ↓reduceIte, sevalprocAttr]
  refine evTs_pure hFn H (fun _ h => f12_13_ok h) (by rfl) (by rfl) (by rfl) (by rfl) (fun _ => rfl) ?_ <;> clear H <;> intro r_671 H
  try simp only [eL, ↓wk, ↓wl, nq, evV, ↓reduceIte, sevalprocAttr]
  refine AW.ifc H (by rfl) ?_ ?_ <;> clear H <;> intro H
  ·refine AW.rseq ?_
   try simp only [↓wk, ↓wl, nq, evV, ↓reduceIte, sevalprocAttr]
   refine evTs_pure hFn H (fun _ h => f7_ok h) (by rfl) (by rfl) (by rfl) (by rfl) (fun _ => rfl) ?_ <;> clear H <;> intro r_672 H
   try simp only [eL, ↓wk, ↓wl, nq, evV, ↓reduceIte, sevalprocAttr]
   refine AW.ret ?_
   refine seqQ.ret ?_
   cases H
   exact hQ.fin
  ·refine AW.skip ?_
   refine seqQ.norm ?_
   refine AW.rseq ?_
   try simp only [↓wk, ↓wl, nq, evV, ↓reduceIte, sevalprocAttr]
   refine AW.rseq ?_
   try simp only [↓wk, ↓wl, nq, evV, ↓reduceIte, sevalprocAttr]
   refine AW.sseq ?_
   refine AW.rseq ?_
   try simp only [↓wk, ↓wl, nq, evV, ↓reduceIte, sevalprocAttr]
   refine AW.bend ?_
   refine AW.iter H ((Le.trans (Le.nilRow (i := 4) (e := 0) (by simp only [↓wk, ↓wl, nq, evV, ↓reduceIte, sevalprocAttr])) (Le.tz [0] [3, 4, 37, 38, 39] (by simp only [f5_L1c, rrm, ↓wk, ↓wl, evV, ↓reduceIte, sevalprocAttr] <;> rfl)))) ?_ <;> clear H
   rintro ⟨data_1005, v_1006, all_1007⟩ x_ st0_ H hst_
   rw [f5_L1c] at hst_
   simp only [f5_L1] at H
   subst hst_
   refine AW.rseq ?_
   try simp only [↓wk, ↓wl, nq, evV, ↓reduceIte, sevalprocAttr]
   refine AW.sseq ?_
   refine AW.ifc H (by rfl) ?_ ?_ <;> clear H <;> intro H
   ·refine AW.skip ?_
    refine seqQ.norm ?_
    refine AW.bseq ?_
    refine AW.rseq ?_
    try simp only [↓wk, ↓wl, nq, evV, ↓reduceIte, sevalprocAttr]
    refine evTs_at (enc := AV.str) H (by rfl) (by rfl) ?_ <;> clear H <;> intro x_1254 H
    try simp only [↓wk, ↓wl, nq, evV, ↓reduceIte, sevalprocAttr]
    refine AW.rseq ?_
    try simp only [↓wk, ↓wl, nq, evV, ↓reduceIte, sevalprocAttr]
    refine evTs_pure hFn H (fun _ h => f14_im h) (by rfl) (by rfl) (by rfl) (by rfl) (fun _ => rfl) ?_ <;> clear H <;> intro r_1255 H
    try simp only [eL, ↓wk, ↓wl, nq, evV, ↓reduceIte, sevalprocAttr]
    refine AW.sseq ?_
    refine AW.rseq ?_
    try simp only [↓wk, ↓wl, nq, evV, ↓reduceIte, sevalprocAttr]
    refine AW.ifc H (by rfl) ?_ ?_ <;> clear H <;> intro H
    ·refine AW.exit ?_
     refine seqQ.exit ?_
     refine blkQ.here ?_
     refine AW.rend ?_
     try simp only [↓wk, ↓wl, nq, evV, ↓reduceIte, sevalprocAttr]
     exact loopQ.next H ((Le.tz [0] [3, 4, 37, 38, 39] (by simp only [f5_L1c, rrm, ↓wk, ↓wl, evV, ↓reduceIte, sevalprocAttr] <;> rfl)))
    ·refine AW.skip ?_
     refine seqQ.norm ?_
     refine AW.rseq ?_
     try simp only [↓wk, ↓wl, nq, evV, ↓reduceIte, sevalprocAttr]
     refine evTs_pure hFn H (fun _ h => f15_ok h) (by rfl) (by rfl) (by rfl) (by rfl) (fun _ => rfl) ?_ <;> clear H <;> intro r_1256 H
     try simp only [eL, ↓wk, ↓wl, nq, evV, ↓reduceIte, sevalprocAttr]
     refine AW.rseq ?_
     try simp only [↓wk, ↓wl, nq, evV, ↓reduceIte, sevalprocAttr]
     refine evTs_pure hFn H (fun _ h => f16_ok h) (by rfl) (by rfl) (by rfl) (by rfl) (fun _ => rfl) ?_ <;> clear H <;> intro r_1257 H
     try simp only [eL, ↓wk, ↓wl, nq, evV, ↓reduceIte, sevalprocAttr]
     refine AW.sseq ?_
     refine AW.rseq ?_
     try simp only [↓wk, ↓wl, nq, evV, ↓reduceIte, sevalprocAttr]
     refine evTs_ifg H (by rfl) ?_ ?_ <;> clear H <;> intro H
     ·try simp only [↓wk, ↓wl, nq, evV, ↓reduceIte, sevalprocAttr]
      refine AW.ift (by rfl) ?_
      refine AW.rseq ?_
      try simp only [↓wk, ↓wl, nq, evV, ↓reduceIte, sevalprocAttr]
      refine AW.ret ?_
      refine seqQ.ret ?_
      refine blkQ.ret ?_
      refine loopQ.ret H ?_ <;> clear H <;> intro H
      try dsimp only at H
      refine blk0.ret ?_
      refine seqQ.ret ?_
      cases H
      exact hQ.fin
     ·try simp only [↓wk, ↓wl, nq, evV, ↓reduceIte, sevalprocAttr]
      refine AW.ifc H (by rfl) ?_ ?_ <;> clear H <;> intro H
      ·refine AW.rseq ?_
       try simp only [↓wk, ↓wl, nq, evV, ↓reduceIte, sevalprocAttr]
       refine AW.ret ?_
       refine seqQ.ret ?_
       refine blkQ.ret ?_
       refine loopQ.ret H ?_ <;> clear H <;> intro H
       try dsimp only at H
       refine blk0.ret ?_
       refine seqQ.ret ?_
       cases H
       exact hQ.fin
      ·refine AW.skip ?_
       refine seqQ.norm ?_
       refine AW.rend ?_
       try simp only [↓wk, ↓wl, nq, evV, ↓reduceIte, sevalprocAttr]
       refine evTs_app (enc := (eL 3 eApiToken)) H (by rfl) (by first | rfl | simp only [List.length_set]) (by rfl) (by rfl) ?_ <;> clear H <;> intro out_1258 H
       try simp only [↓wk, ↓wl, nq, evV, ↓reduceIte, sevalprocAttr]
       refine rest_cat H ?_ <;> clear H <;> intro v_1259 H
       try simp only [↓wk, ↓wl, nq, evV, ↓reduceIte, sevalprocAttr]
       refine blkQ.norm ?_
       refine AW.rend ?_
       try simp only [↓wk, ↓wl, nq, evV, ↓reduceIte, sevalprocAttr]
       exact loopQ.next H ((Le.tz [1] [3, 4, 37, 38, 39] (by simp only [f5_L1c, rrm, ↓wk, ↓wl, evV, ↓reduceIte, sevalprocAttr] <;> rfl)))
   ·refine AW.exit ?_
    refine seqQ.exit ?_
    refine loopQ.exit H ?_ <;> clear H <;> intro H
    try dsimp only at H
    refine blk0.here ?_
    refine seqQ.norm ?_
    refine AW.rseq ?_
    try simp only [↓wk, ↓wl, nq, evV, ↓reduceIte, sevalprocAttr]
    refine evTs_pure hFn H (fun _ h => f17_ok h) (by rfl) (by rfl) (by rfl) (by rfl) (fun _ => rfl) ?_ <;> clear H <;> intro r_1260 H
    try simp only [eL, ↓wk, ↓wl, nq, evV, ↓reduceIte, sevalprocAttr]
    refine AW.rseq ?_
    try simp only [↓wk, ↓wl, nq, evV, ↓reduceIte, sevalprocAttr]
    refine evTs_pure hFn H (fun _ h => f18_ok h) (by rfl) (by rfl) (by rfl) (by rfl) (fun _ => rfl) ?_ <;> clear H <;> intro r_1261 H
    try simp only [eL, eRecordEntry, ↓wk, ↓wl, nq, evV, ↓reduceIte, sevalprocAttr]
    refine AW.sseq ?_
    refine AW.rseq ?_
    try simp only [↓wk, ↓wl, nq, evV, ↓reduceIte, sevalprocAttr]
    refine evTs_ifg H (by rfl) ?_ ?_ <;> clear H <;> intro H
    ·try simp only [↓wk, ↓wl, nq, evV, ↓reduceIte, sevalprocAttr]
     refine AW.ift (by rfl) ?_
     refine AW.rseq ?_
     try simp only [↓wk, ↓wl, nq, evV, ↓reduceIte, sevalprocAttr]
     refine AW.ret ?_
     refine seqQ.ret ?_
     cases H
     exact hQ.fin
    ·try simp only [↓wk, ↓wl, nq, evV, ↓reduceIte, sevalprocAttr]
     refine evTs_ifg H (by rfl) ?_ ?_ <;> clear H <;> intro H
     ·try simp only [↓wk, ↓wl, nq, evV, ↓reduceIte, sevalprocAttr]
      refine AW.ift (by rfl) ?_
      refine AW.rseq ?_
      try simp only [↓wk, ↓wl, nq, evV, ↓reduceIte, sevalprocAttr]
      refine AW.ret ?_
      refine seqQ.ret ?_
      cases H
      exact hQ.fin
     ·try simp only [↓wk, ↓wl, nq, evV, ↓reduceIte, sevalprocAttr]
      refine evTs_ifg H (by rfl) ?_ ?_ <;> clear H <;> intro H
      ·try simp only [↓wk, ↓wl, nq, evV, ↓reduceIte, sevalprocAttr]
       refine AW.ift (by rfl) ?_
       refine AW.rseq ?_
       try simp only [↓wk, ↓wl, nq, evV, ↓reduceIte, sevalprocAttr]
       refine AW.ret ?_
       refine seqQ.ret ?_
       cases H
       exact hQ.fin
      ·try simp only [↓wk, ↓wl, nq, evV, ↓reduceIte, sevalprocAttr]
       refine AW.ifc H (by rfl) ?_ ?_ <;> clear H <;> intro H
       ·refine AW.rseq ?_
        try simp only [↓wk, ↓wl, nq, evV, ↓reduceIte, sevalprocAttr]
        refine AW.ret ?_
        refine seqQ.ret ?_
        cases H
        exact hQ.fin
       ·refine AW.skip ?_
        refine seqQ.norm ?_
        refine AW.rseq ?_
        try simp only [↓wk, ↓wl, nq, evV, ↓reduceIte, sevalprocAttr]
        refine AW.sseq ?_
        refine AW.rseq ?_
        try simp only [↓wk, ↓wl, nq, evV, ↓reduceIte, sevalprocAttr]
        refine AW.bend ?_
        refine AW.iter H ((Le.tz [1, 0] [15, 18, 104, 105, 106] (by simp only [f5_L2c, rrm, ↓wk, ↓wl, evV, ↓reduceIte, sevalprocAttr] <;> rfl))) ?_ <;> clear H
        rintro ⟨at_1292, v_1293⟩ x_ st0_ H hst_
        rw [f5_L2c] at hst_
        simp only [f5_L2] at H
        subst hst_
        refine AW.rseq ?_
        try simp only [↓wk, ↓wl, nq, evV, ↓reduceIte, sevalprocAttr]
        refine AW.sseq ?_
        refine AW.ifc H (by rfl) ?_ ?_ <;> clear H <;> intro H
        ·refine AW.skip ?_
         refine seqQ.norm ?_
         refine AW.bseq ?_
         refine AW.rseq ?_
         try simp only [↓wk, ↓wl, nq, evV, ↓reduceIte, sevalprocAttr]
         refine evTs_atr (enc := (eL 3 eApiToken)) H (by rfl) (by first | rfl | simp only [List.length_set]) (by rfl) ?_ <;> clear H <;> intro x_1311 hx_1311 H
         try simp only [eL, ↓wk, ↓wl, nq, evV, ↓reduceIte, sevalprocAttr, hx_1311, eL]
         refine AW.rseq ?_
         try simp only [↓wk, ↓wl, nq, evV, ↓reduceIte, sevalprocAttr, hx_1311, eL]
         refine evTs_pure hFn H (fun _ h => f19_ok h) (by rfl) (by rfl) (by rfl) (by rfl) (fun _ => rfl) ?_ <;> clear H <;> intro r_1312 H
         try simp only [eL, ↓wk, ↓wl, nq, evV, ↓reduceIte, sevalprocAttr, hx_1311, eL]
         refine AW.rseq ?_
         try simp only [↓wk, ↓wl, nq, evV, ↓reduceIte, sevalprocAttr, hx_1311, eL]
         refine evTs_pure hFn H (fun _ h => f14_im h) (by rfl) (by rfl) (by rfl) (by rfl) (fun _ => rfl) ?_ <;> clear H <;> intro r_1313 H
         try simp only [eL, ↓wk, ↓wl, nq, evV, ↓reduceIte, sevalprocAttr, hx_1311, eL]
         refine AW.sseq ?_
         refine AW.rseq ?_
         try simp only [↓wk, ↓wl, nq, evV, ↓reduceIte, sevalprocAttr, hx_1311, eL]
         refine evTs_ifg H (by rfl) ?_ ?_ <;> clear H <;> intro H
         ·try simp only [↓wk, ↓wl, nq, evV, ↓reduceIte, sevalprocAttr, hx_1311, eL]
          refine AW.ift (by rfl) ?_
          refine AW.rseq ?_
          try simp only [↓wk, ↓wl, nq, evV, ↓reduceIte, sevalprocAttr, hx_1311, eL]
          refine AW.ret ?_
          refine seqQ.ret ?_
          refine blkQ.ret ?_
          refine loopQ.ret H ?_ <;> clear H <;> intro H
          try dsimp only at H
          refine blk0.ret ?_
          refine seqQ.ret ?_
          cases H
          exact hQ _ _ _ _ (.inr rfl) (by simp only [resVs, omap, resV, ↓wk, ↓wl, nq, evV, ↓reduceIte, sevalprocAttr, hx_1311, eL]; rfl) (hand_plain (by rfl)) (by first | exact Or.inl rfl | exact Or.inr rfl)
         ·try simp only [↓wk, ↓wl, nq, evV, ↓reduceIte, sevalprocAttr, hx_1311, eL]
          refine evTs_ifg H (by rfl) ?_ ?_ <;> clear H <;> intro H
          ·try simp only [↓wk, ↓wl, nq, evV, ↓reduceIte, sevalprocAttr, hx_1311, eL]
           refine AW.ift (by rfl) ?_
           refine AW.rseq ?_
           try simp only [↓wk, ↓wl, nq, evV, ↓reduceIte, sevalprocAttr, hx_1311, eL]
           refine AW.ret ?_
           refine seqQ.ret ?_
           refine blkQ.ret ?_
           refine loopQ.ret H ?_ <;> clear H <;> intro H
           try dsimp only at H
           refine blk0.ret ?_
           refine seqQ.ret ?_
           cases H
           exact hQ _ _ _ _ (.inr rfl) (by simp only [resVs, omap, resV, ↓wk, ↓wl, nq, evV, ↓reduceIte, sevalprocAttr, hx_1311, eL]; rfl) (hand_plain (by rfl)) (by first | exact Or.inl rfl | exact Or.inr rfl)
          ·try simp only [↓wk, ↓wl, nq, evV, ↓reduceIte, sevalprocAttr, hx_1311, eL]
           refine AW.ifc H (by rfl) ?_ ?_ <;> clear H <;> intro H
           ·refine AW.rseq ?_
            try simp only [↓wk, ↓wl, nq, evV, ↓reduceIte, sevalprocAttr, hx_1311, eL]
            refine AW.ret ?_
            refine seqQ.ret ?_
            refine blkQ.ret ?_
            refine loopQ.ret H ?_ <;> clear H <;> intro H
            try dsimp only at H
            refine blk0.ret ?_
            refine seqQ.ret ?_
            cases H
            exact hQ _ _ _ _ (.inr rfl) (by simp only [resVs, omap, resV, ↓wk, ↓wl, nq, evV, ↓reduceIte, sevalprocAttr, hx_1311, eL]; rfl) (hand_plain (by rfl)) (by first | exact Or.inl rfl | exact Or.inr rfl)
           ·refine AW.skip ?_
            refine seqQ.norm ?_
            refine AW.sseq ?_
            refine AW.rseq ?_
            try simp only [↓wk, ↓wl, nq, evV, ↓reduceIte, sevalprocAttr, hx_1311, eL]
            refine AW.bend ?_
            refine AW.iter H ((Le.tz [0, 1] [15, 22, 24, 104, 105, 106, 137, 138, 139] (by simp only [f5_L3c, rrm, ↓wk, ↓wl, evV, ↓reduceIte, sevalprocAttr, hx_1311, eL] <;> rfl))) ?_ <;> clear H
            rintro v_1321 x_ st0_ H hst_
            rw [f5_L3c] at hst_
            simp only [f5_L3] at H
            subst hst_
            refine AW.rseq ?_
            try simp only [↓wk, ↓wl, nq, evV, ↓reduceIte, sevalprocAttr, hx_1311, eL]
            refine AW.sseq ?_
            refine AW.ifc H (by rfl) ?_ ?_ <;> clear H <;> intro H
            ·refine AW.skip ?_
             refine seqQ.norm ?_
             refine AW.bseq ?_
             refine AW.rseq ?_
             try simp only [↓wk, ↓wl, nq, evV, ↓reduceIte, sevalprocAttr, hx_1311, eL]
             refine evTs_at (enc := eApiToken) H (by rfl) (by rfl) ?_ <;> clear H <;> intro x_1325 H
             try simp only [eApiToken, eL, ↓wk, ↓wl, nq, evV, ↓reduceIte, sevalprocAttr, hx_1311, eL]
             refine AW.rseq ?_
             try simp only [↓wk, ↓wl, nq, evV, ↓reduceIte, sevalprocAttr, hx_1311, eL]
             refine evTs_at (enc := eApiToken) H (by rfl) (by rfl) ?_ <;> clear H <;> intro x_1326 H
             try simp only [eApiToken, eL, ↓wk, ↓wl, nq, evV, ↓reduceIte, sevalprocAttr, hx_1311, eL]
             refine evTs_ifg H (by rfl) ?_ ?_ <;> clear H <;> intro H
             ·try simp only [↓wk, ↓wl, nq, evV, ↓reduceIte, sevalprocAttr, hx_1311, eL]
              refine AW.ift (by rfl) ?_
              refine AW.rseq ?_
              try simp only [↓wk, ↓wl, nq, evV, ↓reduceIte, sevalprocAttr, hx_1311, eL]
              refine AW.ret ?_
              refine blkQ.ret ?_
              refine loopQ.ret H ?_ <;> clear H <;> intro H
              try dsimp only at H
              refine blk0.ret ?_
              refine seqQ.ret ?_
              refine blkQ.ret ?_
              refine loopQ.ret H ?_ <;> clear H <;> intro H
              try dsimp only at H
              refine blk0.ret ?_
              refine seqQ.ret ?_
              cases H
              exact hQ _ _ _ _ (.inr rfl) (by simp only [resVs, omap, resV, ↓wk, ↓wl, nq, evV, ↓reduceIte, sevalprocAttr, hx_1311, eL]; rfl) (hand_plain (by rfl)) (by first | exact Or.inl rfl | exact Or.inr rfl)
             ·try simp only [↓wk, ↓wl, nq, evV, ↓reduceIte, sevalprocAttr, hx_1311, eL]
              refine evTs_at (enc := eApiToken) H (by rfl) (by rfl) ?_ <;> clear H <;> intro x_1327 H
              try simp only [eApiToken, eL, ↓wk, ↓wl, nq, evV, ↓reduceIte, sevalprocAttr, hx_1311, eL]
              refine AW.ifc H (by rfl) ?_ ?_ <;> clear H <;> intro H
              ·refine AW.rseq ?_
               try simp only [↓wk, ↓wl, nq, evV, ↓reduceIte, sevalprocAttr, hx_1311, eL]
               refine AW.ret ?_
               refine blkQ.ret ?_
               refine loopQ.ret H ?_ <;> clear H <;> intro H
               try dsimp only at H
               refine blk0.ret ?_
               refine seqQ.ret ?_
               refine blkQ.ret ?_
               refine loopQ.ret H ?_ <;> clear H <;> intro H
               try dsimp only at H
               refine blk0.ret ?_
               refine seqQ.ret ?_
               cases H
               exact hQ _ _ _ _ (.inr rfl) (by simp only [resVs, omap, resV, ↓wk, ↓wl, nq, evV, ↓reduceIte, sevalprocAttr, hx_1311, eL]; rfl) (hand_plain (by rfl)) (by first | exact Or.inl rfl | exact Or.inr rfl)
              ·refine AW.skip ?_
               refine blkQ.norm ?_
               refine AW.rend ?_
               try simp only [↓wk, ↓wl, nq, evV, ↓reduceIte, sevalprocAttr, hx_1311, eL]
               exact loopQ.next H ((Le.tz [0, 1] [15, 22, 24, 104, 105, 106, 137, 138, 139] (by simp only [f5_L3c, rrm, ↓wk, ↓wl, evV, ↓reduceIte, sevalprocAttr, hx_1311, eL] <;> rfl)))
            ·refine AW.exit ?_
             refine seqQ.exit ?_
             refine loopQ.exit H ?_ <;> clear H <;> intro H
             try dsimp only at H
             refine blk0.here ?_
             refine seqQ.norm ?_
             refine AW.rend ?_
             try simp only [↓wk, ↓wl, nq, evV, ↓reduceIte, sevalprocAttr, hx_1311, eL]
             refine blkQ.norm ?_
             refine AW.rend ?_
             try simp only [↓wk, ↓wl, nq, evV, ↓reduceIte, sevalprocAttr, hx_1311, eL]
             exact loopQ.next H ((Le.tz [0, 1] [15, 18, 104, 105, 106] (by simp only [f5_L2c, rrm, ↓wk, ↓wl, evV, ↓reduceIte, sevalprocAttr, hx_1311, eL] <;> rfl)))
        ·refine AW.exit ?_
         refine seqQ.exit ?_
         refine loopQ.exit H ?_ <;> clear H <;> intro H
         try dsimp only at H
         refine blk0.here ?_
         refine seqQ.norm ?_
         refine AW.rseq ?_
         try simp only [↓wk, ↓wl, nq, evV, ↓reduceIte, sevalprocAttr]
         refine evTs_ifg H (by rfl) ?_ ?_ <;> clear H <;> intro H
         ·try simp only [↓wk, ↓wl, nq, evV, ↓reduceIte, sevalprocAttr]
          refine evTs_pure hFn H (fun _ h => f7_ok h) (by rfl) (by rfl) (by rfl) (by rfl) (fun _ => rfl) ?_ <;> clear H <;> intro r_1328 H
          try simp only [eL, ↓wk, ↓wl, nq, evV, ↓reduceIte, sevalprocAttr]
          refine AW.ret ?_
          cases H
          exact hQ.fin
         ·try simp only [↓wk, ↓wl, nq, evV, ↓reduceIte, sevalprocAttr]
          refine AW.ret ?_
          cases H
          exact hQ.fin
end Go.Proofs.Ytkbjimfganeooaa
