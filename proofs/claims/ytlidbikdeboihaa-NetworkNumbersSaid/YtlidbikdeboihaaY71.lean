import Derived.Test.YtlidbikdeboihaaX2
import Derived.Test.YtlidbikdeboihaaProg
import Derived.KernelRfl
namespace Go.Proofs.Ytlidbikdeboihaa
open Go Go.Ab

set_option maxHeartbeats 1000000
set_option linter.unusedSimpArgs false
set_option linter.unusedVariables false
structure Law56Start where
  fSource : Int
  fPriority : Int
  fSync : Int
def eLaw56Start (x : Law56Start) : AV := .agg [.int .u64 x.fSource, .int .i64 x.fPriority, .int .i64 x.fSync]
instance : IsFlat eLaw56Start := ⟨fun _ => rfl⟩
instance : IsEnc 3 eLaw56Start := ⟨fun _ => rfl, fun _ => rfl, fun _ => rfl⟩
structure Law56Beat where
  fUniverse : Int
  fAfter : Int
  fValue : Int
def eLaw56Beat (x : Law56Beat) : AV := .agg [.int .u8 x.fUniverse, .int .u8 x.fAfter, .int .u8 x.fValue]
instance : IsFlat eLaw56Beat := ⟨fun _ => rfl⟩
instance : IsEnc 3 eLaw56Beat := ⟨fun _ => rfl, fun _ => rfl, fun _ => rfl⟩
def c28_0 : C := .cond (.t 29) (.seq (.reg [iI 2 (.mv (.c (.int .i64 3)))]) .ret) (.skip)
def c28_1 : C := .cond (.t 24) (.seq (.reg [iI 2 (.mv (.c (.int .i64 13)))]) .ret) (.seq (.reg [iI 30 (.faddr 1 (.t 1)), iI 31 (.load 0 (.t 30)), iI 32 (.bin .eql (.t 31) (.c (.int .i64 0))), iI 33 (.mv (.t 32)), iG (some 34) 33 true (.faddr 4 (.t 1)), iG (some 35) 33 true (.load 0 (.t 34)), iG (some 36) 33 true (.bin .eql (.t 35) (.c (.int .i64 0))), iG (some 37) 33 true (.mv (.t 36)), iG (some 38) 37 false (.faddr 5 (.t 1)), iG (some 39) 37 false (.load 0 (.t 38)), iG (some 40) 33 true (.pick (.t 37) (.c (.bool true)) (.t 39)), iG (some 41) 33 true (.mv (.t 40)), iG (some 42) 41 false (.faddr 6 (.t 1)), iG (some 43) 41 false (.load 0 (.t 42)), iG (some 44) 41 false (.bin .neq (.t 43) (.c (.str []))), iG (some 45) 33 true (.pick (.t 41) (.c (.bool true)) (.t 44)), iI 46 (.pick (.t 33) (.t 45) (.c (.bool false))), iI 29 (.mv (.t 46))]) c28_0)
def c28_2 : C := .cond (.t 3) (.seq (.reg [iI 2 (.mv (.c (.int .i64 2)))]) .ret) (.seq (.reg [iI 25 (.faddr 6 (.t 1)), iI 26 (.load 0 (.t 25)), iI 27 (.len 1 (.t 26)), iI 28 (.bin .gtr (.t 27) (.c (.int .i64 512))), iI 24 (.mv (.t 28))]) c28_1)
def c28_3 : C := .seq (.reg [iI 2 (.mv (.c (.int .i64 0)))]) .ret
def c28_4 : C := .seq (.block 0 (.seq (.reg [iI 4 (.faddr 0 (.t 1)), iI 5 (.load 0 (.t 4)), iI 6 (.faddr 2 (.t 1)), iI 7 (.load 0 (.t 6)), iI 8 (.faddr 4 (.t 1)), iI 9 (.load 0 (.t 8)), iI 10 (.call (.c (.fn 38 [])) [(.t 5), (.t 7), (.t 9)]), iI 11 (.un .not (.t 10)), iI 12 (.mv (.t 11)), iG (some 13) 12 false (.faddr 1 (.t 1)), iG (some 14) 12 false (.load 0 (.t 13)), iG (some 15) 12 false (.call (.c (.fn 40 [])) [(.t 14), (.c (.int .i64 0)), (.c (.int .i64 8))]), iG (some 16) 12 false (.un .not (.t 15)), iI 17 (.pick (.t 12) (.c (.bool true)) (.t 16)), iI 18 (.mv (.t 17)), iG (some 19) 18 false (.faddr 3 (.t 1)), iG (some 20) 18 false (.load 0 (.t 19)), iG (some 21) 18 false (.call (.c (.fn 36 [])) [(.t 20)]), iG (some 22) 18 false (.un .not (.t 21)), iI 23 (.pick (.t 18) (.c (.bool true)) (.t 22)), iI 3 (.mv (.t 23))]) c28_2)) c28_3
def ir28 : C := .seq (.reg [iI 1 (.box (.t 0)), iI 2 (.mv (.c (.int .i64 0)))]) c28_4
theorem fd28 : fd? Try.prog 28 = some (47, [.slot 2], ir28) := by kernel_rfl
noncomputable def f28 (p_1762 : NetworkPacket) : Option (Int) :=
  (f38 p_1762.fSource p_1762.fPriority p_1762.fSync).bind fun r_1763 => (if (!r_1763) = true then (some 2) else (f40 p_1762.fUniverse 0 8).bind fun r_1764 => (if (!r_1764) = true then (some 2) else (f36 p_1762.fSeq).bind fun r_1765 => (if (!r_1765) = true then (some 2) else (if (decide (512 < ((p_1762.fSlots.length : Nat) : Int))) = true then (some 13) else (if (decide (p_1762.fUniverse = 0)) = true then (if (decide (p_1762.fSync = 0)) = true then (some 3) else (if p_1762.fEnd = true then (some 3) else (if (!(p_1762.fSlots == ([]))) = true then (some 3) else (some 0)))) else (some 0))))))
theorem f28_ok {p_1762 : NetworkPacket} {r_ : Int} (H : f28 p_1762 = some r_) : Pure Try.prog 28 [.agg [.int .u64 p_1762.fSource, .int .i64 p_1762.fUniverse, .int .i64 p_1762.fPriority, .int .i64 p_1762.fSeq, .int .i64 p_1762.fSync, .bool p_1762.fEnd, .str p_1762.fSlots]] (· = .int .i64 r_) := by
  refine Pure.walk3 fd28 none (Nat.le_of_ble_eq_true rfl) (by rfl) fun Q hQ => ?_
  simp only [f28] at H
  refine AW.rseq ?_
  try simp only [↓wk, ↓wl, nc, evV, wrapBits_eq, ↓reduceIte, Nat.reduceEqDiff, Nat.reduceAdd, Nat.reduceSub, Nat.reduceLeDiff, Nat.reduceLT, Nat.reduceBEq, reduceCtorEq, Int.reduceEq]
  refine AW.bseq ?_
  refine AW.rseq ?_
  try simp only [↓wk, ↓wl, nc, evV, wrapBits_eq, ↓reduceIte, Nat.reduceEqDiff, Nat.reduceAdd, Nat.reduceSub, Nat.reduceLeDiff, Nat.reduceLT, Nat.reduceBEq, reduceCtorEq, Int.reduceEq]
  refine evTs_pure hFn H (fun _ h => f38_ok h) (by rfl) (by rfl) (by rfl) (by rfl) (fun _ => rfl) ?_ <;> clear H <;> intro r_1763 H
  try simp only [eL, ↓wk, ↓wl, nc, evV, wrapBits_eq, ↓reduceIte, Nat.reduceEqDiff, Nat.reduceAdd, Nat.reduceSub, Nat.reduceLeDiff, Nat.reduceLT, Nat.reduceBEq, reduceCtorEq, Int.reduceEq]
  refine evTs_ifg H (by rfl) ?_ ?_ <;> clear H <;> intro H
  · try simp only [↓wk, ↓wl, nc, evV, wrapBits_eq, ↓reduceIte, Nat.reduceEqDiff, Nat.reduceAdd, Nat.reduceSub, Nat.reduceLeDiff, Nat.reduceLT, Nat.reduceBEq, reduceCtorEq, Int.reduceEq]
    refine AW.ift (by rfl) ?_
    refine AW.rseq ?_
    try simp only [↓wk, ↓wl, nc, evV, wrapBits_eq, ↓reduceIte, Nat.reduceEqDiff, Nat.reduceAdd, Nat.reduceSub, Nat.reduceLeDiff, Nat.reduceLT, Nat.reduceBEq, reduceCtorEq, Int.reduceEq]
    refine AW.ret ?_
    refine blkQ.ret ?_
    cases H
    exact hQ _ _ _ _ (.inr rfl) (by simp only [resVs, omap, resV, ↓wk, ↓wl, nc, evV, wrapBits_eq, ↓reduceIte, Nat.reduceEqDiff, Nat.reduceAdd, Nat.reduceSub, Nat.reduceLeDiff, Nat.reduceLT, Nat.reduceBEq, reduceCtorEq, Int.reduceEq]; rfl) (hand_plain (by rfl)) (by first | exact Or.inl rfl | exact Or.inr rfl)
  · try simp only [↓wk, ↓wl, nc, evV, wrapBits_eq, ↓reduceIte, Nat.reduceEqDiff, Nat.reduceAdd, Nat.reduceSub, Nat.reduceLeDiff, Nat.reduceLT, Nat.reduceBEq, reduceCtorEq, Int.reduceEq]
    refine evTs_pure hFn H (fun _ h => f40_ok h) (by rfl) (by rfl) (by rfl) (by rfl) (fun _ => rfl) ?_ <;> clear H <;> intro r_1764 H
    try simp only [eL, ↓wk, ↓wl, nc, evV, wrapBits_eq, ↓reduceIte, Nat.reduceEqDiff, Nat.reduceAdd, Nat.reduceSub, Nat.reduceLeDiff, Nat.reduceLT, Nat.reduceBEq, reduceCtorEq, Int.reduceEq]
    refine evTs_ifg H (by rfl) ?_ ?_ <;> clear H <;> intro H
    · try simp only [↓wk, ↓wl, nc, evV, wrapBits_eq, ↓reduceIte, Nat.reduceEqDiff, Nat.reduceAdd, Nat.reduceSub, Nat.reduceLeDiff, Nat.reduceLT, Nat.reduceBEq, reduceCtorEq, Int.reduceEq]
      refine AW.ift (by rfl) ?_
      refine AW.rseq ?_
      try simp only [↓wk, ↓wl, nc, evV, wrapBits_eq, ↓reduceIte, Nat.reduceEqDiff, Nat.reduceAdd, Nat.reduceSub, Nat.reduceLeDiff, Nat.reduceLT, Nat.reduceBEq, reduceCtorEq, Int.reduceEq]
      refine AW.ret ?_
      refine blkQ.ret ?_
      cases H
      exact hQ _ _ _ _ (.inr rfl) (by simp only [resVs, omap, resV, ↓wk, ↓wl, nc, evV, wrapBits_eq, ↓reduceIte, Nat.reduceEqDiff, Nat.reduceAdd, Nat.reduceSub, Nat.reduceLeDiff, Nat.reduceLT, Nat.reduceBEq, reduceCtorEq, Int.reduceEq]; rfl) (hand_plain (by rfl)) (by first | exact Or.inl rfl | exact Or.inr rfl)
    · try simp only [↓wk, ↓wl, nc, evV, wrapBits_eq, ↓reduceIte, Nat.reduceEqDiff, Nat.reduceAdd, Nat.reduceSub, Nat.reduceLeDiff, Nat.reduceLT, Nat.reduceBEq, reduceCtorEq, Int.reduceEq]
      refine evTs_pure hFn H (fun _ h => f36_ok h) (by rfl) (by rfl) (by rfl) (by rfl) (fun _ => rfl) ?_ <;> clear H <;> intro r_1765 H
      try simp only [eL, ↓wk, ↓wl, nc, evV, wrapBits_eq, ↓reduceIte, Nat.reduceEqDiff, Nat.reduceAdd, Nat.reduceSub, Nat.reduceLeDiff, Nat.reduceLT, Nat.reduceBEq, reduceCtorEq, Int.reduceEq]
      refine AW.ifc H (by rfl) ?_ ?_ <;> clear H <;> intro H
      · refine AW.rseq ?_
        try simp only [↓wk, ↓wl, nc, evV, wrapBits_eq, ↓reduceIte, Nat.reduceEqDiff, Nat.reduceAdd, Nat.reduceSub, Nat.reduceLeDiff, Nat.reduceLT, Nat.reduceBEq, reduceCtorEq, Int.reduceEq]
        refine AW.ret ?_
        refine blkQ.ret ?_
        cases H
        exact hQ _ _ _ _ (.inr rfl) (by simp only [resVs, omap, resV, ↓wk, ↓wl, nc, evV, wrapBits_eq, ↓reduceIte, Nat.reduceEqDiff, Nat.reduceAdd, Nat.reduceSub, Nat.reduceLeDiff, Nat.reduceLT, Nat.reduceBEq, reduceCtorEq, Int.reduceEq]; rfl) (hand_plain (by rfl)) (by first | exact Or.inl rfl | exact Or.inr rfl)
      · refine AW.rseq ?_
        try simp only [↓wk, ↓wl, nc, evV, wrapBits_eq, ↓reduceIte, Nat.reduceEqDiff, Nat.reduceAdd, Nat.reduceSub, Nat.reduceLeDiff, Nat.reduceLT, Nat.reduceBEq, reduceCtorEq, Int.reduceEq]
        refine AW.ifc H (by rfl) ?_ ?_ <;> clear H <;> intro H
        · refine AW.rseq ?_
          try simp only [↓wk, ↓wl, nc, evV, wrapBits_eq, ↓reduceIte, Nat.reduceEqDiff, Nat.reduceAdd, Nat.reduceSub, Nat.reduceLeDiff, Nat.reduceLT, Nat.reduceBEq, reduceCtorEq, Int.reduceEq]
          refine AW.ret ?_
          refine blkQ.ret ?_
          cases H
          exact hQ _ _ _ _ (.inr rfl) (by simp only [resVs, omap, resV, ↓wk, ↓wl, nc, evV, wrapBits_eq, ↓reduceIte, Nat.reduceEqDiff, Nat.reduceAdd, Nat.reduceSub, Nat.reduceLeDiff, Nat.reduceLT, Nat.reduceBEq, reduceCtorEq, Int.reduceEq]; rfl) (hand_plain (by rfl)) (by first | exact Or.inl rfl | exact Or.inr rfl)
        · refine AW.rseq ?_
          try simp only [↓wk, ↓wl, nc, evV, wrapBits_eq, ↓reduceIte, Nat.reduceEqDiff, Nat.reduceAdd, Nat.reduceSub, Nat.reduceLeDiff, Nat.reduceLT, Nat.reduceBEq, reduceCtorEq, Int.reduceEq]
          refine evTs_ifg H (by rfl) ?_ ?_ <;> clear H <;> intro H
          · try simp only [↓wk, ↓wl, nc, evV, wrapBits_eq, ↓reduceIte, Nat.reduceEqDiff, Nat.reduceAdd, Nat.reduceSub, Nat.reduceLeDiff, Nat.reduceLT, Nat.reduceBEq, reduceCtorEq, Int.reduceEq]
            refine evTs_ifg H (by rfl) ?_ ?_ <;> clear H <;> intro H
            · try simp only [↓wk, ↓wl, nc, evV, wrapBits_eq, ↓reduceIte, Nat.reduceEqDiff, Nat.reduceAdd, Nat.reduceSub, Nat.reduceLeDiff, Nat.reduceLT, Nat.reduceBEq, reduceCtorEq, Int.reduceEq]
              refine AW.ift (by rfl) ?_
              refine AW.rseq ?_
              try simp only [↓wk, ↓wl, nc, evV, wrapBits_eq, ↓reduceIte, Nat.reduceEqDiff, Nat.reduceAdd, Nat.reduceSub, Nat.reduceLeDiff, Nat.reduceLT, Nat.reduceBEq, reduceCtorEq, Int.reduceEq]
              refine AW.ret ?_
              refine blkQ.ret ?_
              cases H
              exact hQ _ _ _ _ (.inr rfl) (by simp only [resVs, omap, resV, ↓wk, ↓wl, nc, evV, wrapBits_eq, ↓reduceIte, Nat.reduceEqDiff, Nat.reduceAdd, Nat.reduceSub, Nat.reduceLeDiff, Nat.reduceLT, Nat.reduceBEq, reduceCtorEq, Int.reduceEq]; rfl) (hand_plain (by rfl)) (by first | exact Or.inl rfl | exact Or.inr rfl)
            · try simp only [↓wk, ↓wl, nc, evV, wrapBits_eq, ↓reduceIte, Nat.reduceEqDiff, Nat.reduceAdd, Nat.reduceSub, Nat.reduceLeDiff, Nat.reduceLT, Nat.reduceBEq, reduceCtorEq, Int.reduceEq]
              refine evTs_ifg H (by rfl) ?_ ?_ <;> clear H <;> intro H
              · try simp only [↓wk, ↓wl, nc, evV, wrapBits_eq, ↓reduceIte, Nat.reduceEqDiff, Nat.reduceAdd, Nat.reduceSub, Nat.reduceLeDiff, Nat.reduceLT, Nat.reduceBEq, reduceCtorEq, Int.reduceEq]
                refine AW.ift (by rfl) ?_
                refine AW.rseq ?_
                try simp only [↓wk, ↓wl, nc, evV, wrapBits_eq, ↓reduceIte, Nat.reduceEqDiff, Nat.reduceAdd, Nat.reduceSub, Nat.reduceLeDiff, Nat.reduceLT, Nat.reduceBEq, reduceCtorEq, Int.reduceEq]
                refine AW.ret ?_
                refine blkQ.ret ?_
                cases H
                exact hQ _ _ _ _ (.inr rfl) (by simp only [resVs, omap, resV, ↓wk, ↓wl, nc, evV, wrapBits_eq, ↓reduceIte, Nat.reduceEqDiff, Nat.reduceAdd, Nat.reduceSub, Nat.reduceLeDiff, Nat.reduceLT, Nat.reduceBEq, reduceCtorEq, Int.reduceEq]; rfl) (hand_plain (by rfl)) (by first | exact Or.inl rfl | exact Or.inr rfl)
              · try simp only [↓wk, ↓wl, nc, evV, wrapBits_eq, ↓reduceIte, Nat.reduceEqDiff, Nat.reduceAdd, Nat.reduceSub, Nat.reduceLeDiff, Nat.reduceLT, Nat.reduceBEq, reduceCtorEq, Int.reduceEq]
                refine AW.ifc H (by rfl) ?_ ?_ <;> clear H <;> intro H
                · refine AW.rseq ?_
                  try simp only [↓wk, ↓wl, nc, evV, wrapBits_eq, ↓reduceIte, Nat.reduceEqDiff, Nat.reduceAdd, Nat.reduceSub, Nat.reduceLeDiff, Nat.reduceLT, Nat.reduceBEq, reduceCtorEq, Int.reduceEq]
                  refine AW.ret ?_
                  refine blkQ.ret ?_
                  cases H
                  exact hQ _ _ _ _ (.inr rfl) (by simp only [resVs, omap, resV, ↓wk, ↓wl, nc, evV, wrapBits_eq, ↓reduceIte, Nat.reduceEqDiff, Nat.reduceAdd, Nat.reduceSub, Nat.reduceLeDiff, Nat.reduceLT, Nat.reduceBEq, reduceCtorEq, Int.reduceEq]; rfl) (hand_plain (by rfl)) (by first | exact Or.inl rfl | exact Or.inr rfl)
                · refine AW.skip ?_
                  refine blkQ.norm ?_
                  refine AW.rseq ?_
                  try simp only [↓wk, ↓wl, nc, evV, wrapBits_eq, ↓reduceIte, Nat.reduceEqDiff, Nat.reduceAdd, Nat.reduceSub, Nat.reduceLeDiff, Nat.reduceLT, Nat.reduceBEq, reduceCtorEq, Int.reduceEq]
                  refine AW.ret ?_
                  cases H
                  exact hQ _ _ _ _ (.inr rfl) (by simp only [resVs, omap, resV, ↓wk, ↓wl, nc, evV, wrapBits_eq, ↓reduceIte, Nat.reduceEqDiff, Nat.reduceAdd, Nat.reduceSub, Nat.reduceLeDiff, Nat.reduceLT, Nat.reduceBEq, reduceCtorEq, Int.reduceEq]; rfl) (hand_plain (by rfl)) (by first | exact Or.inl rfl | exact Or.inr rfl)
          · try simp only [↓wk, ↓wl, nc, evV, wrapBits_eq, ↓reduceIte, Nat.reduceEqDiff, Nat.reduceAdd, Nat.reduceSub, Nat.reduceLeDiff, Nat.reduceLT, Nat.reduceBEq, reduceCtorEq, Int.reduceEq]
            refine AW.iff (by rfl) ?_
            refine AW.skip ?_
            refine blkQ.norm ?_
            refine AW.rseq ?_
            try simp only [↓wk, ↓wl, nc, evV, wrapBits_eq, ↓reduceIte, Nat.reduceEqDiff, Nat.reduceAdd, Nat.reduceSub, Nat.reduceLeDiff, Nat.reduceLT, Nat.reduceBEq, reduceCtorEq, Int.reduceEq]
            refine AW.ret ?_
            cases H
            exact hQ _ _ _ _ (.inr rfl) (by simp only [resVs, omap, resV, ↓wk, ↓wl, nc, evV, wrapBits_eq, ↓reduceIte, Nat.reduceEqDiff, Nat.reduceAdd, Nat.reduceSub, Nat.reduceLeDiff, Nat.reduceLT, Nat.reduceBEq, reduceCtorEq, Int.reduceEq]; rfl) (hand_plain (by rfl)) (by first | exact Or.inl rfl | exact Or.inr rfl)
noncomputable def f7_J4 (seen_1921 : (List Bool)) (x_1931 : NetworkPacket) (last_1920 : (List Int)) (v_1919 : Int) (l_1895 : (List NetworkPacket)) (v_1843 : Int) (beats_1745 : (List Law56Beat)) (t_1842 : Int) (x_1892 : Law56Beat) (x_1744 : Law56Start) (v_1844 : Int) (v_1845 : Int) (v_1846 : Int) (v_1847 : Int) (v_1848 : (List NetworkStream)) (next_1897 : Int) (next_1898 : Int) (next_1899 : Int) (next_1900 : Int) (next_1901 : (List NetworkStream)) : Jn (Unit) (Ctl (Int × (List Int) × (List Bool)) (((List Int) × (List Bool)) ⊕ (Unit))) where
  run := fun _ => (arr? 9 seen_1921 x_1931.fUniverse).bind fun x_1936 => (arr? 9 last_1920 x_1931.fUniverse).bind fun x_1937 => (some (.next ((IntKind.i64.wrap (v_1919 + 1)), (last_1920.set x_1931.fUniverse.toNat x_1931.fSeq), (seen_1921.set x_1931.fUniverse.toNat true))))
  cst := fun _ => ⟨put (put (put (put (put (put (put (put (put (put (put (put (put (fun _ => .junk) 74 (.int .i64 v_1919)) 73 (.int .i64 ((l_1895.length : Nat) : Int))) 72 (.sl 7 false (l_1895.map eNetworkPacket))) 37 (.int .i64 v_1843)) 36 (.int .i64 ((beats_1745.length : Nat) : Int))) 35 (.sl 3 false (beats_1745.map eLaw56Beat))) 16 (.ptr 5 0)) 12 (.ptr 4 0)) 9 (.ptr 3 0)) 8 (.ptr 2 0)) 7 (.int .i64 (IntKind.i64.wrap (t_1842 + (IntKind.i64.wrap (5 * (IntKind.i64.wrap x_1892.fAfter))))))) 5 (.ptr 1 0)) 2 (.ptr 0 0), [.cel [.int .u64 x_1744.fSource, .int .i64 x_1744.fPriority, .int .i64 x_1744.fSync], .cel [.int .u64 v_1844, .int .i64 v_1845, .int .i64 v_1846, .int .i64 v_1847, .sl 5 false (v_1848.map eNetworkStream)], .cel (last_1920.map (AV.int .i64)), .cel (seen_1921.map AV.bool), .cel [.int .u64 next_1897, .int .i64 next_1898, .int .i64 next_1899, .int .i64 next_1900, .sl 5 false (next_1901.map eNetworkStream)], .cel [.int .u64 x_1931.fSource, .int .i64 x_1931.fUniverse, .int .i64 x_1931.fPriority, .int .i64 x_1931.fSeq, .int .i64 x_1931.fSync, .bool x_1931.fEnd, .str x_1931.fSlots]]⟩
noncomputable def f7_L3 (l_1895 : (List NetworkPacket)) (x_1744 : Law56Start) (v_1843 : Int) (beats_1745 : (List Law56Beat)) (t_1842 : Int) (x_1892 : Law56Beat) (v_1844 : Int) (v_1845 : Int) (v_1846 : Int) (v_1847 : Int) (v_1848 : (List NetworkStream)) (next_1897 : Int) (next_1898 : Int) (next_1899 : Int) (next_1900 : Int) (next_1901 : (List NetworkStream)) : Lp (Int × (List Int) × (List Bool)) (((List Int) × (List Bool)) ⊕ (Unit)) where
  body := fun (v_1919, last_1920, seen_1921) => (if (decide (v_1919 < ((l_1895.length : Nat) : Int))) = true then (at? l_1895 v_1919).bind fun x_1931 => (f28 x_1931).bind fun r_1938 => (if (decide (r_1938 ≠ 0)) = true then (some (.brk (Sum.inr ()))) else (if (decide (x_1931.fSource ≠ x_1744.fSource)) = true then (some (.brk (Sum.inr ()))) else (if (decide (x_1931.fPriority ≠ x_1744.fPriority)) = true then (some (.brk (Sum.inr ()))) else (if (decide (x_1931.fSync ≠ x_1744.fSync)) = true then (some (.brk (Sum.inr ()))) else (if x_1931.fEnd = true then (some (.brk (Sum.inr ()))) else (arr? 9 seen_1921 x_1931.fUniverse).bind fun x_1939 => (if x_1939 = true then (arr? 9 last_1920 x_1931.fUniverse).bind fun x_1940 => (f12 x_1940 x_1931.fSeq).bind fun r_1941 => (if (!r_1941) = true then (some (.brk (Sum.inr ()))) else ((f7_J4 seen_1921 x_1931 last_1920 v_1919 l_1895 v_1843 beats_1745 t_1842 x_1892 x_1744 v_1844 v_1845 v_1846 v_1847 v_1848 next_1897 next_1898 next_1899 next_1900 next_1901).run ())) else ((f7_J4 seen_1921 x_1931 last_1920 v_1919 l_1895 v_1843 beats_1745 t_1842 x_1892 x_1744 v_1844 v_1845 v_1846 v_1847 v_1848 next_1897 next_1898 next_1899 next_1900 next_1901).run ()))))))) else (some (.brk (Sum.inl (last_1920, seen_1921)))))
  cst := fun (v_1919, last_1920, seen_1921) => ⟨put (put (put (put (put (put (put (put (put (put (put (put (fun _ => .junk) 74 (.int .i64 v_1919)) 73 (.int .i64 ((l_1895.length : Nat) : Int))) 72 (.sl 7 false (l_1895.map eNetworkPacket))) 37 (.int .i64 v_1843)) 36 (.int .i64 ((beats_1745.length : Nat) : Int))) 35 (.sl 3 false (beats_1745.map eLaw56Beat))) 12 (.ptr 4 0)) 9 (.ptr 3 0)) 8 (.ptr 2 0)) 7 (.int .i64 (IntKind.i64.wrap (t_1842 + (IntKind.i64.wrap (5 * (IntKind.i64.wrap x_1892.fAfter))))))) 5 (.ptr 1 0)) 2 (.ptr 0 0), [.cel [.int .u64 x_1744.fSource, .int .i64 x_1744.fPriority, .int .i64 x_1744.fSync], .cel [.int .u64 v_1844, .int .i64 v_1845, .int .i64 v_1846, .int .i64 v_1847, .sl 5 false (v_1848.map eNetworkStream)], .cel (last_1920.map (AV.int .i64)), .cel (seen_1921.map AV.bool), .cel [.int .u64 next_1897, .int .i64 next_1898, .int .i64 next_1899, .int .i64 next_1900, .sl 5 false (next_1901.map eNetworkStream)]]⟩
noncomputable def f7_J2 (x_1744 : Law56Start) (v_1843 : Int) (beats_1745 : (List Law56Beat)) (t_1842 : Int) (x_1892 : Law56Beat) (v_1844 : Int) (v_1845 : Int) (v_1846 : Int) (v_1847 : Int) (v_1848 : (List NetworkStream)) (v_1849 : (List Int)) (v_1850 : (List Bool)) : Jn ((List NetworkPacket) × Int × Int × Int × Int × Int × (List NetworkStream)) (Ctl (Int × Int × Int × Int × Int × Int × (List NetworkStream) × (List Int) × (List Bool)) ((Unit) ⊕ (Unit))) where
  run := fun (l_1895, e_1896, next_1897, next_1898, next_1899, next_1900, next_1901) => (if (decide (e_1896 ≠ 0)) = true then (some (.brk (Sum.inr ()))) else (if (decide (2 < ((l_1895.length : Nat) : Int))) = true then (some (.brk (Sum.inr ()))) else ((Lp.run (f7_L3 l_1895 x_1744 v_1843 beats_1745 t_1842 x_1892 v_1844 v_1845 v_1846 v_1847 v_1848 next_1897 next_1898 next_1899 next_1900 next_1901) (0, v_1849, v_1850)).bind fun r_ => match r_ with | (Sum.inl (last_1929, seen_1930)) => (some (.next ((IntKind.i64.wrap (t_1842 + (IntKind.i64.wrap (5 * (IntKind.i64.wrap x_1892.fAfter))))), (IntKind.i64.wrap (v_1843 + 1)), next_1897, next_1898, next_1899, next_1900, next_1901, last_1929, seen_1930))) | (Sum.inr _) => (some (.brk (Sum.inr ()))))))
  cst := fun (l_1895, e_1896, next_1897, next_1898, next_1899, next_1900, next_1901) => ⟨put (put (put (put (put (put (put (put (put (put (put (fun _ => .junk) 37 (.int .i64 v_1843)) 36 (.int .i64 ((beats_1745.length : Nat) : Int))) 35 (.sl 3 false (beats_1745.map eLaw56Beat))) 14 (.int .i64 e_1896)) 13 (.sl 7 false (l_1895.map eNetworkPacket))) 12 (.ptr 4 0)) 9 (.ptr 3 0)) 8 (.ptr 2 0)) 7 (.int .i64 (IntKind.i64.wrap (t_1842 + (IntKind.i64.wrap (5 * (IntKind.i64.wrap x_1892.fAfter))))))) 5 (.ptr 1 0)) 2 (.ptr 0 0), [.cel [.int .u64 x_1744.fSource, .int .i64 x_1744.fPriority, .int .i64 x_1744.fSync], .cel [.int .u64 v_1844, .int .i64 v_1845, .int .i64 v_1846, .int .i64 v_1847, .sl 5 false (v_1848.map eNetworkStream)], .cel (v_1849.map (AV.int .i64)), .cel (v_1850.map AV.bool), .cel [.int .u64 next_1897, .int .i64 next_1898, .int .i64 next_1899, .int .i64 next_1900, .sl 5 false (next_1901.map eNetworkStream)]]⟩
noncomputable def f7_L1 (beats_1745 : (List Law56Beat)) (x_1744 : Law56Start) : Lp (Int × Int × Int × Int × Int × Int × (List NetworkStream) × (List Int) × (List Bool)) ((Unit) ⊕ (Unit)) where
  body := fun (t_1842, v_1843, v_1844, v_1845, v_1846, v_1847, v_1848, v_1849, v_1850) => (if (decide (v_1843 < ((beats_1745.length : Nat) : Int))) = true then (at? beats_1745 v_1843).bind fun x_1892 => (f27 (IntKind.i64.wrap (1 + (IntKind.i64.wrap (x_1892.fUniverse.tmod 3)))) (IntKind.i64.wrap (x_1892.fValue.tmod 3))).bind fun r_1942 => (f23 (NetworkSender.mk v_1844 v_1845 v_1846 v_1847 v_1848) (IntKind.i64.wrap (t_1842 + (IntKind.i64.wrap (5 * (IntKind.i64.wrap x_1892.fAfter))))) ([r_1942])).bind fun r_1943 => ((f7_J2 x_1744 v_1843 beats_1745 t_1842 x_1892 v_1844 v_1845 v_1846 v_1847 v_1848 v_1849 v_1850).run (r_1943.2.1, r_1943.2.2, r_1943.1.fSource, r_1943.1.fPriority, r_1943.1.fSync, r_1943.1.fPulse, r_1943.1.fStreams)) else (some (.brk (Sum.inl ()))))
  cst := fun (t_1842, v_1843, v_1844, v_1845, v_1846, v_1847, v_1848, v_1849, v_1850) => ⟨put (put (put (put (put (put (put (put (fun _ => .junk) 37 (.int .i64 v_1843)) 36 (.int .i64 ((beats_1745.length : Nat) : Int))) 35 (.sl 3 false (beats_1745.map eLaw56Beat))) 9 (.ptr 3 0)) 8 (.ptr 2 0)) 7 (.int .i64 t_1842)) 5 (.ptr 1 0)) 2 (.ptr 0 0), [.cel [.int .u64 x_1744.fSource, .int .i64 x_1744.fPriority, .int .i64 x_1744.fSync], .cel [.int .u64 v_1844, .int .i64 v_1845, .int .i64 v_1846, .int .i64 v_1847, .sl 5 false (v_1848.map eNetworkStream)], .cel (v_1849.map (AV.int .i64)), .cel (v_1850.map AV.bool)]⟩
def c7_0 : C := .cond (.t 33) (.seq (.reg [iI 34 (.call (.c (.fn 14 [])) []), iI 4 (.mv (.t 34))]) .ret) (.skip)
def c7_1 : C := .cond (.t 71) (.seq (.reg [iI 4 (.mv (.c (.bool false)))]) .ret) (.skip)
def c7_2 : C := .cond (.t 121) (.seq (.reg [iI 4 (.mv (.c (.bool false)))]) .ret) (.skip)
def c7_3 : C := .regt (.fork [iI 122 (.faddr 1 (.t 16)), iI 123 (.load 0 (.t 122)), iI 124 (.faddr 1 (.t 16)), iI 126 (.faddr 3 (.t 16)), iI 128 (.aiaddr 0 9 (.t 9) (.t 123))] (.fork [iI 125 (.load 0 (.t 124))] (.run [iI 127 (.load 0 (.t 126)), iN (.store 0 (.t 128) (.c (.bool true))), iI 129 (.aiaddr 0 9 (.t 8) (.t 125)), iN (.store 0 (.t 129) (.t 127))]) (.run [iN (.store 0 (.t 128) (.c (.bool true))), iI 127 (.load 0 (.t 126)), iI 129 (.aiaddr 0 9 (.t 8) (.t 125)), iN (.store 0 (.t 129) (.t 127))])) (.fork [] (.fork [iI 127 (.load 0 (.t 126))] (.run [iI 125 (.load 0 (.t 124)), iN (.store 0 (.t 128) (.c (.bool true))), iI 129 (.aiaddr 0 9 (.t 8) (.t 125)), iN (.store 0 (.t 129) (.t 127))]) (.run [iN (.store 0 (.t 128) (.c (.bool true))), iI 125 (.load 0 (.t 124)), iI 129 (.aiaddr 0 9 (.t 8) (.t 125)), iN (.store 0 (.t 129) (.t 127))])) (.run [iN (.store 0 (.t 128) (.c (.bool true))), iI 125 (.load 0 (.t 124)), iI 127 (.load 0 (.t 126)), iI 129 (.aiaddr 0 9 (.t 8) (.t 125)), iN (.store 0 (.t 129) (.t 127))])))
def c7_4 : C := .seq (.seq (.reg [iI 78 (.load 7 (.t 16)), iI 79 (.call (.c (.fn 28 [])) [(.t 78)]), iI 80 (.bin .neq (.t 79) (.c (.int .i64 0))), iI 81 (.mv (.t 80)), iG (some 82) 81 false (.faddr 0 (.t 16)), iG (some 83) 81 false (.load 0 (.t 82)), iG (some 84) 81 false (.faddr 0 (.t 2)), iG (some 85) 81 false (.load 0 (.t 84)), iG (some 86) 81 false (.bin .neq (.t 83) (.t 85)), iI 87 (.pick (.t 81) (.c (.bool true)) (.t 86)), iI 88 (.mv (.t 87)), iG (some 89) 88 false (.faddr 2 (.t 16)), iG (some 90) 88 false (.load 0 (.t 89)), iG (some 91) 88 false (.faddr 1 (.t 2)), iG (some 92) 88 false (.load 0 (.t 91)), iG (some 93) 88 false (.bin .neq (.t 90) (.t 92)), iI 94 (.pick (.t 88) (.c (.bool true)) (.t 93)), iI 95 (.mv (.t 94)), iG (some 96) 95 false (.faddr 4 (.t 16)), iG (some 97) 95 false (.load 0 (.t 96)), iG (some 98) 95 false (.faddr 2 (.t 2)), iG (some 99) 95 false (.load 0 (.t 98)), iG (some 100) 95 false (.bin .neq (.t 97) (.t 99)), iI 101 (.pick (.t 95) (.c (.bool true)) (.t 100)), iI 102 (.mv (.t 101)), iG (some 103) 102 false (.faddr 5 (.t 16)), iG (some 104) 102 false (.load 0 (.t 103)), iI 105 (.pick (.t 102) (.c (.bool true)) (.t 104)), iI 106 (.mv (.t 105)), iG (some 107) 106 false (.faddr 1 (.t 16)), iG (some 108) 106 false (.load 0 (.t 107)), iG (some 109) 106 false (.aiaddr 0 9 (.t 9) (.t 108)), iG (some 110) 106 false (.load 0 (.t 109)), iG (some 111) 106 false (.mv (.t 110)), iG (some 112) 111 true (.faddr 1 (.t 16)), iG (some 113) 111 true (.load 0 (.t 112)), iG (some 114) 111 true (.aiaddr 0 9 (.t 8) (.t 113)), iG (some 115) 111 true (.load 0 (.t 114)), iG (some 116) 111 true (.faddr 3 (.t 16)), iG (some 117) 111 true (.load 0 (.t 116)), iG (some 118) 111 true (.call (.c (.fn 12 [])) [(.t 115), (.t 117)]), iG (some 119) 111 true (.un .not (.t 118)), iG (some 120) 106 false (.pick (.t 111) (.t 119) (.c (.bool false))), iI 121 (.pick (.t 106) (.c (.bool true)) (.t 120))]) c7_2) c7_3
def c7_5 : C := .reg [iI 130 (.bin .add (.t 74) (.c (.int .i64 1))), iI 74 (.mv (.t 130))]
def c7_6 : C := .seq (.block 3 (.seq (.reg [iI 76 (.iaddr 7 (.t 72) (.t 74)), iI 77 (.load 7 (.t 76)), iI 16 (.alloc [(1, (.int .u64 0)), (1, (.int .i64 0)), (1, (.int .i64 0)), (1, (.int .i64 0)), (1, (.int .i64 0)), (1, (.bool false)), (1, (.str []))]), iN (.store 7 (.t 16) (.t 77))]) c7_4)) c7_5
def c7_7 : C := .seq (.cond (.t 75) (.skip) (.exit 2)) c7_6
def c7_8 : C := .block 2 (.loop (.seq (.reg [iI 75 (.bin .lss (.t 74) (.t 73))]) c7_7))
def c7_9 : C := .reg [iI 131 (.load 5 (.t 12)), iN (.store 5 (.t 5) (.t 131))]
def c7_10 : C := .seq (.seq (.reg [iI 72 (.mv (.t 13)), iI 73 (.len 0 (.t 72)), iI 74 (.mv (.c (.int .i64 0)))]) c7_8) c7_9
def c7_11 : C := .seq (.seq (.reg [iI 65 (.mv (.t 14)), iI 66 (.bin .neq (.t 65) (.c (.int .i64 0))), iI 67 (.mv (.t 66)), iG (some 68) 67 false (.mv (.t 13)), iG (some 69) 67 false (.len 0 (.t 68)), iG (some 70) 67 false (.bin .gtr (.t 69) (.c (.int .i64 2))), iI 71 (.pick (.t 67) (.c (.bool true)) (.t 70))]) c7_1) c7_10
def c7_12 : C := .seq (.regt (.fork [iI 48 (.load 5 (.t 5)), iI 49 (.mv (.t 7)), iI 50 (.faddr 0 (.t 11)), iI 51 (.load 0 (.t 50)), iI 52 (.bin .rem (.t 51) (.c (.int .u8 3))), iI 53 (.cint .i64 (.t 52)), iI 54 (.bin .add (.c (.int .i64 1)) (.t 53)), iI 55 (.faddr 2 (.t 11)), iI 56 (.load 0 (.t 55)), iI 57 (.bin .rem (.t 56) (.c (.int .u8 3))), iI 58 (.cint .i64 (.t 57))] (.fork [iI 59 (.call (.c (.fn 27 [])) [(.t 54), (.t 58)]), iI 60 (.mkslp 2 1 (.agg [(.int .i64 0), (.str [])]) [(0, (.t 59))])] (.run [iI 61 (.call (.c (.fn 23 [])) [(.t 48), (.t 49), (.t 60)]), iI 47 (.mv (.t 61)), iI 62 (.ext (.t 47) 0), iI 63 (.ext (.t 47) 1), iI 64 (.ext (.t 47) 2), iI 12 (.alloc [(1, (.int .u64 0)), (1, (.int .i64 0)), (1, (.int .i64 0)), (1, (.int .i64 0)), (1, (.sl 5 true []))]), iN (.store 5 (.t 12) (.t 62)), iI 13 (.mv (.t 63)), iI 14 (.mv (.t 64))]) (.run [iI 12 (.alloc [(1, (.int .u64 0)), (1, (.int .i64 0)), (1, (.int .i64 0)), (1, (.int .i64 0)), (1, (.sl 5 true []))]), iI 61 (.call (.c (.fn 23 [])) [(.t 48), (.t 49), (.t 60)]), iI 47 (.mv (.t 61)), iI 62 (.ext (.t 47) 0), iI 63 (.ext (.t 47) 1), iI 64 (.ext (.t 47) 2), iN (.store 5 (.t 12) (.t 62)), iI 13 (.mv (.t 63)), iI 14 (.mv (.t 64))])) (.run [iI 12 (.alloc [(1, (.int .u64 0)), (1, (.int .i64 0)), (1, (.int .i64 0)), (1, (.int .i64 0)), (1, (.sl 5 true []))]), iI 59 (.call (.c (.fn 27 [])) [(.t 54), (.t 58)]), iI 60 (.mkslp 2 1 (.agg [(.int .i64 0), (.str [])]) [(0, (.t 59))]), iI 61 (.call (.c (.fn 23 [])) [(.t 48), (.t 49), (.t 60)]), iI 47 (.mv (.t 61)), iI 62 (.ext (.t 47) 0), iI 63 (.ext (.t 47) 1), iI 64 (.ext (.t 47) 2), iN (.store 5 (.t 12) (.t 62)), iI 13 (.mv (.t 63)), iI 14 (.mv (.t 64))]))) c7_11
def c7_13 : C := .seq (.reg [iI 41 (.mv (.t 7)), iI 42 (.faddr 1 (.t 11)), iI 43 (.load 0 (.t 42)), iI 44 (.cint .i64 (.t 43)), iI 45 (.bin .mul (.c (.int .i64 5)) (.t 44)), iI 46 (.bin .add (.t 41) (.t 45)), iI 7 (.mv (.t 46))]) c7_12
def c7_14 : C := .reg [iI 132 (.bin .add (.t 37) (.c (.int .i64 1))), iI 37 (.mv (.t 132))]
def c7_15 : C := .seq (.block 1 (.seq (.reg [iI 39 (.iaddr 3 (.t 35) (.t 37)), iI 40 (.load 3 (.t 39)), iI 11 (.alloc [(1, (.int .u8 0)), (1, (.int .u8 0)), (1, (.int .u8 0))]), iN (.store 3 (.t 11) (.t 40))]) c7_13)) c7_14
def c7_16 : C := .seq (.cond (.t 38) (.skip) (.exit 0)) c7_15
def c7_17 : C := .block 0 (.loop (.seq (.reg [iI 38 (.bin .lss (.t 37) (.t 36))]) c7_16))
def c7_18 : C := .seq (.reg [iI 133 (.call (.c (.fn 14 [])) []), iI 4 (.mv (.t 133))]) .ret
def c7_19 : C := .seq (.seq (.reg [iI 35 (.mv (.t 1)), iI 36 (.len 0 (.t 35)), iI 37 (.mv (.c (.int .i64 0)))]) c7_17) c7_18
def c7_20 : C := .seq (.reg [iI 9 (.alloc [(9, (.bool false))])]) c7_19
def c7_21 : C := .seq (.reg [iI 8 (.alloc [(9, (.int .i64 0))])]) c7_20
def c7_22 : C := .seq (.reg [iI 7 (.mv (.c (.int .i64 0)))]) c7_21
def c7_23 : C := .seq (.seq (.reg [iI 27 (.mv (.t 6)), iI 28 (.bin .neq (.t 27) (.c (.int .i64 0))), iI 29 (.mv (.t 28)), iG (some 30) 29 false (.mv (.t 1)), iG (some 31) 29 false (.len 0 (.t 30)), iG (some 32) 29 false (.bin .gtr (.t 31) (.c (.int .i64 40))), iI 33 (.pick (.t 29) (.c (.bool true)) (.t 32))]) c7_0) c7_22
def c7_24 : C := .seq (.reg [iI 18 (.faddr 0 (.t 2)), iI 19 (.load 0 (.t 18)), iI 20 (.faddr 1 (.t 2)), iI 21 (.load 0 (.t 20)), iI 22 (.faddr 2 (.t 2)), iI 23 (.load 0 (.t 22)), iI 24 (.call (.c (.fn 17 [])) [(.t 19), (.t 21), (.t 23)]), iI 17 (.mv (.t 24)), iI 25 (.ext (.t 17) 0), iI 26 (.ext (.t 17) 1), iI 5 (.alloc [(1, (.int .u64 0)), (1, (.int .i64 0)), (1, (.int .i64 0)), (1, (.int .i64 0)), (1, (.sl 5 true []))]), iN (.store 5 (.t 5) (.t 25)), iI 6 (.mv (.t 26))]) c7_23
def ir7 : C := .seq (.reg [iI 2 (.box (.t 0)), iI 4 (.mv (.c (.bool false)))]) c7_24
theorem fd7 : fd? Try.prog 7 = some (134, [.slot 4], ir7) := by kernel_rfl
noncomputable def f7 (x_1744 : Law56Start) (beats_1745 : (List Law56Beat)) : Option (Bool) :=
  (f17 x_1744.fSource x_1744.fPriority x_1744.fSync).bind fun r_1746 => (if (decide (r_1746.2 ≠ 0)) = true then (f14).bind fun r_1749 => (some r_1749) else (if (decide (40 < ((beats_1745.length : Nat) : Int))) = true then (f14).bind fun r_1750 => (some r_1750) else ((Lp.run (f7_L1 beats_1745 x_1744) (0, 0, r_1746.1.fSource, r_1746.1.fPriority, r_1746.1.fSync, r_1746.1.fPulse, r_1746.1.fStreams, (List.replicate 9 (0 : Int)), (List.replicate 9 (false : Bool)))).bind fun r_ => match r_ with | (Sum.inl _) => (f14).bind fun r_1890 => (some r_1890) | (Sum.inr _) => (some false))))
theorem f7_ok {x_1744 : Law56Start} {beats_1745 : (List Law56Beat)} {r_ : Bool} (H : f7 x_1744 beats_1745 = some r_) : Pure Try.prog 7 [.agg [.int .u64 x_1744.fSource, .int .i64 x_1744.fPriority, .int .i64 x_1744.fSync], .sl 3 false (beats_1745.map eLaw56Beat)] (· = .bool r_) := by
  refine Pure.walk3 fd7 none (Nat.le_of_ble_eq_true rfl) (by rfl) fun Q hQ => ?_
  simp only [f7] at H
  refine AW.rseq ?_
  try simp only [↓wk, ↓wl, nca, evV, wrapBits_eq, ↓reduceIte, Nat.reduceEqDiff, Nat.reduceAdd, Nat.reduceSub, Nat.reduceLeDiff, Nat.reduceLT, Nat.reduceBEq, reduceCtorEq, Int.reduceEq]
  refine evTs_any rfl (by simp only [nc, ↓wk, ↓wl, nca, evV, wrapBits_eq, ↓reduceIte, Nat.reduceEqDiff, Nat.reduceAdd, Nat.reduceSub, Nat.reduceLeDiff, Nat.reduceLT, Nat.reduceBEq, reduceCtorEq, Int.reduceEq, Nat.reduceLeDiff]; rfl) ?_
  try simp only [↓wk, ↓wl, nca, evV, wrapBits_eq, ↓reduceIte, Nat.reduceEqDiff, Nat.reduceAdd, Nat.reduceSub, Nat.reduceLeDiff, Nat.reduceLT, Nat.reduceBEq, reduceCtorEq, Int.reduceEq]
  refine AW.rseq ?_
  try simp only [↓wk, ↓wl, nca, evV, wrapBits_eq, ↓reduceIte, Nat.reduceEqDiff, Nat.reduceAdd, Nat.reduceSub, Nat.reduceLeDiff, Nat.reduceLT, Nat.reduceBEq, reduceCtorEq, Int.reduceEq]
  refine evTs_any rfl (by simp only [nc, ↓wk, ↓wl, nca, evV, wrapBits_eq, ↓reduceIte, Nat.reduceEqDiff, Nat.reduceAdd, Nat.reduceSub, Nat.reduceLeDiff, Nat.reduceLT, Nat.reduceBEq, reduceCtorEq, Int.reduceEq, Nat.reduceLeDiff]; rfl) ?_
  try simp only [↓wk, ↓wl, nca, evV, wrapBits_eq, ↓reduceIte, Nat.reduceEqDiff, Nat.reduceAdd, Nat.reduceSub, Nat.reduceLeDiff, Nat.reduceLT, Nat.reduceBEq, reduceCtorEq, Int.reduceEq]
  refine evTs_any rfl (by simp only [nc, ↓wk, ↓wl, nca, evV, wrapBits_eq, ↓reduceIte, Nat.reduceEqDiff, Nat.reduceAdd, Nat.reduceSub, Nat.reduceLeDiff, Nat.reduceLT, Nat.reduceBEq, reduceCtorEq, Int.reduceEq, Nat.reduceLeDiff]; rfl) ?_
  try simp only [↓wk, ↓wl, nca, evV, wrapBits_eq, ↓reduceIte, Nat.reduceEqDiff, Nat.reduceAdd, Nat.reduceSub, Nat.reduceLeDiff, Nat.reduceLT, Nat.reduceBEq, reduceCtorEq, Int.reduceEq]
  refine evTs_any rfl (by simp only [nc, ↓wk, ↓wl, nca, evV, wrapBits_eq, ↓reduceIte, Nat.reduceEqDiff, Nat.reduceAdd, Nat.reduceSub, Nat.reduceLeDiff, Nat.reduceLT, Nat.reduceBEq, reduceCtorEq, Int.reduceEq, Nat.reduceLeDiff]; rfl) ?_
  try simp only [↓wk, ↓wl, nca, evV, wrapBits_eq, ↓reduceIte, Nat.reduceEqDiff, Nat.reduceAdd, Nat.reduceSub, Nat.reduceLeDiff, Nat.reduceLT, Nat.reduceBEq, reduceCtorEq, Int.reduceEq]
  refine evTs_pure hFn H (fun _ h => f17_ok h) (by rfl) (by rfl) (by rfl) (by rfl) (fun _ => rfl) ?_ <;> clear H <;> intro r_1746 H
  try simp only [eL, eNetworkSender, ↓wk, ↓wl, nca, evV, wrapBits_eq, ↓reduceIte, Nat.reduceEqDiff, Nat.reduceAdd, Nat.reduceSub, Nat.reduceLeDiff, Nat.reduceLT, Nat.reduceBEq, reduceCtorEq, Int.reduceEq]
  refine evTs_any rfl (by simp only [nc, ↓wk, ↓wl, nca, evV, wrapBits_eq, ↓reduceIte, Nat.reduceEqDiff, Nat.reduceAdd, Nat.reduceSub, Nat.reduceLeDiff, Nat.reduceLT, Nat.reduceBEq, reduceCtorEq, Int.reduceEq, Nat.reduceLeDiff]; rfl) ?_
  try simp only [↓wk, ↓wl, nca, evV, wrapBits_eq, ↓reduceIte, Nat.reduceEqDiff, Nat.reduceAdd, Nat.reduceSub, Nat.reduceLeDiff, Nat.reduceLT, Nat.reduceBEq, reduceCtorEq, Int.reduceEq]
  refine evTs_st (by simp only [↓wk, ↓wl, nca, evV, wrapBits_eq, ↓reduceIte, Nat.reduceEqDiff, Nat.reduceAdd, Nat.reduceSub, Nat.reduceLeDiff, Nat.reduceLT, Nat.reduceBEq, reduceCtorEq, Int.reduceEq, Nat.reduceLeDiff]; rfl) ?_
  try simp only [↓wk, ↓wl, nca, evV, wrapBits_eq, ↓reduceIte, Nat.reduceEqDiff, Nat.reduceAdd, Nat.reduceSub, Nat.reduceLeDiff, Nat.reduceLT, Nat.reduceBEq, reduceCtorEq, Int.reduceEq]
  refine AW.sseq ?_
  refine AW.rseq ?_
  try simp only [↓wk, ↓wl, nca, evV, wrapBits_eq, ↓reduceIte, Nat.reduceEqDiff, Nat.reduceAdd, Nat.reduceSub, Nat.reduceLeDiff, Nat.reduceLT, Nat.reduceBEq, reduceCtorEq, Int.reduceEq]
  refine evTs_ifg H (by rfl) ?_ ?_ <;> clear H <;> intro H
  · try simp only [↓wk, ↓wl, nca, evV, wrapBits_eq, ↓reduceIte, Nat.reduceEqDiff, Nat.reduceAdd, Nat.reduceSub, Nat.reduceLeDiff, Nat.reduceLT, Nat.reduceBEq, reduceCtorEq, Int.reduceEq]
    refine AW.ift (by rfl) ?_
    refine AW.rseq ?_
    try simp only [↓wk, ↓wl, nca, evV, wrapBits_eq, ↓reduceIte, Nat.reduceEqDiff, Nat.reduceAdd, Nat.reduceSub, Nat.reduceLeDiff, Nat.reduceLT, Nat.reduceBEq, reduceCtorEq, Int.reduceEq]
    refine evTs_pure hFn H (fun _ h => f14_ok h) (by rfl) (by rfl) (by rfl) (by rfl) (fun _ => rfl) ?_ <;> clear H <;> intro r_1749 H
    try simp only [eL, ↓wk, ↓wl, nca, evV, wrapBits_eq, ↓reduceIte, Nat.reduceEqDiff, Nat.reduceAdd, Nat.reduceSub, Nat.reduceLeDiff, Nat.reduceLT, Nat.reduceBEq, reduceCtorEq, Int.reduceEq]
    refine AW.ret ?_
    refine seqQ.ret ?_
    cases H
    exact hQ _ _ _ _ (.inr rfl) (by simp only [resVs, omap, resV, ↓wk, ↓wl, nca, evV, wrapBits_eq, ↓reduceIte, Nat.reduceEqDiff, Nat.reduceAdd, Nat.reduceSub, Nat.reduceLeDiff, Nat.reduceLT, Nat.reduceBEq, reduceCtorEq, Int.reduceEq]; rfl) (hand_plain (by rfl)) (by first | exact Or.inl rfl | exact Or.inr rfl)
  · try simp only [↓wk, ↓wl, nca, evV, wrapBits_eq, ↓reduceIte, Nat.reduceEqDiff, Nat.reduceAdd, Nat.reduceSub, Nat.reduceLeDiff, Nat.reduceLT, Nat.reduceBEq, reduceCtorEq, Int.reduceEq]
    refine AW.ifc H (by rfl) ?_ ?_ <;> clear H <;> intro H
    · refine AW.rseq ?_
      try simp only [↓wk, ↓wl, nca, evV, wrapBits_eq, ↓reduceIte, Nat.reduceEqDiff, Nat.reduceAdd, Nat.reduceSub, Nat.reduceLeDiff, Nat.reduceLT, Nat.reduceBEq, reduceCtorEq, Int.reduceEq]
      refine evTs_pure hFn H (fun _ h => f14_ok h) (by rfl) (by rfl) (by rfl) (by rfl) (fun _ => rfl) ?_ <;> clear H <;> intro r_1750 H
      try simp only [eL, ↓wk, ↓wl, nca, evV, wrapBits_eq, ↓reduceIte, Nat.reduceEqDiff, Nat.reduceAdd, Nat.reduceSub, Nat.reduceLeDiff, Nat.reduceLT, Nat.reduceBEq, reduceCtorEq, Int.reduceEq]
      refine AW.ret ?_
      refine seqQ.ret ?_
      cases H
      exact hQ _ _ _ _ (.inr rfl) (by simp only [resVs, omap, resV, ↓wk, ↓wl, nca, evV, wrapBits_eq, ↓reduceIte, Nat.reduceEqDiff, Nat.reduceAdd, Nat.reduceSub, Nat.reduceLeDiff, Nat.reduceLT, Nat.reduceBEq, reduceCtorEq, Int.reduceEq]; rfl) (hand_plain (by rfl)) (by first | exact Or.inl rfl | exact Or.inr rfl)
    · refine AW.skip ?_
      refine seqQ.norm ?_
      refine AW.rseq ?_
      try simp only [↓wk, ↓wl, nca, evV, wrapBits_eq, ↓reduceIte, Nat.reduceEqDiff, Nat.reduceAdd, Nat.reduceSub, Nat.reduceLeDiff, Nat.reduceLT, Nat.reduceBEq, reduceCtorEq, Int.reduceEq]
      refine AW.rseq ?_
      try simp only [↓wk, ↓wl, nca, evV, wrapBits_eq, ↓reduceIte, Nat.reduceEqDiff, Nat.reduceAdd, Nat.reduceSub, Nat.reduceLeDiff, Nat.reduceLT, Nat.reduceBEq, reduceCtorEq, Int.reduceEq]
      refine evTs_arr (enc := (AV.int .i64)) 0 (by rfl) ?_
      try simp only [↓wk, ↓wl, nca, evV, wrapBits_eq, ↓reduceIte, Nat.reduceEqDiff, Nat.reduceAdd, Nat.reduceSub, Nat.reduceLeDiff, Nat.reduceLT, Nat.reduceBEq, reduceCtorEq, Int.reduceEq]
      refine AW.rseq ?_
      try simp only [↓wk, ↓wl, nca, evV, wrapBits_eq, ↓reduceIte, Nat.reduceEqDiff, Nat.reduceAdd, Nat.reduceSub, Nat.reduceLeDiff, Nat.reduceLT, Nat.reduceBEq, reduceCtorEq, Int.reduceEq]
      refine evTs_arr (enc := AV.bool) false (by rfl) ?_
      try simp only [↓wk, ↓wl, nca, evV, wrapBits_eq, ↓reduceIte, Nat.reduceEqDiff, Nat.reduceAdd, Nat.reduceSub, Nat.reduceLeDiff, Nat.reduceLT, Nat.reduceBEq, reduceCtorEq, Int.reduceEq]
      refine AW.sseq ?_
      refine AW.rseq ?_
      try simp only [↓wk, ↓wl, nca, evV, wrapBits_eq, ↓reduceIte, Nat.reduceEqDiff, Nat.reduceAdd, Nat.reduceSub, Nat.reduceLeDiff, Nat.reduceLT, Nat.reduceBEq, reduceCtorEq, Int.reduceEq]
      refine AW.bend ?_
      refine AW.iter H ((Le.none [0, 1, 2, 3] [2, 5, 7, 8, 9, 35, 36, 37] (by decide) (by simp only [f7_L1, List.length_set, Option.map_some, restrict_eq, renS_nil, renS_cons, renB_els, renB_cel, renB_dead, deep_eq, map_ren_enc, ren_agg', ren_tup', ren_fn', ren_int', ren_bool', ren_str', ren_sl', ren_pro', ren_nilp', ren_nilfn', ren_junk', ren_ptr', ren_row', ren_arow', ren_eptr', vm, List.idxOf?_cons, List.idxOf?_nil, beq_self_eq_true, Option.map_none, List.getD_cons_zero, List.getD_cons_succ, ↓wk, ↓wl, nc, evV, wrapBits_eq, ↓reduceIte, Nat.reduceEqDiff, Nat.reduceAdd, Nat.reduceSub, Nat.reduceLeDiff, Nat.reduceLT, Nat.reduceBEq, reduceCtorEq, Int.reduceEq] <;> rfl))) ?_ <;> clear H
      rintro ⟨t_1842, v_1843, v_1844, v_1845, v_1846, v_1847, v_1848, v_1849, v_1850⟩ x_ st0_ H hst_
      simp only [f7_L1] at H hst_
      subst hst_
      refine AW.rseq ?_
      try simp only [↓wk, ↓wl, nca, evV, wrapBits_eq, ↓reduceIte, Nat.reduceEqDiff, Nat.reduceAdd, Nat.reduceSub, Nat.reduceLeDiff, Nat.reduceLT, Nat.reduceBEq, reduceCtorEq, Int.reduceEq]
      refine AW.sseq ?_
      refine AW.ifc H (by rfl) ?_ ?_ <;> clear H <;> intro H
      · refine AW.skip ?_
        refine seqQ.norm ?_
        refine AW.bseq ?_
        refine AW.rseq ?_
        try simp only [↓wk, ↓wl, nca, evV, wrapBits_eq, ↓reduceIte, Nat.reduceEqDiff, Nat.reduceAdd, Nat.reduceSub, Nat.reduceLeDiff, Nat.reduceLT, Nat.reduceBEq, reduceCtorEq, Int.reduceEq]
        refine evTs_at (enc := eLaw56Beat) H (by rfl) (by rfl) ?_ <;> clear H <;> intro x_1892 H
        try simp only [eLaw56Beat, eL, ↓wk, ↓wl, nca, evV, wrapBits_eq, ↓reduceIte, Nat.reduceEqDiff, Nat.reduceAdd, Nat.reduceSub, Nat.reduceLeDiff, Nat.reduceLT, Nat.reduceBEq, reduceCtorEq, Int.reduceEq]
        refine evTs_any rfl (by simp only [nc, ↓wk, ↓wl, nca, evV, wrapBits_eq, ↓reduceIte, Nat.reduceEqDiff, Nat.reduceAdd, Nat.reduceSub, Nat.reduceLeDiff, Nat.reduceLT, Nat.reduceBEq, reduceCtorEq, Int.reduceEq, Nat.reduceLeDiff]; rfl) ?_
        try simp only [↓wk, ↓wl, nca, evV, wrapBits_eq, ↓reduceIte, Nat.reduceEqDiff, Nat.reduceAdd, Nat.reduceSub, Nat.reduceLeDiff, Nat.reduceLT, Nat.reduceBEq, reduceCtorEq, Int.reduceEq]
        refine evTs_any rfl (by simp only [nc, ↓wk, ↓wl, nca, evV, wrapBits_eq, ↓reduceIte, Nat.reduceEqDiff, Nat.reduceAdd, Nat.reduceSub, Nat.reduceLeDiff, Nat.reduceLT, Nat.reduceBEq, reduceCtorEq, Int.reduceEq, Nat.reduceLeDiff]; rfl) ?_
        try simp only [↓wk, ↓wl, nca, evV, wrapBits_eq, ↓reduceIte, Nat.reduceEqDiff, Nat.reduceAdd, Nat.reduceSub, Nat.reduceLeDiff, Nat.reduceLT, Nat.reduceBEq, reduceCtorEq, Int.reduceEq]
        refine evTs_st (by simp only [↓wk, ↓wl, nca, evV, wrapBits_eq, ↓reduceIte, Nat.reduceEqDiff, Nat.reduceAdd, Nat.reduceSub, Nat.reduceLeDiff, Nat.reduceLT, Nat.reduceBEq, reduceCtorEq, Int.reduceEq, Nat.reduceLeDiff]; rfl) ?_
        try simp only [↓wk, ↓wl, nca, evV, wrapBits_eq, ↓reduceIte, Nat.reduceEqDiff, Nat.reduceAdd, Nat.reduceSub, Nat.reduceLeDiff, Nat.reduceLT, Nat.reduceBEq, reduceCtorEq, Int.reduceEq]
        refine AW.rseq ?_
        try simp only [↓wk, ↓wl, nca, evV, wrapBits_eq, ↓reduceIte, Nat.reduceEqDiff, Nat.reduceAdd, Nat.reduceSub, Nat.reduceLeDiff, Nat.reduceLT, Nat.reduceBEq, reduceCtorEq, Int.reduceEq]
        refine evTs_any rfl (by simp only [nc, ↓wk, ↓wl, nca, evV, wrapBits_eq, ↓reduceIte, Nat.reduceEqDiff, Nat.reduceAdd, Nat.reduceSub, Nat.reduceLeDiff, Nat.reduceLT, Nat.reduceBEq, reduceCtorEq, Int.reduceEq, Nat.reduceLeDiff]; rfl) ?_
        try simp only [↓wk, ↓wl, nca, evV, wrapBits_eq, ↓reduceIte, Nat.reduceEqDiff, Nat.reduceAdd, Nat.reduceSub, Nat.reduceLeDiff, Nat.reduceLT, Nat.reduceBEq, reduceCtorEq, Int.reduceEq]
        refine AW.join (f7_J2 x_1744 v_1843 beats_1745 t_1842 x_1892 v_1844 v_1845 v_1846 v_1847 v_1848 v_1849 v_1850) H ?_ fun hf7_J2 => ?_
        · clear H
          rintro ⟨l_1895, e_1896, next_1897, next_1898, next_1899, next_1900, next_1901⟩ st0_ H hst_
          simp only [f7_J2] at H hst_
          subst hst_
          refine AW.sseq ?_
          refine AW.rseq ?_
          try simp only [↓wk, ↓wl, nca, evV, wrapBits_eq, ↓reduceIte, Nat.reduceEqDiff, Nat.reduceAdd, Nat.reduceSub, Nat.reduceLeDiff, Nat.reduceLT, Nat.reduceBEq, reduceCtorEq, Int.reduceEq]
          refine evTs_ifg H (by rfl) ?_ ?_ <;> clear H <;> intro H
          · try simp only [↓wk, ↓wl, nca, evV, wrapBits_eq, ↓reduceIte, Nat.reduceEqDiff, Nat.reduceAdd, Nat.reduceSub, Nat.reduceLeDiff, Nat.reduceLT, Nat.reduceBEq, reduceCtorEq, Int.reduceEq]
            refine AW.ift (by rfl) ?_
            refine AW.rseq ?_
            try simp only [↓wk, ↓wl, nca, evV, wrapBits_eq, ↓reduceIte, Nat.reduceEqDiff, Nat.reduceAdd, Nat.reduceSub, Nat.reduceLeDiff, Nat.reduceLT, Nat.reduceBEq, reduceCtorEq, Int.reduceEq]
            refine AW.ret ?_
            refine seqQ.ret ?_
            refine blkQ.ret ?_
            refine loopQ.ret H ?_ <;> clear H <;> intro H
            try dsimp only at H
            refine blk0.ret ?_
            refine seqQ.ret ?_
            cases H
            exact hQ _ _ _ _ (.inr rfl) (by simp only [resVs, omap, resV, ↓wk, ↓wl, nca, evV, wrapBits_eq, ↓reduceIte, Nat.reduceEqDiff, Nat.reduceAdd, Nat.reduceSub, Nat.reduceLeDiff, Nat.reduceLT, Nat.reduceBEq, reduceCtorEq, Int.reduceEq]; rfl) (hand_plain (by rfl)) (by first | exact Or.inl rfl | exact Or.inr rfl)
          · try simp only [↓wk, ↓wl, nca, evV, wrapBits_eq, ↓reduceIte, Nat.reduceEqDiff, Nat.reduceAdd, Nat.reduceSub, Nat.reduceLeDiff, Nat.reduceLT, Nat.reduceBEq, reduceCtorEq, Int.reduceEq]
            refine AW.ifc H (by rfl) ?_ ?_ <;> clear H <;> intro H
            · refine AW.rseq ?_
              try simp only [↓wk, ↓wl, nca, evV, wrapBits_eq, ↓reduceIte, Nat.reduceEqDiff, Nat.reduceAdd, Nat.reduceSub, Nat.reduceLeDiff, Nat.reduceLT, Nat.reduceBEq, reduceCtorEq, Int.reduceEq]
              refine AW.ret ?_
              refine seqQ.ret ?_
              refine blkQ.ret ?_
              refine loopQ.ret H ?_ <;> clear H <;> intro H
              try dsimp only at H
              refine blk0.ret ?_
              refine seqQ.ret ?_
              cases H
              exact hQ _ _ _ _ (.inr rfl) (by simp only [resVs, omap, resV, ↓wk, ↓wl, nca, evV, wrapBits_eq, ↓reduceIte, Nat.reduceEqDiff, Nat.reduceAdd, Nat.reduceSub, Nat.reduceLeDiff, Nat.reduceLT, Nat.reduceBEq, reduceCtorEq, Int.reduceEq]; rfl) (hand_plain (by rfl)) (by first | exact Or.inl rfl | exact Or.inr rfl)
            · refine AW.skip ?_
              refine seqQ.norm ?_
              refine AW.sseq ?_
              refine AW.rseq ?_
              try simp only [↓wk, ↓wl, nca, evV, wrapBits_eq, ↓reduceIte, Nat.reduceEqDiff, Nat.reduceAdd, Nat.reduceSub, Nat.reduceLeDiff, Nat.reduceLT, Nat.reduceBEq, reduceCtorEq, Int.reduceEq]
              refine AW.bend ?_
              refine AW.iter H ((Le.none [0, 1, 2, 3, 4] [2, 5, 7, 8, 9, 12, 35, 36, 37, 72, 73, 74] (by decide) (by simp only [f7_L3, List.length_set, Option.map_some, restrict_eq, renS_nil, renS_cons, renB_els, renB_cel, renB_dead, deep_eq, map_ren_enc, ren_agg', ren_tup', ren_fn', ren_int', ren_bool', ren_str', ren_sl', ren_pro', ren_nilp', ren_nilfn', ren_junk', ren_ptr', ren_row', ren_arow', ren_eptr', vm, List.idxOf?_cons, List.idxOf?_nil, beq_self_eq_true, Option.map_none, List.getD_cons_zero, List.getD_cons_succ, ↓wk, ↓wl, nc, evV, wrapBits_eq, ↓reduceIte, Nat.reduceEqDiff, Nat.reduceAdd, Nat.reduceSub, Nat.reduceLeDiff, Nat.reduceLT, Nat.reduceBEq, reduceCtorEq, Int.reduceEq] <;> rfl))) ?_ <;> clear H
              rintro ⟨v_1919, last_1920, seen_1921⟩ x_ st0_ H hst_
              simp only [f7_L3] at H hst_
              subst hst_
              refine AW.rseq ?_
              try simp only [↓wk, ↓wl, nca, evV, wrapBits_eq, ↓reduceIte, Nat.reduceEqDiff, Nat.reduceAdd, Nat.reduceSub, Nat.reduceLeDiff, Nat.reduceLT, Nat.reduceBEq, reduceCtorEq, Int.reduceEq]
              refine AW.sseq ?_
              refine AW.ifc H (by rfl) ?_ ?_ <;> clear H <;> intro H
              · refine AW.skip ?_
                refine seqQ.norm ?_
                refine AW.bseq ?_
                refine AW.rseq ?_
                try simp only [↓wk, ↓wl, nca, evV, wrapBits_eq, ↓reduceIte, Nat.reduceEqDiff, Nat.reduceAdd, Nat.reduceSub, Nat.reduceLeDiff, Nat.reduceLT, Nat.reduceBEq, reduceCtorEq, Int.reduceEq]
                refine evTs_at (enc := eNetworkPacket) H (by rfl) (by rfl) ?_ <;> clear H <;> intro x_1931 H
                try simp only [eNetworkPacket, eL, ↓wk, ↓wl, nca, evV, wrapBits_eq, ↓reduceIte, Nat.reduceEqDiff, Nat.reduceAdd, Nat.reduceSub, Nat.reduceLeDiff, Nat.reduceLT, Nat.reduceBEq, reduceCtorEq, Int.reduceEq]
                refine evTs_any rfl (by simp only [nc, ↓wk, ↓wl, nca, evV, wrapBits_eq, ↓reduceIte, Nat.reduceEqDiff, Nat.reduceAdd, Nat.reduceSub, Nat.reduceLeDiff, Nat.reduceLT, Nat.reduceBEq, reduceCtorEq, Int.reduceEq, Nat.reduceLeDiff]; rfl) ?_
                try simp only [↓wk, ↓wl, nca, evV, wrapBits_eq, ↓reduceIte, Nat.reduceEqDiff, Nat.reduceAdd, Nat.reduceSub, Nat.reduceLeDiff, Nat.reduceLT, Nat.reduceBEq, reduceCtorEq, Int.reduceEq]
                refine evTs_any rfl (by simp only [nc, ↓wk, ↓wl, nca, evV, wrapBits_eq, ↓reduceIte, Nat.reduceEqDiff, Nat.reduceAdd, Nat.reduceSub, Nat.reduceLeDiff, Nat.reduceLT, Nat.reduceBEq, reduceCtorEq, Int.reduceEq, Nat.reduceLeDiff]; rfl) ?_
                try simp only [↓wk, ↓wl, nca, evV, wrapBits_eq, ↓reduceIte, Nat.reduceEqDiff, Nat.reduceAdd, Nat.reduceSub, Nat.reduceLeDiff, Nat.reduceLT, Nat.reduceBEq, reduceCtorEq, Int.reduceEq]
                refine evTs_st (by simp only [↓wk, ↓wl, nca, evV, wrapBits_eq, ↓reduceIte, Nat.reduceEqDiff, Nat.reduceAdd, Nat.reduceSub, Nat.reduceLeDiff, Nat.reduceLT, Nat.reduceBEq, reduceCtorEq, Int.reduceEq, Nat.reduceLeDiff]; rfl) ?_
                try simp only [↓wk, ↓wl, nca, evV, wrapBits_eq, ↓reduceIte, Nat.reduceEqDiff, Nat.reduceAdd, Nat.reduceSub, Nat.reduceLeDiff, Nat.reduceLT, Nat.reduceBEq, reduceCtorEq, Int.reduceEq]
                refine AW.join (f7_J4 seen_1921 x_1931 last_1920 v_1919 l_1895 v_1843 beats_1745 t_1842 x_1892 x_1744 v_1844 v_1845 v_1846 v_1847 v_1848 next_1897 next_1898 next_1899 next_1900 next_1901) H ?_ fun hf7_J4 => ?_
                · clear H
                  rintro _ st0_ H hst_
                  simp only [f7_J4] at H hst_
                  subst hst_
                  refine AW.regt ?_
                  refine evR.fork ?_
                  try simp only [↓wk, ↓wl, nca, evV, wrapBits_eq, ↓reduceIte, Nat.reduceEqDiff, Nat.reduceAdd, Nat.reduceSub, Nat.reduceLeDiff, Nat.reduceLT, Nat.reduceBEq, reduceCtorEq, Int.reduceEq]
                  refine evTs_any rfl (by simp only [nc, ↓wk, ↓wl, nca, evV, wrapBits_eq, ↓reduceIte, Nat.reduceEqDiff, Nat.reduceAdd, Nat.reduceSub, Nat.reduceLeDiff, Nat.reduceLT, Nat.reduceBEq, reduceCtorEq, Int.reduceEq, Nat.reduceLeDiff]; rfl) ?_
                  try simp only [↓wk, ↓wl, nca, evV, wrapBits_eq, ↓reduceIte, Nat.reduceEqDiff, Nat.reduceAdd, Nat.reduceSub, Nat.reduceLeDiff, Nat.reduceLT, Nat.reduceBEq, reduceCtorEq, Int.reduceEq]
                  refine evTs_aat (enc := AV.bool) H (by rfl) (by rfl) ?_ <;> clear H <;> intro x_1936 hx_1936 H
                  try simp only [↓wk, ↓wl, nca, evV, wrapBits_eq, ↓reduceIte, Nat.reduceEqDiff, Nat.reduceAdd, Nat.reduceSub, Nat.reduceLeDiff, Nat.reduceLT, Nat.reduceBEq, reduceCtorEq, Int.reduceEq]
                  refine evR.both ?_ ?_
                  · refine evR.fork ?_
                    try simp only [↓wk, ↓wl, nca, evV, wrapBits_eq, ↓reduceIte, Nat.reduceEqDiff, Nat.reduceAdd, Nat.reduceSub, Nat.reduceLeDiff, Nat.reduceLT, Nat.reduceBEq, reduceCtorEq, Int.reduceEq]
                    refine evTs_any rfl (by simp only [nc, ↓wk, ↓wl, nca, evV, wrapBits_eq, ↓reduceIte, Nat.reduceEqDiff, Nat.reduceAdd, Nat.reduceSub, Nat.reduceLeDiff, Nat.reduceLT, Nat.reduceBEq, reduceCtorEq, Int.reduceEq, Nat.reduceLeDiff]; rfl) ?_
                    try simp only [↓wk, ↓wl, nca, evV, wrapBits_eq, ↓reduceIte, Nat.reduceEqDiff, Nat.reduceAdd, Nat.reduceSub, Nat.reduceLeDiff, Nat.reduceLT, Nat.reduceBEq, reduceCtorEq, Int.reduceEq]
                    refine evR.both ?_ ?_
                    · refine evR.run ?_
                      try simp only [↓wk, ↓wl, nca, evV, wrapBits_eq, ↓reduceIte, Nat.reduceEqDiff, Nat.reduceAdd, Nat.reduceSub, Nat.reduceLeDiff, Nat.reduceLT, Nat.reduceBEq, reduceCtorEq, Int.reduceEq]
                      refine evTs_any rfl (by simp only [nc, ↓wk, ↓wl, nca, evV, wrapBits_eq, ↓reduceIte, Nat.reduceEqDiff, Nat.reduceAdd, Nat.reduceSub, Nat.reduceLeDiff, Nat.reduceLT, Nat.reduceBEq, reduceCtorEq, Int.reduceEq, Nat.reduceLeDiff]; rfl) ?_
                      try simp only [↓wk, ↓wl, nca, evV, wrapBits_eq, ↓reduceIte, Nat.reduceEqDiff, Nat.reduceAdd, Nat.reduceSub, Nat.reduceLeDiff, Nat.reduceLT, Nat.reduceBEq, reduceCtorEq, Int.reduceEq]
                      refine evTs_ast (enc := AV.bool) true (by rfl) (by rfl) hx_1936 (by rfl) ?_
                      try simp only [↓wk, ↓wl, nca, evV, wrapBits_eq, ↓reduceIte, Nat.reduceEqDiff, Nat.reduceAdd, Nat.reduceSub, Nat.reduceLeDiff, Nat.reduceLT, Nat.reduceBEq, reduceCtorEq, Int.reduceEq]
                      refine evTs_aat (enc := (AV.int .i64)) H (by rfl) (by rfl) ?_ <;> clear H <;> intro x_1937 hx_1937 H
                      try simp only [↓wk, ↓wl, nca, evV, wrapBits_eq, ↓reduceIte, Nat.reduceEqDiff, Nat.reduceAdd, Nat.reduceSub, Nat.reduceLeDiff, Nat.reduceLT, Nat.reduceBEq, reduceCtorEq, Int.reduceEq]
                      refine evTs_ast (enc := (AV.int .i64)) x_1931.fSeq (by rfl) (by rfl) hx_1937 (by rfl) ?_
                      try simp only [↓wk, ↓wl, nca, evV, wrapBits_eq, ↓reduceIte, Nat.reduceEqDiff, Nat.reduceAdd, Nat.reduceSub, Nat.reduceLeDiff, Nat.reduceLT, Nat.reduceBEq, reduceCtorEq, Int.reduceEq]
                      refine blkQ.norm ?_
                      refine AW.rend ?_
                      try simp only [↓wk, ↓wl, nca, evV, wrapBits_eq, ↓reduceIte, Nat.reduceEqDiff, Nat.reduceAdd, Nat.reduceSub, Nat.reduceLeDiff, Nat.reduceLT, Nat.reduceBEq, reduceCtorEq, Int.reduceEq]
                      exact loopQ.next H ((Le.none [0, 1, 2, 3, 4] [2, 5, 7, 8, 9, 12, 35, 36, 37, 72, 73, 74] (by decide) (by simp only [f7_L3, List.length_set, Option.map_some, restrict_eq, renS_nil, renS_cons, renB_els, renB_cel, renB_dead, deep_eq, map_ren_enc, ren_agg', ren_tup', ren_fn', ren_int', ren_bool', ren_str', ren_sl', ren_pro', ren_nilp', ren_nilfn', ren_junk', ren_ptr', ren_row', ren_arow', ren_eptr', vm, List.idxOf?_cons, List.idxOf?_nil, beq_self_eq_true, Option.map_none, List.getD_cons_zero, List.getD_cons_succ, ↓wk, ↓wl, nc, evV, wrapBits_eq, ↓reduceIte, Nat.reduceEqDiff, Nat.reduceAdd, Nat.reduceSub, Nat.reduceLeDiff, Nat.reduceLT, Nat.reduceBEq, reduceCtorEq, Int.reduceEq] <;> rfl)))
                    · refine evR.run ?_
                      try simp only [↓wk, ↓wl, nca, evV, wrapBits_eq, ↓reduceIte, Nat.reduceEqDiff, Nat.reduceAdd, Nat.reduceSub, Nat.reduceLeDiff, Nat.reduceLT, Nat.reduceBEq, reduceCtorEq, Int.reduceEq]
                      refine evTs_ast (enc := AV.bool) true (by rfl) (by rfl) hx_1936 (by rfl) ?_
                      try simp only [↓wk, ↓wl, nca, evV, wrapBits_eq, ↓reduceIte, Nat.reduceEqDiff, Nat.reduceAdd, Nat.reduceSub, Nat.reduceLeDiff, Nat.reduceLT, Nat.reduceBEq, reduceCtorEq, Int.reduceEq]
                      refine evTs_any rfl (by simp only [nc, ↓wk, ↓wl, nca, evV, wrapBits_eq, ↓reduceIte, Nat.reduceEqDiff, Nat.reduceAdd, Nat.reduceSub, Nat.reduceLeDiff, Nat.reduceLT, Nat.reduceBEq, reduceCtorEq, Int.reduceEq, Nat.reduceLeDiff]; rfl) ?_
                      try simp only [↓wk, ↓wl, nca, evV, wrapBits_eq, ↓reduceIte, Nat.reduceEqDiff, Nat.reduceAdd, Nat.reduceSub, Nat.reduceLeDiff, Nat.reduceLT, Nat.reduceBEq, reduceCtorEq, Int.reduceEq]
                      refine evTs_aat (enc := (AV.int .i64)) H (by rfl) (by rfl) ?_ <;> clear H <;> intro x_1937 hx_1937 H
                      try simp only [↓wk, ↓wl, nca, evV, wrapBits_eq, ↓reduceIte, Nat.reduceEqDiff, Nat.reduceAdd, Nat.reduceSub, Nat.reduceLeDiff, Nat.reduceLT, Nat.reduceBEq, reduceCtorEq, Int.reduceEq]
                      refine evTs_ast (enc := (AV.int .i64)) x_1931.fSeq (by rfl) (by rfl) hx_1937 (by rfl) ?_
                      try simp only [↓wk, ↓wl, nca, evV, wrapBits_eq, ↓reduceIte, Nat.reduceEqDiff, Nat.reduceAdd, Nat.reduceSub, Nat.reduceLeDiff, Nat.reduceLT, Nat.reduceBEq, reduceCtorEq, Int.reduceEq]
                      refine blkQ.norm ?_
                      refine AW.rend ?_
                      try simp only [↓wk, ↓wl, nca, evV, wrapBits_eq, ↓reduceIte, Nat.reduceEqDiff, Nat.reduceAdd, Nat.reduceSub, Nat.reduceLeDiff, Nat.reduceLT, Nat.reduceBEq, reduceCtorEq, Int.reduceEq]
                      exact loopQ.next H ((Le.none [0, 1, 2, 3, 4] [2, 5, 7, 8, 9, 12, 35, 36, 37, 72, 73, 74] (by decide) (by simp only [f7_L3, List.length_set, Option.map_some, restrict_eq, renS_nil, renS_cons, renB_els, renB_cel, renB_dead, deep_eq, map_ren_enc, ren_agg', ren_tup', ren_fn', ren_int', ren_bool', ren_str', ren_sl', ren_pro', ren_nilp', ren_nilfn', ren_junk', ren_ptr', ren_row', ren_arow', ren_eptr', vm, List.idxOf?_cons, List.idxOf?_nil, beq_self_eq_true, Option.map_none, List.getD_cons_zero, List.getD_cons_succ, ↓wk, ↓wl, nc, evV, wrapBits_eq, ↓reduceIte, Nat.reduceEqDiff, Nat.reduceAdd, Nat.reduceSub, Nat.reduceLeDiff, Nat.reduceLT, Nat.reduceBEq, reduceCtorEq, Int.reduceEq] <;> rfl)))
                  · refine evR.fork ?_
                    try simp only [↓wk, ↓wl, nca, evV, wrapBits_eq, ↓reduceIte, Nat.reduceEqDiff, Nat.reduceAdd, Nat.reduceSub, Nat.reduceLeDiff, Nat.reduceLT, Nat.reduceBEq, reduceCtorEq, Int.reduceEq]
                    refine evR.both ?_ ?_
                    · refine evR.fork ?_
                      try simp only [↓wk, ↓wl, nca, evV, wrapBits_eq, ↓reduceIte, Nat.reduceEqDiff, Nat.reduceAdd, Nat.reduceSub, Nat.reduceLeDiff, Nat.reduceLT, Nat.reduceBEq, reduceCtorEq, Int.reduceEq]
                      refine evTs_any rfl (by simp only [nc, ↓wk, ↓wl, nca, evV, wrapBits_eq, ↓reduceIte, Nat.reduceEqDiff, Nat.reduceAdd, Nat.reduceSub, Nat.reduceLeDiff, Nat.reduceLT, Nat.reduceBEq, reduceCtorEq, Int.reduceEq, Nat.reduceLeDiff]; rfl) ?_
                      try simp only [↓wk, ↓wl, nca, evV, wrapBits_eq, ↓reduceIte, Nat.reduceEqDiff, Nat.reduceAdd, Nat.reduceSub, Nat.reduceLeDiff, Nat.reduceLT, Nat.reduceBEq, reduceCtorEq, Int.reduceEq]
                      refine evR.both ?_ ?_
                      · refine evR.run ?_
                        try simp only [↓wk, ↓wl, nca, evV, wrapBits_eq, ↓reduceIte, Nat.reduceEqDiff, Nat.reduceAdd, Nat.reduceSub, Nat.reduceLeDiff, Nat.reduceLT, Nat.reduceBEq, reduceCtorEq, Int.reduceEq]
                        refine evTs_any rfl (by simp only [nc, ↓wk, ↓wl, nca, evV, wrapBits_eq, ↓reduceIte, Nat.reduceEqDiff, Nat.reduceAdd, Nat.reduceSub, Nat.reduceLeDiff, Nat.reduceLT, Nat.reduceBEq, reduceCtorEq, Int.reduceEq, Nat.reduceLeDiff]; rfl) ?_
                        try simp only [↓wk, ↓wl, nca, evV, wrapBits_eq, ↓reduceIte, Nat.reduceEqDiff, Nat.reduceAdd, Nat.reduceSub, Nat.reduceLeDiff, Nat.reduceLT, Nat.reduceBEq, reduceCtorEq, Int.reduceEq]
                        refine evTs_ast (enc := AV.bool) true (by rfl) (by rfl) hx_1936 (by rfl) ?_
                        try simp only [↓wk, ↓wl, nca, evV, wrapBits_eq, ↓reduceIte, Nat.reduceEqDiff, Nat.reduceAdd, Nat.reduceSub, Nat.reduceLeDiff, Nat.reduceLT, Nat.reduceBEq, reduceCtorEq, Int.reduceEq]
                        refine evTs_aat (enc := (AV.int .i64)) H (by rfl) (by rfl) ?_ <;> clear H <;> intro x_1937 hx_1937 H
                        try simp only [↓wk, ↓wl, nca, evV, wrapBits_eq, ↓reduceIte, Nat.reduceEqDiff, Nat.reduceAdd, Nat.reduceSub, Nat.reduceLeDiff, Nat.reduceLT, Nat.reduceBEq, reduceCtorEq, Int.reduceEq]
                        refine evTs_ast (enc := (AV.int .i64)) x_1931.fSeq (by rfl) (by rfl) hx_1937 (by rfl) ?_
                        try simp only [↓wk, ↓wl, nca, evV, wrapBits_eq, ↓reduceIte, Nat.reduceEqDiff, Nat.reduceAdd, Nat.reduceSub, Nat.reduceLeDiff, Nat.reduceLT, Nat.reduceBEq, reduceCtorEq, Int.reduceEq]
                        refine blkQ.norm ?_
                        refine AW.rend ?_
                        try simp only [↓wk, ↓wl, nca, evV, wrapBits_eq, ↓reduceIte, Nat.reduceEqDiff, Nat.reduceAdd, Nat.reduceSub, Nat.reduceLeDiff, Nat.reduceLT, Nat.reduceBEq, reduceCtorEq, Int.reduceEq]
                        exact loopQ.next H ((Le.none [0, 1, 2, 3, 4] [2, 5, 7, 8, 9, 12, 35, 36, 37, 72, 73, 74] (by decide) (by simp only [f7_L3, List.length_set, Option.map_some, restrict_eq, renS_nil, renS_cons, renB_els, renB_cel, renB_dead, deep_eq, map_ren_enc, ren_agg', ren_tup', ren_fn', ren_int', ren_bool', ren_str', ren_sl', ren_pro', ren_nilp', ren_nilfn', ren_junk', ren_ptr', ren_row', ren_arow', ren_eptr', vm, List.idxOf?_cons, List.idxOf?_nil, beq_self_eq_true, Option.map_none, List.getD_cons_zero, List.getD_cons_succ, ↓wk, ↓wl, nc, evV, wrapBits_eq, ↓reduceIte, Nat.reduceEqDiff, Nat.reduceAdd, Nat.reduceSub, Nat.reduceLeDiff, Nat.reduceLT, Nat.reduceBEq, reduceCtorEq, Int.reduceEq] <;> rfl)))
                      · refine evR.run ?_
                        try simp only [↓wk, ↓wl, nca, evV, wrapBits_eq, ↓reduceIte, Nat.reduceEqDiff, Nat.reduceAdd, Nat.reduceSub, Nat.reduceLeDiff, Nat.reduceLT, Nat.reduceBEq, reduceCtorEq, Int.reduceEq]
                        refine evTs_ast (enc := AV.bool) true (by rfl) (by rfl) hx_1936 (by rfl) ?_
                        try simp only [↓wk, ↓wl, nca, evV, wrapBits_eq, ↓reduceIte, Nat.reduceEqDiff, Nat.reduceAdd, Nat.reduceSub, Nat.reduceLeDiff, Nat.reduceLT, Nat.reduceBEq, reduceCtorEq, Int.reduceEq]
                        refine evTs_any rfl (by simp only [nc, ↓wk, ↓wl, nca, evV, wrapBits_eq, ↓reduceIte, Nat.reduceEqDiff, Nat.reduceAdd, Nat.reduceSub, Nat.reduceLeDiff, Nat.reduceLT, Nat.reduceBEq, reduceCtorEq, Int.reduceEq, Nat.reduceLeDiff]; rfl) ?_
                        try simp only [↓wk, ↓wl, nca, evV, wrapBits_eq, ↓reduceIte, Nat.reduceEqDiff, Nat.reduceAdd, Nat.reduceSub, Nat.reduceLeDiff, Nat.reduceLT, Nat.reduceBEq, reduceCtorEq, Int.reduceEq]
                        refine evTs_aat (enc := (AV.int .i64)) H (by rfl) (by rfl) ?_ <;> clear H <;> intro x_1937 hx_1937 H
                        try simp only [↓wk, ↓wl, nca, evV, wrapBits_eq, ↓reduceIte, Nat.reduceEqDiff, Nat.reduceAdd, Nat.reduceSub, Nat.reduceLeDiff, Nat.reduceLT, Nat.reduceBEq, reduceCtorEq, Int.reduceEq]
                        refine evTs_ast (enc := (AV.int .i64)) x_1931.fSeq (by rfl) (by rfl) hx_1937 (by rfl) ?_
                        try simp only [↓wk, ↓wl, nca, evV, wrapBits_eq, ↓reduceIte, Nat.reduceEqDiff, Nat.reduceAdd, Nat.reduceSub, Nat.reduceLeDiff, Nat.reduceLT, Nat.reduceBEq, reduceCtorEq, Int.reduceEq]
                        refine blkQ.norm ?_
                        refine AW.rend ?_
                        try simp only [↓wk, ↓wl, nca, evV, wrapBits_eq, ↓reduceIte, Nat.reduceEqDiff, Nat.reduceAdd, Nat.reduceSub, Nat.reduceLeDiff, Nat.reduceLT, Nat.reduceBEq, reduceCtorEq, Int.reduceEq]
                        exact loopQ.next H ((Le.none [0, 1, 2, 3, 4] [2, 5, 7, 8, 9, 12, 35, 36, 37, 72, 73, 74] (by decide) (by simp only [f7_L3, List.length_set, Option.map_some, restrict_eq, renS_nil, renS_cons, renB_els, renB_cel, renB_dead, deep_eq, map_ren_enc, ren_agg', ren_tup', ren_fn', ren_int', ren_bool', ren_str', ren_sl', ren_pro', ren_nilp', ren_nilfn', ren_junk', ren_ptr', ren_row', ren_arow', ren_eptr', vm, List.idxOf?_cons, List.idxOf?_nil, beq_self_eq_true, Option.map_none, List.getD_cons_zero, List.getD_cons_succ, ↓wk, ↓wl, nc, evV, wrapBits_eq, ↓reduceIte, Nat.reduceEqDiff, Nat.reduceAdd, Nat.reduceSub, Nat.reduceLeDiff, Nat.reduceLT, Nat.reduceBEq, reduceCtorEq, Int.reduceEq] <;> rfl)))
                    · refine evR.run ?_
                      try simp only [↓wk, ↓wl, nca, evV, wrapBits_eq, ↓reduceIte, Nat.reduceEqDiff, Nat.reduceAdd, Nat.reduceSub, Nat.reduceLeDiff, Nat.reduceLT, Nat.reduceBEq, reduceCtorEq, Int.reduceEq]
                      refine evTs_ast (enc := AV.bool) true (by rfl) (by rfl) hx_1936 (by rfl) ?_
                      try simp only [↓wk, ↓wl, nca, evV, wrapBits_eq, ↓reduceIte, Nat.reduceEqDiff, Nat.reduceAdd, Nat.reduceSub, Nat.reduceLeDiff, Nat.reduceLT, Nat.reduceBEq, reduceCtorEq, Int.reduceEq]
                      refine evTs_any rfl (by simp only [nc, ↓wk, ↓wl, nca, evV, wrapBits_eq, ↓reduceIte, Nat.reduceEqDiff, Nat.reduceAdd, Nat.reduceSub, Nat.reduceLeDiff, Nat.reduceLT, Nat.reduceBEq, reduceCtorEq, Int.reduceEq, Nat.reduceLeDiff]; rfl) ?_
                      try simp only [↓wk, ↓wl, nca, evV, wrapBits_eq, ↓reduceIte, Nat.reduceEqDiff, Nat.reduceAdd, Nat.reduceSub, Nat.reduceLeDiff, Nat.reduceLT, Nat.reduceBEq, reduceCtorEq, Int.reduceEq]
                      refine evTs_any rfl (by simp only [nc, ↓wk, ↓wl, nca, evV, wrapBits_eq, ↓reduceIte, Nat.reduceEqDiff, Nat.reduceAdd, Nat.reduceSub, Nat.reduceLeDiff, Nat.reduceLT, Nat.reduceBEq, reduceCtorEq, Int.reduceEq, Nat.reduceLeDiff]; rfl) ?_
                      try simp only [↓wk, ↓wl, nca, evV, wrapBits_eq, ↓reduceIte, Nat.reduceEqDiff, Nat.reduceAdd, Nat.reduceSub, Nat.reduceLeDiff, Nat.reduceLT, Nat.reduceBEq, reduceCtorEq, Int.reduceEq]
                      refine evTs_aat (enc := (AV.int .i64)) H (by rfl) (by rfl) ?_ <;> clear H <;> intro x_1937 hx_1937 H
                      try simp only [↓wk, ↓wl, nca, evV, wrapBits_eq, ↓reduceIte, Nat.reduceEqDiff, Nat.reduceAdd, Nat.reduceSub, Nat.reduceLeDiff, Nat.reduceLT, Nat.reduceBEq, reduceCtorEq, Int.reduceEq]
                      refine evTs_ast (enc := (AV.int .i64)) x_1931.fSeq (by rfl) (by rfl) hx_1937 (by rfl) ?_
                      try simp only [↓wk, ↓wl, nca, evV, wrapBits_eq, ↓reduceIte, Nat.reduceEqDiff, Nat.reduceAdd, Nat.reduceSub, Nat.reduceLeDiff, Nat.reduceLT, Nat.reduceBEq, reduceCtorEq, Int.reduceEq]
                      refine blkQ.norm ?_
                      refine AW.rend ?_
                      try simp only [↓wk, ↓wl, nca, evV, wrapBits_eq, ↓reduceIte, Nat.reduceEqDiff, Nat.reduceAdd, Nat.reduceSub, Nat.reduceLeDiff, Nat.reduceLT, Nat.reduceBEq, reduceCtorEq, Int.reduceEq]
                      exact loopQ.next H ((Le.none [0, 1, 2, 3, 4] [2, 5, 7, 8, 9, 12, 35, 36, 37, 72, 73, 74] (by decide) (by simp only [f7_L3, List.length_set, Option.map_some, restrict_eq, renS_nil, renS_cons, renB_els, renB_cel, renB_dead, deep_eq, map_ren_enc, ren_agg', ren_tup', ren_fn', ren_int', ren_bool', ren_str', ren_sl', ren_pro', ren_nilp', ren_nilfn', ren_junk', ren_ptr', ren_row', ren_arow', ren_eptr', vm, List.idxOf?_cons, List.idxOf?_nil, beq_self_eq_true, Option.map_none, List.getD_cons_zero, List.getD_cons_succ, ↓wk, ↓wl, nc, evV, wrapBits_eq, ↓reduceIte, Nat.reduceEqDiff, Nat.reduceAdd, Nat.reduceSub, Nat.reduceLeDiff, Nat.reduceLT, Nat.reduceBEq, reduceCtorEq, Int.reduceEq] <;> rfl)))
                · refine AW.rseq ?_
                  try simp only [↓wk, ↓wl, nca, evV, wrapBits_eq, ↓reduceIte, Nat.reduceEqDiff, Nat.reduceAdd, Nat.reduceSub, Nat.reduceLeDiff, Nat.reduceLT, Nat.reduceBEq, reduceCtorEq, Int.reduceEq]
                  refine evTs_any rfl (by simp only [nc, ↓wk, ↓wl, nca, evV, wrapBits_eq, ↓reduceIte, Nat.reduceEqDiff, Nat.reduceAdd, Nat.reduceSub, Nat.reduceLeDiff, Nat.reduceLT, Nat.reduceBEq, reduceCtorEq, Int.reduceEq, Nat.reduceLeDiff]; rfl) ?_
                  try simp only [↓wk, ↓wl, nca, evV, wrapBits_eq, ↓reduceIte, Nat.reduceEqDiff, Nat.reduceAdd, Nat.reduceSub, Nat.reduceLeDiff, Nat.reduceLT, Nat.reduceBEq, reduceCtorEq, Int.reduceEq]
                  refine evTs_pure hFn H (fun _ h => f28_ok h) (by rfl) (by rfl) (by rfl) (by rfl) (fun _ => rfl) ?_ <;> clear H <;> intro r_1938 H
                  try simp only [eL, ↓wk, ↓wl, nca, evV, wrapBits_eq, ↓reduceIte, Nat.reduceEqDiff, Nat.reduceAdd, Nat.reduceSub, Nat.reduceLeDiff, Nat.reduceLT, Nat.reduceBEq, reduceCtorEq, Int.reduceEq]
                  refine evTs_ifg H (by rfl) ?_ ?_ <;> clear H <;> intro H
                  · try simp only [↓wk, ↓wl, nca, evV, wrapBits_eq, ↓reduceIte, Nat.reduceEqDiff, Nat.reduceAdd, Nat.reduceSub, Nat.reduceLeDiff, Nat.reduceLT, Nat.reduceBEq, reduceCtorEq, Int.reduceEq]
                    refine AW.ift (by rfl) ?_
                    refine AW.rseq ?_
                    try simp only [↓wk, ↓wl, nca, evV, wrapBits_eq, ↓reduceIte, Nat.reduceEqDiff, Nat.reduceAdd, Nat.reduceSub, Nat.reduceLeDiff, Nat.reduceLT, Nat.reduceBEq, reduceCtorEq, Int.reduceEq]
                    refine AW.ret ?_
                    refine seqQ.ret ?_
                    refine blkQ.ret ?_
                    refine loopQ.ret H ?_ <;> clear H <;> intro H
                    try dsimp only at H
                    refine blk0.ret ?_
                    refine seqQ.ret ?_
                    refine blkQ.ret ?_
                    refine loopQ.ret H ?_ <;> clear H <;> intro H
                    try dsimp only at H
                    refine blk0.ret ?_
                    refine seqQ.ret ?_
                    cases H
                    exact hQ _ _ _ _ (.inr rfl) (by simp only [resVs, omap, resV, ↓wk, ↓wl, nca, evV, wrapBits_eq, ↓reduceIte, Nat.reduceEqDiff, Nat.reduceAdd, Nat.reduceSub, Nat.reduceLeDiff, Nat.reduceLT, Nat.reduceBEq, reduceCtorEq, Int.reduceEq]; rfl) (hand_plain (by rfl)) (by first | exact Or.inl rfl | exact Or.inr rfl)
                  · try simp only [↓wk, ↓wl, nca, evV, wrapBits_eq, ↓reduceIte, Nat.reduceEqDiff, Nat.reduceAdd, Nat.reduceSub, Nat.reduceLeDiff, Nat.reduceLT, Nat.reduceBEq, reduceCtorEq, Int.reduceEq]
                    refine evTs_any rfl (by simp only [nc, ↓wk, ↓wl, nca, evV, wrapBits_eq, ↓reduceIte, Nat.reduceEqDiff, Nat.reduceAdd, Nat.reduceSub, Nat.reduceLeDiff, Nat.reduceLT, Nat.reduceBEq, reduceCtorEq, Int.reduceEq, Nat.reduceLeDiff]; rfl) ?_
                    try simp only [↓wk, ↓wl, nca, evV, wrapBits_eq, ↓reduceIte, Nat.reduceEqDiff, Nat.reduceAdd, Nat.reduceSub, Nat.reduceLeDiff, Nat.reduceLT, Nat.reduceBEq, reduceCtorEq, Int.reduceEq]
                    refine evTs_any rfl (by simp only [nc, ↓wk, ↓wl, nca, evV, wrapBits_eq, ↓reduceIte, Nat.reduceEqDiff, Nat.reduceAdd, Nat.reduceSub, Nat.reduceLeDiff, Nat.reduceLT, Nat.reduceBEq, reduceCtorEq, Int.reduceEq, Nat.reduceLeDiff]; rfl) ?_
                    try simp only [↓wk, ↓wl, nca, evV, wrapBits_eq, ↓reduceIte, Nat.reduceEqDiff, Nat.reduceAdd, Nat.reduceSub, Nat.reduceLeDiff, Nat.reduceLT, Nat.reduceBEq, reduceCtorEq, Int.reduceEq]
                    refine evTs_ifg H (by rfl) ?_ ?_ <;> clear H <;> intro H
                    · try simp only [↓wk, ↓wl, nca, evV, wrapBits_eq, ↓reduceIte, Nat.reduceEqDiff, Nat.reduceAdd, Nat.reduceSub, Nat.reduceLeDiff, Nat.reduceLT, Nat.reduceBEq, reduceCtorEq, Int.reduceEq]
                      refine AW.ift (by rfl) ?_
                      refine AW.rseq ?_
                      try simp only [↓wk, ↓wl, nca, evV, wrapBits_eq, ↓reduceIte, Nat.reduceEqDiff, Nat.reduceAdd, Nat.reduceSub, Nat.reduceLeDiff, Nat.reduceLT, Nat.reduceBEq, reduceCtorEq, Int.reduceEq]
                      refine AW.ret ?_
                      refine seqQ.ret ?_
                      refine blkQ.ret ?_
                      refine loopQ.ret H ?_ <;> clear H <;> intro H
                      try dsimp only at H
                      refine blk0.ret ?_
                      refine seqQ.ret ?_
                      refine blkQ.ret ?_
                      refine loopQ.ret H ?_ <;> clear H <;> intro H
                      try dsimp only at H
                      refine blk0.ret ?_
                      refine seqQ.ret ?_
                      cases H
                      exact hQ _ _ _ _ (.inr rfl) (by simp only [resVs, omap, resV, ↓wk, ↓wl, nca, evV, wrapBits_eq, ↓reduceIte, Nat.reduceEqDiff, Nat.reduceAdd, Nat.reduceSub, Nat.reduceLeDiff, Nat.reduceLT, Nat.reduceBEq, reduceCtorEq, Int.reduceEq]; rfl) (hand_plain (by rfl)) (by first | exact Or.inl rfl | exact Or.inr rfl)
                    · try simp only [↓wk, ↓wl, nca, evV, wrapBits_eq, ↓reduceIte, Nat.reduceEqDiff, Nat.reduceAdd, Nat.reduceSub, Nat.reduceLeDiff, Nat.reduceLT, Nat.reduceBEq, reduceCtorEq, Int.reduceEq]
                      refine evTs_any rfl (by simp only [nc, ↓wk, ↓wl, nca, evV, wrapBits_eq, ↓reduceIte, Nat.reduceEqDiff, Nat.reduceAdd, Nat.reduceSub, Nat.reduceLeDiff, Nat.reduceLT, Nat.reduceBEq, reduceCtorEq, Int.reduceEq, Nat.reduceLeDiff]; rfl) ?_
                      try simp only [↓wk, ↓wl, nca, evV, wrapBits_eq, ↓reduceIte, Nat.reduceEqDiff, Nat.reduceAdd, Nat.reduceSub, Nat.reduceLeDiff, Nat.reduceLT, Nat.reduceBEq, reduceCtorEq, Int.reduceEq]
                      refine evTs_any rfl (by simp only [nc, ↓wk, ↓wl, nca, evV, wrapBits_eq, ↓reduceIte, Nat.reduceEqDiff, Nat.reduceAdd, Nat.reduceSub, Nat.reduceLeDiff, Nat.reduceLT, Nat.reduceBEq, reduceCtorEq, Int.reduceEq, Nat.reduceLeDiff]; rfl) ?_
                      try simp only [↓wk, ↓wl, nca, evV, wrapBits_eq, ↓reduceIte, Nat.reduceEqDiff, Nat.reduceAdd, Nat.reduceSub, Nat.reduceLeDiff, Nat.reduceLT, Nat.reduceBEq, reduceCtorEq, Int.reduceEq]
                      refine evTs_ifg H (by rfl) ?_ ?_ <;> clear H <;> intro H
                      · try simp only [↓wk, ↓wl, nca, evV, wrapBits_eq, ↓reduceIte, Nat.reduceEqDiff, Nat.reduceAdd, Nat.reduceSub, Nat.reduceLeDiff, Nat.reduceLT, Nat.reduceBEq, reduceCtorEq, Int.reduceEq]
                        refine AW.ift (by rfl) ?_
                        refine AW.rseq ?_
                        try simp only [↓wk, ↓wl, nca, evV, wrapBits_eq, ↓reduceIte, Nat.reduceEqDiff, Nat.reduceAdd, Nat.reduceSub, Nat.reduceLeDiff, Nat.reduceLT, Nat.reduceBEq, reduceCtorEq, Int.reduceEq]
                        refine AW.ret ?_
                        refine seqQ.ret ?_
                        refine blkQ.ret ?_
                        refine loopQ.ret H ?_ <;> clear H <;> intro H
                        try dsimp only at H
                        refine blk0.ret ?_
                        refine seqQ.ret ?_
                        refine blkQ.ret ?_
                        refine loopQ.ret H ?_ <;> clear H <;> intro H
                        try dsimp only at H
                        refine blk0.ret ?_
                        refine seqQ.ret ?_
                        cases H
                        exact hQ _ _ _ _ (.inr rfl) (by simp only [resVs, omap, resV, ↓wk, ↓wl, nca, evV, wrapBits_eq, ↓reduceIte, Nat.reduceEqDiff, Nat.reduceAdd, Nat.reduceSub, Nat.reduceLeDiff, Nat.reduceLT, Nat.reduceBEq, reduceCtorEq, Int.reduceEq]; rfl) (hand_plain (by rfl)) (by first | exact Or.inl rfl | exact Or.inr rfl)
                      · try simp only [↓wk, ↓wl, nca, evV, wrapBits_eq, ↓reduceIte, Nat.reduceEqDiff, Nat.reduceAdd, Nat.reduceSub, Nat.reduceLeDiff, Nat.reduceLT, Nat.reduceBEq, reduceCtorEq, Int.reduceEq]
                        refine evTs_any rfl (by simp only [nc, ↓wk, ↓wl, nca, evV, wrapBits_eq, ↓reduceIte, Nat.reduceEqDiff, Nat.reduceAdd, Nat.reduceSub, Nat.reduceLeDiff, Nat.reduceLT, Nat.reduceBEq, reduceCtorEq, Int.reduceEq, Nat.reduceLeDiff]; rfl) ?_
                        try simp only [↓wk, ↓wl, nca, evV, wrapBits_eq, ↓reduceIte, Nat.reduceEqDiff, Nat.reduceAdd, Nat.reduceSub, Nat.reduceLeDiff, Nat.reduceLT, Nat.reduceBEq, reduceCtorEq, Int.reduceEq]
                        refine evTs_any rfl (by simp only [nc, ↓wk, ↓wl, nca, evV, wrapBits_eq, ↓reduceIte, Nat.reduceEqDiff, Nat.reduceAdd, Nat.reduceSub, Nat.reduceLeDiff, Nat.reduceLT, Nat.reduceBEq, reduceCtorEq, Int.reduceEq, Nat.reduceLeDiff]; rfl) ?_
                        try simp only [↓wk, ↓wl, nca, evV, wrapBits_eq, ↓reduceIte, Nat.reduceEqDiff, Nat.reduceAdd, Nat.reduceSub, Nat.reduceLeDiff, Nat.reduceLT, Nat.reduceBEq, reduceCtorEq, Int.reduceEq]
                        refine evTs_ifg H (by rfl) ?_ ?_ <;> clear H <;> intro H
                        · try simp only [↓wk, ↓wl, nca, evV, wrapBits_eq, ↓reduceIte, Nat.reduceEqDiff, Nat.reduceAdd, Nat.reduceSub, Nat.reduceLeDiff, Nat.reduceLT, Nat.reduceBEq, reduceCtorEq, Int.reduceEq]
                          refine AW.ift (by rfl) ?_
                          refine AW.rseq ?_
                          try simp only [↓wk, ↓wl, nca, evV, wrapBits_eq, ↓reduceIte, Nat.reduceEqDiff, Nat.reduceAdd, Nat.reduceSub, Nat.reduceLeDiff, Nat.reduceLT, Nat.reduceBEq, reduceCtorEq, Int.reduceEq]
                          refine AW.ret ?_
                          refine seqQ.ret ?_
                          refine blkQ.ret ?_
                          refine loopQ.ret H ?_ <;> clear H <;> intro H
                          try dsimp only at H
                          refine blk0.ret ?_
                          refine seqQ.ret ?_
                          refine blkQ.ret ?_
                          refine loopQ.ret H ?_ <;> clear H <;> intro H
                          try dsimp only at H
                          refine blk0.ret ?_
                          refine seqQ.ret ?_
                          cases H
                          exact hQ _ _ _ _ (.inr rfl) (by simp only [resVs, omap, resV, ↓wk, ↓wl, nca, evV, wrapBits_eq, ↓reduceIte, Nat.reduceEqDiff, Nat.reduceAdd, Nat.reduceSub, Nat.reduceLeDiff, Nat.reduceLT, Nat.reduceBEq, reduceCtorEq, Int.reduceEq]; rfl) (hand_plain (by rfl)) (by first | exact Or.inl rfl | exact Or.inr rfl)
                        · try simp only [↓wk, ↓wl, nca, evV, wrapBits_eq, ↓reduceIte, Nat.reduceEqDiff, Nat.reduceAdd, Nat.reduceSub, Nat.reduceLeDiff, Nat.reduceLT, Nat.reduceBEq, reduceCtorEq, Int.reduceEq]
                          refine evTs_any rfl (by simp only [nc, ↓wk, ↓wl, nca, evV, wrapBits_eq, ↓reduceIte, Nat.reduceEqDiff, Nat.reduceAdd, Nat.reduceSub, Nat.reduceLeDiff, Nat.reduceLT, Nat.reduceBEq, reduceCtorEq, Int.reduceEq, Nat.reduceLeDiff]; rfl) ?_
                          try simp only [↓wk, ↓wl, nca, evV, wrapBits_eq, ↓reduceIte, Nat.reduceEqDiff, Nat.reduceAdd, Nat.reduceSub, Nat.reduceLeDiff, Nat.reduceLT, Nat.reduceBEq, reduceCtorEq, Int.reduceEq]
                          refine evTs_ifg H (by rfl) ?_ ?_ <;> clear H <;> intro H
                          · try simp only [↓wk, ↓wl, nca, evV, wrapBits_eq, ↓reduceIte, Nat.reduceEqDiff, Nat.reduceAdd, Nat.reduceSub, Nat.reduceLeDiff, Nat.reduceLT, Nat.reduceBEq, reduceCtorEq, Int.reduceEq]
                            refine AW.ift (by rfl) ?_
                            refine AW.rseq ?_
                            try simp only [↓wk, ↓wl, nca, evV, wrapBits_eq, ↓reduceIte, Nat.reduceEqDiff, Nat.reduceAdd, Nat.reduceSub, Nat.reduceLeDiff, Nat.reduceLT, Nat.reduceBEq, reduceCtorEq, Int.reduceEq]
                            refine AW.ret ?_
                            refine seqQ.ret ?_
                            refine blkQ.ret ?_
                            refine loopQ.ret H ?_ <;> clear H <;> intro H
                            try dsimp only at H
                            refine blk0.ret ?_
                            refine seqQ.ret ?_
                            refine blkQ.ret ?_
                            refine loopQ.ret H ?_ <;> clear H <;> intro H
                            try dsimp only at H
                            refine blk0.ret ?_
                            refine seqQ.ret ?_
                            cases H
                            exact hQ _ _ _ _ (.inr rfl) (by simp only [resVs, omap, resV, ↓wk, ↓wl, nca, evV, wrapBits_eq, ↓reduceIte, Nat.reduceEqDiff, Nat.reduceAdd, Nat.reduceSub, Nat.reduceLeDiff, Nat.reduceLT, Nat.reduceBEq, reduceCtorEq, Int.reduceEq]; rfl) (hand_plain (by rfl)) (by first | exact Or.inl rfl | exact Or.inr rfl)
                          · try simp only [↓wk, ↓wl, nca, evV, wrapBits_eq, ↓reduceIte, Nat.reduceEqDiff, Nat.reduceAdd, Nat.reduceSub, Nat.reduceLeDiff, Nat.reduceLT, Nat.reduceBEq, reduceCtorEq, Int.reduceEq]
                            refine evTs_any rfl (by simp only [nc, ↓wk, ↓wl, nca, evV, wrapBits_eq, ↓reduceIte, Nat.reduceEqDiff, Nat.reduceAdd, Nat.reduceSub, Nat.reduceLeDiff, Nat.reduceLT, Nat.reduceBEq, reduceCtorEq, Int.reduceEq, Nat.reduceLeDiff]; rfl) ?_
                            try simp only [↓wk, ↓wl, nca, evV, wrapBits_eq, ↓reduceIte, Nat.reduceEqDiff, Nat.reduceAdd, Nat.reduceSub, Nat.reduceLeDiff, Nat.reduceLT, Nat.reduceBEq, reduceCtorEq, Int.reduceEq]
                            refine evTs_aat (enc := AV.bool) H (by rfl) (by rfl) ?_ <;> clear H <;> intro x_1939 hx_1939 H
                            try simp only [↓wk, ↓wl, nca, evV, wrapBits_eq, ↓reduceIte, Nat.reduceEqDiff, Nat.reduceAdd, Nat.reduceSub, Nat.reduceLeDiff, Nat.reduceLT, Nat.reduceBEq, reduceCtorEq, Int.reduceEq]
                            refine evTs_ald (enc := AV.bool) x_1939 (by rfl) (by rfl) hx_1939 ?_
                            try simp only [↓wk, ↓wl, nca, evV, wrapBits_eq, ↓reduceIte, Nat.reduceEqDiff, Nat.reduceAdd, Nat.reduceSub, Nat.reduceLeDiff, Nat.reduceLT, Nat.reduceBEq, reduceCtorEq, Int.reduceEq]
                            refine evTs_ifg H (by rfl) ?_ ?_ <;> clear H <;> intro H
                            · try simp only [↓wk, ↓wl, nca, evV, wrapBits_eq, ↓reduceIte, Nat.reduceEqDiff, Nat.reduceAdd, Nat.reduceSub, Nat.reduceLeDiff, Nat.reduceLT, Nat.reduceBEq, reduceCtorEq, Int.reduceEq]
                              refine evTs_any rfl (by simp only [nc, ↓wk, ↓wl, nca, evV, wrapBits_eq, ↓reduceIte, Nat.reduceEqDiff, Nat.reduceAdd, Nat.reduceSub, Nat.reduceLeDiff, Nat.reduceLT, Nat.reduceBEq, reduceCtorEq, Int.reduceEq, Nat.reduceLeDiff]; rfl) ?_
                              try simp only [↓wk, ↓wl, nca, evV, wrapBits_eq, ↓reduceIte, Nat.reduceEqDiff, Nat.reduceAdd, Nat.reduceSub, Nat.reduceLeDiff, Nat.reduceLT, Nat.reduceBEq, reduceCtorEq, Int.reduceEq]
                              refine evTs_aat (enc := (AV.int .i64)) H (by rfl) (by rfl) ?_ <;> clear H <;> intro x_1940 hx_1940 H
                              try simp only [↓wk, ↓wl, nca, evV, wrapBits_eq, ↓reduceIte, Nat.reduceEqDiff, Nat.reduceAdd, Nat.reduceSub, Nat.reduceLeDiff, Nat.reduceLT, Nat.reduceBEq, reduceCtorEq, Int.reduceEq]
                              refine evTs_ald (enc := (AV.int .i64)) x_1940 (by rfl) (by rfl) hx_1940 ?_
                              try simp only [↓wk, ↓wl, nca, evV, wrapBits_eq, ↓reduceIte, Nat.reduceEqDiff, Nat.reduceAdd, Nat.reduceSub, Nat.reduceLeDiff, Nat.reduceLT, Nat.reduceBEq, reduceCtorEq, Int.reduceEq]
                              refine evTs_any rfl (by simp only [nc, ↓wk, ↓wl, nca, evV, wrapBits_eq, ↓reduceIte, Nat.reduceEqDiff, Nat.reduceAdd, Nat.reduceSub, Nat.reduceLeDiff, Nat.reduceLT, Nat.reduceBEq, reduceCtorEq, Int.reduceEq, Nat.reduceLeDiff]; rfl) ?_
                              try simp only [↓wk, ↓wl, nca, evV, wrapBits_eq, ↓reduceIte, Nat.reduceEqDiff, Nat.reduceAdd, Nat.reduceSub, Nat.reduceLeDiff, Nat.reduceLT, Nat.reduceBEq, reduceCtorEq, Int.reduceEq]
                              refine evTs_pure hFn H (fun _ h => f12_ok h) (by rfl) (by rfl) (by rfl) (by rfl) (fun _ => rfl) ?_ <;> clear H <;> intro r_1941 H
                              try simp only [eL, ↓wk, ↓wl, nca, evV, wrapBits_eq, ↓reduceIte, Nat.reduceEqDiff, Nat.reduceAdd, Nat.reduceSub, Nat.reduceLeDiff, Nat.reduceLT, Nat.reduceBEq, reduceCtorEq, Int.reduceEq]
                              refine AW.ifc H (by rfl) ?_ ?_ <;> clear H <;> intro H
                              · refine AW.rseq ?_
                                try simp only [↓wk, ↓wl, nca, evV, wrapBits_eq, ↓reduceIte, Nat.reduceEqDiff, Nat.reduceAdd, Nat.reduceSub, Nat.reduceLeDiff, Nat.reduceLT, Nat.reduceBEq, reduceCtorEq, Int.reduceEq]
                                refine AW.ret ?_
                                refine seqQ.ret ?_
                                refine blkQ.ret ?_
                                refine loopQ.ret H ?_ <;> clear H <;> intro H
                                try dsimp only at H
                                refine blk0.ret ?_
                                refine seqQ.ret ?_
                                refine blkQ.ret ?_
                                refine loopQ.ret H ?_ <;> clear H <;> intro H
                                try dsimp only at H
                                refine blk0.ret ?_
                                refine seqQ.ret ?_
                                cases H
                                exact hQ _ _ _ _ (.inr rfl) (by simp only [resVs, omap, resV, ↓wk, ↓wl, nca, evV, wrapBits_eq, ↓reduceIte, Nat.reduceEqDiff, Nat.reduceAdd, Nat.reduceSub, Nat.reduceLeDiff, Nat.reduceLT, Nat.reduceBEq, reduceCtorEq, Int.reduceEq]; rfl) (hand_plain (by rfl)) (by first | exact Or.inl rfl | exact Or.inr rfl)
                              · refine AW.skip ?_
                                refine seqQ.norm ?_
                                exact hf7_J4 _ _ H ((Le.none [0, 1, 2, 3, 4, 5] [2, 5, 7, 8, 9, 12, 16, 35, 36, 37, 72, 73, 74] (by decide) (by simp only [f7_J4, List.length_set, Option.map_some, restrict_eq, renS_nil, renS_cons, renB_els, renB_cel, renB_dead, deep_eq, map_ren_enc, ren_agg', ren_tup', ren_fn', ren_int', ren_bool', ren_str', ren_sl', ren_pro', ren_nilp', ren_nilfn', ren_junk', ren_ptr', ren_row', ren_arow', ren_eptr', vm, List.idxOf?_cons, List.idxOf?_nil, beq_self_eq_true, Option.map_none, List.getD_cons_zero, List.getD_cons_succ, ↓wk, ↓wl, nc, evV, wrapBits_eq, ↓reduceIte, Nat.reduceEqDiff, Nat.reduceAdd, Nat.reduceSub, Nat.reduceLeDiff, Nat.reduceLT, Nat.reduceBEq, reduceCtorEq, Int.reduceEq] <;> rfl)))
                            · try simp only [↓wk, ↓wl, nca, evV, wrapBits_eq, ↓reduceIte, Nat.reduceEqDiff, Nat.reduceAdd, Nat.reduceSub, Nat.reduceLeDiff, Nat.reduceLT, Nat.reduceBEq, reduceCtorEq, Int.reduceEq]
                              refine AW.iff (by rfl) ?_
                              refine AW.skip ?_
                              refine seqQ.norm ?_
                              exact hf7_J4 _ _ H ((Le.none [0, 1, 2, 3, 4, 5] [2, 5, 7, 8, 9, 12, 16, 35, 36, 37, 72, 73, 74] (by decide) (by simp only [f7_J4, List.length_set, Option.map_some, restrict_eq, renS_nil, renS_cons, renB_els, renB_cel, renB_dead, deep_eq, map_ren_enc, ren_agg', ren_tup', ren_fn', ren_int', ren_bool', ren_str', ren_sl', ren_pro', ren_nilp', ren_nilfn', ren_junk', ren_ptr', ren_row', ren_arow', ren_eptr', vm, List.idxOf?_cons, List.idxOf?_nil, beq_self_eq_true, Option.map_none, List.getD_cons_zero, List.getD_cons_succ, ↓wk, ↓wl, nc, evV, wrapBits_eq, ↓reduceIte, Nat.reduceEqDiff, Nat.reduceAdd, Nat.reduceSub, Nat.reduceLeDiff, Nat.reduceLT, Nat.reduceBEq, reduceCtorEq, Int.reduceEq] <;> rfl)))
              · refine AW.exit ?_
                refine seqQ.exit ?_
                refine loopQ.exit H ?_ <;> clear H <;> intro H
                try dsimp only at H
                refine blk0.here ?_
                refine seqQ.norm ?_
                refine AW.rend ?_
                try simp only [↓wk, ↓wl, nca, evV, wrapBits_eq, ↓reduceIte, Nat.reduceEqDiff, Nat.reduceAdd, Nat.reduceSub, Nat.reduceLeDiff, Nat.reduceLT, Nat.reduceBEq, reduceCtorEq, Int.reduceEq]
                refine evTs_any rfl (by simp only [nc, ↓wk, ↓wl, nca, evV, wrapBits_eq, ↓reduceIte, Nat.reduceEqDiff, Nat.reduceAdd, Nat.reduceSub, Nat.reduceLeDiff, Nat.reduceLT, Nat.reduceBEq, reduceCtorEq, Int.reduceEq, Nat.reduceLeDiff]; rfl) ?_
                try simp only [↓wk, ↓wl, nca, evV, wrapBits_eq, ↓reduceIte, Nat.reduceEqDiff, Nat.reduceAdd, Nat.reduceSub, Nat.reduceLeDiff, Nat.reduceLT, Nat.reduceBEq, reduceCtorEq, Int.reduceEq]
                refine evTs_st (by simp only [↓wk, ↓wl, nca, evV, wrapBits_eq, ↓reduceIte, Nat.reduceEqDiff, Nat.reduceAdd, Nat.reduceSub, Nat.reduceLeDiff, Nat.reduceLT, Nat.reduceBEq, reduceCtorEq, Int.reduceEq, Nat.reduceLeDiff]; rfl) ?_
                try simp only [↓wk, ↓wl, nca, evV, wrapBits_eq, ↓reduceIte, Nat.reduceEqDiff, Nat.reduceAdd, Nat.reduceSub, Nat.reduceLeDiff, Nat.reduceLT, Nat.reduceBEq, reduceCtorEq, Int.reduceEq]
                refine blkQ.norm ?_
                refine AW.rend ?_
                try simp only [↓wk, ↓wl, nca, evV, wrapBits_eq, ↓reduceIte, Nat.reduceEqDiff, Nat.reduceAdd, Nat.reduceSub, Nat.reduceLeDiff, Nat.reduceLT, Nat.reduceBEq, reduceCtorEq, Int.reduceEq]
                exact loopQ.next H ((Le.none [0, 1, 2, 3] [2, 5, 7, 8, 9, 35, 36, 37] (by decide) (by simp only [f7_L1, List.length_set, Option.map_some, restrict_eq, renS_nil, renS_cons, renB_els, renB_cel, renB_dead, deep_eq, map_ren_enc, ren_agg', ren_tup', ren_fn', ren_int', ren_bool', ren_str', ren_sl', ren_pro', ren_nilp', ren_nilfn', ren_junk', ren_ptr', ren_row', ren_arow', ren_eptr', vm, List.idxOf?_cons, List.idxOf?_nil, beq_self_eq_true, Option.map_none, List.getD_cons_zero, List.getD_cons_succ, ↓wk, ↓wl, nc, evV, wrapBits_eq, ↓reduceIte, Nat.reduceEqDiff, Nat.reduceAdd, Nat.reduceSub, Nat.reduceLeDiff, Nat.reduceLT, Nat.reduceBEq, reduceCtorEq, Int.reduceEq] <;> rfl)))
        · refine AW.regt ?_
          refine evR.fork ?_
          try simp only [↓wk, ↓wl, nca, evV, wrapBits_eq, ↓reduceIte, Nat.reduceEqDiff, Nat.reduceAdd, Nat.reduceSub, Nat.reduceLeDiff, Nat.reduceLT, Nat.reduceBEq, reduceCtorEq, Int.reduceEq]
          refine evTs_any rfl (by simp only [nc, ↓wk, ↓wl, nca, evV, wrapBits_eq, ↓reduceIte, Nat.reduceEqDiff, Nat.reduceAdd, Nat.reduceSub, Nat.reduceLeDiff, Nat.reduceLT, Nat.reduceBEq, reduceCtorEq, Int.reduceEq, Nat.reduceLeDiff]; rfl) ?_
          try simp only [↓wk, ↓wl, nca, evV, wrapBits_eq, ↓reduceIte, Nat.reduceEqDiff, Nat.reduceAdd, Nat.reduceSub, Nat.reduceLeDiff, Nat.reduceLT, Nat.reduceBEq, reduceCtorEq, Int.reduceEq]
          refine evTs_any rfl (by simp only [nc, ↓wk, ↓wl, nca, evV, wrapBits_eq, ↓reduceIte, Nat.reduceEqDiff, Nat.reduceAdd, Nat.reduceSub, Nat.reduceLeDiff, Nat.reduceLT, Nat.reduceBEq, reduceCtorEq, Int.reduceEq, Nat.reduceLeDiff]; rfl) ?_
          try simp only [↓wk, ↓wl, nca, evV, wrapBits_eq, ↓reduceIte, Nat.reduceEqDiff, Nat.reduceAdd, Nat.reduceSub, Nat.reduceLeDiff, Nat.reduceLT, Nat.reduceBEq, reduceCtorEq, Int.reduceEq]
          refine evTs_any rfl (by simp only [nc, ↓wk, ↓wl, nca, evV, wrapBits_eq, ↓reduceIte, Nat.reduceEqDiff, Nat.reduceAdd, Nat.reduceSub, Nat.reduceLeDiff, Nat.reduceLT, Nat.reduceBEq, reduceCtorEq, Int.reduceEq, Nat.reduceLeDiff]; rfl) ?_
          try simp only [↓wk, ↓wl, nca, evV, wrapBits_eq, ↓reduceIte, Nat.reduceEqDiff, Nat.reduceAdd, Nat.reduceSub, Nat.reduceLeDiff, Nat.reduceLT, Nat.reduceBEq, reduceCtorEq, Int.reduceEq]
          refine evR.both ?_ ?_
          · refine evR.fork ?_
            try simp only [↓wk, ↓wl, nca, evV, wrapBits_eq, ↓reduceIte, Nat.reduceEqDiff, Nat.reduceAdd, Nat.reduceSub, Nat.reduceLeDiff, Nat.reduceLT, Nat.reduceBEq, reduceCtorEq, Int.reduceEq]
            refine evTs_pure hFnq H (fun _ h => f27_ok h) (by rfl) (by rfl) (by rfl) (by rfl) (fun _ => rfl) ?_ <;> clear H <;> intro r_1942 H
            try simp only [eL, eApiFrame, ↓wk, ↓wl, nca, evV, wrapBits_eq, ↓reduceIte, Nat.reduceEqDiff, Nat.reduceAdd, Nat.reduceSub, Nat.reduceLeDiff, Nat.reduceLT, Nat.reduceBEq, reduceCtorEq, Int.reduceEq]
            refine evR.both ?_ ?_
            · refine evR.run ?_
              try simp only [↓wk, ↓wl, nca, evV, wrapBits_eq, ↓reduceIte, Nat.reduceEqDiff, Nat.reduceAdd, Nat.reduceSub, Nat.reduceLeDiff, Nat.reduceLT, Nat.reduceBEq, reduceCtorEq, Int.reduceEq]
              refine evTs_pure hFnq H (fun _ h => f23_ok h) (by rfl) (by rfl) (by rfl) (by rfl) (fun _ => rfl) ?_ <;> clear H <;> intro r_1943 H
              try simp only [eL, eNetworkSender, ↓wk, ↓wl, nca, evV, wrapBits_eq, ↓reduceIte, Nat.reduceEqDiff, Nat.reduceAdd, Nat.reduceSub, Nat.reduceLeDiff, Nat.reduceLT, Nat.reduceBEq, reduceCtorEq, Int.reduceEq]
              refine evTs_any rfl (by simp only [nc, ↓wk, ↓wl, nca, evV, wrapBits_eq, ↓reduceIte, Nat.reduceEqDiff, Nat.reduceAdd, Nat.reduceSub, Nat.reduceLeDiff, Nat.reduceLT, Nat.reduceBEq, reduceCtorEq, Int.reduceEq, Nat.reduceLeDiff]; rfl) ?_
              try simp only [↓wk, ↓wl, nca, evV, wrapBits_eq, ↓reduceIte, Nat.reduceEqDiff, Nat.reduceAdd, Nat.reduceSub, Nat.reduceLeDiff, Nat.reduceLT, Nat.reduceBEq, reduceCtorEq, Int.reduceEq]
              refine evTs_st (by simp only [↓wk, ↓wl, nca, evV, wrapBits_eq, ↓reduceIte, Nat.reduceEqDiff, Nat.reduceAdd, Nat.reduceSub, Nat.reduceLeDiff, Nat.reduceLT, Nat.reduceBEq, reduceCtorEq, Int.reduceEq, Nat.reduceLeDiff]; rfl) ?_
              try simp only [↓wk, ↓wl, nca, evV, wrapBits_eq, ↓reduceIte, Nat.reduceEqDiff, Nat.reduceAdd, Nat.reduceSub, Nat.reduceLeDiff, Nat.reduceLT, Nat.reduceBEq, reduceCtorEq, Int.reduceEq]
              refine seqQ.norm ?_
              exact hf7_J2 _ _ H ((Le.none [0, 1, 2, 3, 5] [2, 5, 7, 8, 9, 12, 13, 14, 35, 36, 37] (by decide) (by simp only [f7_J2, List.length_set, Option.map_some, restrict_eq, renS_nil, renS_cons, renB_els, renB_cel, renB_dead, deep_eq, map_ren_enc, ren_agg', ren_tup', ren_fn', ren_int', ren_bool', ren_str', ren_sl', ren_pro', ren_nilp', ren_nilfn', ren_junk', ren_ptr', ren_row', ren_arow', ren_eptr', vm, List.idxOf?_cons, List.idxOf?_nil, beq_self_eq_true, Option.map_none, List.getD_cons_zero, List.getD_cons_succ, ↓wk, ↓wl, nc, evV, wrapBits_eq, ↓reduceIte, Nat.reduceEqDiff, Nat.reduceAdd, Nat.reduceSub, Nat.reduceLeDiff, Nat.reduceLT, Nat.reduceBEq, reduceCtorEq, Int.reduceEq] <;> rfl)))
            · refine evR.run ?_
              try simp only [↓wk, ↓wl, nca, evV, wrapBits_eq, ↓reduceIte, Nat.reduceEqDiff, Nat.reduceAdd, Nat.reduceSub, Nat.reduceLeDiff, Nat.reduceLT, Nat.reduceBEq, reduceCtorEq, Int.reduceEq]
              refine evTs_any rfl (by simp only [nc, ↓wk, ↓wl, nca, evV, wrapBits_eq, ↓reduceIte, Nat.reduceEqDiff, Nat.reduceAdd, Nat.reduceSub, Nat.reduceLeDiff, Nat.reduceLT, Nat.reduceBEq, reduceCtorEq, Int.reduceEq, Nat.reduceLeDiff]; rfl) ?_
              try simp only [↓wk, ↓wl, nca, evV, wrapBits_eq, ↓reduceIte, Nat.reduceEqDiff, Nat.reduceAdd, Nat.reduceSub, Nat.reduceLeDiff, Nat.reduceLT, Nat.reduceBEq, reduceCtorEq, Int.reduceEq]
              refine evTs_pure hFnq H (fun _ h => f23_ok h) (by rfl) (by rfl) (by rfl) (by rfl) (fun _ => rfl) ?_ <;> clear H <;> intro r_1943 H
              try simp only [eL, eNetworkSender, ↓wk, ↓wl, nca, evV, wrapBits_eq, ↓reduceIte, Nat.reduceEqDiff, Nat.reduceAdd, Nat.reduceSub, Nat.reduceLeDiff, Nat.reduceLT, Nat.reduceBEq, reduceCtorEq, Int.reduceEq]
              refine evTs_st (by simp only [↓wk, ↓wl, nca, evV, wrapBits_eq, ↓reduceIte, Nat.reduceEqDiff, Nat.reduceAdd, Nat.reduceSub, Nat.reduceLeDiff, Nat.reduceLT, Nat.reduceBEq, reduceCtorEq, Int.reduceEq, Nat.reduceLeDiff]; rfl) ?_
              try simp only [↓wk, ↓wl, nca, evV, wrapBits_eq, ↓reduceIte, Nat.reduceEqDiff, Nat.reduceAdd, Nat.reduceSub, Nat.reduceLeDiff, Nat.reduceLT, Nat.reduceBEq, reduceCtorEq, Int.reduceEq]
              refine seqQ.norm ?_
              exact hf7_J2 _ _ H ((Le.none [0, 1, 2, 3, 5] [2, 5, 7, 8, 9, 12, 13, 14, 35, 36, 37] (by decide) (by simp only [f7_J2, List.length_set, Option.map_some, restrict_eq, renS_nil, renS_cons, renB_els, renB_cel, renB_dead, deep_eq, map_ren_enc, ren_agg', ren_tup', ren_fn', ren_int', ren_bool', ren_str', ren_sl', ren_pro', ren_nilp', ren_nilfn', ren_junk', ren_ptr', ren_row', ren_arow', ren_eptr', vm, List.idxOf?_cons, List.idxOf?_nil, beq_self_eq_true, Option.map_none, List.getD_cons_zero, List.getD_cons_succ, ↓wk, ↓wl, nc, evV, wrapBits_eq, ↓reduceIte, Nat.reduceEqDiff, Nat.reduceAdd, Nat.reduceSub, Nat.reduceLeDiff, Nat.reduceLT, Nat.reduceBEq, reduceCtorEq, Int.reduceEq] <;> rfl)))
          · refine evR.run ?_
            try simp only [↓wk, ↓wl, nca, evV, wrapBits_eq, ↓reduceIte, Nat.reduceEqDiff, Nat.reduceAdd, Nat.reduceSub, Nat.reduceLeDiff, Nat.reduceLT, Nat.reduceBEq, reduceCtorEq, Int.reduceEq]
            refine evTs_any rfl (by simp only [nc, ↓wk, ↓wl, nca, evV, wrapBits_eq, ↓reduceIte, Nat.reduceEqDiff, Nat.reduceAdd, Nat.reduceSub, Nat.reduceLeDiff, Nat.reduceLT, Nat.reduceBEq, reduceCtorEq, Int.reduceEq, Nat.reduceLeDiff]; rfl) ?_
            try simp only [↓wk, ↓wl, nca, evV, wrapBits_eq, ↓reduceIte, Nat.reduceEqDiff, Nat.reduceAdd, Nat.reduceSub, Nat.reduceLeDiff, Nat.reduceLT, Nat.reduceBEq, reduceCtorEq, Int.reduceEq]
            refine evTs_pure hFnq H (fun _ h => f27_ok h) (by rfl) (by rfl) (by rfl) (by rfl) (fun _ => rfl) ?_ <;> clear H <;> intro r_1942 H
            try simp only [eL, eApiFrame, ↓wk, ↓wl, nca, evV, wrapBits_eq, ↓reduceIte, Nat.reduceEqDiff, Nat.reduceAdd, Nat.reduceSub, Nat.reduceLeDiff, Nat.reduceLT, Nat.reduceBEq, reduceCtorEq, Int.reduceEq]
            refine evTs_pure hFnq H (fun _ h => f23_ok h) (by rfl) (by rfl) (by rfl) (by rfl) (fun _ => rfl) ?_ <;> clear H <;> intro r_1943 H
            try simp only [eL, eNetworkSender, ↓wk, ↓wl, nca, evV, wrapBits_eq, ↓reduceIte, Nat.reduceEqDiff, Nat.reduceAdd, Nat.reduceSub, Nat.reduceLeDiff, Nat.reduceLT, Nat.reduceBEq, reduceCtorEq, Int.reduceEq]
            refine evTs_st (by simp only [↓wk, ↓wl, nca, evV, wrapBits_eq, ↓reduceIte, Nat.reduceEqDiff, Nat.reduceAdd, Nat.reduceSub, Nat.reduceLeDiff, Nat.reduceLT, Nat.reduceBEq, reduceCtorEq, Int.reduceEq, Nat.reduceLeDiff]; rfl) ?_
            try simp only [↓wk, ↓wl, nca, evV, wrapBits_eq, ↓reduceIte, Nat.reduceEqDiff, Nat.reduceAdd, Nat.reduceSub, Nat.reduceLeDiff, Nat.reduceLT, Nat.reduceBEq, reduceCtorEq, Int.reduceEq]
            refine seqQ.norm ?_
            exact hf7_J2 _ _ H ((Le.none [0, 1, 2, 3, 5] [2, 5, 7, 8, 9, 12, 13, 14, 35, 36, 37] (by decide) (by simp only [f7_J2, List.length_set, Option.map_some, restrict_eq, renS_nil, renS_cons, renB_els, renB_cel, renB_dead, deep_eq, map_ren_enc, ren_agg', ren_tup', ren_fn', ren_int', ren_bool', ren_str', ren_sl', ren_pro', ren_nilp', ren_nilfn', ren_junk', ren_ptr', ren_row', ren_arow', ren_eptr', vm, List.idxOf?_cons, List.idxOf?_nil, beq_self_eq_true, Option.map_none, List.getD_cons_zero, List.getD_cons_succ, ↓wk, ↓wl, nc, evV, wrapBits_eq, ↓reduceIte, Nat.reduceEqDiff, Nat.reduceAdd, Nat.reduceSub, Nat.reduceLeDiff, Nat.reduceLT, Nat.reduceBEq, reduceCtorEq, Int.reduceEq] <;> rfl)))
      · refine AW.exit ?_
        refine seqQ.exit ?_
        refine loopQ.exit H ?_ <;> clear H <;> intro H
        try dsimp only at H
        refine blk0.here ?_
        refine seqQ.norm ?_
        refine AW.rseq ?_
        try simp only [↓wk, ↓wl, nca, evV, wrapBits_eq, ↓reduceIte, Nat.reduceEqDiff, Nat.reduceAdd, Nat.reduceSub, Nat.reduceLeDiff, Nat.reduceLT, Nat.reduceBEq, reduceCtorEq, Int.reduceEq]
        refine evTs_pure hFn H (fun _ h => f14_ok h) (by rfl) (by rfl) (by rfl) (by rfl) (fun _ => rfl) ?_ <;> clear H <;> intro r_1944 H
        try simp only [eL, ↓wk, ↓wl, nca, evV, wrapBits_eq, ↓reduceIte, Nat.reduceEqDiff, Nat.reduceAdd, Nat.reduceSub, Nat.reduceLeDiff, Nat.reduceLT, Nat.reduceBEq, reduceCtorEq, Int.reduceEq]
        refine AW.ret ?_
        cases H
        exact hQ _ _ _ _ (.inr rfl) (by simp only [resVs, omap, resV, ↓wk, ↓wl, nca, evV, wrapBits_eq, ↓reduceIte, Nat.reduceEqDiff, Nat.reduceAdd, Nat.reduceSub, Nat.reduceLeDiff, Nat.reduceLT, Nat.reduceBEq, reduceCtorEq, Int.reduceEq]; rfl) (hand_plain (by rfl)) (by first | exact Or.inl rfl | exact Or.inr rfl)
end Go.Proofs.Ytlidbikdeboihaa
