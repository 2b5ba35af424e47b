import Derived.Test.YthikbfhdebaceaaP4
namespace Go.Proofs.Ythikbfhdebaceaa
open Go Go.Ab
set_option linter.unusedSimpArgs false
set_option linter.unusedVariables false
set_option maxRecDepth 4000

/-! ## Few, Same, Equal -/

theorem f10_ex (l : List ApiFixture) (ps : List ApiProfile) : ∃ b, f10 l ps = some b ∧ (b = true → Few l ps) := by
  have hJ : (f10_J1 ps).run () = some (!((ps.take 6).any fun p => decide (16 < p.fFeatures.length))) := by
    have hlen : (ps.take 6).length = min 6 ps.length := List.length_take ..
    have hrun : Lp.run (f10_L2 ps) 0 = some (if ((ps.take 6).any fun p => decide (16 < p.fFeatures.length)) = true then .inr () else .inl ()) := by
      refine run_any (xs := ps.take 6) (fun p => decide (16 < p.fFeatures.length)) (by omega) (fun k p r => ?_) ?_
      · have hk := r.klt
        have hg : ps[k]? = some p := by
          have := r.get
          rw [List.getElem?_take, if_pos (by omega)] at this
          exact this
        refine (if_pos (by simp only [decide_eq_true_eq]; omega)).trans ((if_pos (by simp only [decide_eq_true_eq]; omega)).trans ?_)
        rw [at_nat hg, Option.bind_some, r.nxt]
        by_cases h : 16 < p.fFeatures.length
        · rw [if_pos (by simp only [decide_eq_true_eq]; omega), if_pos (by simpa using h)]
        · rw [if_neg (by simp only [decide_eq_true_eq]; omega), if_neg (by simpa using h)]
      · by_cases h : ((ps.take 6).length : Int) < (ps.length : Int)
        · exact (if_pos (by simpa using h)).trans (if_neg (by simp only [decide_eq_true_eq]; omega))
        · exact if_neg (by simpa using h)
    show (Lp.run (f10_L2 ps) 0).bind _ = _
    rw [hrun, Option.bind_some]
    cases (ps.take 6).any fun p => decide (16 < p.fFeatures.length) <;> rfl
  have hfin : ∀ b, b = (!((ps.take 6).any fun p => decide (16 < p.fFeatures.length))) → (l.length ≤ 12 ∨ 64 < l.length) → (ps.length ≤ 6 ∨ 32 < ps.length) → (b = true → Few l ps) := by
    intro b hb h1 h2 ht
    refine ⟨h1, h2, fun p hp => ?_⟩
    rw [hb, Bool.not_eq_true', List.any_eq_false] at ht
    have := ht p hp
    simp only [decide_eq_true_eq] at this
    omega
  unfold f10
  rw [hJ]
  simp only [decide_eq_true_eq]
  by_cases h1 : (12 : Int) < (l.length : Int)
  · rw [if_pos h1]
    by_cases h2 : (l.length : Int) ≤ 64
    · rw [if_pos h2]; exact ⟨false, rfl, fun e => by cases e⟩
    · rw [if_neg h2]
      by_cases h3 : (6 : Int) < (ps.length : Int)
      · rw [if_pos h3]
        by_cases h4 : (ps.length : Int) ≤ 32
        · rw [if_pos h4]; exact ⟨false, rfl, fun e => by cases e⟩
        · rw [if_neg h4]; exact ⟨_, rfl, hfin _ rfl (by omega) (by omega)⟩
      · rw [if_neg h3]; exact ⟨_, rfl, hfin _ rfl (by omega) (by omega)⟩
  · rw [if_neg h1]
    by_cases h3 : (6 : Int) < (ps.length : Int)
    · rw [if_pos h3]
      by_cases h4 : (ps.length : Int) ≤ 32
      · rw [if_pos h4]; exact ⟨false, rfl, fun e => by cases e⟩
      · rw [if_neg h4]; exact ⟨_, rfl, hfin _ rfl (by omega) (by omega)⟩
    · rw [if_neg h3]; exact ⟨_, rfl, hfin _ rfl (by omega) (by omega)⟩

theorem f18_self {xs : List ApiFixture} (hl : xs.length ≤ 1000000) : f18 xs xs = some true := by
  unfold f18
  rw [if_neg (by simp)]
  have hrun : Lp.run (f18_L1 xs xs) 0 = some (.inl ()) := by
    refine run_all (xs := xs) (fun k x hx => ?_) (if_neg (by simp))
    have r := Rnd.mk' hx (by omega)
    refine (if_pos r.lt).trans ?_
    rw [r.at']
    simp only [Option.bind_some, r.nxt, beq_self_eq_true, Bool.and_self, Bool.not_true, Bool.false_eq_true, if_false]
  rw [hrun, Option.bind_some]

theorem f19_self {xs : List Int} (hl : xs.length ≤ 1000000) : f19 xs xs = some true := by
  unfold f19
  rw [if_neg (by simp)]
  have hrun : Lp.run (f19_L1 xs xs) 0 = some (.inl ()) := by
    refine run_all (xs := xs) (fun k x hx => ?_) (if_neg (by simp))
    have r := Rnd.mk' hx (by omega)
    refine (if_pos r.lt).trans ?_
    rw [r.at']
    simp only [Option.bind_some, r.nxt, ne_eq, not_true_eq_false, decide_false, Bool.false_eq_true, if_false]
  rw [hrun, Option.bind_some]

/-! ## The examples -/

def pP : List ApiProfile := [⟨[112, 97, 114], 1, 0, [⟨0, 8, 0, 0, 0, 0, 0, 255, false, []⟩]⟩, ⟨[115, 112, 111, 116], 6, 0, [⟨0, 8, 0, 0, 0, 0, 0, 255, false, []⟩, ⟨1, 8, 2, 0, 0, 0, 0, 255, false, []⟩]⟩]
def xS : ApiFixture := ⟨4, 1, [115, 112, 111, 116], 1, 1, 1, []⟩
def xQ : ApiFixture := ⟨4, 2, [112, 97, 114], 1, 6, 2, []⟩
def xP : ApiFixture := ⟨4, 2, [112, 97, 114], 1, 7, 2, []⟩

theorem fit2 {x y : ApiFixture} (hx : x.fCable = []) (hy : y.fCable = []) : Fit [x, y] := fun z hz => by
  simp only [List.mem_cons, List.not_mem_nil, or_false] at hz
  rcases hz with rfl | rfl
  · rw [hx]; simp
  · rw [hy]; simp

theorem few_ex : Few [xP, xS] pP := ⟨.inl (by simp), .inl (by simp [pP]), fun p hp => by
  simp only [pP, List.take_succ_cons, List.take_nil, List.mem_cons, List.not_mem_nil, or_false] at hp
  rcases hp with rfl | rfl <;> simp⟩

theorem chk1 : checkS [xS, xQ] pP = 10 := by decide +kernel
theorem chk2 : checkS [xS, xP] pP = 0 := by decide +kernel
theorem chk3 : checkS [xP, xS] pP = 0 := by decide +kernel

theorem attr_ex : attrsS pP [xP, xS] 4 = [0, 1] := by
  unfold attrsS
  have h : attrsOf pP (ofCh [xP, xS] 4) = [0, 0, 1] := by decide +kernel
  rw [h, sortI_sorted (by decide)]
  decide +kernel

theorem f11_eq : f11 = some true := by
  have h43 : f43 = some pP := rfl
  have hf2 : Fit [xS, xP] := fit2 rfl rfl
  have hf3 : Fit [xP, xS] := fit2 rfl rfl
  have e16 : f16 [xS, xQ] pP = some 10 := by rw [f16_eq _ (fit2 rfl rfl), chk1]
  have e20 : f20 [xS, xP] pP 1 7 = some (1, 0, true, 0) := by
    rw [f20_eq _ _ _ hf2, chk2, if_neg (by simp)]
    decide +kernel
  have e22 : f22 [xP, xS] pP 1 5 = some (8, 0) := by
    rw [f22_eq _ _ _ hf3]
    decide +kernel
  have e22' : f22 [xP, xS] pP 1 506 = some (0, 12) := by
    rw [f22_eq _ _ _ hf3]
    decide +kernel
  have e24 : f24 [xP, xS] pP 1 = some (7, 0) := by
    rw [f24_eq _ _ hf3, chk3, if_neg (by simp)]
    decide +kernel
  have e12 : f12 [xP, xS] pP 4 = some ([xS, xP], 0) := by
    rw [f12_eq _ hf3 few_ex, chk3, if_neg (by simp)]
    rfl
  have e14 : f14 [xP, xS] pP 4 = some ([0, 1], 0) := by
    rw [f14_eq _ hf3 few_ex, chk3, if_neg (by simp), attr_ex]
  have e26 : f26 [xP, xS] pP ⟨4, 0⟩ = some (xS, ⟨0, 8, 0, 0, 0, 0, 0, 255, false, []⟩, true, 0) := by
    rw [f26_eq _ hf3 few_ex, chk3, if_neg (by simp)]
    rfl
  unfold f11
  rw [h43, Option.bind_some]
  show (f16 [xS, xQ] pP).bind _ = _
  rw [e16, Option.bind_some, if_neg (by decide)]
  show (f20 [xS, xP] pP 1 7).bind _ = _
  rw [e20, Option.bind_some]
  show (f22 [xP, xS] pP 1 5).bind _ = _
  rw [e22, Option.bind_some]
  show (f22 [xP, xS] pP 1 506).bind _ = _
  rw [e22', Option.bind_some]
  show (f24 [xP, xS] pP 1).bind _ = _
  rw [e24, Option.bind_some, if_neg (by decide), if_neg (by decide), if_neg (by decide), if_neg (by decide), if_neg (by decide), if_neg (by decide), if_neg (by decide)]
  show (f12 [xP, xS] pP 4).bind _ = _
  rw [e12, Option.bind_some]
  show (f14 [xP, xS] pP 4).bind _ = _
  rw [e14, Option.bind_some]
  show (f26 [xP, xS] pP ⟨4, 0⟩).bind _ = _
  rw [e26, Option.bind_some, if_pos (by decide), if_pos rfl]
  show (f18 [xS, xP] [xS, xP]).bind _ = _
  rw [f18_self (by simp), Option.bind_some, if_pos rfl]
  show (f19 [0, 1] [0, 1]).bind _ = _
  rw [f19_self (by simp), Option.bind_some, if_pos rfl, if_pos (by decide +kernel)]
  rfl
end Go.Proofs.Ythikbfhdebaceaa
