import Derived.Test.YtccipmhffapcmaaY101
namespace Go.Proofs.Ytccipmhffapcmaa
open Go Go.Ab
set_option linter.unusedSimpArgs false
theorem mul_bd {x y A B : Int} (hx : -A ≤ x ∧ x ≤ A) (hy : 0 ≤ y ∧ y ≤ B) (hA : 0 ≤ A) : -(A * B) ≤ x * y ∧ x * y ≤ A * B := by
  have h1 : x * y ≤ A * y := Int.mul_le_mul_of_nonneg_right hx.2 hy.1
  have h2 : A * y ≤ A * B := Int.mul_le_mul_of_nonneg_left hy.2 hA
  have h3 : (-A) * y ≤ x * y := Int.mul_le_mul_of_nonneg_right hx.1 hy.1
  have h4 : (-A) * y = -(A * y) := Int.neg_mul _ _
  omega
theorem floor_q {t y : Int} (hy : 0 < y) : (if t.tmod y < 0 then t.tdiv y - 1 else t.tdiv y) = t / y := by
  have h1 := Int.mul_tdiv_add_tmod t y
  have h2 : t.tmod y < y := Int.tmod_lt_of_pos t hy
  have h3 : -y < t.tmod y := by
    have := Int.tmod_lt_of_pos (-t) hy
    rw [Int.neg_tmod] at this
    omega
  have key : ∀ q : Int, q * y ≤ t → t < (q + 1) * y → t / y = q := fun q a b => by
    have c1 : q ≤ t / y := (Int.le_ediv_iff_mul_le hy).2 a
    have c2 : t / y < q + 1 := (Int.ediv_lt_iff_lt_mul hy).2 b
    omega
  split
  · refine (key _ ?_ ?_).symm
    · rw [Int.sub_mul, Int.mul_comm]; omega
    · rw [show t.tdiv y - 1 + 1 = t.tdiv y by omega, Int.mul_comm]; omega
  · refine (key _ ?_ ?_).symm
    · rw [Int.mul_comm]; omega
    · rw [Int.add_mul, Int.mul_comm]; omega

def betweenI (a b i n : Int) : Int := if n = 0 then a else (2 * (a * n + (b - a) * i) + n).tdiv (2 * n)
def ptI (a b d x : Int) : Int := if 0 < d then (if (2 * (b - a) * x + d).tmod (2 * d) < 0 then a + (2 * (b - a) * x + d).tdiv (2 * d) - 1 else a + (2 * (b - a) * x + d).tdiv (2 * d)) else a

theorem pt_between {a b d x : Int} (ha : 0 ≤ a) (hb : 0 ≤ b) (hx : 0 ≤ x) (hxd : x ≤ d) : ptI a b d x = betweenI a b x d := by
  by_cases hd : d = 0
  · subst hd; simp [ptI, betweenI]
  · have hd0 : 0 < d := by omega
    have hy : 0 < 2 * d := by omega
    simp only [ptI, betweenI, hd0, hd, if_true, if_false]
    have hf := floor_q (t := 2 * (b - a) * x + d) hy
    have e1 : (if (2 * (b - a) * x + d).tmod (2 * d) < 0 then a + (2 * (b - a) * x + d).tdiv (2 * d) - 1 else a + (2 * (b - a) * x + d).tdiv (2 * d)) = a + (2 * (b - a) * x + d) / (2 * d) := by
      rw [← hf]; split <;> omega
    rw [e1]
    have hN : 0 ≤ a * (d - x) + b * x := Int.add_nonneg (Int.mul_nonneg ha (by omega)) (Int.mul_nonneg hb hx)
    have e2 : a * (d - x) = a * d - a * x := Int.mul_sub _ _ _
    have e3 : (b - a) * x = b * x - a * x := Int.sub_mul _ _ _
    have e4 : 2 * (b - a) * x = 2 * ((b - a) * x) := Int.mul_assoc _ _ _
    rw [Int.tdiv_eq_ediv_of_nonneg (by omega)]
    have e5 : 2 * (a * d + (b - a) * x) + d = (2 * (b - a) * x + d) + a * (2 * d) := by
      have : a * (2 * d) = 2 * (a * d) := Int.mul_left_comm _ _ _
      omega
    rw [e5, Int.add_mul_ediv_right _ _ (by omega)]
    omega
def givenI (a b n : Int) : Int := if a < 0 ∨ a > 65535 ∨ b < 0 ∨ b > 65535 ∨ n < 0 ∨ n > 256 then 2 else 0
theorem f40_eq (a b n : Int) : f40 a b n = some (givenI a b n) := by
  simp only [f40, givenI, decide_eq_true_eq]
  repeat' split
  all_goals first | rfl | (exfalso; omega)

theorem f41_eq {a b i n : Int} (ha : 0 ≤ a ∧ a ≤ 65535) (hb : 0 ≤ b ∧ b ≤ 65535) (hi : 0 ≤ i ∧ i ≤ 1024) (hn : 0 ≤ n ∧ n ≤ 1024) : f41 a b i n = some (betweenI a b i n) := by
  have p1 := mul_bd (x := a) (y := n) (A := 65535) (B := 1024) (by omega) (by omega) (by omega)
  have p2 := mul_bd (x := b - a) (y := i) (A := 65535) (B := 1024) (by omega) (by omega) (by omega)
  simp (disch := omega) only [f41, betweenI, w64, decide_eq_true_eq]
  split
  · rfl
  · have hq : (2 * (a * n + (b - a) * i) + n).tdiv (2 * n) = (2 * (a * n + (b - a) * i) + n).tdiv (2 * n) := rfl
    have h2 : -9223372036854775808 ≤ (2 * (a * n + (b - a) * i) + n).tdiv (2 * n) ∧ (2 * (a * n + (b - a) * i) + n).tdiv (2 * n) ≤ 9223372036854775807 := by
      have := Int.natAbs_tdiv_le_natAbs (2 * (a * n + (b - a) * i) + n) (2 * n)
      omega
    simp (disch := omega) only [nz_some, Option.bind_some, w64]

/-- The levels of a fan. -/
def fanL (a b n w : Int) (part : Int → Int) : List Int := (List.range n.toNat).map fun (i : Nat) => ptI a b w (part (i : Int))

theorem fanL_succ (a b w : Int) (part : Int → Int) (k : Nat) : (List.range (k + 1)).map (fun i : Nat => ptI a b w (part i)) = (List.range k).map (fun i : Nat => ptI a b w (part i)) ++ [ptI a b w (part k)] := by
  rw [List.range_succ, List.map_append]; rfl

theorem f38_39_eq {a b n w : Int} (hw : w ≤ 1024) (hw' : -1024 ≤ w) : f38_39 a b n w = some (if givenI a b n = 0 then (fanL a b n w id, 0) else ([], 2)) := by
  by_cases hg : givenI a b n = 0
  · have hr : (0 ≤ a ∧ a ≤ 65535) ∧ (0 ≤ b ∧ b ≤ 65535) ∧ 0 ≤ n ∧ n ≤ 256 := by
      unfold givenI at hg; split at hg
      · cases hg
      · omega
    obtain ⟨ha, hb, hn⟩ := hr
    have e1 : f60 a = some true := by simp [f60, ha]
    have e2 : f60 b = some true := by simp [f60, hb]
    have e3 : Lp.run (f38_39_L1 n w b a) (0, []) = some (fanL a b n w id) := by
      refine run_count (L := f38_39_L1 n w b a) (fun k => ((k : Int), (List.range k).map fun i : Nat => ptI a b w (id (i : Int)))) n.toNat ?_ 0 (by omega) fun k h0 hk => ?_
      · simp only [f38_39_L1, fanL]
        rw [if_neg (by simp; omega)]
      · simp only [f38_39_L1]
        rw [if_pos (by simp; omega)]
        have hw1 : IntKind.i64.wrap ((k : Int) + 1) = ((k + 1 : Nat) : Int) := by rw [w64 (by omega) (by omega)]; omega
        by_cases hd : 0 < w
        · have p2 := mul_bd (x := 2 * (b - a)) (y := (k : Int)) (A := 131070) (B := 256) (by omega) (by omega) (by omega)
          have h2 : -100000000 ≤ (2 * (b - a) * (k : Int) + w).tdiv (2 * w) ∧ (2 * (b - a) * (k : Int) + w).tdiv (2 * w) ≤ 100000000 := by
            have := Int.natAbs_tdiv_le_natAbs (2 * (b - a) * (k : Int) + w) (2 * w)
            omega
          have hpt : ptI a b w (id (k : Int)) = (if (2 * (b - a) * (k : Int) + w).tmod (2 * w) < 0 then a + (2 * (b - a) * (k : Int) + w).tdiv (2 * w) - 1 else a + (2 * (b - a) * (k : Int) + w).tdiv (2 * w)) := by
            simp [ptI, hd]
          rw [if_pos (by simpa using hd)]
          simp (disch := omega) only [f39, Option.bind_some, w64, nz_some, decide_eq_true_eq, hw1]
          rw [fanL_succ, hpt]
          split
          · rw [app_some (by simp; omega) (by simp; omega)]
            simp (disch := omega) only [Option.bind_some, w64]
          · rw [app_some (by simp; omega) (by simp; omega)]
            simp (disch := omega) only [Option.bind_some, w64]
        · have hpt : ptI a b w (id (k : Int)) = a := by simp [ptI, hd]
          rw [if_neg (by simpa using hd), app_some (by simp; omega) (by simp; omega), hw1, fanL_succ, hpt]
          rfl
    simp only [f38_39, e1, e2, e3, hg, Option.bind_some, Bool.not_true, Bool.false_eq_true, if_false, if_true, decide_eq_true_eq]
    rw [if_neg (by omega), if_neg (by omega)]
  · rw [if_neg hg]
    have : ¬ (0 ≤ a ∧ a ≤ 65535 ∧ 0 ≤ b ∧ b ≤ 65535 ∧ 0 ≤ n ∧ n ≤ 256) := by
      intro h; apply hg; unfold givenI; rw [if_neg (by omega)]
    simp only [f38_39, f60, decide_eq_true_eq]
    by_cases h1 : 0 ≤ a <;> by_cases h2 : a ≤ 65535 <;> by_cases h3 : 0 ≤ b <;> by_cases h4 : b ≤ 65535 <;> by_cases h5 : n < 0 <;> by_cases h6 : 256 < n <;> simp [h1, h2, h3, h4, h5, h6] <;> omega

def cenP (n m i : Int) : Int := (if n - 1 - 2 * i > 2 * i - (n - 1) then n - 1 - 2 * i else 2 * i - (n - 1)) - m

theorem f42p_eq {n m i : Int} (hn : 0 ≤ n ∧ n ≤ 256) (hm : 0 ≤ m ∧ m ≤ 1) (hi : 0 ≤ i ∧ i ≤ 256) : f42p i n m = some (cenP n m i) := by
  simp (disch := omega) only [f42p, cenP, w64]

theorem f38_42_eq {a b n w m : Int} (hw : w ≤ 1024) (hw' : -1024 ≤ w) (hm : 0 ≤ m ∧ m ≤ 1) (hc : ∀ i, 0 ≤ i → i < n → 0 ≤ cenP n m i ∧ cenP n m i ≤ 256) : f38_42 a b n w n m = some (if givenI a b n = 0 then (fanL a b n w (cenP n m), 0) else ([], 2)) := by
  by_cases hg : givenI a b n = 0
  · have hr : (0 ≤ a ∧ a ≤ 65535) ∧ (0 ≤ b ∧ b ≤ 65535) ∧ 0 ≤ n ∧ n ≤ 256 := by
      unfold givenI at hg; split at hg
      · cases hg
      · omega
    obtain ⟨ha, hb, hn⟩ := hr
    have e1 : f60 a = some true := by simp [f60, ha]
    have e2 : f60 b = some true := by simp [f60, hb]
    have e3 : Lp.run (f38_42_L1 n w n m b a) (0, []) = some (fanL a b n w (cenP n m)) := by
      refine run_count (L := f38_42_L1 n w n m b a) (fun k => ((k : Int), (List.range k).map fun i : Nat => ptI a b w (cenP n m (i : Int)))) n.toNat ?_ 0 (by omega) fun k h0 hk => ?_
      · simp only [f38_42_L1, fanL]
        rw [if_neg (by simp; omega)]
      · simp only [f38_42_L1]
        rw [if_pos (by simp; omega)]
        have hw1 : IntKind.i64.wrap ((k : Int) + 1) = ((k + 1 : Nat) : Int) := by rw [w64 (by omega) (by omega)]; omega
        have hcp := hc (k : Int) (by omega) (by omega)
        have hcp' := f42p_eq (n := n) (m := m) (i := (k : Int)) hn hm (by omega)
        generalize hx : cenP n m (k : Int) = x at hcp hcp'
        by_cases hd : 0 < w
        · have p2 := mul_bd (x := 2 * (b - a)) (y := x) (A := 131070) (B := 256) (by omega) (by omega) (by omega)
          have h2 : -100000000 ≤ (2 * (b - a) * x + w).tdiv (2 * w) ∧ (2 * (b - a) * x + w).tdiv (2 * w) ≤ 100000000 := by
            have := Int.natAbs_tdiv_le_natAbs (2 * (b - a) * x + w) (2 * w)
            omega
          have hpt : ptI a b w (cenP n m (k : Int)) = (if (2 * (b - a) * x + w).tmod (2 * w) < 0 then a + (2 * (b - a) * x + w).tdiv (2 * w) - 1 else a + (2 * (b - a) * x + w).tdiv (2 * w)) := by
            simp [ptI, hd, hx]
          rw [if_pos (by simpa using hd)]
          simp (disch := omega) only [hcp', Option.bind_some, w64, nz_some, decide_eq_true_eq, hw1]
          rw [fanL_succ, hpt]
          split
          · rw [app_some (by simp; omega) (by simp; omega)]
            simp (disch := omega) only [Option.bind_some]
          · rw [app_some (by simp; omega) (by simp; omega)]
            simp (disch := omega) only [Option.bind_some]
        · have hpt : ptI a b w (cenP n m (k : Int)) = a := by simp [ptI, hd]
          rw [if_neg (by simpa using hd), app_some (by simp; omega) (by simp; omega), hw1, fanL_succ, hpt]
          rfl
    simp only [f38_42, e1, e2, e3, hg, Option.bind_some, Bool.not_true, Bool.false_eq_true, if_false, if_true, decide_eq_true_eq]
    rw [if_neg (by omega), if_neg (by omega)]
  · rw [if_neg hg]
    have : ¬ (0 ≤ a ∧ a ≤ 65535 ∧ 0 ≤ b ∧ b ≤ 65535 ∧ 0 ≤ n ∧ n ≤ 256) := by
      intro h; apply hg; unfold givenI; rw [if_neg (by omega)]
    simp only [f38_42, f60, decide_eq_true_eq]
    by_cases h1 : 0 ≤ a <;> by_cases h2 : a ≤ 65535 <;> by_cases h3 : 0 ≤ b <;> by_cases h4 : b ≤ 65535 <;> by_cases h5 : n < 0 <;> by_cases h6 : 256 < n <;> simp [h1, h2, h3, h4, h5, h6] <;> omega

/-- Fan and Centre. -/
def fanS (a b n : Int) : List Int × Int := if givenI a b n = 0 then (fanL a b n (n - 1) id, 0) else ([], 2)
def cenM (n : Int) : Int := 1 - n % 2
def cenS (a b n : Int) : List Int × Int := if givenI a b n = 0 then (fanL a b n (n - 1 - cenM n) (cenP n (cenM n)), 0) else ([], 2)

theorem given_ok {a b n : Int} (h : givenI a b n = 0) : (0 ≤ a ∧ a ≤ 65535) ∧ (0 ≤ b ∧ b ≤ 65535) ∧ 0 ≤ n ∧ n ≤ 256 := by
  unfold givenI at h; split at h
  · cases h
  · omega
theorem given_no {a b n : Int} (h : ¬ givenI a b n = 0) : givenI a b n = 2 := by
  unfold givenI at h ⊢; split at h
  · rw [if_pos (by assumption)]
  · exact absurd rfl h

theorem f38_39_no {a b n w : Int} (hg : ¬ givenI a b n = 0) : f38_39 a b n w = some ([], 2) := by
  have : ¬ (0 ≤ a ∧ a ≤ 65535 ∧ 0 ≤ b ∧ b ≤ 65535 ∧ 0 ≤ n ∧ n ≤ 256) := by
    intro h; apply hg; unfold givenI; rw [if_neg (by omega)]
  simp only [f38_39, f60, decide_eq_true_eq]
  by_cases h1 : 0 ≤ a <;> by_cases h2 : a ≤ 65535 <;> by_cases h3 : 0 ≤ b <;> by_cases h4 : b ≤ 65535 <;> by_cases h5 : n < 0 <;> by_cases h6 : 256 < n <;> simp [h1, h2, h3, h4, h5, h6] <;> omega
theorem f38_42_no {a b n w p q : Int} (hg : ¬ givenI a b n = 0) : f38_42 a b n w p q = some ([], 2) := by
  have : ¬ (0 ≤ a ∧ a ≤ 65535 ∧ 0 ≤ b ∧ b ≤ 65535 ∧ 0 ≤ n ∧ n ≤ 256) := by
    intro h; apply hg; unfold givenI; rw [if_neg (by omega)]
  simp only [f38_42, f60, decide_eq_true_eq]
  by_cases h1 : 0 ≤ a <;> by_cases h2 : a ≤ 65535 <;> by_cases h3 : 0 ≤ b <;> by_cases h4 : b ≤ 65535 <;> by_cases h5 : n < 0 <;> by_cases h6 : 256 < n <;> simp [h1, h2, h3, h4, h5, h6] <;> omega

theorem f11_eq (a b n : Int) : f11 a b n = some (fanS a b n) := by
  by_cases hg : givenI a b n = 0
  · obtain ⟨_, _, hn⟩ := given_ok hg
    simp only [f11, fanS, hg, if_true]
    rw [w64 (by omega) (by omega), f38_39_eq (by omega) (by omega), if_pos hg]
    rfl
  · simp only [f11, fanS, hg, if_false, f38_39_no hg, Option.bind_some]

theorem cenP_bd {n i : Int} (h0 : 0 ≤ i) (h1 : i < n) : 0 ≤ cenP n (cenM n) i ∧ cenP n (cenM n) i ≤ n - 1 - cenM n := by
  unfold cenP cenM
  split <;> omega

theorem f13_eq (a b n : Int) : f13 a b n = some (cenS a b n) := by
  by_cases hg : givenI a b n = 0
  · obtain ⟨_, _, hn⟩ := given_ok hg
    have hm : IntKind.i64.wrap (1 - n.tmod 2) = cenM n := by
      rw [Int.tmod_eq_emod_of_nonneg hn.1, w64 (by omega) (by omega)]; rfl
    have hm' : 0 ≤ cenM n ∧ cenM n ≤ 1 := by unfold cenM; omega
    simp only [f13, cenS, hg, if_true, hm]
    rw [w64 (a := n - 1) (by omega) (by omega), w64 (by omega) (by omega), f38_42_eq (by omega) (by omega) hm' (fun i h0 h1 => by have := cenP_bd h0 h1; omega), if_pos hg]
    rfl
  · simp only [f13, cenS, hg, if_false, f38_42_no hg, Option.bind_some]

theorem f12_eq (a b n : Int) : f12 a b n = some (fanS a b n) := by
  by_cases hg : givenI a b n = 0
  · obtain ⟨ha, hb, hn⟩ := given_ok hg
    have e3 : Lp.run (f12_L1 n a b) (0, []) = some (fanL a b n (n - 1) id) := by
      refine run_count (L := f12_L1 n a b) (fun k => ((k : Int), (List.range k).map fun i : Nat => ptI a b (n - 1) (id (i : Int)))) n.toNat ?_ 0 (by omega) fun k h0 hk => ?_
      · simp only [f12_L1, fanL]
        rw [if_neg (by simp; omega)]
      · simp only [f12_L1]
        rw [if_pos (by simp; omega)]
        simp (disch := omega) only [w64, f41_eq ha hb, Option.bind_some]
        rw [app_some (by simp; omega) (by simp; omega), fanL_succ, Option.bind_some, ← pt_between (by omega) (by omega) (by omega) (by omega)]
        rfl
    simp only [f12, f40_eq, e3, hg, Option.bind_some, fanS, if_true, decide_eq_true_eq]
    rfl
  · simp only [f12, f40_eq, fanS, hg, if_false, Option.bind_some, given_no hg]
    rfl

theorem f14_eq (a b n : Int) : f14 a b n = some (cenS a b n) := by
  by_cases hg : givenI a b n = 0
  · obtain ⟨ha, hb, hn⟩ := given_ok hg
    have h2 : n.tmod 2 = n % 2 := Int.tmod_eq_emod_of_nonneg hn.1
    have step : ∀ (m : Int) (k : Nat), m = cenM n → (k : Int) < n → f41 a b (IntKind.i64.wrap ((if IntKind.i64.wrap (IntKind.i64.wrap (n - 1) - IntKind.i64.wrap (2 * (k : Int))) > IntKind.i64.wrap (IntKind.i64.wrap (2 * (k : Int)) - IntKind.i64.wrap (n - 1)) then IntKind.i64.wrap (IntKind.i64.wrap (n - 1) - IntKind.i64.wrap (2 * (k : Int))) else IntKind.i64.wrap (IntKind.i64.wrap (2 * (k : Int)) - IntKind.i64.wrap (n - 1))) - m)) (IntKind.i64.wrap (IntKind.i64.wrap (n - 1) - m)) = some (ptI a b (n - 1 - cenM n) (cenP n (cenM n) (k : Int))) := fun m k hm hk => by
      have hb' := cenP_bd (n := n) (i := (k : Int)) (by omega) hk
      have hm' : 0 ≤ cenM n ∧ cenM n ≤ 1 := by unfold cenM; omega
      subst hm
      have e : IntKind.i64.wrap ((if IntKind.i64.wrap (IntKind.i64.wrap (n - 1) - IntKind.i64.wrap (2 * (k : Int))) > IntKind.i64.wrap (IntKind.i64.wrap (2 * (k : Int)) - IntKind.i64.wrap (n - 1)) then IntKind.i64.wrap (IntKind.i64.wrap (n - 1) - IntKind.i64.wrap (2 * (k : Int))) else IntKind.i64.wrap (IntKind.i64.wrap (2 * (k : Int)) - IntKind.i64.wrap (n - 1))) - cenM n) = cenP n (cenM n) (k : Int) := by
        simp (disch := omega) only [w64]
        unfold cenP
        rfl
      rw [e, w64 (a := n - 1) (by omega) (by omega), w64 (by omega) (by omega), f41_eq ha hb (by omega) (by omega), pt_between (by omega) (by omega) (by omega) (by omega)]
    have e3 : ∀ m, m = cenM n → Lp.run (f14_L2 n a b m) (0, []) = some (fanL a b n (n - 1 - cenM n) (cenP n (cenM n))) := fun m hm => by
      refine run_count (L := f14_L2 n a b m) (fun k => ((k : Int), (List.range k).map fun i : Nat => ptI a b (n - 1 - cenM n) (cenP n (cenM n) (i : Int)))) n.toNat ?_ 0 (by omega) fun k h0 hk => ?_
      · simp only [f14_L2, fanL]
        rw [if_neg (by simp; omega)]
      · simp only [f14_L2]
        rw [if_pos (by simp; omega), step m k hm (by omega), Option.bind_some, app_some (by simp; omega) (by simp; omega), fanL_succ, Option.bind_some, w64 (by omega) (by omega)]
        rfl
    by_cases h0 : n % 2 = 0
    · have hm : (1 : Int) = cenM n := by unfold cenM; omega
      simp only [f14, f14_J1, f40_eq, e3 1 hm, hg, h2, h0, Option.bind_some, cenS, if_true, decide_eq_true_eq]
      rfl
    · have hm : (0 : Int) = cenM n := by unfold cenM; omega
      simp only [f14, f14_J1, f40_eq, e3 0 hm, hg, h2, h0, Option.bind_some, cenS, if_true, if_false, decide_eq_true_eq]
      rfl
  · simp only [f14, f40_eq, cenS, hg, if_false, Option.bind_some, given_no hg]
    rfl
theorem f16_eq {xs ys : List Int} (hm : xs.length ≤ 9223372036854775807) : f16 xs ys = some (decide (xs = ys)) := by
  unfold f16
  by_cases hl : xs.length = ys.length
  · rw [if_neg (by simp; omega), run_equal (xs := xs) (ys := ys) (fun _ => rfl) hl hm]
    by_cases he : xs = ys <;> simp [he]
  · rw [if_pos (by simp; omega)]
    have : xs ≠ ys := fun e => hl (by rw [e])
    simp [this]

theorem f61_eq {xs : List Int} {v : Int} (hm : xs.length ≤ 9223372036854775807) : f61 xs v = some (idx xs v) := by
  unfold f61 idx
  rw [run_index (xs := xs) (v := v) (fun _ => rfl) hm]
  by_cases he : v ∈ xs <;> simp [he]

theorem idx_nonneg {xs : List Int} {v : Int} : 0 ≤ idx xs v ↔ v ∈ xs := by unfold idx; split <;> simp [*]

theorem f44_eq {xs : List Int} {v : Int} (hm : xs.length ≤ 9223372036854775807) : f44 xs v = some (decide (v ∈ xs)) := by
  unfold f44
  rw [f61_eq hm]
  simp [idx_nonneg]

/-- The first fault of channels, of which some have been seen. -/
def scan (seen : List Int) : List Int → Int
  | [] => 0
  | x :: xs => if x < 1 ∨ x > 999 then 2 else if x ∈ seen then 7 else scan (seen ++ [x]) xs
def checkG (g : ApiGroup) : Int := if g.fNumber < 1 ∨ g.fNumber > 1048576 then 2 else if g.fChannels.length > 256 then 5 else scan [] g.fChannels

theorem f20_eq (g : ApiGroup) : f20 g = some (checkG g) := by
  unfold f20 checkG
  by_cases h1 : g.fNumber < 1 ∨ g.fNumber > 1048576
  · rw [if_pos h1]
    by_cases h : g.fNumber < 1
    · rw [if_pos (by simpa using h)]
    · rw [if_neg (by simpa using h), if_pos (by simp; omega)]
  rw [if_neg h1, if_neg (by simp; omega), if_neg (by simp; omega)]
  by_cases h2 : g.fChannels.length > 256
  · rw [if_pos h2, if_pos (by simp; omega)]
  rw [if_neg h2, if_neg (by simp; omega)]
  generalize hms : g.fChannels = ms at h2
  obtain ⟨e, h3, h4⟩ := run_ex (L := f20_L1 g) (s0 := 0) (fun e => (match e with | Sum.inl () => some 0 | Sum.inr v => some v) = some (scan [] ms)) (fun i => ∃ k : Nat, i = k ∧ k ≤ ms.length ∧ scan (ms.take k) (ms.drop k) = scan [] ms) (fun i => ms.length - i.toNat) ⟨0, rfl, Nat.zero_le _, rfl⟩ (by
    rintro _ ⟨k, rfl, hk, hs⟩
    simp only [f20_L1, hms]
    by_cases hlt : k < ms.length
    · rw [if_pos (by simpa using hlt), at_nat (List.getElem?_eq_getElem hlt)]
      rw [List.drop_eq_getElem_cons hlt] at hs
      simp only [Option.bind_some, decide_eq_true_eq]
      by_cases c1 : ms[k] < 1
      · right; rw [if_pos c1]; refine ⟨_, rfl, ?_⟩; rw [← hs]; simp [scan, c1]
      rw [if_neg c1]
      by_cases c2 : 999 < ms[k]
      · right; rw [if_pos c2]; refine ⟨_, rfl, ?_⟩; rw [← hs]; simp [scan, c2]
      rw [if_neg c2, slc_some (by omega)]
      simp only [Option.bind_some, Int.toNat_natCast, Int.toNat_zero, List.drop_zero]
      rw [f44_eq (by simp; omega)]
      simp only [Option.bind_some, decide_eq_true_eq]
      by_cases c3 : ms[k] ∈ ms.take k
      · right; rw [if_pos c3]; refine ⟨_, rfl, ?_⟩; rw [← hs]; simp [scan, c1, c2, c3]
      · left; rw [if_neg c3]
        refine ⟨((k + 1 : Nat) : Int), by rw [w64 (by omega) (by omega)]; rfl, ⟨k + 1, rfl, hlt, ?_⟩, by simp; omega⟩
        rw [← hs, List.take_succ_eq_append_getElem hlt, scan, if_neg (by omega), if_neg c3]
    · right
      rw [if_neg (by simpa using hlt)]
      refine ⟨_, rfl, ?_⟩
      rw [← hs, List.drop_eq_nil_of_le (by omega)]
      rfl)
  rw [h3, Option.bind_some]
  exact h4

/-- Every step-th of the elements, from one on. -/
def evL (s : Nat) : Nat → Nat → List Int → List Int
  | 0, _, _ => []
  | m + 1, i, xs => match xs[i]? with
    | some x => x :: evL s m (i + s) xs
    | none => []
def everyS (g : ApiGroup) (step first : Int) : ApiGroup × Int :=
  if checkG g ≠ 0 then (⟨0, []⟩, checkG g) else if step < 1 ∨ step > 256 ∨ first < 0 ∨ first > 256 then (⟨0, []⟩, 2) else (⟨g.fNumber, evL step.toNat (g.fChannels.length + 1) first.toNat g.fChannels⟩, 0)

theorem check_len {g : ApiGroup} (h : checkG g = 0) : g.fChannels.length ≤ 256 := by
  unfold checkG at h
  split at h
  · cases h
  · split at h
    · cases h
    · omega

theorem f26_L1_eq {g : ApiGroup} {s : Int} (h1 : 1 ≤ s) (h2 : s ≤ 256) (hl : g.fChannels.length ≤ 256) : ∀ (m i : Nat) (acc : List Int), i ≤ 1024 → acc.length + m ≤ 2000 → g.fChannels.length < m + i → (f26_L1 g s).run ((i : Int), acc) = some (acc ++ evL s.toNat m i g.fChannels)
  | 0, i, acc, hi, ha, hm => by
    refine iter_brk ?_
    simp only [f26_L1]
    rw [if_neg (by simp; omega)]
    simp [evL]
  | m + 1, i, acc, hi, ha, hm => by
    by_cases hlt : i < g.fChannels.length
    · have hb : (f26_L1 g s).body ((i : Int), acc) = some (.next (((i + s.toNat : Nat) : Int), acc ++ [g.fChannels[i]])) := by
        simp only [f26_L1]
        rw [if_pos (by simpa using hlt), at_nat (List.getElem?_eq_getElem hlt)]
        simp only [Option.bind_some]
        rw [app_some (by simp; omega) (by simp; omega), w64 (by omega) (by omega)]
        simp only [Option.bind_some]
        congr 3
        omega
      rw [show (f26_L1 g s).run ((i : Int), acc) = iter (f26_L1 g s).body ((i : Int), acc) from rfl, iter_next hb]
      have := f26_L1_eq h1 h2 hl m (i + s.toNat) (acc ++ [g.fChannels[i]]) (by omega) (by simp; omega) (by omega)
      rw [show iter (f26_L1 g s).body (((i + s.toNat : Nat) : Int), acc ++ [g.fChannels[i]]) = (f26_L1 g s).run (((i + s.toNat : Nat) : Int), acc ++ [g.fChannels[i]]) from rfl, this]
      simp [evL, List.getElem?_eq_getElem hlt]
    · refine iter_brk ?_
      simp only [f26_L1]
      rw [if_neg (by simpa using hlt)]
      simp [evL, List.getElem?_eq_none (Nat.le_of_not_lt hlt)]

theorem f26_eq (g : ApiGroup) (step first : Int) : f26 g step first = some (everyS g step first) := by
  unfold f26 everyS
  simp only [f20_eq, Option.bind_some, decide_eq_true_eq]
  by_cases h0 : checkG g = 0
  · have hl := check_len h0
    simp only [h0, ne_eq, not_true_eq_false, if_false]
    by_cases c : step < 1 ∨ step > 256 ∨ first < 0 ∨ first > 256
    · rw [if_pos c]
      by_cases c1 : step < 1 <;> by_cases c2 : 256 < step <;> by_cases c3 : first < 0 <;> by_cases c4 : 256 < first <;> simp [c1, c2, c3, c4] <;> omega
    · rw [if_neg c, if_neg (by omega), if_neg (by omega), if_neg (by omega), if_neg (by omega)]
      have := f26_L1_eq (g := g) (s := step) (by omega) (by omega) hl (g.fChannels.length + 1) first.toNat [] (by omega) (by simp; omega) (by omega)
      rw [show ((first.toNat : Nat) : Int) = first by omega] at this
      rw [this]
      rfl
  · rw [if_pos h0, if_pos h0]

theorem f15_eq : f15 = some true := by
  have e1 : (fanS 0 100 5) = ([0, 25, 50, 75, 100], 0) := by decide
  have e2 : (fanS 0 10 4) = ([0, 3, 7, 10], 0) := by decide
  have e3 : (cenS 0 100 5) = ([100, 50, 0, 50, 100], 0) := by decide
  have e4 : (cenS 0 100 4) = ([100, 0, 0, 100], 0) := by decide
  have e5 : everyS ⟨1, [7, 5, 9, 1]⟩ 2 1 = (⟨1, [5, 1]⟩, 0) := by rfl
  have e6 : checkG ⟨0, []⟩ = 2 := by decide
  have w0 : IntKind.i64.wrap 0 = 0 := by decide
  have hq : ∀ xs : List Int, xs.length ≤ 100 → f16 xs xs = some true := fun xs h => by rw [f16_eq (by omega)]; simp
  simp only [f15, f11_eq, f13_eq, f26_eq, f20_eq, e1, e2, e3, e4, e5, e6, Option.bind_some, Int.add_zero, w0, decide_true, if_true]
  rw [hq _ (by decide), hq _ (by decide), hq _ (by decide), hq _ (by decide), hq _ (by decide)]
  rfl

theorem fanL_len {a b n w : Int} {p : Int → Int} : (fanL a b n w p).length = n.toNat := by simp [fanL]

theorem f3_eq (a b n : Int) : f3 a b n = some true := by
  have hl1 : (fanS a b n).1.length ≤ 9223372036854775807 := by
    unfold fanS; split
    · rename_i h; have := given_ok h; rw [fanL_len]; omega
    · simp
  have hl2 : (cenS a b n).1.length ≤ 9223372036854775807 := by
    unfold cenS; split
    · rename_i h; have := given_ok h; rw [fanL_len]; omega
    · simp
  simp only [f3, f11_eq, f12_eq, f13_eq, f14_eq, f15_eq, Option.bind_some, if_true, f16_eq hl1, f16_eq hl2, decide_true]
end Go.Proofs.Ytccipmhffapcmaa
