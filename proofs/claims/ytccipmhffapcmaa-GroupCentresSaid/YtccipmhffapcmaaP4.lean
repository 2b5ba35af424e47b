import Derived.Test.YtccipmhffapcmaaP2
namespace Go.Proofs.Ytccipmhffapcmaa
open Go Go.Ab
set_option linter.unusedSimpArgs false
set_option linter.unusedVariables false

/-- The part of the way, rounded. -/
def qI (D d x : Int) : Int := (2 * D * x + d) / (2 * d)

theorem ptI_q {a b d x : Int} (hd : 0 < d) : ptI a b d x = a + qI (b - a) d x := by
  have hf := floor_q (t := 2 * (b - a) * x + d) (y := 2 * d) (by omega)
  unfold ptI qI
  rw [if_pos hd, ← hf]
  split <;> omega

theorem qI_zero {D d : Int} (hd : 0 < d) : qI D d 0 = 0 := by
  unfold qI
  rw [Int.mul_zero, Int.zero_add]
  exact Int.ediv_eq_zero_of_lt (by omega) (by omega)

theorem qI_full {D d : Int} (hd : 0 < d) : qI D d d = D := by
  unfold qI
  have : 2 * D * d + d = d + D * (2 * d) := by
    have h1 : D * (2 * d) = 2 * D * d := by rw [← Int.mul_assoc, Int.mul_comm D 2]
    omega
  rw [this, Int.add_mul_ediv_right _ _ (by omega), Int.ediv_eq_zero_of_lt (by omega) (by omega)]
  omega

theorem qI_flip {a b d x : Int} (hd : 0 < d) : b + qI (a - b) d (d - x) = a + qI (b - a) d x := by
  unfold qI
  have : 2 * (a - b) * (d - x) + d = (2 * (b - a) * x + d) + (a - b) * (2 * d) := by
    have h1 : (a - b) * (2 * d) = 2 * (a - b) * d := by rw [← Int.mul_assoc, Int.mul_comm (a - b) 2]
    have h2 : 2 * (a - b) * (d - x) = 2 * (a - b) * d - 2 * (a - b) * x := Int.mul_sub _ _ _
    have h3 : 2 * (b - a) * x = -(2 * (a - b) * x) := by rw [show 2 * (b - a) = -(2 * (a - b)) by omega, Int.neg_mul]
    omega
  rw [this, Int.add_mul_ediv_right _ _ (by omega)]
  omega

/-- The least and the greatest step. -/
def loI (D d : Int) : Int := D / d
def hiI' (D d : Int) : Int := if D = 0 then 0 else D / d + 1

theorem qI_step {D d x : Int} (hd : 0 < d) : loI D d ≤ qI D d (x + 1) - qI D d x ∧ qI D d (x + 1) - qI D d x ≤ hiI' D d := by
  unfold loI hiI' qI
  have hm : 0 < 2 * d := by omega
  have hr0 := Int.emod_nonneg D (show d ≠ 0 by omega)
  have hr1 := Int.emod_lt_of_pos D hd
  have hD := Int.mul_ediv_add_emod D d
  generalize hN : 2 * D * x + d = N
  have h1 : 2 * D * (x + 1) + d = (N + 2 * (D % d)) + (D / d) * (2 * d) := by
    have e1 : 2 * D * (x + 1) = 2 * D * x + 2 * D := by rw [Int.mul_add, Int.mul_one]
    have e2 : D / d * (2 * d) = 2 * (d * (D / d)) := by rw [Int.mul_comm (D / d) (2 * d), Int.mul_assoc]
    omega
  rw [h1, Int.add_mul_ediv_right _ _ (by omega)]
  have h2 : N / (2 * d) ≤ (N + 2 * (D % d)) / (2 * d) := Int.ediv_le_ediv hm (by omega)
  have h3 : (N + 2 * (D % d)) / (2 * d) ≤ (N + 1 * (2 * d)) / (2 * d) := Int.ediv_le_ediv hm (by omega)
  rw [Int.add_mul_ediv_right _ _ (by omega)] at h3
  refine ⟨by omega, ?_⟩
  split
  · rename_i h0
    subst h0
    simp only [Int.zero_ediv, Int.zero_emod, Int.mul_zero, Int.add_zero, Int.zero_mul] at *
    omega
  · omega

theorem qI_mono {D d x y : Int} (hd : 0 < d) (hD : 0 ≤ D) (h : x ≤ y) : qI D d x ≤ qI D d y := by
  unfold qI
  refine Int.ediv_le_ediv (by omega) ?_
  have := Int.mul_le_mul_of_nonneg_left h (show 0 ≤ 2 * D by omega)
  omega
theorem qI_anti {D d x y : Int} (hd : 0 < d) (hD : D ≤ 0) (h : x ≤ y) : qI D d y ≤ qI D d x := by
  unfold qI
  refine Int.ediv_le_ediv (by omega) ?_
  have := Int.mul_le_mul_of_nonneg_left h (show 0 ≤ -(2 * D) by omega)
  rw [Int.neg_mul, Int.neg_mul] at this
  omega
theorem qI_bd {a b d x : Int} (ha : 0 ≤ a ∧ a ≤ 65535) (hb : 0 ≤ b ∧ b ≤ 65535) (hd : 0 < d) (h0 : 0 ≤ x) (h1 : x ≤ d) : 0 ≤ a + qI (b - a) d x ∧ a + qI (b - a) d x ≤ 65535 := by
  have e0 := qI_zero (D := b - a) hd
  have e1 := qI_full (D := b - a) hd
  by_cases hD : 0 ≤ b - a
  · have h2 := qI_mono hd hD h0
    have h3 := qI_mono hd hD h1
    omega
  · have h2 := qI_anti hd (by omega : b - a ≤ 0) h0
    have h3 := qI_anti hd (by omega : b - a ≤ 0) h1
    omega

theorem fan_at {a b n w : Int} {p : Int → Int} {k : Nat} (hk : (k : Int) < n) : (fanL a b n w p)[k]? = some (ptI a b w (p (k : Int))) := by
  unfold fanL
  rw [List.getElem?_map, List.getElem?_range (by omega)]
  rfl

theorem fan_at' {a b n w : Int} {p : Int → Int} {i : Int} (h0 : 0 ≤ i) (h1 : i < n) : at? (fanL a b n w p) i = some (ptI a b w (p i)) := by
  have := at_nat (fan_at (a := a) (b := b) (n := n) (w := w) (p := p) (k := i.toNat) (by omega))
  rw [Int.toNat_of_nonneg h0] at this
  exact this

theorem wfu (k : IntKind) (n : Int) (h : (Lit.int k n).wf = true) : k.min ≤ n ∧ n ≤ k.max := by simpa [Lit.wf] using h

theorem f4_eq {a b n : Int} (ha : 0 ≤ a ∧ a ≤ 65535) (hb : 0 ≤ b ∧ b ≤ 65535) (hn : 0 ≤ n ∧ n ≤ 255) : f4 a b n = some true := by
  have hg1 : givenI a b n = 0 := by unfold givenI; rw [if_neg (by omega)]
  have hg2 : givenI b a n = 0 := by unfold givenI; rw [if_neg (by omega)]
  have wa : IntKind.i64.wrap a = a := w64 (by omega) (by omega)
  have wb : IntKind.i64.wrap b = b := w64 (by omega) (by omega)
  have wn : IntKind.i64.wrap n = n := w64 (by omega) (by omega)
  have hl : ∀ c d : Int, (((fanL c d n (n - 1) id).length : Nat) : Int) = n := fun c d => by rw [fanL_len]; omega
  unfold f4
  simp only [wa, wb, wn, f11_eq, fanS, hg1, hg2, if_true, Option.bind_some, hl, f15_eq, ne_eq, not_true_eq_false, decide_false, Bool.false_eq_true, if_false, decide_eq_true_eq]
  by_cases h0 : n = 0
  · rw [if_pos h0]
  rw [if_neg h0]
  have pt0 : ptI a b (n - 1) 0 = a := by
    by_cases h1 : 0 < n - 1
    · rw [ptI_q h1, qI_zero h1]; omega
    · unfold ptI; rw [if_neg h1]
  have ptN : 0 < n - 1 → ptI a b (n - 1) (n - 1) = b := fun h1 => by rw [ptI_q h1, qI_full h1]; omega
  rw [fan_at' (by omega) (by omega)]
  simp only [id, Option.bind_some, pt0, not_true_eq_false, if_false]
  have J : (f4_J1 n (fanL a b n (n - 1) id, 0) (fanL b a n (n - 1) id, 0) b a).run () = some true := by
    simp only [f4_J1, wa, wb, wn, f15_eq, Option.bind_some, decide_eq_true_eq]
    by_cases h1 : 0 < n - 1
    · have hbd := fun x h0 h1' => qI_bd (x := x) ha hb h1 h0 h1'
      obtain ⟨e, r1, r2⟩ := run_ex (L := f4_L2 n (fanL a b n (n - 1) id, 0) (fanL b a n (n - 1) id, 0) b a) (s0 := (65535, -65535, 1))
        (fun e => ∃ lo hi : Int, e = Sum.inl (lo, hi) ∧ loI (b - a) (n - 1) ≤ lo ∧ hi ≤ hiI' (b - a) (n - 1) ∧ -70000 ≤ lo ∧ lo ≤ 70000 ∧ -70000 ≤ hi ∧ hi ≤ 70000)
        (fun s => ∃ lo hi i : Int, s = (lo, hi, i) ∧ 1 ≤ i ∧ i ≤ n ∧ loI (b - a) (n - 1) ≤ lo ∧ hi ≤ hiI' (b - a) (n - 1) ∧ -65535 ≤ lo ∧ lo ≤ 65535 ∧ -65535 ≤ hi ∧ hi ≤ 65535) (fun s => (n - s.2.2).toNat)
        (by
          have s0 := qI_step (D := b - a) (d := n - 1) (x := 0) h1
          have b0 := hbd 0 (by omega) (by omega)
          have b1 := hbd (0 + 1) (by omega) (by omega)
          exact ⟨_, _, _, rfl, by omega, by omega, by omega, by omega, by omega, by omega, by omega, by omega⟩)
        (by
          rintro _ ⟨lo, hi, i, rfl, i1, i2, l1, l2, l3, l4, l5, l6⟩
          simp only [f4_L2, wn]
          by_cases hi' : i < n
          · left
            rw [if_pos (by simpa using hi'), fan_at' (by omega) hi', w64 (a := i - 1) (by omega) (by omega), fan_at' (by omega) (by omega), w64 (a := n - 1) (by omega) (by omega), w64 (a := n - 1 - i) (by omega) (by omega), fan_at' (by omega) (by omega)]
            have s0 := qI_step (D := b - a) (d := n - 1) (x := i - 1) h1
            rw [show i - 1 + 1 = i by omega] at s0
            have b0 := hbd i (by omega) (by omega)
            have b1 := hbd (i - 1) (by omega) (by omega)
            have fl := qI_flip (a := a) (b := b) (d := n - 1) (x := i) h1
            simp only [id, Option.bind_some, ptI_q h1, fl, ne_eq, not_true_eq_false, decide_false, Bool.false_eq_true, if_false]
            rw [w64 (a := a + qI (b - a) (n - 1) i - (a + qI (b - a) (n - 1) (i - 1))) (by omega) (by omega), w64 (a := i + 1) (by omega) (by omega)]
            refine ⟨_, rfl, ⟨_, _, _, rfl, by omega, by omega, ?_, ?_, ?_, ?_, ?_, ?_⟩, by simp; omega⟩ <;> split <;> omega
          · right
            rw [if_neg (by simpa using hi')]
            exact ⟨_, rfl, _, _, rfl, l1, l2, by omega, by omega, by omega, by omega⟩)
      obtain ⟨lo, hi, rfl, k1, k2, k3, k4, k5, k6⟩ := r2
      rw [r1]
      simp only [Option.bind_some]
      rw [if_neg (by omega), w64 (by omega) (by omega)]
      have hd : hi - lo ≤ 1 := by
        unfold loI at k1; unfold hiI' at k2
        split at k2
        · rename_i h0; rw [h0, Int.zero_ediv] at k1; omega
        · omega
      have hm := Int.mul_ediv_add_emod (b - a) (n - 1)
      have hm0 := Int.emod_nonneg (b - a) (show n - 1 ≠ 0 by omega)
      have hm1 := Int.emod_lt_of_pos (b - a) h1
      rw [if_pos hd]
      have p1 : ¬ b < a → 0 ≤ lo := fun h => by
        have : 0 ≤ (b - a) / (n - 1) := Int.ediv_nonneg (by omega) (by omega)
        unfold loI at k1; omega
      have p2 : ¬ a < b → hi ≤ 0 := fun h => by
        unfold hiI' at k2
        split at k2
        · omega
        · have : (b - a) / (n - 1) < 0 := Int.ediv_neg_of_neg_of_pos (by omega) h1
          omega
      by_cases c1 : b < a
      · rw [if_pos c1, if_neg (by omega), if_pos (p2 (by omega))]
      · rw [if_neg c1, if_pos (p1 c1)]
        by_cases c2 : a < b
        · rw [if_pos c2]
        · rw [if_neg c2, if_pos (p2 c2)]
    · have : (f4_L2 n (fanL a b n (n - 1) id, 0) (fanL b a n (n - 1) id, 0) b a).run (65535, -65535, 1) = some (Sum.inl (65535, -65535)) := by
        refine iter_brk ?_
        simp only [f4_L2, wn]
        rw [if_neg (by simp; omega)]
      rw [this]
      simp only [Option.bind_some]
      rw [if_pos (by omega)]
  by_cases h1 : 1 < n
  · rw [if_pos h1, w64 (by omega) (by omega), fan_at' (by omega) (by omega)]
    simp only [id, Option.bind_some, ptN (by omega), not_true_eq_false, if_false, J]
  · rw [if_neg h1, J]

theorem cen_flip {n i : Int} : cenP n (cenM n) (n - 1 - i) = cenP n (cenM n) i := by
  unfold cenP; split <;> split <;> omega

theorem f5_eq {a b n : Int} (ha : 0 ≤ a ∧ a ≤ 65535) (hb : 0 ≤ b ∧ b ≤ 65535) (hn : 0 ≤ n ∧ n ≤ 255) : f5 a b n = some true := by
  have hg1 : givenI a b n = 0 := by unfold givenI; rw [if_neg (by omega)]
  have wa : IntKind.i64.wrap a = a := w64 (by omega) (by omega)
  have wb : IntKind.i64.wrap b = b := w64 (by omega) (by omega)
  have wn : IntKind.i64.wrap n = n := w64 (by omega) (by omega)
  have hdiv : n.tdiv 2 = n / 2 := Int.tdiv_eq_ediv_of_nonneg hn.1
  have wd : IntKind.i64.wrap (n / 2) = n / 2 := w64 (by omega) (by omega)
  have hm : 0 ≤ cenM n ∧ cenM n ≤ 1 := by unfold cenM; omega
  generalize hw : n - 1 - cenM n = w
  have hl : ∀ c d : Int, (((fanL c d n w (cenP n (cenM n))).length : Nat) : Int) = n := fun c d => by rw [fanL_len]; omega
  unfold f5
  simp only [wa, wb, wn, f13_eq, cenS, hg1, hw, if_true, Option.bind_some, hl, f15_eq, ne_eq, not_true_eq_false, decide_false, Bool.false_eq_true, if_false, decide_eq_true_eq, hdiv, wd]
  by_cases h0 : n = 0
  · rw [if_pos h0]
  rw [if_neg h0]
  have pt0 : ptI a b w 0 = a := by
    by_cases h1 : 0 < w
    · rw [ptI_q h1, qI_zero h1]; omega
    · unfold ptI; rw [if_neg h1]
  have mid : cenP n (cenM n) (n / 2) = 0 := by unfold cenP cenM; split <;> omega
  rw [fan_at' (by omega) (by omega), mid]
  simp only [Option.bind_some, pt0, not_true_eq_false, if_false]
  have J : (f5_J1 (fanL a b n w (cenP n (cenM n)), 0) n a b).run () = some true := by
    simp only [f5_J1, f15_eq]
    have : (f5_L2 (fanL a b n w (cenP n (cenM n)), 0) n a b).run 0 = some (Sum.inl ()) := by
      refine run_count (L := f5_L2 (fanL a b n w (cenP n (cenM n)), 0) n a b) (fun k => (k : Int)) n.toNat ?_ 0 (Nat.zero_le _) fun k _ hk => ?_
      · simp only [f5_L2, hl]; rw [if_neg (by simp; omega)]
      · simp only [f5_L2, hl, wa, wb, wn, hdiv, wd]
        rw [if_pos (by simp; omega), fan_at' (by omega) (by omega), w64 (a := n - 1) (by omega) (by omega), w64 (a := n - 1 - (k : Int)) (by omega) (by omega), fan_at' (by omega) (by omega), cen_flip]
        simp only [Option.bind_some, ne_eq, not_true_eq_false, decide_false, Bool.false_eq_true, if_false, decide_eq_true_eq]
        have hwk : IntKind.i64.wrap ((k : Int) + 1) = ((k + 1 : Nat) : Int) := by rw [w64 (by omega) (by omega)]; rfl
        rw [hwk]
        by_cases c0 : n / 2 < (k : Int)
        · rw [if_pos c0, w64 (a := (k : Int) - 1) (by omega) (by omega), fan_at' (i := (k : Int) - 1) (by omega) (by omega)]
          simp only [Option.bind_some]
          have e1 : cenP n (cenM n) (k : Int) = cenP n (cenM n) ((k : Int) - 1) + 2 := by unfold cenP cenM; split <;> split <;> omega
          have mono : a ≤ b → ¬ ptI a b w (cenP n (cenM n) (k : Int)) < ptI a b w (cenP n (cenM n) ((k : Int) - 1)) := fun h => by
            by_cases h1 : 0 < w
            · rw [ptI_q h1, ptI_q h1]
              have := qI_mono (D := b - a) h1 (by omega) (show cenP n (cenM n) ((k : Int) - 1) ≤ cenP n (cenM n) (k : Int) by omega)
              omega
            · unfold ptI; rw [if_neg h1, if_neg h1]; omega
          have anti : b ≤ a → ¬ ptI a b w (cenP n (cenM n) ((k : Int) - 1)) < ptI a b w (cenP n (cenM n) (k : Int)) := fun h => by
            by_cases h1 : 0 < w
            · rw [ptI_q h1, ptI_q h1]
              have := qI_anti (D := b - a) h1 (by omega) (show cenP n (cenM n) ((k : Int) - 1) ≤ cenP n (cenM n) (k : Int) by omega)
              omega
            · unfold ptI; rw [if_neg h1, if_neg h1]; omega
          by_cases c1 : a ≤ b <;> by_cases c2 : b ≤ a <;> simp only [c1, c2, if_true, if_false, mono, anti]
        · rw [if_neg c0]
    rw [this]
    rfl
  by_cases h1 : 2 < n
  · have hw0 : 0 < w := by rw [← hw]; unfold cenM; omega
    have e0 : cenP n (cenM n) 0 = w := by rw [← hw]; unfold cenP; split <;> omega
    have ptW : ptI a b w w = b := by rw [ptI_q hw0, qI_full hw0]; omega
    rw [if_pos h1, fan_at' (by omega) (by omega), e0]
    simp only [Option.bind_some, ptW, not_true_eq_false, if_false, J]
  · rw [if_neg h1, J]

theorem f4_law {a b n : Int} (ha : (Lit.int .u16 a).wf = true) (hb : (Lit.int .u16 b).wf = true) (hn : (Lit.int .u8 n).wf = true) : f4 a b n = some true := by
  have h1 := wfu _ _ ha; have h2 := wfu _ _ hb; have h3 := wfu _ _ hn
  simp only [show IntKind.u16.min = 0 from rfl, show IntKind.u16.max = 65535 from rfl, show IntKind.u8.min = 0 from rfl, show IntKind.u8.max = 255 from rfl] at h1 h2 h3
  exact f4_eq h1 h2 h3
theorem f5_law {a b n : Int} (ha : (Lit.int .u16 a).wf = true) (hb : (Lit.int .u16 b).wf = true) (hn : (Lit.int .u8 n).wf = true) : f5 a b n = some true := by
  have h1 := wfu _ _ ha; have h2 := wfu _ _ hb; have h3 := wfu _ _ hn
  simp only [show IntKind.u16.min = 0 from rfl, show IntKind.u16.max = 65535 from rfl, show IntKind.u8.min = 0 from rfl, show IntKind.u8.max = 255 from rfl] at h1 h2 h3
  exact f5_eq h1 h2 h3
end Go.Proofs.Ytccipmhffapcmaa
