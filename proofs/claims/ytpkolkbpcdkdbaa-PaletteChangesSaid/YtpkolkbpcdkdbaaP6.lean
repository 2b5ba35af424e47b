import Derived.Test.YtpkolkbpcdkdbaaP5
namespace Go.Proofs.Ytpkolkbpcdkdbaa
open Go Go.Ab
set_option linter.unusedSimpArgs false

/-! ## PaletteChanges -/

theorem f23_eq {l : List ApiPalette} (h : Pal l) {x : ApiPalette} (hx : palsS [x] = 0) : f23 l x = some (if hasB (cNum x.fNumber) l = false ∧ l.length = 32 then ([], 5) else (putC (cNum x.fNumber) x l, 0)) := by
  have hn := (pal_of hx).num x (by simp)
  have hl := h.len
  unfold f23
  rw [f32_eq, f32_eq, pals_of h, hx, f52_eq h (by omega), f57_eq (by omega)]
  simp only [Option.bind_some, ne_eq, not_true_eq_false, decide_false, Bool.false_eq_true, if_false, decide_eq_true_eq]
  have hp := posB_le (cNum x.fNumber) l
  by_cases hh : hasB (cNum x.fNumber) l = true
  · have hlt := hasB_lt hh
    rw [if_pos hh, at_nat (List.getElem?_eq_getElem hlt), Option.bind_some, if_neg (by simp [hh])]
    simp only [Int.toNat_natCast]
    rw [putC_has _ _ hh]
  · have hf : hasB (cNum x.fNumber) l = false := by simpa using hh
    rw [if_neg hh]
    by_cases h32 : l.length = 32
    · rw [if_pos (by omega), if_pos ⟨hf, h32⟩]
    · rw [if_neg (by omega), if_neg (fun hc => h32 hc.2), ins_some (by omega) (by omega) (by omega), Option.bind_some]
      simp only [Int.toNat_natCast]
      rw [putC_hasnt _ _ hf]

theorem cNum_asc {l : List ApiPalette} (n : Int) : ∀ x ∈ l, ∀ y ∈ l, x.fNumber < y.fNumber → 0 ≤ cNum n x → 0 < cNum n y := fun x _ y _ hxy hx => by unfold cNum at *; omega

theorem put_pal {l : List ApiPalette} (h : Pal l) {x : ApiPalette} (hx : palsS [x] = 0) (hl : (putC (cNum x.fNumber) x l).length ≤ 32) : Pal (putC (cNum x.fNumber) x l) where
  len := hl
  num := fun y hy => by
    rcases putC_mem _ _ hy with rfl | hy
    · exact (pal_of hx).num y (by simp)
    · exact h.num y hy
  hue := fun y hy => by
    rcases putC_mem _ _ hy with rfl | hy
    · exact (pal_of hx).hue y (by simp)
    · exact h.hue y hy
  asc := putC_pairwise h.asc (fun y _ hy => by unfold cNum at hy; omega) (fun y _ hy => by unfold cNum at hy; omega) (cNum_asc _)

theorem hueS_put {l : List ApiPalette} {x : ApiPalette} (n : Int) (p : ApiParam) : hueS (putC (cNum x.fNumber) x l) n p = if x.fNumber = n then hueIn x p else hueS l n p := by
  unfold hueS byN
  rw [putC_find fun y _ => ⟨fun hy => by
    have : y.fNumber = x.fNumber := by unfold cNum at hy; omega
    rw [this], fun h1 h2 => by unfold cNum; simp at h1 h2; omega⟩]
  by_cases h : x.fNumber = n <;> simp [h]

theorem hueS_without {l : List ApiPalette} (m n : Int) (p : ApiParam) : hueS (l.filter fun x => decide (x.fNumber ≠ m)) n p = if n = m then none else hueS l n p := by
  unfold hueS byN
  rw [List.find?_filter]
  by_cases h : n = m
  · rw [if_pos h]
    have : (l.find? fun a => decide (decide (a.fNumber ≠ m) = true ∧ decide (a.fNumber = n) = true)) = none := by
      rw [List.find?_eq_none]
      intro y _
      simp; omega
    rw [this]; rfl
  · rw [if_neg h]
    congr 2
    funext y
    by_cases hy : y.fNumber = n
    · simp [hy, h]
    · simp [hy]

theorem f24_self {l : List ApiPalette} (hl : l.length ≤ 1000) (hh : ∀ x ∈ l, x.fHues.length ≤ 1000) : f24 l l = some true := by
  unfold f24
  rw [if_neg (by simp)]
  have : (f24_L1 l l).run 0 = some (Sum.inl ()) := by
    refine run_all (xs := l) (fun k x hx => ?_) (by simp only [f24_L1]; rw [at_end]; rfl)
    have r := Rnd.mk' hx (by omega)
    simp only [f24_L1]
    rw [if_pos r.lt, r.at', r.nxt]
    simp only [Option.bind_some, ne_eq, not_true_eq_false, decide_false, Bool.false_eq_true, if_false]
    have h2 : (f24_L2 l (k : Int) l).run 0 = some (Sum.inl ()) := by
      have hxl := hh x r.mem
      refine run_all (xs := x.fHues) (fun m y hy => ?_) (by simp only [f24_L2]; rw [r.at', Option.bind_some, at_end]; rfl)
      have q := Rnd.mk' hy (by omega)
      simp only [f24_L2]
      rw [r.at']
      simp only [Option.bind_some]
      rw [if_pos q.lt, q.at', q.nxt]
      simp
    rw [h2]
    rfl
  rw [this]
  rfl

theorem f6_eq (l : List ApiPalette) (x : ApiPalette) (es : List ApiEntry) (hl : l.length ≤ 9223372036854775807) : f6 l x es = some true := by
  obtain ⟨b, hb, hgiven⟩ := f11_ex es hl
  obtain ⟨b2, hb2⟩ := f7_ex (l := [x]) (by simp)
  unfold f6
  rw [hb, f8_eq, f22_eq, hb2]
  simp only [Option.bind_some]
  cases b with
  | false => rfl
  | true =>
  obtain ⟨hlen, h0⟩ := hgiven rfl
  obtain ⟨hP, hE⟩ := both_ok h0
  have hPl := hP.len
  simp only [Bool.not_true, Bool.false_eq_true, if_false, decide_eq_true_eq]
  by_cases hx : palsS [x] = 0
  case neg => rw [if_pos hx]
  rw [if_neg (nn hx)]
  cases b2 with
  | false => rfl
  | true =>
  have hn := (pal_of hx).num x (by simp)
  simp only [Bool.not_true, Bool.false_eq_true, if_false]
  rw [f23_eq hP hx, Option.bind_some]
  by_cases hmany : hasB (cNum x.fNumber) l = false ∧ l.length = 32
  · simp only [if_pos hmany]
    rw [if_pos (by decide), if_pos trivial, if_pos (by omega)]
  simp only [if_neg hmany]
  rw [if_neg (by decide)]
  have hpl : (putC (cNum x.fNumber) x l).length ≤ 32 := by
    rw [putC_length]
    split
    · omega
    · rename_i hc
      have hc : hasB (cNum x.fNumber) l = false := by simpa using hc
      have : ¬ l.length = 32 := fun h => hmany ⟨hc, h⟩
      omega
  have hW := put_pal hP hx hpl
  have hself := putC_self (cNum x.fNumber) x l
  have hhas : hasB (cNum x.fNumber) (putC (cNum x.fNumber) x l) = true := by
    have h1 := byN_pos hW x.fNumber
    have h2 : byN (putC (cNum x.fNumber) x l) x.fNumber ≠ none := by
      unfold byN
      rw [ne_eq, List.find?_eq_none]
      intro hc
      exact hc x hself (by simp)
    by_cases hc : hasB (cNum x.fNumber) (putC (cNum x.fNumber) x l) = true
    · exact hc
    · rw [if_neg hc] at h1; exact absurd h1 h2
  rw [f18_eq hW (by omega), hhas]
  simp only [Option.bind_some, Bool.not_true, Bool.false_eq_true, if_false]
  rw [if_neg (by decide)]
  have hO := pal_sub hW (m := (putC (cNum x.fNumber) x l).filter fun z => decide (z.fNumber ≠ x.fNumber)) List.filter_sublist
  have hOl : ((putC (cNum x.fNumber) x l).filter fun z => decide (z.fNumber ≠ x.fNumber)).length < 32 := by
    have : ((putC (cNum x.fNumber) x l).filter fun z => decide (z.fNumber ≠ x.fNumber)).length < (putC (cNum x.fNumber) x l).length :=
      List.length_filter_lt_length_iff_exists.2 ⟨x, hself, by simp⟩
    omega
  have hrun : (f6_L1 es l (putC (cNum x.fNumber) x l, 0) ((putC (cNum x.fNumber) x l).filter fun z => decide (z.fNumber ≠ x.fNumber), true, 0) x).run 0 = some (Sum.inl ()) := by
    refine run_all (xs := es) (fun k y hy => ?_) (by simp only [f6_L1]; rw [at_end]; rfl)
    have r := Rnd.mk' hy (by omega)
    obtain ⟨_, _, hvp, hvv⟩ := entE_ok (hE.ok y r.mem)
    have hlev : isLev 7 = true := by decide
    simp only [f6_L1]
    rw [if_pos r.lt, r.at', r.nxt]
    simp only [Option.bind_some, f9_eq]
    rw [levelS_ok hP hvv hvp hlev, levelS_ok hW hvv hvp hlev, levelS_ok hO hvv hvp hlev]
    simp only [Option.bind_some]
    rw [if_neg (by simp [IntKind.wrap_i64])]
    simp only [decide_eq_true_eq]
    by_cases hpn : y.fValue.fPalette = x.fNumber
    · have h7 : toldS ((putC (cNum x.fNumber) x l).filter fun z => decide (z.fNumber ≠ x.fNumber)) y.fValue y.fParam 7 = 7 := by
        unfold toldS
        rw [if_neg (by omega), hueS_without, if_pos hpn]
        rfl
      rw [if_pos hpn, h7, if_neg (by simp), if_neg (by simpa using hpn)]
    · have hab : toldS (putC (cNum x.fNumber) x l) y.fValue y.fParam 7 = toldS l y.fValue y.fParam 7 := by
        unfold toldS
        rw [hueS_put, if_neg (Ne.symm hpn)]
      have hbc : toldS ((putC (cNum x.fNumber) x l).filter fun z => decide (z.fNumber ≠ x.fNumber)) y.fValue y.fParam 7 = toldS l y.fValue y.fParam 7 := by
        rw [← hab]
        unfold toldS
        rw [hueS_without, if_neg hpn]
      rw [if_neg hpn, if_pos hpn, hab, hbc, if_neg (by simp), if_neg (by simp)]
  rw [hrun]
  simp only [Option.bind_some]
  have hfn : hasB (cNum x.fNumber) ((putC (cNum x.fNumber) x l).filter fun z => decide (z.fNumber ≠ x.fNumber)) = false := by
    cases hc : hasB (cNum x.fNumber) ((putC (cNum x.fNumber) x l).filter fun z => decide (z.fNumber ≠ x.fNumber)) with
    | false => rfl
    | true =>
      obtain ⟨z, hz, hz0⟩ := hasB_at hc
      have := (List.mem_filter.1 (List.mem_of_getElem? hz)).2
      unfold cNum at hz0
      simp at this
      omega
  have hagain : putC (cNum x.fNumber) x ((putC (cNum x.fNumber) x l).filter fun z => decide (z.fNumber ≠ x.fNumber)) = putC (cNum x.fNumber) x l := by
    have := putC_again (c := cNum x.fNumber) (g := x) (by unfold cNum; omega) (l := l) (hP.asc.imp fun {a b} hab ha => by unfold cNum at *; omega)
    rw [show (fun z : ApiPalette => decide (z.fNumber ≠ x.fNumber)) = fun z => decide (cNum x.fNumber z ≠ 0) from funext fun z => decide_eq_decide.2 (by unfold cNum; omega)]
    exact this
  rw [f23_eq hO hx, if_neg (fun hc => by omega), hagain]
  simp only [Option.bind_some]
  rw [if_pos trivial, f24_self (by omega) (fun z hz => by have := (hus_of (hW.hue z hz)).len; omega)]
  rfl
theorem wf16 {n : Int} (h : (Lit.int .u16 n).wf = true) : 0 ≤ n ∧ n ≤ 65535 := by
  have : IntKind.min .u16 ≤ n ∧ n ≤ IntKind.max .u16 := by simpa [Lit.wf] using h
  have e1 : IntKind.min .u16 = 0 := by decide
  have e2 : IntKind.max .u16 = 65535 := by decide
  omega
end Go.Proofs.Ytpkolkbpcdkdbaa
