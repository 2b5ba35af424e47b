import Derived.Test.YtpkolkbpcdkdbaaP3
import Derived.Test.YtpkolkbpcdkdbaaAb45
namespace Go.Proofs.Ytpkolkbpcdkdbaa
open Go Go.Ab
set_option linter.unusedSimpArgs false

/-! ## What the laws have in common -/

theorem f11_ex {l : List ApiPalette} (es : List ApiEntry) (hl : l.length ≤ 9223372036854775807) : ∃ b, f11 l es = some b ∧ (b = true → es.length ≤ 200 ∧ bothS l es = 0) := by
  obtain ⟨b, hb⟩ := f7_ex hl
  unfold f11
  rw [hb, f41_eq]
  simp only [Option.bind_some]
  cases b with
  | false => exact ⟨false, rfl, fun h => by cases h⟩
  | true =>
    by_cases h : es.length ≤ 200
    · simp only [if_true, decide_eq_true_eq]
      rw [if_pos (by omega)]
      refine ⟨_, rfl, fun h0 => ⟨h, by simpa [bothS] using h0⟩⟩
    · simp only [if_true, decide_eq_true_eq]
      rw [if_neg (by omega)]
      exact ⟨false, rfl, fun h => by cases h⟩

theorem byN_neg {l : List ApiPalette} (h : Pal l) {n : Int} (hn : n ≤ 0) : byN l n = none := by
  unfold byN
  rw [List.find?_eq_none]
  intro x hx
  have := (h.num x hx).1
  simp; omega

theorem hueS_neg {l : List ApiPalette} (h : Pal l) {n : Int} (hn : n ≤ 0) (p : ApiParam) : hueS l n p = none := by
  unfold hueS; rw [byN_neg h hn]; rfl

theorem exactS_lev {l : List ApiHue} (h : Hus l) {c a v : Int} (e : exactS l c a = some v) : isLev v = true := by
  unfold exactS at e
  obtain ⟨x, hx, rfl⟩ := Option.map_eq_some_iff.1 e
  exact (h.ok x (List.mem_of_find?_eq_some hx)).2

theorem hueIn_lev {x : ApiPalette} (h : Hus x.fHues) {p : ApiParam} {v : Int} (e : hueIn x p = some v) : isLev v = true := by
  unfold hueIn at e
  split at e
  · rename_i w hw
    injection e with e; subst e
    exact exactS_lev h hw
  · exact exactS_lev h e

theorem hueS_lev {l : List ApiPalette} (h : Pal l) {n : Int} {p : ApiParam} {v : Int} (e : hueS l n p = some v) : isLev v = true := by
  unfold hueS at e
  obtain ⟨x, hx, e⟩ := Option.bind_eq_some_iff.1 e
  exact hueIn_lev (hus_of (h.hue x (List.mem_of_find?_eq_some hx))) e

theorem levelS_ok {l : List ApiPalette} (h : Pal l) {v : ApiValue} (hv : valS v = 0) {p : ApiParam} (hp : valP 1 p = 0) {home : Int} (hh : isLev home = true) : levelS l v p home = (toldS l v p home, 0) := by
  unfold levelS
  rw [if_neg (nn (pals_of h)), if_neg (nn hv), if_neg (nn hp), if_neg (by simp [hh])]

theorem pal_nil : Pal [] := ⟨by simp, by simp, by simp, List.Pairwise.nil⟩

theorem f46_eq {xs : List ApiParam} (hl : xs.length ≤ 9223372036854775807) (v : ApiParam) : f14 xs v = some (decide (v ∈ xs)) := by
  unfold f14 f46
  have := run_findi (L := f46_L1 xs v) (xs := xs) (fun x => decide (v = x)) hl (fun k x r => by
    simp only [f46_L1]
    rw [if_pos r.lt, r.at', r.nxt, Option.bind_some]
    by_cases h1 : v.fChannel = x.fChannel <;> by_cases h2 : v.fAttr = x.fAttr <;> simp [par_eq, h1, h2]) (by simp only [f46_L1]; rw [at_end]; rfl)
  refine (congrArg (fun o : Option Int => o.bind fun r => some (decide (0 ≤ r))) this).trans ?_
  rw [Option.bind_some, fstI_nonneg]
  congr 1
  by_cases h : v ∈ xs
  · simp [h]
  · simp only [h, decide_false]
    rw [List.any_eq_false]
    intro x hx
    simp only [decide_eq_true_eq]
    rintro rfl
    exact h hx

/-! ## PaletteKeeps -/

theorem flat1_val {l : List ApiPalette} (h : Pal l) {x : ApiEntry} (hx : entE x = 0) : valS (flat1 l x).fValue = 0 ∧ (flat1 l x).fParam = x.fParam ∧ (flat1 l x).fValue.fPalette ≤ 0 := by
  obtain ⟨_, _, _, hv⟩ := entE_ok hx
  unfold flat1
  split
  · cases e : hueS l x.fValue.fPalette x.fParam with
    | none => exact ⟨by show valS ⟨-1, 0⟩ = 0; decide, rfl, by show (-1 : Int) ≤ 0; omega⟩
    | some v =>
      have := hueS_lev h e
      refine ⟨by simp [valS, this], rfl, Int.le_refl _⟩
  · rename_i hn
    exact ⟨hv, rfl, by omega⟩

theorem flat1_told {l : List ApiPalette} (h : Pal l) (x : ApiEntry) (home : Int) : toldS [] (flat1 l x).fValue x.fParam home = toldS l x.fValue x.fParam home := by
  unfold flat1
  split
  · rename_i hp
    have h0 : ¬ x.fValue.fPalette = 0 := by omega
    cases e : hueS l x.fValue.fPalette x.fParam with
    | none => simp [toldS, h0, e, hueS_neg pal_nil]
    | some v => simp [toldS, h0, e]
  · rename_i hp
    by_cases h0 : x.fValue.fPalette = 0
    · simp [toldS, h0]
    · simp [toldS, h0, hueS_neg pal_nil (show x.fValue.fPalette ≤ 0 by omega), hueS_neg h (show x.fValue.fPalette ≤ 0 by omega)]

theorem ltP_irr (p : ApiParam) : ¬ ltP p p = true := by unfold ltP; simp

theorem asc_inj {es : List ApiEntry} (h : es.Pairwise fun a b => ltP a.fParam b.fParam = true) {x y : ApiEntry} (hx : x ∈ es) (hy : y ∈ es) (e : x.fParam = y.fParam) : x = y := by
  obtain ⟨i, hi, rfl⟩ := List.getElem_of_mem hx
  obtain ⟨j, hj, rfl⟩ := List.getElem_of_mem hy
  by_cases hij : i = j
  · subst hij; rfl
  · rcases Nat.lt_or_gt_of_ne hij with hlt | hlt
    · have := List.pairwise_iff_getElem.1 h i j hi hj hlt
      rw [e] at this
      exact absurd this (ltP_irr _)
    · have := List.pairwise_iff_getElem.1 h j i hj hi hlt
      rw [e] at this
      exact absurd this (ltP_irr _)

theorem f4_eq (l : List ApiPalette) (es : List ApiEntry) (home : Int) (hl : l.length ≤ 9223372036854775807) (hh : 0 ≤ home ∧ home ≤ 65535) : f4 l es home = some true := by
  obtain ⟨b, hb, hgiven⟩ := f11_ex es hl
  unfold f4
  rw [hb, f8_eq, f12_eq, f13_eq]
  simp only [Option.bind_some]
  cases b with
  | false => rfl
  | true =>
  obtain ⟨hlen, h0⟩ := hgiven rfl
  obtain ⟨hP, hE⟩ := both_ok h0
  have hwh : IntKind.i64.wrap home = home := w64 (by omega) (by omega)
  have hlev : isLev home = true := by unfold isLev; simpa using hh
  have hfl : flatS l es = (es.map (flat1 l), 0) := by unfold flatS; rw [if_neg (nn h0)]
  have hml : missS l es = ((es.filter fun x => decide (0 < x.fValue.fPalette) && (hueS l x.fValue.fPalette x.fParam).isNone).map (·.fParam), 0) := by unfold missS; rw [if_neg (nn h0)]
  rw [hfl, hml]
  simp only [Bool.not_true, Bool.false_eq_true, if_false]
  rw [if_neg (by simp), if_neg (by simp), if_neg (by simp)]
  have hrun := run_all (L := f4_L1 es l home (es.map (flat1 l), 0) ((es.filter fun x => decide (0 < x.fValue.fPalette) && (hueS l x.fValue.fPalette x.fParam).isNone).map (·.fParam), 0)) (xs := es) (e := Sum.inl ()) (fun k x hx => by
    have r := Rnd.mk' hx (by omega)
    have hk := r.klt
    have hent := hE.ok x r.mem
    obtain ⟨_, _, hvp, hvv⟩ := entE_ok hent
    obtain ⟨g1, g2, g3⟩ := flat1_val hP hent
    have hfx : at? (es.map (flat1 l)) (k : Int) = some (flat1 l x) := at_nat (by rw [List.getElem?_map, hx]; rfl)
    simp only [f4_L1]
    rw [if_pos r.lt, r.at', hfx, r.nxt, hwh]
    simp only [Option.bind_some, f9_eq]
    rw [levelS_ok hP hvv hvp hlev, levelS_ok pal_nil g1 hvp hlev, flat1_told hP]
    simp only [Option.bind_some, ne_eq, not_true_eq_false, decide_false, Bool.false_eq_true, if_false]
    rw [if_neg (by simp; omega), g2]
    simp only [beq_self_eq_true, Bool.and_true, Bool.not_true, Bool.false_eq_true, if_false]
    rw [f46_eq (by
      have := List.length_filter_le (fun x : ApiEntry => decide (0 < x.fValue.fPalette) && (hueS l x.fValue.fPalette x.fParam).isNone) es
      rw [List.length_map]; omega)]
    simp only [Option.bind_some, decide_eq_true_eq]
    by_cases hm : x.fParam ∈ (es.filter fun x => decide (0 < x.fValue.fPalette) && (hueS l x.fValue.fPalette x.fParam).isNone).map (·.fParam)
    · rw [if_pos hm]
      obtain ⟨y, hy, he⟩ := List.mem_map.1 hm
      rw [List.mem_filter] at hy
      have hxy := asc_inj hE.asc hy.1 r.mem he
      subst hxy
      have hy2 := hy.2
      rw [Bool.and_eq_true, decide_eq_true_eq, Option.isNone_iff_eq_none] at hy2
      have ht : toldS l y.fValue y.fParam home = home := by
        unfold toldS
        rw [if_neg (by omega), hy2.2]; rfl
      rw [ht, if_neg (by simp), if_neg (by omega)]
    · rw [if_neg hm])
    (by simp only [f4_L1]; rw [at_end]; rfl)
  rw [hrun]
  rfl
end Go.Proofs.Ytpkolkbpcdkdbaa
