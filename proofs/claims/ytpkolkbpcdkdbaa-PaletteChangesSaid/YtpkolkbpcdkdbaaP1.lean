import Derived.Test.YtpkolkbpcdkdbaaX3
import Derived.Test.YtpkolkbpcdkdbaaAb44
namespace Go.Proofs.Ytpkolkbpcdkdbaa
open Go Go.Ab
set_option linter.unusedSimpArgs false

theorem nn {a : Int} (h : a = 0) : ¬ (a ≠ 0) := fun k => k h

/-! ## Checks -/

def isLev (v : Int) : Bool := decide (0 ≤ v ∧ v ≤ 65535)
def ltP (p q : ApiParam) : Bool := decide (p.fChannel < q.fChannel ∨ p.fChannel = q.fChannel ∧ p.fAttr < q.fAttr)
def valP (least : Int) (p : ApiParam) : Int := if p.fChannel < least ∨ 999 < p.fChannel ∨ p.fAttr < 0 ∨ 15 ≤ p.fAttr then 2 else 0
def hp (h : ApiHue) : ApiParam := ⟨h.fChannel, h.fAttr⟩
def hueE (h : ApiHue) : Int := if isLev h.fLevel = true then valP 0 (hp h) else 2
def huesS (l : List ApiHue) : Int := if 256 < l.length then 5 else goC hueE (fun a b => ltP (hp a) (hp b)) (fun _ => 0) none l
def numE (x : ApiPalette) : Int := if x.fNumber < 1 ∨ 1048576 < x.fNumber then 2 else 0
def ltN (a b : ApiPalette) : Bool := decide (a.fNumber < b.fNumber)
def palsS (l : List ApiPalette) : Int := if 32 < l.length then 5 else goC numE ltN (fun x => huesS x.fHues) none l
def valS (v : ApiValue) : Int := if (v.fPalette = 0 ∧ isLev v.fLevel = true) ∨ (-1 ≤ v.fPalette ∧ v.fPalette ≠ 0 ∧ v.fPalette ≤ 1048576 ∧ v.fLevel = 0) then 0 else 2
def entE (x : ApiEntry) : Int := if valP 1 x.fParam ≠ 0 then valP 1 x.fParam else valS x.fValue
def ltE (a b : ApiEntry) : Bool := ltP a.fParam b.fParam
def entS (l : List ApiEntry) : Int := if 4096 < l.length then 5 else goC entE ltE (fun _ => 0) none l

theorem f35_eq (v : Int) : f35 v = some (isLev v) := by
  unfold f35 isLev
  by_cases h : 0 ≤ v <;> simp [h]
theorem f39_eq (v : Int) : f39 v = some (isLev v) := by
  unfold f39 isLev
  by_cases h : 0 ≤ v <;> simp [h]

theorem f34_eq (p : ApiParam) (n : Int) : f34 p n = some (valP n p) := by
  unfold f34 valP
  simp only [decide_eq_true_eq]
  by_cases h1 : p.fChannel < n
  · simp [h1]
  · by_cases h2 : 999 < p.fChannel
    · simp [h1, h2]
    · by_cases h3 : p.fAttr < 0
      · simp [h1, h2, h3]
      · by_cases h4 : 15 ≤ p.fAttr <;> simp [h1, h2, h3, h4]

theorem f38_eq (p : ApiParam) : f38 p = some (valP 1 p) := by
  rw [← f34_eq]; rfl

theorem valP_ok {n : Int} {p : ApiParam} (h : valP n p = 0) : n ≤ p.fChannel ∧ p.fChannel ≤ 999 ∧ 0 ≤ p.fAttr ∧ p.fAttr ≤ 14 := by
  unfold valP at h
  split at h
  · cases h
  · omega

theorem f77_eq (h : ApiHue) : f77 h = some (hueE h) := by
  unfold f77 hueE hp f63
  simp only [f35_eq, f34_eq, Option.bind_some]
  cases isLev h.fLevel <;> rfl

def cmpP (p q : ApiParam) : Int := if p.fChannel ≠ q.fChannel then p.fChannel - q.fChannel else p.fAttr - q.fAttr

/-- Numbers that do not overflow. -/
def okP (p : ApiParam) : Prop := 0 ≤ p.fChannel ∧ p.fChannel ≤ 999 ∧ 0 ≤ p.fAttr ∧ p.fAttr ≤ 14

theorem f62_eq {p q : ApiParam} (hp : okP p) (hq : okP q) : f62 p q = some (cmpP p q) := by
  obtain ⟨a1, a2, a3, a4⟩ := hp
  obtain ⟨b1, b2, b3, b4⟩ := hq
  unfold f62 cmpP
  simp only [decide_eq_true_eq]
  by_cases h : p.fChannel = q.fChannel
  · rw [if_neg (by simpa using h), if_neg (by simpa using h), w64 (by omega) (by omega)]
  · rw [if_pos h, if_pos h, w64 (by omega) (by omega)]

theorem cmpP_lt {p q : ApiParam} : cmpP p q < 0 ↔ ltP p q = true := by
  unfold cmpP ltP
  simp only [decide_eq_true_eq]
  split <;> omega
theorem cmpP_zero {p q : ApiParam} : cmpP p q = 0 ↔ p.fChannel = q.fChannel ∧ p.fAttr = q.fAttr := by
  unfold cmpP
  split <;> omega
theorem cmpP_ge {p q : ApiParam} : decide (0 ≤ cmpP p q) = !ltP p q := by
  have := cmpP_lt (p := p) (q := q)
  cases h : ltP p q with
  | true => rw [h] at this; simp; exact this.2 rfl
  | false => rw [h] at this; simp at this; simpa using this

theorem ltP_trans (a b c : ApiParam) (h1 : ltP a b = true) (h2 : ltP b c = true) : ltP a c = true := by
  unfold ltP at *
  simp only [decide_eq_true_eq] at *
  omega

theorem hueE_ok {h : ApiHue} (e : hueE h = 0) : okP (hp h) ∧ isLev h.fLevel = true := by
  unfold hueE at e
  split at e
  · rename_i hl; exact ⟨valP_ok e, hl⟩
  · cases e

theorem f79_eq {a b : ApiHue} (ha : okP (hp a)) (hb : okP (hp b)) : f79 a b = some (cmpP (hp a) (hp b)) := by
  unfold f79 f63
  simp only [Option.bind_some]
  exact (congrArg (fun o => o.bind fun r => some r) (f62_eq ha hb))

theorem f78_eq (l : List ApiHue) : f78_77_79 l 256 = some (huesS l) := by
  unfold f78_77_79 huesS
  by_cases hl : 256 < l.length
  · rw [if_pos (by simp; omega), if_pos hl]
  rw [if_neg (by simp; omega), if_neg hl]
  refine run_goC (L := f78_77_79_L1 l) hueE (fun a b => ltP (hp a) (hp b)) (fun _ => 0) (by omega) (fun x hx hlt hat => ?_) (fun k q x hq hx hlt hat hpr hpos hw v1 v2 => ?_) (by simp only [f78_77_79_L1]; rw [at_end]; rfl)
  · simp only [f78_77_79_L1, stepC, badC, f77_eq]
    rw [if_pos hlt, hat]
    simp only [Option.bind_some]
    by_cases h1 : hueE x = 0
    · simp [h1, roundC, IntKind.wrap_i64]
    · simp [h1, roundC]
  · simp only [f78_77_79_L1, stepC, badC, f77_eq]
    rw [if_pos hlt, hat]
    simp only [Option.bind_some]
    by_cases h1 : hueE x = 0
    · rw [if_neg (by simpa using h1), if_neg (nn h1), if_pos hpos, hpr, Option.bind_some, f79_eq (hueE_ok v1).1 (hueE_ok h1).1, hw]
      simp only [Option.bind_some]
      rw [cmpP_ge]
      cases ltP (hp q) (hp x) <;> rfl
    · simp [h1, roundC]

theorem f59_eq (l : List ApiHue) : f59 l = some (huesS l) := by
  unfold f59; rw [f78_eq]; rfl

theorem f74_eq (p q : ApiParam) : f74 p q = some (ltP p q) := by
  unfold f74 ltP
  simp only [decide_eq_true_eq]
  by_cases h1 : p.fChannel < q.fChannel
  · simp [h1]
  · by_cases h2 : p.fChannel = q.fChannel
    · simp [h1, h2]
    · simp [h1, h2]

theorem hueE_cases (x : ApiHue) : hueE x = if x.fChannel < 0 then 2 else if 999 < x.fChannel then 2 else if x.fAttr < 0 then 2 else if 15 ≤ x.fAttr then 2 else if isLev x.fLevel = true then 0 else 2 := by
  unfold hueE valP hp
  dsimp only
  cases isLev x.fLevel <;> simp <;> (repeat' split) <;> omega

theorem f56_eq (l : List ApiHue) : f56 l = some (huesS l) := by
  unfold f56 huesS
  by_cases hl : 256 < l.length
  · rw [if_pos (by simp; omega), if_pos hl]
  rw [if_neg (by simp; omega), if_neg hl]
  refine run_goC (L := f56_L1 l) hueE (fun a b => ltP (hp a) (hp b)) (fun _ => 0) (by omega) (fun x hx hlt hat => ?_) (fun k q x hq hx hlt hat hpr hpos hw v1 v2 => ?_) (by simp only [f56_L1]; rw [at_end]; rfl)
  · simp only [f56_L1, stepC, badC, hueE_cases]
    rw [if_pos hlt, hat]
    simp only [Option.bind_some, decide_eq_true_eq, f39_eq]
    by_cases h1 : x.fChannel < 0
    · simp [h1, roundC]
    by_cases h2 : 999 < x.fChannel
    · simp [h1, h2, roundC]
    by_cases h3 : x.fAttr < 0
    · simp [h1, h2, h3, roundC]
    by_cases h4 : 15 ≤ x.fAttr
    · simp [h1, h2, h3, h4, roundC]
    cases h5 : isLev x.fLevel <;> simp [h1, h2, h3, h4, h5, roundC, IntKind.wrap_i64]
  · simp only [f56_L1, stepC, badC, hueE_cases]
    rw [if_pos hlt, hat]
    simp only [Option.bind_some, decide_eq_true_eq, f39_eq]
    by_cases h1 : x.fChannel < 0
    · simp [h1, roundC]
    by_cases h2 : 999 < x.fChannel
    · simp [h1, h2, roundC]
    by_cases h3 : x.fAttr < 0
    · simp [h1, h2, h3, roundC]
    by_cases h4 : 15 ≤ x.fAttr
    · simp [h1, h2, h3, h4, roundC]
    rw [hpr, hw]
    rw [decide_eq_true_eq] at hpos
    simp only [if_pos hpos, Option.bind_some, f74_eq]
    cases h5 : isLev x.fLevel
    · simp [h1, h2, h3, h4, h5, roundC]
    · rw [show (⟨q.fChannel, q.fAttr⟩ : ApiParam) = hp q from rfl, show (⟨x.fChannel, x.fAttr⟩ : ApiParam) = hp x from rfl]
      cases h6 : ltP (hp q) (hp x) <;> simp [h1, h2, h3, h4, h5, h6, roundC]

theorem numE_cases (x : ApiPalette) : numE x = if x.fNumber < 1 then 2 else if 1048576 < x.fNumber then 2 else 0 := by
  unfold numE
  (repeat' split) <;> omega

theorem f32_eq (l : List ApiPalette) : f32 l = some (palsS l) := by
  unfold f32 palsS
  by_cases hl : 32 < l.length
  · rw [if_pos (by simp; omega), if_pos hl]
  rw [if_neg (by simp; omega), if_neg hl]
  refine run_goC (L := f32_L1 l) numE ltN (fun x => huesS x.fHues) (by omega) (fun x hx hlt hat => ?_) (fun k q x hq hx hlt hat hpr hpos hw v1 v2 => ?_) (by simp only [f32_L1]; rw [at_end]; rfl)
  · simp only [f32_L1, stepC, badC, numE_cases]
    rw [if_pos hlt, hat]
    simp only [Option.bind_some, decide_eq_true_eq, f59_eq]
    by_cases h1 : x.fNumber < 1
    · simp [h1, roundC]
    by_cases h2 : 1048576 < x.fNumber
    · simp [h1, h2, roundC]
    by_cases h3 : huesS x.fHues = 0 <;> simp [h1, h2, h3, roundC, IntKind.wrap_i64]
  · simp only [f32_L1, stepC, badC, numE_cases]
    rw [if_pos hlt, hat]
    simp only [Option.bind_some, decide_eq_true_eq, f59_eq]
    by_cases h1 : x.fNumber < 1
    · simp [h1, roundC]
    by_cases h2 : 1048576 < x.fNumber
    · simp [h1, h2, roundC]
    rw [hpr, hw]
    rw [decide_eq_true_eq] at hpos
    simp only [if_pos hpos, Option.bind_some]
    by_cases h4 : x.fNumber ≤ q.fNumber
    · have : ltN q x = false := by unfold ltN; simp; omega
      simp [h1, h2, h4, this, roundC]
    · have : ltN q x = true := by unfold ltN; simp; omega
      by_cases h3 : huesS x.fHues = 0 <;> simp [h1, h2, h3, h4, this, roundC]

theorem f22_eq (l : List ApiPalette) : f22 l = some (palsS l) := by
  unfold f22 palsS
  by_cases hl : 32 < l.length
  · rw [if_pos (by simp; omega), if_pos hl]
  rw [if_neg (by simp; omega), if_neg hl]
  refine run_goC (L := f22_L1 l) numE ltN (fun x => huesS x.fHues) (by omega) (fun x hx hlt hat => ?_) (fun k q x hq hx hlt hat hpr hpos hw v1 v2 => ?_) (by simp only [f22_L1]; rw [at_end]; rfl)
  · simp only [f22_L1, f22_J2, stepC, badC, numE_cases]
    rw [if_pos hlt, hat]
    simp only [Option.bind_some, decide_eq_true_eq, f56_eq]
    by_cases h1 : x.fNumber < 1
    · simp [h1, roundC]
    by_cases h2 : 1048576 < x.fNumber
    · simp [h1, h2, roundC]
    by_cases h3 : huesS x.fHues = 0 <;> simp [h1, h2, h3, roundC, IntKind.wrap_i64]
  · simp only [f22_L1, f22_J2, stepC, badC, numE_cases]
    rw [if_pos hlt, hat]
    simp only [Option.bind_some, decide_eq_true_eq, f56_eq]
    by_cases h1 : x.fNumber < 1
    · simp [h1, roundC]
    by_cases h2 : 1048576 < x.fNumber
    · simp [h1, h2, roundC]
    rw [hpr, hw]
    rw [decide_eq_true_eq] at hpos
    simp only [if_pos hpos, Option.bind_some]
    by_cases h4 : x.fNumber ≤ q.fNumber
    · have : ltN q x = false := by unfold ltN; simp; omega
      simp [h1, h2, h4, this, roundC]
    · have : ltN q x = true := by unfold ltN; simp; omega
      by_cases h3 : huesS x.fHues = 0 <;> simp [h1, h2, h3, h4, this, roundC]

theorem f33_eq (v : ApiValue) : f33 v = some (valS v) := by
  unfold f33 valS
  simp only [f35_eq, Option.bind_some, decide_eq_true_eq]
  by_cases h1 : v.fPalette = 0
  · cases h2 : isLev v.fLevel <;> simp [h1, h2]
  · by_cases h3 : -1 ≤ v.fPalette <;> by_cases h4 : v.fPalette ≤ 1048576 <;> by_cases h5 : v.fLevel = 0 <;> simp [h1, h3, h4, h5]

theorem f37_eq (v : ApiValue) : f37 v = some (valS v) := by
  unfold f37 valS
  simp only [f39_eq, Option.bind_some, decide_eq_true_eq]
  by_cases h1 : v.fPalette = 0
  · cases h2 : isLev v.fLevel <;> simp [h1, h2]
  · by_cases h3 : -1 ≤ v.fPalette <;> by_cases h4 : v.fPalette ≤ 1048576 <;> by_cases h5 : v.fLevel = 0 <;> simp [h1, h3, h4, h5]

theorem f66_eq (x : ApiEntry) : f66 x = some (entE x) := by
  unfold f66 entE
  simp only [f34_eq, f33_eq, Option.bind_some, decide_eq_true_eq]
  by_cases h1 : valP 1 x.fParam = 0 <;> simp [h1]

theorem entE_ok {x : ApiEntry} (h : entE x = 0) : okP x.fParam ∧ 1 ≤ x.fParam.fChannel ∧ valP 1 x.fParam = 0 ∧ valS x.fValue = 0 := by
  unfold entE at h
  split at h
  · rename_i h1; exact absurd h h1
  · rename_i h1
    have h1 : valP 1 x.fParam = 0 := by simpa using h1
    have := valP_ok h1
    exact ⟨⟨by omega, by omega, by omega, by omega⟩, by omega, h1, h⟩

theorem f68_eq {a b : ApiEntry} (ha : okP a.fParam) (hb : okP b.fParam) : f68 a b = some (cmpP a.fParam b.fParam) := by
  unfold f68; rw [f62_eq ha hb]; rfl

theorem f47_eq (l : List ApiEntry) : f47 l = some (entS l) := by
  unfold f47 f67_66_68 entS
  by_cases hl : 4096 < l.length
  · rw [if_pos (by simp; omega), if_pos hl]; rfl
  rw [if_neg (by simp; omega), if_neg hl]
  have := run_goC (L := f67_66_68_L1 l) (xs := l) entE ltE (fun _ => 0) (by omega) (fun x hx hlt hat => by
    simp only [f67_66_68_L1, stepC, badC, f66_eq]
    rw [if_pos hlt, hat]
    simp only [Option.bind_some]
    by_cases h1 : entE x = 0 <;> simp [h1, roundC, IntKind.wrap_i64]) (fun k q x hq hx hlt hat hpr hpos hw v1 v2 => by
    simp only [f67_66_68_L1, stepC, badC, f66_eq]
    rw [if_pos hlt, hat]
    simp only [Option.bind_some]
    by_cases h1 : entE x = 0
    · rw [if_neg (by simpa using h1), if_neg (nn h1), if_pos hpos, hpr, Option.bind_some, f68_eq (entE_ok v1).1 (entE_ok h1).1, hw]
      simp only [Option.bind_some]
      rw [cmpP_ge]
      unfold ltE
      cases ltP q.fParam x.fParam <;> rfl
    · simp [h1, roundC]) (by simp only [f67_66_68_L1]; rw [at_end]; rfl)
  exact congrArg (fun o => o.bind fun r => some r) this

theorem f65_eq (l : List ApiEntry) : f65 l = some (entS l) := by
  unfold f65 entS
  by_cases hl : 4096 < l.length
  · rw [if_pos (by simp; omega), if_pos hl]
  rw [if_neg (by simp; omega), if_neg hl]
  refine run_goC (L := f65_L1 l) entE ltE (fun _ => 0) (by omega) (fun x hx hlt hat => ?_) (fun k q x hq hx hlt hat hpr hpos hw v1 v2 => ?_) (by simp only [f65_L1]; rw [at_end]; rfl)
  · simp only [f65_L1, stepC, badC, entE]
    rw [if_pos hlt, hat]
    simp only [Option.bind_some, f38_eq, f37_eq]
    by_cases h1 : valP 1 x.fParam = 0
    · by_cases h2 : valS x.fValue = 0 <;> simp [h1, h2, roundC, IntKind.wrap_i64]
    · simp [h1, roundC]
  · simp only [f65_L1, stepC, badC, entE]
    rw [if_pos hlt, hat]
    simp only [Option.bind_some, f38_eq, f37_eq]
    by_cases h1 : valP 1 x.fParam = 0
    · by_cases h2 : valS x.fValue = 0
      · rw [hpr, hw]
        simp only [if_pos hpos, Option.bind_some, f74_eq, ltE]
        rcases Bool.eq_false_or_eq_true (ltP q.fParam x.fParam) with h3 | h3 <;> simp [h1, h2, h3, roundC]
      · simp [h1, h2, roundC]
    · simp [h1, roundC]

theorem f42_eq (l : List ApiPalette) (es : List ApiEntry) : f42 l es = some (if palsS l ≠ 0 then palsS l else entS es) := by
  unfold f42
  simp only [f32_eq, f47_eq, Option.bind_some, decide_eq_true_eq]
  by_cases h : palsS l = 0 <;> simp [h]
theorem f41_eq (l : List ApiPalette) (es : List ApiEntry) : f41 l es = some (if palsS l ≠ 0 then palsS l else entS es) := by
  unfold f41
  simp only [f22_eq, f65_eq, Option.bind_some, decide_eq_true_eq]
  by_cases h : palsS l = 0 <;> simp [h]
end Go.Proofs.Ytpkolkbpcdkdbaa
