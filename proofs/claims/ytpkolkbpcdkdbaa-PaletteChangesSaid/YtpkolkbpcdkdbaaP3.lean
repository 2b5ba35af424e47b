import Derived.Test.YtpkolkbpcdkdbaaP2
namespace Go.Proofs.Ytpkolkbpcdkdbaa
open Go Go.Ab
set_option linter.unusedSimpArgs false

theorem sortI_sorted {xs : List Int} (h : xs.Pairwise fun a b => a ≤ b) : sortI xs = xs := by
  unfold sortI
  exact List.mergeSort_of_pairwise (h.imp fun {a b} hab => by simpa using hab)

theorem f29_eq {xs ys : List Int} (hm : xs.length ≤ 9223372036854775807) : f29 xs ys = some (decide (xs = ys)) := by
  unfold f29
  by_cases hl : xs.length = ys.length
  · rw [if_neg (by simp; omega), run_equal (xs := xs) (ys := ys) (fun _ => rfl) hl hm]
    by_cases he : xs = ys <;> simp [he]
  · rw [if_pos (by simp; omega)]
    have : xs ≠ ys := fun e => hl (by rw [e])
    simp [this]

instance : DecidableEq ApiParam := fun a b =>
  if h : a.fChannel = b.fChannel ∧ a.fAttr = b.fAttr then isTrue (by cases a; cases b; simp at h; simp [h]) else isFalse (fun e => h (by rw [e]; exact ⟨rfl, rfl⟩))
theorem par_eq {a b : ApiParam} : a = b ↔ a.fChannel = b.fChannel ∧ a.fAttr = b.fAttr := by cases a; cases b; simp
instance : DecidableEq ApiValue := fun a b =>
  if h : a.fPalette = b.fPalette ∧ a.fLevel = b.fLevel then isTrue (by cases a; cases b; simp at h; simp [h]) else isFalse (fun e => h (by rw [e]; exact ⟨rfl, rfl⟩))
theorem vl_eq {a b : ApiValue} : a = b ↔ a.fPalette = b.fPalette ∧ a.fLevel = b.fLevel := by cases a; cases b; simp
instance : DecidableEq ApiEntry := fun a b =>
  if h : a.fParam = b.fParam ∧ a.fValue = b.fValue then isTrue (by cases a; cases b; simp at h; simp [h]) else isFalse (fun e => h (by rw [e]; exact ⟨rfl, rfl⟩))
theorem ent_eq {a b : ApiEntry} : a = b ↔ a.fParam = b.fParam ∧ a.fValue = b.fValue := by cases a; cases b; simp
instance : DecidableEq ApiHue := fun a b =>
  if h : a.fChannel = b.fChannel ∧ a.fAttr = b.fAttr ∧ a.fLevel = b.fLevel then isTrue (by cases a; cases b; simp at h; simp [h]) else isFalse (fun e => h (by rw [e]; exact ⟨rfl, rfl, rfl⟩))
theorem hue_eq {a b : ApiHue} : a = b ↔ a.fChannel = b.fChannel ∧ a.fAttr = b.fAttr ∧ a.fLevel = b.fLevel := by cases a; cases b; simp
instance : DecidableEq ApiPalette := fun a b =>
  if h : a.fNumber = b.fNumber ∧ a.fHues = b.fHues then isTrue (by cases a; cases b; simp at h; simp [h]) else isFalse (fun e => h (by rw [e]; exact ⟨rfl, rfl⟩))
theorem pal_eq {a b : ApiPalette} : a = b ↔ a.fNumber = b.fNumber ∧ a.fHues = b.fHues := by cases a; cases b; simp

theorem f31_eq {xs ys : List ApiParam} (hm : xs.length ≤ 9223372036854775807) : f31 xs ys = some (decide (xs = ys)) := by
  unfold f31
  by_cases hl : xs.length = ys.length
  · rw [if_neg (by simp; omega), run_same (L := f31_L1 xs ys) (xs := xs) (ys := ys) hm hl (fun k x y r hy => by
      simp only [f31_L1]
      rw [if_pos r.lt, r.at', hy, r.nxt]
      simp only [Option.bind_some]
      by_cases h1 : x.fChannel = y.fChannel <;> by_cases h2 : x.fAttr = y.fAttr <;> simp [par_eq, h1, h2]) (by simp only [f31_L1]; rw [at_end]; rfl)]
    by_cases he : xs = ys <;> simp [he]
  · rw [if_pos (by simp; omega)]
    have : xs ≠ ys := fun e => hl (by rw [e])
    simp [this]

def redL : List ApiPalette := [⟨4, [⟨0, 3, 100⟩, ⟨7, 3, 900⟩]⟩]
def entL : List ApiEntry := [⟨⟨3, 3⟩, ⟨4, 0⟩⟩, ⟨⟨3, 4⟩, ⟨4, 0⟩⟩, ⟨⟨7, 3⟩, ⟨0, 5⟩⟩]

theorem f8_eq : f8 = some true := by
  unfold f8 f25 f27 f26 f28 f30
  simp only [Option.bind_some, f9_eq, f15_eq, f12_eq, f13_eq]
  have e1 : levelS [⟨4, [⟨0, 3, 100⟩, ⟨7, 3, 900⟩]⟩] ⟨4, 0⟩ ⟨3, 3⟩ 8 = (100, 0) := by decide
  have e2 : levelS [⟨4, [⟨0, 3, 100⟩, ⟨7, 3, 900⟩]⟩] ⟨4, 0⟩ ⟨7, 3⟩ 8 = (900, 0) := by decide
  have e3 : levelS [⟨4, [⟨0, 3, 100⟩, ⟨7, 3, 900⟩]⟩] ⟨4, 0⟩ ⟨3, 4⟩ 8 = (8, 0) := by decide
  have e4 : levelS [⟨4, [⟨0, 3, 100⟩, ⟨7, 3, 900⟩]⟩] ⟨5, 0⟩ ⟨3, 3⟩ 8 = (8, 0) := by decide
  have e5 : usedS [⟨⟨3, 3⟩, ⟨4, 0⟩⟩, ⟨⟨3, 4⟩, ⟨4, 0⟩⟩, ⟨⟨7, 3⟩, ⟨0, 5⟩⟩] = ([4], 0) := by
    unfold usedS
    have h1 : entS [⟨⟨3, 3⟩, ⟨4, 0⟩⟩, ⟨⟨3, 4⟩, ⟨4, 0⟩⟩, ⟨⟨7, 3⟩, ⟨0, 5⟩⟩] = 0 := by decide
    have h2 : refsS [⟨⟨3, 3⟩, ⟨4, 0⟩⟩, ⟨⟨3, 4⟩, ⟨4, 0⟩⟩, ⟨⟨7, 3⟩, ⟨0, 5⟩⟩] = [4, 4] := by decide
    rw [if_neg (nn h1), h2, sortI_sorted (by decide)]
    decide
  have e6 : flatS [⟨4, [⟨0, 3, 100⟩, ⟨7, 3, 900⟩]⟩] [⟨⟨3, 3⟩, ⟨4, 0⟩⟩, ⟨⟨3, 4⟩, ⟨4, 0⟩⟩, ⟨⟨7, 3⟩, ⟨0, 5⟩⟩] = ([⟨⟨3, 3⟩, ⟨0, 100⟩⟩, ⟨⟨3, 4⟩, ⟨-1, 0⟩⟩, ⟨⟨7, 3⟩, ⟨0, 5⟩⟩], 0) := by decide
  have e7 : missS [⟨4, [⟨0, 3, 100⟩, ⟨7, 3, 900⟩]⟩] [⟨⟨3, 3⟩, ⟨4, 0⟩⟩, ⟨⟨3, 4⟩, ⟨4, 0⟩⟩, ⟨⟨7, 3⟩, ⟨0, 5⟩⟩] = ([⟨3, 4⟩], 0) := by decide
  simp only [e1, e2, e3, e4, e5, e6, e7, Option.bind_some]
  rw [f29_eq (by decide)]
  simp only [at?]
  rw [f31_eq (by decide)]
  decide

/-! ## PaletteLevels -/

theorem f7_ex {l : List ApiPalette} (hl : l.length ≤ 9223372036854775807) : ∃ b, f7 l = some b := by
  unfold f7
  by_cases h : 64 < l.length
  · rw [if_pos (by simp; omega)]; exact ⟨_, rfl⟩
  · rw [if_neg (by simp; omega), run_any (L := f7_L1 l) (xs := l) (fun x => decide (512 < ((x.fHues.length : Nat) : Int))) hl (fun k x r => by
      simp only [f7_L1]
      rw [if_pos r.lt, r.at', r.nxt, Option.bind_some]
      split <;> rfl) (by simp only [f7_L1]; rw [at_end]; rfl)]
    split <;> exact ⟨_, rfl⟩

theorem f3_eq (l : List ApiPalette) (x : ApiEntry) (home : Int) (hl : l.length ≤ 9223372036854775807) : f3 l x home = some true := by
  obtain ⟨b, hb⟩ := f7_ex hl
  unfold f3
  rw [hb, f8_eq, f9_eq, f10_eq]
  simp only [Option.bind_some]
  cases b <;> simp
end Go.Proofs.Ytpkolkbpcdkdbaa
