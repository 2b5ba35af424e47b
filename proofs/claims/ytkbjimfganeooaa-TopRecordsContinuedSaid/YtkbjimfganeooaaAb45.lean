/-
  The abstract machine, forty-fifth part: plain laws: an element put into an ordered list; numbers sorted, without repetitions.
-/
import Derived.Test.YtkbjimfganeooaaAb44
set_option linter.unusedSimpArgs false
set_option linter.unusedVariables false
namespace Go.Ab
open Go

section
variable {τ : Type}

/-- An ordered list with an element put in: c tells how others lie to it. -/
def putC (c : τ → Int) (g : τ) : List τ → List τ
  | [] => [g]
  | x :: xs => if c x < 0 then x :: putC c g xs else if c x = 0 then g :: xs else g :: x :: xs

theorem putC_len (c : τ → Int) (g : τ) : ∀ l, l.length ≤ (putC c g l).length ∧ (putC c g l).length ≤ l.length + 1
  | [] => by simp [putC]
  | x :: xs => by
    have := putC_len c g xs
    simp only [putC]
    split
    · simp only [List.length_cons]; omega
    · split <;> simp

theorem hasB_cons_neg {c : τ → Int} {y : τ} {ys : List τ} (hy : c y < 0) : hasB c (y :: ys) = hasB c ys := by unfold hasB; rw [posB_cons_neg hy, List.getElem?_cons_succ]
theorem hasB_cons_pos {c : τ → Int} {y : τ} {ys : List τ} (hy : ¬ c y < 0) : hasB c (y :: ys) = decide (c y = 0) := by unfold hasB; rw [posB_cons_pos hy, List.getElem?_cons_zero]

theorem putC_has (c : τ → Int) (g : τ) : ∀ {l : List τ}, hasB c l = true → l.set (posB c l) g = putC c g l
  | [], h => by simp [hasB] at h
  | x :: xs, h => by
    simp only [putC]
    by_cases h1 : c x < 0
    · rw [hasB_cons_neg h1] at h
      rw [posB_cons_neg h1, if_pos h1, ← putC_has c g h]; rfl
    · rw [hasB_cons_pos h1] at h
      rw [posB_cons_pos h1, if_neg h1, if_pos (by simpa using h)]; rfl

theorem putC_hasnt (c : τ → Int) (g : τ) : ∀ {l : List τ}, hasB c l = false → l.take (posB c l) ++ g :: l.drop (posB c l) = putC c g l
  | [], h => rfl
  | x :: xs, h => by
    simp only [putC]
    by_cases h1 : c x < 0
    · rw [hasB_cons_neg h1] at h
      rw [posB_cons_neg h1, if_pos h1, ← putC_hasnt c g h]; rfl
    · rw [hasB_cons_pos h1] at h
      rw [posB_cons_pos h1, if_neg h1, if_neg (by simpa using h)]; rfl

theorem putC_length (c : τ → Int) (g : τ) : ∀ l : List τ, (putC c g l).length = if hasB c l = true then l.length else l.length + 1
  | [] => rfl
  | x :: xs => by
    simp only [putC]
    by_cases h1 : c x < 0
    · rw [hasB_cons_neg h1, if_pos h1, List.length_cons, putC_length c g xs]
      split <;> rfl
    · rw [hasB_cons_pos h1, if_neg h1]
      by_cases h2 : c x = 0 <;> simp [h2]

theorem putC_mem (c : τ → Int) (g : τ) : ∀ {l : List τ} {x : τ}, x ∈ putC c g l → x = g ∨ x ∈ l
  | [], x, h => by simp [putC] at h; exact .inl h
  | y :: ys, x, h => by
    simp only [putC] at h
    split at h
    · rcases List.mem_cons.1 h with rfl | h
      · exact .inr (List.mem_cons_self ..)
      · exact (putC_mem c g h).imp id fun h => List.mem_cons_of_mem _ h
    · split at h
      · rcases List.mem_cons.1 h with rfl | h
        · exact .inl rfl
        · exact .inr (List.mem_cons_of_mem _ h)
      · rcases List.mem_cons.1 h with rfl | h
        · exact .inl rfl
        · exact .inr h

theorem putC_self (c : τ → Int) (g : τ) : ∀ l : List τ, g ∈ putC c g l
  | [] => by simp [putC]
  | y :: ys => by
    simp only [putC]
    split
    · exact List.mem_cons_of_mem _ (putC_self c g ys)
    · split <;> exact List.mem_cons_self ..

theorem putC_pairwise {c : τ → Int} {g : τ} {R : τ → τ → Prop} : ∀ {l : List τ}, l.Pairwise R → (∀ x ∈ l, c x < 0 → R x g) → (∀ x ∈ l, 0 < c x → R g x) → (∀ x ∈ l, ∀ y ∈ l, R x y → 0 ≤ c x → 0 < c y) → (putC c g l).Pairwise R
  | [], _, _, _, _ => by simp [putC]
  | x :: xs, h, h1, h2, h3 => by
    rw [List.pairwise_cons] at h
    simp only [putC]
    split
    · rename_i hx
      rw [List.pairwise_cons]
      refine ⟨fun y hy => ?_, putC_pairwise h.2 (fun y hy => h1 y (List.mem_cons_of_mem _ hy)) (fun y hy => h2 y (List.mem_cons_of_mem _ hy)) fun y hy z hz => h3 y (List.mem_cons_of_mem _ hy) z (List.mem_cons_of_mem _ hz)⟩
      rcases putC_mem c g hy with rfl | hy
      · exact h1 x (List.mem_cons_self ..) hx
      · exact h.1 y hy
    · rename_i hx
      have hgt : ∀ y ∈ xs, R g y := fun y hy => h2 y (List.mem_cons_of_mem _ hy) (h3 x (List.mem_cons_self ..) y (List.mem_cons_of_mem _ hy) (h.1 y hy) (by omega))
      split
      · rw [List.pairwise_cons]
        exact ⟨hgt, h.2⟩
      · rename_i hx0
        rw [List.pairwise_cons, List.pairwise_cons]
        refine ⟨fun y hy => ?_, h⟩
        rcases List.mem_cons.1 hy with rfl | hy
        · exact h2 y (List.mem_cons_self ..) (by omega)
        · exact hgt y hy

theorem putC_find {c : τ → Int} {g : τ} {p : τ → Bool} : ∀ {l : List τ}, (∀ x ∈ l, (c x = 0 → p x = p g) ∧ (p g = true → p x = true → c x = 0)) → (putC c g l).find? p = if p g = true then some g else l.find? p
  | [], _ => by
    unfold putC
    by_cases h : p g = true <;> simp [h]
  | x :: xs, h => by
    have ih := putC_find (c := c) (g := g) (p := p) (l := xs) fun y hy => h y (List.mem_cons_of_mem _ hy)
    obtain ⟨h1, h2⟩ := h x (List.mem_cons_self ..)
    simp only [putC]
    split
    · rename_i hx
      by_cases hp : p x = true
      · have hg : ¬ p g = true := fun hg => by have := h2 hg hp; omega
        rw [if_neg hg, List.find?_cons_of_pos hp, List.find?_cons_of_pos hp]
      · rw [List.find?_cons_of_neg hp, List.find?_cons_of_neg hp]
        exact ih
    · split
      · rename_i hx0
        by_cases hg : p g = true
        · rw [if_pos hg, List.find?_cons_of_pos hg]
        · have hp : ¬ p x = true := by rw [h1 hx0]; exact hg
          rw [if_neg hg, List.find?_cons_of_neg hg, List.find?_cons_of_neg hp]
      · by_cases hg : p g = true
        · rw [if_pos hg, List.find?_cons_of_pos hg]
        · rw [if_neg hg, List.find?_cons_of_neg hg]

theorem putC_filter {c : τ → Int} {g : τ} {q : τ → Bool} (hg : q g = false) : ∀ {l : List τ}, (∀ x ∈ l, c x = 0 → q x = false) → (putC c g l).filter q = l.filter q
  | [], _ => by simp [putC, hg]
  | x :: xs, h => by
    have ih := putC_filter (c := c) (g := g) hg (l := xs) fun y hy => h y (List.mem_cons_of_mem _ hy)
    simp only [putC]
    split
    · rw [List.filter_cons, List.filter_cons, ih]
    · split
      · rename_i hx0
        rw [List.filter_cons, List.filter_cons, hg, h x (List.mem_cons_self ..) hx0]
        rfl
      · rw [List.filter_cons, hg]
        rfl

/-- Taken out and put in again. -/
theorem putC_again {c : τ → Int} {g : τ} (hg : c g = 0) : ∀ {l : List τ}, l.Pairwise (fun a b => 0 ≤ c a → 0 < c b) → putC c g ((putC c g l).filter fun x => decide (c x ≠ 0)) = putC c g l
  | [], _ => by simp [putC, hg]
  | x :: xs, h => by
    rw [List.pairwise_cons] at h
    have ih := putC_again hg h.2
    have hpos : ∀ (ys : List τ), (∀ y ∈ ys, 0 < c y) → putC c g (ys.filter fun x => decide (c x ≠ 0)) = g :: ys := fun ys hys => by
      rw [List.filter_eq_self.2 fun y hy => by have := hys y hy; simp; omega]
      cases ys with
      | nil => rfl
      | cons y ys =>
        have := hys y (List.mem_cons_self ..)
        simp only [putC]
        rw [if_neg (by omega), if_neg (by omega)]
    by_cases h1 : c x < 0
    · simp only [putC, if_pos h1]
      rw [List.filter_cons_of_pos (by simp; omega)]
      simp only [putC, if_pos h1]
      rw [ih]
    · have hgt : ∀ y ∈ xs, 0 < c y := fun y hy => h.1 y hy (by omega)
      by_cases h2 : c x = 0
      · simp only [putC, if_neg h1, if_pos h2]
        rw [List.filter_cons_of_neg (by simp [hg])]
        exact hpos xs hgt
      · simp only [putC, if_neg h1, if_neg h2]
        rw [List.filter_cons_of_neg (by simp [hg])]
        exact hpos (x :: xs) fun y hy => by
          rcases List.mem_cons.1 hy with rfl | hy
          · omega
          · exact hgt y hy

end

/-! ## Numbers sorted -/

theorem sortI_mem {xs : List Int} {x : Int} : x ∈ sortI xs ↔ x ∈ xs := by
  unfold sortI
  exact List.mem_mergeSort

theorem sortI_asc (xs : List Int) : (sortI xs).Pairwise fun a b => a ≤ b := by
  unfold sortI
  have := List.pairwise_mergeSort (le := fun x y : Int => decide (x ≤ y)) (fun a b c h1 h2 => by simp at *; omega) (fun a b => by simp; omega) xs
  exact this.imp fun {a b} h => by simpa using h

theorem sortI_sorted {xs : List Int} (h : xs.Pairwise fun a b => a ≤ b) : sortI xs = xs := by
  unfold sortI
  exact List.mergeSort_of_pairwise (h.imp fun {a b} hab => by simpa using hab)

theorem sortI_perm (xs : List Int) : (sortI xs).Perm xs := by
  unfold sortI
  exact List.mergeSort_perm ..

/-- Two ordered lists of the same numbers are equal. -/
theorem asc_unique : ∀ {xs ys : List Int}, xs.Pairwise (fun a b => a ≤ b) → ys.Pairwise (fun a b => a ≤ b) → xs.Perm ys → xs = ys
  | [], ys, _, _, h => by simpa using h.symm
  | x :: xs, [], _, _, h => by simp at h
  | x :: xs, y :: ys, h1, h2, h => by
    rw [List.pairwise_cons] at h1 h2
    have hx : x = y := by
      have m1 : x ∈ y :: ys := h.subset (List.mem_cons_self ..)
      have m2 : y ∈ x :: xs := h.symm.subset (List.mem_cons_self ..)
      rcases List.mem_cons.1 m1 with e | m1
      · exact e
      · rcases List.mem_cons.1 m2 with e | m2
        · exact e.symm
        · have := h1.1 y m2
          have := h2.1 x m1
          omega
    subst hx
    rw [asc_unique h1.2 h2.2 (List.Perm.cons_inv h)]

theorem sortI_unique {xs ys : List Int} (h : ys.Pairwise fun a b => a ≤ b) (hp : ys.Perm xs) : sortI xs = ys :=
  asc_unique (sortI_asc xs) h ((sortI_perm xs).trans hp.symm)

theorem compact_sub (xs : List Int) : (Lib.compact xs).Sublist xs := by
  have h1 : ((List.range xs.length).filter (Lib.keeps xs.toArray)).Sublist (List.range xs.length) := List.filter_sublist
  have h2 := h1.map (xs.toArray[·]!)
  have h3 : (List.range xs.length).map (xs.toArray[·]!) = xs := by
    have := Lib.range_map_get xs.toArray
    simpa using this
  rw [h3] at h2
  exact h2

theorem compact_mem {xs : List Int} {x : Int} : x ∈ Lib.compact xs ↔ x ∈ xs := by
  refine ⟨fun h => (compact_sub xs).subset h, fun h => ?_⟩
  obtain ⟨k, hk, rfl⟩ := List.getElem_of_mem h
  have key : ∀ k (hk : k < xs.length), xs[k] ∈ Lib.compact xs := by
    intro k
    induction k with
    | zero =>
      intro hk
      unfold Lib.compact Lib.compactUpTo
      rw [List.mem_map]
      refine ⟨0, List.mem_filter.2 ⟨List.mem_range.2 hk, by simp [Lib.keeps]⟩, by simp [hk]⟩
    | succ k ih =>
      intro hk
      by_cases he : xs[k + 1] = xs[k]
      · rw [he]; exact ih (by omega)
      · unfold Lib.compact Lib.compactUpTo
        rw [List.mem_map]
        refine ⟨k + 1, List.mem_filter.2 ⟨List.mem_range.2 hk, ?_⟩, by simp [hk]⟩
        have hk' : k < xs.length := by omega
        simp [Lib.keeps, hk, hk', he]
  exact key k hk

theorem compact_strict : ∀ {xs : List Int}, xs.Pairwise (fun a b => a ≤ b) → (Lib.compact xs).Pairwise fun a b => a < b := by
  intro xs h
  unfold Lib.compact Lib.compactUpTo
  rw [List.pairwise_map]
  have hr : ((List.range xs.length).filter (Lib.keeps xs.toArray)).Pairwise fun a b => a < b := List.pairwise_lt_range.filter _
  refine List.Pairwise.imp_of_mem ?_ hr
  intro a b ha hb hab
  rw [List.mem_filter, List.mem_range] at ha hb
  have hb2 := hb.2
  have hbl := hb.1
  have hal := ha.1
  simp only [Lib.keeps, decide_eq_true_eq] at hb2
  have hne : xs[b] ≠ xs[b - 1] := by
    rcases hb2 with hb2 | hb2
    · omega
    · have hb1 : b - 1 < xs.length := by omega
      simpa [hbl, hb1] using hb2
  have h1 := List.pairwise_iff_getElem.1 h (b - 1) b (by omega) hbl (by omega)
  have h2 : xs[a] ≤ xs[b - 1] := by
    by_cases e : a = b - 1
    · subst e; omega
    · exact List.pairwise_iff_getElem.1 h a (b - 1) hal (by omega) (by omega)
  have e1 : xs.toArray[a]! = xs[a] := by simp [hal]
  have e2 : xs.toArray[b]! = xs[b] := by simp [hbl]
  rw [e1, e2]
  omega
end Go.Ab
