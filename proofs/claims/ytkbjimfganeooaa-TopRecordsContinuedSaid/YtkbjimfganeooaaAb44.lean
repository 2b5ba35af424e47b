/-
  The abstract machine, forty-fourth part: plain laws: lists whose elements are checked one after the other, and held against the one before.
-/
import Derived.Test.YtkbjimfganeooaaAb43
set_option linter.unusedSimpArgs false
set_option linter.unusedVariables false
namespace Go.Ab
open Go

section
variable {τ S E : Type}

/-- Is the order broken? -/
def badC (lt : τ → τ → Bool) : Option τ → τ → Bool
  | some q, x => !lt q x
  | none, _ => false

/-- The first fault of a list: of an element (c1), of the order (9), of an element (c2). -/
def goC (c1 : τ → Int) (lt : τ → τ → Bool) (c2 : τ → Int) : Option τ → List τ → Int
  | _, [] => 0
  | a, x :: xs => if c1 x ≠ 0 then c1 x else if badC lt a x = true then 9 else if c2 x ≠ 0 then c2 x else goC c1 lt c2 (some x) xs

/-- The element ahead of a place. -/
def bef (xs : List τ) : Nat → Option τ
  | 0 => none
  | k + 1 => xs[k]?

theorem bef_succ {xs : List τ} {k : Nat} {x : τ} (h : xs[k]? = some x) : bef xs (k + 1) = some x := h
def stepC (c1 : τ → Int) (lt : τ → τ → Bool) (c2 : τ → Int) (a : Option τ) (x : τ) : Option τ ⊕ (Unit ⊕ Int) :=
  if c1 x ≠ 0 then .inr (.inr (c1 x)) else if badC lt a x = true then .inr (.inr 9) else if c2 x ≠ 0 then .inr (.inr (c2 x)) else .inl (some x)

theorem walk_goC (c1 : τ → Int) (lt : τ → τ → Bool) (c2 : τ → Int) : ∀ (xs : List τ) (k : Nat) (a : Option τ),
    (match walkL (fun _ a x => stepC c1 lt c2 a x) (fun _ => (.inl () : Unit ⊕ Int)) k a xs with | .inl _ => (0 : Int) | .inr v => v) = goC c1 lt c2 a xs
  | [], _, _ => rfl
  | x :: xs, k, a => by
    simp only [walkL, goC, stepC]
    by_cases h1 : c1 x ≠ 0
    · simp only [if_pos h1]
    · simp only [if_neg h1]
      by_cases h2 : badC lt a x = true
      · simp only [if_pos h2]
      · simp only [if_neg h2]
        by_cases h3 : c2 x ≠ 0
        · simp only [if_pos h3]
        · simp only [if_neg h3]
          exact walk_goC c1 lt c2 xs (k + 1) (some x)

def roundC (k : Nat) : Option τ ⊕ (Unit ⊕ Int) → Ctl Int (Unit ⊕ Int)
  | .inl _ => .next ((k + 1 : Nat) : Int)
  | .inr e => .brk e

theorem stepC_inl {c1 : τ → Int} {lt : τ → τ → Bool} {c2 : τ → Int} {a a' : Option τ} {x : τ} (h : stepC c1 lt c2 a x = .inl a') : a' = some x ∧ c1 x = 0 ∧ c2 x = 0 := by
  unfold stepC at h
  split at h
  · cases h
  · rename_i h1
    split at h
    · cases h
    · split at h
      · cases h
      · rename_i h3
        injection h with h
        exact ⟨h.symm, by simpa using h1, by simpa using h3⟩

/-- A loop that checks a list. -/
theorem run_goC {L : Lp Int (Unit ⊕ Int)} (c1 : τ → Int) (lt : τ → τ → Bool) (c2 : τ → Int) {xs : List τ} (hl : xs.length ≤ 1000000)
    (h0 : ∀ x, xs[0]? = some x → decide (((0 : Nat) : Int) < ((xs.length : Nat) : Int)) = true → at? xs ((0 : Nat) : Int) = some x → L.body ((0 : Nat) : Int) = some (roundC 0 (stepC c1 lt c2 none x)))
    (h1 : ∀ (k : Nat) q x, xs[k]? = some q → xs[k + 1]? = some x → decide (((k + 1 : Nat) : Int) < ((xs.length : Nat) : Int)) = true → at? xs ((k + 1 : Nat) : Int) = some x → at? xs (IntKind.i64.wrap (((k + 1 : Nat) : Int) - 1)) = some q → decide (0 < ((k + 1 : Nat) : Int)) = true →
      IntKind.i64.wrap (((k + 1 : Nat) : Int) + 1) = ((k + 1 + 1 : Nat) : Int) → c1 q = 0 → c2 q = 0 → L.body ((k + 1 : Nat) : Int) = some (roundC (k + 1) (stepC c1 lt c2 (some q) x)))
    (he : L.body ((xs.length : Nat) : Int) = some (.brk (.inl ()))) : (L.run 0).bind (fun r_ => match r_ with | (Sum.inl _) => some 0 | (Sum.inr v) => some v) = some (goC c1 lt c2 none xs) := by
  have hrun := run_walk (L := L) xs (fun k (_ : Option τ) => (k : Int)) (fun _ a x => stepC c1 lt c2 a x) (fun _ => (.inl () : Unit ⊕ Int)) (fun k a => a = bef xs k ∧ ∀ q, a = some q → c1 q = 0 ∧ c2 q = 0) (fun k a x hx hI => by
      obtain ⟨rfl, hv⟩ := hI
      have hlt := at_lt hx
      have hat := at_nat hx
      have hk := getElem?_lt hx
      refine ⟨?_, fun a' ha' => ?_⟩
      · have hr : ∀ s : Option τ ⊕ (Unit ⊕ Int), roundL (fun k (_ : Option τ) => (k : Int)) k s = roundC k s := fun s => by cases s <;> rfl
        rw [hr]
        cases k with
        | zero => exact h0 x hx hlt hat
        | succ k =>
          have hq : xs[k]? = some (xs[k]'(by omega)) := List.getElem?_eq_getElem _
          obtain ⟨v1, v2⟩ := hv _ hq
          have := h1 k _ x hq hx hlt hat (by rw [w64 (by omega) (by omega), show ((k + 1 : Nat) : Int) - 1 = (k : Int) by omega]; exact at_nat hq) (by simp) (w64_succ (by omega)) v1 v2
          rw [show bef xs (k + 1) = some (xs[k]'(by omega)) from hq]
          exact this
      · obtain ⟨rfl, v1, v2⟩ := stepC_inl ha'
        exact ⟨(bef_succ hx).symm, fun q hq => by injection hq with hq; subst hq; exact ⟨v1, v2⟩⟩)
    (fun a _ => he) none ⟨rfl, fun q hq => by cases hq⟩
  rw [show (0 : Int) = ((0 : Nat) : Int) from rfl, hrun, ← walk_goC c1 lt c2 xs 0 none]
  cases walkL (fun _ a x => stepC c1 lt c2 a x) (fun _ => (.inl () : Unit ⊕ Int)) 0 none xs <;> rfl

theorem goC_chk {c1 : τ → Int} {lt : τ → τ → Bool} {c2 : τ → Int} : ∀ {xs : List τ} {a : Option τ}, goC c1 lt c2 a xs = 0 → ∀ x ∈ xs, c1 x = 0 ∧ c2 x = 0
  | [], _, _, x, hx => by simp at hx
  | y :: ys, a, h, x, hx => by
    simp only [goC] at h
    split at h
    · rename_i h1; exact absurd h h1
    · rename_i h1
      split at h
      · cases h
      · split at h
        · rename_i h3; exact absurd h h3
        · rename_i h3
          rcases List.mem_cons.1 hx with rfl | hx
          · exact ⟨by simpa using h1, by simpa using h3⟩
          · exact goC_chk h x hx

theorem goC_asc {c1 : τ → Int} {lt : τ → τ → Bool} {c2 : τ → Int} (ht : ∀ a b c, lt a b = true → lt b c = true → lt a c = true) : ∀ {xs : List τ} {q : τ}, goC c1 lt c2 (some q) xs = 0 → (q :: xs).Pairwise fun a b => lt a b = true
  | [], q, _ => by simp
  | y :: ys, q, h => by
    simp only [goC] at h
    split at h
    · rename_i h1; exact absurd h h1
    · split at h
      · cases h
      · rename_i h2
        split at h
        · rename_i h3; exact absurd h h3
        · have hq : lt q y = true := by simpa [badC] using h2
          have := goC_asc ht h
          rw [List.pairwise_cons] at this ⊢
          refine ⟨fun z hz => ?_, List.pairwise_cons.2 this⟩
          rcases List.mem_cons.1 hz with rfl | hz
          · exact hq
          · exact ht _ _ _ hq (this.1 z hz)

theorem goC_pairwise {c1 : τ → Int} {lt : τ → τ → Bool} {c2 : τ → Int} (ht : ∀ a b c, lt a b = true → lt b c = true → lt a c = true) {xs : List τ} (h : goC c1 lt c2 none xs = 0) : xs.Pairwise fun a b => lt a b = true := by
  cases xs with
  | nil => exact List.Pairwise.nil
  | cons x xs =>
    simp only [goC] at h
    split at h
    · rename_i h1; exact absurd h h1
    · split at h
      · cases h
      · split at h
        · rename_i h3; exact absurd h h3
        · exact goC_asc ht h

theorem goC_zero {c1 : τ → Int} {lt : τ → τ → Bool} {c2 : τ → Int} : ∀ {xs : List τ} {a : Option τ}, (∀ x ∈ xs, c1 x = 0 ∧ c2 x = 0) → xs.Pairwise (fun a b => lt a b = true) → (∀ q, a = some q → ∀ x ∈ xs, lt q x = true) → goC c1 lt c2 a xs = 0
  | [], _, _, _, _ => rfl
  | x :: xs, a, h1, h2, h3 => by
    obtain ⟨e1, e2⟩ := h1 x (List.mem_cons_self ..)
    rw [List.pairwise_cons] at h2
    simp only [goC]
    rw [if_neg (by simpa using e1), if_neg, if_neg (by simpa using e2)]
    · exact goC_zero (fun y hy => h1 y (List.mem_cons_of_mem _ hy)) h2.2 fun q hq y hy => by injection hq with hq; subst hq; exact h2.1 y hy
    · cases a with
      | none => simp [badC]
      | some q => simp [badC, h3 q rfl x (List.mem_cons_self ..)]

/-- In an ordered list a search finds what a walk finds. -/
theorem find_pos {c : τ → Int} : ∀ {xs : List τ}, xs.Pairwise (fun a b => c b ≤ 0 → c a < 0) → (xs.find? fun x => decide (c x = 0)) = if hasB c xs then xs[posB c xs]? else none
  | [], _ => rfl
  | x :: xs, h => by
    rw [List.pairwise_cons] at h
    have ih := find_pos h.2
    by_cases h1 : c x < 0
    · have hh : hasB c (x :: xs) = hasB c xs := by unfold hasB; rw [posB_cons_neg h1, List.getElem?_cons_succ]
      rw [hh, posB_cons_neg h1, List.getElem?_cons_succ, List.find?_cons_of_neg (by simp; omega)]
      exact ih
    · have hh : hasB c (x :: xs) = decide (c x = 0) := by unfold hasB; rw [posB_cons_pos h1, List.getElem?_cons_zero]
      rw [hh, posB_cons_pos h1, List.getElem?_cons_zero]
      by_cases h2 : c x = 0
      · simp [h2]
      · rw [List.find?_cons_of_neg (by simpa using h2)]
        simp only [h2, decide_false, Bool.false_eq_true, if_false]
        rw [List.find?_eq_none]
        intro y hy
        simp only [decide_eq_true_eq]
        intro hy0
        have := h.1 y hy (by omega)
        omega

theorem hasB_lt {c : τ → Int} {xs : List τ} (h : hasB c xs = true) : posB c xs < xs.length := by
  by_cases hc : posB c xs < xs.length
  · exact hc
  · unfold hasB at h; rw [List.getElem?_eq_none (by omega)] at h; cases h

theorem hasB_at {c : τ → Int} {xs : List τ} (h : hasB c xs = true) : ∃ x, xs[posB c xs]? = some x ∧ c x = 0 := by
  have hl := hasB_lt h
  refine ⟨xs[posB c xs], List.getElem?_eq_getElem hl, ?_⟩
  unfold hasB at h
  rw [List.getElem?_eq_getElem hl] at h
  simpa using h

/-- What slices.BinarySearchFunc returns. -/
theorem bsearch_eq {R : Option Int} {xs : List τ} {cmp : τ → Option Int} {c : τ → Int} (hrun : R = some (posB c xs : Int)) (hc : ∀ x ∈ xs, cmp x = some (c x)) :
    R.bind (fun i => if decide (i < ((xs.length : Nat) : Int)) = true then (at? xs i).bind fun x => (cmp x).bind fun r => some (i, decide (r = 0)) else some (i, false)) = some ((posB c xs : Int), hasB c xs) := by
  rw [hrun, Option.bind_some]
  have hp := posB_le c xs
  unfold hasB
  by_cases hlt : posB c xs < xs.length
  · rw [if_pos (by simpa using hlt), at_nat (List.getElem?_eq_getElem hlt), List.getElem?_eq_getElem hlt, Option.bind_some, hc _ (List.getElem_mem hlt)]
    rfl
  · rw [if_neg (by simpa using hlt), List.getElem?_eq_none (by omega)]

theorem walk_all {E : Type} (e : E) : ∀ (xs : List τ) (k : Nat), walkL (fun _ _ _ => .inl ()) (fun _ => e) k () xs = e
  | [], _ => rfl
  | _ :: xs, k => walk_all e xs (k + 1)

/-- A loop of which each round goes on. -/
theorem run_all {L : Lp Int E} {xs : List τ} {e : E} (hs : ∀ (k : Nat) x, xs[k]? = some x → L.body (k : Int) = some (.next ((k + 1 : Nat) : Int))) (he : L.body ((xs.length : Nat) : Int) = some (.brk e)) : L.run 0 = some e := by
  have hrun := run_walk (L := L) xs (fun k (_ : Unit) => (k : Int)) (fun _ _ _ => .inl ()) (fun _ => e) (fun _ _ => True) (fun k a x hx _ => ⟨hs k x hx, fun _ _ => trivial⟩) (fun a _ => he) () trivial
  rw [show (0 : Int) = ((0 : Nat) : Int) from rfl, hrun, walk_all]

/-- A loop that collects. -/
theorem run_collect {ρ : Type} {L : Lp (Int × List ρ) (List ρ)} {xs : List τ} (f : τ → List ρ) (hs : ∀ (k : Nat) (acc : List ρ) x, xs[k]? = some x → acc.length ≤ k → L.body ((k : Int), acc) = some (.next (((k + 1 : Nat) : Int), acc ++ f x)))
    (h1 : ∀ x, (f x).length ≤ 1) (he : ∀ acc, L.body (((xs.length : Nat) : Int), acc) = some (.brk acc)) : L.run (0, []) = some (xs.flatMap f) := by
  have hrun := run_walk (L := L) xs (fun k (a : List ρ) => ((k : Int), a)) (fun _ a x => .inl (a ++ f x)) (fun a => a) (fun k a => a.length ≤ k) (fun k a x hx hI => ⟨hs k a x hx hI, fun a' ha' => by
      injection ha' with ha'; subst ha'
      have := h1 x
      rw [List.length_append]; omega⟩) (fun a _ => he a) [] (by simp)
  have hw : ∀ (ys : List τ) (k : Nat) (acc : List ρ), walkL (fun _ a x => .inl (a ++ f x)) (fun a => a) k acc ys = acc ++ ys.flatMap f := fun ys => by
    induction ys with
    | nil => intro k acc; simp [walkL]
    | cons y ys ih => intro k acc; simp only [walkL]; rw [ih]; simp
  rw [show ((0, []) : Int × List ρ) = (((0 : Nat) : Int), []) from rfl, hrun, hw]
  rfl

/-- What is known at the beginning of a round that looks at one element. -/
structure Rnd (xs : List τ) (k : Nat) (x : τ) : Prop where
  get : xs[k]? = some x
  lt : decide ((k : Int) < ((xs.length : Nat) : Int)) = true
  at' : at? xs (k : Int) = some x
  nxt : IntKind.i64.wrap ((k : Int) + 1) = ((k + 1 : Nat) : Int)
  mem : x ∈ xs
  klt : k < xs.length

theorem Rnd.mk' {xs : List τ} {k : Nat} {x : τ} (h : xs[k]? = some x) (hl : xs.length ≤ 9223372036854775807) : Rnd xs k x :=
  ⟨h, at_lt h, at_nat h, w64_succ (by have := getElem?_lt h; omega), getElem?_mem h, getElem?_lt h⟩

/-- A loop that looks for an element. -/
theorem run_find {L : Lp Int (Unit ⊕ E)} {xs : List τ} (p : τ → Bool) (e : Nat → τ → E) (hl : xs.length ≤ 9223372036854775807)
    (hs : ∀ (k : Nat) x, Rnd xs k x → L.body (k : Int) = some (if p x = true then .brk (.inr (e k x)) else .next ((k + 1 : Nat) : Int))) (he : L.body ((xs.length : Nat) : Int) = some (.brk (.inl ()))) :
    L.run 0 = some (match xs.findIdx? p with | none => .inl () | some i => match xs[i]? with | some x => .inr (e i x) | none => .inl ()) := by
  have hrun := run_walk (L := L) xs (fun k (_ : Unit) => (k : Int)) (fun k _ x => if p x then .inr (.inr (e k x)) else .inl ()) (fun _ => (.inl () : Unit ⊕ E)) (fun _ _ => True) (fun k a x hx _ => by
      refine ⟨?_, fun _ _ => trivial⟩
      rw [hs k x (Rnd.mk' hx hl)]
      by_cases h : p x = true
      · rw [if_pos h, if_pos h]; rfl
      · rw [if_neg h, if_neg h]; rfl) (fun a _ => he) () trivial
  rw [show (0 : Int) = ((0 : Nat) : Int) from rfl, hrun, walk_find p (fun k x => (.inr (e k x) : Unit ⊕ E))]
  cases hf : xs.findIdx? p with
  | none => rfl
  | some i => cases hg : xs[i]? <;> simp [hg]

/-- The first place: -1 if there is none. -/
def fstI (p : τ → Bool) (xs : List τ) : Int := match xs.findIdx? p with
  | some i => (i : Int)
  | none => -1

theorem run_findi {L : Lp Int (Unit ⊕ Int)} {xs : List τ} (p : τ → Bool) (hl : xs.length ≤ 9223372036854775807)
    (hs : ∀ (k : Nat) x, Rnd xs k x → L.body (k : Int) = some (if p x = true then .brk (.inr (k : Int)) else .next ((k + 1 : Nat) : Int))) (he : L.body ((xs.length : Nat) : Int) = some (.brk (.inl ()))) :
    (L.run 0).bind (fun r_ => match r_ with | (Sum.inl _) => some (-1) | (Sum.inr v) => some v) = some (fstI p xs) := by
  rw [run_find p (fun k _ => (k : Int)) hl hs he]
  unfold fstI
  cases hf : xs.findIdx? p with
  | none => rfl
  | some i =>
    obtain ⟨hi, _⟩ := List.findIdx?_eq_some_iff_getElem.1 hf
    simp [List.getElem?_eq_getElem hi]

theorem fstI_find (p : τ → Bool) (xs : List τ) : (xs.find? p = none ∧ fstI p xs = -1) ∨ ∃ i x, xs.find? p = some x ∧ fstI p xs = (i : Nat) ∧ xs[i]? = some x ∧ at? xs (fstI p xs) = some x := by
  unfold fstI
  cases hf : xs.findIdx? p with
  | none =>
    rw [List.findIdx?_eq_none_iff] at hf
    exact .inl ⟨List.find?_eq_none.2 fun x hx => by simpa using hf x hx, rfl⟩
  | some i =>
    obtain ⟨hi, h1, h2⟩ := List.findIdx?_eq_some_iff_getElem.1 hf
    refine .inr ⟨i, xs[i], ?_, rfl, List.getElem?_eq_getElem hi, at_nat (List.getElem?_eq_getElem hi)⟩
    exact List.find?_eq_some_iff_getElem.2 ⟨h1, i, hi, rfl, fun j hj => by simpa using h2 j hj⟩

theorem fstI_nonneg (p : τ → Bool) (xs : List τ) : decide (0 ≤ fstI p xs) = xs.any p := by
  rcases fstI_find p xs with ⟨h1, h2⟩ | ⟨i, x, h1, h2, h3, _⟩
  · rw [h2]
    have : xs.any p = false := by
      rw [List.any_eq_false]
      exact fun x hx => by simpa using List.find?_eq_none.1 h1 x hx
    rw [this]; rfl
  · rw [h2]
    have : xs.any p = true := List.any_eq_true.2 ⟨x, List.mem_of_find?_eq_some h1, List.find?_some h1⟩
    rw [this]
    simp

theorem run_findv {L : Lp Int (Unit ⊕ E)} {xs : List τ} (p : τ → Bool) (e : τ → E) (hl : xs.length ≤ 9223372036854775807)
    (hs : ∀ (k : Nat) x, Rnd xs k x → L.body (k : Int) = some (if p x = true then .brk (.inr (e x)) else .next ((k + 1 : Nat) : Int))) (he : L.body ((xs.length : Nat) : Int) = some (.brk (.inl ()))) :
    L.run 0 = some (match xs.find? p with | none => .inl () | some x => .inr (e x)) := by
  rw [run_find p (fun _ x => e x) hl hs he]
  cases hf : xs.findIdx? p with
  | none =>
    rw [List.findIdx?_eq_none_iff] at hf
    rw [List.find?_eq_none.2 fun x hx => by simpa using hf x hx]
  | some i =>
    obtain ⟨hi, h1, h2⟩ := List.findIdx?_eq_some_iff_getElem.1 hf
    have : xs.find? p = some xs[i] := List.find?_eq_some_iff_getElem.2 ⟨h1, i, hi, rfl, fun j hj => by simpa using h2 j hj⟩
    simp [List.getElem?_eq_getElem hi, this]

/-- A loop that leaves at the first element with a property: is there one? -/
theorem run_any {L : Lp Int (Unit ⊕ Unit)} {xs : List τ} (p : τ → Bool) (hl : xs.length ≤ 9223372036854775807)
    (hs : ∀ (k : Nat) x, Rnd xs k x → L.body (k : Int) = some (if p x = true then .brk (.inr ()) else .next ((k + 1 : Nat) : Int))) (he : L.body ((xs.length : Nat) : Int) = some (.brk (.inl ()))) :
    L.run 0 = some (if xs.any p = true then .inr () else .inl ()) := by
  rw [run_findv p (fun _ => ()) hl hs he]
  cases hf : xs.find? p with
  | none =>
    have : xs.any p = false := by
      rw [List.any_eq_false]
      exact fun x hx => by simpa using List.find?_eq_none.1 hf x hx
    rw [this]; rfl
  | some x =>
    have : xs.any p = true := List.any_eq_true.2 ⟨x, List.mem_of_find?_eq_some hf, List.find?_some hf⟩
    rw [this]; rfl

/-- Two lists of one length, held against each other. -/
theorem run_same {L : Lp Int (Unit ⊕ Unit)} {xs ys : List τ} [DecidableEq τ] (hl : xs.length ≤ 9223372036854775807) (hxy : xs.length = ys.length)
    (hs : ∀ (k : Nat) x y, Rnd xs k x → at? ys (k : Int) = some y → L.body (k : Int) = some (if x = y then .next ((k + 1 : Nat) : Int) else .brk (.inr ()))) (he : L.body ((xs.length : Nat) : Int) = some (.brk (.inl ()))) :
    L.run 0 = some (if xs = ys then .inl () else .inr ()) := by
  have hrun := run_walk (L := L) (xs.zip ys) (fun k (_ : Unit) => (k : Int)) (fun _ _ p => if p.1 = p.2 then .inl () else .inr (.inr ())) (fun _ => (.inl () : Unit ⊕ Unit)) (fun _ _ => True) (fun k a p hp _ => by
      refine ⟨?_, fun _ _ => trivial⟩
      obtain ⟨x, y⟩ := p
      rw [List.getElem?_zip_eq_some] at hp
      rw [hs k x y (Rnd.mk' hp.1 hl) (at_nat hp.2)]
      by_cases h : x = y
      · rw [if_pos h, if_pos h]; rfl
      · rw [if_neg h, if_neg h]; rfl) (fun a _ => by rw [show (xs.zip ys).length = xs.length by rw [List.length_zip]; omega]; exact he) () trivial
  rw [show (0 : Int) = ((0 : Nat) : Int) from rfl, hrun]
  have hw : ∀ (xs ys : List τ) (k : Nat), xs.length = ys.length → walkL (fun _ _ p => if p.1 = p.2 then .inl () else .inr (.inr ())) (fun _ => (.inl () : Unit ⊕ Unit)) k () (xs.zip ys) = if xs = ys then .inl () else .inr () := by
    intro xs
    induction xs with
    | nil => intro ys k h; cases ys with
      | nil => rfl
      | cons y ys => cases h
    | cons x xs ih => intro ys k h; cases ys with
      | nil => cases h
      | cons y ys =>
        simp only [List.zip_cons_cons, walkL]
        by_cases hxy : x = y
        · simp only [if_pos hxy]
          rw [ih ys (k + 1) (by simpa using h)]
          by_cases he : xs = ys <;> simp [hxy, he]
        · simp only [if_neg hxy]
          rw [if_neg (by simp [hxy])]
  rw [hw xs ys 0 hxy]
end
end Go.Ab
