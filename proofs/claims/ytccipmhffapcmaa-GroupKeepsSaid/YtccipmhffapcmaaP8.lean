import Derived.Test.YtccipmhffapcmaaP2
import Derived.Test.YtccipmhffapcmaaAb43
namespace Go.Proofs.Ytccipmhffapcmaa
open Go Go.Ab
set_option linter.unusedSimpArgs false

theorem nn {a : Int} (h : a = 0) : ¬ (a ≠ 0) := fun k => k h

/-- A table in order. -/
structure Tab (l : List ApiGroup) : Prop where
  len : l.length ≤ 32
  chk : ∀ g ∈ l, checkG g = 0
  asc : l.Pairwise fun a b => a.fNumber < b.fNumber

theorem goT_chk : ∀ {l : List ApiGroup} {p : Option ApiGroup}, goT p l = 0 → ∀ g ∈ l, checkG g = 0
  | [], _, _, g, hg => by simp at hg
  | x :: xs, p, h, g, hg => by
    rw [goT_cons] at h
    by_cases hc : checkG x = 0
    · rw [if_neg (by simpa using hc)] at h
      rcases List.mem_cons.1 hg with rfl | hg
      · exact hc
      · cases p with
        | none => exact goT_chk h g hg
        | some q =>
          dsimp only at h
          split at h
          · cases h
          · exact goT_chk h g hg
    · rw [if_pos hc] at h; exact absurd h hc

theorem goT_asc : ∀ {l : List ApiGroup} {q : ApiGroup}, goT (some q) l = 0 → (q :: l).Pairwise fun a b => a.fNumber < b.fNumber
  | [], q, _ => by simp
  | x :: xs, q, h => by
    rw [goT_cons] at h
    split at h
    · rename_i hc; exact absurd h hc
    · dsimp only at h
      split at h
      · cases h
      · rename_i hlt
        have := goT_asc h
        rw [List.pairwise_cons] at this ⊢
        refine ⟨fun y hy => ?_, List.pairwise_cons.2 this⟩
        rcases List.mem_cons.1 hy with rfl | hy
        · omega
        · have := this.1 y hy; omega

theorem tab_of {l : List ApiGroup} (h : tableS l = 0) : Tab l := by
  unfold tableS at h
  split at h
  · cases h
  · rename_i hl
    refine ⟨by omega, goT_chk h, ?_⟩
    cases l with
    | nil => exact List.Pairwise.nil
    | cons x xs =>
      rw [goT_cons] at h
      split at h
      · rename_i hc; exact absurd h hc
      · exact goT_asc h

theorem goT_of : ∀ {l : List ApiGroup} {p : Option ApiGroup}, (∀ g ∈ l, checkG g = 0) → l.Pairwise (fun a b => a.fNumber < b.fNumber) → (∀ q, p = some q → ∀ g ∈ l, q.fNumber < g.fNumber) → goT p l = 0
  | [], _, _, _, _ => rfl
  | x :: xs, p, h1, h2, h3 => by
    rw [goT_cons, if_neg (by simpa using h1 x (List.mem_cons_self ..))]
    rw [List.pairwise_cons] at h2
    have ih := goT_of (p := some x) (fun g hg => h1 g (List.mem_cons_of_mem _ hg)) h2.2 (fun q hq g hg => by injection hq with hq; subst hq; exact h2.1 g hg)
    cases p with
    | none => exact ih
    | some q =>
      have := h3 q rfl x (List.mem_cons_self ..)
      dsimp only
      rw [if_neg (by omega)]
      exact ih

theorem tableS_of {l : List ApiGroup} (h : Tab l) : tableS l = 0 := by
  unfold tableS
  rw [if_neg (by have := h.len; omega)]
  exact goT_of h.chk h.asc fun q hq => by cases hq

theorem check_num {g : ApiGroup} (h : checkG g = 0) : 1 ≤ g.fNumber ∧ g.fNumber ≤ 1048576 := by
  unfold checkG at h
  split at h
  · cases h
  · omega

def cN (n : Int) (g : ApiGroup) : Int := if g.fNumber < n then -1 else if n < g.fNumber then 1 else 0

theorem cN_neg {n : Int} {g : ApiGroup} : cN n g < 0 ↔ g.fNumber < n := by unfold cN; split <;> simp_all <;> split <;> omega
theorem cN_zero {n : Int} {g : ApiGroup} : cN n g = 0 ↔ g.fNumber = n := by
  unfold cN
  split
  · simp; omega
  · split
    · simp; omega
    · simp; omega

theorem f63p_eq (g : ApiGroup) (n : Int) : f63p g n = some (cN n g) := by
  unfold f63p f49 f64 f70 cN
  simp only [Option.bind_some, ne_eq, not_true_eq_false, decide_false, Bool.false_eq_true, if_false, decide_eq_true_eq]
  split
  · rfl
  · split <;> rfl

theorem f48_eq {l : List ApiGroup} (h : Tab l) (n : Int) : f48_49 l n = some ((posB (cN n) l : Int), hasB (cN n) l) := by
  unfold f48_49 f62_63
  have hl := h.len
  rw [run_bsearch (L := f62_63_L1 l n) (cmp := fun x => f63p x n) (c := cN n) (fun _ _ => rfl) (fun x _ => f63p_eq x n) (h.asc.imp fun {a b} hab hb => by rw [cN_neg] at hb ⊢; omega) (by omega)]
  have hp := posB_le (cN n) l
  simp only [Option.bind_some]
  unfold hasB
  by_cases hlt : posB (cN n) l < l.length
  · rw [if_pos (by simpa using hlt), at_nat (List.getElem?_eq_getElem hlt), List.getElem?_eq_getElem hlt]
    simp only [Option.bind_some, f63p_eq]
  · rw [if_neg (by simpa using hlt), List.getElem?_eq_none (by omega)]
    rfl

/-- The group with a number. -/
def getS (l : List ApiGroup) (n : Int) : Option ApiGroup := l.find? fun g => decide (g.fNumber = n)
def findS (l : List ApiGroup) (n : Int) : ApiGroup × Int := if tableS l ≠ 0 then (⟨0, []⟩, tableS l) else match getS l n with
  | some g => (g, 0)
  | none => (⟨0, []⟩, 6)

theorem pos_cons {n : Int} {x : ApiGroup} {xs : List ApiGroup} : posB (cN n) (x :: xs) = if x.fNumber < n then posB (cN n) xs + 1 else 0 := by
  by_cases h : x.fNumber < n
  · rw [if_pos h, posB_cons_neg (cN_neg.2 h)]
  · rw [if_neg h, posB_cons_pos (fun hh => h (cN_neg.1 hh))]

theorem has_cons {n : Int} {x : ApiGroup} {xs : List ApiGroup} : hasB (cN n) (x :: xs) = if x.fNumber < n then hasB (cN n) xs else decide (x.fNumber = n) := by
  unfold hasB
  rw [pos_cons]
  by_cases h : x.fNumber < n
  · rw [if_pos h, if_pos h, List.getElem?_cons_succ]
  · rw [if_neg h, if_neg h]
    simp only [List.getElem?_cons_zero, cN_zero]

/-- In an ordered table a search finds what a walk finds. -/
theorem get_pos {l : List ApiGroup} {n : Int} (h : l.Pairwise fun a b => a.fNumber < b.fNumber) : getS l n = if hasB (cN n) l then l[posB (cN n) l]? else none := by
  induction l with
  | nil => rfl
  | cons x xs ih =>
    rw [List.pairwise_cons] at h
    rw [has_cons, pos_cons]
    unfold getS at ih ⊢
    by_cases h1 : x.fNumber < n
    · rw [if_pos h1, if_pos h1, List.getElem?_cons_succ, List.find?_cons_of_neg (by simp; omega)]
      exact ih h.2
    · rw [if_neg h1, if_neg h1]
      by_cases h2 : x.fNumber = n
      · simp [h2]
      · rw [List.find?_cons_of_neg (by simpa using h2)]
        simp only [h2, decide_false, Bool.false_eq_true, if_false]
        rw [List.find?_eq_none]
        intro y hy
        have := h.1 y hy
        simp; omega

theorem f28_eq (l : List ApiGroup) (n : Int) : f28 l n = some (findS l n) := by
  unfold f28 findS
  simp only [f22_eq, Option.bind_some, decide_eq_true_eq]
  by_cases h0 : tableS l = 0
  · rw [if_neg (nn h0), if_neg (nn h0)]
    have ht := tab_of h0
    rw [f48_eq ht, get_pos ht.asc]
    simp only [Option.bind_some]
    by_cases hh : hasB (cN n) l = true
    · rw [hh]
      simp only [Bool.not_true, Bool.false_eq_true, if_false, if_true]
      have hlt : posB (cN n) l < l.length := by
        by_cases hc : posB (cN n) l < l.length
        · exact hc
        · unfold hasB at hh; rw [List.getElem?_eq_none (by omega)] at hh; cases hh
      rw [at_nat (List.getElem?_eq_getElem hlt), List.getElem?_eq_getElem hlt]
      rfl
    · have hf : hasB (cN n) l = false := by simpa using hh
      rw [hf]
      rfl
  · rw [if_pos h0, if_pos h0]

theorem f50_eq {l : List ApiGroup} (hl : l.length ≤ 1000) (n : Int) : f50 l n = some (match l.findIdx? fun g => decide (g.fNumber = n) with | some i => (i : Int) | none => -1) := by
  unfold f50
  have hrun := run_walk (L := f50_L1 l n) l (fun k (_ : Unit) => (k : Int)) (fun k _ x => if decide (x.fNumber = n) = true then .inr (Sum.inr (k : Int)) else .inl ()) (fun _ => Sum.inl ()) (fun _ _ => True) (fun k a x hx _ => by
      refine ⟨?_, fun _ _ => trivial⟩
      simp only [f50_L1]
      rw [if_pos (at_lt hx), at_nat hx, Option.bind_some]
      by_cases hc : x.fNumber = n
      · rw [if_pos (by simpa using hc), if_pos (by simpa using hc)]; rfl
      · rw [if_neg (by simpa using hc), if_neg (by simpa using hc), w64_succ (by have := getElem?_lt hx; omega)]; rfl)
    (fun a _ => by simp only [f50_L1]; rw [at_end]; rfl) () trivial
  rw [show (0 : Int) = ((0 : Nat) : Int) from rfl, hrun, walk_find (fun x : ApiGroup => decide (x.fNumber = n)) (fun k _ => Sum.inr (k : Int))]
  cases hf : l.findIdx? fun g => decide (g.fNumber = n) with
  | none => rfl
  | some i =>
    obtain ⟨hi, _⟩ := List.findIdx?_eq_some_iff_getElem.1 hf
    simp only [List.getElem?_eq_getElem hi, Nat.zero_add, Option.bind_some]

theorem find_idx {l : List ApiGroup} {n : Int} : getS l n = match l.findIdx? fun g => decide (g.fNumber = n) with | some i => l[i]? | none => none := by
  unfold getS
  cases hf : l.findIdx? fun g => decide (g.fNumber = n) with
  | none =>
    rw [List.findIdx?_eq_none_iff] at hf
    exact List.find?_eq_none.2 fun x hx => by simpa using hf x hx
  | some i =>
    obtain ⟨hi, h1, h2⟩ := List.findIdx?_eq_some_iff_getElem.1 hf
    dsimp only
    rw [List.getElem?_eq_getElem hi]
    refine List.find?_eq_some_iff_getElem.2 ⟨h1, i, hi, rfl, fun j hj => by simpa using h2 j hj⟩

theorem f29_eq (l : List ApiGroup) (n : Int) : f29 l n = some (findS l n) := by
  unfold f29 findS
  simp only [f23_eq, Option.bind_some, decide_eq_true_eq]
  by_cases h0 : tableS l = 0
  · rw [if_neg (nn h0), if_neg (nn h0)]
    have ht := tab_of h0
    rw [f50_eq (by have := ht.len; omega), find_idx]
    cases hf : l.findIdx? fun g => decide (g.fNumber = n) with
    | none => rfl
    | some i =>
      obtain ⟨hi, h1, h2⟩ := List.findIdx?_eq_some_iff_getElem.1 hf
      simp only [Option.bind_some]
      rw [if_neg (by omega), at_nat (List.getElem?_eq_getElem hi), List.getElem?_eq_getElem hi]
      rfl
  · rw [if_pos h0, if_pos h0]

/-- An ordered table with a group. -/
def putL (g : ApiGroup) : List ApiGroup → List ApiGroup
  | [] => [g]
  | x :: xs => if x.fNumber < g.fNumber then x :: putL g xs else if x.fNumber = g.fNumber then g :: xs else g :: x :: xs

theorem putL_len (g : ApiGroup) : ∀ l, (putL g l).length ≤ l.length + 1
  | [] => by simp [putL]
  | x :: xs => by
    have := putL_len g xs
    simp only [putL]
    split
    · simp only [List.length_cons]; omega
    · split <;> simp

theorem putL_pos (g : ApiGroup) : ∀ l : List ApiGroup, (if hasB (cN g.fNumber) l then l.set (posB (cN g.fNumber) l) g else l.take (posB (cN g.fNumber) l) ++ g :: l.drop (posB (cN g.fNumber) l)) = putL g l
  | [] => rfl
  | x :: xs => by
    have ih := putL_pos g xs
    rw [has_cons, pos_cons]
    simp only [putL]
    by_cases h1 : x.fNumber < g.fNumber
    · simp only [if_pos h1]
      rw [← ih]
      split <;> simp
    · simp only [if_neg h1]
      by_cases h2 : x.fNumber = g.fNumber
      · simp [h2]
      · simp [h2]

theorem f51_eq {xs : List ApiGroup} (h : xs.length ≤ 1000) : f51 xs = some xs := by
  unfold f51
  have ha : app? 32 [] xs = some xs := by rw [app_some (by simp; omega) (by simp; omega)]; rfl
  by_cases hx : xs = []
  · subst hx
    rw [nil_nil (by simp [ha])]
    simp
  · rw [nil_cons hx]
    simp [ha]

def putS (l : List ApiGroup) (g : ApiGroup) : List ApiGroup × Int := if tableS l ≠ 0 then ([], tableS l) else if checkG g ≠ 0 then ([], checkG g) else if 32 < (putL g l).length then ([], 5) else (putL g l, 0)

theorem has_lt {c : ApiGroup → Int} {l : List ApiGroup} (hh : hasB c l = true) : posB c l < l.length := by
  by_cases hc : posB c l < l.length
  · exact hc
  · unfold hasB at hh; rw [List.getElem?_eq_none (by omega)] at hh; cases hh

theorem f30_eq (l : List ApiGroup) (g : ApiGroup) : f30 l g = some (putS l g) := by
  unfold f30 putS
  simp only [f22_eq, f20_eq, Option.bind_some, decide_eq_true_eq]
  by_cases h0 : tableS l = 0
  · rw [if_neg (nn h0), if_neg (nn h0)]
    have ht := tab_of h0
    have hlen := ht.len
    by_cases h1 : checkG g = 0
    · rw [if_neg (nn h1), if_neg (nn h1), f51_eq (by omega), f48_eq ht]
      simp only [Option.bind_some]
      have hp := posB_le (cN g.fNumber) l
      rw [← putL_pos g l]
      by_cases hh : hasB (cN g.fNumber) l = true
      · have hlt := has_lt hh
        rw [if_pos hh, if_pos hh, at_nat (List.getElem?_eq_getElem hlt), Option.bind_some, if_neg (by omega), if_neg (by simp; omega)]
        simp
      · rw [if_neg hh, if_neg hh, ins_some (by omega) (by omega) (by omega), Option.bind_some]
        simp only [Int.toNat_natCast]
        have hll : (l.take (posB (cN g.fNumber) l) ++ g :: l.drop (posB (cN g.fNumber) l)).length = l.length + 1 := by simp; omega
        by_cases h2 : 32 < l.length + 1
        · rw [if_pos (by rw [hll]; omega), if_pos (by rw [hll]; omega)]
        · rw [if_neg (by rw [hll]; omega), if_neg (by rw [hll]; omega)]
    · rw [if_pos h1, if_pos h1]
  · rw [if_pos h0, if_pos h0]

/-- One round of the specification's walk. -/
def stepW (g : ApiGroup) (a : Bool × List ApiGroup) (x : ApiGroup) : Bool × List ApiGroup :=
  let b : Bool × List ApiGroup := if a.1 = false ∧ g.fNumber ≤ x.fNumber then (true, a.2 ++ [g]) else a
  (b.1, if x.fNumber ≠ g.fNumber then b.2 ++ [x] else b.2)

theorem stepW_t {g x : ApiGroup} {acc : List ApiGroup} (h : x.fNumber ≠ g.fNumber) : stepW g (true, acc) x = (true, acc ++ [x]) := by simp [stepW, h]
theorem stepW_lt {g x : ApiGroup} {acc : List ApiGroup} (h : x.fNumber < g.fNumber) : stepW g (false, acc) x = (false, acc ++ [x]) := by
  have h1 : ¬ g.fNumber ≤ x.fNumber := by omega
  have h2 : ¬ x.fNumber = g.fNumber := by omega
  simp [stepW, h1, h2]
theorem stepW_eq {g x : ApiGroup} {acc : List ApiGroup} (h : x.fNumber = g.fNumber) : stepW g (false, acc) x = (true, acc ++ [g]) := by simp [stepW, h]
theorem stepW_gt {g x : ApiGroup} {acc : List ApiGroup} (h : g.fNumber < x.fNumber) : stepW g (false, acc) x = (true, acc ++ [g] ++ [x]) := by
  have h1 : g.fNumber ≤ x.fNumber := by omega
  have h2 : ¬ x.fNumber = g.fNumber := by omega
  simp [stepW, h1, h2]

theorem walkW_true (g : ApiGroup) {E : Type} (e : Bool × List ApiGroup → E) : ∀ (xs : List ApiGroup) (k : Nat) (acc : List ApiGroup), (∀ x ∈ xs, x.fNumber ≠ g.fNumber) → walkL (fun _ a x => .inl (stepW g a x)) e k (true, acc) xs = e (true, acc ++ xs)
  | [], _, acc, _ => by simp [walkL]
  | x :: xs, k, acc, h => by
    simp only [walkL]
    rw [stepW_t (h x (List.mem_cons_self ..)), walkW_true g e xs _ _ fun y hy => h y (List.mem_cons_of_mem _ hy)]
    simp

theorem walkW_false (g : ApiGroup) {E : Type} (e : Bool × List ApiGroup → E) : ∀ (xs : List ApiGroup) (k : Nat) (acc : List ApiGroup), xs.Pairwise (fun a b => a.fNumber < b.fNumber) →
    walkL (fun _ a x => .inl (stepW g a x)) e k (false, acc) xs = if ∀ x ∈ xs, x.fNumber < g.fNumber then e (false, acc ++ xs) else e (true, acc ++ putL g xs)
  | [], _, acc, _ => by simp [walkL]
  | x :: xs, k, acc, h => by
    rw [List.pairwise_cons] at h
    simp only [walkL, putL]
    by_cases h1 : x.fNumber < g.fNumber
    · rw [stepW_lt h1, walkW_false g e xs _ _ h.2, if_pos h1]
      simp only [List.mem_cons, forall_eq_or_imp, h1, true_and, List.append_assoc, List.singleton_append]
    · have hno : ¬ ∀ y ∈ x :: xs, y.fNumber < g.fNumber := fun hh => h1 (hh x (List.mem_cons_self ..))
      rw [if_neg h1, if_neg hno]
      by_cases h2 : x.fNumber = g.fNumber
      · rw [stepW_eq h2, walkW_true g e xs _ _ fun y hy => by have := h.1 y hy; omega, if_pos h2]
        simp
      · rw [stepW_gt (by omega), walkW_true g e xs _ _ fun y hy => by have := h.1 y hy; omega, if_neg h2]
        simp

theorem putL_end (g : ApiGroup) : ∀ {xs : List ApiGroup}, (∀ x ∈ xs, x.fNumber < g.fNumber) → putL g xs = xs ++ [g]
  | [], _ => rfl
  | x :: xs, h => by
    simp only [putL]
    rw [if_pos (h x (List.mem_cons_self ..)), putL_end g fun y hy => h y (List.mem_cons_of_mem _ hy)]
    rfl

theorem stepW_len (g x : ApiGroup) (a : Bool × List ApiGroup) : (stepW g a x).2.length ≤ a.2.length + 2 := by
  obtain ⟨d, o⟩ := a
  unfold stepW
  split <;> split <;> simp

theorem f53_eq {l : List ApiGroup} (g : ApiGroup) (hl : l.length ≤ 1000) (ha : l.Pairwise fun a b => a.fNumber < b.fNumber) : f53 l g = some (putL g l) := by
  unfold f53
  have hrun := run_walk (L := f53_L1 l g) l (fun k (a : Bool × List ApiGroup) => (a.1, (k : Int), a.2)) (fun _ a x => .inl (stepW g a x)) (fun a => a) (fun k a => a.2.length ≤ 2 * k) (fun k a x hx hI => by
      have hk := getElem?_lt hx
      refine ⟨?_, fun a' ha' => by injection ha' with ha'; subst ha'; have := stepW_len g x a; omega⟩
      obtain ⟨d, o⟩ := a
      dsimp only at hI
      have hJ : ∀ (d : Bool) (o : List ApiGroup), o.length ≤ 2 * k + 1 → (f53_J2 l (k : Int) g).run (d, o) = some (.next (d, ((k + 1 : Nat) : Int), if x.fNumber ≠ g.fNumber then o ++ [x] else o)) := fun d o ho => by
        simp only [f53_J2]
        rw [at_nat hx, Option.bind_some, w64_succ (by omega)]
        by_cases hc : x.fNumber = g.fNumber
        · rw [if_neg (by simpa using hc), if_neg (by simpa using hc)]
        · rw [if_pos (by simpa using hc), if_pos hc, Option.bind_some, app_some (by simp; omega) (by simp; omega), Option.bind_some]
      simp only [f53_L1]
      rw [if_pos (at_lt hx)]
      cases d with
      | true =>
        rw [if_neg (by simp), hJ _ _ (by omega)]
        simp [stepW, roundL]
      | false =>
        rw [if_pos (by simp), at_nat hx, Option.bind_some]
        by_cases hc : g.fNumber ≤ x.fNumber
        · rw [if_pos (by simpa using hc), app_some (by simp; omega) (by simp; omega), Option.bind_some, hJ _ _ (by simp; omega)]
          simp [stepW, roundL, hc]
        · rw [if_neg (by simpa using hc), hJ _ _ (by omega)]
          simp [stepW, roundL, hc])
    (fun a _ => by obtain ⟨d, o⟩ := a; simp only [f53_L1]; rw [at_end]; rfl) (false, []) (by simp)
  rw [show ((false, 0, []) : Bool × Int × List ApiGroup) = (false, ((0 : Nat) : Int), []) from rfl, hrun, walkW_false g _ l 0 [] ha]
  by_cases hc : ∀ x ∈ l, x.fNumber < g.fNumber
  · rw [if_pos hc, putL_end g hc]
    simp only [Option.bind_some, List.nil_append, Bool.not_false, if_true]
    rw [app_some (by simp; omega) (by simp; omega)]
    rfl
  · rw [if_neg hc]
    simp

theorem f31_eq (l : List ApiGroup) (g : ApiGroup) : f31 l g = some (putS l g) := by
  unfold f31 putS
  simp only [f23_eq, f21_eq, Option.bind_some, decide_eq_true_eq]
  by_cases h0 : tableS l = 0
  · rw [if_neg (nn h0), if_neg (nn h0)]
    have ht := tab_of h0
    have hlen := ht.len
    by_cases h1 : checkG g = 0
    · rw [if_neg (nn h1), if_neg (nn h1), f53_eq g (by omega) ht.asc]
      simp only [Option.bind_some]
      by_cases h2 : 32 < (putL g l).length
      · rw [if_pos (by omega), if_pos h2]
      · rw [if_neg (by omega), if_neg h2]
    · rw [if_pos h1, if_pos h1]
  · rw [if_pos h0, if_pos h0]

def dropS (l : List ApiGroup) (n : Int) : List ApiGroup × Int := if tableS l ≠ 0 then ([], tableS l) else if (getS l n).isSome then (l.filter fun g => decide (g.fNumber ≠ n), 0) else ([], 6)

theorem drop_pos {n : Int} : ∀ {l : List ApiGroup}, l.Pairwise (fun a b => a.fNumber < b.fNumber) → hasB (cN n) l = true → l.take (posB (cN n) l) ++ l.drop (posB (cN n) l + 1) = l.filter fun g => decide (g.fNumber ≠ n)
  | [], _, h => by simp [hasB] at h
  | x :: xs, ha, h => by
    rw [List.pairwise_cons] at ha
    rw [has_cons] at h
    rw [pos_cons]
    by_cases h1 : x.fNumber < n
    · rw [if_pos h1] at h ⊢
      rw [List.filter_cons_of_pos (by simp; omega), ← drop_pos ha.2 h]
      simp
    · rw [if_neg h1] at h ⊢
      have h2 : x.fNumber = n := by simpa using h
      rw [List.filter_cons_of_neg (by simpa using h2)]
      simp only [List.take_zero, List.nil_append, Nat.zero_add, List.drop_succ_cons, List.drop_zero]
      rw [List.filter_eq_self.2]
      intro y hy
      have := ha.1 y hy
      simp; omega

theorem get_has {l : List ApiGroup} {n : Int} (h : l.Pairwise fun a b => a.fNumber < b.fNumber) : (getS l n).isSome = hasB (cN n) l := by
  rw [get_pos h]
  by_cases hh : hasB (cN n) l = true
  · rw [if_pos hh, hh, List.getElem?_eq_getElem (has_lt hh)]
    rfl
  · rw [if_neg hh]
    simpa using hh

theorem f32_eq (l : List ApiGroup) (n : Int) : f32 l n = some (dropS l n) := by
  unfold f32 dropS
  simp only [f22_eq, Option.bind_some, decide_eq_true_eq]
  by_cases h0 : tableS l = 0
  · rw [if_neg (nn h0), if_neg (nn h0)]
    have ht := tab_of h0
    have hlen := ht.len
    rw [f48_eq ht, get_has ht.asc]
    simp only [Option.bind_some]
    by_cases hh : hasB (cN n) l = true
    · have hlt := has_lt hh
      rw [hh]
      simp only [Bool.not_true, Bool.false_eq_true, if_false, if_true]
      rw [f51_eq (by omega), Option.bind_some, w64_succ (by omega), del_some (by omega) (by omega), Option.bind_some]
      simp only [Int.toNat_natCast]
      rw [drop_pos ht.asc hh]
    · have hf : hasB (cN n) l = false := by simpa using hh
      rw [hf]
      rfl
  · rw [if_pos h0, if_pos h0]

theorem f55_eq {l : List ApiGroup} (hl : l.length ≤ 1000) (n : Int) : f55 l n = some (l.filter fun g => decide (g.fNumber ≠ n)) := by
  unfold f55
  have hrun := run_walk (L := f55_L1 l n) l (fun k (a : List ApiGroup) => ((k : Int), a)) (fun _ a x => .inl (if decide (x.fNumber ≠ n) = true then a ++ [x] else a)) (fun a => a) (fun k a => a.length ≤ k) (fun k a x hx hI => by
      have hk := getElem?_lt hx
      refine ⟨?_, fun a' ha' => ?_⟩
      · simp only [f55_L1]
        rw [if_pos (at_lt hx), at_nat hx, Option.bind_some, w64_succ (by omega)]
        by_cases hc : x.fNumber = n
        · rw [if_neg (by simpa using hc), if_neg (by simpa using hc)]; rfl
        · rw [if_pos (by simpa using hc), if_pos (by simpa using hc), Option.bind_some, app_some (by simp; omega) (by simp; omega), Option.bind_some]; rfl
      · injection ha' with ha'; subst ha'
        split
        · simp; omega
        · omega)
    (fun a _ => by simp only [f55_L1]; rw [at_end]; rfl) [] (by simp)
  rw [show ((0, []) : Int × List ApiGroup) = (((0 : Nat) : Int), []) from rfl, hrun, walk_filter (fun x : ApiGroup => decide (x.fNumber ≠ n))]
  rfl

theorem f33_eq (l : List ApiGroup) (n : Int) : f33 l n = some (dropS l n) := by
  unfold f33 dropS
  simp only [f23_eq, Option.bind_some, decide_eq_true_eq]
  by_cases h0 : tableS l = 0
  · rw [if_neg (nn h0), if_neg (nn h0)]
    have ht := tab_of h0
    have hlen := ht.len
    rw [f50_eq (by omega), find_idx]
    cases hf : l.findIdx? fun g => decide (g.fNumber = n) with
    | none => rfl
    | some i =>
      obtain ⟨hi, h1, h2⟩ := List.findIdx?_eq_some_iff_getElem.1 hf
      simp only [Option.bind_some]
      rw [if_neg (by omega), f55_eq (by omega)]
      simp only [List.getElem?_eq_getElem hi, Option.isSome_some, if_true]
      rfl
  · rw [if_pos h0, if_pos h0]

theorem f34_self {l : List ApiGroup} (hl : l.length ≤ 1000) (hok : ∀ g ∈ l, okG g) : f34 l l = some true := by
  unfold f34
  rw [if_neg (by simp)]
  have hrun := run_walk (L := f34_L1 l l) l (fun k (_ : Unit) => (k : Int)) (fun _ _ _ => .inl ()) (fun _ => Sum.inl ()) (fun _ _ => True) (fun k a x hx _ => by
      refine ⟨?_, fun _ _ => trivial⟩
      have hk := getElem?_lt hx
      simp only [f34_L1]
      rw [if_pos (at_lt hx), at_nat hx, Option.bind_some, Option.bind_some, f19_eq (hok x (getElem?_mem hx)), w64_succ (by omega)]
      simp [roundL])
    (fun a _ => by simp only [f34_L1]; rw [at_end]; rfl) () trivial
  rw [show (0 : Int) = ((0 : Nat) : Int) from rfl, hrun]
  have : ∀ (xs : List ApiGroup) (k : Nat), walkL (fun _ _ _ => .inl ()) (fun _ => (Sum.inl () : Unit ⊕ Unit)) k () xs = Sum.inl () := fun xs => by
    induction xs with
    | nil => intro k; rfl
    | cons x xs ih => intro k; exact ih (k + 1)
  rw [this]
  rfl

theorem okG_of {g : ApiGroup} (h : checkG g = 0) : okG g := by
  have := check_len h
  unfold okG; omega

theorem putS_ok {l : List ApiGroup} {g : ApiGroup} : (putS l g).1.length ≤ 1000 ∧ ∀ x ∈ (putS l g).1, okG x := by
  unfold putS
  by_cases h0 : tableS l = 0
  · rw [if_neg (nn h0)]
    have ht := tab_of h0
    by_cases h1 : checkG g = 0
    · rw [if_neg (nn h1)]
      split
      · simp
      · rename_i h2
        refine ⟨by dsimp only; omega, ?_⟩
        have : ∀ l : List ApiGroup, (∀ x ∈ l, okG x) → ∀ x ∈ putL g l, okG x := by
          intro l
          induction l with
          | nil => intro _ x hx; simp [putL] at hx; subst hx; exact okG_of h1
          | cons y ys ih =>
            intro h x hx
            simp only [putL] at hx
            split at hx
            · rcases List.mem_cons.1 hx with rfl | hx
              · exact h _ (List.mem_cons_self ..)
              · exact ih (fun z hz => h z (List.mem_cons_of_mem _ hz)) x hx
            · split at hx
              · rcases List.mem_cons.1 hx with rfl | hx
                · exact okG_of h1
                · exact h x (List.mem_cons_of_mem _ hx)
              · rcases List.mem_cons.1 hx with rfl | hx
                · exact okG_of h1
                · exact h x hx
        exact this l fun x hx => okG_of (ht.chk x hx)
    · rw [if_pos h1]; simp
  · rw [if_pos h0]; simp

theorem dropS_ok {l : List ApiGroup} {n : Int} : (dropS l n).1.length ≤ 1000 ∧ ∀ x ∈ (dropS l n).1, okG x := by
  unfold dropS
  by_cases h0 : tableS l = 0
  · rw [if_neg (nn h0)]
    have ht := tab_of h0
    split
    · refine ⟨?_, fun x hx => okG_of (ht.chk x (List.mem_filter.1 hx).1)⟩
      have := List.length_filter_le (fun g : ApiGroup => decide (g.fNumber ≠ n)) l
      have := ht.len
      dsimp only; omega
    · simp
  · rw [if_pos h0]; simp

theorem findS_ok {l : List ApiGroup} {n : Int} : okG (findS l n).1 := by
  unfold findS
  by_cases h0 : tableS l = 0
  · rw [if_neg (nn h0)]
    have ht := tab_of h0
    cases hf : getS l n with
    | none => simp [okG]
    | some g => exact okG_of (ht.chk g (List.mem_of_find?_eq_some hf))
  · rw [if_pos h0]; simp [okG]

theorem f8_eq (l : List ApiGroup) (g : ApiGroup) (n : Int) (hl : l.length ≤ 9223372036854775807) : f8 l g n = some true := by
  unfold f8
  rw [f17_eq l hl, f17_eq [g] (by simp), f15_eq]
  simp only [Option.bind_some]
  by_cases h1 : fewS l = true
  · by_cases h2 : fewS [g] = true
    · rw [h1, h2, f28_eq, f29_eq, f30_eq, f31_eq, f32_eq, f33_eq]
      simp only [Bool.not_true, Bool.false_eq_true, if_false, Option.bind_some, if_true]
      rw [f19_eq findS_ok, f34_self putS_ok.1 putS_ok.2, f34_self dropS_ok.1 dropS_ok.2]
      simp
    · have : fewS [g] = false := by simpa using h2
      rw [h1, this]; rfl
  · have : fewS l = false := by simpa using h1
    rw [this]; rfl
end Go.Proofs.Ytccipmhffapcmaa
