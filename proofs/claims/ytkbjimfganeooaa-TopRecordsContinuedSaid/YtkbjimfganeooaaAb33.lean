/-
  The abstract machine, thirty-third part: plain laws of the loops of the library's everyday functions.
-/
import Derived.Test.YtkbjimfganeooaaAb32
set_option linter.unusedSimpArgs false
set_option linter.unusedVariables false
namespace Go.Ab
open Go

section
variable {τ : Type}

/-- slices.Equal. -/
theorem run_equal [DecidableEq τ] {L : Lp Int (Unit ⊕ Unit)} {xs ys : List τ}
    (hb : ∀ i, L.body i = if decide (i < ((xs.length : Nat) : Int)) = true then (at? xs i).bind fun x => (at? ys i).bind fun y => if decide (x ≠ y) = true then some (.brk (Sum.inr ())) else some (.next (IntKind.i64.wrap (i + 1))) else some (.brk (Sum.inl ())))
    (hl : xs.length = ys.length) (hm : xs.length ≤ 9223372036854775807) : L.run 0 = some (if xs = ys then Sum.inl () else Sum.inr ()) := by
  suffices h : ∃ e, L.run 0 = some e ∧ e = (if xs = ys then Sum.inl () else Sum.inr ()) from by obtain ⟨e, h1, h2⟩ := h; rw [← h2]; exact h1
  refine run_ex (L := L) (s0 := 0) (fun e => e = if xs = ys then Sum.inl () else Sum.inr ()) (fun i => ∃ k : Nat, i = k ∧ k ≤ xs.length ∧ xs.take k = ys.take k) (fun i => xs.length - i.toNat) ⟨0, rfl, Nat.zero_le _, rfl⟩ ?_
  · rintro _ ⟨k, rfl, hk, ht⟩
    rw [hb]
    by_cases hlt : k < xs.length
    · have hly : k < ys.length := hl ▸ hlt
      rw [if_pos (by simpa using hlt), at_nat (List.getElem?_eq_getElem hlt), at_nat (List.getElem?_eq_getElem hly)]
      simp only [Option.bind_some, decide_eq_true_eq]
      by_cases he : xs[k] = ys[k]
      · left
        refine ⟨((k + 1 : Nat) : Int), ?_, ⟨k + 1, rfl, hlt, ?_⟩, by simp; omega⟩
        · rw [if_neg (by simpa using he), w64 (by omega) (by omega)]; rfl
        · rw [List.take_succ_eq_append_getElem hlt, List.take_succ_eq_append_getElem hly, ht, he]
      · right
        refine ⟨_, if_pos he, ?_⟩
        rw [if_neg]
        intro e
        subst e
        exact he rfl
    · right
      rw [if_neg (by simpa using hlt)]
      refine ⟨_, rfl, ?_⟩
      rw [List.take_of_length_le (by omega), List.take_of_length_le (by omega)] at ht
      rw [if_pos ht]

/-- The first place of a value: -1 if there is none. -/
def idx [DecidableEq τ] (xs : List τ) (v : τ) : Int := if v ∈ xs then (xs.idxOf v : Int) else -1

/-- slices.Index. -/
theorem run_index [DecidableEq τ] {L : Lp Int (Unit ⊕ Int)} {xs : List τ} {v : τ}
    (hb : ∀ i, L.body i = if decide (i < ((xs.length : Nat) : Int)) = true then (at? xs i).bind fun x => if decide (v = x) = true then some (.brk (Sum.inr i)) else some (.next (IntKind.i64.wrap (i + 1))) else some (.brk (Sum.inl ())))
    (hm : xs.length ≤ 9223372036854775807) : L.run 0 = some (if v ∈ xs then Sum.inr (xs.idxOf v : Int) else Sum.inl ()) := by
  suffices h : ∃ e, L.run 0 = some e ∧ e = (if v ∈ xs then Sum.inr (xs.idxOf v : Int) else Sum.inl ()) from by obtain ⟨e, h1, h2⟩ := h; rw [← h2]; exact h1
  refine run_ex (L := L) (s0 := 0) (fun e => e = if v ∈ xs then Sum.inr (xs.idxOf v : Int) else Sum.inl ()) (fun i => ∃ k : Nat, i = k ∧ k ≤ xs.length ∧ v ∉ xs.take k) (fun i => xs.length - i.toNat) ⟨0, rfl, Nat.zero_le _, by simp⟩ ?_
  · rintro _ ⟨k, rfl, hk, ht⟩
    rw [hb]
    by_cases hlt : k < xs.length
    · rw [if_pos (by simpa using hlt), at_nat (List.getElem?_eq_getElem hlt)]
      simp only [Option.bind_some, decide_eq_true_eq]
      by_cases he : v = xs[k]
      · right
        refine ⟨_, if_pos he, ?_⟩
        have hmem : v ∈ xs := by rw [he]; exact List.getElem_mem hlt
        rw [if_pos hmem]
        have : xs.idxOf v = k := by
          conv => lhs; rw [← List.take_append_drop k xs]
          rw [List.idxOf_append, if_neg ht, List.drop_eq_getElem_cons hlt, ← he, List.idxOf_cons_self, List.length_take]
          omega
        rw [this]
      · left
        refine ⟨((k + 1 : Nat) : Int), ?_, ⟨k + 1, rfl, hlt, ?_⟩, by simp; omega⟩
        · rw [if_neg he, w64 (by omega) (by omega)]; rfl
        · rw [List.take_succ_eq_append_getElem hlt, List.mem_append, not_or]
          exact ⟨ht, by simpa using he⟩
    · right
      rw [if_neg (by simpa using hlt)]
      refine ⟨_, rfl, ?_⟩
      rw [List.take_of_length_le (by omega)] at ht
      rw [if_neg ht]
end
end Go.Ab
