/-
  The abstract machine, thirty-second part: plain laws of loops, of lists and of numbers, for functions over typed data.
-/
import Derived.Test.YtkbjimfganeooaaAb31
set_option linter.unusedSimpArgs false
set_option linter.unusedVariables false
namespace Go.Ab
open Go

theorem w64 {a : Int} (h1 : -9223372036854775808 ≤ a) (h2 : a ≤ 9223372036854775807) : IntKind.i64.wrap a = a := wrap_i64 h1 h2

section
variable {S E τ α : Type}

/-- A loop that leaves e behind. -/
theorem run_eq {L : Lp S E} {s0 : S} {e : E} (I : S → Prop) (μ : S → Nat) (h0 : I s0) (h : ∀ s, I s → (∃ s', L.body s = some (.next s') ∧ I s' ∧ μ s' < μ s) ∨ L.body s = some (.brk e)) : L.run s0 = some e := by
  obtain ⟨e', h1, rfl⟩ := iter_rule (body := L.body) I μ (fun e' => e' = e) (fun s hs => by
    rcases h s hs with h | h
    · exact .inl h
    · exact .inr ⟨e, h, rfl⟩) s0 h0
  exact h1

/-- A loop, of what it leaves behind one thing is known. -/
theorem run_ex {L : Lp S E} {s0 : S} (Q : E → Prop) (I : S → Prop) (μ : S → Nat) (h0 : I s0) (h : ∀ s, I s → (∃ s', L.body s = some (.next s') ∧ I s' ∧ μ s' < μ s) ∨ ∃ e, L.body s = some (.brk e) ∧ Q e) : ∃ e, L.run s0 = some e ∧ Q e :=
  iter_rule (body := L.body) I μ Q h s0 h0

/-- Rounds counted from k to n: st k is the state ahead of round k. -/
theorem run_count {L : Lp S E} {e : E} (st : Nat → S) (n : Nat) (he : L.body (st n) = some (.brk e)) : ∀ k, k ≤ n → (∀ i, k ≤ i → i < n → L.body (st i) = some (.next (st (i + 1)))) → L.run (st k) = some e := by
  intro k hk
  obtain ⟨m, rfl⟩ : ∃ m, n = k + m := ⟨n - k, by omega⟩
  induction m generalizing k with
  | zero => intro _; exact iter_brk he
  | succ m ih =>
    intro h
    rw [show L.run (st k) = iter L.body (st k) from rfl, iter_next (h k (Nat.le_refl _) (by omega))]
    refine ih (k + 1) (by rw [show k + 1 + m = k + (m + 1) by omega]; exact he) (by omega) fun i h1 h2 => h i (by omega) (by omega)

/-- Rounds counted from k to n, of which one (or the last test) leaves the loop. -/
theorem run_until {L : Lp S E} (st : Nat → S) (n : Nat) (Q : E → Prop) : ∀ k, k ≤ n → (∀ i, k ≤ i → i < n → L.body (st i) = some (.next (st (i + 1))) ∨ ∃ e, L.body (st i) = some (.brk e) ∧ Q e) →
    (∃ e, L.body (st n) = some (.brk e) ∧ Q e) → ∃ e, L.run (st k) = some e ∧ Q e := by
  intro k hk h he
  obtain ⟨m, rfl⟩ : ∃ m, n = k + m := ⟨n - k, by omega⟩
  induction m generalizing k with
  | zero => obtain ⟨e, h1, h2⟩ := he; exact ⟨e, iter_brk h1, h2⟩
  | succ m ih =>
    rcases h k (Nat.le_refl _) (by omega) with h1 | ⟨e, h1, h2⟩
    · rw [show L.run (st k) = iter L.body (st k) from rfl, iter_next h1]
      exact ih (k + 1) (by omega) (fun i h1 h2 => h i (by omega) (by omega)) (by rw [show k + 1 + m = k + (m + 1) by omega]; exact he)
    · exact ⟨e, iter_brk h1, h2⟩

theorem at_some {xs : List τ} {i : Int} {x : τ} (h0 : 0 ≤ i) (h : xs[i.toNat]? = some x) : at? xs i = some x := by simp [at?, h0, h]
theorem at_nat {xs : List τ} {k : Nat} {x : τ} (h : xs[k]? = some x) : at? xs (k : Int) = some x := at_some (by omega) (by simpa using h)
theorem app_some {bytes : Nat} {xs ys : List τ} (h1 : (xs.length + ys.length) * bytes ≤ 140737488355328) (h2 : xs.length + ys.length ≤ 9223372036854775807) : app? bytes xs ys = some (xs ++ ys) := by
  unfold app?; exact if_pos ⟨by unfold room; omega, by unfold maxStr; omega⟩
theorem slc_some {xs : List τ} {lo hi : Int} (h : 0 ≤ lo ∧ lo ≤ hi ∧ hi ≤ xs.length) : slc? xs lo hi = some ((xs.take hi.toNat).drop lo.toNat) := by simp [slc?, h]
theorem cat_some {a b : List UInt8} (h : a.length + b.length ≤ 9223372036854775807) : cat? a b = some (a ++ b) := by unfold cat?; exact if_pos (by unfold maxStr; omega)
theorem nz_some {b : Int} (h : b ≠ 0) : nz? b = some () := by simp [nz?, h]
end
end Go.Ab
