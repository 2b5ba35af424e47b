/-
  The abstract machine, thirtieth part: short words for operations; values read without a heap.
-/
import Derived.Test.YtkbjimfganeooaaAb29
set_option linter.unusedSimpArgs false
set_option linter.unusedVariables false
namespace Go.Ab
open Go

abbrev iI (d : Nat) (o : Op1) : Ins := Ins.mk (some d) none o
abbrev iN (o : Op1) : Ins := Ins.mk none none o
abbrev iG (d : Option Nat) (j : Nat) (w : Bool) (o : Op1) : Ins := Ins.mk d (some (j, w)) o

theorem imm_rowE (h : Hp) (n e b off len : Nat) : imm h (n + 1) (.row e b off len) = (match h[b]? with
    | some (.els e' ys) => if e' = e ∧ off + len ≤ ys.length then (omap (imm h n) ((ys.drop off).take len)).map (.sl e false) else none
    | _ => none) := rfl
theorem imm_ptrE (h : Hp) (n b off : Nat) : imm h (n + 1) (.ptr b off) = (match h[b]? with
    | some (.cel cs) => (omap (imm h n) (cs.drop off)).map .pro
    | _ => none) := rfl
theorem imm_enc (h : Hp) (n : Nat) {τ : Type} {e : Nat} {enc : τ → AV} [IsEnc e enc] (xs : List τ) : omap (imm h (n + 4)) (xs.map enc) = some (xs.map enc) := by
  have := enc_all4 (enc := enc) xs
  generalize xs.map enc = ys at this
  induction ys with
  | nil => rfl
  | cons c cs ih =>
    simp only [List.all_cons, Bool.and_eq_true] at this
    simp only [omap, imm_plain h (n + 4) 4 c this.1 (by omega), ih this.2]
theorem take_map_len {α β : Type} (f : α → β) (xs : List α) : (xs.map f).take xs.length = xs.map f := List.take_of_length_le (by simp)
theorem le_refl_true (n : Nat) : (n ≤ n) = True := by simp

/-- Values that nobody writes, read. -/
theorem imm_simps (h : Hp) (n : Nat) : (∀ b, imm h (n + 1) (.bool b) = some (.bool b)) ∧ (∀ k a, imm h (n + 1) (.int k a) = some (.int k a)) ∧ (∀ t, imm h (n + 1) (.str t) = some (.str t)) ∧
    (imm h (n + 1) .nilp = some .nilp) ∧ (imm h (n + 1) .nilfn = some .nilfn) ∧ (imm h (n + 1) .nilmp = some .nilmp) ∧ (∀ cs, imm h (n + 1) (.pro cs) = some (.pro cs)) ∧
    (∀ e f xs, imm h (n + 1) (.sl e f xs) = some (.sl e f xs)) ∧ (∀ cs, imm h (n + 1) (.agg cs) = (omap (imm h n) cs).map .agg) ∧ (∀ cs, imm h (n + 1) (.tup cs) = (omap (imm h n) cs).map .tup) ∧
    (∀ f cs, imm h (n + 1) (.fn f cs) = (omap (imm h n) cs).map (.fn f)) :=
  ⟨fun _ => rfl, fun _ _ => rfl, fun _ => rfl, rfl, rfl, rfl, fun _ => rfl, fun _ _ _ => rfl, fun _ => rfl, fun _ => rfl, fun _ _ => rfl⟩

theorem omap_simps {α β : Type} (f : α → Option β) : (omap f [] = some []) ∧ (∀ c cs, omap f (c :: cs) = (match f c, omap f cs with | some x, some xs => some (x :: xs) | _, _ => none)) := ⟨rfl, fun _ _ => rfl⟩

end Go.Ab
