/-
  The abstract machine, thirty-seventh part: trees of orders in walks, bytes of texts.
-/
import Derived.Test.YtkbjimfganeooaaAb35
set_option linter.unusedSimpArgs false
set_option linter.unusedVariables false
namespace Go.Ab
open Go

section
variable {F : CallF} {K : St → Prop} {st : St} {is : List Ins} {a b : RT}
theorem evR.run (h : evTs F is K st) : evR F (.run is) K st := h
theorem evR.fork (h : evTs F is (fun st => evR F a K st ∧ evR F b K st) st) : evR F (.fork is a b) K st := h
theorem evR.both {p q : Prop} (h1 : p) (h2 : q) : p ∧ q := ⟨h1, h2⟩
end

open Classical in
/-- Two ways that must agree. -/
noncomputable def both? {α : Type} (a b : Option α) : Option α := if a = b then a else none
theorem both_eq {α : Type} {a b : Option α} (h : a = b) : both? a b = a := by unfold both?; rw [if_pos h]
theorem both_same {α : Type} (a : Option α) : both? a a = a := both_eq rfl
theorem evR.bothne {α : Type} {a b : Option α} {r : α} (H : both? a b = some r) {p q : Prop} (h1 : a = some r → p) (h2 : b = some r → q) : p ∧ q := by
  unfold both? at H
  split at H
  · rename_i e; exact ⟨h1 H, h2 (e ▸ H)⟩
  · cases H

section
variable {F : CallF} {is : List Ins} {K : St → Prop} {s : Nat → AV} {h : Hp} {d : Option Nat}

/-- A text's bytes, as numbers. -/
def b2i (t : List UInt8) : List Int := t.map fun b => (b.toNat : Int)
def room? (n : Nat) : Option Unit := if n ≤ room then some () else none

theorem byteCells_map (t : List UInt8) : byteCells t = (b2i t).map (AV.int .u8) := by simp [byteCells, b2i]

/-- A text as bytes in new memory. -/
theorem evTs_cbytes {α : Type} {t : List UInt8} {kont : Unit → Option α} {r : α} (H : (room? t.length).bind kont = some r) {x : Od} (hx : x.ev s = .str t)
    (hk : kont () = some r → evTs F is K ⟨put? s d (.row 0 h.length 0 (b2i t).length), h ++ [.els 0 ((b2i t).map (AV.int .u8))]⟩) : evTs F (Ins.mk d none (.cbytes x) :: is) K ⟨s, h⟩ := by
  have hl : (b2i t).length = t.length := by simp [b2i]
  unfold room? at H
  split at H
  · rename_i hr
    refine step rfl ?_ (hk H)
    simp only [evV, hx, hr, if_true, byteCells_map, hl]
  · cases H
end
end Go.Ab
