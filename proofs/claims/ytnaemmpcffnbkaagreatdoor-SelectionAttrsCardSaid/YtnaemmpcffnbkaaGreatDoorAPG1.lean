import Derived.Test.YtnaemmpcffnbkaaGreatDoorAG3
namespace Go.Proofs.YtnaemmpcffnbkaaGreatDoor
open Go Go.Ab
set_option linter.unusedSimpArgs false
set_option linter.unusedVariables false
theorem nn {a : Int} (h : a = 0) : ¬ (a ≠ 0) := fun k => k h
def scan (seen : List Int) : List Int → Int
 | [] => 0
 | x :: xs => if x < 1 ∨ x > 999 then 2 else if x ∈ seen then 7 else scan (seen ++ [x]) xs
def checkG (g : ApiGroup) : Int := if g.fNumber < 1 ∨ g.fNumber > 1048576 then 2 else if g.fChannels.length > 256 then 5 else scan [] g.fChannels
structure Tab (l : List ApiGroup) : Prop where
 len : l.length ≤ 32
 chk : ∀ g ∈ l, checkG g = 0
 asc : l.Pairwise fun a b => a.fNumber < b.fNumber
def termE (x : ApiSelect) : Int :=
 if x.fOp ≠ 0 ∧ x.fOp ≠ 1 then 1 else if x.fGroup ≠ 0 then (if x.fFrom ≠ 0 ∨ x.fTo ≠ 0 then 3 else if x.fGroup < 1 ∨ 1048576 < x.fGroup then 2 else 0)
 else if x.fFrom < 1 ∨ 999 < x.fFrom ∨ x.fTo < 1 ∨ 999 < x.fTo then 2 else if x.fTo < x.fFrom then 9 else 0
theorem f56_eq (c : Int) : f56 c = some (decide (1 ≤ c ∧ c ≤ 999)) := by
 unfold f56
 by_cases h : 1 ≤ c <;> simp [h]
structure Sel (l : List ApiSelect) : Prop where
 len : l.length ≤ 256
 chk : ∀ x ∈ l, termE x = 0
theorem f12_eq : f12 = some true := by kernel_rfl
end Go.Proofs.YtnaemmpcffnbkaaGreatDoor
