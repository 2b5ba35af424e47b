import Derived.Test.YtnaemmpcffnbkaaGreatDoorDG3
namespace Go.Proofs.YtnaemmpcffnbkaaGreatDoor
open Go Go.Ab
set_option linter.unusedSimpArgs false
set_option linter.unusedVariables false
theorem nn {a : Int} (h : a = 0) : ¬ (a ≠ 0) := fun k => k h
theorem f69_eq {xs : List Int} {v : Int} (hm : xs.length ≤ 9223372036854775807) : f69 xs v = some (idx xs v) := by
 unfold f69 idx
 rw [run_index (xs := xs) (v := v) (fun _ => rfl) hm]
 by_cases he : v ∈ xs <;> simp [he]
theorem idx_nonneg {xs : List Int} {v : Int} : 0 ≤ idx xs v ↔ v ∈ xs := by unfold idx; split <;> simp [*]
theorem f28_eq {xs : List Int} {v : Int} (hm : xs.length ≤ 9223372036854775807) : f28 xs v = some (decide (v ∈ xs)) := by
 unfold f28
 rw [f69_eq hm]
 simp [idx_nonneg]
def scan (seen : List Int) : List Int → Int
 | [] => 0
 | x :: xs => if x < 1 ∨ x > 999 then 2 else if x ∈ seen then 7 else scan (seen ++ [x]) xs
def checkG (g : ApiGroup) : Int := if g.fNumber < 1 ∨ g.fNumber > 1048576 then 2 else if g.fChannels.length > 256 then 5 else scan [] g.fChannels
structure Tab (l : List ApiGroup) : Prop where
 len : l.length ≤ 32
 chk : ∀ g ∈ l, checkG g = 0
 asc : l.Pairwise fun a b => a.fNumber < b.fNumber
def termE (x : ApiSelect) : Int :=
 if x.fOp ≠ 0 ∧ x.fOp ≠ 1 then 1 else if x.fGroup ≠ 0 then (if x.fFrom ≠ 0 ∨ x.fTo ≠ 0 then 3 else if x.fGroup < 1 ∨ 1048576 < x.fGroup then 2 else 0)
 else if x.fFrom < 1 ∨ 999 < x.fFrom ∨ x.fTo < 1 ∨ 999 < x.fTo then 2 else if x.fTo < x.fFrom then 9 else 0
theorem f56_eq (c : Int) : f56 c = some (decide (1 ≤ c ∧ c ≤ 999)) := by
 unfold f56
 by_cases h : 1 ≤ c <;> simp [h]
structure Sel (l : List ApiSelect) : Prop where
 len : l.length ≤ 256
 chk : ∀ x ∈ l, termE x = 0
def rangeL (a b : Int) : List Int := (List.range (b + 1 - a).toNat).map fun (i : Nat) => a + (i : Int)
theorem rangeL_len (a b : Int) : (rangeL a b).length = (b + 1 - a).toNat := by simp [rangeL]
theorem rangeL_mem {a b x : Int} : x ∈ rangeL a b ↔ a ≤ x ∧ x ≤ b := by
 unfold rangeL
 rw [List.mem_map]
 constructor
 ·rintro ⟨i, hi, rfl⟩
  rw [List.mem_range] at hi
  omega
 ·rintro ⟨h1, h2⟩
  exact ⟨(x - a).toNat, by rw [List.mem_range]; omega, by omega⟩
theorem rangeL_succ (a : Int) (k : Nat) : (List.range (k + 1)).map (fun (i : Nat) => a + (i : Int)) = (List.range k).map (fun (i : Nat) => a + (i : Int)) ++ [a + (k : Int)] := by
 rw [List.range_succ, List.map_append]; rfl
theorem f12_eq : f12 = some true := by kernel_rfl
end Go.Proofs.YtnaemmpcffnbkaaGreatDoor
