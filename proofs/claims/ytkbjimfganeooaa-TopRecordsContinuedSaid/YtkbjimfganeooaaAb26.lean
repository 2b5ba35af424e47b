/-
  The abstract machine, twenty-sixth part: rows of values that are written out.
-/
import Derived.Test.YtkbjimfganeooaaAb25
set_option linter.unusedSimpArgs false
set_option linter.unusedVariables false
namespace Go.Ab
open Go

theorem vm {α β : Type} : (∀ (f : α → β) (a : α) (as : List α), (a :: as).map f = f a :: as.map f) ∧ (∀ (f : α → β), ([] : List α).map f = []) :=
  ⟨fun _ _ _ => rfl, fun _ => rfl⟩

end Go.Ab
