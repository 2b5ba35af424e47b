/-
  The abstract machine, twenty-third part: what a law's row asks of the walk.
-/
import Derived.Test.YtkbjimfganeooaaAb22
import Derived.RowKit3
set_option linter.unusedSimpArgs false
set_option linter.unusedVariables false
namespace Go.Ab
open Go Go.RowKit

variable {P : Program}

/-- The values stand for the arguments. -/
def RIL (S : Nat → Nat → Prop) (w : World) : List AV → List Value → Prop
  | [], [] => True
  | c :: cs, u :: us => RI S w c u ∧ RIL S w cs us
  | _, _ => False

theorem RIL.get {S : Nat → Nat → Prop} {w : World} : ∀ {as : List AV} {us : List Value}, RIL S w as us → us.length = as.length ∧ ∀ (i : Nat) c u, as[i]? = some c → us[i]? = some u → RI S w c u
  | [], [], _ => ⟨rfl, fun i c u h => by simp at h⟩
  | [], _ :: _, h => h.elim
  | _ :: _, [], h => h.elim
  | c :: cs, u :: us, h => by
    obtain ⟨h1, h2⟩ := h
    obtain ⟨k1, k2⟩ := RIL.get h2
    refine ⟨by simp [k1], fun i c' u' hc hu => ?_⟩
    cases i with
    | zero => simp at hc hu; subst hc; subst hu; exact h1
    | succ i => exact k2 i c' u' (by simpa using hc) (by simpa using hu)

/-- All that was there. -/
def Old (w : World) : Nat → Nat → Prop := fun g _ => g < w.heap.size

end Go.Ab
