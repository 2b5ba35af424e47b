/-
  The abstract machine, twenty-third part: what a law's row asks of the walk.
-/
import Derived.Test.YtccipmhffapcmaaAb22
import Derived.RowKit3
set_option linter.unusedSimpArgs false
set_option linter.unusedVariables false
namespace Go.Ab
open Go Go.RowKit

variable {P : Program}

theorem Blw.grown {w w' : World} (h : Blw w.heap.size w w') : Grown w w' := by
  refine ⟨⟨h.os, h.output, fun i hi => ?_⟩, h.frz, h.size⟩
  rw [h.block i hi]
  cases w.heap[i]? with
  | none => rfl
  | some o => cases o with
    | cells c t fr => exact ⟨rfl, rfl, rfl, fun _ _ => rfl⟩
    | map es cl => exact .inr ⟨rfl, rfl⟩
    | _ => rfl

/-- The values stand for the arguments. -/
def RIL (S : Nat → Nat → Prop) (w : World) : List AV → List Value → Prop
  | [], [] => True
  | c :: cs, u :: us => RI S w c u ∧ RIL S w cs us
  | _, _ => False

theorem RIL.get {S : Nat → Nat → Prop} {w : World} : ∀ {as : List AV} {us : List Value}, RIL S w as us → us.length = as.length ∧ ∀ (i : Nat) c u, as[i]? = some c → us[i]? = some u → RI S w c u
  | [], [], _ => ⟨rfl, fun i c u h => by simp at h⟩
  | [], _ :: _, h => h.elim
  | _ :: _, [], h => h.elim
  | c :: cs, u :: us, h => by
    obtain ⟨h1, h2⟩ := h
    obtain ⟨k1, k2⟩ := RIL.get h2
    refine ⟨by simp [k1], fun i c' u' hc hu => ?_⟩
    cases i with
    | zero => simp at hc hu; subst hc; subst hu; exact h1
    | succ i => exact k2 i c' u' (by simpa using hc) (by simpa using hu)

/-- All that was there. -/
def Old (w : World) : Nat → Nat → Prop := fun g _ => g < w.heap.size

theorem Pure.law {f : Nat} {as : List AV} (hp : Pure P f as (· = .bool true)) {us : Array Value} {w : World} (hr : RIL (Old w) w as us.toList) :
    Calls P f us w fun e w' => e = .returned (.bool true) ∧ Grown w w' := by
  obtain ⟨h1, h2⟩ := hr.get
  refine Calls.mono (hp.2.2 (Old w) w us (fun g o h => h) (by simpa using h1) fun i c u hc hu => h2 i c u hc (by simpa using hu)) ?_
  rintro e w' ⟨u, S', r, rfl, rfl, hb, _, _, _, hres⟩
  have hu : u = .bool true := by
    rcases hres with h | ⟨e, xs, h, _⟩ | ⟨cs, us, h, _⟩
    · cases h; rfl
    · cases h
    · cases h
  subst hu
  exact ⟨rfl, hb.grown⟩

end Go.Ab
