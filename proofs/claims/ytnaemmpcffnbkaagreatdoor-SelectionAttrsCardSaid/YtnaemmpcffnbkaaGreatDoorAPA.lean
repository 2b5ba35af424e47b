import Derived.Test.YtnaemmpcffnbkaaGreatDoorAPU6
namespace Go.Proofs.YtnaemmpcffnbkaaGreatDoor
open Go Go.Ab
set_option linter.unusedSimpArgs false
set_option linter.unusedVariables false
set_option maxRecDepth 4000
theorem f17_self {xs : List Int} (hm : xs.length ≤ 9223372036854775807) : f17 xs xs = some true := by
 unfold f17
 rw [if_neg (by simp), run_equal (xs := xs) (ys := xs) (fun _ => rfl) rfl hm]
 simp
theorem f4_eq (g : UniverseRig) (c kind : Int) (hf : FitR g.fProfiles g.fFixtures) : f4 g c kind = some true := by
 obtain ⟨b, hb⟩ := f18_ex ⟨g.fCurves, g.fProfiles, g.fFixtures⟩
 unfold f4
 rw [hb, f12_eq, Option.bind_some]
 cases b with
 | false => rfl
 | true =>
  have h20 := f20_eq (g := ⟨g.fCurves, g.fProfiles, g.fFixtures⟩) c kind hf
  dsimp only at h20
  rw [if_neg (by simp), f19_eq c kind hf, h20, Option.bind_some, Option.bind_some, Option.bind_some, if_pos rfl]
  rw [f17_self (by have := attrT_len g.fCurves g.fProfiles g.fFixtures c kind; omega)]
  simp
end Go.Proofs.YtnaemmpcffnbkaaGreatDoor
