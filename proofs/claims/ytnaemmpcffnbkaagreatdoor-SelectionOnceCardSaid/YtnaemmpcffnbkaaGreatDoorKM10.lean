import Derived.Test.YtnaemmpcffnbkaaGreatDoorKM4
import Derived.Test.YtnaemmpcffnbkaaGreatDoorKM6
import Derived.Test.YtnaemmpcffnbkaaGreatDoorKM9
set_option linter.unusedSimpArgs false
set_option linter.unusedVariables false
namespace Go.Ab
open Go
noncomputable def sortx?{τ : Type}(f : τ → τ → Option Int)(xs:List τ):Option (List τ):=if xs.length≤12 then sortf? f xs else sortg? f xs
theorem evTs_srx{τ α : Type}{f : τ → τ → Option Int}{xs:List τ}{kont:List τ → Option α}{r : α}{G:Prop}{C:List τ → Prop}(srf:(sortf? f xs).bind kont=some r→(∀ zs,zs.length=xs.length→kont zs=some r→C zs)→G)
  (srg:(sortg? f xs).bind kont=some r→(∀ zs,zs.length=xs.length→kont zs=some r→C zs)→G) (H:(sortx? f xs).bind kont=some r) (hK:∀ zs,zs.length=xs.length→kont zs=some r→C zs):G:=by
 unfold sortx? at H
 split at H
 ·exact srf H hK
 ·exact srg H hK
end Go.Ab
