import Derived.Test.YtnaemmpcffnbkaaGreatDoorHM4
import Derived.Test.YtnaemmpcffnbkaaGreatDoorHM6
import Derived.Test.YtnaemmpcffnbkaaGreatDoorHM9
set_option linter.unusedSimpArgs false
set_option linter.unusedVariables false
namespace Go.Ab
open Go
noncomputable def sortx?{τ : Type}(f : τ → τ → Option Int)(xs:List τ):Option (List τ):=if xs.length≤12 then sortf? f xs else sortg? f xs
theorem evTs_srx{τ α : Type}{f : τ → τ → Option Int}{xs:List τ}{kont:List τ → Option α}{r : α}{G:Prop}{C:List τ → Prop}(srf:(sortf? f xs).bind kont=some r→(∀ zs,zs.length=xs.length→kont zs=some r→C zs)→G)
  (srg:(sortg? f xs).bind kont=some r→(∀ zs,zs.length=xs.length→kont zs=some r→C zs)→G) (H:(sortx? f xs).bind kont=some r) (hK:∀ zs,zs.length=xs.length→kont zs=some r→C zs):G:=by
 unfold sortx? at H
 split at H
 ·exact srf H hK
 ·exact srg H hK
theorem insX_sorted{τ : Type}{c : τ → τ → Int}(x : τ):∀ {l:List τ},(∀ a ∈ x::l,∀ b ∈ x::l,∀ d ∈ x::l,¬ c a a<0∧(c a b<0→c b d<0→c a d<0)∧(¬ c a b<0→¬ c b d<0→¬ c a d<0)) →
  l.Pairwise (fun a b=>¬ c a b<0)→(insR c x l).Pairwise fun a b=>¬ c a b<0
 | [],_,_=>List.pairwise_singleton _ _
 | y::ys,hO,h=>by
  have mx:x ∈ x::y::ys:=List.mem_cons_self ..
  have my:y ∈ x::y::ys:=List.mem_cons_of_mem _ (List.mem_cons_self ..)
  rw[List.pairwise_cons] at h
  unfold insR
  split
  ·rename_i hlt
   refine List.pairwise_cons.2 ⟨fun z hz=>?_,insX_sorted x (fun a ha b hb d hd=>hO a (List.mem_cons.2 ((List.mem_cons.1 ha).imp id (List.mem_cons_of_mem _))) b (List.mem_cons.2 ((List.mem_cons.1 hb).imp id (List.mem_cons_of_mem _))) d (List.mem_cons.2 ((List.mem_cons.1 hd).imp id (List.mem_cons_of_mem _)))) h.2⟩
   rcases List.mem_cons.1 ((insR_perm c x ys).mem_iff.1 hz) with rfl | hz
   ·intro hyx
    exact (hO z mx y my z mx).1 ((hO z mx y my z mx).2.1 hlt hyx)
   ·exact h.1 z hz
  ·rename_i hlt
   refine List.pairwise_cons.2 ⟨fun z hz=>?_,List.pairwise_cons.2 h⟩
   rcases List.mem_cons.1 hz with rfl | hz'
   ·exact hlt
   ·exact (hO x mx y my z (List.mem_cons_of_mem _ hz)).2.2 hlt (h.1 z hz')
theorem foldX_sorted{τ : Type}{c : τ → τ → Int}:∀ (xs acc:List τ),(∀ a ∈ xs++acc,∀ b ∈ xs++acc,∀ d ∈ xs++acc,¬ c a a<0∧(c a b<0→c b d<0→c a d<0)∧(¬ c a b<0→¬ c b d<0→¬ c a d<0)) →
  acc.Pairwise (fun a b=>¬ c a b<0)→(xs.foldl (fun acc x=>insR c x acc) acc).Pairwise fun a b=>¬ c a b<0
 | [],acc,_,h=>h
 | x::xs,acc,hO,h=>by
  have hm:∀ a,a ∈ xs++insR c x acc→a ∈ x::xs++acc:=fun a ha=>by
   rcases List.mem_append.1 ha with ha | ha
   ·exact List.mem_append_left _ (List.mem_cons_of_mem _ ha)
   ·rcases List.mem_cons.1 ((insR_perm c x acc).mem_iff.1 ha) with rfl | ha
    ·exact List.mem_append_left _ (List.mem_cons_self ..)
    ·exact List.mem_append_right _ ha
  have hm2:∀ a,a ∈ x::acc→a ∈ x::xs++acc:=fun a ha=>by
   rcases List.mem_cons.1 ha with rfl | ha
   ·exact List.mem_append_left _ (List.mem_cons_self ..)
   ·exact List.mem_append_right _ ha
  exact foldX_sorted xs (insR c x acc) (fun a ha b hb d hd=>hO a (hm a ha) b (hm b hb) d (hm d hd)) (insX_sorted x (fun a ha b hb d hd=>hO a (hm2 a ha) b (hm2 b hb) d (hm2 d hd)) h)
theorem sortx_some{τ : Type}{f : τ → τ → Option Int}{c : τ → τ → Int}{xs:List τ}(h:∀ x ∈ xs,∀ y ∈ xs,f x y=some (c x y))(hO:∀ x ∈ xs,∀ y ∈ xs,∀ z ∈ xs,¬ c x x<0∧(c x y<0→c y z<0→c x z<0)∧(¬ c x y<0→¬ c y z<0→¬ c x z<0))(hl:xs.length<4611686018427387904) :
  ∃ ys,sortx? f xs=some ys∧ys.Perm xs∧ys.Pairwise fun a b=>¬ c b a<0:=by
 unfold sortx?
 split
 ·rename_i h12
  refine ⟨_,sortf_some h h12,isortL_perm c xs,?_⟩
  unfold isortL
  rw[List.pairwise_reverse]
  exact foldX_sorted xs [] (by simpa using hO) List.Pairwise.nil
 ·exact sortg_some h hO hl
end Go.Ab
