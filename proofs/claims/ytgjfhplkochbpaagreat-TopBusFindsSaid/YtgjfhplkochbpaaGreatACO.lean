import Derived.Test.YtgjfhplkochbpaaGreatAX2
import Derived.Test.YtgjfhplkochbpaaGreatAM6
import Derived.Test.YtgjfhplkochbpaaGreatAGV
import Derived.KernelRfl
set_option linter.unusedSimpArgs false
set_option linter.unusedVariables false
namespace Go.Proofs.YtgjfhplkochbpaaGreat
open Go Go.Ab Go.RowKit
def f20_21(zs:List Int):Option (List Int):=if zs.length * 8≤140737488351232 then some zs else none
theorem entered20:Entered Tryz.prog 20:=⟨Tryz.f20,_,Tryz.func20,by kernel_rfl,rfl⟩
theorem collect20(Bs o:Nat)(sv:Value)(zs:List Int)(w:World)(hz:zs.length * 8≤140737488351232)(hB:Bs<w.heap.size)(hc:w.cell? ⟨Bs,o,none⟩=some sv)
  (hI:(∃ A cap,sv=.slice A 0 cap∧zs=[])∨∃ b off cap,sv=.slice (some ⟨b,off,none⟩) zs.length cap∧b<w.heap.size∧∀ j,j<zs.length→w.cell? ⟨b,off + j,none⟩=some (.int .u64 (zs[j]?.getD 0))) :
  Calls Tryz.prog 20 #[.func (.func 21) #[] #[.pointer (some ⟨Bs,o,none⟩)]] w fun e w'=>∃ v t,e=.returned v∧w'.ownsRow w.heap.size t 1 v zs.length (zs.map (Value.int .u64))∧Below w.heap.size w w':=by
 refine callsIn_wide.1 ((Tryz.collect_in Fence.wide 5 trivial trivial trivial rfl (by omega) Bs o sv zs hz w hB hc ?_).mono ?_)
 ·rcases hI with ⟨A,cap,e,e'⟩ | h
  ·exact .inl ⟨A,cap,e,e'⟩
  ·exact .inr h
 ·rintro e w' ⟨v,rfl,hrow,_,hb⟩
  exact ⟨v,23,rfl,hrow,hb⟩
theorem f20_21_ok{zs r:List Int}(H:f20_21 zs=some r):Pure Tryz.prog 20 [.fn 21 [.pro [.sl 0 false (zs.map (AV.int .u64))]]] (· = .fr 0 (r.map (AV.int .u64))):=by
 unfold f20_21 at H
 split at H
 case isFalse=>cases H
 rename_i hz
 injection H with H
 subst H
 refine ⟨entered20,⟨_,rfl⟩,fun S w us hS hl hr=>?_⟩
 obtain ⟨us⟩:=us
 match us,hl,hr with
 | [a],_,hr =>
  have ha:=hr 0 _ a rfl rfl
  cases ha with
  | fn _ _ us2 hs2 hr2 =>
   obtain ⟨us2⟩:=us2
   match us2,hs2,hr2 with
   | [b],_,hr2 =>
    have hb:=hr2 0 _ b rfl rfl
    cases hb with
    | pro _ Bs o u hcell hrr =>
     obtain ⟨hs0,hc0⟩:=hcell 0 _ rfl
     have hv:=hrr 0 _ rfl
     rw[Nat.add_zero] at hs0 hc0
     generalize u 0=sv at hc0 hv
     have hints:(∃ A cap,sv=.slice A 0 cap∧zs=[])∨∃ b off cap,sv=.slice (some ⟨b,off,none⟩) zs.length cap∧b<w.heap.size∧∀ j,j<zs.length→w.cell? ⟨b,off + j,none⟩=some (.int .u64 (zs[j]?.getD 0)):=by
      cases hv with
      | sl _ _ _ A cap gb off uu hlc hm hf hA hx hcl hri hn =>
       rw[List.length_map]
       by_cases hz0:zs=[]
       ·subst hz0;exact .inl ⟨A,cap,rfl,rfl⟩
       ·have hA':A=some ⟨gb,off,none⟩:=by
         rcases hA with hA | hA
         ·exact absurd (List.map_eq_nil_iff.1 hA) hz0
         ·exact hA
        subst hA'
        have hcells:∀ j x,zs[j]? = some x→S gb (off + j)∧w.cell? ⟨gb,off + j,none⟩=some (.int .u64 x):=fun j x hj=>by
         have hj2:(zs.map (AV.int .u64))[j]? = some (.int .u64 x):=by rw[List.getElem?_map,hj];rfl
         have hu:uu j=.int .u64 x:=by
          have:=hri j _ hj2
          generalize uu j=v at this
          cases this;rfl
         have:=hcl j _ hj2 0 (.int .u64 x) (by rw[hu];rfl)
         simpa using this
        obtain ⟨z0,rest,rfl⟩:=List.exists_cons_of_ne_nil hz0
        refine .inr ⟨gb,off,cap,rfl,hS gb off (by simpa using (hcells 0 _ rfl).1),fun j hj=>?_⟩
        have hx:=List.getElem?_eq_getElem hj
        rw[(hcells j _ hx).2,hx]
        rfl
     refine Calls.mono (collect20 Bs o sv zs w hz (hS Bs o hs0) hc0 hints) ?_
     rintro e w' ⟨v,t,rfl,hrow,hb⟩
     refine ⟨v,S,_,rfl,rfl,⟨hb.os,hb.tape,hb.output,hb.size,hb.block,fun a ha=>World.frozen?_of_block (hb.block _ ha),trivial⟩,Kept.of_block (fun _ _ s=>s) (fun g o s=>hb.block _ (hS g o s)),fun _ _ s=>.inl s,fun g o s=>Nat.lt_of_lt_of_le (hS g o s) hb.size,.inr (.inl ⟨_,_,rfl,?_⟩)⟩
     generalize hms:zs=ms at hrow ⊢
     have hlen:ms.length=zs.length:=by rw[hms]
     rcases hrow.2 with ⟨rfl,hn0⟩ | ⟨g2,cap,cur,rfl,hbase,hgb,h1,h2,h3,h4⟩
     ·have:ms=[]:=List.eq_nil_of_length_eq_zero (by omega)
      subst this
      exact ⟨none,0,rfl,.inl ⟨rfl,rfl⟩⟩
     ·rw[Nat.mul_one] at h3 h4
      refine ⟨some ⟨g2,0,none⟩,cap,by rw[List.length_map,hlen],.inr ⟨g2,cur,t,(0,0),rfl,hbase,hgb,?_,by simpa using h3,by rw[List.length_map];omega,h2,fun o s=>?_,fun i x hx=>?_⟩⟩
      ·intro o ho hh;omega
      ·have:=hS g2 o s;omega
      ·rw[List.getElem?_map,Option.map_eq_some_iff] at hx
       obtain ⟨y,hy,rfl⟩:=hx
       have hi:=(List.getElem?_eq_some_iff.1 hy).1
       refine ⟨shape_of_fits rfl,.int .u64 y,.int _ _,rfl,fun j c hj=>?_⟩
       have hj0:j=0:=by
        have:=(Array.getElem?_eq_some_iff.1 hj).1
        simp[Value.cells] at this
        omega
       subst hj0
       simp[Value.cells] at hj
       subst hj
       have h5:=congrArg (fun l=>l[i]?) h4
       simp only[List.getElem?_map,hy,Option.map_some] at h5
       rw[List.getElem?_take,if_pos (by omega)] at h5
       simpa using h5
end Go.Proofs.YtgjfhplkochbpaaGreat
