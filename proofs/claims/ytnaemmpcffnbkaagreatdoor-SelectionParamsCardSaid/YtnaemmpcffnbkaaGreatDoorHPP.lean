import Derived.Test.YtnaemmpcffnbkaaGreatDoorHPP2
namespace Go.Proofs.YtnaemmpcffnbkaaGreatDoor
open Go Go.Ab
set_option linter.unusedSimpArgs false
set_option linter.unusedVariables false
theorem f63_L2_eq{r:List Int}{c kind:Int}{cs:List Int}{g:Ref13Rig}{out:List ApiParam}(h:r.length≤1024)(ho:out.length≤1000000000):Lp.run (f63_L2 r c kind cs g) (0,out)=some (out++r.map fun a=>⟨c,a⟩):=by
 have:=run_count (L:=f63_L2 r c kind cs g) (e:=out++r.map fun a=>⟨c,a⟩) (fun k=>((k:Int),out++(r.take k).map fun a=>⟨c,a⟩)) r.length ?_ 0 (by omega) fun k _ hk=>?_
 ·simpa using this
 ·simp only[f63_L2]
  rw[at_end,if_neg (by simp),List.take_of_length_le (by omega)]
 ·have h1:=List.getElem?_eq_getElem hk
  simp only[f63_L2]
  rw[if_pos (at_lt h1),at_nat h1,Option.bind_some,app_some (by simp;omega) (by simp;omega),Option.bind_some,w64_succ (by omega),List.take_add_one,h1,Option.toList_some,List.map_append,← List.append_assoc]
  rfl
theorem f63_eq{cs:List Int}{g:Ref13Rig}{kind:Int}(hr:Rig g.fProfiles g.fFixtures)(hk : -1≤kind∧kind≤18)(hl:cs.length≤300000):f63 cs g kind=some (parL (fun c=>hadS g.fProfiles g.fFixtures c kind) (inOrd cs)):=by
 have hlen:=parL_len (F:=fun c=>hadS g.fProfiles g.fFixtures c kind) fun c=>hadS_len c kind hr
 have:=run_count (L:=f63_L1 cs g kind) (e:=parL (fun c=>hadS g.fProfiles g.fFixtures c kind) (inOrd cs)) (fun k=>(1 + (k:Int),parL (fun c=>hadS g.fProfiles g.fFixtures c kind) (((List.range k).map fun (i:Nat)=>1 + (i:Int)).filter fun c=>decide (c ∈ cs)))) 999 ?_ 0 (by omega) fun k _ hk'=>?_
 ·unfold f63
  have h0:Lp.run (f63_L1 cs g kind) (1,[])=some (parL (fun c=>hadS g.fProfiles g.fFixtures c kind) (inOrd cs)):=by simpa[parL] using this
  rw[h0,Option.bind_some]
 ·simp only[f63_L1]
  rw[if_neg (by simp)]
  unfold inOrd
  rw[range999]
 ·have h2:=hlen (((List.range k).map fun (i:Nat)=>1 + (i:Int)).filter fun c=>decide (c ∈ cs))
  have h3:=List.length_filter_le (fun c=>decide (c ∈ cs)) ((List.range k).map fun (i:Nat)=>1 + (i:Int))
  rw[List.length_map,List.length_range] at h3
  simp only[f63_L1]
  rw[if_pos (by simp;omega),f67_eq (by omega),Option.bind_some,rangeL_succ,List.filter_append,List.filter_cons,List.filter_nil,w64 (by omega) (by omega),Int.add_assoc]
  by_cases hc:1 + (k:Int) ∈ cs
  ·rw[if_neg (by simpa using hc),if_pos (by simpa using hc),f60_eq _ hr hk,Option.bind_some,f63_L2_eq (hadS_len _ kind hr) (by omega),Option.bind_some,parL_add]
   rfl
  ·rw[if_pos (by simpa using hc),if_neg (by simpa using hc),List.append_nil]
   rfl
theorem f22_eq(l:List ApiSelect)(gs:List ApiGroup){g:Ref13Rig}(kind:Int)(hf:FitR g.fProfiles g.fFixtures):f22 l gs g kind=some (paramsS l gs g.fCurves g.fProfiles g.fFixtures kind):=by
 unfold f22 paramsS
 rw[f14_eq,Option.bind_some]
 by_cases h0:(channelsS l gs).2=0
 ·rw[if_neg (by simpa using h0),if_neg (nn h0),f29_eq hf,Option.bind_some]
  by_cases h1:uniS g.fCurves g.fProfiles g.fFixtures=0
  ·rw[if_neg (by simpa using h1),if_neg (nn h1),f59_eq,Option.bind_some]
   by_cases h2 : -1≤kind∧kind≤18
   ·rw[if_neg (by simp;omega),if_neg (by omega),f63_eq (rig_of h1) h2 (channels_len l gs)]
    rfl
   ·rw[if_pos (by simp;omega),if_pos h2]
  ·rw[if_pos (by simpa using h1),if_pos h1]
 ·rw[if_pos (by simpa using h0),if_pos h0]
theorem f23_self{xs:List ApiParam}(hl:xs.length≤9223372036854775807):f23 xs xs=some true:=by
 unfold f23
 rw[if_neg (by simp)]
 have hrun:Lp.run (f23_L1 xs xs) 0=some (.inl ()):=by
  refine run_all (xs:=xs) (fun k x hx=>?_) (if_neg (by simp))
  have r:=Rnd.mk' hx hl
  refine (if_pos r.lt).trans ?_
  rw[r.at']
  simp only[Option.bind_some,r.nxt,beq_self_eq_true,Bool.and_self,Bool.not_true,Bool.false_eq_true,if_false]
 rw[hrun,Option.bind_some]
theorem f5_eq(g:UniverseRig)(x:Law41Choice)(hf:FitR g.fProfiles g.fFixtures)(hg:x.fGroups.length≤9223372036854775807):f5 g x=some true:=by
 obtain ⟨b,hb⟩:=f18_ex ⟨g.fCurves,g.fProfiles,g.fFixtures⟩
 obtain ⟨b',hb'⟩:=f11_ex x.fSelect x.fGroups hg
 unfold f5
 rw[hb,f12_eq,Option.bind_some]
 cases b with
 | false=>rfl
 | true =>
  rw[if_neg (by simp),hb',Option.bind_some]
  cases b' with
  | false=>rfl
  | true =>
   have h22:=f22_eq x.fSelect x.fGroups (g:=⟨g.fCurves,g.fProfiles,g.fFixtures⟩) x.fKind hf
   dsimp only at h22
   rw[if_neg (by simp),f21_eq _ _ _ hf,h22,Option.bind_some,Option.bind_some,Option.bind_some,if_pos rfl]
   rw[f23_self (by have:=paramsS_len x.fSelect x.fGroups g.fCurves g.fProfiles g.fFixtures x.fKind;omega)]
   simp
end Go.Proofs.YtnaemmpcffnbkaaGreatDoor
