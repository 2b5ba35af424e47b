import Derived.Test.YtnaemmpcffnbkaaGreatDoorFPR
import Derived.Test.YtnaemmpcffnbkaaGreatDoorFGC1
namespace Go.Proofs.YtnaemmpcffnbkaaGreatDoor
open Go Go.Ab
set_option linter.unusedSimpArgs false
set_option linter.unusedVariables false
set_option maxRecDepth 4000
theorem f116_eq{xs:List Int}{v:Int}(hm:xs.length≤9223372036854775807):f116 xs v=some (decide (v ∈ xs)):=by
 obtain ⟨e,h1,h2⟩:=run_ex (L:=f116_L1 xs v) (s0:=0) (fun e=>e=if v ∈ xs then Sum.inr () else Sum.inl ()) (fun i=>∃ k:Nat,i=k∧k≤xs.length∧v ∉ xs.take k) (fun i=>xs.length - i.toNat) ⟨0,rfl,Nat.zero_le _,by simp⟩ (by
  rintro _ ⟨k,rfl,hk,ht⟩
  simp only[f116_L1]
  by_cases hlt:k<xs.length
  ·rw[if_pos (by simpa using hlt),at_nat (List.getElem?_eq_getElem hlt)]
   simp only[Option.bind_some,decide_eq_true_eq]
   by_cases he:xs[k]=v
   ·right
    have hmem:v ∈ xs:=by rw[← he];exact List.getElem_mem hlt
    exact ⟨_,if_pos he,by rw[if_pos hmem]⟩
   ·left
    refine ⟨((k + 1:Nat):Int),?_,⟨k + 1,rfl,hlt,?_⟩,by simp;omega⟩
    ·rw[if_neg he,w64 (by omega) (by omega)];rfl
    ·rw[List.take_succ_eq_append_getElem hlt,List.mem_append,not_or]
     exact ⟨ht,by simpa using fun h=>he h.symm⟩
  ·right
   rw[if_neg (by simpa using hlt)]
   refine ⟨_,rfl,?_⟩
   rw[List.take_of_length_le (by omega)] at ht
   rw[if_neg ht])
 unfold f116
 rw[h1,h2]
 by_cases he:v ∈ xs<;>simp[he]
theorem f76_eq(g:ApiGroup):f76 g=some (checkG g):=by
 unfold f76 checkG
 by_cases h1:g.fNumber<1∨g.fNumber > 1048576
 ·rw[if_pos h1]
  by_cases h:g.fNumber<1
  ·rw[if_pos (by simpa using h)]
  ·rw[if_neg (by simpa using h),if_pos (by simp;omega)]
 rw[if_neg h1,if_neg (by simp;omega),if_neg (by simp;omega)]
 by_cases h2:g.fChannels.length > 256
 ·rw[if_pos h2,if_pos (by simp;omega)]
 rw[if_neg h2,if_neg (by simp;omega)]
 generalize hms:g.fChannels=ms at h2
 obtain ⟨e,h3,h4⟩:=run_ex (L:=f76_L1 g) (s0:=0) (fun e=>(match e with | Sum.inl ()=>some 0 | Sum.inr v=>some v)=some (scan [] ms)) (fun i=>∃ k:Nat,i=k∧k≤ms.length∧scan (ms.take k) (ms.drop k)=scan [] ms) (fun i=>ms.length - i.toNat) ⟨0,rfl,Nat.zero_le _,rfl⟩ (by
  rintro _ ⟨k,rfl,hk,hs⟩
  simp only[f76_L1,hms]
  by_cases hlt:k<ms.length
  ·rw[if_pos (by simpa using hlt),at_nat (List.getElem?_eq_getElem hlt)]
   rw[List.drop_eq_getElem_cons hlt] at hs
   simp only[Option.bind_some,decide_eq_true_eq]
   by_cases c1:ms[k]<1
   ·right;rw[if_pos c1];refine ⟨_,rfl,?_⟩;rw[← hs];simp[scan,c1]
   rw[if_neg c1]
   by_cases c2:999<ms[k]
   ·right;rw[if_pos c2];refine ⟨_,rfl,?_⟩;rw[← hs];simp[scan,c2]
   rw[if_neg c2,slc_some (by omega)]
   simp only[Option.bind_some,Int.toNat_natCast,Int.toNat_zero,List.drop_zero]
   rw[f116_eq (by simp;omega)]
   simp only[Option.bind_some,decide_eq_true_eq]
   by_cases c3:ms[k] ∈ ms.take k
   ·right;rw[if_pos c3];refine ⟨_,rfl,?_⟩;rw[← hs];simp[scan,c1,c2,c3]
   ·left;rw[if_neg c3]
    refine ⟨((k + 1:Nat):Int),by rw[w64 (by omega) (by omega)];rfl,⟨k + 1,rfl,hlt,?_⟩,by simp;omega⟩
    rw[← hs,List.take_succ_eq_append_getElem hlt,scan,if_neg (by omega),if_neg c3]
  ·right
   rw[if_neg (by simpa using hlt)]
   refine ⟨_,rfl,?_⟩
   rw[← hs,List.drop_eq_nil_of_le (by omega)]
   rfl)
 rw[h3,Option.bind_some]
 exact h4
theorem f33_eq(l:List ApiGroup):f33 l=some (tableS l):=by
 unfold f33 tableS
 by_cases h2:32<l.length
 ·rw[if_pos h2,if_pos (by simp;omega)]
 rw[if_neg h2,if_neg (by simp;omega)]
 obtain ⟨e,h3,h4⟩:=run_ex (L:=f33_L1 l) (s0:=0) (fun e=>(match e with | Sum.inl ()=>some 0 | Sum.inr v=>some v)=some (goT none l)) (fun i=>∃ k:Nat,i=k∧k≤l.length∧goT (befT l k) (l.drop k)=goT none l) (fun i=>l.length - i.toNat) ⟨0,rfl,Nat.zero_le _,rfl⟩ (by
  rintro _ ⟨k,rfl,hk,hs⟩
  simp only[f33_L1]
  by_cases hlt:k<l.length
  ·rw[if_pos (by simpa using hlt),at_nat (List.getElem?_eq_getElem hlt)]
   rw[List.drop_eq_getElem_cons hlt,goT_cons] at hs
   simp only[Option.bind_some,decide_eq_true_eq,f76_eq]
   by_cases c1:checkG l[k]=0
   ·rw[if_neg (by simpa using c1)]
    rw[if_neg (by simpa using c1)] at hs
    have hw:IntKind.i64.wrap ((k:Int) + 1)=((k + 1:Nat):Int):=by rw[w64 (by omega) (by omega)];rfl
    cases k with
    | zero =>
     left
     rw[if_neg (by omega),hw]
     exact ⟨_,rfl,⟨1,rfl,hlt,by simpa[befT,List.getElem?_eq_getElem hlt] using hs⟩,by simp;omega⟩
    | succ k =>
     rw[if_pos (by omega),w64 (a:=((k + 1:Nat):Int) - 1) (by omega) (by omega),show ((k + 1:Nat):Int) - 1=(k:Int) by omega,at_nat (List.getElem?_eq_getElem (by omega:k<l.length)),Option.bind_some]
     simp only[befT,List.getElem?_eq_getElem (by omega:k<l.length)] at hs
     by_cases c2:l[k + 1].fNumber≤l[k].fNumber
     ·right
      rw[if_pos c2] at hs ⊢
      exact ⟨_,rfl,by rw[← hs]⟩
     ·left
      rw[if_neg c2] at hs ⊢
      rw[hw]
      exact ⟨_,rfl,⟨k + 2,rfl,hlt,by simpa[befT,List.getElem?_eq_getElem hlt] using hs⟩,by simp;omega⟩
   ·right
    rw[if_pos (by simpa using c1)] at hs ⊢
    exact ⟨_,rfl,by rw[← hs]⟩
  ·right
   rw[if_neg (by simpa using hlt)]
   refine ⟨_,rfl,?_⟩
   rw[← hs,List.drop_eq_nil_of_le (by omega)]
   rfl)
 rw[h3,Option.bind_some]
 exact h4
def fewS(l:List ApiGroup):Bool:=(l.take 60).all (fun g => !(decide (40<g.fChannels.length) && decide (g.fChannels.length≤256))) && decide (l.length≤60)
theorem f41_eq(l:List ApiGroup)(hl:l.length≤9223372036854775807):f41 l=some (fewS l):=by
 obtain ⟨e,h3,h4⟩:=run_ex (L:=f41_L1 l) (s0:=0) (fun e=>(match e with | Sum.inl ()=>some (decide (l.length≤60)) | Sum.inr ()=>some false)=some (fewS l))
  (fun i=>∃ k:Nat,i=k∧k≤l.length∧k≤60∧(l.take k).all (fun g => !(decide (40<g.fChannels.length) && decide (g.fChannels.length≤256)))=true) (fun i=>l.length - i.toNat) ⟨0,rfl,Nat.zero_le _,by omega,by simp⟩ (by
  rintro _ ⟨k,rfl,hk,hk6,hs⟩
  simp only[f41_L1]
  by_cases hlt:k<l.length
  ·rw[if_pos (by simpa using hlt)]
   by_cases h6:k<60
   ·rw[if_pos (by simp;omega),at_nat (List.getElem?_eq_getElem hlt)]
    simp only[Option.bind_some,decide_eq_true_eq]
    have hw:IntKind.i64.wrap ((k:Int) + 1)=((k + 1:Nat):Int):=by rw[w64 (by omega) (by omega)];rfl
    have nxt:(!(decide (40<l[k].fChannels.length) && decide (l[k].fChannels.length≤256)))=true→(l.take (k + 1)).all (fun g => !(decide (40<g.fChannels.length) && decide (g.fChannels.length≤256)))=true:=fun h=>by
     rw[List.take_succ_eq_append_getElem hlt,List.all_append,hs,List.all_cons,List.all_nil,h];rfl
    by_cases c1:40<l[k].fChannels.length
    ·rw[if_pos (by omega)]
     by_cases c2:l[k].fChannels.length≤256
     ·right
      rw[if_pos (by omega)]
      refine ⟨_,rfl,?_⟩
      have:fewS l=false:=by
       unfold fewS
       have hmem:l[k] ∈ l.take 60:=by
        rw[List.mem_take_iff_getElem]
        exact ⟨k,by omega,rfl⟩
       have:(l.take 60).all (fun g => !(decide (40<g.fChannels.length) && decide (g.fChannels.length≤256)))=false:=by
        rw[List.all_eq_false]
        exact ⟨_,hmem,by simp[c1,c2]⟩
       rw[this];rfl
      rw[this]
     ·left
      rw[if_neg (by omega),hw]
      exact ⟨_,rfl,⟨k + 1,rfl,hlt,by omega,nxt (by simp[c2])⟩,by simp;omega⟩
    ·left
     rw[if_neg (by omega),hw]
     exact ⟨_,rfl,⟨k + 1,rfl,hlt,by omega,nxt (by simp[c1])⟩,by simp;omega⟩
   ·right
    rw[if_neg (by simp;omega)]
    refine ⟨_,rfl,?_⟩
    have hk:k=60:=by omega
    subst hk
    unfold fewS
    rw[hs];rfl
  ·right
   rw[if_neg (by simpa using hlt)]
   refine ⟨_,rfl,?_⟩
   have hkl:k=l.length:=by omega
   have:l.take 60=l.take k:=by rw[List.take_of_length_le (by omega),List.take_of_length_le (by omega)]
   unfold fewS
   rw[this,hs];rfl)
 unfold f41
 rw[h3,Option.bind_some]
 have hc:decide (((l.length:Nat):Int)≤60)=decide (l.length≤60):=by
  by_cases h:l.length≤60
  ·rw[decide_eq_true h,decide_eq_true (by omega)]
  ·rw[decide_eq_false h,decide_eq_false (by omega)]
 rw[hc]
 exact h4
theorem f11_ex(l:List ApiSelect)(gs:List ApiGroup)(hl:gs.length≤9223372036854775807):∃ b,f11 l gs=some b:=by
 unfold f11
 rw[f41_eq gs hl]
 simp only[Option.bind_some]
 split
 ·exact ⟨_,rfl⟩
 ·split
  ·split
   ·exact ⟨_,rfl⟩
   ·exact ⟨_,rfl⟩
  ·exact ⟨_,rfl⟩
def samP(v x:ApiParam):Bool:=(v.fChannel == x.fChannel) && ((v.fAttr == x.fAttr) && true)
theorem samP_iff{v x:ApiParam}:samP v x=true↔v=x:=by
 cases v;cases x
 simp[samP]
theorem f30_eq{s:List ApiParam}{v:ApiParam}(hl:s.length≤9223372036854775807):f30 s v=some (s.any (samP v)):=by
 unfold f30 f74
 rw[run_find (L:=f74_L1 s v) (samP v) (fun k _=>(k:Int)) hl (fun k x r=>by
  simp only[f74_L1]
  rw[if_pos r.lt,r.at',Option.bind_some,r.nxt]
  unfold samP
  split<;>rfl) (by simp only[f74_L1];rw[at_end];rfl),Option.bind_some]
 cases hf:s.findIdx? (samP v) with
 | none =>
  have h:=List.findIdx?_eq_none_iff.1 hf
  have:s.any (samP v)=false:=List.any_eq_false.2 fun x hx=>by rw[h x hx];simp
  rw[this];rfl
 | some i =>
  obtain ⟨hi,hp,_⟩:=List.findIdx?_eq_some_iff_getElem.1 hf
  have:s.any (samP v)=true:=List.any_eq_true.2 ⟨_,List.getElem_mem hi,hp⟩
  rw[this]
  dsimp only
  rw[List.getElem?_eq_getElem hi]
  simp
theorem sam_mem{s:List ApiParam}{v:ApiParam}(h:v ∈ s):s.any (samP v)=true:=List.any_eq_true.2 ⟨v,h,samP_iff.2 rfl⟩
theorem f31_32_eq{s all:List ApiParam}{a:Int}(hs:s.length≤9223372036854775807)(hl:all.length≤9223372036854775807)(h:∀ p ∈ s,p.fAttr=a∧p ∈ all):f31_32 s a all=some false:=by
 have hp:∀ p ∈ s,f32p p a all=some false:=fun p hp=>by
  unfold f32p
  rw[if_neg (by simpa using (h p hp).1),f30_eq hl,sam_mem (h p hp).2]
  rfl
 unfold f31_32 f75_32
 have hrun:Lp.run (f75_32_L1 s a all) 0=some (.inl ()):=by
  refine run_all (xs:=s) (fun k x hx=>?_) (by simp only[f75_32_L1];rw[at_end];rfl)
  have r:=Rnd.mk' hx hs
  simp only[f75_32_L1]
  rw[if_pos r.lt,r.at',Option.bind_some,hp x r.mem,Option.bind_some,r.nxt]
  rfl
 rw[hrun]
 rfl
theorem had_all(ps:List ApiProfile)(fx:List ApiFixture)(c:Int):hadS ps fx c (-1)=attrsS ps fx c:=by
 unfold hadS
 rw[List.filter_eq_self]
 intro a _
 simp[ofB]
theorem par_sub{ps:List ApiProfile}{fx:List ApiFixture}{C:List Int}{k:Int}{p:ApiParam}(h:p ∈ parL (fun c=>hadS ps fx c k) C):p ∈ parL (fun c=>hadS ps fx c (-1)) C:=by
 rw[parL_mem] at h ⊢
 refine ⟨h.1,?_⟩
 rw[had_all]
 exact (List.mem_filter.1 h.2).1
theorem par_attr{ps:List ApiProfile}{fx:List ApiFixture}{C:List Int}{k:Int}(hk:0≤k∧k<15){p:ApiParam}(h:p ∈ parL (fun c=>hadS ps fx c k) C):p.fAttr=k:=by
 have h1:=(List.mem_filter.1 (parL_mem.1 h).2).2
 unfold ofB at h1
 have h2:=cls_rng p.fAttr
 simp only[decide_eq_true_eq] at h1
 omega
theorem cls_count:∀ l:List Int,(∀ a ∈ l,0≤a∧a≤14)→(l.filter fun a=>ofB a 15).length + (l.filter fun a=>ofB a 16).length + (l.filter fun a=>ofB a 17).length + (l.filter fun a=>ofB a 18).length=l.length
 | [],_=>rfl
 | a::l,h=>by
  have ih:=cls_count l fun x hx=>h x (List.mem_cons_of_mem _ hx)
  have ha:=h a (List.mem_cons_self ..)
  have hc:=cls_rng a
  have e:∀ k:Int,15≤k→ofB a k=decide (k=15 + (clsS a).1):=fun k hk=>by
   unfold ofB
   rw[decide_eq_decide]
   omega
  simp only[List.filter_cons,e 15 (by omega),e 16 (by omega),e 17 (by omega),e 18 (by omega),decide_eq_true_eq]
  generalize (clsS a).1=q at hc
  have hq:q=0∨q=1∨q=2∨q=3:=by omega
  rcases hq with rfl | rfl | rfl | rfl<;>simp<;>omega
theorem parL_cons(F:Int→List Int)(c:Int)(C:List Int):(parL F (c::C)).length=(F c).length + (parL F C).length:=by
 unfold parL
 rw[List.flatMap_cons,List.length_append,List.length_map]
theorem par_count{ps:List ApiProfile}{fx:List ApiFixture}(hr:Rig ps fx):∀ C:List Int,(parL (fun c=>hadS ps fx c 15) C).length + (parL (fun c=>hadS ps fx c 16) C).length + (parL (fun c=>hadS ps fx c 17) C).length + (parL (fun c=>hadS ps fx c 18) C).length=(parL (fun c=>hadS ps fx c (-1)) C).length
 | []=>rfl
 | c::C=>by
  have ih:=par_count hr C
  have h:(hadS ps fx c 15).length + (hadS ps fx c 16).length + (hadS ps fx c 17).length + (hadS ps fx c 18).length=(attrsS ps fx c).length:=cls_count (attrsS ps fx c) fun a ha=>attrs_rng hr ha
  rw[← had_all ps fx c] at h
  simp only[parL_cons]
  omega
theorem f8_L3_eq{r r':List ApiParam×Int}{c n:Int}{g:UniverseRig}{x:Law41Choice}(hs:r.1.length≤9223372036854775807)(hl:r'.1.length≤9223372036854775807)(h:∀ p ∈ r.1,p ∈ r'.1):Lp.run (f8_L3 r r' c n g x) 0=some (.inl ()):=by
 refine run_all (xs:=r.1) (fun k p hx=>?_) (by simp only[f8_L3];rw[at_end];rfl)
 have q:=Rnd.mk' hx hs
 simp only[f8_L3]
 rw[if_pos q.lt,q.at',Option.bind_some,f30_eq hl,Option.bind_some,q.nxt,sam_mem (h p q.mem)]
 rfl
theorem classes{g:UniverseRig}{x:Law41Choice}(hf:FitR g.fProfiles g.fFixtures)(h0:(channelsS x.fSelect x.fGroups).2=0)(h1:uniS g.fCurves g.fProfiles g.fFixtures=0){all:List ApiParam}(ha:all=parL (fun c=>hadS g.fProfiles g.fFixtures c (-1)) (inOrd (channelsS x.fSelect x.fGroups).1)) :
  Lp.run (f8_L1 x g (all,0)) (0,0)=some (.inl ((all.length:Nat):Int)):=by
 have hr:=rig_of h1
 have hC:=inOrd_len (channelsS x.fSelect x.fGroups).1
 have hlen:∀ k:Int,(parL (fun c=>hadS g.fProfiles g.fFixtures c k) (inOrd (channelsS x.fSelect x.fGroups).1)).length≤2000000:=fun k=>by
  have:=parL_len (F:=fun c=>hadS g.fProfiles g.fFixtures c k) (fun c=>hadS_len c k hr) (inOrd (channelsS x.fSelect x.fGroups).1)
  omega
 have hpar:∀ k:Int,-1≤k∧k≤18→f21 x.fSelect x.fGroups g k=some (parL (fun c=>hadS g.fProfiles g.fFixtures c k) (inOrd (channelsS x.fSelect x.fGroups).1),0):=fun k hk=>by
  rw[f21_eq _ _ _ hf]
  unfold paramsS
  rw[if_neg (nn h0),if_neg (nn h1),if_neg (by omega)]
 have hcnt:=par_count hr (inOrd (channelsS x.fSelect x.fGroups).1)
 rw[← ha] at hcnt
 have hsub:∀ k:Int,∀ p ∈ parL (fun c=>hadS g.fProfiles g.fFixtures c k) (inOrd (channelsS x.fSelect x.fGroups).1),p ∈ all:=fun k p hp=>ha ▸ par_sub hp
 have hall:=hlen (-1)
 rw[← ha] at hall
 clear ha
 have step:∀ (n k q:Int),15 + k=q→0≤n→n≤8000000→0≤k→k≤3→(f8_L1 x g (all,0)).body (n,k)=some (.next (n + ((parL (fun c=>hadS g.fProfiles g.fFixtures c q) (inOrd (channelsS x.fSelect x.fGroups).1)).length:Nat),k + 1)):=fun n k q e n1 n2 k1 k2=>by
  subst e
  have hl:=hlen (15 + k)
  simp only[f8_L1]
  rw[if_pos (by simp;omega),w64 (a:=15 + k) (by omega) (by omega),hpar (15 + k) (by omega),Option.bind_some,if_neg (by simp),f8_L3_eq (by dsimp only;omega) (by dsimp only;omega) (hsub (15 + k)),Option.bind_some]
  dsimp only
  rw[w64 (by omega) (by omega),w64 (by omega) (by omega)]
 have l0:=hlen 15
 have l1:=hlen 16
 have l2:=hlen 17
 have l3:=hlen 18
 have fin:∀ n:Int,(f8_L1 x g (all,0)).body (n,4)=some (.brk (.inl n)):=fun n=>by
  simp only[f8_L1]
  rw[if_neg (by simp)]
 generalize (inOrd (channelsS x.fSelect x.fGroups).1)=C at *
 have st:∀ (n k q:Int),15 + k=q→0≤n→n≤8000000→0≤k→k≤3→∀ e,Lp.run (f8_L1 x g (all,0)) (n + ((parL (fun c=>hadS g.fProfiles g.fFixtures c q) C).length:Nat),k + 1)=some e→Lp.run (f8_L1 x g (all,0)) (n,k)=some e:=fun n k q eq n1 n2 k1 k2 e h=>(iter_next (step n k q eq n1 n2 k1 k2)).trans h
 have e4:((all.length:Nat):Int)=0 + ((parL (fun c=>hadS g.fProfiles g.fFixtures c 15) C).length:Nat) + ((parL (fun c=>hadS g.fProfiles g.fFixtures c 16) C).length:Nat) + ((parL (fun c=>hadS g.fProfiles g.fFixtures c 17) C).length:Nat) + ((parL (fun c=>hadS g.fProfiles g.fFixtures c 18) C).length:Nat):=by omega
 rw[e4]
 refine st 0 0 15 rfl (by omega) (by omega) (by omega) (by omega) _ ?_
 refine st _ 1 16 rfl (by omega) (by omega) (by omega) (by omega) _ ?_
 refine st _ 2 17 rfl (by omega) (by omega) (by omega) (by omega) _ ?_
 refine st _ 3 18 rfl (by omega) (by omega) (by omega) (by omega) _ ?_
 exact iter_brk (fin _)
theorem attrs_each{g:UniverseRig}{x:Law41Choice}{n:Int}(hf:FitR g.fProfiles g.fFixtures)(h0:(channelsS x.fSelect x.fGroups).2=0)(h1:uniS g.fCurves g.fProfiles g.fFixtures=0) :
  Lp.run (f8_L2 x g (parL (fun c=>hadS g.fProfiles g.fFixtures c (-1)) (inOrd (channelsS x.fSelect x.fGroups).1),0) n) 0=some (.inl ()):=by
 have hr:=rig_of h1
 have hC:=inOrd_len (channelsS x.fSelect x.fGroups).1
 have hlen:∀ k:Int,(parL (fun c=>hadS g.fProfiles g.fFixtures c k) (inOrd (channelsS x.fSelect x.fGroups).1)).length≤2000000:=fun k=>by
  have:=parL_len (F:=fun c=>hadS g.fProfiles g.fFixtures c k) (fun c=>hadS_len c k hr) (inOrd (channelsS x.fSelect x.fGroups).1)
  omega
 have hpar:∀ k:Int,-1≤k∧k≤18→f21 x.fSelect x.fGroups g k=some (parL (fun c=>hadS g.fProfiles g.fFixtures c k) (inOrd (channelsS x.fSelect x.fGroups).1),0):=fun k hk=>by
  rw[f21_eq _ _ _ hf]
  unfold paramsS
  rw[if_neg (nn h0),if_neg (nn h1),if_neg (by omega)]
 have:=run_count (L:=f8_L2 x g (parL (fun c=>hadS g.fProfiles g.fFixtures c (-1)) (inOrd (channelsS x.fSelect x.fGroups).1),0) n) (e:=.inl ()) (fun k=>(k:Int)) 15 ?_ 0 (by omega) fun k _ hk=>?_
 ·simpa using this
 ·simp only[f8_L2]
  rw[if_neg (by simp)]
 ·have l1:=hlen (k:Int)
  have l2:=hlen (-1)
  simp only[f8_L2]
  rw[if_pos (by simp;omega),hpar _ (by omega),Option.bind_some,if_neg (by simp),f31_32_eq (by omega) (by omega) (fun p hp=>⟨par_attr (by omega) hp,par_sub hp⟩),Option.bind_some,if_neg (by simp),w64_succ (by omega)]
theorem f8_eq(g:UniverseRig)(x:Law41Choice)(hf:FitR g.fProfiles g.fFixtures)(hg:x.fGroups.length≤9223372036854775807):f8 g x=some true:=by
 obtain ⟨b,hb⟩:=f18_ex ⟨g.fCurves,g.fProfiles,g.fFixtures⟩
 obtain ⟨b',hb'⟩:=f11_ex x.fSelect x.fGroups hg
 have h29:=f29_eq (g:=⟨g.fCurves,g.fProfiles,g.fFixtures⟩) hf
 unfold f8
 rw[hb,f12_eq,Option.bind_some]
 cases b with
 | false=>rfl
 | true =>
  rw[if_neg (by simp),hb',Option.bind_some]
  cases b' with
  | false=>rfl
  | true =>
   rw[if_neg (by simp),h29,Option.bind_some]
   dsimp only
   by_cases h1:uniS g.fCurves g.fProfiles g.fFixtures=0
   ·rw[if_neg (by simpa using h1),f21_eq _ _ _ hf,Option.bind_some]
    unfold paramsS
    by_cases h0:(channelsS x.fSelect x.fGroups).2=0
    ·rw[if_neg (nn h0),if_neg (nn h1),if_neg (show ¬ ¬ ((-1:Int) ≤ -1∧(-1:Int)≤18) by omega),if_neg (by simp),classes hf h0 h1 rfl,Option.bind_some]
     dsimp only
     rw[attrs_each hf h0 h1,Option.bind_some]
     dsimp only
     have ht:tableS x.fGroups=0:=by
      unfold channelsS at h0
      by_cases k1:selS x.fSelect=0
      ·rw[if_neg (nn k1)] at h0
       by_cases k2:tableS x.fGroups=0
       ·exact k2
       ·rw[if_pos k2] at h0;exact absurd h0 k2
      ·rw[if_pos k1] at h0;exact absurd h0 k1
     rw[if_pos (by simp),f33_eq,Option.bind_some,ht]
     rfl
    ·rw[if_pos h0,if_pos (by simpa using h0)]
     rfl
   ·rw[if_pos (by simpa using h1)]
    rfl
end Go.Proofs.YtnaemmpcffnbkaaGreatDoor
