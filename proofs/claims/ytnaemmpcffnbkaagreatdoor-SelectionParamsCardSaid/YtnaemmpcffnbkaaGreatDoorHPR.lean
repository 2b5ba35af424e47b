import Derived.Test.YtnaemmpcffnbkaaGreatDoorHPU6
import Derived.Test.YtnaemmpcffnbkaaGreatDoorHGA2
namespace Go.Proofs.YtnaemmpcffnbkaaGreatDoor
open Go Go.Ab
set_option linter.unusedSimpArgs false
set_option linter.unusedVariables false
set_option maxRecDepth 4000
theorem scan_iff:∀ (l seen:List Int),scan seen l=0↔(∀ x ∈ l,1≤x∧x≤999)∧l.Nodup∧∀ x ∈ l,x ∉ seen
 | [],seen=>by simp[scan]
 | x::xs,seen=>by
  unfold scan
  by_cases h1:x<1∨x > 999
  ·rw[if_pos h1]
   exact ⟨(fun e=>by cases e),fun e=>by have:=e.1 x (List.mem_cons_self ..);omega⟩
  ·rw[if_neg h1]
   by_cases h2:x ∈ seen
   ·rw[if_pos h2]
    exact ⟨(fun e=>by cases e),fun e=>absurd h2 (e.2.2 x (List.mem_cons_self ..))⟩
   ·rw[if_neg h2,scan_iff xs (seen++[x]),List.nodup_cons]
    constructor
    ·rintro ⟨a,b,c⟩
     refine ⟨fun y hy=>?_,⟨fun hm=>?_,b⟩,fun y hy=>?_⟩
     ·rcases List.mem_cons.1 hy with rfl | hy
      ·omega
      ·exact a y hy
     ·exact c x hm (List.mem_append_right _ (List.mem_singleton.2 rfl))
     ·rcases List.mem_cons.1 hy with rfl | hy
      ·exact h2
      ·exact fun hs=>c y hy (List.mem_append_left _ hs)
    ·rintro ⟨a,⟨b1,b2⟩,c⟩
     refine ⟨fun y hy=>a y (List.mem_cons_of_mem _ hy),b2,fun y hy hs=>?_⟩
     rcases List.mem_append.1 hs with hs | hs
     ·exact c y (List.mem_cons_of_mem _ hy) hs
     ·rw[List.mem_singleton.1 hs] at hy;exact b1 hy
def sg(x y:Int):Int:=if x<y then -1 else if y<x then 1 else 0
theorem f105_eq(x y:Int):f105 x y=some (sg x y):=by
 unfold f105 f157 sg
 simp only[Option.bind_some,ne_eq,not_true_eq_false,decide_false,Bool.false_eq_true,if_false,decide_eq_true_eq]
 split
 ·rfl
 ·split<;>rfl
theorem f104_eq(a b:Int):f104 [a,b]=some (if a≠0 then a else b):=by
 have h0:at? [a,b] 0=some a:=rfl
 have h1:at? [a,b] 1=some b:=rfl
 unfold f104
 by_cases ha:a=0
 ·have b0:(f104_L1 [a,b]).body 0=some (.next 1):=by
   simp only[f104_L1,h0,Option.bind_some]
   rw[if_pos (by simp),if_neg (by simpa using ha)]
   rfl
  rw[show Lp.run (f104_L1 [a,b]) 0=iter (f104_L1 [a,b]).body 0 from rfl,iter_next b0,if_neg (by simpa using ha)]
  by_cases hb:b=0
  ·have b1:(f104_L1 [a,b]).body 1=some (.next 2):=by
    simp only[f104_L1,h1,Option.bind_some]
    rw[if_pos (by simp),if_neg (by simpa using hb)]
    rfl
   have b2:(f104_L1 [a,b]).body 2=some (.brk (.inl ())):=by
    simp only[f104_L1]
    rw[if_neg (by simp)]
   rw[iter_next b1,iter_brk b2,hb]
   rfl
  ·have b1:(f104_L1 [a,b]).body 1=some (.brk (.inr b)):=by
    simp only[f104_L1,h1,Option.bind_some]
    rw[if_pos (by simp),if_pos (by simpa using hb)]
   rw[iter_brk b1]
   rfl
 ·have b0:(f104_L1 [a,b]).body 0=some (.brk (.inr a)):=by
   simp only[f104_L1,h0,Option.bind_some]
   rw[if_pos (by simp),if_pos (by simpa using ha)]
  rw[show Lp.run (f104_L1 [a,b]) 0=iter (f104_L1 [a,b]).body 0 from rfl,iter_brk b0,if_pos ha]
  rfl
def cmpP(p q:ApiParam):Int:=if sg p.fChannel q.fChannel≠0 then sg p.fChannel q.fChannel else sg p.fAttr q.fAttr
theorem f62_eq(p q:ApiParam):f62 p q=some (cmpP p q):=by
 unfold f62
 rw[f105_eq,f105_eq,Option.bind_some,Option.bind_some,f104_eq]
 rfl
theorem cmpP_lt{p q:ApiParam}:cmpP p q<0↔p.fChannel<q.fChannel∨p.fChannel=q.fChannel∧p.fAttr<q.fAttr:=by
 unfold cmpP sg
 by_cases h1:p.fChannel<q.fChannel
 ·simp[h1]
 ·by_cases h2:q.fChannel<p.fChannel
  ·simp[h1,h2];omega
  ·by_cases h3:p.fAttr<q.fAttr
   ·simp[h1,h2,h3];omega
   ·by_cases h4:q.fAttr<p.fAttr<;>simp[h1,h2,h3,h4]<;>omega
theorem key_unique{τ : Type}(key : τ → Int):∀ {xs ys:List τ},xs.Pairwise (fun a b=>key a<key b)→ys.Pairwise (fun a b=>key a<key b)→(∀ a,a ∈ xs↔a ∈ ys)→xs=ys
 | [],[],_,_,_=>rfl
 | [],y::ys,_,_,h=>absurd ((h y).2 (List.mem_cons_self ..)) (by simp)
 | x::xs,[],_,_,h=>absurd ((h x).1 (List.mem_cons_self ..)) (by simp)
 | x::xs,y::ys,h1,h2,h=>by
  rw[List.pairwise_cons] at h1 h2
  have hx:x=y:=by
   rcases List.mem_cons.1 ((h x).1 (List.mem_cons_self ..)) with e | m1
   ·exact e
   ·rcases List.mem_cons.1 ((h y).2 (List.mem_cons_self ..)) with e | m2
    ·exact e.symm
    ·have:=h1.1 y m2
     have:=h2.1 x m1
     omega
  subst hx
  have:=key_unique key h1.2 h2.2 fun a=>by
   constructor
   ·intro ha
    rcases List.mem_cons.1 ((h a).1 (List.mem_cons_of_mem _ ha)) with e | m
    ·subst e;have:=h1.1 a ha;omega
    ·exact m
   ·intro ha
    rcases List.mem_cons.1 ((h a).2 (List.mem_cons_of_mem _ ha)) with e | m
    ·subst e;have:=h2.1 a ha;omega
    ·exact m
  rw[this]
theorem range999:rangeL 1 999=(List.range 999).map fun (i:Nat)=>1 + (i:Int):=by
 unfold rangeL
 rw[show (999 + 1 - 1:Int).toNat=999 from by decide]
theorem range_asc(a b:Int):(rangeL a b).Pairwise fun x y=>x<y:=by
 unfold rangeL
 rw[List.pairwise_map]
 exact List.pairwise_lt_range.imp fun {x y} h=>by omega
theorem check_scan{g:ApiGroup}(h:checkG g=0):scan [] g.fChannels=0:=by
 unfold checkG at h
 split at h
 ·cases h
 ·split at h
  ·cases h
  ·exact h
theorem mem_rng{groups:List ApiGroup}(ht:Tab groups){x:ApiSelect}(hx:termE x=0){m:List Int}(h:memS groups x=some m):∀ c ∈ m,1≤c∧c≤999:=by
 unfold memS at h
 by_cases hg:x.fGroup=0
 ·obtain ⟨h1,h2,h3⟩:=term_range hx hg
  rw[if_neg (by simpa using hg)] at h
  injection h with h
  subst h
  intro c hc
  have:=rangeL_mem.1 hc
  omega
 ·rw[if_pos hg] at h
  cases hgs:getS groups x.fGroup with
  | none=>rw[hgs] at h;cases h
  | some g =>
   rw[hgs] at h
   injection h with h
   subst h
   exact ((scan_iff _ _).1 (check_scan (ht.chk g (List.mem_of_find?_eq_some hgs)))).1
def Chans(l:List Int):Prop:=(∀ c ∈ l,1≤c∧c≤999)∧l.Nodup
theorem add_chans:∀ (m:List Int) {out:List Int},(∀ c ∈ m,1≤c∧c≤999)→Chans out→Chans (m.foldl add1 out)
 | [],_,_,h=>h
 | c::m,out,hm,h=>by
  rw[List.foldl_cons]
  refine add_chans m (fun x hx=>hm x (List.mem_cons_of_mem _ hx)) ?_
  unfold add1
  split
  ·exact h
  ·rename_i hn
   refine ⟨fun x hx=>?_,?_⟩
   ·rcases List.mem_append.1 hx with hx | hx
    ·exact h.1 x hx
    ·rw[List.mem_singleton.1 hx];exact hm c (List.mem_cons_self ..)
   ·rw[List.nodup_append]
    exact ⟨h.2,by simp,fun a ha b hb e=>by rw[List.mem_singleton] at hb;subst hb;subst e;exact hn ha⟩
theorem apply_chans(op:Int){m out:List Int}(hm:∀ c ∈ m,1≤c∧c≤999)(h:Chans out):Chans (applyS op out m):=by
 unfold applyS
 split
 ·exact add_chans m hm h
 ·exact ⟨fun x hx=>h.1 x (List.mem_filter.1 hx).1,List.Pairwise.filter _ h.2⟩
theorem chosen_chans{groups:List ApiGroup}(ht:Tab groups):∀ (l:List ApiSelect) {out o:List Int},(∀ x ∈ l,termE x=0)→Chans out→chosenS groups out l=some o→Chans o
 | [],out,o,_,hI,h=>by injection h with h;subst h;exact hI
 | x::xs,out,o,hc,hI,h=>by
  simp only[chosenS] at h
  cases hm:memS groups x with
  | none=>rw[hm] at h;cases h
  | some m =>
   rw[hm] at h
   exact chosen_chans ht xs (fun y hy=>hc y (List.mem_cons_of_mem _ hy)) (apply_chans _ (mem_rng ht (hc x (List.mem_cons_self ..)) hm) hI) h
theorem channels_chans(l:List ApiSelect)(groups:List ApiGroup):Chans (channelsS l groups).1:=by
 have h0:Chans []:=⟨by simp,List.Pairwise.nil⟩
 unfold channelsS
 by_cases h1:selS l=0
 ·rw[if_neg (nn h1)]
  by_cases h2:tableS groups=0
  ·rw[if_neg (nn h2)]
   cases h:chosenS groups [] l with
   | none=>exact h0
   | some o=>exact chosen_chans (tab_of h2) l (sel_of h1).chk h0 h
  ·rw[if_pos h2];exact h0
 ·rw[if_pos h1];exact h0
def parL(F:Int→List Int)(cs:List Int):List ApiParam:=cs.flatMap fun c=>(F c).map fun a=>⟨c,a⟩
theorem parL_len{F:Int→List Int}(hF:∀ c,(F c).length≤1024):∀ cs:List Int,(parL F cs).length≤1024 * cs.length
 | []=>by simp[parL]
 | c::cs=>by
  have h1:=parL_len hF cs
  have h2:=hF c
  unfold parL at h1 ⊢
  rw[List.flatMap_cons,List.length_append,List.length_map,List.length_cons]
  omega
theorem parL_add{F:Int→List Int}(cs:List Int)(c:Int):parL F (cs++[c])=parL F cs++(F c).map fun a=>⟨c,a⟩:=by
 unfold parL
 rw[List.flatMap_append,List.flatMap_cons,List.flatMap_nil,List.append_nil]
theorem parL_mem{F:Int→List Int}{cs:List Int}{p:ApiParam}:p ∈ parL F cs↔p.fChannel ∈ cs∧p.fAttr ∈ F p.fChannel:=by
 unfold parL
 rw[List.mem_flatMap]
 constructor
 ·rintro ⟨c,hc,hp⟩
  obtain ⟨a,ha,rfl⟩:=List.mem_map.1 hp
  exact ⟨hc,ha⟩
 ·rintro ⟨h1,h2⟩
  exact ⟨p.fChannel,h1,List.mem_map.2 ⟨p.fAttr,h2,rfl⟩⟩
def keyP(p:ApiParam):Int:=p.fChannel * 15 + p.fAttr
theorem par_asc{F:Int→List Int}(hF:∀ c,(F c).Pairwise fun a b=>a<b)(hR:∀ c a,a ∈ F c→0≤a∧a≤14){cs:List Int}(hc:cs.Pairwise fun a b=>a<b):(parL F cs).Pairwise fun p q=>keyP p<keyP q:=by
 unfold parL
 rw[List.pairwise_flatMap]
 refine ⟨fun c _=>List.pairwise_map.2 ((hF c).imp fun {a b} h=>by unfold keyP;dsimp only;omega),hc.imp fun {a b} hab x hx y hy=>?_⟩
 obtain ⟨u,hu,rfl⟩:=List.mem_map.1 hx
 obtain ⟨v,hv,rfl⟩:=List.mem_map.1 hy
 have h1:=hR _ _ hu
 have h2:=hR _ _ hv
 unfold keyP
 dsimp only
 omega
theorem par_ne{F:Int→List Int}(hF:∀ c,(F c).Pairwise fun a b=>a<b)(hR:∀ c a,a ∈ F c→0≤a∧a≤14){cs:List Int}(hc:cs.Nodup):(parL F cs).Pairwise fun p q=>keyP p≠keyP q:=by
 unfold parL
 rw[List.pairwise_flatMap]
 refine ⟨fun c _=>List.pairwise_map.2 ((hF c).imp fun {a b} h=>by unfold keyP;dsimp only;omega),List.Pairwise.imp (fun {a b} hab x hx y hy=>?_) hc⟩
 obtain ⟨u,hu,rfl⟩:=List.mem_map.1 hx
 obtain ⟨v,hv,rfl⟩:=List.mem_map.1 hy
 have h1:=hR _ _ hu
 have h2:=hR _ _ hv
 unfold keyP
 dsimp only
 omega
theorem had_asc(ps:List ApiProfile)(fx:List ApiFixture)(c kind:Int):(hadS ps fx c kind).Pairwise fun a b=>a<b:=by
 unfold hadS attrsS
 exact List.Pairwise.filter _ (compact_strict (sortI_asc _))
theorem had_rng{ps:List ApiProfile}{fx:List ApiFixture}(hr:Rig ps fx)(kind:Int)(c a:Int)(h:a ∈ hadS ps fx c kind):0≤a∧a≤14:=attrs_rng hr (List.mem_filter.1 h).1
def inOrd(cs:List Int):List Int:=(rangeL 1 999).filter fun c=>decide (c ∈ cs)
theorem sort_par{ps:List ApiProfile}{fx:List ApiFixture}(hr:Rig ps fx)(kind:Int){cs:List Int}(hc:Chans cs)(hl:cs.length≤300000) :
  sortx? (fun x y=>f62 x y) (parL (fun c=>hadS ps fx c kind) cs)=some (parL (fun c=>hadS ps fx c kind) (inOrd cs)):=by
 have hlen:=parL_len (F:=fun c=>hadS ps fx c kind) (fun c=>hadS_len c kind hr) cs
 obtain ⟨ys,h1,h2,h3⟩:=sortx_some (f:=fun x y=>f62 x y) (c:=cmpP) (xs:=parL (fun c=>hadS ps fx c kind) cs) (fun x _ y _=>f62_eq x y) (fun x _ y _ z _=>by
  simp only[cmpP_lt];omega) (by omega)
 rw[h1]
 refine congrArg some ?_
 have hne:ys.Pairwise fun a b=>keyP a≠keyP b:=(h2.pairwise_iff fun {a b} h=>Ne.symm h).2 (par_ne (had_asc ps fx · kind) (had_rng hr kind) hc.2)
 refine key_unique keyP ?_ (par_asc (had_asc ps fx · kind) (had_rng hr kind) (List.Pairwise.filter _ (range_asc 1 999))) fun p=>?_
 ·refine (h3.and hne).imp_of_mem fun {a b} ha hb hab=>?_
  have ra:=had_rng hr kind _ _ (parL_mem.1 (h2.mem_iff.1 ha)).2
  have rb:=had_rng hr kind _ _ (parL_mem.1 (h2.mem_iff.1 hb)).2
  obtain ⟨k1,k2⟩:=hab
  simp only[cmpP_lt] at k1
  unfold keyP at k2 ⊢
  omega
 ·rw[h2.mem_iff,parL_mem,parL_mem]
  unfold inOrd
  constructor
  ·rintro ⟨m1,m2⟩
   exact ⟨List.mem_filter.2 ⟨rangeL_mem.2 (hc.1 _ m1),by simpa using m1⟩,m2⟩
  ·rintro ⟨m1,m2⟩
   exact ⟨by simpa using (List.mem_filter.1 m1).2,m2⟩
theorem f21_L2_eq{r:List Int×Int}{c v:Int}{r0:List Int×Int}{kind:Int}{g:UniverseRig}{out:List ApiParam}(h:r.1.length≤1024)(ho:out.length≤1000000000):Lp.run (f21_L2 r c v r0 kind g) (0,out)=some (out++r.1.map fun a=>⟨c,a⟩):=by
 have:=run_count (L:=f21_L2 r c v r0 kind g) (e:=out++r.1.map fun a=>⟨c,a⟩) (fun k=>((k:Int),out++(r.1.take k).map fun a=>⟨c,a⟩)) r.1.length ?_ 0 (by omega) fun k _ hk=>?_
 ·simpa using this
 ·simp only[f21_L2]
  rw[at_end,if_neg (by simp),List.take_of_length_le (by omega)]
 ·have h1:=List.getElem?_eq_getElem hk
  simp only[f21_L2]
  rw[if_pos (at_lt h1),at_nat h1,Option.bind_some,app_some (by simp;omega) (by simp;omega),Option.bind_some,w64_succ (by omega),List.take_add_one,h1,Option.toList_some,List.map_append,← List.append_assoc]
  rfl
theorem f21_L1_eq{r:List Int×Int}{g:UniverseRig}{kind:Int}(hf:FitR g.fProfiles g.fFixtures)(hr:Rig g.fProfiles g.fFixtures)(hk : -1≤kind∧kind≤18)(hl:r.1.length≤300000):Lp.run (f21_L1 r g kind) (0,[])=some (.inl (parL (fun c=>hadS g.fProfiles g.fFixtures c kind) r.1)):=by
 have hlen:=parL_len (F:=fun c=>hadS g.fProfiles g.fFixtures c kind) fun c=>hadS_len c kind hr
 have:=run_count (L:=f21_L1 r g kind) (e:=.inl (parL (fun c=>hadS g.fProfiles g.fFixtures c kind) r.1)) (fun k=>((k:Int),parL (fun c=>hadS g.fProfiles g.fFixtures c kind) (r.1.take k))) r.1.length ?_ 0 (by omega) fun k _ hk'=>?_
 ·simpa[parL] using this
 ·simp only[f21_L1]
  rw[at_end,if_neg (by simp),List.take_of_length_le (by omega)]
 ·have h1:=List.getElem?_eq_getElem hk'
  have h2:=hlen (r.1.take k)
  rw[List.length_take,Nat.min_eq_left (by omega)] at h2
  simp only[f21_L1]
  rw[if_pos (at_lt h1),at_nat h1,Option.bind_some,f58_eq _ hf hr hk,Option.bind_some,if_neg (by simp),f21_L2_eq (hadS_len _ kind hr) (by omega),Option.bind_some,w64_succ (by omega),List.take_add_one,h1,Option.toList_some,parL_add]
def paramsS(l:List ApiSelect)(gs:List ApiGroup)(cs:List (List ApiPoint))(ps:List ApiProfile)(fx:List ApiFixture)(kind:Int):List ApiParam×Int :=
 if (channelsS l gs).2≠0 then ([],(channelsS l gs).2) else if uniS cs ps fx≠0 then ([],uniS cs ps fx) else if ¬ (-1≤kind∧kind≤18) then ([],1)
 else (parL (fun c=>hadS ps fx c kind) (inOrd (channelsS l gs).1),0)
theorem f21_eq(l:List ApiSelect)(gs:List ApiGroup){g:UniverseRig}(kind:Int)(hf:FitR g.fProfiles g.fFixtures):f21 l gs g kind=some (paramsS l gs g.fCurves g.fProfiles g.fFixtures kind):=by
 unfold f21 paramsS
 rw[f13_eq,Option.bind_some]
 by_cases h0:(channelsS l gs).2=0
 ·rw[if_neg (by simpa using h0),if_neg (nn h0),f55_eq hf,Option.bind_some]
  by_cases h1:uniS g.fCurves g.fProfiles g.fFixtures=0
  ·rw[if_neg (by simpa using h1),if_neg (nn h1),f57_eq,Option.bind_some]
   by_cases h2 : -1≤kind∧kind≤18
   ·rw[if_neg (by simp;omega),if_neg (by omega),f21_L1_eq hf (rig_of h1) h2 (channels_len l gs),Option.bind_some]
    dsimp only
    rw[sort_par (rig_of h1) kind (channels_chans l gs) (channels_len l gs)]
    rfl
   ·rw[if_pos (by simp;omega),if_pos h2]
  ·rw[if_pos (by simpa using h1),if_pos h1]
 ·rw[if_pos (by simpa using h0),if_pos h0]
theorem inOrd_len(cs:List Int):(inOrd cs).length≤999:=by
 unfold inOrd
 have:=List.length_filter_le (fun c=>decide (c ∈ cs)) (rangeL 1 999)
 rw[rangeL_len] at this
 omega
theorem paramsS_len(l:List ApiSelect)(gs:List ApiGroup)(cs:List (List ApiPoint))(ps:List ApiProfile)(fx:List ApiFixture)(kind:Int):(paramsS l gs cs ps fx kind).1.length≤2000000:=by
 unfold paramsS
 by_cases h0:(channelsS l gs).2=0
 ·rw[if_neg (nn h0)]
  by_cases h1:uniS cs ps fx=0
  ·rw[if_neg (nn h1)]
   split
   ·simp
   ·have h2:=parL_len (F:=fun c=>hadS ps fx c kind) (fun c=>hadS_len c kind (rig_of h1)) (inOrd (channelsS l gs).1)
    have h3:=inOrd_len (channelsS l gs).1
    dsimp only
    omega
  ·rw[if_pos h1];simp
 ·rw[if_pos h0];simp
end Go.Proofs.YtnaemmpcffnbkaaGreatDoor
