import Derived.Test.YtnaemmpcffnbkaaGreatDoorRP1
import Derived.Test.YtnaemmpcffnbkaaGreatDoorRYR1
namespace Go.Proofs.YtnaemmpcffnbkaaGreatDoor
open Go Go.Ab
set_option linter.unusedSimpArgs false
set_option linter.unusedVariables false
set_option maxRecDepth 4000
theorem key_unique{τ : Type}(key : τ → Int):∀ {xs ys:List τ},xs.Pairwise (fun a b=>key a<key b)→ys.Pairwise (fun a b=>key a<key b)→(∀ a,a ∈ xs↔a ∈ ys)→xs=ys
 | [],[],_,_,_=>rfl
 | [],y::ys,_,_,h=>absurd ((h y).2 (List.mem_cons_self ..)) (by simp)
 | x::xs,[],_,_,h=>absurd ((h x).1 (List.mem_cons_self ..)) (by simp)
 | x::xs,y::ys,h1,h2,h=>by
  rw[List.pairwise_cons] at h1 h2
  have hx:x=y:=by
   rcases List.mem_cons.1 ((h x).1 (List.mem_cons_self ..)) with e | m1
   ·exact e
   ·rcases List.mem_cons.1 ((h y).2 (List.mem_cons_self ..)) with e | m2
    ·exact e.symm
    ·have:=h1.1 y m2
     have:=h2.1 x m1
     omega
  subst hx
  have:=key_unique key h1.2 h2.2 fun a=>by
   constructor
   ·intro ha
    rcases List.mem_cons.1 ((h a).1 (List.mem_cons_of_mem _ ha)) with e | m
    ·subst e;have:=h1.1 a ha;omega
    ·exact m
   ·intro ha
    rcases List.mem_cons.1 ((h a).2 (List.mem_cons_of_mem _ ha)) with e | m
    ·subst e;have:=h2.1 a ha;omega
    ·exact m
  rw[this]
theorem range_asc(a b:Int):(rangeL a b).Pairwise fun x y=>x<y:=by
 unfold rangeL
 rw[List.pairwise_map]
 exact List.pairwise_lt_range.imp fun {x y} h=>by omega
def Chans(l:List Int):Prop:=(∀ c ∈ l,1≤c∧c≤999)∧l.Nodup
theorem add_chans:∀ (m:List Int) {out:List Int},(∀ c ∈ m,1≤c∧c≤999)→Chans out→Chans (m.foldl add1 out)
 | [],_,_,h=>h
 | c::m,out,hm,h=>by
  rw[List.foldl_cons]
  refine add_chans m (fun x hx=>hm x (List.mem_cons_of_mem _ hx)) ?_
  unfold add1
  split
  ·exact h
  ·rename_i hn
   refine ⟨fun x hx=>?_,?_⟩
   ·rcases List.mem_append.1 hx with hx | hx
    ·exact h.1 x hx
    ·rw[List.mem_singleton.1 hx];exact hm c (List.mem_cons_self ..)
   ·rw[List.nodup_append]
    exact ⟨h.2,by simp,fun a ha b hb e=>by rw[List.mem_singleton] at hb;subst hb;subst e;exact hn ha⟩
theorem apply_chans(op:Int){m out:List Int}(hm:∀ c ∈ m,1≤c∧c≤999)(h:Chans out):Chans (applyS op out m):=by
 unfold applyS
 split
 ·exact add_chans m hm h
 ·exact ⟨fun x hx=>h.1 x (List.mem_filter.1 hx).1,List.Pairwise.filter _ h.2⟩
def inOrd(cs:List Int):List Int:=(rangeL 1 999).filter fun c=>decide (c ∈ cs)
theorem inOrd_len(cs:List Int):(inOrd cs).length≤999:=by
 unfold inOrd
 have:=List.length_filter_le (fun c=>decide (c ∈ cs)) (rangeL 1 999)
 rw[rangeL_len] at this
 omega
theorem chosen_last{gs:List ApiGroup}:∀ (l:List ApiSelect) (out:List Int) (x:ApiSelect),chosenS gs out (l++[x])=(chosenS gs out l).bind fun o=>(memS gs x).map fun m=>applyS x.fOp o m
 | [],out,x=>by simp only[List.nil_append,chosenS];cases memS gs x<;>rfl
 | y::l,out,x=>by
  simp only[List.cons_append,chosenS]
  cases memS gs y with
  | none=>rfl
  | some m=>exact chosen_last l _ x
theorem channels_of{l:List ApiSelect}{gs:List ApiGroup}{o:List Int}(h1:selS l=0)(h2:tableS gs=0)(h3:chosenS gs [] l=some o):channelsS l gs=(o,0):=by
 unfold channelsS
 rw[if_neg (nn h1),if_neg (nn h2),h3]
theorem fold_mem:∀ (m out:List Int) (x:Int),x ∈ m.foldl add1 out↔x ∈ out∨x ∈ m
 | [],out,x=>by simp
 | c::m,out,x=>by
  rw[List.foldl_cons,fold_mem m,List.mem_cons]
  unfold add1
  split
  ·rename_i h
   constructor
   ·rintro (k | k)
    ·exact .inl k
    ·exact .inr (.inr k)
   ·rintro (k | k | k)
    ·exact .inl k
    ·subst k;exact .inl h
    ·exact .inr k
  ·rw[List.mem_append,List.mem_singleton]
   constructor
   ·rintro ((k | k) | k)
    ·exact .inl k
    ·exact .inr (.inl k)
    ·exact .inr (.inr k)
   ·rintro (k | k | k)
    ·exact .inl (.inl k)
    ·exact .inl (.inr k)
    ·exact .inr k
def fewS(l:List ApiGroup):Bool:=(l.take 60).all (fun g => !(decide (40<g.fChannels.length) && decide (g.fChannels.length≤256))) && decide (l.length≤60)
theorem f41_eq(l:List ApiGroup)(hl:l.length≤9223372036854775807):f41 l=some (fewS l):=by
 obtain ⟨e,h3,h4⟩:=run_ex (L:=f41_L1 l) (s0:=0) (fun e=>(match e with | Sum.inl ()=>some (decide (l.length≤60)) | Sum.inr ()=>some false)=some (fewS l))
  (fun i=>∃ k:Nat,i=k∧k≤l.length∧k≤60∧(l.take k).all (fun g => !(decide (40<g.fChannels.length) && decide (g.fChannels.length≤256)))=true) (fun i=>l.length - i.toNat) ⟨0,rfl,Nat.zero_le _,by omega,by simp⟩ (by
  rintro _ ⟨k,rfl,hk,hk6,hs⟩
  simp only[f41_L1]
  by_cases hlt:k<l.length
  ·rw[if_pos (by simpa using hlt)]
   by_cases h6:k<60
   ·rw[if_pos (by simp;omega),at_nat (List.getElem?_eq_getElem hlt)]
    simp only[Option.bind_some,decide_eq_true_eq]
    have hw:IntKind.i64.wrap ((k:Int) + 1)=((k + 1:Nat):Int):=by rw[w64 (by omega) (by omega)];rfl
    have nxt:(!(decide (40<l[k].fChannels.length) && decide (l[k].fChannels.length≤256)))=true→(l.take (k + 1)).all (fun g => !(decide (40<g.fChannels.length) && decide (g.fChannels.length≤256)))=true:=fun h=>by
     rw[List.take_succ_eq_append_getElem hlt,List.all_append,hs,List.all_cons,List.all_nil,h];rfl
    by_cases c1:40<l[k].fChannels.length
    ·rw[if_pos (by omega)]
     by_cases c2:l[k].fChannels.length≤256
     ·right
      rw[if_pos (by omega)]
      refine ⟨_,rfl,?_⟩
      have:fewS l=false:=by
       unfold fewS
       have hmem:l[k] ∈ l.take 60:=by
        rw[List.mem_take_iff_getElem]
        exact ⟨k,by omega,rfl⟩
       have:(l.take 60).all (fun g => !(decide (40<g.fChannels.length) && decide (g.fChannels.length≤256)))=false:=by
        rw[List.all_eq_false]
        exact ⟨_,hmem,by simp[c1,c2]⟩
       rw[this];rfl
      rw[this]
     ·left
      rw[if_neg (by omega),hw]
      exact ⟨_,rfl,⟨k + 1,rfl,hlt,by omega,nxt (by simp[c2])⟩,by simp;omega⟩
    ·left
     rw[if_neg (by omega),hw]
     exact ⟨_,rfl,⟨k + 1,rfl,hlt,by omega,nxt (by simp[c1])⟩,by simp;omega⟩
   ·right
    rw[if_neg (by simp;omega)]
    refine ⟨_,rfl,?_⟩
    have hk:k=60:=by omega
    subst hk
    unfold fewS
    rw[hs];rfl
  ·right
   rw[if_neg (by simpa using hlt)]
   refine ⟨_,rfl,?_⟩
   have hkl:k=l.length:=by omega
   have:l.take 60=l.take k:=by rw[List.take_of_length_le (by omega),List.take_of_length_le (by omega)]
   unfold fewS
   rw[this,hs];rfl)
 unfold f41
 rw[h3,Option.bind_some]
 have hc:decide (((l.length:Nat):Int)≤60)=decide (l.length≤60):=by
  by_cases h:l.length≤60
  ·rw[decide_eq_true h,decide_eq_true (by omega)]
  ·rw[decide_eq_false h,decide_eq_false (by omega)]
 rw[hc]
 exact h4
theorem f52_eq(x:ApiSelect):f52 x=some (termE x):=by
 obtain ⟨op,g,a,b⟩:=x
 have hJ:(f52_J1 ⟨op,g,a,b⟩).run ()=some (if g≠0 then (if a≠0∨b≠0 then 3 else if g<1∨1048576<g then 2 else 0) else if a<1∨999<a∨b<1∨999<b then 2 else if b<a then 9 else 0):=by
  simp only[f52_J1,decide_eq_true_eq]
  by_cases h2:g=0
  ·by_cases h3:a<1<;>by_cases h4:999<a<;>by_cases h5:b<1<;>by_cases h6:999<b<;>by_cases h7:b<a<;>simp[h2,h3,h4,h5,h6,h7]
  ·by_cases h3:a=0<;>by_cases h4:b=0<;>by_cases h5:g<1<;>by_cases h6:1048576<g<;>simp[h2,h3,h4,h5,h6]
 unfold f52 termE
 rw[hJ]
 by_cases h0:op=0
 ·simp[h0]
 ·by_cases h1:op=1<;>simp[h0,h1]
theorem f16_eq(l:List ApiSelect):f16 l=some (selS l):=by
 unfold f16 selS
 by_cases h:256<l.length
 ·rw[if_pos (by simp;omega),if_pos h]
 rw[if_neg (by simp;omega),if_neg h]
 refine run_goC (L:=f16_L1 l) termE (fun _ _=>true) (fun _=>0) (by omega) (fun x hx hlt hat=>?_) (fun k q x hq hx hlt hat hpr hpos hw v1 v2=>?_) (by simp only[f16_L1];rw[at_end];rfl)
 ·simp only[f16_L1,stepC,badC,f52_eq]
  rw[if_pos hlt,hat]
  simp only[Option.bind_some]
  by_cases h1:termE x=0<;>simp[h1,roundC,IntKind.wrap_i64]
 ·simp only[f16_L1,stepC,badC_true,f52_eq]
  rw[if_pos hlt,hat,hw]
  simp only[Option.bind_some]
  by_cases h1:termE x=0<;>simp[h1,roundC]
theorem f11_ex(l:List ApiSelect)(gs:List ApiGroup)(hl:gs.length≤9223372036854775807):∃ b,f11 l gs=some b:=by
 unfold f11
 rw[f41_eq gs hl]
 simp only[Option.bind_some]
 split
 ·exact ⟨_,rfl⟩
 ·split
  ·split
   ·exact ⟨_,rfl⟩
   ·exact ⟨_,rfl⟩
  ·exact ⟨_,rfl⟩
theorem f17_self{xs:List Int}(hm:xs.length≤9223372036854775807):f17 xs xs=some true:=by
 unfold f17
 rw[if_neg (by simp),run_equal (xs:=xs) (ys:=xs) (fun _=>rfl) rfl hm]
 simp
theorem run_inv{S E:Type}{L:Lp S E}(I:Nat→S→Prop)(Q:E→Prop)(n:Nat)(h:∀ k s,k<n→I k s→(∃ s',L.body s=some (.next s')∧I (k + 1) s')∨∃ e,L.body s=some (.brk e)∧Q e)(he:∀ s,I n s→∃ e,L.body s=some (.brk e)∧Q e) :
  ∀ (m k:Nat) (s:S),k + m=n→I k s→∃ e,L.run s=some e∧Q e
 | 0,k,s,hk,hI=>by
  have hk:k=n:=by omega
  subst hk
  obtain ⟨e,h1,h2⟩:=he s hI
  exact ⟨e,iter_brk h1,h2⟩
 | m + 1,k,s,hk,hI=>by
  rcases h k s (by omega) hI with ⟨s',h1,h2⟩ | ⟨e,h1,h2⟩
  ·obtain ⟨e,h3,h4⟩:=run_inv I Q n h he m (k + 1) s' (by omega) h2
   exact ⟨e,(iter_next h1).trans h3,h4⟩
  ·exact ⟨e,iter_brk h1,h2⟩
def listL(rs:List Ref06Range):List Int:=rs.flatMap fun r=>rangeL r.fFrom r.fTo
theorem listL_add(rs:List Ref06Range)(r:Ref06Range):listL (rs++[r])=listL rs++rangeL r.fFrom r.fTo:=by
 unfold listL
 rw[List.flatMap_append,List.flatMap_cons,List.flatMap_nil,List.append_nil]
theorem listL_len:∀ {rs:List Ref06Range},(∀ r ∈ rs,1≤r.fFrom∧r.fTo≤999)→(listL rs).length≤999 * rs.length
 | [],_=>by simp[listL]
 | r::rs,h=>by
  have ih:=listL_len (rs:=rs) fun x hx=>h x (List.mem_cons_of_mem _ hx)
  have hr:=h r (List.mem_cons_self ..)
  unfold listL at ih ⊢
  rw[List.flatMap_cons,List.length_append,List.length_cons,rangeL_len]
  omega
theorem f38_L2_eq{rs:List Ref06Range}{i:Nat}{r:Ref06Range}{out:List Int}(hi:rs[i]? = some r)(hr:1≤r.fFrom∧r.fTo≤999)(ho:out.length≤1000000):Lp.run (f38_L2 rs (i:Int)) (r.fFrom,out)=some (out++rangeL r.fFrom r.fTo):=by
 have:=run_count (L:=f38_L2 rs (i:Int)) (e:=out++rangeL r.fFrom r.fTo) (fun k=>(r.fFrom + (k:Int),out++(List.range k).map fun (i:Nat)=>r.fFrom + (i:Int))) (r.fTo + 1 - r.fFrom).toNat ?_ 0 (by omega) fun k _ hk=>?_
 ·simpa using this
 ·simp only[f38_L2]
  rw[at_nat hi,Option.bind_some,if_neg (by simp;omega)]
  rfl
 ·simp only[f38_L2]
  rw[at_nat hi,Option.bind_some,if_pos (by simp;omega),app_some (by simp;omega) (by simp;omega),Option.bind_some,w64 (by omega) (by omega),rangeL_succ,List.append_assoc,Int.add_assoc]
  rfl
theorem f38_eq{rs:List Ref06Range}(h:∀ r ∈ rs,1≤r.fFrom∧r.fTo≤999)(hl:rs.length≤1000):f38 rs=some (listL rs):=by
 have hrun:=run_count (L:=f38_L1 rs) (e:=listL rs) (fun k=>((k:Int),listL (rs.take k))) rs.length ?_ 0 (by omega) fun k _ hk=>?_
 ·unfold f38
  have h0:Lp.run (f38_L1 rs) (0,[])=some (listL rs):=by simpa[listL] using hrun
  rw[h0,Option.bind_some]
 ·simp only[f38_L1]
  rw[at_end,if_neg (by simp),List.take_of_length_le (by omega)]
 ·have h1:=List.getElem?_eq_getElem hk
  have h2:=listL_len (rs:=rs.take k) fun r hr=>h r (List.mem_of_mem_take hr)
  rw[List.length_take,Nat.min_eq_left (by omega)] at h2
  simp only[f38_L1]
  rw[if_pos (at_lt h1),at_nat h1,Option.bind_some,f38_L2_eq h1 (h _ (List.getElem_mem hk)) (by omega),Option.bind_some,w64_succ (by omega),List.take_add_one,h1,Option.toList_some,listL_add]
structure RgI (ins:List Bool) (k:Nat) (out:List Ref06Range):Prop where
 list:listL out=(rangeL 1 k).filter fun c=>ins.getD c.toNat false
 last:ins.getD k false=true→∃ init r,out=init++[r]∧r.fTo=(k:Int)
 rng:∀ r ∈ out,1≤r.fFrom∧r.fFrom≤r.fTo∧r.fTo≤(k:Int)
 len:out.length≤k
theorem rangeL_one(k:Nat):rangeL 1 ((k + 1:Nat):Int)=rangeL 1 (k:Int)++[((k + 1:Nat):Int)]:=by
 unfold rangeL
 rw[show (((k + 1:Nat):Int) + 1 - 1).toNat=k + 1 by omega,show ((k:Int) + 1 - 1).toNat=k by omega,rangeL_succ]
 congr 2
 omega
theorem rangeL_snoc{a:Int}{k:Nat}(h:a≤(k:Int) + 1):rangeL a ((k + 1:Nat):Int)=rangeL a (k:Int)++[((k + 1:Nat):Int)]:=by
 unfold rangeL
 rw[show (((k + 1:Nat):Int) + 1 - a).toNat=((k:Int) + 1 - a).toNat + 1 by omega,rangeL_succ]
 congr 2
 omega
theorem rg_skip{ins:List Bool}{k:Nat}{out:List Ref06Range}(h:RgI ins k out)(hk:ins.getD (k + 1) false=false):RgI ins (k + 1) out:=by
 refine ⟨?_,(fun e=>by rw[hk] at e;cases e),(fun r hr=>by have:=h.rng r hr;omega),(by have:=h.len;omega)⟩
 rw[rangeL_one,List.filter_append,← h.list,List.filter_cons,List.filter_nil]
 have:ins.getD (((k + 1:Nat):Int).toNat) false=false:=by rw[show (((k + 1:Nat):Int).toNat)=k + 1 by omega];exact hk
 rw[if_neg (by rw[this];simp),List.append_nil]
theorem rg_filter{ins:List Bool}{k:Nat}{out:List Ref06Range}(h:RgI ins k out)(hk:ins.getD (k + 1) false=true):(rangeL 1 ((k + 1:Nat):Int)).filter (fun c=>ins.getD c.toNat false)=listL out++[((k + 1:Nat):Int)]:=by
 rw[rangeL_one,List.filter_append,← h.list,List.filter_cons,List.filter_nil]
 have:ins.getD (((k + 1:Nat):Int).toNat) false=true:=by rw[show (((k + 1:Nat):Int).toNat)=k + 1 by omega];exact hk
 rw[if_pos this]
theorem rg_new{ins:List Bool}{k:Nat}{out:List Ref06Range}(h:RgI ins k out)(hk:ins.getD (k + 1) false=true):RgI ins (k + 1) (out++[⟨((k + 1:Nat):Int),((k + 1:Nat):Int)⟩]):=by
 refine ⟨?_,fun _=>⟨out,_,rfl,rfl⟩,fun r hr=>?_,(by have:=h.len;rw[List.length_append];simp;omega)⟩
 ·rw[rg_filter h hk,listL_add]
  congr 1
  unfold rangeL
  rw[show (((k + 1:Nat):Int) + 1 - ((k + 1:Nat):Int)).toNat=1 by omega]
  simp
 ·rcases List.mem_append.1 hr with m | m
  ·have:=h.rng r m;omega
  ·rw[List.mem_singleton.1 m];dsimp only;omega
theorem rg_more{ins:List Bool}{k:Nat}{init:List Ref06Range}{r:Ref06Range}(h:RgI ins k (init++[r]))(hr:r.fTo=(k:Int))(hk:ins.getD (k + 1) false=true):RgI ins (k + 1) (init++[⟨r.fFrom,((k + 1:Nat):Int)⟩]):=by
 have hrr:=h.rng r (by simp)
 refine ⟨?_,fun _=>⟨init,_,rfl,rfl⟩,fun x hx=>?_,by have:=h.len;simp at this ⊢;omega⟩
 ·rw[rg_filter h hk,listL_add,listL_add,hr]
  dsimp only
  rw[rangeL_snoc (by omega),List.append_assoc]
 ·rcases List.mem_append.1 hx with m | m
  ·have:=h.rng x (List.mem_append_left _ m);omega
  ·rw[List.mem_singleton.1 m];dsimp only;omega
theorem bool_at{ins:List Bool}(h:ins.length=1001){k:Nat}(hk:k≤1000):at? ins (k:Int)=some (ins.getD k false):=by
 refine at_nat ?_
 rw[List.getD_eq_getElem?_getD,List.getElem?_eq_getElem (by omega)]
 rfl
theorem set_last(init:List Ref06Range)(r x:Ref06Range):(init++[r]).set init.length x=init++[x]:=by
 rw[List.set_append_right (h:=Nat.le_refl _)]
 simp
theorem f117_J2_eq{ins:List Bool}(hl:ins.length=1001){k:Nat}(hk:k + 1≤999){init:List Ref06Range}{r:Ref06Range}(hlen:init.length≤1000)(hi:ins.getD (k + 1) false=true):(f117_J2 ins ((k:Int) + 1)).run (init++[r])=some (.next ((((k + 1:Nat):Int) + 1),init++[⟨r.fFrom,((k + 1:Nat):Int)⟩])):=by
 have hw:IntKind.i64.wrap ((((init++[r]).length:Nat):Int) - 1)=((init.length:Nat):Int):=by
  rw[List.length_append,List.length_singleton,w64 (by omega) (by omega)]
  omega
 have hb:=bool_at hl (k:=k + 1) (by omega)
 rw[show (((k + 1:Nat):Int))=(k:Int) + 1 by omega] at hb ⊢
 simp only[f117_J2]
 rw[hb,Option.bind_some,if_pos hi,hw,at_nat (x:=r) (by simp),Option.bind_some,Int.toNat_natCast,set_last,w64 (by omega) (by omega)]
theorem f117_J2_no{ins:List Bool}(hl:ins.length=1001){k:Nat}(hk:k + 1≤999){out:List Ref06Range}(hi:ins.getD (k + 1) false=false):(f117_J2 ins ((k:Int) + 1)).run out=some (.next ((((k + 1:Nat):Int) + 1),out)):=by
 have hb:=bool_at hl (k:=k + 1) (by omega)
 rw[show (((k + 1:Nat):Int))=(k:Int) + 1 by omega] at hb ⊢
 simp only[f117_J2]
 rw[hb,Option.bind_some,hi,if_neg (by simp),w64 (by omega) (by omega)]
theorem f117_eq{ins:List Bool}(hl:ins.length=1001)(h0:ins.getD 0 false=false):∃ out,f117 ins=some out∧RgI ins 999 out:=by
 obtain ⟨e,h1,h2⟩:=run_inv (L:=f117_L1 ins) (fun k s=>s.1=(k:Int) + 1∧RgI ins k s.2) (fun out=>RgI ins 999 out) 999 (fun k s hk hI=>by
  obtain ⟨c,out⟩:=s
  obtain ⟨rfl,hI⟩:=hI
  have hb:=bool_at hl (k:=k + 1) (by omega)
  rw[show (((k + 1:Nat):Int))=(k:Int) + 1 by omega] at hb
  have hb0:=bool_at hl (k:=k) (by omega)
  have hlen:=hI.len
  dsimp only at hlen
  left
  simp only[f117_L1]
  rw[if_pos (by simp;omega),hb,Option.bind_some]
  cases hi:ins.getD (k + 1) false with
  | false =>
   rw[if_neg (by simp),f117_J2_no hl (by omega) hi]
   exact ⟨_,rfl,rfl,rg_skip hI hi⟩
  | true =>
   rw[if_pos rfl,show IntKind.i64.wrap ((k:Int) + 1 - 1)=(k:Int) by rw[w64 (by omega) (by omega)];omega,hb0,Option.bind_some]
   cases hp:ins.getD k false with
   | false =>
    rw[if_pos (by simp),app_some (by simp;omega) (by simp;omega),Option.bind_some,f117_J2_eq hl (by omega) (by omega) hi]
    refine ⟨_,rfl,rfl,?_⟩
    have:=rg_new hI hi
    rw[show (((k + 1:Nat):Int))=(k:Int) + 1 by omega] at this ⊢
    exact this
   | true =>
    obtain ⟨init,r,rfl,hr⟩:=hI.last hp
    rw[List.length_append] at hlen
    rw[if_neg (by simp),f117_J2_eq hl (by omega) (by omega) hi]
    exact ⟨_,rfl,rfl,rg_more hI hr hi⟩) (fun s hI=>by
  obtain ⟨c,out⟩:=s
  obtain ⟨rfl,hI⟩:=hI
  refine ⟨out,?_,hI⟩
  simp only[f117_L1]
  rw[if_neg (by simp)]) 999 0 (1,[]) (by omega) ⟨by simp,⟨by simp[listL,rangeL],(fun e=>by rw[h0] at e;cases e),by simp,by simp⟩⟩
 exact ⟨e,by unfold f117;rw[h1];rfl,h2⟩
structure GoodR (rs:List Ref06Range):Prop where
 rng:∀ r ∈ rs,1≤r.fFrom∧r.fTo≤999
 len:rs.length≤999
theorem getD_set(a:List Bool){i j:Nat}(hi:i<a.length):(a.set i true).getD j false=(decide (i=j) || a.getD j false):=by
 rw[List.getD_eq_getElem?_getD,List.getD_eq_getElem?_getD,List.getElem?_set]
 by_cases h:i=j
 ·subst h
  simp[hi]
 ·simp[h]
theorem f77_eq{ch:List Int}(hc:∀ c ∈ ch,1≤c∧c≤999)(hl:ch.length≤1000000):∃ out,f77 ch=some out∧GoodR out∧listL out=inOrd ch:=by
 obtain ⟨ins,h1,h2,h3⟩:=run_inv (L:=f77_L1 ch) (fun k s=>s.1=(k:Int)∧s.2.length=1001∧∀ j:Nat,s.2.getD j false=decide ((j:Int) ∈ ch.take k)) (fun ins=>ins.length=1001∧∀ j:Nat,ins.getD j false=decide ((j:Int) ∈ ch)) ch.length (fun k s hk hI=>by
  obtain ⟨i,a⟩:=s
  obtain ⟨rfl,ha,hI⟩:=hI
  dsimp only at ha hI
  have hx:=List.getElem?_eq_getElem hk
  have hr:=hc _ (List.getElem_mem hk)
  have ht:(ch[k].toNat:Int)=ch[k]:=by omega
  left
  simp only[f77_L1]
  rw[if_pos (at_lt hx),at_nat hx,Option.bind_some,at_some (x:=a[ch[k].toNat]'(by omega)) (by omega) (List.getElem?_eq_getElem (by omega)),Option.bind_some,w64_succ (by omega)]
  refine ⟨_,rfl,rfl,by simpa using ha,fun j=>?_⟩
  dsimp only
  rw[getD_set a (by omega),hI j,List.take_add_one,hx,Option.toList_some,← Bool.decide_or,decide_eq_decide,List.mem_append,List.mem_singleton]
  have e1:ch[k].toNat=j↔(j:Int)=ch[k]:=by omega
  rw[e1,or_comm]) (fun s hI=>by
  obtain ⟨i,a⟩:=s
  obtain ⟨rfl,ha,hI⟩:=hI
  refine ⟨a,?_,ha,fun j=>?_⟩
  ·simp only[f77_L1]
   rw[at_end]
   rfl
  ·have:=hI j
   rw[List.take_of_length_le (by omega)] at this
   exact this) ch.length 0 (0,List.replicate 1001 false) (by omega) ⟨rfl,by simp,fun j=>by
  rw[List.getD_eq_getElem?_getD,List.getElem?_replicate]
  split<;>simp⟩
 have h0:ins.getD 0 false=false:=by
  rw[h3 0]
  exact decide_eq_false fun hm=>by have:=hc _ hm;omega
 obtain ⟨out,k1,k2⟩:=f117_eq h2 h0
 refine ⟨out,?_,⟨fun r hr=>by have:=k2.rng r hr;omega,k2.len⟩,?_⟩
 ·unfold f77 mk?
  rw[Option.bind_some,h1,Option.bind_some,k1]
  rfl
 ·rw[k2.list]
  unfold inOrd
  refine List.filter_congr fun c hcm=>?_
  have:=rangeL_mem.1 hcm
  rw[h3 c.toNat,show ((c.toNat:Nat):Int)=c by omega]
theorem inOrd_congr{a b:List Int}(h:∀ c,c ∈ a↔c ∈ b):inOrd a=inOrd b:=by
 unfold inOrd
 exact List.filter_congr fun c _=>by rw[decide_eq_decide];exact h c
theorem inOrd_mem{cs:List Int}(h:∀ c ∈ cs,1≤c∧c≤999){c:Int}:c ∈ inOrd cs↔c ∈ cs:=by
 unfold inOrd
 rw[List.mem_filter]
 constructor
 ·rintro ⟨_,h2⟩;simpa using h2
 ·intro hm;exact ⟨rangeL_mem.2 (h c hm),by simpa using hm⟩
theorem f34_eq{rs:List Ref06Range}{a b:Int}(hr:GoodR rs)(hab:1≤a∧b≤999){o:List Int}(ho:Chans o)(hs:listL rs=inOrd o):∃ out,f34 rs [⟨a,b⟩]=some out∧GoodR out∧listL out=inOrd ((rangeL a b).foldl add1 o):=by
 have h1:=listL_len hr.rng
 have h2:=hr.len
 have e2:f38 [⟨a,b⟩]=some (rangeL a b):=by
  rw[f38_eq (rs:=[⟨a,b⟩]) (fun r hr=>by rw[List.mem_singleton.1 hr];exact hab) (by simp)]
  simp[listL]
 have hm:∀ c,c ∈ listL rs++rangeL a b↔c ∈ (rangeL a b).foldl add1 o:=fun c=>by
  rw[List.mem_append,fold_mem,hs,inOrd_mem ho.1]
 obtain ⟨out,k1,k2,k3⟩:=f77_eq (ch:=listL rs++rangeL a b) (fun c hc=>by
  rcases List.mem_append.1 hc with m | m
  ·rw[hs,inOrd_mem ho.1] at m;exact ho.1 c m
  ·have:=rangeL_mem.1 m;omega) (by rw[List.length_append,rangeL_len];omega)
 refine ⟨out,?_,k2,k3.trans (inOrd_congr hm)⟩
 unfold f34
 rw[f38_eq hr.rng (by omega),e2,Option.bind_some,Option.bind_some,app_some (by rw[rangeL_len];omega) (by rw[rangeL_len];omega),Option.bind_some,k1]
 rfl
theorem f118_eq{a b c:Int}:f118 [⟨a,b⟩] c=some (decide (a≤c∧c≤b)):=by
 have e0:at? [(⟨a,b⟩:Ref06Range)] 0=some ⟨a,b⟩:=rfl
 unfold f118
 by_cases h:a≤c∧c≤b
 ·have hrun:Lp.run (f118_L1 [⟨a,b⟩] c) 0=some (.inr ()):=by
   refine iter_brk ?_
   simp only[f118_L1]
   rw[if_pos (by simp),e0,Option.bind_some,if_pos (by simpa using h.1),Option.bind_some,if_pos (by simpa using h.2)]
  rw[hrun,decide_eq_true h]
  rfl
 ·have hrun:Lp.run (f118_L1 [⟨a,b⟩] c) 0=some (.inl ()):=by
   refine (iter_next (s':=1) ?_).trans (iter_brk ?_)
   ·simp only[f118_L1]
    rw[if_pos (by simp),e0,Option.bind_some]
    by_cases h1:a≤c
    ·rw[if_pos (by simpa using h1),Option.bind_some,if_neg (by simp;omega)]
     rfl
    ·rw[if_neg (by simpa using h1)]
     rfl
   ·simp only[f118_L1]
    rw[if_neg (by simp)]
  rw[hrun,decide_eq_false h]
  rfl
theorem f35_eq{rs:List Ref06Range}{a b:Int}(hr:GoodR rs){o:List Int}(ho:Chans o)(hs:listL rs=inOrd o):∃ out,f35 rs [⟨a,b⟩]=some out∧GoodR out∧listL out=inOrd (o.filter fun x=>decide (x ∉ rangeL a b)):=by
 have h1:=listL_len hr.rng
 have h2:=hr.len
 have hrun:=run_walk (L:=f78_L1 (listL rs) [⟨a,b⟩] false) (listL rs) (fun k (x:List Int)=>((k:Int),x)) (fun _ x c=>.inl (if (!decide (a≤c∧c≤b))=true then x++[c] else x)) (fun x=>x) (fun k x=>x.length≤k) (fun k x c hc hI=>by
   have hk:=getElem?_lt hc
   refine ⟨?_,fun a' ha'=>?_⟩
   ·simp only[f78_L1]
    rw[if_pos (at_lt hc),at_nat hc,Option.bind_some,f118_eq,Option.bind_some,Option.bind_some,w64_succ (by omega)]
    by_cases h:a≤c∧c≤b
    ·rw[decide_eq_true h]
     rfl
    ·rw[decide_eq_false h,if_pos (by rfl),app_some (by simp;omega) (by simp;omega)]
     rfl
   ·injection ha' with ha'
    subst ha'
    split
    ·simp;omega
    ·omega)
  (fun x _=>by simp only[f78_L1];rw[at_end];rfl) [] (by simp)
 rw[walk_filter (fun c:Int => !decide (a≤c∧c≤b)),List.nil_append] at hrun
 have hm:∀ c,c ∈ (listL rs).filter (fun c => !decide (a≤c∧c≤b))↔c ∈ o.filter fun x=>decide (x ∉ rangeL a b):=fun c=>by
  rw[List.mem_filter,List.mem_filter,hs,inOrd_mem ho.1,decide_eq_true_eq,rangeL_mem]
  simp
  intro _
  omega
 have hlen:=List.length_filter_le (fun c:Int => !decide (a≤c∧c≤b)) (listL rs)
 obtain ⟨out,k1,k2,k3⟩:=f77_eq (ch:=(listL rs).filter fun c => !decide (a≤c∧c≤b)) (fun c hc=>by
  have:=(List.mem_filter.1 hc).1
  rw[hs,inOrd_mem ho.1] at this
  exact ho.1 c this) (by omega)
 refine ⟨out,?_,k2,k3.trans (inOrd_congr hm)⟩
 unfold f35 f78
 rw[f38_eq hr.rng (by omega),Option.bind_some]
 rw[show ((0,[]):Int×List Int)=(((0:Nat):Int),[]) from rfl,hrun,Option.bind_some,k1]
 rfl
theorem sorted_inOrd{o:List Int}(ho:Chans o)(hl:o.length≤300000):sortv? o=some (inOrd o):=by
 unfold sortv?
 rw[if_pos (by omega)]
 refine congrArg some ?_
 have hp:(o.mergeSort fun x y=>decide (x≤y)).Perm o:=List.mergeSort_perm _ _
 have hs:(o.mergeSort fun x y=>decide (x≤y)).Pairwise fun x y=>decide (x≤y)=true:=List.pairwise_mergeSort (fun a b c h1 h2=>by simp at *;omega) (fun a b=>by simp;omega) _
 have hn:(o.mergeSort fun x y=>decide (x≤y)).Pairwise fun x y=>x≠y:=(hp.pairwise_iff fun {a b} h=>Ne.symm h).2 ho.2
 refine key_unique (fun x:Int=>x) ((hs.and hn).imp fun {a b} h=>by have:=of_decide_eq_true h.1;have:=h.2;omega) (List.Pairwise.filter _ (range_asc 1 999)) fun c=>?_
 rw[hp.mem_iff]
 exact (inOrd_mem ho.1).symm
theorem f9_L1_eq{l:List ApiSelect}(hl:Sel l):∃ e,Lp.run (f9_L1 l) ([],0)=some e∧(e=.inr true∨∃ rs o,e=.inl rs∧GoodR rs∧Chans o∧chosenS [] [] l=some o∧listL rs=inOrd o):=by
 have hlen:=hl.len
 refine run_inv (L:=f9_L1 l) (fun k s=>s.2=(k:Int)∧GoodR s.1∧∃ o,Chans o∧chosenS [] [] (l.take k)=some o∧listL s.1=inOrd o) _ l.length (fun k s hk hI=>?_) (fun s hI=>?_) l.length 0 ([],0) (by omega) ⟨rfl,⟨by simp,by simp⟩,[],⟨by simp,List.Pairwise.nil⟩,rfl,by simp[listL,inOrd]⟩
 ·obtain ⟨rs,i⟩:=s
  obtain ⟨rfl,hr,o,ho,hch,hs⟩:=hI
  have hx:=List.getElem?_eq_getElem hk
  have hxm:=List.getElem_mem hk
  generalize l[k]=x at hx hxm
  have ht:=hl.chk x hxm
  dsimp only at hr hs
  simp only[f9_L1]
  rw[if_pos (at_lt hx),at_nat hx,Option.bind_some]
  by_cases hg:x.fGroup=0
  ·left
   rw[if_neg (by simpa using hg)]
   obtain ⟨t1,t2,t3⟩:=term_range ht hg
   have hmem:memS [] x=some (rangeL x.fFrom x.fTo):=by unfold memS;rw[if_neg (by simpa using hg)]
   have hnext:chosenS [] [] (l.take (k + 1))=some (applyS x.fOp o (rangeL x.fFrom x.fTo)):=by
    rw[List.take_add_one,hx,Option.toList_some,chosen_last,hch,hmem]
    rfl
   have hch':=apply_chans x.fOp (m:=rangeL x.fFrom x.fTo) (fun c hc=>by have:=rangeL_mem.1 hc;omega) ho
   rw[w64_succ (by omega)]
   by_cases hop:x.fOp=0
   ·obtain ⟨out,k1,k2,k3⟩:=f34_eq hr (a:=x.fFrom) (b:=x.fTo) ⟨t1,t3⟩ ho hs
    rw[if_pos (by simpa using hop),k1]
    refine ⟨_,rfl,rfl,k2,_,hch',hnext,?_⟩
    unfold applyS
    rw[if_pos hop]
    exact k3
   ·obtain ⟨out,k1,k2,k3⟩:=f35_eq hr (a:=x.fFrom) (b:=x.fTo) ho hs
    rw[if_neg (by simpa using hop),k1]
    refine ⟨_,rfl,rfl,k2,_,hch',hnext,?_⟩
    unfold applyS
    rw[if_neg hop]
    exact k3
  ·right
   rw[if_pos (by simpa using hg),f12_eq]
   exact ⟨_,rfl,.inl rfl⟩
 ·obtain ⟨rs,i⟩:=s
  obtain ⟨rfl,hr,o,ho,hch,hs⟩:=hI
  rw[List.take_of_length_le (by omega)] at hch
  refine ⟨.inl rs,?_,.inr ⟨rs,o,rfl,hr,ho,hch,hs⟩⟩
  simp only[f9_L1]
  rw[at_end]
  rfl
theorem f9_eq(l:List ApiSelect):f9 l=some true:=by
 obtain ⟨b,hb⟩:=f11_ex l [] (by simp)
 unfold f9
 rw[hb,Option.bind_some]
 cases b with
 | false=>rw[if_pos (show (!false)=true from rfl),f12_eq];rfl
 | true =>
  rw[if_neg (by simp),f16_eq,Option.bind_some]
  by_cases h1:selS l=0
  ·rw[if_neg (by simpa using h1)]
   obtain ⟨e,k1,k2⟩:=f9_L1_eq (sel_of h1)
   rw[k1,Option.bind_some]
   rcases k2 with rfl | ⟨rs,o,rfl,hr,ho,hch,hs⟩
   ·rfl
   ·dsimp only
    have ht:tableS ([]:List ApiGroup)=0:=rfl
    have hlen:=channels_len l []
    have eA:=channels_of h1 ht hch
    rw[f13_eq,eA,Option.bind_some,if_pos (by simp)]
    rw[eA] at hlen
    dsimp only at hlen
    have hC:(f9_C2 (o,(0:Int))).run=some ():=rfl
    rw[hC,Option.bind_some]
    unfold f36_81
    rw[sorted_inOrd ho hlen,Option.bind_some,f38_eq hr.rng (by have:=hr.len;omega),hs,Option.bind_some,f17_self (by have:=inOrd_len o;omega),Option.bind_some,if_pos rfl,f12_eq]
    rfl
  ·rw[if_pos (by simpa using h1),f12_eq]
   rfl
end Go.Proofs.YtnaemmpcffnbkaaGreatDoor
