import Derived.Test.YtnaemmpcffnbkaaGreatDoorHPR
import Derived.Test.YtnaemmpcffnbkaaGreatDoorHGP1
namespace Go.Proofs.YtnaemmpcffnbkaaGreatDoor
open Go Go.Ab
set_option linter.unusedSimpArgs false
set_option linter.unusedVariables false
theorem f116_eq{xs:List Int}{v:Int}(hm:xs.length≤9223372036854775807):f116 xs v=some (decide (v ∈ xs)):=by
 obtain ⟨e,h1,h2⟩:=run_ex (L:=f116_L1 xs v) (s0:=0) (fun e=>e=if v ∈ xs then Sum.inr () else Sum.inl ()) (fun i=>∃ k:Nat,i=k∧k≤xs.length∧v ∉ xs.take k) (fun i=>xs.length - i.toNat) ⟨0,rfl,Nat.zero_le _,by simp⟩ (by
  rintro _ ⟨k,rfl,hk,ht⟩
  simp only[f116_L1]
  by_cases hlt:k<xs.length
  ·rw[if_pos (by simpa using hlt),at_nat (List.getElem?_eq_getElem hlt)]
   simp only[Option.bind_some,decide_eq_true_eq]
   by_cases he:xs[k]=v
   ·right
    have hmem:v ∈ xs:=by rw[← he];exact List.getElem_mem hlt
    exact ⟨_,if_pos he,by rw[if_pos hmem]⟩
   ·left
    refine ⟨((k + 1:Nat):Int),?_,⟨k + 1,rfl,hlt,?_⟩,by simp;omega⟩
    ·rw[if_neg he,w64 (by omega) (by omega)];rfl
    ·rw[List.take_succ_eq_append_getElem hlt,List.mem_append,not_or]
     exact ⟨ht,by simpa using fun h=>he h.symm⟩
  ·right
   rw[if_neg (by simpa using hlt)]
   refine ⟨_,rfl,?_⟩
   rw[List.take_of_length_le (by omega)] at ht
   rw[if_neg ht])
 unfold f116
 rw[h1,h2]
 by_cases he:v ∈ xs<;>simp[he]
theorem f76_eq(g:ApiGroup):f76 g=some (checkG g):=by
 unfold f76 checkG
 by_cases h1:g.fNumber<1∨g.fNumber > 1048576
 ·rw[if_pos h1]
  by_cases h:g.fNumber<1
  ·rw[if_pos (by simpa using h)]
  ·rw[if_neg (by simpa using h),if_pos (by simp;omega)]
 rw[if_neg h1,if_neg (by simp;omega),if_neg (by simp;omega)]
 by_cases h2:g.fChannels.length > 256
 ·rw[if_pos h2,if_pos (by simp;omega)]
 rw[if_neg h2,if_neg (by simp;omega)]
 generalize hms:g.fChannels=ms at h2
 obtain ⟨e,h3,h4⟩:=run_ex (L:=f76_L1 g) (s0:=0) (fun e=>(match e with | Sum.inl ()=>some 0 | Sum.inr v=>some v)=some (scan [] ms)) (fun i=>∃ k:Nat,i=k∧k≤ms.length∧scan (ms.take k) (ms.drop k)=scan [] ms) (fun i=>ms.length - i.toNat) ⟨0,rfl,Nat.zero_le _,rfl⟩ (by
  rintro _ ⟨k,rfl,hk,hs⟩
  simp only[f76_L1,hms]
  by_cases hlt:k<ms.length
  ·rw[if_pos (by simpa using hlt),at_nat (List.getElem?_eq_getElem hlt)]
   rw[List.drop_eq_getElem_cons hlt] at hs
   simp only[Option.bind_some,decide_eq_true_eq]
   by_cases c1:ms[k]<1
   ·right;rw[if_pos c1];refine ⟨_,rfl,?_⟩;rw[← hs];simp[scan,c1]
   rw[if_neg c1]
   by_cases c2:999<ms[k]
   ·right;rw[if_pos c2];refine ⟨_,rfl,?_⟩;rw[← hs];simp[scan,c2]
   rw[if_neg c2,slc_some (by omega)]
   simp only[Option.bind_some,Int.toNat_natCast,Int.toNat_zero,List.drop_zero]
   rw[f116_eq (by simp;omega)]
   simp only[Option.bind_some,decide_eq_true_eq]
   by_cases c3:ms[k] ∈ ms.take k
   ·right;rw[if_pos c3];refine ⟨_,rfl,?_⟩;rw[← hs];simp[scan,c1,c2,c3]
   ·left;rw[if_neg c3]
    refine ⟨((k + 1:Nat):Int),by rw[w64 (by omega) (by omega)];rfl,⟨k + 1,rfl,hlt,?_⟩,by simp;omega⟩
    rw[← hs,List.take_succ_eq_append_getElem hlt,scan,if_neg (by omega),if_neg c3]
  ·right
   rw[if_neg (by simpa using hlt)]
   refine ⟨_,rfl,?_⟩
   rw[← hs,List.drop_eq_nil_of_le (by omega)]
   rfl)
 rw[h3,Option.bind_some]
 exact h4
theorem f33_eq(l:List ApiGroup):f33 l=some (tableS l):=by
 unfold f33 tableS
 by_cases h2:32<l.length
 ·rw[if_pos h2,if_pos (by simp;omega)]
 rw[if_neg h2,if_neg (by simp;omega)]
 obtain ⟨e,h3,h4⟩:=run_ex (L:=f33_L1 l) (s0:=0) (fun e=>(match e with | Sum.inl ()=>some 0 | Sum.inr v=>some v)=some (goT none l)) (fun i=>∃ k:Nat,i=k∧k≤l.length∧goT (befT l k) (l.drop k)=goT none l) (fun i=>l.length - i.toNat) ⟨0,rfl,Nat.zero_le _,rfl⟩ (by
  rintro _ ⟨k,rfl,hk,hs⟩
  simp only[f33_L1]
  by_cases hlt:k<l.length
  ·rw[if_pos (by simpa using hlt),at_nat (List.getElem?_eq_getElem hlt)]
   rw[List.drop_eq_getElem_cons hlt,goT_cons] at hs
   simp only[Option.bind_some,decide_eq_true_eq,f76_eq]
   by_cases c1:checkG l[k]=0
   ·rw[if_neg (by simpa using c1)]
    rw[if_neg (by simpa using c1)] at hs
    have hw:IntKind.i64.wrap ((k:Int) + 1)=((k + 1:Nat):Int):=by rw[w64 (by omega) (by omega)];rfl
    cases k with
    | zero =>
     left
     rw[if_neg (by omega),hw]
     exact ⟨_,rfl,⟨1,rfl,hlt,by simpa[befT,List.getElem?_eq_getElem hlt] using hs⟩,by simp;omega⟩
    | succ k =>
     rw[if_pos (by omega),w64 (a:=((k + 1:Nat):Int) - 1) (by omega) (by omega),show ((k + 1:Nat):Int) - 1=(k:Int) by omega,at_nat (List.getElem?_eq_getElem (by omega:k<l.length)),Option.bind_some]
     simp only[befT,List.getElem?_eq_getElem (by omega:k<l.length)] at hs
     by_cases c2:l[k + 1].fNumber≤l[k].fNumber
     ·right
      rw[if_pos c2] at hs ⊢
      exact ⟨_,rfl,by rw[← hs]⟩
     ·left
      rw[if_neg c2] at hs ⊢
      rw[hw]
      exact ⟨_,rfl,⟨k + 2,rfl,hlt,by simpa[befT,List.getElem?_eq_getElem hlt] using hs⟩,by simp;omega⟩
   ·right
    rw[if_pos (by simpa using c1)] at hs ⊢
    exact ⟨_,rfl,by rw[← hs]⟩
  ·right
   rw[if_neg (by simpa using hlt)]
   refine ⟨_,rfl,?_⟩
   rw[← hs,List.drop_eq_nil_of_le (by omega)]
   rfl)
 rw[h3,Option.bind_some]
 exact h4
def fewS(l:List ApiGroup):Bool:=(l.take 60).all (fun g => !(decide (40<g.fChannels.length) && decide (g.fChannels.length≤256))) && decide (l.length≤60)
theorem f41_eq(l:List ApiGroup)(hl:l.length≤9223372036854775807):f41 l=some (fewS l):=by
 obtain ⟨e,h3,h4⟩:=run_ex (L:=f41_L1 l) (s0:=0) (fun e=>(match e with | Sum.inl ()=>some (decide (l.length≤60)) | Sum.inr ()=>some false)=some (fewS l))
  (fun i=>∃ k:Nat,i=k∧k≤l.length∧k≤60∧(l.take k).all (fun g => !(decide (40<g.fChannels.length) && decide (g.fChannels.length≤256)))=true) (fun i=>l.length - i.toNat) ⟨0,rfl,Nat.zero_le _,by omega,by simp⟩ (by
  rintro _ ⟨k,rfl,hk,hk6,hs⟩
  simp only[f41_L1]
  by_cases hlt:k<l.length
  ·rw[if_pos (by simpa using hlt)]
   by_cases h6:k<60
   ·rw[if_pos (by simp;omega),at_nat (List.getElem?_eq_getElem hlt)]
    simp only[Option.bind_some,decide_eq_true_eq]
    have hw:IntKind.i64.wrap ((k:Int) + 1)=((k + 1:Nat):Int):=by rw[w64 (by omega) (by omega)];rfl
    have nxt:(!(decide (40<l[k].fChannels.length) && decide (l[k].fChannels.length≤256)))=true→(l.take (k + 1)).all (fun g => !(decide (40<g.fChannels.length) && decide (g.fChannels.length≤256)))=true:=fun h=>by
     rw[List.take_succ_eq_append_getElem hlt,List.all_append,hs,List.all_cons,List.all_nil,h];rfl
    by_cases c1:40<l[k].fChannels.length
    ·rw[if_pos (by omega)]
     by_cases c2:l[k].fChannels.length≤256
     ·right
      rw[if_pos (by omega)]
      refine ⟨_,rfl,?_⟩
      have:fewS l=false:=by
       unfold fewS
       have hmem:l[k] ∈ l.take 60:=by
        rw[List.mem_take_iff_getElem]
        exact ⟨k,by omega,rfl⟩
       have:(l.take 60).all (fun g => !(decide (40<g.fChannels.length) && decide (g.fChannels.length≤256)))=false:=by
        rw[List.all_eq_false]
        exact ⟨_,hmem,by simp[c1,c2]⟩
       rw[this];rfl
      rw[this]
     ·left
      rw[if_neg (by omega),hw]
      exact ⟨_,rfl,⟨k + 1,rfl,hlt,by omega,nxt (by simp[c2])⟩,by simp;omega⟩
    ·left
     rw[if_neg (by omega),hw]
     exact ⟨_,rfl,⟨k + 1,rfl,hlt,by omega,nxt (by simp[c1])⟩,by simp;omega⟩
   ·right
    rw[if_neg (by simp;omega)]
    refine ⟨_,rfl,?_⟩
    have hk:k=60:=by omega
    subst hk
    unfold fewS
    rw[hs];rfl
  ·right
   rw[if_neg (by simpa using hlt)]
   refine ⟨_,rfl,?_⟩
   have hkl:k=l.length:=by omega
   have:l.take 60=l.take k:=by rw[List.take_of_length_le (by omega),List.take_of_length_le (by omega)]
   unfold fewS
   rw[this,hs];rfl)
 unfold f41
 rw[h3,Option.bind_some]
 have hc:decide (((l.length:Nat):Int)≤60)=decide (l.length≤60):=by
  by_cases h:l.length≤60
  ·rw[decide_eq_true h,decide_eq_true (by omega)]
  ·rw[decide_eq_false h,decide_eq_false (by omega)]
 rw[hc]
 exact h4
theorem f49_eq{l:List ApiGroup}(hl:l.length≤1000)(n:Int):f49 l n=some (match l.findIdx? fun g=>decide (g.fNumber=n) with | some i=>(i:Int) | none => -1):=by
 unfold f49
 have hrun:=run_walk (L:=f49_L1 l n) l (fun k (_:Unit)=>(k:Int)) (fun k _ x=>if decide (x.fNumber=n)=true then .inr (Sum.inr (k:Int)) else .inl ()) (fun _=>Sum.inl ()) (fun _ _=>True) (fun k a x hx _=>by
   refine ⟨?_,fun _ _=>trivial⟩
   simp only[f49_L1]
   rw[if_pos (at_lt hx),at_nat hx,Option.bind_some]
   by_cases hc:x.fNumber=n
   ·rw[if_pos (by simpa using hc),if_pos (by simpa using hc)];rfl
   ·rw[if_neg (by simpa using hc),if_neg (by simpa using hc),w64_succ (by have:=getElem?_lt hx;omega)];rfl)
  (fun a _=>by simp only[f49_L1];rw[at_end];rfl) () trivial
 rw[show (0:Int)=((0:Nat):Int) from rfl,hrun,walk_find (fun x:ApiGroup=>decide (x.fNumber=n)) (fun k _=>Sum.inr (k:Int))]
 cases hf:l.findIdx? fun g=>decide (g.fNumber=n) with
 | none=>rfl
 | some i =>
  obtain ⟨hi,_⟩:=List.findIdx?_eq_some_iff_getElem.1 hf
  simp only[List.getElem?_eq_getElem hi,Nat.zero_add,Option.bind_some]
theorem find_idx{l:List ApiGroup}{n:Int}:getS l n=match l.findIdx? fun g=>decide (g.fNumber=n) with | some i=>l[i]? | none=>none:=by
 unfold getS
 cases hf:l.findIdx? fun g=>decide (g.fNumber=n) with
 | none =>
  rw[List.findIdx?_eq_none_iff] at hf
  exact List.find?_eq_none.2 fun x hx=>by simpa using hf x hx
 | some i =>
  obtain ⟨hi,h1,h2⟩:=List.findIdx?_eq_some_iff_getElem.1 hf
  dsimp only
  rw[List.getElem?_eq_getElem hi]
  refine List.find?_eq_some_iff_getElem.2 ⟨h1,i,hi,rfl,fun j hj=>by simpa using h2 j hj⟩
theorem f52_eq(x:ApiSelect):f52 x=some (termE x):=by
 obtain ⟨op,g,a,b⟩:=x
 have hJ:(f52_J1 ⟨op,g,a,b⟩).run ()=some (if g≠0 then (if a≠0∨b≠0 then 3 else if g<1∨1048576<g then 2 else 0) else if a<1∨999<a∨b<1∨999<b then 2 else if b<a then 9 else 0):=by
  simp only[f52_J1,decide_eq_true_eq]
  by_cases h2:g=0
  ·by_cases h3:a<1<;>by_cases h4:999<a<;>by_cases h5:b<1<;>by_cases h6:999<b<;>by_cases h7:b<a<;>simp[h2,h3,h4,h5,h6,h7]
  ·by_cases h3:a=0<;>by_cases h4:b=0<;>by_cases h5:g<1<;>by_cases h6:1048576<g<;>simp[h2,h3,h4,h5,h6]
 unfold f52 termE
 rw[hJ]
 by_cases h0:op=0
 ·simp[h0]
 ·by_cases h1:op=1<;>simp[h0,h1]
theorem f16_eq(l:List ApiSelect):f16 l=some (selS l):=by
 unfold f16 selS
 by_cases h:256<l.length
 ·rw[if_pos (by simp;omega),if_pos h]
 rw[if_neg (by simp;omega),if_neg h]
 refine run_goC (L:=f16_L1 l) termE (fun _ _=>true) (fun _=>0) (by omega) (fun x hx hlt hat=>?_) (fun k q x hq hx hlt hat hpr hpos hw v1 v2=>?_) (by simp only[f16_L1];rw[at_end];rfl)
 ·simp only[f16_L1,stepC,badC,f52_eq]
  rw[if_pos hlt,hat]
  simp only[Option.bind_some]
  by_cases h1:termE x=0<;>simp[h1,roundC,IntKind.wrap_i64]
 ·simp only[f16_L1,stepC,badC_true,f52_eq]
  rw[if_pos hlt,hat,hw]
  simp only[Option.bind_some]
  by_cases h1:termE x=0<;>simp[h1,roundC]
theorem f11_ex(l:List ApiSelect)(gs:List ApiGroup)(hl:gs.length≤9223372036854775807):∃ b,f11 l gs=some b:=by
 unfold f11
 rw[f41_eq gs hl]
 simp only[Option.bind_some]
 split
 ·exact ⟨_,rfl⟩
 ·split
  ·split
   ·exact ⟨_,rfl⟩
   ·exact ⟨_,rfl⟩
  ·exact ⟨_,rfl⟩
theorem f38_one{a b:Int}(h1:1≤a)(h2:a≤b)(h3:b≤999):f38 [⟨a,b⟩]=some (rangeL a b):=by
 have e0:at? [(⟨a,b⟩:Ref06Range)] 0=some ⟨a,b⟩:=rfl
 have hrun:Lp.run (f38_L2 [⟨a,b⟩] 0) (a,[])=some (rangeL a b):=by
  have:=run_count (L:=f38_L2 [⟨a,b⟩] 0) (e:=rangeL a b) (fun k=>(a + (k:Int),(List.range k).map fun (i:Nat)=>a + (i:Int))) (b + 1 - a).toNat ?_ 0 (by omega) fun k _ hk=>?_
  ·simpa using this
  ·simp only[f38_L2,e0,Option.bind_some]
   rw[if_neg (by simp;omega)]
   rfl
  ·simp only[f38_L2,e0,Option.bind_some]
   rw[if_pos (by simp;omega),app_some (by simp;omega) (by simp;omega),Option.bind_some,← rangeL_succ,w64 (by omega) (by omega),Int.add_assoc]
   rfl
 have hb:(f38_L1 [⟨a,b⟩]).body (0,[])=some (.next (1,rangeL a b)):=by
  simp only[f38_L1,e0,Option.bind_some]
  rw[if_pos (by simp),hrun]
  rfl
 have hb2:(f38_L1 [⟨a,b⟩]).body (1,rangeL a b)=some (.brk (rangeL a b)):=by
  simp only[f38_L1]
  rw[if_neg (by simp)]
 unfold f38
 rw[show Lp.run (f38_L1 [⟨a,b⟩]) (0,[])=iter (f38_L1 [⟨a,b⟩]).body (0,[]) from rfl,iter_next hb,iter_brk hb2]
 rfl
theorem f92_eq{gs:List ApiGroup}(ht:Tab gs){x:ApiSelect}(hx:termE x=0){m:List Int}(hm:memS gs x=some m):f92 x gs=some m:=by
 unfold memS at hm
 unfold f92
 by_cases hg:x.fGroup=0
 ·obtain ⟨h1,h2,h3⟩:=term_range hx hg
  rw[if_neg (by simpa using hg)] at hm ⊢
  injection hm with hm
  rw[f38_one h1 h2 h3,Option.bind_some,hm]
 ·rw[if_pos hg] at hm
  rw[if_pos (by simpa using hg),f49_eq (by have:=ht.len;omega),Option.bind_some]
  rw[find_idx] at hm
  cases hf:gs.findIdx? fun g=>decide (g.fNumber=x.fGroup) with
  | none=>rw[hf] at hm;cases hm
  | some i =>
   obtain ⟨hi,_⟩:=List.findIdx?_eq_some_iff_getElem.1 hf
   rw[hf] at hm
   dsimp only at hm ⊢
   rw[List.getElem?_eq_getElem hi] at hm
   injection hm with hm
   rw[at_nat (List.getElem?_eq_getElem hi),Option.bind_some]
   exact congrArg some hm
theorem f67_eq{xs:List Int}{v:Int}(hm:xs.length≤9223372036854775807):f67 xs v=some (decide (v ∈ xs)):=by
 unfold f67
 rw[run_any (xs:=xs) (fun x=>decide (x=v)) hm (fun k x r=>by
   simp only[f67_L1]
   rw[if_pos r.lt,r.at',Option.bind_some,r.nxt]
   by_cases h:x=v<;>simp[h]) (by simp only[f67_L1];rw[at_end];rfl)]
 by_cases h:v ∈ xs
 ·have:(xs.any fun x=>decide (x=v))=true:=List.any_eq_true.2 ⟨v,h,by simp⟩
  simp[this,h]
 ·have:(xs.any fun x=>decide (x=v))=false:=List.any_eq_false.2 fun x hx=>by
   simp only[decide_eq_true_eq]
   intro e
   exact h (e ▸ hx)
  simp[this,h]
theorem f50_L2_eq{m:List Int}{i:Int}{gs:List ApiGroup}{l:List ApiSelect}{out:List Int}(hm:m.length≤1000)(hl:out.length≤1000000):Lp.run (f50_L2 m i gs l) (0,out)=some (m.foldl add1 out):=by
 have hrun:=run_walk (L:=f50_L2 m i gs l) m (fun k (a:List Int)=>((k:Int),a)) (fun _ a c=>.inl (add1 a c)) (fun a=>a) (fun k a=>a.length≤out.length + k) (fun k a c hc hI=>by
   have hk:=getElem?_lt hc
   refine ⟨?_,fun a' ha'=>?_⟩
   ·simp only[f50_L2]
    rw[if_pos (at_lt hc),at_nat hc,Option.bind_some,f67_eq (by omega),Option.bind_some,w64_succ (by omega)]
    by_cases hin:c ∈ a
    ·rw[if_neg (by simpa using hin)]
     simp[roundL,add1,hin]
    ·rw[if_pos (by simpa using hin),Option.bind_some,app_some (by simp;omega) (by simp;omega)]
     simp[roundL,add1,hin]
   ·injection ha' with ha'
    subst ha'
    have:=add1_len a c
    omega)
  (fun a _=>by simp only[f50_L2];rw[at_end];rfl) out (by simp)
 rw[show ((0,out):Int×List Int)=(((0:Nat):Int),out) from rfl,hrun]
 congr 1
 have hw:∀ (ys:List Int) (k:Nat) (acc:List Int),walkL (fun _ a c=>.inl (add1 a c)) (fun a=>a) k acc ys=ys.foldl add1 acc:=fun ys=>by
  induction ys with
  | nil=>intro k acc;rfl
  | cons y ys ih=>intro k acc;simp only[walkL,List.foldl_cons];exact ih (k + 1) _
 exact hw m 0 out
theorem f50_L3_eq{m out:List Int}{i:Int}{gs:List ApiGroup}{l:List ApiSelect}(hm:m.length≤1000)(hl:out.length≤1000000):Lp.run (f50_L3 out m i gs l) (0,[])=some (out.filter fun x=>decide (x ∉ m)):=by
 have hrun:=run_walk (L:=f50_L3 out m i gs l) out (fun k (a:List Int)=>((k:Int),a)) (fun _ a x=>.inl (if decide (x ∉ m)=true then a++[x] else a)) (fun a=>a) (fun k a=>a.length≤k) (fun k a x hx hI=>by
   have hk:=getElem?_lt hx
   refine ⟨?_,fun a' ha'=>?_⟩
   ·simp only[f50_L3]
    rw[if_pos (at_lt hx),at_nat hx,Option.bind_some,f67_eq (by omega),Option.bind_some,w64_succ (by omega)]
    by_cases hin:x ∈ m
    ·rw[if_neg (by simpa using hin)]
     simp[roundL,hin]
    ·rw[if_pos (by simpa using hin),Option.bind_some,app_some (by simp;omega) (by simp;omega)]
     simp[roundL,hin]
   ·injection ha' with ha'
    subst ha'
    split
    ·simp;omega
    ·omega)
  (fun a _=>by simp only[f50_L3];rw[at_end];rfl) [] (by simp)
 rw[show ((0,[]):Int×List Int)=(((0:Nat):Int),[]) from rfl,hrun,walk_filter (fun x:Int=>decide (x ∉ m))]
 rfl
theorem f50_eq{gs:List ApiGroup}(ht:Tab gs){l:List ApiSelect}(hl:Sel l){o:List Int}(ho:chosenS gs [] l=some o):f50 l gs=some o:=by
 have hlen:=hl.len
 have key:∀ (m k:Nat) (acc:List Int),k + m=l.length→acc.length≤999 * k→chosenS gs acc (l.drop k)=some o→Lp.run (f50_L1 l gs) ((k:Int),acc)=some o:=by
  intro m
  induction m with
  | zero =>
   intro k acc hk ha h
   rw[List.drop_of_length_le (by omega)] at h
   injection h with h
   subst h
   have:k=l.length:=by omega
   subst this
   exact iter_brk (by simp only[f50_L1];rw[at_end];rfl)
  | succ m ih =>
   intro k acc hk ha h
   have hlt:k<l.length:=by omega
   have hx:=List.getElem?_eq_getElem hlt
   have hc:=hl.chk _ (List.getElem_mem hlt)
   rw[List.drop_eq_getElem_cons hlt] at h
   simp only[chosenS] at h
   generalize l[k]=x at hx hc h
   cases hm:memS gs x with
   | none=>rw[hm] at h;cases h
   | some c =>
    rw[hm] at h
    have hml:=mem_len ht hc hm
    have hb:(f50_L1 l gs).body ((k:Int),acc)=some (.next (((k + 1:Nat):Int),applyS x.fOp acc c)):=by
     simp only[f50_L1]
     rw[if_pos (at_lt hx),at_nat hx,Option.bind_some,f92_eq ht hc hm,Option.bind_some,Option.bind_some,w64_succ (by omega)]
     unfold applyS
     by_cases hop:x.fOp=0
     ·rw[if_pos (by simpa using hop),if_pos hop,f50_L2_eq (by omega) (by omega)]
      rfl
     ·rw[if_neg (by simpa using hop),if_neg hop,f50_L3_eq (by omega) (by omega)]
      rfl
    rw[show Lp.run (f50_L1 l gs) ((k:Int),acc)=iter (f50_L1 l gs).body ((k:Int),acc) from rfl,iter_next hb]
    exact ih (k + 1) _ (by omega) (by have:=apply_len x.fOp acc c;omega) h
 unfold f50
 have:=key l.length 0 [] (by omega) (by simp) ho
 rw[show ((0,[]):Int×List Int)=(((0:Nat):Int),[]) from rfl,this]
 rfl
def lackS(gs:List ApiGroup)(x:ApiSelect):Bool:=decide (x.fGroup≠0) && (getS gs x.fGroup).isNone
theorem lack_mem{gs:List ApiGroup}{x:ApiSelect}:lackS gs x=(memS gs x).isNone:=by
 unfold lackS memS
 by_cases h:x.fGroup=0
 ·simp[h]
 ·rw[if_pos h]
  cases getS gs x.fGroup<;>simp[h]
theorem chosen_lack{gs:List ApiGroup}:∀ (l:List ApiSelect) (out:List Int),(chosenS gs out l).isSome = !(l.any (lackS gs))
 | [],_=>rfl
 | x::xs,out=>by
  simp only[chosenS,List.any_cons,lack_mem]
  cases memS gs x with
  | none=>rfl
  | some m=>simpa using chosen_lack xs _
theorem f14_eq(l:List ApiSelect)(gs:List ApiGroup):f14 l gs=some (channelsS l gs):=by
 unfold f14 channelsS
 rw[f16_eq,Option.bind_some]
 by_cases h1:selS l=0
 ·rw[if_neg (by simpa using h1),if_neg (nn h1),f33_eq,Option.bind_some]
  by_cases h2:tableS gs=0
  ·rw[if_neg (by simpa using h2),if_neg (nn h2)]
   have ht:=tab_of h2
   have hs:=sel_of h1
   have hlen:=hs.len
   rw[run_any (xs:=l) (lackS gs) (by omega) (fun k x r=>by
    simp only[f14_L1]
    rw[if_pos r.lt,r.at',Option.bind_some,r.nxt]
    unfold lackS
    by_cases hg:x.fGroup=0
    ·rw[if_neg (by simpa using hg)]
     simp[hg]
    ·rw[if_pos (by simpa using hg),Option.bind_some,f49_eq (by have:=ht.len;omega),Option.bind_some,find_idx]
     cases hf:gs.findIdx? fun g=>decide (g.fNumber=x.fGroup) with
     | none=>simp[hg]
     | some i =>
      obtain ⟨hi,_⟩:=List.findIdx?_eq_some_iff_getElem.1 hf
      dsimp only
      rw[if_neg (by simp)]
      simp[List.getElem?_eq_getElem hi]) (by simp only[f14_L1];rw[at_end];rfl)]
   have hc:=chosen_lack (gs:=gs) l []
   cases ho:chosenS gs [] l with
   | none =>
    rw[ho] at hc
    have:l.any (lackS gs)=true:=by simpa using hc
    rw[this]
    rfl
   | some o =>
    rw[ho] at hc
    have:l.any (lackS gs)=false:=by simpa using hc
    rw[this]
    simp only[Bool.false_eq_true,if_false,Option.bind_some]
    rw[f50_eq ht hs ho]
    rfl
  ·rw[if_pos (by simpa using h2),if_pos h2]
 ·rw[if_pos (by simpa using h1),if_pos h1]
end Go.Proofs.YtnaemmpcffnbkaaGreatDoor
