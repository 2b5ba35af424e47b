import Derived.Test.YtgfohogbechkkaaBPT1
set_option linter.unusedSimpArgs false
set_option linter.unusedVariables false
namespace Go.Proofs.Ytgfohogbechkkaa
open Go Go.Ab
theorem f39_eq{l:List ReceiverInput}(hl:l.length≤1000):f39 l=some l:=by
 unfold f39
 have happ:app? 80 [] l=some ([]++l):=app_some (by simp only[List.length_nil];omega) (by simp only[List.length_nil];omega)
 cases l with
 | nil=>rw[nil_nil (by rw[happ];rfl)];rfl
 | cons x xs=>rw[nil_cons (by simp),happ];simp
def waits(p:NetworkPacket)(x:ReceiverInput):Bool:=decide (x.fSource=p.fSource) && (decide (x.fSync=p.fSync) && !decide (x.fWait=[]))
def lit(x:ReceiverInput):ReceiverInput:=⟨x.fUniverse,x.fSource,x.fPriority,x.fSeq,x.fSync,x.fLast,x.fWait,[]⟩
def pulse1(p:NetworkPacket)(x:ReceiverInput):ReceiverInput:=if waits p x=true then lit x else x
theorem set_mid{τ : Type}(a b:List τ)(x y : τ):(a++x::b).set a.length y=a++y::b:=by
 rw[List.set_append_right _ _ (Nat.le_refl _),Nat.sub_self];rfl
theorem L2_eq{l:List ReceiverInput}(p:NetworkPacket)(hl:l.length≤1000):(f60_L2 l p).run (false,0,l)=some (l.any (waits p),l.map (pulse1 p)):=by
 have hrun:=run_count (L:=f60_L2 l p) (e:=(l.any (waits p),l.map (pulse1 p))) (fun k=>((l.take k).any (waits p),(k:Int),(l.take k).map (pulse1 p)++l.drop k)) l.length (by simp[f60_L2]) 0 (Nat.zero_le _) (fun k _ hk=>by
  have hx:=List.getElem?_eq_getElem hk
  have hw:IntKind.i64.wrap ((k:Int) + 1)=((k + 1:Nat):Int):=w64_succ (by omega)
  generalize l[k]=x at hx
  have hd:l.drop k=x::l.drop (k + 1):=by rw[List.drop_eq_getElem_cons hk];congr 1;exact (List.getElem?_eq_some_iff.1 hx).2
  have htk:l.take (k + 1)=l.take k++[x]:=by rw[List.take_add_one,hx];rfl
  have hml:((l.take k).map (pulse1 p)).length=k:=by rw[List.length_map,List.length_take];omega
  have hat:at? ((l.take k).map (pulse1 p)++l.drop k) (k:Int)=some x:=at_nat (by rw[List.getElem?_append_right (by omega),hml,Nat.sub_self,hd];rfl)
  have hset:∀ y,((l.take k).map (pulse1 p)++l.drop k).set k y=(l.take k).map (pulse1 p)++y::l.drop (k + 1):=fun y=>by
   rw[hd]
   have:=set_mid ((l.take k).map (pulse1 p)) (l.drop (k + 1)) x y
   rwa [hml] at this
  have hset2:∀ y z,((l.take k).map (pulse1 p)++y::l.drop (k + 1)).set k z=(l.take k).map (pulse1 p)++z::l.drop (k + 1):=fun y z=>by
   have:=set_mid ((l.take k).map (pulse1 p)) (l.drop (k + 1)) y z
   rwa [hml] at this
  simp only[f60_L2]
  rw[if_pos (by simp only[decide_eq_true_eq];omega),hat,Option.bind_some]
  simp only[List.set_set,Int.toNat_natCast,hw,hset,hset2,htk,List.any_append,List.map_append,List.map_cons,List.map_nil,List.any_cons,List.any_nil,Bool.or_false,List.append_assoc,List.singleton_append]
  by_cases h1:x.fSource=p.fSource
  ·by_cases h2:x.fSync=p.fSync
   ·by_cases h3:x.fWait=[]
    ·have hq:waits p x=false:=by simp[waits,h3]
     simp[h1,h2,h3,hq,pulse1,hd]
    ·have hq:waits p x=true:=by simp[waits,h1,h2,h3]
     simp[h1,h2,h3,hq,pulse1,lit]
   ·have hq:waits p x=false:=by simp[waits,h2]
    simp[h1,h2,hq,pulse1,hd]
  ·have hq:waits p x=false:=by simp[waits,h1]
   simp[h1,hq,pulse1,hd])
 simpa using hrun
def fullS(s:List UInt8):List UInt8:=s++List.replicate (512 - s.length) 0
theorem full_len{s:List UInt8}(h:s.length≤512):(fullS s).length=512:=by unfold fullS;rw[List.length_append,List.length_replicate];omega
theorem repeat_zero:∀ n,Lib.repeatL [0] n=List.replicate n 0
 | 0=>rfl
 | n + 1=>by rw[Lib.repeatL,repeat_zero n];rfl
theorem full_rep{s:List UInt8}{α : Type}(h:s.length≤512)(k:List UInt8→Option α):(f87 [0] (IntKind.i64.wrap (512 - ((s.length:Nat):Int)))).bind (fun r=>(cat? s r).bind k)=k (fullS s):=by
 rw[w64 (by omega) (by omega)]
 have hn:(512 - ((s.length:Nat):Int)).toNat=512 - s.length:=by omega
 have h1:f87 [0] (512 - ((s.length:Nat):Int))=some (List.replicate (512 - s.length) 0):=by
  unfold f87 rep?
  rw[if_pos ⟨by omega,by omega,by rw[hn];simp only[List.length_cons,List.length_nil];unfold room;omega⟩,hn,repeat_zero]
 rw[h1,Option.bind_some,cat_some (by rw[List.length_replicate];omega)]
 rfl
def fedS(t:Int)(p:NetworkPacket)(x:ReceiverInput):ReceiverInput :=
 if p.fSync=0 then ⟨x.fUniverse,x.fSource,p.fPriority,p.fSeq,p.fSync,t,fullS p.fSlots,[]⟩ else ⟨x.fUniverse,x.fSource,p.fPriority,p.fSeq,p.fSync,t,x.fSlots,fullS p.fSlots⟩
theorem C4_eq{p:NetworkPacket}(h:p.fSlots.length≤512)(v:List ReceiverInput)(r:Int×Bool)(x:ReceiverInput)(t:Int):(f60_C4 p v r x t).run=some (v.set r.1.toNat (fedS t p x)):=by
 simp only[f60_C4,f60_J5]
 refine (full_rep h _).trans ?_
 unfold fedS
 simp only[List.set_set]
 by_cases h0:p.fSync=0<;>simp[h0]
theorem C6_eq{p:NetworkPacket}(h:p.fSlots.length≤512)(v:List ReceiverInput)(r:Int×Bool)(x:ReceiverInput)(t:Int):(f60_C6 p v r x t).run=some (v.set r.1.toNat (fedS t p x)):=by
 simp only[f60_C6,f60_J7]
 refine (full_rep h _).trans ?_
 unfold fedS
 simp only[List.set_set]
 by_cases h0:p.fSync=0<;>simp[h0]
def kc(p:NetworkPacket)(x:ReceiverInput):Int:=ordS ⟨x.fUniverse,x.fSource⟩ ⟨p.fUniverse,p.fSource⟩
theorem kc_neg(p:NetworkPacket)(x:ReceiverInput):(kc p x<0)=(ltU x.fUniverse x.fSource p.fUniverse p.fSource=true):=ordS_neg _ _
theorem kc_zero(p:NetworkPacket)(x:ReceiverInput):(kc p x=0)=(x.fUniverse=p.fUniverse∧x.fSource=p.fSource):=ordS_zero _ _
theorem kc_mono{p:NetworkPacket}{l:List ReceiverInput}(h:l.Pairwise fun a b=>ltI a b=true):l.Pairwise fun a b=>kc p b≤0→kc p a<0:=by
 refine h.imp fun {a b} hab hb=>?_
 rw[kc_neg]
 have hb':ltU b.fUniverse b.fSource p.fUniverse p.fSource=true∨(b.fUniverse=p.fUniverse∧b.fSource=p.fSource):=by
  by_cases h0:kc p b=0
  ·exact .inr ((kc_zero p b).mp h0)
  ·exact .inl ((kc_neg p b).mp (by omega))
 unfold ltI ltU at *
 simp only[Bool.or_eq_true,Bool.and_eq_true,decide_eq_true_eq] at *
 omega
theorem f96_eq{l:List ReceiverInput}(ha:l.Pairwise fun a b=>ltI a b=true)(hl:l.length≤1000)(p:NetworkPacket):f96_65_64 l ⟨p.fUniverse,p.fSource⟩=some ((posB (kc p) l:Int),hasB (kc p) l):=by
 have hc:∀ x ∈ l,f140p x ⟨p.fUniverse,p.fSource⟩=some (kc p x):=fun x _=>by
  unfold f140p
  simp only[f65,f64_eq,Option.bind_some]
  rfl
 have hrun:=run_bsearch (L:=f139_140_L1 l ⟨p.fUniverse,p.fSource⟩) (xs:=l) (cmp:=fun x=>f140p x ⟨p.fUniverse,p.fSource⟩) (c:=kc p) (fun i j=>rfl) hc ((kc_mono (p:=p) ha).imp fun h hb=>h (by omega)) (by omega)
 have:=bsearch_eq hrun hc
 unfold f96_65_64 f139_140
 refine (congrArg (fun o:Option (Int×Bool)=>o.bind fun r=>some (r.1,r.2)) this).trans ?_
 rfl
def newI(p:NetworkPacket):ReceiverInput:=⟨p.fUniverse,p.fSource,0,0,0,0,[],[]⟩
def takenS(l:List ReceiverInput)(t:Int)(p:NetworkPacket):List ReceiverInput×Bool :=
 if p.fUniverse=0 then (l.map (pulse1 p),l.any (waits p))
 else if hasB (kc p) l=true then (match l[posB (kc p) l]? with
  | some x=>if newerS x.fSeq p.fSeq=false then (l,false) else if p.fEnd=true then (l.take (posB (kc p) l)++l.drop (posB (kc p) l + 1),true) else (l.take (posB (kc p) l)++fedS t p x::l.drop (posB (kc p) l + 1),true)
  | none=>(l,false))
 else if p.fEnd=true then (l,false) else if l.length=64 then (l,false) else (l.take (posB (kc p) l)++fedS t p (newI p)::l.drop (posB (kc p) l),true)
theorem f60_eq{l:List ReceiverInput}(ha:l.Pairwise fun a b=>ltI a b=true)(hl:l.length≤64)(t:Int){p:NetworkPacket}(hp:p.fSlots.length≤512):f60 l t p=some (takenS l t p):=by
 have hpl:=posB_le (kc p) l
 unfold f60 takenS
 rw[f39_eq (by omega),Option.bind_some]
 by_cases h0:p.fUniverse=0
 ·rw[if_pos (by simpa using h0),if_pos h0]
  simp only[f60_C1]
  rw[L2_eq p (by omega)]
  simp only[Option.bind_some]
  exact must_true (by simp) _
 rw[if_neg (by simpa using h0),if_neg h0,f96_eq ha (by omega) p,Option.bind_some]
 simp only
 cases hh:hasB (kc p) l with
 | false =>
  simp only[Bool.not_false,if_true,Bool.false_eq_true,if_false,f60_J3]
  cases he:p.fEnd with
  | true=>simp
  | false =>
   simp only[Bool.false_eq_true,if_false]
   by_cases h64:l.length=64
   ·have:((l.length:Nat):Int)=64:=by omega
    simp[h64,this]
   ·have:¬ ((l.length:Nat):Int)=64:=by omega
    rw[if_neg (by simpa using this),if_neg h64]
    have htl:(l.take (posB (kc p) l)).length=posB (kc p) l:=by rw[List.length_take];omega
    rw[ins_some ⟨by omega,by omega⟩ (by omega) (by omega),Option.bind_some,Int.toNat_natCast]
    rw[at_nat (k:=posB (kc p) l) (x:=newI p) (by rw[List.getElem?_append_right (by omega),htl,Nat.sub_self];rfl),Option.bind_some,C4_eq hp,Option.bind_some]
    simp only[Int.toNat_natCast]
    have hset:(l.take (posB (kc p) l)++(ReceiverInput.mk p.fUniverse p.fSource 0 0 0 0 [] [])::l.drop (posB (kc p) l)).set (posB (kc p) l) (fedS t p (newI p))=l.take (posB (kc p) l)++fedS t p (newI p)::l.drop (posB (kc p) l):=by
     have:=set_mid (l.take (posB (kc p) l)) (l.drop (posB (kc p) l)) (newI p) (fedS t p (newI p))
     rwa [htl] at this
    refine (must_true (by simp) _).trans ?_
    first | rw[hset] | (simp only[Int.toNat_natCast];rw[hset])
 | true =>
  obtain ⟨x,hx,hx0⟩:=hasB_at hh
  have hlt:=hasB_lt hh
  simp only[Bool.not_true,Bool.false_eq_true,if_false,if_true]
  rw[at_nat hx,Option.bind_some,f97_eq,Option.bind_some,hx]
  simp only[f60_J3]
  cases hn:newerS x.fSeq p.fSeq with
  | false=>simp
  | true =>
   simp only[Bool.not_true,Bool.false_eq_true,if_false,Bool.true_eq_false]
   cases he:p.fEnd with
   | true =>
    simp only[if_true]
    rw[w64_succ (by omega),del_some ⟨by omega,by omega,by omega⟩ (by omega),Option.bind_some,Int.toNat_natCast,Int.toNat_natCast]
   | false =>
    simp only[Bool.false_eq_true,if_false]
    rw[at_nat hx,Option.bind_some,C6_eq hp,Option.bind_some]
    simp only[Int.toNat_natCast]
    have hset:l.set (posB (kc p) l) (fedS t p x)=l.take (posB (kc p) l)++fedS t p x::l.drop (posB (kc p) l + 1):=List.set_eq_take_append_cons_drop .. |>.trans (by rw[if_pos hlt])
    refine (must_true (by simp) _).trans ?_
    first | rw[hset] | (simp only[Int.toNat_natCast];rw[hset])
def takeS(l:List ReceiverInput)(t:Int)(p:NetworkPacket):List ReceiverInput×Bool×Int :=
 if momentS l t≠0 then ([],false,momentS l t) else if checkS p≠0 then ([],false,checkS p) else ((takenS l t p).1,(takenS l t p).2,0)
theorem f16_eq(r:ReceiverReceiver)(t:Int)(p:NetworkPacket):f16 r t p=some (⟨(takeS r.fInputs t p).1⟩,(takeS r.fInputs t p).2.1,(takeS r.fInputs t p).2.2):=by
 unfold f16 takeS
 rw[f58_eq,Option.bind_some]
 by_cases h1:momentS r.fInputs t=0
 ·have hg:=moment_good h1
  simp only[h1,ne_eq,not_true_eq_false,decide_false,Bool.false_eq_true,if_false]
  rw[f59_eq,Option.bind_some]
  by_cases h2:checkS p=0
  ·simp only[h2,ne_eq,not_true_eq_false,decide_false,Bool.false_eq_true,if_false]
   rw[f60_eq hg.asc hg.len t (check_ok h2).2.2.2.1,Option.bind_some]
  ·simp[h2]
 ·simp[h1]
end Go.Proofs.Ytgfohogbechkkaa
