import Derived.Test.YtgfohogbechkkaaBST1
set_option linter.unusedSimpArgs false
set_option linter.unusedVariables false
namespace Go.Proofs.Ytgfohogbechkkaa.Net
open Go Go.Ab
theorem f41_eq(l:List ApiFrame):f41 l=some (framesS l):=by
 unfold f41 framesS
 by_cases h3:8<l.length
 ·rw[if_pos (by simp;omega)];simp[h3]
 rw[if_neg (by simp;omega)]
 have hrun:=run_first (L:=f41_L1 l) l.length (fun i=>(frErr l i).map Sum.inr) (Sum.inl ()) (fun i hi=>by
  have hx:=List.getElem?_eq_getElem hi
  have hw:IntKind.i64.wrap ((i:Int) + 1)=((i + 1:Nat):Int):=by rw[w64 (by omega) (by omega)];omega
  simp only[f41_L1,frErr,hx]
  rw[if_pos (by simp;omega),at_nat hx]
  simp only[Option.bind_some]
  generalize hX:l[i]=x
  by_cases a1:x.fUniverse<1
  ·simp[a1]
  by_cases a2:8<x.fUniverse
  ·simp[a1,a2]
  by_cases a5:x.fSlots.length=512
  ·by_cases a6:0<i
   ·have hw2:IntKind.i64.wrap ((i:Int) - 1)=((i - 1:Nat):Int):=by rw[w64 (by omega) (by omega)];omega
    have hy:=List.getElem?_eq_getElem (show i - 1<l.length by omega)
    generalize hY:l[i - 1]=y at hy
    by_cases a7:x.fUniverse≤y.fUniverse
    ·simp[a1,a2,a5,a6,hw2,at_nat hy,hy,a7]
    ·simp[a1,a2,a5,a6,hw2,at_nat hy,hy,a7,hw]
   ·obtain rfl:i=0:=by omega
    simp[a1,a2,a5]
    rfl
  ·have a5':¬ (x.fSlots.length:Int)=512:=by omega
   simp[a1,a2,a5,a5']) (by
  simp only[f41_L1]
  rw[if_neg (by simp)])
 rw[hrun]
 have:(List.range l.length).findSome? (fun i=>(frErr l i).map (Sum.inr:Int→Unit⊕Int))=((List.range l.length).findSome? (frErr l)).map Sum.inr:=by
  rw[List.map_findSome?];rfl
 rw[this]
 cases h:(List.range l.length).findSome? (frErr l)<;>simp[h3,h]
theorem asc_len{l:List NetworkStream}(h:Asc l):l.length≤8:=by
 have key:∀ i (hi:i<l.length),1 + (i:Int)≤l[i].fUniverse:=fun i=>by
  induction i with
  | zero=>intro hi;have:=(h.rng _ (List.getElem_mem hi)).1;simpa using this
  | succ i ih =>
   intro hi
   have h1:=ih (by omega)
   have h2:=List.pairwise_iff_getElem.1 h.asc i (i + 1) (by omega) hi (by omega)
   omega
 by_cases h0:l.length≤8
 ·exact h0
 ·have h1:=key 8 (by omega)
  have h2:=(h.rng _ (List.getElem_mem (show 8<l.length by omega))).2
  omega
theorem moment_of{s:NetworkSender}{t:Int}(hn:namedS s.fSource s.fPriority s.fSync=true)(hp:0≤s.fPulse∧s.fPulse≤255)(ht:0≤t∧t≤10000000)(hg:Good t s.fStreams):momentS s t=0:=by
 have hst:∀ i,i<s.fStreams.length→stErr s.fStreams i=none:=fun i hi=>by
  unfold stErr
  rw[List.getElem?_eq_getElem hi]
  have hm:=List.getElem_mem hi
  obtain ⟨k1,k2,k3,k4⟩:=hg.ok _ hm
  have k5:=hg.rng _ hm
  have hall:(wi s.fStreams[i].fUniverse 1 8 && (wi s.fStreams[i].fSeq 0 255 && (wi s.fStreams[i].fLast 0 10000000 && wi s.fStreams[i].fTimes 1 3)))=true:=by
   rw[Bool.and_eq_true,Bool.and_eq_true,Bool.and_eq_true]
   exact ⟨wi_iff.2 k5,wi_iff.2 k1,wi_iff.2 (by omega),wi_iff.2 k3⟩
  simp only[hall,Bool.true_eq_false,if_false]
  rw[if_neg (by omega)]
  split
  ·rename_i h0
   rw[List.getElem?_eq_getElem (show i - 1<s.fStreams.length by omega)]
   have:=List.pairwise_iff_getElem.1 hg.asc (i - 1) i (by omega) hi (by omega)
   simp only
   rw[if_neg (by omega)]
  ·rfl
 have hr:rightS s=0:=by
  unfold rightS
  rw[if_neg (by simp[hn]),if_neg (by rw[wi_iff.2 hp];simp),if_neg (by have:=asc_len hg.toAsc;omega)]
  have:(List.range s.fStreams.length).findSome? (stErr s.fStreams)=none:=by
   rw[List.findSome?_eq_none_iff]
   exact fun i hi=>hst i (List.mem_range.1 hi)
  rw[this];rfl
 unfold momentS
 rw[if_neg (by simpa using hr),if_neg (by rw[wi_iff.2 ht];simp),if_neg]
 intro hc
 obtain ⟨x,hx,hlt⟩:=List.any_eq_true.1 hc
 have:=(hg.ok x hx).2.1.2
 simp at hlt
 omega
def fr(x:NetworkStream):ApiFrame:=⟨x.fUniverse,x.fSlots⟩
end Go.Proofs.Ytgfohogbechkkaa.Net
namespace Go.Proofs.Ytgfohogbechkkaa
open Go Go.Ab
theorem posB_app{c:ReceiverInput→Int}{B:List ReceiverInput}(hB:∀ z ∈ B,0<c z):∀ {A:List ReceiverInput},(∀ z ∈ A,c z<0)→posB c (A++B)=A.length
 | [],_=>by
  cases B with
  | nil=>rfl
  | cons b B=>exact posB_cons_pos (by have:=hB b (List.mem_cons_self ..);omega)
 | a::A,hA=>by
  rw[List.cons_append,posB_cons_neg (hA a (List.mem_cons_self ..)),posB_app hB fun z hz=>hA z (List.mem_cons_of_mem _ hz)]
  rfl
theorem hasB_app{c:ReceiverInput→Int}{A B:List ReceiverInput}(hA:∀ z ∈ A,c z<0)(hB:∀ z ∈ B,0<c z):hasB c (A++B)=false:=by
 unfold hasB
 rw[posB_app hB hA,List.getElem?_append_right (Nat.le_refl _),Nat.sub_self]
 cases B with
 | nil=>rfl
 | cons b B =>
  have:=hB b (List.mem_cons_self ..)
  simp
  omega
theorem taken_new{A B:List ReceiverInput}{t:Int}{p:NetworkPacket}(h0:p.fUniverse≠0)(he:p.fEnd=false)(hA:∀ y ∈ A,kc p y<0)(hB:∀ y ∈ B,0<kc p y)(hl:(A++B).length≠64) :
  (takenS (A++B) t p).1=A++fedS t p (newI p)::B:=by
 unfold takenS
 rw[if_neg h0,hasB_app hA hB,posB_app hB hA,he,if_neg (by simp),if_neg (by simp),if_neg hl]
 simp
def gI(y:ReceiverInput):Int×Int×Int×Int×Int×List UInt8:=(y.fUniverse,y.fSource,y.fPriority,y.fSeq,y.fSync,if y.fWait=[] then y.fSlots else y.fWait)
def hI(s:Int)(x:NetworkStream):Int×Int×Int×Int×Int×List UInt8:=(x.fUniverse,7,100,x.fSeq,s,x.fSlots)
structure Both (s t:Int) (l:List NetworkStream) (ys:List ReceiverInput):Prop where
 gs:Net.Good t l
 gr:Good t ys
 rel:ys.map gI=l.map (hI s)
def foldT(t:Int)(ys:List ReceiverInput)(out:List NetworkPacket):List ReceiverInput:=out.foldl (fun l p=>(takenS l t p).1) ys
theorem foldT_snoc(t:Int)(ys:List ReceiverInput)(out:List NetworkPacket)(p:NetworkPacket):foldT t ys (out++[p])=(takenS (foldT t ys out) t p).1:=by unfold foldT;rw[List.foldl_append];rfl
theorem foldT_good{t:Int}:∀ {out:List NetworkPacket}{ys:List ReceiverInput},Good t ys→(∀ p ∈ out,checkS p=0)→Good t (foldT t ys out)
 | [],_,h,_=>h
 | p::out,ys,h,hc=>foldT_good (out:=out) (taken_good h (hc p (List.mem_cons_self ..))) fun q hq=>hc q (List.mem_cons_of_mem _ hq)
end Go.Proofs.Ytgfohogbechkkaa
