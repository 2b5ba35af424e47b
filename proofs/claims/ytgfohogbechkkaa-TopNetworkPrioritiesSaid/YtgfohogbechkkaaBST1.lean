import Derived.Test.YtgfohogbechkkaaBPT5
set_option linter.unusedSimpArgs false
set_option linter.unusedVariables false
namespace Go.Proofs.Ytgfohogbechkkaa.Net
open Go Go.Ab
theorem run_first{E:Type}{L:Lp Int E}(n:Nat)(g:Nat→Option E)(e:E)(hb:∀ i,i<n→L.body (i:Int)=some (match g i with | none=>.next ((i + 1:Nat):Int) | some x=>.brk x))(he:L.body (n:Int)=some (.brk e)) :
  L.run 0=some (((List.range n).findSome? g).getD e):=by
 have key:∀ m k,n=k + m→(∀ i,i<k→g i=none)→L.run (k:Int)=some (((List.range n).findSome? g).getD e):=by
  intro m
  induction m with
  | zero =>
   intro k hk hn
   have:(List.range n).findSome? g=none:=by
    rw[List.findSome?_eq_none_iff]
    intro i hi
    exact hn i (by have:=List.mem_range.1 hi;omega)
   rw[this]
   have hkn:k=n:=by omega
   subst hkn
   exact iter_brk he
  | succ m ih =>
   intro k hk hn
   have hkn:k<n:=by omega
   have hbk:=hb k hkn
   cases hg:g k with
   | none =>
    rw[hg] at hbk
    rw[show L.run (k:Int)=iter L.body (k:Int) from rfl,iter_next hbk]
    exact ih (k + 1) (by omega) fun i hi=>by
     by_cases h:i=k
     ·subst h;exact hg
     ·exact hn i (by omega)
   | some x =>
    rw[hg] at hbk
    rw[show L.run (k:Int)=iter L.body (k:Int) from rfl,iter_brk hbk]
    have:(List.range n).findSome? g=some x:=by
     have hsplit:List.range n=List.range k++(List.range' k (m + 1)):=by
      rw[hk,List.range_eq_range',List.range_eq_range',← List.range'_append_1];simp
     rw[hsplit,List.findSome?_append]
     have h0:(List.range k).findSome? g=none:=by
      rw[List.findSome?_eq_none_iff]
      intro i hi
      exact hn i (List.mem_range.1 hi)
     rw[h0,List.range'_succ,List.findSome?_cons,hg]
     rfl
    rw[this]
    rfl
 exact key n 0 (by omega) fun i hi=>absurd hi (Nat.not_lt_zero i)
def wi(n lo hi:Int):Bool:=decide (lo≤n) && decide (n≤hi)
theorem f93_eq(n a b:Int):f93 n a b=some (wi n a b):=by
 unfold f93 wi
 by_cases h:a≤n<;>simp[h]
theorem wi_iff{n a b:Int}:wi n a b=true↔a≤n∧n≤b:=by simp[wi]
def namedS(source priority sync:Int):Bool:=decide (0<source) && (decide (source<281474976710655) && (wi priority 0 200 && wi sync 0 8))
theorem f78_eq(a b c:Int):f78 a b c=some (namedS a b c):=by
 unfold f78 namedS
 simp only[f93_eq,Option.bind_some]
 by_cases h1:0<a<;>by_cases h2:a<281474976710655<;>cases h3:wi b 0 200<;>simp[h1,h2,h3]
theorem f94_eq(n:Int):f94 n=some (wi n 0 255):=by unfold f94;simp[f93_eq]
def newS(a b c:Int):NetworkSender×Int:=if namedS a b c=true then (⟨a,b,c,0,[]⟩,0) else (⟨0,0,0,0,[]⟩,2)
theorem f42_eq(a b c:Int):f42 a b c=some (newS a b c):=by
 unfold f42 newS
 rw[f78_eq]
 cases h:namedS a b c<;>simp[h]
def newerS(old seq:Int):Bool:=wi old 0 255 && (wi seq 0 255 && (decide (0<(seq - old + 256).tmod 256) && decide ((seq - old + 256).tmod 256<237)))
theorem f97_eq(a b:Int):f97 a b=some (newerS a b):=by
 unfold f97 newerS
 simp only[f94_eq,Option.bind_some]
 cases h1:wi a 0 255
 ·simp
 ·cases h2:wi b 0 255
  ·simp
  ·have:=wi_iff.1 h1;have:=wi_iff.1 h2
   rw[w64 (a:=b - a) (by omega) (by omega),w64 (by omega) (by omega)]
   by_cases h:0<(b - a + 256).tmod 256<;>simp[h]
def nextSeq(n:Int):Int:=(n + 1).tmod 256
theorem f84_eq{n:Int}(h:wi n 0 255=true):f84 n=some (nextSeq n):=by
 have:=wi_iff.1 h
 unfold f84 nextSeq
 rw[w64 (by omega) (by omega)]
def stErr(l:List NetworkStream)(i:Nat):Option Int:=match l[i]? with
 | none=>none
 | some x=>if (wi x.fUniverse 1 8 && (wi x.fSeq 0 255 && (wi x.fLast 0 10000000 && wi x.fTimes 1 3)))=false then some 2 else if x.fSlots.length≠512 then some 14 else if 0<i then (match l[i - 1]? with
  | none=>none
  | some y=>if x.fUniverse≤y.fUniverse then some 9 else none) else none
def rightS(s:NetworkSender):Int:=if namedS s.fSource s.fPriority s.fSync=false then 2 else if wi s.fPulse 0 255=false then 2 else if 8<s.fStreams.length then 5 else ((List.range s.fStreams.length).findSome? (stErr s.fStreams)).getD 0
theorem f111_eq(s:NetworkSender):f111 s=some (rightS s):=by
 unfold f111 rightS
 simp only[f78_eq,f94_eq,Option.bind_some]
 cases h1:namedS s.fSource s.fPriority s.fSync
 ·simp
 cases h2:wi s.fPulse 0 255
 ·simp
 by_cases h3:8<s.fStreams.length
 ·rw[if_neg (by simp),if_neg (by simp),if_pos (by simp;omega)];simp[h3]
 rw[if_neg (by simp),if_neg (by simp),if_neg (by simp;omega)]
 have hrun:=run_first (L:=f111_L1 s) s.fStreams.length (fun i=>(stErr s.fStreams i).map Sum.inr) (Sum.inl ()) (fun i hi=>by
  have hx:=List.getElem?_eq_getElem hi
  have hw:IntKind.i64.wrap ((i:Int) + 1)=((i + 1:Nat):Int):=by rw[w64 (by omega) (by omega)];omega
  simp only[f111_L1,stErr,hx]
  rw[if_pos (by simp;omega),at_nat hx]
  simp only[Option.bind_some,f93_eq,f94_eq]
  generalize hX:s.fStreams[i]=x
  cases a1:wi x.fUniverse 1 8
  ·simp
  cases a2:wi x.fSeq 0 255
  ·simp
  cases a3:wi x.fLast 0 10000000
  ·simp
  cases a4:wi x.fTimes 1 3
  ·simp
  by_cases a5:x.fSlots.length=512
  ·by_cases a6:0<i
   ·have hw2:IntKind.i64.wrap ((i:Int) - 1)=((i - 1:Nat):Int):=by rw[w64 (by omega) (by omega)];omega
    have hy:=List.getElem?_eq_getElem (show i - 1<s.fStreams.length by omega)
    generalize hY:s.fStreams[i - 1]=y at hy
    by_cases a7:x.fUniverse≤y.fUniverse
    ·simp[a5,a6,hw2,at_nat hy,hy,a7]
    ·simp[a5,a6,hw2,at_nat hy,hy,a7,hw]
   ·obtain rfl:i=0:=by omega
    simp[a5]
    rfl
  ·have a5':¬ (x.fSlots.length:Int)=512:=by omega
   simp[a5,a5']) (by
  simp only[f111_L1]
  rw[if_neg (by simp)])
 rw[hrun]
 have:(List.range s.fStreams.length).findSome? (fun i=>(stErr s.fStreams i).map (Sum.inr:Int→Unit⊕Int))=((List.range s.fStreams.length).findSome? (stErr s.fStreams)).map Sum.inr:=by
  rw[List.map_findSome?];rfl
 rw[this]
 cases h:(List.range s.fStreams.length).findSome? (stErr s.fStreams)<;>simp[h3,h]
theorem f112_eq{l:List NetworkStream}{t:Int}(hl:l.length≤9223372036854775807):f112_113 l t=some (l.any fun x=>decide (t<x.fLast)):=by
 unfold f112_113 f146_113
 have hrun:=run_first (L:=f146_113_L1 l t) l.length (fun i=>match l[i]? with | none=>none | some x=>if t<x.fLast then some (Sum.inr (i:Int)) else none) (Sum.inl ()) (fun i hi=>by
  have hx:=List.getElem?_eq_getElem hi
  have hw:IntKind.i64.wrap ((i:Int) + 1)=((i + 1:Nat):Int):=by rw[w64 (by omega) (by omega)];omega
  simp only[f146_113_L1,hx]
  rw[if_pos (by simp;omega),at_nat hx]
  simp only[Option.bind_some,f113p]
  by_cases h:t<l[i].fLast
  ·simp[h]
  ·simp[h,hw]) (by
  simp only[f146_113_L1]
  rw[if_neg (by simp)])
 rw[hrun]
 simp only[Option.bind_some]
 cases h:(List.range l.length).findSome? (fun i=>match l[i]? with | none=>none | some x=>if t<x.fLast then some (Sum.inr (i:Int):Unit⊕Int) else none) with
 | none =>
  rw[List.findSome?_eq_none_iff] at h
  have:l.any (fun x=>decide (t<x.fLast))=false:=by
   rw[List.any_eq_false]
   intro x hx
   obtain ⟨i,hi,rfl⟩:=List.mem_iff_getElem.1 hx
   have:=h i (List.mem_range.2 hi)
   rw[List.getElem?_eq_getElem hi] at this
   simp only at this
   split at this
   ·cases this
   ·rename_i hn;simp;omega
  rw[this]
  simp
 | some e =>
  obtain ⟨i,hi,he⟩:=List.exists_of_findSome?_eq_some h
  have hi:=List.mem_range.1 hi
  rw[List.getElem?_eq_getElem hi] at he
  simp only at he
  split at he
  ·rename_i hlt
   injection he with he;subst he
   have:l.any (fun x=>decide (t<x.fLast))=true:=List.any_eq_true.2 ⟨l[i],List.getElem_mem hi,by simpa using hlt⟩
   rw[this]
   simp
  ·cases he
def momentS(s:NetworkSender)(t:Int):Int:=if rightS s≠0 then rightS s else if wi t 0 10000000=false then 2 else if s.fStreams.any (fun x=>decide (t<x.fLast))=true then 9 else 0
theorem right_len{s:NetworkSender}(h:rightS s=0):s.fStreams.length≤8:=by
 unfold rightS at h
 by_cases h1:namedS s.fSource s.fPriority s.fSync=false
 ·rw[if_pos h1] at h;cases h
 rw[if_neg h1] at h
 by_cases h2:wi s.fPulse 0 255=false
 ·rw[if_pos h2] at h;cases h
 rw[if_neg h2] at h
 by_cases h3:8<s.fStreams.length
 ·rw[if_pos h3] at h;cases h
 ·omega
theorem f79_eq(s:NetworkSender)(t:Int):f79 s t=some (momentS s t):=by
 unfold f79 momentS
 simp only[f111_eq,f93_eq,Option.bind_some]
 by_cases h:rightS s=0
 ·have hl:=right_len h
  rw[f112_eq (by omega)]
  cases h2:wi t 0 10000000
  ·simp[h]
  ·cases h3:s.fStreams.any (fun x=>decide (t<x.fLast))
   ·rw[if_neg (by simp[h]),if_neg (by simp),if_neg (by simp[h]),if_neg (by simp)];rfl
   ·rw[if_neg (by simp[h]),if_neg (by simp),if_neg (by simp[h]),if_neg (by simp)];rfl
 ·simp[h]
def frErr(l:List ApiFrame)(i:Nat):Option Int:=match l[i]? with
 | none=>none
 | some x=>if x.fUniverse<1 then some 2 else if 8<x.fUniverse then some 2 else if x.fSlots.length≠512 then some 14 else if 0<i then (match l[i - 1]? with
  | none=>none
  | some y=>if x.fUniverse≤y.fUniverse then some 9 else none) else none
def framesS(l:List ApiFrame):Int:=if 8<l.length then 5 else ((List.range l.length).findSome? (frErr l)).getD 0
theorem f80_eq(l:List ApiFrame):f80 l=some (framesS l):=by
 unfold f80 framesS
 by_cases h3:8<l.length
 ·rw[if_pos (by simp;omega)];simp[h3]
 rw[if_neg (by simp;omega)]
 have hrun:=run_first (L:=f80_L1 l) l.length (fun i=>(frErr l i).map Sum.inr) (Sum.inl ()) (fun i hi=>by
  have hx:=List.getElem?_eq_getElem hi
  have hw:IntKind.i64.wrap ((i:Int) + 1)=((i + 1:Nat):Int):=by rw[w64 (by omega) (by omega)];omega
  simp only[f80_L1,frErr,hx]
  rw[if_pos (by simp;omega),at_nat hx]
  simp only[Option.bind_some]
  generalize hX:l[i]=x
  by_cases a1:x.fUniverse<1
  ·simp[a1]
  by_cases a2:8<x.fUniverse
  ·simp[a1,a2]
  by_cases a5:x.fSlots.length=512
  ·by_cases a6:0<i
   ·have hw2:IntKind.i64.wrap ((i:Int) - 1)=((i - 1:Nat):Int):=by rw[w64 (by omega) (by omega)];omega
    have hy:=List.getElem?_eq_getElem (show i - 1<l.length by omega)
    generalize hY:l[i - 1]=y at hy
    by_cases a7:x.fUniverse≤y.fUniverse
    ·simp[a1,a2,a5,a6,hw2,at_nat hy,hy,a7]
    ·simp[a1,a2,a5,a6,hw2,at_nat hy,hy,a7,hw]
   ·obtain rfl:i=0:=by omega
    simp[a1,a2,a5]
    rfl
  ·have a5':¬ (x.fSlots.length:Int)=512:=by omega
   simp[a1,a2,a5,a5']) (by
  simp only[f80_L1]
  rw[if_neg (by simp)])
 rw[hrun]
 have:(List.range l.length).findSome? (fun i=>(frErr l i).map (Sum.inr:Int→Unit⊕Int))=((List.range l.length).findSome? (frErr l)).map Sum.inr:=by
  rw[List.map_findSome?];rfl
 rw[this]
 cases h:(List.range l.length).findSome? (frErr l)<;>simp[h3,h]
theorem f81_eq{l:List NetworkStream}(hl:l.length≤1000):f81 l=some l:=by
 unfold f81
 have happ:app? 48 [] l=some ([]++l):=app_some (by simp only[List.length_nil];omega) (by simp only[List.length_nil];omega)
 cases l with
 | nil=>rw[nil_nil (by rw[happ];rfl)];rfl
 | cons x xs=>rw[nil_cons (by simp),happ];simp
structure Asc (l:List NetworkStream):Prop where
 rng:∀ x ∈ l,1≤x.fUniverse∧x.fUniverse≤8
 asc:l.Pairwise fun x y=>x.fUniverse<y.fUniverse
def posS(l:List NetworkStream)(u:Int):Nat:=l.countP fun x=>decide (x.fUniverse<u)
def hasS(l:List NetworkStream)(u:Int):Bool:=l.any fun x=>decide (x.fUniverse=u)
theorem pos_le(l:List NetworkStream)(u:Int):posS l u≤l.length:=List.countP_le_length
theorem pos_spec{l:List NetworkStream}(h:l.Pairwise fun x y=>x.fUniverse<y.fUniverse)(u:Int):∀ (i:Nat) x,l[i]? = some x→(x.fUniverse<u↔i<posS l u):=by
 induction l with
 | nil=>intro i x hx;simp at hx
 | cons a l ih =>
  obtain ⟨h1,h2⟩:=List.pairwise_cons.1 h
  intro i x hx
  unfold posS
  rw[List.countP_cons]
  cases i with
  | zero =>
   simp at hx;subst hx
   by_cases hu:a.fUniverse<u
   ·simp[hu]
   ·simp only[hu,decide_false,if_neg (by simp:¬ (false=true)),Nat.add_zero,false_iff,Nat.not_lt,Nat.le_zero]
    refine List.countP_eq_zero.2 fun y hy=>?_
    have:=h1 y hy
    simp;omega
  | succ i =>
   have hx':l[i]? = some x:=by simpa using hx
   have:=ih h2 i x hx'
   unfold posS at this
   rw[this]
   have hax:=h1 x (List.mem_of_getElem? hx')
   by_cases hu:a.fUniverse<u
   ·simp[hu]
   ·have hz:l.countP (fun x=>decide (x.fUniverse<u))=0:=List.countP_eq_zero.2 fun y hy=>by
     have:=h1 y hy
     simp;omega
    simp[hu,hz]
theorem f114_eq{l:List NetworkStream}(ha:Asc l){u:Int}(hu:1≤u∧u≤8)(hl:l.length≤1000):f114_115 l u=some ((posS l u:Int),hasS l u):=by
 have hp:=pos_spec ha.asc u
 have hpl:=pos_le l u
 unfold f114_115
 have hrun:=run_eq (L:=f114_115_L1 l u) (s0:=(0,(l.length:Int))) (e:=(posS l u:Int)) (fun s=>0≤s.1∧s.1≤s.2∧s.2≤l.length∧s.1≤posS l u∧(posS l u:Int)≤s.2) (fun s=>(s.2 - s.1).toNat) (by refine ⟨?_,?_,?_,?_,?_⟩<;>simp<;>omega) (by
  rintro ⟨i,j⟩ ⟨h1,h2,h3,h4,h5⟩
  simp only at h1 h2 h3 h4 h5
  simp only[f114_115_L1]
  by_cases hij:i<j
  ·left
   rw[if_pos (by simpa using hij)]
   have e1:IntKind.i64.wrap (i + j)=i + j:=w64 (by omega) (by omega)
   have e2:IntKind.u64.wrap (i + j)=i + j:=by rw[IntKind.wrap_u64];omega
   have e3:min (Int.toNat 1) (IntKind.bits .u64)=1:=by decide
   have e4:Int.fdiv (i + j) (2 ^ 1)=(i + j) / 2:=by rw[Int.fdiv_eq_ediv_of_nonneg _ (by decide)];rfl
   have e5:IntKind.i64.wrap ((i + j) / 2)=(i + j) / 2:=w64 (by omega) (by omega)
   rw[e1,e2,e3,e4,e5]
   obtain ⟨m,hm⟩:∃ m:Nat,(i + j) / 2=m:=⟨((i + j) / 2).toNat,by omega⟩
   rw[hm]
   have hml:m<l.length:=by omega
   have hx:=List.getElem?_eq_getElem hml
   generalize hX:l[m]=x at hx
   have hxr:=ha.rng x (List.mem_of_getElem? hx)
   have hpm:=hp m x hx
   rw[at_nat hx]
   simp only[Option.bind_some,f115]
   rw[w64 (a:=x.fUniverse - u) (by omega) (by omega)]
   by_cases hlt:x.fUniverse<u
   ·refine ⟨((m:Int) + 1,j),?_,?_,?_⟩
    ·rw[if_pos (by simp;omega),w64 (by omega) (by omega)]
    ·have:=hpm.1 hlt
     refine ⟨?_,?_,?_,?_,?_⟩<;>simp only<;>omega
    ·simp only;omega
   ·refine ⟨(i,(m:Int)),?_,?_,?_⟩
    ·rw[if_neg (by simp;omega)]
    ·have:¬ m<posS l u:=fun h=>hlt (hpm.2 h)
     refine ⟨?_,?_,?_,?_,?_⟩<;>simp only<;>omega
    ·simp only;omega
  ·right
   rw[if_neg (by simpa using hij)]
   have:i=posS l u:=by omega
   rw[this])
 rw[hrun]
 simp only[Option.bind_some]
 by_cases hpe:posS l u<l.length
 ·rw[if_pos (by simp;omega)]
  have hx:=List.getElem?_eq_getElem hpe
  generalize hX:l[posS l u]=x at hx
  have hxr:=ha.rng x (List.mem_of_getElem? hx)
  have hnlt:¬ x.fUniverse<u:=fun h=>Nat.lt_irrefl _ ((hp _ x hx).1 h)
  rw[at_nat hx]
  simp only[Option.bind_some,f115]
  rw[w64 (by omega) (by omega)]
  have:hasS l u=decide (x.fUniverse - u=0):=by
   unfold hasS
   by_cases he:x.fUniverse=u
   ·rw[List.any_eq_true.2 ⟨x,List.mem_of_getElem? hx,by simpa using he⟩];simp[he]
   ·rw[show decide (x.fUniverse - u=0)=false by simp;omega,List.any_eq_false]
    intro y hy
    obtain ⟨k,hk,rfl⟩:=List.mem_iff_getElem.1 hy
    simp only[decide_eq_true_eq]
    intro hyu
    have hyk:=hp k _ (List.getElem?_eq_getElem hk)
    have hkp:¬ k<posS l u:=fun h=>by have:=hyk.2 h;omega
    have hlt:posS l u<k:=by
     rcases Nat.lt_trichotomy k (posS l u) with h | h | h
     ·exact absurd h hkp
     ·subst h;rw[List.getElem?_eq_getElem hk] at hx;injection hx with hx;exact absurd (hx ▸ hyu) he
     ·exact h
    have:=List.pairwise_iff_getElem.1 ha.asc (posS l u) k hpe hk hlt
    rw[hX] at this
    omega
  rw[this]
 ·rw[if_neg (by simp;omega)]
  have:hasS l u=false:=by
   unfold hasS
   rw[List.any_eq_false]
   intro y hy
   obtain ⟨k,hk,rfl⟩:=List.mem_iff_getElem.1 hy
   have:=(hp k _ (List.getElem?_eq_getElem hk)).2 (by omega)
   simp;omega
  rw[this]
def nextS(t:Int)(f:ApiFrame)(x:NetworkStream):NetworkStream×Bool :=
 if x.fSlots≠f.fSlots then (⟨x.fUniverse,nextSeq x.fSeq,t,1,f.fSlots⟩,true)
 else if x.fTimes<3∨1000≤t - x.fLast then (⟨x.fUniverse,nextSeq x.fSeq,t,min (x.fTimes + 1) 3,x.fSlots⟩,true)
 else (x,false)
def tellS(S:NetworkSender)(x:NetworkStream):NetworkPacket:=⟨S.fSource,x.fUniverse,S.fPriority,x.fSeq,S.fSync,false,x.fSlots⟩
def stepS(S:NetworkSender)(t:Int)(f:ApiFrame)(l:List NetworkStream)(out:List NetworkPacket):List NetworkStream×List NetworkPacket :=
 match l[posS l f.fUniverse]? with
 | some x=>if x.fUniverse=f.fUniverse then (l.set (posS l f.fUniverse) (nextS t f x).1,if (nextS t f x).2=true then out++[tellS S (nextS t f x).1] else out)
  else (l.take (posS l f.fUniverse)++(⟨f.fUniverse,0,t,1,f.fSlots⟩::l.drop (posS l f.fUniverse)),out++[tellS S ⟨f.fUniverse,0,t,1,f.fSlots⟩])
 | none=>(l++[⟨f.fUniverse,0,t,1,f.fSlots⟩],out++[tellS S ⟨f.fUniverse,0,t,1,f.fSlots⟩])
structure Good (t:Int) (l:List NetworkStream):Prop extends Asc l where
 ok:∀ x ∈ l,(0≤x.fSeq∧x.fSeq≤255)∧(0≤x.fLast∧x.fLast≤t)∧(1≤x.fTimes∧x.fTimes≤3)∧x.fSlots.length=512
theorem has_pos{l:List NetworkStream}(ha:Asc l){u:Int}:hasS l u=(match l[posS l u]? with | some x=>decide (x.fUniverse=u) | none=>false):=by
 have hp:=pos_spec ha.asc u
 cases hx:l[posS l u]? with
 | none =>
  simp only
  unfold hasS
  rw[List.any_eq_false]
  intro y hy
  obtain ⟨k,hk,rfl⟩:=List.mem_iff_getElem.1 hy
  have hle:l.length≤posS l u:=by simpa using hx
  have:=(hp k _ (List.getElem?_eq_getElem hk)).2 (by omega)
  simp;omega
 | some x =>
  simp only
  unfold hasS
  by_cases he:x.fUniverse=u
  ·rw[List.any_eq_true.2 ⟨x,List.mem_of_getElem? hx,by simpa using he⟩];simp[he]
  ·rw[show decide (x.fUniverse=u)=false by simpa using he,List.any_eq_false]
   intro y hy
   obtain ⟨k,hk,rfl⟩:=List.mem_iff_getElem.1 hy
   simp only[decide_eq_true_eq]
   intro hyu
   have hyk:=hp k _ (List.getElem?_eq_getElem hk)
   have hkp:¬ k<posS l u:=fun h=>by have:=hyk.2 h;omega
   obtain ⟨hpl,hxe⟩:=List.getElem?_eq_some_iff.1 hx
   have hnl:¬ x.fUniverse<u:=fun h=>Nat.lt_irrefl _ ((hp _ x hx).1 h)
   have hlt:posS l u<k:=by
    rcases Nat.lt_trichotomy k (posS l u) with h | h | h
    ·exact absurd h hkp
    ·exfalso
     apply he
     have:l[k]=x:=by rw[← hxe];congr
     rw[← this];exact hyu
    ·exact h
   have:=List.pairwise_iff_getElem.1 ha.asc (posS l u) k hpl hk hlt
   rw[hxe] at this
   omega
theorem nextSeq_wi(n:Int)(h:0≤n):0≤nextSeq n∧nextSeq n≤255:=by
 unfold nextSeq
 rw[Int.tmod_eq_emod_of_nonneg (by omega)]
 omega
theorem set3{τ : Type}(l:List τ)(i:Nat)(a b c : τ):((l.set i a).set i b).set i c=l.set i c:=by simp
theorem set4{τ : Type}(l:List τ)(i:Nat)(a b c d : τ):(((l.set i a).set i b).set i c).set i d=l.set i d:=by simp
theorem C4_eq{S:NetworkSender}{t:Int}{f:ApiFrame}{l:List NetworkStream}{out:List NetworkPacket}(hg:Good t l)(ht:0≤t∧t≤10000000)(hf:1≤f.fUniverse∧f.fUniverse≤8)(hl:l.length≤900)(ho:out.length≤900) :
  (f43_C4 l f S out t).run=some (stepS S t f l out):=by
 have hpl:=pos_le l f.fUniverse
 have happ:∀ p:NetworkPacket,app? 64 out [p]=some (out++[p]):=fun p=>app_some (by simp;omega) (by simp;omega)
 simp only[f43_C4]
 rw[f114_eq hg.toAsc hf (by omega),has_pos hg.toAsc]
 simp only[Option.bind_some]
 cases hx:l[posS l f.fUniverse]? with
 | none =>
  have hpe:posS l f.fUniverse=l.length:=by
   have:l.length≤posS l f.fUniverse:=by simpa using hx
   omega
  have hins:ins? 48 l (posS l f.fUniverse:Int) (NetworkStream.mk f.fUniverse 255 0 0 f.fSlots)=some (l++[NetworkStream.mk f.fUniverse 255 0 0 f.fSlots]):=by
   unfold ins?
   rw[if_pos ⟨by omega,by omega,by unfold room;omega,by unfold maxStr;omega⟩,hpe]
   simp
  have hat:at? (l++[NetworkStream.mk f.fUniverse 255 0 0 f.fSlots]) (posS l f.fUniverse:Int)=some (NetworkStream.mk f.fUniverse 255 0 0 f.fSlots):=at_nat (by rw[hpe];simp)
  have h46:f84 255=some 0:=by rw[f84_eq (by decide)];rfl
  have hw:IntKind.i64.wrap (0 + 1)=1:=rfl
  simp only[hins,hat,Option.bind_some,h46,f43_C7,f43_C8,happ,hw,set3]
  simp[stepS,hx,tellS,hpe]
 | some x =>
  have hpe:posS l f.fUniverse<l.length:=(List.getElem?_eq_some_iff.1 hx).1
  obtain ⟨ok1,ok2,ok3,ok4⟩:=hg.ok x (List.mem_of_getElem? hx)
  by_cases he:x.fUniverse=f.fUniverse
  ·have h46:f84 x.fSeq=some (nextSeq x.fSeq):=f84_eq (wi_iff.2 ok1)
   have hw:IntKind.i64.wrap (x.fTimes + 1)=x.fTimes + 1:=w64 (by omega) (by omega)
   have hw2:IntKind.i64.wrap (t - x.fLast)=t - x.fLast:=w64 (by omega) (by omega)
   have hmin:(if 3<x.fTimes + 1 then 3 else x.fTimes + 1)=min (x.fTimes + 1) 3:=by split<;>omega
   rw[if_neg (by simp[he])]
   rw[at_nat hx]
   simp only[Option.bind_some,h46,f43_C11,f43_C12,f43_C13,f43_C14,f43_C15,f43_C16,happ,hw,hw2,hmin,set3,set4,Int.toNat_natCast]
   simp only[stepS,hx,he,if_true]
   by_cases hs:x.fSlots=f.fSlots
   ·by_cases h3:x.fTimes<3
    ·simp[nextS,hs,h3,tellS,he]
    ·by_cases h4:1000≤t - x.fLast
     ·simp[nextS,hs,h3,h4,tellS,he]
     ·have:l.set (posS l f.fUniverse) x=l:=by
       obtain ⟨hlt,hxe⟩:=List.getElem?_eq_some_iff.1 hx
       rw[← hxe];exact List.set_getElem_self hlt
      simp[nextS,hs,h3,h4,this]
   ·simp[nextS,hs,tellS,he]
  ·have hins:ins? 48 l (posS l f.fUniverse:Int) (NetworkStream.mk f.fUniverse 255 0 0 f.fSlots)=some (l.take (posS l f.fUniverse)++(NetworkStream.mk f.fUniverse 255 0 0 f.fSlots::l.drop (posS l f.fUniverse))):=by
    unfold ins?
    rw[if_pos ⟨by omega,by omega,by unfold room;omega,by unfold maxStr;omega⟩]
    simp
   have htl:(l.take (posS l f.fUniverse)).length=posS l f.fUniverse:=by rw[List.length_take];omega
   have hat:at? (l.take (posS l f.fUniverse)++(NetworkStream.mk f.fUniverse 255 0 0 f.fSlots::l.drop (posS l f.fUniverse))) (posS l f.fUniverse:Int)=some (NetworkStream.mk f.fUniverse 255 0 0 f.fSlots):=at_nat (by rw[List.getElem?_append_right (by omega),htl];simp)
   have hset:∀ z,(l.take (posS l f.fUniverse)++(NetworkStream.mk f.fUniverse 255 0 0 f.fSlots::l.drop (posS l f.fUniverse))).set (posS l f.fUniverse) z=l.take (posS l f.fUniverse)++(z::l.drop (posS l f.fUniverse)):=fun z=>by
    rw[List.set_append_right _ _ (by omega),htl];simp
   have h46:f84 255=some 0:=by rw[f84_eq (by decide)];rfl
   have hw:IntKind.i64.wrap (0 + 1)=1:=rfl
   rw[if_pos (by simp[he])]
   simp only[hins,hat,Option.bind_some,h46,f43_C7,f43_C8,happ,hw,set3,Int.toNat_natCast,hset]
   simp[stepS,hx,tellS,he]
def FrOk(f:ApiFrame):Prop:=(1≤f.fUniverse∧f.fUniverse≤8)∧f.fSlots.length=512
theorem nextS_spec{t:Int}{f:ApiFrame}{x:NetworkStream}:(nextS t f x).1.fUniverse=x.fUniverse:=by
 unfold nextS
 split
 ·rfl
 ·split<;>rfl
theorem good_step{S:NetworkSender}{t:Int}{f:ApiFrame}{l:List NetworkStream}{out:List NetworkPacket}(hg:Good t l)(ht:0≤t)(hf:FrOk f):Good t (stepS S t f l out).1:=by
 have hp:=pos_spec hg.asc f.fUniverse
 have hnew:∀ y:NetworkStream,y=⟨f.fUniverse,0,t,1,f.fSlots⟩→((0≤y.fSeq∧y.fSeq≤255)∧(0≤y.fLast∧y.fLast≤t)∧(1≤y.fTimes∧y.fTimes≤3)∧y.fSlots.length=512)∧(1≤y.fUniverse∧y.fUniverse≤8):=fun y e=>by
  subst e
  exact ⟨⟨by simp,by simp;omega,by simp,hf.2⟩,hf.1⟩
 unfold stepS
 cases hx:l[posS l f.fUniverse]? with
 | none =>
  simp only
  have hle:l.length≤posS l f.fUniverse:=by simpa using hx
  refine ⟨⟨fun y hy=>?_,?_⟩,fun y hy=>?_⟩
  ·rcases List.mem_append.1 hy with hy | hy
   ·exact hg.rng y hy
   ·exact (hnew y (by simpa using hy)).2
  ·refine List.pairwise_append.2 ⟨hg.asc,by simp,fun y hy z hz=>?_⟩
   obtain ⟨k,hk,rfl⟩:=List.mem_iff_getElem.1 hy
   have:=(hp k _ (List.getElem?_eq_getElem hk)).2 (by omega)
   have hz:z=(⟨f.fUniverse,0,t,1,f.fSlots⟩:NetworkStream):=by simpa using hz
   subst hz;exact this
  ·rcases List.mem_append.1 hy with hy | hy
   ·exact hg.ok y hy
   ·exact (hnew y (by simpa using hy)).1
 | some x =>
  simp only
  obtain ⟨hpl,hxe⟩:=List.getElem?_eq_some_iff.1 hx
  have hxm:=List.mem_of_getElem? hx
  obtain ⟨ok1,ok2,ok3,ok4⟩:=hg.ok x hxm
  by_cases he:x.fUniverse=f.fUniverse
  ·rw[if_pos he]
   simp only
   have hn:((0≤(nextS t f x).1.fSeq∧(nextS t f x).1.fSeq≤255)∧(0≤(nextS t f x).1.fLast∧(nextS t f x).1.fLast≤t)∧(1≤(nextS t f x).1.fTimes∧(nextS t f x).1.fTimes≤3)∧(nextS t f x).1.fSlots.length=512):=by
    have hq:=nextSeq_wi x.fSeq ok1.1
    have hf2:=hf.2
    unfold nextS
    split
    ·exact ⟨hq,⟨ht,Int.le_refl _⟩,by simp,hf2⟩
    ·split
     ·exact ⟨hq,⟨ht,Int.le_refl _⟩,by simp only;omega,ok4⟩
     ·exact ⟨ok1,ok2,ok3,ok4⟩
   refine ⟨⟨fun y hy=>?_,?_⟩,fun y hy=>?_⟩
   ·rcases List.mem_or_eq_of_mem_set hy with hy | rfl
    ·exact hg.rng y hy
    ·rw[nextS_spec];exact hg.rng x hxm
   ·rw[List.pairwise_iff_getElem]
    intro i j hi hj hij
    have hi':i<l.length:=by simpa using hi
    have hj':j<l.length:=by simpa using hj
    have hu:∀ k (hk:k<l.length),((l.set (posS l f.fUniverse) (nextS t f x).1)[k]'(by simpa using hk)).fUniverse=l[k].fUniverse:=fun k hk=>by
     rw[List.getElem_set]
     split
     ·rename_i hpk;subst hpk;rw[nextS_spec,← hxe]
     ·rfl
    rw[hu i hi',hu j hj']
    exact List.pairwise_iff_getElem.1 hg.asc i j hi' hj' hij
   ·rcases List.mem_or_eq_of_mem_set hy with hy | rfl
    ·exact hg.ok y hy
    ·exact hn
  ·rw[if_neg he]
   simp only
   have hnl:¬ x.fUniverse<f.fUniverse:=fun h=>Nat.lt_irrefl _ ((hp _ x hx).1 h)
   have hmem:∀ y,y ∈ l.take (posS l f.fUniverse)++((⟨f.fUniverse,0,t,1,f.fSlots⟩:NetworkStream)::l.drop (posS l f.fUniverse))→y ∈ l∨y=⟨f.fUniverse,0,t,1,f.fSlots⟩:=fun y hy=>by
    rcases List.mem_append.1 hy with hy | hy
    ·exact .inl (List.mem_of_mem_take hy)
    ·rcases List.mem_cons.1 hy with hy | hy
     ·exact .inr hy
     ·exact .inl (List.mem_of_mem_drop hy)
   refine ⟨⟨fun y hy=>?_,?_⟩,fun y hy=>?_⟩
   ·rcases hmem y hy with hy | hy
    ·exact hg.rng y hy
    ·exact (hnew y hy).2
   ·have hlow:∀ y ∈ l.take (posS l f.fUniverse),y.fUniverse<f.fUniverse:=fun y hy=>by
     obtain ⟨k,hk,rfl⟩:=List.mem_iff_getElem.1 hy
     rw[List.length_take] at hk
     rw[List.getElem_take]
     exact (hp k _ (List.getElem?_eq_getElem (by omega))).2 (by omega)
    have hhigh:∀ y ∈ l.drop (posS l f.fUniverse),f.fUniverse<y.fUniverse:=fun y hy=>by
     obtain ⟨k,hk,rfl⟩:=List.mem_iff_getElem.1 hy
     rw[List.length_drop] at hk
     rw[List.getElem_drop]
     have h1:¬ posS l f.fUniverse + k<posS l f.fUniverse:=by omega
     have hk2:posS l f.fUniverse + k<l.length:=by omega
     have h2:¬ l[posS l f.fUniverse + k].fUniverse<f.fUniverse:=fun h=>h1 ((hp (posS l f.fUniverse + k) _ (List.getElem?_eq_getElem hk2)).1 h)
     cases k with
     | zero =>
      simp only[Nat.add_zero] at h2 ⊢
      have:l[posS l f.fUniverse].fUniverse≠f.fUniverse:=by rw[hxe];exact he
      omega
     | succ k =>
      have:=List.pairwise_iff_getElem.1 hg.asc (posS l f.fUniverse) (posS l f.fUniverse + (k + 1)) hpl (by omega) (by omega)
      rw[hxe] at this
      omega
    refine List.pairwise_append.2 ⟨hg.asc.sublist (List.take_sublist _ _),List.pairwise_cons.2 ⟨fun y hy=>hhigh y hy,hg.asc.sublist (List.drop_sublist _ _)⟩,fun y hy z hz=>?_⟩
    have h1:=hlow y hy
    rcases List.mem_cons.1 hz with rfl | hz
    ·exact h1
    ·exact Int.lt_trans h1 (hhigh z hz)
   ·rcases hmem y hy with hy | hy
    ·exact hg.ok y hy
    ·exact (hnew y hy).1
theorem step_len{S:NetworkSender}{t:Int}{f:ApiFrame}{l:List NetworkStream}{out:List NetworkPacket}:(stepS S t f l out).1.length≤l.length + 1∧(stepS S t f l out).2.length≤out.length + 1:=by
 unfold stepS
 split
 ·split
  ·simp only[List.length_set]
   refine ⟨by omega,?_⟩
   split<;>simp
  ·have:=pos_le l f.fUniverse
   simp;omega
 ·simp
def sentS(S:NetworkSender)(t:Int)(frames:List ApiFrame):List NetworkStream×List NetworkPacket:=frames.foldl (fun p f=>stepS S t f p.1 p.2) (S.fStreams,[])
def sendS(S:NetworkSender)(t:Int)(frames:List ApiFrame):NetworkSender×List NetworkPacket×Int :=
 if momentS S t≠0 then (⟨0,0,0,0,[]⟩,[],momentS S t) else if framesS frames≠0 then (⟨0,0,0,0,[]⟩,[],framesS frames)
 else if 0<(sentS S t frames).2.length∧S.fSync≠0 then (⟨S.fSource,S.fPriority,S.fSync,nextSeq S.fPulse,(sentS S t frames).1⟩,(sentS S t frames).2++[⟨S.fSource,0,S.fPriority,S.fPulse,S.fSync,false,[]⟩],0)
 else (⟨S.fSource,S.fPriority,S.fSync,S.fPulse,(sentS S t frames).1⟩,(sentS S t frames).2,0)
theorem right_inv{s:NetworkSender}(h:rightS s=0):namedS s.fSource s.fPriority s.fSync=true∧wi s.fPulse 0 255=true∧s.fStreams.length≤8∧∀ i,i<s.fStreams.length→stErr s.fStreams i=none:=by
 have hl:=right_len h
 unfold rightS at h
 cases h1:namedS s.fSource s.fPriority s.fSync
 ·rw[if_pos h1] at h;cases h
 rw[if_neg (by simp[h1])] at h
 cases h2:wi s.fPulse 0 255
 ·rw[if_pos h2] at h;cases h
 rw[if_neg (by simp[h2]),if_neg (by omega)] at h
 refine ⟨rfl,rfl,hl,fun i hi=>?_⟩
 cases hf:(List.range s.fStreams.length).findSome? (stErr s.fStreams) with
 | none=>exact List.findSome?_eq_none_iff.1 hf i (List.mem_range.2 hi)
 | some e =>
  rw[hf] at h
  simp only[Option.getD_some] at h
  subst h
  obtain ⟨j,_,hj⟩:=List.exists_of_findSome?_eq_some hf
  exfalso
  unfold stErr at hj
  split at hj
  ·cases hj
  ·repeat' split at hj
   all_goals cases hj
theorem adj_pairwise{τ : Type}{l:List τ}{u : τ → Int}(h:∀ i (h1:i + 1<l.length),u l[i]<u l[i + 1]):l.Pairwise fun x y=>u x<u y:=by
 rw[List.pairwise_iff_getElem]
 intro i j hi hj hij
 obtain ⟨d,rfl⟩:∃ d,j=i + 1 + d:=⟨j - i - 1,by omega⟩
 clear hij
 induction d with
 | zero=>exact h i hj
 | succ d ih=>exact Int.lt_trans (ih (by omega)) (h (i + 1 + d) hj)
theorem moment_good{s:NetworkSender}{t:Int}(h:momentS s t=0):rightS s=0∧(0≤t∧t≤10000000)∧Good t s.fStreams:=by
 unfold momentS at h
 by_cases hr:rightS s=0
 ·rw[if_neg (by simpa using hr)] at h
  cases ht:wi t 0 10000000
  ·rw[if_pos ht] at h;cases h
  rw[if_neg (by simp[ht])] at h
  cases ha:s.fStreams.any fun x=>decide (t<x.fLast)
  ·obtain ⟨_,_,hl,hst⟩:=right_inv hr
   have key:∀ i (hi:i<s.fStreams.length),(wi s.fStreams[i].fUniverse 1 8=true∧wi s.fStreams[i].fSeq 0 255=true∧wi s.fStreams[i].fLast 0 10000000=true∧wi s.fStreams[i].fTimes 1 3=true)∧s.fStreams[i].fSlots.length=512 ∧
     (∀ h0:0<i,s.fStreams[i - 1].fUniverse<s.fStreams[i].fUniverse):=fun i hi=>by
    have:=hst i hi
    unfold stErr at this
    rw[List.getElem?_eq_getElem hi] at this
    simp only at this
    split at this
    ·cases this
    rename_i h1
    split at this
    ·cases this
    rename_i h2
    refine ⟨by simpa using h1,by omega,fun h0=>?_⟩
    rw[if_pos h0,List.getElem?_eq_getElem (show i - 1<s.fStreams.length by omega)] at this
    simp only at this
    split at this
    ·cases this
    ·omega
   refine ⟨hr,wi_iff.1 ht,⟨⟨fun x hx=>?_,adj_pairwise fun i h1=>?_⟩,fun x hx=>?_⟩⟩
   ·obtain ⟨i,hi,rfl⟩:=List.mem_iff_getElem.1 hx
    exact wi_iff.1 (key i hi).1.1
   ·exact (key (i + 1) h1).2.2 (by omega)
   ·obtain ⟨i,hi,rfl⟩:=List.mem_iff_getElem.1 hx
    obtain ⟨⟨_,k2,k3,k4⟩,k5,_⟩:=key i hi
    have hn:=List.any_eq_false.1 ha _ hx
    simp only[decide_eq_true_eq,Int.not_lt] at hn
    exact ⟨wi_iff.1 k2,⟨(wi_iff.1 k3).1,hn⟩,wi_iff.1 k4,k5⟩
  ·rw[if_pos ha] at h;cases h
 ·rw[if_pos (by simpa using hr)] at h
  exact absurd h hr
theorem frames_ok{l:List ApiFrame}(h:framesS l=0):l.length≤8∧(∀ f ∈ l,FrOk f)∧l.Pairwise fun x y=>x.fUniverse<y.fUniverse:=by
 unfold framesS at h
 by_cases hl:8<l.length
 ·rw[if_pos hl] at h;cases h
 rw[if_neg hl] at h
 have hst:∀ i,i<l.length→frErr l i=none:=fun i hi=>by
  cases hf:(List.range l.length).findSome? (frErr l) with
  | none=>exact List.findSome?_eq_none_iff.1 hf i (List.mem_range.2 hi)
  | some e =>
   rw[hf] at h
   simp only[Option.getD_some] at h
   subst h
   obtain ⟨j,_,hj⟩:=List.exists_of_findSome?_eq_some hf
   exfalso
   unfold frErr at hj
   split at hj
   ·cases hj
   ·repeat' split at hj
    all_goals cases hj
 have key:∀ i (hi:i<l.length),FrOk l[i]∧(∀ h0:0<i,l[i - 1].fUniverse<l[i].fUniverse):=fun i hi=>by
  have:=hst i hi
  unfold frErr at this
  rw[List.getElem?_eq_getElem hi] at this
  simp only at this
  split at this
  ·cases this
  split at this
  ·cases this
  split at this
  ·cases this
  refine ⟨⟨by omega,by omega⟩,fun h0=>?_⟩
  rw[if_pos h0,List.getElem?_eq_getElem (show i - 1<l.length by omega)] at this
  simp only at this
  split at this
  ·cases this
  ·omega
 refine ⟨by omega,fun f hf=>?_,adj_pairwise fun i h1=>(key (i + 1) h1).2 (by omega)⟩
 obtain ⟨i,hi,rfl⟩:=List.mem_iff_getElem.1 hf
 exact (key i hi).1
theorem f43_eq(S:NetworkSender)(t:Int)(frames:List ApiFrame):f43 S t frames=some (sendS S t frames):=by
 unfold f43 sendS
 rw[f79_eq]
 simp only[Option.bind_some]
 by_cases hm:momentS S t=0
 case neg=>simp[hm]
 rw[if_neg (by simp[hm]),if_neg (by simp[hm]),f80_eq]
 simp only[Option.bind_some]
 by_cases hf:framesS frames=0
 case neg=>simp[hf]
 rw[if_neg (by simp[hf]),if_neg (by simp[hf])]
 obtain ⟨hr,ht,hg⟩:=moment_good hm
 obtain ⟨_,hpu,hsl,_⟩:=right_inv hr
 obtain ⟨hfl,hfo,_⟩:=frames_ok hf
 rw[f81_eq (by omega)]
 simp only[Option.bind_some]
 let acc:Nat→List NetworkStream×List NetworkPacket:=fun k=>(frames.take k).foldl (fun p f=>stepS S t f p.1 p.2) (S.fStreams,[])
 have hsucc:∀ k (hk:k<frames.length),acc (k + 1)=stepS S t frames[k] (acc k).1 (acc k).2:=fun k hk=>by
  simp only[acc]
  rw[List.take_succ_eq_append_getElem hk,List.foldl_append]
  rfl
 have hinv:∀ k,k≤frames.length→Good t (acc k).1∧(acc k).1.length≤8 + k∧(acc k).2.length≤k:=by
  intro k
  induction k with
  | zero=>intro _;exact ⟨hg,by simpa[acc] using hsl,by simp[acc]⟩
  | succ k ih =>
   intro hk
   obtain ⟨i1,i2,i3⟩:=ih (by omega)
   rw[hsucc k (by omega)]
   have:=step_len (S:=S) (t:=t) (f:=frames[k]) (l:=(acc k).1) (out:=(acc k).2)
   generalize acc k=q at *
   obtain ⟨q1,q2⟩:=this
   exact ⟨good_step i1 ht.1 (hfo _ (List.getElem_mem _)),Nat.le_trans q1 (by omega),Nat.le_trans q2 (by omega)⟩
 have hend:acc frames.length=sentS S t frames:=by simp[acc,sentS]
 have hrun:=run_count (L:=f43_L1 frames S t) (e:=sentS S t frames) (fun k=>((k:Int),(acc k).1,(acc k).2)) frames.length (by
  simp only[f43_L1]
  rw[if_neg (by simp),hend]) 0 (Nat.zero_le _) (fun k _ hk=>by
  obtain ⟨i1,i2,i3⟩:=hinv k (by omega)
  have hx:=List.getElem?_eq_getElem hk
  have hw:IntKind.i64.wrap ((k:Int) + 1)=((k + 1:Nat):Int):=by rw[w64 (by omega) (by omega)];omega
  simp only[f43_L1]
  rw[if_pos (by simp;omega),at_nat hx]
  simp only[Option.bind_some]
  rw[C4_eq i1 ht (hfo _ (List.getElem_mem _)).1 (by omega) (by omega)]
  simp only[Option.bind_some,hw,hsucc k hk])
 have h0:(((0:Nat):Int),(acc 0).1,(acc 0).2)=((0:Int),S.fStreams,[]):=by simp[acc]
 rw[h0] at hrun
 rw[hrun]
 have hlen:(sentS S t frames).2.length≤8:=by
  have:=(hinv frames.length (Nat.le_refl _)).2.2
  rw[hend] at this
  omega
 simp only[Option.bind_some,f43_J2,f43_J3]
 by_cases h1:0<(sentS S t frames).2.length
 ·rw[if_pos (by simp;omega)]
  by_cases h2:S.fSync=0
  ·simp[h2]
  ·rw[if_pos (by simp[h2]),app_some (by simp only[List.length_cons,List.length_nil];omega) (by simp only[List.length_cons,List.length_nil];omega),f84_eq hpu]
   simp[h1,h2]
 ·rw[if_neg (by simp only[decide_eq_true_eq];omega)]
  simp[h1]
end Go.Proofs.Ytgfohogbechkkaa.Net
