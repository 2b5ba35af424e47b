import Derived.Test.YtnaemmpcffnbkaaGreatDoorRX3
namespace Go.Proofs.YtnaemmpcffnbkaaGreatDoor
open Go Go.Ab
set_option linter.unusedSimpArgs false
set_option linter.unusedVariables false
theorem nn{a:Int}(h:a=0):¬ (a≠0):=fun k=>k h
theorem f69_eq{xs:List Int}{v:Int}(hm:xs.length≤9223372036854775807):f69 xs v=some (idx xs v):=by
 unfold f69 idx
 rw[run_index (xs:=xs) (v:=v) (fun _=>rfl) hm]
 by_cases he:v ∈ xs<;>simp[he]
theorem idx_nonneg{xs:List Int}{v:Int}:0≤idx xs v↔v ∈ xs:=by unfold idx;split<;>simp[*]
theorem f28_eq{xs:List Int}{v:Int}(hm:xs.length≤9223372036854775807):f28 xs v=some (decide (v ∈ xs)):=by
 unfold f28
 rw[f69_eq hm]
 simp[idx_nonneg]
def scan(seen:List Int):List Int→Int
 | []=>0
 | x::xs=>if x<1∨x > 999 then 2 else if x ∈ seen then 7 else scan (seen++[x]) xs
def checkG(g:ApiGroup):Int:=if g.fNumber<1∨g.fNumber > 1048576 then 2 else if g.fChannels.length > 256 then 5 else scan [] g.fChannels
theorem f89_eq(g:ApiGroup):f89 g=some (checkG g):=by
 unfold f89 checkG
 by_cases h1:g.fNumber<1∨g.fNumber > 1048576
 ·rw[if_pos h1]
  by_cases h:g.fNumber<1
  ·rw[if_pos (by simpa using h)]
  ·rw[if_neg (by simpa using h),if_pos (by simp;omega)]
 rw[if_neg h1,if_neg (by simp;omega),if_neg (by simp;omega)]
 by_cases h2:g.fChannels.length > 256
 ·rw[if_pos h2,if_pos (by simp;omega)]
 rw[if_neg h2,if_neg (by simp;omega)]
 generalize hms:g.fChannels=ms at h2
 obtain ⟨e,h3,h4⟩:=run_ex (L:=f89_L1 g) (s0:=0) (fun e=>(match e with | Sum.inl ()=>some 0 | Sum.inr v=>some v)=some (scan [] ms)) (fun i=>∃ k:Nat,i=k∧k≤ms.length∧scan (ms.take k) (ms.drop k)=scan [] ms) (fun i=>ms.length - i.toNat) ⟨0,rfl,Nat.zero_le _,rfl⟩ (by
  rintro _ ⟨k,rfl,hk,hs⟩
  simp only[f89_L1,hms]
  by_cases hlt:k<ms.length
  ·rw[if_pos (by simpa using hlt),at_nat (List.getElem?_eq_getElem hlt)]
   rw[List.drop_eq_getElem_cons hlt] at hs
   simp only[Option.bind_some,decide_eq_true_eq]
   by_cases c1:ms[k]<1
   ·right;rw[if_pos c1];refine ⟨_,rfl,?_⟩;rw[← hs];simp[scan,c1]
   rw[if_neg c1]
   by_cases c2:999<ms[k]
   ·right;rw[if_pos c2];refine ⟨_,rfl,?_⟩;rw[← hs];simp[scan,c2]
   rw[if_neg c2,slc_some (by omega)]
   simp only[Option.bind_some,Int.toNat_natCast,Int.toNat_zero,List.drop_zero]
   rw[f28_eq (by simp;omega)]
   simp only[Option.bind_some,decide_eq_true_eq]
   by_cases c3:ms[k] ∈ ms.take k
   ·right;rw[if_pos c3];refine ⟨_,rfl,?_⟩;rw[← hs];simp[scan,c1,c2,c3]
   ·left;rw[if_neg c3]
    refine ⟨((k + 1:Nat):Int),by rw[w64 (by omega) (by omega)];rfl,⟨k + 1,rfl,hlt,?_⟩,by simp;omega⟩
    rw[← hs,List.take_succ_eq_append_getElem hlt,scan,if_neg (by omega),if_neg c3]
  ·right
   rw[if_neg (by simpa using hlt)]
   refine ⟨_,rfl,?_⟩
   rw[← hs,List.drop_eq_nil_of_le (by omega)]
   rfl)
 rw[h3,Option.bind_some]
 exact h4
theorem check_len{g:ApiGroup}(h:checkG g=0):g.fChannels.length≤256:=by
 unfold checkG at h
 split at h
 ·cases h
 ·split at h
  ·cases h
  ·omega
def goT:Option ApiGroup→List ApiGroup→Int
 | _,[]=>0
 | p,g::gs=>if checkG g≠0 then checkG g else match p with
  | some q=>if g.fNumber≤q.fNumber then 9 else goT (some g) gs
  | none=>goT (some g) gs
theorem goT_cons(p:Option ApiGroup)(g:ApiGroup)(gs:List ApiGroup):goT p (g::gs)=if checkG g≠0 then checkG g else match p with
  | some q=>if g.fNumber≤q.fNumber then 9 else goT (some g) gs
  | none=>goT (some g) gs:=by cases p<;>rfl
def tableS(l:List ApiGroup):Int:=if 32<l.length then 5 else goT none l
def befT(l:List ApiGroup):Nat→Option ApiGroup
 | 0=>none
 | k + 1=>l[k]?
theorem f43_eq(l:List ApiGroup):f43 l=some (tableS l):=by
 unfold f43 tableS
 by_cases h2:32<l.length
 ·rw[if_pos h2,if_pos (by simp;omega)]
 rw[if_neg h2,if_neg (by simp;omega)]
 obtain ⟨e,h3,h4⟩:=run_ex (L:=f43_L1 l) (s0:=0) (fun e=>(match e with | Sum.inl ()=>some 0 | Sum.inr v=>some v)=some (goT none l)) (fun i=>∃ k:Nat,i=k∧k≤l.length∧goT (befT l k) (l.drop k)=goT none l) (fun i=>l.length - i.toNat) ⟨0,rfl,Nat.zero_le _,rfl⟩ (by
  rintro _ ⟨k,rfl,hk,hs⟩
  simp only[f43_L1]
  by_cases hlt:k<l.length
  ·rw[if_pos (by simpa using hlt),at_nat (List.getElem?_eq_getElem hlt)]
   rw[List.drop_eq_getElem_cons hlt,goT_cons] at hs
   simp only[Option.bind_some,decide_eq_true_eq,f89_eq]
   by_cases c1:checkG l[k]=0
   ·rw[if_neg (by simpa using c1)]
    rw[if_neg (by simpa using c1)] at hs
    have hw:IntKind.i64.wrap ((k:Int) + 1)=((k + 1:Nat):Int):=by rw[w64 (by omega) (by omega)];rfl
    cases k with
    | zero =>
     left
     rw[if_neg (by omega),hw]
     exact ⟨_,rfl,⟨1,rfl,hlt,by simpa[befT,List.getElem?_eq_getElem hlt] using hs⟩,by simp;omega⟩
    | succ k =>
     rw[if_pos (by omega),w64 (a:=((k + 1:Nat):Int) - 1) (by omega) (by omega),show ((k + 1:Nat):Int) - 1=(k:Int) by omega,at_nat (List.getElem?_eq_getElem (by omega:k<l.length)),Option.bind_some]
     simp only[befT,List.getElem?_eq_getElem (by omega:k<l.length)] at hs
     by_cases c2:l[k + 1].fNumber≤l[k].fNumber
     ·right
      rw[if_pos c2] at hs ⊢
      exact ⟨_,rfl,by rw[← hs]⟩
     ·left
      rw[if_neg c2] at hs ⊢
      rw[hw]
      exact ⟨_,rfl,⟨k + 2,rfl,hlt,by simpa[befT,List.getElem?_eq_getElem hlt] using hs⟩,by simp;omega⟩
   ·right
    rw[if_pos (by simpa using c1)] at hs ⊢
    exact ⟨_,rfl,by rw[← hs]⟩
  ·right
   rw[if_neg (by simpa using hlt)]
   refine ⟨_,rfl,?_⟩
   rw[← hs,List.drop_eq_nil_of_le (by omega)]
   rfl)
 rw[h3,Option.bind_some]
 exact h4
structure Tab (l:List ApiGroup):Prop where
 len:l.length≤32
 chk:∀ g ∈ l,checkG g=0
 asc:l.Pairwise fun a b=>a.fNumber<b.fNumber
theorem goT_chk:∀ {l:List ApiGroup}{p:Option ApiGroup},goT p l=0→∀ g ∈ l,checkG g=0
 | [],_,_,g,hg=>by simp at hg
 | x::xs,p,h,g,hg=>by
  rw[goT_cons] at h
  by_cases hc:checkG x=0
  ·rw[if_neg (by simpa using hc)] at h
   rcases List.mem_cons.1 hg with rfl | hg
   ·exact hc
   ·cases p with
    | none=>exact goT_chk h g hg
    | some q =>
     dsimp only at h
     split at h
     ·cases h
     ·exact goT_chk h g hg
  ·rw[if_pos hc] at h;exact absurd h hc
theorem goT_asc:∀ {l:List ApiGroup}{q:ApiGroup},goT (some q) l=0→(q::l).Pairwise fun a b=>a.fNumber<b.fNumber
 | [],q,_=>by simp
 | x::xs,q,h=>by
  rw[goT_cons] at h
  split at h
  ·rename_i hc;exact absurd h hc
  ·dsimp only at h
   split at h
   ·cases h
   ·rename_i hlt
    have:=goT_asc h
    rw[List.pairwise_cons] at this ⊢
    refine ⟨fun y hy=>?_,List.pairwise_cons.2 this⟩
    rcases List.mem_cons.1 hy with rfl | hy
    ·omega
    ·have:=this.1 y hy;omega
theorem tab_of{l:List ApiGroup}(h:tableS l=0):Tab l:=by
 unfold tableS at h
 split at h
 ·cases h
 ·rename_i hl
  refine ⟨by omega,goT_chk h,?_⟩
  cases l with
  | nil=>exact List.Pairwise.nil
  | cons x xs =>
   rw[goT_cons] at h
   split at h
   ·rename_i hc;exact absurd h hc
   ·exact goT_asc h
def cN(n:Int)(g:ApiGroup):Int:=if g.fNumber<n then -1 else if n<g.fNumber then 1 else 0
theorem cN_neg{n:Int}{g:ApiGroup}:cN n g<0↔g.fNumber<n:=by unfold cN;split<;>simp_all<;>split<;>omega
theorem cN_zero{n:Int}{g:ApiGroup}:cN n g=0↔g.fNumber=n:=by
 unfold cN
 split
 ·simp;omega
 ·split
  ·simp;omega
  ·simp;omega
theorem f63p_eq(g:ApiGroup)(n:Int):f183p g n=some (cN n g):=by
 unfold f183p f129 f105 f157 cN
 simp only[Option.bind_some,ne_eq,not_true_eq_false,decide_false,Bool.false_eq_true,if_false,decide_eq_true_eq]
 split
 ·rfl
 ·split<;>rfl
theorem f128_eq{l:List ApiGroup}(h:Tab l)(n:Int):f128_129 l n=some ((posB (cN n) l:Int),hasB (cN n) l):=by
 unfold f128_129 f182_183
 have hl:=h.len
 rw[run_bsearch (L:=f182_183_L1 l n) (cmp:=fun x=>f183p x n) (c:=cN n) (fun _ _=>rfl) (fun x _=>f63p_eq x n) (h.asc.imp fun {a b} hab hb=>by rw[cN_neg] at hb ⊢;omega) (by omega)]
 have hp:=posB_le (cN n) l
 simp only[Option.bind_some]
 unfold hasB
 by_cases hlt:posB (cN n) l<l.length
 ·rw[if_pos (by simpa using hlt),at_nat (List.getElem?_eq_getElem hlt),List.getElem?_eq_getElem hlt]
  simp only[Option.bind_some,f63p_eq]
 ·rw[if_neg (by simpa using hlt),List.getElem?_eq_none (by omega)]
  rfl
def getS(l:List ApiGroup)(n:Int):Option ApiGroup:=l.find? fun g=>decide (g.fNumber=n)
def findS(l:List ApiGroup)(n:Int):ApiGroup×Int:=if tableS l≠0 then (⟨0,[]⟩,tableS l) else match getS l n with
 | some g=>(g,0)
 | none=>(⟨0,[]⟩,6)
theorem pos_cons{n:Int}{x:ApiGroup}{xs:List ApiGroup}:posB (cN n) (x::xs)=if x.fNumber<n then posB (cN n) xs + 1 else 0:=by
 by_cases h:x.fNumber<n
 ·rw[if_pos h,posB_cons_neg (cN_neg.2 h)]
 ·rw[if_neg h,posB_cons_pos (fun hh=>h (cN_neg.1 hh))]
theorem has_cons{n:Int}{x:ApiGroup}{xs:List ApiGroup}:hasB (cN n) (x::xs)=if x.fNumber<n then hasB (cN n) xs else decide (x.fNumber=n):=by
 unfold hasB
 rw[pos_cons]
 by_cases h:x.fNumber<n
 ·rw[if_pos h,if_pos h,List.getElem?_cons_succ]
 ·rw[if_neg h,if_neg h]
  simp only[List.getElem?_cons_zero,cN_zero]
theorem get_pos{l:List ApiGroup}{n:Int}(h:l.Pairwise fun a b=>a.fNumber<b.fNumber):getS l n=if hasB (cN n) l then l[posB (cN n) l]? else none:=by
 induction l with
 | nil=>rfl
 | cons x xs ih =>
  rw[List.pairwise_cons] at h
  rw[has_cons,pos_cons]
  unfold getS at ih ⊢
  by_cases h1:x.fNumber<n
  ·rw[if_pos h1,if_pos h1,List.getElem?_cons_succ,List.find?_cons_of_neg (by simp;omega)]
   exact ih h.2
  ·rw[if_neg h1,if_neg h1]
   by_cases h2:x.fNumber=n
   ·simp[h2]
   ·rw[List.find?_cons_of_neg (by simpa using h2)]
    simp only[h2,decide_false,Bool.false_eq_true,if_false]
    rw[List.find?_eq_none]
    intro y hy
    have:=h.1 y hy
    simp;omega
theorem f91_eq(l:List ApiGroup)(n:Int):f91 l n=some (findS l n):=by
 unfold f91 findS
 simp only[f43_eq,Option.bind_some,decide_eq_true_eq]
 by_cases h0:tableS l=0
 ·rw[if_neg (nn h0),if_neg (nn h0)]
  have ht:=tab_of h0
  rw[f128_eq ht,get_pos ht.asc]
  simp only[Option.bind_some]
  by_cases hh:hasB (cN n) l=true
  ·rw[hh]
   simp only[Bool.not_true,Bool.false_eq_true,if_false,if_true]
   have hlt:posB (cN n) l<l.length:=by
    by_cases hc:posB (cN n) l<l.length
    ·exact hc
    ·unfold hasB at hh;rw[List.getElem?_eq_none (by omega)] at hh;cases hh
   rw[at_nat (List.getElem?_eq_getElem hlt),List.getElem?_eq_getElem hlt]
   rfl
  ·have hf:hasB (cN n) l=false:=by simpa using hh
   rw[hf]
   rfl
 ·rw[if_pos h0,if_pos h0]
def termE(x:ApiSelect):Int :=
 if x.fOp≠0∧x.fOp≠1 then 1 else if x.fGroup≠0 then (if x.fFrom≠0∨x.fTo≠0 then 3 else if x.fGroup<1∨1048576<x.fGroup then 2 else 0)
 else if x.fFrom<1∨999<x.fFrom∨x.fTo<1∨999<x.fTo then 2 else if x.fTo<x.fFrom then 9 else 0
theorem f56_eq(c:Int):f56 c=some (decide (1≤c∧c≤999)):=by
 unfold f56
 by_cases h:1≤c<;>simp[h]
theorem f51_eq(x:ApiSelect):f51 x=some (termE x):=by
 obtain ⟨op,g,a,b⟩:=x
 unfold f51 termE
 simp only[f56_eq,Option.bind_some,decide_eq_true_eq,Bool.not_eq_true',decide_eq_false_iff_not]
 by_cases h1:op=0
 ·subst h1
  by_cases h2:g=0
  ·subst h2
   by_cases h3:1≤a∧a≤999
   ·by_cases h4:1≤b∧b≤999
    ·by_cases h5:b<a
     ·simp[h3,h4,h5]<;>omega
     ·simp[h3,h4,h5]<;>omega
    ·simp[h3,h4]<;>omega
   ·simp[h3]<;>omega
  ·by_cases h3:a=0<;>by_cases h4:b=0<;>by_cases h5:g<0<;>by_cases h6:1048576<g<;>simp[h2,h3,h4,h5,h6]<;>omega
 ·by_cases h1':op=1
  ·subst h1'
   by_cases h2:g=0
   ·subst h2
    by_cases h3:1≤a∧a≤999
    ·by_cases h4:1≤b∧b≤999
     ·by_cases h5:b<a
      ·simp[h3,h4,h5]<;>omega
      ·simp[h3,h4,h5]<;>omega
     ·simp[h3,h4]<;>omega
    ·simp[h3]<;>omega
   ·by_cases h3:a=0<;>by_cases h4:b=0<;>by_cases h5:g<0<;>by_cases h6:1048576<g<;>simp[h2,h3,h4,h5,h6]<;>omega
  ·simp[h1,h1']
def selS(l:List ApiSelect):Int:=if 256<l.length then 5 else goC termE (fun _ _=>true) (fun _=>0) none l
theorem badC_true{τ : Type}(a:Option τ)(x : τ):badC (fun _ _=>true) a x=false:=by cases a<;>rfl
theorem f15_eq(l:List ApiSelect):f15 l=some (selS l):=by
 unfold f15 selS
 by_cases h:256<l.length
 ·rw[if_pos (by simp;omega),if_pos h]
 rw[if_neg (by simp;omega),if_neg h]
 refine run_goC (L:=f15_L1 l) termE (fun _ _=>true) (fun _=>0) (by omega) (fun x hx hlt hat=>?_) (fun k q x hq hx hlt hat hpr hpos hw v1 v2=>?_) (by simp only[f15_L1];rw[at_end];rfl)
 ·simp only[f15_L1,stepC,badC,f51_eq]
  rw[if_pos hlt,hat]
  simp only[Option.bind_some]
  by_cases h1:termE x=0<;>simp[h1,roundC,IntKind.wrap_i64]
 ·simp only[f15_L1,stepC,badC_true,f51_eq]
  rw[if_pos hlt,hat,hw]
  simp only[Option.bind_some]
  by_cases h1:termE x=0<;>simp[h1,roundC]
structure Sel (l:List ApiSelect):Prop where
 len:l.length≤256
 chk:∀ x ∈ l,termE x=0
theorem sel_of{l:List ApiSelect}(h:selS l=0):Sel l:=by
 unfold selS at h
 split at h
 ·cases h
 ·exact ⟨by omega,fun x hx=>(goC_chk h x hx).1⟩
def rangeL(a b:Int):List Int:=(List.range (b + 1 - a).toNat).map fun (i:Nat)=>a + (i:Int)
theorem rangeL_len(a b:Int):(rangeL a b).length=(b + 1 - a).toNat:=by simp[rangeL]
theorem rangeL_mem{a b x:Int}:x ∈ rangeL a b↔a≤x∧x≤b:=by
 unfold rangeL
 rw[List.mem_map]
 constructor
 ·rintro ⟨i,hi,rfl⟩
  rw[List.mem_range] at hi
  omega
 ·rintro ⟨h1,h2⟩
  exact ⟨(x - a).toNat,by rw[List.mem_range];omega,by omega⟩
theorem rangeL_succ(a:Int)(k:Nat):(List.range (k + 1)).map (fun (i:Nat)=>a + (i:Int))=(List.range k).map (fun (i:Nat)=>a + (i:Int))++[a + (k:Int)]:=by
 rw[List.range_succ,List.map_append];rfl
def memS(groups:List ApiGroup)(x:ApiSelect):Option (List Int):=if x.fGroup≠0 then (getS groups x.fGroup).map (·.fChannels) else some (rangeL x.fFrom x.fTo)
theorem term_range{x:ApiSelect}(h:termE x=0)(hg:x.fGroup=0):1≤x.fFrom∧x.fFrom≤x.fTo∧x.fTo≤999:=by
 unfold termE at h
 split at h
 ·cases h
 ·rw[if_neg (by simpa using hg)] at h
  split at h
  ·cases h
  ·split at h
   ·cases h
   ·omega
theorem term_op{x:ApiSelect}(h:termE x=0):x.fOp=0∨x.fOp=1:=by
 unfold termE at h
 split at h
 ·cases h
 ·omega
theorem f48_eq{groups:List ApiGroup}(ht:tableS groups=0){x:ApiSelect}(hx:termE x=0):∃ m,f48 x groups=some m∧match memS groups x with
  | some c=>m=(c,0)
  | none=>m.2=6:=by
 unfold f48 memS
 by_cases hg:x.fGroup=0
 ·obtain ⟨h1,h2,h3⟩:=term_range hx hg
  rw[if_neg (by simpa using hg),if_neg (by simpa using hg)]
  have hrun:Lp.run (f48_L1 x) (x.fFrom,[])=some (rangeL x.fFrom x.fTo):=by
   have:=run_count (L:=f48_L1 x) (e:=rangeL x.fFrom x.fTo) (fun k=>(x.fFrom + (k:Int),(List.range k).map fun (i:Nat)=>x.fFrom + (i:Int))) (x.fTo + 1 - x.fFrom).toNat ?_ 0 (by omega) fun k _ hk=>?_
   ·simpa using this
   ·simp only[f48_L1]
    rw[if_neg (by simp;omega)]
    rfl
   ·simp only[f48_L1]
    rw[if_pos (by simp;omega),app_some (by simp;omega) (by simp;omega),Option.bind_some,← rangeL_succ,w64 (by omega) (by omega),Int.add_assoc]
    rfl
  rw[hrun]
  exact ⟨_,rfl,rfl⟩
 ·rw[if_pos (by simpa using hg),if_pos (by simpa using hg),f91_eq]
  unfold findS
  rw[if_neg (by simpa using ht)]
  cases getS groups x.fGroup with
  | none=>exact ⟨_,rfl,rfl⟩
  | some g=>exact ⟨_,rfl,rfl⟩
def add1(out:List Int)(c:Int):List Int:=if c ∈ out then out else out++[c]
def applyS(op:Int)(out m:List Int):List Int:=if op=0 then m.foldl add1 out else out.filter fun x=>decide (x ∉ m)
theorem add1_len(out:List Int)(c:Int):(add1 out c).length≤out.length + 1:=by
 unfold add1;split<;>simp
theorem add_len:∀ (m out:List Int),(m.foldl add1 out).length≤out.length + m.length
 | [],out=>by simp
 | c::m,out=>by
  have h1:=add_len m (add1 out c)
  have h2:=add1_len out c
  simp only[List.foldl_cons,List.length_cons]
  omega
theorem apply_len(op:Int)(out m:List Int):(applyS op out m).length≤out.length + m.length:=by
 unfold applyS
 split
 ·exact add_len m out
 ·have:=List.length_filter_le (fun x=>decide (x ∉ m)) out
  omega
theorem filter_drop(m:List Int):∀ out:List Int,m.foldl (fun o c=>o.filter fun x => !decide (x=c)) out=out.filter fun x=>decide (x ∉ m):=by
 induction m with
 | nil=>intro out;exact (List.filter_eq_self.2 fun _ _=>by simp).symm
 | cons c m ih =>
  intro out
  rw[List.foldl_cons,ih,List.filter_filter]
  refine List.filter_congr fun x _=>?_
  simp only[List.mem_cons,not_or]
  by_cases h1:x=c<;>by_cases h2:x ∈ m<;>simp[h1,h2]
theorem f13_L2_eq{r:List Int×Int}{x:ApiSelect}{v:Int}{l:List ApiSelect}{gs:List ApiGroup}{out:List Int}(ho:x.fOp=0∨x.fOp=1)(hr:r.1.length≤1000)(hl:out.length≤1000000) :
  Lp.run (f13_L2 r x v l gs) (0,out)=some (applyS x.fOp out r.1):=by
 generalize hm:r.1=m at hr
 have hrun:=run_walk (L:=f13_L2 r x v l gs) m (fun k (a:List Int)=>((k:Int),a)) (fun _ a c=>.inl (if x.fOp=0 then add1 a c else a.filter fun y => !decide (y=c))) (fun a=>a) (fun k a=>a.length≤out.length + k) (fun k a c hc hI=>by
   have hk:=getElem?_lt hc
   refine ⟨?_,fun a' ha'=>?_⟩
   ·simp only[f13_L2,hm]
    rw[if_pos (at_lt hc),at_nat hc,Option.bind_some,w64_succ (by omega)]
    rcases ho with ho | ho
    ·rw[if_pos (by simpa using ho),if_pos ho]
     simp only[f13_C4]
     rw[f28_eq (by omega),Option.bind_some]
     by_cases hin:c ∈ a
     ·rw[if_neg (by simpa using hin)]
      simp[roundL,add1,hin]
     ·rw[if_pos (by simpa using hin),app_some (by simp;omega) (by simp;omega)]
      simp[roundL,add1,hin]
    ·rw[if_neg (by simp[ho]),if_pos (by simpa using ho),if_neg (by omega)]
     simp only[f13_C3]
     have hd:delf? (fun y=>f47p y c) a=some (a.filter fun y => !decide (y=c)):=delf_some (fun y _=>rfl) (by omega)
     rw[hd]
     rfl
   ·injection ha' with ha'
    subst ha'
    split
    ·have:=add1_len a c;omega
    ·have:=List.length_filter_le (fun y => !decide (y=c)) a;omega)
  (fun a _=>by simp only[f13_L2,hm];rw[at_end];rfl) out (by simp)
 rw[show ((0,out):Int×List Int)=(((0:Nat):Int),out) from rfl,hrun]
 congr 1
 have hw:∀ (g:List Int→Int→List Int) (ys:List Int) (k:Nat) (acc:List Int),walkL (fun _ a c=>.inl (g a c)) (fun a=>a) k acc ys=ys.foldl g acc:=fun g ys=>by
  induction ys with
  | nil=>intro k acc;rfl
  | cons y ys ih=>intro k acc;simp only[walkL,List.foldl_cons];exact ih (k + 1) _
 rw[hw]
 unfold applyS
 split
 ·rfl
 ·exact filter_drop m out
def chosenS(groups:List ApiGroup):List Int→List ApiSelect→Option (List Int)
 | out,[]=>some out
 | out,x::xs=>match memS groups x with
  | none=>none
  | some m=>chosenS groups (applyS x.fOp out m) xs
def channelsS(l:List ApiSelect)(groups:List ApiGroup):List Int×Int:=if selS l≠0 then ([],selS l) else if tableS groups≠0 then ([],tableS groups) else match chosenS groups [] l with
 | some o=>(o,0)
 | none=>([],6)
theorem mem_len{groups:List ApiGroup}(ht:Tab groups){x:ApiSelect}(hx:termE x=0){m:List Int}(h:memS groups x=some m):m.length≤999:=by
 unfold memS at h
 by_cases hg:x.fGroup=0
 ·obtain ⟨h1,h2,h3⟩:=term_range hx hg
  rw[if_neg (by simpa using hg)] at h
  injection h with h
  subst h
  rw[rangeL_len]
  omega
 ·rw[if_pos hg] at h
  cases hgs:getS groups x.fGroup with
  | none=>rw[hgs] at h;cases h
  | some g =>
   rw[hgs] at h
   injection h with h
   subst h
   have:=check_len (ht.chk g (List.mem_of_find?_eq_some hgs))
   show g.fChannels.length≤999
   omega
theorem f13_L1_eq{l:List ApiSelect}{groups:List ApiGroup}(hl:Sel l)(ht0:tableS groups=0):Lp.run (f13_L1 l groups) (0,[])=some (match chosenS groups [] l with | some o=>.inl o | none=>.inr 6):=by
 have ht:=tab_of ht0
 have hlen:=hl.len
 have hrun:=run_walk (L:=f13_L1 l groups) l (fun k (a:List Int)=>((k:Int),a)) (fun _ a x=>match memS groups x with | none=>.inr (.inr 6) | some m=>.inl (applyS x.fOp a m)) (fun a=>.inl a) (fun k a=>a.length≤999 * k) (fun k a x hx hI=>by
   have hk:=getElem?_lt hx
   have hxm:=getElem?_mem hx
   have hc:=hl.chk x hxm
   obtain ⟨m,h1,h2⟩:=f48_eq ht0 hc
   refine ⟨?_,fun a' ha'=>?_⟩
   ·simp only[f13_L1]
    rw[if_pos (at_lt hx),at_nat hx,Option.bind_some,h1,Option.bind_some,w64_succ (by omega)]
    cases hm:memS groups x with
    | none =>
     rw[hm] at h2
     dsimp only at h2
     rw[if_pos (by rw[h2];rfl),h2]
     rfl
    | some c =>
     rw[hm] at h2
     dsimp only at h2
     subst h2
     have hml:=mem_len ht hc hm
     rw[if_neg (by simp),f13_L2_eq (term_op hc) (by dsimp only;omega) (by omega),Option.bind_some]
     rfl
   ·cases hm:memS groups x with
    | none=>rw[hm] at ha';cases ha'
    | some c =>
     rw[hm] at ha'
     injection ha' with ha'
     subst ha'
     have hml:=mem_len ht hc hm
     have:=apply_len x.fOp a c
     omega)
  (fun a _=>by simp only[f13_L1];rw[at_end];rfl) [] (by simp)
 rw[show ((0,[]):Int×List Int)=(((0:Nat):Int),[]) from rfl,hrun]
 congr 1
 have hw:∀ (xs:List ApiSelect) (k:Nat) (acc:List Int),walkL (fun _ a x=>match memS groups x with | none=>.inr (.inr 6) | some m=>.inl (applyS x.fOp a m)) (fun a=>(.inl a:List Int⊕Int)) k acc xs=match chosenS groups acc xs with | some o=>.inl o | none=>.inr 6:=fun xs=>by
  induction xs with
  | nil=>intro k acc;rfl
  | cons x xs ih =>
   intro k acc
   simp only[walkL,chosenS]
   cases memS groups x with
   | none=>rfl
   | some m=>exact ih (k + 1) _
 exact hw l 0 []
theorem f13_eq(l:List ApiSelect)(groups:List ApiGroup):f13 l groups=some (channelsS l groups):=by
 unfold f13 channelsS
 rw[f15_eq,Option.bind_some]
 by_cases h1:selS l=0
 ·rw[if_neg (by simpa using h1),if_neg (nn h1),f43_eq,Option.bind_some]
  by_cases h2:tableS groups=0
  ·rw[if_neg (by simpa using h2),if_neg (nn h2),f13_L1_eq (sel_of h1) h2,Option.bind_some]
   cases chosenS groups [] l<;>rfl
  ·rw[if_pos (by simpa using h2),if_pos h2]
 ·rw[if_pos (by simpa using h1),if_pos h1]
theorem chosen_len{groups:List ApiGroup}(ht:Tab groups):∀ (l:List ApiSelect) (out o:List Int),(∀ x ∈ l,termE x=0)→chosenS groups out l=some o→o.length≤out.length + 999 * l.length
 | [],out,o,_,h=>by injection h with h;subst h;simp
 | x::xs,out,o,hc,h=>by
  simp only[chosenS] at h
  cases hm:memS groups x with
  | none=>rw[hm] at h;cases h
  | some m =>
   rw[hm] at h
   have h1:=chosen_len ht xs _ o (fun y hy=>hc y (List.mem_cons_of_mem _ hy)) h
   have h2:=mem_len ht (hc x (List.mem_cons_self ..)) hm
   have h3:=apply_len x.fOp out m
   rw[List.length_cons]
   omega
theorem channels_len(l:List ApiSelect)(groups:List ApiGroup):(channelsS l groups).1.length≤300000:=by
 unfold channelsS
 by_cases h1:selS l=0
 ·rw[if_neg (nn h1)]
  by_cases h2:tableS groups=0
  ·rw[if_neg (nn h2)]
   cases h:chosenS groups [] l with
   | none=>simp
   | some o =>
    have:=chosen_len (tab_of h2) l [] o (sel_of h1).chk h
    have:=(sel_of h1).len
    simp only[List.length_nil] at *
    show o.length≤300000
    omega
  ·rw[if_pos h2];simp
 ·rw[if_pos h1];simp
theorem f12_eq:f12=some true:=by kernel_rfl
end Go.Proofs.YtnaemmpcffnbkaaGreatDoor
