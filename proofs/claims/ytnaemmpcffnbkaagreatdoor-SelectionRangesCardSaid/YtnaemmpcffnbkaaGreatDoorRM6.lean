import Derived.Test.YtnaemmpcffnbkaaGreatDoorRM4
set_option linter.unusedSimpArgs false
set_option linter.unusedVariables false
namespace Go.Ab
open Go
variable {P:Program}
section
variable {τ : Type}
def insR(c : τ → τ → Int)(x : τ):List τ → List τ
 | []=>[x]
 | y::ys=>if c x y<0 then y::insR c x ys else x::y::ys
def isortL(c : τ → τ → Int)(xs:List τ):List τ := (xs.foldl (fun acc x=>insR c x acc) []).reverse
theorem insR_perm(c : τ → τ → Int)(x : τ):∀ l:List τ,(insR c x l).Perm (x::l)
 | []=>List.Perm.refl _
 | y::ys=>by
  unfold insR
  split
  ·exact ((insR_perm c x ys).cons y).trans (List.Perm.swap x y ys)
  ·exact List.Perm.refl _
theorem isortR_perm(c : τ → τ → Int):∀ (xs acc:List τ),(xs.foldl (fun acc x=>insR c x acc) acc).Perm (xs++acc)
 | [],acc=>List.Perm.refl _
 | x::xs,acc=>by
  rw[List.foldl_cons]
  exact (isortR_perm c xs _).trans ((((insR_perm c x acc).append_left xs).trans List.perm_middle))
theorem isortL_perm(c : τ → τ → Int)(xs:List τ):(isortL c xs).Perm xs:=by
 unfold isortL
 refine (List.reverse_perm _).trans ?_
 have:=isortR_perm c xs []
 rwa [List.append_nil] at this
theorem isortL_length(c : τ → τ → Int)(xs:List τ):(isortL c xs).length=xs.length:=(isortL_perm c xs).length_eq
theorem insR_append{c : τ → τ → Int}{x : τ}:∀ {B A:List τ},(∀ y ∈ B,c x y<0)→insR c x (B++A)=B++insR c x A
 | [],_,_=>rfl
 | y::B,A,h=>by
  rw[List.cons_append,insR,if_pos (h y (List.mem_cons_self ..)),insR_append fun z hz=>h z (List.mem_cons_of_mem _ hz)]
  rfl
theorem insR_stop{c : τ → τ → Int}{x y : τ}{A:List τ}(h:¬ c x y<0):insR c x (y::A)=x::y::A:=by rw[insR,if_neg h]
end
def isT(e:Nat):C:=.reg [iI 18 (.mv (.t 9)),iI 19 (.mv (.t 1)),iI 20 (.bin .gtr (.t 18) (.t 19)),iI 21 (.mv (.t 20)),iG (some 22) 21 true (.mv (.t 3)),iG (some 23) 21 true (.mv (.t 0)),iG (some 24) 21 true (.mv (.t 9)),iG (some 25) 21 true (.iaddr e (.t 23) (.t 24)),iG (some 26) 21 true (.load e (.t 25)),iG (some 27) 21 true (.mv (.t 0)),iG (some 28) 21 true (.mv (.t 9)),iG (some 29) 21 true (.bin .sub (.t 28) (.c (.int .i64 1))),iG (some 30) 21 true (.iaddr e (.t 27) (.t 29)),iG (some 31) 21 true (.load e (.t 30)),iG (some 32) 21 true (.call (.t 22) [(.t 26),(.t 31)]),iG (some 33) 21 true (.bin .lss (.t 32) (.c (.int .i64 0))),iI 34 (.pick (.t 21) (.t 33) (.c (.bool false)))]
def isS(e:Nat):C:=.reg [iI 37 (.mv (.t 0)),iI 38 (.mv (.t 9)),iI 39 (.mv (.t 0)),iI 40 (.mv (.t 9)),iI 41 (.bin .sub (.t 40) (.c (.int .i64 1))),iI 42 (.mv (.t 0)),iI 43 (.mv (.t 9)),iI 44 (.bin .sub (.t 43) (.c (.int .i64 1))),iI 45 (.iaddr e (.t 42) (.t 44)),iI 46 (.load e (.t 45)),iI 47 (.mv (.t 0)),iI 48 (.mv (.t 9)),iI 49 (.iaddr e (.t 47) (.t 48)),iI 50 (.load e (.t 49)),iI 51 (.iaddr e (.t 37) (.t 38)),iN (.store e (.t 51) (.t 46)),iI 52 (.iaddr e (.t 39) (.t 41)),iN (.store e (.t 52) (.t 50))]
def isI(e:Nat):C:=.seq (.seq (isT e) (.cond (.t 34) .skip (.exit 2))) (.seq (.block 3 (isS e)) (.reg [iI 35 (.mv (.t 9)),iI 36 (.bin .sub (.t 35) (.c (.int .i64 1))),iI 9 (.mv (.t 36))]))
def isO(e:Nat):C:=.seq (.seq (.reg [iI 12 (.mv (.t 8)),iI 13 (.mv (.t 2)),iI 14 (.bin .lss (.t 12) (.t 13))]) (.cond (.t 14) .skip (.exit 0))) (.seq (.block 1 (.seq (.reg [iI 17 (.mv (.t 8)),iI 9 (.mv (.t 17))]) (.block 2 (.loop (isI e))))) (.reg [iI 15 (.mv (.t 8)),iI 16 (.bin .add (.t 15) (.c (.int .i64 1))),iI 8 (.mv (.t 16))]))
def isC(e:Nat):C:=.seq (.reg [iI 10 (.mv (.t 1)),iI 11 (.bin .add (.t 10) (.c (.int .i64 1))),iI 8 (.mv (.t 11))]) (.block 0 (.loop (isO e)))
section
variable {n lo:Nat}{Q:Ex→St→Prop}{τ : Type}{enc : τ → AV}{e:Nat}[IsEnc e enc]
def midL(A:List τ)(x : τ)(B rest:List τ):List τ := A.reverse++x::(B.reverse++rest)
theorem midL_at(A:List τ)(x : τ)(B rest:List τ):(midL A x B rest)[A.length]? = some x:=by
 unfold midL
 rw[List.getElem?_append_right (by simp),List.length_reverse,Nat.sub_self]
 rfl
theorem midL_prev(y : τ)(A:List τ)(x : τ)(B rest:List τ):(midL (y::A) x B rest)[A.length]? = some y:=by
 unfold midL
 rw[List.reverse_cons,List.append_assoc,List.getElem?_append_right (by simp),List.length_reverse,Nat.sub_self]
 rfl
theorem midL_swap(y : τ)(A:List τ)(x : τ)(B rest:List τ):((midL (y::A) x B rest).set (A.length + 1) y).set A.length x=midL A x (B++[y]) rest:=by
 unfold midL
 have h1:(y::A).reverse++x::(B.reverse++rest)=A.reverse++(y::x::(B.reverse++rest)):=by simp
 rw[h1,List.set_append_right _ _ (by simp),List.set_append_right _ _ (by simp),List.length_reverse]
 rw[show A.length + 1 - A.length=1 by omega,Nat.sub_self]
 simp
theorem midL_length(A:List τ)(x : τ)(B rest:List τ):(midL A x B rest).length=A.length + 1 + B.length + rest.length:=by
 unfold midL;simp;omega
set_option maxHeartbeats 4000000 in
theorem isC_walk{b m kf:Nat}{caps:List AV}{xs:List τ}{h:Hp}{c : τ → τ → Int}(hm:m=xs.length)(hmax:m≤12)(hb:h[b]? = some (.els e (xs.map enc)))
  (hcall:∀ (ys:List τ) x y,x ∈ xs→y ∈ xs→∀ K:AV→Hp→Prop,K (.int .i64 (c x y)) (h.set b (.els e (ys.map enc)))→Fn P kf (enc x::enc y::caps) (h.set b (.els e (ys.map enc))) K)
  (hQ:∀ ex st,(ex=.normal∨ex=.ret)→st.h=h.set b (.els e ((isortL c xs).map enc))→Q ex st):AW P n lo (isC e) Q ⟨slotsOf [.row e b 0 m,.int .i64 0,.int .i64 (m:Nat),.fn kf caps],h⟩:=by
 subst hm
 unfold isC
 refine AW.rseq ?_
 simp only[iI,↓wk,↓wl,nca,evV,↓reduceIte,Nat.reduceEqDiff,Nat.reduceSub,Nat.reduceAdd]
 have hw1:IntKind.i64.wrap (0 + 1)=((1:Nat):Int):=rfl
 simp only[hw1]
 refine AW.bend ?_
 refine AW.loop (fun d st=>∃ k:Nat,1≤k∧k≤13∧d=13 - k∧st.h=h.set b (.els e ((((xs.take k).foldl (fun acc x=>insR c x acc) []).reverse++xs.drop k).map enc))∧st.s 0=.row e b 0 xs.length∧st.s 1=.int .i64 0∧st.s 2=.int .i64 (xs.length:Nat)∧st.s 3=.fn kf caps∧st.s 8=.int .i64 (k:Nat)) (m:=12)
  ⟨1,by omega,by omega,rfl,?_,rfl,rfl,rfl,rfl,rfl⟩ ?_
 ·have:((xs.take 1).foldl (fun acc x=>insR c x acc) []).reverse++xs.drop 1=xs:=by
   cases xs with
   | nil=>rfl
   | cons x xs=>simp[insR]
  rw[this,set_same hb]
 rintro d ⟨s,h'⟩ ⟨k,hk1,hk12,rfl,hh,h0,h1,h2,h3,h8⟩
 dsimp only at hh h0 h1 h2 h3 h8
 subst hh
 unfold isO
 refine AW.sseq ?_
 refine AW.rseq ?_
 simp only[iI,↓wk,↓wl,nca,evV,h2,h8,↓reduceIte,Nat.reduceEqDiff,Nat.reduceSub,Nat.reduceAdd]
 by_cases hlt:k<xs.length
 ·refine AW.ift (by simp only[od_t,put_at];simp;omega) ?_
  refine AW.skip ?_
  refine seqQ.norm ?_
  refine AW.bseq ?_
  have hx:=List.getElem?_eq_getElem hlt
  have hxm:=List.getElem_mem hlt
  generalize xs[k]=x at hx hxm
  have hd:xs.drop k=x::xs.drop (k + 1):=by rw[List.drop_eq_getElem_cons hlt];congr 1;exact (List.getElem?_eq_some_iff.1 hx).2
  have htk:(xs.take (k + 1)).foldl (fun acc x=>insR c x acc) []=insR c x ((xs.take k).foldl (fun acc x=>insR c x acc) []):=by
   rw[List.take_add_one,hx,List.foldl_append];rfl
  have hperm:=isortR_perm c (xs.take k) []
  have hlen:((xs.take k).foldl (fun acc x=>insR c x acc) []).length=k:=by
   have:=hperm.length_eq
   simp only[List.append_nil,List.length_take] at this
   omega
  have hmem:∀ y ∈ (xs.take k).foldl (fun acc x=>insR c x acc) [],y ∈ xs:=fun y hy=>by
   have:=hperm.mem_iff.1 hy
   rw[List.append_nil] at this
   exact List.mem_of_mem_take this
  have hwk:IntKind.i64.wrap ((k:Int) + 1)=((k + 1:Nat):Int):=w64_succ (by omega)
  refine AW.rseq ?_
  simp only[iI,↓wk,↓wl,nca,evV,h0,h1,h2,h3,h8,↓reduceIte,Nat.reduceEqDiff,Nat.reduceSub,Nat.reduceAdd]
  refine AW.bend ?_
  generalize hS:(xs.take k).foldl (fun acc x=>insR c x acc) []=S at hlen hmem htk
  refine AW.loop (fun d st=>∃ A B:List τ,S=B++A∧(∀ y ∈ B,c x y<0)∧d=A.length∧st.h=h.set b (.els e ((midL A x B (xs.drop (k + 1))).map enc))∧st.s 0=.row e b 0 xs.length∧st.s 1=.int .i64 0∧st.s 2=.int .i64 (xs.length:Nat)∧st.s 3=.fn kf caps∧st.s 8=.int .i64 (k:Nat)∧st.s 9=.int .i64 (A.length:Nat)) (m:=S.length)
   ⟨S,[],rfl,by simp,rfl,?_,?_⟩ ?_
  ·rw[hd];rfl
  ·simp only[put_at,↓reduceIte,Nat.reduceEqDiff,h0,h1,h2,h3,h8,hlen,and_self]
  rintro d ⟨s,h'⟩ ⟨A,B,hAB,hpass,rfl,hh,h0,h1,h2,h3,h8,h9⟩
  dsimp only at hh h0 h1 h2 h3 h8 h9
  subst hh
  have hll:(midL A x B (xs.drop (k + 1))).length=xs.length:=by
   rw[midL_length,List.length_drop]
   have:=congrArg List.length hAB
   rw[List.length_append,hlen] at this
   omega
  have hbl:(h.set b (.els e ((midL A x B (xs.drop (k + 1))).map enc)))[b]? = some (.els e ((midL A x B (xs.drop (k + 1))).map enc)):=getElem?_set_self' hb
  have fin:(A=[]∨∃ y A',A=y::A'∧¬ c x y<0)→(midL A x B (xs.drop (k + 1)))=((xs.take (k + 1)).foldl (fun acc x=>insR c x acc) []).reverse++xs.drop (k + 1):=fun hA=>by
   rw[htk,hAB,insR_append hpass]
   have:insR c x A=x::A:=by
    rcases hA with rfl | ⟨y,A',rfl,hn⟩
    ·rfl
    ·exact insR_stop hn
   rw[this]
   unfold midL
   simp
  unfold isI
  refine AW.sseq ?_
  unfold isT
  refine AW.rseq ?_
  cases A with
  | nil =>
   have hdec:decide ((0:Int)<((([]:List τ).length:Nat):Int))=false:=rfl
   simp only[iI,iG,↓wk,↓wl,nca,evV,h0,h1,h2,h3,h8,h9,hdec,↓reduceIte,Nat.reduceEqDiff,Nat.reduceSub,Nat.reduceAdd]
   refine AW.iff (by rfl) ?_
   refine AW.exit ?_
   refine seqQ.exit ?_
   show blk0 2 _ (.exit 2) _
   refine blk0.here ?_
   refine blkQ.norm ?_
   refine AW.rend ?_
   simp only[iI,↓wk,↓wl,nca,evV,h0,h1,h2,h3,h8,hwk,↓reduceIte,Nat.reduceEqDiff,Nat.reduceSub,Nat.reduceAdd]
   refine ⟨13 - (k + 1),_,by omega,Le.refl _ _,k + 1,by omega,by omega,rfl,by rw[fin (.inl rfl)],?_⟩
   simp only[put_at,↓reduceIte,Nat.reduceEqDiff,h0,h1,h2,h3,and_self]
  | cons y A =>
   have hdec:decide ((0:Int)<((A.length + 1:Nat):Int))=true:=by simp only[decide_eq_true_eq];omega
   rw[List.length_cons] at h9
   have hyx:y ∈ xs:=hmem y (by rw[hAB];simp)
   have hA1:A.length + 1<xs.length:=by rw[midL_length,List.length_cons] at hll;omega
   have hA2:A.length<xs.length:=by omega
   have hwA:IntKind.i64.wrap (((A.length + 1:Nat):Int) - 1)=((A.length:Nat):Int):=by rw[w64 (by omega) (by omega)];omega
   simp only[iI,iG,↓wk,↓wl,nca,evV,h0,h1,h2,h3,h8,h9,hdec,↓reduceIte,Nat.reduceEqDiff,Nat.reduceSub,Nat.reduceAdd]
   refine step rfl (iaddr_row (i:=A.length + 1) (by rfl) (by rfl) hA1) ?_
   simp only[iI,iG,↓wk,↓wl,nca,evV,h0,h1,h2,h3,h8,h9,hdec,↓reduceIte,Nat.reduceEqDiff,Nat.reduceSub,Nat.reduceAdd]
   refine step rfl (load_elem (by rfl) hbl (midL_at (y::A) x B _)) ?_
   simp only[iI,iG,↓wk,↓wl,nca,evV,h0,h1,h2,h3,h8,h9,hdec,hwA,↓reduceIte,Nat.reduceEqDiff,Nat.reduceSub,Nat.reduceAdd]
   refine step rfl (iaddr_row (i:=A.length) (by rfl) (by rfl) hA2) ?_
   simp only[iI,iG,↓wk,↓wl,nca,evV,h0,h1,h2,h3,h8,h9,hdec,hwA,↓reduceIte,Nat.reduceEqDiff,Nat.reduceSub,Nat.reduceAdd]
   refine step rfl (load_elem (by rfl) hbl (midL_prev y A x B _)) ?_
   simp only[iI,iG,↓wk,↓wl,nca,evV,h0,h1,h2,h3,h8,h9,hdec,hwA,↓reduceIte,Nat.reduceEqDiff,Nat.reduceSub,Nat.reduceAdd]
   refine evTs_call (by first | rfl | (simp only[od_t,put_at,↓reduceIte,Nat.reduceEqDiff,h3];rfl)) ?_
   simp only[List.map_cons,List.map_nil,od_t,put_at,↓reduceIte,Nat.reduceEqDiff,List.cons_append,List.nil_append]
   refine hcall _ x y hxm hyx _ ?_
   simp only[iI,iG,↓wk,↓wl,nca,evV,h0,h1,h2,h3,h8,h9,hdec,hwA,↓reduceIte,Nat.reduceEqDiff,Nat.reduceSub,Nat.reduceAdd]
   by_cases hc:c x y<0
   ·refine AW.ift (by simp only[od_t,put_at];simp[hc]) ?_
    refine AW.skip ?_
    refine seqQ.norm ?_
    refine AW.bseq ?_
    unfold isS
    refine AW.rend ?_
    simp only[iI,iN,↓wk,↓wl,nca,evV,h0,h1,h2,h3,h8,h9,hwA,↓reduceIte,Nat.reduceEqDiff,Nat.reduceSub,Nat.reduceAdd]
    refine step rfl (iaddr_row (i:=A.length) (by rfl) (by rfl) hA2) ?_
    simp only[iI,iN,↓wk,↓wl,nca,evV,h0,h1,h2,h3,h8,h9,hwA,↓reduceIte,Nat.reduceEqDiff,Nat.reduceSub,Nat.reduceAdd]
    refine step rfl (load_elem (by rfl) hbl (midL_prev y A x B _)) ?_
    simp only[iI,iN,↓wk,↓wl,nca,evV,h0,h1,h2,h3,h8,h9,hwA,↓reduceIte,Nat.reduceEqDiff,Nat.reduceSub,Nat.reduceAdd]
    refine step rfl (iaddr_row (i:=A.length + 1) (by rfl) (by rfl) hA1) ?_
    simp only[iI,iN,↓wk,↓wl,nca,evV,h0,h1,h2,h3,h8,h9,hwA,↓reduceIte,Nat.reduceEqDiff,Nat.reduceSub,Nat.reduceAdd]
    refine step rfl (load_elem (by rfl) hbl (midL_at (y::A) x B _)) ?_
    simp only[iI,iN,↓wk,↓wl,nca,evV,h0,h1,h2,h3,h8,h9,hwA,↓reduceIte,Nat.reduceEqDiff,Nat.reduceSub,Nat.reduceAdd]
    refine step rfl (iaddr_row (i:=A.length + 1) (by rfl) (by rfl) hA1) ?_
    simp only[iI,iN,↓wk,↓wl,nca,evV,h0,h1,h2,h3,h8,h9,hwA,↓reduceIte,Nat.reduceEqDiff,Nat.reduceSub,Nat.reduceAdd]
    refine evTs_stW (enc:=enc) y (by rfl) hbl (by rw[hll];exact hA1) (fun z=>stE_whole z y) ?_
    simp only[iI,iN,↓wk,↓wl,nca,evV,h0,h1,h2,h3,h8,h9,hwA,↓reduceIte,Nat.reduceEqDiff,Nat.reduceSub,Nat.reduceAdd]
    refine step rfl (iaddr_row (i:=A.length) (by rfl) (by rfl) hA2) ?_
    simp only[iI,iN,↓wk,↓wl,nca,evV,h0,h1,h2,h3,h8,h9,hwA,↓reduceIte,Nat.reduceEqDiff,Nat.reduceSub,Nat.reduceAdd]
    refine evTs_stW (enc:=enc) (xs:=(midL (y::A) x B (xs.drop (k + 1))).set (A.length + 1) y) x (by rfl) (getElem?_set_self' hbl) (by rw[List.length_set,hll];exact hA2) (fun z=>stE_whole z x) ?_
    simp only[iI,iN,↓wk,↓wl,nca,evV,h0,h1,h2,h3,h8,h9,hwA,↓reduceIte,Nat.reduceEqDiff,Nat.reduceSub,Nat.reduceAdd]
    refine blkQ.norm ?_
    refine AW.rend ?_
    simp only[iI,iN,↓wk,↓wl,nca,evV,h0,h1,h2,h3,h8,h9,hwA,↓reduceIte,Nat.reduceEqDiff,Nat.reduceSub,Nat.reduceAdd]
    refine ⟨A.length,_,by simp,Le.refl _ _,A,B++[y],by rw[hAB];simp,fun z hz=>?_,rfl,?_,?_⟩
    ·rcases List.mem_append.1 hz with hz | hz
     ·exact hpass z hz
     ·have:z=y:=by simpa using hz
      rw[this];exact hc
    ·simp only[List.set_set]
     have:=midL_swap y A x B (xs.drop (k + 1))
     rw[this]
    ·simp only[put_at,↓reduceIte,Nat.reduceEqDiff,h0,h1,h2,h3,h8,and_self]
   ·refine AW.iff (by simp only[od_t,put_at];simp[hc]) ?_
    refine AW.exit ?_
    refine seqQ.exit ?_
    show blk0 2 _ (.exit 2) _
    refine blk0.here ?_
    refine blkQ.norm ?_
    refine AW.rend ?_
    simp only[iI,↓wk,↓wl,nca,evV,h0,h1,h2,h3,h8,hwk,↓reduceIte,Nat.reduceEqDiff,Nat.reduceSub,Nat.reduceAdd]
    refine ⟨13 - (k + 1),_,by omega,Le.refl _ _,k + 1,by omega,by omega,rfl,by rw[fin (.inr ⟨y,A,rfl,hc⟩)],?_⟩
    simp only[put_at,↓reduceIte,Nat.reduceEqDiff,h0,h1,h2,h3,and_self]
 ·refine AW.iff (by simp only[od_t,put_at];simp;omega) ?_
  refine AW.exit ?_
  refine seqQ.exit ?_
  show blk0 0 _ (.exit 0) _
  refine blk0.here ?_
  refine hQ _ _ (.inl rfl) ?_
  simp only
  rw[List.take_of_length_le (by omega),List.drop_of_length_le (by omega),List.append_nil]
  rfl
end
def pdHead:C→Option (List Ins×List Ins×List Ins×List Ins×Od×List Ins)
 | .seq (.reg a) (.seq (.reg b) (.block 0 (.loop (.block 1 (.seq (.reg c) (.seq (.seq (.reg d) (.cond x (.seq (.reg f) .ret) .skip)) _))))))=>some (a,b,c,d,x,f)
 | _=>none
def pdC(is:Nat):List Ins×List Ins×List Ins×List Ins×Od×List Ins :=
 ([iI 10 (.mv (.c (.bool true)))],[iI 11 (.mv (.c (.bool true)))],[iI 21 (.mv (.t 2)),iI 22 (.mv (.t 1)),iI 23 (.bin .sub (.t 21) (.t 22)),iI 12 (.mv (.t 23))],[iI 24 (.mv (.t 12)),iI 25 (.bin .leq (.t 24) (.c (.int .i64 12)))],.t 25,
  [iI 26 (.mv (.t 0)),iI 27 (.mv (.t 1)),iI 28 (.mv (.t 2)),iI 29 (.mv (.t 4)),iI 30 (.call (.c (.fn is [])) [(.t 26),(.t 27),(.t 28),(.t 29)])])
theorem pdHead_inv{c0:C}{a b c d f:List Ins}{x:Od}(h:pdHead c0=some (a,b,c,d,x,f)):∃ r,c0=.seq (.reg a) (.seq (.reg b) (.block 0 (.loop (.block 1 (.seq (.reg c) (.seq (.seq (.reg d) (.cond x (.seq (.reg f) .ret) .skip)) r)))))):=by
 unfold pdHead at h
 split at h
 ·injection h with h
  simp only[Prod.mk.injEq] at h
  obtain ⟨rfl,rfl,rfl,rfl,rfl,rfl⟩:=h
  exact ⟨_,rfl⟩
 ·cases h
def srfC(bl pd:Nat):C:=.seq (.reg [iI 5 (.mv (.t 0)),iI 6 (.len 0 (.t 5)),iI 4 (.mv (.t 6))]) (.reg [iI 7 (.mv (.t 0)),iI 8 (.mv (.t 4)),iI 9 (.mv (.t 4)),iI 10 (.cint .u64 (.t 9)),iI 11 (.call (.c (.fn bl [])) [(.t 10)]),iI 12 (.mv (.t 1)),iI 13 (.call (.c (.fn pd [])) [(.t 7),(.c (.int .i64 0)),(.t 8),(.t 11),(.t 12)])])
structure Sorts (P:Program) (e k pd is bl:Nat):Prop where
 srf:fd? P k=some (14,[],srfC bl pd)
 pdq:(fd? P pd).map (fun q=>(q.1,q.2.1,pdHead q.2.2))=some (148,[],some (pdC is))
 ins:fd? P is=some (53,[],isC e)
 len:∀ n:Nat,n≤12→∃ r:Int,Pure P bl [.int .u64 (n:Int)] (· = .int .i64 r)
section
variable {n lo:Nat}{Q:Ex→St→Prop}{τ : Type}{enc : τ → AV}{e:Nat}[IsEnc e enc]
theorem is_fn{k b m kf:Nat}{caps:List AV}{xs:List τ}{h:Hp}{c : τ → τ → Int}(hk:fd? P k=some (53,[],isC e))(hm:m=xs.length)(hmax:m≤12)(hb:h[b]? = some (.els e (xs.map enc)))
  (hcall:∀ (ys:List τ) x y,x ∈ xs→y ∈ xs→∀ K:AV→Hp→Prop,K (.int .i64 (c x y)) (h.set b (.els e (ys.map enc)))→Fn P kf (enc x::enc y::caps) (h.set b (.els e (ys.map enc))) K)
  {R:AV→Hp→Prop}(hR:R (.tup []) (h.set b (.els e ((isortL c xs).map enc)))):Fn P k [.row e b 0 m,.int .i64 0,.int .i64 (m:Nat),.fn kf caps] h R:=by
 refine ⟨fd?_entered hk,⟨_,_,hR⟩,fun E w us hok hl hr=>code_calls2 hk (Nat.le_of_ble_eq_true rfl) ?_ hok hl hr⟩
 refine isC_walk hm hmax hb hcall ?_
 intro ex st hex hh
 exact ⟨hex,st,.tup [],Le.refl _ _,by simp only[resVs,omap],by rw[hh];exact hR⟩
theorem pd_fn{k pd is bl b m kf:Nat}{lim:Int}{caps:List AV}{xs:List τ}{h:Hp}{c : τ → τ → Int}(hs:Sorts P e k pd is bl)(hm:m=xs.length)(hmax:m≤12)(hb:h[b]? = some (.els e (xs.map enc)))
  (hcall:∀ (ys:List τ) x y,x ∈ xs→y ∈ xs→∀ K:AV→Hp→Prop,K (.int .i64 (c x y)) (h.set b (.els e (ys.map enc)))→Fn P kf (enc x::enc y::caps) (h.set b (.els e (ys.map enc))) K)
  {R:AV→Hp→Prop}(hR:R (.tup []) (h.set b (.els e ((isortL c xs).map enc)))):Fn P pd [.row e b 0 m,.int .i64 0,.int .i64 (m:Nat),.int .i64 lim,.fn kf caps] h R:=by
 obtain ⟨⟨n0,rs,c0⟩,hq,hh⟩:=Option.map_eq_some_iff.1 hs.pdq
 simp only[Prod.mk.injEq] at hh
 obtain ⟨rfl,rfl,hh⟩:=hh
 obtain ⟨rest0,rfl⟩:=pdHead_inv hh
 refine ⟨fd?_entered hq,⟨_,_,hR⟩,fun E w us hok hl hr=>code_calls2 hq (Nat.le_of_ble_eq_true rfl) ?_ hok hl hr⟩
 have hw:IntKind.i64.wrap (((m:Nat):Int) - 0)=((m:Nat):Int):=by rw[w64 (by omega) (by omega)];omega
 have hle:decide (((m:Nat):Int)≤12)=true:=by simp only[decide_eq_true_eq];omega
 refine AW.rseq ?_
 simp only[iI,↓wk,↓wl,nca,evV,↓reduceIte,Nat.reduceEqDiff,Nat.reduceSub,Nat.reduceAdd]
 refine AW.rseq ?_
 simp only[iI,↓wk,↓wl,nca,evV,↓reduceIte,Nat.reduceEqDiff,Nat.reduceSub,Nat.reduceAdd]
 refine AW.bend ?_
 refine AW.loop (fun _ st=>st.h=h∧st.s 0=.row e b 0 m∧st.s 1=.int .i64 0∧st.s 2=.int .i64 (m:Nat)∧st.s 4=.fn kf caps) (m:=0) ⟨rfl,rfl,rfl,rfl,rfl⟩ ?_
 rintro d ⟨s,h'⟩ ⟨h5,h0,h1,h2,h4⟩
 dsimp only at h5 h0 h1 h2 h4
 subst h5
 refine AW.bend ?_
 refine AW.rseq ?_
 simp only[iI,↓wk,↓wl,nca,evV,h0,h1,h2,h4,hw,↓reduceIte,Nat.reduceEqDiff,Nat.reduceSub,Nat.reduceAdd]
 refine AW.sseq ?_
 refine AW.rseq ?_
 simp only[iI,↓wk,↓wl,nca,evV,h0,h1,h2,h4,hle,↓reduceIte,Nat.reduceEqDiff,Nat.reduceSub,Nat.reduceAdd]
 refine AW.ift (by rfl) ?_
 refine AW.rseq ?_
 simp only[iI,↓wk,↓wl,nca,evV,h0,h1,h2,h4,↓reduceIte,Nat.reduceEqDiff,Nat.reduceSub,Nat.reduceAdd]
 refine evTs_call (by rfl) ?_
 simp only[List.map_cons,List.map_nil,od_t,put_at,↓reduceIte,Nat.reduceEqDiff,List.append_nil]
 refine is_fn hs.ins hm hmax hb hcall ?_
 simp only[iI,↓wk,↓wl,nca,evV,↓reduceIte,Nat.reduceEqDiff,Nat.reduceSub,Nat.reduceAdd]
 refine AW.ret ?_
 refine seqQ.ret ?_
 refine blk0.ret ?_
 show blk0 0 _ .ret _
 refine blk0.ret ?_
 exact ⟨.inr rfl,_,.tup [],Le.refl _ _,by simp only[resVs,omap],hR⟩
theorem srf_fn{k pd is bl b m kf:Nat}{caps:List AV}{xs:List τ}{h:Hp}{c : τ → τ → Int}(hs:Sorts P e k pd is bl)(hm:m=xs.length)(hmax:m≤12)(hb:h[b]? = some (.els e (xs.map enc)))
  (hcall:∀ (ys:List τ) x y,x ∈ xs→y ∈ xs→∀ K:AV→Hp→Prop,K (.int .i64 (c x y)) (h.set b (.els e (ys.map enc)))→Fn P kf (enc x::enc y::caps) (h.set b (.els e (ys.map enc))) K)
  {R:AV→Hp→Prop}(hR:R (.tup []) (h.set b (.els e ((isortL c xs).map enc)))):Fn P k [.row e b 0 m,.fn kf caps] h R:=by
 refine ⟨fd?_entered hs.srf,⟨_,_,hR⟩,fun E w us hok hl hr=>code_calls2 hs.srf (Nat.le_of_ble_eq_true rfl) ?_ hok hl hr⟩
 have hu:IntKind.u64.wrap ((m:Nat):Int)=((m:Nat):Int):=by
  simp only[IntKind.wrap,IntKind.signed,IntKind.bits,Bool.false_and,Bool.false_eq_true,if_false]
  omega
 obtain ⟨lim,hlim⟩:=hs.len m hmax
 unfold srfC
 refine AW.rseq ?_
 simp only[iI,↓wk,↓wl,nca,evV,↓reduceIte,Nat.reduceEqDiff,Nat.reduceSub,Nat.reduceAdd]
 refine AW.rend ?_
 simp only[iI,↓wk,↓wl,nca,evV,hu,↓reduceIte,Nat.reduceEqDiff,Nat.reduceSub,Nat.reduceAdd]
 refine evTs_call (by rfl) ?_
 simp only[List.map_cons,List.map_nil,od_t,put_at,↓reduceIte,Nat.reduceEqDiff,List.append_nil]
 refine Fn.val2 (v:=.int .i64 lim) hlim rfl rfl ?_
 simp only[iI,↓wk,↓wl,nca,evV,↓reduceIte,Nat.reduceEqDiff,Nat.reduceSub,Nat.reduceAdd]
 refine evTs_call (by rfl) ?_
 simp only[List.map_cons,List.map_nil,od_t,od_c,put_at,↓reduceIte,Nat.reduceEqDiff,List.append_nil]
 refine pd_fn hs hm hmax hb hcall ?_
 simp only[iI,↓wk,↓wl,nca,evV,↓reduceIte,Nat.reduceEqDiff,Nat.reduceSub,Nat.reduceAdd]
 exact ⟨by simp,_,.tup [],Le.refl _ _,by simp only[resVs,omap],hR⟩
end
def sortf?{τ : Type}(f : τ → τ → Option Int)(xs:List τ):Option (List τ):=if xs.length≤12∧(xs.all fun x=>xs.all fun y=>(f x y).isSome)=true then some (isortL (fun x y=>(f x y).getD 0) xs) else none
theorem evTs_srf{τ α : Type}{enc : τ → AV}{e:Nat}[IsEnc e enc]{xs:List τ}{f : τ → τ → Option Int}{kont:List τ → Option α}{r : α}(H:(sortf? f xs).bind kont=some r){kf:Nat}(caps':List AV)
  (spec:∀ x y z,f x y=some z→Pure P kf (enc x::enc y::caps'.map (unf 12)) (· = .int .i64 z)) {k pd is bl:Nat}(hs:Sorts P e k pd is bl)
  {is:List Ins}{K:St→Prop}{s:Nat→AV}{h:Hp}{d:Option Nat}{fo:Od}{as:List Od}{b m:Nat}{caps:List AV}(hf:fo.ev s=.fn k []) (ha:as.map (Od.ev s)=[.row e b 0 m,.fn kf caps])
  (himm:∀ h':Hp,(∀ b',b'≠b→h'[b']? = h[b']?)→∀ x y,imm h' deep (.tup (enc x::enc y::caps))=some (.tup (enc x::enc y::caps'))) (hm:m=xs.length) (hb:h[b]? = some (.els e (xs.map enc)))
  (hK:∀ zs,zs.length=xs.length→kont zs=some r→evTs (Fn P) is K ⟨put? s d (.tup []),h.set b (.els e (zs.map enc))⟩):evTs (Fn P) (Ins.mk d none (.call fo as)::is) K ⟨s,h⟩:=by
 unfold sortf? at H
 split at H
 case isFalse=>cases H
 rename_i hc
 obtain ⟨hmax,hall⟩:=hc
 subst hm
 refine evTs_call hf ?_
 rw[ha,List.append_nil]
 refine srf_fn (c:=fun x y=>(f x y).getD 0) hs rfl hmax hb (fun ys x y hx hy K' hK'=>?_) (hK _ (isortL_length _ _) H)
 have h1:=List.all_eq_true.1 (List.all_eq_true.1 hall x hx) y hy
 obtain ⟨z,hz⟩:=Option.isSome_iff_exists.1 h1
 have hp:=spec x y z hz
 simp only[hz,Option.getD_some] at hK'
 refine Fn.valf (as:=enc x::enc y::caps') (by rw[List.map_cons,List.map_cons,IsEnc.unf,IsEnc.unf];exact hp) (himm _ (fun b' hb'=>List.getElem?_set_ne (Ne.symm hb')) x y) rfl rfl hK'
end Go.Ab
namespace Go.Ab
set_option linter.defProp false in
def nq:=And.intro nc @wrapBits_eq
set_option linter.defProp false in
def nqa:=And.intro nca @wrapBits_eq
set_option linter.defProp false in
def nqs:=And.intro ncs @wrapBits_eq
set_option linter.defProp false in
def rrm:=And.intro rrl (And.intro @Option.map_some.{0,0} (And.intro @vm (And.intro @List.idxOf?_cons.{0} (And.intro @List.idxOf?_nil.{0} (And.intro @beq_self_eq_true.{0} (And.intro @Option.map_none.{0,0} (And.intro @List.getD_cons_zero.{0} (And.intro @List.getD_cons_succ.{0} nq))))))))
theorem Ends2.fin{rs:List Rv}{R:AV→Prop}{Q:Ex→St→Prop}{st:St}{v:AV}(hQ:Ends2 rs none R Q)(h1:resVs st rs=some v:=by simp only[resVs,omap,resV,↓wk,↓wl,nq,evV,↓reduceIte,sevalprocAttr];rfl)(h2:plain deep v=true:=by rfl)
  (h3:R (unr v):=by first | exact Or.inl rfl | exact Or.inr rfl):Q .ret st:=hQ _ _ _ _ (.inr rfl) h1 (hand_plain h2) h3
theorem Le.tq{lo:Nat}{st st2:St}(n:Nat)(ks live:List Nat)(e:Ab.restrict ks live st=st2)(hn:lo=n:=by rfl)(hnd:ks.Nodup:=by decide)(hlo:∀ b,b<n→ks[b]? = some b:=by decide):Le lo st st2:=Le.toL n hn ks live hnd hlo e
theorem Le.tz{st st2:St}(ks live:List Nat)(e:Ab.restrict ks live st=st2)(hnd:ks.Nodup:=by decide):Le 0 st st2:=Le.none ks live hnd e
end Go.Ab
