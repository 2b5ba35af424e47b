import Derived.Test.YtgfohogbechkkaaBPT4
set_option linter.unusedSimpArgs false
set_option linter.unusedVariables false
namespace Go.Proofs.Ytgfohogbechkkaa
open Go Go.Ab
theorem pulse_place(p:NetworkPacket)(x:ReceiverInput):(pulse1 p x).fUniverse=x.fUniverse∧(pulse1 p x).fSource=x.fSource∧(pulse1 p x).fLast=x.fLast∧(pulse1 p x).fPriority=x.fPriority∧(pulse1 p x).fSeq=x.fSeq∧(pulse1 p x).fSync=x.fSync:=by
 unfold pulse1 lit
 split<;>exact ⟨rfl,rfl,rfl,rfl,rfl,rfl⟩
theorem pulse_ok{p:NetworkPacket}{x:ReceiverInput}(h:inErr x=0):inErr (pulse1 p x)=0:=by
 unfold pulse1
 split
 ·rename_i hw
  obtain ⟨h1,h2,h3,h4,h5,h6⟩:=in_ok h
  exact in_mk h1 h2 h3 h5 (.inl rfl) (fun _=>rfl)
 ·exact h
theorem fed_place(t:Int)(p:NetworkPacket)(x:ReceiverInput):(fedS t p x).fUniverse=x.fUniverse∧(fedS t p x).fSource=x.fSource∧(fedS t p x).fLast=t∧(fedS t p x).fPriority=p.fPriority∧(fedS t p x).fSeq=p.fSeq∧(fedS t p x).fSync=p.fSync:=by
 unfold fedS
 split<;>exact ⟨rfl,rfl,rfl,rfl,rfl,rfl⟩
theorem fed_ok{t:Int}{p:NetworkPacket}{x:ReceiverInput}(ht:0≤t∧t≤10000000)(hp:checkS p=0)(hu:x.fUniverse=p.fUniverse)(hs:x.fSource=p.fSource)(h0:p.fUniverse≠0)(hsl:x.fSlots=[]∨x.fSlots.length=512):inErr (fedS t p x)=0:=by
 obtain ⟨⟨c1,c2,c3⟩,c4,c5,c6,_⟩:=check_ok hp
 obtain ⟨q1,q2,q3,q4,q5,q6⟩:=fed_place t p x
 refine in_mk (by rw[q1,hu];omega) (check_mk ?_ ?_ ?_ ?_ ?_ ?_ ?_) (by rw[q3];exact ht) ?_ ?_ ?_
 ·rw[show (likeP (fedS t p x)).fSource=p.fSource from q2.trans hs];exact c1
 ·rw[show (likeP (fedS t p x)).fPriority=p.fPriority from q4];exact c2
 ·rw[show (likeP (fedS t p x)).fSync=p.fSync from q6];exact c3
 ·rw[show (likeP (fedS t p x)).fUniverse=p.fUniverse from q1.trans hu];exact c4
 ·rw[show (likeP (fedS t p x)).fSeq=p.fSeq from q5];exact c5
 ·simp[likeP]
 ·show (fedS t p x).fUniverse=0→_
  rw[q1,hu]
  exact fun h=>absurd h h0
 ·unfold fedS
  split
  ·exact .inr (full_len c6)
  ·exact hsl
 ·unfold fedS
  split
  ·exact .inl rfl
  ·exact .inr (full_len c6)
 ·unfold fedS
  split
  ·exact fun _=>rfl
  ·intro h;rename_i hn;exact absurd h hn
theorem kc_lt{p:NetworkPacket}{x y:ReceiverInput}(hu:y.fUniverse=p.fUniverse)(hs:y.fSource=p.fSource):ltI x y=decide (kc p x<0):=by
 have h:=kc_neg p x
 unfold ltI
 rw[hu,hs]
 by_cases hk:kc p x<0
 ·rw[h] at hk
  simp[h,hk]
 ·have hk':=hk
  rw[h] at hk'
  rw[decide_eq_false hk]
  simpa using hk'
theorem kc_gt{p:NetworkPacket}{x y:ReceiverInput}(hu:y.fUniverse=p.fUniverse)(hs:y.fSource=p.fSource)(h:0<kc p x):ltI y x=true:=by
 have h1:¬ kc p x<0:=by omega
 have h2:¬ kc p x=0:=by omega
 rw[kc_neg] at h1
 rw[kc_zero] at h2
 unfold ltI ltU at *
 simp only[Bool.or_eq_true,Bool.and_eq_true,decide_eq_true_eq] at *
 omega
structure Gone (p:NetworkPacket) (t:Int) (l a:List ReceiverInput) (x:ReceiverInput) (A B:List ReceiverInput):Prop where
 eq:a=A++fedS t p x::B
 hu:x.fUniverse=p.fUniverse
 hs:x.fSource=p.fSource
 slots:x.fSlots=[]∨x.fSlots.length=512
 low:∀ y ∈ A,kc p y<0
 high:∀ y ∈ B,0<kc p y
 sub:∀ y,y ∈ A∨y ∈ B→y ∈ l
 ordA:A.Pairwise fun a b=>ltI a b=true
 ordB:B.Pairwise fun a b=>ltI a b=true
 old:(l=A++B∧x=newI p∧l.length≠64)∨(l=A++x::B∧newerS x.fSeq p.fSeq=true)
theorem posB_mid{c:ReceiverInput→Int}{A B:List ReceiverInput}{y:ReceiverInput}(hA:∀ z ∈ A,c z<0)(hy:¬ c y<0):posB c (A++y::B)=A.length:=by
 induction A with
 | nil=>exact posB_cons_pos hy
 | cons z A ih=>rw[List.cons_append,posB_cons_neg (hA z (List.mem_cons_self ..)),ih fun w hw=>hA w (List.mem_cons_of_mem _ hw)];rfl
theorem taken_gone{l:List ReceiverInput}{t:Int}{p:NetworkPacket}(hg:Good t l)(h0:p.fUniverse≠0)(he:p.fEnd=false)(hok:(takenS l t p).2=true):∃ x A B,Gone p t l (takenS l t p).1 x A B:=by
 have hpl:=posB_le (kc p) l
 have low:∀ y ∈ l.take (posB (kc p) l),kc p y<0:=fun y hy=>by
  obtain ⟨i,hi,rfl⟩:=List.mem_take_iff_getElem.1 hy
  exact posB_lt (by omega) (List.getElem?_eq_getElem (by omega))
 have mono:=kc_mono (p:=p) hg.asc
 have tkl:(l.take (posB (kc p) l)).length=posB (kc p) l:=by rw[List.length_take];omega
 unfold takenS at hok ⊢
 rw[if_neg h0] at hok ⊢
 by_cases hh:hasB (kc p) l=true
 ·rw[if_pos hh] at hok ⊢
  obtain ⟨x,hx,hx0⟩:=hasB_at hh
  have hlt:=hasB_lt hh
  rw[hx] at hok ⊢
  simp only at hok ⊢
  by_cases hn:newerS x.fSeq p.fSeq=false
  ·rw[if_pos hn] at hok;cases hok
  rw[if_neg hn,he] at hok ⊢
  simp only[Bool.false_eq_true,if_false]
  have hsplit:l=l.take (posB (kc p) l)++x::l.drop (posB (kc p) l + 1):=by
   conv=>lhs;rw[← List.take_append_drop (posB (kc p) l) l]
   rw[List.drop_eq_getElem_cons hlt]
   congr 2
   exact (List.getElem?_eq_some_iff.1 hx).2
  have hz:=hx0
  rw[kc_zero] at hz
  refine ⟨x,_,_,rfl,hz.1,hz.2,(in_ok (hg.ok x (List.mem_of_getElem? hx))).2.2.2.1,low,fun y hy=>?_,fun y hy=>?_,hg.asc.sublist (List.take_sublist ..),hg.asc.sublist (List.drop_sublist ..),.inr ⟨hsplit,by simpa using hn⟩⟩
  ·rw[hsplit] at mono
   have:=(List.pairwise_append.1 mono).2.1
   have h3:=(List.pairwise_cons.1 this).1 y hy
   have:¬ kc p y≤0:=fun hle=>by have:=h3 hle;omega
   omega
  ·rcases hy with hy | hy
   ·exact List.mem_of_mem_take hy
   ·exact List.mem_of_mem_drop hy
 ·rw[if_neg hh,he] at hok ⊢
  simp only[Bool.false_eq_true,if_false] at hok ⊢
  by_cases h64:l.length=64
  ·rw[if_pos h64] at hok;cases hok
  rw[if_neg h64] at hok ⊢
  refine ⟨newI p,_,_,rfl,rfl,rfl,.inl rfl,low,fun y hy=>?_,fun y hy=>?_,hg.asc.sublist (List.take_sublist ..),hg.asc.sublist (List.drop_sublist ..),.inl ⟨(List.take_append_drop ..).symm,rfl,h64⟩⟩
  ·obtain ⟨i,hi,rfl⟩:=List.mem_iff_getElem.1 hy
   rw[List.length_drop] at hi
   rw[List.getElem_drop]
   have hget:=List.getElem?_eq_getElem (show posB (kc p) l + i<l.length by omega)
   have hge:0≤kc p l[posB (kc p) l + i]:=posB_ge (mono.imp fun h hb=>h (by omega)) (by omega) hget
   by_cases hz:kc p l[posB (kc p) l + i]=0
   ·exfalso
    cases i with
    | zero =>
     apply hh
     unfold hasB
     simp only[Nat.add_zero] at hget hz
     rw[hget]
     simpa using hz
    | succ i =>
     have hpr:=List.pairwise_iff_getElem.1 mono (posB (kc p) l) (posB (kc p) l + (i + 1)) (by omega) (by omega) (by omega) (by omega)
     have:=posB_at (List.getElem?_eq_getElem (show posB (kc p) l<l.length by omega)) (c:=kc p)
     omega
   ·omega
  ·rcases hy with hy | hy
   ·exact List.mem_of_mem_take hy
   ·exact List.mem_of_mem_drop hy
theorem gone_len{l a A B:List ReceiverInput}{t:Int}{p:NetworkPacket}{x:ReceiverInput}(g:Gone p t l a x A B)(hl:l.length≤64):a.length≤64:=by
 rw[g.eq]
 rcases g.old with ⟨h1,_,h3⟩ | ⟨h1,_⟩
 ·have:=congrArg List.length h1
  simp only[List.length_append,List.length_cons] at this ⊢
  omega
 ·have:=congrArg List.length h1
  simp only[List.length_append,List.length_cons] at this ⊢
  omega
theorem gone_good{l a A B:List ReceiverInput}{t:Int}{p:NetworkPacket}{x:ReceiverInput}(hg:Good t l)(hp:checkS p=0)(h0:p.fUniverse≠0)(g:Gone p t l a x A B):Good t a:=by
 obtain ⟨q1,q2,q3,q4,q5,q6⟩:=fed_place t p x
 have mem:∀ y ∈ a,y=fedS t p x∨y ∈ l:=fun y hy=>by
  rw[g.eq] at hy
  rcases List.mem_append.1 hy with hy | hy
  ·exact .inr (g.sub y (.inl hy))
  ·rcases List.mem_cons.1 hy with hy | hy
   ·exact .inl hy
   ·exact .inr (g.sub y (.inr hy))
 refine ⟨gone_len g hg.len,fun y hy=>?_,?_,hg.t0,hg.t1,fun y hy=>?_⟩
 ·rcases mem y hy with rfl | hy
  ·exact fed_ok ⟨hg.t0,hg.t1⟩ hp g.hu g.hs h0 g.slots
  ·exact hg.ok y hy
 ·rw[g.eq]
  refine List.pairwise_append.2 ⟨g.ordA,List.pairwise_cons.2 ⟨fun y hy=>?_,g.ordB⟩,fun y hy z hz=>?_⟩
  ·exact kc_gt (q1.trans g.hu) (q2.trans g.hs) (g.high y hy)
  ·have hlow:=g.low y hy
   have h1:ltI y (fedS t p x)=true:=by rw[kc_lt (q1.trans g.hu) (q2.trans g.hs)];simpa using hlow
   rcases List.mem_cons.1 hz with rfl | hz
   ·exact h1
   ·exact ltI_trans _ _ _ h1 (kc_gt (q1.trans g.hu) (q2.trans g.hs) (g.high z hz))
 ·rcases mem y hy with rfl | hy
  ·rw[q3];exact Int.le_refl _
  ·exact hg.last y hy
theorem taken_good{l:List ReceiverInput}{t:Int}{p:NetworkPacket}(hg:Good t l)(hp:checkS p=0):Good t (takenS l t p).1:=by
 by_cases h0:p.fUniverse=0
 ·have:(takenS l t p).1=l.map (pulse1 p):=by unfold takenS;rw[if_pos h0]
  rw[this]
  refine ⟨by rw[List.length_map];exact hg.len,fun x hx=>?_,?_,hg.t0,hg.t1,fun x hx=>?_⟩
  ·obtain ⟨y,hy,rfl⟩:=List.mem_map.1 hx
   exact pulse_ok (hg.ok y hy)
  ·rw[List.pairwise_map]
   refine hg.asc.imp fun {a b} h=>?_
   unfold ltI at h ⊢
   rw[(pulse_place p a).1,(pulse_place p a).2.1,(pulse_place p b).1,(pulse_place p b).2.1]
   exact h
  ·obtain ⟨y,hy,rfl⟩:=List.mem_map.1 hx
   rw[(pulse_place p y).2.2.1]
   exact hg.last y hy
 ·cases hok:(takenS l t p).2 with
  | false =>
   have:(takenS l t p).1=l:=by
    unfold takenS at hok ⊢
    rw[if_neg h0] at hok ⊢
    split at hok
    ·rename_i hh
     rw[if_pos hh]
     split at hok
     ·rename_i x hx
      split at hok
      ·rename_i hn;rw[if_pos hn]
      ·split at hok<;>cases hok
     ·rfl
    ·rename_i hh
     rw[if_neg hh]
     split at hok
     ·rename_i he;rw[if_pos he]
     ·rename_i he
      rw[if_neg he]
      split at hok
      ·rename_i h64;rw[if_pos h64]
      ·cases hok
   rw[this];exact hg
  | true =>
   cases he:p.fEnd with
   | false =>
    obtain ⟨x,A,B,g⟩:=taken_gone hg h0 he hok
    exact gone_good hg hp h0 g
   | true =>
    have hsub:(takenS l t p).1.Sublist l:=by
     unfold takenS at hok ⊢
     rw[if_neg h0] at hok ⊢
     split
     ·rename_i hh
      split
      ·split
       ·exact List.Sublist.refl _
       ·try rw[if_pos he]
        simp only
        have:=List.take_append_drop (posB (kc p) l) l
        conv=>rhs;rw[← this]
        exact List.Sublist.append (List.Sublist.refl _) (by rw[← List.drop_drop];exact List.drop_sublist ..)
      ·exact List.Sublist.refl _
     ·try rw[if_pos he]
      exact List.Sublist.refl _
    exact ⟨Nat.le_trans hsub.length_le hg.len,fun x hx=>hg.ok x (hsub.subset hx),hg.asc.sublist hsub,hg.t0,hg.t1,fun x hx=>hg.last x (hsub.subset hx)⟩
theorem Good.later{l:List ReceiverInput}{t t':Int}(h:Good t l)(h1:t≤t')(h2:t'≤10000000):Good t' l :=
 ⟨h.len,h.ok,h.asc,by have:=h.t0;omega,h2,fun x hx=>by have:=h.last x hx;omega⟩
theorem take_ok{l:List ReceiverInput}{t:Int}{p:NetworkPacket}(hg:Good t l)(hp:checkS p=0):takeS l t p=((takenS l t p).1,(takenS l t p).2,0):=by
 unfold takeS
 rw[if_neg (by simp[good_moment hg]),if_neg (by simp[hp])]
end Go.Proofs.Ytgfohogbechkkaa
