import Derived.Test.YtnaemmpcffnbkaaGreatDoorKM10
set_option linter.unusedSimpArgs false
set_option linter.unusedVariables false
namespace Go.Ab
open Go
def Grow(F:CallF):Prop:=∀ k args h K,F k args h K→F k args h fun v h'=>(∃ bs,h'=h++bs)∧K v h'
def Fng(P:Program)(f:Nat)(args:List AV)(h:Hp)(R:AV→Hp→Prop):Prop:=Fn P f args h fun r h'=>(∃ bs,h'=h++bs)∧R r h'
variable {P:Program}
theorem Fng_mono:Mono (Fng P):=fun _ _ _ _ _ hk hf=>hf.mono fun r h' ⟨e,k⟩=>⟨e,hk _ _ k⟩
theorem Fng_live:Live' (Fng P):=fun _ _ _ _ hf=>let ⟨v,h',_,k⟩:=hf.2.1;⟨v,h',k⟩
theorem Fng_grow:Grow (Fng P):=fun _ _ _ _ hf=>hf.mono fun _ _ ⟨e,k⟩=>⟨e,e,k⟩
theorem Fng_Fn(k:Nat)(args:List AV)(h:Hp)(K:AV→Hp→Prop)(hf:Fng P k args h K):Fn P k args h K:=hf.mono fun _ _ ⟨_,k⟩=>k
theorem evV_growL{o:Op1}(ho:o.still=true){s:Nat→AV}{v:AV}:∀ (bs:List HB) {h:Hp},evV s h o=some (v,h)→evV s (h++bs) o=some (v,h++bs)
 | [],h,he=>by rw[List.append_nil];exact he
 | x::bs,h,he=>by
  have:=evV_growL ho bs (evV_grow ho he x)
  rw[List.append_assoc] at this
  exact this
theorem act_growL{F:CallF}{i:Ins}(ho:i.o.still=true){s:Nat→AV}{h:Hp}{K:AV→Hp→Prop}(ha:act F i s h K) :
  ∃ v,(∀ K':AV→Hp→Prop,act F i s h K'↔K' v h)∧∀ (bs:List HB) (K':AV→Hp→Prop),K' v (h++bs)→act F i s (h++bs) K':=by
 have hc:=still_op ho
 unfold act at *
 split at ha
 ·rw[evO_op hc] at ha
  split at ha
  ·rename_i p hp
   have e:=evV_still ho (v:=p.1) (h':=p.2) hp
   have hp':evV s h i.o=some (p.1,h):=by rw[hp,← e]
   exact ⟨p.1,fun K'=>by rw[evO_op hc,hp'],fun bs K' k=>by rw[evO_op hc,evV_growL ho bs hp'];exact k⟩
  ·exact ha.elim
 ·split at ha
  ·split at ha
   ·rename_i c
    rw[evO_op hc] at ha
    split at ha
    ·rename_i p hp
     have e:=evV_still ho (v:=p.1) (h':=p.2) hp
     have hp':evV s h i.o=some (p.1,h):=by rw[hp,← e]
     exact ⟨p.1,fun K'=>by simp only[c,if_true];rw[evO_op hc,hp'],fun bs K' k=>by simp only[c,if_true];rw[evO_op hc,evV_growL ho bs hp'];exact k⟩
    ·exact ha.elim
   ·rename_i c
    exact ⟨.tup [],fun K'=>by simp only[c,if_false],fun bs K' k=>by simp only[c,if_false];exact k⟩
  ·exact ⟨.tup [],fun K'=>Iff.rfl,fun bs K' k=>k⟩
  ·exact ha.elim
theorem act_growing{F:CallF}(hQ:Grow F){i:Ins}(hc:i.o.isCall=true){s:Nat→AV}{h:Hp}{K:AV→Hp→Prop}(ha:act F i s h K):act F i s h fun v h'=>(∃ bs,h'=h++bs)∧K v h':=by
 have tr:∃ bs,h=h++bs:=⟨[],(List.append_nil h).symm⟩
 have evL:evO F s h i.o K→evO F s h i.o fun v h'=>(∃ bs,h'=h++bs)∧K v h':=fun he=>by
  cases ho:i.o<;>rw[ho] at hc he<;>try cases hc
  ·simp only[evO] at he ⊢
   split at he
   ·exact hQ _ _ _ _ he
   ·exact he.elim
  ·simp only[evO] at he ⊢
   split at he
   ·exact ⟨⟨tr,he.1⟩,tr,he.2⟩
   ·exact ⟨tr,he⟩
   ·exact ⟨⟨tr,he.1⟩,tr,he.2⟩
   ·exact ⟨tr,he⟩
   ·exact he.elim
 unfold act at ha ⊢
 split at ha
 ·exact evL ha
 ·split at ha
  ·split at ha
   ·rename_i c;simp only[c,if_true];exact evL ha
   ·rename_i c;simp only[c,if_false];exact ⟨tr,ha⟩
  ·exact ⟨tr,ha⟩
  ·exact ha.elim
def apartG(i j:Ins):Bool:=apart false i j ||
 ((match i.d with | some d => !j.reads.contains d && j.d != some d | none=>true) && (match j.d with | some d => !i.reads.contains d | none=>true) && (i.o.still && j.o.isCall))
theorem evT_commG{F:CallF}(hF:Mono F)(hL:Live' F)(hG:Grow F){i j:Ins}(h:apartG i j=true){K:St→Prop}{st:St}(he:evT F i (evT F j K) st):evT F j (evT F i K) st:=by
 unfold apartG at h
 rw[Bool.or_eq_true] at h
 rcases h with h | h
 ·exact evT_comm hF hL (q:=false) (fun h=>by cases h) h he
 ·simp only[Bool.and_eq_true] at h
  obtain ⟨⟨k1,k2⟩,hi,hj⟩:=h
  have h1:∀ d,i.d=some d→d ∉ j.reads:=fun d hd=>by rw[hd] at k1;simp at k1;exact k1.1
  have h2:∀ d,i.d=some d→j.d≠some d:=fun d hd=>by rw[hd] at k1;simp at k1;exact k1.2
  have h3:∀ d,j.d=some d→d ∉ i.reads:=fun d hd=>by rw[hd] at k2;simp at k2;exact k2
  unfold evT at *
  dsimp only at he ⊢
  simp only[act_put (F:=F) (i:=j) (d:=i.d) h1] at he
  simp only[act_put (F:=F) (i:=i) (d:=j.d) h3]
  have hc:∀ u v,put? (put? st.s i.d v) j.d u=put? (put? st.s j.d u) i.d v:=fun u v=>put?_comm st.s h2 v u
  simp only[hc] at he
  obtain ⟨v,ki,kg⟩:=act_growL hi he
  refine act_mono hF ?_ (act_growing hG hj ((ki _).1 he))
  rintro u h' ⟨⟨bs,rfl⟩,hk⟩
  exact kg bs _ hk
theorem evTs_frontG{F:CallF}(hF:Mono F)(hL:Live' F)(hG:Grow F){i:Ins}:∀ {js is:List Ins}{K:St→Prop}{st:St},(∀ j ∈ js,apartG j i=true)→evTs F (js++i::is) K st→evTs F (i::(js++is)) K st
 | [],_,_,_,_,he=>he
 | j::js,is,K,st,ha,he=>by
  simp only[List.cons_append,evTs] at he ⊢
  have h1:evT F j (evT F i (evTs F (js++is) K)) st:=evT_mono hF (fun st' hs=>evTs_frontG hF hL hG (fun j' hj=>ha j' (List.mem_cons_of_mem _ hj)) hs) he
  exact evT_commG hF hL hG (ha j List.mem_cons_self) h1
theorem least:∀ {l:List Nat},l≠[]→∃ a ∈ l,∀ b ∈ l,a≤b
 | [x],_=>⟨x,by simp,by simp⟩
 | x::y::l,_=>by
  obtain ⟨a,ha,hm⟩:=least (l:=y::l) (by simp)
  by_cases h:x≤a
  ·exact ⟨x,by simp,fun b hb=>by rcases List.mem_cons.1 hb with e | e;exact Nat.le_of_eq e.symm;exact Nat.le_trans h (hm b e)⟩
  ·exact ⟨a,List.mem_cons_of_mem _ ha,fun b hb=>by rcases List.mem_cons.1 hb with e | e;omega;exact hm b e⟩
section
variable {ops:Array Oper}{Q:Exit→Act→World→Prop}{n lo:Nat}{is:List Ins}
theorem wpAny_perm{F:CallF}(hF:Mono F)(hL:Live' F)(hQ:Grow F)(hFG:∀ k args h K,F k args h K→Fn P k args h K)(hc:omap (compI P n ops) ops.toList=some is)(hd:drawOK true ops is=true):∀ (fuel:Nat) (rest:List Nat) (listed:Array Bool) (st:St) (E:Env) (a:Act) (w:World),
  rest.Nodup→rest.Pairwise (fun x y=>((befs ops.toList []).getD y 0).testBit x=false→apartG (is.getD x default) (is.getD y default)=true)→(∀ j,j ∈ rest↔(j<ops.size∧listed.getD j false=false))→listed.size=ops.size→Closed ops (fun j=>listed.getD j false=true)→rest.length≤fuel→StOK E st a w→a.tmps.size=n→∀ {K:St→Prop},
  evTs F (rest.map fun j=>is.getD j default) K st→(∀ a' w',Then lo n E w K a' w'→Q .normal a' w')→wpAny P .any ops Q fuel listed a w:=by
 have unl:∀ (listed:Array Bool) (j:Nat),listed.size=ops.size→(listed.getD j true=false↔(j<ops.size∧listed.getD j false=false)):=fun listed j hs=>by
  by_cases hj:j<listed.size
  ·simp[hj,← hs]
  ·simp[hj,← hs]
 intro fuel
 induction fuel with
 | zero =>
  intro rest listed st E a w _ _ hr hs _ hl hst hn K he hq
  have hnil:rest=[]:=List.eq_nil_of_length_eq_zero (by omega)
  subst hnil
  refine ⟨?_,hq a w ⟨st,E,he,hst,hn,Ext.refl _ _ _⟩⟩
  refine List.eq_nil_iff_forall_not_mem.2 fun j hj=>?_
  obtain ⟨h0,o,ho,_⟩:=mem_ready.1 hj
  have:=(hr j).2 ((unl listed j hs).1 h0)
  simp at this
 | succ fuel ih =>
  intro rest listed st E a w hnd hp hr hs hcl hl hst hn K he hq
  constructor
  ·intro hnil
   by_cases hrn:rest=[]
   ·subst hrn;exact hq a w ⟨st,E,he,hst,hn,Ext.refl _ _ _⟩
   ·exfalso
    obtain ⟨j0,hj0m,hmin⟩:=least hrn
    obtain ⟨hj0,hu⟩:=(hr j0).1 hj0m
    have ho:ops[j0]? = some ops[j0]:=Array.getElem?_eq_getElem hj0
    have hmem:j0 ∈ Region.ready .any ops listed:=by
     refine mem_ready.2 ⟨(unl listed j0 hs).2 ⟨hj0,hu⟩,_,ho,fun e hee hb=>?_⟩
     have hlt:=drawOK_edge hd ho (by simpa using hee) hb
     cases hx:listed.getD e.on false with
     | true=>rfl
     | false =>
      have hin:=(hr e.on).2 ⟨by omega,hx⟩
      have:=hmin _ hin
      omega
    rw[hnil] at hmem
    cases hmem
  ·intro i hi
   obtain ⟨h0,o,ho,hedge⟩:=mem_ready.1 hi
   have hir:i ∈ rest:=(hr i).2 ((unl listed i hs).1 h0)
   obtain ⟨js,ks,rfl⟩:=List.append_of_mem hir
   have hil:i<ops.size:=(Array.getElem?_eq_some_iff.1 ho).1
   have hp2:=List.pairwise_append.1 hp
   have hn2:=List.pairwise_append.1 hnd
   have hlist:∀ e ∈ o.after.toList,Region.binds .any e=true→listed.getD e.on false=true:=fun e hee hb=>hedge e (by simpa using hee) hb
   have hap:∀ x ∈ js.map (fun j=>is.getD j default),apartG x (is.getD i default)=true:=fun x hx=>by
    obtain ⟨j,hj,rfl⟩:=List.mem_map.1 hx
    refine hp2.2.2 j hj i List.mem_cons_self ?_
    cases hb:((befs ops.toList []).getD i 0).testBit j with
    | false=>rfl
    | true =>
     have h1:=before_listed hcl i o ho hlist j hb
     have h2:=((hr j).1 (List.mem_append_left _ hj)).2
     rw[h1] at h2
     cases h2
   simp only[List.map_append,List.map_cons] at he
   have he:=evTs_frontG hF hL hQ hap he
   simp only[evTs] at he
   obtain ⟨_,h2⟩:=omap_get hc
   obtain ⟨ii,hii,hci⟩:=h2 i o (by simpa using ho)
   simp only[List.getD_eq_getElem?_getD,hii,Option.getD_some] at he
   refine wpOp_mono (fun a' w' h=>?_) (wpOp_ok (lo:=lo) ho hci hst hn (evT_le hFG he))
   obtain ⟨st',E',k1,k2,k3,k4⟩:=h
   refine ih (js++ks) (listed.setIfInBounds i true) st' E' a' w' ?_ ?_ ?_ (by simpa using hs) ?_ (by simp at hl ⊢;omega) k2 k3 (by simpa[List.getD_eq_getElem?_getD,List.map_append] using k1) fun a'' w'' h=>hq a'' w'' (h.next k4)
   ·exact List.pairwise_append.2 ⟨hn2.1,(List.pairwise_cons.1 hn2.2.1).2,fun x hx y hy=>hn2.2.2 x hx y (List.mem_cons_of_mem _ hy)⟩
   ·exact List.pairwise_append.2 ⟨hp2.1,(List.pairwise_cons.1 hp2.2.1).2,fun x hx y hy=>hp2.2.2 x hx y (List.mem_cons_of_mem _ hy)⟩
   ·intro j
    have hrj:=hr j
    by_cases hji:j=i
    ·subst hji
     have hil':j<listed.size:=by omega
     constructor
     ·intro hj
      exfalso
      rcases List.mem_append.1 hj with h | h
      ·exact hn2.2.2 j h j List.mem_cons_self rfl
      ·exact (List.pairwise_cons.1 hn2.2.1).1 j h rfl
     ·rintro ⟨_,h⟩
      simp[hil'] at h
    ·rw[getD_set_ne false (Ne.symm hji),← hrj]
     simp[hji]
   ·intro k o' ho' hk e hee hb
    by_cases hki:k=i
    ·subst hki
     rw[ho] at ho';injection ho' with ho';subst ho'
     exact getD_set_true (hlist e hee hb)
    ·rw[getD_set_ne false (Ne.symm hki)] at hk
     exact getD_set_true (hcl k o' ho' hk e hee hb)
end
def permOK(is:List Ins):List Nat→Bool
 | []=>true
 | a::l=>(l.all fun b=>apartG (is.getD a default) (is.getD b default) || (decide (a<b) && !apart true (is.getD a default) (is.getD b default))) && permOK is l
theorem permOK_pw{ops:Array Oper}{is:List Ins}(hd:drawOK true ops is=true):∀ {l:List Nat},(∀ j ∈ l,j<ops.size)→permOK is l=true→l.Pairwise fun x y=>((befs ops.toList []).getD y 0).testBit x=false→apartG (is.getD x default) (is.getD y default)=true
 | [],_,_=>List.Pairwise.nil
 | a::l,hl,h=>by
  simp only[permOK,Bool.and_eq_true] at h
  refine List.pairwise_cons.2 ⟨fun b hb hn=>?_,permOK_pw hd (fun j hj=>hl j (List.mem_cons_of_mem _ hj)) h.2⟩
  have:=List.all_eq_true.1 h.1 b hb
  simp only[Bool.or_eq_true,Bool.and_eq_true,decide_eq_true_eq,Bool.not_eq_true'] at this
  rcases this with h1 | ⟨h1,h2⟩
  ·exact h1
  ·rw[drawOK_apart hd (hl b (List.mem_cons_of_mem _ hb)) h1 hn] at h2
   cases h2
theorem AW.regc{n lo:Nat}{Q:Ex→St→Prop}{st:St}{is:List Ins}(perm:List Nat)(hp:(List.range is.length).isPerm perm=true)(hk:permOK is perm=true)(h:evTs (Fng P) (perm.map fun j=>is.getD j default) (Q .normal) st):AW P n lo (.regq is) Q st:=fun c' hc E a w hst hn=>by
 have fin:∀ E1 a' w1 w',Ext lo E w E1 w1→Then lo n E1 w1 (Q .normal) a' w'→Post n lo E w Q .normal a' w':=by
  rintro E1 a' w1 w' hx ⟨st',E',k1,k2,k3,k4⟩
  exact ⟨.normal,st',E',rfl,k1,k2,k3,hx.trans k4 (Nat.le_refl _)⟩
 unfold compC at hc
 split at hc
 case h_3 =>
  rename_i id ops draw
  split at hc
  case h_2=>cases hc
  rename_i is' hops
  split at hc
  case isFalse=>cases hc
  rename_i hdraw
  subst hdraw
  split at hc
  case isFalse=>cases hc
  rename_i hm
  split at hc
  ·cases hc
  split at hc
  case isFalse=>split at hc<;>cases hc
  rename_i hd
  cases hc
  obtain ⟨hlen,_⟩:=omap_get hops
  have hlen:is.length=ops.size:=by simpa using hlen
  have hperm:=List.isPerm_iff.1 hp
  refine wp_region_draw fun t=>?_
  obtain ⟨d1,d2⟩:=hst.drew (lo:=lo)
  simp only[Region.schedule,hm,if_true]
  have hmem:∀ j,j ∈ perm↔j<ops.size:=fun j=>by rw[← hperm.mem_iff,List.mem_range,hlen]
  refine wpAny_sound ops.size t _ a _ (wpAny_perm Fng_mono Fng_live Fng_grow Fng_Fn hops hd ops.size perm _ st E a w.drew (hperm.nodup_iff.1 List.nodup_range) (permOK_pw hd (fun j hj=>(hmem j).1 hj) hk) (fun j=>?_) (by simp) ?_ (by rw[← hperm.length_eq,List.length_range];omega) d1 hn (K:=Q .normal) h fun a' w' ht=>fin E a' w.drew w' d2 ht)
  ·rw[hmem]
   constructor
   ·intro hj
    exact ⟨hj,by simp[hj]⟩
   ·exact fun hj=>hj.1
  ·intro k o ho hk
   have:=(Array.getElem?_eq_some_iff.1 ho).1
   simp[this] at hk
 all_goals repeat' split at hc
 all_goals first | (cases hc;done) | (obtain ⟨_,_,hc⟩:=map_some' hc;cases hc;done)
theorem AW.rcseq{n lo:Nat}{Q:Ex→St→Prop}{st:St}{is js:List Ins}{y:C}(perm:List Nat)(hj:(perm.map fun j=>is.getD j default)=js)(hp:(List.range is.length).isPerm perm=true)(hk:permOK is perm=true)(h:evTs (Fng P) js (fun st=>AW P n lo y Q st) st):AW P n lo (.seq (.regq is) y) Q st:=AW.seq (AW.regc perm hp hk (by rw[hj];exact h))
theorem Le.frz{lo:Nat}{st:St}(i:Nat){τ : Type}{enc : τ → AV}{e b n:Nat}[IsEnc e enc]{xs:List τ}(hi:st.s i=.row e b 0 n)(hn:n=xs.length)(hb:st.h[b]? = some (.els e (xs.map enc))):Le lo st ⟨put st.s i (.sl e false (xs.map enc)),st.h.set b .dead⟩:=by
 refine Le.freeze ?_
 subst hn
 rw[hi]
 have hv:visit st.h (11 + 1) (.row e b 0 xs.length)=[b]:=by
  simp only[visit,hb]
  rw[if_pos (enc_all (enc:=enc) xs)]
 have hi':imm st.h deep (.row e b 0 xs.length)=some (.sl e false (xs.map enc)):=by
  show imm st.h (11 + 1) _=_
  rw[imm_rowE,hb]
  dsimp only
  rw[if_pos ⟨rfl,by simp⟩,List.drop_zero,List.take_of_length_le (by simp),imm_enc st.h 7]
  rfl
 unfold Ab.freeze
 rw[if_neg (by simp[plain,deep]),hi']
 show some (_,kill st.h (visit st.h (11 + 1) _))=_
 rw[hv]
 simp[kill]
theorem evTs_frc{is:List Ins}{K:St→Prop}{s:Nat→AV}{h:Hp}{d:Option Nat}{α β : Type}{r : α}{m:Option β}{kont : β → Option α}(H:m.bind kont=some r){k:Nat}{as':List AV}{enc : β → AV}(spec:∀ y,m=some y→Pure P k as' (· = enc y))
  {f:Od}{os:List Od}{caps args:List AV}(hf:f.ev s=.fn k caps) (ha:os.map (Od.ev s)++caps=args) (hpl:plain deep (.tup args)=true) (hu:args.map (unf 12)=as') {enc' : β → AV}{blk : β → HB}(hr:∀ y,adopt h (enc y)=some (enc' y,h++[blk y]))
  (hk:∀ y,kont y=some r→evTs (Fng P) is K ⟨put? s d (enc' y),h++[blk y]⟩):evTs (Fng P) (Ins.mk d none (.call f os)::is) K ⟨s,h⟩:=by
 obtain ⟨y,hy,h2⟩:=Option.bind_eq_some_iff.1 H
 refine evTs_call hf ?_
 subst hu
 rw[ha]
 unfold Fng
 refine Fn.pure (spec y hy).args (h1:=h) (by simp[freeze,hpl]) fun x hx=>⟨_,_,?_,⟨_,rfl⟩,hk y h2⟩
 subst hx
 rw[ite_self]
 exact hr y
end Go.Ab
