import Derived.Test.YtgfohogbechkkaaBMN
set_option linter.unusedSimpArgs false
set_option linter.unusedVariables false
namespace Go.Ab
open Go
variable {P:Program}
def Grow(F:CallF):Prop:=∀ k args h K,F k args h K→F k args h fun v h'=>(∃ bs,h'=h++bs)∧K v h'
def Fng(P:Program)(f:Nat)(args:List AV)(h:Hp)(R:AV→Hp→Prop):Prop:=Fn P f args h fun r h'=>(∃ bs,h'=h++bs)∧R r h'
theorem Fng_mono:Mono (Fng P):=fun _ _ _ _ _ hk hf=>hf.mono fun r h' ⟨e,k⟩=>⟨e,hk _ _ k⟩
theorem Fng_live:Live' (Fng P):=fun _ _ _ _ hf=>let ⟨v,h',_,k⟩:=hf.2.1;⟨v,h',k⟩
theorem Fng_grow:Grow (Fng P):=fun _ _ _ _ hf=>hf.mono fun _ _ ⟨e,k⟩=>⟨e,e,k⟩
theorem Fng_Fn(k:Nat)(args:List AV)(h:Hp)(K:AV→Hp→Prop)(hf:Fng P k args h K):Fn P k args h K:=hf.mono fun _ _ ⟨_,k⟩=>k
theorem evV_growL{o:Op1}(ho:o.still=true){s:Nat→AV}{v:AV}:∀ (bs:List HB) {h:Hp},evV s h o=some (v,h)→evV s (h++bs) o=some (v,h++bs)
 | [],h,he=>by rw[List.append_nil];exact he
 | x::bs,h,he=>by
  have:=evV_growL ho bs (evV_grow ho he x)
  rw[List.append_assoc] at this
  exact this
theorem act_growL{F:CallF}{i:Ins}(ho:i.o.still=true){s:Nat→AV}{h:Hp}{K:AV→Hp→Prop}(ha:act F i s h K) :
  ∃ v,(∀ K':AV→Hp→Prop,act F i s h K'↔K' v h)∧∀ (bs:List HB) (K':AV→Hp→Prop),K' v (h++bs)→act F i s (h++bs) K':=by
 have hc:=still_op ho
 unfold act at *
 split at ha
 ·rw[evO_op hc] at ha
  split at ha
  ·rename_i p hp
   have e:=evV_still ho (v:=p.1) (h':=p.2) hp
   have hp':evV s h i.o=some (p.1,h):=by rw[hp,← e]
   exact ⟨p.1,fun K'=>by rw[evO_op hc,hp'],fun bs K' k=>by rw[evO_op hc,evV_growL ho bs hp'];exact k⟩
  ·exact ha.elim
 ·split at ha
  ·split at ha
   ·rename_i c
    rw[evO_op hc] at ha
    split at ha
    ·rename_i p hp
     have e:=evV_still ho (v:=p.1) (h':=p.2) hp
     have hp':evV s h i.o=some (p.1,h):=by rw[hp,← e]
     exact ⟨p.1,fun K'=>by simp only[c,if_true];rw[evO_op hc,hp'],fun bs K' k=>by simp only[c,if_true];rw[evO_op hc,evV_growL ho bs hp'];exact k⟩
    ·exact ha.elim
   ·rename_i c
    exact ⟨.tup [],fun K'=>by simp only[c,if_false],fun bs K' k=>by simp only[c,if_false];exact k⟩
  ·exact ⟨.tup [],fun K'=>Iff.rfl,fun bs K' k=>k⟩
  ·exact ha.elim
theorem act_growing{F:CallF}(hQ:Grow F){i:Ins}(hc:i.o.isCall=true){s:Nat→AV}{h:Hp}{K:AV→Hp→Prop}(ha:act F i s h K):act F i s h fun v h'=>(∃ bs,h'=h++bs)∧K v h':=by
 have tr:∃ bs,h=h++bs:=⟨[],(List.append_nil h).symm⟩
 have evL:evO F s h i.o K→evO F s h i.o fun v h'=>(∃ bs,h'=h++bs)∧K v h':=fun he=>by
  cases ho:i.o<;>rw[ho] at hc he<;>try cases hc
  ·simp only[evO] at he ⊢
   split at he
   ·exact hQ _ _ _ _ he
   ·exact he.elim
  ·simp only[evO] at he ⊢
   split at he
   ·exact ⟨⟨tr,he.1⟩,tr,he.2⟩
   ·exact ⟨tr,he⟩
   ·exact ⟨⟨tr,he.1⟩,tr,he.2⟩
   ·exact ⟨tr,he⟩
   ·exact he.elim
 unfold act at ha ⊢
 split at ha
 ·exact evL ha
 ·split at ha
  ·split at ha
   ·rename_i c;simp only[c,if_true];exact evL ha
   ·rename_i c;simp only[c,if_false];exact ⟨tr,ha⟩
  ·exact ⟨tr,ha⟩
  ·exact ha.elim
def apartG(i j:Ins):Bool:=apart false i j ||
 ((match i.d with | some d => !j.reads.contains d && j.d != some d | none=>true) && (match j.d with | some d => !i.reads.contains d | none=>true) && (i.o.still && j.o.isCall))
theorem evT_commG{F:CallF}(hF:Mono F)(hL:Live' F)(hG:Grow F){i j:Ins}(h:apartG i j=true){K:St→Prop}{st:St}(he:evT F i (evT F j K) st):evT F j (evT F i K) st:=by
 unfold apartG at h
 rw[Bool.or_eq_true] at h
 rcases h with h | h
 ·exact evT_comm hF hL (q:=false) (fun h=>by cases h) h he
 ·simp only[Bool.and_eq_true] at h
  obtain ⟨⟨k1,k2⟩,hi,hj⟩:=h
  have h1:∀ d,i.d=some d→d ∉ j.reads:=fun d hd=>by rw[hd] at k1;simp at k1;exact k1.1
  have h2:∀ d,i.d=some d→j.d≠some d:=fun d hd=>by rw[hd] at k1;simp at k1;exact k1.2
  have h3:∀ d,j.d=some d→d ∉ i.reads:=fun d hd=>by rw[hd] at k2;simp at k2;exact k2
  unfold evT at *
  dsimp only at he ⊢
  simp only[act_put (F:=F) (i:=j) (d:=i.d) h1] at he
  simp only[act_put (F:=F) (i:=i) (d:=j.d) h3]
  have hc:∀ u v,put? (put? st.s i.d v) j.d u=put? (put? st.s j.d u) i.d v:=fun u v=>put?_comm st.s h2 v u
  simp only[hc] at he
  obtain ⟨v,ki,kg⟩:=act_growL hi he
  refine act_mono hF ?_ (act_growing hG hj ((ki _).1 he))
  rintro u h' ⟨⟨bs,rfl⟩,hk⟩
  exact kg bs _ hk
theorem apartG_apart{i j:Ins}(h:apartG i j=true):apart true i j=true:=by
 unfold apartG at h
 unfold apart at h ⊢
 revert h
 cases i.d<;>cases j.d<;>simp<;>grind
def loneA(ap:Ins→Ins→Bool)(b:List Nat)(is:List Ins)(rest:List Nat)(i:Nat):Bool :=
 rest.all fun j=>j == i || (b.getD j 0).testBit i || ap (is.getD i default) (is.getD j default)
def growA(ap:Ins→Ins→Bool)(ops:Array Oper)(b:List Nat)(is:List Ins):Nat→List Nat→RT
 | 0,_=>.run []
 | f + 1,rest=>match rest with
  | []=>.run []
  | _=>match (rdy ops rest).find? (loneA ap b is rest) with
   | some i=>(growA ap ops b is f (rest.erase i)).cons (is.getD i default)
   | none=>RT.forks ((rdy ops rest).map fun i=>(growA ap ops b is f (rest.erase i)).cons (is.getD i default))
def evH(F:CallF)(ap:Ins→Ins→Bool)(ops:Array Oper)(b:List Nat)(is:List Ins):Nat→List Nat→(St→Prop)→St→Prop
 | 0,_,K,st=>K st
 | f + 1,rest,K,st=>if rest=[] then K st else match (rdy ops rest).find? (loneA ap b is rest) with
   | some i=>evT F (is.getD i default) (evH F ap ops b is f (rest.erase i) K) st
   | none=>∀ i ∈ rdy ops rest,evT F (is.getD i default) (evH F ap ops b is f (rest.erase i) K) st
section
variable {F:CallF}{ap:Ins→Ins→Bool}{ops:Array Oper}{b:List Nat}{is:List Ins}
theorem loneA_erase{rest:List Nat}{i j:Nat}(h:loneA ap b is rest j=true):loneA ap b is (rest.erase i) j=true:=by
 unfold loneA at h ⊢
 rw[List.all_eq_true] at h ⊢
 exact fun x hx=>h x (List.mem_of_mem_erase hx)
theorem loneA_apart{rest:List Nat}{i j:Nat}(hc:Closed ops (fun k=>k ∉ rest))(hi:i ∈ rest)(hl:loneA ap (befs ops.toList []) is rest i=true)(hj:j ∈ rdy ops rest)(hne:j≠i):ap (is.getD i default) (is.getD j default)=true:=by
 unfold loneA at hl
 rw[List.all_eq_true] at hl
 have:=hl j (rdy_mem hj).1
 have hb:=not_bound hc hj hi
 rw[hb] at this
 simpa only[Bool.or_eq_true,beq_iff_eq,hne,Bool.false_eq_true,false_or] using this
theorem evH_AB(hF:Mono F)(hC:∀ i j,ap i j=true→∀ {K:St→Prop}{st:St},evT F i (evT F j K) st→evT F j (evT F i K) st):∀ (f:Nat) (rest:List Nat),rest.length=f + 1→rest.Nodup→Closed ops (fun k=>k ∉ rest)→∀ {K:St→Prop},
  (∀ i st,i ∈ rdy ops rest→evH F ap ops (befs ops.toList []) is (f + 1) rest K st→evT F (is.getD i default) (evH F ap ops (befs ops.toList []) is f (rest.erase i) K) st) ∧
  (∀ i st,i ∈ rdy ops rest→loneA ap (befs ops.toList []) is rest i=true→evT F (is.getD i default) (evH F ap ops (befs ops.toList []) is f (rest.erase i) K) st→evH F ap ops (befs ops.toList []) is (f + 1) rest K st):=by
 intro f
 induction f with
 | zero =>
  intro rest hl hn hc K
  obtain ⟨x,rfl⟩:=List.length_eq_one_iff.1 hl
  have hr:∀ i,i ∈ rdy ops [x]→i=x:=fun i hi=>by simpa using (rdy_mem hi).1
  refine ⟨fun i st hi he=>?_,fun i st hi hlo he=>?_⟩
  ·have:=hr i hi;subst this
   rw[evH,if_neg (by simp)] at he
   split at he
   ·rename_i j hj
    have hj':=hr j (List.mem_of_find?_eq_some hj)
    subst hj';exact he
   ·exact he i hi
  ·have:=hr i hi;subst this
   rw[evH,if_neg (by simp)]
   split
   ·rename_i j hj
    have hj':=hr j (List.mem_of_find?_eq_some hj)
    subst hj';exact he
   ·intro j hj
    have hj':=hr j hj
    subst hj';exact he
 | succ f ih =>
  intro rest hl hn hc K
  have hne:rest≠[]:=fun h=>by rw[h] at hl;cases hl
  have unf:∀ st,evH F ap ops (befs ops.toList []) is (f + 1 + 1) rest K st=(match (rdy ops rest).find? (loneA ap (befs ops.toList []) is rest) with
   | some i=>evT F (is.getD i default) (evH F ap ops (befs ops.toList []) is (f + 1) (rest.erase i) K) st
   | none=>∀ i ∈ rdy ops rest,evT F (is.getD i default) (evH F ap ops (befs ops.toList []) is (f + 1) (rest.erase i) K) st):=fun st=>by
   rw[evH,if_neg hne]
  have len:∀ i,i ∈ rest→(rest.erase i).length=f + 1:=fun i hi=>by rw[List.length_erase_of_mem hi,hl];rfl
  have IH:=fun i (hi:i ∈ rdy ops rest)=>ih (rest.erase i) (len i (rdy_mem hi).1) (hn.erase i) (closed_erase hn hc hi) (K:=K)
  have swap:∀ i j st,i ∈ rdy ops rest→loneA ap (befs ops.toList []) is rest i=true→j ∈ rdy ops rest→j≠i→evT F (is.getD i default) (evH F ap ops (befs ops.toList []) is (f + 1) (rest.erase i) K) st →
    evT F (is.getD j default) (evT F (is.getD i default) (evH F ap ops (befs ops.toList []) is f ((rest.erase j).erase i) K)) st:=fun i j st hi hlo hj hji he=>by
   have h1:=evT_mono hF (fun st' h=>(IH i hi).1 j st' (rdy_erase hj hji) h) he
   rw[List.erase_comm] at h1
   exact hC _ _ (loneA_apart hc (rdy_mem hi).1 hlo hj hji) h1
  refine ⟨fun i st hi he=>?_,fun i st hi hlo he=>?_⟩
  ·rw[unf] at he
   split at he
   ·rename_i i1 h1
    have hr1:=List.mem_of_find?_eq_some h1
    have hl1:=List.find?_some h1
    by_cases e:i=i1
    ·subst e;exact he
    ·refine evT_mono hF (fun st' h=>?_) (swap i1 i st hr1 hl1 hi e he)
     exact (IH i hi).2 i1 st' (rdy_erase hr1 (Ne.symm e)) (loneA_erase hl1) h
   ·exact he i hi
  ·rw[unf]
   split
   ·rename_i i1 h1
    have hr1:=List.mem_of_find?_eq_some h1
    by_cases e:i1=i
    ·subst e;exact he
    ·refine evT_mono hF (fun st' h=>?_) (swap i i1 st hi hlo hr1 e he)
     exact (IH i1 hr1).2 i st' (rdy_erase hi (Ne.symm e)) (loneA_erase hlo) h
   ·rename_i h1
    exact absurd hlo (by simpa using List.find?_eq_none.1 h1 i hi)
theorem growA_ok(hF:Mono F):∀ (f:Nat) (rest:List Nat) {K:St→Prop}{st:St},evR F (growA ap ops b is f rest) K st→evH F ap ops b is f rest K st
 | 0,rest,K,st,h=>h
 | f + 1,rest,K,st,h=>by
  rw[evH]
  split
  ·rename_i e;subst e;exact h
  ·rename_i hne
   have hg:growA ap ops b is (f + 1) rest=(match (rdy ops rest).find? (loneA ap b is rest) with
    | some i=>(growA ap ops b is f (rest.erase i)).cons (is.getD i default)
    | none=>RT.forks ((rdy ops rest).map fun i=>(growA ap ops b is f (rest.erase i)).cons (is.getD i default))):=by
    cases rest with
    | nil=>exact absurd rfl hne
    | cons=>rfl
   rw[hg] at h
   split at h
   ·rename_i i hi
    rw[evR_cons] at h
    exact evT_mono hF (fun st' h'=>growA_ok hF f _ h') h
   ·rename_i hi
    intro i him
    have:=evR_forks h _ (List.mem_map.2 ⟨i,him,rfl⟩)
    rw[evR_cons] at this
    exact evT_mono hF (fun st' h'=>growA_ok hF f _ h') this
section
variable {Q:Exit→Act→World→Prop}{n lo:Nat}
theorem wpAny_H(hF:Mono F)(hC:∀ i j,ap i j=true→∀ {K:St→Prop}{st:St},evT F i (evT F j K) st→evT F j (evT F i K) st)(hFG:∀ k args h K,F k args h K→Fn P k args h K)(hc:omap (compI P n ops) ops.toList=some is)
  (hfw:∀ (j:Nat) o,ops[j]? = some o→∀ e ∈ o.after.toList,Region.binds .any e=true→e.on<j):∀ (fuel:Nat) (rest:List Nat) (listed:Array Bool) (st:St) (E:Env) (a:Act) (w:World),
  rest.Nodup→(∀ j,j ∈ rest↔(j<ops.size∧listed.getD j false=false))→listed.size=ops.size→Closed ops (fun k=>k ∉ rest)→rest.length≤fuel→StOK E st a w→a.tmps.size=n→∀ {K:St→Prop},
  evH F ap ops (befs ops.toList []) is rest.length rest K st→(∀ a' w',Then lo n E w K a' w'→Q .normal a' w')→wpAny P .any ops Q fuel listed a w:=by
 have unl:∀ (listed:Array Bool) (j:Nat),listed.size=ops.size→(listed.getD j true=false↔(j<ops.size∧listed.getD j false=false)):=fun listed j hs=>by
  by_cases hj:j<listed.size
  ·simp[hj,← hs]
  ·simp[hj,← hs]
 have edges:∀ (rest:List Nat) (listed:Array Bool),(∀ j,j ∈ rest↔(j<ops.size∧listed.getD j false=false))→∀ (i:Nat) o,ops[i]? = some o→(∀ e ∈ o.after.toList,Region.binds .any e=true→e.on ∉ rest)→∀ e ∈ o.after.toList,Region.binds .any e=true→listed.getD e.on false=true:=fun rest listed hr i o ho h e he hb=>by
  have hlt:=hfw i o ho e he hb
  have hi:=(Array.getElem?_eq_some_iff.1 ho).1
  cases hx:listed.getD e.on false with
  | true=>rfl
  | false=>exact absurd ((hr e.on).2 ⟨by omega,hx⟩) (h e he hb)
 intro fuel
 induction fuel with
 | zero =>
  intro rest listed st E a w _ hr hs _ hl hst hn K he hq
  have hnil:rest=[]:=List.eq_nil_of_length_eq_zero (by omega)
  subst hnil
  refine ⟨?_,hq a w ⟨st,E,he,hst,hn,Ext.refl _ _ _⟩⟩
  refine List.eq_nil_iff_forall_not_mem.2 fun j hj=>?_
  obtain ⟨h0,o,ho,_⟩:=mem_ready.1 hj
  have:=(hr j).2 ((unl listed j hs).1 h0)
  simp at this
 | succ fuel ih =>
  intro rest listed st E a w hp hr hs hcl hl hst hn K he hq
  constructor
  ·intro hnil
   cases hrest:rest with
   | nil=>subst hrest;exact hq a w ⟨st,E,he,hst,hn,Ext.refl _ _ _⟩
   | cons j0' js =>
    exfalso
    obtain ⟨j0,hj0m,hmin⟩:∃ j0,j0 ∈ rest∧∀ j ∈ rest,j0≤j:=by
     have hne:rest≠[]:=by rw[hrest];simp
     exact ⟨rest.min hne,List.min_mem hne,fun j hj=>List.min_le_of_mem hj⟩
    obtain ⟨hj0,hu⟩:=(hr j0).1 hj0m
    have ho:ops[j0]? = some ops[j0]:=Array.getElem?_eq_getElem hj0
    have hmem:j0 ∈ Region.ready .any ops listed:=by
     refine mem_ready.2 ⟨(unl listed j0 hs).2 ⟨hj0,hu⟩,_,ho,fun e hee hb=>?_⟩
     have hlt:=hfw j0 _ ho e (by simpa using hee) hb
     cases hx:listed.getD e.on false with
     | true=>rfl
     | false =>
      have:=hmin e.on ((hr e.on).2 ⟨by omega,hx⟩)
      omega
    rw[hnil] at hmem
    cases hmem
  ·intro i hi
   obtain ⟨h0,o,ho,hedge⟩:=mem_ready.1 hi
   have hir:i ∈ rest:=(hr i).2 ((unl listed i hs).1 h0)
   have hil:i<ops.size:=(Array.getElem?_eq_some_iff.1 ho).1
   have hlist:∀ e ∈ o.after.toList,Region.binds .any e=true→listed.getD e.on false=true:=fun e hee hb=>hedge e (by simpa using hee) hb
   have hrdy:i ∈ rdy ops rest:=by
    unfold rdy
    rw[List.mem_filter]
    refine ⟨hir,?_⟩
    rw[ho]
    simp only[List.all_eq_true,Bool.or_eq_true,Bool.not_eq_true']
    intro e hee
    cases hb:Region.binds .any e with
    | false=>exact .inl rfl
    | true =>
     right
     have:=hlist e hee hb
     simp only[List.contains_eq_mem,decide_eq_false_iff_not]
     intro hm
     rw[((hr e.on).1 hm).2] at this
     cases this
   obtain ⟨m,hm⟩:∃ m,rest.length=m + 1:=⟨rest.length - 1,by have:=List.length_pos_of_mem hir;omega⟩
   rw[hm] at he
   have he:=(evH_AB hF hC m rest hm hp hcl).1 i st hrdy he
   have hel:(rest.erase i).length=m:=by rw[List.length_erase_of_mem hir,hm];rfl
   rw[← hel] at he
   obtain ⟨_,h2⟩:=omap_get hc
   obtain ⟨ii,hii,hci⟩:=h2 i o (by simpa using ho)
   simp only[List.getD_eq_getElem?_getD,hii,Option.getD_some] at he
   refine wpOp_mono (fun a' w' h=>?_) (wpOp_ok (lo:=lo) ho hci hst hn (evT_le hFG he))
   obtain ⟨st',E',k1,k2,k3,k4⟩:=h
   refine ih (rest.erase i) (listed.setIfInBounds i true) st' E' a' w' (hp.erase i) ?_ (by simpa using hs) (closed_erase hp hcl hrdy) (by omega) k2 k3 k1 fun a'' w'' h=>hq a'' w'' (h.next k4)
   intro j
   have hrj:=hr j
   by_cases hji:j=i
   ·subst hji
    have hil':j<listed.size:=by omega
    constructor
    ·intro hj
     exact absurd hj (hp.not_mem_erase)
    ·rintro ⟨_,h⟩
     simp[hil'] at h
   ·rw[getD_set_ne false (Ne.symm hji),← hrj]
    exact List.mem_erase_of_ne hji
end
end
def okL:List Ins→List Ins→Bool
 | [],_=>true
 | i::is,l=>((is++l).all fun j => !apart true i j || apartG i j) && okL is l
def okT:RT→Bool
 | .run is=>okL is []
 | .fork is a b=>okL is a.lst && (okT a && okT b)
theorem okT_cons{i:Ins}{t:RT}(h:okT (t.cons i)=true):(∀ j ∈ t.lst,apart true i j=true→apartG i j=true)∧okT t=true:=by
 have key:∀ {l:List Ins},(l.all fun j => !apart true i j || apartG i j)=true→∀ j ∈ l,apart true i j=true→apartG i j=true:=fun {l} hl j hj ha=>by
  have:=List.all_eq_true.1 hl j hj
  rw[ha] at this
  simpa using this
 cases t with
 | run is =>
  simp only[RT.cons,okT,okL,Bool.and_eq_true,List.append_nil] at h
  exact ⟨key h.1,h.2⟩
 | fork is a b =>
  simp only[RT.cons,okT,okL,Bool.and_eq_true] at h
  exact ⟨key h.1.1,by simp only[okT,Bool.and_eq_true];exact ⟨h.1.2,h.2⟩⟩
theorem okT_forks:∀ {ts:List RT},okT (RT.forks ts)=true→∀ t ∈ ts,okT t=true
 | [],_,t,ht=>by cases ht
 | [t],h,t',ht=>by rw[List.mem_singleton.1 ht];exact h
 | t::t2::ts,h,t',ht=>by
  simp only[RT.forks,okT,Bool.and_eq_true] at h
  rcases List.mem_cons.1 ht with e | e
  ·rw[e];exact h.2.1
  ·exact okT_forks h.2.2 t' e
theorem find_sub{α : Type}{p q : α → Bool}{x : α}:∀ {l:List α},(∀ a ∈ l,q a=true→p a=true)→l.find? p=some x→q x=true→l.find? q=some x
 | [],_,h,_=>by cases h
 | a::l,hs,h,hq=>by
  rw[List.find?_cons] at h ⊢
  cases hp:p a with
  | true =>
   rw[hp] at h
   injection h with h
   subst h
   rw[hq]
  | false =>
   rw[hp] at h
   have:q a=false:=by
    cases hqa:q a with
    | false=>rfl
    | true=>rw[hs a (List.mem_cons_self ..) hqa] at hp;cases hp
   rw[this]
   exact find_sub (fun b hb=>hs b (List.mem_cons_of_mem _ hb)) h hq
theorem growA_eq{ops:Array Oper}{b:List Nat}{is:List Ins}(hfw:∀ (j:Nat) o,ops[j]? = some o→∀ e ∈ o.after.toList,Region.binds .any e=true→e.on<j):∀ (f:Nat) (rest:List Nat),rest.length=f→rest.Nodup→(∀ j ∈ rest,j<ops.size)→okT (grow true ops b is f rest)=true→grow true ops b is f rest=growA apartG ops b is f rest
 | 0,_,_,_,_,_=>rfl
 | f + 1,rest,hl,hnd,hr,h=>by
  have hne:rest≠[]:=fun e=>by rw[e] at hl;cases hl
  have hlen:∀ k ∈ rest,(rest.erase k).length=f:=fun k hk=>by rw[List.length_erase_of_mem hk,hl];rfl
  have hmem:∀ k,∀ j ∈ rest.erase k,j<ops.size:=fun k j hj=>hr j (List.mem_of_mem_erase hj)
  have hsub:∀ a ∈ rdy ops rest,loneA apartG b is rest a=true→loneI true b is rest a=true:=fun a _ ha=>by
   unfold loneA at ha
   unfold loneI
   rw[List.all_eq_true] at ha ⊢
   intro j hj
   have:=ha j hj
   simp only[Bool.or_eq_true] at this ⊢
   exact this.imp id apartG_apart
  have gA:growA apartG ops b is (f + 1) rest=(match (rdy ops rest).find? (loneA apartG b is rest) with
    | some i=>(growA apartG ops b is f (rest.erase i)).cons (is.getD i default)
    | none=>RT.forks ((rdy ops rest).map fun i=>(growA apartG ops b is f (rest.erase i)).cons (is.getD i default))):=by
   cases rest with
   | nil=>exact absurd rfl hne
   | cons=>rfl
  rw[grow_s hne] at h ⊢
  rw[gA]
  cases hf:(rdy ops rest).find? (loneI true b is rest) with
  | some i =>
   rw[hf] at h
   have hi:=(rdy_mem (List.mem_of_find?_eq_some hf)).1
   obtain ⟨h1,h2⟩:=okT_cons h
   have hlo:loneA apartG b is rest i=true:=by
    have hp:=List.find?_some hf
    unfold loneI at hp
    unfold loneA
    rw[List.all_eq_true] at hp ⊢
    intro j hj
    have:=hp j hj
    simp only[Bool.or_eq_true] at this ⊢
    rcases this with h | h
    ·exact .inl h
    ·by_cases e:j=i
     ·exact .inl (.inl (by simpa using e))
     ·exact .inr (h1 _ (grow_lst hfw f _ (hlen i hi) (hmem i) j ((List.mem_erase_of_ne e).2 hj)) h)
   rw[find_sub hsub hf hlo]
   simp only
   rw[growA_eq hfw f _ (hlen i hi) (hnd.erase i) (hmem i) h2]
  | none =>
   rw[hf] at h
   have hn:(rdy ops rest).find? (loneA apartG b is rest)=none:=by
    rw[List.find?_eq_none] at hf ⊢
    exact fun a ha hc=>hf a ha (hsub a ha hc)
   rw[hn]
   simp only at h ⊢
   have hmap:((rdy ops rest).map fun i=>(grow true ops b is f (rest.erase i)).cons (is.getD i default))=((rdy ops rest).map fun i=>(growA apartG ops b is f (rest.erase i)).cons (is.getD i default)):=by
    refine List.map_congr_left fun k hk=>?_
    have hk':=(rdy_mem hk).1
    rw[growA_eq hfw f _ (hlen k hk') (hnd.erase k) (hmem k) (okT_cons (okT_forks h _ (List.mem_map.2 ⟨k,hk,rfl⟩))).2]
   rw[hmap]
theorem AW.regtG{n lo:Nat}{Q:Ex→St→Prop}{st:St}{t:RT}(hk:okT t=true)(h:evR (Fng P) t (Q .normal) st):AW P n lo (.regt t) Q st:=fun c' hc E a w hst hn=>by
 have fin:∀ E1 a' w1 w',Ext lo E w E1 w1→Then lo n E1 w1 (Q .normal) a' w'→Post n lo E w Q .normal a' w':=by
  rintro E1 a' w1 w' hx ⟨st',E',k1,k2,k3,k4⟩
  exact ⟨.normal,st',E',rfl,k1,k2,k3,hx.trans k4 (Nat.le_refl _)⟩
 unfold compC at hc
 split at hc
 case h_3 =>
  rename_i id ops draw
  split at hc
  case h_2=>cases hc
  rename_i is' hops
  split at hc
  case isFalse=>cases hc
  rename_i hdraw
  subst hdraw
  split at hc
  case isFalse=>cases hc
  rename_i hm
  split at hc
  ·cases hc
  split at hc
  ·cases hc
  split at hc
  case isFalse=>cases hc
  rename_i hw
  cases hc
  refine wp_region_draw fun t=>?_
  obtain ⟨d1,d2⟩:=hst.drew (lo:=lo)
  simp only[Region.schedule,hm,if_true]
  rw[growA_eq (fwd_ok hw) _ _ List.length_range List.nodup_range (fun j hj=>List.mem_range.1 hj) hk] at h
  have hg:=growA_ok Fng_mono _ _ h
  refine wpAny_sound ops.size t _ a _ (wpAny_H (ap:=apartG) Fng_mono (fun _ _ hij _ _=>evT_commG Fng_mono Fng_live Fng_grow hij) Fng_Fn hops (fwd_ok hw) ops.size (List.range ops.size) _ st E a w.drew List.nodup_range (fun j=>?_) (by simp) ?_ (by simp) d1 hn (K:=Q .normal) (by rw[List.length_range];exact hg) fun a' w' ht=>fin E a' w.drew w' d2 ht)
  ·rw[List.mem_range]
   constructor
   ·intro hj
    exact ⟨hj,by simp[hj]⟩
   ·exact fun hj=>hj.1
  ·intro k o ho hk
   have:=(Array.getElem?_eq_some_iff.1 ho).1
   simp[this] at hk
 all_goals repeat' split at hc
 all_goals first | (cases hc;done) | (obtain ⟨_,_,hc⟩:=map_some' hc;cases hc;done)
theorem evTs_frc{is:List Ins}{K:St→Prop}{s:Nat→AV}{h:Hp}{d:Option Nat}{α β : Type}{r : α}{m:Option β}{kont : β → Option α}(H:m.bind kont=some r){k:Nat}{as':List AV}{enc : β → AV}(spec:∀ y,m=some y→Pure P k as' (· = enc y))
  {f:Od}{os:List Od}{caps args:List AV}(hf:f.ev s=.fn k caps) (ha:os.map (Od.ev s)++caps=args) (hpl:plain deep (.tup args)=true) (hu:args.map (unf 12)=as') {enc' : β → AV}{blk : β → HB}(hr:∀ y,adopt h (enc y)=some (enc' y,h++[blk y]))
  (hk:∀ y,kont y=some r→evTs (Fng P) is K ⟨put? s d (enc' y),h++[blk y]⟩):evTs (Fng P) (Ins.mk d none (.call f os)::is) K ⟨s,h⟩:=by
 obtain ⟨y,hy,h2⟩:=Option.bind_eq_some_iff.1 H
 refine evTs_call hf ?_
 subst hu
 rw[ha]
 unfold Fng
 refine Fn.pure (spec y hy).args (h1:=h) (by simp[freeze,hpl]) fun x hx=>⟨_,_,?_,⟨_,rfl⟩,hk y h2⟩
 subst hx
 rw[ite_self]
 exact hr y
theorem hFng(k:Nat)(args:List AV)(h:Hp)(K:AV→Hp→Prop)(hf:Fn P k args h (fun v h'=>h'=h∧K v h')):Fng P k args h K:=hf.mono fun _ _ k=>⟨⟨[],by rw[k.1,List.append_nil]⟩,k.2⟩
end Go.Ab
