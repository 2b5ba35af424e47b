import Derived.Test.YtgjfhplkochbpaaGreatAM6
set_option linter.unusedSimpArgs false
set_option linter.unusedVariables false
namespace Go.Ab
open Go
def mkv?{τ : Type}(n:Int)(bytes:Nat)(d : τ):Option (List τ):=if 0<n∧n.toNat≤maxStr∧n.toNat * bytes≤room then some (List.replicate n.toNat d) else none
theorem evTs_mkv{F:CallF}{is:List Ins}{K:St→Prop}{s:Nat→AV}{h:Hp}{d:Option Nat}{α τ : Type}{r : α}{d0 : τ}{bytes:Nat}{n:Int}{kont:List τ → Option α}(H:(mkv? n bytes d0).bind kont=some r){enc : τ → AV}{e:Nat}{z:AV}{x:Od}{k:IntKind}(hz:enc d0=z)(hx:x.ev s=.int k n)
  (hk:∀ y,kont y=some r→evTs F is K ⟨put? s d (.row e h.length 0 y.length),h++[.els e (y.map enc)]⟩):evTs F (Ins.mk d none (.appz e bytes z (.c (.sl e true [])) x)::is) K ⟨s,h⟩:=by
 obtain ⟨y,hy,h2⟩:=Option.bind_eq_some_iff.1 H
 unfold mkv? at hy
 split at hy
 case isFalse=>cases hy
 rename_i hc
 injection hy with hy
 subst hy;subst hz
 obtain ⟨c1,c2,c3⟩:=hc
 refine step rfl ?_ (hk _ h2)
 have e0:(Od.c (AV.sl e true [])).ev s=.sl e true []:=rfl
 simp only[evV,hx,e0]
 rw[if_pos ⟨c1,c2,c3⟩]
 simp only[appendL]
 rw[if_pos (by simp[c2,c3])]
 simp
theorem wmd:(∀ h:Decidable True,@decide True h=true)∧(∀ h:Decidable False,@decide False h=false):=⟨fun h=>@decide_true h,fun h=>@decide_false h⟩
theorem ite_unr{p:Prop}[Decidable p]{a b:AV}(ha:unr a=a)(hb:unr b=b):unr (if p then a else b)=if p then a else b:=by split<;>assumption
theorem ite_ad{h:Hp}{p:Prop}[Decidable p]{a b:AV}(ha:adopt h a=some (a,h))(hb:adopt h b=some (b,h)):adopt h (if p then a else b)=some (if p then a else b,h):=by split<;>assumption
theorem selN{α : Type}{i n:Nat}{A B:Option α}{r : α}(H:(if decide (i=n)=true then A else B)=some r):(i=n∧A=some r)∨(i≠n∧B=some r):=by
 by_cases h:i=n
 ·left;simp only[h,decide_true,if_true] at H;exact ⟨h,H⟩
 ·right;simp only[h,decide_false,Bool.false_eq_true,if_false] at H;exact ⟨h,H⟩
variable {P:Program}
def Prs(S:List Nat)(st:St):Prop:=∀ j ∈ S,∃ cs,st.s j=.pro cs
def loadP(S:List Nat)(i:Ins):Bool:=i.g.isNone && (match i.o with | .load _ (.t x)=>S.contains x | _=>false)
def apartP(S:List Nat)(i j:Ins):Bool:=apart false i j ||
 ((match i.d with | some d => !j.reads.contains d && j.d != some d | none=>true) && (match j.d with | some d => !i.reads.contains d | none=>true) && (loadP S i && j.o.isCall))
theorem evT_keep{F:CallF}(hF:Mono F){i:Ins}{K:St→Prop}{st:St}(he:evT F i K st):evT F i (fun st'=>(∀ x,i.d≠some x→st'.s x=st.s x)∧K st') st:=by
 unfold evT at *
 refine act_mono hF (fun v h' hk=>⟨fun x hx=>?_,hk⟩) he
 cases hd:i.d with
 | none=>rfl
 | some d =>
  rw[hd] at hx
  show put st.s d v x=_
  unfold put
  rw[if_neg (fun e=>hx (by rw[e]))]
theorem act_loadP{F:CallF}{S:List Nat}{i:Ins}(hi:loadP S i=true){s:Nat→AV}(hS:∀ j ∈ S,∃ cs,s j=.pro cs):∃ r:Option AV,∀ (s':Nat→AV) (h:Hp) (K:AV→Hp→Prop),(∀ x ∈ i.reads,s' x=s x)→(act F i s' h K↔match r with | some v=>K v h | none=>False):=by
 obtain ⟨id,g,o⟩:=i
 simp only[loadP,Bool.and_eq_true] at hi
 obtain ⟨hg,ho⟩:=hi
 cases g with
 | some g=>simp at hg
 | none =>
  cases o<;>try (simp at ho;done)
  rename_i e x
  cases x<;>try (simp at ho;done)
  rename_i x
  obtain ⟨cs,hcs⟩:=hS x (List.contains_iff_mem.1 ho)
  refine ⟨pick? e 0 cs,fun s' h K hs=>?_⟩
  have hx:s' x=.pro cs:=by rw[hs x (by simp[Ins.reads,Op1.reads,odReads])];exact hcs
  simp only[act,evO,evV,Od.ev,hx]
  cases pick? e 0 cs<;>simp
theorem evT_commP{F:CallF}(hF:Mono F)(hL:Live' F){S:List Nat}{i j:Ins}(h:apartP S i j=true){K:St→Prop}{st:St}(hS:Prs S st)(he:evT F i (evT F j K) st):evT F j (evT F i K) st:=by
 unfold apartP at h
 rw[Bool.or_eq_true] at h
 rcases h with h | h
 ·exact evT_comm hF hL (q:=false) (fun h=>by cases h) h he
 ·simp only[Bool.and_eq_true] at h
  obtain ⟨⟨k1,k2⟩,hi,hj⟩:=h
  have h1:∀ d,i.d=some d→d ∉ j.reads:=fun d hd=>by rw[hd] at k1;simp at k1;exact k1.1
  have h2:∀ d,i.d=some d→j.d≠some d:=fun d hd=>by rw[hd] at k1;simp at k1;exact k1.2
  have h3:∀ d,j.d=some d→d ∉ i.reads:=fun d hd=>by rw[hd] at k2;simp at k2;exact k2
  obtain ⟨r,hr⟩:=act_loadP (F:=F) hi (s:=st.s) hS
  unfold evT at *
  dsimp only at he ⊢
  have he:=(hr st.s st.h _ (fun _ _=>rfl)).1 he
  cases r with
  | none=>exact he.elim
  | some v =>
   simp only[act_put (F:=F) (i:=j) (d:=i.d) h1] at he
   have hc:∀ u,put? (put? st.s i.d v) j.d u=put? (put? st.s j.d u) i.d v:=fun u=>put?_comm st.s h2 v u
   simp only[hc] at he
   refine act_mono hF (fun u h' hk=>?_) he
   refine (hr _ h' _ fun x hx=>?_).2 hk
   cases hd:j.d with
   | none=>rfl
   | some d =>
    show put st.s d u x=_
    unfold put
    rw[if_neg (fun e:x=d=>h3 d hd (by rw[← e];exact hx))]
theorem evTs_frontP{F:CallF}(hF:Mono F)(hL:Live' F){S:List Nat}{i:Ins}:∀ {js is:List Ins}{K:St→Prop}{st:St},Prs S st→(∀ j ∈ js,∀ d,j.d=some d→d ∉ S)→(∀ j ∈ js,apartP S j i=true)→evTs F (js++i::is) K st→evTs F (i::(js++is)) K st
 | [],_,_,_,_,_,_,he=>he
 | j::js,is,K,st,hS,hd,ha,he=>by
  simp only[List.cons_append,evTs] at he ⊢
  have h1:evT F j (evT F i (evTs F (js++is) K)) st:=evT_mono hF (fun st' hs=>evTs_frontP hF hL (fun x hx=>by rw[hs.1 x fun e=>hd j List.mem_cons_self x e hx];exact hS x hx) (fun j' hj=>hd j' (List.mem_cons_of_mem _ hj)) (fun j' hj=>ha j' (List.mem_cons_of_mem _ hj)) hs.2) (evT_keep hF he)
  exact evT_commP hF hL (ha j List.mem_cons_self) hS h1
theorem keptS{is:List Ins}{S:List Nat}(h:is.all (fun i=>match i.d with | some d => !S.contains d | none=>true)=true)(j d:Nat)(hd:(is.getD j default).d=some d):d ∉ S:=by
 rw[List.getD_eq_getElem?_getD] at hd
 cases hj:is[j]? with
 | none=>rw[hj] at hd;cases hd
 | some i =>
  rw[hj] at hd
  have:=List.all_eq_true.1 h i (List.mem_of_getElem? hj)
  rw[show i.d=some d from hd] at this
  simpa using this
theorem least:∀ {l:List Nat},l≠[]→∃ a ∈ l,∀ b ∈ l,a≤b
 | [x],_=>⟨x,by simp,by simp⟩
 | x::y::l,_=>by
  obtain ⟨a,ha,hm⟩:=least (l:=y::l) (by simp)
  by_cases h:x≤a
  ·exact ⟨x,by simp,fun b hb=>by rcases List.mem_cons.1 hb with e | e;exact Nat.le_of_eq e.symm;exact Nat.le_trans h (hm b e)⟩
  ·exact ⟨a,List.mem_cons_of_mem _ ha,fun b hb=>by rcases List.mem_cons.1 hb with e | e;omega;exact hm b e⟩
section
variable {ops:Array Oper}{Q:Exit→Act→World→Prop}{n lo:Nat}{is:List Ins}
theorem wpAny_permP{S:List Nat}{F:CallF}(hF:Mono F)(hL:Live' F)(hSd:is.all (fun i=>match i.d with | some d => !S.contains d | none=>true)=true)(hFG:∀ k args h K,F k args h K→Fn P k args h K)(hc:omap (compI P n ops) ops.toList=some is)(hd:drawOK true ops is=true):∀ (fuel:Nat) (rest:List Nat) (listed:Array Bool) (st:St) (E:Env) (a:Act) (w:World),
  rest.Nodup→rest.Pairwise (fun x y=>((befs ops.toList []).getD y 0).testBit x=false→apartP S (is.getD x default) (is.getD y default)=true)→(∀ j,j ∈ rest↔(j<ops.size∧listed.getD j false=false))→listed.size=ops.size→Closed ops (fun j=>listed.getD j false=true)→rest.length≤fuel→Prs S st→StOK E st a w→a.tmps.size=n→∀ {K:St→Prop},
  evTs F (rest.map fun j=>is.getD j default) K st→(∀ a' w',Then lo n E w K a' w'→Q .normal a' w')→wpAny P .any ops Q fuel listed a w:=by
 have unl:∀ (listed:Array Bool) (j:Nat),listed.size=ops.size→(listed.getD j true=false↔(j<ops.size∧listed.getD j false=false)):=fun listed j hs=>by
  by_cases hj:j<listed.size
  ·simp[hj,← hs]
  ·simp[hj,← hs]
 intro fuel
 induction fuel with
 | zero =>
  intro rest listed st E a w _ _ hr hs _ hl _ hst hn K he hq
  have hnil:rest=[]:=List.eq_nil_of_length_eq_zero (by omega)
  subst hnil
  refine ⟨?_,hq a w ⟨st,E,he,hst,hn,Ext.refl _ _ _⟩⟩
  refine List.eq_nil_iff_forall_not_mem.2 fun j hj=>?_
  obtain ⟨h0,o,ho,_⟩:=mem_ready.1 hj
  have:=(hr j).2 ((unl listed j hs).1 h0)
  simp at this
 | succ fuel ih =>
  intro rest listed st E a w hnd hp hr hs hcl hl hS hst hn K he hq
  constructor
  ·intro hnil
   by_cases hrn:rest=[]
   ·subst hrn;exact hq a w ⟨st,E,he,hst,hn,Ext.refl _ _ _⟩
   ·exfalso
    obtain ⟨j0,hj0m,hmin⟩:=least hrn
    obtain ⟨hj0,hu⟩:=(hr j0).1 hj0m
    have ho:ops[j0]? = some ops[j0]:=Array.getElem?_eq_getElem hj0
    have hmem:j0 ∈ Region.ready .any ops listed:=by
     refine mem_ready.2 ⟨(unl listed j0 hs).2 ⟨hj0,hu⟩,_,ho,fun e hee hb=>?_⟩
     have hlt:=drawOK_edge hd ho (by simpa using hee) hb
     cases hx:listed.getD e.on false with
     | true=>rfl
     | false =>
      have hin:=(hr e.on).2 ⟨by omega,hx⟩
      have:=hmin _ hin
      omega
    rw[hnil] at hmem
    cases hmem
  ·intro i hi
   obtain ⟨h0,o,ho,hedge⟩:=mem_ready.1 hi
   have hir:i ∈ rest:=(hr i).2 ((unl listed i hs).1 h0)
   obtain ⟨js,ks,rfl⟩:=List.append_of_mem hir
   have hil:i<ops.size:=(Array.getElem?_eq_some_iff.1 ho).1
   have hp2:=List.pairwise_append.1 hp
   have hn2:=List.pairwise_append.1 hnd
   have hlist:∀ e ∈ o.after.toList,Region.binds .any e=true→listed.getD e.on false=true:=fun e hee hb=>hedge e (by simpa using hee) hb
   have hap:∀ x ∈ js.map (fun j=>is.getD j default),apartP S x (is.getD i default)=true:=fun x hx=>by
    obtain ⟨j,hj,rfl⟩:=List.mem_map.1 hx
    refine hp2.2.2 j hj i List.mem_cons_self ?_
    cases hb:((befs ops.toList []).getD i 0).testBit j with
    | false=>rfl
    | true =>
     have h1:=before_listed hcl i o ho hlist j hb
     have h2:=((hr j).1 (List.mem_append_left _ hj)).2
     rw[h1] at h2
     cases h2
   have hdS:∀ x ∈ js.map (fun j=>is.getD j default),∀ d,x.d=some d→d ∉ S:=fun x hx d hd=>by
    obtain ⟨j,hj,rfl⟩:=List.mem_map.1 hx
    exact keptS hSd j d hd
   simp only[List.map_append,List.map_cons] at he
   have he:=evTs_frontP hF hL hS hdS hap he
   simp only[evTs] at he
   replace he:=evT_keep hF he
   obtain ⟨_,h2⟩:=omap_get hc
   obtain ⟨ii,hii,hci⟩:=h2 i o (by simpa using ho)
   simp only[List.getD_eq_getElem?_getD,hii,Option.getD_some] at he
   refine wpOp_mono (fun a' w' h=>?_) (wpOp_ok (lo:=lo) ho hci hst hn (evT_le hFG he))
   obtain ⟨st',E',⟨k0,k1⟩,k2,k3,k4⟩:=h
   have hS':Prs S st':=fun j hj=>by
    rw[k0 j fun e=>keptS hSd i j (by simpa[List.getD_eq_getElem?_getD,hii] using e) hj]
    exact hS j hj
   refine ih (js++ks) (listed.setIfInBounds i true) st' E' a' w' ?_ ?_ ?_ (by simpa using hs) ?_ (by simp at hl ⊢;omega) hS' k2 k3 (by simpa[List.getD_eq_getElem?_getD,List.map_append] using k1) fun a'' w'' h=>hq a'' w'' (h.next k4)
   ·exact List.pairwise_append.2 ⟨hn2.1,(List.pairwise_cons.1 hn2.2.1).2,fun x hx y hy=>hn2.2.2 x hx y (List.mem_cons_of_mem _ hy)⟩
   ·exact List.pairwise_append.2 ⟨hp2.1,(List.pairwise_cons.1 hp2.2.1).2,fun x hx y hy=>hp2.2.2 x hx y (List.mem_cons_of_mem _ hy)⟩
   ·intro j
    have hrj:=hr j
    by_cases hji:j=i
    ·subst hji
     have hil':j<listed.size:=by omega
     constructor
     ·intro hj
      exfalso
      rcases List.mem_append.1 hj with h | h
      ·exact hn2.2.2 j h j List.mem_cons_self rfl
      ·exact (List.pairwise_cons.1 hn2.2.1).1 j h rfl
     ·rintro ⟨_,h⟩
      simp[hil'] at h
    ·rw[getD_set_ne false (Ne.symm hji),← hrj]
     simp[hji]
   ·intro k o' ho' hk e hee hb
    by_cases hki:k=i
    ·subst hki
     rw[ho] at ho';injection ho' with ho';subst ho'
     exact getD_set_true (hlist e hee hb)
    ·rw[getD_set_ne false (Ne.symm hki)] at hk
     exact getD_set_true (hcl k o' ho' hk e hee hb)
end
def permOKP(S:List Nat)(is:List Ins):List Nat→Bool
 | []=>true
 | a::l=>(l.all fun b=>apartP S (is.getD a default) (is.getD b default) || (decide (a<b) && !apart true (is.getD a default) (is.getD b default))) && permOKP S is l
theorem permOKP_pw{S:List Nat}{ops:Array Oper}{is:List Ins}(hd:drawOK true ops is=true):∀ {l:List Nat},(∀ j ∈ l,j<ops.size)→permOKP S is l=true→l.Pairwise fun x y=>((befs ops.toList []).getD y 0).testBit x=false→apartP S (is.getD x default) (is.getD y default)=true
 | [],_,_=>List.Pairwise.nil
 | a::l,hl,h=>by
  simp only[permOKP,Bool.and_eq_true] at h
  refine List.pairwise_cons.2 ⟨fun b hb hn=>?_,permOKP_pw hd (fun j hj=>hl j (List.mem_cons_of_mem _ hj)) h.2⟩
  have:=List.all_eq_true.1 h.1 b hb
  simp only[Bool.or_eq_true,Bool.and_eq_true,decide_eq_true_eq,Bool.not_eq_true'] at this
  rcases this with h1 | ⟨h1,h2⟩
  ·exact h1
  ·rw[drawOK_apart hd (hl b (List.mem_cons_of_mem _ hb)) h1 hn] at h2
   cases h2
theorem AW.regp{n lo:Nat}{Q:Ex→St→Prop}{st:St}{is:List Ins}(S:List Nat)(perm:List Nat)(hS:Prs S st)(hSd:is.all (fun i=>match i.d with | some d => !S.contains d | none=>true)=true)(hp:(List.range is.length).isPerm perm=true)(hk:permOKP S is perm=true)(h:evTs (Fn P) (perm.map fun j=>is.getD j default) (Q .normal) st):AW P n lo (.regq is) Q st:=fun c' hc E a w hst hn=>by
 have fin:∀ E1 a' w1 w',Ext lo E w E1 w1→Then lo n E1 w1 (Q .normal) a' w'→Post n lo E w Q .normal a' w':=by
  rintro E1 a' w1 w' hx ⟨st',E',k1,k2,k3,k4⟩
  exact ⟨.normal,st',E',rfl,k1,k2,k3,hx.trans k4 (Nat.le_refl _)⟩
 unfold compC at hc
 split at hc
 case h_3 =>
  rename_i id ops draw
  split at hc
  case h_2=>cases hc
  rename_i is' hops
  split at hc
  case isFalse=>cases hc
  rename_i hdraw
  subst hdraw
  split at hc
  case isFalse=>cases hc
  rename_i hm
  split at hc
  ·cases hc
  split at hc
  case isFalse=>split at hc<;>cases hc
  rename_i hd
  cases hc
  obtain ⟨hlen,_⟩:=omap_get hops
  have hlen:is.length=ops.size:=by simpa using hlen
  have hperm:=List.isPerm_iff.1 hp
  refine wp_region_draw fun t=>?_
  obtain ⟨d1,d2⟩:=hst.drew (lo:=lo)
  simp only[Region.schedule,hm,if_true]
  have hmem:∀ j,j ∈ perm↔j<ops.size:=fun j=>by rw[← hperm.mem_iff,List.mem_range,hlen]
  refine wpAny_sound ops.size t _ a _ (wpAny_permP (S:=S) Fn_mono Fn_live hSd (fun _ _ _ _ h=>h) hops hd ops.size perm _ st E a w.drew (hperm.nodup_iff.1 List.nodup_range) (permOKP_pw hd (fun j hj=>(hmem j).1 hj) hk) (fun j=>?_) (by simp) ?_ (by rw[← hperm.length_eq,List.length_range];omega) hS d1 hn (K:=Q .normal) h fun a' w' ht=>fin E a' w.drew w' d2 ht)
  ·rw[hmem]
   constructor
   ·intro hj
    exact ⟨hj,by simp[hj]⟩
   ·exact fun hj=>hj.1
  ·intro k o ho hk
   have:=(Array.getElem?_eq_some_iff.1 ho).1
   simp[this] at hk
 all_goals repeat' split at hc
 all_goals first | (cases hc;done) | (obtain ⟨_,_,hc⟩:=map_some' hc;cases hc;done)
theorem AW.rpseq{n lo:Nat}{Q:Ex→St→Prop}{st:St}{is js:List Ins}{y:C}(S:List Nat)(perm:List Nat)(hS:Prs S st)(hSd:is.all (fun i=>match i.d with | some d => !S.contains d | none=>true)=true)(hj:(perm.map fun j=>is.getD j default)=js)(hp:(List.range is.length).isPerm perm=true)(hk:permOKP S is perm=true)(h:evTs (Fn P) js (fun st=>AW P n lo y Q st) st):AW P n lo (.seq (.regq is) y) Q st:=AW.seq (AW.regp S perm hS hSd hp hk (by rw[hj];exact h))
end Go.Ab
