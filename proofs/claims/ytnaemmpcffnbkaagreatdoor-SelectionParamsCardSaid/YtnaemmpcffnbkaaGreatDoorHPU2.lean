import Derived.Test.YtnaemmpcffnbkaaGreatDoorHPU1
namespace Go.Proofs.YtnaemmpcffnbkaaGreatDoor
open Go Go.Ab
set_option linter.unusedSimpArgs false
set_option linter.unusedVariables false
set_option maxRecDepth 4000
theorem f141_eq{l:List ApiFixture}(ps:List ApiProfile)(hf:Fit l):f141 l ps=some (if checkS l ps≠0 then (⟨[],[]⟩,checkS l ps) else (⟨l,mapS ps⟩,0)):=by
 unfold f141
 rw[f96_eq ps hf,Option.bind_some]
 by_cases h:checkS l ps≠0
 ·rw[if_pos (by simpa using h),if_pos h]
 ·rw[if_neg (by simpa using h),if_neg h]
  have hok:=check_ok.1 (by simpa using h:checkS l ps=0)
  rw[f139_eq l (by have:=hok.np;omega),Option.bind_some]
def ofCh(l:List ApiFixture)(c:Int):List ApiFixture:=l.filter fun x=>decide (x.fChannel=c)
def partsS(l:List ApiFixture)(c:Int):List ApiFixture:=isortL (fun a b=>a.fPart - b.fPart) (ofCh l c)
theorem f204_eq{l:List ApiFixture}(hl:l.length≤1000):f204 l=some l:=by
 unfold f204
 have happ:app? 72 [] l=some ([]++l):=app_some (by simp only[List.length_nil];omega) (by simp only[List.length_nil];omega)
 cases l with
 | nil=>rw[nil_nil (by rw[happ];rfl)];rfl
 | cons x xs=>rw[nil_cons (by simp),happ];simp
theorem ofCh_mem{l:List ApiFixture}{c:Int}{x:ApiFixture}:x ∈ ofCh l c↔x ∈ l∧x.fChannel=c:=by unfold ofCh;rw[List.mem_filter];simp
theorem parts_perm(l:List ApiFixture)(c:Int):(partsS l c).Perm (ofCh l c):=isortL_perm ..
theorem parts_asc{l:List ApiFixture}{ps:List ApiProfile}(c:Int)(hok:Ok l ps):(partsS l c).Pairwise fun a b=>a.fPart<b.fPart:=by
 have h1:(partsS l c).Pairwise fun a b=>a.fPart≤b.fPart:=isortL_sorted (key:=fun x:ApiFixture=>x.fPart) fun x _ y _=>by constructor<;>intro h<;>omega
 have h2:(partsS l c).Pairwise fun a b=>a.fPart≠b.fPart:=by
  refine (parts_perm l c).symm.pairwise ?_ fun {a b} h e=>h e.symm
  have:(ofCh l c).Pairwise fun y x=>dupS y x=false:=hok.two.sublist (List.filter_sublist ..)
  refine this.imp_of_mem fun {a b} ha hb hd e=>?_
  have e1:=(ofCh_mem.1 ha).2
  have e2:=(ofCh_mem.1 hb).2
  unfold dupS at hd
  simp only[decide_eq_false_iff_not] at hd
  exact hd ⟨by rw[e1,e2],e⟩
 refine (h1.and h2).imp fun {a b} h=>?_
 omega
theorem strict_ext{τ : Type}{key : τ → Int}:∀ {xs ys:List τ},xs.Pairwise (fun a b=>key a<key b)→ys.Pairwise (fun a b=>key a<key b)→(∀ z,z ∈ xs↔z ∈ ys)→xs=ys
 | [],[],_,_,_=>rfl
 | [],y::ys,_,_,h=>by have:=(h y).2 (List.mem_cons_self ..);cases this
 | x::xs,[],_,_,h=>by have:=(h x).1 (List.mem_cons_self ..);cases this
 | x::xs,y::ys,h1,h2,h=>by
  have h1':=List.pairwise_cons.1 h1
  have h2':=List.pairwise_cons.1 h2
  have hxy:x=y:=by
   rcases List.mem_cons.1 ((h x).1 (List.mem_cons_self ..)) with e | e
   ·exact e
   ·rcases List.mem_cons.1 ((h y).2 (List.mem_cons_self ..)) with e2 | e2
    ·exact e2.symm
    ·have:=h2'.1 x e
     have:=h1'.1 y e2
     omega
  subst hxy
  rw[strict_ext h1'.2 h2'.2 fun z=>?_]
  have hz:=h z
  rw[List.mem_cons,List.mem_cons] at hz
  constructor
  ·intro hm
   rcases hz.1 (.inr hm) with e | e
   ·have:=h1'.1 z hm;rw[e] at this;omega
   ·exact e
  ·intro hm
   rcases hz.2 (.inr hm) with e | e
   ·have:=h2'.1 z hm;rw[e] at this;omega
   ·exact e
theorem f142_eq2{l:List ApiFixture}{ps:List ApiProfile}(m:List (List UInt8×ApiProfile))(c:Int)(hok:Ok l ps):f142 ⟨l,m⟩ c=some (partsS l c):=by
 have hl:=hok.nl
 unfold f142
 show (f204 l).bind _=_
 rw[f204_eq (by omega),Option.bind_some,delf_some (f:=fun x=>f205p x c) (xs:=l) (p:=fun x:ApiFixture=>decide (x.fChannel≠c)) (fun x _=>rfl) (by omega),Option.bind_some]
 have he:(l.filter fun x => !decide (x.fChannel≠c))=ofCh l c:=by
  unfold ofCh
  congr 1
  funext x
  by_cases h:x.fChannel=c<;>simp[h]
 have hlen:(ofCh l c).length≤l.length:=List.length_filter_le ..
 obtain ⟨ys,h1,h2,h3⟩:=sortx_some (f:=fun x y=>f207 x y) (xs:=ofCh l c) (c:=fun a b:ApiFixture=>a.fPart - b.fPart) (fun x hx y hy=>by
  have h1:=alone_rng (hok.one x (ofCh_mem.1 hx).1)
  have h2:=alone_rng (hok.one y (ofCh_mem.1 hy).1)
  show some _=_
  rw[w64 (by omega) (by omega)]) (fun x _ y _ z _=>⟨by omega,fun _ _=>by omega,fun _ _=>by omega⟩) (by omega)
 rw[he,h1,Option.bind_some]
 have e:ys=partsS l c:=by
  refine strict_ext (key:=fun x=>x.fPart) ?_ (parts_asc c hok) fun z=>by rw[h2.mem_iff,(parts_perm l c).mem_iff]
  have hne:ys.Pairwise fun a b=>a.fPart≠b.fPart:=by
   refine h2.symm.pairwise ?_ fun {a b} h e=>h e.symm
   have:(ofCh l c).Pairwise fun y x=>dupS y x=false:=hok.two.sublist (List.filter_sublist ..)
   refine this.imp_of_mem fun {a b} ha hb hd e=>?_
   have e1:=(ofCh_mem.1 ha).2
   have e2:=(ofCh_mem.1 hb).2
   unfold dupS at hd
   simp only[decide_eq_false_iff_not] at hd
   exact hd ⟨by rw[e1,e2],e⟩
  refine (h3.and hne).imp fun {a b} h=>?_
  omega
 rw[e]
def featS(ps:List ApiProfile)(x:ApiFixture):List ApiFeature:=match profS ps x.fProfile with
 | some p=>p.fFeatures
 | none=>[]
def attrsOf(ps:List ApiProfile)(l:List ApiFixture):List Int:=l.flatMap fun x=>(featS ps x).map (·.fAttr)
def attrsS(ps:List ApiProfile)(l:List ApiFixture)(c:Int):List Int:=Lib.compact (sortI (attrsOf ps (ofCh l c)))
structure Few (l:List ApiFixture) (ps:List ApiProfile):Prop where
 nf:∀ p ∈ ps,p.fFeatures.length≤16
theorem feat_len{l:List ApiFixture}{ps:List ApiProfile}(hf:Few l ps)(hok:Ok l ps)(x:ApiFixture):(featS ps x).length≤16:=by
 unfold featS
 cases hp:profS ps x.fProfile with
 | none=>simp
 | some p=>exact hf.nf p (List.mem_of_find?_eq_some hp)
theorem run_more{τ ρ : Type}{L:Lp (Int×List ρ) (List ρ)}{xs:List τ}(f : τ → List ρ)(B:Nat)(hs:∀ (k:Nat) (acc:List ρ) x,Rnd xs k x→acc.length≤B + 20 * k→L.body ((k:Int),acc)=some (.next (((k + 1:Nat):Int),acc++f x)))(hl:xs.length≤9223372036854775807)
  (h1:∀ x ∈ xs,(f x).length≤20) (he:∀ acc,L.body (((xs.length:Nat):Int),acc)=some (.brk acc)) {a0:List ρ}(h0:a0.length≤B):L.run (0,a0)=some (a0++xs.flatMap f):=by
 have hrun:=run_walk (L:=L) xs (fun k (a:List ρ)=>((k:Int),a)) (fun _ a x=>.inl (a++f x)) (fun a=>a) (fun k a=>a.length≤B + 20 * k) (fun k a x hx hI=>⟨hs k a x (Rnd.mk' hx hl) hI,fun a' ha'=>by
   injection ha' with ha';subst ha'
   have:=h1 x (getElem?_mem hx)
   rw[List.length_append];omega⟩) (fun a _=>he a) a0 (by omega)
 have hw:∀ (ys:List τ) (k:Nat) (acc:List ρ),walkL (fun _ a x=>.inl (a++f x)) (fun a=>a) k acc ys=acc++ys.flatMap f:=fun ys=>by
  induction ys with
  | nil=>intro k acc;simp[walkL]
  | cons y ys ih=>intro k acc;simp only[walkL];rw[ih];simp
 rw[show ((0,a0):Int×List ρ)=(((0:Nat):Int),a0) from rfl,hrun,hw]
theorem look_get{α : Type}(ps:List ApiProfile)(n:List UInt8)(z:ApiProfile)(kont:ApiProfile→Bool→Option α):look? (mapS ps) n z kont=kont ((profS ps n).getD z) (profS ps n).isSome:=by
 unfold look?;rw[mget_map]
theorem feat_getD(ps:List ApiProfile)(x:ApiFixture)(z:ApiProfile)(hz:z.fFeatures=[]):((profS ps x.fProfile).getD z).fFeatures=featS ps x:=by
 unfold featS
 cases profS ps x.fProfile with
 | none=>exact hz
 | some p=>rfl
theorem f97_run{xs:List ApiFixture}{ps:List ApiProfile}{r:PatchRig×Int}(hr:r.1.fProfiles=mapS ps)(hx:xs.length≤1000)(hfe:∀ x ∈ xs,(featS ps x).length≤16):Lp.run (f97_L1 xs r) (0,[])=some (attrsOf ps xs):=by
 refine (run_more (xs:=xs) (fun x=>(featS ps x).map (·.fAttr)) 0 (fun k acc x q hb=>?_) (by omega) (fun x hx=>by rw[List.length_map];have:=hfe x hx;omega) (fun acc=>if_neg (by simp)) (Nat.le_refl _)).trans ?_
 ·refine (if_pos q.lt).trans ?_
  have hlt:=q.klt
  rw[q.at',Option.bind_some,hr,look_get]
  have h16:=hfe x q.mem
  have hin:Lp.run (f97_L2 ((profS ps x.fProfile).getD ⟨[],0,0,[]⟩) (k:Int) xs r) (0,acc)=some (acc++(featS ps x).flatMap fun y=>[y.fAttr]):=by
   refine run_more (xs:=featS ps x) (fun y=>[y.fAttr]) acc.length (fun j a y q2 hb2=>?_) (by omega) (fun _ _=>by simp) (fun a=>?_) (Nat.le_refl _)
   ·show (if decide ((j:Int)<((((profS ps x.fProfile).getD ⟨[],0,0,[]⟩).fFeatures.length:Nat):Int))=true then _ else _)=_
    have hlt2:=q2.klt
    rw[feat_getD ps x _ rfl,if_pos q2.lt,q2.at',Option.bind_some,app_some (by simp only[List.length_cons,List.length_nil];omega) (by simp only[List.length_cons,List.length_nil];omega)]
    simp only[Option.bind_some,q2.nxt]
   ·show (if decide ((((featS ps x).length:Nat):Int)<((((profS ps x.fProfile).getD ⟨[],0,0,[]⟩).fFeatures.length:Nat):Int))=true then _ else _)=_
    rw[feat_getD ps x _ rfl,if_neg (by simp)]
  rw[hin]
  simp only[Option.bind_some,q.nxt]
  congr 4
  induction featS ps x with
  | nil=>rfl
  | cons y ys ih=>simpa using ih
 ·rfl
theorem sortI_perm_eq{xs ys:List Int}(h:xs.Perm ys):sortI xs=sortI ys:=sortI_unique (sortI_asc ys) ((sortI_perm ys).trans h.symm)
theorem attrs_perm{ps:List ApiProfile}{xs ys:List ApiFixture}(h:xs.Perm ys):(attrsOf ps xs).Perm (attrsOf ps ys):=h.flatMap_right _
theorem attrs_len{xs:List ApiFixture}{ps:List ApiProfile}(hfe:∀ x ∈ xs,(featS ps x).length≤16):(attrsOf ps xs).length≤16 * xs.length:=by
 unfold attrsOf
 induction xs with
 | nil=>simp
 | cons x xs ih =>
  have h1:=hfe x (List.mem_cons_self ..)
  have h2:=ih fun y hy=>hfe y (List.mem_cons_of_mem _ hy)
  simp only[List.flatMap_cons,List.length_append,List.length_map,List.length_cons]
  omega
theorem f97_eq{l:List ApiFixture}{ps:List ApiProfile}(c:Int)(hf:Fit l)(hw:Few l ps):f97 l ps c=some (if checkS l ps≠0 then ([],checkS l ps) else (attrsS ps l c,0)):=by
 unfold f97
 rw[f141_eq ps hf,Option.bind_some]
 by_cases h:checkS l ps≠0
 ·rw[if_pos h,if_pos (by simpa using h),if_pos h]
 ·rw[if_neg h,if_neg (by simp),if_neg h]
  have hok:=check_ok.1 (by simpa using h:checkS l ps=0)
  have h1:=hok.nl
  have hp:(partsS l c).length≤64:=by rw[(parts_perm l c).length_eq];exact Nat.le_trans (List.length_filter_le ..) (by omega)
  show (f142 ⟨l,mapS ps⟩ c).bind _=_
  rw[f142_eq2 _ c hok,Option.bind_some,f97_run (ps:=ps) rfl (by omega) (fun x _=>feat_len hw hok x),Option.bind_some]
  have hal:=attrs_len (ps:=ps) (xs:=partsS l c) fun x _=>feat_len hw hok x
  have hs:sort? (attrsOf ps (partsS l c))=some (sortI (attrsOf ps (partsS l c))):=(sort_def _).trans (if_pos (by omega))
  rw[hs,Option.bind_some]
  have hc:compact? (sortI (attrsOf ps (partsS l c)))=some (Lib.compact (sortI (attrsOf ps (partsS l c)))):=if_pos (by rw[sortI_length];omega)
  rw[hc,Option.bind_some,sortI_perm_eq (attrs_perm (ps:=ps) (parts_perm l c))]
  rfl
def putI(n:Int)(l:List Int):List Int:=l.takeWhile (fun x=>decide (x<n))++(match l.dropWhile (fun x=>decide (x<n)) with
 | []=>[n]
 | y::ys=>if y=n then y::ys else n::y::ys)
theorem take_drop_while{p:Int→Bool}(l:List Int):l.takeWhile p++l.dropWhile p=l:=List.takeWhile_append_dropWhile
theorem drop_tw{p:Int→Bool}(l:List Int):l.drop (l.takeWhile p).length=l.dropWhile p:=by
 conv=>lhs;rw[← take_drop_while (p:=p) l]
 rw[List.takeWhile_append_dropWhile]
 have h:=take_drop_while (p:=p) l
 generalize ht:l.takeWhile p=t at h ⊢
 generalize l.dropWhile p=d at h ⊢
 rw[← h,List.drop_left]
theorem tw_get{p:Int→Bool}{l:List Int}:∀ {k:Nat},k<(l.takeWhile p).length→∃ x,l[k]? = some x∧p x=true∧(l.takeWhile p)[k]? = some x:=fun {k} hk=>by
 have h:=take_drop_while (p:=p) l
 have hx:=List.getElem?_eq_getElem hk
 refine ⟨(l.takeWhile p)[k],?_,?_,hx⟩
 ·conv=>lhs;rw[← h]
  rw[List.getElem?_append_left hk];exact hx
 ·exact List.all_eq_true.1 (List.all_takeWhile (p:=p) (l:=l)) _ (List.getElem_mem hk)
theorem putI_mem{n:Int}{l:List Int}{x:Int}:x ∈ putI n l↔x=n∨x ∈ l:=by
 have h:=take_drop_while (p:=fun x=>decide (x<n)) l
 unfold putI
 have hl:x ∈ l↔x ∈ l.takeWhile (fun x=>decide (x<n))∨x ∈ l.dropWhile (fun x=>decide (x<n)):=by
  conv=>lhs;rw[← h]
  exact List.mem_append
 rw[hl,List.mem_append]
 cases l.dropWhile (fun x=>decide (x<n)) with
 | nil=>simp;exact Or.comm
 | cons y ys =>
  dsimp only
  split
  ·rename_i e
   subst e
   simp only[List.mem_cons]
   constructor
   ·rintro (h | h | h)
    ·exact .inr (.inl h)
    ·exact .inl h
    ·exact .inr (.inr (.inr h))
   ·rintro (h | h | h | h)
    ·exact .inr (.inl h)
    ·exact .inl h
    ·exact .inr (.inl h)
    ·exact .inr (.inr h)
  ·simp only[List.mem_cons]
   constructor
   ·rintro (h | h | h)
    ·exact .inr (.inl h)
    ·exact .inl h
    ·exact .inr (.inr h)
   ·rintro (h | h | h)
    ·exact .inr (.inl h)
    ·exact .inl h
    ·exact .inr (.inr h)
theorem putI_len(n:Int)(l:List Int):(putI n l).length≤l.length + 1:=by
 have h:=congrArg List.length (take_drop_while (p:=fun x=>decide (x<n)) l)
 unfold putI
 rw[List.length_append] at h ⊢
 cases hd:l.dropWhile (fun x=>decide (x<n)) with
 | nil=>rw[hd] at h;simp at h ⊢;omega
 | cons y ys =>
  rw[hd] at h
  dsimp only
  split<;>simp at h ⊢ <;> omega
theorem putI_asc{n:Int}{l:List Int}(h:l.Pairwise (fun a b=>a<b)):(putI n l).Pairwise fun a b=>a<b:=by
 have hsplit:=take_drop_while (p:=fun x=>decide (x<n)) l
 have h':=h
 rw[← hsplit,List.pairwise_append] at h'
 obtain ⟨h1,h2,h3⟩:=h'
 have hlt:∀ a ∈ l.takeWhile (fun x=>decide (x<n)),a<n:=fun a ha=>by
  have:=List.all_eq_true.1 (List.all_takeWhile (p:=fun x=>decide (x<n)) (l:=l)) a ha
  simpa using this
 unfold putI
 rw[List.pairwise_append]
 cases hd:l.dropWhile (fun x=>decide (x<n)) with
 | nil=>exact ⟨h1,List.pairwise_singleton ..,fun a ha b hb=>by simp at hb;rw[hb];exact hlt a ha⟩
 | cons y ys =>
  have hy:¬ y<n:=by
   have:=List.head?_dropWhile_not (fun x=>decide (x<n)) l
   rw[hd] at this
   simpa using this
  rw[hd] at h2 h3
  dsimp only
  split
  ·rename_i e
   exact ⟨h1,h2,h3⟩
  ·rename_i e
   rw[List.pairwise_cons] at h2
   refine ⟨h1,List.pairwise_cons.2 ⟨fun b hb=>?_,List.pairwise_cons.2 h2⟩,fun a ha b hb=>?_⟩
   ·rcases List.mem_cons.1 hb with rfl | hb
    ·omega
    ·have:=h2.1 b hb;omega
   ·rcases List.mem_cons.1 hb with rfl | hb
    ·exact hlt a ha
    ·exact h3 a ha b hb
theorem f145_eq{l:List Int}(n:Int)(hl:l.length≤1000000):f145 l n=some (putI n l):=by
 unfold f145
 have hsplit:=congrArg List.length (take_drop_while (p:=fun x=>decide (x<n)) l)
 rw[List.length_append] at hsplit
 have hdrop:=drop_tw (p:=fun x=>decide (x<n)) l
 generalize ht:l.takeWhile (fun x=>decide (x<n))=t at hsplit hdrop
 have hrun:=run_count (L:=f145_L1 l n) (e:=((t.length:Int),t)) (fun k=>((k:Int),t.take k)) t.length (by
   rw[List.take_length]
   by_cases hlt:t.length<l.length
   ·have hx:=List.getElem?_eq_getElem hlt
    refine (if_pos (by simpa using hlt)).trans ?_
    rw[at_nat hx,Option.bind_some]
    refine if_neg ?_
    have hd:l.dropWhile (fun x=>decide (x<n))=l[t.length]::l.drop (t.length + 1):=by rw[← hdrop,List.drop_eq_getElem_cons hlt]
    have this:=List.head?_dropWhile_not (fun x=>decide (x<n)) l
    rw[hd] at this
    have h0:decide (l[t.length]<n)=false:=this
    rw[h0];simp
   ·exact if_neg (by simp only[decide_eq_true_eq];omega)) 0 (Nat.zero_le _) (fun k _ hk=>by
   obtain ⟨x,h1,h2,h3⟩:=tw_get (p:=fun x=>decide (x<n)) (l:=l) (k:=k) (by rw[ht];exact hk)
   rw[ht] at h3
   have hkl:=getElem?_lt h1
   have htk:(t.take k).length≤k:=by rw[List.length_take];omega
   refine (if_pos (by simpa using hkl)).trans ?_
   rw[at_nat h1,Option.bind_some,if_pos h2,Option.bind_some,app_some (by simp only[List.length_cons,List.length_nil];omega) (by simp only[List.length_cons,List.length_nil];omega),Option.bind_some,w64_succ (by omega),
    List.take_add_one,h3]
   rfl)
 have hrun':Lp.run (f145_L1 l n) (0,[])=some ((t.length:Int),t):=hrun
 rw[hrun',Option.bind_some]
 dsimp only
 unfold putI
 rw[ht]
 by_cases hlt:t.length<l.length
 ·have hx:=List.getElem?_eq_getElem hlt
  have hd:l.dropWhile (fun x=>decide (x<n))=l[t.length]::l.drop (t.length + 1):=by rw[← hdrop,List.drop_eq_getElem_cons hlt]
  rw[if_neg (by simp only[decide_eq_true_eq];omega),at_nat hx,Option.bind_some,hd]
  have hs:slc? l (t.length:Int) ((l.length:Nat):Int)=some (l[t.length]::l.drop (t.length + 1)):=by
   rw[slc_some ⟨by omega,by omega,by omega⟩]
   simp only[Int.toNat_natCast,List.take_length]
   rw[List.drop_eq_getElem_cons hlt]
  have hlen:(l[t.length]::l.drop (t.length + 1)).length≤l.length:=by simp only[List.length_cons,List.length_drop];omega
  dsimp only
  by_cases e:l[t.length]=n
  ·rw[if_neg (by simp[e]),hs,Option.bind_some,app_some (by omega) (by omega),if_pos e];rfl
  ·rw[if_pos (by simpa using e),app_some (by simp only[List.length_cons,List.length_nil];omega) (by simp only[List.length_cons,List.length_nil];omega),Option.bind_some,hs,Option.bind_some,app_some (by simp only[List.length_append,List.length_cons,List.length_nil] at hlen ⊢;omega) (by simp only[List.length_append,List.length_cons,List.length_nil] at hlen ⊢;omega),if_neg e]
   simp
 ·have hd:l.dropWhile (fun x=>decide (x<n))=[]:=by rw[← hdrop];exact List.drop_of_length_le (by omega)
  have hte:(t.length:Int)=((l.length:Nat):Int):=by omega
  rw[if_pos (by simpa using hte),app_some (by simp only[List.length_cons,List.length_nil];omega) (by simp only[List.length_cons,List.length_nil];omega),Option.bind_some,slc_some ⟨by omega,by omega,by omega⟩,Option.bind_some]
  simp only[Int.toNat_natCast,List.take_length]
  rw[List.drop_of_length_le (by omega),app_some (by simp only[List.length_append,List.length_cons,List.length_nil];omega) (by simp only[List.length_append,List.length_cons,List.length_nil];omega),hd]
  simp
def putAll(qs out:List Int):List Int:=qs.foldl (fun o a=>putI a o) out
theorem putAll_len:∀ (qs out:List Int),(putAll qs out).length≤out.length + qs.length
 | [],out=>Nat.le_refl _
 | a::qs,out=>by
  have:=putAll_len qs (putI a out)
  have:=putI_len a out
  show (putAll qs (putI a out)).length≤_
  rw[List.length_cons];omega
theorem putAll_asc:∀ (qs out:List Int),out.Pairwise (fun a b=>a<b)→(putAll qs out).Pairwise fun a b=>a<b
 | [],_,h=>h
 | a::qs,out,h=>putAll_asc qs (putI a out) (putI_asc h)
theorem putAll_mem:∀ (qs out:List Int) (x:Int),x ∈ putAll qs out↔x ∈ qs∨x ∈ out
 | [],out,x=>by simp[putAll]
 | a::qs,out,x=>by
  show x ∈ putAll qs (putI a out)↔_
  rw[putAll_mem qs,putI_mem,List.mem_cons]
  constructor
  ·rintro (h | h | h)
   ·exact .inl (.inr h)
   ·exact .inl (.inl h)
   ·exact .inr h
  ·rintro ((h | h) | h)
   ·exact .inr (.inl h)
   ·exact .inl h
   ·exact .inr (.inr h)
theorem putAll_append(qs bs out:List Int):putAll (qs++bs) out=putAll bs (putAll qs out):=List.foldl_append ..
theorem f100_eq{l:List ApiFixture}{ps:List ApiProfile}(c:Int)(hw:Few l ps)(hok:Ok l ps):f100 l ps c=some (attrsS ps l c):=by
 have hl:=hok.nl
 have hnp:=hok.np
 have hat:∀ x ∈ l,∃ p,f72 ps x.fProfile=some (fstI (fun p=>decide (p.fName=x.fProfile)) ps)∧at? ps (fstI (fun p=>decide (p.fName=x.fProfile)) ps)=some p∧p.fFeatures=featS ps x:=fun x hx=>by
  obtain ⟨p,hp⟩:=alone_prof (hok.one x hx)
  refine ⟨p,f72_eq (by omega) _,?_,by unfold featS;rw[hp]⟩
  rcases fstI_find (fun p:ApiProfile=>decide (p.fName=x.fProfile)) ps with ⟨h1,_⟩ | ⟨i,q,h1,_,_,h4⟩
  ·unfold profS at hp;rw[h1] at hp;cases hp
  ·unfold profS at hp;rw[h1] at hp;injection hp with hp;subst hp;exact h4
 unfold f100
 have hrun:=run_walk (L:=f100_L1 l c ps) l (fun k (o:List Int)=>(o,(k:Int))) (fun _ o x=>.inl (if x.fChannel=c then putAll ((featS ps x).map (·.fAttr)) o else o)) (fun o=>o) (fun k o=>o.length≤16 * k) (fun k o x hx hI=>by
  have hkl:=getElem?_lt hx
  have h16:=feat_len hw hok x
  refine ⟨?_,fun a' ha'=>by
   injection ha' with ha';subst ha'
   split
   ·have:=putAll_len ((featS ps x).map (·.fAttr)) o
    rw[List.length_map] at this
    omega
   ·omega⟩
  refine (if_pos (by simpa using hkl)).trans ?_
  rw[at_nat hx]
  simp only[Option.bind_some,w64_succ (show k + 1≤9223372036854775807 by omega)]
  by_cases hc:x.fChannel=c
  ·obtain ⟨p,hp1,hp2,hp3⟩:=hat x (getElem?_mem hx)
   rw[if_neg (by simpa using hc),hp1,Option.bind_some,hp2,Option.bind_some,if_pos hc]
   have hin:=run_walk (L:=f100_L2 p (k:Int) c ps l) (featS ps x) (fun j (o:List Int)=>(o,(j:Int))) (fun _ o y=>.inl (putI y.fAttr o)) (fun o=>o) (fun j o'=>o'.length≤o.length + j) (fun j o' y hy hJ=>by
    have hjl:=getElem?_lt hy
    refine ⟨?_,fun a' ha'=>by
     injection ha' with ha';subst ha'
     have:=putI_len y.fAttr o';omega⟩
    refine (if_pos (by rw[hp3];simpa using hjl)).trans ?_
    rw[hp3,at_nat hy]
    simp only[Option.bind_some]
    rw[f145_eq _ (by omega),Option.bind_some,w64_succ (by omega)]
    rfl) (fun o' _=>if_neg (by rw[hp3];simp)) o (by omega)
   have hin':Lp.run (f100_L2 p (k:Int) c ps l) (o,0)=_:=hin
   rw[hin',Option.bind_some]
   have hw3:∀ (ys:List ApiFeature) (j:Nat) (o:List Int),walkL (E:=List Int) (fun _ o (y:ApiFeature)=>.inl (putI y.fAttr o)) (fun o=>o) j o ys=putAll (ys.map (·.fAttr)) o:=fun ys=>by
    induction ys with
    | nil=>intro j o;rfl
    | cons y ys ih=>intro j o;exact ih (j + 1) (putI y.fAttr o)
   rw[hw3]
   rfl
  ·rw[if_pos (by simpa using hc),if_neg hc];rfl) (fun o _=>if_neg (by simp)) [] (by simp)
 have hrun':Lp.run (f100_L1 l c ps) ([],0)=_:=hrun
 rw[hrun',Option.bind_some]
 have hw4:∀ (xs:List ApiFixture) (k:Nat) (o:List Int),walkL (E:=List Int) (fun _ o (x:ApiFixture)=>.inl (if x.fChannel=c then putAll ((featS ps x).map (·.fAttr)) o else o)) (fun o=>o) k o xs=putAll (attrsOf ps (ofCh xs c)) o:=fun xs=>by
  induction xs with
  | nil=>intro k o;rfl
  | cons x xs ih =>
   intro k o
   show walkL _ _ (k + 1) (if x.fChannel=c then putAll ((featS ps x).map (·.fAttr)) o else o) xs=_
   rw[ih]
   unfold ofCh attrsOf
   by_cases hc:x.fChannel=c
   ·rw[if_pos hc,List.filter_cons_of_pos (by simpa using hc),List.flatMap_cons,putAll_append]
   ·rw[if_neg hc,List.filter_cons_of_neg (by simpa using hc)]
 rw[hw4]
 congr 1
 refine strict_ext (key:=fun x=>x) (putAll_asc _ _ List.Pairwise.nil) (compact_strict (sortI_asc _)) fun z=>?_
 unfold attrsS
 rw[putAll_mem,compact_mem,sortI_mem]
 simp
end Go.Proofs.YtnaemmpcffnbkaaGreatDoor
