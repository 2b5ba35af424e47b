import Derived.Test.YtnaemmpcffnbkaaGreatDoorFPU1
namespace Go.Proofs.YtnaemmpcffnbkaaGreatDoor
open Go Go.Ab
set_option linter.unusedSimpArgs false
set_option linter.unusedVariables false
set_option maxRecDepth 4000
theorem f141_eq{l:List ApiFixture}(ps:List ApiProfile)(hf:Fit l):f141 l ps=some (if checkS l ps≠0 then (⟨[],[]⟩,checkS l ps) else (⟨l,mapS ps⟩,0)):=by
 unfold f141
 rw[f96_eq ps hf,Option.bind_some]
 by_cases h:checkS l ps≠0
 ·rw[if_pos (by simpa using h),if_pos h]
 ·rw[if_neg (by simpa using h),if_neg h]
  have hok:=check_ok.1 (by simpa using h:checkS l ps=0)
  rw[f139_eq l (by have:=hok.np;omega),Option.bind_some]
def ofCh(l:List ApiFixture)(c:Int):List ApiFixture:=l.filter fun x=>decide (x.fChannel=c)
def partsS(l:List ApiFixture)(c:Int):List ApiFixture:=isortL (fun a b=>a.fPart - b.fPart) (ofCh l c)
theorem f204_eq{l:List ApiFixture}(hl:l.length≤1000):f204 l=some l:=by
 unfold f204
 have happ:app? 72 [] l=some ([]++l):=app_some (by simp only[List.length_nil];omega) (by simp only[List.length_nil];omega)
 cases l with
 | nil=>rw[nil_nil (by rw[happ];rfl)];rfl
 | cons x xs=>rw[nil_cons (by simp),happ];simp
theorem ofCh_mem{l:List ApiFixture}{c:Int}{x:ApiFixture}:x ∈ ofCh l c↔x ∈ l∧x.fChannel=c:=by unfold ofCh;rw[List.mem_filter];simp
theorem parts_perm(l:List ApiFixture)(c:Int):(partsS l c).Perm (ofCh l c):=isortL_perm ..
theorem parts_asc{l:List ApiFixture}{ps:List ApiProfile}(c:Int)(hok:Ok l ps):(partsS l c).Pairwise fun a b=>a.fPart<b.fPart:=by
 have h1:(partsS l c).Pairwise fun a b=>a.fPart≤b.fPart:=isortL_sorted (key:=fun x:ApiFixture=>x.fPart) fun x _ y _=>by constructor<;>intro h<;>omega
 have h2:(partsS l c).Pairwise fun a b=>a.fPart≠b.fPart:=by
  refine (parts_perm l c).symm.pairwise ?_ fun {a b} h e=>h e.symm
  have:(ofCh l c).Pairwise fun y x=>dupS y x=false:=hok.two.sublist (List.filter_sublist ..)
  refine this.imp_of_mem fun {a b} ha hb hd e=>?_
  have e1:=(ofCh_mem.1 ha).2
  have e2:=(ofCh_mem.1 hb).2
  unfold dupS at hd
  simp only[decide_eq_false_iff_not] at hd
  exact hd ⟨by rw[e1,e2],e⟩
 refine (h1.and h2).imp fun {a b} h=>?_
 omega
theorem strict_ext{τ : Type}{key : τ → Int}:∀ {xs ys:List τ},xs.Pairwise (fun a b=>key a<key b)→ys.Pairwise (fun a b=>key a<key b)→(∀ z,z ∈ xs↔z ∈ ys)→xs=ys
 | [],[],_,_,_=>rfl
 | [],y::ys,_,_,h=>by have:=(h y).2 (List.mem_cons_self ..);cases this
 | x::xs,[],_,_,h=>by have:=(h x).1 (List.mem_cons_self ..);cases this
 | x::xs,y::ys,h1,h2,h=>by
  have h1':=List.pairwise_cons.1 h1
  have h2':=List.pairwise_cons.1 h2
  have hxy:x=y:=by
   rcases List.mem_cons.1 ((h x).1 (List.mem_cons_self ..)) with e | e
   ·exact e
   ·rcases List.mem_cons.1 ((h y).2 (List.mem_cons_self ..)) with e2 | e2
    ·exact e2.symm
    ·have:=h2'.1 x e
     have:=h1'.1 y e2
     omega
  subst hxy
  rw[strict_ext h1'.2 h2'.2 fun z=>?_]
  have hz:=h z
  rw[List.mem_cons,List.mem_cons] at hz
  constructor
  ·intro hm
   rcases hz.1 (.inr hm) with e | e
   ·have:=h1'.1 z hm;rw[e] at this;omega
   ·exact e
  ·intro hm
   rcases hz.2 (.inr hm) with e | e
   ·have:=h2'.1 z hm;rw[e] at this;omega
   ·exact e
theorem f142_eq2{l:List ApiFixture}{ps:List ApiProfile}(m:List (List UInt8×ApiProfile))(c:Int)(hok:Ok l ps):f142 ⟨l,m⟩ c=some (partsS l c):=by
 have hl:=hok.nl
 unfold f142
 show (f204 l).bind _=_
 rw[f204_eq (by omega),Option.bind_some,delf_some (f:=fun x=>f205p x c) (xs:=l) (p:=fun x:ApiFixture=>decide (x.fChannel≠c)) (fun x _=>rfl) (by omega),Option.bind_some]
 have he:(l.filter fun x => !decide (x.fChannel≠c))=ofCh l c:=by
  unfold ofCh
  congr 1
  funext x
  by_cases h:x.fChannel=c<;>simp[h]
 have hlen:(ofCh l c).length≤l.length:=List.length_filter_le ..
 obtain ⟨ys,h1,h2,h3⟩:=sortx_some (f:=fun x y=>f207 x y) (xs:=ofCh l c) (c:=fun a b:ApiFixture=>a.fPart - b.fPart) (fun x hx y hy=>by
  have h1:=alone_rng (hok.one x (ofCh_mem.1 hx).1)
  have h2:=alone_rng (hok.one y (ofCh_mem.1 hy).1)
  show some _=_
  rw[w64 (by omega) (by omega)]) (fun x _ y _ z _=>⟨by omega,fun _ _=>by omega,fun _ _=>by omega⟩) (by omega)
 rw[he,h1,Option.bind_some]
 have e:ys=partsS l c:=by
  refine strict_ext (key:=fun x=>x.fPart) ?_ (parts_asc c hok) fun z=>by rw[h2.mem_iff,(parts_perm l c).mem_iff]
  have hne:ys.Pairwise fun a b=>a.fPart≠b.fPart:=by
   refine h2.symm.pairwise ?_ fun {a b} h e=>h e.symm
   have:(ofCh l c).Pairwise fun y x=>dupS y x=false:=hok.two.sublist (List.filter_sublist ..)
   refine this.imp_of_mem fun {a b} ha hb hd e=>?_
   have e1:=(ofCh_mem.1 ha).2
   have e2:=(ofCh_mem.1 hb).2
   unfold dupS at hd
   simp only[decide_eq_false_iff_not] at hd
   exact hd ⟨by rw[e1,e2],e⟩
  refine (h3.and hne).imp fun {a b} h=>?_
  omega
 rw[e]
def featS(ps:List ApiProfile)(x:ApiFixture):List ApiFeature:=match profS ps x.fProfile with
 | some p=>p.fFeatures
 | none=>[]
def attrsOf(ps:List ApiProfile)(l:List ApiFixture):List Int:=l.flatMap fun x=>(featS ps x).map (·.fAttr)
def attrsS(ps:List ApiProfile)(l:List ApiFixture)(c:Int):List Int:=Lib.compact (sortI (attrsOf ps (ofCh l c)))
structure Few (l:List ApiFixture) (ps:List ApiProfile):Prop where
 nf:∀ p ∈ ps,p.fFeatures.length≤16
theorem feat_len{l:List ApiFixture}{ps:List ApiProfile}(hf:Few l ps)(hok:Ok l ps)(x:ApiFixture):(featS ps x).length≤16:=by
 unfold featS
 cases hp:profS ps x.fProfile with
 | none=>simp
 | some p=>exact hf.nf p (List.mem_of_find?_eq_some hp)
theorem run_more{τ ρ : Type}{L:Lp (Int×List ρ) (List ρ)}{xs:List τ}(f : τ → List ρ)(B:Nat)(hs:∀ (k:Nat) (acc:List ρ) x,Rnd xs k x→acc.length≤B + 20 * k→L.body ((k:Int),acc)=some (.next (((k + 1:Nat):Int),acc++f x)))(hl:xs.length≤9223372036854775807)
  (h1:∀ x ∈ xs,(f x).length≤20) (he:∀ acc,L.body (((xs.length:Nat):Int),acc)=some (.brk acc)) {a0:List ρ}(h0:a0.length≤B):L.run (0,a0)=some (a0++xs.flatMap f):=by
 have hrun:=run_walk (L:=L) xs (fun k (a:List ρ)=>((k:Int),a)) (fun _ a x=>.inl (a++f x)) (fun a=>a) (fun k a=>a.length≤B + 20 * k) (fun k a x hx hI=>⟨hs k a x (Rnd.mk' hx hl) hI,fun a' ha'=>by
   injection ha' with ha';subst ha'
   have:=h1 x (getElem?_mem hx)
   rw[List.length_append];omega⟩) (fun a _=>he a) a0 (by omega)
 have hw:∀ (ys:List τ) (k:Nat) (acc:List ρ),walkL (fun _ a x=>.inl (a++f x)) (fun a=>a) k acc ys=acc++ys.flatMap f:=fun ys=>by
  induction ys with
  | nil=>intro k acc;simp[walkL]
  | cons y ys ih=>intro k acc;simp only[walkL];rw[ih];simp
 rw[show ((0,a0):Int×List ρ)=(((0:Nat):Int),a0) from rfl,hrun,hw]
theorem look_get{α : Type}(ps:List ApiProfile)(n:List UInt8)(z:ApiProfile)(kont:ApiProfile→Bool→Option α):look? (mapS ps) n z kont=kont ((profS ps n).getD z) (profS ps n).isSome:=by
 unfold look?;rw[mget_map]
theorem feat_getD(ps:List ApiProfile)(x:ApiFixture)(z:ApiProfile)(hz:z.fFeatures=[]):((profS ps x.fProfile).getD z).fFeatures=featS ps x:=by
 unfold featS
 cases profS ps x.fProfile with
 | none=>exact hz
 | some p=>rfl
theorem f97_run{xs:List ApiFixture}{ps:List ApiProfile}{r:PatchRig×Int}(hr:r.1.fProfiles=mapS ps)(hx:xs.length≤1000)(hfe:∀ x ∈ xs,(featS ps x).length≤16):Lp.run (f97_L1 xs r) (0,[])=some (attrsOf ps xs):=by
 refine (run_more (xs:=xs) (fun x=>(featS ps x).map (·.fAttr)) 0 (fun k acc x q hb=>?_) (by omega) (fun x hx=>by rw[List.length_map];have:=hfe x hx;omega) (fun acc=>if_neg (by simp)) (Nat.le_refl _)).trans ?_
 ·refine (if_pos q.lt).trans ?_
  have hlt:=q.klt
  rw[q.at',Option.bind_some,hr,look_get]
  have h16:=hfe x q.mem
  have hin:Lp.run (f97_L2 ((profS ps x.fProfile).getD ⟨[],0,0,[]⟩) (k:Int) xs r) (0,acc)=some (acc++(featS ps x).flatMap fun y=>[y.fAttr]):=by
   refine run_more (xs:=featS ps x) (fun y=>[y.fAttr]) acc.length (fun j a y q2 hb2=>?_) (by omega) (fun _ _=>by simp) (fun a=>?_) (Nat.le_refl _)
   ·show (if decide ((j:Int)<((((profS ps x.fProfile).getD ⟨[],0,0,[]⟩).fFeatures.length:Nat):Int))=true then _ else _)=_
    have hlt2:=q2.klt
    rw[feat_getD ps x _ rfl,if_pos q2.lt,q2.at',Option.bind_some,app_some (by simp only[List.length_cons,List.length_nil];omega) (by simp only[List.length_cons,List.length_nil];omega)]
    simp only[Option.bind_some,q2.nxt]
   ·show (if decide ((((featS ps x).length:Nat):Int)<((((profS ps x.fProfile).getD ⟨[],0,0,[]⟩).fFeatures.length:Nat):Int))=true then _ else _)=_
    rw[feat_getD ps x _ rfl,if_neg (by simp)]
  rw[hin]
  simp only[Option.bind_some,q.nxt]
  congr 4
  induction featS ps x with
  | nil=>rfl
  | cons y ys ih=>simpa using ih
 ·rfl
theorem sortI_perm_eq{xs ys:List Int}(h:xs.Perm ys):sortI xs=sortI ys:=sortI_unique (sortI_asc ys) ((sortI_perm ys).trans h.symm)
theorem attrs_perm{ps:List ApiProfile}{xs ys:List ApiFixture}(h:xs.Perm ys):(attrsOf ps xs).Perm (attrsOf ps ys):=h.flatMap_right _
theorem attrs_len{xs:List ApiFixture}{ps:List ApiProfile}(hfe:∀ x ∈ xs,(featS ps x).length≤16):(attrsOf ps xs).length≤16 * xs.length:=by
 unfold attrsOf
 induction xs with
 | nil=>simp
 | cons x xs ih =>
  have h1:=hfe x (List.mem_cons_self ..)
  have h2:=ih fun y hy=>hfe y (List.mem_cons_of_mem _ hy)
  simp only[List.flatMap_cons,List.length_append,List.length_map,List.length_cons]
  omega
theorem f97_eq{l:List ApiFixture}{ps:List ApiProfile}(c:Int)(hf:Fit l)(hw:Few l ps):f97 l ps c=some (if checkS l ps≠0 then ([],checkS l ps) else (attrsS ps l c,0)):=by
 unfold f97
 rw[f141_eq ps hf,Option.bind_some]
 by_cases h:checkS l ps≠0
 ·rw[if_pos h,if_pos (by simpa using h),if_pos h]
 ·rw[if_neg h,if_neg (by simp),if_neg h]
  have hok:=check_ok.1 (by simpa using h:checkS l ps=0)
  have h1:=hok.nl
  have hp:(partsS l c).length≤64:=by rw[(parts_perm l c).length_eq];exact Nat.le_trans (List.length_filter_le ..) (by omega)
  show (f142 ⟨l,mapS ps⟩ c).bind _=_
  rw[f142_eq2 _ c hok,Option.bind_some,f97_run (ps:=ps) rfl (by omega) (fun x _=>feat_len hw hok x),Option.bind_some]
  have hal:=attrs_len (ps:=ps) (xs:=partsS l c) fun x _=>feat_len hw hok x
  have hs:sort? (attrsOf ps (partsS l c))=some (sortI (attrsOf ps (partsS l c))):=(sort_def _).trans (if_pos (by omega))
  rw[hs,Option.bind_some]
  have hc:compact? (sortI (attrsOf ps (partsS l c)))=some (Lib.compact (sortI (attrsOf ps (partsS l c)))):=if_pos (by rw[sortI_length];omega)
  rw[hc,Option.bind_some,sortI_perm_eq (attrs_perm (ps:=ps) (parts_perm l c))]
  rfl
end Go.Proofs.YtnaemmpcffnbkaaGreatDoor
