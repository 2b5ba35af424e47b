import Derived.Test.YtnaemmpcffnbkaaGreatDoorHPG1
import Derived.Test.YtnaemmpcffnbkaaGreatDoorHGA1
import Derived.Test.YtnaemmpcffnbkaaGreatDoorHM10
namespace Go.Proofs.YtnaemmpcffnbkaaGreatDoor
open Go Go.Ab
set_option linter.unusedSimpArgs false
set_option linter.unusedVariables false
set_option maxRecDepth 4000
theorem must_some{p:Prop}[Decidable p](h:p):must? p=some ():=if_pos h
theorem arr_some{τ : Type}{n:Nat}{xs:List τ}{i:Int}{x : τ}(hl:xs.length=n)(h0:0≤i)(h:xs[i.toNat]? = some x):arr? n xs i=some x:=by
 unfold arr?;rw[if_pos ⟨hl,h0⟩];exact h
theorem room_some{n:Nat}(h:n≤140737488355328):room? n=some ():=if_pos (by unfold room;omega)
def badN(k:Nat)(x:Int):Bool := !(decide (97≤x∧x≤122)) && (decide (k=0) || (decide (x≠95) && (decide (x<48) || decide (57<x))))
def nmW(s:List UInt8):Unit⊕Unit:=walkL (fun k _ x=>if badN k (x.toNat:Int)=true then .inr (.inr ()) else .inl ()) (fun _=>.inl ()) 0 () s
def nameS(s:List UInt8):Bool:=match nmW s with
 | .inl _=>decide (s≠[]∧(s.length:Int)≤24)
 | .inr _=>false
theorem b2i_len(s:List UInt8):(b2i s).length=s.length:=List.length_map ..
theorem b2i_get(s:List UInt8)(k:Nat){x:UInt8}(h:s[k]? = some x):at? (b2i s) (k:Int)=some (x.toNat:Int):=at_nat (by unfold b2i;simp[h])
theorem badN_branch{k:Nat}{x:Int}{α : Type}{A B : α}:(if (decide (97≤x))=true then (if (!(decide (x≤122)))=true then (if (decide ((k:Int)=0))=true then A else (if (decide (x≠95))=true then (if (decide (x<48))=true then A else (if (decide (57<x))=true then A else B)) else B)) else B)
  else (if (decide ((k:Int)=0))=true then A else (if (decide (x≠95))=true then (if (decide (x<48))=true then A else (if (decide (57<x))=true then A else B)) else B)))=if badN k x=true then A else B:=by
 unfold badN
 by_cases h1:97≤x<;>by_cases h2:x≤122<;>by_cases h3:k=0<;>by_cases h4:x=95<;>by_cases h5:x<48<;>by_cases h6:57<x<;>simp[h1,h2,h3,h4,h5,h6]<;>omega
theorem f199_eq{s:List UInt8}(h:s.length≤140737488355328):f199 s=some (nameS s):=by
 unfold f199
 have hrun:=run_walk (L:=f199_L1 s) s (fun k (_:Unit)=>(k:Int)) (fun k _ x=>if badN k (x.toNat:Int)=true then .inr (.inr ()) else .inl ()) (fun _=>.inl ()) (fun _ _=>True) (fun k a x hx _=>by
  refine ⟨?_,fun _ _=>trivial⟩
  have hlt:=getElem?_lt hx
  show (if _ then _ else _)=_
  rw[if_pos (by rw[b2i_len];simpa using hlt),b2i_get s k hx]
  simp only[Option.bind_some]
  rw[badN_branch,w64_succ (by omega)]
  split<;>rfl) (fun a _=>by
  show (if _ then _ else _)=_
  rw[if_neg (by rw[b2i_len];simp)]) () trivial
 rw[room_some h,Option.bind_some,show (0:Int)=((0:Nat):Int) from rfl,hrun]
 unfold nameS nmW
 cases walkL _ _ _ _ _ with
 | inl _ =>
  simp only[Option.bind_some]
  by_cases he:s=[]
  ·subst he;rfl
  ·rw[if_pos (by simpa using he)];simp[he]
 | inr _=>rfl
theorem f112_eq{s:List UInt8}(h:s.length≤140737488355328):f112 s=some (nameS s):=by
 unfold f112
 have hrun:=run_walk (L:=f112_L1 s) s (fun k (_:Unit)=>(k:Int)) (fun k _ x=>if badN k (x.toNat:Int)=true then .inr (.inr ()) else .inl ()) (fun _=>.inl ()) (fun _ _=>True) (fun k a x hx _=>by
  refine ⟨?_,fun _ _=>trivial⟩
  have hlt:=getElem?_lt hx
  show (if _ then _ else _)=_
  rw[if_pos (by simpa using hlt),at_nat hx]
  simp only[Option.bind_some]
  rw[badN_branch,w64_succ (by omega)]
  split<;>rfl) (fun a _=>by
  show (if _ then _ else _)=_
  rw[if_neg (by simp)]) () trivial
 rw[show (0:Int)=((0:Nat):Int) from rfl,hrun]
 unfold nameS nmW
 cases walkL _ _ _ _ _ with
 | inl _ =>
  simp only[Option.bind_some]
  by_cases he:s=[]
  ·subst he;rfl
  ·have:0<s.length:=List.length_pos_iff.2 he
   rw[if_pos (by simp;omega)];simp[he]
 | inr _=>rfl
def profS(ps:List ApiProfile)(n:List UInt8):Option ApiProfile:=ps.find? fun p=>decide (p.fName=n)
def sizeS(ps:List ApiProfile)(x:ApiFixture):Int:=match profS ps x.fProfile with
 | some p=>p.fFootprint
 | none=>0
def addM(m:List (List UInt8×ApiProfile))(p:ApiProfile):List (List UInt8×ApiProfile):=if (mget m p.fName).isSome=true then m else mset m p.fName p
def mapS(ps:List ApiProfile):List (List UInt8×ApiProfile):=ps.foldl addM []
theorem mget_mset{κ ν : Type}[DecidableEq κ](k k' : κ)(v : ν):∀ m:List (κ × ν),mget (mset m k v) k'=if k'=k then some v else mget m k'
 | []=>by unfold mset mget;rfl
 | p::m=>by
  unfold mset
  by_cases h:k=p.1
  ·rw[if_pos h]
   unfold mget
   subst h
   by_cases h2:k'=p.1
   ·rw[if_pos h2,if_pos h2]
   ·rw[if_neg h2,if_neg h2,if_neg h2]
  ·rw[if_neg h]
   unfold mget
   by_cases h2:k'=p.1
   ·rw[if_pos h2,if_pos h2,if_neg (by rw[h2];exact fun e=>h e.symm)]
   ·rw[if_neg h2,if_neg h2,mget_mset k k' v m]
theorem mget_addM(m:List (List UInt8×ApiProfile))(p:ApiProfile)(n:List UInt8):mget (addM m p) n=match mget m n with
  | some q=>some q
  | none=>if p.fName=n then some p else none:=by
 unfold addM
 by_cases h:(mget m p.fName).isSome=true
 ·rw[if_pos h]
  cases hm:mget m n with
  | some q=>rfl
  | none=>dsimp only;rw[if_neg (fun e=>by rw[e,hm] at h;cases h)]
 ·rw[if_neg h,mget_mset]
  by_cases e:n=p.fName
  ·rw[if_pos e]
   have:mget m n=none:=by rw[e];simpa using h
   rw[this];dsimp only;rw[if_pos e.symm]
  ·rw[if_neg e]
   cases mget m n with
   | some q=>rfl
   | none=>dsimp only;rw[if_neg (fun h=>e h.symm)]
theorem mget_fold(n:List UInt8):∀ (ps:List ApiProfile) (m:List (List UInt8×ApiProfile)),mget (ps.foldl addM m) n=match mget m n with
  | some q=>some q
  | none=>profS ps n
 | [],m=>by show mget m n=_;cases mget m n<;>rfl
 | p::ps,m=>by
  show mget (ps.foldl addM (addM m p)) n=_
  rw[mget_fold n ps,mget_addM]
  cases mget m n with
  | some q=>rfl
  | none =>
   dsimp only
   unfold profS
   by_cases e:p.fName=n
   ·rw[if_pos e,List.find?_cons_of_pos (by simpa using e)]
   ·rw[if_neg e,List.find?_cons_of_neg (by simpa using e)]
theorem mget_map(ps:List ApiProfile)(n:List UInt8):mget (mapS ps) n=profS ps n:=mget_fold n ps []
theorem f139_eq(l:List ApiFixture){ps:List ApiProfile}(h:ps.length≤1000000):f139 l ps=some ⟨l,mapS ps⟩:=by
 unfold f139
 have hrun:=run_walk (L:=f139_L1 ps l) ps (fun k m=>((k:Int),m)) (fun _ m p=>.inl (addM m p)) (fun m=>m) (fun _ _=>True) (fun k m x hx _=>by
  refine ⟨?_,fun _ _=>trivial⟩
  have hlt:=getElem?_lt hx
  show (if _ then _ else _)=_
  rw[if_pos (by simpa using hlt),at_nat hx]
  simp only[Option.bind_some,look?,w64_succ (show k + 1≤9223372036854775807 by omega)]
  unfold addM roundL
  cases (mget m x.fName).isSome<;>rfl) (fun a _=>by
  show (if _ then _ else _)=_
  rw[if_neg (by simp)]) [] trivial
 rw[show ((0:Int),([]:List (List UInt8×ApiProfile)))=(((0:Nat):Int),[]) from rfl,hrun,Option.bind_some]
 congr 2
 have hw:∀ (ps:List ApiProfile) (k:Nat) (m:List (List UInt8×ApiProfile)),walkL (fun _ m p=>.inl (addM m p)) (fun m=>m) k m ps=ps.foldl addM m:=fun ps=>by
  induction ps with
  | nil=>intro k m;rfl
  | cons p ps ih=>intro k m;exact ih (k + 1) (addM m p)
 exact hw ps 0 []
theorem f230_eq(l:List ApiFixture)(ps:List ApiProfile)(x:ApiFixture):f230 ⟨l,mapS ps⟩ x=some (sizeS ps x):=by
 unfold f230 look? sizeS
 dsimp only
 rw[mget_map]
 cases profS ps x.fProfile<;>rfl
theorem f72_eq{ps:List ApiProfile}(h:ps.length≤1000000)(n:List UInt8):f72 ps n=some (fstI (fun p=>decide (p.fName=n)) ps):=by
 unfold f72
 refine run_findi (fun p:ApiProfile=>decide (p.fName=n)) (by omega) (fun k x r=>?_) ?_
 ·show (if _ then _ else _)=_
  rw[if_pos r.lt,r.at']
  simp only[Option.bind_some,r.nxt]
  by_cases e:x.fName=n
  ·rw[if_pos (by simpa using e),if_pos (by simpa using e)]
  ·rw[if_neg (by simpa using e),if_neg (by simpa using e)]
 ·show (if _ then _ else _)=_
  rw[if_neg (by simp)]
theorem f172_eq{ps:List ApiProfile}(h:ps.length≤1000000){x:ApiFixture}{p:ApiProfile}(hp:profS ps x.fProfile=some p):f172 ps x=some (sizeS ps x):=by
 unfold f172 sizeS
 rw[f72_eq h,Option.bind_some,hp]
 rcases fstI_find (fun p:ApiProfile=>decide (p.fName=x.fProfile)) ps with ⟨h1,_⟩ | ⟨i,q,h1,_,_,h4⟩
 ·unfold profS at hp;rw[h1] at hp;cases hp
 ·unfold profS at hp;rw[h1] at hp;injection hp with hp;subst hp
  rw[h4];rfl
def okR(x:ApiFixture):Bool:=decide ((1≤x.fChannel∧x.fChannel≤999)∧(1≤x.fPart∧x.fPart≤64)∧(1≤x.fUniverse∧x.fUniverse≤8)∧(1≤x.fAddress∧x.fAddress≤512)∧1≤x.fPhase∧x.fPhase≤3)
theorem f198_eq(x:ApiFixture):f198 x=some (okR x):=by
 unfold f198
 have hrun:Lp.run (f198_L1 x) 0=some (if ([⟨x.fChannel,999⟩,⟨x.fPart,64⟩,⟨x.fUniverse,8⟩,⟨x.fAddress,512⟩,⟨x.fPhase,3⟩]:List Arr2_54).any (fun y=>decide (y.fE0<1∨y.fE1<y.fE0))=true then .inr () else .inl ()):=by
  refine run_any (xs:=[⟨x.fChannel,999⟩,⟨x.fPart,64⟩,⟨x.fUniverse,8⟩,⟨x.fAddress,512⟩,⟨x.fPhase,3⟩]) (fun y:Arr2_54=>decide (y.fE0<1∨y.fE1<y.fE0)) (by simp) (fun k y r=>?_) ?_
  ·refine (if_pos r.lt).trans ?_
   rw[r.at']
   simp only[Option.bind_some,r.nxt,decide_eq_true_eq]
   by_cases h1:y.fE0<1
   ·simp[h1]
   ·by_cases h2:y.fE1<y.fE0<;>simp[h1,h2]
  ·rfl
 rw[hrun,Option.bind_some]
 unfold okR
 simp only[List.any_cons,List.any_nil,Bool.or_false]
 by_cases h:((1≤x.fChannel∧x.fChannel≤999)∧(1≤x.fPart∧x.fPart≤64)∧(1≤x.fUniverse∧x.fUniverse≤8)∧(1≤x.fAddress∧x.fAddress≤512)∧1≤x.fPhase∧x.fPhase≤3)
 ·rw[if_neg (by simp only[Bool.or_eq_true,decide_eq_true_eq];omega),decide_eq_true h]
 ·rw[if_pos (by simp only[Bool.or_eq_true,decide_eq_true_eq];omega),decide_eq_false h]
theorem f171_eq(x:ApiFixture):f171 x=some (if okR x=true then 0 else 2):=by
 unfold f171 okR
 simp only[decide_eq_true_eq]
 repeat' split
 all_goals first | rfl | (exfalso;omega) | skip
def aloneS(ps:List ApiProfile)(x:ApiFixture):Int:=if okR x=false then 2 else if x.fCable≠[]∧nameS x.fCable=false then 8 else match profS ps x.fProfile with
 | none=>6
 | some p=>if p.fFootprint<1∨513 - x.fAddress<p.fFootprint then 2 else 0
theorem f114_eq{ps:List ApiProfile}(h:ps.length≤1000000){x:ApiFixture}(hx:x.fCable.length≤140737488355328):f114 ps x=some (aloneS ps x):=by
 unfold f114 aloneS
 rw[f171_eq,Option.bind_some]
 by_cases h1:okR x=true
 ·have ha:1≤x.fAddress∧x.fAddress≤512:=by unfold okR at h1;simp only[decide_eq_true_eq] at h1;exact h1.2.2.2.1
  have hJ:(f114_J1 ps x).run ()=some (match profS ps x.fProfile with
    | none=>6
    | some p=>if p.fFootprint<1∨513 - x.fAddress<p.fFootprint then 2 else 0):=by
   show (f72 ps x.fProfile).bind _=_
   rw[f72_eq h,Option.bind_some,w64 (a:=512 - x.fAddress) (by omega) (by omega),w64 (by omega) (by omega),show 512 - x.fAddress + 1=513 - x.fAddress by omega]
   rcases fstI_find (fun p:ApiProfile=>decide (p.fName=x.fProfile)) ps with ⟨h2,h3⟩ | ⟨i,q,h2,h3,h4,h5⟩
   ·rw[h3,show profS ps x.fProfile=none from h2];rfl
   ·rw[show profS ps x.fProfile=some q from h2,if_neg (by rw[h3];simp),h5]
    simp only[Option.bind_some,decide_eq_true_eq]
    by_cases h6:q.fFootprint<1
    ·rw[if_pos h6,if_pos (.inl h6)]
    ·by_cases h7:513 - x.fAddress<q.fFootprint
     ·rw[if_neg h6,if_pos h7,if_pos (.inr h7)]
     ·rw[if_neg h6,if_neg h7,if_neg (by rintro (e | e);exact h6 e;exact h7 e)]
  rw[if_pos h1,if_neg (by simp),if_neg (show ¬ okR x=false by simp[h1]),hJ]
  by_cases h2:x.fCable=[]
  ·rw[if_neg (by simp[h2]),if_neg (by simp[h2])]
  ·rw[if_pos (by simpa using h2),f112_eq hx,Option.bind_some]
   cases hn:nameS x.fCable with
   | true=>rw[if_neg (by simp),if_neg (by simp)]
   | false=>rw[if_pos (by simp),if_pos ⟨h2,rfl⟩]
 ·rw[if_neg h1,if_pos (by simp),if_pos (by simpa using h1)]
theorem alone_ok{ps:List ApiProfile}{x:ApiFixture}(h:aloneS ps x=0):okR x=true∧∃ p,profS ps x.fProfile=some p∧1≤p.fFootprint∧p.fFootprint≤513 - x.fAddress∧sizeS ps x=p.fFootprint:=by
 unfold aloneS at h
 split at h
 ·cases h
 ·rename_i h1
  split at h
  ·cases h
  ·unfold sizeS
   split at h
   ·cases h
   ·rename_i p hp
    split at h
    ·cases h
    ·rename_i h2
     refine ⟨by simpa using h1,p,hp,by omega,by omega,by rw[hp]⟩
def usesS(ps:List ApiProfile)(x:ApiFixture)(u a:Int):Bool:=decide (x.fUniverse=u∧x.fAddress≤a∧a<x.fAddress + sizeS ps x)
def overS(ps:List ApiProfile)(x y:ApiFixture):Bool:=decide (x.fUniverse=y.fUniverse∧x.fAddress<y.fAddress + sizeS ps y∧y.fAddress<x.fAddress + sizeS ps x)
def dupS(y x:ApiFixture):Bool:=decide (y.fChannel=x.fChannel∧y.fPart=x.fPart)
def fillN(out:List Int)(a:Nat)(v:Int):Nat→List Int
 | 0=>out
 | n + 1=>(fillN out a v n).set (a + n) v
theorem fillN_len(out:List Int)(a:Nat)(v:Int):∀ n,(fillN out a v n).length=out.length
 | 0=>rfl
 | n + 1=>by unfold fillN;rw[List.length_set,fillN_len out a v n]
theorem fillN_get(out:List Int)(a:Nat)(v:Int)(j:Nat):∀ n,a + n≤out.length→(fillN out a v n)[j]? = if a≤j∧j<a + n then some v else out[j]?
 | 0,_=>by rw[if_neg (by omega)];rfl
 | n + 1,h=>by
  unfold fillN
  rw[List.getElem?_set]
  by_cases e:a + n=j
  ·rw[if_pos e,if_pos (by rw[fillN_len];omega),if_pos (by omega)]
  ·rw[if_neg e,fillN_get out a v j n (by omega)]
   by_cases h2:a≤j∧j<a + n
   ·rw[if_pos h2,if_pos (by omega)]
   ·rw[if_neg h2,if_neg (by omega)]
def stepSl(ps:List ApiProfile)(u:Int)(k:Nat)(out:List Int)(x:ApiFixture):List Int :=
 if x.fUniverse=u then fillN out x.fAddress.toNat ((k + 1:Nat):Int) (sizeS ps x).toNat else out
def slotsS(ps:List ApiProfile)(u:Int)(l:List ApiFixture):List Int:=walkL (fun k out x=>.inl (stepSl ps u k out x)) (fun out=>out) 0 (List.replicate 513 0) l
theorem stepSl_len(ps:List ApiProfile)(u:Int)(k:Nat)(out:List Int)(x:ApiFixture):(stepSl ps u k out x).length=out.length:=by
 unfold stepSl;split
 ·exact fillN_len ..
 ·rfl
theorem alone_rng{ps:List ApiProfile}{x:ApiFixture}(h:aloneS ps x=0):1≤x.fAddress∧1≤sizeS ps x∧x.fAddress + sizeS ps x≤513∧1≤x.fUniverse∧x.fUniverse≤8∧1≤x.fPart∧x.fPart≤64∧1≤x.fChannel∧x.fChannel≤999:=by
 obtain ⟨h1,p,hp,h2,h3,h4⟩:=alone_ok h
 unfold okR at h1
 simp only[decide_eq_true_eq] at h1
 omega
theorem f201_eq{l:List ApiFixture}{ps:List ApiProfile}(u:Int)(hal:∀ x ∈ l,aloneS ps x=0)(hl:l.length≤1000000):f201 ⟨l,mapS ps⟩ u=some (slotsS ps u l):=by
 unfold f201
 simp only[arr0?,Option.bind_some]
 have hrun:Lp.run (f201_L1 ⟨l,mapS ps⟩ u (List.replicate 513 0)) (((0:Nat):Int),List.replicate 513 0)=some (slotsS ps u l):=run_walk (L:=f201_L1 ⟨l,mapS ps⟩ u (List.replicate 513 0)) l (fun k out=>((k:Int),out)) (fun k out x=>.inl (stepSl ps u k out x)) (fun out=>out) (fun _ out=>out.length=513) (fun k out x hx hI=>by
  refine ⟨?_,fun a' ha'=>by injection ha' with ha';subst ha';rw[stepSl_len];exact hI⟩
  have hlt:=getElem?_lt hx
  obtain ⟨h1,h2,h3,_⟩:=alone_rng (hal x (getElem?_mem hx))
  refine (if_pos (by simpa using hlt)).trans ?_
  show (at? l (k:Int)).bind _=_
  rw[at_nat hx]
  simp only[Option.bind_some,w64_succ (show k + 1≤9223372036854775807 by omega),roundL]
  unfold stepSl
  by_cases hu:x.fUniverse=u
  ·rw[if_neg (by simpa using hu),if_pos hu,f230_eq,Option.bind_some]
   have hin:=run_count (L:=f201_L2 (sizeS ps x) x (k:Int) ⟨l,mapS ps⟩ u (List.replicate 513 0)) (e:=fillN out x.fAddress.toNat ((k + 1:Nat):Int) (sizeS ps x).toNat) (fun i=>((i:Int),fillN out x.fAddress.toNat ((k + 1:Nat):Int) i)) (sizeS ps x).toNat (by
    refine (if_neg ?_).trans rfl
    simp only[decide_eq_true_eq];omega) 0 (Nat.zero_le _) (fun i _ hi=>by
    refine (if_pos ?_).trans ?_
    ·simp only[decide_eq_true_eq];omega
    ·have hlen:(fillN out x.fAddress.toNat ((k + 1:Nat):Int) i).length=513:=(fillN_len ..).trans hI
     have hw:IntKind.i64.wrap (x.fAddress + (i:Int))=((x.fAddress.toNat + i:Nat):Int):=by rw[w64 (by omega) (by omega)];omega
     rw[hw,arr_some hlen (by omega) (List.getElem?_eq_getElem (by rw[hlen];omega))]
     simp only[Option.bind_some,w64_succ (show i + 1≤9223372036854775807 by omega),w64_succ (show k + 1≤9223372036854775807 by omega)]
     rfl)
   rw[show ((0:Int),out)=(((0:Nat):Int),fillN out x.fAddress.toNat ((k + 1:Nat):Int) 0) from rfl,hin]
   rfl
  ·rw[if_pos (by simpa using hu),if_neg hu]) (fun out _=>if_neg (by simp)) (List.replicate 513 0) (List.length_replicate ..)
 rw[show ((0:Int),List.replicate 513 (0:Int))=(((0:Nat):Int),List.replicate 513 0) from rfl,hrun]
 have hlen:∀ (l:List ApiFixture) (k:Nat) (out:List Int),out.length=513→(walkL (E:=List Int) (fun k out x=>.inl (stepSl ps u k out x)) (fun out=>out) k out l).length=513:=fun l=>by
  induction l with
  | nil=>intro k out h;exact h
  | cons x xs ih=>intro k out h;exact ih (k + 1) _ ((stepSl_len ..).trans h)
 have h513:(slotsS ps u l).length=513:=hlen l 0 _ (List.length_replicate ..)
 rw[Option.bind_some,must_some h513,Option.bind_some,must_some ⟨List.length_replicate ..,h513⟩,Option.bind_some,Option.bind_some]
def slotV(ps:List ApiProfile)(u a:Int):Nat→Int→List ApiFixture→Int
 | _,c,[]=>c
 | k,c,x::xs=>slotV ps u a (k + 1) (if usesS ps x u a=true then ((k + 1:Nat):Int) else c) xs
theorem walk_get{ps:List ApiProfile}{u:Int}{j:Nat}(hj:j<513):∀ (l:List ApiFixture) (k:Nat) (out:List Int) (c:Int),(∀ x ∈ l,aloneS ps x=0)→out.length=513→out[j]? = some c →
  (walkL (E:=List Int) (fun k out x=>.inl (stepSl ps u k out x)) (fun out=>out) k out l)[j]? = some (slotV ps u j k c l)
 | [],_,_,_,_,_,h=>h
 | x::xs,k,out,c,hal,hl,h=>by
  refine walk_get hj xs (k + 1) _ _ (fun y hy=>hal y (List.mem_cons_of_mem _ hy)) ((stepSl_len ..).trans hl) ?_
  obtain ⟨h1,h2,h3,_⟩:=alone_rng (hal x (List.mem_cons_self ..))
  unfold stepSl usesS
  by_cases hu:x.fUniverse=u
  ·rw[if_pos hu,fillN_get _ _ _ _ _ (by omega)]
   by_cases hin:x.fAddress≤(j:Int)∧(j:Int)<x.fAddress + sizeS ps x
   ·rw[if_pos (by omega),if_pos (by simp only[decide_eq_true_eq];exact ⟨hu,hin⟩)]
   ·rw[if_neg (by omega),if_neg (by simp only[decide_eq_true_eq];exact fun e=>hin e.2)];exact h
  ·rw[if_neg hu,if_neg (by simp only[decide_eq_true_eq];exact fun e=>hu e.1)];exact h
theorem slots_get{ps:List ApiProfile}{u:Int}{l:List ApiFixture}(hal:∀ x ∈ l,aloneS ps x=0){j:Nat}(hj:j<513):(slotsS ps u l)[j]? = some (slotV ps u j 0 0 l) :=
 walk_get hj l 0 _ 0 hal (List.length_replicate ..) (by rw[List.getElem?_replicate,if_pos hj])
theorem slots_len{ps:List ApiProfile}{u:Int}{l:List ApiFixture}:(slotsS ps u l).length=513:=by
 have hlen:∀ (l:List ApiFixture) (k:Nat) (out:List Int),out.length=513→(walkL (E:=List Int) (fun k out x=>.inl (stepSl ps u k out x)) (fun out=>out) k out l).length=513:=fun l=>by
  induction l with
  | nil=>intro k out h;exact h
  | cons x xs ih=>intro k out h;exact ih (k + 1) _ ((stepSl_len ..).trans h)
 exact hlen l 0 _ (List.length_replicate ..)
theorem slotV_pos(ps:List ApiProfile)(u a:Int):∀ (l:List ApiFixture) (k:Nat) (c:Int),0<slotV ps u a k c l↔0<c∨l.any (fun x=>usesS ps x u a)=true
 | [],k,c=>by simp[slotV]
 | x::xs,k,c=>by
  unfold slotV
  rw[slotV_pos ps u a xs,List.any_cons,Bool.or_eq_true]
  by_cases h:usesS ps x u a=true
  ·rw[if_pos h]
   exact ⟨fun _=>.inr (.inl h),fun _=>.inl (by omega)⟩
  ·rw[if_neg h]
   constructor
   ·rintro (e | e)
    ·exact .inl e
    ·exact .inr (.inr e)
   ·rintro (e | e | e)
    ·exact .inl e
    ·exact absurd e h
    ·exact .inr e
def oneS(ps:List ApiProfile)(seen:List ApiFixture)(x:ApiFixture):Int :=
 if aloneS ps x≠0 then aloneS ps x else if seen.any (fun y=>dupS y x)=true then 7 else if seen.any (fun y=>overS ps y x)=true then 10 else 0
theorem f86p_eq(y:ApiFixture)(c p:Int):f229p y c p=some (decide (y.fChannel=c∧y.fPart=p)):=by
 unfold f229p
 by_cases h:y.fChannel=c
 ·rw[if_pos (by simpa using h)];simp[h]
 ·rw[if_neg (by simpa using h)];simp[h]
theorem f200_eq{l:List ApiFixture}{m:List (List UInt8×ApiProfile)}(c p:Int)(hl:l.length≤1000000):f200 ⟨l,m⟩ c p=some (fstI (fun y=>decide (y.fChannel=c∧y.fPart=p)) l):=by
 have h:f228_229 l c p=some (fstI (fun y=>decide (y.fChannel=c∧y.fPart=p)) l):=by
  refine run_findi (fun y:ApiFixture=>decide (y.fChannel=c∧y.fPart=p)) (by omega) (fun k x r=>?_) (if_neg (by simp))
  refine (if_pos r.lt).trans ?_
  rw[r.at']
  simp only[Option.bind_some,r.nxt,f86p_eq]
  split<;>rfl
 unfold f200
 show (f228_229 l c p).bind _=_
 rw[h];rfl
theorem f190_eq{xs:List Int}(hl:xs.length≤1000000):f190_202 xs=some (xs.any fun x=>decide (0<x)):=by
 have h:f90_202 xs=some (fstI (fun x=>decide (0<x)) xs):=by
  refine run_findi (fun x:Int=>decide (0<x)) (by omega) (fun k x r=>?_) (if_neg (by simp))
  refine (if_pos r.lt).trans ?_
  rw[r.at']
  simp only[Option.bind_some,r.nxt,f202]
  split<;>rfl
 unfold f190_202
 rw[h,Option.bind_some,fstI_nonneg]
theorem over_uses{ps:List ApiProfile}{x y:ApiFixture}(hx:1≤sizeS ps x)(hy:1≤sizeS ps y):overS ps y x=true↔∃ a,(x.fAddress≤a∧a<x.fAddress + sizeS ps x)∧usesS ps y x.fUniverse a=true:=by
 unfold overS usesS
 simp only[decide_eq_true_eq]
 constructor
 ·rintro ⟨h1,h2,h3⟩
  by_cases h:x.fAddress≤y.fAddress
  ·exact ⟨y.fAddress,⟨h,by omega⟩,h1,by omega,by omega⟩
  ·exact ⟨x.fAddress,⟨by omega,by omega⟩,h1,by omega,by omega⟩
 ·rintro ⟨a,⟨h1,h2⟩,h3,h4,h5⟩
  exact ⟨h3,by omega,by omega⟩
theorem part_any{ps:List ApiProfile}{seen:List ApiFixture}{x:ApiFixture}(hal:∀ y ∈ seen,aloneS ps y=0)(hx:aloneS ps x=0) :
  (((slotsS ps x.fUniverse seen).take (x.fAddress + sizeS ps x).toNat).drop x.fAddress.toNat).any (fun v=>decide (0<v))=seen.any fun y=>overS ps y x:=by
 obtain ⟨h1,h2,h3,_⟩:=alone_rng hx
 rw[Bool.eq_iff_iff,List.any_eq_true,List.any_eq_true]
 constructor
 ·rintro ⟨v,hv,hp⟩
  obtain ⟨i,hi⟩:=List.mem_iff_getElem?.1 hv
  rw[List.getElem?_drop,List.getElem?_take] at hi
  split at hi
  case isFalse=>cases hi
  rename_i hlt
  rw[slots_get hal (by omega)] at hi
  injection hi with hi
  have hp':0<slotV ps x.fUniverse ((x.fAddress.toNat + i:Nat):Int) 0 0 seen:=by rw[hi];simpa using hp
  rw[slotV_pos] at hp'
  rcases hp' with e | e
  ·omega
  ·obtain ⟨y,hy,hu⟩:=List.any_eq_true.1 e
   refine ⟨y,hy,(over_uses h2 (alone_rng (hal y hy)).2.1).2 ⟨_,⟨?_,?_⟩,hu⟩⟩<;>omega
 ·rintro ⟨y,hy,ho⟩
  obtain ⟨a,⟨ha1,ha2⟩,hu⟩:=(over_uses h2 (alone_rng (hal y hy)).2.1).1 ho
  have hpos:0<slotV ps x.fUniverse a 0 0 seen:=(slotV_pos ..).2 (.inr (List.any_eq_true.2 ⟨y,hy,hu⟩))
  refine ⟨_,?_,by simpa using hpos⟩
  refine List.mem_iff_getElem?.2 ⟨(a - x.fAddress).toNat,?_⟩
  rw[List.getElem?_drop,List.getElem?_take,if_pos (by omega),slots_get hal (by omega)]
  congr 2
  omega
theorem f140_eq{l:List ApiFixture}{ps:List ApiProfile}{k:Nat}{x:ApiFixture}(hl:l.length≤1000000)(hx:l[k]? = some x)(hal:∀ y ∈ l.take k,aloneS ps y=0)(hc:x.fCable.length≤140737488355328) :
  f140 ⟨l,mapS ps⟩ (k:Int)=some (oneS ps (l.take k) x):=by
 unfold f140 oneS
 show (at? l (k:Int)).bind _=_
 rw[at_nat hx,Option.bind_some,f198_eq,Option.bind_some]
 have hk:=getElem?_lt hx
 by_cases h1:okR x=true
 ·rw[if_neg (by simp[h1])]
  have hr:=h1
  unfold okR at hr
  simp only[decide_eq_true_eq] at hr
  have hJ:¬ (x.fCable≠[]∧nameS x.fCable=false)→(f140_J1 ⟨l,mapS ps⟩ x (k:Int)).run ()=some (if aloneS ps x≠0 then aloneS ps x else if (l.take k).any (fun y=>dupS y x)=true then 7 else if (l.take k).any (fun y=>overS ps y x)=true then 10 else 0):=by
   intro hn
   unfold f140_J1 look?
   dsimp only
   rw[mget_map]
   have ha:aloneS ps x=match profS ps x.fProfile with
    | none=>6
    | some p=>if p.fFootprint<1∨513 - x.fAddress<p.fFootprint then 2 else 0:=by
    unfold aloneS;rw[if_neg (by simp[h1]),if_neg hn];try rfl
   cases hp:profS ps x.fProfile with
   | none =>
    rw[hp] at ha
    simp only at ha
    have hne:aloneS ps x≠0:=by rw[ha];decide
    rw[if_pos hne,ha]
    rfl
   | some p =>
    rw[hp] at ha
    simp only[Option.getD_some,Option.isSome_some,Bool.not_true,Bool.false_eq_true,if_false,decide_eq_true_eq]
    rw[w64 (a:=512 - x.fAddress) (by omega) (by omega),w64 (by omega) (by omega),show 512 - x.fAddress + 1=513 - x.fAddress by omega]
    by_cases h6:p.fFootprint<1∨513 - x.fAddress<p.fFootprint
    ·simp only[h6,if_true] at ha
     have hne:aloneS ps x≠0:=by rw[ha];decide
     rw[if_pos hne,ha]
     rcases h6 with h6 | h6
     ·rw[if_pos h6]
     ·by_cases h7:p.fFootprint<1
      ·rw[if_pos h7]
      ·rw[if_neg h7,if_pos h6]
    ·simp only[h6,if_false] at ha
     have hsz:sizeS ps x=p.fFootprint:=by unfold sizeS;rw[hp]
     rw[if_neg (fun e=>h6 (.inl e)),if_neg (fun e=>h6 (.inr e)),slc_some ⟨by omega,by omega,by omega⟩]
     have ht:(l.take (k:Int).toNat).drop (0:Int).toNat=l.take k:=by simp
     rw[ht,Option.bind_some,f200_eq _ _ (by rw[List.length_take];omega),Option.bind_some,if_neg (show ¬ aloneS ps x≠0 by rw[ha];simp)]
     have hd:0≤fstI (fun y:ApiFixture=>decide (y.fChannel=x.fChannel∧y.fPart=x.fPart)) (l.take k)↔((l.take k).any fun y=>dupS y x)=true:=by
      rw[← decide_eq_true_eq (p:=0≤_),fstI_nonneg];rfl
     cases hdu:(l.take k).any fun y=>dupS y x with
     | true=>rw[if_pos (hd.2 hdu),if_pos rfl]
     | false =>
      rw[if_neg (fun e=>by rw[hd.1 e] at hdu;cases hdu),if_neg (by simp),f201_eq _ hal (by rw[List.length_take];omega),Option.bind_some]
      simp only[arr0?,Option.bind_some]
      rw[must_some ⟨List.length_replicate ..,slots_len⟩,Option.bind_some,must_some slots_len,Option.bind_some,w64 (by omega) (by omega),slc_some ⟨by omega,by omega,by rw[slots_len];omega⟩,Option.bind_some,f190_eq (by rw[List.length_drop,List.length_take,slots_len];omega),Option.bind_some,
       ← hsz,part_any hal ha]
      split<;>rfl
  by_cases h2:x.fCable=[]
  ·rw[if_neg (by simp[h2]),hJ (by simp[h2])]
  ·rw[if_pos (by simpa using h2),f199_eq hc,Option.bind_some]
   cases hn:nameS x.fCable with
   | true=>rw[if_neg (by simp),hJ (by simp[hn])]
   | false =>
    have ha:aloneS ps x=8:=by unfold aloneS;rw[if_neg (by simp[h1]),if_pos ⟨h2,hn⟩]
    have hne:aloneS ps x≠0:=by rw[ha];decide
    rw[if_pos (by simp),if_pos hne,ha]
 ·have ha:aloneS ps x=2:=by unfold aloneS;rw[if_pos (by simpa using h1)]
  have hne:aloneS ps x≠0:=by rw[ha];decide
  rw[if_pos (by simpa using h1),if_pos hne,ha]
def firstE{τ : Type}(e:Nat → τ → Int):Nat→List τ → Int
 | _,[]=>0
 | k,x::xs=>if e k x≠0 then e k x else firstE e (k + 1) xs
theorem firstE_zero{τ : Type}{e:Nat → τ → Int}:∀ {xs:List τ}{k:Nat},firstE e k xs=0↔∀ j x,xs[j]? = some x→e (k + j) x=0
 | [],k=>by simp[firstE]
 | x::xs,k=>by
  unfold firstE
  constructor
  ·intro h j y hy
   split at h
   ·rename_i hne;exact absurd h hne
   ·rename_i h0
    cases j with
    | zero=>simp only[List.getElem?_cons_zero,Option.some.injEq] at hy;subst hy;simpa using h0
    | succ j =>
     rw[List.getElem?_cons_succ] at hy
     have:=firstE_zero.1 h j y hy
     rwa [show k + (j + 1)=k + 1 + j by omega]
  ·intro h
   rw[if_neg (by have:=h 0 x rfl;simpa using this)]
   refine firstE_zero.2 fun j y hy=>?_
   have:=h (j + 1) y (by rwa [List.getElem?_cons_succ])
   rwa [show k + (j + 1)=k + 1 + j by omega] at this
theorem walk_firstE{τ : Type}(e:Nat → τ → Int):∀ (xs:List τ) (k:Nat),walkL (fun k (_:Unit) x=>if e k x≠0 then .inr (.inr (e k x)) else .inl ()) (fun _=>(.inl ():Unit⊕Int)) k () xs=if firstE e k xs=0 then .inl () else .inr (firstE e k xs)
 | [],k=>by simp[walkL,firstE]
 | x::xs,k=>by
  unfold walkL firstE
  by_cases h:e k x≠0
  ·simp only[if_pos h];rw[if_neg h]
  ·simp only[if_neg h];exact walk_firstE e xs (k + 1)
theorem run_firstE{τ : Type}{L:Lp Int (Unit⊕Int)}{xs:List τ}(e:Nat → τ → Int)(hl:xs.length≤9223372036854775807)
  (hs:∀ (k:Nat) x,Rnd xs k x→(∀ j y,j<k→xs[j]? = some y→e j y=0)→L.body (k:Int)=some (if e k x≠0 then .brk (.inr (e k x)) else .next ((k + 1:Nat):Int))) (he:L.body ((xs.length:Nat):Int)=some (.brk (.inl ()))) :
  (L.run 0).bind (fun r_=>match r_ with | (Sum.inl _)=>some 0 | (Sum.inr v)=>some v)=some (firstE e 0 xs):=by
 have hrun:=run_walk (L:=L) xs (fun k (_:Unit)=>(k:Int)) (fun k _ x=>if e k x≠0 then .inr (.inr (e k x)) else .inl ()) (fun _=>(.inl ():Unit⊕Int)) (fun k _=>∀ j y,j<k→xs[j]? = some y→e j y=0) (fun k a x hx hI=>by
  refine ⟨?_,fun a' ha' j y hj hy=>?_⟩
  ·rw[hs k x (Rnd.mk' hx hl) hI]
   by_cases h:e k x≠0
   ·rw[if_pos h,if_pos h];rfl
   ·rw[if_neg h,if_neg h];rfl
  ·by_cases h:e k x≠0
   ·rw[if_pos h] at ha';cases ha'
   ·rcases Nat.lt_succ_iff_lt_or_eq.1 hj with hj | rfl
    ·exact hI j y hj hy
    ·rw[hx] at hy;injection hy with hy;subst hy;simpa using h) (fun a _=>he) () (fun j y hj=>absurd hj (by omega))
 rw[show (0:Int)=((0:Nat):Int) from rfl,hrun,walk_firstE,Option.bind_some]
 by_cases h:firstE e 0 xs=0
 ·rw[if_pos h,h];rfl
 ·rw[if_neg h]
def checkS(l:List ApiFixture)(ps:List ApiProfile):Int:=if 32<ps.length∨64<l.length then 5 else firstE (fun k x=>oneS ps (l.take k) x) 0 l
structure Ok (l:List ApiFixture) (ps:List ApiProfile):Prop where
 np:ps.length≤32
 nl:l.length≤64
 one:∀ x ∈ l,aloneS ps x=0
 two:l.Pairwise fun y x=>dupS y x=false
 lap:l.Pairwise fun y x=>overS ps y x=false
theorem oneS_zero{ps:List ApiProfile}{seen:List ApiFixture}{x:ApiFixture}:oneS ps seen x=0↔aloneS ps x=0∧(∀ y ∈ seen,dupS y x=false)∧∀ y ∈ seen,overS ps y x=false:=by
 unfold oneS
 by_cases h:aloneS ps x≠0
 ·rw[if_pos h];exact ⟨fun e=>absurd e h,fun e=>absurd e.1 h⟩
 ·rw[if_neg h]
  have h0:aloneS ps x=0:=by simpa using h
  cases h1:seen.any fun y=>dupS y x with
  | true =>
   rw[if_pos rfl]
   refine ⟨fun e=>(by cases e),fun e=>?_⟩
   obtain ⟨y,hy,hd⟩:=List.any_eq_true.1 h1
   rw[e.2.1 y hy] at hd;cases hd
  | false =>
   rw[if_neg (by simp)]
   rw[List.any_eq_false] at h1
   cases h2:seen.any fun y=>overS ps y x with
   | true =>
    rw[if_pos rfl]
    refine ⟨fun e=>(by cases e),fun e=>?_⟩
    obtain ⟨y,hy,hd⟩:=List.any_eq_true.1 h2
    rw[e.2.2 y hy] at hd;cases hd
   | false =>
    rw[if_neg (by simp)]
    rw[List.any_eq_false] at h2
    exact ⟨fun _=>⟨h0,fun y hy=>by simpa using h1 y hy,fun y hy=>by simpa using h2 y hy⟩,fun _=>rfl⟩
theorem check_ok{l:List ApiFixture}{ps:List ApiProfile}:checkS l ps=0↔Ok l ps:=by
 unfold checkS
 by_cases h:32<ps.length∨64<l.length
 ·rw[if_pos h]
  exact ⟨fun e=>(by cases e),fun e=>(by have:=e.np;have:=e.nl;omega)⟩
 ·rw[if_neg h,firstE_zero]
  simp only[Nat.zero_add,oneS_zero]
  constructor
  ·intro hh
   refine ⟨by omega,by omega,fun x hx=>?_,?_,?_⟩
   ·obtain ⟨i,hi⟩:=List.mem_iff_getElem?.1 hx
    exact (hh i x hi).1
   ·rw[List.pairwise_iff_getElem]
    intro i j hi hj hij
    exact (hh j l[j] (List.getElem?_eq_getElem hj)).2.1 l[i] (List.mem_iff_getElem?.2 ⟨i,by rw[List.getElem?_take,if_pos hij,List.getElem?_eq_getElem hi]⟩)
   ·rw[List.pairwise_iff_getElem]
    intro i j hi hj hij
    exact (hh j l[j] (List.getElem?_eq_getElem hj)).2.2 l[i] (List.mem_iff_getElem?.2 ⟨i,by rw[List.getElem?_take,if_pos hij,List.getElem?_eq_getElem hi]⟩)
  ·intro hh j x hx
   have hj:=getElem?_lt hx
   have hxe:l[j]=x:=(List.getElem?_eq_some_iff.1 hx).2
   have hmem:∀ y ∈ l.take j,∃ i,∃ hi:i<l.length,i<j∧l[i]=y:=fun y hy=>by
    obtain ⟨i,hi⟩:=List.mem_iff_getElem?.1 hy
    rw[List.getElem?_take] at hi
    split at hi
    ·rename_i hij
     obtain ⟨h1,h2⟩:=List.getElem?_eq_some_iff.1 hi
     exact ⟨i,h1,hij,h2⟩
    ·cases hi
   refine ⟨hh.one x (getElem?_mem hx),fun y hy=>?_,fun y hy=>?_⟩
   ·obtain ⟨i,hi,hij,rfl⟩:=hmem y hy
    rw[← hxe];exact List.pairwise_iff_getElem.1 hh.two i j hi hj hij
   ·obtain ⟨i,hi,hij,rfl⟩:=hmem y hy
    rw[← hxe];exact List.pairwise_iff_getElem.1 hh.lap i j hi hj hij
theorem take_alone{l:List ApiFixture}{ps:List ApiProfile}{k:Nat}(h:∀ j y,j<k→l[j]? = some y→oneS ps (l.take j) y=0):∀ y ∈ l.take k,aloneS ps y=0:=fun y hy=>by
 obtain ⟨i,hi⟩:=List.mem_iff_getElem?.1 hy
 rw[List.getElem?_take] at hi
 split at hi
 ·rename_i hij;exact (oneS_zero.1 (h i y hij hi)).1
 ·cases hi
def Fit(l:List ApiFixture):Prop:=∀ x ∈ l,x.fCable.length≤140737488355328
theorem f96_eq{l:List ApiFixture}(ps:List ApiProfile)(hf:Fit l):f96 l ps=some (checkS l ps):=by
 unfold f96 checkS
 by_cases h1:32<ps.length
 ·rw[if_pos (by simp only[decide_eq_true_eq];omega),if_pos (.inl h1)]
 ·rw[if_neg (by simp only[decide_eq_true_eq];omega)]
  by_cases h2:64<l.length
  ·rw[if_pos (by simp only[decide_eq_true_eq];omega),if_pos (.inr h2)]
  ·rw[if_neg (by simp only[decide_eq_true_eq];omega),if_neg (by omega),f139_eq l (by omega),Option.bind_some]
   refine run_firstE (fun k x=>oneS ps (l.take k) x) (by omega) (fun k x r hI=>?_) ?_
   ·refine (if_pos r.lt).trans ?_
    rw[f140_eq (by omega) r.get (take_alone hI) (hf x r.mem)]
    simp only[Option.bind_some,r.nxt,decide_eq_true_eq]
    split<;>rfl
   ·exact if_neg (by simp)
theorem alone_prof{ps:List ApiProfile}{x:ApiFixture}(h:aloneS ps x=0):∃ p,profS ps x.fProfile=some p:=let ⟨_,p,hp,_⟩:=alone_ok h;⟨p,hp⟩
theorem f115_eq{ps:List ApiProfile}{x y:ApiFixture}(hp:ps.length≤1000000)(hx:aloneS ps x=0)(hy:aloneS ps y=0):f115 ps x y=some (overS ps x y):=by
 unfold f115 overS
 obtain ⟨p,hp1⟩:=alone_prof hx
 obtain ⟨q,hq1⟩:=alone_prof hy
 obtain ⟨a1,a2,a3,_⟩:=alone_rng hx
 obtain ⟨b1,b2,b3,_⟩:=alone_rng hy
 rw[f172_eq hp hp1,f172_eq hp hq1]
 simp only[Option.bind_some]
 rw[w64 (by omega) (by omega),w64 (by omega) (by omega)]
 simp only[decide_eq_true_eq]
 by_cases h1:x.fUniverse=y.fUniverse
 ·rw[if_pos h1]
  by_cases h2:x.fAddress<y.fAddress + sizeS ps y
  ·rw[if_pos h2];simp[h1,h2]
  ·rw[if_neg h2];simp[h2]
 ·rw[if_neg h1];simp[h1]
theorem f73_eq{l:List ApiFixture}(ps:List ApiProfile)(hf:Fit l):f73 l ps=some (checkS l ps):=by
 unfold f73 checkS
 by_cases h1:32<ps.length
 ·rw[if_pos (by simp only[decide_eq_true_eq];omega),if_pos (.inl h1)]
 ·rw[if_neg (by simp only[decide_eq_true_eq];omega)]
  by_cases h2:64<l.length
  ·rw[if_pos (by simp only[decide_eq_true_eq];omega),if_pos (.inr h2)]
  ·rw[if_neg (by simp only[decide_eq_true_eq];omega),if_neg (by omega)]
   refine run_firstE (fun k x=>oneS ps (l.take k) x) (by omega) (fun k x r hI=>?_) (if_neg (by simp))
   refine (if_pos r.lt).trans ?_
   have hal:=take_alone hI
   have hk:=r.klt
   have hlk:(l.take k).length=k:=by rw[List.length_take];omega
   have hget:∀ {j:Nat}{y:ApiFixture},(l.take k)[j]? = some y→at? l (j:Int)=some y∧j<k:=fun {j y} hj=>by
    rw[List.getElem?_take] at hj
    split at hj
    ·exact ⟨at_nat hj,by assumption⟩
    ·cases hj
   rw[r.at',Option.bind_some,f114_eq (by omega) (hf x r.mem),Option.bind_some]
   show _=some (if oneS ps (l.take k) x≠0 then _ else _)
   by_cases ha:aloneS ps x≠0
   ·have ho:oneS ps (l.take k) x=aloneS ps x:=by unfold oneS;rw[if_pos ha]
    rw[if_pos (by simpa using ha),ho,if_pos ha]
   ·have ha0:aloneS ps x=0:=by simpa using ha
    rw[if_neg (by simpa using ha)]
    have hL2:Lp.run (f73_L2 (k:Int) l ps) 0=some (if (l.take k).any (fun y=>dupS y x)=true then .inr () else .inl ()):=by
     refine run_any (xs:=l.take k) (fun y=>dupS y x) (by omega) (fun j y q=>?_) ?_
     ·obtain ⟨g1,g2⟩:=hget q.get
      refine (if_pos (by simp only[decide_eq_true_eq];omega)).trans ?_
      rw[g1,r.at']
      simp only[Option.bind_some,q.nxt,decide_eq_true_eq]
      unfold dupS
      by_cases e1:y.fChannel=x.fChannel
      ·rw[if_pos e1]
       by_cases e2:y.fPart=x.fPart
       ·rw[if_pos e2,if_pos (by simp[e1,e2])]
       ·rw[if_neg e2,if_neg (by simp[e2])]
      ·rw[if_neg e1,if_neg (by simp[e1])]
     ·rw[hlk];exact if_neg (by simp)
    have hL3:Lp.run (f73_L3 (k:Int) l ps) 0=some (if (l.take k).any (fun y=>overS ps y x)=true then .inr () else .inl ()):=by
     refine run_any (xs:=l.take k) (fun y=>overS ps y x) (by omega) (fun j y q=>?_) ?_
     ·obtain ⟨g1,g2⟩:=hget q.get
      refine (if_pos (by simp only[decide_eq_true_eq];omega)).trans ?_
      rw[g1,r.at']
      simp only[Option.bind_some,q.nxt]
      rw[f115_eq (by omega) (hal y q.mem) ha0,Option.bind_some]
      split<;>rfl
     ·rw[hlk];exact if_neg (by simp)
    rw[hL2,hL3,Option.bind_some]
    unfold oneS
    rw[if_neg ha]
    cases (l.take k).any fun y=>dupS y x with
    | true=>rfl
    | false=>cases (l.take k).any fun y=>overS ps y x with
     | true=>rfl
     | false=>simp[r.nxt]
end Go.Proofs.YtnaemmpcffnbkaaGreatDoor
