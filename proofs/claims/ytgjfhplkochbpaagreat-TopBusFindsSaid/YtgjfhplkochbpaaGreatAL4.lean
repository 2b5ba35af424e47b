import Derived.Test.YtgjfhplkochbpaaGreatAL3
import Derived.Test.YtgjfhplkochbpaaGreatASE
namespace Go.Proofs.YtgjfhplkochbpaaGreat
open Go Go.Ab
set_option linter.unusedSimpArgs false
set_option linter.unusedVariables false
set_option maxHeartbeats 400000
def mutedL(l:List ResponderDevice)(F:List Int):List ResponderDevice:=l.map fun d=>{ d with fMuted:=decide (d.fIdentity ∈ F) }
theorem mutedL_good{l:List ResponderDevice}(g:GoodL l)(F:List Int):GoodL (mutedL l F) where
 len:=by simp[mutedL];exact g.len
 good d hd:=by
  obtain ⟨x,hx,rfl⟩:=List.mem_map.1 hd
  have:=g.good x hx
  exact ⟨this.id,this.foot,this.addr,this.lab,this.hours⟩
 dist:=by
  have:=g.dist
  simpa[mutedL,List.map_map,Function.comp_def] using this
structure Inv (l:List ResponderDevice) (frm:Int) (σ : Srch):Prop where
 devs : σ.devs=mutedL l σ.found
 frm : σ.frm=frm
 seq:0 ≤ σ.seq ∧ σ.seq≤255
 known:∀ id,(mget σ.known id).getD false=decide (id ∈ σ.found)
 nodup : σ.found.Nodup
 sub:∀ id ∈ σ.found,∃ d ∈ l,d.fIdentity=id
theorem nodup_len:∀ {F G:List Int},F.Nodup→(∀ x ∈ F,x ∈ G)→F.length≤G.length
 | [],_,_,_=>by simp
 | x::F,G,hd,hs=>by
  rw[List.nodup_cons] at hd
  have hx:=hs x (List.mem_cons_self ..)
  have:=nodup_len (F:=F) (G:=G.erase x) hd.2 fun y hy=>(List.mem_erase_of_ne (fun e=>hd.1 (by rw[← e];exact hy))).2 (hs y (List.mem_cons_of_mem _ hy))
  rw[List.length_erase_of_mem hx] at this
  have:=List.length_pos_of_mem hx
  simp only[List.length_cons]
  omega
theorem Inv.len{l:List ResponderDevice}{frm:Int}{σ : Srch}(g:GoodL l)(h:Inv l frm σ) : σ.found.length≤l.length:=by
 have:=nodup_len (G:=l.map (·.fIdentity)) h.nodup fun x hx=>by
  obtain ⟨d,hd,rfl⟩:=h.sub x hx
  exact List.mem_map_of_mem hd
 simpa using this
theorem seq_ok{s:Int}(h:0≤s∧s≤255):0≤(IntKind.i64.wrap (s + 1)).tmod 256∧(IntKind.i64.wrap (s + 1)).tmod 256≤255:=by
 rw[w64 (by omega) (by omega),Int.tmod_eq_emod_of_nonneg (by omega)]
 omega
theorem f30_eq{s:List ApiMessage}{to frm seq kind:Int}(hl:s.length≤1000)(h:∀ a ∈ s,f33 ⟨to,frm,seq,kind,0,[]⟩ a=some true):f30_32 s to frm seq kind 0 []=some (decide (s≠[])):=by
 unfold f30_32 f50_32
 cases s with
 | nil =>
  have:(f50_32_L1 [] to frm seq kind 0 []).run 0=some (.inl ()):=iter_brk (by simp[f50_32_L1])
  rw[this]
  rfl
 | cons a s =>
  have hat:at? (a::s) (0:Int)=some a:=rfl
  have:(f50_32_L1 (a::s) to frm seq kind 0 []).run 0=some (.inr 0):=iter_brk (by
   simp only[f50_32_L1]
   rw[if_pos (by simp),hat,Option.bind_some]
   simp[f32p,h a (List.mem_cons_self ..)])
  rw[this]
  simp
theorem order2{σ : Srch}{frm id:Int}(g:GoodL σ.devs)(hf : σ.frm=frm)(hfr:isId frm=true)(hs:0 ≤ σ.seq ∧ σ.seq≤255)(hi:isId id=true) :
  σ.order 2 id=some (σ.sent (σ.devs.map fun d=>if d.fIdentity=id then { d with fMuted:=true } else d) 0,decide (∃ d ∈ σ.devs,d.fIdentity=id)):=by
 have gm:GoodM ⟨id,frm,σ.seq,2,0,[]⟩:=⟨.inl hi,hfr,hs,by simp,by simp,by simp,fun h=>by simp at h,fun _=>rfl,fun _=>rfl,fun h=>by simp at h⟩
 unfold Srch.order
 rw[hf,f27_mute g hfr hs hi,Option.bind_some]
 simp only
 rw[f30_eq (by
  have:=g.len
  have:=List.length_filterMap_le (fun d:ResponderDevice=>if d.fIdentity=id then some (ansM ⟨id,frm,σ.seq,2,0,[]⟩ id []) else none) σ.devs
  omega) (fun a ha=>by
  obtain ⟨d,hd,e⟩:=List.mem_filterMap.1 ha
  split at e
  ·injection e with e
   subst e
   exact f33_ans gm (by simp) (by simp) hi (by simp) (.inr rfl)
  ·cases e),Option.bind_some]
 refine congrArg some (Prod.ext rfl ?_)
 simp only
 apply decide_eq_decide.2
 constructor
 ·intro h
  obtain ⟨a,ha⟩:=List.exists_mem_of_ne_nil _ h
  obtain ⟨d,hd,e⟩:=List.mem_filterMap.1 ha
  split at e
  ·exact ⟨d,hd,by assumption⟩
  ·cases e
 ·rintro ⟨d,hd,e⟩ h
  have:=List.filterMap_eq_nil_iff.1 h d hd
  rw[if_pos e] at this
  cases this
theorem sent_inv{l:List ResponderDevice}{frm:Int}{σ : Srch}(h:Inv l frm σ):Inv l frm (σ.sent σ.devs 0) :=
 ⟨by simp only[Srch.sent,if_true];exact h.devs,h.frm,seq_ok h.seq,h.known,h.nodup,h.sub⟩
def Done(l:List ResponderDevice)(lo hi:Int)(F:List Int):Prop:=∀ d ∈ l,lo≤d.fIdentity→d.fIdentity≤hi→d.fIdentity ∈ F
theorem hears_iff{l:List ResponderDevice}{F:List Int}{lo hi:Int}{d:ResponderDevice}:d ∈ (mutedL l F).filter (hears lo hi)↔∃ x ∈ l,d={ x with fMuted:=decide (x.fIdentity ∈ F) }∧x.fIdentity ∉ F∧lo≤x.fIdentity∧x.fIdentity≤hi:=by
 rw[List.mem_filter]
 constructor
 ·rintro ⟨h1,h2⟩
  obtain ⟨x,hx,rfl⟩:=List.mem_map.1 h1
  simp[hears] at h2
  exact ⟨x,hx,rfl,h2.1,h2.2.1,h2.2.2⟩
 ·rintro ⟨x,hx,rfl,h1,h2,h3⟩
  exact ⟨List.mem_map.2 ⟨x,hx,rfl⟩,by simp[hears,h1,h2,h3]⟩
theorem nodup_one{l:List ResponderDevice}{lo:Int}(hd:(l.map (·.fIdentity)).Nodup)(h:∀ d ∈ l,d.fIdentity=lo)(hn:l≠[]):∃ d,l=[d]:=by
 match l,hn with
 | [d],_=>exact ⟨d,rfl⟩
 | a::b::l,_ =>
  exfalso
  rw[List.map_cons,List.nodup_cons] at hd
  apply hd.1
  rw[h a (by simp),List.map_cons,h b (by simp)]
  simp
theorem seek_ok{l:List ResponderDevice}{frm:Int}(g:GoodL l)(hf:isId frm=true){σ : Srch}(h:Inv l frm σ){lo hi:Int}(hl:isId lo=true)(hh:isId hi=true)(ho:lo≤hi) :
  ∃ σ' e m,σ.seek f53 lo hi=some (σ',e,m)∧Inv l frm σ'∧(∀ x ∈ σ.found,x ∈ σ'.found)∧(m=true → σ'.found.length = σ.found.length + 1)∧(m=false→(e=true→Done l lo hi σ'.found)∧(e=false→lo<hi)):=by
 have gd:GoodL σ.devs:=by rw[h.devs];exact mutedL_good g _
 have e52:=f52_eq (seq:=σ.seq) hf h.seq hl hh ho
 have e27:=f27_seek gd hf h.seq hl hh ho
 have gm:=seekM_good hf h.seq hl hh ho
 unfold Srch.seek
 rw[h.frm,e52,Option.bind_some]
 simp only
 rw[e27,Option.bind_some]
 simp only
 have hlI:=isId_iff.1 hl
 have hhI:=isId_iff.1 hh
 by_cases hA : σ.devs.filter (hears lo hi)=[]
 ·rw[hA,List.map_nil,f53_none,Option.bind_some,if_pos rfl]
  refine ⟨_,_,_,rfl,sent_inv h,fun x hx=>hx,fun hm=>by simp at hm,fun _=>⟨fun _ d hd h1 h2=>?_,fun he=>by simp at he⟩⟩
  by_cases hn:d.fIdentity ∈ σ.found
  ·exact hn
  ·exfalso
   have:{ d with fMuted:=decide (d.fIdentity ∈ σ.found) } ∈ σ.devs.filter (hears lo hi):=by
    rw[h.devs];exact hears_iff.2 ⟨d,hd,rfl,hn,h1,h2⟩
   rw[hA] at this
   simp at this
 have hall:∀ a ∈ (σ.devs.filter (hears lo hi)).map (fun d=>ansM (seekM frm σ.seq lo hi) d.fIdentity (be 6 d.fIdentity)),GoodM a:=fun a ha=>by
  obtain ⟨d,hd,rfl⟩:=List.mem_map.1 ha
  exact ansM_good gm (gd.good d (List.mem_filter.1 hd).1).id (by simp[be_len])
 obtain ⟨u,hu,hU⟩:=f53_many hf h.seq hl hh ho (ans:=(σ.devs.filter (hears lo hi)).map fun d=>ansM (seekM frm σ.seq lo hi) d.fIdentity (be 6 d.fIdentity)) (by simpa using hA)
  (by have:=gd.len;have:=List.length_filter_le (hears lo hi) σ.devs;rw[List.length_map];omega) hall
 have hone:lo=hi→u=(1,lo)∧lo ∉ σ.found∧∃ d ∈ σ.devs,d.fIdentity=lo:=fun heq=>by
  subst heq
  have hdist:((σ.devs.filter (hears lo lo)).map (·.fIdentity)).Nodup:=List.Sublist.nodup (List.Sublist.map _ (List.filter_sublist (l:=σ.devs))) gd.dist
  have hid:∀ d ∈ σ.devs.filter (hears lo lo),d.fIdentity=lo:=fun d hd=>by
   rw[h.devs] at hd
   obtain ⟨x,hx,rfl,_,h1,h2⟩:=hears_iff.1 hd
   simp only
   omega
  obtain ⟨d,hd⟩:=nodup_one hdist hid hA
  have hdm:d ∈ σ.devs.filter (hears lo lo):=by rw[hd];simp
  have hde:=hid d hdm
  rw[hd,List.map_singleton,hde,f53_one hf h.seq hl hh (Int.le_refl _) hl (Int.le_refl _) (Int.le_refl _)] at hu
  injection hu with hu
  refine ⟨hu.symm,?_,d,(List.mem_filter.1 hdm).1,hde⟩
  rw[h.devs] at hdm
  obtain ⟨x,hx,e,hxn,_⟩:=hears_iff.1 hdm
  rw[e] at hde
  simp only at hde
  rw[← hde]
  exact hxn
 rw[hu,Option.bind_some]
 have hsent:=sent_inv h
 rcases hU with hU | ⟨u1,u2,u3⟩
 ·subst hU
  simp only[show ¬ (2:Int)=0 by decide,if_false,if_true]
  refine ⟨_,_,_,rfl,hsent,fun x hx=>hx,fun hm=>by simp at hm,fun _=>⟨fun he=>by simp at he,fun _=>?_⟩⟩
  by_cases heq:lo=hi
  ·have:=(hone heq).1
   injection this with this
   simp at this
  ·omega
 rw[if_neg (by omega),if_neg (by omega)]
 by_cases hk:(mget σ.known u.2).getD false=true
 ·rw[if_pos hk]
  refine ⟨_,_,_,rfl,hsent,fun x hx=>hx,fun hm=>by simp at hm,fun _=>⟨fun he=>by simp at he,fun _=>?_⟩⟩
  by_cases heq:lo=hi
  ·have hlo:=(hone heq).2.1
   have:u.2=lo:=by omega
   rw[this,h.known,decide_eq_true_eq] at hk
   exact absurd hk hlo
  ·omega
 rw[if_neg hk]
 have hnf:u.2 ∉ σ.found:=fun hm=>hk (by rw[h.known];simpa using hm)
 have hui:isId u.2=true:=isId_iff.2 ⟨by omega,by omega⟩
 have hord:=order2 (σ:=σ.sent σ.devs 0) (frm:=frm) (id:=u.2) (by simp only[Srch.sent,if_true];exact gd) (by simp only[Srch.sent];exact h.frm) hf hsent.seq hui
 unfold Srch.mute
 rw[hord,Option.bind_some,Option.bind_some]
 have hdv:(σ.sent σ.devs 0).devs = σ.devs:=by simp[Srch.sent]
 rw[hdv]
 simp only
 by_cases hex:∃ d ∈ σ.devs,d.fIdentity=u.2
 ·rw[decide_eq_true hex]
  simp only[if_true,Bool.true_eq_false,if_false]
  have hlen:(Srch.sent (σ.sent σ.devs 0) (σ.devs.map fun d=>if d.fIdentity=u.2 then { d with fMuted:=true } else d) 0).found = σ.found:=rfl
  rw[hlen,app_some (by have:=h.len g;have:=g.len;simp;omega) (by have:=h.len g;have:=g.len;simp;omega),Option.bind_some]
  refine ⟨_,_,_,rfl,⟨?_,h.frm,seq_ok hsent.seq,fun id=>?_,?_,fun id hid=>?_⟩,fun x hx=>List.mem_append_left _ hx,fun _=>by simp,fun hm=>by simp at hm⟩
  ·simp only[Srch.sent,if_true]
   rw[h.devs]
   unfold mutedL
   rw[List.map_map]
   apply List.map_congr_left
   intro x hx
   simp only[Function.comp]
   by_cases hxu:x.fIdentity=u.2
   ·simp[hxu]
   ·simp[hxu]
  ·simp only
   rw[mget_mset]
   by_cases hid:id=u.2
   ·rw[if_pos hid];simp[hid]
   ·rw[if_neg hid]
    show (mget σ.known id).getD false=_
    rw[h.known]
    simp[hid]
  ·simp only
   rw[List.nodup_append]
   refine ⟨h.nodup,by simp,fun a ha b hb=>?_⟩
   simp at hb
   subst hb
   exact fun e=>hnf (by rw[← e];exact ha)
  ·simp only[List.mem_append,List.mem_singleton] at hid
   rcases hid with hid | hid
   ·exact h.sub id hid
   ·subst hid
    obtain ⟨d,hd,e⟩:=hex
    rw[h.devs] at hd
    obtain ⟨x,hx,rfl⟩:=List.mem_map.1 hd
    exact ⟨x,hx,e⟩
 ·rw[decide_eq_false hex]
  simp only[Bool.false_eq_true,if_false,if_true]
  have hdm:(σ.devs.map fun d=>if d.fIdentity=u.2 then { d with fMuted:=true } else d) = σ.devs:=by
   conv=>rhs;rw[← List.map_id σ.devs]
   apply List.map_congr_left
   intro d hd
   rw[if_neg fun e=>hex ⟨d,hd,e⟩]
   rfl
  rw[hdm]
  refine ⟨_,_,_,rfl,?_,fun x hx=>hx,fun hm=>by simp at hm,fun _=>⟨fun he=>by simp at he,fun _=>?_⟩⟩
  ·have:=sent_inv hsent
   rw[hdv] at this
   exact this
  ·by_cases heq:lo=hi
   ·have hlo:=(hone heq).2.2
    have:u.2=lo:=by omega
    rw[this] at hex
    exact absurd hlo hex
   ·omega
theorem seeks_ok{l:List ResponderDevice}{frm:Int}(g:GoodL l)(hf:isId frm=true){lo hi:Int}(hl:isId lo=true)(hh:isId hi=true)(ho:lo≤hi) :
  ∀ (n:Nat) {σ : Srch},Inv l frm σ → l.length<n + σ.found.length→∃ σ' e,σ.seeks f53 n lo hi=some (σ',e)∧Inv l frm σ'∧(∀ x ∈ σ.found,x ∈ σ'.found)∧(e=true→Done l lo hi σ'.found)∧(e=false→lo<hi)
 | 0,σ,h,hn=>by
  have:=h.len g
  omega
 | n + 1,σ,h,hn=>by
  obtain ⟨σ1,e,m,h1,h2,h3,h4,h5⟩:=seek_ok g hf h hl hh ho
  unfold Srch.seeks
  rw[h1,Option.bind_some]
  cases m with
  | true =>
   simp only[if_true]
   have:=h4 rfl
   obtain ⟨σ2,e2,i1,i2,i3,i4,i5⟩:=seeks_ok g hf hl hh ho n h2 (by omega)
   exact ⟨σ2,e2,i1,i2,fun x hx=>i3 x (h3 x hx),i4,i5⟩
  | false =>
   simp only[Bool.false_eq_true,if_false]
   exact ⟨σ1,e,rfl,h2,h3,(h5 rfl).1,(h5 rfl).2⟩
theorem midI_ok{lo hi:Int}(hl:isId lo=true)(hh:isId hi=true)(ho:lo<hi):midI lo hi=lo + (hi - lo) / 2:=by
 have:=isId_iff.1 hl
 have:=isId_iff.1 hh
 unfold midI
 rw[u64w (x:=hi - lo) (by omega),Int.tdiv_eq_ediv_of_nonneg (by omega),u64w (x:=(hi - lo) / 2) (by omega),u64w (by omega)]
theorem inn_ok{l:List ResponderDevice}{frm:Int}(g:GoodL l)(hf:isId frm=true) :
  ∀ (n:Nat) {σ : Srch}{lo hi:Int},Inv l frm σ → isId lo=true→isId hi=true→lo≤hi→hi - lo<2 ^ n→∃ σ',σ.inn f53 (n + 1) lo hi=some σ'∧Inv l frm σ'∧(∀ x ∈ σ.found,x ∈ σ'.found)∧Done l lo hi σ'.found:=by
 intro n
 induction n with
 | zero =>
  intro σ lo hi h hl hh ho hn
  obtain ⟨σ1,e,h1,h2,h3,h4,h5⟩:=seeks_ok g hf hl hh ho 1000 h (by have:=g.len;omega)
  unfold Srch.inn
  rw[h1,Option.bind_some]
  cases e with
  | true=>exact ⟨σ1,rfl,h2,h3,h4 rfl⟩
  | false =>
   have:=h5 rfl
   omega
 | succ n ih =>
  intro σ lo hi h hl hh ho hn
  obtain ⟨σ1,e,h1,h2,h3,h4,h5⟩:=seeks_ok g hf hl hh ho 1000 h (by have:=g.len;omega)
  unfold Srch.inn
  rw[h1,Option.bind_some]
  cases e with
  | true=>exact ⟨σ1,rfl,h2,h3,h4 rfl⟩
  | false =>
   have hlt:=h5 rfl
   have hlI:=isId_iff.1 hl
   have hhI:=isId_iff.1 hh
   have hp:(2:Int) ^ (n + 1)=2 ^ n * 2:=Int.pow_succ ..
   simp only[Bool.false_eq_true,if_false]
   rw[if_neg (by omega),midI_ok hl hh hlt]
   have hm:isId (lo + (hi - lo) / 2)=true:=isId_iff.2 ⟨by omega,by omega⟩
   have hm1:isId (lo + (hi - lo) / 2 + 1)=true:=isId_iff.2 ⟨by omega,by omega⟩
   obtain ⟨σ2,a1,a2,a3,a4⟩:=ih h2 hl hm (by omega) (by omega)
   rw[a1,Option.bind_some,u64w (by omega)]
   obtain ⟨σ3,b1,b2,b3,b4⟩:=ih a2 hm1 hh (by omega) (by omega)
   refine ⟨σ3,b1,b2,fun x hx=>b3 x (a3 x (h3 x hx)),fun d hd h1 h2=>?_⟩
   by_cases hc:d.fIdentity≤lo + (hi - lo) / 2
   ·exact b3 _ (a4 d hd h1 hc)
   ·exact b4 d hd (by omega) h2
theorem f29_eq{l:List ResponderDevice}(hl:l.length≤1000):f29 l=some l:=by
 have h:app? 56 ([]:List ResponderDevice) l=some l:=by rw[app_some (by simp;omega) (by simp;omega)];simp
 unfold f29 nil?
 by_cases hn:l=[]
 ·rw[if_pos hn]
  subst hn
  simp[h]
 ·rw[if_neg hn]
  simp[h]
theorem find7_eq{l:List ResponderDevice}{frm:Int}(g:GoodL l)(hf:isId frm=true) :
  ∃ σ,find7 f53 l frm=some σ ∧ σ.devs=l.map (fun d=>{ d with fMuted:=true }) ∧ σ.found.Nodup∧∀ id,id ∈ σ.found↔id ∈ l.map (·.fIdentity):=by
 have hlen:=g.len
 unfold find7
 rw[f27_begin g,Option.bind_some,if_pos rfl,f28_eq hf,Option.bind_some,if_pos rfl,f29_eq (by omega),Option.bind_some]
 have hord:Srch.order ⟨l,frm,0,[],[],0⟩ 3 281474976710655=some (Srch.sent ⟨l,frm,0,[],[],0⟩ (l.map fun d=>{ d with fMuted:=false }) 0,false):=by
  unfold Srch.order
  simp only
  rw[f27_unmute g hf (by omega),Option.bind_some]
  simp only
  rw[f30_eq (by simp) (by simp)]
  rfl
 rw[hord,Option.bind_some]
 have h0:Inv l frm (Srch.sent ⟨l,frm,0,[],[],0⟩ (l.map fun d=>{ d with fMuted:=false }) 0) :=
  ⟨by simp[Srch.sent,mutedL],rfl,seq_ok (s:=0) (by omega),fun id=>by simp[Srch.sent,mget],by simp[Srch.sent],fun id hid=>by simp[Srch.sent] at hid⟩
 obtain ⟨σ,h1,h2,h3,h4⟩:=inn_ok g hf 99 h0 (lo:=1) (hi:=281474976710654) (by decide) (by decide) (by decide) (by decide)
 have hall:∀ d ∈ l,d.fIdentity ∈ σ.found:=fun d hd=>by
  have:=isId_iff.1 (g.good d hd).id
  exact h4 d hd (by omega) (by omega)
 refine ⟨σ,h1,?_,h2.nodup,fun id=>⟨fun hid=>?_,fun hid=>?_⟩⟩
 ·rw[h2.devs]
  unfold mutedL
  apply List.map_congr_left
  intro d hd
  rw[decide_eq_true (hall d hd)]
 ·obtain ⟨d,hd,rfl⟩:=h2.sub id hid
  exact List.mem_map_of_mem hd
 ·obtain ⟨d,hd,rfl⟩:=List.mem_map.1 hid
  exact hall d hd
end Go.Proofs.YtgjfhplkochbpaaGreat
