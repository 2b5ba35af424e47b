import Derived.Test.YtgjfhplkochbpaaGreatAL1
import Derived.Laws.RangeString
namespace Go.Proofs.YtgjfhplkochbpaaGreat
open Go Go.Ab
set_option linter.unusedSimpArgs false
set_option linter.unusedVariables false
set_option maxHeartbeats 400000
def plainB(b:UInt8):Bool:=decide (32≤b.toNat) && decide (b.toNat≤126)
structure GoodD (d:ResponderDevice):Prop where
 id:isId d.fIdentity=true
 foot:1≤d.fFootprint∧d.fFootprint≤512
 addr:1≤d.fAddress∧d.fAddress≤512∧d.fAddress + d.fFootprint - 1≤512
 lab:d.fLabel.length≤32∧d.fLabel.all plainB=true
 hours:0≤d.fHours∧d.fHours≤4294967295
theorem f71_eq(x:Int):f71 x=some (isId x):=by
 unfold f71 isId
 by_cases h:0<x<;>simp[h]
theorem f5_eq(x:Int):f5 x=some (isId x):=by
 unfold f5 isId
 by_cases h:0<x<;>simp[h]
theorem f28_eq{x:Int}(h:isId x=true):f28 x=some true:=by
 have:=isId_iff.1 h
 have h1:1≤x:=by omega
 have h2:x≤281474976710654:=by omega
 simp[f28,h1,h2]
theorem dcd_plain{s:List UInt8}{i:Nat}{b:UInt8}(h:s[i]? = some b)(hb:plainB b=true):dcd s i=(b.toNat,1):=by
 have hi:=(List.getElem?_eq_some_iff.1 h).1
 have hv:=(List.getElem?_eq_some_iff.1 h).2
 simp only[plainB,Bool.and_eq_true,decide_eq_true_eq] at hb
 have e:(ByteArray.mk s.toArray)[i]'(by simpa[ByteArray.size] using hi)=b:=by
  show s.toArray[i]=b
  simpa using hv
 have:=decode_ascii (ByteArray.mk s.toArray) i (by simpa[ByteArray.size] using hi) (by rw[e];omega)
 rw[e] at this
 exact this
theorem f118_plain{b:UInt8}(hb:plainB b=true):f118 ((b.toNat:Nat):Int)=some false:=by
 simp only[plainB,Bool.and_eq_true,decide_eq_true_eq] at hb
 have h1:¬ ((b.toNat:Nat):Int)<32:=by omega
 have h2:¬ (126:Int)<((b.toNat:Nat):Int):=by omega
 simp[f118,h1,h2]
theorem f73_good{s:List UInt8}(hl:s.length≤32)(hs:s.all plainB=true):f73 s=some 0:=by
 have h1:¬ (32:Int)<((s.length:Nat):Int):=by omega
 have hr:(f132_118_L1 s true).run 0=some (.inl ()):=by
  refine run_count (L:=f132_118_L1 s true) (fun i=>i) s.length ?_ 0 (by omega) ?_
  ·simp[f132_118_L1]
  ·intro i _ hi
   have hg:=List.getElem?_eq_getElem hi
   have hp:=List.all_eq_true.1 hs _ (List.getElem_mem hi)
   simp only[f132_118_L1,dcd_plain hg hp,f118_plain hp,Option.bind_some]
   simp[hi]
 simp[f73,h1,f117_118,f128_118,f132_118,hr]
theorem f72_good{d:ResponderDevice}(g:GoodD d):f72p d.fIdentity d.fFootprint d.fAddress d.fLabel d.fHours d.fMuted d.fIdentify d.fAddress=some true:=by
 have:=g.addr
 have:=g.foot
 have h1:1≤d.fAddress:=by omega
 have h2:d.fAddress≤512:=by omega
 have h3:d.fAddress + d.fFootprint - 1≤512:=by omega
 unfold f72p
 rw[w64 (a:=d.fAddress + d.fFootprint) (by omega) (by omega),w64 (by omega) (by omega)]
 simp[h1,h2,h3]
theorem f47_good{d:ResponderDevice}(g:GoodD d):f47 d=some 0:=by
 have a:=g.foot
 have b:=g.hours
 have c1:¬ d.fFootprint<1:=by omega
 have c2:¬ 512<d.fFootprint:=by omega
 have c3:¬ d.fHours<0:=by omega
 have c4:¬ 4294967295<d.fHours:=by omega
 simp[f47,f71_eq,g.id,c1,c2,c3,c4,f72_good g,f73_good g.lab.1 g.lab.2]
structure GoodL (l:List ResponderDevice):Prop where
 len:l.length≤8
 good:∀ d ∈ l,GoodD d
 dist:(l.map (·.fIdentity)).Nodup
theorem mget_mset{κ ν : Type}[DecidableEq κ]:∀ (m:List (κ × ν)) (k k' : κ) (v : ν),mget (mset m k v) k'=if k'=k then some v else mget m k'
 | [],k,k',v=>by simp only[mset,mget]
 | p::m,k,k',v=>by
  simp only[mset]
  by_cases h:k=p.1
  ·rw[if_pos h]
   simp only[mget]
   by_cases h2:k'=p.1
   ·rw[if_pos h2,if_pos (by rw[h2,h])]
   ·rw[if_neg h2,if_neg (by rw[h];exact h2)]
    rw[if_neg h2]
  ·rw[if_neg h]
   simp only[mget]
   rw[mget_mset m]
   by_cases h2:k'=p.1
   ·rw[if_pos h2,if_neg (by rw[h2];exact fun e=>h e.symm),if_pos h2]
   ·rw[if_neg h2,if_neg h2]
theorem L1_good{l:List ResponderDevice}(g:GoodL l)(m:ApiMessage):(f27_L1 l m).run (0,[])=some (.inl ()):=by
 have hlen:=g.len
 suffices h:∃ e,(f27_L1 l m).run (0,[])=some e∧e=.inl () by
  obtain ⟨e,he,rfl⟩:=h
  exact he
 refine run_ex (L:=f27_L1 l m) (s0:=(0,[])) (fun e=>e=.inl ()) (fun s=>∃ k:Nat,k≤l.length∧s.1=(k:Int)∧∀ id,(mget s.2 id).getD false=decide (id ∈ (l.take k).map (·.fIdentity)))
  (fun s=>l.length - s.1.toNat) ⟨0,by omega,rfl,fun id=>by simp[mget]⟩ ?_
 ·rintro ⟨v,seen⟩ ⟨k,hk,hv,hseen⟩
  subst hv
  by_cases hlt:k<l.length
  ·left
   have hg:=List.getElem?_eq_getElem hlt
   have hr:=Rnd.mk' hg (by omega)
   have hs:=hseen l[k].fIdentity
   have hnot:l[k].fIdentity ∉ (l.take k).map (·.fIdentity):=by
    intro hm
    have hd:=g.dist
    rw[← List.take_append_drop k l,List.map_append,List.nodup_append] at hd
    exact hd.2.2 _ hm l[k].fIdentity (List.mem_map.2 ⟨l[k],by rw[List.drop_eq_getElem_cons hlt];exact List.mem_cons_self ..,rfl⟩) rfl
   rw[decide_eq_false hnot] at hs
   refine ⟨(((k + 1:Nat):Int),mset seen l[k].fIdentity true),?_,⟨k + 1,by omega,rfl,fun id=>?_⟩,by simp;omega⟩
   ·simp only[f27_L1]
    rw[if_pos hr.lt,hr.at',Option.bind_some,f47_good (g.good _ hr.mem),hr.nxt]
    simp only[Option.bind_some,ne_eq,not_true_eq_false,decide_false,Bool.false_eq_true,if_false,look?]
    rw[hs]
    rfl
   ·show (mget (mset seen l[k].fIdentity true) id).getD false=_
    rw[mget_mset,List.take_succ_eq_append_getElem hlt,List.map_append]
    by_cases h:id=l[k].fIdentity
    ·rw[if_pos h];simp[h]
    ·rw[if_neg h,hseen id];simp[h]
  ·right
   have:k=l.length:=by omega
   subst this
   exact ⟨_,by simp only[f27_L1];rw[if_neg (by simp)],rfl⟩
abbrev Recv:=ResponderDevice→ResponderDevice×Option ApiMessage
abbrev R11:=Bool×Int×List UInt8×Bool×Bool×Int×Int×Int×Int×Int×List UInt8
def r11(x:ResponderDevice×Option ApiMessage)(r:R11):Prop :=
 match r with
 | (ok,v2,v3,v4,v5,a,b,c,d,e,f)=>x.1.fAddress=v2∧x.1.fLabel=v3∧x.1.fMuted=v4∧x.1.fIdentify=v5∧x.2=if ok=true then some ⟨a,b,c,d,e,f⟩ else none
theorem f27_good{l:List ResponderDevice}(g:GoodL l){m:ApiMessage}(gm:f48 m=some 0)(R:Recv)
  (hR:∀ d ∈ l,(R d).1.fIdentity=d.fIdentity∧(R d).1.fFootprint=d.fFootprint∧(R d).1.fHours=d.fHours∧∀ out ans,∃ r,(f27_C3 m d out ans).run=some r∧r11 (R d) r) :
  f27 l m=some (l.map fun d=>(R d).1,l.filterMap fun d=>(R d).2,0):=by
 have hlen:=g.len
 have h64:¬ (64:Int)<((l.length:Nat):Int):=by omega
 unfold f27
 rw[if_neg (by simpa using h64),L1_good g m,Option.bind_some]
 simp only[gm,Option.bind_some,ne_eq,not_true_eq_false,decide_false,Bool.false_eq_true,if_false]
 have hrun:=run_walk (L:=f27_L2 l m) l (fun k (a:List ResponderDevice×List ApiMessage)=>((k:Int),a.1,a.2)) (fun _ a d=>.inl (a.1++[(R d).1],a.2++(R d).2.toList)) (fun a=>a) (fun k a=>a.1.length≤k∧a.2.length≤k) (fun k a d hd hI=>by
   have hr:=Rnd.mk' hd (by omega)
   have hk:=hr.klt
   obtain ⟨i1,i2,i3,hC⟩:=hR d hr.mem
   obtain ⟨r,hc,hx⟩:=hC a.1 a.2
   obtain ⟨ok,v2,v3,v4,v5,b1,b2,b3,b4,b5,b6⟩:=r
   obtain ⟨e2,e3,e4,e5,e6⟩:=hx
   have ed:ResponderDevice.mk d.fIdentity d.fFootprint v2 v3 d.fHours v4 v5=(R d).1:=by
    rw[← e2,← e3,← e4,← e5,← i1,← i2,← i3]
   refine ⟨?_,fun a' ha'=>?_⟩
   ·simp only[f27_L2]
    rw[if_pos hr.lt,hr.at',Option.bind_some,hc,Option.bind_some,hr.nxt,ed]
    simp only
    rw[app_some (by simp;omega) (by simp;omega),Option.bind_some,e6]
    cases ok
    ·simp[roundL]
    ·simp only[if_true]
     rw[app_some (by simp;omega) (by simp;omega)]
     rfl
   ·injection ha' with ha'
    subst ha'
    simp only[List.length_append,List.length_singleton]
    have:(R d).2.toList.length≤1:=by cases (R d).2<;>simp
    omega) (fun a _=>by simp[f27_L2]) ([],[]) ⟨by simp,by simp⟩
 have hfold:∀ (xs:List ResponderDevice) (a:List ResponderDevice×List ApiMessage),xs.foldl (fun a d=>(a.1++[(R d).1],a.2++(R d).2.toList)) a=(a.1++xs.map (fun d=>(R d).1),a.2++xs.filterMap fun d=>(R d).2):=fun xs=>by
  induction xs with
  | nil=>intro a;simp
  | cons x xs ih =>
   intro a
   rw[List.foldl_cons,ih]
   cases h:(R x).2<;>simp[h]
 rw[show ((0,[],[]):Int×List ResponderDevice×List ApiMessage)=(((0:Nat):Int),([]:List ResponderDevice),([]:List ApiMessage)) from rfl,hrun,walk_fold (fun a d=>(a.1++[(R d).1],a.2++(R d).2.toList)),hfold]
 simp
theorem J8_true{m:ApiMessage}{d:ResponderDevice}{out:List ResponderDevice}{ans:List ApiMessage}:(f27_J8 m d out ans).run true=(f27_J5 m d out ans).run ([],-1,d.fAddress,d.fLabel,decide (m.fKind=2),d.fIdentify):=by
 simp[f27_J8]
theorem J5_all{m:ApiMessage}{d:ResponderDevice}{out:List ResponderDevice}{ans:List ApiMessage}(ht:m.fTo=281474976710655)(x:List UInt8×Int×Int×List UInt8×Bool×Bool) :
  (f27_J5 m d out ans).run x=some (false,x.2.2.1,x.2.2.2.1,x.2.2.2.2.1,x.2.2.2.2.2,0,0,0,0,0,[]):=by
 obtain ⟨a,b,c,e,f,g⟩:=x
 simp[f27_J5,ht]
theorem J5_one{m:ApiMessage}{d:ResponderDevice}{out:List ResponderDevice}{ans:List ApiMessage}(gm:GoodM m)(h6:m.fKind≠6)(h7:m.fKind≠7)(hd:isId d.fIdentity=true)(ht:m.fTo≠281474976710655){a:List UInt8}(ha:a.length≤255)(c:Int)(e:List UInt8)(f g:Bool) :
  (f27_J5 m d out ans).run (a,-1,c,e,f,g)=some (true,c,e,f,g,m.fFrom,d.fIdentity,m.fSeq,6,m.fParam,a):=by
 simp[f27_J5,ht,f78_good gm h6 h7 hd ha,f27_J6,ansM]
theorem f27_unmute{l:List ResponderDevice}(g:GoodL l){frm seq:Int}(hf:isId frm=true)(hs:0≤seq∧seq≤255) :
  f27 l ⟨281474976710655,frm,seq,3,0,[]⟩=some (l.map fun d=>{ d with fMuted:=false },[],0):=by
 have gm:GoodM ⟨281474976710655,frm,seq,3,0,[]⟩:=⟨.inr rfl,hf,hs,by simp,by simp,by simp,fun h=>by simp at h,fun _=>rfl,fun _=>rfl,fun h=>by simp at h⟩
 rw[f27_good g (f48_good gm) (fun d=>({ d with fMuted:=false },none)) fun d hd=>⟨rfl,rfl,rfl,fun out ans=>⟨(false,d.fAddress,d.fLabel,false,d.fIdentify,0,0,0,0,0,[]),?_,rfl,rfl,rfl,rfl,rfl⟩⟩]
 ·simp
 ·have hne:¬ (281474976710655:Int)=d.fIdentity:=by
   have:=isId_iff.1 (g.good d hd).id
   omega
  simp[f27_C3,hne,f27_J4,J8_true,J5_all]
theorem f27_begin{l:List ResponderDevice}(g:GoodL l):f27 l ⟨281474976710655,1,0,4,0,[]⟩=some (l,[],0):=by
 have gm:GoodM ⟨281474976710655,1,0,4,0,[]⟩:=⟨.inr rfl,by decide,by simp,by simp,by simp,by simp,fun h=>by simp at h,fun h=>by simp at h,fun h=>by simp at h,fun h=>by simp at h⟩
 rw[f27_good g (f48_good gm) (fun d=>(d,none)) fun d hd=>⟨rfl,rfl,rfl,fun out ans=>⟨(false,d.fAddress,d.fLabel,d.fMuted,d.fIdentify,0,0,0,0,0,[]),?_,rfl,rfl,rfl,rfl,rfl⟩⟩]
 ·simp
 ·have hne:¬ (281474976710655:Int)=d.fIdentity:=by
   have:=isId_iff.1 (g.good d hd).id
   omega
  have h80:f80p d.fIdentity d.fFootprint d.fAddress d.fLabel d.fHours d.fMuted d.fIdentify 0=some ([],0):=by
   simp[f80p,f120,f120_C1]
  simp[f27_C3,hne,f27_J4,f27_J8,J5_all,h80]
theorem f27_mute{l:List ResponderDevice}(g:GoodL l){frm seq id:Int}(hf:isId frm=true)(hs:0≤seq∧seq≤255)(hi:isId id=true) :
  f27 l ⟨id,frm,seq,2,0,[]⟩=some (l.map fun d=>if d.fIdentity=id then { d with fMuted:=true } else d,l.filterMap fun d=>if d.fIdentity=id then some (ansM ⟨id,frm,seq,2,0,[]⟩ id []) else none,0):=by
 have gm:GoodM ⟨id,frm,seq,2,0,[]⟩:=⟨.inl hi,hf,hs,by simp,by simp,by simp,fun h=>by simp at h,fun _=>rfl,fun _=>rfl,fun h=>by simp at h⟩
 have hne:¬ id=(281474976710655:Int):=by
  have:=isId_iff.1 hi
  omega
 rw[f27_good g (f48_good gm) (fun d=>(if d.fIdentity=id then { d with fMuted:=true } else d,if d.fIdentity=id then some (ansM ⟨id,frm,seq,2,0,[]⟩ id []) else none)) fun d hd=>?_]
 by_cases h:d.fIdentity=id
 ·simp only[h,if_true]
  refine ⟨by first | trivial | simp[h],by first | trivial | simp[h],by first | trivial | simp[h],fun out ans=>⟨(true,d.fAddress,d.fLabel,true,d.fIdentify,frm,id,seq,6,0,[]),?_,by rw[← h],by rw[← h],by rw[← h],by rw[← h],rfl⟩⟩
  have:=J5_one (d:=d) (out:=out) (ans:=ans) gm (by simp) (by simp) (by rw[h];exact hi) hne (a:=[]) (by simp) d.fAddress d.fLabel true d.fIdentify
  simp only[h] at this
  simp[f27_C3,h,f27_J4,J8_true,this]
 ·simp only[h,if_false]
  have h':¬ id=d.fIdentity:=fun e=>h e.symm
  refine ⟨trivial,trivial,trivial,fun out ans=>⟨(false,d.fAddress,d.fLabel,d.fMuted,d.fIdentify,0,0,0,0,0,[]),?_,rfl,rfl,rfl,rfl,rfl⟩⟩
  simp[f27_C3,h',hne]
def hears(lo hi:Int)(d:ResponderDevice):Bool := !d.fMuted && (decide (lo≤d.fIdentity) && decide (d.fIdentity≤hi))
theorem f27_seek{l:List ResponderDevice}(g:GoodL l){frm seq lo hi:Int}(hf:isId frm=true)(hs:0≤seq∧seq≤255)(hl:isId lo=true)(hh:isId hi=true)(ho:lo≤hi) :
  f27 l (seekM frm seq lo hi)=some (l,(l.filter (hears lo hi)).map fun d=>ansM (seekM frm seq lo hi) d.fIdentity (be 6 d.fIdentity),0):=by
 have gm:=seekM_good hf hs hl hh ho
 have e77:=f77_seek hf hs hl hh ho
 rw[f27_good g (f48_good gm) (fun d=>(d,if hears lo hi d=true then some (ansM (seekM frm seq lo hi) d.fIdentity (be 6 d.fIdentity)) else none)) fun d hd=>⟨rfl,rfl,rfl,fun out ans=>?_⟩]
 ·congr 2
  ·simp
  ·congr 1
   induction l with
   | nil=>rfl
   | cons x xs ih =>
    have gx:GoodL xs:=⟨by have:=g.len;simp at this;omega,fun d hd=>g.good d (List.mem_cons_of_mem _ hd),by have:=g.dist;rw[List.map_cons,List.nodup_cons] at this;exact this.2⟩
    by_cases h:hears lo hi x=true
    ·rw[List.filterMap_cons,if_pos h,List.filter_cons,if_pos h,List.map_cons,ih gx]
    ·rw[List.filterMap_cons,if_neg h,List.filter_cons,if_neg h,ih gx]
 ·have hdi:=(g.good d hd).id
  have hdi':=isId_iff.1 hdi
  have hne:¬ (281474976710655:Int)=d.fIdentity:=by omega
  have hj:(f27_C3 (seekM frm seq lo hi) d out ans).run=(f27_J4 (seekM frm seq lo hi) d out ans).run ():=by
   simp[f27_C3,seekM,hne]
  rw[hj]
  have h79:f79 d.fIdentity 6=some (be 6 d.fIdentity):=f79_eq (k:=6) (by omega) (by omega)
  have h78:=f78_good gm (by simp[seekM]) (by simp[seekM]) hdi (data:=be 6 d.fIdentity) (by simp[be_len])
  simp only[f27_J4,show (seekM frm seq lo hi).fKind=1 from rfl,decide_true,if_true,e77,Option.bind_some,h79,h78,f27_J7]
  by_cases h1:d.fMuted=true
  ·exact ⟨_,by rw[if_pos h1],by simp[r11,hears,h1]⟩
  by_cases h2:d.fIdentity<lo
  ·have h2':¬ lo≤d.fIdentity:=by omega
   exact ⟨_,by rw[if_neg h1,if_pos (by simpa using h2)],by simp[r11,hears,h1,h2']⟩
  by_cases h3:hi<d.fIdentity
  ·have h3':¬ d.fIdentity≤hi:=by omega
   exact ⟨_,by rw[if_neg h1,if_neg (by simpa using h2),if_pos (by simpa using h3)],by simp[r11,hears,h1,h3']⟩
  ·have h2':lo≤d.fIdentity:=by omega
   have h3':d.fIdentity≤hi:=by omega
   exact ⟨_,by rw[if_neg h1,if_neg (by simpa using h2),if_neg (by simpa using h3)],by simp[r11,hears,h1,h2',h3',ansM]⟩
end Go.Proofs.YtgjfhplkochbpaaGreat
