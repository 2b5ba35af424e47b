import Derived.Test.YtgjfhplkochbpaaGreatAL2
namespace Go.Proofs.YtgjfhplkochbpaaGreat
open Go Go.Ab
set_option linter.unusedSimpArgs false
set_option linter.unusedVariables false
set_option maxHeartbeats 400000
def sumStep(n:Int)(b:UInt8):Int:=(n + b.toNat) % 18446744073709551616
def sumS(s:List UInt8):List UInt8:=be 2 (s.foldl sumStep 0)
theorem f108_eq{s:List UInt8}(hl:s.length≤9223372036854775807):f108 s=some (sumS s):=by
 unfold f108
 rw[run_fold (L:=f108_L1 s) s sumStep (fun n=>n) hl (fun k a x hr=>by
  simp only[f108_L1]
  rw[if_pos hr.lt,hr.at',hr.nxt,Option.bind_some]
  refine congrArg some (congrArg Ctl.next (Prod.ext ?_ rfl))
  have hb:x.toNat<256:=x.toNat_lt
  simp only[IntKind.wrap_u64,sumStep]
  omega) (fun a=>by simp[f108_L1])]
 have hn:∀ (s:List UInt8) (a:Int),0≤a→0≤s.foldl sumStep a:=fun s=>by
  induction s with
  | nil=>intro a h;exact h
  | cons b s ih=>intro a h;exact ih _ (by unfold sumStep;omega)
 rw[Option.bind_some,show (2:Int)=((2:Nat):Int) from rfl,f83_eq (hn s 0 (by omega)) (by omega)]
 rfl
theorem sumS_len(s:List UInt8):(sumS s).length=2:=be_len _ _
def bodyM(m:ApiMessage):List UInt8:=[204,1]++(be 6 m.fTo++(be 6 m.fFrom++(be 1 m.fSeq++(be 1 m.fKind++(be 2 m.fParam++(be 1 (m.fData.length:Int)++m.fData))))))
theorem bodyM_len(m:ApiMessage):(bodyM m).length=19 + m.fData.length:=by simp[bodyM,be_len];omega
def encM(m:ApiMessage):List UInt8:=bodyM m++sumS (bodyM m)
theorem encM_len(m:ApiMessage):(encM m).length=21 + m.fData.length:=by simp[encM,bodyM_len,sumS_len];omega
theorem u64w{x:Int}(h:0≤x∧x<18446744073709551616):IntKind.u64.wrap x=x:=by rw[IntKind.wrap_u64];omega
theorem f67_good{m:ApiMessage}(g:GoodM m):f67 m=some (encM m,0):=by
 have hto:0≤m.fTo:=by
  rcases g.to with h | h
  ·have:=isId_iff.1 h;omega
  ·omega
 have hfr:=isId_iff.1 g.from_
 have hs:=g.seq
 have hk:=g.kind
 have hp:=g.param
 have hl:=g.len
 have e1:f83 m.fTo 6=some (be 6 m.fTo):=f83_eq (k:=6) hto (by omega)
 have e2:f83 m.fFrom 6=some (be 6 m.fFrom):=f83_eq (k:=6) (by omega) (by omega)
 have e3:f83 (IntKind.u64.wrap m.fSeq) 1=some (be 1 m.fSeq):=by rw[u64w (by omega)];exact f83_eq (k:=1) (by omega) (by omega)
 have e4:f83 (IntKind.u64.wrap m.fKind) 1=some (be 1 m.fKind):=by rw[u64w (by omega)];exact f83_eq (k:=1) (by omega) (by omega)
 have e5:f83 (IntKind.u64.wrap m.fParam) 2=some (be 2 m.fParam):=by rw[u64w (by omega)];exact f83_eq (k:=2) (by omega) (by omega)
 have e6:f83 (IntKind.u64.wrap ((m.fData.length:Nat):Int)) 1=some (be 1 ((m.fData.length:Nat):Int)):=by rw[u64w (by omega)];exact f83_eq (k:=1) (by omega) (by omega)
 have hp:parts67 m=some [[204,1],be 6 m.fTo,be 6 m.fFrom,be 1 m.fSeq,be 1 m.fKind,be 2 m.fParam,be 1 ((m.fData.length:Nat):Int),m.fData]:=by
  simp only[parts67,f98,f99p,f100p,f101p,f102p,f103p,f104p,f105p,Option.bind_some,e1,e2,e3,e4,e5,e6]
 have hb:List.flatten [[204,1],be 6 m.fTo,be 6 m.fFrom,be 1 m.fSeq,be 1 m.fKind,be 2 m.fParam,be 1 ((m.fData.length:Nat):Int),m.fData]=bodyM m:=by
  simp[bodyM]
 unfold f67
 rw[f48_good g,Option.bind_some,if_pos rfl,hp,Option.bind_some,hb]
 have hbl:=bodyM_len m
 rw[if_pos (by omega),f108_eq (by omega),Option.bind_some,if_pos (by rw[sumS_len];omega)]
 rfl
def tk(s:List UInt8)(v k:Nat):List UInt8:=(s.take (v + k)).drop v
def z0:ApiMessage:=⟨0,0,0,0,0,[]⟩
theorem slcI{s:List UInt8}{a b:Int}(v k:Nat)(ha:a=v)(hb:b=(v + k:Nat))(h:v + k≤s.length):slc? s a b=some (tk s v k):=by
 subst ha hb
 rw[slc_some (by omega)]
 rfl
noncomputable def decS(s:List UInt8):Option (ApiMessage×Int) :=
 if s.length<21 then some (z0,20) else if tk s 0 2≠[204,1] then some (z0,3)
 else if s.length<21 + (num (tk s 18 1)).toNat then some (z0,20) else if 21 + (num (tk s 18 1)).toNat<s.length then some (z0,13)
 else if s.drop (19 + (num (tk s 18 1)).toNat)≠sumS (s.take (19 + (num (tk s 18 1)).toNat)) then some (z0,17)
 else f84 ⟨num (tk s 2 6),num (tk s 8 6),IntKind.i64.wrap (num (tk s 14 1)),IntKind.i64.wrap (num (tk s 15 1)),IntKind.i64.wrap (num (tk s 16 2)),tk s 19 (num (tk s 18 1)).toNat⟩
theorem tk_len{s:List UInt8}{v k:Nat}:(tk s v k).length≤k:=by simp[tk];omega
theorem f86_eq{s:List UInt8}(hl:s.length≤5000):f86 s=decS s:=by
 unfold f86 decS
 by_cases h21:s.length<21
 ·rw[if_pos (by simp;omega),if_pos h21];rfl
 rw[if_neg (by simp;omega),if_neg h21]
 have c1:(f86_C1 s).run=some (tk s 0 2,2):=by
  simp only[f86_C1]
  rw[slcI 0 2 (by decide) (by decide) (by omega)];rfl
 have c2:(f86_C2 s 2).run=some (tk s 2 6,8):=by
  simp only[f86_C2]
  rw[slcI 2 6 (by decide) (by decide) (by omega)];rfl
 have c3:(f86_C3 s 8).run=some (tk s 8 6,14):=by
  simp only[f86_C3]
  rw[slcI 8 6 (by decide) (by decide) (by omega)];rfl
 have c4:(f86_C4 s 14).run=some (tk s 14 1,15):=by
  simp only[f86_C4]
  rw[slcI 14 1 (by decide) (by decide) (by omega)];rfl
 have c5:(f86_C5 s 15).run=some (tk s 15 1,16):=by
  simp only[f86_C5]
  rw[slcI 15 1 (by decide) (by decide) (by omega)];rfl
 have c6:(f86_C6 s 16).run=some (tk s 16 2,18):=by
  simp only[f86_C6]
  rw[slcI 16 2 (by decide) (by decide) (by omega)];rfl
 have c7:∀ a b c d e,(f86_C7 s 18 a b c d e).run=some (tk s 18 1,19):=fun a b c d e=>by
  simp only[f86_C7]
  rw[slcI 18 1 (by decide) (by decide) (by omega)];rfl
 have hn:=num_nonneg (tk s 18 1)
 have hn2:=num_lt (s:=tk s 18 1) 1 tk_len (by omega)
 rw[c1,Option.bind_some]
 by_cases h2:tk s 0 2=[204,1]
 case neg=>simp[h2,z0]
 simp only[h2,beq_self_eq_true,Bool.not_true,Bool.false_eq_true,if_false,ne_eq,not_true_eq_false]
 rw[c2,Option.bind_some]
 simp only
 rw[f76_eq (by have:=tk_len (s:=s) (v:=2) (k:=6);omega),Option.bind_some,c3,Option.bind_some]
 simp only
 rw[f76_eq (by have:=tk_len (s:=s) (v:=8) (k:=6);omega),Option.bind_some,c4,Option.bind_some]
 simp only
 rw[f76_eq (by have:=tk_len (s:=s) (v:=14) (k:=1);omega),Option.bind_some,c5,Option.bind_some]
 simp only
 rw[f76_eq (by have:=tk_len (s:=s) (v:=15) (k:=1);omega),Option.bind_some,c6,Option.bind_some]
 simp only
 rw[f76_eq (by have:=tk_len (s:=s) (v:=16) (k:=2);omega),Option.bind_some,c7,Option.bind_some]
 simp only
 rw[f76_eq (by have:=tk_len (s:=s) (v:=18) (k:=1);omega),Option.bind_some]
 obtain ⟨n,hnn⟩:=Int.eq_ofNat_of_zero_le hn.1
 rw[hnn]
 rw[hnn] at hn2
 have hn3:n<256:=by
  have:((n:Nat):Int)<256:=by simpa using hn2
  omega
 rw[w64 (a:=((n:Nat):Int)) (by omega) (by omega),w64 (a:=21 + ((n:Nat):Int)) (by omega) (by omega),Int.toNat_natCast]
 by_cases h3:s.length<21 + n
 ·rw[if_pos (by simp;omega),if_pos h3];rfl
 rw[if_neg (by simp;omega),if_neg h3]
 by_cases h4:21 + n<s.length
 ·rw[if_pos (by simp;omega),if_pos h4];rfl
 rw[if_neg (by simp;omega),if_neg h4]
 have c8:∀ a b c d e,(f86_C8 s 19 ((n:Nat):Int) a b c d e).run=some (tk s 19 n,((19 + n:Nat):Int)):=fun a b c d e=>by
  simp only[f86_C8]
  have e0:IntKind.i64.wrap ((n:Nat):Int)=n:=w64 (by omega) (by omega)
  have e1:IntKind.i64.wrap (19 + ((n:Nat):Int))=((19 + n:Nat):Int):=by rw[w64 (by omega) (by omega)];omega
  have e2:IntKind.i64.wrap (((19 + n:Nat):Int) - (n:Int))=19:=by rw[w64 (by omega) (by omega)];omega
  rw[e0,e1,e2,slcI 19 n (by rfl) (by rfl) (by omega)];rfl
 rw[c8,Option.bind_some]
 simp only
 have e9:slc? s ((19 + n:Nat):Int) ((s.length:Nat):Int)=some (s.drop (19 + n)):=by
  rw[slc_some (by omega),Int.toNat_natCast,Int.toNat_natCast,List.take_length]
 have e10:slc? s 0 ((19 + n:Nat):Int)=some (s.take (19 + n)):=by
  rw[slc_some (by omega),Int.toNat_natCast];rfl
 rw[e9,Option.bind_some,e10,Option.bind_some,f108_eq (by simp;omega),Option.bind_some]
 by_cases h5:s.drop (19 + n)=sumS (s.take (19 + n))
 ·rw[if_neg (by simp[h5]),if_neg (by simp[h5])]
  generalize ApiMessage.mk _ _ _ _ _ _=q
  obtain ⟨e,he⟩:=f84_tot q
  rw[he];rfl
 ·rw[if_pos (by simp[h5]),if_pos h5];rfl
theorem f86_tot{s:List UInt8}(hl:s.length≤5000):∃ r,f86 s=some r∧r.1.fData.length≤5000:=by
 rw[f86_eq hl]
 unfold decS
 split
 ·exact ⟨_,rfl,by simp[z0]⟩
 split
 ·exact ⟨_,rfl,by simp[z0]⟩
 split
 ·exact ⟨_,rfl,by simp[z0]⟩
 split
 ·exact ⟨_,rfl,by simp[z0]⟩
 split
 ·exact ⟨_,rfl,by simp[z0]⟩
 ·generalize hq:ApiMessage.mk _ _ _ _ _ _=q
  have hd:q.fData.length≤5000:=by
   rw[← hq]
   simp only[tk,List.length_drop,List.length_take]
   omega
  obtain ⟨e,he⟩:=f84_tot q
  refine ⟨_,he,?_⟩
  dsimp only
  split
  ·exact hd
  ·simp
theorem be1_form(n:Int):∃ a,be 1 n=[a]:=⟨_,rfl⟩
theorem be2_form(n:Int):∃ a b,be 2 n=[a,b]:=⟨_,_,rfl⟩
theorem be6_form(n:Int):∃ a b c d e f,be 6 n=[a,b,c,d,e,f]:=⟨_,_,_,_,_,_,rfl⟩
theorem f86_enc{m:ApiMessage}(g:GoodM m):f86 (encM m)=some (m,0):=by
 have hto:0≤m.fTo∧m.fTo<281474976710656:=by
  rcases g.to with h | h
  ·have:=isId_iff.1 h;omega
  ·omega
 have hfr:=isId_iff.1 g.from_
 have hs:=g.seq
 have hk:=g.kind
 have hp:=g.param
 have hl:=g.len
 rw[f86_eq (by rw[encM_len];omega)]
 have n1:=num_be6 (n:=m.fTo) hto
 have n2:=num_be6 (n:=m.fFrom) (by omega)
 have n3:=num_be1 (n:=m.fSeq) (by omega)
 have n4:=num_be1 (n:=m.fKind) (by omega)
 have n5:=num_be2 (n:=m.fParam) (by omega)
 have n6:=num_be1 (n:=((m.fData.length:Nat):Int)) (by omega)
 have t19:(encM m).take (19 + m.fData.length)=bodyM m:=by
  unfold encM
  rw[List.take_append_of_le_length (by rw[bodyM_len];omega),List.take_of_length_le (by rw[bodyM_len];omega)]
 have d19:(encM m).drop (19 + m.fData.length)=sumS (bodyM m):=by
  unfold encM
  rw[List.drop_append_of_le_length (by rw[bodyM_len];omega),List.drop_of_length_le (by rw[bodyM_len];omega)]
  rfl
 have hlen:=encM_len m
 have hT:tk (encM m) 0 2=[204,1]∧tk (encM m) 2 6=be 6 m.fTo∧tk (encM m) 8 6=be 6 m.fFrom∧tk (encM m) 14 1=be 1 m.fSeq∧tk (encM m) 15 1=be 1 m.fKind∧tk (encM m) 16 2=be 2 m.fParam∧tk (encM m) 18 1=be 1 ((m.fData.length:Nat):Int)∧tk (encM m) 19 m.fData.length=m.fData:=by
  unfold encM
  generalize sumS (bodyM m)=z
  unfold bodyM
  obtain ⟨a0,a1,a2,a3,a4,a5,ha⟩:=be6_form m.fTo
  obtain ⟨b0,b1,b2,b3,b4,b5,hb⟩:=be6_form m.fFrom
  obtain ⟨c0,hc⟩:=be1_form m.fSeq
  obtain ⟨d0,hd⟩:=be1_form m.fKind
  obtain ⟨p0,p1,hp⟩:=be2_form m.fParam
  obtain ⟨l0,hl⟩:=be1_form ((m.fData.length:Nat):Int)
  rw[ha,hb,hc,hd,hp,hl]
  refine ⟨rfl,rfl,rfl,rfl,rfl,rfl,rfl,?_⟩
  simp only[tk,List.cons_append,List.nil_append]
  rw[Nat.add_comm 19 m.fData.length]
  simp only[List.take_succ_cons,List.drop_succ_cons,List.drop_zero]
  simp
 obtain ⟨q0,q1,q2,q3,q4,q5,q6,q7⟩:=hT
 unfold decS
 rw[if_neg (by omega),q0,if_neg (by simp),q6,n6,Int.toNat_natCast,if_neg (by omega),if_neg (by omega),t19,d19,if_neg (by simp),q1,q2,q3,q4,q5,q7,n1,n2,n3,n4,n5,w64 (by omega) (by omega),w64 (by omega) (by omega),w64 (by omega) (by omega)]
 exact f84_good g
theorem or8b(b:UInt8):IntKind.u8.wrap ((BitVec.ofInt (IntKind.bits .u8) 0 ||| BitVec.ofInt (IntKind.bits .u8) (b.toNat:Int)).toNat:Int)=(b.toNat:Int):=by
 have h:∀ n:Fin 256,IntKind.u8.wrap ((BitVec.ofInt (IntKind.bits .u8) 0 ||| BitVec.ofInt (IntKind.bits .u8) ((n.1:Nat):Int)).toNat:Int)=((n.1:Nat):Int):=by decide +kernel
 exact h ⟨b.toNat,b.toNat_lt⟩
theorem L2_one{x:List UInt8}(hx:x.length≤4096)(v:Int)(l:List (List UInt8)):(f85_L2 x v l).run (0,[])=some (x.map fun b=>((b.toNat:Nat):Int)):=by
 have:=run_count (L:=f85_L2 x v l) (e:=x.map fun b=>((b.toNat:Nat):Int)) (fun i=>((i:Int),(x.take i).map fun b=>((b.toNat:Nat):Int))) x.length (by
  simp[f85_L2]) 0 (by omega) (fun i _ hi=>by
  have hg:=List.getElem?_eq_getElem hi
  have hr:=Rnd.mk' hg (by omega)
  have hl:((x.take i).map fun b=>((b.toNat:Nat):Int)).length=i:=by simp;omega
  have hat:at? (((x.take i).map fun b=>((b.toNat:Nat):Int))++[0]) (i:Int)=some 0:=at_nat (by
   rw[List.getElem?_append_right (by omega),hl];simp)
  simp only[f85_L2]
  rw[if_pos hr.lt,hl,if_pos (by simp),app_some (by simp;omega) (by simp;omega),Option.bind_some,hat,Option.bind_some,hr.at',Option.bind_some,Option.bind_some,hr.nxt,or8b,Int.toNat_natCast]
  refine congrArg some (congrArg Ctl.next (Prod.ext rfl ?_))
  simp only
  rw[List.set_append_right _ _ (by omega),hl,Nat.sub_self]
  rw[List.take_succ_eq_append_getElem hi,List.map_append]
  rfl)
 simpa using this
theorem f85_one{x:List UInt8}(hx:x.length≤4096):f85 [x]=some (x,0):=by
 have h4:¬ (4096:Int)<((x.length:Nat):Int):=by omega
 have hrun:=run_count (L:=f85_L1 [x]) (e:=.inl (x.map fun b=>((b.toNat:Nat):Int))) (fun i=>((i:Int),if i=0 then [] else x.map fun b=>((b.toNat:Nat):Int))) 1 (by
  simp[f85_L1]) 0 (by omega) (fun i _ hi=>by
  have:i=0:=by omega
  subst this
  have hat:at? [x] ((0:Nat):Int)=some x:=rfl
  simp only[f85_L1]
  rw[if_pos (by simp),hat,Option.bind_some,if_neg (by simpa using h4)]
  simp only[if_true]
  rw[L2_one hx]
  rfl)
 have e1:(f85_L1 [x]).run (0,[])=some (.inl (x.map fun b=>((b.toNat:Nat):Int))):=hrun
 unfold f85
 rw[e1]
 simp only[List.length_singleton]
 have:(x.map fun b=>((b.toNat:Nat):Int)).map b8=x:=by
  rw[List.map_map]
  conv=>rhs;rw[← List.map_id x]
  apply List.map_congr_left
  intro b _
  show b8 ((b.toNat:Nat):Int)=b
  simp[b8]
 simp[this]
theorem L2_tot{x:List UInt8}(hx:x.length≤4096)(v:Int)(l:List (List UInt8)){out:List Int}(ho:out.length≤4096):∃ r,(f85_L2 x v l).run (0,out)=some r∧r.length≤4096:=by
 refine run_ex (L:=f85_L2 x v l) (fun r=>r.length≤4096) (fun s=>∃ k:Nat,s.1=(k:Int)∧k≤x.length∧k≤s.2.length∧s.2.length≤4096) (fun s=>x.length - s.1.toNat) ⟨0,rfl,by omega,by omega,ho⟩ ?_
 rintro ⟨i,o⟩ ⟨k,hi,hk,hko,ho⟩
 simp only at hi hko ho
 subst hi
 by_cases hlt:k<x.length
 ·left
  have hg:=List.getElem?_eq_getElem hlt
  have hr:=Rnd.mk' hg (by omega)
  by_cases he:k=o.length
  ·have hat:at? (o++[0]) (k:Int)=some 0:=at_nat (by rw[List.getElem?_append_right (by omega)];simp[he])
   refine ⟨_,by
    simp only[f85_L2]
    rw[if_pos hr.lt,if_pos (by simp[he]),app_some (by simp;omega) (by simp;omega),Option.bind_some,hat,Option.bind_some,hr.at',Option.bind_some,Option.bind_some,hr.nxt],⟨k + 1,rfl,by omega,by simp;omega,by simp;omega⟩,by simp;omega⟩
  ·have hko':k<o.length:=by omega
   have hat:at? o (k:Int)=some o[k]:=at_nat (List.getElem?_eq_getElem hko')
   refine ⟨_,by
    simp only[f85_L2]
    rw[if_pos hr.lt,if_neg (by simp;omega),hat,Option.bind_some,hr.at',Option.bind_some,Option.bind_some,hr.nxt],⟨k + 1,rfl,by omega,by simp;omega,by simp;omega⟩,by simp;omega⟩
 ·right
  have:k=x.length:=by omega
  subst this
  exact ⟨o,by simp[f85_L2],ho⟩
theorem f85_tot{l:List (List UInt8)}(hl:l.length≤64)(hx:∀ x ∈ l,x.length≤4096):∃ r,f85 l=some (r,0)∧r.length≤4096:=by
 have hrun:∃ r,(f85_L1 l).run (0,[])=some r∧∃ o:List Int,r=.inl o∧o.length≤4096:=by
  refine run_ex (L:=f85_L1 l) (fun r=>∃ o:List Int,r=.inl o∧o.length≤4096) (fun s=>∃ k:Nat,s.1=(k:Int)∧k≤l.length∧s.2.length≤4096) (fun s=>l.length - s.1.toNat) ⟨0,rfl,by omega,by simp⟩ ?_
  rintro ⟨i,o⟩ ⟨k,hi,hk,ho⟩
  simp only at hi ho
  subst hi
  by_cases hlt:k<l.length
  ·left
   have hg:=List.getElem?_eq_getElem hlt
   have hr:=Rnd.mk' hg (by omega)
   have h4:=hx _ hr.mem
   obtain ⟨r,h1,h2⟩:=L2_tot h4 (k:Int) l ho
   exact ⟨(((k + 1:Nat):Int),r),by
    simp only[f85_L1]
    rw[if_pos hr.lt,hr.at',Option.bind_some,if_neg (by simp;omega),h1,Option.bind_some,hr.nxt],⟨k + 1,rfl,by omega,h2⟩,by simp;omega⟩
  ·right
   have:k=l.length:=by omega
   subst this
   exact ⟨.inl o,by simp[f85_L1],o,rfl,ho⟩
 obtain ⟨r,h1,o,rfl,h2⟩:=hrun
 have h64:¬ (64:Int)<((l.length:Nat):Int):=by omega
 exact ⟨o.map b8,by unfold f85;rw[if_neg (by simpa using h64),h1];rfl,by simpa using h2⟩
theorem f53L1_eq{m:ApiMessage}{ans:List ApiMessage}(hl:ans.length≤64)(hg:∀ a ∈ ans,GoodM a):(f53_L1 ans m).run (0,[])=some (ans.map encM):=by
 rw[run_collect (L:=f53_L1 ans m) (xs:=ans) (fun a=>[encM a]) (fun k acc x hx hk=>by
  have hr:=Rnd.mk' hx (by omega)
  have:=hr.klt
  simp only[f53_L1]
  rw[if_pos hr.lt,hr.at',Option.bind_some,f67_good (hg _ hr.mem),Option.bind_some,app_some (by simp;omega) (by simp;omega),Option.bind_some,hr.nxt]) (fun x=>by simp) (fun acc=>by simp[f53_L1])]
 rw[← List.map_eq_flatMap]
theorem f53_none(m:ApiMessage):f53 m []=some (0,0):=rfl
theorem f53_many{frm seq lo hi:Int}(hf:isId frm=true)(hs:0≤seq∧seq≤255)(hl:isId lo=true)(hh:isId hi=true)(ho:lo≤hi){ans:List ApiMessage}(hn:ans≠[])(h64:ans.length≤64)(hg:∀ a ∈ ans,GoodM a) :
  ∃ u,f53 (seekM frm seq lo hi) ans=some u∧(u=(2,0)∨(u.1=1∧lo≤u.2∧u.2≤hi)):=by
 have h0:¬ ((ans.length:Nat):Int)=0:=by
  have:=List.length_pos_iff.2 hn
  omega
 obtain ⟨w,h85,hw⟩:=f85_tot (l:=ans.map encM) (by simpa using h64) (fun x hx=>by
  obtain ⟨a,ha,rfl⟩:=List.mem_map.1 hx
  have:=(hg a ha).len
  rw[encM_len];omega)
 obtain ⟨r,h86,hd⟩:=f86_tot (s:=w) (by omega)
 obtain ⟨b,h33⟩:=f33_tot (seekM frm seq lo hi) r.1
 have h77:=f77_seek hf hs hl hh ho
 have hL2:=f53L2_eq (r:=r) (m:=seekM frm seq lo hi) (by omega)
 unfold f53
 rw[if_neg (by simpa using h0),f53L1_eq h64 hg,Option.bind_some,h85,Option.bind_some]
 simp only
 rw[h86,Option.bind_some]
 by_cases c1:r.2≠0
 ·exact ⟨_,by rw[if_pos (by simpa using c1)],.inl rfl⟩
 rw[if_neg (by simpa using c1),h33,Option.bind_some]
 by_cases c2:(!b)=true
 ·exact ⟨_,by rw[if_pos c2],.inl rfl⟩
 rw[if_neg c2]
 by_cases c3:r.1.fKind≠6
 ·exact ⟨_,by rw[if_pos (by simpa using c3)],.inl rfl⟩
 rw[if_neg (by simpa using c3)]
 by_cases c4:((r.1.fData.length:Nat):Int)≠6
 ·exact ⟨_,by rw[if_pos (by simpa using c4)],.inl rfl⟩
 rw[if_neg (by simpa using c4),hL2,Option.bind_some,h77,Option.bind_some]
 by_cases c5:num r.1.fData≠r.1.fFrom
 ·exact ⟨_,by rw[if_pos (by simpa using c5)],.inl rfl⟩
 rw[if_neg (by simpa using c5)]
 by_cases c6:num r.1.fData<lo
 ·exact ⟨_,by rw[if_pos (by simpa using c6)],.inl rfl⟩
 rw[if_neg (by simpa using c6)]
 by_cases c7:hi<num r.1.fData
 ·exact ⟨_,by rw[if_pos (by simpa using c7)],.inl rfl⟩
 rw[if_neg (by simpa using c7)]
 exact ⟨_,rfl,.inr ⟨rfl,by simp only;omega,by simp only;omega⟩⟩
theorem f53_one{frm seq lo hi:Int}(hf:isId frm=true)(hs:0≤seq∧seq≤255)(hl:isId lo=true)(hh:isId hi=true)(ho:lo≤hi){id:Int}(hi':isId id=true)(h1:lo≤id)(h2:id≤hi) :
  f53 (seekM frm seq lo hi) [ansM (seekM frm seq lo hi) id (be 6 id)]=some (1,id):=by
 have gm:=seekM_good hf hs hl hh ho
 have ga:=ansM_good gm hi' (data:=be 6 id) (by simp[be_len])
 have hI:=isId_iff.1 hi'
 have h77:=f77_seek hf hs hl hh ho
 have h33:=f33_ans gm (by simp[seekM]) (by simp[seekM]) hi' (data:=be 6 id) (by simp[be_len]) (.inl rfl)
 have h86:=f86_enc ga
 have h85:=f85_one (x:=encM (ansM (seekM frm seq lo hi) id (be 6 id))) (by rw[encM_len];simp[ansM,be_len])
 have hL1:=f53L1_eq (m:=seekM frm seq lo hi) (ans:=[ansM (seekM frm seq lo hi) id (be 6 id)]) (by simp) (by simpa using ga)
 have hnum:=num_be6 (n:=id) (by omega)
 have hL2:=f53L2_eq (r:=(ansM (seekM frm seq lo hi) id (be 6 id),0)) (m:=seekM frm seq lo hi) (by simp[ansM,be_len])
 have hD:(ansM (seekM frm seq lo hi) id (be 6 id)).fData=be 6 id:=rfl
 have hF:(ansM (seekM frm seq lo hi) id (be 6 id)).fFrom=id:=rfl
 have hK:(ansM (seekM frm seq lo hi) id (be 6 id)).fKind=6:=rfl
 simp only[hD,hnum] at hL2
 unfold f53
 rw[if_neg (by simp),hL1,Option.bind_some,List.map_singleton,h85,Option.bind_some]
 simp only
 rw[h86,Option.bind_some]
 simp only
 rw[if_neg (by simp),h33,Option.bind_some,if_neg (by simp),hK,if_neg (by simp),hD,if_neg (by simp[be_len]),hL2,Option.bind_some,h77,Option.bind_some,hF,if_neg (by simp)]
 have c6:¬ id<lo:=by omega
 have c7:¬ hi<id:=by omega
 simp[c6,c7]
end Go.Proofs.YtgjfhplkochbpaaGreat
