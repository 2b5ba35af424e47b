import Derived.Test.YtgjfhplkochbpaaGreatAK1
import Derived.Test.YtgjfhplkochbpaaGreatAV1
namespace Go.Proofs.YtgjfhplkochbpaaGreat
open Go Go.Ab
set_option linter.unusedSimpArgs false
set_option linter.unusedVariables false
set_option maxHeartbeats 400000
theorem f61_eq(x y:Int):f61 x y=some (decide (x<y)):=by simp[f61,f92]
set_option maxRecDepth 20000 in
theorem bitsLen{x:Int}(h:0≤x∧x≤255):∃ r,f38 x=some r:=by
 have h1:¬ 4294967296≤x:=by omega
 have h2:¬ 65536≤x:=by omega
 have h3:¬ 256≤x:=by omega
 have h4:IntKind.u8.wrap x=x:=by rw[IntKind.wrap_u8];omega
 obtain ⟨n,rfl⟩:=Int.eq_ofNat_of_zero_le h.1
 have e0:f65 (n:Int)=f65_J1.run ((n:Int),0):=if_neg (by simpa using h1)
 have e1:f65_J1.run ((n:Int),0)=f65_J2.run ((n:Int),0):=if_neg (by simpa using h2)
 have e2:∃ T:List UInt8,T.length=256∧f65_J2.run ((n:Int),0)=(at? T (IntKind.u8.wrap (n:Int))).bind fun b=>some (IntKind.i64.wrap (0 + IntKind.i64.wrap (b.toNat:Int))):=⟨_,by rfl,if_neg (by simpa using h3)⟩
 obtain ⟨T,hT,e2⟩:=e2
 have hat:at? T (n:Int)=some (T[n]'(by omega)):=at_nat (List.getElem?_eq_getElem (by omega))
 rw[h4,hat,Option.bind_some] at e2
 unfold f38
 rw[e0,e1,e2]
 exact ⟨_,rfl⟩
noncomputable def insB(p:Int×List Int):Option (Ctl (Int×List Int) (List Int)) :=
 if decide (0<p.1)=true then (at? p.2 p.1).bind fun x=>(at? p.2 (IntKind.i64.wrap (p.1 - 1))).bind fun y=>(f61 x y).bind fun r=>if r=true then (at? p.2 (IntKind.i64.wrap (p.1 - 1))).bind fun a=>(at? p.2 p.1).bind fun b=>(at? p.2 p.1).bind fun _=>(at? (p.2.set p.1.toNat a) (IntKind.i64.wrap (p.1 - 1))).bind fun _=>some (.next (IntKind.i64.wrap (p.1 - 1),(p.2.set p.1.toNat a).set (IntKind.i64.wrap (p.1 - 1)).toNat b)) else some (.brk p.2) else some (.brk p.2)
def Up(v:List Int)(i:Nat):Prop:=∀ a b (ha:a<v.length) (hb:b<v.length),a<b→b<i→v[a]≤v[b]
structure Mid (v0:List Int) (i j:Nat) (v:List Int):Prop where
 perm:v.Perm v0
 ji:j≤i
 il:i<v.length
 s1:∀ a b (ha:a<v.length) (hb:b<v.length),a<b→b≤i→a≠j→b≠j→v[a]≤v[b]
 s2:∀ b (hj:j<v.length) (hb:b<v.length),j<b→b≤i→v[j]≤v[b]
theorem inner_ok{L:Lp (Int×List Int) (List Int)}(hb:∀ j v,L.body (j,v)=insB (j,v)){v0 v:List Int}{i:Nat}(hi:i<v.length)(hm:i≤1000)(hp:v.Perm v0)(hu:Up v i) :
  ∃ r,L.run ((i:Int),v)=some r∧r.Perm v0∧Up r (i + 1):=by
 have key:=run_ex (L:=L) (s0:=((i:Int),v)) (fun r=>r.Perm v0∧Up r (i + 1)) (fun s=>∃ j:Nat,s.1=(j:Int)∧Mid v0 i j s.2) (fun s=>s.1.toNat)
  ⟨i,rfl,hp,Nat.le_refl _,hi,fun a b ha hb h1 h2 h3 h4=>hu a b ha hb h1 (by omega),fun b hj hb h1 h2=>by omega⟩ ?_
 ·exact key
 ·rintro ⟨jj,w⟩ ⟨j,rfl,hM⟩
  simp only at hM
  have hji:=hM.ji
  have hil:=hM.il
  rw[hb]
  unfold insB
  simp only
  by_cases h0:0<j
  ·have hj1:IntKind.i64.wrap ((j:Int) - 1)=((j - 1:Nat):Int):=by rw[w64 (by omega) (by omega)];omega
   have a1:at? w (j:Int)=some (w[j]'(by omega)):=at_nat (List.getElem?_eq_getElem (by omega))
   have a2:at? w ((j - 1:Nat):Int)=some (w[j - 1]'(by omega)):=at_nat (List.getElem?_eq_getElem (by omega))
   rw[if_pos (by simpa using h0),hj1,a1,Option.bind_some,a2,Option.bind_some,f61_eq,Option.bind_some]
   by_cases hlt:w[j]'(by omega)<w[j - 1]'(by omega)
   ·left
    rw[if_pos (by simpa using hlt),Option.bind_some,Option.bind_some,Option.bind_some]
    have a3:at? (w.set j (w[j - 1]'(by omega))) ((j - 1:Nat):Int)=some (w[j - 1]'(by omega)):=at_nat (by
     rw[List.getElem?_set_ne (by omega)];exact List.getElem?_eq_getElem (by omega))
    simp only[Int.toNat_natCast]
    rw[a3,Option.bind_some]
    refine ⟨_,rfl,⟨j - 1,rfl,?_⟩,by simp;omega⟩
    have hlen:((w.set j (w[j - 1]'(by omega))).set (j - 1) (w[j]'(by omega))).length=w.length:=by simp
    have hg:∀ a (ha:a<w.length),((w.set j (w[j - 1]'(by omega))).set (j - 1) (w[j]'(by omega)))[a]'(by rw[hlen];exact ha)=if a=j - 1 then w[j]'(by omega) else if a=j then w[j - 1]'(by omega) else w[a]:=fun a ha=>by
     rw[List.getElem_set]
     by_cases e1:j - 1=a
     ·rw[if_pos e1,if_pos e1.symm]
     ·rw[if_neg e1,if_neg (fun e=>e1 e.symm),List.getElem_set]
      by_cases e2:j=a
      ·rw[if_pos e2,if_pos e2.symm]
      ·rw[if_neg e2,if_neg (fun e=>e2 e.symm)]
    refine ⟨(List.set_set_perm (by omega) (by omega)).trans hM.perm,by omega,by simp;omega,fun a b ha hb' h1 h2 h3 h4=>?_,fun b hj' hb' h1 h2=>?_⟩
    ·simp only[hlen] at ha hb'
     rw[hg a ha,hg b hb',if_neg h3,if_neg h4]
     by_cases e1:a=j
     ·rw[if_pos e1,if_neg (by omega)]
      exact hM.s1 (j - 1) b (by omega) hb' (by omega) h2 (by omega) (by omega)
     ·rw[if_neg e1]
      by_cases e2:b=j
      ·rw[if_pos e2]
       exact hM.s1 a (j - 1) ha (by omega) (by omega) (by omega) e1 (by omega)
      ·rw[if_neg e2]
       exact hM.s1 a b ha hb' h1 h2 e1 e2
    ·simp only[hlen] at hj' hb'
     rw[hg (j - 1) hj',hg b hb',if_pos rfl,if_neg (by omega)]
     by_cases e2:b=j
     ·rw[if_pos e2]
      omega
     ·rw[if_neg e2]
      exact hM.s2 b (by omega) hb' (by omega) h2
   ·right
    rw[if_neg (by simpa using hlt)]
    refine ⟨w,rfl,hM.perm,fun a b ha hb' h1 h2=>?_⟩
    by_cases e1:a=j
    ·subst e1
     exact hM.s2 b ha hb' h1 (by omega)
    ·by_cases e2:b=j
     ·subst e2
      by_cases e3:a=b - 1
      ·subst e3;omega
      ·have:=hM.s1 a (b - 1) ha (by omega) (by omega) (by omega) e1 (by omega)
       omega
     ·exact hM.s1 a b ha hb' h1 (by omega) e1 e2
  ·right
   have hj0:j=0:=by omega
   subst hj0
   rw[if_neg (by simp)]
   refine ⟨w,rfl,hM.perm,fun a b ha hb' h1 h2=>?_⟩
   by_cases e1:a=0
   ·subst e1
    exact hM.s2 b ha hb' h1 (by omega)
   ·exact hM.s1 a b ha hb' h1 (by omega) e1 (by omega)
theorem outer_ok{L:Lp (Int×List Int) (List Int)}{v0:List Int}(I:Int→Lp (Int×List Int) (List Int))(hI:∀ i j v,(I i).body (j,v)=insB (j,v))
  (hb:∀ i v,L.body (i,v)=if decide (i<((v0.length:Nat):Int))=true then ((I i).run (i,v)).bind fun w=>some (.next (IntKind.i64.wrap (i + 1),w)) else some (.brk v)) (hl:v0.length≤1000) :
  ∃ r,L.run (IntKind.i64.wrap (0 + 1),v0)=some r∧r.Perm v0∧Up r v0.length:=by
 refine run_ex (L:=L) (fun r=>r.Perm v0∧Up r v0.length) (fun s=>∃ i:Nat,s.1=(i:Int)∧s.2.Perm v0∧Up s.2 i∧(i≤v0.length∨i=1)) (fun s=>v0.length - s.1.toNat) ⟨1,rfl,List.Perm.refl _,fun a b ha hb h1 h2=>by omega,.inr rfl⟩ ?_
 rintro ⟨ii,v⟩ ⟨i,rfl,hp,hu,hi⟩
 simp only at hp hu
 rw[hb]
 by_cases hlt:i<v0.length
 ·left
  rw[if_pos (by simpa using hlt)]
  obtain ⟨r,h1,h2,h3⟩:=inner_ok (hI i) (i:=i) (v:=v) (by rw[hp.length_eq];exact hlt) (by omega) hp hu
  rw[h1,Option.bind_some,w64_succ (by omega)]
  exact ⟨_,rfl,⟨i + 1,rfl,h2,h3,by omega⟩,by simp;omega⟩
 ·right
  rw[if_neg (by simpa using hlt)]
  exact ⟨v,rfl,hp,fun a b ha hb h1 h2=>hu a b ha hb h1 (by omega)⟩
theorem up_pairwise{v:List Int}(h:Up v v.length):v.Pairwise (· ≤ ·):=List.pairwise_iff_getElem.2 fun i j hi hj hij=>h i j hi hj hij hj
theorem f8_eq{l:List ResponderDevice}(hl:l.length≤8):∃ r,f8 l=some r∧r.Perm (l.map (·.fIdentity))∧r.Pairwise (· ≤ ·):=by
 have h1:(f8_L1 l).run (0,[])=some (l.map (·.fIdentity)):=by
  rw[run_collect (L:=f8_L1 l) (xs:=l) (fun d=>[d.fIdentity]) (fun k acc x hx hk=>by
   have hr:=Rnd.mk' hx (by omega)
   have:=hr.klt
   simp only[f8_L1]
   rw[if_pos hr.lt,hr.at',Option.bind_some,app_some (by simp;omega) (by simp;omega),Option.bind_some,hr.nxt]) (fun x=>by simp) (fun acc=>by simp[f8_L1])]
  rw[← List.map_eq_flatMap]
 have ho:(l.map (·.fIdentity)).length≤8:=by simpa using hl
 generalize l.map (·.fIdentity)=o at h1 ho ⊢
 obtain ⟨r,h2,h3,h4⟩:=outer_ok (L:=f8_L6 o) (v0:=o) (fun i=>f8_L7 i o) (fun i j v=>rfl) (fun i v=>rfl) (by omega)
 have hrl:=h3.length_eq
 have h5:(f8_C5 o).run=some r:=by simp only[f8_C5,h2,Option.bind_some]
 have hw:IntKind.i64.wrap (((o.length:Nat):Int) - 0)≤12:=by rw[w64 (by omega) (by omega)];omega
 have h6:∀ q,(f8_L4 o q).run ()=some r:=fun q=>iter_brk (by simp only[f8_L4];rw[if_pos (by simpa using hw),h5,Option.bind_some,must_some hrl];rfl)
 have h7:∀ q,(f8_C3 o q).run=some r:=fun q=>by simp only[f8_C3,h6,Option.bind_some]
 obtain ⟨q,h8⟩:=bitsLen (x:=((o.length:Nat):Int)) (by omega)
 have h9:(f8_C2 o).run=some r:=by
  simp only[f8_C2]
  rw[u64w (by omega),h8,Option.bind_some,h7,Option.bind_some,must_some hrl]
  rfl
 refine ⟨r,?_,h3,up_pairwise (by rw[hrl];exact h4)⟩
 unfold f8
 rw[h1,Option.bind_some,h9,Option.bind_some,must_some hrl]
 rfl
theorem f10_eq{o:List Int}(ho:o.length≤8):∃ r,f10_21 o=some r∧r.Perm o∧r.Pairwise (· ≤ ·):=by
 obtain ⟨r,h2,h3,h4⟩:=outer_ok (L:=f10_21_L5 o) (v0:=o) (fun i=>f10_21_L6 i o) (fun i j v=>rfl) (fun i v=>rfl) (by omega)
 have hrl:=h3.length_eq
 have h5:(f10_21_C4 o).run=some r:=by simp only[f10_21_C4,h2,Option.bind_some]
 have hw:IntKind.i64.wrap (((o.length:Nat):Int) - 0)≤12:=by rw[w64 (by omega) (by omega)];omega
 have h6:∀ q,(f10_21_L3 o q).run ()=some r:=fun q=>iter_brk (by simp only[f10_21_L3];rw[if_pos (by simpa using hw),h5,Option.bind_some,must_some hrl];rfl)
 have h7:∀ q,(f10_21_C2 o q).run=some r:=fun q=>by simp only[f10_21_C2,h6,Option.bind_some]
 obtain ⟨q,h8⟩:=bitsLen (x:=((o.length:Nat):Int)) (by omega)
 have h9:(f10_21_C1 o).run=some r:=by
  simp only[f10_21_C1]
  rw[u64w (by omega),h8,Option.bind_some,h7,Option.bind_some,must_some hrl]
  rfl
 refine ⟨r,?_,h3,up_pairwise (by rw[hrl];exact h4)⟩
 unfold f10_21 f20_21
 rw[if_pos (by omega),Option.bind_some,h9,Option.bind_some,must_some hrl]
 rfl
theorem f9_same{s:List Int}(hl:s.length≤1000):f9 s s=some true:=by
 have:(f9_L1 s s).run 0=some (.inl ()):=by
  rw[run_any (L:=f9_L1 s s) (xs:=s) (fun _=>false) (by omega) (fun k x hr=>by
   simp only[f9_L1]
   rw[if_pos hr.lt,hr.at',Option.bind_some,Option.bind_some,hr.nxt]
   simp) (by simp[f9_L1])]
  simp
 simp[f9,this]
def toRef(d:ResponderDevice):Ref47Device:=⟨d.fIdentity,d.fFootprint,d.fAddress,d.fLabel,d.fHours,d.fMuted,d.fIdentify⟩
theorem ref41{s:List UInt8}:∃ e,f41 s=some e∧(e=0→s.length≤32∧s.all plainB=true):=by
 unfold f41
 by_cases h:s.length≤32
 ·have h1:¬ (32:Int)<((s.length:Nat):Int):=by omega
  rw[if_neg (by simpa using h1),run_any (L:=f41_L1 s) (xs:=s) (fun b => !plainB b) (by omega) (fun k x hr=>by
   simp only[f41_L1]
   rw[if_pos hr.lt,hr.at',Option.bind_some,Option.bind_some,hr.nxt]
   by_cases c1:((x.toNat:Nat):Int)<32
   ·have:¬ 32≤x.toNat:=by omega
    rw[if_pos (by simpa using c1)]
    simp[plainB,this]
   ·rw[if_neg (by simpa using c1)]
    have c1':32≤x.toNat:=by omega
    by_cases c2:(126:Int)<((x.toNat:Nat):Int)
    ·have:¬ x.toNat≤126:=by omega
     rw[if_pos (by simpa using c2)]
     simp[plainB,this]
    ·have:x.toNat≤126:=by omega
     rw[if_neg (by simpa using c2)]
     simp[plainB,this,c1']) (by simp[f41_L1])]
  by_cases ha:(s.any fun b => !plainB b)=true
  ·rw[if_pos ha]
   exact ⟨3,rfl,fun h=>by simp at h⟩
  ·rw[if_neg ha]
   refine ⟨0,rfl,fun _=>⟨h,?_⟩⟩
   rw[List.all_eq_true]
   intro b hb
   by_cases hp:plainB b=true
   ·exact hp
   ·exact absurd (List.any_eq_true.2 ⟨b,hb,by simpa using hp⟩) ha
 ·have h1:(32:Int)<((s.length:Nat):Int):=by omega
  rw[if_pos (by simpa using h1)]
  exact ⟨13,rfl,fun h=>by simp at h⟩
structure GoodR (d:Ref47Device):Prop where
 id:isId d.fIdentity=true
 foot:1≤d.fFootprint∧d.fFootprint≤512
 addr:1≤d.fAddress∧d.fAddress≤512∧d.fAddress + d.fFootprint - 1≤512
 lab:d.fLabel.length≤32∧d.fLabel.all plainB=true
 hours:0≤d.fHours∧d.fHours≤4294967295
theorem ref22'(d:Ref47Device):∃ e,f22 d=some e∧(e=0→GoodR d):=by
 obtain ⟨e4,h41,hlab⟩:=ref41 (s:=d.fLabel)
 unfold f22
 simp only[f5_eq,Option.bind_some]
 cases hid:isId d.fIdentity with
 | false=>exact ⟨2,by simp,fun h=>by simp at h⟩
 | true =>
  simp only[Bool.not_true,Bool.false_eq_true,if_false]
  by_cases c1:d.fFootprint<1
  ·exact ⟨2,by simp[c1],fun h=>by simp at h⟩
  rw[if_neg (by simpa using c1)]
  by_cases c2:512<d.fFootprint
  ·exact ⟨2,by simp[c2],fun h=>by simp at h⟩
  rw[if_neg (by simpa using c2)]
  have h40:∃ b,f40 d.fAddress d.fFootprint=some b∧(b=true→1≤d.fAddress∧d.fAddress≤512∧d.fAddress + d.fFootprint - 1≤512):=by
   unfold f40
   by_cases a1:1≤d.fAddress
   ·by_cases a2:d.fAddress≤512
    ·rw[if_pos (by simpa using a1),if_pos (by simpa using a2),w64 (a:=d.fAddress + d.fFootprint) (by omega) (by omega),w64 (by omega) (by omega)]
     exact ⟨_,rfl,fun h=>⟨a1,a2,by simpa using h⟩⟩
    ·rw[if_pos (by simpa using a1),if_neg (by simpa using a2)]
     exact ⟨_,rfl,fun h=>by simp at h⟩
   ·rw[if_neg (by simpa using a1)]
    exact ⟨_,rfl,fun h=>by simp at h⟩
  obtain ⟨b,h40,hb⟩:=h40
  rw[h40,Option.bind_some]
  cases b with
  | false=>exact ⟨2,by simp,fun h=>by simp at h⟩
  | true =>
   simp only[Bool.not_true,Bool.false_eq_true,if_false]
   rw[h41,Option.bind_some]
   by_cases c3:e4=0
   ·rw[if_neg (by simpa using c3)]
    by_cases c4:d.fHours<0
    ·exact ⟨2,by simp[c4],fun h=>by simp at h⟩
    rw[if_neg (by simpa using c4)]
    by_cases c5:4294967295<d.fHours
    ·exact ⟨2,by simp[c5],fun h=>by simp at h⟩
    rw[if_neg (by simpa using c5)]
    exact ⟨0,rfl,fun _=>⟨hid,by omega,hb rfl,hlab c3,by omega⟩⟩
   ·rw[if_pos (by simpa using c3)]
    exact ⟨e4,rfl,fun h=>absurd h c3⟩
theorem ref22(d:ResponderDevice):∃ e,f22 (toRef d)=some e∧(e=0→GoodD d):=by
 obtain ⟨e,h,g⟩:=ref22' (toRef d)
 exact ⟨e,h,fun h0=>⟨(g h0).id,(g h0).foot,(g h0).addr,(g h0).lab,(g h0).hours⟩⟩
theorem ref12L2{o:List Ref47Device}{i:Nat}(hi:i<o.length)(hl:o.length≤1000):∃ r,(f12_L2 (i:Int) o).run 0=some r∧(r=.inl ()→∀ j (hj:j<i),(o[j]'(by omega)).fIdentity≠o[i].fIdentity):=by
 refine run_ex (L:=f12_L2 (i:Int) o) (fun r=>r=.inl ()→∀ j (hj:j<i),(o[j]'(by omega)).fIdentity≠o[i].fIdentity) (fun s=>∃ k:Nat,s=(k:Int)∧k≤i∧∀ j (hj:j<k) (hji:j<o.length),(o[j]'hji).fIdentity≠o[i].fIdentity) (fun s=>i - s.toNat) ⟨0,rfl,by omega,fun j hj=>by omega⟩ ?_
 rintro s ⟨k,rfl,hk,hall⟩
 simp only[f12_L2]
 by_cases hlt:k<i
 ·have a1:at? o (k:Int)=some (o[k]'(by omega)):=at_nat (List.getElem?_eq_getElem (by omega))
  have a2:at? o (i:Int)=some (o[i]'(by omega)):=at_nat (List.getElem?_eq_getElem (by omega))
  rw[if_pos (by simpa using hlt),a1,Option.bind_some,a2,Option.bind_some]
  by_cases he:(o[k]'(by omega)).fIdentity=o[i].fIdentity
  ·right
   exact ⟨_,by rw[if_pos (by simpa using he)],fun h=>by simp at h⟩
  ·left
   refine ⟨_,by rw[if_neg (by simpa using he),w64_succ (by omega)],⟨k + 1,rfl,by omega,fun j hj hji=>?_⟩,by simp;omega⟩
   by_cases e:j=k
   ·subst e;exact he
   ·exact hall j (by omega) hji
 ·right
  have:k=i:=by omega
  subst this
  exact ⟨_,by rw[if_neg (by simp)],fun _ j hj=>hall j hj (by omega)⟩
theorem ref12{l:List ResponderDevice}(hl:l.length≤8):∃ e,f12 (l.map toRef)=some e∧(e=0→GoodL l):=by
 have hrun:∃ r,(f12_L1 (l.map toRef)).run 0=some r∧((r=.inl ()∧GoodL l)∨∃ v,r=.inr v∧v≠0):=by
  refine run_ex (L:=f12_L1 (l.map toRef)) (fun r=>(r=.inl ()∧GoodL l)∨∃ v,r=.inr v∧v≠0) (fun s=>∃ k:Nat,s=(k:Int)∧k≤l.length∧(∀ j (hj:j<k) (hjl:j<l.length),GoodD (l[j]'hjl))∧∀ i j (hij:i<j) (hj:j<k) (hjl:j<l.length),(l[i]'(by omega)).fIdentity≠(l[j]'hjl).fIdentity) (fun s=>l.length - s.toNat) ⟨0,rfl,by omega,fun j hj=>by omega,fun i j hij hj=>by omega⟩ ?_
  rintro s ⟨k,rfl,hk,hg,hd⟩
  simp only[f12_L1]
  by_cases hlt:k<l.length
  ·have a1:at? (l.map toRef) (k:Int)=some (toRef l[k]):=at_nat (by rw[List.getElem?_map,List.getElem?_eq_getElem hlt];rfl)
   obtain ⟨e,h22,he⟩:=ref22 l[k]
   rw[if_pos (by simpa using hlt),a1,Option.bind_some,h22,Option.bind_some]
   by_cases h0:e=0
   ·rw[if_neg (by simpa using h0)]
    obtain ⟨r,h1,h2⟩:=ref12L2 (o:=l.map toRef) (i:=k) (by simpa using hlt) (by simp;omega)
    rw[h1,Option.bind_some]
    cases r with
    | inl u =>
     left
     refine ⟨_,by simp only;rw[w64_succ (by omega)],⟨k + 1,rfl,by omega,fun j hj hjl=>?_,fun i j hij hj hjl=>?_⟩,by simp;omega⟩
     ·by_cases e:j=k
      ·subst e;exact he h0
      ·exact hg j (by omega) hjl
     ·by_cases e:j=k
      ·subst e
       have:=h2 rfl i hij
       simpa[toRef] using this
      ·exact hd i j hij (by omega) hjl
    | inr u =>
     right
     exact ⟨_,rfl,.inr ⟨7,rfl,by decide⟩⟩
   ·rw[if_pos (by simpa using h0)]
    right
    exact ⟨_,rfl,.inr ⟨e,rfl,h0⟩⟩
  ·right
   have:k=l.length:=by omega
   subst this
   refine ⟨_,by rw[if_neg (by simp)],.inl ⟨rfl,hl,fun d hd'=>?_,?_⟩⟩
   ·obtain ⟨j,hj,rfl⟩:=List.getElem_of_mem hd'
    exact hg j hj hj
   ·exact List.pairwise_iff_getElem.2 fun i j hi hj hij=>by
     simp only[List.length_map] at hi hj
     simpa using hd i j hij hj hj
 obtain ⟨r,h1,h2⟩:=hrun
 have h64:¬ (64:Int)<(((l.map toRef).length:Nat):Int):=by simp;omega
 unfold f12
 rw[if_neg (by simpa using h64),h1,Option.bind_some]
 rcases h2 with ⟨rfl,hg⟩ | ⟨v,rfl,hv⟩
 ·exact ⟨0,rfl,fun _=>hg⟩
 ·exact ⟨v,rfl,fun h=>absurd h hv⟩
theorem f4_eq{l:List ResponderDevice}(hl:l.length * 56≤140737488351232):∃ b,f4 l=some b∧(b=true→GoodL l):=by
 have h1:(f4_L1 l).run (0,[])=some (l.map toRef):=by
  rw[run_collect (L:=f4_L1 l) (xs:=l) (fun d=>[toRef d]) (fun k acc x hx hk=>by
   have hr:=Rnd.mk' hx (by omega)
   have:=hr.klt
   simp only[f4_L1]
   rw[if_pos hr.lt,hr.at',Option.bind_some,app_some (by simp;omega) (by simp;omega),Option.bind_some,hr.nxt]
   rfl) (fun x=>by simp) (fun acc=>by simp[f4_L1])]
  rw[← List.map_eq_flatMap]
 unfold f4
 rw[h1,Option.bind_some]
 by_cases h8:l.length≤8
 ·obtain ⟨e,h12,he⟩:=ref12 h8
  rw[if_pos (by simp;omega),h12,Option.bind_some]
  exact ⟨_,rfl,fun h=>he (by simpa using h)⟩
 ·rw[if_neg (by simp;omega)]
  exact ⟨_,rfl,fun h=>by simp at h⟩
theorem f7_eq{l:List ResponderDevice}{frm:Int}(g:GoodL l)(hf:isId frm=true) :
  ∃ F,f7 l frm=some (l.map (fun d=>{ d with fMuted:=true }),F,0)∧F.fFound.Nodup∧∀ id,id ∈ F.fFound↔id ∈ l.map (·.fIdentity):=by
 obtain ⟨σ,h1,h2,h3,h4⟩:=find7_eq g hf
 exact ⟨⟨σ.found,σ.msgs⟩,by rw[f7,h1,Option.map_some,h2],h3,h4⟩
theorem f6_eq:f6=some true:=by
 have g:GoodL [⟨5,1,1,[],0,false,false⟩,⟨6,1,1,[],0,false,false⟩]:=by
  refine ⟨by simp,fun d hd=>?_,by decide⟩
  simp at hd
  rcases hd with rfl | rfl<;>exact ⟨by decide,by decide,by decide,by decide,by decide⟩
 obtain ⟨F,e7,n7,m7⟩:=f7_eq g (frm:=9) (by decide)
 have pF:F.fFound.Perm [5,6]:=(List.perm_ext_iff_of_nodup n7 (by decide)).2 m7
 obtain ⟨s,e10,p10,s10⟩:=f10_eq (o:=F.fFound) (by rw[pF.length_eq];decide)
 have es:s=[5,6]:=List.Perm.eq_of_pairwise (le:=(· ≤ ·)) (fun a b _ _ h1 h2=>Int.le_antisymm h1 h2) s10 (by decide) (p10.trans pF)
 subst es
 have e9:=f9_same (s:=[5,6]) (by simp)
 have e14:f14 9 3=some (⟨9,0,3⟩,0):=by kernel_rfl
 have x1:=x15a
 have x2:=x15b
 have e7':f7 [⟨5,1,1,[],0,false,false⟩,⟨6,1,1,[],0,false,false⟩] 9=some ([d5,d6],F,0):=e7
 rw[f6]
 rw[f13,Option.bind_some,f13,Option.bind_some,e7',Option.bind_some]
 rw[if_neg (by simp),if_neg (by simp),show (f6_C1 ([d5,d6],F,0)).run=some () from rfl,Option.bind_some,e10,Option.bind_some,e9,Option.bind_some,if_neg (by simp),show at? ([d5,d6],F,(0:Int)).1 0=some d5 from rfl,Option.bind_some,if_neg (by simp),show at? ([d5,d6],F,(0:Int)).1 1=some d6 from rfl,Option.bind_some,if_neg (by simp),e14,Option.bind_some,x1,Option.bind_some,x2,Option.bind_some]
 rfl
theorem L3_eq{l:List ResponderDevice}(hl:l.length≤8)(F G:DiscoveryFinding)(e f:Int) :
  (f3_L3 (l.map (fun d=>{ d with fMuted:=true }),F,e) l (l.map (fun d=>{ d with fMuted:=true }),G,f)).run 0=some (.inl ()):=by
 rw[run_any (L:=f3_L3 (l.map (fun d=>{ d with fMuted:=true }),F,e) l (l.map (fun d=>{ d with fMuted:=true }),G,f)) (xs:=l) (fun _=>false) (by omega) (fun k x hr=>by
  have hk:=hr.klt
  have a1:at? (l.map fun d=>{ d with fMuted:=true }) (k:Int)=some { x with fMuted:=true }:=at_nat (by rw[List.getElem?_map,hr.get];rfl)
  simp only[f3_L3]
  rw[if_pos (by simpa using hk),a1,Option.bind_some,hr.at',Option.bind_some]
  simp only[beq_self_eq_true,Bool.and_self,Bool.not_true,Bool.false_eq_true,if_false,Option.bind_some,hr.nxt]) (by simp[f3_L3])]
 simp
theorem f3_eq(l:List ResponderDevice)(frm:Int)(hl:l.length * 56≤140737488351232):f3 l frm=some true:=by
 obtain ⟨b,h4,hb⟩:=f4_eq hl
 unfold f3
 rw[h4,Option.bind_some]
 cases b with
 | false=>simp[f6_eq]
 | true =>
  have g:=hb rfl
  have hlen:=g.len
  simp only[Bool.not_true,Bool.false_eq_true,if_false,f5_eq,Option.bind_some]
  cases hf:isId frm with
  | false=>simp[f6_eq]
  | true =>
   have g2:GoodL (l.map fun d=>{ d with fMuted:=true }):=by
    refine ⟨by simpa using hlen,fun d hd=>?_,by simpa[List.map_map,Function.comp_def] using g.dist⟩
    obtain ⟨x,hx,rfl⟩:=List.mem_map.1 hd
    have:=g.good x hx
    exact ⟨this.id,this.foot,this.addr,this.lab,this.hours⟩
   obtain ⟨F,e7,n7,m7⟩:=f7_eq g hf
   obtain ⟨G,e7',n7',m7'⟩:=f7_eq g2 hf
   have hids:(l.map fun d=>{ d with fMuted:=true }).map (·.fIdentity)=l.map (·.fIdentity):=by simp[List.map_map,Function.comp_def]
   have hmm:(l.map fun d=>({ d with fMuted:=true }:ResponderDevice)).map (fun d=>({ d with fMuted:=true }:ResponderDevice))=l.map fun d=>{ d with fMuted:=true }:=by simp[List.map_map,Function.comp_def]
   rw[hids] at m7'
   rw[hmm] at e7'
   have pF:F.fFound.Perm (l.map (·.fIdentity)):=(List.perm_ext_iff_of_nodup n7 g.dist).2 m7
   have pG:G.fFound.Perm (l.map (·.fIdentity)):=(List.perm_ext_iff_of_nodup n7' g.dist).2 m7'
   obtain ⟨s,e8,p8,s8⟩:=f8_eq hlen
   obtain ⟨sF,e10,p10,s10⟩:=f10_eq (o:=F.fFound) (by rw[pF.length_eq];simpa using hlen)
   obtain ⟨sG,e10',p10',s10'⟩:=f10_eq (o:=G.fFound) (by rw[pG.length_eq];simpa using hlen)
   have eF:sF=s:=List.Perm.eq_of_pairwise (le:=(· ≤ ·)) (fun a b _ _ h1 h2=>Int.le_antisymm h1 h2) s10 s8 ((p10.trans pF).trans p8.symm)
   have eG:sG=s:=List.Perm.eq_of_pairwise (le:=(· ≤ ·)) (fun a b _ _ h1 h2=>Int.le_antisymm h1 h2) s10' s8 ((p10'.trans pG).trans p8.symm)
   have hs:s.length≤1000:=by
    have:=p8.length_eq
    simp at this
    omega
   rw[eF] at e10
   rw[eG] at e10'
   simp only[Bool.not_true,Bool.false_eq_true,if_false,e7,Option.bind_some,e7',e8,e10,e10',f9_same hs,f3_C1,f3_C2,L3_eq hlen,f6_eq]
   simp
end Go.Proofs.YtgjfhplkochbpaaGreat
