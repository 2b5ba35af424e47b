import Derived.Test.YtnaemmpcffnbkaaGreatDoorKM4
import Derived.Shelf.SlSortCmp.InsertionK
import Derived.Lib.QuietBelow
import Derived.Sort.AssemblyPlain
set_option linter.unusedSimpArgs false
set_option linter.unusedVariables false
namespace Go.Ab
open Go Go.RowKit Go.Sort Go.Proofs
def vOf:AV→Value
 | .bool b=>.bool b
 | .int k n=>.int k n
 | .str s=>.string ⟨s.toArray⟩
 | .nilp=>.pointer none
 | .nilfn=>.nilFunc
 | .nilmp=>.map none
 | _=>.bool false
section
variable {E:Env}{w:World}{S:Nat→Nat→Prop}
theorem RV.vOf{n:Nat}{c:AV}{u:Value}(h:RV E w c u)(hf:flat n c=true)(ho:c.one=true):u=Ab.vOf c:=by
 cases n with
 | zero=>simp[flat] at hf
 | succ n =>
  cases c with
  | bool b=>exact h.bool_inv
  | int k m=>exact h.int_inv
  | str s=>exact h.str_inv
  | nilp=>exact h.nilp_inv
  | nilfn=>exact h.nilfn_inv
  | nilmp=>exact h.nilmp_inv
  | agg cs=>simp[AV.one] at ho
  | tup cs=>simp[AV.one] at ho
  | _=>simp[flat] at hf
theorem RI.vOf{n:Nat}{c:AV}(hf:flat n c=true)(ho:c.one=true):RI S w c (Ab.vOf c):=by
 cases n with
 | zero=>simp[flat] at hf
 | succ n =>
  cases c with
  | bool b=>exact .bool b
  | int k m=>exact .int k m
  | str s=>exact .str s
  | nilp=>exact .nilp
  | nilfn=>exact .nilfn
  | nilmp=>exact .nilmp
  | agg cs=>simp[AV.one] at ho
  | tup cs=>simp[AV.one] at ho
  | _=>simp[flat] at hf
theorem oneCell_vOf(c:AV):(vOf c).oneCell'=true:=by cases c<;>rfl
end
section
variable {τ : Type}{enc : τ → AV}{e:Nat}[IsEnc e enc][IsFlat enc]
theorem enc_agg(he:e≠0)(x : τ):∃ cs,enc x=.agg cs∧cs.length=e∧∀ c ∈ cs,c.one=true∧flat 3 c=true:=by
 have h1:(enc x).fits e=true:=IsEnc.fits x
 have h2:flat 4 (enc x)=true:=IsFlat.flat x
 cases hx:enc x with
 | agg cs =>
  rw[hx] at h1 h2
  simp only[AV.fits,Bool.and_eq_true,beq_iff_eq,onesB,List.all_eq_true] at h1
  simp only[flat,List.all_eq_true] at h2
  exact ⟨cs,rfl,h1.1.1.symm,fun c hc=>⟨h1.2 c hc,h2 c hc⟩⟩
 | _=>rw[hx] at h1;simp[AV.fits] at h1;exact absurd h1.1 he
def encK(enc : τ → AV)(x : τ):List Value:=(enc x).cells.map vOf
theorem encK_len(he:e≠0)(x : τ):(encK enc x).length=e:=by
 obtain ⟨cs,h1,h2,_⟩:=enc_agg (enc:=enc) he x
 unfold encK;rw[h1];simpa[AV.cells] using h2
omit [IsEnc e enc] [IsFlat enc] in
theorem encK_one(x : τ):∀ v ∈ encK enc x,v.oneCell'=true:=fun v hv=>by
 unfold encK at hv
 obtain ⟨c,_,rfl⟩:=List.mem_map.1 hv
 exact oneCell_vOf c
theorem encK_RI(he:e≠0){S:Nat→Nat→Prop}{w:World}(x : τ):RI S w (enc x) (.agg (encK enc x).toArray):=by
 obtain ⟨cs,h1,h2,h3⟩:=enc_agg (enc:=enc) he x
 unfold encK
 rw[h1]
 refine .agg cs _ (by simp[AV.cells]) fun i c u hc hu=>?_
 simp[AV.cells,hc] at hu
 subst hu
 have:=h3 c (List.mem_of_getElem? hc)
 exact RI.vOf this.2 this.1
theorem encK_RV(he:e≠0){E:Env}{w:World}{x : τ}{u:Value}(h:RV E w (enc x) u):u=.agg (encK enc x).toArray:=by
 obtain ⟨cs,h1,h2,h3⟩:=enc_agg (enc:=enc) he x
 rw[h1] at h
 obtain ⟨us,rfl,hs,hr⟩:=h.agg_inv
 congr 1
 refine Array.ext (by unfold encK;rw[h1];simp[AV.cells,hs]) fun i hi1 hi2=>?_
 have hic:i<cs.length:=by omega
 have hc:=List.getElem?_eq_getElem hic
 have hm:=h3 cs[i] (List.getElem_mem hic)
 have hv:=(hr i cs[i] us[i] hc (Array.getElem?_eq_getElem hi1)).vOf hm.2 hm.1
 rw[hv]
 unfold encK
 simp[h1,AV.cells]
variable {α : Type}[Inhabited α]{v : α → τ}
theorem HOK.holdsK(he:e≠0){E:Env}{h:Hp}{w:World}(hok:HOK E h w){b g:Nat}{d:Array α}(hb:h[b]? = some (.els e ((d.toList.map v).map enc)))(hg:E.rho b=some (some g)) :
  HoldsK (fun a=>encK enc (v a)) e w g 0 d∧g<w.heap.size:=by
 obtain ⟨_,⟨k0,_⟩ | ⟨g',vals,t',fz,k1,k2,k2',k3,k4,k5,k6,k7⟩⟩:=hok.blocks b _ hb
 ·rw[k0] at hg;cases hg
 rw[hg] at k1;injection k1 with k1;injection k1 with k1;subst k1
 have hgl:g<w.heap.size:=(Array.getElem?_eq_some_iff.1 k2).1
 have hez:esz e=e:=by unfold esz;rw[if_neg he]
 rw[hez] at k3 k6 k7
 simp only[List.length_map,Array.length_toList] at k6
 refine ⟨fun t ht=>?_,hgl⟩
 have ht':t<d.size * e:=by simpa using ht
 have e0:0<e:=Nat.pos_of_ne_zero he
 have hq:t / e<d.size:=Nat.div_lt_of_lt_mul (by rwa [Nat.mul_comm] at ht')
 have hm:t % e<e:=Nat.mod_lt _ e0
 obtain ⟨_,u,s2,s3,s4⟩:=k7 (t / e) (enc (v d[t / e])) (by simp[hq])
 have hu:=encK_RV (enc:=enc) he s2
 subst hu
 have hlen:=encK_len (enc:=enc) he (v d[t / e])
 have hcell:=s4 (t % e) (encK enc (v d[t / e]))[t % e] (by simp[Value.cells,hlen,hm])
 have hidx:t / e * e + t % e=t:=by rw[Nat.mul_comm];exact Nat.div_add_mod t e
 rw[hidx] at hcell
 rw[get_flatK _ _ _ _ ht',getElem!_pos d _ hq,getElem!_pos _ _ (by rw[hlen];exact hm)]
 refine ⟨?_,?_⟩
 ·simp only[World.cell?,k2,Nat.zero_add,hcell,Option.isSome_none,Bool.false_eq_true,if_false]
  rfl
 ·rw[Nat.zero_add]
  have hts:t<vals.size:=by omega
  have:=k2' t hts
  simp only[World.frozen?,k2]
  simp only[Bool.and_eq_false_iff,decide_eq_false_iff_not]
  omega
theorem HOK.putK(he:e≠0){E:Env}{h:Hp}{w:World}(hok:HOK E h w){b g:Nat}{d d':Array α}(hb:h[b]? = some (.els e ((d.toList.map v).map enc)))(hg:E.rho b=some (some g))(n:Nat)(hl:d'.size=d.size) :
  HOK E (h.set b (.els e ((d'.toList.map v).map enc))) (putRowK (fun a=>encK enc (v a)) e (Sort.ahead w n) g 0 d')∧Ext h.length E w E (putRowK (fun a=>encK enc (v a)) e (Sort.ahead w n) g 0 d'):=by
 obtain ⟨hke,⟨k0,_⟩ | ⟨g',vals,t',fz,k1,k2,k2',k3,k4,k5,k6,k7⟩⟩:=hok.blocks b _ hb
 ·rw[k0] at hg;cases hg
 rw[hg] at k1;injection k1 with k1;injection k1 with k1;subst k1
 have hez:esz e=e:=by unfold esz;rw[if_neg he]
 have e0:0<e:=Nat.pos_of_ne_zero he
 rw[hez] at k3 k6 k7
 simp only[List.length_map,Array.length_toList] at k4 k6
 unfold putRowK
 generalize hF:flatK (fun a=>encK enc (v a)) e d'=F
 have hFs:F.size=d'.size * e:=by rw[← hF,size_flatK]
 have w1:(putRow id (Sort.ahead w n) g 0 F).heap[g]? = some (.cells (putCells id 0 F vals) t' fz):=by
  simp[putRow,mapBlock,Sort.ahead,Array.getElem?_modify,k2,onCells]
 have hdr:Dr w (putRow id (Sort.ahead w n) g 0 F):=.mk (by simp[putRow,mapBlock,Sort.ahead])
 refine ⟨?_,hok.ext_upd hb trivial hg _ rfl rfl rfl (by simp[Sort.ahead]) (fun i hi _=>by simp[putRow,mapBlock,Sort.ahead,Array.getElem?_modify,Ne.symm hi]) (fun a=>by simp) hdr⟩
 refine hok.set (hdr:=hdr) hb trivial hg rfl rfl rfl (by simp[Sort.ahead]) (fun i hi _=>?_) (fun a=>by simp) ⟨hke,.inr ⟨g,_,t',fz,hg,w1,?_,?_,?_,k5,?_,fun i x hx=>?_⟩⟩
 ·simp[putRow,mapBlock,Sort.ahead,Array.getElem?_modify,Ne.symm hi]
 ·intro o ho
  exact k2' o (by simpa[putCells] using ho)
 ·rw[hez];simp[putCells,k3]
 ·simp only[List.length_map,Array.length_toList];omega
 ·simp only[putCells,Array.size_mapIdx,List.length_map,Array.length_toList,hez,hl];omega
 ·simp only[List.getElem?_map,Option.map_eq_some_iff,Array.getElem?_toList] at hx
  obtain ⟨y,⟨a,ha,rfl⟩,rfl⟩:=hx
  obtain ⟨hil,hiv⟩:=Array.getElem?_eq_some_iff.1 ha
  obtain ⟨cs,c1,c2,c3⟩:=enc_agg (enc:=enc) he (v a)
  have hlen:=encK_len (enc:=enc) he (v a)
  refine ⟨?_,.agg (encK enc (v a)).toArray,.imm (encK_RI he (v a)),by rw[hez];simpa[Value.cells] using hlen,fun j c hj=>?_⟩
  ·unfold Shape
   rw[if_neg he]
   exact ⟨cs,c1,c2,fun c hc=>.inl (c3 c hc).1⟩
  ·have hjl:j<e:=by
    have:=(Array.getElem?_eq_some_iff.1 hj).1
    simpa[Value.cells,hlen] using this
   have hjc:(encK enc (v a))[j]? = some c:=by simpa[Value.cells] using hj
   have hmul:i * e + j<d'.size * e:=by
    have:=Nat.mul_le_mul_right e (show i + 1≤d'.size from hil)
    rw[Nat.add_mul,Nat.one_mul] at this;omega
   have hvs:i * e + j<vals.size:=by rw[hl] at hmul;omega
   have q1:(i * e + j) / e=i:=by rw[Nat.mul_comm,Nat.mul_add_div e0,Nat.div_eq_of_lt hjl,Nat.add_zero]
   have q2:(i * e + j) % e=j:=by rw[Nat.mul_comm,Nat.mul_add_mod,Nat.mod_eq_of_lt hjl]
   rw[hez]
   simp only[putCells,Array.getElem?_mapIdx,Array.getElem?_eq_getElem hvs,Option.map_some,Nat.zero_le,Nat.zero_add,true_and,Nat.sub_zero]
   rw[if_pos (by rw[hFs];exact hmul),← hF,get_flatK _ _ _ _ hmul,q1,q2,getElem!_pos d' i hil,hiv]
   rw[List.getElem?_eq_some_iff] at hjc
   obtain ⟨hj1,hj2⟩:=hjc
   rw[getElem!_pos _ j hj1,hj2]
   rfl
structure SortsK (P:Program) (k e:Nat):Prop where
 entered:Entered P k
 none:∀ (p:Option Addr) (cap:Nat) (fv:Value) (w:World),Calls P k #[.slice p 0 cap,fv] w fun e w'=>e=.returned (.tuple #[])∧w'=w
 some:∀ {α : Type} [Inhabited α] (en : α → List Value) (_:∀ x,(en x).length=e) (_:∀ x,∀ v ∈ en x,v.oneCell'=true) (cf : α → α → Int) (_:SWO (ltOf cf)) (g blk cap:Nat) (d:Array α) (w:World)
  (_:∀ args w,(callFunc g args).run P w=.ok (.enter g args) w) (_:CmpLays P g #[] en e cf blk 0 d.size w) (_:HoldsK en e w blk 0 d) (_:blk<w.heap.size) (_:d.size<4611686018427387904),
  Calls P k #[.slice (some ⟨blk,0,Option.none⟩) d.size cap,.func (.func g) #[] #[]] w fun e' w'=>e'=.returned (.tuple #[])∧∃ n os,w'=sortWorldK en e w blk 0 n (pdq (ltOf cf) d 0 d.size (Lib.bitLen d.size) true true) os
end
section
variable {P:Program}
theorem entered_run{g:Nat}(h:Entered P g)(args:Array Value)(w:World):(callFunc g args).run P w=.ok (.enter g args) w:=by
 obtain ⟨fn,c,h1,h2,h3⟩:=h
 have h2' : ¬ fn.name = "runtime.NumGoroutine" := by simpa using h2
 simp[callFunc,h1,h2',h3]
theorem grown_of{w w':World}(h:Blw w.heap.size w w')(hd:w.drawn≤w'.drawn):∃ q os,w'=Go.Sort.grow (w.drewN q) os:=by
 refine ⟨w'.drawn - w.drawn,w'.heap.extract w.heap.size w'.heap.size,?_⟩
 obtain ⟨heap',tape',drawn',os',output'⟩:=w'
 have e1:os'=w.os:=h.os
 have e2:tape'=w.tape:=h.tape
 have e3:output'=w.output:=h.output
 have hs:w.heap.size≤heap'.size:=h.size
 have hb:∀ k,k<w.heap.size→heap'[k]? = w.heap[k]? := h.block
 have hd':w.drawn≤drawn':=hd
 subst e1 e2 e3
 have eh:heap'=w.heap++heap'.extract w.heap.size heap'.size:=by
  apply Array.ext_getElem?
  intro k
  by_cases hk:k<w.heap.size
  ·rw[Array.getElem?_append_left hk];exact hb k hk
  ·rw[Array.getElem?_append_right (by omega),Array.getElem?_extract]
   by_cases hk2:k<heap'.size
   ·rw[if_pos (by omega)];congr 1;omega
   ·rw[if_neg (by omega),Array.getElem?_eq_none (by omega)]
 have ed:drawn'=w.drawn + (drawn' - w.drawn):=by omega
 show ({ heap:=heap',tape:=w.tape,drawn:=drawn',os:=w.os,output:=w.output }:World)={ heap:=w.heap++heap'.extract w.heap.size heap'.size,tape:=w.tape,drawn:=w.drawn + (drawn' - w.drawn),os:=w.os,output:=w.output }
 rw[← eh,← ed]
variable {τ : Type}{enc : τ → AV}{e:Nat}[IsEnc e enc][IsFlat enc]
theorem cmp_lays(he:e≠0){α : Type}[Inhabited α]{v : α → τ}{kf:Nat}{c : α → α → Int}(hp:∀ x y,Pure P kf [enc (v x),enc (v y)] (· = .int .i64 (c x y)))(blk size:Nat)(w:World):CmpLays P kf #[] (fun a=>encK enc (v a)) e c blk 0 size w:=by
 intro m os dk hdk x y
 refine Calls.mono ((hp x y).2.2 (fun _ _=>False) _ #[.agg (encK enc (v x)).toArray,.agg (encK enc (v y)).toArray] (fun _ _ h=>h.elim) rfl fun i c u hc hu=>?_) ?_
 ·match i,hc,hu with
  | 0,hc,hu=>simp at hc hu;subst hc;subst hu;exact encK_RI he (v x)
  | 1,hc,hu=>simp at hc hu;subst hc;subst hu;exact encK_RI he (v y)
 ·rintro e' w' ⟨u,S',r,rfl,rfl,hb,_,_,_,hres⟩
  refine ⟨?_,grown_of hb hb.drawn⟩
  rcases hres with hres | ⟨_,_,h,_⟩ | ⟨_,_,h,_⟩
  ·cases hres;rfl
  ·cases h
  ·cases h
theorem sort_fnK(he:e≠0){k:Nat}(hc:SortsK P k e){kf:Nat}{α : Type}[Inhabited α]{v : α → τ}{c : α → α → Int}(hp:∀ x y,Pure P kf [enc (v x),enc (v y)] (· = .int .i64 (c x y)))(hO:SWO (ltOf c)){h:Hp}{b:Nat}{d:Array α}
  (hb:h[b]? = some (.els e ((d.toList.map v).map enc))) (hsz:d.size<4611686018427387904) (hkf:Entered P kf) {R:AV→Hp→Prop}
  (hR:R (.tup []) (h.set b (.els e (((pdq (ltOf c) d 0 d.size (Lib.bitLen d.size) true true).toList.map v).map enc)))):Fn P k [.row e b 0 d.size,.fn kf []] h R:=by
 refine ⟨hc.entered,⟨_,_,hR⟩,fun E w us hok hl hr=>?_⟩
 obtain ⟨us⟩:=us
 match us,hl,hr with
 | [u,u2],_,hr =>
 have hv:=hr 0 (.row e b 0 d.size) u rfl rfl
 have hv2:=hr 1 (.fn kf []) u2 rfl rfl
 obtain ⟨us2,rfl,hs2,_⟩:=hv2.fn_inv
 obtain rfl:us2 = #[]:=Array.eq_empty_of_size_eq_zero hs2
 have hpd:=pdq_sorts (ltOf c) hO d 0 d.size (Lib.bitLen d.size) true true (Nat.zero_le _) (Nat.le_refl _) (Or.inl rfl)
 have hps:(pdq (ltOf c) d 0 d.size (Lib.bitLen d.size) true true).size=d.size:=hpd.1.1
 obtain ⟨hke,hrow⟩:=hv.row_inv
 rcases hrow with ⟨h0,_,hx0,A,rfl⟩ | ⟨g,cap,A,hg,rfl,hA,hlc,hcc,hm⟩
 ·have hd0:d.size=0:=hx0
  refine (hc.none A 0 _ w).mono ?_
  rintro e' w' ⟨rfl,rfl⟩
  refine ⟨_,E,_,_,rfl,hR,?_,Ext.refl _ _ _,.tup [] #[] rfl fun i c u hc=>by simp at hc⟩
  have e1:d = #[]:=Array.eq_empty_of_size_eq_zero hd0
  have e2:pdq (ltOf c) d 0 d.size (Lib.bitLen d.size) true true = #[]:=Array.eq_empty_of_size_eq_zero (by omega)
  rw[e2]
  rw[e1] at hb
  have hs:h.set b (.els e (((#[]:Array α).toList.map v).map enc))=h:=by
   obtain ⟨hbl,hbe⟩:=List.getElem?_eq_some_iff.1 hb
   rw[← hbe];exact List.set_getElem_self hbl
  rw[hs]
  exact hok
 ·obtain rfl:A=some ⟨g,0,Option.none⟩:=by
   rcases hA with hA | ⟨hA,_⟩
   ·simpa using hA
   ·exact absurd rfl hA
  obtain ⟨hH,hgl⟩:=hok.holdsK he hb hg
  refine (hc.some (fun a=>encK enc (v a)) (fun a=>encK_len he (v a)) (fun a=>encK_one (v a)) c hO kf g cap d w (entered_run hkf) (cmp_lays he hp g d.size w) hH hgl hsz).mono ?_
  rintro e' w' ⟨rfl,n,os,rfl⟩
  obtain ⟨hset,hext⟩:=hok.putK (v:=v) he hb hg n (d':=pdq (ltOf c) d 0 d.size (Lib.bitLen d.size) true true) hps
  unfold sortWorldK
  generalize putRowK (fun a=>encK enc (v a)) e (Sort.ahead w n) g 0 (pdq (ltOf c) d 0 d.size (Lib.bitLen d.size) true true)=w2 at hset hext
  have hmore:More w2 (Go.Sort.grow w2 os):=by
   have hold:∀ i,i<w2.heap.size→(Go.Sort.grow w2 os).heap[i]? = w2.heap[i]? := fun i hi=>by
    simp only[Go.Sort.grow]
    rw[Array.getElem?_append_left hi]
   exact ⟨rfl,rfl,rfl,by simp[Go.Sort.grow],hold,fun a ha=>World.frozen?_of_block (hold _ ha),.mk (Nat.le_refl _)⟩
  obtain ⟨m1,m2⟩:=hset.more hmore
  exact ⟨_,E,_,_,rfl,hR,m1,hext.trans (m2 h.length) (Nat.le_refl _),.tup [] #[] rfl fun i c u hc=>by simp at hc⟩
end
section
variable {τ : Type}
def cmpOn(f : τ → τ → Option Int)(xs:List τ)(x y:{x // x ∈ xs}):Int:=(f x.1 y.1).getD 0
noncomputable def pdqL(f : τ → τ → Option Int):List τ → List τ
 | []=>[]
 | x::xs=>(@pdq {y // y ∈ x::xs} ⟨⟨x,List.mem_cons_self ..⟩⟩ (ltOf (cmpOn f (x::xs))) (x::xs).attach.toArray 0 (x::xs).length (Lib.bitLen (x::xs).length) true true).toList.map Subtype.val
open Classical in
noncomputable def sortg?(f : τ → τ → Option Int)(xs:List τ):Option (List τ) :=
 if (∀ x ∈ xs,∀ y ∈ xs,(f x y).isSome=true)∧SWO (ltOf (cmpOn f xs))∧xs.length<4611686018427387904 then some (pdqL f xs) else none
theorem extract_whole{α : Type}(a:Array α){n:Nat}(h:a.size≤n):(a.extract 0 n).toList=a.toList:=by
 simp[List.take_of_length_le,h]
theorem pdqL_perm{f : τ → τ → Option Int}{xs:List τ}(hO:SWO (ltOf (cmpOn f xs))):(pdqL f xs).Perm xs:=by
 cases xs with
 | nil=>exact List.Perm.refl _
 | cons x xs =>
  letI:Inhabited {y // y ∈ x::xs}:=⟨⟨x,List.mem_cons_self ..⟩⟩
  have hsz:(x::xs).attach.toArray.size=(x::xs).length:=by rw[List.size_toArray,List.length_attach]
  have h:=(pdq_sorts (ltOf (cmpOn f (x::xs))) hO (x::xs).attach.toArray 0 (x::xs).length (Lib.bitLen (x::xs).length) true true (Nat.zero_le _) (by rw[hsz];exact Nat.le_refl _) (Or.inl rfl)).1
  have hp:=h.2.2
  rw[extract_whole _ (by rw[h.1,hsz];exact Nat.le_refl _),extract_whole _ (by rw[hsz];exact Nat.le_refl _)] at hp
  have:=hp.map Subtype.val
  rw[List.toList_toArray,List.attach_map_subtype_val] at this
  exact this
end
theorem evTs_srg{P:Program}{τ α : Type}{enc : τ → AV}{e:Nat}[IsEnc e enc][IsFlat enc]{xs:List τ}{f : τ → τ → Option Int}{kont:List τ → Option α}{r : α}(H:(sortg? f xs).bind kont=some r)(he:e≠0){kf:Nat}
  (spec:∀ x y z,f x y=some z→Pure P kf [enc x,enc y] (· = .int .i64 z)) (hkf:Entered P kf) {k:Nat}(hs:SortsK P k e)
  {is:List Ins}{K:St→Prop}{s:Nat→AV}{h:Hp}{d:Option Nat}{fo:Od}{aa:List Od}{b m:Nat}(hf:fo.ev s=.fn k []) (ha:aa.map (Od.ev s)=[.row e b 0 m,.fn kf []])
  (hm:m=xs.length) (hb:h[b]? = some (.els e (xs.map enc)))
  (hK:∀ zs,zs.length=xs.length→kont zs=some r→evTs (Fn P) is K ⟨put? s d (.tup []),h.set b (.els e (zs.map enc))⟩):evTs (Fn P) (Ins.mk d none (.call fo aa)::is) K ⟨s,h⟩:=by
 unfold sortg? at H
 split at H
 case isFalse=>cases H
 rename_i hc
 obtain ⟨hall,hO,hsz⟩:=hc
 have hlen:=(pdqL_perm hO).length_eq
 have hk:=hK _ hlen H
 clear H
 subst hm
 refine evTs_call hf ?_
 rw[ha,List.append_nil]
 cases xs with
 | nil =>
  letI:Inhabited Unit:=⟨()⟩
  have hO':SWO (ltOf fun (_ _:Unit)=>(0:Int)):=⟨fun _=>rfl,fun _ _ _ h=>by simp[ltOf] at h,fun _ _ _ _ _=>rfl⟩
  refine ⟨hs.entered,⟨_,_,hk⟩,fun E w us hok hl hr=>?_⟩
  obtain ⟨us⟩:=us
  match us,hl,hr with
  | [u,u2],_,hr =>
  have hv:=hr 0 (.row e b 0 0) u rfl rfl
  obtain ⟨p,cap,rfl⟩:∃ p cap,u=.slice p 0 cap:=by
   obtain ⟨_,hrow⟩:=hv.row_inv
   rcases hrow with ⟨_,_,_,A,rfl⟩ | ⟨g,cap,A,hg,rfl,_⟩
   ·exact ⟨_,_,rfl⟩
   ·exact ⟨_,_,rfl⟩
  refine (hs.none p cap _ w).mono ?_
  rintro e' w' ⟨rfl,rfl⟩
  refine ⟨_,E,_,_,rfl,hk,?_,Ext.refl _ _ _,.tup [] #[] rfl fun i c u hc=>by simp at hc⟩
  have hset:h.set b (.els e ((pdqL f []).map enc))=h:=by
   obtain ⟨hbl,hbe⟩:=List.getElem?_eq_some_iff.1 hb
   rw[show ((pdqL f []).map enc)=([]:List τ).map enc from rfl,← hbe];exact List.set_getElem_self hbl
  rw[hset]
  exact hok
 | cons x xs =>
  letI:Inhabited {y // y ∈ x::xs}:=⟨⟨x,List.mem_cons_self ..⟩⟩
  have hsize:(x::xs).attach.toArray.size=(x::xs).length:=by rw[List.size_toArray,List.length_attach]
  have hlist:(x::xs).attach.toArray.toList.map Subtype.val=x::xs:=by rw[List.toList_toArray,List.attach_map_subtype_val]
  have hp:∀ p q:{y // y ∈ x::xs},Pure P kf [enc p.1,enc q.1] (· = .int .i64 (cmpOn f (x::xs) p q)):=fun p q=>by
   obtain ⟨z,hz⟩:=Option.isSome_iff_exists.1 (hall p.1 p.2 q.1 q.2)
   have:=spec p.1 q.1 z hz
   unfold cmpOn;rw[hz];exact this
  have hfn:=sort_fnK (P:=P) (enc:=enc) he hs (v:=(Subtype.val:{y // y ∈ x::xs} → τ)) hp hO (h:=h) (b:=b) (d:=(x::xs).attach.toArray) (by rw[hlist];exact hb) (by rw[hsize];exact hsz) hkf
   (R:=fun v h'=>evTs (Fn P) is K ⟨put? s d v,h'⟩) (by rw[hsize];exact hk)
  rwa [hsize] at hfn
end Go.Ab
