import Derived.Test.YtnaemmpcffnbkaaGreatDoorRM3
set_option linter.unusedSimpArgs false
set_option linter.unusedVariables false
namespace Go.Ab
open Go
variable {P:Program}
section
variable {n lo:Nat}{Q:Ex→St→Prop}
end
section
variable {n lo:Nat}{Q:Ex→St→Prop}{τ : Type}{enc : τ → AV}{e:Nat}[IsEnc e enc]
end
end Go.Ab
namespace Go.Ab
set_option linter.defProp false in
def rrl:=(And.intro @List.length_set.{0} (And.intro @restrict_eq (And.intro @renS_nil (And.intro @renS_cons (And.intro @renB_els (And.intro @renB_cel (And.intro @renB_dead (And.intro deep_eq (And.intro @map_ren_enc (And.intro @ren_agg' (And.intro @ren_tup' (And.intro @ren_fn' (And.intro @ren_int' (And.intro @ren_bool' (And.intro @ren_str' (And.intro @ren_sl' (And.intro @ren_pro' (And.intro @ren_nilp' (And.intro @ren_nilfn' (And.intro @ren_junk' (And.intro @ren_ptr' (And.intro @ren_row' (And.intro @ren_arow' @ren_eptr')))))))))))))))))))))))
end Go.Ab
namespace Go.Ab
open Go
def arr0?{τ : Type}(n:Nat)(z : τ):Option (List τ):=some (List.replicate n z)
theorem evTs_arrn{F:CallF}{is:List Ins}{K:St→Prop}{s:Nat→AV}{h:Hp}{d:Option Nat}{τ α : Type}{n:Nat}{z : τ}{kont:List τ → Option α}{r : α}(H:(arr0? n z).bind kont=some r){enc : τ → AV}{v:AV}(hz:enc z=v)
  (hk:∀ zs:List τ,kont zs=some r→evTs F is K ⟨put? s d (.ptr h.length 0),h++[.cel (zs.map enc)]⟩):evTs F (Ins.mk d none (.alloc [(n,v)])::is) K ⟨s,h⟩ :=
 evTs_arr z hz (hk _ H)
end Go.Ab
namespace Go.Ab
open Go
def mk{κ ν : Type}(ek : κ → AV)(m:List (κ × ν)):List AV:=m.map fun p=>ek p.1
def mv{κ ν : Type}(ev : ν → AV)(m:List (κ × ν)):List AV:=m.map fun p=>ev p.2
class IsKey {κ : Type} [DecidableEq κ] (kd:outParam Nat) (ek : κ → AV):Prop where
 key:∀ x,isKey kd (ek x)=true
 eq:∀ x y,eqKind kd (ek x) (ek y)=some (decide (x=y))
instance:IsKey 1 AV.str:=⟨fun _=>rfl,fun x y=>by simp only[eqKind];exact congrArg some (Bool.eq_iff_iff.2 (by simp))⟩
instance (k:IntKind):IsKey 0 (AV.int k):=⟨fun _=>rfl,fun x y=>by simp only[eqKind,if_true];exact congrArg some (Bool.eq_iff_iff.2 (by simp))⟩
def mget{κ ν : Type}[DecidableEq κ]:List (κ × ν) → κ → Option ν
 | [],_=>none
 | p::m,k=>if k=p.1 then some p.2 else mget m k
def mset{κ ν : Type}[DecidableEq κ]:List (κ × ν) → κ → ν → List (κ × ν)
 | [],k,v=>[(k,v)]
 | p::m,k,v=>if k=p.1 then (p.1,v)::m else p::mset m k v
def look?{κ ν α : Type}[DecidableEq κ](m:List (κ × ν))(k : κ)(z : ν)(kont : ν → Bool→Option α):Option α := kont ((mget m k).getD z) (mget m k).isSome
theorem lookKey_eq{κ ν : Type}[DecidableEq κ]{kd:Nat}{ek : κ → AV}[IsKey kd ek](ev : ν → AV)(k : κ):∀ m:List (κ × ν),lookKey kd (ek k) (mk ek m) (mv ev m)=some ((mget m k).map ev)
 | []=>rfl
 | p::m=>by
  show lookKey kd (ek k) (ek p.1::mk ek m) (ev p.2::mv ev m)=_
  rw[lookKey,IsKey.eq (ek:=ek) k p.1]
  unfold mget
  by_cases h:k=p.1
  ·rw[if_pos h,decide_eq_true h];rfl
  ·rw[if_neg h,decide_eq_false h];exact lookKey_eq ev k m
theorem setKey_eq{κ ν : Type}[DecidableEq κ]{kd:Nat}{ek : κ → AV}[IsKey kd ek](ev : ν → AV)(k : κ)(v : ν):∀ m:List (κ × ν),setKey kd (ek k) (ev v) (mk ek m) (mv ev m)=some (mk ek (mset m k v),mv ev (mset m k v))
 | []=>rfl
 | p::m=>by
  show setKey kd (ek k) (ev v) (ek p.1::mk ek m) (ev p.2::mv ev m)=_
  rw[setKey,IsKey.eq (ek:=ek) k p.1]
  unfold mset
  by_cases h:k=p.1
  ·rw[if_pos h,decide_eq_true h];rfl
  ·rw[if_neg h,decide_eq_false h]
   show Option.map _ (setKey kd (ek k) (ev v) (mk ek m) (mv ev m))=_
   rw[setKey_eq ev k v m];rfl
theorem wm:(∀ b:Nat,(AV.mref b).fits 0=true)∧(∀ ks vs:List AV,(AV.mp ks vs).fits 0=true)∧(∀ b:Nat,(AV.mref b).one=true)∧(∀ ks vs:List AV,(AV.mp ks vs).one=true) ∧
  (∀ b:Nat,(AV.mref b).cells=[.mref b])∧(∀ ks vs:List AV,(AV.mp ks vs).cells=[.mp ks vs]) ∧
  (∀ (cs:List AV) (o b:Nat),splice cs o (.mref b)=cs.set o (.mref b))∧(∀ (cs:List AV) (o:Nat) (ks vs:List AV),splice cs o (.mp ks vs)=cs.set o (.mp ks vs)) ∧
  (AV.nilmp.fits 0=true)∧(AV.nilmp.one=true)∧(AV.nilmp.cells=[.nilmp])∧(∀ (cs:List AV) (o:Nat),splice cs o .nilmp=cs.set o .nilmp) ∧
  (∀ (n:Nat) (ks vs:List AV),plain (n + 1) (.mp ks vs)=true) :=
 ⟨fun _=>rfl,fun _ _=>rfl,fun _=>rfl,fun _ _=>rfl,fun _=>rfl,fun _ _=>rfl,fun _ _ _=>rfl,fun _ _ _ _=>rfl,rfl,rfl,rfl,fun _ _=>rfl,fun _ _ _=>rfl⟩
theorem map_ren4(ks:List Nat){τ : Type}{e:Nat}{enc : τ → AV}[IsEnc e enc](n:Nat)(xs:List τ):(xs.map enc).map (ren ks (n + 4))=xs.map enc:=by
 conv=>rhs;rw[← List.map_id (xs.map enc)]
 refine List.map_congr_left fun c hc=>?_
 obtain ⟨x,_,rfl⟩:=List.mem_map.1 hc
 exact ren_plain ks (n + 4) 4 _ (IsEnc.plain x) (by omega)
theorem wmr(ks:List Nat):(∀ (n b:Nat),ren ks (n + 1) (.mref b)=(match ks.idxOf? b with | some b=>.mref b | none=>.junk))∧(∀ (n:Nat) (k v:List AV),ren ks (n + 1) (.mp k v)=.mp k v)∧(∀ n:Nat,ren ks (n + 1) .nilmp=.nilmp)∧(∀ k v:List AV,renB ks (.map k v)=.map k v)∧(∀ {τ : Type}{e:Nat}{enc : τ → AV} [IsEnc e enc] (n:Nat) (xs:List τ),(xs.map enc).map (ren ks (n + 4))=xs.map enc) :=
 ⟨fun _ _=>rfl,fun _ _ _=>rfl,fun _=>rfl,fun _ _=>rfl,fun n xs=>map_ren4 ks n xs⟩
def eM{κ ν : Type}(ek : κ → AV)(ev : ν → AV)(m:List (κ × ν)):AV:=.mp (mk ek m) (mv ev m)
instance {κ ν : Type}(ek : κ → AV)(ev : ν → AV):IsEnc 0 (eM ek ev):=⟨fun _=>rfl,fun _=>rfl,fun _=>rfl⟩
theorem imm_mrefE(h:Hp)(n b:Nat):imm h (n + 1) (.mref b)=(match h[b]? with
  | some (.map ks vs)=>some (.mp ks vs)
  | _=>none):=rfl
theorem imm_mpE(h:Hp)(n:Nat)(ks vs:List AV):imm h (n + 1) (.mp ks vs)=some (.mp ks vs):=rfl
section
variable {F:CallF}{is:List Ins}{K:St→Prop}{s:Nat→AV}{h:Hp}{d:Option Nat}{α : Type}{r : α}
theorem evTs_lookR{κ ν : Type}[DecidableEq κ]{m:List (κ × ν)}{k : κ}{z : ν}{kont : ν → Bool→Option α}(H:look? m k z kont=some r){kd:Nat}{ek : κ → AV}[IsKey kd ek]{ev : ν → AV}{b:Nat}{z':AV}{x i:Od}(ok:Bool)
  (hx:x.ev s=.mref b) (hb:h[b]? = some (.map (mk ek m) (mv ev m))) (hi:i.ev s=ek k) (hz:lowZ 4 z'=ev z)
  (hk:∀ y c,kont y c=some r→evTs F is K ⟨put? s d (if ok then .tup [ev y,.bool c] else ev y),h⟩):evTs F (Ins.mk d none (.lookup kd z' ok x i)::is) K ⟨s,h⟩:=by
 refine step rfl ?_ (hk _ _ H)
 simp only[evV,hz,hx,hb,hi,IsKey.key,if_true,lookKey_eq,Option.isSome_map]
 cases mget m k<;>cases ok<;>rfl
theorem evTs_lookP{κ ν : Type}[DecidableEq κ]{m:List (κ × ν)}{k : κ}{z : ν}{kont : ν → Bool→Option α}(H:look? m k z kont=some r){kd:Nat}{ek : κ → AV}[IsKey kd ek]{ev : ν → AV}{z':AV}{x i:Od}(ok:Bool)
  (hx:x.ev s=.mp (mk ek m) (mv ev m)) (hi:i.ev s=ek k) (hz:lowZ 4 z'=ev z)
  (hk:∀ y c,kont y c=some r→evTs F is K ⟨put? s d (if ok then .tup [ev y,.bool c] else ev y),h⟩):evTs F (Ins.mk d none (.lookup kd z' ok x i)::is) K ⟨s,h⟩:=by
 refine step rfl ?_ (hk _ _ H)
 simp only[evV,hz,hx,hi,IsKey.key,if_true,lookKey_eq,Option.isSome_map]
 cases mget m k<;>cases ok<;>rfl
theorem evTs_mset{κ ν : Type}[DecidableEq κ]{m:List (κ × ν)}{kd:Nat}{ek : κ → AV}[IsKey kd ek]{ev : ν → AV}{e:Nat}[IsEnc e ev]{b:Nat}{x i j:Od}(k : κ)(v : ν)
  (hx:x.ev s=.mref b) (hb:h[b]? = some (.map (mk ek m) (mv ev m))) (hi:i.ev s=ek k) (hj:j.ev s=ev v)
  (hk:evTs F is K ⟨put? s d .junk,h.set b (.map (mk ek (mset m k v)) (mv ev (mset m k v)))⟩):evTs F (Ins.mk d none (.mapset kd x i j)::is) K ⟨s,h⟩:=by
 refine step rfl ?_ hk
 have hp:plain deep (ev v)=true:=plain_mono 4 deep _ (IsEnc.plain v) (by decide)
 have hf:freeze h (ev v)=some (ev v,h):=by unfold freeze;rw[if_pos hp]
 simp only[evV,hx,hi,hj,hf,hb,IsKey.key,if_true,setKey_eq,Option.map_some]
def eA{τ : Type}(enc : τ → AV)(xs:List τ):AV:=.agg (xs.map enc)
theorem onesB_enc{τ : Type}{enc : τ → AV}[IsEnc 0 enc](xs:List τ):onesB (xs.map enc)=true:=by
 unfold onesB
 rw[List.all_eq_true]
 intro c hc
 obtain ⟨x,_,rfl⟩:=List.mem_map.1 hc
 have:=IsEnc.fits (enc:=enc) x
 cases hx:enc x<;>rw[hx] at this<;>simp_all [AV.fits,AV.one]
theorem fits_eA{τ : Type}{enc : τ → AV}[IsEnc 0 enc]{n:Nat}{xs:List τ}(hl:xs.length=n)(hn:n≠0):(AV.agg (xs.map enc)).fits n=true:=by
 simp[AV.fits,onesB_enc,hl,hn]
theorem takeA{τ : Type}{enc : τ → AV}{n:Nat}{xs:List τ}(h:xs.length=n):(xs.map enc).take n=xs.map enc:=List.take_of_length_le (by simp[h])
class IsOne {τ : Type}(enc : τ → AV):Prop where
 unf:∀ n x,Ab.unf n (enc x)=enc x
instance (k:IntKind):IsOne (AV.int k):=⟨fun n _=>by cases n<;>rfl⟩
instance:IsOne AV.bool:=⟨fun n _=>by cases n<;>rfl⟩
instance:IsOne AV.str:=⟨fun n _=>by cases n<;>rfl⟩
theorem unr_eA{τ : Type}{enc : τ → AV}[IsOne enc](xs:List τ):unr (.agg (xs.map enc))=.agg (xs.map enc):=by
 show AV.agg ((xs.map enc).map (unf 11))=_
 rw[List.map_map]
 congr 1
 exact List.map_congr_left fun x _=>IsOne.unf 11 x
theorem evTs_aload{τ : Type}{enc : τ → AV}{n:Nat}{xs:List τ}{kont:Unit→Option α}(H:(must? (xs.length=n + 1)).bind kont=some r){b:Nat}{a:Od}(ha:a.ev s=.ptr b 0)(hb:h[b]? = some (.cel (xs.map enc)))
  (hk:kont ()=some r→evTs F is K ⟨put? s d (.agg (xs.map enc)),h⟩):evTs F (Ins.mk d none (.load (n + 1) a)::is) K ⟨s,h⟩:=by
 obtain ⟨hl,h2⟩:=must_inv H
 refine step rfl ?_ (hk h2)
 simp only[evV,ha,hb,pick?,Nat.succ_ne_zero,if_false,Nat.zero_add,List.length_map,hl,Nat.le_refl,if_true,Option.map_some,List.drop_zero]
 rw[List.take_of_length_le (by simp[hl])]
theorem evTs_astore{τ : Type}{enc : τ → AV}[IsEnc 0 enc]{n:Nat}{xs ys:List τ}{kont:Unit→Option α}(H:(must? (ys.length=n + 1∧xs.length=n + 1)).bind kont=some r){b:Nat}{a x:Od}(ha:a.ev s=.ptr b 0)(hb:h[b]? = some (.cel (ys.map enc)))
  (hx:x.ev s=.agg (xs.map enc)) (hk:kont ()=some r→evTs F is K ⟨put? s d .junk,h.set b (.cel (xs.map enc))⟩):evTs F (Ins.mk d none (.store (n + 1) a x)::is) K ⟨s,h⟩:=by
 obtain ⟨⟨hc,hl⟩,h2⟩:=must_inv H
 refine step rfl ?_ (hk h2)
 have hf:(AV.agg (xs.map enc)).fits (n + 1)=true:=fits_eA hl (by omega)
 have hz:esz (n + 1)=n + 1:=rfl
 simp only[evV,ha,hb,hx,hf,if_true,hz,List.length_map,hc,Nat.zero_add,Nat.le_refl,splice,List.take_zero,List.nil_append,hl]
 rw[List.drop_of_length_le (by simp[hc]),List.append_nil]
theorem plain_eA{τ : Type}{enc : τ → AV}{e:Nat}[IsEnc e enc](xs:List τ):plain deep (.agg (xs.map enc))=true:=by
 show (xs.map enc).all (plain 11)=true
 rw[List.all_eq_true]
 intro c hc
 obtain ⟨x,_,rfl⟩:=List.mem_map.1 hc
 exact plain_mono 4 11 _ (IsEnc.plain x) (by omega)
theorem evTs_aslc{τ : Type}{xs:List τ}{lo hi:Int}{kont:List τ → Option α}(H:(slc? xs lo hi).bind kont=some r){enc : τ → AV}{n b:Nat}{k k':IntKind}{x:Od}{l m:Option Od}
  (hx:x.ev s=.ptr b 0) (hn:xs.length=n) (h1:loI s l=.int k lo) (h2:hiI s n m=.int k' hi)
  (hk:∀ z,elems 0 (hi.toNat - lo.toNat) ((xs.map enc).drop lo.toNat)=some (z.map enc)→kont z=some r→evTs F is K ⟨put? s d (.arow 0 b lo.toNat (hi.toNat - lo.toNat)),h⟩):evTs F (Ins.mk d none (.aslice 0 n x l m)::is) K ⟨s,h⟩:=by
 obtain ⟨h0,z,hz,h3⟩:=slc_inv H
 refine step rfl ?_ (hk z ?_ h3)
 ·simp only[evV,hx,bounds_eq _ l m h1 h2 (by omega),Option.map_some,esz0,Nat.mul_one,Nat.zero_add]
 ·have e1:elems 0 (hi.toNat - lo.toNat) ((xs.map enc).drop lo.toNat)=some (((xs.map enc).drop lo.toNat).take (hi.toNat - lo.toNat)):=by
   have:∀ (ys:List AV) (j:Nat),j≤ys.length→elems 0 j ys=some (ys.take j):=by
    intro ys
    induction ys with
    | nil=>intro j hj;cases j with | zero=>rfl | succ j=>simp at hj
    | cons y ys ih =>
     intro j hj
     cases j with
     | zero=>rfl
     | succ j =>
      simp only[List.length_cons] at hj
      simp[elems,pick?,esz,ih j (by omega)]
   exact this _ _ (by simp;omega)
  rw[e1,hz]
  congr 1
  rw[List.map_drop,List.map_take,List.drop_take]
theorem imm_arowE(h:Hp)(n e b off len:Nat):imm h (n + 1) (.arow e b off len)=(match h[b]? with
  | some (.cel cs)=>match elems e len (cs.drop off) with
   | some xs=>(omap (imm h n) xs).map (.sl e false)
   | none=>none
  | _=>none):=rfl
end
end Go.Ab
