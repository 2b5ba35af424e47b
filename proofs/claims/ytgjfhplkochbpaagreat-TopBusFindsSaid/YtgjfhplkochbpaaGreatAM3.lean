import Derived.Test.YtgjfhplkochbpaaGreatAM2
import Derived.Carry
import Derived.SizedLaws
import Derived.OpenShut
import Derived.ShutString
import Derived.WideShapes
import Derived.Lib.Repeat
set_option linter.unusedSimpArgs false
set_option linter.unusedVariables false
namespace Go.Ab
open Go
variable {P:Program}
theorem Fn.fr{f:Nat}{args:List AV}{h:Hp}{e:Nat}{xs:List AV}{v:AV}(hp:Pure P f args (· = .tup [.fr e xs,v]))(ha:plain deep (.tup args)=true)(hv:AV.isFr v=false){K:AV→Hp→Prop}
  (hK:K (.tup [.row e h.length 0 xs.length,v]) (h++[.els e xs])):Fn P f args h K:=by
 refine Fn.pure hp (h1:=h) (as:=args) (by simp[freeze,ha]) fun r hr=>⟨_,_,?_,hK⟩
 subst hr
 have h1:flat deep (.tup [.fr e xs,v])=false:=rfl
 rw[h1]
 simp[adopt,adoptL,hv]
theorem Fresh.sl{S:Nat→Nat→Prop}{w:World}{lo e:Nat}{xs:List AV}{u:Value}(hf:Fresh S w lo e xs u)(hx:∀ x ∈ xs,x.fits e=true):RI (fun g o=>S g o∨(lo≤g∧g<w.heap.size)) w (.sl e false xs) u:=by
 obtain ⟨A,cap,rfl,hf⟩:=hf
 have hk:Kept S (fun g o=>S g o∨(lo≤g∧g<w.heap.size)) w w:=⟨fun _ _ h=>.inl h,fun _ _ _=>rfl,fun _ _ _ _ _ h=>h,fun _ _ _ _=>rfl⟩
 have hfit:∀ (i:Nat) x,xs[i]? = some x→x.fits e=true:=fun i x hi=>hx x (List.mem_of_getElem? hi)
 rcases hf with ⟨rfl,rfl⟩ | ⟨g,vals,t,fz,rfl,hlo,hg,hs,hv,hl,hm,_,hel⟩
 ·exact .sl e false [] A 0 0 0 (fun _=>undef) (Nat.le_refl _) (Nat.zero_le _) (fun _=>rfl) (.inl rfl) (fun i x hi=>by simp at hi) (fun i x hi=>by simp at hi) (fun i x hi=>by simp at hi) (fun _ h=>absurd rfl h)
 ·obtain ⟨uf,huf⟩:=choose_uf (xs:=xs) (Q:=fun i x v=>Shape e x∧RI S w x v∧v.cells.size=esz e∧∀ (j:Nat) c,v.cells[j]? = some c→vals[i * esz e + j]? = some c) (fun i x hi=>by
   obtain ⟨s1,v,s2,s3,s4⟩:=hel i x hi
   exact ⟨v,s1,s2,s3,s4⟩)
  have hgl:g<w.heap.size:=(Array.getElem?_eq_some_iff.1 hg).1
  refine .sl e false xs _ cap g 0 uf hl hm (fun h=>by cases h) (.inr rfl) hfit (fun i x hi j c hj=>⟨.inr ⟨hlo,hgl⟩,?_⟩) (fun i x hi=>(huf i x hi).2.1.kept hk) (fun h=>by cases h)
  rw[cell_vals hg,Nat.zero_add]
  exact (huf i x hi).2.2.2 j c hj
theorem cells_int(k:IntKind)(n:Int):(AV.int k n).cells=[.int k n]:=Eq.trans rfl rfl
theorem cells_str(s:List UInt8):(AV.str s).cells=[.str s]:=Eq.trans rfl rfl
theorem cells_bool(b:Bool):(AV.bool b).cells=[.bool b]:=Eq.trans rfl rfl
theorem cells_sl(e:Nat)(f:Bool)(xs:List AV):(AV.sl e f xs).cells=[.sl e f xs]:=Eq.trans rfl rfl
theorem cells_agg(cs:List AV):(AV.agg cs).cells=cs:=Eq.trans rfl rfl
theorem one_int(k:IntKind)(n:Int):(AV.int k n).one=true:=Eq.trans rfl rfl
theorem one_str(s:List UInt8):(AV.str s).one=true:=Eq.trans rfl rfl
theorem one_bool(b:Bool):(AV.bool b).one=true:=Eq.trans rfl rfl
theorem one_sl(e:Nat)(f:Bool)(xs:List AV):(AV.sl e f xs).one=true:=Eq.trans rfl rfl
theorem one_row(e b o l:Nat):(AV.row e b o l).one=true:=Eq.trans rfl rfl
theorem onesB_nil:onesB []=true:=Eq.trans rfl rfl
theorem onesB_cons(c:AV)(cs:List AV):onesB (c::cs)=(c.one && onesB cs):=Eq.trans rfl rfl
theorem expand_nil:expand []=[]:=Eq.trans rfl rfl
theorem expand_cons(n:Nat)(v:AV)(z:List (Nat×AV)):expand ((n,v)::z)=List.replicate n v++expand z:=Eq.trans rfl rfl
theorem splice_int(cs:List AV)(o:Nat)(k:IntKind)(n:Int):splice cs o (.int k n)=cs.set o (.int k n):=Eq.trans rfl rfl
theorem splice_str(cs:List AV)(o:Nat)(s:List UInt8):splice cs o (.str s)=cs.set o (.str s):=Eq.trans rfl rfl
theorem splice_bool(cs:List AV)(o:Nat)(b:Bool):splice cs o (.bool b)=cs.set o (.bool b):=Eq.trans rfl rfl
theorem splice_sl(cs:List AV)(o e:Nat)(f:Bool)(xs:List AV):splice cs o (.sl e f xs)=cs.set o (.sl e f xs):=Eq.trans rfl rfl
theorem splice_row(cs:List AV)(o e b p l:Nat):splice cs o (.row e b p l)=cs.set o (.row e b p l):=Eq.trans rfl rfl
theorem splice_agg(cs:List AV)(o:Nat)(us:List AV):splice cs o (.agg us)=cs.take o++us++cs.drop (o + us.length):=Eq.trans rfl rfl
theorem fits_sl(e:Nat)(f:Bool)(xs:List AV):(AV.sl e f xs).fits 0=true:=Eq.trans rfl rfl
theorem fits_row(e b o l:Nat):(AV.row e b o l).fits 0=true:=Eq.trans rfl rfl
theorem esz0:esz 0=1:=Eq.trans rfl rfl
theorem pick0(o:Nat)(cs:List AV):pick? 0 o cs=cs[o]? := Eq.trans rfl rfl
end Go.Ab
namespace Go.Ab
open Go
end Go.Ab
namespace Go.Ab
open Go
theorem vm{α β : Type}:(∀ (f : α → β) (a : α) (as:List α),(a::as).map f=f a::as.map f)∧(∀ (f : α → β),([]:List α).map f=[]) :=
 ⟨fun _ _ _=>rfl,fun _=>rfl⟩
end Go.Ab
namespace Go.Ab
open Go
inductive Ctl (S E:Type) where
 | next (s:S)
 | brk (e:E)
def iterN{S E:Type}(body:S→Option (Ctl S E)):Nat→S→Option E
 | 0,_=>none
 | n + 1,s=>match body s with
  | some (.next s')=>iterN body n s'
  | some (.brk e)=>some e
  | none=>none
section
variable {S E:Type}{body:S→Option (Ctl S E)}
theorem iterN_next{n:Nat}{s s':S}(h:body s=some (.next s')):iterN body (n + 1) s=iterN body n s':=by simp only[iterN,h]
theorem iterN_brk{n:Nat}{s:S}{e:E}(h:body s=some (.brk e)):iterN body (n + 1) s=some e:=by simp only[iterN,h]
theorem iterN_det:∀ {n m:Nat}{s:S}{e e':E},iterN body n s=some e→iterN body m s=some e'→e=e'
 | 0,_,_,_,_,h,_=>by simp[iterN] at h
 | _ + 1,0,_,_,_,_,h=>by simp[iterN] at h
 | n + 1,m + 1,s,e,e',h,k=>by
  simp only[iterN] at h k
  split at h
  ·rename_i s' hs
   rw[hs] at k
   exact iterN_det h k
  ·rename_i x hs
   rw[hs] at k
   injection h with h
   injection k with k
   exact h.symm.trans k
  ·cases h
open Classical in
noncomputable def iterC(body:S→Option (Ctl S E))(s:S):Option E:=if h:∃ e n,iterN body n s=some e then some h.choose else none
noncomputable def iter(body:S→Option (Ctl S E))(s:S):Option E:=match iterN body 4096 s with
 | some e=>some e
 | none=>iterC body s
theorem iter_eq(s:S):iter body s=iterC body s:=by
 unfold iter
 split
 ·rename_i e he
  unfold iterC
  have h:∃ e n,iterN body n s=some e:=⟨e,_,he⟩
  rw[dif_pos h]
  obtain ⟨n,hn⟩:=h.choose_spec
  rw[iterN_det he hn]
 ·rfl
theorem iter_some{s:S}{e:E}:iter body s=some e↔∃ n,iterN body n s=some e:=by
 rw[iter_eq]
 unfold iterC
 split
 ·rename_i h
  obtain ⟨n,hn⟩:=h.choose_spec
  constructor
  ·intro he
   injection he with he
   exact ⟨n,he ▸ hn⟩
  ·rintro ⟨m,hm⟩
   rw[iterN_det hn hm]
 ·rename_i h
  constructor
  ·intro he;cases he
  ·intro he;exact absurd ⟨e,he⟩ h
theorem iter_next{s s':S}(h:body s=some (.next s')):iter body s=iter body s':=by
 refine Option.ext fun e=>?_
 rw[iter_some,iter_some]
 constructor
 ·rintro ⟨n,hn⟩
  cases n with
  | zero=>simp[iterN] at hn
  | succ n=>exact ⟨n,by rwa [iterN_next h] at hn⟩
 ·rintro ⟨n,hn⟩
  exact ⟨n + 1,by rwa [iterN_next h]⟩
theorem iter_brk{s:S}{e:E}(h:body s=some (.brk e)):iter body s=some e:=iter_some.2 ⟨1,iterN_brk h⟩
theorem iter_rule(I:S→Prop)(μ : S→Nat)(Q:E→Prop)(h:∀ s,I s→(∃ s',body s=some (.next s')∧I s' ∧ μ s' < μ s)∨∃ e,body s=some (.brk e)∧Q e) :
  ∀ s,I s→∃ e,iter body s=some e∧Q e:=by
 have key:∀ m s,μ s=m→I s→∃ e,iter body s=some e∧Q e:=by
  intro m
  induction m using Nat.strongRecOn with
  | _ m ih =>
   intro s hm hI
   rcases h s hI with ⟨s',h1,h2,h3⟩ | ⟨e,h1,h2⟩
   ·rw[iter_next h1]
    exact ih (μ s') (hm ▸ h3) s' rfl h2
   ·exact ⟨e,iter_brk h1,h2⟩
 exact fun s hI=>key (μ s) s rfl hI
end
structure Lp (S E:Type) where
 body:S→Option (Ctl S E)
 cst:S→St
noncomputable def Lp.run{S E:Type}(L:Lp S E)(s:S):Option E:=iter L.body s
def at?{τ : Type}(xs:List τ)(i:Int):Option τ := if 0≤i then xs[i.toNat]? else none
def app?{τ : Type}(bytes:Nat)(xs ys:List τ):Option (List τ):=if (xs.length + ys.length) * bytes≤room∧xs.length + ys.length≤maxStr then some (xs++ys) else none
def slc?{τ : Type}(xs:List τ)(lo hi:Int):Option (List τ):=if 0≤lo∧lo≤hi∧hi≤xs.length then some ((xs.take hi.toNat).drop lo.toNat) else none
def cat?(a b:List UInt8):Option (List UInt8):=if a.length + b.length≤maxStr then some (a++b) else none
def unf:Nat→AV→AV
 | 0,v=>v
 | n + 1,v=>match v with
  | .sl e _ xs=>.sl e false xs
  | .agg cs=>.agg (cs.map (unf n))
  | .tup cs=>.tup (cs.map (unf n))
  | .fn f cs=>.fn f (cs.map (unf n))
  | .pro cs=>.pro (cs.map (unf n))
  | .nilmp=>.mp [] []
  | v=>v
theorem RI.unf{S:Nat→Nat→Prop}{w:World}:∀ (n:Nat) {v:AV}{u:Value},RI S w v u→RI S w (unf n v) u
 | 0,_,_,h=>h
 | n + 1,v,u,h=>by
  cases h with
  | sl e full xs A cap g o uu hl hm hf hA hx hc hr=>exact .sl e false xs A cap g o uu hl hm (fun h=>by cases h) hA hx hc hr (fun h=>by cases h)
  | agg cs us hs hr =>
   refine .agg _ us (by simpa using hs) fun i c z hc hz=>?_
   simp only[List.getElem?_map,Option.map_eq_some_iff] at hc
   obtain ⟨c',hc',rfl⟩:=hc
   exact (hr i c' z hc' hz).unf n
  | tup cs us hs hr =>
   refine .tup _ us (by simpa using hs) fun i c z hc hz=>?_
   simp only[List.getElem?_map,Option.map_eq_some_iff] at hc
   obtain ⟨c',hc',rfl⟩:=hc
   exact (hr i c' z hc' hz).unf n
  | fn f cs us hs hr =>
   refine .fn f _ us (by simpa using hs) fun i c z hc hz=>?_
   simp only[List.getElem?_map,Option.map_eq_some_iff] at hc
   obtain ⟨c',hc',rfl⟩:=hc
   exact (hr i c' z hc' hz).unf n
  | pro cs g o uu hc hr =>
   refine .pro _ g o uu (fun i c hi=>?_) fun i c hi=>?_
   ·simp only[List.getElem?_map,Option.map_eq_some_iff] at hi
    obtain ⟨c',hc',rfl⟩:=hi
    exact hc i c' hc'
   ·simp only[List.getElem?_map,Option.map_eq_some_iff] at hi
    obtain ⟨c',hc',rfl⟩:=hi
    exact (hr i c' hc').unf n
  | bool b=>exact .bool b
  | int k n=>exact .int k n
  | str s=>exact .str s
  | nilp=>exact .nilp
  | nilfn=>exact .nilfn
  | nilmp=>exact .mpn
  | mpn=>exact .mpn
  | mp ks vs g es cl hS hg h1 h2 hk hv=>exact .mp ks vs g es cl hS hg h1 h2 hk hv
theorem RV.unf{E:Env}{w:World}:∀ (n:Nat) {v:AV}{u:Value},RV E w v u→RV E w (Ab.unf n v) u
 | 0,_,_,h=>h
 | n + 1,v,u,h=>by
  cases h with
  | imm h=>exact .imm (h.unf _)
  | junk=>exact .junk _
  | ptr b off g h=>exact .ptr b off g h
  | eptr b i off g h=>exact .eptr b i off g h
  | row0 e b A h he=>exact .row0 e b A h he
  | row e b off len g cap A h he hA hl hc hm=>exact .row e b off len g cap A h he hA hl hc hm
  | arow e b off len g cap A h hA hl hm=>exact .arow e b off len g cap A h hA hl hm
  | crow0 e b A h he=>exact .crow0 e b A h he
  | crow e b off len g cap A h he hA hl hc hm=>exact .crow e b off len g cap A h he hA hl hc hm
  | mref b g h=>exact .mref b g h
  | bnd f cs us hs hr=>exact .bnd f cs us hs hr
  | agg cs us hs hr =>
   refine .agg _ us (by simpa using hs) fun i c z hc hz=>?_
   simp only[List.getElem?_map,Option.map_eq_some_iff] at hc
   obtain ⟨c',hc',rfl⟩:=hc
   exact (hr i c' z hc' hz).unf n
  | tup cs us hs hr =>
   refine .tup _ us (by simpa using hs) fun i c z hc hz=>?_
   simp only[List.getElem?_map,Option.map_eq_some_iff] at hc
   obtain ⟨c',hc',rfl⟩:=hc
   exact (hr i c' z hc' hz).unf n
  | fn f cs us hs hr =>
   refine .fn f _ us (by simpa using hs) fun i c z hc hz=>?_
   simp only[List.getElem?_map,Option.map_eq_some_iff] at hc
   obtain ⟨c',hc',rfl⟩:=hc
   exact (hr i c' z hc' hz).unf n
def unr(v:AV):AV:=match v with
 | .fr e xs=>.fr e xs
 | .tup cs=>.tup (cs.map (unf 12))
 | v=>unf 12 v
theorem unf_fr(n e:Nat)(xs:List AV):unf n (.fr e xs)=.fr e xs:=by cases n<;>rfl
theorem ResOK.unr{S:Nat→Nat→Prop}{w:World}{lo:Nat}{r:AV}{u:Value}(h:ResOK S w lo r u):ResOK S w lo (unr r) u:=by
 rcases h with h | ⟨e,xs,rfl,h⟩ | ⟨cs,us,rfl,rfl,hs,hall⟩
 ·cases r with
  | fr e xs=>cases h
  | tup cs =>
   have:=h.unf 13
   exact .inl this
  | _=>exact .inl (h.unf 12)
 ·exact .inr (.inl ⟨e,xs,rfl,h⟩)
 ·refine .inr (.inr ⟨cs.map (unf 12),us,rfl,rfl,by simpa using hs,fun i c v hc hv=>?_⟩)
  simp only[List.getElem?_map,Option.map_eq_some_iff] at hc
  obtain ⟨c',hc',rfl⟩:=hc
  rcases hall i c' v hc' hv with h | ⟨e,xs,rfl,h⟩
  ·exact .inl (h.unf 12)
  ·exact .inr ⟨e,xs,unf_fr _ _ _,h⟩
def unfr(v:AV):AV:=match v with
 | .fr e xs=>.sl e false xs
 | .tup cs=>.tup (cs.map fun c=>match c with | .fr e xs=>.sl e false xs | c=>c)
 | v=>v
def frFits:AV→Bool
 | .fr e xs=>xs.all fun x=>x.fits e
 | .tup cs=>cs.all fun c=>match c with | .fr e xs=>xs.all fun x=>x.fits e | _=>true
 | _=>true
section
variable {P:Program}
theorem Pure.unr{f:Nat}{args:List AV}{R:AV→Prop}(hp:Pure P f args R){R':AV→Prop}(hr:∀ r,R r→R' (unr r)):Pure P f args R':=by
 refine ⟨hp.1,let ⟨r,h⟩:=hp.2.1;⟨_,hr r h⟩,fun S w us h1 h2 h3=>Calls.mono (hp.2.2 S w us h1 h2 h3) ?_⟩
 rintro e w' ⟨u,S',r,rfl,hR,k1,k2,k3,k4,k5⟩
 exact ⟨u,S',_,rfl,hr r hR,k1,k2,k3,k4,k5.unr⟩
theorem Pure.args{f:Nat}{args:List AV}{R:AV→Prop}(hp:Pure P f (args.map (unf 12)) R):Pure P f args R :=
 ⟨hp.1,hp.2.1,fun S w us h1 h2 h3=>hp.2.2 S w us h1 (by simpa using h2) fun i c u hc hu=>by
  simp only[List.getElem?_map,Option.map_eq_some_iff] at hc
  obtain ⟨c',hc',rfl⟩:=hc
  exact (h3 i c' u hc' hu).unf 12⟩
theorem Pure.unfr{f:Nat}{args:List AV}{v:AV}(hp:Pure P f args (· = v))(hx:frFits v=true):Pure P f args (· = Ab.unfr v):=by
 refine ⟨hp.1,⟨_,rfl⟩,fun S w us h1 h2 h3=>Calls.mono (hp.2.2 S w us h1 h2 h3) ?_⟩
 rintro e' w' ⟨u,S',r,rfl,rfl,hb,hk,hn,ho,hres⟩
 have hkk:Kept S' (fun g o=>S' g o∨(w.heap.size≤g∧g<w'.heap.size)) w' w':=⟨fun _ _ h=>.inl h,fun _ _ _=>rfl,fun _ _ _ _ _ h=>h,fun _ _ _ _=>rfl⟩
 refine ⟨u,fun g o=>S' g o∨(w.heap.size≤g∧g<w'.heap.size),_,rfl,rfl,hb,hk.trans hkk,fun g o s=>?_,fun g o s=>?_,.inl ?_⟩
 ·rcases s with s | s
  ·exact hn g o s
  ·exact .inr s.1
 ·rcases s with s | s
  ·exact ho g o s
  ·exact s.2
 ·rcases hres with hres | ⟨e,xs,rfl,hf⟩ | ⟨cs,us',rfl,rfl,hs,hall⟩
  ·cases hres with
   | tup cs us' hs hr =>
    refine .tup _ us' (by simpa using hs) fun i c z hc hz=>?_
    simp only[List.getElem?_map,Option.map_eq_some_iff] at hc
    obtain ⟨c',hc',rfl⟩:=hc
    have:=(hr i c' z hc' hz).kept hkk
    cases c' with
    | fr e xs=>cases this
    | _=>exact this
   | sl e full xs A cap g o uu hl hm hf hA hxx hc hr hn=>exact (RI.sl e full xs A cap g o uu hl hm hf hA hxx hc hr hn).kept hkk
   | agg cs us hs hr=>exact (RI.agg cs us hs hr).kept hkk
   | fn f cs us hs hr=>exact (RI.fn f cs us hs hr).kept hkk
   | pro cs g o uu hc hr=>exact (RI.pro cs g o uu hc hr).kept hkk
   | bool b=>exact .bool b
   | int k n=>exact .int k n
   | str s=>exact .str s
   | nilp=>exact .nilp
   | nilfn=>exact .nilfn
   | nilmp=>exact .nilmp
   | mpn=>exact .mpn
   | mp ks vs g es cl hS hg h1 h2 hk hv=>exact (RI.mp ks vs g es cl hS hg h1 h2 hk hv).kept hkk
  ·simp only[frFits,List.all_eq_true] at hx
   exact hf.sl hx
  ·refine .tup _ us' (by simpa using hs) fun i c z hc hz=>?_
   simp only[List.getElem?_map,Option.map_eq_some_iff] at hc
   obtain ⟨c',hc',rfl⟩:=hc
   simp only[frFits,List.all_eq_true] at hx
   have hx':=hx c' (List.mem_of_getElem? hc')
   rcases hall i c' z hc' hz with h | ⟨e2,xs2,rfl,hfr⟩
   ·have:=h.kept hkk
    cases c' with
    | fr e xs=>cases this
    | _=>exact this
   ·simp only[List.all_eq_true] at hx'
    exact hfr.sl hx'
def Ends2(rs:List Rv)(fresh:Option Nat)(R:AV→Prop)(Q:Ex→St→Prop):Prop :=
 ∀ ex st v r,(ex=.normal∨ex=.ret)→resVs st rs=some v→handOver fresh st.h v=some r→R (unr r)→Q ex st
end
class IsEnc {τ : Type}(e:outParam Nat) (enc : τ → AV):Prop where
 plain:∀ x,Ab.plain 4 (enc x)=true
 fits:∀ x,(enc x).fits e=true
 unf:∀ x,Ab.unf 12 (enc x)=enc x
def eL{τ : Type}(e:Nat)(enc : τ → AV)(xs:List τ):AV:=.sl e false (xs.map enc)
instance (k:IntKind):IsEnc 0 (AV.int k):=⟨fun _=>rfl,fun _=>rfl,fun _=>rfl⟩
instance:IsEnc 0 AV.bool:=⟨fun _=>rfl,fun _=>rfl,fun _=>rfl⟩
instance:IsEnc 0 AV.str:=⟨fun _=>rfl,fun _=>rfl,fun _=>rfl⟩
instance {τ : Type}(e:Nat)(enc : τ → AV):IsEnc 0 (eL e enc):=⟨fun _=>rfl,fun _=>rfl,fun _=>rfl⟩
theorem plain_mono:∀ (n m:Nat) (v:AV),plain n v=true→n≤m→plain m v=true
 | 0,_,_,h,_=>by simp[plain] at h
 | n + 1,0,_,_,hl=>by omega
 | n + 1,m + 1,v,h,hl=>by
  cases v<;>simp only[plain] at h ⊢ <;> first
   | (cases h;done)
   | (rw[List.all_eq_true] at h ⊢
      exact fun c hc=>plain_mono n m c (h c hc) (by omega))
theorem enc_all4{τ : Type}{e:Nat}{enc : τ → AV}[IsEnc e enc](xs:List τ):(xs.map enc).all (plain 4)=true:=by
 rw[List.all_eq_true]
 intro c hc
 obtain ⟨n,_,rfl⟩:=List.mem_map.1 hc
 exact IsEnc.plain n
theorem enc_all{τ : Type}{e:Nat}{enc : τ → AV}[IsEnc e enc](xs:List τ):(xs.map enc).all (plain deep)=true:=by
 rw[List.all_eq_true]
 intro c hc
 obtain ⟨n,_,rfl⟩:=List.mem_map.1 hc
 exact plain_mono 4 deep _ (IsEnc.plain n) (by decide)
theorem enc_fits{τ : Type}{e:Nat}{enc : τ → AV}[IsEnc e enc](xs:List τ):(xs.map enc).all (fun x=>x.fits e)=true:=by
 rw[List.all_eq_true]
 intro c hc
 obtain ⟨n,_,rfl⟩:=List.mem_map.1 hc
 exact IsEnc.fits n
end Go.Ab
namespace Go.Ab
open Go
variable {P:Program}
section
variable {n lo:Nat}{Q:Ex→St→Prop}{st:St}
theorem AW.rseq{is:List Ins}{y:C}(h:evTs (Fn P) is (fun st=>AW P n lo y Q st) st):AW P n lo (.seq (.reg is) y) Q st:=AW.seq (AW.reg h)
theorem AW.rqseq{is:List Ins}{y:C}(h:evTs (Fnq P) is (fun st=>AW P n lo y Q st) st):AW P n lo (.seq (.regq is) y) Q st:=AW.seq (AW.regq h)
theorem AW.rend{is:List Ins}(h:evTs (Fn P) is (fun st=>Q .normal st) st):AW P n lo (.reg is) Q st:=AW.reg h
def seqQ(P:Program)(n lo:Nat)(y:C)(Q:Ex→St→Prop):Ex→St→Prop:=thenQ (AW P n lo y Q) Q
theorem AW.sseq{a y:C}(h:AW P n lo a (seqQ P n lo y Q) st):AW P n lo (.seq a y) Q st:=AW.seq h
theorem seqQ.norm{y:C}(h:AW P n lo y Q st):seqQ P n lo y Q .normal st:=h
theorem seqQ.exit{y:C}{i:Nat}(h:Q (.exit i) st):seqQ P n lo y Q (.exit i) st:=h
theorem seqQ.ret{y:C}(h:Q .ret st):seqQ P n lo y Q .ret st:=h
def blkQ(P:Program)(n lo:Nat)(id:Nat)(y:C)(Q:Ex→St→Prop):Ex→St→Prop
 | .normal,st=>AW P n lo y Q st
 | .exit i,st=>if i=id then AW P n lo y Q st else Q (.exit i) st
 | .ret,st=>Q .ret st
theorem AW.bseq{id:Nat}{c y:C}(h:AW P n lo c (blkQ P n lo id y Q) st):AW P n lo (.seq (.block id c) y) Q st:=by
 refine AW.seq (AW.block (AW.mono ?_ h))
 intro ex st' hq
 cases ex with
 | normal=>exact hq
 | ret=>exact hq
 | exit i =>
  simp only[blkQ] at hq
  simp only[blockQ]
  split at hq
  ·rename_i e;rw[if_pos e];exact hq
  ·rename_i e;rw[if_neg e];exact hq
def blk0(id:Nat)(Q:Ex→St→Prop):Ex→St→Prop:=blockQ id Q
theorem AW.bend{id:Nat}{c:C}(h:AW P n lo c (blk0 id Q) st):AW P n lo (.block id c) Q st:=AW.block h
theorem blkQ.norm{id:Nat}{y:C}(h:AW P n lo y Q st):blkQ P n lo id y Q .normal st:=h
theorem blkQ.here{id:Nat}{y:C}(h:AW P n lo y Q st):blkQ P n lo id y Q (.exit id) st:=by simp only[blkQ,if_true];exact h
theorem blkQ.out{id i:Nat}{y:C}(hi:(i == id)=false)(h:Q (.exit i) st):blkQ P n lo id y Q (.exit i) st:=by
 simp only[blkQ];rw[if_neg (by simpa using hi)];exact h
theorem blkQ.ret{id:Nat}{y:C}(h:Q .ret st):blkQ P n lo id y Q .ret st:=h
theorem blk0.norm{id:Nat}(h:Q .normal st):blk0 id Q .normal st:=h
theorem blk0.here{id:Nat}(h:Q .normal st):blk0 id Q (.exit id) st:=by simp only[blk0,blockQ,if_true];exact h
theorem blk0.out{id i:Nat}(hi:(i == id)=false)(h:Q (.exit i) st):blk0 id Q (.exit i) st:=by
 simp only[blk0,blockQ];rw[if_neg (by simpa using hi)];exact h
theorem blk0.ret{id:Nat}(h:Q .ret st):blk0 id Q .ret st:=h
def loopQ{S E R:Type}(L:Lp S E)(lo:Nat)(K:E→Option R)(r:R)(Q:Ex→St→Prop)(x:Ctl S E)(ex:Ex)(st':St):Prop :=
 match x with
 | .next s'=>ex=.normal∧Le lo st' (L.cst s')
 | .brk e=>ex≠.normal∧(K e=some r→Q ex st')
theorem AW.iter{S E R:Type}{L:Lp S E}{K:E→Option R}{r:R}{s0:S}{b:C}(H:(L.run s0).bind K=some r)(h0:Le lo st (L.cst s0))
  (hr:∀ s x st0,L.body s=some x→st0=L.cst s→AW P n lo b (loopQ L lo K r Q x) st0):AW P n lo (.loop b) Q st:=by
 obtain ⟨e,he,hk⟩:=Option.bind_eq_some_iff.1 H
 obtain ⟨m,hm⟩:=iter_some.1 he
 refine AW.weaken h0 (AW.loop (fun m st=>∃ s,st=L.cst s∧iterN L.body m s=some e) (m:=m) ⟨s0,rfl,hm⟩ ?_)
 rintro m st ⟨s,rfl,hm⟩
 cases m with
 | zero=>cases hm
 | succ m =>
  cases hb:L.body s with
  | none=>simp only[iterN,hb] at hm;cases hm
  | some x =>
   refine AW.mono ?_ (hr s x _ hb rfl)
   intro ex st' hq
   cases x with
   | next s' =>
    rw[iterN_next hb] at hm
    obtain ⟨rfl,hle⟩:=hq
    exact ⟨m,_,Nat.lt_succ_self _,hle,s',rfl,hm⟩
   | brk e' =>
    rw[iterN_brk hb] at hm
    injection hm with hm
    subst hm
    obtain ⟨hne,hq⟩:=hq
    have:=hq hk
    cases ex with
    | normal=>exact absurd rfl hne
    | exit id=>exact this
    | ret=>exact this
section
variable {S E R:Type}{L:Lp S E}{K:E→Option R}{r:R}{x:Ctl S E}
theorem loopQ.next{s':S}(H:some (Ctl.next s')=some x)(h:Le lo st (L.cst s')):loopQ L lo K r Q x .normal st:=by
 cases H;exact ⟨rfl,h⟩
theorem loopQ.exit{e:E}{id:Nat}(H:some (Ctl.brk e)=some x)(h:K e=some r→Q (.exit id) st):loopQ L lo K r Q x (.exit id) st:=by
 cases H;exact ⟨by simp,h⟩
theorem loopQ.ret{e:E}(H:some (Ctl.brk e)=some x)(h:K e=some r→Q .ret st):loopQ L lo K r Q x .ret st:=by
 cases H;exact ⟨by simp,h⟩
end
theorem AW.ifc{α : Type}{A B:Option α}{r : α}{b:Bool}(H:(if b=true then A else B)=some r){x:Od}{p q:C}(hx:x.ev st.s=.bool b)(h1:A=some r→AW P n lo p Q st)(h2:B=some r→AW P n lo q Q st) :
  AW P n lo (.cond x p q) Q st:=by
 cases b with
 | true=>exact AW.cond hx (h1 (by simpa using H))
 | false=>exact AW.cond hx (h2 (by simpa using H))
theorem AW.ift{x:Od}{p q:C}(hx:x.ev st.s=.bool true)(h:AW P n lo p Q st):AW P n lo (.cond x p q) Q st:=AW.cond hx h
theorem AW.iff{x:Od}{p q:C}(hx:x.ev st.s=.bool false)(h:AW P n lo q Q st):AW P n lo (.cond x p q) Q st:=AW.cond hx h
structure Jn (V R:Type) where
 run:V→Option R
 cst:V→St
theorem AW.join{V R:Type}(J:Jn V R){r:R}{hh:Option R}(_:hh=some r){a y:C}(hJ:∀ v st0,J.run v=some r→st0=J.cst v→AW P n lo y Q st0)
  (h:(∀ st' v,J.run v=some r→Le lo st' (J.cst v)→AW P n lo y Q st')→AW P n lo a (seqQ P n lo y Q) st):AW P n lo (.seq a y) Q st :=
 AW.sseq (h fun _ v hv hl=>AW.weaken hl (hJ v _ hv rfl))
theorem AW.joinB{V R:Type}(J:Jn V R){r:R}{hh:Option R}(_:hh=some r){id:Nat}{b y:C}(hJ:∀ v st0,J.run v=some r→st0=J.cst v→AW P n lo y Q st0)
  (h:(∀ st' v,J.run v=some r→Le lo st' (J.cst v)→AW P n lo y Q st')→AW P n lo b (blkQ P n lo id y Q) st):AW P n lo (.seq (.block id b) y) Q st :=
 AW.bseq (h fun _ v hv hl=>AW.weaken hl (hJ v _ hv rfl))
theorem Le.to{st2:St}(ks live:List Nat)(hn:ks.Nodup)(hlo:∀ b,b<lo→ks[b]? = some b)(e:Ab.restrict ks live st=st2):Le lo st st2:=e ▸ Le.restrict ks live hn hlo
theorem Le.none{st2:St}(ks live:List Nat)(hn:ks.Nodup)(e:Ab.restrict ks live st=st2):Le 0 st st2:=e ▸ Le.restrict ks live hn fun b hb=>absurd hb (Nat.not_lt_zero b)
end
section
variable {F:CallF}{is:List Ins}{K:St→Prop}{s:Nat→AV}{h:Hp}{d:Option Nat}{α : Type}{r : α}
theorem put_self(s:Nat→AV)(j:Nat)(v:AV)(hv:s j=v):put s j v=s:=by
 funext i
 simp only[put]
 split
 ·rename_i e;rw[e,hv]
 ·rfl
theorem evTs_ifg{A B:Option α}{b:Bool}(H:(if b=true then A else B)=some r){j:Nat}{w:Bool}{o:Op1}(hj:s j=.bool b)
  (h1:A=some r→evTs F (Ins.mk d (some (j,w)) o::is) K ⟨put s j (.bool true),h⟩) (h2:B=some r→evTs F (Ins.mk d (some (j,w)) o::is) K ⟨put s j (.bool false),h⟩) :
  evTs F (Ins.mk d (some (j,w)) o::is) K ⟨s,h⟩:=by
 cases b with
 | true=>have:=h1 (by simpa using H);rwa [put_self s j _ hj] at this
 | false=>have:=h2 (by simpa using H);rwa [put_self s j _ hj] at this
theorem step{o:Op1}{v:AV}{h':Hp}(hc:o.isCall=false)(hv:evV s h o=some (v,h'))(hk:evTs F is K ⟨put? s d v,h'⟩):evTs F (Ins.mk d none o::is) K ⟨s,h⟩:=by
 rw[evTs_op hc,hv];exact hk
theorem at_inv{τ : Type}{xs:List τ}{i:Int}{kont : τ → Option α}(H:(at? xs i).bind kont=some r):∃ y,0≤i∧xs[i.toNat]? = some y∧kont y=some r:=by
 obtain ⟨y,hy,hk⟩:=Option.bind_eq_some_iff.1 H
 unfold at? at hy
 split at hy
 ·exact ⟨y,by assumption,hy,hk⟩
 ·cases hy
theorem evTs_at{τ : Type}{xs:List τ}{i:Int}{kont : τ → Option α}(H:(at? xs i).bind kont=some r){enc : τ → AV}{e:Nat}{f:Bool}{k:IntKind}{x j:Od}(hx:x.ev s=.sl e f (xs.map enc))(hi:j.ev s=.int k i)
  (hk:∀ y,kont y=some r→evTs F is K ⟨put? s d (.pro (enc y).cells),h⟩):evTs F (Ins.mk d none (.iaddr e x j)::is) K ⟨s,h⟩:=by
 obtain ⟨y,h0,h1,h2⟩:=at_inv H
 refine step rfl ?_ (hk y h2)
 simp only[evV,hx,hi,h0,if_true,List.getElem?_map,h1,Option.map_some]
theorem evTs_sat{xs:List UInt8}{i:Int}{kont:UInt8→Option α}(H:(at? xs i).bind kont=some r){k:IntKind}{x j:Od}(hx:x.ev s=.str xs)(hi:j.ev s=.int k i)
  (hk:∀ y,kont y=some r→evTs F is K ⟨put? s d (.int .u8 (y.toNat:Int)),h⟩):evTs F (Ins.mk d none (.sidx x j)::is) K ⟨s,h⟩:=by
 obtain ⟨y,h0,h1,h2⟩:=at_inv H
 refine step rfl ?_ (hk y h2)
 simp only[evV,hx,hi,h0,if_true,h1,Option.map_some]
theorem app_inv{τ : Type}{bytes:Nat}{xs ys:List τ}{kont:List τ → Option α}(H:(app? bytes xs ys).bind kont=some r) :
  ∃ z,z=xs++ys∧(xs.length + ys.length) * bytes≤room∧xs.length + ys.length≤maxStr∧kont z=some r:=by
 obtain ⟨z,hz,hk⟩:=Option.bind_eq_some_iff.1 H
 unfold app? at hz
 split at hz
 ·rename_i hc
  injection hz with hz
  exact ⟨z,hz.symm,hc.1,hc.2,hk⟩
 ·cases hz
theorem evTs_app{τ : Type}{bytes:Nat}{xs ys:List τ}{kont:List τ → Option α}(H:(app? bytes xs ys).bind kont=some r){enc : τ → AV}{e b m:Nat}{f:Bool}{x y:Od}
  (hx:x.ev s=.row e b 0 m) (hm:m=xs.length) (hb:h[b]? = some (.els e (xs.map enc))) (hy:y.ev s=.sl e f (ys.map enc))
  (hk:∀ z,kont z=some r→evTs F is K ⟨put? s d (.row e h.length 0 z.length),h.set b .dead++[.els e (z.map enc)]⟩):evTs F (Ins.mk d none (.append e bytes x y)::is) K ⟨s,h⟩:=by
 obtain ⟨z,rfl,h1,h2,h3⟩:=app_inv H
 subst hm
 refine step rfl ?_ (hk _ h3)
 simp only[evV,hx,hy]
 rw[append_row hb (by simp) (by simpa using h1) (by simpa using h2)]
 simp
theorem evTs_app0{τ : Type}{bytes:Nat}{ys:List τ}{kont:List τ → Option α}(H:(app? bytes [] ys).bind kont=some r){enc : τ → AV}{e:Nat}{f:Bool}{x y:Od}
  (hx:x.ev s=.sl e true []) (hy:y.ev s=.sl e f (ys.map enc))
  (hk:∀ z,kont z=some r→evTs F is K ⟨put? s d (.row e h.length 0 z.length),h++[.els e (z.map enc)]⟩):evTs F (Ins.mk d none (.append e bytes x y)::is) K ⟨s,h⟩:=by
 obtain ⟨z,rfl,h1,h2,h3⟩:=app_inv H
 refine step rfl ?_ (hk _ h3)
 simp only[List.length_nil,Nat.zero_add] at h1 h2
 simp[evV,hx,hy,append,appendL,srcElems,h1,h2]
theorem rest_cat{a b:List UInt8}{kont:List UInt8→Option α}(H:(cat? a b).bind kont=some r)
  (hk:∀ z,kont z=some r→rest F is K s d (some (.str z,h))):rest F is K s d (Option.map (fun v=>(v,h)) (bin .add (.str a) (.str b))):=by
 obtain ⟨z,hz,h3⟩:=Option.bind_eq_some_iff.1 H
 unfold cat? at hz
 split at hz
 ·rename_i hc
  injection hz with hz;subst hz
  simp only[bin,binS,hc,if_true]
  exact hk _ h3
 ·cases hz
theorem slc_inv{τ : Type}{xs:List τ}{lo hi:Int}{kont:List τ → Option α}(H:(slc? xs lo hi).bind kont=some r) :
  (0≤lo∧lo≤hi∧hi≤xs.length)∧∃ z,z=(xs.take hi.toNat).drop lo.toNat∧kont z=some r:=by
 obtain ⟨z,hz,hk⟩:=Option.bind_eq_some_iff.1 H
 unfold slc? at hz
 split at hz
 ·rename_i hc
  injection hz with hz
  exact ⟨hc,z,hz.symm,hk⟩
 ·cases hz
def loI(s:Nat→AV):Option Od→AV
 | none=>.int .i64 0
 | some x=>x.ev s
def hiI(s:Nat→AV)(n:Nat):Option Od→AV
 | none=>.int .i64 n
 | some x=>x.ev s
theorem bounds_eq(n:Nat)(lo hi:Option Od){k k':IntKind}{a b:Int}(h1:loI s lo=.int k a)(h2:hiI s n hi=.int k' b)(h3:0≤a∧a≤b∧b≤n):bounds s n lo hi=some (a.toNat,b.toNat):=by
 have e:bounds s n lo hi=(match loI s lo,hiI s n hi with
  | .int _ a,.int _ b=>if 0≤a∧a≤b∧b≤n then some (a.toNat,b.toNat) else none
  | _,_=>none):=by cases lo<;>cases hi<;>rfl
 rw[e,h1,h2]
 simp only[h3,and_self,if_true]
theorem evTs_slc{τ : Type}{xs:List τ}{a b:Int}{kont:List τ → Option α}(H:(slc? xs a b).bind kont=some r){enc : τ → AV}{e:Nat}{f:Bool}{k k':IntKind}{x:Od}{lo hi:Option Od}
  (hx:x.ev s=.sl e f (xs.map enc)) (hf:(f && (xs.map enc).isEmpty)=false) (h1:loI s lo=.int k a) (h2:hiI s xs.length hi=.int k' b)
  (hk:∀ z,kont z=some r→evTs F is K ⟨put? s d (.sl e false (z.map enc)),h⟩):evTs F (Ins.mk d none (.slice e x lo hi)::is) K ⟨s,h⟩:=by
 obtain ⟨h0,z,rfl,h3⟩:=slc_inv H
 refine step rfl ?_ (hk _ h3)
 simp only[evV,hx,hf,if_true,List.length_map,bounds_eq _ lo hi h1 h2 h0,Option.map_some,List.map_drop,List.map_take]
theorem evTs_sslc{xs:List UInt8}{a b:Int}{kont:List UInt8→Option α}(H:(slc? xs a b).bind kont=some r){k k':IntKind}{x:Od}{lo hi:Option Od}
  (hx:x.ev s=.str xs) (h1:loI s lo=.int k a) (h2:hiI s xs.length hi=.int k' b)
  (hk:∀ z,kont z=some r→evTs F is K ⟨put? s d (.str z),h⟩):evTs F (Ins.mk d none (.sslice x lo hi)::is) K ⟨s,h⟩:=by
 obtain ⟨h0,z,rfl,h3⟩:=slc_inv H
 refine step rfl ?_ (hk _ h3)
 simp only[evV,hx,bounds_eq _ lo hi h1 h2 h0,Option.map_some]
end
section
variable {is:List Ins}{K:St→Prop}{s:Nat→AV}{h:Hp}{d:Option Nat}{α β : Type}{r : α}
theorem Fn.val2{f:Nat}{args:List AV}{h:Hp}{v:AV}(hp:Pure P f (args.map (unf 12)) (· = v))(ha:plain deep (.tup args)=true)(hr:adopt h v=some (v,h)){K:AV→Hp→Prop}(hK:K v h):Fn P f args h K :=
 Fn.val hp.args ha hr hK
theorem Fn.valf{f:Nat}{args as:List AV}{h:Hp}{v:AV}(hp:Pure P f (as.map (unf 12)) (· = v))(ha:imm h deep (.tup args)=some (.tup as))(hf:flat deep v=true)(hr:adopt h v=some (v,h)){K:AV→Hp→Prop}(hK:K v h):Fn P f args h K:=by
 by_cases hpl:plain deep (.tup args)=true
 ·have:as=args:=by
   have:=imm_plain h deep deep _ hpl (Nat.le_refl _)
   rw[this] at ha
   injection ha with ha;injection ha with ha
   exact ha.symm
  subst this
  exact Fn.val hp.args hpl hr hK
 ·refine Fn.pure hp.args (h1:=kill h (visit h deep (.tup args))) (by simp only[freeze,hpl,ha];rfl) fun x hx=>⟨v,h,?_,hK⟩
  subst hx
  rw[hf]
  exact hr
theorem evTs_pure{F:CallF}(hF:∀ k args h K,Fn P k args h (fun v h'=>h'=h∧K v h')→F k args h K){m:Option β}{kont : β → Option α}(H:m.bind kont=some r){k:Nat}{as':List AV}{enc : β → AV}(spec:∀ y,m=some y→Pure P k as' (· = enc y))
  {f:Od}{as:List Od}{caps args:List AV}(hf:f.ev s=.fn k caps) (ha:as.map (Od.ev s)++caps=args) (hpl:plain deep (.tup args)=true) (hu:args.map (unf 12)=as') (hr:∀ y,adopt h (enc y)=some (enc y,h))
  (hk:∀ y,kont y=some r→evTs F is K ⟨put? s d (enc y),h⟩):evTs F (Ins.mk d none (.call f as)::is) K ⟨s,h⟩:=by
 obtain ⟨y,hy,h2⟩:=Option.bind_eq_some_iff.1 H
 refine evTs_call hf (hF _ _ _ _ ?_)
 subst hu
 rw[ha]
 exact Fn.val2 (spec y hy) hpl (hr y) ⟨rfl,hk y h2⟩
theorem evTs_flat{F:CallF}(hF:∀ k args h K,Fn P k args h (fun v h'=>h'=h∧K v h')→F k args h K){m:Option β}{kont : β → Option α}(H:m.bind kont=some r){k:Nat}{as':List AV}{enc : β → AV}(spec:∀ y,m=some y→Pure P k as' (· = enc y))
  {f:Od}{as:List Od}{caps args ims:List AV}(hf:f.ev s=.fn k caps) (ha:as.map (Od.ev s)++caps=args) (him:imm h deep (.tup args)=some (.tup ims)) (hu:ims.map (unf 12)=as') (hfl:∀ y,flat deep (enc y)=true) (hr:∀ y,adopt h (enc y)=some (enc y,h))
  (hk:∀ y,kont y=some r→evTs F is K ⟨put? s d (enc y),h⟩):evTs F (Ins.mk d none (.call f as)::is) K ⟨s,h⟩:=by
 obtain ⟨y,hy,h2⟩:=Option.bind_eq_some_iff.1 H
 refine evTs_call hf (hF _ _ _ _ ?_)
 subst hu
 rw[ha]
 exact Fn.valf (spec y hy) him (hfl y) (hr y) ⟨rfl,hk y h2⟩
theorem hFn(k:Nat)(args:List AV)(h:Hp)(K:AV→Hp→Prop)(hf:Fn P k args h (fun v h'=>h'=h∧K v h')):Fn P k args h K:=hf.mono fun _ _ k=>k.2
theorem hFnq(k:Nat)(args:List AV)(h:Hp)(K:AV→Hp→Prop)(hf:Fn P k args h (fun v h'=>h'=h∧K v h')):Fnq P k args h K:=hf
theorem evTs_fr{m:Option β}{kont : β → Option α}(H:m.bind kont=some r){k:Nat}{as':List AV}{enc : β → AV}(spec:∀ y,m=some y→Pure P k as' (· = enc y))
  {f:Od}{as:List Od}{caps args:List AV}(hf:f.ev s=.fn k caps) (ha:as.map (Od.ev s)++caps=args) (hpl:plain deep (.tup args)=true) (hu:args.map (unf 12)=as') {enc' : β → AV}{blk : β → HB}(hr:∀ y,adopt h (enc y)=some (enc' y,h++[blk y]))
  (hk:∀ y,kont y=some r→evTs (Fn P) is K ⟨put? s d (enc' y),h++[blk y]⟩):evTs (Fn P) (Ins.mk d none (.call f as)::is) K ⟨s,h⟩:=by
 obtain ⟨y,hy,h2⟩:=Option.bind_eq_some_iff.1 H
 refine evTs_call hf ?_
 subst hu
 rw[ha]
 refine Fn.pure (spec y hy).args (h1:=h) (by simp[freeze,hpl]) fun x hx=>⟨_,_,?_,hk y h2⟩
 subst hx
 rw[ite_self]
 exact hr y
end
end Go.Ab
namespace Go.Ab
open Go
theorem nc:(∀ a0,(Op1.mv a0).isCall=false) ∧
  (∀ a0 a1 a2,(Op1.pick a0 a1 a2).isCall=false) ∧
  (∀ a0,(Op1.box a0).isCall=false) ∧
  (∀ a0,(Op1.alloc a0).isCall=false) ∧
  (∀ a0 a1,(Op1.build a0 a1).isCall=false) ∧
  (∀ a0 a1 a2 a3,(Op1.mksl a0 a1 a2 a3).isCall=false) ∧
  (∀ a0 a1 a2 a3,(Op1.mkslp a0 a1 a2 a3).isCall=false) ∧
  (∀ a0 a1,(Op1.load a0 a1).isCall=false) ∧
  (∀ a0 a1 a2,(Op1.store a0 a1 a2).isCall=false) ∧
  (∀ a0,(Op1.nilchk a0).isCall=false) ∧
  (∀ a0 a1 a2,(Op1.bin a0 a1 a2).isCall=false) ∧
  (∀ a0 a1 a2,(Op1.binb a0 a1 a2).isCall=false) ∧
  (∀ a0 a1 a2 a3,(Op1.eqs a0 a1 a2 a3).isCall=false) ∧
  (∀ a0 a1 a2,(Op1.eqp a0 a1 a2).isCall=false) ∧
  (∀ a0 a1,(Op1.un a0 a1).isCall=false) ∧
  (∀ a0 a1,(Op1.cint a0 a1).isCall=false) ∧
  (∀ a0 a1,(Op1.mkfn a0 a1).isCall=false) ∧
  (∀ a0 a1 a2 a3 a4,(Op1.aslice a0 a1 a2 a3 a4).isCall=false) ∧
  (∀ a0 a1,(Op1.faddr a0 a1).isCall=false) ∧
  (∀ a0 a1 a2,(Op1.fld a0 a1 a2).isCall=false) ∧
  (∀ a0 a1,(Op1.ext a0 a1).isCall=false) ∧
  (∀ a0 a1,(Op1.len a0 a1).isCall=false) ∧
  (∀ a0,(Op1.alen a0).isCall=false) ∧
  (∀ a0 a1 a2,(Op1.maxmin a0 a1 a2).isCall=false) ∧
  ((Op1.mkmap).isCall=false) :=
 ⟨fun _=>rfl,fun _ _ _=>rfl,fun _=>rfl,fun _=>rfl,fun _ _=>rfl,fun _ _ _ _=>rfl,fun _ _ _ _=>rfl,fun _ _=>rfl,fun _ _ _=>rfl,fun _=>rfl,fun _ _ _=>rfl,fun _ _ _=>rfl,fun _ _ _ _=>rfl,fun _ _ _=>rfl,fun _ _=>rfl,fun _ _=>rfl,fun _ _=>rfl,fun _ _ _ _ _=>rfl,fun _ _=>rfl,fun _ _ _=>rfl,fun _ _=>rfl,fun _ _=>rfl,fun _=>rfl,fun _ _ _=>rfl,rfl⟩
theorem wk :
  (∀ (F:CallF) (K:St→Prop) (s:Nat→AV) (h:Hp),evTs F [] K ⟨s,h⟩=K ⟨s,h⟩) ∧
  (∀ (F:CallF) (is:List Ins) (K:St→Prop) (s:Nat→AV) (h:Hp) (d:Option Nat) (o:Op1) (hc:o.isCall=false),evTs F (Ins.mk d none o::is) K ⟨s,h⟩=rest F is K s d (evV s h o)) ∧
  (∀ (F:CallF) (is:List Ins) (K:St→Prop) (s:Nat→AV) (d:Option Nat) (v:AV) (h':Hp),rest F is K s d (some (v,h'))=evTs F is K ⟨put? s d v,h'⟩) ∧
  (∀ (F:CallF) (is:List Ins) (K:St→Prop) (s:Nat→AV) (h:Hp) (d:Option Nat) (j:Nat) (w:Bool) (o:Op1) (hb:s j=.bool w),evTs F (Ins.mk d (some (j,w)) o::is) K ⟨s,h⟩=evTs F (Ins.mk d none o::is) K ⟨s,h⟩) ∧
  (∀ (F:CallF) (is:List Ins) (K:St→Prop) (s:Nat→AV) (h:Hp) (d:Option Nat) (j:Nat) (w:Bool) (o:Op1) (hb:s j=.bool (!w)),evTs F (Ins.mk d (some (j,w)) o::is) K ⟨s,h⟩=evTs F is K ⟨put? s d (.tup []),h⟩) ∧
  (∀ (F:CallF) (is:List Ins) (K:St→Prop) (s:Nat→AV) (h:Hp) (d:Option Nat) (j:Nat) (w:Bool) (o:Op1) (hb:s j=.tup []),evTs F (Ins.mk d (some (j,w)) o::is) K ⟨s,h⟩=evTs F is K ⟨put? s d (.tup []),h⟩) ∧
  (∀ (s:Nat→AV) (v:AV),(Od.c v).ev s=v) ∧
  (∀ (s:Nat→AV) (i:Nat),(Od.t i).ev s=s i) ∧
  (∀ (s:Nat→AV) (i:Nat) (v:AV),put? s (some i) v=put s i v) ∧
  (∀ (s:Nat→AV) (v:AV),put? s none v=s) ∧
  (∀ (s:Nat→AV) (i:Nat) (v:AV) (j:Nat),put s i v j=if j=i then v else s j) ∧
  (∀ (v:AV) (vs:List AV),slotsOf (v::vs) 0=v) ∧
  (∀ (v:AV) (vs:List AV) (n:Nat) (hn:n≠0),slotsOf (v::vs) n=slotsOf vs (n - 1)) ∧
  (∀ (k:IntKind) (a b:Int),bin .add (.int k a) (.int k b)=some (.int k (k.wrap (a + b)))) ∧
  (∀ (k:IntKind) (a b:Int),bin .sub (.int k a) (.int k b)=some (.int k (k.wrap (a - b)))) ∧
  (∀ (k:IntKind) (a b:Int),bin .mul (.int k a) (.int k b)=some (.int k (k.wrap (a * b)))) ∧
  (∀ (k:IntKind) (a b:Int) (hb:¬ (b=0)),bin .quo (.int k a) (.int k b)=some (.int k (k.wrap (a.tdiv b)))) ∧
  (∀ (k:IntKind) (a b:Int) (hb:¬ (b=0)),bin .rem (.int k a) (.int k b)=some (.int k (a.tmod b))) ∧
  (∀ (k:IntKind) (a b:Int),bin .eql (.int k a) (.int k b)=some (.bool (decide (a=b)))) ∧
  (∀ (k:IntKind) (a b:Int),bin .neq (.int k a) (.int k b)=some (.bool (decide (a≠b)))) ∧
  (∀ (k:IntKind) (a b:Int),bin .lss (.int k a) (.int k b)=some (.bool (decide (a<b)))) ∧
  (∀ (k:IntKind) (a b:Int),bin .leq (.int k a) (.int k b)=some (.bool (decide (a≤b)))) ∧
  (∀ (k:IntKind) (a b:Int),bin .gtr (.int k a) (.int k b)=some (.bool (decide (b<a)))) ∧
  (∀ (k:IntKind) (a b:Int),bin .geq (.int k a) (.int k b)=some (.bool (decide (b≤a)))) ∧
  (∀ (k:IntKind) (n:Int),(AV.int k n).fits 0=true) ∧
  (∀ (s:List UInt8),(AV.str s).fits 0=true) ∧
  (∀ (b:Bool),(AV.bool b).fits 0=true) ∧
  (∀ (e:Nat) (f:Bool) (xs:List AV),(AV.sl e f xs).fits 0=true) ∧
  (∀ (e b o l:Nat),(AV.row e b o l).fits 0=true) ∧
  (∀ (k:IntKind) (n:Int),(AV.int k n).cells=[.int k n]) ∧
  (∀ (s:List UInt8),(AV.str s).cells=[.str s]) ∧
  (∀ (b:Bool),(AV.bool b).cells=[.bool b]) ∧
  (∀ (e:Nat) (f:Bool) (xs:List AV),(AV.sl e f xs).cells=[.sl e f xs]) ∧
  (∀ (cs:List AV),(AV.agg cs).cells=cs) ∧
  (∀ (k:IntKind) (n:Int),(AV.int k n).one=true) ∧
  (∀ (s:List UInt8),(AV.str s).one=true) ∧
  (∀ (b:Bool),(AV.bool b).one=true) ∧
  (∀ (e:Nat) (f:Bool) (xs:List AV),(AV.sl e f xs).one=true) ∧
  (∀ (e b o l:Nat),(AV.row e b o l).one=true) ∧
  (onesB []=true) ∧
  (∀ (c:AV) (cs:List AV),onesB (c::cs)=(c.one && onesB cs)) ∧
  (expand []=[]) ∧
  (∀ (n:Nat) (v:AV) (z:List (Nat×AV)),expand ((n,v)::z)=List.replicate n v++expand z) ∧
  (∀ (cs:List AV) (o:Nat) (k:IntKind) (n:Int),splice cs o (.int k n)=cs.set o (.int k n)) ∧
  (∀ (cs:List AV) (o:Nat) (s:List UInt8),splice cs o (.str s)=cs.set o (.str s)) ∧
  (∀ (cs:List AV) (o:Nat) (b:Bool),splice cs o (.bool b)=cs.set o (.bool b)) ∧
  (∀ (cs:List AV) (o e:Nat) (f:Bool) (xs:List AV),splice cs o (.sl e f xs)=cs.set o (.sl e f xs)) ∧
  (∀ (cs:List AV) (o e b p l:Nat),splice cs o (.row e b p l)=cs.set o (.row e b p l)) ∧
  (∀ (cs:List AV) (o:Nat) (us:List AV),splice cs o (.agg us)=cs.take o++us++cs.drop (o + us.length)) ∧
  (esz 0=1) ∧
  (∀ (o:Nat) (cs:List AV),pick? 0 o cs=cs[o]?) ∧
  (∀ (k:IntKind) (a b:Int),foldMax true (.int k a) [.int k b]=some (.int k (if b > a then b else a))) ∧
  (∀ (k:IntKind) (a b:Int),foldMax false (.int k a) [.int k b]=some (.int k (if b<a then b else a))) ∧
  (∀ (s:Nat→AV) (z:List AV),fill s z []=some z) ∧
  (∀ (s:Nat→AV) (z:List AV) (o e:Nat) (x:Od) (ps:List (Nat×Nat×Od)),fill s z ((o,e,x)::ps)=if (x.ev s).fits e=true∧o + esz e≤z.length then fill s (splice z o (x.ev s)) ps else none) ∧
  (∀ (s:Nat→AV) (e:Nat) (z:List AV),fillE s e z []=some z) ∧
  (∀ (s:Nat→AV) (e:Nat) (z:List AV) (i:Nat) (x:Od) (ps:List (Nat×Od)),fillE s e z ((i,x)::ps)=if (x.ev s).fits e=true∧i<z.length then fillE s e (z.set i (x.ev s)) ps else none) ∧
  (∀ (n:Nat),esz (n + 1)=n + 1) ∧
  (∀ (n o:Nat) (cs:List AV),pick? (n + 1) o cs=if o + (n + 1)≤cs.length then some (.agg ((cs.drop o).take (n + 1))) else none) ∧
  (∀ (e:Nat) (cs:List AV),(AV.agg cs).fits (e + 1)=((e + 1) == cs.length && onesB cs)) ∧
  (∀ (b o:Nat),(AV.ptr b o).fits 0=true) ∧
  (AV.nilp.fits 0=true) ∧
  (AV.nilfn.fits 0=true) ∧
  (∀ (f:Nat) (cs:List AV),(AV.fn f cs).fits 0=true) ∧
  (∀ (b o:Nat),(AV.ptr b o).one=true) ∧
  (AV.nilp.one=true) ∧
  (AV.nilfn.one=true) ∧
  (∀ (f:Nat) (cs:List AV),(AV.fn f cs).one=true) ∧
  (∀ (cs:List AV),(AV.pro cs).one=true) ∧
  (∀ (b o:Nat),(AV.ptr b o).cells=[.ptr b o]) ∧
  (∀ (f:Nat) (cs:List AV),(AV.fn f cs).cells=[.fn f cs]) ∧
  (∀ (e b o l:Nat),(AV.row e b o l).cells=[.row e b o l]) ∧
  (∀ (cs:List AV) (o b p:Nat),splice cs o (.ptr b p)=cs.set o (.ptr b p)) ∧
  (∀ (cs:List AV) (o f:Nat) (qs:List AV),splice cs o (.fn f qs)=cs.set o (.fn f qs)) ∧
  (∀ (cs:List AV) (o:Nat),splice cs o .nilp=cs.set o .nilp) ∧
  (∀ (a b:Bool),binb .eql (.bool a) (.bool b)=some (.bool (a == b))) ∧
  (∀ (a b:Bool),binb .neq (.bool a) (.bool b)=some (.bool (!(a == b)))) ∧
  (∀ (a b:List UInt8),bin .eql (.str a) (.str b)=some (.bool (a == b))) ∧
  (∀ (a b:List UInt8),bin .neq (.str a) (.str b)=some (.bool (!(a == b)))) ∧
  (∀ (b:Bool),(if b=true then true else true)=true) ∧
  (∀ (f:Od→AV) (a:Od) (as:List Od),(a::as).map f=f a::as.map f) ∧
  (∀ (f:Od→AV),([]:List Od).map f=[]) ∧
  (∀ (h:Hp) (v:AV) (hp:plain deep v=true),freeze h v=some (v,h)) ∧
  (∀ (p:Prop),(p∧p)=p) ∧
  (∀ (f:AV×Hp→AV×Hp) (a:AV×Hp),(some a).map f=some (f a)) ∧
  (∀ (f:AV→AV×Hp) (a:AV),(some a).map f=some (f a)) ∧
  (∀ (f:Bool→AV×Hp) (a:Bool),(some a).map f=some (f a)) ∧
  (∀ (f:List AV→AV×Hp) (a:List AV),(some a).map f=some (f a)) ∧
  (∀ (b:Bool),(b && b)=b) ∧
  (∀ (b:Bool),(true && b)=b) ∧
  ((!true)=false) ∧
  ((!false)=true) ∧
  ((false=true)=False) ∧
  ((¬False)=True) ∧
  (∀ (a b:Nat),(a≠b)=¬(a=b)) ∧
  (∀ (α β : Type) (f : α → β) (xs:List α),(xs.map f).length=xs.length) ∧
  (∀ (cs:List AV),plain deep (.tup cs)=cs.all (plain 11)) ∧
  (∀ (n:Nat) (k:IntKind) (a:Int),plain (n + 1) (.int k a)=true) ∧
  (∀ (n:Nat) (b:Bool),plain (n + 1) (.bool b)=true) ∧
  (∀ (n:Nat) (s:List UInt8),plain (n + 1) (.str s)=true) ∧
  (∀ (n e:Nat) (f:Bool) (xs:List AV),plain (n + 1) (.sl e f xs)=true) ∧
  (∀ (n:Nat) (cs:List AV),plain (n + 1) (.agg cs)=cs.all (plain n)) ∧
  (∀ (p:AV→Bool),([]:List AV).all p=true) ∧
  (∀ (p:AV→Bool) (c:AV) (cs:List AV),(c::cs).all p=(p c && cs.all p)):=by
 refine ⟨?_,?_,?_,?_,?_,?_,?_,?_,?_,?_,?_,?_,?_,?_,?_,?_,?_,?_,?_,?_,?_,?_,?_,?_,?_,?_,?_,?_,?_,?_,?_,?_,?_,?_,?_,?_,?_,?_,?_,?_,?_,?_,?_,?_,?_,?_,?_,?_,?_,?_,?_,?_,?_,?_,?_,?_,?_,?_,?_,?_,?_,?_,?_,?_,?_,?_,?_,?_,?_,?_,?_,?_,?_,?_,?_,?_,?_,?_,?_,?_,?_,?_,?_,?_,?_,?_,?_,?_,?_,?_,?_,?_,?_,?_,?_,?_,?_,?_,?_,?_,?_,?_,?_,?_⟩
 ·intros
  first | exact evTs_nil | (apply evTs_nil<;>assumption)
 ·intros
  first | exact evTs_gen | (apply evTs_gen<;>assumption)
 ·intros
  first | exact rest_some | (apply rest_some<;>assumption)
 ·intros
  first | exact evTs_go | (apply evTs_go<;>assumption)
 ·intros
  first | exact evTs_out | (apply evTs_out<;>assumption)
 ·intros
  first | exact evTs_un | (apply evTs_un<;>assumption)
 ·intros
  first | exact od_c | (apply od_c<;>assumption)
 ·intros
  first | exact od_t | (apply od_t<;>assumption)
 ·intros
  first | exact put?_some | (apply put?_some<;>assumption)
 ·intros
  first | exact put?_none | (apply put?_none<;>assumption)
 ·intros
  first | exact put_at | (apply put_at<;>assumption)
 ·intros
  first | exact slotsOf_zero | (apply slotsOf_zero<;>assumption)
 ·intros
  first | exact slotsOf_lit | (apply slotsOf_lit<;>assumption)
 ·intros
  first | exact bin_add | (apply bin_add<;>assumption)
 ·intros
  first | exact bin_sub | (apply bin_sub<;>assumption)
 ·intros
  first | exact bin_mul | (apply bin_mul<;>assumption)
 ·intros
  first | exact bin_quo | (apply bin_quo<;>assumption)
 ·intros
  first | exact bin_rem | (apply bin_rem<;>assumption)
 ·intros
  first | exact bin_eql | (apply bin_eql<;>assumption)
 ·intros
  first | exact bin_neq | (apply bin_neq<;>assumption)
 ·intros
  first | exact bin_lss | (apply bin_lss<;>assumption)
 ·intros
  first | exact bin_leq | (apply bin_leq<;>assumption)
 ·intros
  first | exact bin_gtr | (apply bin_gtr<;>assumption)
 ·intros
  first | exact bin_geq | (apply bin_geq<;>assumption)
 ·intros
  first | exact fits_int | (apply fits_int<;>assumption)
 ·intros
  first | exact fits_str | (apply fits_str<;>assumption)
 ·intros
  first | exact fits_bool | (apply fits_bool<;>assumption)
 ·intros
  first | exact fits_sl | (apply fits_sl<;>assumption)
 ·intros
  first | exact fits_row | (apply fits_row<;>assumption)
 ·intros
  first | exact cells_int | (apply cells_int<;>assumption)
 ·intros
  first | exact cells_str | (apply cells_str<;>assumption)
 ·intros
  first | exact cells_bool | (apply cells_bool<;>assumption)
 ·intros
  first | exact cells_sl | (apply cells_sl<;>assumption)
 ·intros
  first | exact cells_agg | (apply cells_agg<;>assumption)
 ·intros
  first | exact one_int | (apply one_int<;>assumption)
 ·intros
  first | exact one_str | (apply one_str<;>assumption)
 ·intros
  first | exact one_bool | (apply one_bool<;>assumption)
 ·intros
  first | exact one_sl | (apply one_sl<;>assumption)
 ·intros
  first | exact one_row | (apply one_row<;>assumption)
 ·intros
  first | exact onesB_nil | (apply onesB_nil<;>assumption)
 ·intros
  first | exact onesB_cons | (apply onesB_cons<;>assumption)
 ·intros
  first | exact expand_nil | (apply expand_nil<;>assumption)
 ·intros
  first | exact expand_cons | (apply expand_cons<;>assumption)
 ·intros
  first | exact splice_int | (apply splice_int<;>assumption)
 ·intros
  first | exact splice_str | (apply splice_str<;>assumption)
 ·intros
  first | exact splice_bool | (apply splice_bool<;>assumption)
 ·intros
  first | exact splice_sl | (apply splice_sl<;>assumption)
 ·intros
  first | exact splice_row | (apply splice_row<;>assumption)
 ·intros
  first | exact splice_agg | (apply splice_agg<;>assumption)
 ·intros
  first | exact esz0 | (apply esz0<;>assumption)
 ·intros
  first | exact pick0 | (apply pick0<;>assumption)
 ·intros
  first | exact maxI_max | (apply maxI_max<;>assumption)
 ·intros
  first | exact maxI_min | (apply maxI_min<;>assumption)
 ·intros
  first | rfl | (simp;done) | (simp only[freeze, *];rfl) | simp[fill,fillE,esz,pick?,AV.fits,binb,bin,binS,isShift]
 ·intros
  first | rfl | (simp;done) | (simp only[freeze, *];rfl) | simp[fill,fillE,esz,pick?,AV.fits,binb,bin,binS,isShift]
 ·intros
  first | rfl | (simp;done) | (simp only[freeze, *];rfl) | simp[fill,fillE,esz,pick?,AV.fits,binb,bin,binS,isShift]
 ·intros
  first | rfl | (simp;done) | (simp only[freeze, *];rfl) | simp[fill,fillE,esz,pick?,AV.fits,binb,bin,binS,isShift]
 ·intros
  first | rfl | (simp;done) | (simp only[freeze, *];rfl) | simp[fill,fillE,esz,pick?,AV.fits,binb,bin,binS,isShift]
 ·intros
  first | rfl | (simp;done) | (simp only[freeze, *];rfl) | simp[fill,fillE,esz,pick?,AV.fits,binb,bin,binS,isShift]
 ·intros
  first | rfl | (simp;done) | (simp only[freeze, *];rfl) | simp[fill,fillE,esz,pick?,AV.fits,binb,bin,binS,isShift]
 ·intros
  first | rfl | (simp;done) | (simp only[freeze, *];rfl) | simp[fill,fillE,esz,pick?,AV.fits,binb,bin,binS,isShift]
 ·intros
  first | rfl | (simp;done) | (simp only[freeze, *];rfl) | simp[fill,fillE,esz,pick?,AV.fits,binb,bin,binS,isShift]
 ·intros
  first | rfl | (simp;done) | (simp only[freeze, *];rfl) | simp[fill,fillE,esz,pick?,AV.fits,binb,bin,binS,isShift]
 ·intros
  first | rfl | (simp;done) | (simp only[freeze, *];rfl) | simp[fill,fillE,esz,pick?,AV.fits,binb,bin,binS,isShift]
 ·intros
  first | rfl | (simp;done) | (simp only[freeze, *];rfl) | simp[fill,fillE,esz,pick?,AV.fits,binb,bin,binS,isShift]
 ·intros
  first | rfl | (simp;done) | (simp only[freeze, *];rfl) | simp[fill,fillE,esz,pick?,AV.fits,binb,bin,binS,isShift]
 ·intros
  first | rfl | (simp;done) | (simp only[freeze, *];rfl) | simp[fill,fillE,esz,pick?,AV.fits,binb,bin,binS,isShift]
 ·intros
  first | rfl | (simp;done) | (simp only[freeze, *];rfl) | simp[fill,fillE,esz,pick?,AV.fits,binb,bin,binS,isShift]
 ·intros
  first | rfl | (simp;done) | (simp only[freeze, *];rfl) | simp[fill,fillE,esz,pick?,AV.fits,binb,bin,binS,isShift]
 ·intros
  first | rfl | (simp;done) | (simp only[freeze, *];rfl) | simp[fill,fillE,esz,pick?,AV.fits,binb,bin,binS,isShift]
 ·intros
  first | rfl | (simp;done) | (simp only[freeze, *];rfl) | simp[fill,fillE,esz,pick?,AV.fits,binb,bin,binS,isShift]
 ·intros
  first | rfl | (simp;done) | (simp only[freeze, *];rfl) | simp[fill,fillE,esz,pick?,AV.fits,binb,bin,binS,isShift]
 ·intros
  first | rfl | (simp;done) | (simp only[freeze, *];rfl) | simp[fill,fillE,esz,pick?,AV.fits,binb,bin,binS,isShift]
 ·intros
  first | rfl | (simp;done) | (simp only[freeze, *];rfl) | simp[fill,fillE,esz,pick?,AV.fits,binb,bin,binS,isShift]
 ·intros
  first | rfl | (simp;done) | (simp only[freeze, *];rfl) | simp[fill,fillE,esz,pick?,AV.fits,binb,bin,binS,isShift]
 ·intros
  first | rfl | (simp;done) | (simp only[freeze, *];rfl) | simp[fill,fillE,esz,pick?,AV.fits,binb,bin,binS,isShift]
 ·intros
  first | rfl | (simp;done) | (simp only[freeze, *];rfl) | simp[fill,fillE,esz,pick?,AV.fits,binb,bin,binS,isShift]
 ·intros
  first | rfl | (simp;done) | (simp only[freeze, *];rfl) | simp[fill,fillE,esz,pick?,AV.fits,binb,bin,binS,isShift]
 ·intros
  first | rfl | (simp;done) | (simp only[freeze, *];rfl) | simp[fill,fillE,esz,pick?,AV.fits,binb,bin,binS,isShift]
 ·intros
  first | rfl | (simp;done) | (simp only[freeze, *];rfl) | simp[fill,fillE,esz,pick?,AV.fits,binb,bin,binS,isShift]
 ·intros
  first | rfl | (simp;done) | (simp only[freeze, *];rfl) | simp[fill,fillE,esz,pick?,AV.fits,binb,bin,binS,isShift]
 ·intros
  first | rfl | (simp;done) | (simp only[freeze, *];rfl) | simp[fill,fillE,esz,pick?,AV.fits,binb,bin,binS,isShift]
 ·intros
  first | rfl | (simp;done) | (simp only[freeze, *];rfl) | simp[fill,fillE,esz,pick?,AV.fits,binb,bin,binS,isShift]
 ·intros
  first | rfl | (simp;done) | (simp only[freeze, *];rfl) | simp[fill,fillE,esz,pick?,AV.fits,binb,bin,binS,isShift]
 ·intros
  first | rfl | (simp;done) | (simp only[freeze, *];rfl) | simp[fill,fillE,esz,pick?,AV.fits,binb,bin,binS,isShift]
 ·intros
  first | rfl | (simp;done) | (simp only[freeze, *];rfl) | simp[fill,fillE,esz,pick?,AV.fits,binb,bin,binS,isShift]
 ·intros
  first | rfl | (simp;done) | (simp only[freeze, *];rfl) | simp[fill,fillE,esz,pick?,AV.fits,binb,bin,binS,isShift]
 ·intros
  first | rfl | (simp;done) | (simp only[freeze, *];rfl) | simp[fill,fillE,esz,pick?,AV.fits,binb,bin,binS,isShift]
 ·intros
  first | rfl | (simp;done) | (simp only[freeze, *];rfl) | simp[fill,fillE,esz,pick?,AV.fits,binb,bin,binS,isShift]
 ·intros
  first | rfl | (simp;done) | (simp only[freeze, *];rfl) | simp[fill,fillE,esz,pick?,AV.fits,binb,bin,binS,isShift]
 ·intros
  first | rfl | (simp;done) | (simp only[freeze, *];rfl) | simp[fill,fillE,esz,pick?,AV.fits,binb,bin,binS,isShift]
 ·intros
  first | rfl | (simp;done) | (simp only[freeze, *];rfl) | simp[fill,fillE,esz,pick?,AV.fits,binb,bin,binS,isShift]
 ·intros
  first | rfl | (simp;done) | (simp only[freeze, *];rfl) | simp[fill,fillE,esz,pick?,AV.fits,binb,bin,binS,isShift]
 ·intros
  first | rfl | (simp;done) | (simp only[freeze, *];rfl) | simp[fill,fillE,esz,pick?,AV.fits,binb,bin,binS,isShift]
 ·intros
  first | rfl | (simp;done) | (simp only[freeze, *];rfl) | simp[fill,fillE,esz,pick?,AV.fits,binb,bin,binS,isShift]
 ·intros
  first | rfl | (simp;done) | (simp only[freeze, *];rfl) | simp[fill,fillE,esz,pick?,AV.fits,binb,bin,binS,isShift]
 ·intros
  first | rfl | (simp;done) | (simp only[freeze, *];rfl) | simp[fill,fillE,esz,pick?,AV.fits,binb,bin,binS,isShift]
 ·intros
  first | rfl | (simp;done) | (simp only[freeze, *];rfl) | simp[fill,fillE,esz,pick?,AV.fits,binb,bin,binS,isShift]
 ·intros
  first | rfl | (simp;done) | (simp only[freeze, *];rfl) | simp[fill,fillE,esz,pick?,AV.fits,binb,bin,binS,isShift]
 ·intros
  first | rfl | (simp;done) | (simp only[freeze, *];rfl) | simp[fill,fillE,esz,pick?,AV.fits,binb,bin,binS,isShift]
 ·intros
  first | rfl | (simp;done) | (simp only[freeze, *];rfl) | simp[fill,fillE,esz,pick?,AV.fits,binb,bin,binS,isShift]
 ·intros
  first | rfl | (simp;done) | (simp only[freeze, *];rfl) | simp[fill,fillE,esz,pick?,AV.fits,binb,bin,binS,isShift]
 ·intros
  first | rfl | (simp;done) | (simp only[freeze, *];rfl) | simp[fill,fillE,esz,pick?,AV.fits,binb,bin,binS,isShift]
 ·intros
  first | rfl | (simp;done) | (simp only[freeze, *];rfl) | simp[fill,fillE,esz,pick?,AV.fits,binb,bin,binS,isShift]
theorem wl{α : Type} :
  (∀ (a : α) (as bs:List α),a::as++bs=a::(as++bs)) ∧
  (∀ (as:List α),[]++as=as) ∧
  (∀ (as:List α),as++[]=as) ∧
  (∀ (a : α) (as:List α),(a::as).length=as.length + 1) ∧
  (([]:List α).length=0) ∧
  (∀ (a b : α) (as:List α),(a::as).set 0 b=b::as) ∧
  (∀ (a b : α) (as:List α) (n:Nat),(a::as).set (n + 1) b=a::as.set n b) ∧
  (∀ (a : α) (as:List α),(a::as)[0]? = some a) ∧
  (∀ (a : α) (as:List α) (i:Nat),(a::as)[i + 1]? = as[i]?) ∧
  (∀ (a : α),List.replicate 0 a=[]) ∧
  (∀ (a : α) (n:Nat),List.replicate (n + 1) a=a::List.replicate n a) ∧
  (∀ (as:List α),as.drop 0=as) ∧
  (∀ (a : α) (as:List α) (n:Nat),(a::as).drop (n + 1)=as.drop n) ∧
  (∀ (as:List α),as.take 0=[]) ∧
  (∀ (a : α) (as:List α) (n:Nat),(a::as).take (n + 1)=a::as.take n) ∧
  (∀ (n:Nat),([]:List α).drop n=[]) ∧
  (∀ (n:Nat),([]:List α).take n=[]):=by
 refine ⟨?_,?_,?_,?_,?_,?_,?_,?_,?_,?_,?_,?_,?_,?_,?_,?_,?_⟩
 ·intros;first | rfl | simp | exact List.append_nil _
 ·intros;first | rfl | simp | exact List.append_nil _
 ·intros;first | rfl | simp | exact List.append_nil _
 ·intros;first | rfl | simp | exact List.append_nil _
 ·intros;first | rfl | simp | exact List.append_nil _
 ·intros;first | rfl | simp | exact List.append_nil _
 ·intros;first | rfl | simp | exact List.append_nil _
 ·intros;first | rfl | simp | exact List.append_nil _
 ·intros;first | rfl | simp | exact List.append_nil _
 ·intros;first | rfl | simp | exact List.append_nil _
 ·intros;first | rfl | simp | exact List.append_nil _
 ·intros;first | rfl | simp | exact List.append_nil _
 ·intros;first | rfl | simp | exact List.append_nil _
 ·intros;first | rfl | simp | exact List.append_nil _
 ·intros;first | rfl | simp | exact List.append_nil _
 ·intros;first | rfl | simp | exact List.append_nil _
 ·intros;first | rfl | simp | exact List.append_nil _
theorem map_ren_enc(ks:List Nat){τ : Type}{e:Nat}{enc : τ → AV}[IsEnc e enc](xs:List τ):(xs.map enc).map (ren ks 12)=xs.map enc:=map_ren ks (enc_all xs)
theorem ren_agg'(ks:List Nat)(n:Nat)(cs:List AV):ren ks (n + 1) (.agg cs)=.agg (cs.map (ren ks n)):=rfl
theorem ren_tup'(ks:List Nat)(n:Nat)(cs:List AV):ren ks (n + 1) (.tup cs)=.tup (cs.map (ren ks n)):=rfl
theorem ren_fn'(ks:List Nat)(n f:Nat)(cs:List AV):ren ks (n + 1) (.fn f cs)=.fn f (cs.map (ren ks n)):=rfl
theorem ren_int'(ks:List Nat)(n:Nat)(k:IntKind)(a:Int):ren ks (n + 1) (.int k a)=.int k a:=rfl
theorem ren_bool'(ks:List Nat)(n:Nat)(b:Bool):ren ks (n + 1) (.bool b)=.bool b:=rfl
theorem ren_str'(ks:List Nat)(n:Nat)(t:List UInt8):ren ks (n + 1) (.str t)=.str t:=rfl
theorem ren_sl'(ks:List Nat)(n e:Nat)(f:Bool)(xs:List AV):ren ks (n + 1) (.sl e f xs)=.sl e f xs:=rfl
theorem ren_pro'(ks:List Nat)(n:Nat)(xs:List AV):ren ks (n + 1) (.pro xs)=.pro xs:=rfl
theorem ren_nilp'(ks:List Nat)(n:Nat):ren ks (n + 1) .nilp=.nilp:=rfl
theorem ren_nilfn'(ks:List Nat)(n:Nat):ren ks (n + 1) .nilfn=.nilfn:=rfl
theorem ren_junk'(ks:List Nat)(n:Nat):ren ks (n + 1) .junk=.junk:=rfl
theorem ren_ptr'(ks:List Nat)(n b o:Nat):ren ks (n + 1) (.ptr b o)=(match ks.idxOf? b with | some b=>.ptr b o | none=>.junk):=rfl
theorem ren_row'(ks:List Nat)(n e b o l:Nat):ren ks (n + 1) (.row e b o l)=(match ks.idxOf? b with | some b=>.row e b o l | none=>.junk):=rfl
theorem ren_arow'(ks:List Nat)(n e b o l:Nat):ren ks (n + 1) (.arow e b o l)=(match ks.idxOf? b with | some b=>.arow e b o l | none=>.junk):=rfl
theorem ren_eptr'(ks:List Nat)(n b i o:Nat):ren ks (n + 1) (.eptr b i o)=(match ks.idxOf? b with | some b=>.eptr b i o | none=>.junk):=rfl
theorem hand_plain{h:Hp}{v:AV}(hv:plain deep v=true):handOver none h v=some v:=imm_plain h deep deep v hv (Nat.le_refl _)
theorem hand_1{h:Hp}{e b n:Nat}{xs:List AV}(hb:h[b]? = some (.els e xs))(hn:n=xs.length)(hp:xs.all (plain deep)=true):handOver (some 0) h (.row e b 0 n)=some (.fr e xs):=by
 subst hn;exact hand_row hb hp
theorem hand_10{h:Hp}{e:Nat}:handOver (some 0) h (.sl e true [])=some (.fr e []):=rfl
end Go.Ab
namespace Go.Ab
open Go
abbrev iI(d:Nat)(o:Op1):Ins:=Ins.mk (some d) none o
abbrev iN(o:Op1):Ins:=Ins.mk none none o
abbrev iG(d:Option Nat)(j:Nat)(w:Bool)(o:Op1):Ins:=Ins.mk d (some (j,w)) o
theorem imm_rowE(h:Hp)(n e b off len:Nat):imm h (n + 1) (.row e b off len)=(match h[b]? with
  | some (.els e' ys)=>if e'=e∧off + len≤ys.length then (omap (imm h n) ((ys.drop off).take len)).map (.sl e false) else none
  | _=>none):=rfl
theorem imm_ptrE(h:Hp)(n b off:Nat):imm h (n + 1) (.ptr b off)=(match h[b]? with
  | some (.cel cs)=>(omap (imm h n) (cs.drop off)).map .pro
  | _=>none):=rfl
theorem imm_enc(h:Hp)(n:Nat){τ : Type}{e:Nat}{enc : τ → AV}[IsEnc e enc](xs:List τ):omap (imm h (n + 4)) (xs.map enc)=some (xs.map enc):=by
 have:=enc_all4 (enc:=enc) xs
 generalize xs.map enc=ys at this
 induction ys with
 | nil=>rfl
 | cons c cs ih =>
  simp only[List.all_cons,Bool.and_eq_true] at this
  simp only[omap,imm_plain h (n + 4) 4 c this.1 (by omega),ih this.2]
theorem take_map_len{α β : Type}(f : α → β)(xs:List α):(xs.map f).take xs.length=xs.map f:=List.take_of_length_le (by simp)
theorem le_refl_true(n:Nat):(n≤n)=True:=by simp
theorem imm_simps(h:Hp)(n:Nat):(∀ b,imm h (n + 1) (.bool b)=some (.bool b))∧(∀ k a,imm h (n + 1) (.int k a)=some (.int k a))∧(∀ t,imm h (n + 1) (.str t)=some (.str t)) ∧
  (imm h (n + 1) .nilp=some .nilp)∧(imm h (n + 1) .nilfn=some .nilfn)∧(imm h (n + 1) .nilmp=some .nilmp)∧(∀ cs,imm h (n + 1) (.pro cs)=some (.pro cs)) ∧
  (∀ e f xs,imm h (n + 1) (.sl e f xs)=some (.sl e f xs))∧(∀ cs,imm h (n + 1) (.agg cs)=(omap (imm h n) cs).map .agg)∧(∀ cs,imm h (n + 1) (.tup cs)=(omap (imm h n) cs).map .tup) ∧
  (∀ f cs,imm h (n + 1) (.fn f cs)=(omap (imm h n) cs).map (.fn f)) :=
 ⟨fun _=>rfl,fun _ _=>rfl,fun _=>rfl,rfl,rfl,rfl,fun _=>rfl,fun _ _ _=>rfl,fun _=>rfl,fun _=>rfl,fun _ _=>rfl⟩
theorem omap_simps{α β : Type}(f : α → Option β):(omap f []=some [])∧(∀ c cs,omap f (c::cs)=(match f c,omap f cs with | some x,some xs=>some (x::xs) | _,_=>none)):=⟨rfl,fun _ _=>rfl⟩
end Go.Ab
namespace Go.Ab
open Go
def flatR:AV→Bool
 | .fr _ xs=>xs.all (flat deep)
 | .tup cs=>cs.all fun c=>match c with
  | .fr _ xs=>xs.all (flat deep)
  | c=>flat deep c
 | v=>flat deep v
class IsFlat {τ : Type}(enc : τ → AV):Prop where
 flat:∀ x,Ab.flat 4 (enc x)=true
instance (k:IntKind):IsFlat (AV.int k):=⟨fun _=>rfl⟩
instance:IsFlat AV.bool:=⟨fun _=>rfl⟩
instance:IsFlat AV.str:=⟨fun _=>rfl⟩
theorem flat_mono:∀ (n m:Nat) (v:AV),flat n v=true→n≤m→flat m v=true
 | 0,_,_,h,_=>by simp[flat] at h
 | n + 1,0,_,_,hl=>by omega
 | n + 1,m + 1,v,h,hl=>by
  cases v<;>simp only[flat] at h ⊢ <;> first
   | (cases h;done)
   | (rw[List.all_eq_true] at h ⊢
      exact fun c hc=>flat_mono n m c (h c hc) (by omega))
theorem flat_all{τ : Type}{enc : τ → AV}[IsFlat enc](xs:List τ):(xs.map enc).all (flat deep)=true:=by
 rw[List.all_eq_true]
 intro c hc
 obtain ⟨n,_,rfl⟩:=List.mem_map.1 hc
 exact flat_mono 4 deep _ (IsFlat.flat n) (by decide)
section
variable {P:Program}
theorem Fresh.flat{S S':Nat→Nat→Prop}{w:World}{lo e:Nat}{xs:List AV}{u:Value}(h:Fresh S w lo e xs u)(hf:xs.all (Ab.flat deep)=true)(hS:∀ g o,S' g o→g<lo):Fresh S' w lo e xs u:=by
 obtain ⟨A,cap,rfl,h⟩:=h
 refine ⟨A,cap,rfl,?_⟩
 rcases h with h | ⟨g,vals,t,fz,rfl,hlo,k1,k2,k3,k4,k5,_,k7⟩
 ·exact .inl h
 ·refine .inr ⟨g,vals,t,fz,rfl,hlo,k1,k2,k3,k4,k5,fun o s=>absurd (hS g o s) (by omega),fun i x hx=>?_⟩
  obtain ⟨s1,v,s2,s3⟩:=k7 i x hx
  rw[List.all_eq_true] at hf
  exact ⟨s1,v,flat_RI deep x v (hf x (List.mem_of_getElem? hx)) s2,s3⟩
theorem ResOK.flatR{S S':Nat→Nat→Prop}{w:World}{lo:Nat}{r:AV}{u:Value}(h:ResOK S w lo r u)(hf:Ab.flatR r=true)(hS:∀ g o,S' g o→g<lo):ResOK S' w lo r u:=by
 rcases h with h | ⟨e,xs,rfl,h⟩ | ⟨cs,us,rfl,rfl,hs,hall⟩
 ·cases r with
  | fr e xs=>cases h
  | tup cs =>
   cases h with
   | tup _ us hs hr =>
    refine .inl (.tup _ us hs fun i c z hc hz=>?_)
    have hi:=hr i c z hc hz
    have hc':=List.all_eq_true.1 hf c (List.mem_of_getElem? hc)
    cases c with
    | fr e xs=>cases hi
    | _=>exact flat_RI deep _ z hc' hi
  | _=>exact .inl (flat_RI deep _ u hf h)
 ·exact .inr (.inl ⟨e,xs,rfl,h.flat hf hS⟩)
 ·refine .inr (.inr ⟨cs,us,rfl,rfl,hs,fun i c z hc hz=>?_⟩)
  have hc':=List.all_eq_true.1 hf c (List.mem_of_getElem? hc)
  rcases hall i c z hc hz with hi | ⟨e,xs,rfl,hi⟩
  ·cases c with
   | fr e xs=>cases hi
   | _=>exact .inl (flat_RI deep _ z hc' hi)
  ·exact .inr ⟨e,xs,rfl,hi.flat hc' hS⟩
theorem Fn.pureR{f:Nat}{args as:List AV}{h h2:Hp}{r v:AV}(hp:Pure P f as (· = r))(hi:imm h deep (.tup args)=some (.tup as))(hfl:flatR r=true)(ha:adopt h r=some (v,h2)){K:AV→Hp→Prop}(hK:K v h2):Fn P f args h K:=by
 have hfz:∃ h1,freeze h (.tup args)=some (.tup as,h1):=by
  by_cases hpl:plain deep (.tup args)=true
  ·have:=imm_plain h deep deep _ hpl (Nat.le_refl _)
   rw[this] at hi
   injection hi with hi
   exact ⟨h,by simp only[freeze,hpl,if_true];rw[hi]⟩
  ·exact ⟨_,by simp only[freeze,hpl,hi];rfl⟩
 obtain ⟨h1,hf⟩:=hfz
 refine ⟨hp.1,⟨v,h2,hK⟩,fun E w us hok hl hr=>?_⟩
 obtain ⟨E1,q1,q2,q3,q4,q5⟩:=freeze_ok hok (v:=.tup args) (u:=.tuple us) (.tup _ us hl hr) hf
 have q3':us.size=as.length∧∀ (i:Nat) c u,as[i]? = some c→us[i]? = some u→RI E1.S w c u:=by
  cases q3 with | tup _ us hs hrr=>exact ⟨hs,hrr⟩
 refine Calls.mono (hp.2.2 E1.S w us q1.old q3'.1 q3'.2) ?_
 rintro e w' ⟨u,S',r',rfl,rfl,hbelow,hkept,hnew,hold,hres⟩
 have m:More w w':=⟨hbelow.os,hbelow.tape,hbelow.output,hbelow.size,hbelow.block,hbelow.frz,hbelow.drawn⟩
 obtain ⟨g1,g2⟩:=hok.more m
 obtain ⟨E',p1,p2,p3⟩:=adopt_ok g1 (lo:=w.heap.size) (fun b x g hx hal e=>(hok.own b x g hx hal e).2.1) hok.size (hres.flatR hfl hok.old) ha
 exact ⟨u,E',v,h2,rfl,hK,p1,(g2 h.length).trans p2 (Nat.le_refl _),p3⟩
variable {is:List Ins}{K:St→Prop}{s:Nat→AV}{h:Hp}{d:Option Nat}{α β : Type}{r : α}
theorem evTs_frR{m:Option β}{kont : β → Option α}(H:m.bind kont=some r){k:Nat}{as':List AV}{enc : β → AV}(spec:∀ y,m=some y→Pure P k as' (· = enc y))
  {f:Od}{as:List Od}{caps args ims:List AV}(hf:f.ev s=.fn k caps) (ha:as.map (Od.ev s)++caps=args) (him:imm h deep (.tup args)=some (.tup ims)) (hu:ims.map (unf 12)=as') (hfl:∀ y,flatR (enc y)=true)
  {enc' : β → AV}{blk : β → HB}(hr:∀ y,adopt h (enc y)=some (enc' y,h++[blk y]))
  (hk:∀ y,kont y=some r→evTs (Fn P) is K ⟨put? s d (enc' y),h++[blk y]⟩):evTs (Fn P) (Ins.mk d none (.call f as)::is) K ⟨s,h⟩:=by
 obtain ⟨y,hy,h2⟩:=Option.bind_eq_some_iff.1 H
 refine evTs_call hf ?_
 subst hu
 rw[ha]
 exact Fn.pureR (spec y hy).args him (hfl y) (hr y) (hk y h2)
end
section
variable {F:CallF}{is:List Ins}{K:St→Prop}{s:Nat→AV}{h:Hp}{d:Option Nat}{α : Type}{r : α}
theorem evTs_atr{τ : Type}{xs:List τ}{i:Int}{kont : τ → Option α}(H:(at? xs i).bind kont=some r){enc : τ → AV}{e b m:Nat}{k:IntKind}{x j:Od}(hx:x.ev s=.row e b 0 m)(hm:m=xs.length)
  (hi:j.ev s=.int k i) (hk:∀ y,(xs.map enc)[i.toNat]? = some (enc y)→kont y=some r→evTs F is K ⟨put? s d (.eptr b i.toNat 0),h⟩):evTs F (Ins.mk d none (.iaddr e x j)::is) K ⟨s,h⟩:=by
 obtain ⟨y,h0,h1,h2⟩:=at_inv H
 subst hm
 have hlt:i.toNat<xs.length:=(List.getElem?_eq_some_iff.1 h1).1
 refine step rfl ?_ (hk y (by simp[h1]) h2)
 simp only[evV,hx,hi,h0,if_true,hlt,and_self,Nat.zero_add]
theorem bin_shr(k k':IntKind)(a b:Int)(hb:0≤b):bin .shr (.int k a) (.int k' b)=some (.int k (a.fdiv (2 ^ (min b.toNat k.bits)))):=by
 simp[bin,isShift,shiftI];omega
theorem bin_shl(k k':IntKind)(a b:Int)(hb:0≤b):bin .shl (.int k a) (.int k' b)=some (.int k (k.wrap (a * 2 ^ (min b.toNat k.bits)))):=by
 simp[bin,isShift,shiftI];omega
theorem rest_shr{k k':IntKind}{a b:Int}(hb:0≤b)(hk:rest F is K s d (some (.int k (a.fdiv (2 ^ (min b.toNat k.bits))),h))):rest F is K s d (Option.map (fun v=>(v,h)) (bin .shr (.int k a) (.int k' b))):=by
 rw[bin_shr _ _ _ _ hb];exact hk
theorem rest_shl{k k':IntKind}{a b:Int}(hb:0≤b)(hk:rest F is K s d (some (.int k (k.wrap (a * 2 ^ (min b.toNat k.bits))),h))):rest F is K s d (Option.map (fun v=>(v,h)) (bin .shl (.int k a) (.int k' b))):=by
 rw[bin_shl _ _ _ _ hb];exact hk
open Classical in
noncomputable def nil?{τ : Type}(xs:List τ)(neg:Bool)(k:Bool→Option α):Option α := if xs=[] then (if k true=k false then k true else none) else k neg
theorem nil_cons{τ : Type}{xs:List τ}{neg:Bool}{k:Bool→Option α}(h:xs≠[]):nil? xs neg k=k neg:=by unfold nil?;rw[if_neg h]
theorem evTs_isnil{τ : Type}{xs:List τ}{neg:Bool}{k:Bool→Option α}(H:nil? xs neg k=some r){enc : τ → AV}{e:Nat}{f:Bool}{x:Od}(hx:x.ev s=.sl e f (xs.map enc))
  (hk:∀ b,k b=some r→evTs F is K ⟨put? s d (.bool b),h⟩):evTs F (Ins.mk d none (.isnil neg x)::is) K ⟨s,h⟩:=by
 simp only[evTs,evT,act,evO,hx]
 cases xs with
 | nil =>
  unfold nil? at H
  rw[if_pos rfl] at H
  split at H
  ·rename_i he
   exact ⟨hk _ H,hk _ (he ▸ H)⟩
  ·cases H
 | cons y ys =>
  rw[nil_cons (by simp)] at H
  exact hk _ H
def b8(n:Int):UInt8:=UInt8.ofNat n.toNat
theorem bytesOf_map(xs:List Int):bytesOf (xs.map (AV.int .u8))=some (xs.map b8):=by
 induction xs with
 | nil=>rfl
 | cons x xs ih=>simp[bytesOf,ih,b8]
theorem evTs_cstrr{xs:List Int}{b m:Nat}{x:Od}(hx:x.ev s=.row 0 b 0 m)(hm:m=xs.length)(hb:h[b]? = some (.els 0 (xs.map (AV.int .u8))))(hk:evTs F is K ⟨put? s d (.str (xs.map b8)),h⟩):evTs F (Ins.mk d none (.cstr x)::is) K ⟨s,h⟩:=by
 subst hm
 refine step rfl ?_ hk
 have h1:((xs.map (AV.int .u8)).drop 0).take xs.length=xs.map (AV.int .u8):=take_map_len _ _
 have h2:(xs.map (AV.int .u8)).all (plain deep)=true:=enc_all xs
 simp only[evV,hx,srcElems,hb,h1,h2,and_self,Nat.zero_add,List.length_map,Nat.le_refl,if_true,bytesOf_map,Option.map_some]
end
end Go.Ab
namespace Go.Ab
open Go
theorem w64{a:Int}(h1 : -9223372036854775808≤a)(h2:a≤9223372036854775807):IntKind.i64.wrap a=a:=wrap_i64 h1 h2
section
variable {S E τ α : Type}
theorem run_ex{L:Lp S E}{s0:S}(Q:E→Prop)(I:S→Prop)(μ : S→Nat)(h0:I s0)(h:∀ s,I s→(∃ s',L.body s=some (.next s')∧I s' ∧ μ s' < μ s)∨∃ e,L.body s=some (.brk e)∧Q e):∃ e,L.run s0=some e∧Q e :=
 iter_rule (body:=L.body) I μ Q h s0 h0
theorem run_count{L:Lp S E}{e:E}(st:Nat→S)(n:Nat)(he:L.body (st n)=some (.brk e)):∀ k,k≤n→(∀ i,k≤i→i<n→L.body (st i)=some (.next (st (i + 1))))→L.run (st k)=some e:=by
 intro k hk
 obtain ⟨m,rfl⟩:∃ m,n=k + m:=⟨n - k,by omega⟩
 induction m generalizing k with
 | zero=>intro _;exact iter_brk he
 | succ m ih =>
  intro h
  rw[show L.run (st k)=iter L.body (st k) from rfl,iter_next (h k (Nat.le_refl _) (by omega))]
  refine ih (k + 1) (by rw[show k + 1 + m=k + (m + 1) by omega];exact he) (by omega) fun i h1 h2=>h i (by omega) (by omega)
theorem at_some{xs:List τ}{i:Int}{x : τ}(h0:0≤i)(h:xs[i.toNat]? = some x):at? xs i=some x:=by simp[at?,h0,h]
theorem at_nat{xs:List τ}{k:Nat}{x : τ}(h:xs[k]? = some x):at? xs (k:Int)=some x:=at_some (by omega) (by simpa using h)
theorem app_some{bytes:Nat}{xs ys:List τ}(h1:(xs.length + ys.length) * bytes≤140737488355328)(h2:xs.length + ys.length≤9223372036854775807):app? bytes xs ys=some (xs++ys):=by
 unfold app?;exact if_pos ⟨by unfold room;omega,by unfold maxStr;omega⟩
theorem slc_some{xs:List τ}{lo hi:Int}(h:0≤lo∧lo≤hi∧hi≤xs.length):slc? xs lo hi=some ((xs.take hi.toNat).drop lo.toNat):=by simp[slc?,h]
theorem cat_some{a b:List UInt8}(h:a.length + b.length≤9223372036854775807):cat? a b=some (a++b):=by unfold cat?;exact if_pos (by unfold maxStr;omega)
end
end Go.Ab
namespace Go.Ab
open Go
section
variable {τ : Type}
def idx[DecidableEq τ](xs:List τ)(v : τ):Int:=if v ∈ xs then (xs.idxOf v:Int) else -1
end
end Go.Ab
namespace Go.Ab
open Go Go.RowKit Go.WideShapes
theorem mapM_nth{α β : Type}{f : α → Option β}:∀ {l:List α}{r:List β},l.mapM f=some r→r.length=l.length∧∀ (i:Nat) x,l[i]? = some x→∃ y,r[i]? = some y∧f x=some y
 | [],r,h=>by simp at h;subst h;exact ⟨rfl,fun i x hx=>by simp at hx⟩
 | c::cs,r,h=>by
  rw[List.mapM_cons] at h
  cases hc:f c with
  | none=>rw[hc] at h;cases h
  | some y =>
   rw[hc] at h
   cases hcs:cs.mapM f with
   | none=>rw[hcs] at h;cases h
   | some ys =>
    rw[hcs] at h
    cases h
    obtain ⟨k1,k2⟩:=mapM_nth hcs
    refine ⟨by simp[k1],fun i x hx=>?_⟩
    cases i with
    | zero=>simp at hx;subst hx;exact ⟨y,rfl,hc⟩
    | succ i=>simpa using k2 i x (by simpa using hx)
theorem RIL.append{S:Nat→Nat→Prop}{w:World}:∀ {as bs:List AV}{us vs:List Value},RIL S w as us→RIL S w bs vs→RIL S w (as++bs) (us++vs)
 | [],_,[],_,_,h=>h
 | [],_,_::_,_,h,_=>h.elim
 | _::_,_,[],_,h,_=>h.elim
 | _::_,_,_::_,_,h,k=>⟨h.1,RIL.append h.2 k⟩
theorem weights_mem_all{H:Type}{P:Program}{t:TypeId}:∀ {ds:List (DataW H)}{d:DataW H},d ∈ ds→∀ n ∈ d.weights P t,n ∈ DataW.weightsAll P t ds
 | d0::ds,d,hd,n,hn=>by
  simp only[DataW.weightsAll,List.mem_append]
  rcases List.mem_cons.1 hd with rfl | hd
  ·exact .inl hn
  ·exact .inr (weights_mem_all hd n hn)
def Small{H:Type}(P:Program)(t:TypeId)(d:DataW H):Prop:=∀ n ∈ d.weights P t,n≤reachBytes
structure Opens (P:Program) (t:TypeId) (e:Nat) {τ : Type}(enc : τ → AV) (wf : τ → Prop):Prop where
 size:P.cellsOf t=esz e
 form:∀ (W:World) (r:Reach) (b:Nat) (v:Value),Value.okWide P W r b t v→if e=0 then v.cells = #[v] else ∃ us,v=.agg us
 go:∀ {H:Type}(encH:TypeId×Value→H) (W:World) (fuel:Nat) (cs:List Value) (d:DataW H) (ps:List MemPlace),DataW.trod encH P W 0 (fun _=>true) true fuel t cs=some (d,ps)→(∀ x ∈ ps,x.block<W.heap.size)→Small P t d →
  ∃ x,wf x∧RIL (Old W) W (enc x).cells cs
section
variable {P:Program}{t:TypeId}{τ : Type}{enc : τ → AV}{wf : τ → Prop}{e:Nat}
theorem cells_fit0{v:AV}(h:v.fits 0=true):v.cells=[v]:=by
 cases v<;>first | rfl | (simp[AV.fits] at h)
theorem RI.cells1{S:Nat→Nat→Prop}{w:World}{v:AV}{c:Value}(h:RI S w v c)(hf:v.fits 0=true):c.cells = #[c]:=by
 cases h<;>first | rfl | (simp[AV.fits,AV.one] at hf;done)
theorem fits_succ{v:AV}{n:Nat}(h:v.fits (n + 1)=true):∃ cs,v=.agg cs∧cs.length=n + 1:=by
 cases v<;>first
  | (simp[AV.fits] at h;done)
  | (rename_i cs;simp only[AV.fits,Bool.and_eq_true,beq_iff_eq] at h;exact ⟨cs,rfl,h.1.1.symm⟩)
theorem Opens.val(o:Opens P t e enc wf)[IsEnc e enc]{H:Type}{encH:TypeId×Value→H}{W:World}{r:Reach}{b:Nat}{v:Value}{d:DataW H}{ps:List MemPlace}(hv:Value.okWide P W r b t v)
  (h:DataW.Trod encH P W 0 (fun _=>true) true t v d ps) (hlt:∀ x ∈ ps,x.block<W.heap.size) (hw:Small P t d):∃ x,wf x∧RI (Old W) W (enc x) v:=by
 obtain ⟨fuel,hf⟩:=h
 obtain ⟨x,hx,hr⟩:=o.go encH W fuel _ d ps hf hlt hw
 refine ⟨x,hx,?_⟩
 have hform:=o.form W r b v hv
 have hfit:=IsEnc.fits (enc:=enc) x
 cases e with
 | zero =>
  rw[if_pos rfl] at hform
  rw[hform,cells_fit0 hfit] at hr
  exact hr.1
 | succ n =>
  rw[if_neg (by omega)] at hform
  obtain ⟨us,rfl⟩:=hform
  obtain ⟨cs,hcs,hl⟩:=fits_succ hfit
  rw[hcs] at hr ⊢
  obtain ⟨k1,k2⟩:=RIL.get (show RIL (Old W) W cs _ from hr)
  refine .agg cs us (by simpa[Value.cells] using k1) fun i c u hc hu=>k2 i c u hc (by simpa[Value.cells] using hu)
theorem opens_int{k:IntKind}(ht:P.underlying t=some (.int k))(hs:P.cellsOf t=1):Opens P t 0 (AV.int k) (fun n=>(Lit.int k n).wf=true) where
 size:=hs
 form:=fun W r b v hv=>by obtain ⟨n,rfl⟩:=okWide_int ht hv;rfl
 go:=fun encH W fuel cs d ps h _ _=>by
  obtain ⟨n,h1,h2,h3⟩:=DataW.trod_int ht h
  subst h1
  exact ⟨n,h3,.int k n,trivial⟩
theorem opens_bool(ht:P.underlying t=some .bool)(hs:P.cellsOf t=1):Opens P t 0 AV.bool (fun _=>True) where
 size:=hs
 form:=fun W r b v hv=>by obtain ⟨n,rfl⟩:=okWide_bool ht hv;rfl
 go:=fun encH W fuel cs d ps h _ _=>by
  obtain ⟨b,rfl,_⟩:=DataW.trod_bool ht h
  exact ⟨b,trivial,.bool b,trivial⟩
theorem opens_str(ht:P.underlying t=some .string)(hs:P.cellsOf t=1):Opens P t 0 AV.str (fun s=>s.length≤140737488351232) where
 size:=hs
 form:=fun W r b v hv=>by obtain ⟨n,rfl⟩:=okWide_string ht hv;rfl
 go:=fun encH W fuel cs d ps h _ hw=>by
  obtain ⟨s,rfl,hx,hl⟩:=DataW.trod_string ht h
  injection hx with h1 h2
  subst h1
  refine ⟨s.data.toList,hw _ (by simp[DataW.weights]),?_,trivial⟩
  have:s=⟨s.data.toList.toArray⟩:=by cases s;simp
  have h2:=RI.str (S:=Old W) (w:=W) s.data.toList
  rwa [← this] at h2
theorem Opens.struct{fs:Array Field}(ht:P.underlying t=some (.struct fs))(hs:P.cellsOf t=esz e)(he:e≠0)
  (hgo:∀ {H:Type}(encH:TypeId×Value→H) (W:World) (n:Nat) (cs:List Value) (xs:List (DataW H×List MemPlace)),(∀ x ∈ xs.flatMap (·.2),x.block<W.heap.size)→cs.length=esz e→xs.length=fs.size →
   (∀ (i:Nat) (f:Field),fs[i]? = some f→DataW.trod encH P W 0 (fun _=>true) true n f.type ((cs.drop f.offset).take (P.cellsOf f.type))=xs[i]?) →
   (∀ (i:Nat) (f:Field) d,fs[i]? = some f→xs[i]? = some d→Small P f.type d.1)→∃ x,wf x∧RIL (Old W) W (enc x).cells cs):Opens P t e enc wf where
 size:=hs
 form:=fun W r b v hv=>by
  rw[if_neg he]
  obtain ⟨us,rfl,_⟩:=okWide_struct ht hv
  exact ⟨us,rfl⟩
 go:=fun encH W fuel cs d ps h hlt hw=>by
  obtain ⟨xs,n,rfl,hx,hl,hn,hf⟩:=DataW.trod_struct ht h
  injection hx with h1 h2
  subst h2
  subst h1
  refine hgo encH W n cs xs hlt (hl.trans hs) hn hf fun i f d hi hd k hk=>hw k ?_
  simp only[DataW.weights,ht]
  exact DataW.weights_mem_each (j:=i) (by simp[hi]) (by simp[hd]) k hk
theorem Opens.field{t':TypeId}{e':Nat}{τ':Type}{enc' : τ'→AV}{wf' : τ'→Prop}(o:Opens P t' e' enc' wf'){H:Type}{encH:TypeId×Value→H}{W:World}{n:Nat}{cs:List Value}{xs:List (DataW H×List MemPlace)}{fs:Array Field}
  (hlt:∀ x ∈ xs.flatMap (·.2),x.block<W.heap.size) (hn:xs.length=fs.size)
  (hf:∀ (i:Nat) (f:Field),fs[i]? = some f→DataW.trod encH P W 0 (fun _=>true) true n f.type ((cs.drop f.offset).take (P.cellsOf f.type))=xs[i]?) (hw:∀ (i:Nat) (f:Field) d,fs[i]? = some f→xs[i]? = some d→Small P f.type d.1) (i:Nat) {f:Field}(hi:fs[i]? = some f) (ht:f.type=t') {o':Nat}(ho:f.offset=o') :
  ∃ x,wf' x∧RIL (Old W) W (enc' x).cells ((cs.drop o').take (esz e')):=by
 subst ht;subst ho
 have hil:i<xs.length:=by rw[hn];exact (Array.getElem?_eq_some_iff.1 hi).1
 have h1:=hf i f hi
 rw[List.getElem?_eq_getElem hil,o.size] at h1
 exact o.go encH W n _ xs[i].1 xs[i].2 h1 (fun x hx=>hlt x (List.mem_flatMap.2 ⟨xs[i],List.getElem_mem hil,hx⟩)) (hw i f xs[i] hi (List.getElem?_eq_getElem hil))
theorem cells?_nth{w:World}{b:Nat}{a:Addr}{n:Nat}{ys:List Value}(h:w.cells? b a n=some ys):ys.length=n∧∀ (j:Nat) c,ys[j]? = some c→w.cell? (a.add j)=some c:=by
 unfold World.cells? at h
 split at h
 ·obtain ⟨h1,h2⟩:=mapM_nth h
  refine ⟨by simpa using h1,fun j c hc=>?_⟩
  have hj:j<n:=by have:=(List.getElem?_eq_some_iff.1 hc).1;simpa[h1] using this
  obtain ⟨y,k1,k2⟩:=h2 j j (List.getElem?_range hj)
  rw[hc] at k1
  injection k1 with k1
  rw[k2,k1]
 ·cases h
theorem opens_sl{t':TypeId}{e':Nat}{τ':Type}{enc' : τ'→AV}{wf' : τ'→Prop}(o:Opens P t' e' enc' wf')[IsEnc e' enc'](ht:P.underlying t=some (.slice t'))(hs:P.cellsOf t=1){B:Nat}(hB:P.bytesOf t'=B) :
  Opens P t 0 (eL e' enc') (fun xs=>xs.length * B≤140737488351232∧∀ x ∈ xs,wf' x) where
 size:=hs
 form:=fun W r b v hv=>by obtain ⟨a,n,c,rfl⟩:=okWide_slice ht hv;rfl
 go:=fun {H} encH W fuel cs d ps h hlt hw=>by
  rcases DataW.trod_slice ht h with ⟨rfl,_⟩ | ⟨a,len,cap,elems,rest,n,rfl,rfl,hx,_,hlc,hcm,hel,hget,_⟩
  ·exact ⟨[],⟨by simp,fun x hx=>by simp at hx⟩,.sl e' false [] none 0 0 0 (fun _=>undef) (Nat.le_refl _) (Nat.zero_le _) (fun h=>by cases h) (.inl rfl) (fun i x hx=>by simp at hx) (fun i x hx=>by simp at hx) (fun i x hx=>by simp at hx) (fun _ h=>absurd rfl h),trivial⟩
  ·injection hx with h1 h2
   subst h2
   subst h1
   have hsm:(elems.length + rest.length) * B≤140737488351232:=by
    have:=hw ((elems.length + rest.length) * B) (by simp[DataW.weights,ht,hB])
    exact this
   have hes:∀ y ∈ elems,Small P t' y.1:=fun y hy k hk=>hw k (by
    simp only[DataW.weights,ht]
    exact List.mem_cons_of_mem _ (List.mem_append_left _ (weights_mem_all (List.mem_map.2 ⟨y,hy,rfl⟩) k hk)))
   have hps:∀ y ∈ elems,∀ x ∈ y.2,x.block<W.heap.size:=fun y hy x hx=>hlt x (List.mem_append_right _ (List.mem_flatMap.2 ⟨y,List.mem_append_left _ hy,hx⟩))
   have each:∀ i:Fin len,∃ x : τ',∃ ys:List Value,wf' x∧RIL (Old W) W (enc' x).cells ys∧W.cells? 0 (a.add (i.1 * P.cellsOf t')) (P.cellsOf t')=some ys:=fun i=>by
    have hi:=hget i.1 i.2
    have hil:i.1<elems.length:=by rw[hel];exact i.2
    rw[List.getElem?_eq_getElem hil] at hi
    obtain ⟨ys,hys,ht'⟩:=Option.bind_eq_some_iff.1 hi
    obtain ⟨x,hx,hr⟩:=o.go encH W n ys elems[i.1].1 elems[i.1].2 ht' (fun x hx=>hps _ (List.getElem_mem hil) x hx) (hes _ (List.getElem_mem hil))
    exact ⟨x,ys,hx,hr,hys⟩
   let xf:Fin len → τ':=fun i=>(each i).choose
   have hxf:∀ i:Fin len,∃ ys:List Value,wf' (xf i)∧RIL (Old W) W (enc' (xf i)).cells ys∧W.cells? 0 (a.add (i.1 * P.cellsOf t')) (P.cellsOf t')=some ys:=fun i=>(each i).choose_spec
   let yf:Fin len→List Value:=fun i=>(hxf i).choose
   have hyf:∀ i:Fin len,wf' (xf i)∧RIL (Old W) W (enc' (xf i)).cells (yf i)∧W.cells? 0 (a.add (i.1 * P.cellsOf t')) (P.cellsOf t')=some (yf i):=fun i=>(hxf i).choose_spec
   let u:Nat→Value:=fun i=>if hi:i<len then (if e'=0 then (yf ⟨i,hi⟩).headD undef else .agg (yf ⟨i,hi⟩).toArray) else undef
   have hcell:∀ (i:Fin len) (j:Nat) c,(yf i)[j]? = some c→W.cell? (a.add (i.1 * esz e' + j))=some c:=fun i j c hc=>by
    have h3:=(cells?_nth (hyf i).2.2).2 j c hc
    rw[o.size] at h3
    have:(a.add (i.1 * esz e')).add j=a.add (i.1 * esz e' + j):=by
     by_cases h0:i.1 * esz e'=0
     ·simp[Addr.add,h0]
     ·by_cases hj:j=0
      ·simp[Addr.add,hj]
      ·simp[Addr.add,h0,hj];omega
    rwa [this] at h3
   have hylen:∀ i:Fin len,(yf i).length=esz e':=fun i=>by have:=(cells?_nth (hyf i).2.2).1;rwa [o.size] at this
   have hucells:∀ i:Fin len,(u i.1).cells.toList=yf i:=fun i=>by
    simp only[u,i.2,dif_pos]
    split
    ·rename_i h0
     have:=hylen i
     rw[h0,esz_zero] at this
     obtain ⟨c,hc⟩:=List.length_eq_one_iff.1 this
     have hr:=(hyf i).2.1
     rw[hc]
     simp only[List.headD_cons]
     rw[hc] at hr
     subst h0
     rw[cells_fit0 (IsEnc.fits (enc:=enc') (xf i))] at hr
     rw[hr.1.cells1 (IsEnc.fits (enc:=enc') (xf i))]
    ·rfl
   have hri:∀ i:Fin len,RI (Old W) W (enc' (xf i)) (u i.1):=fun i=>by
    have hr:=(hyf i).2.1
    have hfit:=IsEnc.fits (enc:=enc') (xf i)
    simp only[u,i.2,dif_pos]
    split
    ·rename_i h0
     subst h0
     have:=hylen i
     rw[esz_zero] at this
     obtain ⟨c,hc⟩:=List.length_eq_one_iff.1 this
     rw[hc,cells_fit0 hfit] at hr
     rw[hc]
     exact hr.1
    ·rename_i h0
     obtain ⟨m,rfl⟩:∃ m,e'=m + 1:=⟨e' - 1,by omega⟩
     obtain ⟨cs,hcs,_⟩:=fits_succ hfit
     rw[hcs] at hr ⊢
     obtain ⟨k1,k2⟩:=RIL.get (show RIL (Old W) W cs _ from hr)
     exact .agg cs _ (by simpa using k1) fun i c u hc hu=>k2 i c u hc (by simpa using hu)
   refine ⟨List.ofFn xf,⟨Nat.le_trans (Nat.mul_le_mul_right _ (by simp;omega)) hsm,fun x hx=>?_⟩,?_,trivial⟩
   ·obtain ⟨i,rfl⟩:=List.mem_ofFn.1 hx
    exact (hyf i).1
   ·have hnth:∀ (i:Nat) x,((List.ofFn xf).map enc')[i]? = some x→∃ hi:i<len,x=enc' (xf ⟨i,hi⟩):=fun i x hx=>by
     simp only[List.getElem?_map,Option.map_eq_some_iff] at hx
     obtain ⟨y,hy,rfl⟩:=hx
     obtain ⟨h3,h4⟩:=List.getElem?_eq_some_iff.1 hy
     exact ⟨by simpa using h3,by rw[← h4];simp⟩
    have hblock:∀ (i:Fin len),a.block<W.heap.size:=fun i=>by
     have h0:0<P.cellsOf t':=by rw[o.size];exact esz_pos _
     have hlen:0<(elems.length + rest.length) * P.cellsOf t':=Nat.mul_pos (by have:=i.2;omega) h0
     exact hlt (.cell a.block (a.off + 0)) (List.mem_append_left _ (List.mem_map.2 ⟨0,List.mem_range.2 hlen,rfl⟩))
    have haddr:∀ (i:Fin len),a=⟨a.block,a.off,none⟩:=fun i=>by
     have h1:=hylen ⟨0,by have:=i.2;omega⟩
     have h2:0<(yf ⟨0,by have:=i.2;omega⟩).length:=by rw[h1];exact esz_pos _
     have h3:=hcell ⟨0,by have:=i.2;omega⟩ 0 _ (List.getElem?_eq_getElem h2)
     simp only[Nat.zero_mul,Nat.add_zero,Addr.add,if_true] at h3
     unfold World.cell? at h3
     split at h3
     ·split at h3
      ·cases h3
      ·rename_i hsp
       cases a with
       | mk b o s=>cases s with
        | none=>rfl
        | some s=>simp at hsp
     ·cases h3
    show RI (Old W) W (.sl e' false ((List.ofFn xf).map enc')) (.slice (some a) len cap)
    have hl:((List.ofFn xf).map enc').length=len:=by simp
    have main:=RI.sl (S:=Old W) (w:=W) e' false ((List.ofFn xf).map enc') (some a) cap a.block a.off u (by rw[hl];exact hlc) hcm (fun h=>by cases h) (by
      by_cases h0:len=0
      ·left;exact List.eq_nil_of_length_eq_zero (hl.trans h0)
      ·right;rw[← haddr ⟨0,by omega⟩])
     (fun i x hx=>by obtain ⟨hi,rfl⟩:=hnth i x hx;exact IsEnc.fits _)
     (fun i x hx j c hj=>by
      obtain ⟨hi,rfl⟩:=hnth i x hx
      have hc:(yf ⟨i,hi⟩)[j]? = some c:=by rw[← hucells ⟨i,hi⟩];simpa using hj
      have h3:=hcell ⟨i,hi⟩ j c hc
      refine ⟨hblock ⟨i,hi⟩,?_⟩
      have ha:=haddr ⟨i,hi⟩
      have:a.add (i * esz e' + j)=⟨a.block,a.off + (i * esz e' + j),none⟩:=by
       rw[ha];simp only[Addr.add]
       split
       ·rename_i h0;simp only[h0,Nat.add_zero]
       ·rfl
      rwa [this] at h3)
     (fun i x hx=>by obtain ⟨hi,rfl⟩:=hnth i x hx;exact hri ⟨i,hi⟩) (fun h=>by cases h)
    rwa [hl] at main
theorem Pure.below{f:Nat}{as:List AV}(hp:Pure P f as (· = .bool true)){us:Array Value}{w:World}(hr:RIL (Old w) w as us.toList) :
  Calls P f us w fun e w'=>e=.returned (.bool true)∧Below w.heap.size w w'∧∀ a:Addr,a.block<w.heap.size→w'.frozen? a=w.frozen? a:=by
 obtain ⟨h1,h2⟩:=hr.get
 refine Calls.mono (hp.2.2 (Old w) w us (fun g o h=>h) (by simpa using h1) fun i c u hc hu=>h2 i c u hc (by simpa using hu)) ?_
 rintro e w' ⟨u,S',r,rfl,rfl,hb,_,_,_,hres⟩
 have hu:u=.bool true:=by
  rcases hres with h | ⟨e,xs,h,_⟩ | ⟨cs,us,h,_⟩
  ·cases h;rfl
  ·cases h
  ·cases h
 subst hu
 exact ⟨rfl,⟨hb.os,hb.tape,hb.output,hb.size,hb.block⟩,hb.frz⟩
open Go.ChangeShapes in
theorem post_still{H:Type}{enc:TypeId×Value→H}{P:Program}{f:Func}{s:ChangeSpec}{apart fresh handsOn again:Bool}{W W':World}{args:Array Value}{v:Value}{ds gs:List (DataW H)}{before pa:List MemPlace}
  (hW:DataW.Whole enc P f.params.toList s.vars apart W args.toList ds gs before)
  (hres:∀ (b:Nat) (sp:Nat→Bool) (hd:Bool),DataW.TrodAll enc P W' b sp hd f.resultTypes.toList (v.resultList f.resultTypes.size) (s.fn H (ds++gs)).results [])
  (hargs:∀ sp:Nat→Bool,(∀ p ∈ before,sp p.block=true)→DataW.TrodAll enc P W' 0 sp true f.params.toList args.toList (s.fn H (ds++gs)).args pa)
  (hvars:∀ sp:Nat→Bool,DataW.TrodVars enc P W' sp s.vars (s.fn H (ds++gs)).vars []) (hps:before=pa++[])
  (hk:W.keptBut W' (· ∈ before)) (hz:∀ a:Addr,a.block<W.heap.size→W'.frozen? a=W.frozen? a)
  (hok:∀ (j:Nat) (t:TypeId) (r:Value),f.resultTypes[j]? = some t→(v.resultList f.resultTypes.size)[j]? = some r→Value.okWide P W' .any 0 t r) :
  s.post enc P f apart fresh handsOn again W args v W':=by
 obtain rfl:before=pa:=by rw[hps,List.append_nil]
 have hlt:=hW.lt
 refine ⟨ds,gs,before,[],before,[],hW,hres _ _ _,hargs _ fun p hp=>by simpa using hlt p hp,hvars _,World.keptBut_mono (fun p hp=>⟨hp,.inr (.inl hp)⟩) hk,fun _=>?_⟩
 obtain ⟨_,_,_,_,_,hfrz,hdup⟩:=hW
 have hsame:before++([]:List MemPlace)=before:=List.append_nil _
 refine ⟨hok,_,_,before,⟨before,[],trodAll_append (hargs _ fun _ _=>rfl) (hres _ _ _),hvars _,hsame.symm,fun b off hp=>?_,fun ha=>hdup ha⟩,fun p hp _=>hp⟩
 rw[hz ⟨b,off,none⟩ (hlt _ hp)]
 exact hfrz b off hp
end
end Go.Ab
namespace Go.Ab
open Go
section
variable {P:Program}
theorem code_calls2{f n:Nat}{rs:List Rv}{ir:C}(hf:fd? P f=some (n,rs,ir)){args:List AV}(hn:args.length≤n){h:Hp}{R:AV→Hp→Prop}
  (hw:AW P n h.length ir (fun ex st=>(ex=.normal∨ex=.ret)∧∃ st2 v,Le h.length st st2∧resVs st2 rs=some v∧R v st2.h) ⟨slotsOf args,h⟩) {E:Env}{w:World}{us:Array Value}(hok:HOK E h w) (hl:us.size=args.length)
  (hr:∀ (i:Nat) c u,args[i]? = some c→us[i]? = some u→RV E w c u) :
  Calls P f us w fun e w'=>∃ u E' r h',e=.returned u∧R r h'∧HOK E' h' w'∧Ext h.length E w E' w'∧RV E' w' r u:=by
 unfold fd? at hf
 split at hf
 case h_2=>cases hf
 rename_i fn hfn
 split at hf
 ·cases hf
 rename_i hnm
 split at hf
 case h_2=>cases hf
 rename_i c hc
 split at hf
 case h_2=>cases hf
 rename_i rs' ir' hrs hir
 injection hf with hf;injection hf with e1 hf;injection hf with e2 e3
 subst e1;subst e2;subst e3
 refine calls_of_wp hfn hc ?_
 have hst:StOK E ⟨slotsOf args,h⟩ { tmps:=us++Array.replicate (fn.ntmps - us.size) undef,defers:=[] } w:=enter_ok hok rfl hl hr
 refine wp_mono (hw _ hir E _ w hst (by simp;omega)) ?_
 rintro e a' w' ⟨ex,st',E',rfl,⟨hex,st2,v,hle,hv,hR⟩,k3,k4,k5⟩
 obtain ⟨E2,q1,q2⟩:=hle E' a' w' k3
 obtain ⟨u,hrun,hrv⟩:=results_ok (P:=P) q1 hrs hv
 have fin:a'.defers=[]∧∃ v,(results fn a'.tmps).run P w'=.ok v w'∧∃ u E'' r h',Ending.returned v=.returned u∧R r h'∧HOK E'' h' w'∧Ext h.length E w E'' w'∧RV E'' w' r u :=
  ⟨k3.defers,u,hrun,u,E2,v,st2.h,rfl,hR,q1.heap,k5.trans q2 (Nat.le_refl _),hrv⟩
 rcases hex with rfl | rfl
 ·exact fin
 ·exact fin
structure Il (V:Type) where
 run:Option V
 res:V→AV
 hp:V→Hp
theorem evTs_inl{V α : Type}{I:Il V}{kont:V→Option α}{r : α}(H:I.run.bind kont=some r){is:List Ins}{K:St→Prop}{s:Nat→AV}{h:Hp}{d:Option Nat}{f:Od}{as:List Od}{k n:Nat}{caps args:List AV}{rs:List Rv}{ir:C}
  (hf:f.ev s=.fn k caps) (hfd:fd? P k=some (n,rs,ir)) (ha:as.map (Od.ev s)++caps=args) (hn:args.length≤n)
  (hw:∀ v Q,I.run=some v→(∀ ex st st2,(ex=.normal∨ex=.ret)→Le h.length st st2→resVs st2 rs=some (I.res v)→st2.h=I.hp v→Q ex st)→AW P n h.length ir Q ⟨slotsOf args,h⟩)
  (hk:∀ v s2 h2,kont v=some r→s2=put? s d (I.res v)→h2=I.hp v→evTs (Fn P) is K ⟨s2,h2⟩) :
  evTs (Fn P) (Ins.mk d none (.call f as)::is) K ⟨s,h⟩:=by
 obtain ⟨v,hv,h2⟩:=Option.bind_eq_some_iff.1 H
 refine evTs_call hf ?_
 rw[ha]
 refine ⟨fd?_entered hfd,⟨I.res v,I.hp v,hk v _ _ h2 rfl rfl⟩,fun E w us hok hl hr=>code_calls2 hfd hn (hw v _ hv fun ex st st2 h1 h2' h3 h4=>⟨h1,st2,I.res v,h2',h3,?_⟩) hok hl hr⟩
 rw[h4]
 exact hk v _ _ h2 rfl rfl
end
theorem Le.toL{lo:Nat}{st st2:St}(n:Nat)(hn:lo=n)(ks live:List Nat)(hnd:ks.Nodup)(hlo:∀ b,b<n→ks[b]? = some b)(e:Ab.restrict ks live st=st2):Le lo st st2 :=
 Le.to ks live hnd (fun b hb=>hlo b (hn ▸ hb)) e
def must?(p:Prop)[Decidable p]:Option Unit:=if p then some () else none
theorem must_inv{α : Type}{p:Prop}[Decidable p]{kont:Unit→Option α}{r : α}(H:(must? p).bind kont=some r):p∧kont ()=some r:=by
 unfold must? at H
 split at H
 ·exact ⟨by assumption,H⟩
 ·cases H
def stE(es off:Nat)(v nv:AV):Option AV :=
 if nv.fits es then match v with
  | .agg cs=>if off + esz es≤cs.length then some (.agg (splice cs off nv)) else none
  | _=>if off=0∧es=0 then some nv else none
 else none
section
variable {F:CallF}{is:List Ins}{K:St→Prop}{s:Nat→AV}{h:Hp}{d:Option Nat}
theorem lt_map{τ : Type}{xs:List τ}{enc : τ → AV}{i:Nat}{v:AV}(h:(xs.map enc)[i]? = some v):i<xs.length:=by
 have:=(List.getElem?_eq_some_iff.1 h).1
 simpa using this
theorem evTs_stE{τ : Type}{enc : τ → AV}{e b i off es:Nat}{xs:List τ}(y y' : τ){a x:Od}(ha:a.ev s=.eptr b i off)(hb:h[b]? = some (.els e (xs.map enc)))(hy:(xs.map enc)[i]? = some (enc y))
  (hv:stE es off (enc y) (x.ev s)=some (enc y')) (hk:evTs F is K ⟨put? s d .junk,h.set b (.els e ((xs.set i y').map enc))⟩):evTs F (Ins.mk d none (.store es a x)::is) K ⟨s,h⟩:=by
 refine step rfl ?_ hk
 unfold stE at hv
 rw[List.map_set]
 simp only[evV,ha,hb,hy]
 split at hv
 ·rename_i hf
  rw[if_pos hf]
  split at hv
  ·rename_i cs hc
   rw[hc]
   split at hv
   ·rename_i hl
    injection hv with hv
    simp only[hl,if_true,hv]
   ·cases hv
  ·rename_i hc
   split at hv
   ·rename_i hl
    injection hv with hv
    split
    ·rename_i cs hcs;injection hcs with hcs;exact absurd hcs (hc cs)
    ·simp only[hl,and_self,if_true,hv]
    ·rename_i hn;cases hn
   ·cases hv
 ·cases hv
theorem evTs_stW{τ : Type}{enc : τ → AV}{e b i off es:Nat}{xs:List τ}(y' : τ){a x:Od}(ha:a.ev s=.eptr b i off)(hb:h[b]? = some (.els e (xs.map enc)))(hi:i<xs.length)
  (hv:∀ y,stE es off (enc y) (x.ev s)=some (enc y')) (hk:evTs F is K ⟨put? s d .junk,h.set b (.els e ((xs.set i y').map enc))⟩):evTs F (Ins.mk d none (.store es a x)::is) K ⟨s,h⟩ :=
 evTs_stE (xs[i]) y' ha hb (by simp[hi]) (hv _) hk
end
theorem ncs:(∀ a0,(Op1.mv a0).isCall=false) ∧
  (∀ a0 a1 a2,(Op1.pick a0 a1 a2).isCall=false) ∧
  (∀ a0,(Op1.box a0).isCall=false) ∧
  (∀ a0,(Op1.alloc a0).isCall=false) ∧
  (∀ a0 a1,(Op1.build a0 a1).isCall=false) ∧
  (∀ a0 a1 a2 a3,(Op1.mksl a0 a1 a2 a3).isCall=false) ∧
  (∀ a0 a1 a2 a3,(Op1.mkslp a0 a1 a2 a3).isCall=false) ∧
  (∀ a0 a1,(Op1.load a0 a1).isCall=false) ∧
  (∀ a0,(Op1.nilchk a0).isCall=false) ∧
  (∀ a0 a1 a2,(Op1.bin a0 a1 a2).isCall=false) ∧
  (∀ a0 a1 a2,(Op1.binb a0 a1 a2).isCall=false) ∧
  (∀ a0 a1 a2 a3,(Op1.eqs a0 a1 a2 a3).isCall=false) ∧
  (∀ a0 a1 a2,(Op1.eqp a0 a1 a2).isCall=false) ∧
  (∀ a0 a1,(Op1.un a0 a1).isCall=false) ∧
  (∀ a0 a1,(Op1.cint a0 a1).isCall=false) ∧
  (∀ a0 a1,(Op1.mkfn a0 a1).isCall=false) ∧
  (∀ a0 a1 a2 a3 a4,(Op1.aslice a0 a1 a2 a3 a4).isCall=false) ∧
  (∀ a0 a1,(Op1.faddr a0 a1).isCall=false) ∧
  (∀ a0 a1 a2,(Op1.fld a0 a1 a2).isCall=false) ∧
  (∀ a0 a1,(Op1.ext a0 a1).isCall=false) ∧
  (∀ a0 a1,(Op1.len a0 a1).isCall=false) ∧
  (∀ a0,(Op1.alen a0).isCall=false) ∧
  (∀ a0 a1 a2,(Op1.maxmin a0 a1 a2).isCall=false) ∧
  ((Op1.mkmap).isCall=false) :=
 ⟨fun _=>rfl,fun _ _ _=>rfl,fun _=>rfl,fun _=>rfl,fun _ _=>rfl,fun _ _ _ _=>rfl,fun _ _ _ _=>rfl,fun _ _=>rfl,fun _=>rfl,fun _ _ _=>rfl,fun _ _ _=>rfl,fun _ _ _ _=>rfl,fun _ _ _=>rfl,fun _ _=>rfl,fun _ _=>rfl,fun _ _=>rfl,fun _ _ _ _ _=>rfl,fun _ _=>rfl,fun _ _ _=>rfl,fun _ _=>rfl,fun _ _=>rfl,fun _=>rfl,fun _ _ _=>rfl,rfl⟩
theorem evTs_st{F:CallF}{is:List Ins}{K:St→Prop}{s:Nat→AV}{h h':Hp}{d:Option Nat}{es:Nat}{a x:Od}{v:AV}(hv:evV s h (.store es a x)=some (v,h'))(hk:evTs F is K ⟨put? s d v,h'⟩) :
  evTs F (Ins.mk d none (.store es a x)::is) K ⟨s,h⟩:=step rfl hv hk
theorem take_map_eq{τ : Type}{xs:List τ}{n:Nat}(h:xs.length=n)(f : τ → AV):List.take n (xs.map f)=xs.map f:=by subst h;rw[List.take_of_length_le (by simp)]
theorem take_map_set{τ : Type}(xs:List τ)(i:Nat)(y : τ)(f : τ → AV):List.take xs.length ((xs.set i y).map f)=(xs.set i y).map f:=take_map_eq (by simp) f
theorem take_map_set2{τ : Type}(xs:List τ)(i j:Nat)(y z : τ)(f : τ → AV):List.take xs.length (((xs.set i y).set j z).map f)=((xs.set i y).set j z).map f:=take_map_eq (by simp) f
theorem wrapBits_eq(k:IntKind)(r:BitVec k.bits):wrapBits k r=.int k (k.wrap r.toNat):=rfl
section
variable {F:CallF}{is:List Ins}{K:St→Prop}{s:Nat→AV}{h:Hp}{d:Option Nat}
theorem rest_eqs{ks:List Nat}{x y:AV}{b:Bool}(he:eqS ks x y=some b)(hk:rest F is K s d (some (.bool b,h))):rest F is K s d (Option.map (fun b=>(AV.bool b,h)) (eqS ks x y)):=by rw[he];exact hk
theorem rest_neqs{ks:List Nat}{x y:AV}{b:Bool}(he:eqS ks x y=some b)(hk:rest F is K s d (some (.bool (!b),h))):rest F is K s d (Option.map (fun b=>(AV.bool (!b),h)) (eqS ks x y)):=by rw[he];exact hk
theorem rest_or{k:IntKind}{a b:Int}(hk:rest F is K s d (some (wrapBits k (BitVec.ofInt k.bits a ||| BitVec.ofInt k.bits b),h))):rest F is K s d (Option.map (fun v=>(v,h)) (bin .or (.int k a) (.int k b))):=by
 simpa[bin,isShift,binI] using hk
theorem rest_shrv{α : Type}{kont:Unit→Option α}{r : α}{k k':IntKind}{a b:Int}(H:(must? (0≤b)).bind kont=some r)(hk:kont ()=some r→rest F is K s d (some (.int k (a.fdiv (2 ^ (min b.toNat k.bits))),h))) :
  rest F is K s d (Option.map (fun v=>(v,h)) (bin .shr (.int k a) (.int k' b))):=rest_shr (must_inv H).1 (hk (must_inv H).2)
end
end Go.Ab
namespace Go.Ab
open Go
section
variable {F:CallF}{K:St→Prop}{st:St}{is:List Ins}{a b:RT}
theorem evR.run(h:evTs F is K st):evR F (.run is) K st:=h
theorem evR.fork(h:evTs F is (fun st=>evR F a K st∧evR F b K st) st):evR F (.fork is a b) K st:=h
theorem evR.both{p q:Prop}(h1:p)(h2:q):p∧q:=⟨h1,h2⟩
end
section
variable {F:CallF}{is:List Ins}{K:St→Prop}{s:Nat→AV}{h:Hp}{d:Option Nat}
end
end Go.Ab
namespace Go.Ab
open Go
variable {P:Program}
section
variable {n lo:Nat}{Q:Ex→St→Prop}
end
def junkE(e:Nat):AV:=if e=0 then .junk else .agg (List.replicate e .junk)
theorem junk_el{E:Env}{w:World}{e:Nat}{vals:Array Value}{j:Nat}(hj:(j + 1) * esz e≤vals.size) :
  Shape e (junkE e)∧∃ u:Value,RV E w (junkE e) u∧u.cells.size=esz e∧∀ (k:Nat) c,u.cells[k]? = some c→vals[j * esz e + k]? = some c:=by
 rw[Nat.succ_mul] at hj
 unfold junkE
 by_cases h0:e=0
 ·subst h0
  simp only[esz_zero,Nat.mul_one] at hj ⊢
  have hl:j<vals.size:=by omega
  refine ⟨by simp[Shape,Ok1],.agg #[vals[j]],.junk _,rfl,fun k c hc=>?_⟩
  have:k=0:=by
   have:=(Array.getElem?_eq_some_iff.1 hc).1
   simp[Value.cells] at this
   exact this
  subst this
  simp[Value.cells] at hc
  rw[Nat.add_zero,Array.getElem?_eq_getElem hl,hc]
 ·have he:esz e=e:=by unfold esz;rw[if_neg h0]
  rw[he] at hj ⊢
  simp only[if_neg h0]
  refine ⟨by unfold Shape;rw[if_neg h0];exact ⟨_,rfl,by simp,fun c hc=>.inr (List.eq_of_mem_replicate hc)⟩,.agg (vals.extract (j * e) (j * e + e)),?_,?_,?_⟩
  ·refine .agg _ _ (by simp;omega) fun i c u hc hu=>?_
   rw[List.eq_of_mem_replicate (List.mem_of_getElem? hc)]
   exact .junk _
  ·show (vals.extract (j * e) (j * e + e)).size=e
   simp;omega
  ·intro k c hc
   have hc':(vals.extract (j * e) (j * e + e))[k]? = some c:=hc
   rw[Array.getElem?_extract] at hc'
   split at hc'
   ·exact hc'
   ·cases hc'
theorem set_same{h:Hp}{b:Nat}{x:HB}(hb:h[b]? = some x):h.set b x=h:=by
 refine List.ext_getElem? fun i=>?_
 by_cases hi:i=b
 ·subst hi;rw[getElem?_set_self' hb,hb]
 ·rw[List.getElem?_set_ne (Ne.symm hi)]
theorem HOK.widen{E:Env}{h:Hp}{w:World}(hok:HOK E h w){b e:Nat}{xs:List AV}(hb:h[b]? = some (.els e xs)){g:Nat}(hg:E.rho b=some (some g))(hle:xs.length≤E.ca b) :
  HOK E (h.set b (.els e (xs++List.replicate (E.ca b - xs.length) (junkE e)))) w:=by
 obtain ⟨hke,⟨k0,_⟩ | ⟨g',vals,t',fz,k1,k2,k2',k3,k4,k5,k6,k7⟩⟩:=hok.blocks b _ hb
 ·rw[k0] at hg;cases hg
 rw[hg] at k1;injection k1 with k1;injection k1 with k1;subst k1
 have hlen:(xs++List.replicate (E.ca b - xs.length) (junkE e)).length=E.ca b:=by simp;omega
 refine hok.set hb trivial hg rfl rfl rfl (Nat.le_refl _) (fun _ _ _=>rfl) (fun _=>rfl) ⟨hke,.inr ⟨g,vals,t',fz,hg,k2,k2',k3,by omega,k5,by rw[hlen,k3];exact Nat.le_refl _,fun i v hv=>?_⟩⟩
 by_cases hi:i<xs.length
 ·rw[List.getElem?_append_left hi] at hv
  exact k7 i v hv
 ·have hil:=(List.getElem?_eq_some_iff.1 hv).1
  rw[List.getElem?_append_right (by omega)] at hv
  rw[List.eq_of_mem_replicate (List.mem_of_getElem? hv)]
  exact junk_el (by rw[k3];exact Nat.mul_le_mul_right _ (by omega))
theorem AW.caps{n lo:Nat}{c:C}{Q:Ex→St→Prop}{st:St}{i e b m:Nat}{xs:List AV}(hi:st.s i=.row e b 0 m)(hm:m=xs.length)(hb:st.h[b]? = some (.els e xs))
  (h:∀ cap,m≤cap→AW P n lo c Q ⟨put st.s i (.crow e b 0 m cap),st.h.set b (.els e (xs++List.replicate (cap - m) (junkE e)))⟩):AW P n lo c Q st:=fun c' hc E a w hst hn=>by
 subst hm
 have hv:=hst.slots i
 rw[hi] at hv
 have fin:∀ cap,xs.length≤cap→RV E w (.crow e b 0 xs.length cap) (a.tmps.getD i undef)→HOK E (st.h.set b (.els e (xs++List.replicate (cap - xs.length) (junkE e)))) w→c'.wp P (Post n lo E w Q) a w:=fun cap hcap hrv hok=>by
  refine h cap hcap c' hc E a w ⟨fun j=>?_,hst.defers,hok⟩ hn
  by_cases hj:j=i
  ·subst hj;simp only[put,if_true];exact hrv
  ·simp only[put,if_neg hj];exact hst.slots j
 obtain ⟨hke,hrow⟩:=hv.row_inv
 rcases hrow with ⟨h0,_,hl0,A,hp⟩ | ⟨g,cap,A,hg,hp,hA,hl,hcc,hmx⟩
 ·have hx:xs=[]:=List.eq_nil_of_length_eq_zero hl0
  subst hx
  refine fin 0 (Nat.le_refl _) (by rw[hp];exact .crow0 e b A h0 hke) ?_
  have:st.h.set b (.els e ([]++List.replicate (0 - ([]:List AV).length) (junkE e)))=st.h:=set_same hb
  rw[this];exact hst.heap
 ·have hcap:cap=E.ca b:=by omega
  subst hcap
  exact fin (E.ca b) hl (by
   rw[hp]
   exact .crow e b 0 xs.length g (E.ca b) A hg hke (hA.imp id fun h=>absurd rfl h.1) hl (by omega) hmx) (hst.heap.widen hb hg hl)
theorem Le.give(lo:Nat)(st:St)(b:Nat):Le lo st ⟨st.s,st.h.set b .dead⟩:=fun E a w hst=>⟨E,⟨hst.slots,hst.defers,hst.heap.give b⟩,Ext.refl _ _ _⟩
end Go.Ab
namespace Go.Ab
open Go Go.RowKit
variable {P:Program}
def Rounds(P:Program)(n lo:Nat)(b:C)(Q:Ex→St→Prop):Nat→St→Prop
 | 0,_=>False
 | m + 1,st=>AW P n lo b (thenQ (fun st'=>∃ st2,Le lo st' st2∧Rounds P n lo b Q m st2) Q) st
def roundQ(P:Program)(n lo:Nat)(b:C)(Q:Ex→St→Prop)(m:Nat):Ex→St→Prop:=thenQ (fun st'=>∃ st2,Le lo st' st2∧Rounds P n lo b Q m st2) Q
theorem AW.rounds{n lo:Nat}{b:C}{Q:Ex→St→Prop}{st:St}(m:Nat)(h:Rounds P n lo b Q m st):AW P n lo (.loop b) Q st:=by
 refine AW.loop (fun m st=>Rounds P n lo b Q m st) h ?_
 intro m st h
 cases m with
 | zero=>exact h.elim
 | succ m =>
  refine AW.mono ?_ h
  intro ex st' hq
  cases ex with
  | normal =>
   obtain ⟨st2,h1,h2⟩:=hq
   exact ⟨m,st2,Nat.lt_succ_self _,h1,h2⟩
  | exit id=>exact hq
  | ret=>exact hq
section
variable {n lo m:Nat}{b:C}{Q:Ex→St→Prop}{st:St}
theorem Rounds.go(h:AW P n lo b (roundQ P n lo b Q m) st):Rounds P n lo b Q (m + 1) st:=h
theorem roundQ.next{st2:St}(hl:Le lo st st2)(h:Rounds P n lo b Q m st2):roundQ P n lo b Q m .normal st:=⟨st2,hl,h⟩
theorem roundQ.exit{id:Nat}(h:Q (.exit id) st):roundQ P n lo b Q m (.exit id) st:=h
theorem roundQ.ret(h:Q .ret st):roundQ P n lo b Q m .ret st:=h
end
section
variable {F:CallF}{is:List Ins}{K:St→Prop}{s:Nat→AV}{h:Hp}{d:Option Nat}
theorem evTs_any{o:Op1}{v:AV}{h':Hp}(hc:o.isCall=false)(hv:evV s h o=some (v,h'))(hk:evTs F is K ⟨put? s d v,h'⟩):evTs F (Ins.mk d none o::is) K ⟨s,h⟩:=step hc hv hk
end
theorem set_get{τ : Type}{xs:List τ}{enc : τ → AV}{i:Nat}{v:AV}(h:(xs.map enc)[i]? = some v)(y : τ):((xs.set i y).map enc)[i]? = some (enc y):=by
 have:=lt_map h
 simp[this]
end Go.Ab
namespace Go.Ab
open Go
theorem nca:(∀ a0,(Op1.mv a0).isCall=false) ∧
  (∀ a0 a1 a2,(Op1.pick a0 a1 a2).isCall=false) ∧
  (∀ a0 a1,(Op1.build a0 a1).isCall=false) ∧
  (∀ a0 a1 a2 a3,(Op1.mksl a0 a1 a2 a3).isCall=false) ∧
  (∀ a0 a1 a2 a3,(Op1.mkslp a0 a1 a2 a3).isCall=false) ∧
  (∀ a0,(Op1.nilchk a0).isCall=false) ∧
  (∀ a0 a1 a2,(Op1.bin a0 a1 a2).isCall=false) ∧
  (∀ a0 a1 a2,(Op1.binb a0 a1 a2).isCall=false) ∧
  (∀ a0 a1 a2 a3,(Op1.eqs a0 a1 a2 a3).isCall=false) ∧
  (∀ a0 a1 a2,(Op1.eqp a0 a1 a2).isCall=false) ∧
  (∀ a0 a1,(Op1.un a0 a1).isCall=false) ∧
  (∀ a0 a1,(Op1.cint a0 a1).isCall=false) ∧
  (∀ a0 a1,(Op1.mkfn a0 a1).isCall=false) ∧
  (∀ a0 a1,(Op1.faddr a0 a1).isCall=false) ∧
  (∀ a0 a1 a2,(Op1.fld a0 a1 a2).isCall=false) ∧
  (∀ a0 a1,(Op1.ext a0 a1).isCall=false) ∧
  (∀ a0 a1,(Op1.len a0 a1).isCall=false) ∧
  (∀ a0,(Op1.alen a0).isCall=false) ∧
  (∀ a0 a1 a2,(Op1.maxmin a0 a1 a2).isCall=false) ∧
  ((Op1.mkmap).isCall=false) :=
 ⟨fun _=>rfl,fun _ _ _=>rfl,fun _ _=>rfl,fun _ _ _ _=>rfl,fun _ _ _ _=>rfl,fun _=>rfl,fun _ _ _=>rfl,fun _ _ _=>rfl,fun _ _ _ _=>rfl,fun _ _ _=>rfl,fun _ _=>rfl,fun _ _=>rfl,fun _ _=>rfl,fun _ _=>rfl,
  fun _ _ _=>rfl,fun _ _=>rfl,fun _ _=>rfl,fun _=>rfl,fun _ _ _=>rfl,rfl⟩
section
variable {F:CallF}{is:List Ins}{K:St→Prop}{s:Nat→AV}{h:Hp}{d:Option Nat}{α : Type}{r : α}
end
end Go.Ab
namespace Go.Ab
open Go
variable {P:Program}
section
variable {n lo:Nat}{Q:Ex→St→Prop}
end
end Go.Ab
namespace Go.Ab
open Go
section
variable {S E A τ : Type}
def walkL(f:Nat→A → τ → A⊕E)(g:A→E):Nat→A→List τ → E
 | _,a,[]=>g a
 | k,a,x::xs=>match f k a x with
  | .inl a'=>walkL f g (k + 1) a' xs
  | .inr e=>e
def roundL(mk:Nat→A→S)(k:Nat):A⊕E→Ctl S E
 | .inl a=>.next (mk (k + 1) a)
 | .inr e=>.brk e
theorem run_walk{L:Lp S E}(xs:List τ)(mk:Nat→A→S)(f:Nat→A → τ → A⊕E)(g:A→E)(I:Nat→A→Prop)
  (hs:∀ k a x,xs[k]? = some x→I k a→L.body (mk k a)=some (roundL mk k (f k a x))∧∀ a',f k a x=.inl a'→I (k + 1) a')
  (he:∀ a,I xs.length a→L.body (mk xs.length a)=some (.brk (g a))) (a0:A) (h0:I 0 a0):L.run (mk 0 a0)=some (walkL f g 0 a0 xs):=by
 have key:∀ (m k:Nat) (a:A),k + m=xs.length→I k a→L.run (mk k a)=some (walkL f g k a (xs.drop k)):=by
  intro m
  induction m with
  | zero =>
   intro k a hk hI
   have:k=xs.length:=by omega
   subst this
   rw[List.drop_length]
   exact iter_brk (he a hI)
  | succ m ih =>
   intro k a hk hI
   have hlt:k<xs.length:=by omega
   obtain ⟨h1,h2⟩:=hs k a xs[k] (List.getElem?_eq_getElem hlt) hI
   rw[List.drop_eq_getElem_cons hlt]
   simp only[walkL]
   cases hf:f k a xs[k] with
   | inl a' =>
    rw[hf] at h1
    rw[show L.run (mk k a)=iter L.body (mk k a) from rfl,iter_next h1]
    exact ih (k + 1) a' (by omega) (h2 a' hf)
   | inr e =>
    rw[hf] at h1
    exact iter_brk h1
 exact key xs.length 0 a0 (by omega) h0
theorem at_lt{xs:List τ}{k:Nat}{x : τ}(h:xs[k]? = some x):decide ((k:Int)<((xs.length:Nat):Int))=true:=by
 have:=(List.getElem?_eq_some_iff.1 h).1
 simpa using this
theorem w64_succ{k:Nat}(h:k + 1≤9223372036854775807):IntKind.i64.wrap ((k:Int) + 1)=((k + 1:Nat):Int):=by rw[w64 (by omega) (by omega)];rfl
theorem getElem?_lt{xs:List τ}{k:Nat}{x : τ}(h:xs[k]? = some x):k<xs.length:=(List.getElem?_eq_some_iff.1 h).1
theorem getElem?_mem{xs:List τ}{k:Nat}{x : τ}(h:xs[k]? = some x):x ∈ xs:=List.mem_of_getElem? h
theorem walk_find(p : τ → Bool)(e:Nat → τ → E)(g:Unit→E):∀ (xs:List τ) (k:Nat),walkL (fun k _ x=>if p x then .inr (e k x) else .inl ()) g k () xs=match xs.findIdx? p with
  | none=>g ()
  | some i=>match xs[i]? with
   | some x=>e (k + i) x
   | none=>g ()
 | [],_=>by simp[walkL]
 | x::xs,k=>by
  simp only[walkL,List.findIdx?_cons]
  by_cases h:p x
  ·simp[h]
  ·simp only[h,Bool.false_eq_true,if_false]
   rw[walk_find p e g xs (k + 1)]
   cases hf:xs.findIdx? p with
   | none=>rfl
   | some i =>
    simp only[Option.map_some,List.getElem?_cons_succ]
    rw[show k + 1 + i=k + (i + 1) by omega]
end
section
variable {τ : Type}
def midI(i j:Int):Int:=IntKind.i64.wrap (Int.fdiv (IntKind.u64.wrap (IntKind.i64.wrap (i + j))) (2 ^ (min (Int.toNat 1) (IntKind.bits .u64))))
end
def unfD:Nat→AV→AV
 | 0,v=>v
 | n + 1,v=>match v with
  | .sl e _ xs=>.sl e false (xs.map (unfD n))
  | .agg cs=>.agg (cs.map (unfD n))
  | .tup cs=>.tup (cs.map (unfD n))
  | .fn f cs=>.fn f (cs.map (unfD n))
  | .pro cs=>.pro (cs.map (unfD n))
  | .nilmp=>.mp [] []
  | v=>v
theorem one_unfD(n:Nat)(c:AV):(unfD n c).one=c.one:=by
 cases n with
 | zero=>rfl
 | succ n=>cases c<;>rfl
theorem onesB_unfD(n:Nat)(cs:List AV):onesB (cs.map (unfD n))=onesB cs:=by
 simp only[onesB,List.all_map]
 congr 1
 funext c
 exact one_unfD n c
theorem fits_unfD(n e:Nat)(c:AV):(unfD n c).fits e=c.fits e:=by
 cases n with
 | zero=>rfl
 | succ n=>cases c<;>first | rfl | simp[unfD,AV.fits,onesB_unfD]
theorem RI.unfD{S:Nat→Nat→Prop}{w:World}:∀ (n:Nat) {v:AV}{u:Value},RI S w v u→RI S w (Ab.unfD n v) u
 | 0,_,_,h=>h
 | n + 1,v,u,h=>by
  have nth:∀ {cs:List AV}{i:Nat}{c:AV},(cs.map (Ab.unfD n))[i]? = some c→∃ c',cs[i]? = some c'∧c=Ab.unfD n c':=fun {cs i c} hc=>by
   simp only[List.getElem?_map,Option.map_eq_some_iff] at hc
   obtain ⟨c',hc',rfl⟩:=hc
   exact ⟨c',hc',rfl⟩
  cases h with
  | sl e full xs A cap g o uu hl hm hf hA hx hc hr =>
   have hlen:(xs.map (Ab.unfD n)).length=xs.length:=List.length_map ..
   have main:=RI.sl (S:=S) (w:=w) e false (xs.map (Ab.unfD n)) A cap g o uu (by omega) hm (fun h=>by cases h) (hA.imp (fun h=>by subst h;rfl) id) (fun i x hi=>by
     obtain ⟨x',hx',rfl⟩:=nth hi
     rw[fits_unfD];exact hx i x' hx')
    (fun i x hi j c hj=>by
     obtain ⟨x',hx',rfl⟩:=nth hi
     exact hc i x' hx' j c hj)
    (fun i x hi=>by
     obtain ⟨x',hx',rfl⟩:=nth hi
     exact (hr i x' hx').unfD n) (fun h=>by cases h)
   rw[hlen] at main
   exact main
  | agg cs us hs hr =>
   refine .agg _ us (by simpa using hs) fun i c z hc hz=>?_
   obtain ⟨c',hc',rfl⟩:=nth hc
   exact (hr i c' z hc' hz).unfD n
  | tup cs us hs hr =>
   refine .tup _ us (by simpa using hs) fun i c z hc hz=>?_
   obtain ⟨c',hc',rfl⟩:=nth hc
   exact (hr i c' z hc' hz).unfD n
  | fn f cs us hs hr =>
   refine .fn f _ us (by simpa using hs) fun i c z hc hz=>?_
   obtain ⟨c',hc',rfl⟩:=nth hc
   exact (hr i c' z hc' hz).unfD n
  | pro cs g o uu hc hr =>
   refine .pro _ g o uu (fun i c hi=>?_) fun i c hi=>?_
   ·obtain ⟨c',hc',rfl⟩:=nth hi
    exact hc i c' hc'
   ·obtain ⟨c',hc',rfl⟩:=nth hi
    exact (hr i c' hc').unfD n
  | bool b=>exact .bool b
  | int k n=>exact .int k n
  | str s=>exact .str s
  | nilp=>exact .nilp
  | nilfn=>exact .nilfn
  | nilmp=>exact .mpn
  | mpn=>exact .mpn
  | mp ks vs g es cl hS hg h1 h2 hk hv=>exact .mp ks vs g es cl hS hg h1 h2 hk hv
theorem unfD_fr(n e:Nat)(xs:List AV):unfD n (.fr e xs)=.fr e xs:=by cases n<;>rfl
theorem ResOK.unfD{S:Nat→Nat→Prop}{w:World}{lo:Nat}{r:AV}{u:Value}(h:ResOK S w lo r u):ResOK S w lo (Ab.unfD 12 r) u:=by
 rcases h with h | ⟨e,xs,rfl,h⟩ | ⟨cs,us,rfl,rfl,hs,hall⟩
 ·exact .inl (h.unfD 12)
 ·exact .inr (.inl ⟨e,xs,unfD_fr _ _ _,h⟩)
 ·refine .inr (.inr ⟨cs.map (Ab.unfD 11),us,rfl,rfl,by simpa using hs,fun i c v hc hv=>?_⟩)
  simp only[List.getElem?_map,Option.map_eq_some_iff] at hc
  obtain ⟨c',hc',rfl⟩:=hc
  rcases hall i c' v hc' hv with h | ⟨e,xs,rfl,h⟩
  ·exact .inl (h.unfD 11)
  ·exact .inr ⟨e,xs,unfD_fr _ _ _,h⟩
theorem Pure.walk3{P:Program}{f n:Nat}{rs:List Rv}{ir:C}(hf:fd? P f=some (n,rs,ir))(fresh:Option Nat){args:List AV}(hn:args.length≤n){v:AV}(hv:Ab.unr v=v)
  (hw:∀ Q,Ends2 rs fresh (fun x=>x=v∨Ab.unfD 12 x=v) Q→AW P n 0 ir Q ⟨slotsOf args,[]⟩):Pure P f args (· = v):=by
 have h1:Pure P f args (fun r=>Ab.unr r=v∨Ab.unfD 12 (Ab.unr r)=v):=Pure.of_code hf fresh hn ⟨v,.inl hv⟩ (hw _ fun _ _ v r h1 h2 h3 h4=>⟨h1,v,r,h2,h3,h4⟩)
 have h2:=h1.unr (R':=fun r=>r=v∨Ab.unfD 12 r=v) fun r hr=>hr
 refine ⟨h2.1,⟨v,rfl⟩,fun S w us k1 k2 k3=>Calls.mono (h2.2.2 S w us k1 k2 k3) ?_⟩
 rintro e w' ⟨u,S',r,rfl,hR,q1,q2,q3,q4,q5⟩
 rcases hR with rfl | hR
 ·exact ⟨u,S',_,rfl,rfl,q1,q2,q3,q4,q5⟩
 ·exact ⟨u,S',_,rfl,rfl,q1,q2,q3,q4,hR ▸ q5.unfD⟩
end Go.Ab
namespace Go.Ab
open Go
section
variable {τ S E:Type}
theorem run_collect{ρ : Type}{L:Lp (Int×List ρ) (List ρ)}{xs:List τ}(f : τ → List ρ)(hs:∀ (k:Nat) (acc:List ρ) x,xs[k]? = some x→acc.length≤k→L.body ((k:Int),acc)=some (.next (((k + 1:Nat):Int),acc++f x)))
  (h1:∀ x,(f x).length≤1) (he:∀ acc,L.body (((xs.length:Nat):Int),acc)=some (.brk acc)):L.run (0,[])=some (xs.flatMap f):=by
 have hrun:=run_walk (L:=L) xs (fun k (a:List ρ)=>((k:Int),a)) (fun _ a x=>.inl (a++f x)) (fun a=>a) (fun k a=>a.length≤k) (fun k a x hx hI=>⟨hs k a x hx hI,fun a' ha'=>by
   injection ha' with ha';subst ha'
   have:=h1 x
   rw[List.length_append];omega⟩) (fun a _=>he a) [] (by simp)
 have hw:∀ (ys:List τ) (k:Nat) (acc:List ρ),walkL (fun _ a x=>.inl (a++f x)) (fun a=>a) k acc ys=acc++ys.flatMap f:=fun ys=>by
  induction ys with
  | nil=>intro k acc;simp[walkL]
  | cons y ys ih=>intro k acc;simp only[walkL];rw[ih];simp
 rw[show ((0,[]):Int×List ρ)=(((0:Nat):Int),[]) from rfl,hrun,hw]
 rfl
structure Rnd (xs:List τ) (k:Nat) (x : τ):Prop where
 get:xs[k]? = some x
 lt:decide ((k:Int)<((xs.length:Nat):Int))=true
 at':at? xs (k:Int)=some x
 nxt:IntKind.i64.wrap ((k:Int) + 1)=((k + 1:Nat):Int)
 mem:x ∈ xs
 klt:k<xs.length
theorem Rnd.mk'{xs:List τ}{k:Nat}{x : τ}(h:xs[k]? = some x)(hl:xs.length≤9223372036854775807):Rnd xs k x :=
 ⟨h,at_lt h,at_nat h,w64_succ (by have:=getElem?_lt h;omega),getElem?_mem h,getElem?_lt h⟩
theorem run_find{L:Lp Int (Unit⊕E)}{xs:List τ}(p : τ → Bool)(e:Nat → τ → E)(hl:xs.length≤9223372036854775807)
  (hs:∀ (k:Nat) x,Rnd xs k x→L.body (k:Int)=some (if p x=true then .brk (.inr (e k x)) else .next ((k + 1:Nat):Int))) (he:L.body ((xs.length:Nat):Int)=some (.brk (.inl ()))) :
  L.run 0=some (match xs.findIdx? p with | none=>.inl () | some i=>match xs[i]? with | some x=>.inr (e i x) | none=>.inl ()):=by
 have hrun:=run_walk (L:=L) xs (fun k (_:Unit)=>(k:Int)) (fun k _ x=>if p x then .inr (.inr (e k x)) else .inl ()) (fun _=>(.inl ():Unit⊕E)) (fun _ _=>True) (fun k a x hx _=>by
   refine ⟨?_,fun _ _=>trivial⟩
   rw[hs k x (Rnd.mk' hx hl)]
   by_cases h:p x=true
   ·rw[if_pos h,if_pos h];rfl
   ·rw[if_neg h,if_neg h];rfl) (fun a _=>he) () trivial
 rw[show (0:Int)=((0:Nat):Int) from rfl,hrun,walk_find p (fun k x=>(.inr (e k x):Unit⊕E))]
 cases hf:xs.findIdx? p with
 | none=>rfl
 | some i=>cases hg:xs[i]? <;> simp[hg]
theorem run_findv{L:Lp Int (Unit⊕E)}{xs:List τ}(p : τ → Bool)(e : τ → E)(hl:xs.length≤9223372036854775807)
  (hs:∀ (k:Nat) x,Rnd xs k x→L.body (k:Int)=some (if p x=true then .brk (.inr (e x)) else .next ((k + 1:Nat):Int))) (he:L.body ((xs.length:Nat):Int)=some (.brk (.inl ()))) :
  L.run 0=some (match xs.find? p with | none=>.inl () | some x=>.inr (e x)):=by
 rw[run_find p (fun _ x=>e x) hl hs he]
 cases hf:xs.findIdx? p with
 | none =>
  rw[List.findIdx?_eq_none_iff] at hf
  rw[List.find?_eq_none.2 fun x hx=>by simpa using hf x hx]
 | some i =>
  obtain ⟨hi,h1,h2⟩:=List.findIdx?_eq_some_iff_getElem.1 hf
  have:xs.find? p=some xs[i]:=List.find?_eq_some_iff_getElem.2 ⟨h1,i,hi,rfl,fun j hj=>by simpa using h2 j hj⟩
  simp[List.getElem?_eq_getElem hi,this]
theorem run_any{L:Lp Int (Unit⊕Unit)}{xs:List τ}(p : τ → Bool)(hl:xs.length≤9223372036854775807)
  (hs:∀ (k:Nat) x,Rnd xs k x→L.body (k:Int)=some (if p x=true then .brk (.inr ()) else .next ((k + 1:Nat):Int))) (he:L.body ((xs.length:Nat):Int)=some (.brk (.inl ()))) :
  L.run 0=some (if xs.any p=true then .inr () else .inl ()):=by
 rw[run_findv p (fun _=>()) hl hs he]
 cases hf:xs.find? p with
 | none =>
  have:xs.any p=false:=by
   rw[List.any_eq_false]
   exact fun x hx=>by simpa using List.find?_eq_none.1 hf x hx
  rw[this];rfl
 | some x =>
  have:xs.any p=true:=List.any_eq_true.2 ⟨x,List.mem_of_find?_eq_some hf,List.find?_some hf⟩
  rw[this];rfl
end
end Go.Ab
namespace Go.Ab
open Go
variable {P:Program}
section
variable {n lo:Nat}{Q:Ex→St→Prop}{τ : Type}{enc : τ → AV}{e:Nat}[IsEnc e enc]
end
section
variable {n lo:Nat}{Q:Ex→St→Prop}{τ : Type}{enc : τ → AV}{e:Nat}[IsEnc e enc]
end
end Go.Ab
