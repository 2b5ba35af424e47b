import Derived.Test.YtgjfhplkochbpaaGreatAM1
import Derived.Lib.ConvBytes
import Derived.Laws.BytesString
import Derived.Laws.BytesArg
import Derived.Lib.Overlaps
import Derived.Orders
import Derived.Scope
import Derived.Laws.BitsLemmas
import Derived.RowKit3
set_option linter.unusedSimpArgs false
set_option linter.unusedVariables false
namespace Go.Ab
open Go Go.RowKit
variable {P:Program}
section
variable {E:Env}{w:World}{h:Hp}{s:Nat→AV}{a:Act}{o:Oper}
def rowCells(e:Nat)(uf:Nat→Value)(n:Nat):Array Value:=((List.range (n * esz e)).map fun k=>(uf (k / esz e)).cells.getD (k % esz e) undef).toArray
theorem rowCells_size(e:Nat)(uf:Nat→Value)(n:Nat):(rowCells e uf n).size=n * esz e:=by simp[rowCells]
theorem rowCells_at{e n i j:Nat}{uf:Nat→Value}(hi:i<n)(hj:j<esz e):(rowCells e uf n)[i * esz e + j]? = some ((uf i).cells.getD j undef):=by
 have hlt:i * esz e + j<n * esz e:=by
  have:=Nat.mul_le_mul_right (esz e) hi
  rw[Nat.succ_mul] at this
  omega
 have h1:(i * esz e + j) / esz e=i:=by
  rw[Nat.mul_comm,Nat.mul_add_div (esz_pos e),Nat.div_eq_of_lt hj,Nat.add_zero]
 have h2:(i * esz e + j) % esz e=j:=by rw[Nat.mul_comm,Nat.mul_add_mod,Nat.mod_eq_of_lt hj]
 simp[rowCells,hlt,h1,h2]
structure Src (P:Program) (E:Env) (w:World) (e:Nat) (ys:List AV) (u:Value) (uf:Nat→Value):Prop where
 len:∀ w':World,(Builtin.lenOf u).run P w'=.ok ys.length w'
 readn:∀ n,n≤ys.length→∀ w':World,(∀ x,w'.cell? x=w.cell? x)→(Builtin.firstCells (esz e) n u).run P w'=.ok (rowCells e uf n) w'
 el:∀ (i:Nat) y,ys[i]? = some y→y.fits e=true∧RI E.S w y (uf i)∧(uf i).cells.size=esz e
theorem Src.read{P:Program}{E:Env}{w:World}{e:Nat}{ys:List AV}{u:Value}{uf:Nat→Value}(h:Src P E w e ys u uf)(w':World)(hw:∀ x,w'.cell? x=w.cell? x) :
  (Builtin.firstCells (esz e) ys.length u).run P w'=.ok (rowCells e uf ys.length) w':=h.readn _ (Nat.le_refl _) w' hw
theorem run_loadCells_row{g o0 e n:Nat}{uf:Nat→Value}{w':World}(hc:∀ i,i<n→∀ j,j<esz e→w'.cell? ⟨g,o0 + (i * esz e + j),none⟩=some ((uf i).cells.getD j undef)) :
  (loadCells ⟨g,o0,none⟩ (n * esz e)).run P w'=.ok (rowCells e uf n) w':=by
 have:=run_loadCells (P:=P) w' ⟨g,o0,none⟩ (n * esz e) (fun k=>(uf (k / esz e)).cells.getD (k % esz e) undef) (fun k hk=>by
  rw[add_addr]
  have hd:=Nat.div_add_mod k (esz e)
  rw[Nat.mul_comm] at hd
  have:=hc (k / esz e) (Nat.div_lt_of_lt_mul (by rw[Nat.mul_comm];exact hk)) (k % esz e) (Nat.mod_lt _ (esz_pos e))
  rw[hd] at this
  exact this)
 simpa[rowCells] using this
theorem choose_uf{xs:List AV}{Q:Nat→AV→Value→Prop}(hq:∀ (i:Nat) x,xs[i]? = some x→∃ v,Q i x v):∃ uf:Nat→Value,∀ (i:Nat) x,xs[i]? = some x→Q i x (uf i):=by
 have:∀ i:Nat,∃ v:Value,∀ x,xs[i]? = some x→Q i x v:=fun i=>by
  cases hx:xs[i]? with
  | none=>exact ⟨undef,fun y h=>by cases h⟩
  | some x =>
   obtain ⟨v,hv⟩:=hq i x hx
   exact ⟨v,fun y e=>by injection e with e;subst e;exact hv⟩
 exact ⟨fun i=>(this i).choose,fun i=>(this i).choose_spec⟩
theorem shape_plain{e:Nat}{x:AV}(hs:Shape e x)(hp:plain deep x=true):x.fits e=true:=by
 unfold Shape at hs
 by_cases he:e=0
 ·rw[if_pos he] at hs
  subst he
  rcases hs with hs | rfl
  ·cases x<;>simp_all [AV.fits,AV.one]
  ·obtain ⟨m,hd⟩:∃ m,deep=m + 1:=⟨11,rfl⟩
   rw[hd] at hp
   simp[plain] at hp
 ·rw[if_neg he] at hs
  obtain ⟨cs,rfl,hl,hc⟩:=hs
  obtain ⟨m,hd⟩:∃ m,deep=m + 1:=⟨11,rfl⟩
  rw[hd] at hp
  simp only[plain,List.all_eq_true] at hp
  simp only[AV.fits,Bool.and_eq_true,beq_iff_eq,bne_iff_ne,ne_eq,onesB,List.all_eq_true]
  refine ⟨⟨hl.symm,he⟩,fun c hcm=>?_⟩
  rcases hc c hcm with h1 | rfl
  ·exact h1
  ·have:=hp _ hcm
   cases m<;>simp[plain] at this
theorem srcElems_ok0(hok:HOK E h w){e:Nat}{y:AV}{u:Value}{ys:List AV}(hr:RV E w y u)(hs:srcElems e h y=some ys)(hnc:∀ e b o l c,y≠.crow e b o l c):∃ uf,Src P E w e ys u uf:=by
 unfold srcElems at hs
 split at hs
 ·rename_i e' f xs
  split at hs
  case isFalse=>cases hs
  rename_i hee
  subst hee
  injection hs with hs;subst hs
  cases hr.sl_inv with
  | sl _ _ _ A cap g o uf hl hm hf hA hfit hc hrr =>
   have hsz:∀ (i:Nat) x,xs[i]? = some x→(uf i).cells.size=esz e':=fun i x hx=>((RV.imm (E:=E) (hrr i x hx)).fits (hfit i x hx)).1
   refine ⟨uf,fun w'=>by simp[Builtin.lenOf],fun n hn w' hw=>?_,fun i x hx=>⟨hfit i x hx,hrr i x hx,hsz i x hx⟩⟩
   rcases hA with hA | hA
   ·subst hA
    obtain rfl:n=0:=Nat.le_zero.1 hn
    cases A<;>simp[Builtin.firstCells,rowCells,loadCells,loadCellsFrom]
   ·subst hA
    simp only[Builtin.firstCells]
    refine run_loadCells_row fun i hi j hj=>?_
    rw[hw]
    have hx:=List.getElem?_eq_getElem (Nat.lt_of_lt_of_le hi hn)
    have hj':j<(uf i).cells.size:=by rw[hsz i _ hx];exact hj
    rw[(hc i _ hx j _ (Array.getElem?_eq_getElem hj')).2]
    simp[hj']
 ·rename_i e' b off len
  split at hs
  case h_2=>cases hs
  rename_i e'' xs hb
  split at hs
  case isFalse=>cases hs
  rename_i hcond
  obtain ⟨rfl,rfl,hle,hpl⟩:=hcond
  injection hs with hs
  have hyl:ys.length=len:=by rw[← hs];simp;omega
  obtain ⟨hke,⟨h0,rfl,rfl,A,rfl⟩ | ⟨g,cap,A,hg,rfl,hA,hl,hc,hm⟩⟩:=hr.row_inv
  ·have hy0:ys=[]:=List.eq_nil_of_length_eq_zero hyl
   subst hy0
   refine ⟨fun _=>undef,fun w'=>by simp[Builtin.lenOf],fun n hn w' hw=>?_,fun i x hx=>by simp at hx⟩
   obtain rfl:n=0:=Nat.le_zero.1 hn
   cases A<;>simp[Builtin.firstCells,rowCells,loadCells,loadCellsFrom]
  ·obtain ⟨_,⟨h0,_⟩ | ⟨g',vals,t,fz,k1,k2,k2',k3,k4,k5,k6,k7⟩⟩:=hok.blocks b _ hb
   ·rw[h0] at hg;cases hg
   rw[hg] at k1;injection k1 with k1;injection k1 with k1;subst k1
   have hat:∀ (i:Nat) y,ys[i]? = some y→xs[off + i]? = some y:=fun i y hy=>by
    rw[← hs,List.getElem?_take] at hy
    split at hy
    ·rwa [List.getElem?_drop] at hy
    ·cases hy
   obtain ⟨uf,huf⟩:=choose_uf (xs:=ys) (Q:=fun i y v=>y.fits e''=true∧RI E.S w y v∧v.cells.size=esz e''∧∀ (j:Nat) c,v.cells[j]? = some c→vals[(off + i) * esz e'' + j]? = some c) (fun i y hy=>by
    obtain ⟨s1,v,s2,s3,s4⟩:=k7 _ y (hat i y hy)
    have hp:plain deep y=true:=List.all_eq_true.1 hpl y (by rw[hs];exact List.mem_of_getElem? hy)
    exact ⟨v,shape_plain s1 hp,plain_RI deep y v hp s2,s3,s4⟩)
   refine ⟨uf,fun w'=>by simp[Builtin.lenOf,hyl],fun n hn w' hw=>?_,fun i x hx=>⟨(huf i x hx).1,(huf i x hx).2.1,(huf i x hx).2.2.1⟩⟩
   rcases hA with hA | ⟨_,h0⟩
   ·subst hA
    simp only[Builtin.firstCells]
    refine run_loadCells_row fun i hi j hj=>?_
    rw[hw]
    obtain ⟨_,_,q3,q4⟩:=huf i _ (List.getElem?_eq_getElem (Nat.lt_of_lt_of_le hi hn))
    have hj':j<(uf i).cells.size:=by rw[q3];exact hj
    have:=q4 j _ (Array.getElem?_eq_getElem hj')
    rw[Nat.add_mul] at this
    rw[cell_vals k2,← Nat.add_assoc,this]
    simp[hj']
   ·have hy0:ys=[]:=List.eq_nil_of_length_eq_zero (by omega)
    subst hy0
    obtain rfl:n=0:=Nat.le_zero.1 hn
    cases A<;>simp[Builtin.firstCells,rowCells,loadCells,loadCellsFrom]
 ·exact absurd rfl (hnc _ _ _ _ _)
 ·rename_i e' b off len
  split at hs
  case h_2=>cases hs
  rename_i cs hb
  split at hs
  case isFalse=>cases hs
  rename_i hee
  subst hee
  split at hs
  case h_2=>cases hs
  rename_i xs hxs
  split at hs
  case isFalse=>cases hs
  rename_i hpl
  injection hs with hs;subst hs
  obtain ⟨e1,e2⟩:=elems_some hxs
  obtain ⟨g,cap,A,hg,rfl,hA,hl,hm⟩:=hr.arow_inv
  obtain ⟨g',vals,t,fz,k1,k2,k2',k3,k3',k4⟩:=hok.blocks b _ hb
  rw[hg] at k1;injection k1 with k1;injection k1 with k1;subst k1
  have hf:∀ (i:Nat) c,(cs.drop off)[i]? = some c→RV E w c (vals.getD (off + i) undef):=fun i c hc=>by
   rw[List.getElem?_drop] at hc
   have hl:off + i<vals.size:=by have:=(List.getElem?_eq_some_iff.1 hc).1;omega
   refine k4 _ c _ hc ?_
   simp[hl]
  let uf:Nat→Value:=fun i=>realPick e' fun j=>vals.getD (off + (i * esz e' + j)) undef
  have hel:∀ (i:Nat) x,xs[i]? = some x→x.fits e'=true∧RI E.S w x (uf i)∧(uf i).cells.size=esz e'∧∀ j,j<esz e'→vals[off + (i * esz e' + j)]? = some ((uf i).cells.getD j undef):=fun i x hx=>by
   obtain ⟨p1,p2⟩:=pick_ok (e2 i x hx) hf
   have hp:plain deep x=true:=List.all_eq_true.1 hpl x (List.mem_of_getElem? hx)
   have hfit:=shape_plain (pick_shape (e2 i x hx) fun c hc=>k3' c (List.mem_of_mem_drop hc)) hp
   have hfu:=RV.fits p2 hfit
   have hlen:∀ j,j<esz e'→off + (i * esz e' + j)<vals.size:=fun j hj=>by
    have:=p1 j hj
    simp at this
    omega
   refine ⟨hfit,plain_RI deep x _ hp p2,hfu.1,fun j hj=>?_⟩
   have hlj:=hlen j hj
   rw[Array.getElem?_eq_getElem hlj]
   congr 1
   show _=(realPick e' fun j=>vals.getD (off + (i * esz e' + j)) undef).cells.getD j undef
   unfold realPick
   by_cases h0:e'=0
   ·rw[if_pos h0]
    have hj0:j=0:=by subst h0;simp at hj;exact hj
    subst hj0
    have hone:x.one=true:=by
     subst h0
     exact (fits_zero hfit).1
    have hcell:=(p2.one hone).2
    unfold realPick at hcell
    rw[if_pos h0] at hcell
    rw[hcell]
    simp only[Nat.add_zero] at hlj
    simp[hlj]
   ·rw[if_neg h0]
    have hje:j<e':=by simpa[esz,h0] using hj
    simp[Value.cells,hje,hlj]
  refine ⟨uf,fun w'=>by simp[Builtin.lenOf,e1],fun n hn w' hw=>?_,fun i x hx=>⟨(hel i x hx).1,(hel i x hx).2.1,(hel i x hx).2.2.1⟩⟩
  rcases hA with hA | h0
  ·subst hA
   simp only[Builtin.firstCells]
   refine run_loadCells_row fun i hi j hj=>?_
   rw[hw,cell_vals k2]
   exact (hel i _ (List.getElem?_eq_getElem (Nat.lt_of_lt_of_le hi hn))).2.2.2 j hj
  ·have hy0:xs=[]:=List.eq_nil_of_length_eq_zero (by omega)
   subst hy0
   obtain rfl:n=0:=Nat.le_zero.1 hn
   cases A<;>simp[Builtin.firstCells,rowCells,loadCells,loadCellsFrom]
 ·rename_i t
  split at hs
  case isFalse=>cases hs
  rename_i h0
  subst h0
  injection hs with hs;subst hs
  rw[hr.str_inv]
  have hlen:(byteCells t).length=t.length:=by simp[byteCells]
  refine ⟨fun i=>.int .u8 ((t.getD i 0).toNat:Int),fun w'=>by simp[Builtin.lenOf,size_mk,hlen],fun n hn w' hw=>?_,fun i x hx=>?_⟩
  ·simp only[Builtin.firstCells,Sem.run_pure]
   rw[hlen] at hn
   congr 1
   apply Array.ext
   ·simp[rowCells,ByteArray.data_extract];omega
   ·intro k h1 h2
    simp[rowCells] at h2
    have h3:k<t.length:=by omega
    simp[rowCells,ByteArray.data_extract,Nat.mod_one,h2,h3,Value.cells]
  ·have hi:i<t.length:=by have:=(List.getElem?_eq_some_iff.1 hx).1;omega
   simp[byteCells,hi] at hx
   subst hx
   refine ⟨rfl,?_,rfl⟩
   simp[hi]
   exact .int _ _
 ·cases hs
theorem srcElems_ok(hok:HOK E h w){e:Nat}{y:AV}{u:Value}{ys:List AV}(hr:RV E w y u)(hs:srcElems e h y=some ys):∃ uf,Src P E w e ys u uf:=by
 by_cases hc:∃ e b o l c,y=.crow e b o l c
 ·obtain ⟨e',b,o,l,c,rfl⟩:=hc
  exact srcElems_ok0 (y:=.row e' b o l) hok hr.crow_row (by simpa only[srcElems] using hs) (fun _ _ _ _ _ h=>by cases h)
 ·exact srcElems_ok0 hok hr hs fun e b o l c h=>hc ⟨e,b,o,l,c,h⟩
end
end Go.Ab
namespace Go.Ab
open Go Go.RowKit
variable {P:Program}
section
variable {E:Env}{w w':World}{h:Hp}{s:Nat→AV}{a:Act}{o:Oper}
theorem HOK.move(hok:HOK E h w){b:Nat}{x:HB}{r:Option Nat}(hb:h[b]? = some x)(ha:x.alive)(hr:E.rho b=some r) :
  HOK (E.push h.length r (E.ke b) (E.ca b)) (h.set b .dead++[x]) w∧Ext h.length E w (E.push h.length r (E.ke b) (E.ca b)) w:=by
 have hbl:b<h.length:=(List.getElem?_eq_some_iff.1 hb).1
 have hg:=hok.give b
 have he:Ext h.length E w (E.push h.length r (E.ke b) (E.ca b)) w:=hok.ext_more (More.refl w) r _ _
 have cases_:∀ (c:Nat) (y:HB),(h.set b .dead++[x])[c]? = some y→(c<h.length∧(h.set b .dead)[c]? = some y)∨(c=h.length∧y=x):=fun c y hy=>by
  rcases Nat.lt_trichotomy c h.length with hc | hc | hc
  ·rw[List.getElem?_append_left (by simpa using hc)] at hy;exact .inl ⟨hc,hy⟩
  ·subst hc;rw[List.getElem?_append_right (by simp)] at hy;simp at hy;exact .inr ⟨rfl,hy.symm⟩
  ·rw[List.getElem?_eq_none (by simp;omega)] at hy;cases hy
 have rho_old:∀ c r',c<h.length→(E.push h.length r (E.ke b) (E.ca b)).rho c=some r'→E.rho c=some r':=fun c r' hc e'=>by
  simpa[Env.push,show c≠h.length by omega] using e'
 have bx:=hok.blocks b x hb
 have notb:∀ (c:Nat) (y:HB),(h.set b .dead)[c]? = some y→y.alive→c≠b∧h[c]? = some y:=fun c y hy hal=>by
  by_cases hcb:c=b
  ·subst hcb
   rw[List.getElem?_set_self hbl] at hy
   injection hy with hy
   subst hy
   exact hal.elim
  ·rw[List.getElem?_set_ne (fun e=>hcb e.symm)] at hy
   exact ⟨hcb,hy⟩
 refine ⟨⟨fun c y hy=>?_,fun c r' e'=>?_,fun c y g hy hal e'=>?_,fun c1 c2 y1 y2 g e1 e2 a1 a2 r1 r2=>?_,hok.old,hok.size⟩,he⟩
 ·rcases cases_ c y hy with ⟨hc,hy⟩ | ⟨rfl,rfl⟩
  ·exact BOK.ext hc hok.dom he (fun _ _ _=>rfl) (hg.blocks c y hy)
  ·cases y with
   | dead=>trivial
   | cel cs =>
    obtain ⟨g,vals,t,fz,k1,k2,k3,k4,k5,k6⟩:=bx
    rw[hr] at k1;injection k1 with k1
    exact ⟨g,vals,t,fz,by simp[k1],k2,k3,k4,k5,fun i c u hc hu=>(k6 i c u hc hu).ext he hok.dom⟩
   | els e xs =>
    obtain ⟨k0,k⟩:=bx
    refine ⟨by simpa using k0,?_⟩
    rcases k with ⟨k1,k2⟩ | ⟨g,vals,t,fz,k1,k2,k3,k4,k5,k6,k7,k8⟩
    ·rw[hr] at k1;injection k1 with k1
     exact .inl ⟨by simp[k1],k2⟩
    ·rw[hr] at k1;injection k1 with k1
     refine .inr ⟨g,vals,t,fz,by simp[k1],k2,k3,by simpa using k4,by simpa using k5,by simpa using k6,k7,fun i z hz=>?_⟩
     obtain ⟨s1,u,s2,s3,s4⟩:=k8 i z hz
     exact ⟨s1,u,s2.ext he hok.dom,s3,s4⟩
   | itr s pos =>
    obtain ⟨g,k1,k2⟩:=bx
    rw[hr] at k1;injection k1 with k1
    exact ⟨g,by simp[k1],k2⟩
   | map ks vs =>
    obtain ⟨g,es,cl,k1,k2,k3⟩:=bx
    rw[hr] at k1;injection k1 with k1
    exact ⟨g,es,cl,by simp[k1],k2,k3⟩
 ·by_cases hc:c=h.length
  ·simp[hc]
  ·have:=hok.dom c r' (by simpa[Env.push,hc] using e')
   simp;omega
 ·rcases cases_ c y hy with ⟨hc,hy⟩ | ⟨rfl,rfl⟩
  ·exact hg.own c y g hy hal (rho_old c _ hc e')
  ·simp only[Env.push_rho,Option.some.injEq] at e'
   subst e'
   exact hok.own b y g hb ha hr
 ·rcases cases_ c1 y1 e1 with ⟨hc1,f1⟩ | ⟨rfl,rfl⟩<;>rcases cases_ c2 y2 e2 with ⟨hc2,f2⟩ | ⟨rfl,rfl⟩
  ·exact hg.inj c1 c2 y1 y2 g f1 f2 a1 a2 (rho_old _ _ hc1 r1) (rho_old _ _ hc2 r2)
  ·simp only[Env.push_rho,Option.some.injEq] at r2
   subst r2
   obtain ⟨n1,n2⟩:=notb c1 y1 f1 a1
   exact absurd (hok.inj c1 b y1 y2 g n2 hb a1 a2 (rho_old _ _ hc1 r1) hr) n1
  ·simp only[Env.push_rho,Option.some.injEq] at r1
   subst r1
   obtain ⟨n1,n2⟩:=notb c2 y2 f2 a2
   exact absurd (hok.inj c2 b y2 y1 g n2 hb a2 a1 (rho_old _ _ hc2 r2) hr) n1
  ·rfl
section
variable {t u ty el:TypeId}{inf:TypeInfo}{z:Value}
theorem run_append_grow'(ht:P.underlying t=some (.slice el))(hu:(∃ e',P.underlying u=some (.slice e'))∨P.underlying u=some .string)(hi:P.info? el=some inf)(hz:inf.zero=some z){x:Value}{A:Option Addr}{n c m:Nat}{old news:Array Value}
  (hlen:∀ w:World,(Builtin.lenOf x).run P w=.ok m w) (hold:(Builtin.firstCells inf.size n (.slice A n c)).run P w.drew=.ok old w.drew) (hnew:(Builtin.firstCells inf.size m x).run P w.drew=.ok news w.drew)
  (hg:c<n + m) (h63:n + m≤maxLen) (hfit:(n + m) * inf.bytes≤140737488355328) :
  (Builtin.append_ #[t,u] ty #[.slice A n c,x]).run P w =
   .ok (.slice (some ⟨w.heap.size,0,none⟩) (n + m) (grownCap w (n + m) c el)) (w.drew.alloc (.cells (old++news++Builtin.zeroCells z.cells (grownCap w (n + m) c el - (n + m))) el)):=by
 have hn:¬ (n + m≤c):=by omega
 have h48:=growslice_fits (old:=c) hg hfit
 have h48':¬ (281474976710656<Builtin.nextslicecap (n + m) c * inf.bytes):=by omega
 have h63':¬ (9223372036854775807<((n:Int) + (m:Int))):=by unfold maxLen at h63;omega
 rcases hu with ⟨e',hu⟩ | hu
 ·simp[Builtin.append_,run_underlying ht,run_underlying hu,sizeOf,typeInfo,zeroValue,hi,hz,hlen,hn,h63',h48',Question.forced,hold,hnew,newRow,grownCap]
 ·simp[Builtin.append_,run_underlying ht,run_underlying hu,sizeOf,typeInfo,zeroValue,hi,hz,hlen,hn,h63',h48',Question.forced,hold,hnew,newRow,grownCap]
theorem run_append_fits'(ht:P.underlying t=some (.slice el))(hu:(∃ e',P.underlying u=some (.slice e'))∨P.underlying u=some .string)(hi:P.info? el=some inf){x:Value}{A:Option Addr}{n c m:Nat}{news:Array Value}
  (hlen:∀ w:World,(Builtin.lenOf x).run P w=.ok m w) (hnew:(Builtin.firstCells inf.size m x).run P w=.ok news w) (hg:n + m≤c)
  (hst:∀ g,A=some g→(storeCells (g.add (n * inf.size)) news.toList).run P w=.ok () w') (hA:A=none→w'=w) :
  (Builtin.append_ #[t,u] ty #[.slice A n c,x]).run P w=.ok (.slice A (n + m) c) w':=by
 rcases hu with ⟨e',hu⟩ | hu
 ·cases A with
  | none=>rw[hA rfl];simp[Builtin.append_,run_underlying ht,run_underlying hu,sizeOf,typeInfo,hi,hlen,hg,hnew]
  | some g=>simp[Builtin.append_,run_underlying ht,run_underlying hu,sizeOf,typeInfo,hi,hlen,hg,hnew,hst g rfl]
 ·cases A with
  | none=>rw[hA rfl];simp[Builtin.append_,run_underlying ht,run_underlying hu,sizeOf,typeInfo,hi,hlen,hg,hnew]
  | some g=>simp[Builtin.append_,run_underlying ht,run_underlying hu,sizeOf,typeInfo,hi,hlen,hg,hnew,hst g rfl]
end
theorem size_zeroCells'(z:Array Value)(n:Nat):(Builtin.zeroCells z n).size=n * z.size:=by simp[Builtin.zeroCells]
theorem grown_row(hok:HOK E h w){e:Nat}{xs ys:List AV}{ux uy:Nat→Value}{el:TypeId}{z:Array Value}(hz:z.size=esz e){c need:Nat}(hneed:need=xs.length + ys.length)(hc:need≤c)(hm:c≤maxLen)
  (hx:∀ (i:Nat) x,xs[i]? = some x→Shape e x∧RV E w x (ux i)∧(ux i).cells.size=esz e) (hy:∀ (i:Nat) y,ys[i]? = some y→Shape e y∧RV E w y (uy i)∧(uy i).cells.size=esz e) :
  HOK (E.push h.length (some w.heap.size) e c) (h++[.els e (xs++ys)]) (w.drew.alloc (.cells (rowCells e ux xs.length++rowCells e uy ys.length++Builtin.zeroCells z (c - need)) el)) ∧
  Ext h.length E w (E.push h.length (some w.heap.size) e c) (w.drew.alloc (.cells (rowCells e ux xs.length++rowCells e uy ys.length++Builtin.zeroCells z (c - need)) el)) ∧
  RV (E.push h.length (some w.heap.size) e c) (w.drew.alloc (.cells (rowCells e ux xs.length++rowCells e uy ys.length++Builtin.zeroCells z (c - need)) el)) (.row e h.length 0 need) (.slice (some ⟨w.heap.size,0,none⟩) need c):=by
 have m:=More.drew_alloc w (rowCells e ux xs.length++rowCells e uy ys.length++Builtin.zeroCells z (c - need)) el
 have he:=hok.ext_more m (some w.heap.size) e c
 have hsz:(rowCells e ux xs.length++rowCells e uy ys.length++Builtin.zeroCells z (c - need)).size=c * esz e:=by
  simp only[Array.size_append,rowCells_size,size_zeroCells',hz,← Nat.add_mul]
  congr 1
  omega
 refine ⟨hok.push m _ _ _ _ ⟨by simp,.inr ⟨w.heap.size,rowCells e ux xs.length++rowCells e uy ys.length++Builtin.zeroCells z (c - need),el,(0,0),by simp,?_,fun o _=>by simp,by simpa using hsz,by simp;omega,by simpa using hm,?_,fun i v hv=>?_⟩⟩ (fun g hg=>by injection hg with hg;subst hg;simp),he,.row e h.length 0 need w.heap.size c _ (by simp) (by simp) (.inl (by simp)) hc (by simp) (by simpa using hm)⟩
 ·exact heap_alloc_new w.drew _
 ·rw[hsz,List.length_append];exact Nat.mul_le_mul_right _ (by omega)
 ·have key:∀ (uv:Nat→Value) (k n:Nat),(uv k).cells.size=esz e→k<n→∀ (pre post:Array Value) (off:Nat),pre.size=off * esz e→∀ (j:Nat) cc,(uv k).cells[j]? = some cc→(pre++rowCells e uv n++post)[(off + k) * esz e + j]? = some cc:=by
   intro uv k n hs hk pre post off hpre j cc hj
   have hjl:j<esz e:=by have:=(Array.getElem?_eq_some_iff.1 hj).1;omega
   have hlt:k * esz e + j<n * esz e:=by
    have:=Nat.mul_le_mul_right (esz e) hk
    rw[Nat.succ_mul] at this
    omega
   have e0:(off + k) * esz e=off * esz e + k * esz e:=Nat.add_mul _ _ _
   rw[Array.append_assoc,Array.getElem?_append_right (by omega),Array.getElem?_append_left (by rw[rowCells_size];omega)]
   rw[show (off + k) * esz e + j - pre.size=k * esz e + j by omega,rowCells_at hk hjl]
   have hjj:j<(uv k).cells.size:=by omega
   rw[Array.getElem?_eq_getElem hjj] at hj
   injection hj with hj
   simp[hjj,hj]
  by_cases hi:i<xs.length
  ·rw[List.getElem?_append_left hi] at hv
   obtain ⟨s1,s2,s3⟩:=hx i v hv
   refine ⟨s1,ux i,s2.ext he hok.dom,s3,fun j cc hj=>?_⟩
   have:=key ux i xs.length s3 hi #[] (rowCells e uy ys.length++Builtin.zeroCells z (c - need)) 0 (by simp) j cc hj
   simpa[Array.append_assoc] using this
  ·rw[List.getElem?_append_right (by omega)] at hv
   obtain ⟨s1,s2,s3⟩:=hy _ v hv
   have hil:i - xs.length<ys.length:=(List.getElem?_eq_some_iff.1 hv).1
   refine ⟨s1,uy (i - xs.length),s2.ext he hok.dom,s3,fun j cc hj=>?_⟩
   have:=key uy (i - xs.length) ys.length s3 hil (rowCells e ux xs.length) (Builtin.zeroCells z (c - need)) xs.length (rowCells_size _ _ _) j cc hj
   rwa [show xs.length + (i - xs.length)=i by omega] at this
def Els(E:Env)(w:World)(e:Nat)(ys:List AV)(uy:Nat→Value):Prop:=∀ (i:Nat) y,ys[i]? = some y→y.fits e=true∧RI E.S w y (uy i)∧(uy i).cells.size=esz e
theorem Els.one{e:Nat}{ys:List AV}{uy:Nat→Value}(hy:Els E w e ys uy):∀ v ∈ (rowCells e uy ys.length).toList,v.oneCell'=true:=fun v hv=>by
 obtain ⟨k,hk⟩:=List.getElem?_of_mem hv
 have hkl:k<ys.length * esz e:=by
  have:=(List.getElem?_eq_some_iff.1 hk).1
  simpa[rowCells_size] using this
 have hki:k / esz e<ys.length:=Nat.div_lt_of_lt_mul (by rw[Nat.mul_comm];exact hkl)
 have hkj:=Nat.mod_lt k (esz_pos e)
 have hat:=rowCells_at (uf:=uy) hki hkj
 have hd:k / esz e * esz e + k % esz e=k:=by rw[Nat.mul_comm];exact Nat.div_add_mod k (esz e)
 rw[hd] at hat
 have hk':(rowCells e uy ys.length)[k]? = some v:=by simpa using hk
 rw[hk'] at hat
 injection hat with hat
 obtain ⟨q1,q2,q3⟩:=hy _ _ (List.getElem?_eq_getElem hki)
 have hjj:k % esz e<(uy (k / esz e)).cells.size:=by omega
 have hmem:v ∈ (uy (k / esz e)).cells.toList:=by
  rw[hat]
  simp[hjj]
 exact ((RV.imm (E:=E) q2).fits q1).2.2.2.1 v hmem
theorem overwrite_get{xs ys:List AV}{off:Nat}(ho:off≤xs.length){i:Nat}{v:AV}(h:(overwrite xs off ys)[i]? = some v) :
  (i<off∧xs[i]? = some v)∨(off≤i∧i<off + ys.length∧ys[i - off]? = some v)∨(off + ys.length≤i∧xs[i]? = some v):=by
 unfold overwrite at h
 have hl:(xs.take off).length=off:=by rw[List.length_take];omega
 by_cases h1:i<off
 ·rw[List.getElem?_append_left (by omega),List.getElem?_take,if_pos h1] at h
  exact .inl ⟨h1,h⟩
 ·rw[List.getElem?_append_right (by omega),hl] at h
  by_cases h2:i - off<ys.length
  ·rw[List.getElem?_append_left h2] at h
   exact .inr (.inl ⟨by omega,by omega,h⟩)
  ·rw[List.getElem?_append_right (by omega),List.getElem?_drop,show off + ys.length + (i - off - ys.length)=i by omega] at h
   exact .inr (.inr ⟨by omega,h⟩)
theorem overwrite_length(xs ys:List AV){off:Nat}(ho:off≤xs.length):(overwrite xs off ys).length=max xs.length (off + ys.length):=by
 simp only[overwrite,List.length_append,List.length_take,List.length_drop]
 omega
theorem write_row(hok:HOK E h w){b g e off:Nat}{xs ys:List AV}{uy:Nat→Value}(hbk:h[b]? = some (.els e xs))(hg:E.rho b=some (some g))(ho:off≤xs.length)(hcap:off + ys.length≤E.ca b)(hy:Els E w e ys uy) :
  ∃ w',(storeCells ⟨g,off * esz e,none⟩ (rowCells e uy ys.length).toList).run P w=.ok () w'∧HOK E (h.set b (.els e (overwrite xs off ys))) w'∧Ext h.length E w E w':=by
 obtain ⟨hke,⟨k0,_⟩ | ⟨g',vals,t',fz,k1,k2,k2',k3,k4,k5,k6,k7⟩⟩:=hok.blocks b _ hbk
 ·rw[k0] at hg;cases hg
 rw[hg] at k1;injection k1 with k1;injection k1 with k1;subst k1
 obtain ⟨w',vals',r1,r2,r3,r4⟩:=run_storeRow (P:=P) g t' fz (rowCells e uy ys.length).toList (off * esz e) 0 vals w k2 k2' (by
  simp only[Array.length_toList,rowCells_size,Nat.add_zero,← Nat.add_mul]
  rw[k3]
  exact Nat.mul_le_mul_right _ (by omega)) hy.one
 have hext:Ext h.length E w E w':=hok.ext_upd hbk trivial hg _ r2.os r2.tape r2.output (Nat.le_of_eq r2.size.symm) (fun k hk _=>r2.other k hk) (r2.frz k2) r2.drawn
 have hle:(overwrite xs off ys).length≤E.ca b:=by rw[overwrite_length _ _ ho];omega
 refine ⟨w',r1,?_,hext⟩
 refine hok.set hbk trivial hg r2.os r2.tape r2.output (Nat.le_of_eq r2.size.symm) (fun k hk _=>r2.other k hk) (r2.frz k2) (hdr:=r2.drawn) ⟨hke,.inr ⟨g,vals',t',fz,hg,r2.here,fun j hj=>k2' j (by omega),by omega,hle,k5,?_,fun i v hv=>?_⟩⟩
 ·rw[r3,k3]
  exact Nat.mul_le_mul_right _ hle
 ·have old:(i<off∨off + ys.length≤i)→xs[i]? = some v→Shape e v∧∃ u,RV E w' v u∧u.cells.size=esz e∧∀ (j:Nat) c,u.cells[j]? = some c→vals'[i * esz e + j]? = some c:=fun hi hv=>by
   obtain ⟨s1,u,s2,s3,s4⟩:=k7 i v hv
   refine ⟨s1,u,s2.ext hext hok.dom,s3,fun j c hj=>?_⟩
   have hjl:j<esz e:=by have:=(Array.getElem?_eq_some_iff.1 hj).1;omega
   rw[r4,if_neg,s4 j c hj]
   simp only[Array.length_toList,rowCells_size,Nat.add_zero]
   rintro ⟨c1,c2⟩
   rcases hi with hi | hi
   ·have hmul:=Nat.mul_le_mul_right (esz e) hi
    rw[Nat.succ_mul] at hmul
    omega
   ·have hmul:=Nat.mul_le_mul_right (esz e) hi
    rw[Nat.add_mul] at hmul
    omega
  rcases overwrite_get ho hv with ⟨hi,hv⟩ | ⟨hi,hi2,hv⟩ | ⟨hi,hv⟩
  ·exact old (.inl hi) hv
  ·obtain ⟨q1,s2,s3⟩:=hy _ v hv
   have hil:i - off<ys.length:=by omega
   refine ⟨shape_of_fits q1,uy (i - off),(RV.imm s2).ext hext hok.dom,s3,fun j c hj=>?_⟩
   have hjl:j<esz e:=by have:=(Array.getElem?_eq_some_iff.1 hj).1;omega
   have hmul:=Nat.mul_le_mul_right (esz e) hil
   rw[Nat.succ_mul] at hmul
   have e0:i * esz e=off * esz e + (i - off) * esz e:=by rw[← Nat.add_mul];congr 1;omega
   rw[r4,if_pos (by simp only[Array.length_toList,rowCells_size];omega),show i * esz e + j - (off * esz e + 0)=(i - off) * esz e + j by omega]
   have hjj:j<(uy (i - off)).cells.size:=by omega
   have hat:=rowCells_at (uf:=uy) hil hjl
   rw[Array.getElem?_eq_getElem hjj] at hj
   injection hj with hj
   simp only[hjj,Array.getD_eq_getD_getElem?,Array.getElem?_eq_getElem,Option.getD_some] at hat
   rw[← hj]
   simpa using hat
  ·exact old (.inr hi) hv
structure Apps (P:Program) (w:World) (e bytes:Nat) (el:TypeId) (z:Value) (m:Nat) (uy:Nat→Value) (ex:Value→Sem Value):Prop where
 grow:∀ (A:Option Addr) (n c:Nat) (old:Array Value),(Builtin.firstCells (esz e) n (.slice A n c)).run P w.drew=.ok old w.drew→c<n + m→n + m≤maxLen→(n + m) * bytes≤room →
  ∃ c',n + m≤c'∧c'≤maxLen∧(ex (.slice A n c)).run P w=.ok (.slice (some ⟨w.heap.size,0,none⟩) (n + m) c') (w.drew.alloc (.cells (old++rowCells e uy m++Builtin.zeroCells z.cells (c' - (n + m))) el))
 fits:∀ (A:Option Addr) (n c:Nat) (w':World),n + m≤c→(∀ g,A=some g→(storeCells (g.add (n * esz e)) (rowCells e uy m).toList).run P w=.ok () w')→(A=none→w'=w)→(ex (.slice A n c)).run P w=.ok (.slice A (n + m) c) w'
theorem read_row(hok:HOK E h w){b g e:Nat}{xs:List AV}(hbk:h[b]? = some (.els e xs))(hg:E.rho b=some (some g)):∃ ux,(∀ (i:Nat) x,xs[i]? = some x→Shape e x∧RV E w x (ux i)∧(ux i).cells.size=esz e) ∧
  ∀ n c,n≤xs.length→∀ w':World,(∀ x,w'.cell? x=w.cell? x)→(Builtin.firstCells (esz e) n (.slice (some ⟨g,0,none⟩) n c)).run P w'=.ok (rowCells e ux n) w':=by
 obtain ⟨hke,⟨k0,_⟩ | ⟨g',vals,t',fz,k1,k2,k2',k3,k4,k5,k6,k7⟩⟩:=hok.blocks b _ hbk
 ·rw[k0] at hg;cases hg
 rw[hg] at k1;injection k1 with k1;injection k1 with k1;subst k1
 obtain ⟨ux,hux⟩:=choose_uf (xs:=xs) (Q:=fun i x v=>Shape e x∧RV E w x v∧v.cells.size=esz e∧∀ (j:Nat) c,v.cells[j]? = some c→vals[i * esz e + j]? = some c) (fun i x hx=>by
  obtain ⟨s1,v,s2,s3,s4⟩:=k7 i x hx
  exact ⟨v,s1,s2,s3,s4⟩)
 refine ⟨ux,fun i x hx=>⟨(hux i x hx).1,(hux i x hx).2.1,(hux i x hx).2.2.1⟩,fun n c hn w' hw=>?_⟩
 simp only[Builtin.firstCells]
 refine run_loadCells_row fun i hi j hj=>?_
 obtain ⟨_,_,q3,q4⟩:=hux i _ (List.getElem?_eq_getElem (Nat.lt_of_lt_of_le hi hn))
 have hj':j<(ux i).cells.size:=by rw[q3];exact hj
 have:=q4 j _ (Array.getElem?_eq_getElem hj')
 rw[hw,cell_vals k2,Nat.zero_add,this]
 simp[hj']
theorem appendL_ok(hok:HOK E h w){e bytes:Nat}{el:TypeId}{z:Value}(hzs:z.cells.size=esz e){ys:List AV}{uy:Nat→Value}(hy:Els E w e ys uy){ex:Value→Sem Value}(ha:Apps P w e bytes el z ys.length uy ex)
  {x:AV}{ux:Value}(h1:RV E w x ux) {v:AV}{h':Hp}(hb:appendL h e bytes x ys=some (v,h')):∃ u w' E',(ex ux).run P w=.ok u w'∧HOK E' h' w'∧Ext h.length E w E' w'∧RV E' w' v u:=by
 have hyel:∀ (i:Nat) y,ys[i]? = some y→Shape e y∧RV E w y (uy i)∧(uy i).cells.size=esz e:=fun i y hi=>by
  obtain ⟨q1,q2,q3⟩:=hy i y hi
  exact ⟨shape_of_fits q1,.imm q2,q3⟩
 have hmax:maxStr=maxLen:=rfl
 have nocells:∀ (A:Option Addr) (w':World),(Builtin.firstCells (esz e) 0 (.slice A 0 0)).run P w'=.ok (rowCells e uy 0) w':=fun A w'=>by
  cases A<;>simp[Builtin.firstCells,rowCells,loadCells,loadCellsFrom]
 have nostore:∀ (g:Addr),(storeCells (g.add (0 * esz e)) (rowCells e uy 0).toList).run P w=.ok () w:=fun g=>by simp[rowCells,storeCells]
 unfold appendL at hb
 split at hb
 ·rename_i e' xs
  split at hb
  case isFalse=>cases hb
  rename_i hc
  obtain ⟨rfl,hor,hby,hlen⟩:=hc
  injection hb with hb;injection hb with q1 q2;subst q1;subst q2
  cases h1.sl_inv with
  | sl _ _ _ A cap g off vx hl hm hf hA hfit hcell hr =>
   have hcap:=hf rfl
   subst hcap
   by_cases hy0:ys=[]
   ·have hx0:xs=[]:=by rcases hor with hor | hor;exact hor;exact absurd hy0 hor
    subst hx0;subst hy0
    have hrun:=ha.fits A 0 0 w (Nat.le_refl _) (fun g hg=>nostore g) (fun _=>rfl)
    obtain ⟨p1,p2⟩:HOK (E.push h.length none e' 0) (h++[.els e' []]) w∧Ext h.length E w (E.push h.length none e' 0) w :=
     ⟨hok.push (More.refl w) none e' 0 (.els e' []) ⟨by simp,.inl ⟨by simp,rfl⟩⟩ (fun g hg=>by cases hg),hok.ext_more (More.refl w) _ _ _⟩
    exact ⟨_,_,_,hrun,p1,p2,.row0 e' h.length A (by simp) (by simp)⟩
   ·have hpos:0<ys.length:=List.length_pos_iff.2 hy0
    have hold:(Builtin.firstCells (esz e') xs.length (.slice A xs.length xs.length)).run P w.drew=.ok (rowCells e' vx xs.length) w.drew:=by
     rcases hA with hA | hA
     ·subst hA
      cases A<;>simp[Builtin.firstCells,rowCells,loadCells,loadCellsFrom]
     ·subst hA
      simp only[Builtin.firstCells]
      refine run_loadCells_row fun i hi j hj=>?_
      have hxi:=List.getElem?_eq_getElem hi
      have hsz:=((RV.imm (E:=E) (hr i _ hxi)).fits (hfit i _ hxi)).1
      have hj':j<(vx i).cells.size:=by rw[hsz];exact hj
      have:=(hcell i _ hxi j _ (Array.getElem?_eq_getElem hj')).2
      rw[show w.drew.cell? ⟨g,off + (i * esz e' + j),none⟩=w.cell? ⟨g,off + (i * esz e' + j),none⟩ from rfl,this]
      simp[hj']
    obtain ⟨c',c1,c2,hrun⟩:=ha.grow A xs.length xs.length _ hold (by omega) (by omega) hby
    obtain ⟨g1,g2,g3⟩:=grown_row hok (el:=el) (z:=z.cells) hzs (c:=c') rfl c1 c2 (fun i x hx=>⟨shape_of_fits (hfit i x hx),.imm (hr i x hx),((RV.imm (E:=E) (hr i x hx)).fits (hfit i x hx)).1⟩) hyel
    exact ⟨_,_,_,hrun,g1,g2,g3⟩
 ·rename_i e' b len
  split at hb
  case h_2=>cases hb
  rename_i e'' xs hbk
  have hbl:b<h.length:=(List.getElem?_eq_some_iff.1 hbk).1
  obtain ⟨hke,hrow⟩:=h1.row_inv
  split at hb
  ·rename_i hc
   obtain ⟨rfl,rfl,rfl,hby,hlen⟩:=hc
   injection hb with hb;injection hb with q1 q2;subst q1;subst q2
   have hglen:(h.set b .dead).length=h.length:=by simp
   rcases hrow with ⟨h0,_,hx0,A,rfl⟩ | ⟨g,cap,A,hg,rfl,hA,hl,hcc,hm⟩
   ·have hx0:xs=[]:=List.eq_nil_of_length_eq_zero hx0
    subst hx0
    by_cases hy0:ys=[]
    ·subst hy0
     have hrun:=ha.fits A 0 0 w (Nat.le_refl _) (fun g hg=>nostore g) (fun _=>rfl)
     obtain ⟨p1,p2⟩:HOK (E.push h.length none e'' 0) (h.set b .dead++[.els e'' []]) w∧Ext h.length E w (E.push h.length none e'' 0) w:=by
      have:=(hok.give b).push (More.refl w) none e'' 0 (.els e'' []) ⟨by simp,.inl ⟨by simp,rfl⟩⟩ (fun g hg=>by cases hg)
      rw[hglen] at this
      exact ⟨this,hok.ext_more (More.refl w) _ _ _⟩
     exact ⟨_,_,_,hrun,p1,p2,.row0 e'' h.length A (by simp) (by simp)⟩
    ·have hpos:0<ys.length:=List.length_pos_iff.2 hy0
     simp only[List.length_nil] at hby hlen
     obtain ⟨c',c1,c2,hrun⟩:=ha.grow A 0 0 _ (nocells A _) (by omega) (by omega) hby
     have hgr:=grown_row (hok.give b) (xs:=[]) (ys:=ys) (ux:=uy) (uy:=uy) (el:=el) (z:=z.cells) hzs (c:=c') (need:=0 + ys.length) (by simp) c1 c2 (fun i x hx=>by simp at hx) hyel
     rw[hglen] at hgr
     obtain ⟨g1,g2,g3⟩:=hgr
     exact ⟨_,_,_,hrun,g1,g2,g3⟩
   ·have hA:A=some ⟨g,0,none⟩:=by
     rcases hA with hA | ⟨hA,_⟩
     ·simpa using hA
     ·exact absurd rfl hA
    subst hA
    have hcap:cap=E.ca b:=by omega
    obtain ⟨vx,hvx,hread⟩:=read_row (P:=P) hok hbk hg
    by_cases hgrow:cap<xs.length + ys.length
    ·obtain ⟨c',c1,c2,hrun⟩:=ha.grow _ xs.length cap _ (hread xs.length cap (Nat.le_refl _) w.drew fun _=>rfl) hgrow (by omega) hby
     have hgr:=grown_row (hok.give b) (xs:=xs) (ys:=ys) (ux:=vx) (uy:=uy) (el:=el) (z:=z.cells) hzs (c:=c') rfl c1 c2 hvx hyel
     rw[hglen] at hgr
     obtain ⟨g1,g2,g3⟩:=hgr
     exact ⟨_,_,_,hrun,g1,g2,g3⟩
    ·obtain ⟨w',r1,hset,hext⟩:=write_row (P:=P) hok (off:=xs.length) hbk hg (Nat.le_refl _) (by omega) hy
     have hrun:=ha.fits (some ⟨g,0,none⟩) xs.length cap w' (by omega) (fun g' hg'=>by
      injection hg' with hg';subst hg'
      rw[add_addr,Nat.zero_add];exact r1) (fun h=>by cases h)
     have how:overwrite xs xs.length ys=xs++ys:=by simp[overwrite]
     rw[how] at hset
     have hb2:(h.set b (.els e'' (xs++ys)))[b]? = some (.els e'' (xs++ys)):=getElem?_set_self' hbk
     obtain ⟨m1,m2⟩:=hset.move hb2 trivial hg
     rw[List.length_set] at m1 m2
     rw[List.set_set] at m1
     exact ⟨_,_,_,hrun,m1,hext.trans m2 (Nat.le_refl _),.row e'' h.length 0 _ g cap _ (by simp) (by simpa using hke) (.inl (by simp)) (by omega) (by simp;omega) (by simpa using hm)⟩
  ·split at hb
   case isFalse=>cases hb
   rename_i hc
   obtain ⟨rfl,rfl,hlt,hle⟩:=hc
   injection hb with hb;injection hb with q1 q2;subst q1;subst q2
   rcases hrow with ⟨h0,_,_,A,rfl⟩ | ⟨g,cap,A,hg,rfl,hA,hl,hcc,hm⟩
   ·obtain ⟨_,⟨_,hn⟩ | ⟨g',_,_,_,k1,_⟩⟩:=hok.blocks b _ hbk
    ·subst hn;exact absurd hlt (by simp)
    ·rw[h0] at k1;cases k1
   have hA:A=some ⟨g,0,none⟩:=by
    rcases hA with hA | ⟨hA,_⟩
    ·simpa using hA
    ·exact absurd rfl hA
   subst hA
   have hca:xs.length≤E.ca b:=by
    obtain ⟨_,⟨k0,_⟩ | ⟨_,_,_,_,_,_,_,_,k,_⟩⟩:=hok.blocks b _ hbk
    ·rw[hg] at k0;cases k0
    ·exact k
   obtain ⟨w',r1,hset,hext⟩:=write_row (P:=P) hok (off:=len) hbk hg (by omega) (by omega) hy
   have hrun:=ha.fits (some ⟨g,0,none⟩) len cap w' (by omega) (fun g' hg'=>by
    injection hg' with hg';subst hg'
    rw[add_addr,Nat.zero_add];exact r1) (fun h=>by cases h)
   exact ⟨_,_,_,hrun,hset,hext,.row e'' b 0 _ g cap _ hg hke (.inl (by simp)) (by omega) hcc hm⟩
 ·rename_i e' b len cap
  split at hb
  case h_2=>cases hb
  rename_i e'' xs hbk
  obtain ⟨hke,hrow⟩:=h1.crow_inv
  split at hb
  case isFalse=>cases hb
  rename_i hc
  obtain ⟨rfl,rfl,hlx,rfl,hy0⟩:=hc
  rcases hrow with ⟨h0,_,rfl,hx0,A,rfl⟩ | ⟨g,A,hg,rfl,hA,hl,hcc,hm⟩
  ·have hpos:0<ys.length:=by
    rcases hy0 with hy0 | hy0
    ·exact List.length_pos_iff.2 hy0
    ·omega
   rw[if_neg (by omega)] at hb
   split at hb
   case isFalse=>cases hb
   rename_i hbd
   have hx0:xs=[]:=List.eq_nil_of_length_eq_zero hx0
   subst hx0
   injection hb with hb;injection hb with q1 q2;subst q1;subst q2
   obtain ⟨c',c1,c2,hrun⟩:=ha.grow A 0 0 _ (nocells A _) (by omega) (by omega) hbd.1
   obtain ⟨g1,g2,g3⟩:=grown_row hok (xs:=[]) (ys:=ys) (ux:=uy) (uy:=uy) (el:=el) (z:=z.cells) hzs (c:=c') (need:=0 + ys.length) (by simp) c1 c2 (fun i x hx=>by simp at hx) hyel
   exact ⟨_,_,_,hrun,by simpa using g1,g2,g3⟩
  ·have hA:A=some ⟨g,0,none⟩:=by
    rcases hA with hA | ⟨hA,_⟩
    ·simpa using hA
    ·exact absurd rfl hA
   subst hA
   split at hb
   ·rename_i hfit
    injection hb with hb;injection hb with q1 q2;subst q1;subst q2
    obtain ⟨w',r1,hset,hext⟩:=write_row (P:=P) hok (off:=len) hbk hg hlx (by omega) hy
    have hrun:=ha.fits (some ⟨g,0,none⟩) len xs.length w' (by omega) (fun g' hg'=>by
     injection hg' with hg';subst hg'
     rw[add_addr,Nat.zero_add];exact r1) (fun h=>by cases h)
    exact ⟨_,_,_,hrun,hset,hext,.crow e'' b 0 _ g _ _ hg hke (.inl (by simp)) (by omega) hcc hm⟩
   ·rename_i hfit
    split at hb
    case isFalse=>cases hb
    rename_i hbd
    injection hb with hb;injection hb with q1 q2;subst q1;subst q2
    obtain ⟨vx,hvx,hread⟩:=read_row (P:=P) hok hbk hg
    obtain ⟨c',c1,c2,hrun⟩:=ha.grow _ len xs.length _ (hread len xs.length hlx w.drew fun _=>rfl) (by omega) (by omega) hbd.1
    have htl:(xs.take len).length=len:=by rw[List.length_take];omega
    obtain ⟨g1,g2,g3⟩:=grown_row hok (xs:=xs.take len) (ys:=ys) (ux:=vx) (uy:=uy) (el:=el) (z:=z.cells) hzs (c:=c') (need:=len + ys.length) (by rw[htl]) c1 c2 (fun i x hx=>hvx i x (by
     rw[List.getElem?_take] at hx
     split at hx
     ·exact hx
     ·cases hx)) hyel
    rw[htl] at g1 g2 g3
    exact ⟨_,_,_,hrun,g1,g2,g3⟩
 ·cases hb
section
variable {t u el t1 t2:TypeId}{x y:Operand}{x' y':Od}{e:Nat}{inf:TypeInfo}{z:Value}{ts:Array TypeId}{args:Array Operand}
theorem apps_src(ht:P.underlying t=some (.slice el))(hu:(∃ e',P.underlying u=some (.slice e'))∨P.underlying u=some .string)(hi:P.info? el=some inf)(hz:inf.zero=some z)(hinf:inf.size=esz e){ys:List AV}{uval:Value}{uy:Nat→Value}(hsrc:Src P E w e ys uval uy)(ty:TypeId) :
  Apps P w e inf.bytes el z ys.length uy (fun s=>Builtin.append_ #[t,u] ty #[s,uval]):=by
 have hroom:room=140737488355328:=by decide
 refine ⟨fun A n c old hold hc hl hb=>⟨grownCap w (n + ys.length) c el,grownCap_ge _ _ _ _,grownCap_le_maxLen _ _ _ _ hl,?_⟩,fun A n c w' hn hst hA=>?_⟩
 ·exact run_append_grow' ht hu hi hz (fun w=>hsrc.len w) (by rw[hinf];exact hold) (by rw[hinf];exact hsrc.read w.drew fun _=>rfl) hc hl (by omega)
 ·exact run_append_fits' ht hu hi (fun w=>hsrc.len w) (by rw[hinf];exact hsrc.read w fun _=>rfl) hn (by rw[hinf];exact hst) hA
theorem ok_append(hok:HOK E h w)(hs:SOK E w s a)(ho:o.op=.call { callee:=.builtin .append,args:=args,argTypes:=ts })(hargs:args.toList=[x,y])(hts:ts.toList=[t,u])
  (ht:P.underlying t=some (.slice el)) (he:ecode P el=some e) (hi:P.info? el=some inf) (hz:inf.zero=some z) (hzs:z.cells.size=esz e) (hu:(∃ e',P.underlying u=some (.slice e'))∨P.underlying u=some .string)
  (hx:od P t1 x=some x') (hy:od P t2 y=some y') {v:AV}{h':Hp}(hb:evV s h (.append e inf.bytes x' y')=some (v,h')):Yields P o a E h.length w v h':=by
 have h1:=od_ok hs hx
 have h2:=od_ok hs hy
 simp only[evV,append] at hb
 have hargs':args = #[x,y]:=by rw[← hargs]
 have hts':ts = #[t,u]:=by rw[← hts]
 subst hargs';subst hts'
 have hinf:inf.size=esz e:=by
  obtain ⟨i,q1,q2⟩:=ecode_info he
  rw[hi] at q1;injection q1 with q1;subst q1;exact q2
 split at hb
 case h_1=>cases hb
 rename_i ys hys
 obtain ⟨uy,hsrc⟩:=srcElems_ok (P:=P) hok h2 hys
 obtain ⟨r,w',E',hr,k1,k2,k3⟩:=appendL_ok hok hzs hsrc.el (apps_src ht hu hi hz hinf hsrc o.type) h1 hb
 refine ⟨r,w',E',_,?_,.inl rfl,k1,k2,k3⟩
 simp[execOp,ho,resolve,invoke,builtin,hr]
theorem zeroCells_row{z:Value}(hzs:z.cells.size=esz e)(n:Nat):Builtin.zeroCells z.cells n=rowCells e (fun _=>z) n:=by
 unfold Builtin.zeroCells rowCells
 apply Array.ext
 ·simp[hzs]
 ·intro k h1 h2
  have hm:k % esz e<z.cells.size:=by rw[hzs];exact Nat.mod_lt _ (esz_pos e)
  simp only[List.getElem_toArray,List.getElem_map,List.getElem_range,Array.getElem_map,Array.getElem_range,hzs]
  rw[getElem!_pos z.cells (k % esz e) hm]
  simp[hm]
theorem apps_zeros(ht:P.underlying t=some (.slice el)){ik:IntKind}(hu:P.underlying u=some (.int ik))(hi:P.info? el=some inf)(hz:inf.zero=some z)(hinf:inf.size=esz e)(hzs:z.cells.size=esz e){jk:IntKind}{k:Int}(hk:0<k)(hk2:k.toNat≤maxLen)(hk3:k.toNat * inf.bytes≤room)(ty:TypeId) :
  Apps P w e inf.bytes el z k.toNat (fun _=>z) (fun s=>Builtin.append_ #[t,u] ty #[s,.int jk k]):=by
 have hroom:room=140737488355328:=by decide
 have hw:IntKind.i64.wrap k=k:=by
  rw[IntKind.wrap_i64]
  unfold maxLen at hk2
  omega
 have hkn:((k.toNat:Nat):Int)=k:=Int.toNat_of_nonneg (by omega)
 have hpos:=esz_pos e
 have hz0:¬ (k.toNat * esz e=0):=by
  have:=Nat.mul_pos (show 0<k.toNat by omega) hpos
  omega
 have hlt0:¬ (k<0):=by omega
 have hroom3:¬ (281474976710656<k * (inf.bytes:Int)):=by
  have h1:((k.toNat * inf.bytes:Nat):Int)≤room:=by exact_mod_cast hk3
  rw[Int.natCast_mul,hkn,hroom] at h1
  omega
 have hcells:=zeroCells_row hzs k.toNat
 refine ⟨fun A n c old hold hc hl hb=>⟨grownCap w (n + k.toNat) c el,grownCap_ge _ _ _ _,grownCap_le_maxLen _ _ _ _ hl,?_⟩,fun A n c w' hn hst hA=>?_⟩
 ·have hn:¬ (n + k.toNat≤c):=by omega
  have h48:=growslice_fits (old:=c) hc (show (n + k.toNat) * inf.bytes≤140737488355328 by omega)
  have h48':¬ (281474976710656<Builtin.nextslicecap (n + k.toNat) c * inf.bytes):=by omega
  have h63':¬ (9223372036854775807<((n:Int) + (k.toNat:Int))):=by unfold maxLen at hl;omega
  rw[Int.toNat_eq_max] at h63'
  have hold':(Builtin.firstCells inf.size n (.slice A n c)).run P w.drew=.ok old w.drew:=by rw[hinf];exact hold
  simp[Builtin.append_,run_underlying ht,run_underlying hu,sizeOf,typeInfo,zeroValue,hi,hz,hn,hlt0,hw,hroom3,h63',h48',hkn,hinf,hz0,Question.forced,hold,newRow,grownCap,hcells,asInt,asIntOf]
 ·simp[Builtin.append_,run_underlying ht,run_underlying hu,sizeOf,typeInfo,zeroValue,hi,hz,hn,hlt0,hw,hroom3,hinf,hz0,hcells,asInt,asIntOf]
  cases A with
  | none=>rw[hA rfl];simp
  | some g=>simp[hst g rfl]
theorem ok_appz(hok:HOK E h w)(hs:SOK E w s a){ik:IntKind}{z':AV}(ho:o.op=.call { callee:=.builtin .append,args:=args,argTypes:=ts })(hargs:args.toList=[x,y])(hts:ts.toList=[t,u])
  (ht:P.underlying t=some (.slice el)) (he:ecode P el=some e) (hi:P.info? el=some inf) (hz:inf.zero=some z) (hzs:z.cells.size=esz e) (hz':zeroE P el=some z') (hu:P.underlying u=some (.int ik))
  (hx:od P t1 x=some x') (hy:od P t2 y=some y') {v:AV}{h':Hp}(hb:evV s h (.appz e inf.bytes z' x' y')=some (v,h')):Yields P o a E h.length w v h':=by
 have h1:=od_ok hs hx
 have h2:=od_ok hs hy
 simp only[evV] at hb
 have hargs':args = #[x,y]:=by rw[← hargs]
 have hts':ts = #[t,u]:=by rw[← hts]
 subst hargs';subst hts'
 have hinf:inf.size=esz e:=by
  obtain ⟨i,q1,q2⟩:=ecode_info he
  rw[hi] at q1;injection q1 with q1;subst q1;exact q2
 split at hb
 case h_2=>cases hb
 rename_i jk k hk
 rw[hk] at h2
 split at hb
 case isFalse=>cases hb
 rename_i hc
 obtain ⟨zv,q1,q2,q3,q4⟩:=zeroE_ok he hz'
 have hzv:zv=z:=by
  have:=q1 w
  simp[zeroValue,typeInfo,hi,hz] at this
  exact this.symm
 subst hzv
 have hel:Els E w e (List.replicate k.toNat z') (fun _=>zv):=fun i y hy=>by
  obtain ⟨_,rfl⟩:=List.mem_replicate.1 (List.mem_of_getElem? hy)
  exact ⟨q3,q2 _ _,q4⟩
 have ha:=apps_zeros (P:=P) (w:=w) ht hu hi hz hinf hzs (jk:=jk) hc.1 hc.2.1 hc.2.2 o.type
 obtain ⟨r,w',E',hr,k1,k2,k3⟩:=appendL_ok hok hzs hel (by rw[List.length_replicate];exact ha) h1 hb
 refine ⟨r,w',E',_,?_,.inl rfl,k1,k2,k3⟩
 simp[execOp,ho,resolve,invoke,builtin,h2.int_inv,hr]
end
end
theorem ok_mks{P:Program}{E:Env}{w:World}{h:Hp}{s:Nat→AV}{a:Act}{o:Oper}{e:Nat}{el:TypeId}(hok:HOK E h w)(hs:SOK E w s a){t t1 t2:TypeId}{l c:Operand}{ik jk kk:IntKind}{n:Int}{z':AV}{inf:TypeInfo}{z:Value}(ho:o.op=.makeSlice t l c)(ht:P.underlying t=some (.slice el))
  (he:ecode P el=some e) (hi:P.info? el=some inf) (hz:inf.zero=some z) (hzs:z.cells.size=esz e) (hz':zeroE P el=some z') {l' c' nn:Od}(hl:od P t1 l=some l') (hc:od P t2 c=some c') (el1:l'.ev s=.int ik n) (ec1:c'.ev s=.int jk n) (en1:nn.ev s=.int kk n)
  {v:AV}{h':Hp}(hb:evV s h (.appz e inf.bytes z' (.c (.sl e true [])) nn)=some (v,h')):Yields P o a E h.length w v h':=by
 have e0:maxStr=maxLen:=rfl
 have h1:=(el1 ▸ od_ok hs hl).int_inv
 have h2:=(ec1 ▸ od_ok hs hc).int_inv
 have eOd:(Od.c (AV.sl e true [])).ev s=AV.sl e true []:=rfl
 simp only[evV,en1,eOd] at hb
 split at hb
 case isFalse=>cases hb
 rename_i hcond
 obtain ⟨c1,c2,c3⟩:=hcond
 have hne:List.replicate n.toNat z'≠[]:=by
  intro e0
  have:=congrArg List.length e0
  simp at this
  omega
 simp only[appendL] at hb
 rw[if_pos (by simp[c2,c3])] at hb
 injection hb with hb;injection hb with e1 e2;subst e1;subst e2
 have hinf:inf.size=esz e:=by
  obtain ⟨i,q1,q2⟩:=ecode_info he
  rw[hi] at q1;injection q1 with q1;subst q1;exact q2
 obtain ⟨zv,q1,q2,q3,q4⟩:=zeroE_ok he hz'
 have hzv:zv=z:=by
  have:=q1 w
  simp[zeroValue,typeInfo,hi,hz] at this
  exact this.symm
 subst hzv
 have m:=More.alloc w (rowCells e (fun _=>zv) n.toNat) el
 have hx:=hok.ext_more m (some w.heap.size) e n.toNat
 have hsz:(rowCells e (fun _=>zv) n.toNat).size=n.toNat * esz e:=rowCells_size _ _ _
 have hpos:=esz_pos e
 have hrun:(execOp a.eval o).run P w=.ok (.value (.slice (some ⟨w.heap.size,0,none⟩) n.toNat n.toNat)) (w.alloc (.cells (rowCells e (fun _=>zv) n.toNat) el)):=by
  have hroom:room=140737488355328:=by decide
  have hw:IntKind.i64.wrap n=n:=by
   rw[IntKind.wrap_i64]
   unfold maxStr at c2
   omega
  have hkn:((n.toNat:Nat):Int)=n:=Int.toNat_of_nonneg (by omega)
  have hz0:¬ (n.toNat * esz e=0):=by
   have:=Nat.mul_pos (show 0<n.toNat by omega) hpos
   omega
  have hlt0:¬ (n<0):=by omega
  have hroom3:¬ (281474976710656<(inf.bytes:Int) * n):=by
   have h1:((n.toNat * inf.bytes:Nat):Int)≤room:=by exact_mod_cast c3
   rw[Int.natCast_mul,hkn,hroom] at h1
   rw[Int.mul_comm]
   omega
  have hask:¬ (roomBytes<n.toNat * inf.bytes):=by
   rw[hroom] at c3
   unfold roomBytes
   omega
  have hcells:=zeroCells_row hzs n.toNat
  unfold Builtin.zeroCells at hcells
  rw[hzs] at hcells
  simp[execOp,ho,h1,h2,Instr.makeSlice,run_underlying ht,asInt,asIntOf,typeInfo,sizeOf,zeroValue,hi,hz,hw,hlt0,hroom3,askRoom,hask,hinf,hz0,newRow,newObj,hzs,hcells,Sem.run]
 refine ⟨_,_,E.push h.length (some w.heap.size) e n.toNat,_,hrun,.inl rfl,?_,hx,?_⟩
 ·refine hok.push m _ _ _ _ ⟨by simp,.inr ⟨w.heap.size,rowCells e (fun _=>zv) n.toNat,el,(0,0),by simp,heap_alloc_new w _,fun o _=>by simp,by simpa using hsz,by simp,(by have hm:n.toNat≤maxLen:=e0 ▸ c2;simpa using hm),?_,fun i v hv=>?_⟩⟩ (fun g hg=>by injection hg with hg;subst hg;simp)
  ·rw[hsz];simp
  ·rw[List.nil_append] at hv
   obtain ⟨hn,rfl⟩:=List.mem_replicate.1 (List.mem_of_getElem? hv)
   have hil:i<n.toNat:=by have:=(List.getElem?_eq_some_iff.1 hv).1;simpa using this
   refine ⟨shape_of_fits q3,zv,.imm (q2 _ _),q4,fun j cc hj=>?_⟩
   have hjl:j<esz e:=by have:=(Array.getElem?_eq_some_iff.1 hj).1;omega
   rw[rowCells_at hil hjl]
   have hjj:j<zv.cells.size:=by omega
   rw[Array.getElem?_eq_getElem hjj] at hj
   injection hj with hj
   simp[hjj,hj]
 ·simp only[List.length_nil,List.length_replicate,Nat.zero_add]
  have hm:n.toNat≤maxLen:=e0 ▸ c2
  exact .row e h.length 0 n.toNat w.heap.size n.toNat _ (by simp) (by simp) (.inl (by simp)) (Nat.le_refl _) (by simp) (by simpa using hm)
theorem bytesOf_ints:∀ {ys:List AV}{t:List UInt8},bytesOf ys=some t→∃ ns:List Int,ys=ns.map (AV.int .u8)∧t=ns.map fun n=>UInt8.ofNat n.toNat
 | [],t,h=>by injection h with h;subst h;exact ⟨[],rfl,rfl⟩
 | y::ys,t,h=>by
  unfold bytesOf at h
  split at h
  ·rename_i e;cases e
  ·rename_i n cs e
   injection e with e1 e2
   subst e1;subst e2
   simp only[Option.map_eq_some_iff] at h
   obtain ⟨t',ht,rfl⟩:=h
   obtain ⟨ns,rfl,rfl⟩:=bytesOf_ints ht
   exact ⟨n::ns,rfl,rfl⟩
  ·cases h
section
variable {P:Program}{E:Env}{w:World}{h:Hp}{s:Nat→AV}{a:Act}{o:Oper}
theorem ok_cstr(hok:HOK E h w)(hs:SOK E w s a){src dst t1 el:TypeId}{x:Operand}{x':Od}(ho:o.op=.convert src dst x)(hsrc:P.underlying src=some (.slice el))(hel:P.underlying el=some (.int .u8))(hdst:P.underlying dst=some .string)
  (hx:od P t1 x=some x') {v:AV}{h':Hp}(hb:evV s h (.cstr x')=some (v,h')):Yields P o a E h.length w v h':=by
 have hv:=od_ok hs hx
 simp only[evV] at hb
 split at hb
 ·cases hb
 rename_i hns
 split at hb
 case h_2=>cases hb
 rename_i ys hys
 simp only[Option.map_eq_some_iff] at hb
 obtain ⟨t,ht,he⟩:=hb
 injection he with e1 e2;subst e1;subst e2
 obtain ⟨uf,src'⟩:=srcElems_ok (P:=P) hok hv hys
 obtain ⟨ns,rfl,rfl⟩:=bytesOf_ints ht
 have hcells:rowCells 0 uf (ns.map (AV.int .u8)).length=(ns.map (Value.int .u8)).toArray:=by
  refine Array.ext_getElem? fun i=>?_
  simp only[rowCells,esz_zero,Nat.mul_one,Nat.div_one,Nat.mod_one,List.getElem?_toArray,List.getElem?_map,List.length_map]
  by_cases hi:i<ns.length
  ·rw[List.getElem?_range hi,List.getElem?_eq_getElem hi]
   obtain ⟨_,h2,_⟩:=src'.el i (.int .u8 ns[i]) (by simp[hi])
   have hu:uf i=.int .u8 ns[i]:=by
    generalize uf i=z at h2
    cases h2;rfl
   simp[hu,Value.cells]
  ·rw[List.getElem?_eq_none (by simpa using hi),List.getElem?_eq_none (by simpa using hi)]
   rfl
 have hrd:=src'.read w (fun _=>rfl)
 have hform:∃ A n c,a.eval x=.slice A n c:=by
  generalize a.eval x=u at hv
  generalize x'.ev s=y at hv hys hns
  unfold srcElems at hys
  split at hys
  ·cases hv.sl_inv with
   | sl _ _ _ A cap g o uu hl hm hf hA hx hc hr=>exact ⟨A,_,_,rfl⟩
  ·obtain ⟨_,hrow⟩:=hv.row_inv
   rcases hrow with ⟨_,_,_,A,h⟩ | ⟨g,cap,A,_,h,_⟩
   ·exact ⟨A,_,_,h⟩
   ·exact ⟨A,_,_,h⟩
  ·obtain ⟨_,hrow⟩:=hv.crow_inv
   rcases hrow with ⟨_,_,_,_,A,h⟩ | ⟨g,A,_,h,_⟩
   ·exact ⟨A,_,_,h⟩
   ·exact ⟨A,_,_,h⟩
  ·obtain ⟨g,cap,A,_,h,_⟩:=hv.arow_inv
   exact ⟨A,_,_,h⟩
  ·exact absurd rfl (hns _)
  ·cases hys
 obtain ⟨A,n,c,hu⟩:=hform
 have hlen:=src'.len w
 rw[hu] at hrd hlen
 have hn:n=ns.length:=by
  simp[Builtin.lenOf] at hlen
  simpa using hlen
 subst hn
 refine .still hok (u:=.string ⟨(ns.map fun n=>UInt8.ofNat n.toNat).toArray⟩) ?_ (.imm (.str _))
 have hconv:(convert src dst (.slice A ns.length c)).run P w=.ok (.string ⟨(ns.map fun n=>UInt8.ofNat n.toNat).toArray⟩) w:=by
  rw[run_convert_bytes_string w src dst el A ns.length c hsrc hel hdst]
  cases A with
  | none =>
   simp[Builtin.firstCells] at hrd
   have:rowCells 0 uf ns.length = #[]:=by simpa using hrd.symm
   have hsz:=rowCells_size 0 uf ns.length
   rw[this] at hsz
   have hn0:ns=[]:=by
    cases ns with
    | nil=>rfl
    | cons a b=>simp at hsz
   subst hn0
   simp[Conv.bytesToString]
   rfl
  | some ad =>
   rw[hcells] at hrd
   rw[run_bytesToString w ad ns.length c ns (by simpa[Builtin.firstCells] using hrd),foldl_push_bytes]
   simp[ByteArray.empty,ByteArray.emptyWithCapacity]
   rfl
 simp only[execOp,ho,hu,Sem.run_bind,hconv,Result.andThen_ok,Sem.run_pure]
end
end Go.Ab
namespace Go.Ab
open Go Go.RowKit
variable {P:Program}
section
variable {E:Env}{w w':World}{h:Hp}{s:Nat→AV}{a:Act}{o:Oper}
theorem AV.rowOf_RV{x:AV}{e b off len:Nat}(hx:x.rowOf=some (e,b,off,len)){u:Value}(hr:RV E w x u):RV E w (.row e b off len) u:=by
 unfold AV.rowOf at hx
 split at hx
 ·simp only[Option.some.injEq,Prod.mk.injEq] at hx
  obtain ⟨rfl,rfl,rfl,rfl⟩:=hx
  exact hr
 ·simp only[Option.some.injEq,Prod.mk.injEq] at hx
  obtain ⟨rfl,rfl,rfl,rfl⟩:=hx
  exact hr.crow_row
 ·cases hx
theorem copyTo_ok(hok:HOK E h w){e:Nat}{x:AV}{ux:Value}(hr:RV E w x ux){ys:List AV}{uy:Nat→Value}(hy:Els E w e ys uy){v:AV}{h':Hp}(hb:copyTo h e x ys=some (v,h')) :
  ∃ (A:Option Addr) (len cap:Nat) (w':World),ux=.slice A len cap∧v=.int .i64 (min len ys.length:Nat)∧(∀ g,A=some g→(storeCells g (rowCells e uy (min len ys.length)).toList).run P w=.ok () w')∧(A=none→w'=w) ∧
   HOK E h' w'∧Ext h.length E w E w'∧(len=0→w'=w)∧∃ e' b off,x.rowOf=some (e',b,off,len):=by
 unfold copyTo at hb
 split at hb
 case h_2=>cases hb
 rename_i e' b off len hx
 split at hb
 case h_2=>cases hb
 rename_i e'' xs hbk
 split at hb
 case isFalse=>cases hb
 rename_i hc
 obtain ⟨rfl,rfl,hle⟩:=hc
 injection hb with hb;injection hb with q1 q2;subst q1;subst q2
 have hrow:=AV.rowOf_RV hx hr
 have same:h.set b (.els e'' (overwrite xs off (ys.take 0)))=h:=by
  have:overwrite xs off (ys.take 0)=xs:=by simp[overwrite]
  rw[this]
  exact List.ext_getElem? fun i=>by
   by_cases hi:i=b
   ·subst hi;rw[getElem?_set_self' hbk,hbk]
   ·rw[List.getElem?_set_ne (Ne.symm hi)]
 have nothing:∀ A:Option Addr,len=0→HOK E (h.set b (.els e'' (overwrite xs off (ys.take len)))) w∧∀ g,A=some g→(storeCells g (rowCells e'' uy (min len ys.length)).toList).run P w=.ok () w:=fun A h0=>by
  subst h0
  refine ⟨by rw[same];exact hok,fun g _=>by simp[rowCells,storeCells]⟩
 obtain ⟨hke,⟨h0,rfl,rfl,A,rfl⟩ | ⟨g,cap,A,hg,rfl,hA,hl,hcc,hm⟩⟩:=hrow.row_inv
 ·obtain ⟨n1,n2⟩:=nothing A rfl
  exact ⟨A,0,0,w,rfl,rfl,n2,fun _=>rfl,n1,Ext.refl _ _ _,fun _=>rfl,_,_,_,hx⟩
 ·by_cases h0:len=0
  ·obtain ⟨n1,n2⟩:=nothing A h0
   exact ⟨A,len,cap,w,rfl,rfl,n2,fun _=>rfl,n1,Ext.refl _ _ _,fun _=>rfl,_,_,_,hx⟩
  ·have hA:A=some ⟨g,off * esz e'',none⟩:=by
    rcases hA with hA | ⟨_,hA⟩
    ·exact hA
    ·exact absurd hA h0
   subst hA
   have hca:xs.length≤E.ca b:=by
    obtain ⟨_,⟨k0,_⟩ | ⟨_,_,_,_,_,_,_,_,k,_⟩⟩:=hok.blocks b _ hbk
    ·rw[hg] at k0;cases k0
    ·exact k
   have hy':Els E w e'' (ys.take len) uy:=fun i y hi=>by
    rw[List.getElem?_take] at hi
    split at hi
    ·exact hy i y hi
    ·cases hi
   have htl:(ys.take len).length=min len ys.length:=List.length_take
   obtain ⟨w',r1,r2,r3⟩:=write_row (P:=P) hok (off:=off) hbk hg (by omega) (by rw[htl];omega) hy'
   rw[htl] at r1
   exact ⟨_,len,cap,w',rfl,rfl,fun g' hg'=>(by injection hg' with hg';subst hg';exact r1),fun h=>(by cases h),r2,r3,fun h=>absurd h h0,_,_,_,hx⟩
theorem cut_src(hok:HOK E h w){e len:Nat}{y:AV}{u:Value}{ys:List AV}(hr:RV E w y u)(hs:srcElems e h (y.cut len)=some ys):∃ m uy,(∀ w':World,(Builtin.lenOf u).run P w'=.ok m w')∧True∧Els E w e ys uy∧min len m=min len ys.length ∧
  ∀ n,n≤ys.length→∀ w':World,(∀ x,w'.cell? x=w.cell? x)→(Builtin.firstCells (esz e) n u).run P w'=.ok (rowCells e uy n) w':=by
 have rows:∀ e' b off l,RV E w (.row e' b off l) u→srcElems e h (.row e' b off (min len l))=some ys→∃ m uy,(∀ w':World,(Builtin.lenOf u).run P w'=.ok m w')∧True∧Els E w e ys uy∧min len m=min len ys.length ∧
   ∀ n,n≤ys.length→∀ w':World,(∀ x,w'.cell? x=w.cell? x)→(Builtin.firstCells (esz e) n u).run P w'=.ok (rowCells e uy n) w':=fun e' b off l hr hs=>by
  have hyl:ys.length=min len l:=by
   simp only[srcElems] at hs
   split at hs
   case h_2=>cases hs
   split at hs
   case isFalse=>cases hs
   rename_i hc
   injection hs with hs
   rw[← hs,List.length_take,List.length_drop]
   omega
  obtain ⟨hke,⟨h0,rfl,rfl,A,rfl⟩ | ⟨g,cap,A,hg,rfl,hA,hl,hc,hm⟩⟩:=hr.row_inv
  ·rw[Nat.min_zero] at hs hyl
   obtain ⟨uf,hsrc⟩:=srcElems_ok (P:=P) (u:=.slice A 0 0) hok (.row0 e' b A h0 hke) hs
   exact ⟨0,uf,fun w'=>by simp[Builtin.lenOf],trivial,hsrc.el,by rw[hyl],hsrc.readn⟩
  ·have hr2:RV E w (.row e' b off (min len l)) (.slice A (min len l) cap):=.row e' b off _ g cap A hg hke (hA.imp id fun h=>⟨h.1,by omega⟩) (by omega) hc hm
   obtain ⟨uf,hsrc⟩:=srcElems_ok (P:=P) hok hr2 hs
   refine ⟨l,uf,fun w'=>by simp[Builtin.lenOf],trivial,hsrc.el,by rw[hyl];omega,fun n hn w' hw=>?_⟩
   have:=hsrc.readn n hn w' hw
   cases A<;>exact this
 unfold AV.cut at hs
 split at hs
 ·exact rows _ _ _ _ hr hs
 ·exact rows _ _ _ _ hr.crow_row hs
 ·obtain ⟨uf,hsrc⟩:=srcElems_ok (P:=P) hok hr hs
  exact ⟨ys.length,uf,hsrc.len,trivial,hsrc.el,rfl,hsrc.readn⟩
theorem ok_copy(hok:HOK E h w)(hs:SOK E w s a){t u el t1 t2:TypeId}{x y:Operand}{x' y':Od}{e:Nat}{ts:Array TypeId}{args:Array Operand}{tl:List TypeId}(ho:o.op=.call { callee:=.builtin .copy,args:=args,argTypes:=ts })(hargs:args.toList=[x,y])(hts:ts.toList=t::u::tl)
  (ht:P.underlying t=some (.slice el)) (he:ecode P el=some e) (hx:od P t1 x=some x') (hy:od P t2 y=some y') {v:AV}{h':Hp}(hb:evV s h (.copy e x' y')=some (v,h')):Yields P o a E h.length w v h':=by
 have h1:=od_ok hs hx
 have h2:=od_ok hs hy
 simp only[evV] at hb
 have hargs':args = #[x,y]:=by rw[← hargs]
 subst hargs'
 have hts0:ts[0]? = some t:=by rw[← Array.getElem?_toList,hts];rfl
 split at hb
 case h_2=>cases hb
 rename_i e0 b0 off0 len0 hx0
 split at hb
 case h_2=>cases hb
 rename_i ys hys
 obtain ⟨m,uy,hml,hmr,hel,hmin0,hread0⟩:=cut_src (P:=P) hok h2 hys
 obtain ⟨A,len,cap,w',hu,rfl,hst,hnone,k1,k2,_,e1,b1,off1,hx1⟩:=copyTo_ok (P:=P) hok h1 hel hb
 rw[hx0] at hx1
 simp only[Option.some.injEq,Prod.mk.injEq] at hx1
 obtain ⟨_,_,_,rfl⟩:=hx1
 obtain ⟨inf,q1,q2⟩:=ecode_info he
 have hmin:Nat.min m len0=min len0 ys.length:=by rw[← hmin0];exact Nat.min_comm _ _
 have hread:=hread0 (min len0 ys.length) (Nat.min_le_right _ _) w fun _=>rfl
 refine ⟨.int .i64 (min len0 ys.length:Nat),w',E,_,?_,.inl rfl,k1,k2,.imm (.int _ _)⟩
 cases A with
 | none =>
  rw[hnone rfl]
  simp[execOp,ho,resolve,invoke,builtin,Builtin.copy_,hts0,run_underlying ht,hu,hml,sizeOf,typeInfo,q1,q2,hmin,hread,goInt]
 | some g =>
  simp[execOp,ho,resolve,invoke,builtin,Builtin.copy_,hts0,run_underlying ht,hu,hml,sizeOf,typeInfo,q1,q2,hmin,hread,hst g rfl,goInt]
theorem ok_clear(hok:HOK E h w)(hs:SOK E w s a){t el t1:TypeId}{x:Operand}{x':Od}{e:Nat}{z:AV}{ts:Array TypeId}{args:Array Operand}{tl:List TypeId}(ho:o.op=.call { callee:=.builtin .clear,args:=args,argTypes:=ts })(hargs:args.toList=[x])(hts:ts.toList=t::tl)
  (ht:P.underlying t=some (.slice el)) (he:ecode P el=some e) (hz:zeroE P el=some z) (hx:od P t1 x=some x') {v:AV}{h':Hp}(hb:evV s h (.clear e z x')=some (v,h')):Yields P o a E h.length w v h':=by
 have h1:=od_ok hs hx
 simp only[evV] at hb
 have hargs':args = #[x]:=by rw[← hargs]
 subst hargs'
 have hts0:ts[0]? = some t:=by rw[← Array.getElem?_toList,hts];rfl
 split at hb
 case h_2=>cases hb
 rename_i e0 b0 off0 len hx0
 simp only[Option.map_eq_some_iff] at hb
 obtain ⟨⟨v0,h0⟩,hb,hv⟩:=hb
 injection hv with e1 e2;subst e1;subst e2
 obtain ⟨zv,q1,q2,q3,q4⟩:=zeroE_ok he hz
 have hel:Els E w e (List.replicate len z) (fun _=>zv):=fun i y hy=>by
  obtain ⟨_,rfl⟩:=List.mem_replicate.1 (List.mem_of_getElem? hy)
  exact ⟨q3,q2 _ _,q4⟩
 obtain ⟨A,len',cap,w',hu,_,hst,hnone,k1,k2,hzero,e',b',off',hx1⟩:=copyTo_ok (P:=P) hok h1 hel hb
 rw[hx0] at hx1
 simp only[Option.some.injEq,Prod.mk.injEq] at hx1
 obtain ⟨_,_,_,rfl⟩:=hx1
 rw[List.length_replicate,Nat.min_self] at hst
 refine ⟨.tuple #[],w',E,_,?_,.inl rfl,k1,k2,.junk _⟩
 have hcells:=zeroCells_row (e:=e) q4 len
 cases A with
 | none =>
  rw[hnone rfl]
  simp[execOp,ho,resolve,invoke,builtin,Builtin.clear_,hts0,run_underlying ht,hu]
 | some g =>
  cases len with
  | zero =>
   rw[hzero rfl]
   simp[execOp,ho,resolve,invoke,builtin,Builtin.clear_,hts0,run_underlying ht,hu]
  | succ n =>
   simp[execOp,ho,resolve,invoke,builtin,Builtin.clear_,hts0,run_underlying ht,hu,q1,hcells,hst g rfl]
theorem ok_cap(hok:HOK E h w)(hs:SOK E w s a){t el t1:TypeId}{x:Operand}{x':Od}{ts:Array TypeId}{args:Array Operand}{tl:List TypeId}(ho:o.op=.call { callee:=.builtin .cap,args:=args,argTypes:=ts })(hargs:args.toList=[x])(hts:ts.toList=t::tl)
  (ht:P.underlying t=some (.slice el)) (hx:od P t1 x=some x') {v:AV}{h':Hp}(hb:evV s h (.cap x')=some (v,h')):Yields P o a E h.length w v h':=by
 have h1:=od_ok hs hx
 simp only[evV] at hb
 have hargs':args = #[x]:=by rw[← hargs]
 subst hargs'
 have hts0:ts[0]? = some t:=by rw[← Array.getElem?_toList,hts];rfl
 have run:∀ A n c,a.eval x=.slice A n c→(execOp a.eval o).run P w=.ok (.value (.int .i64 c)) w:=fun A n c hu=>by
  simp[execOp,ho,resolve,invoke,builtin,Builtin.cap_,hts0,run_underlying ht,hu,goInt]
 split at hb
 ·rename_i e xs ex
  rw[ex] at h1
  injection hb with hb;injection hb with e1 e2;subst e1;subst e2
  generalize hu:a.eval x=u at h1
  cases h1.sl_inv with
  | sl _ _ _ A cap g off uf hl hm hf hA hfit hc hr =>
   have hcap:=hf rfl
   subst hcap
   exact .still hok (run _ _ _ hu) (.imm (.int _ _))
 ·rename_i e b off len c ex
  rw[ex] at h1
  injection hb with hb;injection hb with e1 e2;subst e1;subst e2
  obtain ⟨_,⟨_,_,_,rfl,A,hp⟩ | ⟨g,A,_,hp,_⟩⟩:=h1.crow_inv<;>exact .still hok (run _ _ _ hp) (.imm (.int _ _))
 ·cases hb
theorem ok_ovl(hok:HOK E h w)(hs:SOK E w s a){f:Od}{x y fo:Operand}{x' y':Od}{t1 t2 tf:TypeId}{ts:Array TypeId}{args:Array Operand}(ho:o.op=.call { callee:=.value fo,args:=args,argTypes:=ts })(hargs:args.toList=[x,y])
  (hf:od P tf fo=some f) (hov:ovlF P f=true) (hx:od P t1 x=some x') (hy:od P t2 y=some y') {v:AV}{h':Hp}(hb:evV s h (.ovl x' y')=some (v,h')):Yields P o a E h.length w v h':=by
 have h1:=od_ok hs hx
 have h2:=od_ok hs hy
 have h3:=od_ok hs hf
 have hargs':args = #[x,y]:=by rw[← hargs]
 subst hargs'
 simp only[evV] at hb
 split at hb
 case h_2=>cases hb
 rename_i e x0 xs e' b off len ex ey
 split at hb
 case h_2=>cases hb
 rename_i e'' zs hbk
 injection hb with hb;injection hb with e1 e2;subst e1;subst e2
 unfold ovlF at hov
 split at hov
 case h_2=>cases hov
 rename_i k
 split at hov
 case h_2=>cases hov
 rename_i fn hfn
 simp only[Bool.and_eq_true,beq_iff_eq,bne_iff_ne,ne_eq] at hov
 obtain ⟨c1,c2,c3,c4,c5,c6,c7,c8⟩:=hov
 split at c8
 case h_2=>cases c8
 rename_i t t' tr hp0 hr0
 simp only[Bool.and_eq_true,beq_iff_eq] at c8
 obtain ⟨rfl,c8⟩:=c8
 split at c8
 case h_2=>cases c8
 rename_i el ht
 obtain ⟨kk,he⟩:=Option.isSome_iff_exists.1 c8
 have hp1:fn.params = #[t,t]:=by rw[← hp0]
 have hr1:fn.resultTypes = #[tr]:=by rw[← hr0]
 obtain ⟨us,hu,hus,_⟩:=h3.fn_inv
 have hus:us = #[]:=Array.eq_empty_of_size_eq_zero (by simpa using hus)
 subst hus
 have n1:Extern.allNextRows.lookup fn.name=none:=by simpa using c4
 have n2 : Extern.allNextRows.lookup "slices.overlaps" = none := by rfl
 have n3:Extern.allGenericRows.lookup fn.name=none:=by simpa using c5
 have n4:Extern.allTypedRows.lookup fn.name=none:=by simpa using c6
 have n5:Extern.allRows.lookup fn.name=none:=by simpa using c7
 have n6 : Extern.allGenericRows.lookup "slices.overlaps" = none := by rfl
 have n7 : Extern.allTypedRows.lookup "slices.overlaps" = some Extern.SlicesOverlaps.overlaps := by rfl
 have hfind:Extern.find fn=some (Extern.SlicesOverlaps.overlaps #[t,t] #[tr]):=by
  simp[Extern.find,n3,n4,n5,c2,n6,n7,hp1,hr1]
 have hnext:Extern.findNext fn=none:=by
  simp[Extern.findNext,n1,c2,n2]
 rw[ex] at h1
 have hrow:=AV.rowOf_RV ey h2
 generalize hux:a.eval x=ux at h1
 generalize huy:a.eval y=uy at hrow
 have key:∃ A la ca B lb cb,ux=.slice A la ca∧uy=.slice B lb cb∧(Extern.SlicesOverlaps.overlaps #[t,t] #[tr] #[.slice A la ca,.slice B lb cb]).run P w=.ok (.bool false) w:=by
  cases h1.sl_inv with
  | sl _ _ _ A cap g o uf hl hm hfl hA hfit hc hr hn =>
   rcases hA with hA | hA
   ·cases hA
   subst hA
   obtain ⟨c0,hc0⟩:=(hr 0 x0 rfl).cell0 (hfit 0 x0 rfl)
   obtain ⟨s1,s2⟩:=hc 0 x0 rfl 0 c0 hc0
   have hsh:∃ t n,w.shape? g=some (t,n):=by
    unfold World.cell? at s2
    unfold World.shape?
    split at s2
    ·rename_i hg
     rw[hg]
     exact ⟨_,_,rfl⟩
    ·cases s2
   obtain ⟨tA,kA,hsh⟩:=hsh
   obtain ⟨hke,⟨h0,_,hl0,B,rfl⟩ | ⟨g',cap',B,hg,rfl,hB,hlc,hcc,hm'⟩⟩:=hrow.row_inv
   ·cases hl0
   have hown:=hok.own b _ g' hbk trivial hg
   rcases hB with hB | ⟨_,hB⟩
   ·subst hB
    obtain ⟨_,⟨k0,_⟩ | ⟨g'',vals,t',fz,k1,k2,k2',k3,k4,k5,k6,k7⟩⟩:=hok.blocks b _ hbk
    ·rw[k0] at hg;cases hg
    rw[hg] at k1;injection k1 with k1;injection k1 with k1;subst k1
    refine ⟨_,_,_,_,_,_,rfl,rfl,Lib.run_overlaps_apart w t tr el ht (esz kk) (run_sizeOf_e he) _ _ _ _ _ _ (fun e=>hown.2.2 _ (by
     have:g=g':=e
     rw[← this];exact s1)) tA t' kA vals.size hsh (by simp[World.shape?,k2]) ?_ (hn rfl (by simp) _) (hn rfl (by simp) _)⟩
    rw[k3]
    have:=Nat.mul_pos (show 0<E.ca b by omega) (esz_pos e'')
    omega
   ·cases hB
 obtain ⟨A,la,ca,B,lb,cb,rfl,rfl,hrun⟩:=key
 refine .still hok (u:=.bool false) ?_ (.imm (.bool _))
 have hcall:=run_callFunc_extern hfn (by simpa using c3) c1 hnext hfind #[.slice A la ca,.slice B lb cb] w
 simp[execOp,ho,resolve,Deferred.ofValue,hu,invoke,hux,huy,hcall,hrun]
theorem ok_cbytes(hok:HOK E h w)(hs:SOK E w s a){src dst t1 el:TypeId}{x:Operand}{x':Od}(ho:o.op=.convert src dst x)(hsrc:P.underlying src=some .string)(hdst:P.underlying dst=some (.slice el))(hel:P.underlying el=some (.int .u8))(he:ecode P el=some 0)
  (hx:od P t1 x=some x') {v:AV}{h':Hp}(hb:evV s h (.cbytes x')=some (v,h')):Yields P o a E h.length w v h':=by
 have hv:=od_ok hs hx
 simp only[evV] at hb
 split at hb
 case h_2=>cases hb
 rename_i t ht
 split at hb
 case isFalse=>cases hb
 rename_i hlen
 injection hb with hb;injection hb with e1 e2;subst e1;subst e2
 rw[ht] at hv
 have hu:=hv.str_inv
 have hroom:t.length≤maxLen:=Nat.le_trans hlen (by decide)
 have hc1:=grownCap_ge w t.length 0 el
 have hc2:=grownCap_le_maxLen w t.length 0 el hroom
 generalize hc:grownCap w t.length 0 el=c at hc1 hc2
 let vals:Array Value:=(t.map fun b=>(Value.int .u8 (b.toNat:Int))).toArray++Array.replicate (c - t.length) (Value.int .u8 0)
 have hsz:vals.size=c:=by simp[vals];omega
 let w1:World:=w.drew.alloc (.cells vals el)
 let w2:World:=w1.freeze ⟨w.heap.size,c,none⟩ 1
 have hnew:w1.heap[w.heap.size]? = some (.cells vals el (0,0)):=heap_alloc_new w.drew _
 have hnew2:w2.heap[w.heap.size]? = some (.cells vals el (c,c + 1)):=by
  simp only[w2,World.freeze,Nat.one_ne_zero,if_false,Array.getElem?_modify,if_true,hnew,Option.map_some]
  simp
 have hold2:∀ k,k≠w.heap.size→w2.heap[k]? = w1.heap[k]? := fun k hk=>by
  simp only[w2,World.freeze,Nat.one_ne_zero,if_false,Array.getElem?_modify,if_neg (Ne.symm hk)]
 have hsize2:w2.heap.size=w1.heap.size:=by simp[w2,World.freeze]
 have hsize1:w1.heap.size=w.heap.size + 1:=by simp[w1]
 have hm:More w w2:=by
  refine ⟨rfl,rfl,rfl,by omega,fun k hk=>?_,fun p hp=>?_,.mk (Nat.le_succ _)⟩
  ·rw[hold2 k (by omega)];exact Below.heap_alloc w.drew _ _ hk
  ·refine World.frozen?_of_block ?_
   rw[hold2 _ (by omega)];exact Below.heap_alloc w.drew _ _ hp
 have hext:=hok.ext_more hm (some w.heap.size) 0 c
 have hshape:w1.shape? w.heap.size=some (el,c):=by simp[World.shape?,hnew,hsz]
 have hrun:(execOp a.eval o).run P w=.ok (.value (.slice (some ⟨w.heap.size,0,none⟩) t.length c)) w2:=by
  have hdata:(⟨t.toArray⟩:ByteArray).data=t.toArray:=rfl
  have e1:(convert src dst (.string ⟨t.toArray⟩)).run P w=.ok (.slice (some ⟨w.heap.size,0,none⟩) t.length c) w2:=by
   simp only[convert,run_underlying hsrc,run_underlying hdst,run_underlying hel,Sem.run_bind,Result.andThen_ok]
   simp only[grownCap] at hc
   simp[Conv.stringToBytes,newRow,markStringish,Question.forced,size_mk,hc]
   have hs1:World.shape? (w.drew.alloc (.cells ((t.map fun b=>(Value.int .u8 (b.toNat:Int))).toArray++Array.replicate (c - t.length) (Value.int .u8 0)) el)) w.heap.size=some (el,c):=hshape
   rw[hs1]
   simp only[Go.freeze,Sem.run,Result.andThen]
   rfl
  simp only[execOp,ho,hu,Sem.run_bind,e1,Result.andThen_ok,Sem.run_pure]
 refine ⟨_,w2,E.push h.length (some w.heap.size) 0 c,_,hrun,.inl rfl,?_,hext,.row 0 h.length 0 _ w.heap.size c _ (by simp) (by simp) (.inl (by simp)) hc1 (by simp) (by simpa using hc2)⟩
 refine hok.push hm _ _ _ _ ⟨by simp,.inr ⟨w.heap.size,vals,el,_,by simp,hnew2,fun o ho=>by omega,by simpa using hsz,by simp[byteCells];exact hc1,by simpa using hc2,?_,fun i y hy=>?_⟩⟩ (fun g hg=>by injection hg with hg;subst hg;exact ⟨Nat.le_refl _,by omega⟩)
 ·simp[byteCells];omega
 ·have hi:i<t.length:=by have:=(List.getElem?_eq_some_iff.1 hy).1;simpa[byteCells] using this
  have hyv:y=.int .u8 ((t[i]).toNat:Int):=by
   simp[byteCells,hi] at hy
   exact hy.symm
  subst hyv
  refine ⟨by simp[Shape,Ok1,AV.one],.int .u8 ((t[i]).toNat:Int),.imm (.int _ _),rfl,fun j cc hj=>?_⟩
  have hj0:j=0:=by
   have:=(Array.getElem?_eq_some_iff.1 hj).1
   simp[Value.cells] at this
   exact this
  subst hj0
  simp[Value.cells] at hj
  subst hj
  simp only[esz_zero,Nat.mul_one,Nat.add_zero,vals]
  rw[Array.getElem?_append_left (by simpa using hi)]
  simp[hi]
end
end Go.Ab
namespace Go.Ab
open Go Go.RowKit
variable {P:Program}
section
variable {E:Env}{w:World}{h:Hp}{s:Nat→AV}{a:Act}{o:Oper}
theorem frozen_allocMap(w:World)(es:Array MapEntry)(c:Nat)(a:Addr):(w.alloc (.map es c)).frozen? a=w.frozen? a:=by
 unfold World.frozen?
 rcases Nat.lt_trichotomy a.block w.heap.size with h | h | h
 ·rw[Below.heap_alloc w _ _ h]
 ·rw[h,heap_alloc_new,Array.getElem?_eq_none (Nat.le_refl _)]
 ·rw[Array.getElem?_eq_none (by simp;omega),Array.getElem?_eq_none (by omega)]
theorem More.allocMap(w:World)(es:Array MapEntry)(c:Nat):More w (w.alloc (.map es c)):=⟨rfl,rfl,rfl,by simp,fun k hk=>Below.heap_alloc w _ k hk,fun a _=>frozen_allocMap w es c a,.mk (Nat.le_refl _)⟩
theorem ok_mkmap(hok:HOK E h w){t:TypeId}(ho:o.op=.makeMap t none){v:AV}{h':Hp}(hb:evV s h .mkmap=some (v,h')):Yields P o a E h.length w v h':=by
 simp only[evV,Option.some.injEq,Prod.mk.injEq] at hb
 obtain ⟨rfl,rfl⟩:=hb
 have m:=More.allocMap w #[] 0
 have he:=hok.ext_more m (some w.heap.size) 0 0
 refine ⟨.map (some w.heap.size),w.alloc (.map #[] 0),E.push h.length (some w.heap.size) 0 0,_,?_,.inl rfl,
  hok.push m _ _ _ _ ⟨w.heap.size,#[],0,by simp,heap_alloc_new w _,rfl,rfl,fun i k x hk=>by simp at hk,fun i k x hk=>by simp at hk⟩ (fun g hg=>by injection hg with hg;subst hg;simp),he,.mref h.length w.heap.size (by simp)⟩
 simp[execOp,ho,Instr.makeMap,newObj,Sem.run]
theorem kindOf_int{d:TypeDesc}(h:kindOf d=some 0):∃ k,d=.int k:=by
 cases d<;>first | exact ⟨_,rfl⟩ | (simp[kindOf] at h)
theorem kindOf_str{d:TypeDesc}(h:kindOf d=some 1):d=.string:=by
 cases d<;>first | rfl | (simp[kindOf] at h)
theorem kindOf_bool{d:TypeDesc}(h:kindOf d=some 2):d=.bool:=by
 cases d<;>first | rfl | (simp[kindOf] at h)
theorem beq_mk(a b:List UInt8):((⟨a.toArray⟩:ByteArray) == ⟨b.toArray⟩)=(a == b):=by
 have:((⟨a.toArray⟩:ByteArray) == ⟨b.toArray⟩)=(a.toArray == b.toArray):=rfl
 rw[this]
 simp
theorem sameNow_ok{kd:Nat}{d:TypeDesc}(hd:kindOf d=some kd){x y:AV}{u z:Value}{b:Bool}(hx:RV E w x u)(hy:RV E w y z)(hb:eqKind kd x y=some b):Instr.sameNow d u z=some b:=by
 unfold eqKind at hb
 split at hb
 ·obtain ⟨k,rfl⟩:=kindOf_int hd
  split at hb
  ·rename_i hk
   injection hb with hb;subst hb
   rw[hx.int_inv,hy.int_inv]
   simp[Instr.sameNow,hk]
  ·cases hb
 ·have:=kindOf_str hd
  subst this
  injection hb with hb;subst hb
  rw[hx.str_inv,hy.str_inv]
  simp only[Instr.sameNow,beq_mk]
 ·have:=kindOf_bool hd
  subst this
  injection hb with hb;subst hb
  rw[hx.bool_inv,hy.bool_inv]
  simp[Instr.sameNow]
 ·cases hb
theorem run_checkKey{kd:Nat}{kt:TypeId}{d:TypeDesc}(ht:P.underlying kt=some d)(hd:kindOf d=some kd)(b:Bool)(u:Value):(Instr.checkKey b 10000 kt u).run P w=.ok () w:=by
 rw[show (10000:Nat)=9999 + 1 from rfl]
 unfold Instr.checkKey
 simp only[Sem.run_bind,run_underlying ht,Result.andThen_ok]
 cases d<;>first | (simp[kindOf] at hd;done) | (cases u<;>rfl)
structure MapOK (S:Nat→Nat→Prop) (w:World) (ks vs:List AV) (es:List MapEntry):Prop where
 h1:es.length=ks.length
 h2:es.length=vs.length
 hk:∀ (i:Nat) k (x:MapEntry),ks[i]? = some k→es[i]? = some x→RI S w k x.key
 hv:∀ (i:Nat) v (x:MapEntry),vs[i]? = some v→es[i]? = some x→RI S w v x.val
theorem MapOK.tail{S:Nat→Nat→Prop}{k v:AV}{ks vs:List AV}{e:MapEntry}{es:List MapEntry}(m:MapOK S w (k::ks) (v::vs) (e::es)):MapOK S w ks vs es :=
 ⟨by simpa using m.h1,by simpa using m.h2,fun i k x hk hx=>m.hk (i + 1) k x (by simpa using hk) (by simpa using hx),fun i k x hk hx=>m.hv (i + 1) k x (by simpa using hk) (by simpa using hx)⟩
theorem findNow_ok{kd:Nat}{d:TypeDesc}(hd:kindOf d=some kd){k:AV}{u:Value}(hu:RV E w k u):∀ {ks vs:List AV}{es:List MapEntry}{r:Option AV},MapOK E.S w ks vs es→lookKey kd k ks vs=some r→∀ j,
  ∃ q,Instr.findNow d u es j=some q∧((r=none∧q=none)∨∃ (i:Nat) (v:AV) (x:MapEntry),r=some v∧q=some (j + i,x.val)∧es[i]? = some x∧vs[i]? = some v)
 | [],[],es,r,m,hl,j=>by
  simp only[lookKey,Option.some.injEq] at hl
  subst hl
  have:es=[]:=List.length_eq_zero_iff.1 m.h1
  subst this
  exact ⟨none,rfl,.inl ⟨rfl,rfl⟩⟩
 | k'::ks,v::vs,[],r,m,hl,j=>absurd m.h1 (by simp)
 | k'::ks,v::vs,e::es,r,m,hl,j=>by
  unfold lookKey at hl
  have h0:=m.hk 0 k' e rfl rfl
  split at hl
  ·rename_i hq
   injection hl with hl;subst hl
   refine ⟨some (j,e.val),?_,.inr ⟨0,v,e,rfl,rfl,rfl,rfl⟩⟩
   unfold Instr.findNow
   rw[sameNow_ok hd hu (.imm h0) hq]
  ·rename_i hq
   obtain ⟨q,q1,q2⟩:=findNow_ok hd hu m.tail hl (j + 1)
   refine ⟨q,?_,?_⟩
   ·unfold Instr.findNow
    rw[sameNow_ok hd hu (.imm h0) hq]
    exact q1
   ·rcases q2 with q2 | ⟨i,v',x,r1,r2,r3,r4⟩
    ·exact .inl q2
    ·exact .inr ⟨i + 1,v',x,r1,by rw[r2];congr 2;omega,by simpa using r3,by simpa using r4⟩
  ·cases hl
 | [],_::_,_,_,_,hl,_=>by simp[lookKey] at hl
 | _::_,[],_,_,_,hl,_=>by simp[lookKey] at hl
theorem run_findKey{kd:Nat}{kt:TypeId}{d:TypeDesc}(ht:P.underlying kt=some d)(hd:kindOf d=some kd){k:AV}{u:Value}(hu:RV E w k u){ks vs:List AV}{es:List MapEntry}{r:Option AV}(m:MapOK E.S w ks vs es)(hl:lookKey kd k ks vs=some r) :
  ∃ q,(Instr.findKey kt u es).run P w=.ok q w∧((r=none∧q=none)∨∃ (i:Nat) (v:AV) (x:MapEntry),r=some v∧q=some (i,x.val)∧es[i]? = some x∧vs[i]? = some v):=by
 obtain ⟨q,q1,q2⟩:=findNow_ok hd hu m hl 0
 refine ⟨q,?_,?_⟩
 ·simp only[Instr.findKey,Sem.run_bind,run_underlying ht,Result.andThen_ok,q1,Sem.run_pure]
 ·rcases q2 with q2 | ⟨i,v,x,r1,r2,r3,r4⟩
  ·exact .inl q2
  ·exact .inr ⟨i,v,x,r1,by rw[r2,Nat.zero_add],r3,r4⟩
theorem ok_lookup(hok:HOK E h w)(hs:SOK E w s a){t kt el t1 t2:TypeId}{x i:Operand}{ok:Bool}{kd:Nat}{z:AV}{x' i':Od}{d:TypeDesc}(ho:o.op=.lookup t x i ok)(ht:P.underlying t=some (.map kt el))(hkt:P.underlying kt=some d)(hd:kindOf d=some kd)
  (hz:zeroE P el=some z) (hx:od P t1 x=some x') (hi:od P t2 i=some i') {v:AV}{h':Hp}(hb:evV s h (.lookup kd z ok x' i')=some (v,h')):Yields P o a E h.length w v h':=by
 have h1:=od_ok hs hx
 have h2:=od_ok hs hi
 obtain ⟨e,he⟩:∃ e,ecode P el=some e:=by
  cases he:ecode P el with
  | none=>unfold zeroE at hz;rw[he] at hz;cases hz
  | some e=>exact ⟨e,rfl⟩
 obtain ⟨zv,z1,z3,_,_⟩:=zeroE_ok he hz
 have hzv:(zeroValue el).run P w=.ok zv w:=z1 w
 have run:∀ (es:Array MapEntry) (q:Option (Nat×Value)),(Instr.findKey kt (a.eval i) es.toList).run P w=.ok q w→((a.eval x=.map none∧es = #[])∨∃ g cl,a.eval x=.map (some g)∧w.heap[g]? = some (.map es cl)) →
   (Instr.lookup t (a.eval x) (a.eval i) ok).run P w=.ok (if ok then .tuple #[(q.map (·.2)).getD zv,.bool q.isSome] else (q.map (·.2)).getD zv) w:=by
  rintro es q q1 (⟨hx,rfl⟩ | ⟨g,cl,hx,hg⟩)
  ·have q1':(Instr.findKey kt (a.eval i) []).run P w=.ok q w:=q1
   cases q<;>simp[Instr.lookup,hx,run_underlying ht,run_checkKey hkt hd,q1',hzv]
  ·cases q<;>simp[Instr.lookup,hx,run_underlying ht,run_checkKey hkt hd,q1,hzv,getObj,Sem.run,hg]
 have fin:∀ (ks vs:List AV) (es:Array MapEntry) (r:Option AV),MapOK E.S w ks vs es.toList→lookKey kd (i'.ev s) ks vs=some r→v=(if ok then .tup [r.getD (lowZ 4 z),.bool r.isSome] else r.getD (lowZ 4 z))→h'=h →
   ((a.eval x=.map none∧es = #[])∨∃ g cl,a.eval x=.map (some g)∧w.heap[g]? = some (.map es cl))→Yields P o a E h.length w v h':=by
  intro ks vs es r m hl hv hh hes
  subst hh
  obtain ⟨q,q1,q2⟩:=run_findKey hkt hd h2 m hl
  refine .still hok (by simp only[execOp,ho,run es q q1 hes,Sem.run_bind,Result.andThen_ok,Sem.run_pure];rfl) ?_
  rw[hv]
  have hval:RV E w (r.getD (lowZ 4 z)) ((q.map (·.2)).getD zv):=by
   rcases q2 with ⟨rfl,rfl⟩ | ⟨j,v',y,rfl,rfl,r3,r4⟩
   ·exact .imm ((z3 _ _).low 4)
   ·exact .imm (m.hv j v' y r4 r3)
  have hsome:r.isSome=q.isSome:=by
   rcases q2 with ⟨rfl,rfl⟩ | ⟨j,v',y,rfl,rfl,r3,r4⟩<;>rfl
  cases ok with
  | false=>exact hval
  | true =>
   refine .tup _ _ rfl fun j c u hc hu=>?_
   match j,hc,hu with
   | 0,hc,hu=>simp at hc hu;subst hc;subst hu;exact hval
   | 1,hc,hu=>simp at hc hu;subst hc;subst hu;rw[hsome];exact .imm (.bool _)
 simp only[evV] at hb
 split at hb
 case h_2=>cases hb
 rename_i r hr
 injection hb with hb;injection hb with e1 e2
 split at hr
 ·rename_i ex
  rw[ex] at h1
  split at hr
  case isFalse=>cases hr
  injection hr with hr
  exact fin [] [] #[] r ⟨rfl,rfl,fun i k x hk=>by simp at hk,fun i k x hk=>by simp at hk⟩ (by rw[← hr];rfl) e1.symm e2.symm (.inl ⟨h1.nilmp_inv,rfl⟩)
 ·rename_i ks vs ex
  rw[ex] at h1
  split at hr
  case isFalse=>cases hr
  have h3:=h1.mp_inv
  generalize a.eval x=ux at h3 fin
  cases h3 with
  | mp _ _ g es cl hS hg l1 l2 hk hv =>
   exact fin ks vs es r ⟨by simpa using l1,by simpa using l2,fun i k x hk' hx'=>hk i k x hk' (by simpa using hx'),fun i k x hk' hx'=>hv i k x hk' (by simpa using hx')⟩ hr e1.symm e2.symm (.inr ⟨g,cl,rfl,hg⟩)
  | mpn=>exact fin [] [] #[] r ⟨rfl,rfl,fun i k x hk=>by simp at hk,fun i k x hk=>by simp at hk⟩ hr e1.symm e2.symm (.inl ⟨rfl,rfl⟩)
 ·rename_i b ex
  rw[ex] at h1
  split at hr
  case h_2=>cases hr
  rename_i ks vs hbk
  split at hr
  case isFalse=>cases hr
  obtain ⟨g,hg,hp⟩:=h1.mref_inv
  obtain ⟨g',es,cl,k1,k2,k3,k4,k5,k6⟩:=hok.blocks b _ hbk
  rw[hg] at k1;injection k1 with k1;injection k1 with k1;subst k1
  exact fin ks vs es r ⟨by simpa using k3,by simpa using k4,fun i k x hk' hx'=>k5 i k x hk' (by simpa using hx'),fun i k x hk' hx'=>k6 i k x hk' (by simpa using hx')⟩ hr e1.symm e2.symm (.inr ⟨g,cl,hp,k2⟩)
 ·cases hr
theorem key_RI{kd:Nat}{k:AV}{u:Value}(hk:isKey kd k=true)(hr:RV E w k u){S:Nat→Nat→Prop}{w':World}:RI S w' k u:=by
 unfold isKey at hk
 split at hk
 ·rw[hr.int_inv];exact .int _ _
 ·rw[hr.str_inv];exact .str _
 ·rw[hr.bool_inv];exact .bool _
 ·cases hk
theorem eqKind_eq{kd:Nat}{x y:AV}(h:eqKind kd x y=some true):x=y:=by
 unfold eqKind at h
 split at h
 ·split at h
  ·rename_i hk
   injection h with h
   rw[eq_of_beq h,hk]
  ·cases h
 ·injection h with h
  rw[eq_of_beq h]
 ·injection h with h
  rw[eq_of_beq h]
 ·cases h
theorem key_stays{kd:Nat}{k k':AV}{u z:Value}(hx:RV E w k u)(hy:RV E w k' z)(hq:eqKind kd k k'=some true):Instr.sameBits 10000 z u=true:=by
 rw[show (10000:Nat)=9999 + 1 from rfl]
 unfold eqKind at hq
 split at hq
 ·split at hq
  ·rename_i hk
   injection hq with hq
   have:=eq_of_beq hq
   subst hk;subst this
   rw[hx.int_inv,hy.int_inv]
   simp[Instr.sameBits]
  ·cases hq
 ·injection hq with hq
  have:=eq_of_beq hq
  subst this
  rw[hx.str_inv,hy.str_inv]
  simp only[Instr.sameBits,beq_mk,beq_self_eq_true]
 ·injection hq with hq
  have:=eq_of_beq hq
  subst this
  rw[hx.bool_inv,hy.bool_inv]
  simp[Instr.sameBits]
 ·cases hq
theorem setKey_ok{kd:Nat}{d:TypeDesc}(hd:kindOf d=some kd){k val:AV}{u:Value}(hu:RV E w k u):∀ {ks vs:List AV}{es:List MapEntry}{r:List AV×List AV},MapOK E.S w ks vs es→setKey kd k val ks vs=some r→∀ j,
  ∃ q,Instr.findNow d u es j=some q∧((q=none∧r=(ks++[k],vs++[val]))∨∃ (i:Nat) (x:MapEntry) (k':AV),q=some (j + i,x.val)∧es[i]? = some x∧ks[i]? = some k'∧eqKind kd k k'=some true∧r=(ks,vs.set i val))
 | [],[],es,r,m,hl,j=>by
  simp only[setKey,Option.some.injEq] at hl
  subst hl
  have:es=[]:=List.length_eq_zero_iff.1 m.h1
  subst this
  exact ⟨none,rfl,.inl ⟨rfl,rfl⟩⟩
 | k'::ks,v::vs,[],r,m,hl,j=>absurd m.h1 (by simp)
 | k'::ks,v::vs,e::es,r,m,hl,j=>by
  unfold setKey at hl
  have h0:=m.hk 0 k' e rfl rfl
  split at hl
  ·rename_i hq
   injection hl with hl;subst hl
   refine ⟨some (j,e.val),?_,.inr ⟨0,e,k',rfl,rfl,rfl,hq,rfl⟩⟩
   unfold Instr.findNow
   rw[sameNow_ok hd hu (.imm h0) hq]
  ·rename_i hq
   obtain ⟨p,hp,rfl⟩:=Option.map_eq_some_iff.1 hl
   obtain ⟨q,q1,q2⟩:=setKey_ok hd hu m.tail hp (j + 1)
   refine ⟨q,?_,?_⟩
   ·unfold Instr.findNow
    rw[sameNow_ok hd hu (.imm h0) hq]
    exact q1
   ·rcases q2 with ⟨q2,rfl⟩ | ⟨i,x,k'',r1,r2,r3,r4,rfl⟩
    ·exact .inl ⟨q2,rfl⟩
    ·exact .inr ⟨i + 1,x,k'',by rw[r1];congr 2;omega,by simpa using r2,by simpa using r3,r4,rfl⟩
  ·cases hl
 | [],_::_,_,_,_,hl,_=>by simp[setKey] at hl
 | _::_,[],_,_,_,hl,_=>by simp[setKey] at hl
theorem ok_mapset(hok:HOK E h w)(hs:SOK E w s a){t kt el t1 t2 t3:TypeId}{m k x:Operand}{kd:Nat}{m' k' x':Od}{d:TypeDesc}(ho:o.op=.mapUpdate t m k x∨o.op=.insert t m k x)(ht:P.underlying t=some (.map kt el))(hkt:P.underlying kt=some d)(hd:kindOf d=some kd)
  (hm:od P t1 m=some m') (hk:od P t2 k=some k') (hx:od P t3 x=some x') {v:AV}{h':Hp}(hb:evV s h (.mapset kd m' k' x')=some (v,h')):Yields P o a E h.length w v h':=by
 have h1:=od_ok hs hm
 have h2:=od_ok hs hk
 have h3:=od_ok hs hx
 simp only[evV] at hb
 split at hb
 case h_2=>cases hb
 rename_i u h0 hfr
 split at hb
 case h_2=>cases hb
 rename_i b em
 split at hb
 case h_2=>cases hb
 rename_i ks vs hbk
 split at hb
 case isFalse=>cases hb
 rename_i hkey
 obtain ⟨r,hr,hb⟩:=Option.map_eq_some_iff.1 hb
 injection hb with e1 e2;subst e1;subst e2
 obtain ⟨E0,hok0,hext0,hri,hlen,hbase⟩:=freeze_ok hok h3 hfr
 rw[em] at h1
 have h1':=h1.ext (hext0 h.length) hok.dom
 have h2':=h2.ext (hext0 h.length) hok.dom
 obtain ⟨g,hg,hp⟩:=h1'.mref_inv
 obtain ⟨g',es,cl,k1,k2,k3,k4,k5,k6⟩:=hok0.blocks b _ hbk
 rw[hg] at k1;injection k1 with k1;injection k1 with k1;subst k1
 have M:MapOK E0.S w ks vs es.toList:=⟨by simpa using k3,by simpa using k4,fun i k x hk' hx'=>k5 i k x hk' (by simpa using hx'),fun i k x hk' hx'=>k6 i k x hk' (by simpa using hx')⟩
 obtain ⟨q,q1,q2⟩:=setKey_ok hd h2' M hr 0
 have hfind:(Instr.findKey kt (a.eval k) es.toList).run P w=.ok q w:=by
  simp only[Instr.findKey,Sem.run_bind,run_underlying hkt,Result.andThen_ok,q1,Sem.run_pure]
 have hgs:g<w.heap.size:=(hok0.own b _ g hbk trivial hg).2.1
 have fin:∀ (es':Array MapEntry) (cl':Nat) (w':World),(Instr.mapUpdate t (a.eval m) (a.eval k) (a.eval x)).run P w=.ok () w'→w'.os=w.os→w'.tape=w.tape→w'.output=w.output→Dr w w'→w'.heap.size=w.heap.size→(∀ j,j≠g→w'.heap[j]? = w.heap[j]?)→w'.heap[g]? = some (.map es' cl') →
   (∀ S,Kept E0.S S w w'→S=E0.S→MapOK S w' r.1 r.2 es'.toList)→Yields P o a E h.length w .junk (h0.set b (.map r.1 r.2)):=by
  intro es' cl' w' hrun ho1 ho2 ho3 hdr hz hoth hhere hmap
  have hfz:∀ a:Addr,w'.frozen? a=w.frozen? a:=fun a=>by
   unfold World.frozen?
   by_cases ha:a.block=g
   ·rw[ha,hhere,k2]
   ·rw[hoth _ ha]
  have hext1:Ext h.length E0 w E0 w':=hok0.ext_upd hbk trivial hg _ ho1 ho2 ho3 (Nat.le_of_eq hz.symm) (fun j hj _=>hoth j hj) hfz
  have hM:=hmap E0.S hext1.kept rfl
  have hok1:=hok0.set (y:=.map r.1 r.2) hbk trivial hg ho1 ho2 ho3 (Nat.le_of_eq hz.symm) (fun j hj _=>hoth j hj) hfz
   ⟨g,es',cl',hg,hhere,by simpa using hM.h1,by simpa using hM.h2,fun i k x hk' hx'=>hM.hk i k x hk' (by simpa using hx'),fun i k x hk' hx'=>hM.hv i k x hk' (by simpa using hx')⟩
  refine ⟨undef,w',E0,.skip,?_,.inr ⟨rfl,rfl⟩,hok1,(hext0 h.length).trans hext1 (Nat.le_refl _),.junk _⟩
  rcases ho with ho | ho<;>simp only[execOp,ho,hrun,Sem.run_bind,Result.andThen_ok,Sem.run_pure]
 rcases q2 with ⟨rfl,rfl⟩ | ⟨i,y,ky,rfl,r2,r3,r4,rfl⟩
 ·refine fin (es.push { key:=a.eval k,val:=a.eval x,born:=cl }) (cl + 1) { w with heap:=w.heap.setIfInBounds g (.map (es.push { key:=a.eval k,val:=a.eval x,born:=cl }) (cl + 1)) } ?_ rfl rfl rfl (.mk (Nat.le_refl _)) (by simp) (fun j hj=>by simp[Ne.symm hj]) (by simp[hgs]) fun S hS hSe=>?_
  ·simp only[Instr.mapUpdate,Sem.run_bind,run_underlying ht,Result.andThen_ok,hp]
   simp[getObj,setObj,Sem.run,k2,run_checkKey hkt hd,hfind]
  ·subst hSe
   refine ⟨by simp[k3],by simp[k4],fun j kk xx hk' hx'=>?_,fun j kk xx hk' hx'=>?_⟩
   ·rw[Array.toList_push] at hx'
    by_cases hj:j<ks.length
    ·rw[List.getElem?_append_left hj] at hk'
     rw[List.getElem?_append_left (by simpa[k3] using hj)] at hx'
     exact (k5 j kk xx hk' (by simpa using hx')).kept hS
    ·rw[List.getElem?_append_right (by omega)] at hk'
     rw[List.getElem?_append_right (by simp[k3];omega)] at hx'
     simp only[Array.length_toList,k3] at hx'
     match hj':j - ks.length,hk',hx' with
     | 0,hk',hx'=>simp at hk' hx';subst hk';subst hx';exact key_RI hkey h2'
     | n + 1,hk',_=>simp at hk'
   ·rw[Array.toList_push] at hx'
    by_cases hj:j<vs.length
    ·rw[List.getElem?_append_left hj] at hk'
     rw[List.getElem?_append_left (by simpa[k4] using hj)] at hx'
     exact (k6 j kk xx hk' (by simpa using hx')).kept hS
    ·rw[List.getElem?_append_right (by omega)] at hk'
     rw[List.getElem?_append_right (by simp[k4];omega)] at hx'
     simp only[Array.length_toList,k4] at hx'
     match hj':j - vs.length,hk',hx' with
     | 0,hk',hx'=>simp at hk' hx';subst hk';subst hx';exact hri.kept hS
     | n + 1,hk',_=>simp at hk'
 ·simp only[Nat.zero_add] at hfind
  have hyk:=M.hk i ky y r3 r2
  have hst:Instr.sameBits 10000 y.key (a.eval k)=true:=key_stays h2' (.imm hyk) r4
  have hy':es[i]? = some y:=by simpa using r2
  refine fin (es.modify i fun e=>{ e with key:=a.eval k,val:=a.eval x }) cl { w with heap:=w.heap.setIfInBounds g (.map (es.modify i fun e=>{ e with key:=a.eval k,val:=a.eval x }) cl) } ?_ rfl rfl rfl (.mk (Nat.le_refl _)) (by simp) (fun j hj=>by simp[Ne.symm hj]) (by simp[hgs]) fun S hS hSe=>?_
  ·simp only[Instr.mapUpdate,Sem.run_bind,run_underlying ht,Result.andThen_ok,hp]
   simp[getObj,setObj,Sem.run,k2,run_checkKey hkt hd,hfind,hy',Instr.keyThatStays,hst]
  ·subst hSe
   have hget:∀ j (xx:MapEntry),(es.modify i fun e=>{ e with key:=a.eval k,val:=a.eval x }).toList[j]? = some xx→(j=i∧xx={ y with key:=a.eval k,val:=a.eval x })∨(j≠i∧es[j]? = some xx):=fun j xx hx'=>by
    rw[Array.getElem?_toList,Array.getElem?_modify] at hx'
    by_cases hj:i=j
    ·subst hj
     rw[if_pos rfl,hy'] at hx'
     simp at hx'
     exact .inl ⟨rfl,hx'.symm⟩
    ·rw[if_neg hj] at hx'
     exact .inr ⟨Ne.symm hj,hx'⟩
   refine ⟨by simp[k3],by simp[k4],fun j kk xx hk' hx'=>?_,fun j kk xx hk' hx'=>?_⟩
   ·rcases hget j xx hx' with ⟨rfl,rfl⟩ | ⟨hj,hx'⟩
    ·rw[r3] at hk';injection hk' with hk';subst hk'
     have:RI E0.S w ky (a.eval k):=by
      have h4:ky=k'.ev s:=(eqKind_eq r4).symm
      rw[h4]
      exact key_RI hkey h2'
     exact this.kept hS
    ·exact (k5 j kk xx hk' hx').kept hS
   ·rcases hget j xx hx' with ⟨rfl,rfl⟩ | ⟨hj,hx'⟩
    ·have hjl:j<vs.length:=by have:=(Array.getElem?_eq_some_iff.1 hy').1;omega
     rw[List.getElem?_set_self hjl] at hk'
     injection hk' with hk';subst hk'
     exact hri.kept hS
    ·rw[List.getElem?_set_ne (Ne.symm hj)] at hk'
     exact (k6 j kk xx hk' hx').kept hS
theorem frozen_allocIter(w:World)(s:ByteArray)(p:Nat)(a:Addr):(w.alloc (.stringIter s p)).frozen? a=w.frozen? a:=by
 unfold World.frozen?
 rcases Nat.lt_trichotomy a.block w.heap.size with h | h | h
 ·rw[Below.heap_alloc w _ _ h]
 ·rw[h,heap_alloc_new,Array.getElem?_eq_none (Nat.le_refl _)]
 ·rw[Array.getElem?_eq_none (by simp;omega),Array.getElem?_eq_none (by omega)]
theorem More.allocIter(w:World)(s:ByteArray)(p:Nat):More w (w.alloc (.stringIter s p)):=⟨rfl,rfl,rfl,by simp,fun k hk=>Below.heap_alloc w _ k hk,fun a _=>frozen_allocIter w s p a,.mk (Nat.le_refl _)⟩
theorem ok_rng(hok:HOK E h w)(hs:SOK E w s a){t t1:TypeId}{x:Operand}{x':Od}(ho:o.op=.range t x)(ht:P.underlying t=some .string)(hx:od P t1 x=some x'){v:AV}{h':Hp}(hb:evV s h (.rng x')=some (v,h')):Yields P o a E h.length w v h':=by
 have h1:=od_ok hs hx
 simp only[evV] at hb
 split at hb
 case h_2=>cases hb
 rename_i txt ex
 rw[ex] at h1
 simp only[Option.some.injEq,Prod.mk.injEq] at hb
 obtain ⟨rfl,rfl⟩:=hb
 have m:=More.allocIter w ⟨txt.toArray⟩ 0
 have he:=hok.ext_more m (some w.heap.size) 0 0
 refine ⟨.pointer (some ⟨w.heap.size,0,none⟩),w.alloc (.stringIter ⟨txt.toArray⟩ 0),E.push h.length (some w.heap.size) 0 0,_,?_,.inl rfl,
  hok.push m _ _ _ _ ⟨w.heap.size,by simp,heap_alloc_new w _⟩ (fun g hg=>by injection hg with hg;subst hg;simp),he,.ptr h.length 0 w.heap.size (by simp)⟩
 simp[execOp,ho,Instr.range,newObj,Sem.run,h1.str_inv,run_underlying ht]
theorem ok_next(hok:HOK E h w)(hs:SOK E w s a){t1:TypeId}{x:Operand}{x':Od}(ho:o.op=.next x true)(hx:od P t1 x=some x'){v:AV}{h':Hp}(hb:evV s h (.next x')=some (v,h')):Yields P o a E h.length w v h':=by
 have h1:=od_ok hs hx
 simp only[evV] at hb
 split at hb
 case h_2=>cases hb
 rename_i b ex
 rw[ex] at h1
 split at hb
 case h_2=>cases hb
 rename_i txt pos hbk
 obtain ⟨g,hg,hp⟩:=h1.ptr_inv
 obtain ⟨g',k1,k2⟩:=hok.blocks b _ hbk
 rw[hg] at k1;injection k1 with k1;injection k1 with k1;subst k1
 have hsz:(⟨txt.toArray⟩:ByteArray).size=txt.length:=size_mk _
 have hgs:g<w.heap.size:=(hok.own b _ g hbk trivial hg).2.1
 split at hb
 ·rename_i hlt
  simp only[Option.some.injEq,Prod.mk.injEq] at hb
  obtain ⟨rfl,rfl⟩:=hb
  have hfz:∀ a:Addr,({ w with heap:=w.heap.setIfInBounds g (.stringIter ⟨txt.toArray⟩ (pos + (dcd txt pos).2)) }:World).frozen? a=w.frozen? a:=fun a=>by
   unfold World.frozen?
   have hhere:(w.heap.setIfInBounds g (.stringIter ⟨txt.toArray⟩ (pos + (dcd txt pos).2)))[g]? = some (.stringIter ⟨txt.toArray⟩ (pos + (dcd txt pos).2)):=by simp[hgs]
   by_cases ha:a.block=g
   ·rw[ha,hhere,k2]
   ·simp[Ne.symm ha]
  have hoth:∀ j,j≠g→(w.heap.setIfInBounds g (.stringIter ⟨txt.toArray⟩ (pos + (dcd txt pos).2)))[j]? = w.heap[j]? := fun j hj=>by simp[Ne.symm hj]
  have hext1:Ext h.length E w E { w with heap:=w.heap.setIfInBounds g (.stringIter ⟨txt.toArray⟩ (pos + (dcd txt pos).2)) }:=hok.ext_upd hbk trivial hg _ rfl rfl rfl (by simp) (fun j hj _=>hoth j hj) hfz
  have hok1:=hok.set (y:=.itr txt (pos + (dcd txt pos).2)) (w':={ w with heap:=w.heap.setIfInBounds g (.stringIter ⟨txt.toArray⟩ (pos + (dcd txt pos).2)) }) hbk trivial hg rfl rfl rfl (by simp) (fun j hj _=>hoth j hj) hfz ⟨g,hg,by simp[hgs]⟩
  refine ⟨.tuple #[.bool true,.int .i64 pos,.int .i32 (dcd txt pos).1],_,E,_,?_,.inl rfl,hok1,hext1,?_⟩
  ·simp[execOp,ho,Instr.next,hp,getObj,setObj,Sem.run,k2,hsz,hlt,dcd,goInt]
  ·refine .tup _ _ rfl fun j c u hc hu=>?_
   match j,hc,hu with
   | 0,hc,hu=>simp at hc hu;subst hc;subst hu;exact .imm (.bool _)
   | 1,hc,hu=>simp at hc hu;subst hc;subst hu;exact .imm (.int _ _)
   | 2,hc,hu=>simp at hc hu;subst hc;subst hu;exact .imm (.int _ _)
 ·rename_i hlt
  simp only[Option.some.injEq,Prod.mk.injEq] at hb
  obtain ⟨rfl,rfl⟩:=hb
  refine .still hok (u:=.tuple #[.bool false]) ?_ ?_
  ·simp[execOp,ho,Instr.next,hp,getObj,Sem.run,k2,hsz,hlt]
  ·refine .tup _ _ rfl fun j c u hc hu=>?_
   match j,hc,hu with
   | 0,hc,hu=>simp at hc hu;subst hc;subst hu;exact .imm (.bool _)
end
end Go.Ab
namespace Go.Ab
open Go Go.RowKit
variable {P:Program}
section
variable {E:Env}{w:World}{h:Hp}{s:Nat→AV}{a:Act}{o:Oper}
theorem map_some'{α β : Type}{f : α → β}{x:Option α}{y : β}(h:x.map f=some y):∃ z,x=some z∧f z=y:=Option.map_eq_some_iff.1 h
theorem array_one{α : Type}{as:Array α}{x : α}(h:as.toList=[x]):as = #[x]:=by rw[← h]
theorem array_head{α : Type}{as:Array α}{x : α}{l:List α}(h:as.toList=x::l):as[0]? = some x:=by
 rw[← Array.getElem?_toList,h];rfl
theorem bin_ok(hok:HOK E h w)(hs:SOK E w s a){op:BinOp}{t yt:TypeId}{x y:Operand}(ho:o.op=.binOp op t x y yt){p:Op1}(hc:compBin P op t x y yt=some p){v:AV}{h':Hp}(hb:evV s h p=some (v,h')) :
  Yields P o a E h.length w v h':=by
 unfold compBin at hc
 split at hc
 case h_2=>cases hc
 rename_i x' y' hx hy
 split at hc
 ·injection hc with hc;subst hc;exact ok_bin hok hs ho hx hy hb
 ·injection hc with hc;subst hc;exact ok_bin hok hs ho hx hy hb
 ·rename_i ht
  injection hc with hc;subst hc;exact ok_binb hok hs ho hx hy ht hb
 ·split at hc
  ·rename_i hk
   injection hc with hc;subst hc
   exact ok_eqs (neg:=false) hok hs (by simpa using ho) hx hy hk hb
  ·rename_i hk
   injection hc with hc;subst hc
   exact ok_eqs (neg:=true) hok hs (by simpa using ho) hx hy hk hb
  ·cases hc
 ·rename_i el ht
  split at hc
  ·injection hc with hc;subst hc
   exact ok_eqp (neg:=false) hok hs (by simpa using ho) hx hy ht hb
  ·injection hc with hc;subst hc
   exact ok_eqp (neg:=true) hok hs (by simpa using ho) hx hy ht hb
  ·cases hc
 ·split at hc
  ·injection hc with hc;subst hc;cases hb
  ·injection hc with hc;subst hc;cases hb
  ·cases hc
 ·rename_i ht
  split at hc
  ·injection hc with hc;subst hc
   exact ok_eqf (neg:=false) hok hs (by simpa using ho) hx hy ht hb
  ·injection hc with hc;subst hc
   exact ok_eqf (neg:=true) hok hs (by simpa using ho) hx hy ht hb
  ·cases hc
 ·cases hc
theorem conv_ok(hok:HOK E h w)(hs:SOK E w s a){src dst:TypeId}{x:Operand}(ho:o.op=.convert src dst x){p:Op1}(hc:compConv P src dst x=some p){v:AV}{h':Hp}(hb:evV s h p=some (v,h')) :
  Yields P o a E h.length w v h':=by
 unfold compConv at hc
 split at hc
 case h_2=>cases hc
 rename_i x' hx
 split at hc
 ·rename_i hsrc hdst
  injection hc with hc;subst hc;exact ok_cint hok hs ho hsrc hdst hx hb
 ·rename_i hsrc hdst
  injection hc with hc;subst hc
  simp only[evV] at hb
  split at hb
  case h_2=>cases hb
  rename_i t ht
  simp only[bounds] at hb
  simp at hb
  obtain ⟨e1,e2⟩:=hb
  subst e1;subst e2
  rw[← ht]
  exact ok_idconv hok hs ho hsrc hdst hx ht
 ·rename_i el hsrc hdst
  split at hc
  ·rename_i hel
   injection hc with hc;subst hc
   exact ok_cstr hok hs ho hsrc hel hdst hx hb
  ·cases hc
 ·rename_i el hsrc hdst
  split at hc
  ·rename_i hel he
   injection hc with hc;subst hc
   exact ok_cbytes hok hs ho hsrc hdst hel he hx hb
  ·cases hc
 ·cases hc
theorem builtin_ok(hok:HOK E h w)(hs:SOK E w s a){c:Call}(ho:o.op=.call c){p:Op1}(hc:compCall P o.type c=some p){v:AV}{h':Hp}(hb:evV s h p=some (v,h')) :
  Yields P o a E h.length w v h':=by
 obtain ⟨cal,args,ts⟩:=c
 unfold compCall at hc
 dsimp only at hc
 split at hc
 ·split at hc
  ·rename_i fo f as hf has
   split at hc
   ·rename_i x' y' t1 t2 hov hts
    injection hc with hc;subst hc
    rw[hts] at has
    have hl:=(ods_ok hs has).1
    obtain ⟨x,y,hargs⟩:∃ x y,args.toList=[x,y]:=by
     match h:args.toList with
     | [x,y]=>exact ⟨x,y,rfl⟩
     | []=>rw[h] at hl;cases hl
     | [_]=>rw[h] at hl;cases hl
     | _::_::_::_=>rw[h] at hl;simp at hl
    rw[hargs] at has
    simp only[ods] at has
    split at has
    case h_2=>cases has
    rename_i x1 l1 hx hl1
    injection has with has;injection has with e1 e2;subst e1;subst e2
    split at hl1
    case h_2=>cases hl1
    rename_i y1 l2 hy hl2
    injection hl1 with hl1;injection hl1 with e1 e2;subst e1;subst e2
    exact ok_ovl hok hs ho hargs hf hov hx hy hb
   ·injection hc with hc;subst hc;cases hb
  ·cases hc
 ·cases hc
 rename_i b
 split at hc
 ·rename_i t l x hts hargs
  have hargs:=array_one hargs
  subst hargs
  have hts:=array_head hts
  split at hc
  ·rename_i n el ht
   injection hc with hc;subst hc
   simp only[evV] at hb
   injection hb with hb;injection hb with e1 e2;subst e1;subst e2
   exact ok_alen hok ho hts ht
  ·rename_i ht
   obtain ⟨x',hx,hc⟩:=map_some' hc;subst hc
   exact ok_len hok hs ho hts (.inl ⟨rfl,ht⟩) hx hb
  ·rename_i el ht
   obtain ⟨x',hx,hc⟩:=map_some' hc;subst hc
   exact ok_len hok hs ho hts (.inr (.inl ⟨rfl,el,ht⟩)) hx hb
  ·rename_i k el ht
   obtain ⟨x',hx,hc⟩:=map_some' hc;subst hc
   exact ok_len hok hs ho hts (.inr (.inr ⟨rfl,k,el,ht⟩)) hx hb
  ·cases hc
 ·rename_i t u x y hts hargs
  split at hc
  case h_2=>cases hc
  rename_i el ht
  split at hc
  case h_4=>cases hc
  ·rename_i k i z x' y' el' he hi hz hx hy hu
   split at hc
   case isFalse=>cases hc
   rename_i hzs
   injection hc with hc;subst hc
   have hz':i.zero=some z:=by simpa[hi] using hz
   exact ok_append hok hs ho hargs hts ht he hi hz' hzs (.inl ⟨_,hu⟩) hx hy hb
  ·rename_i k i z x' y' he hi hz hx hy hu
   split at hc
   case isFalse=>cases hc
   rename_i hzs
   injection hc with hc;subst hc
   have hz':i.zero=some z:=by simpa[hi] using hz
   exact ok_append hok hs ho hargs hts ht he hi hz' hzs (.inr hu) hx hy hb
  ·rename_i k i z x' y' ik he hi hz hx hy hu
   split at hc
   case h_2=>cases hc
   rename_i z' hz0
   split at hc
   case isFalse=>cases hc
   rename_i hzs
   injection hc with hc;subst hc
   have hz':i.zero=some z:=by simpa[hi] using hz
   exact ok_appz hok hs ho hargs hts ht he hi hz' hzs hz0 hu hx hy hb
 ·rename_i t tl x hts hargs
  split at hc
  case h_2=>cases hc
  rename_i el ht
  obtain ⟨x',hx,hc⟩:=map_some' hc;subst hc
  exact ok_cap hok hs ho hargs hts ht hx hb
 ·rename_i t u tl x y hts hargs
  split at hc
  case h_2=>cases hc
  rename_i el ht
  split at hc
  case h_2=>cases hc
  rename_i k x' y' he hx hy
  injection hc with hc;subst hc
  exact ok_copy hok hs ho hargs hts ht he hx hy hb
 ·rename_i t tl x hts hargs
  split at hc
  case h_2=>cases hc
  rename_i el ht
  split at hc
  case h_2=>cases hc
  rename_i k z x' he hz hx
  injection hc with hc;subst hc
  exact ok_clear hok hs ho hargs hts ht he hz hx hb
 ·rename_i x xs hargs
  split at hc
  case h_2=>cases hc
  rename_i x' xs' hx hxs
  injection hc with hc;subst hc
  exact ok_maxmin (mx:=true) hok hs (by simpa using ho) hargs hx hxs hb
 ·rename_i x xs hargs
  split at hc
  case h_2=>cases hc
  rename_i x' xs' hx hxs
  injection hc with hc;subst hc
  exact ok_maxmin (mx:=false) hok hs (by simpa using ho) hargs hx hxs hb
 ·cases hc
theorem compO_ok(hok:HOK E h w)(hs:SOK E w s a){p:Op1}(hc:compO P o=some p){v:AV}{h':Hp}(hb:evV s h p=some (v,h')):Yields P o a E h.length w v h':=by
 replace hc:compO1 P o=some p:=by
  simp only[compO,Option.some.injEq] at hc
  cases h1:compO1 P o with
  | none=>rw[h1] at hc;subst hc;cases hb
  | some q=>rw[h1] at hc;exact congrArg some hc
 unfold compO1 at hc
 split at hc
 ·rename_i x ho
  obtain ⟨x',hx,hc⟩:=map_some' hc;subst hc
  simp only[evV] at hb
  injection hb with hb;injection hb with e1 e2;subst e1;subst e2
  exact ok_mv hok hs (.inl ho) hx
 ·rename_i x ho
  obtain ⟨x',hx,hc⟩:=map_some' hc;subst hc
  simp only[evV] at hb
  injection hb with hb;injection hb with e1 e2;subst e1;subst e2
  exact ok_mv hok hs (.inr ho) hx
 ·rename_i c x y ho
  split at hc
  case h_2=>cases hc
  rename_i c' x' y' hc' hx hy
  injection hc with hc;subst hc
  simp only[evV] at hb
  split at hb
  case h_2=>cases hb
  rename_i t ht
  injection hb with hb;injection hb with e1 e2;subst e1;subst e2
  exact ok_pick hok hs ho hc' hx hy ht
 ·rename_i t ho
  obtain ⟨z,hz,hc⟩:=map_some' hc;subst hc
  exact ok_alloc hok ho hz hb
 ·rename_i t x ho
  obtain ⟨x',hx,hc⟩:=map_some' hc;subst hc
  exact ok_box hok hs ho hx hb
 ·rename_i t ps ho
  split at hc
  ·rename_i z fs hz ht
   split at hc
   case isFalse=>cases hc
   rename_i hf
   obtain ⟨qs,hq,hc⟩:=map_some' hc;subst hc
   exact ok_buildS hok hs ho hz ht hf hq hb
  ·rename_i z n el hz ht
   split at hc
   case h_2=>cases hc
   rename_i e he
   obtain ⟨qs,hq,hc⟩:=map_some' hc;subst hc
   exact ok_buildA hok hs ho hz ht he hq hb
  ·cases hc
 ·rename_i t n ps ho
  split at hc
  case h_2=>cases hc
  rename_i el ht
  split at hc
  case h_2=>cases hc
  rename_i e z he hz
  split at hc
  case isFalse=>cases hc
  rename_i hn
  obtain ⟨qs,hq,hc⟩:=map_some' hc;subst hc
  have plainc:∀ xs,fillE s e (List.replicate n z) qs=some xs→plain deep (.tup xs)=true→Yields P o a E h.length w (.sl e true xs) h:=fun xs hxs hpl=>by
   refine ok_mkslF hok hs ho ht he hz hn hq ?_
   rw[hxs]
   simp[freeze,hpl]
  split at hb
  ·simp only[evV] at hb
   split at hb
   case h_2=>cases hb
   rename_i xs hxs
   split at hb
   case isFalse=>cases hb
   rename_i hpl
   injection hb with hb;injection hb with e1 e2;subst e1;subst e2
   exact plainc xs hxs hpl
  ·simp only[evV] at hb
   split at hb
   case h_2=>cases hb
   rename_i xs hxs
   split at hb
   ·rename_i hpl
    injection hb with hb;injection hb with e1 e2;subst e1;subst e2
    exact plainc xs hxs hpl
   ·injection hb with hb;injection hb with e1 e2;subst e1;subst e2
    exact ok_mkslR hok hs ho ht he hz hn hq hxs
 ·rename_i t x ho
  split at hc
  case h_2=>cases hc
  rename_i e x' he hx
  injection hc with hc;subst hc
  exact ok_load hok hs ho he hx hb
 ·rename_i t x y ho
  split at hc
  case h_2=>cases hc
  rename_i e x' y' he hx hy
  injection hc with hc;subst hc
  exact ok_store hok hs ho he hx hy hb
 ·rename_i x ho
  obtain ⟨x',hx,hc⟩:=map_some' hc;subst hc
  exact ok_nilchk hok hs ho hx hb
 ·rename_i op t x y yt ho
  exact bin_ok hok hs ho hc hb
 ·rename_i op t x ho
  obtain ⟨x',hx,hc⟩:=map_some' hc;subst hc
  exact ok_un hok hs ho hx hb
 ·rename_i src dst x ho
  exact conv_ok hok hs ho hc hb
 ·rename_i f first caps ho
  split at hc
  case isFalse =>
   split at hc
   case isFalse=>cases hc
   rename_i hf
   obtain ⟨ys,hy,hc⟩:=map_some' hc;subst hc
   simp only[evV] at hb
   injection hb with hb;injection hb with e1 e2;subst e1;subst e2
   exact ok_mkbnd hok hs ho hf hy
  rename_i hf
  obtain ⟨ys,hy,hc⟩:=map_some' hc;subst hc
  simp only[evV] at hb
  injection hb with hb;injection hb with e1 e2;subst e1;subst e2
  exact ok_mkfn hok hs ho hf hy
 ·rename_i t x lo hi ho
  split at hc
  ·rename_i el lo' hi' ht hlo hhi
   split at hc
   case h_2=>cases hc
   rename_i e x' he hx
   injection hc with hc;subst hc
   exact ok_slice hok hs ho ht he hx hlo hhi hb
  ·rename_i lo' hi' ht hlo hhi
   obtain ⟨x',hx,hc⟩:=map_some' hc;subst hc
   exact ok_sslice hok hs ho ht hx hlo hhi hb
  ·rename_i n el lo' hi' ht hlo hhi
   split at hc
   case h_2=>cases hc
   rename_i e x' he hx
   split at hc
   case isFalse=>cases hc
   rename_i hn
   injection hc with hc;subst hc
   exact ok_aslice hok hs ho ht he hx hlo hhi hn hb
  ·cases hc
 ·rename_i t x lo hi mx hne ho
  split at hc
  case h_2=>cases hc
  rename_i el lo' hi' mx' ht hlo hhi hmx
  split at hc
  case h_2=>cases hc
  rename_i e x' he hx
  injection hc with hc;subst hc
  exact ok_slice3 hok hs ho ht he hx hlo hhi hmx hb
 ·rename_i t x f ho
  split at hc
  case h_2=>cases hc
  rename_i fs x' ht hx
  split at hc
  case h_2=>cases hc
  rename_i fd hf
  split at hc
  case isTrue=>cases hc
  rename_i hz
  injection hc with hc;subst hc
  exact ok_faddr hok hs ho ht hf hz hx hb
 ·rename_i t x f ho
  split at hc
  case h_2=>cases hc
  rename_i fs x' ht hx
  split at hc
  case h_2=>cases hc
  rename_i fd hf
  obtain ⟨e,he,hc⟩:=map_some' hc;subst hc
  exact ok_fld hok hs ho ht hf he hx hb
 ·rename_i t x i ho
  split at hc
  ·rename_i el i' ht hi
   split at hc
   case h_2=>cases hc
   rename_i e x' he hx
   injection hc with hc;subst hc
   exact ok_iaddr hok hs ho ht he hx hi hb
  ·rename_i n el i' ht hi
   split at hc
   case h_2=>cases hc
   rename_i e x' he hx
   injection hc with hc;subst hc
   exact ok_aiaddr hok hs ho ht he hx hi hb
  ·cases hc
 ·rename_i t x i ho
  split at hc
  ·rename_i n el x' i' ht hx hi
   obtain ⟨e,he,hc⟩:=map_some' hc;subst hc
   exact ok_idx hok hs ho ht he hx hi hb
  ·rename_i x' i' ht hx hi
   injection hc with hc;subst hc
   exact ok_sidx hok hs ho ht hx hi hb
  ·cases hc
 ·rename_i x i ho
  obtain ⟨x',hx,hc⟩:=map_some' hc;subst hc
  exact ok_ext hok hs ho hx hb
 ·rename_i c ho
  exact builtin_ok hok hs ho hc hb
 ·rename_i t l c ho
  split at hc
  case h_2=>cases hc
  rename_i el ht
  split at hc
  case h_3=>cases hc
  ·rename_i k i z z' _ n _ m he hi hz hz' hl hm
   split at hc
   case isFalse=>cases hc
   rename_i hnm
   obtain ⟨rfl,hzs⟩:=hnm
   injection hc with hc;subst hc
   have hz0:i.zero=some z:=by simpa[hi] using hz
   exact ok_mks hok hs ho ht he hi hz0 hzs hz' hl hm rfl rfl rfl hb
  ·rename_i k i z z' n m he hi hz hz' hl hm
   split at hc
   case isFalse=>cases hc
   rename_i hnm
   obtain ⟨rfl,hzs⟩:=hnm
   injection hc with hc;subst hc
   have hz0:i.zero=some z:=by simpa[hi] using hz
   have hint:∃ kk c,s m=.int kk c:=by
    simp only[evV,Od.ev] at hb
    split at hb
    ·rename_i kk c e;exact ⟨kk,c,e⟩
    ·cases hb
   obtain ⟨kk,c,hint⟩:=hint
   exact ok_mks (ik:=kk) (jk:=kk) (kk:=kk) (nn:=.t m) hok hs ho ht he hi hz0 hzs hz' hl hm hint hint hint hb
 ·rename_i t ho
  split at hc
  case h_2=>cases hc
  injection hc with hc;subst hc
  exact ok_mkmap hok ho hb
 ·rename_i t x i ok ho
  split at hc
  case h_2=>cases hc
  rename_i kt el ht
  split at hc
  case h_2=>cases hc
  rename_i kd z x' i' hkd hz hx hi
  injection hc with hc;subst hc
  obtain ⟨d,hkt,hd⟩:=Option.bind_eq_some_iff.1 hkd
  exact ok_lookup hok hs ho ht hkt hd hz hx hi hb
 ·rename_i t m k x ho
  split at hc
  case h_2=>cases hc
  rename_i kt el ht
  split at hc
  case h_2=>cases hc
  rename_i kd m' k' x' hkd hm hk hx
  injection hc with hc;subst hc
  obtain ⟨d,hkt,hd⟩:=Option.bind_eq_some_iff.1 hkd
  exact ok_mapset hok hs (.inl ho) ht hkt hd hm hk hx hb
 ·rename_i t m k x ho
  split at hc
  case h_2=>cases hc
  rename_i kt el ht
  split at hc
  case h_2=>cases hc
  rename_i kd m' k' x' hkd hm hk hx
  injection hc with hc;subst hc
  obtain ⟨d,hkt,hd⟩:=Option.bind_eq_some_iff.1 hkd
  exact ok_mapset hok hs (.inr ho) ht hkt hd hm hk hx hb
 ·rename_i t x ho
  split at hc
  case h_2=>cases hc
  rename_i ht
  obtain ⟨x',hx,hc⟩:=map_some' hc;subst hc
  exact ok_rng hok hs ho ht hx hb
 ·rename_i x ho
  obtain ⟨x',hx,hc⟩:=map_some' hc;subst hc
  exact ok_next hok hs ho hx hb
 ·cases hc
end
end Go.Ab
namespace Go.Ab
open Go
theorem put_comm(s:Nat→AV){i j:Nat}(h:i≠j)(u v:AV):put (put s i u) j v=put (put s j v) i u:=by
 funext k
 simp only[put]
 by_cases h1:k=j
 ·subst h1
  simp[Ne.symm h]
 ·by_cases h2:k=i<;>simp[h1,h2,h]
theorem put?_comm(s:Nat→AV){i j:Option Nat}(h:∀ d,i=some d→j≠some d)(u v:AV):put? (put? s i u) j v=put? (put? s j v) i u:=by
 cases i with
 | none=>rfl
 | some i=>cases j with
  | none=>rfl
  | some j=>exact put_comm s (fun e=>h i rfl (by rw[e])) u v
theorem od_put{s:Nat→AV}{d:Nat}{v:AV}{x:Od}(h:d ∉ odReads x):x.ev (put s d v)=x.ev s:=by
 cases x with
 | t i =>
  simp only[odReads,List.mem_singleton] at h
  simp[Od.ev,put,Ne.symm h]
 | c v=>rfl
theorem ods_put{s:Nat→AV}{d:Nat}{v:AV}{xs:List Od}(h:d ∉ xs.flatMap odReads):xs.map (Od.ev (put s d v))=xs.map (Od.ev s):=by
 refine List.map_congr_left fun x hx=>od_put fun hd=>h (List.mem_flatMap.2 ⟨x,hx,hd⟩)
theorem bounds_put{s:Nat→AV}{d n:Nat}{v:AV}{lo hi:Option Od}(h1:d ∉ odOReads lo)(h2:d ∉ odOReads hi):bounds (put s d v) n lo hi=bounds s n lo hi:=by
 unfold bounds
 cases lo<;>cases hi<;>simp only[odOReads] at h1 h2
 ·rfl
 ·simp only[od_put h2]
 ·simp only[od_put h1]
 ·simp only[od_put h1,od_put h2]
theorem bounds2_put{s:Nat→AV}{d n c:Nat}{v:AV}{lo hi:Option Od}(h1:d ∉ odOReads lo)(h2:d ∉ odOReads hi):bounds2 (put s d v) n c lo hi=bounds2 s n c lo hi:=by
 unfold bounds2
 cases lo<;>cases hi<;>simp only[odOReads] at h1 h2
 ·rfl
 ·simp only[od_put h2]
 ·simp only[od_put h1]
 ·simp only[od_put h1,od_put h2]
theorem fill_put{s:Nat→AV}{d:Nat}{v:AV}:∀ (ps:List (Nat×Nat×Od)) (z:List AV),(d ∉ ps.flatMap fun p=>odReads p.2.2)→fill (put s d v) z ps=fill s z ps
 | [],_,_=>rfl
 | (off,e,x)::ps,z,h=>by
  simp only[List.flatMap_cons,List.mem_append,not_or] at h
  simp only[fill,od_put h.1,fill_put ps _ h.2]
theorem fillE_put{s:Nat→AV}{d e:Nat}{v:AV}:∀ (ps:List (Nat×Od)) (z:List AV),(d ∉ ps.flatMap fun p=>odReads p.2)→fillE (put s d v) e z ps=fillE s e z ps
 | [],_,_=>rfl
 | (i,x)::ps,z,h=>by
  simp only[List.flatMap_cons,List.mem_append,not_or] at h
  simp only[fillE,od_put h.1,fillE_put ps _ h.2]
theorem evV_put{s:Nat→AV}{h:Hp}{d:Nat}{v:AV}{o:Op1}(hd:d ∉ o.reads):evV (put s d v) h o=evV s h o:=by
 cases o<;>simp only[Op1.reads,List.mem_append,not_or] at hd<;>simp only[evV]
 case mv=>rw[od_put hd]
 case pick=>rw[od_put hd.1.1,od_put hd.1.2,od_put hd.2]
 case box=>rw[od_put hd]
 case build=>rw[fill_put _ _ hd]
 case mksl=>rw[fillE_put _ _ hd]
 case mkslp=>rw[fillE_put _ _ hd]
 case load=>rw[od_put hd]
 case store=>rw[od_put hd.1,od_put hd.2]
 case nilchk=>rw[od_put hd]
 case bin=>rw[od_put hd.1,od_put hd.2]
 case binb=>rw[od_put hd.1,od_put hd.2]
 case eqs=>rw[od_put hd.1,od_put hd.2]
 case eqp=>rw[od_put hd.1,od_put hd.2]
 case un=>rw[od_put hd]
 case cint=>rw[od_put hd]
 case cstr=>rw[od_put hd]
 case cbytes=>rw[od_put hd]
 case mkfn=>rw[ods_put hd]
 case mkbnd=>rw[ods_put hd]
 case mkslc=>rw[od_put hd.1,od_put hd.2]
 case slice=>rw[od_put hd.1.1];simp only[bounds_put hd.1.2 hd.2,bounds2_put hd.1.2 hd.2]
 case cap=>rw[od_put hd]
 case copy=>simp only[od_put hd.1,od_put hd.2]
 case clear=>rw[od_put hd]
 case appz=>rw[od_put hd.1,od_put hd.2]
 case ovl=>rw[od_put hd.1,od_put hd.2]
 case slice3 e x lo hi mx =>
  rw[od_put hd.1.1.1]
  cases mx with
  | none=>simp only[bounds_put hd.1.1.2 hd.1.2]
  | some m=>simp only[bounds_put hd.1.1.2 hd.1.2,od_put (x:=m) hd.2]
 case sslice=>rw[od_put hd.1.1];simp only[bounds_put hd.1.2 hd.2]
 case aslice=>rw[od_put hd.1.1];simp only[bounds_put hd.1.2 hd.2]
 case faddr=>rw[od_put hd]
 case fld=>rw[od_put hd]
 case iaddr=>rw[od_put hd.1,od_put hd.2]
 case aiaddr=>rw[od_put hd.1,od_put hd.2]
 case idx=>rw[od_put hd.1,od_put hd.2]
 case sidx=>rw[od_put hd.1,od_put hd.2]
 case ext=>rw[od_put hd]
 case len=>rw[od_put hd]
 case maxmin=>rw[od_put hd.1,ods_put hd.2]
 case append=>rw[od_put hd.1,od_put hd.2]
 case lookup=>rw[od_put hd.1,od_put hd.2]
 case mapset=>rw[od_put hd.1.1,od_put hd.1.2,od_put hd.2]
 case rng=>rw[od_put hd]
 case next=>rw[od_put hd]
theorem evO_put{F:CallF}{s:Nat→AV}{h:Hp}{d:Nat}{v:AV}{o:Op1}{K:AV→Hp→Prop}(hd:d ∉ o.reads):evO F (put s d v) h o K=evO F s h o K:=by
 by_cases hc:∃ f as,o=.call f as
 ·obtain ⟨f,as,rfl⟩:=hc
  simp only[Op1.reads,List.mem_append,not_or] at hd
  simp only[evO,od_put hd.1,ods_put hd.2]
 by_cases hc2:∃ ng x,o=.isnil ng x
 ·obtain ⟨ng,x,rfl⟩:=hc2
  simp only[Op1.reads] at hd
  simp only[evO,od_put hd]
 ·have e:=evV_put (s:=s) (h:=h) (v:=v) hd
  cases o<;>first
   | exact absurd ⟨_,_,rfl⟩ hc
   | exact absurd ⟨_,_,rfl⟩ hc2
   | simp only[evO,e]
theorem act_put{F:CallF}{i:Ins}{s:Nat→AV}{h:Hp}{d:Option Nat}{v:AV}{K:AV→Hp→Prop}(hd:∀ e,d=some e→e ∉ i.reads):act F i (put? s d v) h K=act F i s h K:=by
 cases d with
 | none=>rfl
 | some d =>
  have hd:=hd d rfl
  obtain ⟨id,g,o⟩:=i
  simp only[Ins.reads,List.mem_append,not_or] at hd
  simp only[put?,act,evO_put hd.2]
  cases g with
  | none=>rfl
  | some gw =>
   obtain ⟨j,want⟩:=gw
   have hj:j≠d:=fun e=>hd.1 (by simp[e])
   simp only[put,if_neg hj]
def Mono(F:CallF):Prop:=∀ k args h K K',(∀ v h',K v h'→K' v h')→F k args h K→F k args h K'
theorem evO_mono{F:CallF}(hF:Mono F){s:Nat→AV}{h:Hp}{o:Op1}{K K':AV→Hp→Prop}(hk:∀ v h',K v h'→K' v h')(he:evO F s h o K):evO F s h o K':=by
 unfold evO at *
 split at he
 ·split at he
  ·exact hF _ _ _ _ _ hk he
  ·exact hF _ _ _ _ _ hk he
  ·exact he
 ·split at he
  ·exact ⟨hk _ _ he.1,hk _ _ he.2⟩
  ·exact hk _ _ he
  ·exact ⟨hk _ _ he.1,hk _ _ he.2⟩
  ·exact hk _ _ he
  ·exact he
 ·split at he
  ·exact hk _ _ he
  ·exact he
theorem act_mono{F:CallF}(hF:Mono F){i:Ins}{s:Nat→AV}{h:Hp}{K K':AV→Hp→Prop}(hk:∀ v h',K v h'→K' v h')(he:act F i s h K):act F i s h K':=by
 unfold act at *
 split at he
 ·exact evO_mono hF hk he
 ·split at he
  ·split at he
   ·rename_i c;simp only[c,if_true];exact evO_mono hF hk he
   ·rename_i c;simp only[c,if_false];exact hk _ _ he
  ·exact hk _ _ he
  ·exact he
theorem evT_mono{F:CallF}(hF:Mono F){i:Ins}{K K':St→Prop}{st:St}(hk:∀ st,K st→K' st)(he:evT F i K st):evT F i K' st:=act_mono hF (fun _ _=>hk _) he
theorem evO_op{F:CallF}{s:Nat→AV}{h:Hp}{o:Op1}{K:AV→Hp→Prop}(hc:o.isCall=false):evO F s h o K=(match evV s h o with | some p=>K p.1 p.2 | none=>False):=by
 cases o<;>first | rfl | cases hc
theorem still_op{o:Op1}(h:o.still=true):o.isCall=false:=by cases o<;>first | rfl | cases h
theorem blind_still{o:Op1}(h:o.blind=true):o.still=true:=by cases o<;>first | exact h | rfl | cases h
theorem evV_still{o:Op1}(ho:o.still=true){s:Nat→AV}{h h':Hp}{v:AV}(he:evV s h o=some (v,h')):h'=h:=by
 have key:∀ {x:Option AV},x.map (fun v=>(v,h))=some (v,h')→h'=h:=fun {x} hx=>by
  obtain ⟨y,_,hy⟩:=Option.map_eq_some_iff.1 hx
  injection hy with _ hy;exact hy.symm
 have key2:∀ {α : Type}{x:Option α}{f : α → AV},x.map (fun v=>(f v,h))=some (v,h')→h'=h:=fun {α x f} hx=>by
  obtain ⟨y,_,hy⟩:=Option.map_eq_some_iff.1 hx
  injection hy with _ hy;exact hy.symm
 cases o<;>first | cases ho | skip
 all_goals simp only[evV] at he
 all_goals repeat' split at he
 all_goals first
  | (cases he;done)
  | (cases he;rfl)
  | exact key he
  | exact key2 he
theorem evV_blind{o:Op1}(ho:o.blind=true){s:Nat→AV}{h h':Hp}{v:AV}(he:evV s h o=some (v,h'))(h2:Hp):evV s h2 o=some (v,h2):=by
 have e0:=evV_still (blind_still ho) he
 subst e0
 have key2:∀ {α : Type}{x:Option α}{f : α → AV},x.map (fun v=>(f v,h'))=some (v,h')→x.map (fun v=>(f v,h2))=some (v,h2):=fun {α x f} hx=>by
  obtain ⟨y,hy1,hy⟩:=Option.map_eq_some_iff.1 hx
  injection hy with hy _
  rw[hy1,← hy];rfl
 cases o<;>first | cases ho | skip
 all_goals simp only[evV] at he ⊢
 all_goals repeat' split at he
 all_goals first
  | (cases he;done)
  | (cases he;simp_all;done)
  | exact key2 he
  | (simp_all;done)
  | skip
theorem act_still{F:CallF}{i:Ins}(ho:i.o.still=true){s:Nat→AV}{h:Hp}{K:AV→Hp→Prop}(ha:act F i s h K):∃ v,∀ K':AV→Hp→Prop,act F i s h K'↔K' v h:=by
 have hc:=still_op ho
 unfold act at *
 split at ha
 ·rw[evO_op hc] at ha
  split at ha
  ·rename_i p hp
   have e:=evV_still ho (v:=p.1) (h':=p.2) hp
   exact ⟨p.1,fun K'=>by rw[evO_op hc,hp];show K' p.1 p.2↔K' p.1 h;rw[e]⟩
  ·exact ha.elim
 ·split at ha
  ·split at ha
   ·rename_i c
    rw[evO_op hc] at ha
    split at ha
    ·rename_i p hp
     have e:=evV_still ho (v:=p.1) (h':=p.2) hp
     exact ⟨p.1,fun K'=>by simp only[c,if_true];rw[evO_op hc,hp];show K' p.1 p.2↔K' p.1 h;rw[e]⟩
    ·exact ha.elim
   ·rename_i c
    exact ⟨.tup [],fun K'=>by simp only[c,if_false]⟩
  ·exact ⟨.tup [],fun K'=>Iff.rfl⟩
  ·exact ha.elim
theorem act_blind{F:CallF}{i:Ins}(ho:i.o.blind=true){s:Nat→AV}{h:Hp}{K:AV→Hp→Prop}(ha:act F i s h K):∃ v,∀ (h2:Hp) (K':AV→Hp→Prop),act F i s h2 K'↔K' v h2:=by
 have hc:=still_op (blind_still ho)
 unfold act at *
 split at ha
 ·rw[evO_op hc] at ha
  split at ha
  ·rename_i p hp
   exact ⟨p.1,fun h2 K'=>by rw[evO_op hc,evV_blind ho (v:=p.1) (h':=p.2) hp h2]⟩
  ·exact ha.elim
 ·split at ha
  ·split at ha
   ·rename_i c
    rw[evO_op hc] at ha
    split at ha
    ·rename_i p hp
     exact ⟨p.1,fun h2 K'=>by simp only[c,if_true];rw[evO_op hc,evV_blind ho (v:=p.1) (h':=p.2) hp h2]⟩
    ·exact ha.elim
   ·rename_i c
    exact ⟨.tup [],fun h2 K'=>by simp only[c,if_false]⟩
  ·exact ⟨.tup [],fun h2 K'=>Iff.rfl⟩
  ·exact ha.elim
def Live'(F:CallF):Prop:=∀ k args h K,F k args h K→∃ v h',K v h'
def Quiet(F:CallF):Prop:=∀ k args h K,F k args h K→F k args h fun v h'=>h'=h∧K v h'
theorem act_live{F:CallF}(hL:Live' F){i:Ins}{s:Nat→AV}{h:Hp}{K:AV→Hp→Prop}(ha:act F i s h K):∃ v h',K v h':=by
 have evL:evO F s h i.o K→∃ v h',K v h':=fun he=>by
  by_cases hc:i.o.isCall=true
  ·cases ho:i.o<;>rw[ho] at hc he<;>try cases hc
   ·simp only[evO] at he
    split at he
    ·exact hL _ _ _ _ he
    ·exact hL _ _ _ _ he
    ·exact he.elim
   ·simp only[evO] at he
    split at he
    ·exact ⟨_,_,he.1⟩
    ·exact ⟨_,_,he⟩
    ·exact ⟨_,_,he.1⟩
    ·exact ⟨_,_,he⟩
    ·exact he.elim
  ·rw[evO_op (by simpa using hc)] at he
   split at he
   ·exact ⟨_,_,he⟩
   ·exact he.elim
 unfold act at ha
 split at ha
 ·exact evL ha
 ·split at ha
  ·split at ha
   ·exact evL ha
   ·exact ⟨_,_,ha⟩
  ·exact ⟨_,_,ha⟩
  ·exact ha.elim
theorem act_quiet{F:CallF}(hQ:Quiet F){i:Ins}(hc:i.o.isCall=true){s:Nat→AV}{h:Hp}{K:AV→Hp→Prop}(ha:act F i s h K):act F i s h fun v h'=>h'=h∧K v h':=by
 have evL:evO F s h i.o K→evO F s h i.o fun v h'=>h'=h∧K v h':=fun he=>by
  cases ho:i.o<;>rw[ho] at hc he<;>try cases hc
  ·simp only[evO] at he ⊢
   split at he
   ·exact hQ _ _ _ _ he
   ·exact hQ _ _ _ _ he
   ·exact he.elim
  ·simp only[evO] at he ⊢
   split at he
   ·exact ⟨⟨trivial,he.1⟩,trivial,he.2⟩
   ·exact ⟨trivial,he⟩
   ·exact ⟨⟨trivial,he.1⟩,trivial,he.2⟩
   ·exact ⟨trivial,he⟩
   ·exact he.elim
 unfold act at ha ⊢
 split at ha
 ·exact evL ha
 ·split at ha
  ·split at ha
   ·rename_i c;simp only[c,if_true];exact evL ha
   ·rename_i c;simp only[c,if_false];exact ⟨trivial,ha⟩
  ·exact ⟨rfl,ha⟩
  ·exact ha.elim
theorem get_grow{h:Hp}{b:Nat}{x y:HB}(hb:h[b]? = some y):(h++[x])[b]? = some y:=by
 rw[List.getElem?_append_left (List.getElem?_eq_some_iff.1 hb).1];exact hb
theorem srcElems_grow{h:Hp}{e:Nat}{y:AV}{ys:List AV}{x:HB}(hs:srcElems e h y=some ys):srcElems e (h++[x]) y=some ys:=by
 unfold srcElems at hs ⊢
 split at hs
 ·exact hs
 ·split at hs
  ·rename_i hb;rw[get_grow hb];exact hs
  ·cases hs
 ·split at hs
  ·rename_i hb;rw[get_grow hb];exact hs
  ·cases hs
 ·split at hs
  ·rename_i hb;rw[get_grow hb];exact hs
  ·cases hs
 ·exact hs
 ·cases hs
theorem evV_grow{o:Op1}(ho:o.still=true){s:Nat→AV}{h:Hp}{v:AV}(he:evV s h o=some (v,h))(x:HB):evV s (h++[x]) o=some (v,h++[x]):=by
 by_cases hb:o.blind=true
 ·exact evV_blind hb he _
 ·have swap:∀ {α : Type}{r:Option α}{f : α → AV},r.map (fun v=>(f v,h))=some (v,h)→r.map (fun v=>(f v,h++[x]))=some (v,h++[x]):=fun {α r f} hr=>by
   obtain ⟨y,h1,h2⟩:=Option.map_eq_some_iff.1 hr
   injection h2 with h2 _
   rw[h1,← h2];rfl
  cases o<;>first | (cases ho;done) | (exact absurd rfl hb) | skip
  case load e a =>
   simp only[evV] at he ⊢
   split at he
   ·split at he
    ·rename_i h1;rw[get_grow h1];exact swap (f:=fun v=>v) he
    ·cases he
   ·split at he
    ·rename_i h1
     rw[get_grow h1]
     split at he
     ·rename_i h2;simp only[h2];exact swap (f:=fun v=>v) he
     ·cases he
    ·cases he
   ·exact swap (f:=fun v=>v) he
   ·cases he
  case len k a =>
   simp only[evV] at he ⊢
   split at he
   all_goals try (injection he with he;injection he with h1 h2;subst h1;rfl)
   ·split at he
    ·rename_i h1
     injection he with he;injection he with h2 h3;subst h2
     rw[get_grow h1]
    ·cases he
   ·cases he
  case lookup kd z ok m k =>
   simp only[evV] at he ⊢
   cases hm:m.ev s with
   | mref b =>
    rw[hm] at he
    simp only at he ⊢
    cases hb:h[b]? with
    | none=>rw[hb] at he;cases he
    | some y =>
     rw[get_grow hb]
     rw[hb] at he
     cases y with
     | map ks vs =>
      simp only at he ⊢
      split at he
      ·rename_i r hr
       try rw[hr]
       injection he with he;injection he with h1 _
       rw[← h1]
      ·cases he
     | _=>cases he
   | _ =>
    rw[hm] at he
    simp only at he ⊢
    first
     | (cases he;done)
     | (split at he
        ·rename_i r hr
         try rw[hr]
         injection he with he;injection he with h1 _
         rw[← h1]
        ·cases he)
  case cstr y =>
   simp only[evV] at he ⊢
   split at he
   ·cases he
   ·split at he
    ·rename_i h1
     rw[srcElems_grow h1]
     exact swap (f:=fun t=>.str t) he
    ·cases he
  case ovl a b =>
   simp only[evV] at he ⊢
   split at he
   ·split at he
    ·rename_i h1
     rw[get_grow h1]
     injection he with he;injection he with h2 h3;subst h2
     rfl
    ·cases he
   ·cases he
theorem act_grow{F:CallF}{i:Ins}(ho:i.o.still=true){s:Nat→AV}{h:Hp}{K:AV→Hp→Prop}(ha:act F i s h K) :
  ∃ v,(∀ K':AV→Hp→Prop,act F i s h K'↔K' v h)∧∀ (x:HB) (K':AV→Hp→Prop),K' v (h++[x])→act F i s (h++[x]) K':=by
 have hc:=still_op ho
 unfold act at *
 split at ha
 ·rw[evO_op hc] at ha
  split at ha
  ·rename_i p hp
   have e:=evV_still ho (v:=p.1) (h':=p.2) hp
   have hp':evV s h i.o=some (p.1,h):=by rw[hp,← e]
   exact ⟨p.1,fun K'=>by rw[evO_op hc,hp'],fun x K' k=>by rw[evO_op hc,evV_grow ho hp' x];exact k⟩
  ·exact ha.elim
 ·split at ha
  ·split at ha
   ·rename_i c
    rw[evO_op hc] at ha
    split at ha
    ·rename_i p hp
     have e:=evV_still ho (v:=p.1) (h':=p.2) hp
     have hp':evV s h i.o=some (p.1,h):=by rw[hp,← e]
     exact ⟨p.1,fun K'=>by simp only[c,if_true];rw[evO_op hc,hp'],fun x K' k=>by simp only[c,if_true];rw[evO_op hc,evV_grow ho hp' x];exact k⟩
    ·exact ha.elim
   ·rename_i c
    exact ⟨.tup [],fun K'=>by simp only[c,if_false],fun x K' k=>by simp only[c,if_false];exact k⟩
  ·exact ⟨.tup [],fun K'=>Iff.rfl,fun x K' k=>k⟩
  ·exact ha.elim
theorem act_grows{F:CallF}{j:Ins}(ho:j.o.grows=true)(hg:j.g=none){s:Nat→AV}{h:Hp}{K:AV→Hp→Prop}(ha:act F j s h K):∃ u x,∀ K':AV→Hp→Prop,act F j s h K'↔K' u (h++[x]):=by
 obtain ⟨d,g,o⟩:=j
 dsimp only at hg ho
 subst hg
 cases o<;>first | (cases ho;done) | skip
 case box a =>
  simp only[act,evO,evV] at ha ⊢
  by_cases hb:onesB (a.ev s).cells=true
  ·exact ⟨.ptr h.length 0,.cel (a.ev s).cells,fun K'=>by rw[if_pos hb]⟩
  ·rw[if_neg hb] at ha
   exact ha.elim
 case alloc z=>exact ⟨.ptr h.length 0,.cel (expand z),fun K'=>Iff.rfl⟩
theorem apart_spec{q:Bool}{i j:Ins}(h:apart q i j=true):(∀ d,i.d=some d→d ∉ j.reads)∧(∀ d,i.d=some d→j.d≠some d)∧(∀ d,j.d=some d→d ∉ i.reads) ∧
  ((i.o.still=true∧(j.o.still=true∨(j.o.grows=true∧j.g=none)))∨i.o.blind=true∨j.o.blind=true∨(q=true∧((i.o.still=true∧j.o.isCall=true)∨(i.o.isCall=true∧j.o.still=true)))):=by
 unfold apart at h
 simp only[Bool.and_eq_true,Bool.or_eq_true] at h
 obtain ⟨⟨h1,h2⟩,h3⟩:=h
 refine ⟨fun d hd=>?_,fun d hd=>?_,fun d hd=>?_,?_⟩
 ·rw[hd] at h1;simp at h1;exact h1.1
 ·rw[hd] at h1;simp at h1;exact h1.2
 ·rw[hd] at h2;simp at h2;exact h2
 ·rcases h3 with ((h3 | h3) | h3) | h3
  ·exact .inl ⟨h3.1,h3.2.imp id fun h=>⟨h.1,by simpa using h.2⟩⟩
  ·exact .inr (.inl h3)
  ·exact .inr (.inr (.inl h3))
  ·exact .inr (.inr (.inr h3))
theorem evT_comm{F:CallF}(hF:Mono F)(hL:Live' F){q:Bool}(hQ:q=true→Quiet F){i j:Ins}(h:apart q i j=true){K:St→Prop}{st:St}(he:evT F i (evT F j K) st):evT F j (evT F i K) st:=by
 obtain ⟨h1,h2,h3,h4⟩:=apart_spec h
 unfold evT at *
 dsimp only at he ⊢
 simp only[act_put (F:=F) (i:=j) (d:=i.d) h1] at he
 simp only[act_put (F:=F) (i:=i) (d:=j.d) h3]
 have hc:∀ u v,put? (put? st.s i.d v) j.d u=put? (put? st.s j.d u) i.d v:=fun u v=>put?_comm st.s h2 v u
 simp only[hc] at he
 rcases h4 with ⟨hi,hj | ⟨hj,hjg⟩⟩ | hi | hj | ⟨hq,⟨hi,hj⟩ | ⟨hi,hj⟩⟩
 ·obtain ⟨v,ki⟩:=act_still hi he
  have he:=(ki _).1 he
  obtain ⟨u,kj⟩:=act_still hj he
  exact (kj _).2 ((ki _).2 ((kj _).1 he))
 ·obtain ⟨v,ki,kg⟩:=act_grow hi he
  have he:=(ki _).1 he
  obtain ⟨u,x,kj⟩:=act_grows hj hjg he
  exact (kj _).2 (kg x _ ((kj _).1 he))
 ·obtain ⟨v,ki⟩:=act_blind hi he
  exact act_mono hF (fun u h2 hk=>(ki _ _).2 hk) ((ki _ _).1 he)
 ·obtain ⟨v,h',hx⟩:=act_live hL he
  obtain ⟨u,kj⟩:=act_blind hj hx
  exact (kj _ _).2 (act_mono hF (fun v' h' hk=>(kj _ _).1 hk) he)
 ·obtain ⟨v,ki⟩:=act_still hi he
  refine act_mono hF ?_ (act_quiet (hQ hq) hj ((ki _).1 he))
  rintro u h' ⟨rfl,hk⟩
  exact (ki _).2 hk
 ·have he:=act_quiet (hQ hq) hi he
  obtain ⟨v,h',rfl,hx⟩:=act_live hL he
  obtain ⟨u,kj⟩:=act_still hj hx
  refine (kj _).2 (act_mono hF ?_ he)
  rintro v' h' ⟨rfl,hk⟩
  exact (kj _).1 hk
theorem evTs_front{F:CallF}(hF:Mono F)(hL:Live' F){q:Bool}(hQ:q=true→Quiet F){i:Ins}:∀ {js is:List Ins}{K:St→Prop}{st:St},(∀ j ∈ js,apart q j i=true)→evTs F (js++i::is) K st→evTs F (i::(js++is)) K st
 | [],_,_,_,_,he=>he
 | j::js,is,K,st,ha,he=>by
  simp only[List.cons_append,evTs] at he ⊢
  have h1:evT F j (evT F i (evTs F (js++is) K)) st:=evT_mono hF (fun st' hs=>evTs_front hF hL hQ (fun j' hj=>ha j' (List.mem_cons_of_mem _ hj)) hs) he
  exact evT_comm hF hL hQ (ha j List.mem_cons_self) h1
end Go.Ab
namespace Go.Ab
open Go
variable {P:Program}
def Entered (P : Program) (f : FuncId) : Prop := ∃ fn c, P.funcs[f]? = some fn ∧ (fn.name == "runtime.NumGoroutine") = false ∧ fn.body = some c
def Fn(P:Program)(f:Nat)(args:List AV)(h:Hp)(R:AV→Hp→Prop):Prop :=
 Entered P f∧(∃ r h',R r h')∧∀ (E:Env) (w:World) (us:Array Value),HOK E h w→us.size=args.length→(∀ (i:Nat) c u,args[i]? = some c→us[i]? = some u→RV E w c u) →
  Calls P f us w fun e w'=>∃ u E' r h',e=.returned u∧R r h'∧HOK E' h' w'∧Ext h.length E w E' w'∧RV E' w' r u
theorem Fn.mono{f:Nat}{args:List AV}{h:Hp}{R R':AV→Hp→Prop}(hr:∀ r h',R r h'→R' r h')(hf:Fn P f args h R):Fn P f args h R' :=
 ⟨hf.1,hf.2.1.imp fun _ h=>h.imp fun _ h=>hr _ _ h,fun E w us h1 h2 h3=>Calls.mono (hf.2.2 E w us h1 h2 h3) fun _ _ ⟨u,E',r,h',e,k,rest⟩=>⟨u,E',r,h',e,hr _ _ k,rest⟩⟩
theorem Fn_mono:Mono (Fn P):=fun _ _ _ _ _ hk hf=>hf.mono hk
theorem Fn_live:Live' (Fn P):=fun _ _ _ _ hf=>hf.2.1
def Fnq(P:Program)(f:Nat)(args:List AV)(h:Hp)(R:AV→Hp→Prop):Prop:=Fn P f args h fun r h'=>h'=h∧R r h'
theorem Fnq_mono:Mono (Fnq P):=fun _ _ _ _ _ hk hf=>hf.mono fun r h' ⟨e,k⟩=>⟨e,hk _ _ k⟩
theorem Fnq_live:Live' (Fnq P):=fun _ _ _ _ hf=>let ⟨v,h',_,k⟩:=hf.2.1;⟨v,h',k⟩
theorem Fnq_quiet:Quiet (Fnq P):=fun _ _ _ _ hf=>hf.mono fun _ _ ⟨e,k⟩=>⟨e,e,k⟩
theorem Fnq_Fn(k:Nat)(args:List AV)(h:Hp)(K:AV→Hp→Prop)(hf:Fnq P k args h K):Fn P k args h K:=hf.mono fun _ _ ⟨_,k⟩=>k
theorem Ext.wide{E E':Env}{h:Hp}{w w':World}(hok:HOK E h w)(x:Ext h.length E w E' w')(n:Nat):Ext n E w E' w' :=
 ⟨x.below,x.base,x.kept,x.new,fun b r _ e=>x.rho b r (hok.dom b r e) e⟩
theorem Ext.next{E E' E'':Env}{h:Hp}{w w' w'':World}{n:Nat}(x:Ext n E w E' w')(hok:HOK E' h w')(y:Ext h.length E' w' E'' w''):Ext n E w E'' w'' :=
 x.trans (y.wide hok n) (Nat.le_refl _)
theorem SOK.put?{E:Env}{w:World}{s:Nat→AV}{a:Act}(hs:SOK E w s a){v:AV}{u:Value}(hr:RV E w v u)(d:Option Nat)(hd:∀ i,d=some i→i<a.tmps.size):SOK E w (put? s d v) (a.put d u):=by
 cases d with
 | none=>exact hs
 | some d =>
  intro i
  have hd:=hd d rfl
  simp only[Ab.put?,Ab.put,Act.put]
  by_cases hi:i=d
  ·subst hi
   simp[hd]
   exact hr
  ·simp only[if_neg hi]
   have:=hs i
   simpa[Array.getElem?_setIfInBounds_ne (Ne.symm hi)] using this
theorem put_size(a:Act)(d:Option Nat)(u:Value):(a.put d u).tmps.size=a.tmps.size:=by cases d<;>simp[Act.put]
theorem put_defers(a:Act)(d:Option Nat)(u:Value):(a.put d u).defers=a.defers:=by cases d<;>rfl
section
variable {E:Env}{w:World}{st:St}{a:Act}{ops:Array Oper}{Q:Exit→Act→World→Prop}{n lo:Nat}
def Then(lo n:Nat)(E:Env)(w:World)(K:St→Prop)(a':Act)(w':World):Prop :=
 ∃ st' E',K st'∧StOK E' st' a' w'∧a'.tmps.size=n∧Ext lo E w E' w'
theorem run_call{o:Oper}{f:Operand}{args:Array Operand}{ts:Array TypeId}{k:Nat}{us:Array Value}(ho:o.op=.call { callee:=.value f,args:=args,argTypes:=ts })(hf:a.eval f=.func (.func k) #[] us)(he:Entered P k) :
  (execOp a.eval o).run P w=.ok (.enter k (args.map a.eval++us)) w:=by
 obtain ⟨fn,c,h1,h2,h3⟩:=he
 have h2' : ¬ fn.name = "runtime.NumGoroutine" := by simpa using h2
 simp[execOp,ho,resolve,Deferred.ofValue,hf,invoke,callFunc,h1,h2',h3]
theorem run_callb{o:Oper}{f:Operand}{args:Array Operand}{ts:Array TypeId}{k:Nat}{us:Array Value}(ho:o.op=.call { callee:=.value f,args:=args,argTypes:=ts })(hf:a.eval f=.func (.func k) us #[])(he:Entered P k) :
  (execOp a.eval o).run P w=.ok (.enter k (us++args.map a.eval)) w:=by
 obtain ⟨fn,c,h1,h2,h3⟩:=he
 have h2' : ¬ fn.name = "runtime.NumGoroutine" := by simpa using h2
 simp[execOp,ho,resolve,Deferred.ofValue,hf,invoke,callFunc,h1,h2',h3]
theorem eqGuard_sl{op:BinOp}{t:TypeId}{x y:Operand}{A B:Option Addr}{n m c d:Nat}:(eqGuard op t x y (.slice A n c) (.slice B m d)).run P w=.ok () w:=by
 cases op<;>simp[eqGuard]
theorem equal_sl1{t el:TypeId}(ht:P.underlying t=some (.slice el))(d:Nat)(A:Option Addr)(n c:Nat):(Op.equalIn (d + 1) t (.slice A n c) (.slice none 0 0)).run P w=.ok A.isNone w:=by
 cases A<;>simp[Op.equalIn,run_underlying ht]
theorem constAV_nil{t:TypeId}{v:Value}{e:Nat}(h:constAV P t v=some (.sl e true [])):v=.slice none 0 0:=by
 unfold constAV at h
 split at h<;>first | (cases h;done) | rfl
theorem compO_isnil{o:Oper}{ng:Bool}{x':Od}(h:compO1 P o=some (.isnil ng x')):∃ t el x yt e,o.op=.binOp (if ng then .neq else .eql) t x (.const (.slice none 0 0)) yt∧P.underlying t=some (.slice el)∧od P t x=some x'∧e=el:=by
 unfold compO1 at h
 split at h
 case h_11 =>
  rename_i op t x y yt ho
  unfold compBin at h
  split at h
  case h_2=>cases h
  rename_i xo yo hx hy
  split at h
  case h_6 =>
   rename_i el ht
   split at h
   ·rename_i e
    injection h with h;injection h with h1 h2;subst h1;subst h2
    have hy':y=.const (.slice none 0 0):=by
     unfold od at hy
     split at hy
     ·cases hy
     ·rename_i v
      obtain ⟨w,hw,h2⟩:=map_some' hy
      injection h2 with h2;subst h2
      rw[constAV_nil hw]
     ·cases hy
     ·cases hy
    subst hy'
    exact ⟨t,el,x,yt,el,by simpa using ho,ht,hx,rfl⟩
   ·rename_i e
    injection h with h;injection h with h1 h2;subst h1;subst h2
    have hy':y=.const (.slice none 0 0):=by
     unfold od at hy
     split at hy
     ·cases hy
     ·rename_i v
      obtain ⟨w,hw,h2⟩:=map_some' hy
      injection h2 with h2;subst h2
      rw[constAV_nil hw]
     ·cases hy
     ·cases hy
    subst hy'
    exact ⟨t,el,x,yt,el,by simpa using ho,ht,hx,rfl⟩
   ·cases h
  all_goals exfalso
  all_goals repeat' split at h
  all_goals first | (cases h;done) | (obtain ⟨_,_,h⟩:=map_some' h;cases h;done)
 all_goals exfalso
 all_goals try unfold compConv at h
 all_goals try unfold compCall at h
 all_goals repeat' split at h
 all_goals first | (cases h;done) | (obtain ⟨_,_,h⟩:=map_some' h;cases h;done) | skip
theorem oper_ok{o:Oper}{i:Ins}(hc:compI P n ops o=some i)(hst:StOK E st a w)(hn:a.tmps.size=n){K:AV→Hp→Prop}(he:evO (Fn P) st.s st.h i.o K)
  {next:Act→World→Prop}(hnext:∀ v h' u E' w',K v h'→HOK E' h' w'→Ext st.h.length E w E' w'→RV E' w' v u→next (a.put o.dst u) w'):o.wp P a w next Q:=by
 unfold compI at hc
 split at hc
 case h_2=>cases hc
 rename_i p hp hd
 have hio:i.o=p:=by
  split at hc
  ·injection hc with hc;rw[← hc]
  ·split at hc
   ·split at hc
    ·injection hc with hc;rw[← hc]
    ·cases hc
   ·cases hc
 rw[hio] at he
 by_cases hcall:p.isCall=true
 ·have hp1:compO1 P o=some p:=by
   simp only[compO,Option.some.injEq] at hp
   cases h1:compO1 P o with
   | none=>rw[h1] at hp;subst hp;cases hcall
   | some q=>rw[h1] at hp;exact congrArg some hp
  replace hp:=hp1
  by_cases hnil:∃ ng x,p=.isnil ng x
  ·obtain ⟨ng,x',rfl⟩:=hnil
   obtain ⟨t,el,x,yt,_,ho,ht,hx,_⟩:=compO_isnil hp
   have hv:=od_ok hst.slots hx
   have run:∀ A n c,a.eval x=.slice A n c→(execOp a.eval o).run P w=.ok (.value (.bool (if ng then !A.isNone else A.isNone))) w:=fun A n c hA=>by
    have he2:(Op.equal t (.slice A n c) (.slice none 0 0)).run P w=.ok A.isNone w:=equal_sl1 (P:=P) (w:=w) ht 9999 A n c
    have hz:a.eval (.const (.slice none 0 0))=.slice none 0 0:=rfl
    cases ng
    ·simp only[Bool.false_eq_true,if_false] at ho ⊢
     simp only[execOp,ho,hA,hz,Sem.run_bind,eqGuard_sl,Result.andThen_ok,binOp,he2,Sem.run_pure]
    ·simp only[if_true] at ho ⊢
     simp only[execOp,ho,hA,hz,Sem.run_bind,eqGuard_sl,Result.andThen_ok,binOp,he2,Sem.run_pure]
   have fin:∀ A n c,a.eval x=.slice A n c→K (.bool (if ng then !A.isNone else A.isNone)) st.h→o.wp P a w next Q:=fun A n c hA hK=>by
    unfold Oper.wp
    rw[run A n c hA]
    exact hnext _ _ _ E w hK hst.heap (Ext.refl _ _ _) (.imm (.bool _))
   simp only[evO] at he
   split at he
   ·rename_i e f hx'
    rw[hx'] at hv
    generalize hu:a.eval x=u at hv
    cases hv.sl_inv with
    | sl _ _ _ A cap g o uu hl hm hf hA hfit hcc hr =>
     refine fin A _ _ hu ?_
     cases A.isNone<;>cases ng<;>first | exact he.1 | exact he.2
   ·rename_i e f y ys hx'
    rw[hx'] at hv
    generalize hu:a.eval x=u at hv
    cases hv.sl_inv with
    | sl _ _ _ A cap g o uu hl hm hf hA hfit hcc hr =>
     rcases hA with hA | hA
     ·cases hA
     ·subst hA
      refine fin _ _ _ hu ?_
      cases ng<;>exact he
   ·rename_i e b off hx'
    rw[hx'] at hv
    obtain ⟨_,hrow⟩:=hv.row_inv
    have:∃ A n c,a.eval x=.slice A n c:=by
     rcases hrow with ⟨_,_,_,A,h⟩ | ⟨g,cap,A,_,h,_⟩
     ·exact ⟨A,_,_,h⟩
     ·exact ⟨A,_,_,h⟩
    obtain ⟨A,n,c,hA⟩:=this
    refine fin A n c hA ?_
    cases A.isNone<;>cases ng<;>first | exact he.1 | exact he.2
   ·rename_i e b off len hx'
    rw[hx'] at hv
    obtain ⟨_,hrow⟩:=hv.row_inv
    rcases hrow with ⟨_,_,h,_⟩ | ⟨g,cap,A,_,h,hA,_⟩
    ·cases h
    ·rcases hA with rfl | ⟨_,hA⟩
     ·refine fin _ _ _ h ?_
      cases ng<;>exact he
     ·cases hA
   ·exact he.elim
  cases p<;>first | exact absurd ⟨_,_,rfl⟩ hnil | cases hcall
  rename_i f as
  simp only[evO] at he
  split at he
  case h_3=>exact he.elim
  case h_2 =>
   rename_i k caps hf
   unfold compO1 at hp
   split at hp
   all_goals first | (cases hp;done) | (obtain ⟨_,_,hp⟩:=map_some' hp;cases hp;done) | skip
   case h_22 =>
    rename_i c ho
    obtain ⟨cal,args,ts⟩:=c
    unfold compCall at hp
    dsimp only at hp
    split at hp
    ·rename_i f'
     split at hp
     case h_2=>cases hp
     rename_i fo aso hfo hao
     split at hp
     ·cases hp
     injection hp with hp;injection hp with e1 e2;subst e1;subst e2
     have h1:=od_ok hst.slots hfo
     rw[hf] at h1
     obtain ⟨us,hu,hus,hur⟩:=h1.bnd_inv
     have hrun:=run_callb (P:=P) (w:=w) ho hu he.1
     obtain ⟨l1,l2⟩:=ods_ok hst.slots hao
     unfold Oper.wp
     rw[hrun]
     have hcalls:=he.2.2 E w (us++args.map a.eval) hst.heap (by simp at l1;simp[hus,l1]) (fun j c u hj hu=>by
      by_cases hjl:j<us.size
      ·rw[List.getElem?_append_left (by omega)] at hj
       rw[Array.getElem?_append_left hjl] at hu
       exact hur _ _ _ hj hu
      ·rw[List.getElem?_append_right (by omega)] at hj
       rw[Array.getElem?_append_right (by omega)] at hu
       rw[hus] at hu
       simp only[List.getElem?_map,Option.map_eq_some_iff,Array.getElem?_map] at hj hu
       obtain ⟨y,hy,rfl⟩:=hj
       obtain ⟨x,hx,rfl⟩:=hu
       exact l2 _ x y (by simpa using hx) hy)
     refine Calls.mono hcalls ?_
     rintro e w' ⟨u,E',r,h',rfl,hk,hok,hext,hrv⟩
     exact hnext r h' u E' w' hk hok hext hrv
    ·cases hp
    ·exfalso
     split at hp
     all_goals repeat' split at hp
     all_goals first | (cases hp;done) | (obtain ⟨_,_,hp⟩:=map_some' hp;cases hp;done)
   all_goals exfalso
   all_goals try unfold compBin at hp
   all_goals try unfold compConv at hp
   all_goals repeat' split at hp
   all_goals first | (cases hp;done) | (obtain ⟨_,_,hp⟩:=map_some' hp;cases hp;done)
  rename_i k caps hf
  unfold compO1 at hp
  split at hp
  all_goals first | (cases hp;done) | (obtain ⟨_,_,hp⟩:=map_some' hp;cases hp;done) | skip
  case h_22 =>
   rename_i c ho
   obtain ⟨cal,args,ts⟩:=c
   unfold compCall at hp
   dsimp only at hp
   split at hp
   ·rename_i f'
    split at hp
    case h_2=>cases hp
    rename_i fo aso hfo hao
    split at hp
    ·cases hp
    injection hp with hp;injection hp with e1 e2;subst e1;subst e2
    have h1:=od_ok hst.slots hfo
    rw[hf] at h1
    obtain ⟨us,hu,hus,hur⟩:=h1.fn_inv
    have hrun:=run_call (P:=P) (w:=w) ho hu he.1
    obtain ⟨l1,l2⟩:=ods_ok hst.slots hao
    unfold Oper.wp
    rw[hrun]
    have hcalls:=he.2.2 E w (args.map a.eval++us) hst.heap (by simp at l1;simp[hus,l1]) (fun j c u hj hu=>by
     by_cases hjl:j<args.size
     ·rw[List.getElem?_append_left (by simp at l1;simpa[l1] using hjl)] at hj
      rw[Array.getElem?_append_left (by simpa using hjl)] at hu
      simp only[List.getElem?_map,Option.map_eq_some_iff,Array.getElem?_map] at hj hu
      obtain ⟨y,hy,rfl⟩:=hj
      obtain ⟨x,hx,rfl⟩:=hu
      exact l2 j x y (by simpa using hx) hy
     ·have l1':=l1.trans Array.length_toList
      rw[List.getElem?_append_right (by simp[l1'];omega)] at hj
      rw[Array.getElem?_append_right (by simp;omega)] at hu
      simp only[List.length_map,l1',Array.size_map] at hj hu
      exact hur _ _ _ hj hu)
    refine Calls.mono hcalls ?_
    rintro e w' ⟨u,E',r,h',rfl,hk,hok,hext,hrv⟩
    exact hnext r h' u E' w' hk hok hext hrv
   ·cases hp
   ·exfalso
    split at hp
    all_goals repeat' split at hp
    all_goals first | (cases hp;done) | (obtain ⟨_,_,hp⟩:=map_some' hp;cases hp;done)
  all_goals exfalso
  all_goals try unfold compBin at hp
  all_goals try unfold compConv at hp
  all_goals repeat' split at hp
  all_goals first | (cases hp;done) | (obtain ⟨_,_,hp⟩:=map_some' hp;cases hp;done)
 ·have hcall:p.isCall=false:=by simpa using hcall
  rw[evO_op hcall] at he
  split at he
  case h_2=>exact he.elim
  rename_i q hq
  obtain ⟨u,w',E',nx,hrun,hnx,hok,hext,hrv⟩:=compO_ok hst.heap hst.slots hp (v:=q.1) (h':=q.2) hq
  unfold Oper.wp
  rw[hrun]
  rcases hnx with rfl | ⟨rfl,rfl⟩
  ·exact hnext _ _ _ _ _ he hok hext hrv
  ·exact hnext _ _ _ _ _ he hok hext hrv
theorem dst_lt{o:Oper}{i:Ins}(hc:compI P n ops o=some i):o.dst=i.d∧∀ d,i.d=some d→d<n:=by
 unfold compI at hc
 split at hc
 case h_2=>cases hc
 rename_i p hp hd
 have hid:i.d=o.dst:=by
  split at hc
  ·injection hc with hc;rw[← hc]
  ·split at hc
   ·split at hc
    ·injection hc with hc;rw[← hc]
    ·cases hc
   ·cases hc
 refine ⟨hid.symm,fun d hd'=>?_⟩
 rw[hid] at hd'
 rw[hd'] at hd
 simpa using hd
theorem evT_le{F G:CallF}(hFG:∀ k args h K,F k args h K→G k args h K){i:Ins}{K:St→Prop}{st:St}(he:evT F i K st):evT G i K st:=by
 have evL:∀ {s h o K},evO F s h o K→evO G s h o K:=fun {s h o K} he=>by
  by_cases hc:o.isCall=true
  ·cases o<;>try cases hc
   ·simp only[evO] at he ⊢
    split at he
    ·exact hFG _ _ _ _ he
    ·exact hFG _ _ _ _ he
    ·exact he.elim
   ·exact he
  ·rw[evO_op (by simpa using hc)] at he ⊢
   exact he
 unfold evT act at *
 split at he
 ·exact evL he
 ·split at he
  ·split at he
   ·rename_i c;simp only[c,if_true];exact evL he
   ·rename_i c;simp only[c,if_false];exact he
  ·exact he
  ·exact he.elim
theorem wpOp_ok{j:Nat}{o:Oper}{i:Ins}(ho:ops[j]? = some o)(hc:compI P n ops o=some i)(hst:StOK E st a w)(hn:a.tmps.size=n){K:St→Prop}(he:evT (Fn P) i K st) :
  wpOp P ops Q j (Then lo n E w K) a w:=by
 obtain ⟨hd1,hd2⟩:=dst_lt hc
 have fin:∀ v h' u E' w',K ⟨put? st.s i.d v,h'⟩→HOK E' h' w'→Ext st.h.length E w E' w'→RV E' w' v u→Then lo n E w K (a.put o.dst u) w':=fun v h' u E' w' hk hok hext hrv =>
  ⟨_,E',hk,⟨hd1 ▸ SOK.put? (fun j=>(hst.slots j).ext hext hst.heap.dom) hrv _ (fun d hd=>by rw[hn];exact hd2 d (hd1 ▸ hd)),by rw[put_defers];exact hst.defers,hok⟩,by rw[put_size];exact hn,hext.wide hst.heap lo⟩
 have yes:evO (Fn P) st.s st.h i.o (fun v h=>K ⟨put? st.s i.d v,h⟩)→o.wp P a w (Then lo n E w K) Q:=fun he=>oper_ok hc hst hn he fin
 unfold wpOp
 rw[ho]
 dsimp only
 unfold evT act at he
 have hg:i.g=none∧o.guard=none∨∃ g0 s0 want,i.g=some (s0,want)∧o.guard=some (g0,want)∧slotOf ops g0=some s0∧s0<n:=by
  unfold compI at hc
  split at hc
  case h_2=>cases hc
  split at hc
  ·rename_i hg
   injection hc with hc;subst hc
   exact .inl ⟨rfl,hg⟩
  ·rename_i g0 want hg
   split at hc
   ·rename_i s0 hs0
    split at hc
    ·rename_i hlt
     injection hc with hc;subst hc
     exact .inr ⟨g0,s0,want,rfl,hg,hs0,hlt⟩
    ·cases hc
   ·cases hc
 rcases hg with ⟨h1,h2⟩ | ⟨g0,s0,want,h1,h2,h3,h4⟩
 ·rw[h1] at he
  simp only[Region.wanted,h2,if_true]
  exact .inl (yes he)
 ·rw[h1] at he
  dsimp only at he
  have hlt:s0<a.tmps.size:=by omega
  have skip:StOK E st a w→yielded ops a.tmps g0≠some want→K ⟨put? st.s i.d (.tup []),st.h⟩→wpOp P ops Q j (Then lo n E w K) a w:=fun _ hy he=>by
   unfold wpOp
   rw[ho]
   dsimp only
   have hwant:Region.wanted o (yielded ops a.tmps)=false:=by
    simp only[Region.wanted,h2,beq_eq_false_iff_ne,ne_eq]
    exact hy
   simp only[hwant,Bool.false_eq_true,if_false]
   exact fin _ _ _ _ _ he hst.heap (Ext.refl _ _ _) (.imm (.tup [] #[] rfl fun i c u hc=>by simp at hc))
  have at_:∀ v,(a.tmps.getD s0 undef)=v→yielded ops a.tmps g0=(match v with | .bool b=>some b | _=>none):=fun v hv=>by
   unfold yielded
   unfold slotOf at h3
   rw[h3]
   have:a.tmps[s0]? = some v:=by
    rw[Array.getElem?_eq_getElem hlt]
    simpa[hlt] using hv
   simp only[Option.bind_some,this]
   cases v<;>rfl
  split at he
  ·rename_i b hb
   have hv:=hst.slots s0
   rw[hb] at hv
   have hy:=at_ _ hv.bool_inv
   dsimp only at hy
   split at he
   ·rename_i hbw
    have hwant:Region.wanted o (yielded ops a.tmps)=true:=by
     simp[Region.wanted,h2,hy,hbw]
    rw[hwant]
    exact .inl (yes he)
   ·rename_i hbw
    have:=skip hst (by rw[hy];intro e;injection e with e;exact hbw e) he
    unfold wpOp at this
    rw[ho] at this
    exact this
  ·rename_i hb
   have hv:=hst.slots s0
   rw[hb] at hv
   obtain ⟨us,hu,hs,_⟩:=hv.tup_inv
   have hy:=at_ _ hu
   dsimp only at hy
   have:=skip hst (by rw[hy];intro e;cases e) he
   unfold wpOp at this
   rw[ho] at this
   exact this
  ·exact he.elim
theorem omap_get{α β : Type}{f : α → Option β}:∀ {l:List α}{r:List β},omap f l=some r→r.length=l.length∧∀ (i:Nat) x,l[i]? = some x→∃ y,r[i]? = some y∧f x=some y
 | [],r,h=>by injection h with h;subst h;exact ⟨rfl,fun i x hx=>by simp at hx⟩
 | c::cs,r,h=>by
  simp only[omap] at h
  split at h
  case h_2=>cases h
  rename_i x xs h1 h2
  injection h with h;subst h
  obtain ⟨k1,k2⟩:=omap_get h2
  refine ⟨by simp[k1],fun i y hy=>?_⟩
  cases i with
  | zero=>simp at hy;subst hy;exact ⟨x,rfl,h1⟩
  | succ i=>simpa using k2 i y (by simpa using hy)
theorem Then.next{E':Env}{w':World}(x:Ext lo E w E' w'){K:St→Prop}{a':Act}{w'':World}(h:Then lo n E' w' K a' w''):Then lo n E w K a' w'':=by
 obtain ⟨st',E'',k1,k2,k3,k4⟩:=h
 exact ⟨st',E'',k1,k2,k3,x.trans k4 (Nat.le_refl _)⟩
theorem wpOps_ok{is:List Ins}(hc:omap (compI P n ops) ops.toList=some is):∀ (l:List Nat) (st:St) (E:Env) (a:Act) (w:World),(∀ j ∈ l,j<ops.size)→StOK E st a w→a.tmps.size=n→∀ {K:St→Prop},
  evTs (Fn P) (l.map fun j=>is.getD j default) K st→(∀ a' w',Then lo n E w K a' w'→Q .normal a' w')→wpOps P ops Q l a w
 | [],st,E,a,w,_,hst,hn,K,he,hq=>hq a w ⟨st,E,he,hst,hn,Ext.refl _ _ _⟩
 | j::l,st,E,a,w,hl,hst,hn,K,he,hq=>by
  have hj:=hl j List.mem_cons_self
  have ho:ops[j]? = some ops[j]:=Array.getElem?_eq_getElem hj
  obtain ⟨_,h2⟩:=omap_get hc
  obtain ⟨i,hi,hci⟩:=h2 j ops[j] (by simp)
  rw[wpOps_cons]
  simp only[List.map_cons,evTs,List.getD_eq_getElem?_getD,hi,Option.getD_some] at he
  refine wpOp_mono (fun a' w' h=>?_) (wpOp_ok (lo:=lo) ho hci hst hn he)
  obtain ⟨st',E',k1,k2,k3,k4⟩:=h
  exact wpOps_ok hc l st' E' a' w' (fun j hj=>hl j (List.mem_cons_of_mem _ hj)) k2 k3 k1 fun a'' w'' h=>hq a'' w'' (h.next k4)
end
end Go.Ab
namespace Go.Ab
open Go
variable {P:Program}
theorem orB_testBit{acc:List Nat}:∀ {es:List Edge}{j:Nat},(orB acc es).testBit j=true→∃ e ∈ es,Region.binds .any e=true∧(e.on=j∨(acc.getD e.on 0).testBit j=true)
 | [],j,h=>by simp[orB] at h
 | e::es,j,h=>by
  simp only[orB,Nat.testBit_or,Bool.or_eq_true] at h
  rcases h with h | h
  ·split at h
   ·rename_i hb
    simp only[Nat.testBit_or,Bool.or_eq_true,Nat.testBit_two_pow,decide_eq_true_eq] at h
    exact ⟨e,List.mem_cons_self,hb,h⟩
   ·simp at h
  ·obtain ⟨e',k1,k2,k3⟩:=orB_testBit h
   exact ⟨e',List.mem_cons_of_mem _ k1,k2,k3⟩
theorem befs_spec:∀ (os:List Oper) (acc:List Nat),∃ t,befs os acc=acc++t∧∀ (i:Nat) o,os[i]? = some o→(befs os acc)[acc.length + i]? = some (orB ((befs os acc).take (acc.length + i)) o.after.toList)
 | [],acc=>⟨[],by simp[befs],fun i o h=>by simp at h⟩
 | o::os,acc=>by
  obtain ⟨t,h1,h2⟩:=befs_spec os (acc++[orB acc o.after.toList])
  refine ⟨orB acc o.after.toList::t,by simp[befs,h1],fun i o' ho=>?_⟩
  cases i with
  | zero =>
   simp only[List.getElem?_cons_zero,Option.some.injEq] at ho
   subst ho
   simp[befs,h1]
  | succ i =>
   have:=h2 i o' (by simpa using ho)
   simp only[List.length_append,List.length_singleton] at this
   simp only[befs]
   rwa [show acc.length + (i + 1)=acc.length + 1 + i by omega]
section
variable {q:Bool}{ops:Array Oper}{Q:Exit→Act→World→Prop}{n lo:Nat}{is:List Ins}
def Closed(ops:Array Oper)(L:Nat→Prop):Prop:=∀ (k:Nat) o,ops[k]? = some o→L k→∀ e ∈ o.after.toList,Region.binds .any e=true→L e.on
theorem before_listed{L:Nat→Prop}(hcl:Closed ops L):∀ (i:Nat) (o:Oper),ops[i]? = some o→(∀ e ∈ o.after.toList,Region.binds .any e=true→L e.on)→∀ j,((befs ops.toList []).getD i 0).testBit j=true→L j:=by
 intro i
 induction i using Nat.strongRecOn with
 | _ i ih =>
  intro o ho he j hj
  obtain ⟨t,_,h2⟩:=befs_spec ops.toList []
  have h3:=h2 i o (by simpa using ho)
  simp only[List.length_nil,Nat.zero_add] at h3
  rw[List.getD_eq_getElem?_getD,h3,Option.getD_some] at hj
  obtain ⟨e,k1,k2,k3⟩:=orB_testBit hj
  rcases k3 with k3 | k3
  ·rw[← k3];exact he e k1 k2
  ·have hlt:e.on<i:=by
    rcases Nat.lt_or_ge e.on i with h | h
    ·exact h
    ·rw[List.getD_eq_getElem?_getD,List.getElem?_eq_none (by simp;omega)] at k3
     simp at k3
   have hol:e.on<ops.size:=by have:=(Array.getElem?_eq_some_iff.1 ho).1;omega
   have hoe:ops[e.on]? = some ops[e.on]:=Array.getElem?_eq_getElem hol
   refine ih e.on hlt ops[e.on] hoe (fun e' he' hb=>hcl e.on _ hoe (he e k1 k2) e' he' hb) j ?_
   rw[List.getD_eq_getElem?_getD,List.getElem?_take_of_lt hlt] at k3
   rw[List.getD_eq_getElem?_getD]
   exact k3
theorem drawOK_edge(hd:drawOK q ops is=true){j:Nat}{o:Oper}(ho:ops[j]? = some o){e:Edge}(he:e ∈ o.after.toList)(hb:Region.binds .any e=true):e.on<j:=by
 unfold drawOK at hd
 simp only[List.all_eq_true,List.mem_range,Bool.and_eq_true] at hd
 have:=(hd j (Array.getElem?_eq_some_iff.1 ho).1).1
 rw[ho] at this
 simp only[List.all_eq_true,Bool.or_eq_true,Bool.not_eq_true',decide_eq_true_eq] at this
 rcases this e he with h | h
 ·rw[hb] at h;cases h
 ·exact h
theorem drawOK_apart(hd:drawOK q ops is=true){i j:Nat}(hj:j<ops.size)(hij:i<j)(hb:((befs ops.toList []).getD j 0).testBit i=false):apart q (is.getD i default) (is.getD j default)=true:=by
 unfold drawOK at hd
 simp only[List.all_eq_true,List.mem_range,Bool.and_eq_true,Bool.or_eq_true] at hd
 rcases (hd j hj).2 i hij with h | h
 ·rw[hb] at h;cases h
 ·exact h
theorem wpAny_ok{F:CallF}(hF:Mono F)(hL:Live' F)(hQ:q=true→Quiet F)(hFG:∀ k args h K,F k args h K→Fn P k args h K)(hc:omap (compI P n ops) ops.toList=some is)(hd:drawOK q ops is=true):∀ (fuel:Nat) (rest:List Nat) (listed:Array Bool) (st:St) (E:Env) (a:Act) (w:World),
  rest.Pairwise (· < ·)→(∀ j,j ∈ rest↔(j<ops.size∧listed.getD j false=false))→listed.size=ops.size→Closed ops (fun j=>listed.getD j false=true)→rest.length≤fuel→StOK E st a w→a.tmps.size=n→∀ {K:St→Prop},
  evTs F (rest.map fun j=>is.getD j default) K st→(∀ a' w',Then lo n E w K a' w'→Q .normal a' w')→wpAny P .any ops Q fuel listed a w:=by
 have unl:∀ (listed:Array Bool) (j:Nat),listed.size=ops.size→(listed.getD j true=false↔(j<ops.size∧listed.getD j false=false)):=fun listed j hs=>by
  by_cases hj:j<listed.size
  ·simp[hj,← hs]
  ·simp[hj,← hs]
 intro fuel
 induction fuel with
 | zero =>
  intro rest listed st E a w _ hr hs _ hl hst hn K he hq
  have hnil:rest=[]:=List.eq_nil_of_length_eq_zero (by omega)
  subst hnil
  refine ⟨?_,hq a w ⟨st,E,he,hst,hn,Ext.refl _ _ _⟩⟩
  refine List.eq_nil_iff_forall_not_mem.2 fun j hj=>?_
  obtain ⟨h0,o,ho,_⟩:=mem_ready.1 hj
  have:=(hr j).2 ((unl listed j hs).1 h0)
  simp at this
 | succ fuel ih =>
  intro rest listed st E a w hp hr hs hcl hl hst hn K he hq
  constructor
  ·intro hnil
   cases rest with
   | nil=>exact hq a w ⟨st,E,he,hst,hn,Ext.refl _ _ _⟩
   | cons j0 js =>
    exfalso
    obtain ⟨hj0,hu⟩:=(hr j0).1 List.mem_cons_self
    have ho:ops[j0]? = some ops[j0]:=Array.getElem?_eq_getElem hj0
    have hmem:j0 ∈ Region.ready .any ops listed:=by
     refine mem_ready.2 ⟨(unl listed j0 hs).2 ⟨hj0,hu⟩,_,ho,fun e hee hb=>?_⟩
     have hlt:=drawOK_edge hd ho (by simpa using hee) hb
     cases hx:listed.getD e.on false with
     | true=>rfl
     | false =>
      have hin:=(hr e.on).2 ⟨by omega,hx⟩
      rcases List.mem_cons.1 hin with h | h
      ·omega
      ·have:=(List.pairwise_cons.1 hp).1 _ h
       omega
    rw[hnil] at hmem
    cases hmem
  ·intro i hi
   obtain ⟨h0,o,ho,hedge⟩:=mem_ready.1 hi
   have hir:i ∈ rest:=(hr i).2 ((unl listed i hs).1 h0)
   obtain ⟨js,ks,rfl⟩:=List.append_of_mem hir
   have hil:i<ops.size:=(Array.getElem?_eq_some_iff.1 ho).1
   have hp2:=List.pairwise_append.1 hp
   have hlist:∀ e ∈ o.after.toList,Region.binds .any e=true→listed.getD e.on false=true:=fun e hee hb=>hedge e (by simpa using hee) hb
   have hap:∀ x ∈ js.map (fun j=>is.getD j default),apart q x (is.getD i default)=true:=fun x hx=>by
    obtain ⟨j,hj,rfl⟩:=List.mem_map.1 hx
    have hji:j<i:=hp2.2.2 j hj i List.mem_cons_self
    refine drawOK_apart hd hil hji ?_
    cases hb:((befs ops.toList []).getD i 0).testBit j with
    | false=>rfl
    | true =>
     have h1:=before_listed hcl i o ho hlist j hb
     have h2:=((hr j).1 (List.mem_append_left _ hj)).2
     rw[h1] at h2
     cases h2
   simp only[List.map_append,List.map_cons] at he
   have he:=evTs_front hF hL hQ hap he
   simp only[evTs] at he
   obtain ⟨_,h2⟩:=omap_get hc
   obtain ⟨ii,hii,hci⟩:=h2 i o (by simpa using ho)
   simp only[List.getD_eq_getElem?_getD,hii,Option.getD_some] at he
   refine wpOp_mono (fun a' w' h=>?_) (wpOp_ok (lo:=lo) ho hci hst hn (evT_le hFG he))
   obtain ⟨st',E',k1,k2,k3,k4⟩:=h
   refine ih (js++ks) (listed.setIfInBounds i true) st' E' a' w' ?_ ?_ (by simpa using hs) ?_ (by simp at hl ⊢;omega) k2 k3 (by simpa[List.getD_eq_getElem?_getD,List.map_append] using k1) fun a'' w'' h=>hq a'' w'' (h.next k4)
   ·refine List.pairwise_append.2 ⟨hp2.1,(List.pairwise_cons.1 hp2.2.1).2,fun x hx y hy=>hp2.2.2 x hx y (List.mem_cons_of_mem _ hy)⟩
   ·intro j
    have hrj:=hr j
    by_cases hji:j=i
    ·subst hji
     have hil':j<listed.size:=by omega
     constructor
     ·intro hj
      exfalso
      rcases List.mem_append.1 hj with h | h
      ·exact absurd (hp2.2.2 j h j List.mem_cons_self) (by omega)
      ·exact absurd ((List.pairwise_cons.1 hp2.2.1).1 j h) (by omega)
     ·rintro ⟨_,h⟩
      simp[hil'] at h
    ·rw[getD_set_ne false (Ne.symm hji),← hrj]
     simp[hji]
   ·intro k o' ho' hk e hee hb
    by_cases hki:k=i
    ·subst hki
     rw[ho] at ho';injection ho' with ho';subst ho'
     exact getD_set_true (hlist e hee hb)
    ·rw[getD_set_ne false (Ne.symm hki)] at hk
     exact getD_set_true (hcl k o' ho' hk e hee hb)
end
def evG(F:CallF)(q:Bool)(ops:Array Oper)(b:List Nat)(is:List Ins):Nat→List Nat→(St→Prop)→St→Prop
 | 0,_,K,st=>K st
 | f + 1,rest,K,st=>if rest=[] then K st else match (rdy ops rest).find? (loneI q b is rest) with
   | some i=>evT F (is.getD i default) (evG F q ops b is f (rest.erase i) K) st
   | none=>∀ i ∈ rdy ops rest,evT F (is.getD i default) (evG F q ops b is f (rest.erase i) K) st
section
variable {F:CallF}{q:Bool}{ops:Array Oper}{b:List Nat}{is:List Ins}
theorem rdy_erase{rest:List Nat}{i j:Nat}(hj:j ∈ rdy ops rest)(h:j≠i):j ∈ rdy ops (rest.erase i):=by
 unfold rdy at hj ⊢
 rw[List.mem_filter] at hj ⊢
 obtain ⟨h1,h2⟩:=hj
 refine ⟨(List.mem_erase_of_ne h).2 h1,?_⟩
 split at h2
 ·rename_i o ho
  simp only[List.all_eq_true,Bool.or_eq_true,Bool.not_eq_true'] at h2 ⊢
  intro e he
  rcases h2 e he with h | h
  ·exact .inl h
  ·right
   simp only[List.contains_eq_mem,decide_eq_false_iff_not] at h ⊢
   exact fun hm=>h (List.mem_of_mem_erase hm)
 ·cases h2
theorem lone_erase{rest:List Nat}{i j:Nat}(h:loneI q b is rest j=true):loneI q b is (rest.erase i) j=true:=by
 unfold loneI at h ⊢
 rw[List.all_eq_true] at h ⊢
 exact fun x hx=>h x (List.mem_of_mem_erase hx)
theorem rdy_mem{rest:List Nat}{i:Nat}(h:i ∈ rdy ops rest):i ∈ rest∧∃ o,ops[i]? = some o∧∀ e ∈ o.after.toList,Region.binds .any e=true→e.on ∉ rest:=by
 unfold rdy at h
 rw[List.mem_filter] at h
 obtain ⟨h1,h2⟩:=h
 split at h2
 ·rename_i o ho
  refine ⟨h1,o,ho,fun e he hb=>?_⟩
  simp only[List.all_eq_true,Bool.or_eq_true,Bool.not_eq_true'] at h2
  rcases h2 e he with h | h
  ·rw[hb] at h;cases h
  ·simpa using h
 ·cases h2
theorem closed_erase{rest:List Nat}{i:Nat}(hn:rest.Nodup)(hc:Closed ops (fun k=>k ∉ rest))(hi:i ∈ rdy ops rest):Closed ops (fun k=>k ∉ rest.erase i):=by
 intro k o ho hk e he hb hm
 have hm':=List.mem_of_mem_erase hm
 by_cases hki:k=i
 ·subst hki
  obtain ⟨_,o',ho',h⟩:=rdy_mem hi
  rw[ho] at ho';injection ho' with ho';subst ho'
  exact h e he hb hm'
 ·exact hc k o ho (fun h=>hk ((List.mem_erase_of_ne hki).2 h)) e he hb hm'
theorem not_bound{rest:List Nat}{i j:Nat}(hc:Closed ops (fun k=>k ∉ rest))(hj:j ∈ rdy ops rest)(hi:i ∈ rest):((befs ops.toList []).getD j 0).testBit i=false:=by
 obtain ⟨_,o,ho,h⟩:=rdy_mem hj
 cases hb:((befs ops.toList []).getD j 0).testBit i with
 | false=>rfl
 | true=>exact absurd hi (before_listed (L:=fun k=>k ∉ rest) hc j o ho h i hb)
theorem lone_apart{rest:List Nat}{i j:Nat}(hc:Closed ops (fun k=>k ∉ rest))(hi:i ∈ rest)(hl:loneI q (befs ops.toList []) is rest i=true)(hj:j ∈ rdy ops rest)(hne:j≠i):apart q (is.getD i default) (is.getD j default)=true:=by
 unfold loneI at hl
 rw[List.all_eq_true] at hl
 have:=hl j (rdy_mem hj).1
 have hb:=not_bound hc hj hi
 rw[hb] at this
 simpa only[Bool.or_eq_true,beq_iff_eq,hne,Bool.false_eq_true,false_or] using this
theorem evG_AB(hF:Mono F)(hL:Live' F)(hQ:q=true→Quiet F):∀ (f:Nat) (rest:List Nat),rest.length=f + 1→rest.Nodup→Closed ops (fun k=>k ∉ rest)→∀ {K:St→Prop},
  (∀ i st,i ∈ rdy ops rest→evG F q ops (befs ops.toList []) is (f + 1) rest K st→evT F (is.getD i default) (evG F q ops (befs ops.toList []) is f (rest.erase i) K) st) ∧
  (∀ i st,i ∈ rdy ops rest→loneI q (befs ops.toList []) is rest i=true→evT F (is.getD i default) (evG F q ops (befs ops.toList []) is f (rest.erase i) K) st→evG F q ops (befs ops.toList []) is (f + 1) rest K st):=by
 intro f
 induction f with
 | zero =>
  intro rest hl hn hc K
  obtain ⟨x,rfl⟩:=List.length_eq_one_iff.1 hl
  have hr:∀ i,i ∈ rdy ops [x]→i=x:=fun i hi=>by simpa using (rdy_mem hi).1
  refine ⟨fun i st hi he=>?_,fun i st hi hlo he=>?_⟩
  ·have:=hr i hi;subst this
   rw[evG,if_neg (by simp)] at he
   split at he
   ·rename_i j hj
    have hj':=hr j (List.mem_of_find?_eq_some hj)
    subst hj';exact he
   ·exact he i hi
  ·have:=hr i hi;subst this
   rw[evG,if_neg (by simp)]
   split
   ·rename_i j hj
    have hj':=hr j (List.mem_of_find?_eq_some hj)
    subst hj';exact he
   ·intro j hj
    have hj':=hr j hj
    subst hj';exact he
 | succ f ih =>
  intro rest hl hn hc K
  have hne:rest≠[]:=fun h=>by rw[h] at hl;cases hl
  have unf:∀ st,evG F q ops (befs ops.toList []) is (f + 1 + 1) rest K st=(match (rdy ops rest).find? (loneI q (befs ops.toList []) is rest) with
   | some i=>evT F (is.getD i default) (evG F q ops (befs ops.toList []) is (f + 1) (rest.erase i) K) st
   | none=>∀ i ∈ rdy ops rest,evT F (is.getD i default) (evG F q ops (befs ops.toList []) is (f + 1) (rest.erase i) K) st):=fun st=>by
   rw[evG,if_neg hne]
  have len:∀ i,i ∈ rest→(rest.erase i).length=f + 1:=fun i hi=>by rw[List.length_erase_of_mem hi,hl];rfl
  have IH:=fun i (hi:i ∈ rdy ops rest)=>ih (rest.erase i) (len i (rdy_mem hi).1) (hn.erase i) (closed_erase hn hc hi) (K:=K)
  have swap:∀ i j st,i ∈ rdy ops rest→loneI q (befs ops.toList []) is rest i=true→j ∈ rdy ops rest→j≠i→evT F (is.getD i default) (evG F q ops (befs ops.toList []) is (f + 1) (rest.erase i) K) st →
    evT F (is.getD j default) (evT F (is.getD i default) (evG F q ops (befs ops.toList []) is f ((rest.erase j).erase i) K)) st:=fun i j st hi hlo hj hji he=>by
   have h1:=evT_mono hF (fun st' h=>(IH i hi).1 j st' (rdy_erase hj hji) h) he
   rw[List.erase_comm] at h1
   exact evT_comm hF hL hQ (lone_apart hc (rdy_mem hi).1 hlo hj hji) h1
  refine ⟨fun i st hi he=>?_,fun i st hi hlo he=>?_⟩
  ·rw[unf] at he
   split at he
   ·rename_i i1 h1
    have hr1:=List.mem_of_find?_eq_some h1
    have hl1:=List.find?_some h1
    by_cases e:i=i1
    ·subst e;exact he
    ·refine evT_mono hF (fun st' h=>?_) (swap i1 i st hr1 hl1 hi e he)
     exact (IH i hi).2 i1 st' (rdy_erase hr1 (Ne.symm e)) (lone_erase hl1) h
   ·exact he i hi
  ·rw[unf]
   split
   ·rename_i i1 h1
    have hr1:=List.mem_of_find?_eq_some h1
    by_cases e:i1=i
    ·subst e;exact he
    ·refine evT_mono hF (fun st' h=>?_) (swap i i1 st hi hlo hr1 e he)
     exact (IH i1 hr1).2 i st' (rdy_erase hi (Ne.symm e)) (lone_erase hlo) h
   ·rename_i h1
    exact absurd hlo (by simpa using List.find?_eq_none.1 h1 i hi)
def evR(F:CallF):RT→(St→Prop)→St→Prop
 | .run is,K,st=>evTs F is K st
 | .fork is a b,K,st=>evTs F is (fun st=>evR F a K st∧evR F b K st) st
theorem evR_cons{i:Ins}{t:RT}{K:St→Prop}{st:St}:evR F (t.cons i) K st=evT F i (evR F t K) st:=by
 cases t<;>simp only[RT.cons,evR,evTs]<;>rfl
theorem evR_forks:∀ {ts:List RT}{K:St→Prop}{st:St},evR F (RT.forks ts) K st→∀ t ∈ ts,evR F t K st
 | [],_,_,_,t,ht=>by cases ht
 | [t],_,_,h,t',ht=>by
  have:t'=t:=by simpa using ht
  subst this;exact h
 | t::t2::ts,K,st,h,t',ht=>by
  simp only[RT.forks,evR,evTs] at h
  rcases List.mem_cons.1 ht with e | e
  ·subst e;exact h.1
  ·exact evR_forks h.2 t' e
theorem grow_ok(hF:Mono F):∀ (f:Nat) (rest:List Nat) {K:St→Prop}{st:St},evR F (grow q ops b is f rest) K st→evG F q ops b is f rest K st
 | 0,rest,K,st,h=>h
 | f + 1,rest,K,st,h=>by
  rw[evG]
  split
  ·rename_i e;subst e;exact h
  ·rename_i hne
   have hg:grow q ops b is (f + 1) rest=(match (rdy ops rest).find? (loneI q b is rest) with
    | some i=>(grow q ops b is f (rest.erase i)).cons (is.getD i default)
    | none=>RT.forks ((rdy ops rest).map fun i=>(grow q ops b is f (rest.erase i)).cons (is.getD i default))):=by
    cases rest with
    | nil=>exact absurd rfl hne
    | cons=>rfl
   rw[hg] at h
   split at h
   ·rename_i i hi
    rw[evR_cons] at h
    exact evT_mono hF (fun st' h'=>grow_ok hF f _ h') h
   ·rename_i hi
    intro i him
    have:=evR_forks h _ (List.mem_map.2 ⟨i,him,rfl⟩)
    rw[evR_cons] at this
    exact evT_mono hF (fun st' h'=>grow_ok hF f _ h') this
section
variable {Q:Exit→Act→World→Prop}{n lo:Nat}
theorem wpAny_G(hF:Mono F)(hL:Live' F)(hQ:q=true→Quiet F)(hFG:∀ k args h K,F k args h K→Fn P k args h K)(hc:omap (compI P n ops) ops.toList=some is)
  (hfw:∀ (j:Nat) o,ops[j]? = some o→∀ e ∈ o.after.toList,Region.binds .any e=true→e.on<j):∀ (fuel:Nat) (rest:List Nat) (listed:Array Bool) (st:St) (E:Env) (a:Act) (w:World),
  rest.Nodup→(∀ j,j ∈ rest↔(j<ops.size∧listed.getD j false=false))→listed.size=ops.size→Closed ops (fun k=>k ∉ rest)→rest.length≤fuel→StOK E st a w→a.tmps.size=n→∀ {K:St→Prop},
  evG F q ops (befs ops.toList []) is rest.length rest K st→(∀ a' w',Then lo n E w K a' w'→Q .normal a' w')→wpAny P .any ops Q fuel listed a w:=by
 have unl:∀ (listed:Array Bool) (j:Nat),listed.size=ops.size→(listed.getD j true=false↔(j<ops.size∧listed.getD j false=false)):=fun listed j hs=>by
  by_cases hj:j<listed.size
  ·simp[hj,← hs]
  ·simp[hj,← hs]
 have edges:∀ (rest:List Nat) (listed:Array Bool),(∀ j,j ∈ rest↔(j<ops.size∧listed.getD j false=false))→∀ (i:Nat) o,ops[i]? = some o→(∀ e ∈ o.after.toList,Region.binds .any e=true→e.on ∉ rest)→∀ e ∈ o.after.toList,Region.binds .any e=true→listed.getD e.on false=true:=fun rest listed hr i o ho h e he hb=>by
  have hlt:=hfw i o ho e he hb
  have hi:=(Array.getElem?_eq_some_iff.1 ho).1
  cases hx:listed.getD e.on false with
  | true=>rfl
  | false=>exact absurd ((hr e.on).2 ⟨by omega,hx⟩) (h e he hb)
 intro fuel
 induction fuel with
 | zero =>
  intro rest listed st E a w _ hr hs _ hl hst hn K he hq
  have hnil:rest=[]:=List.eq_nil_of_length_eq_zero (by omega)
  subst hnil
  refine ⟨?_,hq a w ⟨st,E,he,hst,hn,Ext.refl _ _ _⟩⟩
  refine List.eq_nil_iff_forall_not_mem.2 fun j hj=>?_
  obtain ⟨h0,o,ho,_⟩:=mem_ready.1 hj
  have:=(hr j).2 ((unl listed j hs).1 h0)
  simp at this
 | succ fuel ih =>
  intro rest listed st E a w hp hr hs hcl hl hst hn K he hq
  constructor
  ·intro hnil
   cases hrest:rest with
   | nil=>subst hrest;exact hq a w ⟨st,E,he,hst,hn,Ext.refl _ _ _⟩
   | cons j0' js =>
    exfalso
    obtain ⟨j0,hj0m,hmin⟩:∃ j0,j0 ∈ rest∧∀ j ∈ rest,j0≤j:=by
     have hne:rest≠[]:=by rw[hrest];simp
     exact ⟨rest.min hne,List.min_mem hne,fun j hj=>List.min_le_of_mem hj⟩
    obtain ⟨hj0,hu⟩:=(hr j0).1 hj0m
    have ho:ops[j0]? = some ops[j0]:=Array.getElem?_eq_getElem hj0
    have hmem:j0 ∈ Region.ready .any ops listed:=by
     refine mem_ready.2 ⟨(unl listed j0 hs).2 ⟨hj0,hu⟩,_,ho,fun e hee hb=>?_⟩
     have hlt:=hfw j0 _ ho e (by simpa using hee) hb
     cases hx:listed.getD e.on false with
     | true=>rfl
     | false =>
      have:=hmin e.on ((hr e.on).2 ⟨by omega,hx⟩)
      omega
    rw[hnil] at hmem
    cases hmem
  ·intro i hi
   obtain ⟨h0,o,ho,hedge⟩:=mem_ready.1 hi
   have hir:i ∈ rest:=(hr i).2 ((unl listed i hs).1 h0)
   have hil:i<ops.size:=(Array.getElem?_eq_some_iff.1 ho).1
   have hlist:∀ e ∈ o.after.toList,Region.binds .any e=true→listed.getD e.on false=true:=fun e hee hb=>hedge e (by simpa using hee) hb
   have hrdy:i ∈ rdy ops rest:=by
    unfold rdy
    rw[List.mem_filter]
    refine ⟨hir,?_⟩
    rw[ho]
    simp only[List.all_eq_true,Bool.or_eq_true,Bool.not_eq_true']
    intro e hee
    cases hb:Region.binds .any e with
    | false=>exact .inl rfl
    | true =>
     right
     have:=hlist e hee hb
     simp only[List.contains_eq_mem,decide_eq_false_iff_not]
     intro hm
     rw[((hr e.on).1 hm).2] at this
     cases this
   obtain ⟨m,hm⟩:∃ m,rest.length=m + 1:=⟨rest.length - 1,by have:=List.length_pos_of_mem hir;omega⟩
   rw[hm] at he
   have he:=(evG_AB hF hL hQ m rest hm hp hcl).1 i st hrdy he
   have hel:(rest.erase i).length=m:=by rw[List.length_erase_of_mem hir,hm];rfl
   rw[← hel] at he
   obtain ⟨_,h2⟩:=omap_get hc
   obtain ⟨ii,hii,hci⟩:=h2 i o (by simpa using ho)
   simp only[List.getD_eq_getElem?_getD,hii,Option.getD_some] at he
   refine wpOp_mono (fun a' w' h=>?_) (wpOp_ok (lo:=lo) ho hci hst hn (evT_le hFG he))
   obtain ⟨st',E',k1,k2,k3,k4⟩:=h
   refine ih (rest.erase i) (listed.setIfInBounds i true) st' E' a' w' (hp.erase i) ?_ (by simpa using hs) (closed_erase hp hcl hrdy) (by omega) k2 k3 k1 fun a'' w'' h=>hq a'' w'' (h.next k4)
   intro j
   have hrj:=hr j
   by_cases hji:j=i
   ·subst hji
    have hil':j<listed.size:=by omega
    constructor
    ·intro hj
     exact absurd hj (hp.not_mem_erase)
    ·rintro ⟨_,h⟩
     simp[hil'] at h
   ·rw[getD_set_ne false (Ne.symm hji),← hrj]
    exact List.mem_erase_of_ne hji
end
theorem fwd_ok{ops:Array Oper}(h:fwd ops=true):∀ (j:Nat) o,ops[j]? = some o→∀ e ∈ o.after.toList,Region.binds .any e=true→e.on<j:=by
 intro j o ho e he hb
 unfold fwd at h
 rw[List.all_eq_true] at h
 have:=h j (List.mem_range.2 (Array.getElem?_eq_some_iff.1 ho).1)
 rw[ho] at this
 simp only[List.all_eq_true,Bool.or_eq_true,Bool.not_eq_true',decide_eq_true_eq] at this
 rcases this e he with h | h
 ·rw[hb] at h;cases h
 ·exact h
end
end Go.Ab
namespace Go.Ab
open Go
variable {P:Program}
def Ex.real:Ex→Exit
 | .normal=>.normal
 | .exit id=>.exit id
 | .ret=>.ret
def Post(n lo:Nat)(E:Env)(w:World)(Q:Ex→St→Prop)(e:Exit)(a':Act)(w':World):Prop :=
 ∃ ex st' E',e=ex.real∧Q ex st'∧StOK E' st' a' w'∧a'.tmps.size=n∧Ext lo E w E' w'
def AW(P:Program)(n lo:Nat)(c:C)(Q:Ex→St→Prop)(st:St):Prop :=
 ∀ c',compC P n c'=some c→∀ E a w,StOK E st a w→a.tmps.size=n→c'.wp P (Post n lo E w Q) a w
def Le(lo:Nat)(st st2:St):Prop:=∀ E a w,StOK E st a w→∃ E',StOK E' st2 a w∧Ext lo E w E' w
theorem Le.refl(lo:Nat)(st:St):Le lo st st:=fun E _ _ h=>⟨E,h,Ext.refl _ _ _⟩
theorem Le.trans{lo:Nat}{st st2 st3:St}(h:Le lo st st2)(k:Le lo st2 st3):Le lo st st3:=fun E a w hs =>
 let ⟨_,h1,h2⟩:=h E a w hs
 let ⟨_,k1,k2⟩:=k _ a w h1
 ⟨_,k1,h2.trans k2 (Nat.le_refl _)⟩
theorem Post.next{n lo:Nat}{E E':Env}{w w':World}{Q:Ex→St→Prop}{e:Exit}{a':Act}{w'':World}(x:Ext lo E w E' w')(h:Post n lo E' w' Q e a' w''):Post n lo E w Q e a' w'':=by
 obtain ⟨ex,st',E'',k1,k2,k3,k4,k5⟩:=h
 exact ⟨ex,st',E'',k1,k2,k3,k4,x.trans k5 (Nat.le_refl _)⟩
theorem Post.mono{n lo:Nat}{E:Env}{w:World}{Q Q':Ex→St→Prop}{e:Exit}{a':Act}{w':World}(hq:∀ ex st,Q ex st→Q' ex st)(h:Post n lo E w Q e a' w'):Post n lo E w Q' e a' w':=by
 obtain ⟨ex,st',E',k1,k2,k3⟩:=h
 exact ⟨ex,st',E',k1,hq _ _ k2,k3⟩
section
variable {n lo:Nat}{Q:Ex→St→Prop}{st:St}
theorem AW.mono{c:C}{Q':Ex→St→Prop}(hq:∀ ex st,Q ex st→Q' ex st)(h:AW P n lo c Q st):AW P n lo c Q' st :=
 fun c' hc E a w hst hn=>wp_mono (h c' hc E a w hst hn) fun _ _ _ k=>k.mono hq
theorem AW.weaken{c:C}{st2:St}(hl:Le lo st st2)(h:AW P n lo c Q st2):AW P n lo c Q st:=fun c' hc E a w hst hn=>by
 obtain ⟨E',h1,h2⟩:=hl E a w hst
 exact wp_mono (h c' hc E' a w h1 hn) fun _ _ _ k=>k.next h2
theorem Post.now{E:Env}{w:World}{a:Act}{ex:Ex}(hq:Q ex st)(hst:StOK E st a w)(hn:a.tmps.size=n):Post n lo E w Q ex.real a w:=⟨ex,st,E,rfl,hq,hst,hn,Ext.refl _ _ _⟩
theorem AW.skip(h:Q .normal st):AW P n lo .skip Q st:=fun c' hc E a w hst hn=>by
 unfold compC at hc
 split at hc
 all_goals first
  | exact wp_skip (Post.now h hst hn)
  | exact wp_label (Post.now h hst hn)
  | skip
 all_goals repeat' split at hc
 all_goals first | (cases hc;done) | (obtain ⟨_,_,hc⟩:=map_some' hc;cases hc;done)
theorem AW.exit{id:Nat}(h:Q (.exit id) st):AW P n lo (.exit id) Q st:=fun c' hc E a w hst hn=>by
 unfold compC at hc
 split at hc
 all_goals repeat' split at hc
 all_goals first
  | (cases hc;done)
  | (obtain ⟨_,_,hc⟩:=map_some' hc;cases hc;done)
  | skip
 cases hc
 exact wp_exit (Post.now h hst hn)
theorem AW.ret(h:Q .ret st):AW P n lo .ret Q st:=fun c' hc E a w hst hn=>by
 unfold compC at hc
 split at hc
 all_goals repeat' split at hc
 all_goals first
  | (cases hc;done)
  | (obtain ⟨_,_,hc⟩:=map_some' hc;cases hc;done)
  | exact wp_ret (Post.now h hst hn)
def thenQ(K:St→Prop)(Q:Ex→St→Prop):Ex→St→Prop
 | .normal,st=>K st
 | ex,st=>Q ex st
theorem AW.seq{x y:C}(h:AW P n lo x (thenQ (AW P n lo y Q) Q) st):AW P n lo (.seq x y) Q st:=fun c' hc E a w hst hn=>by
 unfold compC at hc
 split at hc
 all_goals repeat' split at hc
 all_goals first
  | (cases hc;done)
  | (obtain ⟨_,_,hc⟩:=map_some' hc;cases hc;done)
  | skip
 rename_i x' y' _ _ hx hy
 cases hc
 refine wp_seq (wp_mono (h _ hx E a w hst hn) ?_)
 rintro e a' w' ⟨ex,st',E',rfl,k2,k3,k4,k5⟩
 cases ex with
 | normal=>exact wp_mono (k2 _ hy E' a' w' k3 k4) fun _ _ _ k=>k.next k5
 | exit id=>exact ⟨.exit id,st',E',rfl,k2,k3,k4,k5⟩
 | ret=>exact ⟨.ret,st',E',rfl,k2,k3,k4,k5⟩
theorem AW.cond{x:Od}{p q:C}{b:Bool}(hx:x.ev st.s=.bool b)(h:AW P n lo (if b=true then p else q) Q st):AW P n lo (.cond x p q) Q st:=fun c' hc E a w hst hn=>by
 unfold compC at hc
 split at hc
 all_goals repeat' split at hc
 all_goals first
  | (cases hc;done)
  | (obtain ⟨_,_,hc⟩:=map_some' hc;cases hc;done)
  | skip
 rename_i xo p' q' _ _ _ hxo hp hq
 cases hc
 have hv:=od_ok hst.slots hxo
 rw[hx] at hv
 refine wp_cond hv.bool_inv ?_
 cases b with
 | true=>exact h _ hp E a w hst hn
 | false=>exact h _ hq E a w hst hn
def blockQ(id:Nat)(Q:Ex→St→Prop):Ex→St→Prop
 | .exit i,st=>if i=id then Q .normal st else Q (.exit i) st
 | ex,st=>Q ex st
theorem AW.block{id:Nat}{c:C}(h:AW P n lo c (blockQ id Q) st):AW P n lo (.block id c) Q st:=fun c' hc E a w hst hn=>by
 unfold compC at hc
 split at hc
 all_goals repeat' split at hc
 all_goals first
  | (cases hc;done)
  | skip
 all_goals try (obtain ⟨_,hb,hc⟩:=map_some' hc;cases hc)
 refine wp_block (wp_mono (h _ hb E a w hst hn) ?_)
 rintro e a' w' ⟨ex,st',E',rfl,k2,k3,k4,k5⟩
 cases ex with
 | normal=>exact ⟨.normal,st',E',rfl,k2,k3,k4,k5⟩
 | ret=>exact ⟨.ret,st',E',rfl,k2,k3,k4,k5⟩
 | exit i =>
  simp only[blockQ] at k2
  simp only[Ex.real,Exit.inBlock]
  split at k2
  ·rename_i hi
   rw[if_pos hi]
   exact ⟨.normal,st',E',rfl,k2,k3,k4,k5⟩
  ·rename_i hi
   rw[if_neg hi]
   exact ⟨.exit i,st',E',rfl,k2,k3,k4,k5⟩
theorem AW.scope{c:C}(h:AW P n lo c Q st):AW P n lo (.scope c) Q st:=fun c' hc E a w hst hn=>by
 unfold compC at hc
 split at hc
 all_goals repeat' split at hc
 all_goals first
  | (cases hc;done)
  | skip
 all_goals try (obtain ⟨_,hb,hc⟩:=map_some' hc;cases hc)
 refine wp_scope_straight (wp_mono (h _ hb E a w hst hn) ?_)
 rintro e a' w' ⟨ex,st',E',rfl,k2,k3,k4,k5⟩
 cases ex with
 | normal=>exact ⟨.normal,st',E',rfl,k2,k3,k4,k5⟩
 | ret=>exact ⟨.ret,st',E',rfl,k2,k3,k4,k5⟩
 | exit i=>exact ⟨.exit i,st',E',rfl,k2,k3,k4,k5⟩
theorem wp_loop_rel{c:Code}{Q:Exit→Act→World→Prop}(I:Nat→Act→World→Prop)(round:∀ m a w,I m a w→c.wp P (Exit.then (fun a' w'=>∃ m',m'<m∧I m' a' w') Q) a w) :
  ∀ m a w,I m a w→(Code.loop c).wp P Q a w:=by
 intro m a w h0 b k cs
 have key:∀ m a w,I m a w→∃ e a' w',Q e a' w'∧Arrives P (lone (b.at a (.code c::.inLoop c::k)) cs w) b k cs e a' w':=by
  intro m
  induction m using Nat.strongRecOn with
  | _ m ih =>
   intro a w hI
   obtain ⟨e,a₁,w₁,hq,harr⟩:=round m a w hI b (.inLoop c::k) cs
   cases e with
   | normal =>
    obtain ⟨m',hlt,hI₁⟩:=hq
    obtain ⟨e₂,a₂,w₂,hq₂,harr₂⟩:=ih m' hlt a₁ w₁ hI₁
    exact ⟨e₂,a₂,w₂,hq₂,.of_steps (Steps.trans harr (.one step_inLoop)) harr₂⟩
   | exit id=>exact ⟨_,a₁,w₁,hq,.pass (x:=.inLoop c) rfl (fun _ _=>.inl (by simp)) harr⟩
   | goto l=>exact ⟨_,a₁,w₁,hq,.pass (x:=.inLoop c) rfl (fun _ _=>.inl (by simp)) harr⟩
   | ret=>exact ⟨_,a₁,w₁,hq,.pass (x:=.inLoop c) rfl (fun _ _=>.inl (by simp)) harr⟩
   | panic ch=>exact ⟨_,a₁,w₁,hq,.pass (x:=.inLoop c) rfl (fun _ _=>.inl (by simp)) harr⟩
   | outgrown=>exact ⟨_,a₁,w₁,hq,.pass (x:=.inLoop c) rfl (fun _ _=>.inl (by simp)) harr⟩
 obtain ⟨e,a',w',hq,harr⟩:=key m a w h0
 exact ⟨e,a',w',hq,.of_steps (.one step_loop) harr⟩
theorem AW.loop{b:C}(I:Nat→St→Prop){m:Nat}(h0:I m st)(round:∀ m st,I m st→AW P n lo b (thenQ (fun st'=>∃ m' st2,m'<m∧Le lo st' st2∧I m' st2) Q) st):AW P n lo (.loop b) Q st:=fun c' hc E0 a0 w0 hst hn=>by
 unfold compC at hc
 split at hc
 all_goals repeat' split at hc
 all_goals first
  | (cases hc;done)
  | skip
 all_goals try (obtain ⟨_,hb,hc⟩:=map_some' hc;cases hc)
 refine wp_loop_rel (fun m a w=>∃ st E,I m st∧StOK E st a w∧a.tmps.size=n∧Ext lo E0 w0 E w) ?_ m a0 w0 ⟨st,E0,h0,hst,hn,Ext.refl _ _ _⟩
 rintro m a w ⟨st,E,hI,hst,hn,hext⟩
 refine wp_mono (round m st hI _ hb E a w hst hn) ?_
 rintro e a' w' ⟨ex,st',E',rfl,k2,k3,k4,k5⟩
 cases ex with
 | normal =>
  obtain ⟨m',st2,hlt,hle,hI'⟩:=k2
  obtain ⟨E2,q1,q2⟩:=hle E' a' w' k3
  exact ⟨m',hlt,st2,E2,hI',q1,k4,(hext.trans k5 (Nat.le_refl _)).trans q2 (Nat.le_refl _)⟩
 | exit id=>exact ⟨.exit id,st',E',rfl,k2,k3,k4,hext.trans k5 (Nat.le_refl _)⟩
 | ret=>exact ⟨.ret,st',E',rfl,k2,k3,k4,hext.trans k5 (Nat.le_refl _)⟩
theorem evTs_le{F G:CallF}(hFG:∀ k args h K,F k args h K→G k args h K)(hG:Mono G):∀ {is:List Ins}{K:St→Prop}{st:St},evTs F is K st→evTs G is K st
 | [],_,_,he=>he
 | _::_,_,_,he=>evT_mono hG (fun _=>evTs_le hFG hG) (evT_le hFG he)
theorem range_map_getD{α : Type}[Inhabited α](l:List α):((List.range l.length).map fun j=>l.getD j default)=l:=by
 refine List.ext_getElem? fun i=>?_
 rw[List.getElem?_map]
 by_cases hi:i<l.length
 ·simp[List.getElem?_range hi,hi]
 ·rw[List.getElem?_eq_none (l:=List.range l.length) (by rw[List.length_range];omega),List.getElem?_eq_none (l:=l) (by omega)]
  rfl
theorem StOK.drew{E:Env}{a:Act}{w:World}(hst:StOK E st a w):StOK E st a w.drew∧Ext lo E w E w.drew:=by
 obtain ⟨h1,h2⟩:=hst.heap.more (More.refl w).drew
 exact ⟨⟨fun i=>(hst.slots i).ext (h2 _) hst.heap.dom,hst.defers,h1⟩,h2 _⟩
theorem AW.reg_{F:CallF}(hF:Mono F)(hL:Live' F){q:Bool}(hQ:q=true→Quiet F)(hFG:∀ k args h K,F k args h K→Fn P k args h K){is:List Ins}(h:evTs F is (Q .normal) st) :
  ∀ c',(compC P n c'=some (if q=true then .regq is else .reg is))→∀ E a w,StOK E st a w→a.tmps.size=n→c'.wp P (Post n lo E w Q) a w:=fun c' hc E a w hst hn=>by
 have fin:∀ E1 a' w1 w',Ext lo E w E1 w1→Then lo n E1 w1 (Q .normal) a' w'→Post n lo E w Q .normal a' w':=by
  rintro E1 a' w1 w' hx ⟨st',E',k1,k2,k3,k4⟩
  exact ⟨.normal,st',E',rfl,k1,k2,k3,hx.trans k4 (Nat.le_refl _)⟩
 have drawn:∀ {ops:Array Oper}{id:Nat},omap (compI P n ops) ops.toList=some is→drawOK q ops is=true→(P.follows .mixedOrders || !Region.departs ops)=true→(Code.region id ops true).wp P (Post n lo E w Q) a w:=fun {ops id} hops hd hm=>by
  obtain ⟨hlen,_⟩:=omap_get hops
  have hlen:is.length=ops.size:=by simpa using hlen
  refine wp_region_draw fun t=>?_
  obtain ⟨d1,d2⟩:=hst.drew (lo:=lo)
  simp only[Region.schedule,hm,if_true]
  refine wpAny_sound ops.size t _ a _ (wpAny_ok hF hL hQ hFG hops hd ops.size (List.range ops.size) _ st E a w.drew List.pairwise_lt_range (fun j=>?_) (by simp) ?_ (by simp) d1 hn (K:=Q .normal) ?_ fun a' w' ht=>fin E a' w.drew w' d2 ht)
  ·rw[List.mem_range]
   constructor
   ·intro hj
    exact ⟨hj,by simp[hj]⟩
   ·exact fun hj=>hj.1
  ·intro k o ho hk
   have:=(Array.getElem?_eq_some_iff.1 ho).1
   simp[this] at hk
  ·rw[← hlen,range_map_getD]
   exact h
 unfold compC at hc
 split at hc
 case h_3 =>
  rename_i id ops draw
  split at hc
  case h_2=>cases hc
  rename_i is' hops
  split at hc
  ·rename_i hdraw
   subst hdraw
   split at hc
   case isFalse=>cases hc
   rename_i hm
   split at hc
   ·rename_i hd
    cases q with
    | true=>cases hc
    | false=>cases hc;exact drawn hops hd hm
   ·split at hc
    case isFalse=>split at hc<;>cases q<;>cases hc
    rename_i hd
    cases q with
    | false=>cases hc
    | true=>cases hc;exact drawn hops hd hm
  ·rename_i hdraw
   cases q with
   | true=>cases hc
   | false =>
    cases hc
    have:draw=false:=by simpa using hdraw
    subst this
    obtain ⟨hlen,_⟩:=omap_get hops
    have hlen:is.length=ops.size:=by simpa using hlen
    refine wp_region (wpOps_ok hops (List.range ops.size) st E a w (fun j hj=>List.mem_range.1 hj) hst hn (K:=Q .normal) ?_ fun a' w' ht=>fin E a' w w' (Ext.refl _ _ _) ht)
    rw[← hlen,range_map_getD]
    exact evTs_le hFG Fn_mono h
 all_goals repeat' split at hc
 all_goals first | (cases hc;done) | (obtain ⟨_,_,hc⟩:=map_some' hc;cases hc;done)
theorem AW.reg{is:List Ins}(h:evTs (Fn P) is (Q .normal) st):AW P n lo (.reg is) Q st :=
 AW.reg_ (q:=false) Fn_mono Fn_live (fun h=>by cases h) (fun _ _ _ _ h=>h) h
theorem AW.regq{is:List Ins}(h:evTs (Fnq P) is (Q .normal) st):AW P n lo (.regq is) Q st :=
 AW.reg_ (q:=true) Fnq_mono Fnq_live (fun _=>Fnq_quiet) Fnq_Fn h
theorem AW.regt{t:RT}(h:evR (Fnq P) t (Q .normal) st):AW P n lo (.regt t) Q st:=fun c' hc E a w hst hn=>by
 have fin:∀ E1 a' w1 w',Ext lo E w E1 w1→Then lo n E1 w1 (Q .normal) a' w'→Post n lo E w Q .normal a' w':=by
  rintro E1 a' w1 w' hx ⟨st',E',k1,k2,k3,k4⟩
  exact ⟨.normal,st',E',rfl,k1,k2,k3,hx.trans k4 (Nat.le_refl _)⟩
 unfold compC at hc
 split at hc
 case h_3 =>
  rename_i id ops draw
  split at hc
  case h_2=>cases hc
  rename_i is' hops
  split at hc
  case isFalse=>cases hc
  rename_i hdraw
  subst hdraw
  split at hc
  case isFalse=>cases hc
  rename_i hm
  split at hc
  ·cases hc
  split at hc
  ·cases hc
  split at hc
  case isFalse=>cases hc
  rename_i hw
  cases hc
  refine wp_region_draw fun t=>?_
  obtain ⟨d1,d2⟩:=hst.drew (lo:=lo)
  simp only[Region.schedule,hm,if_true]
  have hg:=grow_ok Fnq_mono _ _ h
  refine wpAny_sound ops.size t _ a _ (wpAny_G Fnq_mono Fnq_live (fun _=>Fnq_quiet) Fnq_Fn hops (fwd_ok hw) ops.size (List.range ops.size) _ st E a w.drew List.nodup_range (fun j=>?_) (by simp) ?_ (by simp) d1 hn (K:=Q .normal) (by rw[List.length_range];exact hg) fun a' w' ht=>fin E a' w.drew w' d2 ht)
  ·rw[List.mem_range]
   constructor
   ·intro hj
    exact ⟨hj,by simp[hj]⟩
   ·exact fun hj=>hj.1
  ·intro k o ho hk
   have:=(Array.getElem?_eq_some_iff.1 ho).1
   simp[this] at hk
 all_goals repeat' split at hc
 all_goals first | (cases hc;done) | (obtain ⟨_,_,hc⟩:=map_some' hc;cases hc;done)
end
end Go.Ab
namespace Go.Ab
open Go
def Env.pickB(E:Env)(ks:List Nat):Env :=
 { E with rho:=fun b=>(ks[b]?).bind E.rho,ke:=fun b=>E.ke (ks.getD b 0),ca:=fun b=>E.ca (ks.getD b 0) }
section
variable {E:Env}{w:World}{h:Hp}{ks:List Nat}
theorem idxOf?_get{b i:Nat}(h:ks.idxOf? b=some i):ks[i]? = some b:=by
 induction ks generalizing i with
 | nil=>simp at h
 | cons k ks ih =>
  rw[List.idxOf?_cons] at h
  split at h
  ·rename_i hk
   injection h with h;subst h
   simp at hk
   simp[hk]
  ·simp only[Option.map_eq_some_iff] at h
   obtain ⟨j,hj,rfl⟩:=h
   simpa using ih hj
theorem pickB_at{b i:Nat}(h:ks.idxOf? b=some i):(E.pickB ks).rho i=E.rho b∧(E.pickB ks).ke i=E.ke b∧(E.pickB ks).ca i=E.ca b:=by
 have:=idxOf?_get h
 simp[Env.pickB,this]
theorem ren_RV:∀ (n:Nat) {v:AV}{u:Value},RV E w v u→RV (E.pickB ks) w (ren ks n v) u:=by
 intro n
 induction n with
 | zero=>intro v u _;exact .junk u
 | succ n ih =>
  intro v u hr
  cases v with
  | ptr b off =>
   obtain ⟨g,h1,rfl⟩:=hr.ptr_inv
   simp only[ren]
   split
   ·rename_i i hi;exact .ptr _ _ _ ((pickB_at hi).1.trans h1)
   ·exact .junk _
  | eptr b j off =>
   obtain ⟨g,h1,rfl⟩:=hr.eptr_inv
   simp only[ren]
   split
   ·rename_i i hi
    rw[← (pickB_at (E:=E) hi).2.1]
    exact .eptr _ _ _ _ ((pickB_at hi).1.trans h1)
   ·exact .junk _
  | row e b off len =>
   obtain ⟨h1,h2⟩:=hr.row_inv
   simp only[ren]
   split
   ·rename_i i hi
    obtain ⟨p1,p2,p3⟩:=pickB_at (E:=E) hi
    rcases h2 with ⟨k1,rfl,rfl,A,rfl⟩ | ⟨g,cap,A,k1,rfl,k2,k3,k4,k5⟩
    ·exact .row0 _ _ _ (p1.trans k1) (p2.trans h1)
    ·exact .row _ _ _ _ g _ _ (p1.trans k1) (p2.trans h1) k2 k3 (k4.trans p3.symm) (p3 ▸ k5)
   ·exact .junk _
  | arow e b off len =>
   obtain ⟨g,cap,A,k1,rfl,k2,k3,k4⟩:=hr.arow_inv
   simp only[ren]
   split
   ·rename_i i hi;exact .arow _ _ _ _ g _ _ ((pickB_at hi).1.trans k1) k2 k3 k4
   ·exact .junk _
  | crow e b off len c =>
   obtain ⟨h1,h2⟩:=hr.crow_inv
   simp only[ren]
   split
   ·rename_i i hi
    obtain ⟨p1,p2,p3⟩:=pickB_at (E:=E) hi
    rcases h2 with ⟨k1,rfl,rfl,rfl,A,rfl⟩ | ⟨g,A,k1,rfl,k2,k3,k4,k5⟩
    ·exact .crow0 _ _ _ (p1.trans k1) (p2.trans h1)
    ·exact .crow _ _ _ _ g _ _ (p1.trans k1) (p2.trans h1) k2 k3 (k4.trans p3.symm) (p3 ▸ k5)
   ·exact .junk _
  | mref b =>
   obtain ⟨g,h1,rfl⟩:=hr.mref_inv
   simp only[ren]
   split
   ·rename_i i hi;exact .mref _ _ ((pickB_at hi).1.trans h1)
   ·exact .junk _
  | agg cs =>
   obtain ⟨us,rfl,h1,h2⟩:=hr.agg_inv
   simp only[ren]
   refine .agg _ us (by simpa using h1) fun i c u hc hu=>?_
   simp only[List.getElem?_map,Option.map_eq_some_iff] at hc
   obtain ⟨c',hc',rfl⟩:=hc
   exact ih (h2 i c' u hc' hu)
  | tup cs =>
   obtain ⟨us,rfl,h1,h2⟩:=hr.tup_inv
   simp only[ren]
   refine .tup _ us (by simpa using h1) fun i c u hc hu=>?_
   simp only[List.getElem?_map,Option.map_eq_some_iff] at hc
   obtain ⟨c',hc',rfl⟩:=hc
   exact ih (h2 i c' u hc' hu)
  | fn f cs =>
   obtain ⟨us,rfl,h1,h2⟩:=hr.fn_inv
   simp only[ren]
   refine .fn f _ us (by simpa using h1) fun i c u hc hu=>?_
   simp only[List.getElem?_map,Option.map_eq_some_iff] at hc
   obtain ⟨c',hc',rfl⟩:=hc
   exact ih (h2 i c' u hc' hu)
  | bnd f cs =>
   obtain ⟨us,rfl,h1,h2⟩:=hr.bnd_inv
   simp only[ren]
   refine .bnd f _ us (by simpa using h1) fun i c u hc hu=>?_
   simp only[List.getElem?_map,Option.map_eq_some_iff] at hc
   obtain ⟨c',hc',rfl⟩:=hc
   exact ih (h2 i c' u hc' hu)
  | fr e xs=>exact (hr.fr_inv).elim
  | junk=>exact .junk _
  | bool b=>rw[hr.bool_inv];exact .imm (.bool b)
  | int k m=>rw[hr.int_inv];exact .imm (.int k m)
  | str s=>rw[hr.str_inv];exact .imm (.str s)
  | nilp=>rw[hr.nilp_inv];exact .imm .nilp
  | nilfn=>rw[hr.nilfn_inv];exact .imm .nilfn
  | nilmp=>rw[hr.nilmp_inv];exact .imm .nilmp
  | pro cs=>exact .imm hr.pro_inv
  | sl e f xs=>exact .imm hr.sl_inv
  | mp k v=>exact .imm hr.mp_inv
theorem ren_ok1(n:Nat){c:AV}(h:Ok1 c):Ok1 (ren ks n c):=by
 cases n with
 | zero=>exact .inr rfl
 | succ n =>
  cases c<;>simp only[ren]<;>first
   | exact h
   | (split<;>first | exact .inr rfl | exact .inl rfl)
   | (rcases h with h | h<;>first | (cases h;done) | exact .inl rfl | exact .inr rfl)
   | exact .inr rfl
   | exact .inl rfl
theorem ren_shape{e:Nat}{x:AV}(h:Shape e x):Shape e (ren ks deep x):=by
 unfold Shape at *
 split
 ·rename_i he
  rw[if_pos he] at h
  exact ren_ok1 _ h
 ·rename_i he
  rw[if_neg he] at h
  obtain ⟨cs,rfl,h1,h2⟩:=h
  obtain ⟨m,hd⟩:∃ m,deep=m + 1:=⟨11,rfl⟩
  rw[hd]
  refine ⟨cs.map (ren ks m),rfl,by simpa using h1,fun c hc=>?_⟩
  obtain ⟨c',hc',rfl⟩:=List.mem_map.1 hc
  exact ren_ok1 _ (h2 c' hc')
theorem renB_ok{b i:Nat}(hi:ks[i]? = some b){x:HB}(hb:BOK E w b x):BOK (E.pickB ks) w i (renB ks x):=by
 have p1:(E.pickB ks).rho i=E.rho b:=by simp[Env.pickB,hi]
 have p2:(E.pickB ks).ke i=E.ke b:=by simp[Env.pickB,hi]
 have p3:(E.pickB ks).ca i=E.ca b:=by simp[Env.pickB,hi]
 cases x with
 | dead=>trivial
 | cel cs =>
  obtain ⟨g,vals,t,fz,k1,k2,k3,k4,k5,k6⟩:=hb
  refine ⟨g,vals,t,fz,p1.trans k1,k2,k3,by simpa using k4,fun c hc=>?_,fun j c u hc hu=>?_⟩
  ·obtain ⟨c',hc',rfl⟩:=List.mem_map.1 hc
   exact ren_ok1 _ (k5 c' hc')
  ·simp only[List.getElem?_map,Option.map_eq_some_iff] at hc
   obtain ⟨c',hc',rfl⟩:=hc
   exact ren_RV _ (k6 j c' u hc' hu)
 | els e xs =>
  obtain ⟨k0,hb⟩:=hb
  refine ⟨p2.trans k0,?_⟩
  rcases hb with ⟨k1,rfl⟩ | ⟨g,vals,t,fz,k1,k2,k3,k4,k5,k6,k7,k8⟩
  ·exact .inl ⟨p1.trans k1,rfl⟩
  ·refine .inr ⟨g,vals,t,fz,p1.trans k1,k2,k3,by rw[p3];exact k4,by rw[p3,List.length_map];exact k5,by rw[p3];exact k6,by rw[List.length_map];exact k7,fun j x hx=>?_⟩
   simp only[List.getElem?_map,Option.map_eq_some_iff] at hx
   obtain ⟨x',hx',rfl⟩:=hx
   obtain ⟨s1,u,s2,s3,s4⟩:=k8 j x' hx'
   exact ⟨ren_shape s1,u,ren_RV _ s2,s3,s4⟩
 | itr s pos =>
  obtain ⟨g,k1,k2⟩:=hb
  exact ⟨g,p1.trans k1,k2⟩
 | map k v =>
  obtain ⟨g,es,cl,k1,k2⟩:=hb
  exact ⟨g,es,cl,p1.trans k1,k2⟩
theorem renB_alive{x:HB}(h:(renB ks x).alive):x.alive:=by cases x<;>first | exact h | trivial
theorem getD_dead{b:Nat}{x:HB}(h1:h.getD b .dead=x)(h2:x.alive):h[b]? = some x:=by
 rw[List.getD_eq_getElem?_getD] at h1
 cases hb:h[b]? with
 | none=>rw[hb] at h1;subst h1;exact h2.elim
 | some y=>rw[hb] at h1;exact congrArg some h1
theorem HOK.pickB(hok:HOK E h w)(hn:ks.Nodup):HOK (E.pickB ks) (ks.map fun b=>renB ks (h.getD b .dead)) w:=by
 have at_:∀ (i:Nat) x,(ks.map fun b=>renB ks (h.getD b .dead))[i]? = some x→∃ b,ks[i]? = some b∧x=renB ks (h.getD b .dead):=fun i x hx=>by
  simp only[List.getElem?_map,Option.map_eq_some_iff] at hx
  obtain ⟨b,hb,rfl⟩:=hx
  exact ⟨b,hb,rfl⟩
 have al:∀ b,(renB ks (h.getD b .dead)).alive→h[b]? = some (h.getD b .dead)∧(h.getD b .dead).alive:=fun b ha=>⟨getD_dead rfl (renB_alive ha),renB_alive ha⟩
 have rh:∀ i b r,ks[i]? = some b→(E.pickB ks).rho i=some r→E.rho b=some r:=fun i b r hi e=>by simpa[Env.pickB,hi] using e
 refine ⟨fun i x hx=>?_,fun i r e=>?_,fun i x g hx ha e=>?_,fun i j x y g hx hy ha hb e1 e2=>?_,hok.old,hok.size⟩
 ·obtain ⟨b,hb,rfl⟩:=at_ i x hx
  by_cases ha:(renB ks (h.getD b .dead)).alive
  ·exact renB_ok hb (hok.blocks b _ (al b ha).1)
  ·cases hg:h.getD b .dead with
   | dead=>trivial
   | _=>rw[hg] at ha;exact absurd trivial ha
 ·cases hi:ks[i]? with
  | none=>simp[Env.pickB,hi] at e
  | some b=>simpa using (List.getElem?_eq_some_iff.1 hi).1
 ·obtain ⟨b,hb,rfl⟩:=at_ i x hx
  exact hok.own b _ g (al b ha).1 (al b ha).2 (rh i b _ hb e)
 ·obtain ⟨b,hb',rfl⟩:=at_ i x hx
  obtain ⟨c,hc',rfl⟩:=at_ j y hy
  have hbc:=hok.inj b c _ _ g (al b ha).1 (al c hb).1 (al b ha).2 (al c hb).2 (rh i b _ hb' e1) (rh j c _ hc' e2)
  subst hbc
  have h1:=(List.getElem?_eq_some_iff.1 hb').1
  exact (List.getElem?_inj h1 hn).1 (hb'.trans hc'.symm)
theorem renS_ok{s:Nat→AV}{a:Act}(hs:SOK E w s a):∀ (live:List Nat),SOK (E.pickB ks) w (renS ks s live) a
 | [],i=>.junk _
 | l::ls,i=>by
  simp only[renS,put]
  split
  ·rename_i h;subst h;exact ren_RV _ (hs i)
  ·exact renS_ok hs ls i
theorem Le.restrict{lo:Nat}{st:St}(ks live:List Nat)(hn:ks.Nodup)(hlo:∀ b,b<lo→ks[b]? = some b):Le lo st (Ab.restrict ks live st):=fun E a w hst=>by
 refine ⟨E.pickB ks,⟨renS_ok hst.slots live,hst.defers,hst.heap.pickB hn⟩,Blw.refl _ _,rfl,Kept.refl _ _,fun _ _ s=>.inl s,fun b r hb e=>?_⟩
 simp[Env.pickB,hlo b hb,e]
end
section
variable {lo:Nat}{st:St}
theorem Le.freeze{i:Nat}{x:AV}{h':Hp}(hf:Ab.freeze st.h (st.s i)=some (x,h')):Le lo st ⟨put st.s i x,h'⟩:=fun E a w hst=>by
 obtain ⟨E',h1,h2,h3,h4,h5⟩:=freeze_ok hst.heap (hst.slots i) hf
 refine ⟨E',⟨fun j=>?_,hst.defers,h1⟩,h2 lo⟩
 simp only[put]
 split
 ·rename_i e;subst e;exact .imm h3
 ·exact (hst.slots j).ext (h2 _) hst.heap.dom
theorem Le.nilRow{i e:Nat}(hi:st.s i=.sl e true []):Le lo st ⟨put st.s i (.row e st.h.length 0 0),st.h++[.els e []]⟩:=fun E a w hst=>by
 have hx:=hst.heap.ext_more (More.refl w) none e 0
 have hk:HOK (E.push st.h.length none e 0) (st.h++[.els e []]) w:=hst.heap.push (More.refl w) none e 0 (.els e []) ⟨by simp,.inl ⟨by simp,rfl⟩⟩ (fun g hg=>by cases hg)
 refine ⟨_,⟨fun j=>?_,hst.defers,hk⟩,hx.wide hst.heap lo⟩
 simp only[put]
 split
 ·rename_i e';subst e'
  have hv:=hst.slots j
  rw[hi] at hv
  generalize a.tmps.getD j undef=u at hv
  cases hv.sl_inv with
  | sl _ _ _ A cap g o uu hl hm hf hA hfit hc hr =>
   have:=hf rfl
   simp only[List.length_nil] at this
   subst this
   exact .row0 e st.h.length A (by simp) (by simp)
 ·exact (hst.slots j).ext hx hst.heap.dom
end
end Go.Ab
namespace Go.Ab
open Go
variable {P:Program}
def compRv(P:Program):ResultVar→Option Rv
 | .tmp t=>some (.slot t)
 | .cell x t=>(ecode P t).map (.cell x)
def fd?(P:Program)(f:Nat):Option (Nat×List Rv×C) :=
 match P.funcs[f]? with
 | some fn => if fn.name == "runtime.NumGoroutine" then none else match fn.body with
  | some c=>match omap (compRv P) fn.results.toList,compC P fn.ntmps c with
   | some rs,some ir=>some (fn.ntmps,rs,ir)
   | _,_=>none
  | none=>none
 | none=>none
theorem fd?_entered{f:Nat}{d:Nat×List Rv×C}(h:fd? P f=some d):Entered P f:=by
 unfold fd? at h
 split at h
 case h_2=>cases h
 rename_i fn hfn
 split at h
 ·cases h
 ·rename_i hnm
  split at h
  case h_2=>cases h
  rename_i c hc
  exact ⟨fn,c,hfn,by simpa using hnm,hc⟩
def resF(a:Act):ResultVar→Sem Value
 | .tmp t=>pure (a.tmps.getD t undef)
 | .cell x t=>do loadVar t (← asAddr (a.tmps.getD x undef))
theorem results_eq(fn:Func)(a:Act):results fn a.tmps=(do
  let vs ← fn.results.mapM (resF a)
  pure (if h:vs.size=1 then vs[0] else .tuple vs)):=by
 unfold results
 congr 1
section
variable {E:Env}{w:World}{st:St}{a:Act}
theorem resV_ok(hst:StOK E st a w){r:ResultVar}{q:Rv}{v:AV}(hc:compRv P r=some q)(hv:resV st q=some v) :
  ∃ u,(resF a r).run P w=.ok u w∧RV E w v u:=by
 cases r with
 | tmp t =>
  simp only[compRv,Option.some.injEq] at hc
  subst hc
  simp only[resV,Option.some.injEq] at hv
  subst hv
  exact ⟨_,by simp only[resF,Sem.run_pure],hst.slots t⟩
 | cell x t =>
  obtain ⟨e,he,hc⟩:=map_some' hc
  subst hc
  obtain ⟨⟨v',h'⟩,hl,hv⟩:=map_some' hv
  simp only at hv
  subst hv
  obtain ⟨g,off,u,hp,hrun,hrv,_⟩:=load_core (P:=P) (x':=.t x) hst.heap he (hst.slots x) hl
  exact ⟨u,by simp only[resF,hp,asAddr,Sem.run_bind,Sem.run_pure,Result.andThen_ok,hrun],hrv⟩
theorem resL_ok(hst:StOK E st a w):∀ (rs:List ResultVar) (qs:List Rv) (vs:List AV),omap (compRv P) rs=some qs→omap (resV st) qs=some vs →
  ∃ us:List Value,us.length=vs.length∧(rs.mapM (resF a)).run P w=.ok us w∧∀ (i:Nat) v u,vs[i]? = some v→us[i]? = some u→RV E w v u
 | [],qs,vs,h1,h2=>by
  injection h1 with h1;subst h1
  injection h2 with h2;subst h2
  exact ⟨[],rfl,by simp,fun i v u hv=>by simp at hv⟩
 | r::rs,qs,vs,h1,h2=>by
  simp only[omap] at h1
  split at h1
  case h_2=>cases h1
  rename_i q qs' hq hqs
  injection h1 with h1;subst h1
  simp only[omap] at h2
  split at h2
  case h_2=>cases h2
  rename_i v vs' hv hvs
  injection h2 with h2;subst h2
  obtain ⟨u,k1,k2⟩:=resV_ok hst hq hv
  obtain ⟨us,l1,l2,l3⟩:=resL_ok hst rs qs' vs' hqs hvs
  refine ⟨u::us,by simp[l1],by simp[List.mapM_cons,k1,l2],fun i v' u' hv' hu'=>?_⟩
  cases i with
  | zero=>simp at hv' hu';subst hv';subst hu';exact k2
  | succ i=>exact l3 i v' u' (by simpa using hv') (by simpa using hu')
theorem results_ok(hst:StOK E st a w){fn:Func}{qs:List Rv}{v:AV}(hc:omap (compRv P) fn.results.toList=some qs)(hv:resVs st qs=some v) :
  ∃ u,(results fn a.tmps).run P w=.ok u w∧RV E w v u:=by
 unfold resVs at hv
 have key:∃ vs,omap (resV st) qs=some vs∧v=(match vs with | [v]=>v | vs=>.tup vs):=by
  split at hv
  ·rename_i x hx
   injection hv with hv;subst hv
   exact ⟨_,hx,rfl⟩
  ·rename_i vs hne hx
   injection hv with hv;subst hv
   refine ⟨_,hx,?_⟩
   split
   ·rename_i x
    exact (hne x rfl).elim
   ·rfl
  ·cases hv
 obtain ⟨vs,hvs,rfl⟩:=key
 obtain ⟨us,l1,l2,l3⟩:=resL_ok hst fn.results.toList qs vs hc hvs
 have hrun:(results fn a.tmps).run P w=.ok (if h:us.toArray.size=1 then us.toArray[0] else .tuple us.toArray) w:=by
  rw[results_eq,Array.mapM_eq_mapM_toList]
  simp[l2]
 refine ⟨_,hrun,?_⟩
 clear hrun l2 hvs
 rcases vs with _ | ⟨x,_ | ⟨y,vs⟩⟩<;>rcases us with _ | ⟨u,_ | ⟨z,us⟩⟩<;>try (simp at l1;done)
 ·exact .tup _ _ rfl fun i c u hc=>by simp at hc
 ·exact l3 0 x u rfl rfl
 ·exact .tup _ _ (by simpa using l1) fun i c u hc hu=>l3 i c u hc (by simpa using hu)
theorem slotsOf_get:∀ (vs:List AV) (i:Nat),slotsOf vs i=vs.getD i .junk
 | [],i=>by simp[slotsOf]
 | v::vs,0=>by simp[slotsOf]
 | v::vs,i + 1=>by simp[slotsOf,slotsOf_get vs i]
theorem enter_ok(hok:HOK E st.h w){args:List AV}{us:Array Value}{n:Nat}(hs:st.s=slotsOf args)(hl:us.size=args.length)(hr:∀ (i:Nat) c u,args[i]? = some c→us[i]? = some u→RV E w c u) :
  StOK E st { tmps:=us++Array.replicate (n - us.size) undef,defers:=[] } w:=by
 refine ⟨fun i=>?_,rfl,hok⟩
 rw[hs,slotsOf_get,List.getD_eq_getElem?_getD]
 by_cases hi:i<args.length
 ·have hi':i<us.size:=by omega
  have h1:=hr i args[i] us[i] (List.getElem?_eq_getElem hi) (Array.getElem?_eq_getElem hi')
  simp only[List.getElem?_eq_getElem hi,Option.getD_some,Array.getD_eq_getD_getElem?]
  rw[Array.getElem?_append_left hi',Array.getElem?_eq_getElem hi']
  exact h1
 ·rw[List.getElem?_eq_none (by omega)]
  exact .junk _
end
theorem code_calls{f n:Nat}{rs:List Rv}{ir:C}(hf:fd? P f=some (n,rs,ir)){args:List AV}(hn:args.length≤n){h:Hp}{R:AV→Hp→Prop}
  (hw:AW P n h.length ir (fun ex st=>(ex=.normal∨ex=.ret)∧∃ v,resVs st rs=some v∧R v st.h) ⟨slotsOf args,h⟩) {E:Env}{w:World}{us:Array Value}(hok:HOK E h w) (hl:us.size=args.length)
  (hr:∀ (i:Nat) c u,args[i]? = some c→us[i]? = some u→RV E w c u) :
  Calls P f us w fun e w'=>∃ u E' r h',e=.returned u∧R r h'∧HOK E' h' w'∧Ext h.length E w E' w'∧RV E' w' r u:=by
 unfold fd? at hf
 split at hf
 case h_2=>cases hf
 rename_i fn hfn
 split at hf
 ·cases hf
 rename_i hnm
 split at hf
 case h_2=>cases hf
 rename_i c hc
 split at hf
 case h_2=>cases hf
 rename_i rs' ir' hrs hir
 injection hf with hf;injection hf with e1 hf;injection hf with e2 e3
 subst e1;subst e2;subst e3
 refine calls_of_wp hfn hc ?_
 have hst:StOK E ⟨slotsOf args,h⟩ { tmps:=us++Array.replicate (fn.ntmps - us.size) undef,defers:=[] } w:=enter_ok hok rfl hl hr
 refine wp_mono (hw _ hir E _ w hst (by simp;omega)) ?_
 rintro e a' w' ⟨ex,st',E',rfl,⟨hex,v,hv,hR⟩,k3,k4,k5⟩
 obtain ⟨u,hrun,hrv⟩:=results_ok (P:=P) k3 hrs hv
 have fin:a'.defers=[]∧∃ v,(results fn a'.tmps).run P w'=.ok v w'∧∃ u E'' r h',Ending.returned v=.returned u∧R r h'∧HOK E'' h' w'∧Ext h.length E w E'' w'∧RV E'' w' r u :=
  ⟨k3.defers,u,hrun,u,E',v,st'.h,rfl,hR,k3.heap,k5,hrv⟩
 rcases hex with rfl | rfl
 ·exact fin
 ·exact fin
theorem Fn.of_code{f n:Nat}{rs:List Rv}{ir:C}(hf:fd? P f=some (n,rs,ir)){args:List AV}(hn:args.length≤n){h:Hp}{R:AV→Hp→Prop}(hR:∃ r h',R r h')
  (hw:AW P n h.length ir (fun ex st=>(ex=.normal∨ex=.ret)∧∃ v,resVs st rs=some v∧R v st.h) ⟨slotsOf args,h⟩):Fn P f args h R :=
 ⟨fd?_entered hf,hR,fun _ _ _ hok hl hr=>code_calls hf hn hw hok hl hr⟩
def Pure(P:Program)(f:Nat)(args:List AV)(R:AV→Prop):Prop :=
 Entered P f∧(∃ r,R r)∧∀ (S:Nat→Nat→Prop) (w:World) (us:Array Value),(∀ g o,S g o→g<w.heap.size)→us.size=args.length→(∀ (i:Nat) c u,args[i]? = some c→us[i]? = some u→RI S w c u) →
  Calls P f us w fun e w'=>∃ u S' r,e=.returned u∧R r∧Blw w.heap.size w w'∧Kept S S' w w'∧(∀ g o,S' g o→S g o∨w.heap.size≤g)∧(∀ g o,S' g o→g<w'.heap.size)∧ResOK S' w' w.heap.size r u
theorem Pure.mono{f:Nat}{args:List AV}{R R':AV→Prop}(hr:∀ r,R r→R' r)(hf:Pure P f args R):Pure P f args R' :=
 ⟨hf.1,hf.2.1.imp fun _ h=>hr _ h,fun S w us h1 h2 h3=>Calls.mono (hf.2.2 S w us h1 h2 h3) fun _ _ ⟨u,S',r,e,k,rest⟩=>⟨u,S',r,e,hr _ k,rest⟩⟩
end Go.Ab
namespace Go.Ab
open Go
variable {P:Program}
section
variable {E:Env}{w w':World}{h:Hp}
theorem HOK.grow(hok:HOK E h w)(m:More w w'){S':Nat→Nat→Prop}(hk:Kept E.S S' w w')(hn:∀ g o,S' g o→E.S g o∨w.heap.size≤g)(ho:∀ g o,S' g o→g<w'.heap.size) :
  HOK { E with S:=S' } h w'∧∀ n,Ext n E w { E with S:=S' } w':=by
 have he:∀ n,Ext n E w { E with S:=S' } w':=fun n=>⟨⟨m.os,m.tape,m.output,m.size,fun k hkb=>m.old k (by have:=hok.size;omega),m.frz,m.drawn⟩,rfl,hk,fun g o s=>by
  rcases hn g o s with s | s
  ·exact .inl s
  ·exact .inr (Nat.le_trans hok.size s),fun b r _ e=>⟨e,rfl,rfl⟩⟩
 refine ⟨⟨fun b x hx=>BOK.ext (List.getElem?_eq_some_iff.1 hx).1 hok.dom (he _) (fun g hal e'=>m.old g (hok.own b x g hx hal e').2.1) (hok.blocks b x hx),hok.dom,fun b x g hx hal e'=>?_,hok.inj,ho,Nat.le_trans hok.size m.size⟩,he⟩
 obtain ⟨k1,k2,k3⟩:=hok.own b x g hx hal e'
 refine ⟨k1,Nat.lt_of_lt_of_le k2 m.size,fun o s=>?_⟩
 rcases hn g o s with s | s
 ·exact k3 o s
 ·omega
theorem imms_ok(hok:HOK E h w){bs:List Nat}{cs ds:List AV}(hi:omap (imm h deep) cs=some ds)(hb:∀ b ∈ cs.flatMap (visit h deep),b ∈ bs){us:List Value}(hr:∀ (i:Nat) c u,cs[i]? = some c→us[i]? = some u→RV E w c u) :
  ds.length=cs.length∧∀ (i:Nat) d u,ds[i]? = some d→us[i]? = some u→RI (E.give h bs).S w d u:=by
 obtain ⟨h1,h2⟩:=omap_some hi
 refine ⟨h1,fun i d u hd hu=>?_⟩
 have hil:i<cs.length:=by rw[← h1];exact (List.getElem?_eq_some_iff.1 hd).1
 have hc:cs[i]? = some cs[i]:=List.getElem?_eq_getElem hil
 obtain ⟨d',k1,k2⟩:=h2 i _ hc
 rw[hd] at k1;injection k1 with k1;subst k1
 exact imm_ok hok (Live h bs) deep _ d u (fun b hv hy=>⟨hb b (List.mem_flatMap.2 ⟨cs[i],List.getElem_mem hil,hv⟩),hy⟩) (hr i _ u hc hu) k2
theorem handRow_ok(hok:HOK E h w){v:AV}{u:Value}(hr:RV E w v u){os:List AV}{us:List Value}(hos:∀ (i:Nat) c z,os[i]? = some c→us[i]? = some z→RV E w c z){y:AV}{ds:List AV}(hh:handRow h v os=some (y,ds)) :
  ∃ bs,(RI (E.give h bs).S w y u∨∃ e xs,y=.fr e xs∧Fresh (E.give h bs).S w E.base e xs u)∧ds.length=os.length∧∀ (i:Nat) d z,ds[i]? = some d→us[i]? = some z→RI (E.give h bs).S w d z:=by
 unfold handRow at hh
 split at hh
 ·rename_i e b len
  split at hh
  case h_2=>cases hh
  rename_i e' xs hbk
  split at hh
  case isFalse=>cases hh
  rename_i hc
  obtain ⟨rfl,rfl,hb1,hb2⟩:=hc
  split at hh
  case h_2=>cases hh
  rename_i ys ds' hys hds
  injection hh with hh;injection hh with e1 e2;subst e1;subst e2
  refine ⟨(xs++os).flatMap (visit h deep),.inr ⟨e',ys,rfl,?_⟩,imms_ok hok hds (fun b hb=>by rw[List.flatMap_append];exact List.mem_append_right _ hb) hos⟩
  have hnb:b ∉ (xs++os).flatMap (visit h deep):=by
   rw[List.flatMap_append]
   intro hm
   rcases List.mem_append.1 hm with hm | hm
   ·rw[List.contains_iff_mem.2 hm] at hb1;cases hb1
   ·rw[List.contains_iff_mem.2 hm] at hb2;cases hb2
  obtain ⟨hlen,hget⟩:=omap_some hys
  obtain ⟨hke,hrow⟩:=hr.row_inv
  obtain ⟨_,hbok⟩:=hok.blocks b _ hbk
  rcases hrow with ⟨k0,_,hl0,A,rfl⟩ | ⟨g,cap,A,hg,rfl,hA,hl,hcc,hm⟩
  ·have hx0:xs=[]:=List.eq_nil_of_length_eq_zero hl0
   subst hx0
   have hy0:ys=[]:=List.eq_nil_of_length_eq_zero hlen
   subst hy0
   exact ⟨A,0,rfl,.inl ⟨rfl,rfl⟩⟩
  ·rcases hbok with ⟨k0,_⟩ | ⟨g',vals,t',fz,k1,k2,k3,k4,k5,k6,k7,k8⟩
   ·rw[k0] at hg;cases hg
   rw[hg] at k1;injection k1 with k1;injection k1 with k1;subst k1
   have hA:A=some ⟨g,0,none⟩:=by
    rcases hA with hA | ⟨hA,_⟩
    ·simpa using hA
    ·exact absurd rfl hA
   have hcap:cap=E.ca b:=by omega
   subst hcap
   obtain ⟨o1,o2,o3⟩:=hok.own b _ g hbk trivial hg
   refine ⟨A,E.ca b,by rw[hlen],.inr ⟨g,vals,t',fz,hA,o1,k2,k3,k4,by rw[hlen];exact k5,k6,fun o s=>?_,fun i y hy=>?_⟩⟩
   ·rcases s with s | ⟨b',⟨hm',z,hz,hal⟩,hr'⟩
    ·exact o3 o s
    ·exact hnb (hok.inj b b' _ z g hbk hz trivial hal hg hr' ▸ hm')
   ·have hil:i<xs.length:=by rw[← hlen];exact (List.getElem?_eq_some_iff.1 hy).1
    have hx:xs[i]? = some xs[i]:=List.getElem?_eq_getElem hil
    obtain ⟨y',q1,q2⟩:=hget i _ hx
    rw[hy] at q1;injection q1 with q1;subst q1
    obtain ⟨s1,v,s2,s3,s4⟩:=k8 i _ hx
    refine ⟨shape_of_fits (imm_fits q2 s1),v,?_,s3,s4⟩
    exact imm_ok hok (Live h _) deep _ y v (fun b hv hy=>⟨List.mem_flatMap.2 ⟨xs[i],List.mem_append_left _ (List.getElem_mem hil),hv⟩,hy⟩) s2 q2
 ·rename_i e
  obtain ⟨ds',hds,hh⟩:=map_some' hh
  injection hh with e1 e2;subst e1;subst e2
  refine ⟨os.flatMap (visit h deep),.inr ⟨e,[],rfl,?_⟩,imms_ok hok hds (fun b hb=>hb) hos⟩
  cases hr.sl_inv with
  | sl _ _ _ A cap g o uu hl hm hf hA hfit hc hrr =>
   have:=hf rfl
   simp only[List.length_nil] at this
   subst this
   exact ⟨A,0,rfl,.inl ⟨rfl,rfl⟩⟩
 ·split at hh
  case h_2=>cases hh
  rename_i y' ds' hy hds
  injection hh with hh;injection hh with e1 e2;subst e1;subst e2
  refine ⟨visit h deep v++os.flatMap (visit h deep),.inl ?_,imms_ok hok hds (fun b hb=>List.mem_append_right _ hb) hos⟩
  exact imm_ok hok (Live h _) deep _ y' u (fun b hv hy=>⟨List.mem_append_left _ hv,hy⟩) hr hy
theorem hand_ok(hok:HOK E h w){fresh:Option Nat}{v r:AV}{u:Value}(hr:RV E w v u)(hh:handOver fresh h v=some r):∃ bs,ResOK (E.give h bs).S w E.base r u:=by
 unfold handOver at hh
 split at hh
 ·exact ⟨visit h deep v,.inl (imm_ok hok (Live h _) deep v r u (fun b hb hy=>⟨hb,hy⟩) hr hh)⟩
 ·rename_i k
  split at hh
  ·rename_i cs
   split at hh
   case h_2=>cases hh
   rename_i c hc
   obtain ⟨⟨y,ds⟩,hp,hh⟩:=map_some' hh
   dsimp only at hh
   subst hh
   obtain ⟨us,rfl,hl,hall⟩:=hr.tup_inv
   have hkl:k<us.size:=by rw[hl];exact (List.getElem?_eq_some_iff.1 hc).1
   have huk:us[k]? = some us[k]:=Array.getElem?_eq_getElem hkl
   obtain ⟨bs,h1,h2,h3⟩:=handRow_ok hok (hall k c _ hc huk) (os:=cs.eraseIdx k) (us:=us.toList.eraseIdx k) (fun i c' z hi hz=>by
    rw[List.getElem?_eraseIdx] at hi hz
    split at hi
    ·rename_i hik
     rw[if_pos hik] at hz
     exact hall i c' z hi (by simpa using hz)
    ·rename_i hik
     rw[if_neg hik] at hz
     exact hall (i + 1) c' z hi (by simpa using hz)) hp
   have hle:(cs.eraseIdx k).length=cs.length - 1:=by rw[List.length_eraseIdx,if_pos (by omega)]
   refine ⟨bs,.inr (.inr ⟨_,us,rfl,rfl,by rw[List.length_insertIdx,if_pos (by omega),h2,hle];omega,fun i d z hd hz=>?_⟩)⟩
   rw[List.getElem?_insertIdx] at hd
   split at hd
   ·rename_i hik
    exact .inl (h3 i d z hd (by rw[List.getElem?_eraseIdx,if_pos hik];simpa using hz))
   ·rename_i hik
    split at hd
    ·rename_i hik'
     subst hik'
     split at hd
     ·injection hd with hd;subst hd
      rw[huk] at hz;injection hz with hz;subst hz
      exact h1
     ·cases hd
    ·rename_i hik'
     refine .inl (h3 (i - 1) d z hd ?_)
     rw[List.getElem?_eraseIdx,if_neg (by omega)]
     rw[show i - 1 + 1=i by omega]
     simpa using hz
  ·obtain ⟨⟨y,ds⟩,hp,hh⟩:=map_some' hh
   dsimp only at hh
   subst hh
   obtain ⟨bs,h1,_⟩:=handRow_ok hok hr (os:=[]) (us:=[]) (fun i c z hi=>by simp at hi) hp
   rcases h1 with h1 | h1
   ·exact ⟨bs,.inl h1⟩
   ·exact ⟨bs,.inr (.inl h1)⟩
end
theorem Pure.of_code{f n:Nat}{rs:List Rv}{ir:C}(hf:fd? P f=some (n,rs,ir))(fresh:Option Nat){args:List AV}(hn:args.length≤n){R:AV→Prop}(hR:∃ r,R r)
  (hw:AW P n 0 ir (fun ex st=>(ex=.normal∨ex=.ret)∧∃ v r,resVs st rs=some v∧handOver fresh st.h v=some r∧R r) ⟨slotsOf args,[]⟩):Pure P f args R:=by
 refine ⟨fd?_entered hf,hR,fun S w us ho hl hr=>?_⟩
 refine Calls.mono (code_calls hf hn (h:=[]) (R:=fun v h'=>∃ r,handOver fresh h' v=some r∧R r) (AW.mono (by
  rintro ex st ⟨h1,v,r,h2,h3,h4⟩
  exact ⟨h1,v,h2,r,h3,h4⟩) hw) (E:={ S:=S,rho:=fun _=>none,ke:=fun _=>0,ca:=fun _=>0,base:=w.heap.size }) (w:=w) ⟨fun b x hx=>(by simp at hx),fun b r e=>(by cases e),fun b x g hx=>(by simp at hx),fun b b' x x' g hx=>(by simp at hx),ho,Nat.le_refl _⟩ hl fun i c u hc hu=>.imm (hr i c u hc hu)) ?_
 rintro e w' ⟨u,E',v,h',rfl,⟨r,hh,hR⟩,hok,hext,hrv⟩
 obtain ⟨bs,hres⟩:=hand_ok hok hrv hh
 obtain ⟨k1,k2⟩:=hok.kill bs
 have hbase:E'.base=w.heap.size:=hext.base
 refine ⟨u,(E'.give h' bs).S,r,rfl,hR,hext.below,hext.kept.trans (k2 0).kept,fun g o s=>?_,k1.old,by rw[hbase] at hres;exact hres⟩
 rcases (k2 0).new g o s with s | s
 ·exact hext.new g o s
 ·exact .inr (hbase ▸ s)
theorem ResOK.flat{S S':Nat→Nat→Prop}{w w':World}{lo:Nat}{r:AV}{u:Value}(hr:ResOK S w lo r u)(hf:Ab.flat deep r=true):RI S' w' r u:=by
 obtain ⟨m,hd⟩:∃ m,deep=m + 2:=⟨10,rfl⟩
 rcases hr with hr | ⟨e,xs,rfl,_⟩ | ⟨cs,us,rfl,rfl,h1,h2⟩
 ·exact flat_RI deep r u hf hr
 ·rw[hd] at hf;simp[Ab.flat] at hf
 ·rw[hd] at hf
  simp only[Ab.flat,List.all_eq_true] at hf
  refine .tup _ us h1 fun i c v hc hv=>?_
  have hfc:=hf c (List.mem_of_getElem? hc)
  rcases h2 i c v hc hv with h3 | ⟨e,xs,rfl,_⟩
  ·exact flat_RI (m + 1) c v hfc h3
  ·simp[Ab.flat] at hfc
theorem Fn.pure{f:Nat}{args as:List AV}{h h1:Hp}{R:AV→Prop}(hp:Pure P f as R)(hf:freeze h (.tup args)=some (.tup as,h1)){K:AV→Hp→Prop}
  (hK:∀ r,R r→∃ v h2,adopt (if flat deep r=true then h else h1) r=some (v,h2)∧K v h2):Fn P f args h K:=by
 refine ⟨hp.1,by obtain ⟨r,hr⟩:=hp.2.1;obtain ⟨v,h2,_,hk⟩:=hK r hr;exact ⟨v,h2,hk⟩,fun E w us hok hl hr=>?_⟩
 obtain ⟨E1,q1,q2,q3,q4,q5⟩:=freeze_ok hok (v:=.tup args) (u:=.tuple us) (.tup _ us hl hr) hf
 have q3':us.size=as.length∧∀ (i:Nat) c u,as[i]? = some c→us[i]? = some u→RI E1.S w c u:=by
  cases q3 with | tup _ us hs hrr=>exact ⟨hs,hrr⟩
 refine Calls.mono (hp.2.2 E1.S w us q1.old q3'.1 q3'.2) ?_
 rintro e w' ⟨u,S',r,rfl,hR,hbelow,hkept,hnew,hold,hres⟩
 obtain ⟨v,h2,had,hk⟩:=hK r hR
 have m:More w w':=⟨hbelow.os,hbelow.tape,hbelow.output,hbelow.size,hbelow.block,hbelow.frz,hbelow.drawn⟩
 by_cases hfl:flat deep r=true
 ·rw[if_pos hfl] at had
  obtain ⟨g1,g2⟩:=hok.more m
  obtain ⟨E',p1,p2,p3⟩:=adopt_ok g1 (lo:=w.heap.size) (fun b x g hx hal e=>(hok.own b x g hx hal e).2.1) hok.size (.inl (hres.flat hfl)) had
  exact ⟨u,E',v,h2,rfl,hk,p1,(g2 h.length).trans p2 (Nat.le_refl _),p3⟩
 ·rw[if_neg hfl] at had
  obtain ⟨g1,g2⟩:=q1.grow m hkept hnew hold
  obtain ⟨E',p1,p2,p3⟩:=adopt_ok g1 (lo:=w.heap.size) (fun b x g hx hal e=>(q1.own b x g hx hal e).2.1) q1.size hres had
  exact ⟨u,E',v,h2,rfl,hk,p1,((q2 h.length).trans (g2 h.length) (Nat.le_refl _)).trans p2 (by rw[q4];exact Nat.le_refl _),p3⟩
end Go.Ab
namespace Go.Ab
open Go
section
variable {F:CallF}{is:List Ins}{K:St→Prop}{s:Nat→AV}{h:Hp}{d:Option Nat}{j:Nat}{w:Bool}{o:Op1}
theorem evTs_nil:evTs F [] K ⟨s,h⟩=K ⟨s,h⟩:=Eq.trans rfl rfl
theorem evTs_op(hc:o.isCall=false):evTs F (Ins.mk d none o::is) K ⟨s,h⟩=(match evV s h o with | some p=>evTs F is K ⟨put? s d p.1,p.2⟩ | none=>False):=by
 simp only[evTs,evT,act,evO_op hc]
 all_goals (cases evV s h o<;>rfl)
def rest(F:CallF)(is:List Ins)(K:St→Prop)(s:Nat→AV)(d:Option Nat):Option (AV×Hp)→Prop
 | some p=>evTs F is K ⟨put? s d p.1,p.2⟩
 | none=>False
theorem rest_some{v:AV}{h':Hp}:rest F is K s d (some (v,h'))=evTs F is K ⟨put? s d v,h'⟩:=Eq.trans rfl rfl
theorem evTs_gen(hc:o.isCall=false):evTs F (Ins.mk d none o::is) K ⟨s,h⟩=rest F is K s d (evV s h o):=by
 rw[evTs_op hc]
 cases evV s h o<;>rfl
theorem evTs_go(hb:s j=.bool w):evTs F (Ins.mk d (some (j,w)) o::is) K ⟨s,h⟩=evTs F (Ins.mk d none o::is) K ⟨s,h⟩:=by
 simp only[evTs,evT,act,hb,if_true]
theorem evTs_out(hb:s j=.bool (!w)):evTs F (Ins.mk d (some (j,w)) o::is) K ⟨s,h⟩=evTs F is K ⟨put? s d (.tup []),h⟩:=by
 simp only[evTs,evT,act,hb]
 rw[if_neg (by cases w<;>decide)]
theorem evTs_un(hb:s j=.tup []):evTs F (Ins.mk d (some (j,w)) o::is) K ⟨s,h⟩=evTs F is K ⟨put? s d (.tup []),h⟩:=by
 simp only[evTs,evT,act,hb]
theorem evTs_call{f:Od}{as:List Od}{k:Nat}{caps:List AV}(hf:f.ev s=.fn k caps)(hF:F k (as.map (Od.ev s)++caps) h fun v h'=>evTs F is K ⟨put? s d v,h'⟩):evTs F (Ins.mk d none (.call f as)::is) K ⟨s,h⟩:=by
 simp only[evTs,evT,act,evO,hf]
 exact hF
end
theorem AW.cond'{P:Program}{n lo:Nat}{Q:Ex→St→Prop}{st:St}{x:Od}{p q:C}{b:Bool}(hx:x.ev st.s=.bool b)(h1:b=true→AW P n lo p Q st)(h2:b=false→AW P n lo q Q st):AW P n lo (.cond x p q) Q st:=by
 refine AW.cond hx ?_
 cases b with
 | true=>exact h1 rfl
 | false=>exact h2 rfl
def Ends(rs:List Rv)(fresh:Option Nat)(R:AV→Prop)(Q:Ex→St→Prop):Prop :=
 ∀ ex st v r,(ex=.normal∨ex=.ret)→resVs st rs=some v→handOver fresh st.h v=some r→R r→Q ex st
theorem Ends.ret{rs:List Rv}{fresh:Option Nat}{R:AV→Prop}{Q:Ex→St→Prop}(hQ:Ends rs fresh R Q){st:St}{v r:AV}(h1:resVs st rs=some v)(h2:handOver fresh st.h v=some r)(h3:R r):Q .ret st :=
 hQ _ st v r (.inr rfl) h1 h2 h3
theorem Ends.norm{rs:List Rv}{fresh:Option Nat}{R:AV→Prop}{Q:Ex→St→Prop}(hQ:Ends rs fresh R Q){st:St}{v r:AV}(h1:resVs st rs=some v)(h2:handOver fresh st.h v=some r)(h3:R r):Q .normal st :=
 hQ _ st v r (.inl rfl) h1 h2 h3
theorem Pure.walk{P:Program}{f n:Nat}{rs:List Rv}{ir:C}(hf:fd? P f=some (n,rs,ir))(fresh:Option Nat){args:List AV}(hn:args.length≤n){R:AV→Prop}(hR:∃ r,R r)
  (hw:∀ Q,Ends rs fresh R Q→AW P n 0 ir Q ⟨slotsOf args,[]⟩):Pure P f args R :=
 Pure.of_code hf fresh hn hR (hw _ fun _ _ v r h1 h2 h3 h4=>⟨h1,v,r,h2,h3,h4⟩)
theorem Fn.val{P:Program}{f:Nat}{args:List AV}{h:Hp}{r:AV}(hp:Pure P f args (· = r))(ha:plain deep (.tup args)=true)(hr:adopt h r=some (r,h)){K:AV→Hp→Prop}(hK:K r h):Fn P f args h K :=
 Fn.pure hp (h1:=h) (as:=args) (by simp[freeze,ha]) fun _ e=>⟨r,h,by subst e;simpa using hr,hK⟩
theorem Fnq.val{P:Program}{f:Nat}{args:List AV}{h:Hp}{r:AV}(hp:Pure P f args (· = r))(ha:plain deep (.tup args)=true)(hr:adopt h r=some (r,h)){K:AV→Hp→Prop}(hK:K r h):Fnq P f args h K :=
 Fn.val hp ha hr ⟨rfl,hK⟩
theorem put?_some(s:Nat→AV)(i:Nat)(v:AV):put? s (some i) v=put s i v:=Eq.trans rfl rfl
theorem put?_none(s:Nat→AV)(v:AV):put? s none v=s:=Eq.trans rfl rfl
theorem slotsOf_zero(v:AV)(vs:List AV):slotsOf (v::vs) 0=v:=Eq.trans rfl rfl
theorem slotsOf_lit(v:AV)(vs:List AV)(n:Nat)(hn:n≠0):slotsOf (v::vs) n=slotsOf vs (n - 1):=by
 cases n with
 | zero=>exact absurd rfl hn
 | succ n=>rfl
theorem od_t(s:Nat→AV)(i:Nat):(Od.t i).ev s=s i:=Eq.trans rfl rfl
theorem od_c(s:Nat→AV)(v:AV):(Od.c v).ev s=v:=Eq.trans rfl rfl
theorem put_at(s:Nat→AV)(i:Nat)(v:AV)(j:Nat):put s i v j=if j=i then v else s j:=Eq.trans rfl rfl
theorem beq_dec(a b:Int):(a == b)=decide (a=b):=by by_cases h:a=b<;>simp[h]
theorem bin_add(k:IntKind)(a b:Int):bin .add (.int k a) (.int k b)=some (.int k (k.wrap (a + b))):=by simp[bin,isShift,binI]
theorem bin_sub(k:IntKind)(a b:Int):bin .sub (.int k a) (.int k b)=some (.int k (k.wrap (a - b))):=by simp[bin,isShift,binI]
theorem bin_mul(k:IntKind)(a b:Int):bin .mul (.int k a) (.int k b)=some (.int k (k.wrap (a * b))):=by simp[bin,isShift,binI]
theorem bin_quo(k:IntKind)(a b:Int)(hb:b≠0):bin .quo (.int k a) (.int k b)=some (.int k (k.wrap (a.tdiv b))):=by simp[bin,isShift,binI,hb]
theorem bin_rem(k:IntKind)(a b:Int)(hb:b≠0):bin .rem (.int k a) (.int k b)=some (.int k (a.tmod b)):=by simp[bin,isShift,binI,hb]
theorem bin_eql(k:IntKind)(a b:Int):bin .eql (.int k a) (.int k b)=some (.bool (decide (a=b))):=by simp[bin,isShift,binI,beq_dec]
theorem bin_neq(k:IntKind)(a b:Int):bin .neq (.int k a) (.int k b)=some (.bool (decide (a≠b))):=by simp[bin,isShift,binI,bne,beq_dec]
theorem bin_lss(k:IntKind)(a b:Int):bin .lss (.int k a) (.int k b)=some (.bool (decide (a<b))):=by simp[bin,isShift,binI]
theorem bin_leq(k:IntKind)(a b:Int):bin .leq (.int k a) (.int k b)=some (.bool (decide (a≤b))):=by simp[bin,isShift,binI]
theorem bin_gtr(k:IntKind)(a b:Int):bin .gtr (.int k a) (.int k b)=some (.bool (decide (b<a))):=by simp[bin,isShift,binI]
theorem bin_geq(k:IntKind)(a b:Int):bin .geq (.int k a) (.int k b)=some (.bool (decide (b≤a))):=by simp[bin,isShift,binI]
theorem maxI_max(k:IntKind)(a b:Int):foldMax true (.int k a) [.int k b]=some (.int k (if b > a then b else a)):=by simp[foldMax,maxI]
theorem maxI_min(k:IntKind)(a b:Int):foldMax false (.int k a) [.int k b]=some (.int k (if b<a then b else a)):=by simp[foldMax,maxI]
theorem wrap_i64{a:Int}(h1 : -9223372036854775808≤a)(h2:a≤9223372036854775807):IntKind.i64.wrap a=a:=by
 rw[IntKind.wrap_i64]
 omega
end Go.Ab
namespace Go.Ab
open Go
theorem deep_eq:deep=12:=rfl
theorem restrict_eq(ks live:List Nat)(s:Nat→AV)(h:Hp):restrict ks live ⟨s,h⟩=⟨renS ks s live,ks.map fun b=>renB ks (h.getD b .dead)⟩:=Eq.trans rfl rfl
theorem renS_nil(ks:List Nat)(s:Nat→AV):renS ks s []=fun _=>.junk:=Eq.trans rfl rfl
theorem renS_cons(ks:List Nat)(s:Nat→AV)(i:Nat)(is:List Nat):renS ks s (i::is)=put (renS ks s is) i (ren ks deep (s i)):=Eq.trans rfl rfl
theorem renB_els(ks:List Nat)(e:Nat)(xs:List AV):renB ks (.els e xs)=.els e (xs.map (ren ks deep)):=Eq.trans rfl rfl
theorem renB_cel(ks:List Nat)(xs:List AV):renB ks (.cel xs)=.cel (xs.map (ren ks deep)):=Eq.trans rfl rfl
theorem renB_dead(ks:List Nat):renB ks .dead=.dead:=Eq.trans rfl rfl
section
variable (ks:List Nat)
theorem ren_plain:∀ (n m:Nat) (v:AV),plain m v=true→m≤n→ren ks n v=v
 | 0,0,v,hp,_=>by simp[plain] at hp
 | n + 1,0,v,hp,_=>by simp[plain] at hp
 | 0,m + 1,v,_,hl=>by omega
 | n + 1,m + 1,v,hp,hl=>by
  have list:∀ cs:List AV,cs.all (plain m)=true→cs.map (ren ks n)=cs:=fun cs hc=>by
   rw[List.all_eq_true] at hc
   conv=>rhs;rw[← List.map_id cs]
   exact List.map_congr_left fun c hm=>ren_plain n m c (hc c hm) (by omega)
  cases v<;>simp only[plain] at hp<;>first
   | (cases hp;done)
   | simp only[ren,list _ hp]
   | simp only[ren]
theorem map_ren{xs:List AV}(h:xs.all (plain deep)=true):xs.map (ren ks deep)=xs:=by
 rw[List.all_eq_true] at h
 conv=>rhs;rw[← List.map_id xs]
 exact List.map_congr_left fun c hm=>ren_plain ks deep deep c (h c hm) (Nat.le_refl _)
end
theorem imm_plain(h:Hp):∀ (n m:Nat) (v:AV),plain m v=true→m≤n→imm h n v=some v
 | 0,0,v,hp,_=>by simp[plain] at hp
 | n + 1,0,v,hp,_=>by simp[plain] at hp
 | 0,m + 1,v,_,hl=>by omega
 | n + 1,m + 1,v,hp,hl=>by
  have list:∀ cs:List AV,cs.all (plain m)=true→omap (imm h n) cs=some cs:=fun cs hc=>by
   induction cs with
   | nil=>rfl
   | cons c cs ih =>
    simp only[List.all_cons,Bool.and_eq_true] at hc
    simp only[omap,imm_plain h n m c hc.1 (by omega),ih hc.2]
  cases v<;>simp only[plain] at hp<;>first
   | (cases hp;done)
   | simp only[imm,list _ hp,Option.map_some]
   | simp only[imm]
theorem omap_imm{h:Hp}{xs:List AV}(hp:xs.all (plain deep)=true):omap (imm h deep) xs=some xs:=by
 induction xs with
 | nil=>rfl
 | cons c cs ih =>
  simp only[List.all_cons,Bool.and_eq_true] at hp
  simp only[omap,imm_plain h deep deep c hp.1 (Nat.le_refl _),ih hp.2]
theorem visits_plain{h:Hp}{xs:List AV}(hp:xs.all (plain deep)=true):xs.flatMap (visit h deep)=[]:=by
 rw[List.all_eq_true] at hp
 refine List.flatMap_eq_nil_iff.2 fun c hc=>visit_plain deep deep c (hp c hc)
theorem hand_row{h:Hp}{e b:Nat}{xs:List AV}(hb:h[b]? = some (.els e xs))(hp:xs.all (plain deep)=true):handOver (some 0) h (.row e b 0 xs.length)=some (.fr e xs):=by
 simp only[handOver,handRow,hb]
 simp[visits_plain hp,omap_imm hp,omap]
abbrev I(n:Int):AV:=.int .i64 n
theorem append_row{h:Hp}{e b bytes n:Nat}{xs ys:List AV}{f:Bool}(hb:h[b]? = some (.els e xs))(hn:n=xs.length)(h1:(xs.length + ys.length) * bytes≤room)(h2:xs.length + ys.length≤maxStr) :
  append h e bytes (.row e b 0 n) (.sl e f ys)=some (.row e h.length 0 (xs.length + ys.length),h.set b .dead++[.els e (xs++ys)]):=by
 subst hn
 simp[append,appendL,srcElems,hb,h1,h2]
theorem fits_int(k:IntKind)(n:Int):(AV.int k n).fits 0=true:=Eq.trans rfl rfl
theorem fits_str(s:List UInt8):(AV.str s).fits 0=true:=Eq.trans rfl rfl
theorem fits_bool(b:Bool):(AV.bool b).fits 0=true:=Eq.trans rfl rfl
end Go.Ab
namespace Go.Ab
open Go Go.RowKit
variable {P:Program}
def RIL(S:Nat→Nat→Prop)(w:World):List AV→List Value→Prop
 | [],[]=>True
 | c::cs,u::us=>RI S w c u∧RIL S w cs us
 | _,_=>False
theorem RIL.get{S:Nat→Nat→Prop}{w:World}:∀ {as:List AV}{us:List Value},RIL S w as us→us.length=as.length∧∀ (i:Nat) c u,as[i]? = some c→us[i]? = some u→RI S w c u
 | [],[],_=>⟨rfl,fun i c u h=>by simp at h⟩
 | [],_::_,h=>h.elim
 | _::_,[],h=>h.elim
 | c::cs,u::us,h=>by
  obtain ⟨h1,h2⟩:=h
  obtain ⟨k1,k2⟩:=RIL.get h2
  refine ⟨by simp[k1],fun i c' u' hc hu=>?_⟩
  cases i with
  | zero=>simp at hc hu;subst hc;subst hu;exact h1
  | succ i=>exact k2 i c' u' (by simpa using hc) (by simpa using hu)
def Old(w:World):Nat→Nat→Prop:=fun g _=>g<w.heap.size
end Go.Ab
