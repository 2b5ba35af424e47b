import Derived.Test.YtgjfhplkochbpaaGreatAM3
set_option linter.unusedSimpArgs false
set_option linter.unusedVariables false
namespace Go.Ab
open Go
variable {P:Program}
def growC0(e bytes:Nat)(z:AV):C:=.cond (.t 16) (.reg [iI 17 (.mv (.t 0)),iI 18 (.mv (.t 0)),iI 19 (.cap (.t 18)),iI 20 (.slice e (.t 17) none (some (.t 19))),iI 21 (.mv (.t 1)),iI 22 (.appz e bytes z (.t 20) (.t 21)),iI 23 (.mv (.t 0)),iI 24 (.len 0 (.t 23)),iI 25 (.slice e (.t 22) none (some (.t 24))),iI 0 (.mv (.t 25))]) .skip
def growC1(e bytes:Nat)(z:AV):C:=.seq (.reg [iI 8 (.mv (.t 1)),iI 9 (.mv (.t 0)),iI 10 (.cap (.t 9)),iI 11 (.mv (.t 0)),iI 12 (.len 0 (.t 11)),iI 13 (.bin .sub (.t 10) (.t 12)),iI 14 (.bin .sub (.t 8) (.t 13)),iI 1 (.mv (.t 14))]) (.seq (.reg [iI 15 (.mv (.t 1)),iI 16 (.bin .gtr (.t 15) (.c (.int .i64 0)))]) (growC0 e bytes z))
def growC(e bytes:Nat)(z:AV):C:=.seq (.reg [iI 4 (.mv (.c (.sl e true [])))]) (.seq (.seq (.reg [iI 5 (.mv (.t 1)),iI 6 (.bin .lss (.t 5) (.c (.int .i64 0)))]) (.cond (.t 6) (.reg [iI 7 .bad,iN .bad]) .skip)) (.seq (growC1 e bytes z) (.seq (.reg [iI 26 (.mv (.t 0)),iI 4 (.mv (.t 26))]) .ret)))
section
variable {n lo:Nat}{Q:Ex→St→Prop}
theorem appz_nil{s:Nat→AV}{h:Hp}{e bytes N:Nat}{z:AV}{x m:Od}(hx:x.ev s=.sl e true [])(hm:m.ev s=.int .i64 (N:Nat))(h0:0<N)(h1:N * bytes≤room)(h2:N≤maxStr) :
  evV s h (.appz e bytes z x m)=some (.row e h.length 0 N,h++[.els e (List.replicate N z)]):=by
 simp only[evV,hm,hx,Int.toNat_natCast]
 rw[if_pos ⟨by omega,h2,h1⟩]
 simp[appendL,h1,h2]
theorem growC_walk{e bytes N:Nat}{z:AV}{h:Hp}(h1:N * bytes≤room)(h2:N≤maxStr)
  (hQ:∀ st,(N=0∧st.s 4=.sl e true []∧st.h=h)∨(0<N∧st.s 4=.row e h.length 0 0∧st.h=h++[.els e (List.replicate N z)])→Q .ret st) :
  AW P n lo (growC e bytes z) Q ⟨slotsOf [.sl e true [],.int .i64 (N:Nat)],h⟩:=by
 have hN:N≤9223372036854775807:=by unfold maxStr at h2;omega
 have w0:IntKind.i64.wrap (((0:Nat):Int) - ((0:Nat):Int))=0:=rfl
 have w1:IntKind.i64.wrap ((N:Int) - 0)=N:=by rw[w64 (by omega) (by omega)];omega
 unfold growC
 refine AW.rseq ?_
 simp only[iI,↓wk,↓wl,nc,evV,↓reduceIte,Nat.reduceEqDiff,Nat.reduceSub,Nat.reduceAdd]
 refine AW.sseq ?_
 refine AW.rseq ?_
 simp only[iI,↓wk,↓wl,nc,evV,↓reduceIte,Nat.reduceEqDiff,Nat.reduceSub,Nat.reduceAdd]
 refine AW.iff (by simp only[od_t,put_at];simp) ?_
 refine AW.skip ?_
 refine seqQ.norm ?_
 refine AW.sseq ?_
 unfold growC1
 refine AW.rseq ?_
 simp only[iI,↓wk,↓wl,nc,evV,↓reduceIte,Nat.reduceEqDiff,Nat.reduceSub,Nat.reduceAdd]
 refine step (v:=.int .i64 ((0:Nat):Int)) (h':=h) rfl (by rfl) ?_
 simp only[iI,↓wk,↓wl,nc,evV,↓reduceIte,Nat.reduceEqDiff,Nat.reduceSub,Nat.reduceAdd]
 rw[w0,w1]
 refine AW.rseq ?_
 simp only[iI,↓wk,↓wl,nc,evV,↓reduceIte,Nat.reduceEqDiff,Nat.reduceSub,Nat.reduceAdd]
 unfold growC0
 by_cases h0:N=0
 ·subst h0
  refine AW.iff (by simp only[od_t,put_at];simp) ?_
  refine AW.skip ?_
  refine seqQ.norm ?_
  refine AW.rseq ?_
  simp only[iI,↓wk,↓wl,nc,evV,↓reduceIte,Nat.reduceEqDiff,Nat.reduceSub,Nat.reduceAdd]
  refine AW.ret ?_
  exact hQ _ (.inl ⟨rfl,rfl,rfl⟩)
 ·refine AW.ift (by simp only[od_t,put_at];simp;omega) ?_
  refine AW.rend ?_
  simp only[iI,↓wk,↓wl,nc,evV,↓reduceIte,Nat.reduceEqDiff,Nat.reduceSub,Nat.reduceAdd]
  refine step (v:=.int .i64 0) (h':=h) rfl (by rfl) ?_
  simp only[iI,↓wk,↓wl,nc,evV,↓reduceIte,Nat.reduceEqDiff,Nat.reduceSub,Nat.reduceAdd]
  refine step (v:=.sl e true []) (h':=h) rfl (by simp[evV,od_t,put_at,bounds]) ?_
  simp only[iI,↓wk,↓wl,nc,evV,↓reduceIte,Nat.reduceEqDiff,Nat.reduceSub,Nat.reduceAdd]
  refine step rfl (appz_nil (N:=N) (by rfl) (by rfl) (by omega) h1 h2) ?_
  simp only[iI,↓wk,↓wl,nc,evV,↓reduceIte,Nat.reduceEqDiff,Nat.reduceSub,Nat.reduceAdd]
  refine step (v:=.row e h.length 0 0) (h':=h++[.els e (List.replicate N z)]) rfl (by simp[evV,od_t,put_at,bounds]) ?_
  simp only[iI,↓wk,↓wl,nc,evV,↓reduceIte,Nat.reduceEqDiff,Nat.reduceSub,Nat.reduceAdd]
  refine seqQ.norm ?_
  refine AW.rseq ?_
  simp only[iI,↓wk,↓wl,nc,evV,↓reduceIte,Nat.reduceEqDiff,Nat.reduceSub,Nat.reduceAdd]
  refine AW.ret ?_
  exact hQ _ (.inr ⟨by omega,rfl,rfl⟩)
theorem grow_fn{k e bytes N:Nat}{z:AV}(hk:fd? P k=some (27,[.slot 4],growC e bytes z)){h:Hp}(h1:N * bytes≤room)(h2:N≤maxStr)
  {R:AV→Hp→Prop}(h0:N=0→R (.sl e true []) h) (hR:0<N→R (.row e h.length 0 0) (h++[.els e (List.replicate N z)])):Fn P k [.sl e true [],.int .i64 (N:Nat)] h R:=by
 have hex:∃ v h',R v h':=by
  by_cases hN:N=0
  ·exact ⟨_,_,h0 hN⟩
  ·exact ⟨_,_,hR (by omega)⟩
 refine ⟨fd?_entered hk,hex,fun E w us hok hl hr=>code_calls2 hk (Nat.le_of_ble_eq_true rfl) ?_ hok hl hr⟩
 refine growC_walk h1 h2 ?_
 rintro st (⟨hN,h4,hh⟩ | ⟨hN,h4,hh⟩)
 ·refine ⟨.inr rfl,st,.sl e true [],Le.refl _ _,?_,?_⟩
  ·simp only[resVs,omap,resV,h4]
  ·rw[hh];exact h0 hN
 ·refine ⟨.inr rfl,st,.row e h.length 0 0,Le.refl _ _,?_,?_⟩
  ·simp only[resVs,omap,resV,h4]
  ·rw[hh];exact hR hN
def conL1:C:=.seq (.reg [iI 12 (.bin .lss (.t 11) (.t 10))]) (.seq (.cond (.t 12) .skip (.exit 0)) (.seq (.block 1 (.seq (.reg [iI 13 (.iaddr 0 (.t 9) (.t 11)),iI 14 (.load 0 (.t 13)),iI 5 (.mv (.t 14))]) (.seq (.reg [iI 15 (.mv (.t 3)),iI 16 (.mv (.t 5)),iI 17 (.len 0 (.t 16)),iI 18 (.bin .add (.t 15) (.t 17)),iI 3 (.mv (.t 18))]) (.seq (.reg [iI 19 (.mv (.t 3)),iI 20 (.bin .lss (.t 19) (.c (.int .i64 0)))]) (.cond (.t 20) (.reg [iI 21 .bad,iN .bad]) .skip))))) (.reg [iI 22 (.bin .add (.t 11) (.c (.int .i64 1))),iI 11 (.mv (.t 22))])))
def conL2(e bytes:Nat):C:=.seq (.reg [iI 28 (.bin .lss (.t 27) (.t 26))]) (.seq (.cond (.t 28) .skip (.exit 2)) (.seq (.block 3 (.seq (.reg [iI 29 (.iaddr 0 (.t 25) (.t 27)),iI 30 (.load 0 (.t 29)),iI 8 (.mv (.t 30))]) (.reg [iI 31 (.mv (.t 6)),iI 32 (.mv (.t 8)),iI 33 (.append e bytes (.t 31) (.t 32)),iI 6 (.mv (.t 33))]))) (.reg [iI 34 (.bin .add (.t 27) (.c (.int .i64 1))),iI 27 (.mv (.t 34))])))
def conC3(e bytes:Nat):C:=.seq (.seq (.reg [iI 25 (.mv (.t 0)),iI 26 (.len 0 (.t 25)),iI 27 (.mv (.c (.int .i64 0)))]) (.block 2 (.loop (conL2 e bytes)))) (.seq (.reg [iI 35 (.mv (.t 6)),iI 2 (.mv (.t 35))]) .ret)
def conC2(e bytes gr:Nat):C:=.seq (.reg [iI 23 (.mv (.t 3)),iI 24 (.call (.c (.fn gr [])) [.c (.sl e true []),.t 23]),iI 6 (.mv (.t 24))]) (conC3 e bytes)
def conC(e bytes gr:Nat):C:=.seq (.reg [iI 2 (.mv (.c (.sl e true [])))]) (.seq (.reg [iI 3 (.mv (.c (.int .i64 0)))]) (.seq (.seq (.reg [iI 9 (.mv (.t 0)),iI 10 (.len 0 (.t 9)),iI 11 (.mv (.c (.int .i64 0)))]) (.block 0 (.loop conL1))) (conC2 e bytes gr)))
theorem iaddr_sl{s:Nat→AV}{h:Hp}{k:Nat}{kk:IntKind}{x j:Od}{f:Bool}{L:List AV}{v:AV}(hx:x.ev s=.sl 0 f L)(hj:j.ev s=.int kk (k:Nat))(hv:L[k]? = some v):evV s h (.iaddr 0 x j)=some (.pro v.cells,h):=by
 simp only[evV,hx,hj,Int.toNat_natCast]
 rw[if_pos (by omega),if_pos trivial,hv]
 rfl
theorem load_pro0{s:Nat→AV}{h:Hp}{a:Od}{v:AV}(ha:a.ev s=.pro v.cells)(hf:v.fits 0=true):evV s h (.load 0 a)=some (v,h):=by
 have:v.cells=[v]:=cells_fit0 hf
 simp only[evV,ha,this]
 rfl
theorem con_app{e bytes j c:Nat}{f:Bool}{A T ys:List AV}(hc:c=A.length)(hle:ys.length≤T.length)(h1:A.length * bytes≤room)(h2:A.length≤maxStr) :
  ∃ j' T',T'.length=T.length - ys.length∧append (List.replicate j .dead++[.els e (A++T)]) e bytes (.row e j 0 c) (.sl e f ys)=some (.row e j' 0 (c + ys.length),List.replicate j' .dead++[.els e ((A++ys)++T')]):=by
 have hb:(List.replicate j HB.dead++[.els e (A++T)])[j]? = some (.els e (A++T)):=by
  rw[List.getElem?_append_right (by simp)];simp
 subst hc
 cases T with
 | nil =>
  have hy0:ys=[]:=List.eq_nil_of_length_eq_zero (by simpa using hle)
  subst hy0
  refine ⟨j + 1,[],by simp,?_⟩
  simp only[append,srcElems,if_true,appendL,hb]
  rw[if_pos (by simp;exact ⟨h1,h2⟩)]
  simp[List.replicate_succ']
 | cons t T =>
  refine ⟨j,(t::T).drop ys.length,by simp,?_⟩
  simp only[append,srcElems,if_true,appendL,hb]
  rw[if_neg (by simp),if_pos ⟨trivial,trivial,by simp,by simp only[List.length_append];omega⟩]
  simp only[Option.some.injEq,Prod.mk.injEq,true_and]
  rw[List.take_left,List.drop_append,List.drop_of_length_le (by omega),List.nil_append,show A.length + ys.length - A.length=ys.length by omega,← List.append_assoc]
  simp
end
theorem flat_take{τ : Type}(xss:List (List τ))(k:Nat):(xss.take k).flatten.length≤xss.flatten.length:=by
 have h:xss.flatten=(xss.take k++xss.drop k).flatten:=by rw[List.take_append_drop]
 rw[h,List.flatten_append,List.length_append]
 omega
theorem flat_succ{τ : Type}{xss:List (List τ)}{k:Nat}{ys:List τ}(h:xss[k]? = some ys):(xss.take (k + 1)).flatten=(xss.take k).flatten++ys:=by
 rw[List.take_add_one,h]
 simp
section
variable {n lo:Nat}{Q:Ex→St→Prop}{τ : Type}{enc : τ → AV}{e:Nat}[IsEnc e enc]
omit [IsEnc e enc] in
theorem conC3_walk{bytes:Nat}{xss:List (List τ)}{s:Nat→AV}{h:Hp}(h1:xss.flatten.length * bytes≤room)(h2:xss.flatten.length≤maxStr)(h3:xss.length≤maxStr)(h0:s 0=.sl 0 false (xss.map (eL e enc)))
  (hI:(xss.flatten=[]∧s 6=.sl e true []∧h=[])∨∃ j T,T.length=xss.flatten.length∧s 6=.row e j 0 0∧h=List.replicate j .dead++[.els e T])
  (hQ:∀ st,(∃ j,st.s 2=.row e j 0 xss.flatten.length∧st.h=List.replicate j .dead++[.els e (xss.flatten.map enc)])∨(xss.flatten=[]∧st.s 2=.sl e true [])→Q .ret st):AW P n lo (conC3 e bytes) Q ⟨s,h⟩:=by
 unfold conC3
 refine AW.sseq ?_
 refine AW.sseq ?_
 refine AW.rend ?_
 simp only[iI,↓wk,↓wl,nca,evV,h0,↓reduceIte,Nat.reduceEqDiff,Nat.reduceSub,Nat.reduceAdd]
 refine seqQ.norm ?_
 refine AW.bend ?_
 refine AW.loop (fun c st=>∃ k:Nat,k≤xss.length∧c=xss.length - k∧st.s 25=.sl 0 false (xss.map (eL e enc))∧st.s 26=.int .i64 (xss.length:Nat)∧st.s 27=.int .i64 (k:Nat) ∧
   ((xss.flatten=[]∧st.s 6=.sl e true []∧st.h=[])∨∃ j T,T.length=xss.flatten.length - (xss.take k).flatten.length∧st.s 6=.row e j 0 (xss.take k).flatten.length∧st.h=List.replicate j .dead++[.els e ((xss.take k).flatten.map enc++T)])) (m:=xss.length)
  ⟨0,Nat.zero_le _,rfl,?_,?_,rfl,?_⟩ ?_
 ·simp only[put_at,↓reduceIte,Nat.reduceEqDiff,h0]
 ·simp only[put_at,↓reduceIte,Nat.reduceEqDiff,h0,List.length_map]
 ·simp only[put_at,↓reduceIte,Nat.reduceEqDiff,List.take_zero,List.flatten_nil,List.length_nil,Nat.sub_zero,List.map_nil,List.nil_append]
  exact hI
 rintro c ⟨s,h'⟩ ⟨k,hk,rfl,h25,h26,h27,hI⟩
 dsimp only at h25 h26 h27 hI
 unfold conL2
 refine AW.rseq ?_
 simp only[iI,↓wk,↓wl,nca,evV,h25,h26,h27,↓reduceIte,Nat.reduceEqDiff,Nat.reduceSub,Nat.reduceAdd]
 refine AW.sseq ?_
 by_cases hlt:k<xss.length
 ·refine AW.ift (by simp only[od_t,put_at];simp;omega) ?_
  refine AW.skip ?_
  refine seqQ.norm ?_
  refine AW.bseq ?_
  have hx:=List.getElem?_eq_getElem hlt
  generalize xss[k]=ys at hx
  have hv:(xss.map (eL e enc))[k]? = some (.sl e false (ys.map enc)):=by rw[List.getElem?_map,hx];rfl
  have hfs:=flat_succ hx
  have hft:=flat_take xss (k + 1)
  rw[hfs,List.length_append] at hft
  have hw:IntKind.i64.wrap ((k:Int) + 1)=((k + 1:Nat):Int):=by unfold maxStr at h3;exact w64_succ (by omega)
  refine AW.rseq ?_
  refine step rfl (iaddr_sl (k:=k) (by simp only[od_t,put_at,↓reduceIte,Nat.reduceEqDiff,h25];rfl) (by simp only[od_t,put_at,↓reduceIte,Nat.reduceEqDiff,h27];rfl) hv) ?_
  simp only[iI,↓wk,↓wl,nca,evV,h25,h26,h27,↓reduceIte,Nat.reduceEqDiff,Nat.reduceSub,Nat.reduceAdd]
  refine step rfl (load_pro0 (v:=.sl e false (ys.map enc)) (by rfl) (by rfl)) ?_
  simp only[iI,↓wk,↓wl,nca,evV,h25,h26,h27,↓reduceIte,Nat.reduceEqDiff,Nat.reduceSub,Nat.reduceAdd]
  refine AW.rend ?_
  simp only[iI,↓wk,↓wl,nca,evV,h25,h26,h27,↓reduceIte,Nat.reduceEqDiff,Nat.reduceSub,Nat.reduceAdd]
  rcases hI with ⟨hn,h6,hh⟩ | ⟨j,T,hT,h6,hh⟩
  ·have hys:ys=[]:=by
    have hm:ys ∈ xss:=List.mem_of_getElem? hx
    exact List.flatten_eq_nil_iff.1 hn ys hm
   subst hys
   have hz:(xss.take k).flatten=[]:=List.eq_nil_of_length_eq_zero (by rw[hn,List.length_nil] at hft;omega)
   subst hh
   refine step (v:=.row e 0 0 0) (h':=[.els e []]) rfl (by simp[evV,od_t,put_at,h6,append,appendL,srcElems]) ?_
   simp only[iI,↓wk,↓wl,nca,evV,h25,h26,h27,↓reduceIte,Nat.reduceEqDiff,Nat.reduceSub,Nat.reduceAdd]
   refine blkQ.norm ?_
   refine AW.rend ?_
   simp only[iI,↓wk,↓wl,nca,evV,h25,h26,h27,↓reduceIte,Nat.reduceEqDiff,Nat.reduceSub,Nat.reduceAdd]
   refine ⟨xss.length - (k + 1),_,by omega,Le.refl _ _,k + 1,hlt,rfl,?_,?_,?_,.inr ⟨0,[],?_,?_,?_⟩⟩
   all_goals simp only[put_at,↓reduceIte,Nat.reduceEqDiff,h25,h26,h27,hw,hfs]
   ·simp[hn]
   ·simp[hz]
   ·simp[hz]
  ·subst hh
   obtain ⟨D,hD⟩:∃ D,D=(xss.take k).flatten:=⟨_,rfl⟩
   rw[← hD] at hfs hft hT h6 ⊢
   have hbd:D.length * bytes≤room:=Nat.le_trans (Nat.mul_le_mul_right _ (by omega)) h1
   obtain ⟨j',T',hT',hap⟩:=con_app (e:=e) (bytes:=bytes) (j:=j) (c:=D.length) (f:=false) (T:=T) (A:=D.map enc) (ys:=ys.map enc) (by simp) (by rw[List.length_map];omega) (by rw[List.length_map];exact hbd) (by rw[List.length_map];omega)
   refine step (v:=.row e j' 0 (D.length + (ys.map enc).length)) (h':=List.replicate j' .dead++[.els e ((D.map enc++ys.map enc)++T')]) rfl (by simp only[evV,od_t,put_at,↓reduceIte,Nat.reduceEqDiff,h6];exact hap) ?_
   simp only[iI,↓wk,↓wl,nca,evV,h25,h26,h27,↓reduceIte,Nat.reduceEqDiff,Nat.reduceSub,Nat.reduceAdd]
   refine blkQ.norm ?_
   refine AW.rend ?_
   simp only[iI,↓wk,↓wl,nca,evV,h25,h26,h27,↓reduceIte,Nat.reduceEqDiff,Nat.reduceSub,Nat.reduceAdd]
   refine ⟨xss.length - (k + 1),_,by omega,Le.refl _ _,k + 1,hlt,rfl,?_,?_,?_,.inr ⟨j',T',?_,?_,?_⟩⟩
   all_goals simp only[put_at,↓reduceIte,Nat.reduceEqDiff,h25,h26,h27,hw,hfs]
   ·rw[hT',List.length_map,List.length_append,hT];omega
   ·rw[List.length_append]
   ·rw[List.map_append]
 ·refine AW.iff (by simp only[od_t,put_at];simp;omega) ?_
  refine AW.exit ?_
  refine seqQ.exit ?_
  show blk0 2 _ (.exit 2) _
  refine blk0.here ?_
  refine seqQ.norm ?_
  refine AW.rseq ?_
  simp only[iI,↓wk,↓wl,nca,evV,h25,h26,h27,↓reduceIte,Nat.reduceEqDiff,Nat.reduceSub,Nat.reduceAdd]
  refine AW.ret ?_
  have hk':k=xss.length:=by omega
  subst hk'
  rw[List.take_length] at hI
  refine hQ _ ?_
  rcases hI with ⟨hn,h6,hh⟩ | ⟨j,T,hT,h6,hh⟩
  ·right
   exact ⟨hn,by simp only[put_at,↓reduceIte,Nat.reduceEqDiff,h6]⟩
  ·left
   have hT0:T=[]:=List.eq_nil_of_length_eq_zero (by omega)
   subst hT0
   exact ⟨j,by simp only[put_at,↓reduceIte,Nat.reduceEqDiff,h6],by rw[hh,List.append_nil]⟩
omit [IsEnc e enc] in
theorem conC_walk{bytes gr:Nat}{z:AV}{xss:List (List τ)}(hg:fd? P gr=some (27,[.slot 4],growC e bytes z))(h1:xss.flatten.length * bytes≤room)(h2:xss.flatten.length≤maxStr)(h3:xss.length≤maxStr)
  (hQ:∀ st,(∃ j,st.s 2=.row e j 0 xss.flatten.length∧st.h=List.replicate j .dead++[.els e (xss.flatten.map enc)])∨(xss.flatten=[]∧st.s 2=.sl e true [])→Q .ret st):AW P n lo (conC e bytes gr) Q ⟨slotsOf [.sl 0 false (xss.map (eL e enc))],[]⟩:=by
 unfold conC
 refine AW.rseq ?_
 simp only[iI,↓wk,↓wl,nca,evV,↓reduceIte,Nat.reduceEqDiff,Nat.reduceSub,Nat.reduceAdd]
 refine AW.rseq ?_
 simp only[iI,↓wk,↓wl,nca,evV,↓reduceIte,Nat.reduceEqDiff,Nat.reduceSub,Nat.reduceAdd]
 refine AW.sseq ?_
 refine AW.sseq ?_
 refine AW.rend ?_
 simp only[iI,↓wk,↓wl,nca,evV,↓reduceIte,Nat.reduceEqDiff,Nat.reduceSub,Nat.reduceAdd]
 refine seqQ.norm ?_
 refine AW.bend ?_
 refine AW.loop (fun c st=>∃ k:Nat,k≤xss.length∧c=xss.length - k∧st.h=[]∧st.s 0=.sl 0 false (xss.map (eL e enc))∧st.s 9=.sl 0 false (xss.map (eL e enc))∧st.s 10=.int .i64 (xss.length:Nat)∧st.s 11=.int .i64 (k:Nat)∧st.s 3=.int .i64 ((xss.take k).flatten.length:Nat)) (m:=xss.length)
  ⟨0,Nat.zero_le _,rfl,rfl,rfl,rfl,?_,rfl,rfl⟩ ?_
 ·simp only[put_at,↓reduceIte,Nat.reduceEqDiff,List.length_map]
 rintro c ⟨s,h'⟩ ⟨k,hk,rfl,hh,h0,h9,h10,h11,hs3⟩
 dsimp only at hh h0 h9 h10 h11 hs3
 subst hh
 unfold conL1
 refine AW.rseq ?_
 simp only[iI,↓wk,↓wl,nca,evV,h0,h9,h10,h11,hs3,↓reduceIte,Nat.reduceEqDiff,Nat.reduceSub,Nat.reduceAdd]
 refine AW.sseq ?_
 by_cases hlt:k<xss.length
 ·refine AW.ift (by simp only[od_t,put_at];simp;omega) ?_
  refine AW.skip ?_
  refine seqQ.norm ?_
  refine AW.bseq ?_
  have hx:=List.getElem?_eq_getElem hlt
  generalize xss[k]=ys at hx
  have hv:(xss.map (eL e enc))[k]? = some (.sl e false (ys.map enc)):=by rw[List.getElem?_map,hx];rfl
  have hfs:=flat_succ hx
  have hft:=flat_take xss (k + 1)
  rw[hfs,List.length_append] at hft
  have hw:IntKind.i64.wrap ((k:Int) + 1)=((k + 1:Nat):Int):=by unfold maxStr at h3;exact w64_succ (by omega)
  have hw2:IntKind.i64.wrap (((xss.take k).flatten.length:Int) + (ys.length:Int))=(((xss.take k).flatten++ys).length:Int):=by
   unfold maxStr at h2
   rw[w64 (by omega) (by omega),List.length_append];omega
  refine AW.rseq ?_
  refine step rfl (iaddr_sl (k:=k) (by simp only[od_t,put_at,↓reduceIte,Nat.reduceEqDiff,h9];rfl) (by simp only[od_t,put_at,↓reduceIte,Nat.reduceEqDiff,h11];rfl) hv) ?_
  simp only[iI,↓wk,↓wl,nca,evV,h0,h9,h10,h11,hs3,↓reduceIte,Nat.reduceEqDiff,Nat.reduceSub,Nat.reduceAdd]
  refine step rfl (load_pro0 (v:=.sl e false (ys.map enc)) (by rfl) (by rfl)) ?_
  simp only[iI,↓wk,↓wl,nca,evV,h0,h9,h10,h11,hs3,↓reduceIte,Nat.reduceEqDiff,Nat.reduceSub,Nat.reduceAdd]
  refine AW.rseq ?_
  simp only[iI,↓wk,↓wl,nca,evV,h0,h9,h10,h11,hs3,↓reduceIte,Nat.reduceEqDiff,Nat.reduceSub,Nat.reduceAdd]
  rw[hw2]
  refine AW.rseq ?_
  simp only[iI,↓wk,↓wl,nca,evV,h0,h9,h10,h11,hs3,↓reduceIte,Nat.reduceEqDiff,Nat.reduceSub,Nat.reduceAdd]
  refine AW.iff (by simp only[od_t,put_at];simp;omega) ?_
  refine AW.skip ?_
  refine blkQ.norm ?_
  refine AW.rend ?_
  simp only[iI,↓wk,↓wl,nca,evV,h0,h9,h10,h11,hs3,↓reduceIte,Nat.reduceEqDiff,Nat.reduceSub,Nat.reduceAdd]
  refine ⟨xss.length - (k + 1),_,by omega,Le.refl _ _,k + 1,hlt,rfl,rfl,?_,?_,?_,?_,?_⟩
  all_goals simp only[put_at,↓reduceIte,Nat.reduceEqDiff,h0,h9,h10,h11,hw,hfs]
 ·refine AW.iff (by simp only[od_t,put_at];simp;omega) ?_
  refine AW.exit ?_
  refine seqQ.exit ?_
  show blk0 0 _ (.exit 0) _
  refine blk0.here ?_
  refine seqQ.norm ?_
  have hk':k=xss.length:=by omega
  subst hk'
  rw[List.take_length] at hs3
  unfold conC2
  refine AW.rseq ?_
  simp only[iI,↓wk,↓wl,nca,evV,h0,h9,h10,h11,hs3,↓reduceIte,Nat.reduceEqDiff,Nat.reduceSub,Nat.reduceAdd]
  refine evTs_call (k:=gr) (caps:=[]) (by rfl) ?_
  have ha:List.map (Od.ev (put (put s 12 (AV.bool (decide ((xss.length:Int)<(xss.length:Int))))) 23 (AV.int IntKind.i64 (xss.flatten.length:Nat)))) [Od.c (.sl e true []),.t 23]++[]=[.sl e true [],.int .i64 (xss.flatten.length:Nat)]:=by rfl
  rw[ha]
  refine grow_fn hg h1 h2 (fun hz=>?_) (fun hz=>?_)
  ·simp only[iI,↓wk,↓wl,nca,evV,h0,h9,h10,h11,hs3,↓reduceIte,Nat.reduceEqDiff,Nat.reduceSub,Nat.reduceAdd]
   refine conC3_walk h1 h2 h3 (by simp only[put_at,↓reduceIte,Nat.reduceEqDiff,h0]) (.inl ⟨List.eq_nil_of_length_eq_zero hz,by simp only[put_at,↓reduceIte,Nat.reduceEqDiff],rfl⟩) hQ
  ·simp only[iI,↓wk,↓wl,nca,evV,h0,h9,h10,h11,hs3,↓reduceIte,Nat.reduceEqDiff,Nat.reduceSub,Nat.reduceAdd]
   refine conC3_walk h1 h2 h3 (by simp only[put_at,↓reduceIte,Nat.reduceEqDiff,h0]) (.inr ⟨0,List.replicate xss.flatten.length z,by simp,by simp only[put_at,↓reduceIte,Nat.reduceEqDiff];try rfl,by simp⟩) hQ
def conc?(bytes:Nat)(xss:List (List τ)):Option (List τ):=if xss.flatten.length * bytes≤room∧xss.flatten.length≤maxStr∧xss.length≤maxStr then some xss.flatten else none
theorem conc_ok{k bytes gr:Nat}{z:AV}{xss:List (List τ)}{r:List τ}(H:conc? bytes xss=some r)(hk:fd? P k=some (36,[.slot 2],conC e bytes gr))(hg:fd? P gr=some (27,[.slot 4],growC e bytes z)) :
  Pure P k [.sl 0 false (xss.map (eL e enc))] (· = .fr e (r.map enc)):=by
 unfold conc? at H
 split at H
 case isFalse=>cases H
 rename_i hc
 cases H
 refine Pure.walk3 hk (some 0) (Nat.le_of_ble_eq_true rfl) (by rfl) fun Q hQ=>?_
 refine conC_walk hg hc.1 hc.2.1 hc.2.2 ?_
 rintro st (⟨j,h2,hh⟩ | ⟨hn,h2⟩)
 ·exact hQ _ _ _ _ (.inr rfl) (by simp only[resVs,omap,resV,h2];rfl) (hand_1 (xs:=xss.flatten.map enc) (by rw[hh,List.getElem?_append_right (by simp)];simp) (by rw[List.length_map]) (enc_all _)) (.inl rfl)
 ·exact hQ _ _ _ _ (.inr rfl) (by simp only[resVs,omap,resV,h2];rfl) hand_10 (.inl (by rw[hn];rfl))
end
end Go.Ab
namespace Go.Ab
set_option linter.defProp false in
def rrl:=(And.intro @List.length_set.{0} (And.intro @restrict_eq (And.intro @renS_nil (And.intro @renS_cons (And.intro @renB_els (And.intro @renB_cel (And.intro @renB_dead (And.intro deep_eq (And.intro @map_ren_enc (And.intro @ren_agg' (And.intro @ren_tup' (And.intro @ren_fn' (And.intro @ren_int' (And.intro @ren_bool' (And.intro @ren_str' (And.intro @ren_sl' (And.intro @ren_pro' (And.intro @ren_nilp' (And.intro @ren_nilfn' (And.intro @ren_junk' (And.intro @ren_ptr' (And.intro @ren_row' (And.intro @ren_arow' @ren_eptr')))))))))))))))))))))))
end Go.Ab
namespace Go.Ab
open Go
end Go.Ab
namespace Go.Ab
open Go
def mk{κ ν : Type}(ek : κ → AV)(m:List (κ × ν)):List AV:=m.map fun p=>ek p.1
def mv{κ ν : Type}(ev : ν → AV)(m:List (κ × ν)):List AV:=m.map fun p=>ev p.2
class IsKey {κ : Type} [DecidableEq κ] (kd:outParam Nat) (ek : κ → AV):Prop where
 key:∀ x,isKey kd (ek x)=true
 eq:∀ x y,eqKind kd (ek x) (ek y)=some (decide (x=y))
instance:IsKey 1 AV.str:=⟨fun _=>rfl,fun x y=>by simp only[eqKind];exact congrArg some (Bool.eq_iff_iff.2 (by simp))⟩
instance (k:IntKind):IsKey 0 (AV.int k):=⟨fun _=>rfl,fun x y=>by simp only[eqKind,if_true];exact congrArg some (Bool.eq_iff_iff.2 (by simp))⟩
def mget{κ ν : Type}[DecidableEq κ]:List (κ × ν) → κ → Option ν
 | [],_=>none
 | p::m,k=>if k=p.1 then some p.2 else mget m k
def mset{κ ν : Type}[DecidableEq κ]:List (κ × ν) → κ → ν → List (κ × ν)
 | [],k,v=>[(k,v)]
 | p::m,k,v=>if k=p.1 then (p.1,v)::m else p::mset m k v
def look?{κ ν α : Type}[DecidableEq κ](m:List (κ × ν))(k : κ)(z : ν)(kont : ν → Bool→Option α):Option α := kont ((mget m k).getD z) (mget m k).isSome
theorem lookKey_eq{κ ν : Type}[DecidableEq κ]{kd:Nat}{ek : κ → AV}[IsKey kd ek](ev : ν → AV)(k : κ):∀ m:List (κ × ν),lookKey kd (ek k) (mk ek m) (mv ev m)=some ((mget m k).map ev)
 | []=>rfl
 | p::m=>by
  show lookKey kd (ek k) (ek p.1::mk ek m) (ev p.2::mv ev m)=_
  rw[lookKey,IsKey.eq (ek:=ek) k p.1]
  unfold mget
  by_cases h:k=p.1
  ·rw[if_pos h,decide_eq_true h];rfl
  ·rw[if_neg h,decide_eq_false h];exact lookKey_eq ev k m
theorem setKey_eq{κ ν : Type}[DecidableEq κ]{kd:Nat}{ek : κ → AV}[IsKey kd ek](ev : ν → AV)(k : κ)(v : ν):∀ m:List (κ × ν),setKey kd (ek k) (ev v) (mk ek m) (mv ev m)=some (mk ek (mset m k v),mv ev (mset m k v))
 | []=>rfl
 | p::m=>by
  show setKey kd (ek k) (ev v) (ek p.1::mk ek m) (ev p.2::mv ev m)=_
  rw[setKey,IsKey.eq (ek:=ek) k p.1]
  unfold mset
  by_cases h:k=p.1
  ·rw[if_pos h,decide_eq_true h];rfl
  ·rw[if_neg h,decide_eq_false h]
   show Option.map _ (setKey kd (ek k) (ev v) (mk ek m) (mv ev m))=_
   rw[setKey_eq ev k v m];rfl
theorem wm:(∀ b:Nat,(AV.mref b).fits 0=true)∧(∀ ks vs:List AV,(AV.mp ks vs).fits 0=true)∧(∀ b:Nat,(AV.mref b).one=true)∧(∀ ks vs:List AV,(AV.mp ks vs).one=true) ∧
  (∀ b:Nat,(AV.mref b).cells=[.mref b])∧(∀ ks vs:List AV,(AV.mp ks vs).cells=[.mp ks vs]) ∧
  (∀ (cs:List AV) (o b:Nat),splice cs o (.mref b)=cs.set o (.mref b))∧(∀ (cs:List AV) (o:Nat) (ks vs:List AV),splice cs o (.mp ks vs)=cs.set o (.mp ks vs)) ∧
  (AV.nilmp.fits 0=true)∧(AV.nilmp.one=true)∧(AV.nilmp.cells=[.nilmp])∧(∀ (cs:List AV) (o:Nat),splice cs o .nilmp=cs.set o .nilmp) ∧
  (∀ (n:Nat) (ks vs:List AV),plain (n + 1) (.mp ks vs)=true) :=
 ⟨fun _=>rfl,fun _ _=>rfl,fun _=>rfl,fun _ _=>rfl,fun _=>rfl,fun _ _=>rfl,fun _ _ _=>rfl,fun _ _ _ _=>rfl,rfl,rfl,rfl,fun _ _=>rfl,fun _ _ _=>rfl⟩
theorem map_ren4(ks:List Nat){τ : Type}{e:Nat}{enc : τ → AV}[IsEnc e enc](n:Nat)(xs:List τ):(xs.map enc).map (ren ks (n + 4))=xs.map enc:=by
 conv=>rhs;rw[← List.map_id (xs.map enc)]
 refine List.map_congr_left fun c hc=>?_
 obtain ⟨x,_,rfl⟩:=List.mem_map.1 hc
 exact ren_plain ks (n + 4) 4 _ (IsEnc.plain x) (by omega)
theorem wmr(ks:List Nat):(∀ (n b:Nat),ren ks (n + 1) (.mref b)=(match ks.idxOf? b with | some b=>.mref b | none=>.junk))∧(∀ (n:Nat) (k v:List AV),ren ks (n + 1) (.mp k v)=.mp k v)∧(∀ n:Nat,ren ks (n + 1) .nilmp=.nilmp)∧(∀ k v:List AV,renB ks (.map k v)=.map k v)∧(∀ {τ : Type}{e:Nat}{enc : τ → AV} [IsEnc e enc] (n:Nat) (xs:List τ),(xs.map enc).map (ren ks (n + 4))=xs.map enc) :=
 ⟨fun _ _=>rfl,fun _ _ _=>rfl,fun _=>rfl,fun _ _=>rfl,fun n xs=>map_ren4 ks n xs⟩
def eM{κ ν : Type}(ek : κ → AV)(ev : ν → AV)(m:List (κ × ν)):AV:=.mp (mk ek m) (mv ev m)
instance {κ ν : Type}(ek : κ → AV)(ev : ν → AV):IsEnc 0 (eM ek ev):=⟨fun _=>rfl,fun _=>rfl,fun _=>rfl⟩
theorem imm_mrefE(h:Hp)(n b:Nat):imm h (n + 1) (.mref b)=(match h[b]? with
  | some (.map ks vs)=>some (.mp ks vs)
  | _=>none):=rfl
theorem imm_mpE(h:Hp)(n:Nat)(ks vs:List AV):imm h (n + 1) (.mp ks vs)=some (.mp ks vs):=rfl
section
variable {F:CallF}{is:List Ins}{K:St→Prop}{s:Nat→AV}{h:Hp}{d:Option Nat}{α : Type}{r : α}
theorem evTs_rng{t:List UInt8}{x:Od}(hx:x.ev s=.str t)(hk:evTs F is K ⟨put? s d (.ptr h.length 0),h++[.itr t 0]⟩):evTs F (Ins.mk d none (.rng x)::is) K ⟨s,h⟩:=by
 refine step rfl ?_ hk
 simp only[evV,hx]
theorem evTs_next{t:List UInt8}{pos:Nat}{A B:Option α}(H:(if decide (pos<t.length)=true then A else B)=some r){b:Nat}{x:Od}(hx:x.ev s=.ptr b 0)(hb:h[b]? = some (.itr t pos))
  (h1:A=some r→evTs F is K ⟨put? s d (.tup [.bool true,.int .i64 (pos:Int),.int .i32 ((dcd t pos).1:Int)]),h.set b (.itr t (pos + (dcd t pos).2))⟩)
  (h2:B=some r→evTs F is K ⟨put? s d (.tup [.bool false]),h⟩):evTs F (Ins.mk d none (.next x)::is) K ⟨s,h⟩:=by
 by_cases hlt:pos<t.length
 ·refine step rfl ?_ (h1 (by rw[if_pos (by simpa using hlt)] at H;exact H))
  simp only[evV,hx,hb,hlt,if_true]
 ·refine step rfl ?_ (h2 (by rw[if_neg (by simpa using hlt)] at H;exact H))
  simp only[evV,hx,hb,hlt,if_false]
theorem evTs_lookR{κ ν : Type}[DecidableEq κ]{m:List (κ × ν)}{k : κ}{z : ν}{kont : ν → Bool→Option α}(H:look? m k z kont=some r){kd:Nat}{ek : κ → AV}[IsKey kd ek]{ev : ν → AV}{b:Nat}{z':AV}{x i:Od}(ok:Bool)
  (hx:x.ev s=.mref b) (hb:h[b]? = some (.map (mk ek m) (mv ev m))) (hi:i.ev s=ek k) (hz:lowZ 4 z'=ev z)
  (hk:∀ y c,kont y c=some r→evTs F is K ⟨put? s d (if ok then .tup [ev y,.bool c] else ev y),h⟩):evTs F (Ins.mk d none (.lookup kd z' ok x i)::is) K ⟨s,h⟩:=by
 refine step rfl ?_ (hk _ _ H)
 simp only[evV,hz,hx,hb,hi,IsKey.key,if_true,lookKey_eq,Option.isSome_map]
 cases mget m k<;>cases ok<;>rfl
theorem evTs_mset{κ ν : Type}[DecidableEq κ]{m:List (κ × ν)}{kd:Nat}{ek : κ → AV}[IsKey kd ek]{ev : ν → AV}{e:Nat}[IsEnc e ev]{b:Nat}{x i j:Od}(k : κ)(v : ν)
  (hx:x.ev s=.mref b) (hb:h[b]? = some (.map (mk ek m) (mv ev m))) (hi:i.ev s=ek k) (hj:j.ev s=ev v)
  (hk:evTs F is K ⟨put? s d .junk,h.set b (.map (mk ek (mset m k v)) (mv ev (mset m k v)))⟩):evTs F (Ins.mk d none (.mapset kd x i j)::is) K ⟨s,h⟩:=by
 refine step rfl ?_ hk
 have hp:plain deep (ev v)=true:=plain_mono 4 deep _ (IsEnc.plain v) (by decide)
 have hf:freeze h (ev v)=some (ev v,h):=by unfold freeze;rw[if_pos hp]
 simp only[evV,hx,hi,hj,hf,hb,IsKey.key,if_true,setKey_eq,Option.map_some]
class IsOne {τ : Type}(enc : τ → AV):Prop where
 unf:∀ n x,Ab.unf n (enc x)=enc x
instance (k:IntKind):IsOne (AV.int k):=⟨fun n _=>by cases n<;>rfl⟩
instance:IsOne AV.bool:=⟨fun n _=>by cases n<;>rfl⟩
instance:IsOne AV.str:=⟨fun n _=>by cases n<;>rfl⟩
theorem imm_arowE(h:Hp)(n e b off len:Nat):imm h (n + 1) (.arow e b off len)=(match h[b]? with
  | some (.cel cs)=>match elems e len (cs.drop off) with
   | some xs=>(omap (imm h n) xs).map (.sl e false)
   | none=>none
  | _=>none):=rfl
end
end Go.Ab
