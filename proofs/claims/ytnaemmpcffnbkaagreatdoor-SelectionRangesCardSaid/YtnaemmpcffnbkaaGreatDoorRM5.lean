import Derived.Test.YtnaemmpcffnbkaaGreatDoorRM4
set_option linter.unusedSimpArgs false
set_option linter.unusedVariables false
namespace Go.Ab
open Go
variable {P:Program}
def dlgB1(e:Nat)(zs:List (Nat×AV)):C:=.seq (.reg [iI 22 (.mv (.t 0)),iI 23 (.mv (.t 6)),iI 24 (.iaddr e (.t 22) (.t 23)),iI 25 (.load e (.t 24)),iI 7 (.alloc zs),iN (.store e (.t 7) (.t 25))]) (.seq (.reg [iI 26 (.mv (.t 1)),iI 27 (.load e (.t 7)),iI 28 (.call (.t 26) [(.t 27)]),iI 29 (.un .not (.t 28))]) (.cond (.t 29) (.seq (.reg [iI 30 (.mv (.t 0)),iI 31 (.mv (.t 5)),iI 32 (.load e (.t 7)),iI 33 (.iaddr e (.t 30) (.t 31)),iN (.store e (.t 33) (.t 32))]) (.reg [iI 34 (.mv (.t 5)),iI 35 (.bin .add (.t 34) (.c (.int .i64 1))),iI 5 (.mv (.t 35))])) .skip))
def dlgB(e:Nat)(zs:List (Nat×AV)):C:=.seq (.seq (.reg [iI 16 (.mv (.t 6)),iI 17 (.mv (.t 0)),iI 18 (.len 0 (.t 17)),iI 19 (.bin .lss (.t 16) (.t 18))]) (.cond (.t 19) .skip (.exit 0))) (.seq (.block 1 (dlgB1 e zs)) (.reg [iI 20 (.mv (.t 6)),iI 21 (.bin .add (.t 20) (.c (.int .i64 1))),iI 6 (.mv (.t 21))]))
def dlgE(e:Nat)(z:AV):C:=.seq (.reg [iI 36 (.mv (.t 0)),iI 37 (.mv (.t 5)),iI 38 (.slice e (.t 36) (some (.t 37)) none),iN (.clear e z (.t 38))]) (.seq (.reg [iI 39 (.mv (.t 0)),iI 40 (.mv (.t 5)),iI 41 (.slice e (.t 39) none (some (.t 40))),iI 4 (.mv (.t 41))]) .ret)
def dlgC(e:Nat)(zs:List (Nat×AV))(z:AV)(ix:Nat):C:=.seq (.reg [iI 4 (.mv (.c (.sl e true [])))]) (.seq (.reg [iI 8 (.mv (.t 0)),iI 9 (.mv (.t 1)),iI 10 (.call (.c (.fn ix [])) [(.t 8),(.t 9)]),iI 5 (.mv (.t 10))]) (.seq (.seq (.reg [iI 11 (.mv (.t 5)),iI 12 (.bin .eql (.t 11) (.c (.int .i64 (-1))))]) (.cond (.t 12) (.seq (.reg [iI 13 (.mv (.t 0)),iI 4 (.mv (.t 13))]) .ret) .skip)) (.seq (.seq (.reg [iI 14 (.mv (.t 5)),iI 15 (.bin .add (.t 14) (.c (.int .i64 1))),iI 6 (.mv (.t 15))]) (.block 0 (.loop (dlgB e zs)))) (dlgE e z))))
section
variable {n lo:Nat}{Q:Ex→St→Prop}{τ : Type}{enc : τ → AV}{e:Nat}[IsEnc e enc]
theorem idx_range{b n:Nat}(h:b<n):(List.range n).idxOf? b=some b:=by
 rw[List.idxOf?_eq_some_iff]
 refine ⟨by simpa using h,by simp,?_⟩
 intro j hj
 have:(List.range n)[j]'(by simp;omega)=j:=List.getElem_range _
 rw[this]
 simp;omega
def Shut(h:Hp):Prop:=h.map (renB (List.range h.length))=h
def ShutV(h:Hp)(v:AV):Prop:=ren (List.range h.length) deep v=v
theorem Shut.set{h:Hp}(hs:Shut h){b:Nat}(ys:List τ):Shut (h.set b (.els e (ys.map enc))):=by
 unfold Shut at *
 rw[List.length_set,List.map_set,hs]
 congr 1
 rw[renB_els,deep_eq,map_ren_enc]
theorem Le.dropLast{H:Hp}{y:HB}{s:Nat→AV}(live:List Nat)(hlo:lo≤H.length)(hs:Shut H):Le lo ⟨s,H++[y]⟩ ⟨renS (List.range H.length) s live,H⟩:=by
 have h1:=Le.restrict (lo:=lo) (st:=⟨s,H++[y]⟩) (List.range H.length) live List.nodup_range (fun b hb=>List.getElem?_range (by omega))
 rw[restrict_eq] at h1
 have h2:(List.range H.length).map (fun b=>renB (List.range H.length) ((H++[y]).getD b HB.dead))=H:=by
  conv=>rhs;rw[← hs]
  apply List.ext_getElem?
  intro i
  rw[List.getElem?_map,List.getElem?_map]
  by_cases hi:i<H.length
  ·rw[List.getElem?_range hi,List.getElem?_eq_getElem hi]
   simp[List.getElem?_append_left hi,List.getElem?_eq_getElem hi]
  ·rw[List.getElem?_eq_none (by simp;omega),List.getElem?_eq_none (by omega)]
   rfl
 rw[h2] at h1
 exact h1
theorem load_cells{s:Nat→AV}{h:Hp}{b:Nat}{a:Od}{x : τ}(ha:a.ev s=.ptr b 0)(hb:h[b]? = some (.cel (enc x).cells)):evV s h (.load e a)=some (enc x,h):=by
 simp only[evV,ha,hb,cells_pick (IsEnc.fits (enc:=enc) x),Option.map_some]
theorem store_cells{s:Nat→AV}{h:Hp}{a v:Od}{cs:List AV}{x : τ}(ha:a.ev s=.ptr h.length 0)(hv:v.ev s=enc x)(hc:cs.length=(enc x).cells.length)(h0:e≠0):evV s (h++[.cel cs]) (.store e a v)=some (.junk,h++[.cel (enc x).cells]):=by
 have hf:=IsEnc.fits (enc:=enc) x
 obtain ⟨k,rfl⟩:∃ k,e=k + 1:=⟨e - 1,by omega⟩
 obtain ⟨us,hu,hl⟩:=fits_succ hf
 simp only[evV,hv,hf,if_true,ha]
 rw[List.getElem?_append_right (Nat.le_refl _),Nat.sub_self,List.getElem?_cons_zero]
 rw[hu] at hc ⊢
 simp only[AV.cells] at hc ⊢
 have hz:esz (k + 1)=k + 1:=by simp[esz]
 rw[hz,if_pos (by omega),List.set_append_right _ _ (Nat.le_refl _),Nat.sub_self]
 have:splice cs 0 (.agg us)=us:=by
  show cs.take 0++us++cs.drop (0 + us.length)=us
  rw[List.drop_of_length_le (by omega)]
  simp
 rw[this]
 rfl
set_option maxHeartbeats 4000000 in
theorem dlgC_walk{b m ix kf:Nat}{zs0:List (Nat×AV)}{z:AV}{caps:List AV}{xs:List τ}{h:Hp}{p : τ → Bool}(he0:e≠0)(hz0:(expand zs0).length=e)(hlo:lo≤h.length)(hsh:Shut h)(hsc:ShutV h (.fn kf caps))
  (hix:fd? P ix=some (19,[.slot 4],idxC e)) (hm:m=xs.length) (hmax:m≤maxStr) (hb:h[b]? = some (.els e (xs.map enc)))
  (hcall:∀ (h':Hp) x,x ∈ xs→(∀ b' y,b'≠b→h[b']? = some y→h'[b']? = some y)→∀ K:AV→Hp→Prop,K (.bool (p x)) h'→Fn P kf (enc x::caps) h' K)
  (hQ:∀ st zs,st.s 4=.row e b 0 (xs.filter fun x => !p x).length→st.h=h.set b (.els e ((xs.filter fun x => !p x).map enc++zs))→Q .ret st):AW P n lo (dlgC e zs0 z ix) Q ⟨slotsOf [.row e b 0 m,.fn kf caps],h⟩:=by
 subst hm
 have hmx:xs.length≤9223372036854775807:=by unfold maxStr at hmax;omega
 have hbl0:b<h.length:=(List.getElem?_eq_some_iff.1 hb).1
 unfold dlgC
 refine AW.rseq ?_
 simp only[iI,↓wk,↓wl,nca,evV,↓reduceIte,Nat.reduceEqDiff,Nat.reduceSub,Nat.reduceAdd]
 refine AW.rseq ?_
 simp only[iI,↓wk,↓wl,nca,evV,↓reduceIte,Nat.reduceEqDiff,Nat.reduceSub,Nat.reduceAdd]
 refine evTs_call (by rfl) ?_
 simp only[List.map_cons,List.map_nil,od_t,put_at,↓reduceIte,Nat.reduceEqDiff,List.append_nil]
 refine index_fn (p:=p) hix rfl hmax hb (fun x hx K hK=>hcall h x hx (fun _ _ _ h=>h) K hK) ?_
 simp only[iI,↓wk,↓wl,nca,evV,↓reduceIte,Nat.reduceEqDiff,Nat.reduceSub,Nat.reduceAdd]
 refine AW.sseq ?_
 refine AW.rseq ?_
 simp only[iI,↓wk,↓wl,nca,evV,↓reduceIte,Nat.reduceEqDiff,Nat.reduceSub,Nat.reduceAdd]
 cases hf:xs.findIdx? p with
 | none =>
  have hfi:fstI p xs = -1:=by unfold fstI;rw[hf]
  have hall:(xs.filter fun x => !p x)=xs:=by
   rw[List.filter_eq_self]
   intro x hx
   simp[List.findIdx?_eq_none_iff.1 hf x hx]
  refine AW.ift (by simp only[od_t,put_at];simp[hfi]) ?_
  refine AW.rseq ?_
  simp only[iI,↓wk,↓wl,nca,evV,↓reduceIte,Nat.reduceEqDiff,Nat.reduceSub,Nat.reduceAdd]
  refine AW.ret ?_
  refine seqQ.ret ?_
  refine hQ _ [] (by rw[hall];rfl) ?_
  rw[hall,List.append_nil,set_same hb]
 | some i0 =>
  obtain ⟨hi0,hp1,hp2⟩:=List.findIdx?_eq_some_iff_getElem.1 hf
  have hfi:fstI p xs=(i0:Nat):=by unfold fstI;rw[hf]
  refine AW.iff (by simp only[od_t,put_at];simp[hfi]) ?_
  refine AW.skip ?_
  refine seqQ.norm ?_
  simp only[hfi]
  have hw0:IntKind.i64.wrap ((i0:Int) + 1)=((i0 + 1:Nat):Int):=w64_succ (by omega)
  refine AW.sseq ?_
  refine AW.sseq ?_
  refine AW.rend ?_
  simp only[iI,↓wk,↓wl,nca,evV,↓reduceIte,Nat.reduceEqDiff,Nat.reduceSub,Nat.reduceAdd,hw0]
  refine seqQ.norm ?_
  refine AW.bend ?_
  have hx0:=List.getElem?_eq_getElem hi0
  have hfirst:(xs.take (i0 + 1)).filter (fun x => !p x)=xs.take i0:=by
   rw[filter_take_succ hx0,if_neg (by simp[hp1]),List.append_nil,List.filter_eq_self]
   intro y hy
   obtain ⟨j,hj,rfl⟩:=List.mem_take_iff_getElem.1 hy
   simpa using hp2 j (by omega)
  refine AW.loop (fun c st=>∃ (j:Nat) (cur:List τ),j≤xs.length∧c=xs.length - j∧cur.length=xs.length∧((xs.take j).filter fun x => !p x).length≤j∧cur.take ((xs.take j).filter fun x => !p x).length=(xs.take j).filter (fun x => !p x)∧(∀ i,j≤i→cur[i]? = xs[i]?) ∧
    st.h=h.set b (.els e (cur.map enc))∧st.s 0=.row e b 0 xs.length∧st.s 1=.fn kf caps∧st.s 5=.int .i64 (((xs.take j).filter fun x => !p x).length:Nat)∧st.s 6=.int .i64 (j:Nat)) (m:=xs.length - (i0 + 1))
   ⟨i0 + 1,xs,by omega,rfl,rfl,by rw[hfirst,List.length_take];omega,by rw[hfirst,List.length_take,Nat.min_eq_left (by omega)],fun _ _=>rfl,by rw[set_same hb],rfl,rfl,by
    rw[hfirst,List.length_take,Nat.min_eq_left (by omega)];rfl,rfl⟩ ?_
  rintro c ⟨s,h'⟩ ⟨j,cur,hj,rfl,hcl,hle,htk,hrest,hh,h0,h1,h5,h6⟩
  dsimp only at hh h0 h1 h5 h6
  subst hh
  generalize hF:(xs.take j).filter (fun x => !p x)=F at hle htk h5
  have hbl:(h.set b (.els e (cur.map enc)))[b]? = some (.els e (cur.map enc)):=getElem?_set_self' hb
  unfold dlgB
  refine AW.sseq ?_
  refine AW.rseq ?_
  simp only[iI,↓wk,↓wl,nca,evV,h0,h6,↓reduceIte,Nat.reduceEqDiff,Nat.reduceSub,Nat.reduceAdd]
  by_cases hlt:j<xs.length
  ·refine AW.ift (by simp only[od_t,put_at];simp;omega) ?_
   refine AW.skip ?_
   refine seqQ.norm ?_
   refine AW.bseq ?_
   have hx:=List.getElem?_eq_getElem hlt
   have hxm:=List.getElem_mem hlt
   generalize xs[j]=x at hx hxm
   have hcx:cur[j]? = some x:=(hrest j (Nat.le_refl _)).trans hx
   have hwj:IntKind.i64.wrap ((j:Int) + 1)=((j + 1:Nat):Int):=w64_succ (by omega)
   have hFs:=filter_take_succ (p:=fun x => !p x) hx
   rw[hF] at hFs
   have hcells:(expand zs0).length=(enc x).cells.length:=by
    obtain ⟨k,rfl⟩:∃ k,e=k + 1:=⟨e - 1,by omega⟩
    obtain ⟨us,hu,hl⟩:=fits_succ (IsEnc.fits (enc:=enc) x)
    rw[hz0,hu]
    exact hl.symm
   have hidx:∀ ys:List τ,(List.range (h.set b (.els e (ys.map enc))).length).idxOf? b=some b:=fun ys=>idx_range (by rw[List.length_set];exact hbl0)
   have hsc2:∀ ys:List τ,ren (List.range (h.set b (.els e (ys.map enc))).length) 12 (.fn kf caps)=.fn kf caps:=fun ys=>by rw[List.length_set];exact hsc
   unfold dlgB1
   refine AW.rseq ?_
   simp only[iI,iN,↓wk,↓wl,nca,evV,h0,h1,h5,h6,↓reduceIte,Nat.reduceEqDiff,Nat.reduceSub,Nat.reduceAdd]
   refine step rfl (iaddr_row (i:=j) (by rfl) (by rfl) hlt) ?_
   simp only[iI,iN,↓wk,↓wl,nca,evV,h0,h1,h5,h6,↓reduceIte,Nat.reduceEqDiff,Nat.reduceSub,Nat.reduceAdd]
   refine step rfl (load_elem (by rfl) hbl hcx) ?_
   simp only[iI,iN,↓wk,↓wl,nca,h0,h1,h5,h6,↓reduceIte,Nat.reduceEqDiff,Nat.reduceSub,Nat.reduceAdd]
   refine step (v:=.ptr (h.set b (.els e (cur.map enc))).length 0) (h':=h.set b (.els e (cur.map enc))++[.cel (expand zs0)]) rfl (by simp only[evV]) ?_
   simp only[iI,iN,↓wk,↓wl,nca,h0,h1,h5,h6,↓reduceIte,Nat.reduceEqDiff,Nat.reduceSub,Nat.reduceAdd]
   refine step rfl (store_cells (enc:=enc) (x:=x) (by rfl) (by rfl) hcells he0) ?_
   simp only[iI,iN,↓wk,↓wl,nca,h0,h1,h5,h6,↓reduceIte,Nat.reduceEqDiff,Nat.reduceSub,Nat.reduceAdd]
   have hlast:(h.set b (.els e (cur.map enc))++[HB.cel (enc x).cells])[(h.set b (.els e (cur.map enc))).length]? = some (.cel (enc x).cells):=by
    rw[List.getElem?_append_right (Nat.le_refl _),Nat.sub_self];rfl
   have hbl2:(h.set b (.els e (cur.map enc))++[HB.cel (enc x).cells])[b]? = some (.els e (cur.map enc)):=by
    rw[List.getElem?_append_left (by rw[List.length_set];exact hbl0)];exact hbl
   refine AW.rseq ?_
   simp only[iI,iN,↓wk,↓wl,nca,h0,h1,h5,h6,↓reduceIte,Nat.reduceEqDiff,Nat.reduceSub,Nat.reduceAdd]
   refine step rfl (load_cells (x:=x) (by rfl) hlast) ?_
   simp only[iI,iN,↓wk,↓wl,nca,h0,h1,h5,h6,↓reduceIte,Nat.reduceEqDiff,Nat.reduceSub,Nat.reduceAdd]
   refine evTs_call (by first | rfl | (simp only[od_t,put_at,↓reduceIte,Nat.reduceEqDiff,h1];rfl)) ?_
   simp only[List.map_cons,List.map_nil,od_t,put_at,↓reduceIte,Nat.reduceEqDiff,List.singleton_append]
   refine hcall _ x hxm (fun b' y hne hy=>?_) _ ?_
   ·have hlt':b'<h.length:=(List.getElem?_eq_some_iff.1 hy).1
    rw[List.getElem?_append_left (by rw[List.length_set];exact hlt'),List.getElem?_set_ne (Ne.symm hne)]
    exact hy
   simp only[iI,iN,↓wk,↓wl,nca,evV,h0,h1,h5,h6,↓reduceIte,Nat.reduceEqDiff,Nat.reduceSub,Nat.reduceAdd]
   cases hp:p x with
   | true =>
    refine AW.iff (by simp only[od_t,put_at];simp[hp]) ?_
    refine AW.skip ?_
    refine blkQ.norm ?_
    refine AW.rend ?_
    simp only[iI,iN,↓wk,↓wl,nca,evV,h0,h1,h5,h6,↓reduceIte,Nat.reduceEqDiff,Nat.reduceSub,Nat.reduceAdd]
    rw[if_neg (by simp[hp]),List.append_nil] at hFs
    refine ⟨xs.length - (j + 1),_,by omega,Le.dropLast [0,1,5,6] (by rw[List.length_set];exact hlo) (hsh.set cur),j + 1,cur,hlt,rfl,hcl,by rw[hFs];omega,by rw[hFs];exact htk,fun i hi=>hrest i (by omega),rfl,?_⟩
    simp only[renS_cons,renS_nil,deep_eq,put_at,↓reduceIte,Nat.reduceEqDiff,h0,h1,h5,hwj,hFs,ren_row',ren_int',hidx,hsc2,and_self]
   | false =>
    refine AW.ift (by simp only[od_t,put_at];simp[hp]) ?_
    refine AW.rseq ?_
    simp only[iI,iN,↓wk,↓wl,nca,evV,h0,h1,h5,h6,↓reduceIte,Nat.reduceEqDiff,Nat.reduceSub,Nat.reduceAdd]
    have hFl:F.length<xs.length:=by omega
    refine step rfl (load_cells (x:=x) (by rfl) hlast) ?_
    simp only[iI,iN,↓wk,↓wl,nca,h0,h1,h5,h6,↓reduceIte,Nat.reduceEqDiff,Nat.reduceSub,Nat.reduceAdd]
    refine step rfl (iaddr_row (i:=F.length) (by rfl) (by rfl) hFl) ?_
    simp only[iI,iN,↓wk,↓wl,nca,h0,h1,h5,h6,↓reduceIte,Nat.reduceEqDiff,Nat.reduceSub,Nat.reduceAdd]
    refine evTs_stW (enc:=enc) x (by rfl) hbl2 (by omega) (fun y=>stE_whole y x) ?_
    simp only[iI,iN,↓wk,↓wl,nca,evV,h0,h1,h5,h6,↓reduceIte,Nat.reduceEqDiff,Nat.reduceSub,Nat.reduceAdd]
    have hwF:IntKind.i64.wrap ((F.length:Int) + 1)=((F.length + 1:Nat):Int):=w64_succ (by omega)
    refine AW.rend ?_
    simp only[iI,iN,↓wk,↓wl,nca,evV,h0,h1,h5,h6,hwF,↓reduceIte,Nat.reduceEqDiff,Nat.reduceSub,Nat.reduceAdd]
    refine blkQ.norm ?_
    refine AW.rend ?_
    simp only[iI,iN,↓wk,↓wl,nca,evV,h0,h1,h5,h6,↓reduceIte,Nat.reduceEqDiff,Nat.reduceSub,Nat.reduceAdd]
    rw[if_pos (by simp[hp])] at hFs
    rw[List.set_append_left _ _ (by rw[List.length_set];exact hbl0),List.set_set]
    refine ⟨xs.length - (j + 1),_,by omega,Le.dropLast [0,1,5,6] (by rw[List.length_set];exact hlo) (hsh.set (cur.set F.length x)),j + 1,cur.set F.length x,hlt,rfl,by simpa using hcl,by rw[hFs];simp;omega,?_,fun i hi=>?_,?_,?_⟩
    ·rw[hFs,List.length_append,List.length_singleton,List.take_add_one,List.getElem?_set_self (by omega)]
     rw[List.take_set_of_le (Nat.le_refl _),htk]
     rfl
    ·rw[List.getElem?_set_ne (by omega)]
     exact hrest i (by omega)
    ·rfl
    ·simp only[renS_cons,renS_nil,deep_eq,put_at,↓reduceIte,Nat.reduceEqDiff,h0,h1,hwj,hFs,ren_row',ren_int',hidx,hsc2,List.length_append,List.length_singleton,and_self]
  ·have hjx:j=xs.length:=by omega
   subst hjx
   rw[List.take_of_length_le (Nat.le_refl _)] at hF
   refine AW.iff (by simp only[od_t,put_at];simp) ?_
   refine AW.exit ?_
   refine seqQ.exit ?_
   show blk0 0 _ (.exit 0) _
   refine blk0.here ?_
   refine seqQ.norm ?_
   unfold dlgE
   refine AW.rseq ?_
   simp only[iI,iN,↓wk,↓wl,nca,evV,h0,h1,h5,h6,↓reduceIte,Nat.reduceEqDiff,Nat.reduceSub,Nat.reduceAdd]
   refine step rfl (slice_row_lo (a:=F.length) (by rfl) (by rfl) hle) ?_
   simp only[iI,iN,↓wk,↓wl,nca,evV,h0,h1,h5,h6,↓reduceIte,Nat.reduceEqDiff,Nat.reduceSub,Nat.reduceAdd]
   refine step rfl (clear_ok (by rfl) hbl (by simp;omega)) ?_
   simp only[iI,iN,↓wk,↓wl,nca,evV,h0,h1,h5,h6,↓reduceIte,Nat.reduceEqDiff,Nat.reduceSub,Nat.reduceAdd]
   refine AW.rseq ?_
   simp only[iI,iN,↓wk,↓wl,nca,evV,h0,h1,h5,h6,↓reduceIte,Nat.reduceEqDiff,Nat.reduceSub,Nat.reduceAdd]
   refine step rfl (slice_row_hi (a:=F.length) (by rfl) (by rfl) hle) ?_
   simp only[iI,iN,↓wk,↓wl,nca,evV,h0,h1,h5,h6,↓reduceIte,Nat.reduceEqDiff,Nat.reduceSub,Nat.reduceAdd]
   refine AW.ret ?_
   refine hQ _ (List.replicate (xs.length - F.length) z++(cur.map enc).drop (F.length + (xs.length - F.length))) (by rw[hF];rfl) ?_
   rw[hF,List.set_set]
   congr 2
   unfold overwrite
   rw[Nat.zero_add,← List.map_take,htk,List.length_replicate]
theorem dlg_fn{k b m ix kf:Nat}{zs0:List (Nat×AV)}{z:AV}{caps:List AV}{xs:List τ}{h:Hp}{p : τ → Bool}(hk:fd? P k=some (42,[.slot 4],dlgC e zs0 z ix))(he0:e≠0)(hz0:(expand zs0).length=e)(hsh:Shut h)(hsc:ShutV h (.fn kf caps))
  (hix:fd? P ix=some (19,[.slot 4],idxC e)) (hm:m=xs.length) (hmax:m≤maxStr) (hb:h[b]? = some (.els e (xs.map enc)))
  (hcall:∀ (h':Hp) x,x ∈ xs→(∀ b' y,b'≠b→h[b']? = some y→h'[b']? = some y)→∀ K:AV→Hp→Prop,K (.bool (p x)) h'→Fn P kf (enc x::caps) h' K)
  {R:AV→Hp→Prop}(hR:R (.row e h.length 0 (xs.filter fun x => !p x).length) (h.set b .dead++[.els e ((xs.filter fun x => !p x).map enc)])):Fn P k [.row e b 0 m,.fn kf caps] h R:=by
 refine ⟨fd?_entered hk,⟨_,_,hR⟩,fun E w us hok hl hr=>code_calls2 hk (Nat.le_of_ble_eq_true rfl) ?_ hok hl hr⟩
 refine dlgC_walk he0 hz0 (Nat.le_refl _) hsh hsc hix hm hmax hb hcall ?_
 intro st zs h4 hh
 have hyl:((xs.filter fun x => !p x).map enc).length=(xs.filter fun x => !p x).length:=List.length_map ..
 refine ⟨.inr rfl,⟨put st.s 4 (.row e st.h.length 0 ((xs.filter fun x => !p x).map enc).length),st.h.set b .dead++[.els e ((xs.filter fun x => !p x).map enc)]⟩,.row e h.length 0 (xs.filter fun x => !p x).length,Le.settleR (zs:=zs) (by rw[hyl];exact h4) (by rw[hh];exact getElem?_set_self' hb),?_,?_⟩
 ·simp only[resVs,omap,resV,put,if_true,hyl,hh,List.length_set]
 ·simp only[hh,List.set_set];exact hR
end
theorem evTs_dlg{τ α : Type}{enc : τ → AV}{e:Nat}[IsEnc e enc]{xs:List τ}{f : τ → Option Bool}{kont:List τ → Option α}{r : α}(H:(delf? f xs).bind kont=some r){kf:Nat}(caps':List AV)
  (spec:∀ x y,f x=some y→Pure P kf (enc x::caps'.map (unf 12)) (· = .bool y)) {k ix:Nat}{zs0:List (Nat×AV)}{z:AV}(hk:fd? P k=some (42,[.slot 4],dlgC e zs0 z ix)) (he0:e≠0) (hz0:(expand zs0).length=e) (hix:fd? P ix=some (19,[.slot 4],idxC e))
  {is:List Ins}{K:St→Prop}{s:Nat→AV}{h:Hp}{d:Option Nat}{fo:Od}{as:List Od}{b m:Nat}{caps:List AV}(hf:fo.ev s=.fn k []) (ha:as.map (Od.ev s)=[.row e b 0 m,.fn kf caps]) (hsh:Shut h) (hsc:ShutV h (.fn kf caps))
  (himm:∀ h':Hp,(∀ b' y,b'≠b→h[b']? = some y→h'[b']? = some y)→∀ x,imm h' deep (.tup (enc x::caps))=some (.tup (enc x::caps'))) (hm:m=xs.length) (hb:h[b]? = some (.els e (xs.map enc)))
  (hK:∀ zs,kont zs=some r→evTs (Fn P) is K ⟨put? s d (.row e h.length 0 zs.length),h.set b .dead++[.els e (zs.map enc)]⟩):evTs (Fn P) (Ins.mk d none (.call fo as)::is) K ⟨s,h⟩:=by
 unfold delf? at H
 split at H
 case isFalse=>cases H
 rename_i hc
 obtain ⟨hall,hmax⟩:=hc
 subst hm
 refine evTs_call hf ?_
 rw[ha,List.append_nil]
 refine dlg_fn (p:=fun x=>(f x).getD false) hk he0 hz0 hsh hsc hix rfl hmax hb (fun h' x hx hh K' hK'=>?_) (hK _ H)
 have hs:=List.all_eq_true.1 hall x hx
 obtain ⟨y,hy⟩:=Option.isSome_iff_exists.1 hs
 have hp:=spec x y hy
 simp only[hy,Option.getD_some] at hK'
 refine Fn.valf (as:=enc x::caps') (by rw[List.map_cons,IsEnc.unf];exact hp) (himm h' hh x) rfl rfl hK'
end Go.Ab
namespace Go.Ab
open Go
variable {P:Program}
end Go.Ab
