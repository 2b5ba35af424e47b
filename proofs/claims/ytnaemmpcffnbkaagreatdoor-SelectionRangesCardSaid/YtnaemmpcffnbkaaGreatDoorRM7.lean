import Derived.Test.YtnaemmpcffnbkaaGreatDoorRM4
set_option linter.unusedSimpArgs false
set_option linter.unusedVariables false
namespace Go.Ab
open Go
variable {P:Program}
def dlhB1(e:Nat):C:=.seq (.reg [iI 22 (.mv (.t 0)),iI 23 (.mv (.t 6)),iI 24 (.iaddr e (.t 22) (.t 23)),iI 25 (.load e (.t 24)),iI 7 (.mv (.t 25))]) (.seq (.reg [iI 26 (.mv (.t 1)),iI 27 (.mv (.t 7)),iI 28 (.call (.t 26) [(.t 27)]),iI 29 (.un .not (.t 28))]) (.cond (.t 29) (.seq (.reg [iI 30 (.mv (.t 0)),iI 31 (.mv (.t 5)),iI 32 (.mv (.t 7)),iI 33 (.iaddr e (.t 30) (.t 31)),iN (.store e (.t 33) (.t 32))]) (.reg [iI 34 (.mv (.t 5)),iI 35 (.bin .add (.t 34) (.c (.int .i64 1))),iI 5 (.mv (.t 35))])) .skip))
def dlhB(e:Nat):C:=.seq (.seq (.reg [iI 16 (.mv (.t 6)),iI 17 (.mv (.t 0)),iI 18 (.len 0 (.t 17)),iI 19 (.bin .lss (.t 16) (.t 18))]) (.cond (.t 19) .skip (.exit 0))) (.seq (.block 1 (dlhB1 e)) (.reg [iI 20 (.mv (.t 6)),iI 21 (.bin .add (.t 20) (.c (.int .i64 1))),iI 6 (.mv (.t 21))]))
def dlhE(e:Nat)(z:AV):C:=.seq (.reg [iI 36 (.mv (.t 0)),iI 37 (.mv (.t 5)),iI 38 (.slice e (.t 36) (some (.t 37)) none),iN (.clear e z (.t 38))]) (.seq (.reg [iI 39 (.mv (.t 0)),iI 40 (.mv (.t 5)),iI 41 (.slice e (.t 39) none (some (.t 40))),iI 4 (.mv (.t 41))]) .ret)
def dlhC(e:Nat)(z:AV)(ix:Nat):C:=.seq (.reg [iI 4 (.mv (.c (.sl e true [])))]) (.seq (.reg [iI 8 (.mv (.t 0)),iI 9 (.mv (.t 1)),iI 10 (.call (.c (.fn ix [])) [(.t 8),(.t 9)]),iI 5 (.mv (.t 10))]) (.seq (.seq (.reg [iI 11 (.mv (.t 5)),iI 12 (.bin .eql (.t 11) (.c (.int .i64 (-1))))]) (.cond (.t 12) (.seq (.reg [iI 13 (.mv (.t 0)),iI 4 (.mv (.t 13))]) .ret) .skip)) (.seq (.seq (.reg [iI 14 (.mv (.t 5)),iI 15 (.bin .add (.t 14) (.c (.int .i64 1))),iI 6 (.mv (.t 15))]) (.block 0 (.loop (dlhB e)))) (dlhE e z))))
section
variable {n lo:Nat}{Q:Ex→St→Prop}{τ : Type}{enc : τ → AV}{e:Nat}[IsEnc e enc]
set_option maxHeartbeats 2000000 in
theorem dlhC_walk{b m ix kf:Nat}{z:AV}{caps:List AV}{xs:List τ}{h:Hp}{p : τ → Bool}(hix:fd? P ix=some (19,[.slot 4],idxC e))(hm:m=xs.length)(hmax:m≤maxStr)(hb:h[b]? = some (.els e (xs.map enc)))
  (hcall:∀ (ys:List τ) x,x ∈ xs→∀ K:AV→Hp→Prop,K (.bool (p x)) (h.set b (.els e (ys.map enc)))→Fn P kf (enc x::caps) (h.set b (.els e (ys.map enc))) K)
  (hQ:∀ st zs,st.s 4=.row e b 0 (xs.filter fun x => !p x).length→st.h=h.set b (.els e ((xs.filter fun x => !p x).map enc++zs))→Q .ret st):AW P n lo (dlhC e z ix) Q ⟨slotsOf [.row e b 0 m,.fn kf caps],h⟩:=by
 subst hm
 have hmx:xs.length≤9223372036854775807:=by unfold maxStr at hmax;omega
 unfold dlhC
 refine AW.rseq ?_
 simp only[iI,↓wk,↓wl,nca,evV,↓reduceIte,Nat.reduceEqDiff,Nat.reduceSub,Nat.reduceAdd]
 refine AW.rseq ?_
 simp only[iI,↓wk,↓wl,nca,evV,↓reduceIte,Nat.reduceEqDiff,Nat.reduceSub,Nat.reduceAdd]
 refine evTs_call (by rfl) ?_
 simp only[List.map_cons,List.map_nil,od_t,put_at,↓reduceIte,Nat.reduceEqDiff,List.append_nil]
 refine index_fn (p:=p) hix rfl hmax hb (fun x hx K hK=>?_) ?_
 ·have:=hcall xs x hx K
  rw[set_same hb] at this
  exact this hK
 simp only[iI,↓wk,↓wl,nca,evV,↓reduceIte,Nat.reduceEqDiff,Nat.reduceSub,Nat.reduceAdd]
 refine AW.sseq ?_
 refine AW.rseq ?_
 simp only[iI,↓wk,↓wl,nca,evV,↓reduceIte,Nat.reduceEqDiff,Nat.reduceSub,Nat.reduceAdd]
 cases hf:xs.findIdx? p with
 | none =>
  have hfi:fstI p xs = -1:=by unfold fstI;rw[hf]
  have hall:(xs.filter fun x => !p x)=xs:=by
   rw[List.filter_eq_self]
   intro x hx
   simp[List.findIdx?_eq_none_iff.1 hf x hx]
  refine AW.ift (by simp only[od_t,put_at];simp[hfi]) ?_
  refine AW.rseq ?_
  simp only[iI,↓wk,↓wl,nca,evV,↓reduceIte,Nat.reduceEqDiff,Nat.reduceSub,Nat.reduceAdd]
  refine AW.ret ?_
  refine seqQ.ret ?_
  refine hQ _ [] (by rw[hall];rfl) ?_
  rw[hall,List.append_nil,set_same hb]
 | some i0 =>
  obtain ⟨hi0,hp1,hp2⟩:=List.findIdx?_eq_some_iff_getElem.1 hf
  have hfi:fstI p xs=(i0:Nat):=by unfold fstI;rw[hf]
  refine AW.iff (by simp only[od_t,put_at];simp[hfi]) ?_
  refine AW.skip ?_
  refine seqQ.norm ?_
  simp only[hfi]
  have hw0:IntKind.i64.wrap ((i0:Int) + 1)=((i0 + 1:Nat):Int):=w64_succ (by omega)
  refine AW.sseq ?_
  refine AW.sseq ?_
  refine AW.rend ?_
  simp only[iI,↓wk,↓wl,nca,evV,↓reduceIte,Nat.reduceEqDiff,Nat.reduceSub,Nat.reduceAdd,hw0]
  refine seqQ.norm ?_
  refine AW.bend ?_
  have hx0:=List.getElem?_eq_getElem hi0
  have hfirst:(xs.take (i0 + 1)).filter (fun x => !p x)=xs.take i0:=by
   rw[filter_take_succ hx0,if_neg (by simp[hp1]),List.append_nil,List.filter_eq_self]
   intro y hy
   obtain ⟨j,hj,rfl⟩:=List.mem_take_iff_getElem.1 hy
   simpa using hp2 j (by omega)
  refine AW.loop (fun c st=>∃ (j:Nat) (cur:List τ),j≤xs.length∧c=xs.length - j∧cur.length=xs.length∧((xs.take j).filter fun x => !p x).length≤j∧cur.take ((xs.take j).filter fun x => !p x).length=(xs.take j).filter (fun x => !p x)∧(∀ i,j≤i→cur[i]? = xs[i]?) ∧
    st.h=h.set b (.els e (cur.map enc))∧st.s 0=.row e b 0 xs.length∧st.s 1=.fn kf caps∧st.s 5=.int .i64 (((xs.take j).filter fun x => !p x).length:Nat)∧st.s 6=.int .i64 (j:Nat)) (m:=xs.length - (i0 + 1))
   ⟨i0 + 1,xs,by omega,rfl,rfl,by rw[hfirst,List.length_take];omega,by rw[hfirst,List.length_take,Nat.min_eq_left (by omega)],fun _ _=>rfl,by rw[set_same hb],rfl,rfl,by
    rw[hfirst,List.length_take,Nat.min_eq_left (by omega)];rfl,rfl⟩ ?_
  rintro c ⟨s,h'⟩ ⟨j,cur,hj,rfl,hcl,hle,htk,hrest,hh,h0,h1,h5,h6⟩
  dsimp only at hh h0 h1 h5 h6
  subst hh
  generalize hF:(xs.take j).filter (fun x => !p x)=F at hle htk h5
  have hbl:(h.set b (.els e (cur.map enc)))[b]? = some (.els e (cur.map enc)):=getElem?_set_self' hb
  unfold dlhB
  refine AW.sseq ?_
  refine AW.rseq ?_
  simp only[iI,↓wk,↓wl,nca,evV,h0,h6,↓reduceIte,Nat.reduceEqDiff,Nat.reduceSub,Nat.reduceAdd]
  by_cases hlt:j<xs.length
  ·refine AW.ift (by simp only[od_t,put_at];simp;omega) ?_
   refine AW.skip ?_
   refine seqQ.norm ?_
   refine AW.bseq ?_
   have hx:=List.getElem?_eq_getElem hlt
   have hxm:=List.getElem_mem hlt
   generalize xs[j]=x at hx hxm
   have hcx:cur[j]? = some x:=(hrest j (Nat.le_refl _)).trans hx
   have hwj:IntKind.i64.wrap ((j:Int) + 1)=((j + 1:Nat):Int):=w64_succ (by omega)
   have hFs:=filter_take_succ (p:=fun x => !p x) hx
   rw[hF] at hFs
   unfold dlhB1
   refine AW.rseq ?_
   simp only[iI,↓wk,↓wl,nca,evV,h0,h1,h5,h6,↓reduceIte,Nat.reduceEqDiff,Nat.reduceSub,Nat.reduceAdd]
   refine step rfl (iaddr_row (i:=j) (by rfl) (by rfl) hlt) ?_
   simp only[iI,↓wk,↓wl,nca,evV,h0,h1,h5,h6,↓reduceIte,Nat.reduceEqDiff,Nat.reduceSub,Nat.reduceAdd]
   refine step rfl (load_elem (by rfl) hbl hcx) ?_
   simp only[iI,↓wk,↓wl,nca,evV,h0,h1,h5,h6,↓reduceIte,Nat.reduceEqDiff,Nat.reduceSub,Nat.reduceAdd]
   refine AW.rseq ?_
   simp only[iI,↓wk,↓wl,nca,evV,h0,h1,h5,h6,↓reduceIte,Nat.reduceEqDiff,Nat.reduceSub,Nat.reduceAdd]
   refine evTs_call (by first | rfl | (simp only[od_t,put_at,↓reduceIte,Nat.reduceEqDiff,h1];rfl)) ?_
   simp only[List.map_cons,List.map_nil,od_t,put_at,↓reduceIte,Nat.reduceEqDiff,List.singleton_append]
   refine hcall cur x hxm _ ?_
   simp only[iI,↓wk,↓wl,nca,evV,h0,h1,h5,h6,↓reduceIte,Nat.reduceEqDiff,Nat.reduceSub,Nat.reduceAdd]
   cases hp:p x with
   | true =>
    refine AW.iff (by simp only[od_t,put_at];simp[hp]) ?_
    refine AW.skip ?_
    refine blkQ.norm ?_
    refine AW.rend ?_
    simp only[iI,↓wk,↓wl,nca,evV,h0,h1,h5,h6,↓reduceIte,Nat.reduceEqDiff,Nat.reduceSub,Nat.reduceAdd]
    rw[if_neg (by simp[hp]),List.append_nil] at hFs
    refine ⟨xs.length - (j + 1),_,by omega,Le.refl _ _,j + 1,cur,hlt,rfl,hcl,by rw[hFs];omega,by rw[hFs];exact htk,fun i hi=>hrest i (by omega),rfl,?_⟩
    simp only[put_at,↓reduceIte,Nat.reduceEqDiff,h0,h1,h5,hwj,hFs,and_self]
   | false =>
    refine AW.ift (by simp only[od_t,put_at];simp[hp]) ?_
    refine AW.rseq ?_
    simp only[iI,iN,↓wk,↓wl,nca,evV,h0,h1,h5,h6,↓reduceIte,Nat.reduceEqDiff,Nat.reduceSub,Nat.reduceAdd]
    have hFl:F.length<xs.length:=by omega
    refine step rfl (iaddr_row (i:=F.length) (by rfl) (by rfl) hFl) ?_
    simp only[iI,iN,↓wk,↓wl,nca,evV,h0,h1,h5,h6,↓reduceIte,Nat.reduceEqDiff,Nat.reduceSub,Nat.reduceAdd]
    refine evTs_stW (enc:=enc) x (by rfl) hbl (by omega) (fun y=>stE_whole y x) ?_
    simp only[iI,iN,↓wk,↓wl,nca,evV,h0,h1,h5,h6,↓reduceIte,Nat.reduceEqDiff,Nat.reduceSub,Nat.reduceAdd]
    have hwF:IntKind.i64.wrap ((F.length:Int) + 1)=((F.length + 1:Nat):Int):=w64_succ (by omega)
    refine AW.rend ?_
    simp only[iI,iN,↓wk,↓wl,nca,evV,h0,h1,h5,h6,hwF,↓reduceIte,Nat.reduceEqDiff,Nat.reduceSub,Nat.reduceAdd]
    refine blkQ.norm ?_
    refine AW.rend ?_
    simp only[iI,iN,↓wk,↓wl,nca,evV,h0,h1,h5,h6,↓reduceIte,Nat.reduceEqDiff,Nat.reduceSub,Nat.reduceAdd]
    rw[if_pos (by simp[hp])] at hFs
    refine ⟨xs.length - (j + 1),_,by omega,Le.refl _ _,j + 1,cur.set F.length x,hlt,rfl,by simpa using hcl,by rw[hFs];simp;omega,?_,fun i hi=>?_,?_,?_⟩
    ·rw[hFs,List.length_append,List.length_singleton,List.take_add_one,List.getElem?_set_self (by omega)]
     rw[List.take_set_of_le (Nat.le_refl _),htk]
     rfl
    ·rw[List.getElem?_set_ne (by omega)]
     exact hrest i (by omega)
    ·rw[List.set_set]
    ·simp only[put_at,↓reduceIte,Nat.reduceEqDiff,h0,h1,hwj,hFs,List.length_append,List.length_singleton,and_self]
  ·have hjx:j=xs.length:=by omega
   subst hjx
   rw[List.take_of_length_le (Nat.le_refl _)] at hF
   refine AW.iff (by simp only[od_t,put_at];simp) ?_
   refine AW.exit ?_
   refine seqQ.exit ?_
   show blk0 0 _ (.exit 0) _
   refine blk0.here ?_
   refine seqQ.norm ?_
   unfold dlhE
   refine AW.rseq ?_
   simp only[iI,iN,↓wk,↓wl,nca,evV,h0,h1,h5,h6,↓reduceIte,Nat.reduceEqDiff,Nat.reduceSub,Nat.reduceAdd]
   refine step rfl (slice_row_lo (a:=F.length) (by rfl) (by rfl) hle) ?_
   simp only[iI,iN,↓wk,↓wl,nca,evV,h0,h1,h5,h6,↓reduceIte,Nat.reduceEqDiff,Nat.reduceSub,Nat.reduceAdd]
   refine step rfl (clear_ok (by rfl) hbl (by simp;omega)) ?_
   simp only[iI,iN,↓wk,↓wl,nca,evV,h0,h1,h5,h6,↓reduceIte,Nat.reduceEqDiff,Nat.reduceSub,Nat.reduceAdd]
   refine AW.rseq ?_
   simp only[iI,iN,↓wk,↓wl,nca,evV,h0,h1,h5,h6,↓reduceIte,Nat.reduceEqDiff,Nat.reduceSub,Nat.reduceAdd]
   refine step rfl (slice_row_hi (a:=F.length) (by rfl) (by rfl) hle) ?_
   simp only[iI,iN,↓wk,↓wl,nca,evV,h0,h1,h5,h6,↓reduceIte,Nat.reduceEqDiff,Nat.reduceSub,Nat.reduceAdd]
   refine AW.ret ?_
   refine hQ _ (List.replicate (xs.length - F.length) z++(cur.map enc).drop (F.length + (xs.length - F.length))) (by rw[hF];rfl) ?_
   rw[hF,List.set_set]
   congr 2
   unfold overwrite
   rw[Nat.zero_add,← List.map_take,htk,List.length_replicate]
theorem dlh_fn{k b m ix kf:Nat}{z:AV}{caps:List AV}{xs:List τ}{h:Hp}{p : τ → Bool}(hk:fd? P k=some (42,[.slot 4],dlhC e z ix))(hix:fd? P ix=some (19,[.slot 4],idxC e))(hm:m=xs.length)(hmax:m≤maxStr)(hb:h[b]? = some (.els e (xs.map enc)))
  (hcall:∀ (ys:List τ) x,x ∈ xs→∀ K:AV→Hp→Prop,K (.bool (p x)) (h.set b (.els e (ys.map enc)))→Fn P kf (enc x::caps) (h.set b (.els e (ys.map enc))) K)
  {R:AV→Hp→Prop}(hR:R (.row e h.length 0 (xs.filter fun x => !p x).length) (h.set b .dead++[.els e ((xs.filter fun x => !p x).map enc)])):Fn P k [.row e b 0 m,.fn kf caps] h R:=by
 refine ⟨fd?_entered hk,⟨_,_,hR⟩,fun E w us hok hl hr=>code_calls2 hk (Nat.le_of_ble_eq_true rfl) ?_ hok hl hr⟩
 refine dlhC_walk hix hm hmax hb hcall ?_
 intro st zs h4 hh
 have hyl:((xs.filter fun x => !p x).map enc).length=(xs.filter fun x => !p x).length:=List.length_map ..
 refine ⟨.inr rfl,⟨put st.s 4 (.row e st.h.length 0 ((xs.filter fun x => !p x).map enc).length),st.h.set b .dead++[.els e ((xs.filter fun x => !p x).map enc)]⟩,.row e h.length 0 (xs.filter fun x => !p x).length,Le.settleR (zs:=zs) (by rw[hyl];exact h4) (by rw[hh];exact getElem?_set_self' hb),?_,?_⟩
 ·simp only[resVs,omap,resV,put,if_true,hyl,hh,List.length_set]
 ·simp only[hh,List.set_set];exact hR
end
theorem evTs_dlh{τ α : Type}{enc : τ → AV}{e:Nat}[IsEnc e enc]{xs:List τ}{f : τ → Option Bool}{kont:List τ → Option α}{r : α}(H:(delf? f xs).bind kont=some r){kf:Nat}(caps':List AV)
  (spec:∀ x y,f x=some y→Pure P kf (enc x::caps'.map (unf 12)) (· = .bool y)) {k ix:Nat}{z:AV}(hk:fd? P k=some (42,[.slot 4],dlhC e z ix)) (hix:fd? P ix=some (19,[.slot 4],idxC e))
  {is:List Ins}{K:St→Prop}{s:Nat→AV}{h:Hp}{d:Option Nat}{fo:Od}{as:List Od}{b m:Nat}{caps:List AV}(hf:fo.ev s=.fn k []) (ha:as.map (Od.ev s)=[.row e b 0 m,.fn kf caps])
  (himm:∀ h':Hp,(∀ b',b'≠b→h'[b']? = h[b']?)→∀ x,imm h' deep (.tup (enc x::caps))=some (.tup (enc x::caps'))) (hm:m=xs.length) (hb:h[b]? = some (.els e (xs.map enc)))
  (hK:∀ zs,kont zs=some r→evTs (Fn P) is K ⟨put? s d (.row e h.length 0 zs.length),h.set b .dead++[.els e (zs.map enc)]⟩):evTs (Fn P) (Ins.mk d none (.call fo as)::is) K ⟨s,h⟩:=by
 unfold delf? at H
 split at H
 case isFalse=>cases H
 rename_i hc
 obtain ⟨hall,hmax⟩:=hc
 subst hm
 refine evTs_call hf ?_
 rw[ha,List.append_nil]
 refine dlh_fn (p:=fun x=>(f x).getD false) hk hix rfl hmax hb (fun ys x hx K' hK'=>?_) (hK _ H)
 have hs:=List.all_eq_true.1 hall x hx
 obtain ⟨y,hy⟩:=Option.isSome_iff_exists.1 hs
 have hp:=spec x y hy
 simp only[hy,Option.getD_some] at hK'
 refine Fn.valf (as:=enc x::caps') (by rw[List.map_cons,IsEnc.unf];exact hp) (himm _ (fun b' hb'=>List.getElem?_set_ne (Ne.symm hb')) x) rfl rfl hK'
section
variable {F:CallF}{is:List Ins}{K:St→Prop}{s:Nat→AV}{d:Option Nat}
theorem rest_lits{c:Bool}{A B:Option (AV×Hp)}{v:AV}{h':Hp}(hc:c=false)(hB:B=some (v,h'))(hk:evTs F is K ⟨put? s d v,h'⟩):rest F is K s d (if c=true then A else B):=by
 subst hc;subst hB;exact hk
end
def unfM:Bool→AV→AV
 | true,v=>unfD 12 v
 | false,v=>unf 12 v
theorem Pure.argsD{f:Nat}{args:List AV}{ms:List Bool}{R:AV→Prop}(hl:ms.length=args.length)(hp:Pure P f (List.zipWith unfM ms args) R):Pure P f args R :=
 ⟨hp.1,hp.2.1,fun S w us h1 h2 h3=>hp.2.2 S w us h1 (by rw[List.length_zipWith,hl,Nat.min_self];exact h2) fun i c u hc hu=>by
  rw[List.getElem?_zipWith] at hc
  cases hm:ms[i]? with
  | none=>simp[hm] at hc
  | some m =>
   cases ha:args[i]? with
   | none=>simp[hm,ha] at hc
   | some a =>
    simp only[hm,ha,Option.some.injEq] at hc
    subst hc
    cases m with
    | true=>exact (h3 i a u ha hu).unfD 12
    | false=>exact (h3 i a u ha hu).unf 12⟩
section
variable {is:List Ins}{K:St→Prop}{s:Nat→AV}{h:Hp}{d:Option Nat}{α β : Type}{r : α}
theorem evTs_pureD{F:CallF}(hF:∀ k args h K,Fn P k args h (fun v h'=>h'=h∧K v h')→F k args h K){m:Option β}{kont : β → Option α}(H:m.bind kont=some r){k:Nat}{as':List AV}{enc : β → AV}(spec:∀ y,m=some y→Pure P k as' (· = enc y))
  {f:Od}{as:List Od}{caps args:List AV}(hf:f.ev s=.fn k caps) (ha:as.map (Od.ev s)++caps=args) (hpl:plain deep (.tup args)=true) (ms:List Bool) (hl:ms.length=args.length) (hu:List.zipWith unfM ms args=as') (hr:∀ y,adopt h (enc y)=some (enc y,h))
  (hk:∀ y,kont y=some r→evTs F is K ⟨put? s d (enc y),h⟩):evTs F (Ins.mk d none (.call f as)::is) K ⟨s,h⟩:=by
 obtain ⟨y,hy,h2⟩:=Option.bind_eq_some_iff.1 H
 refine evTs_call hf (hF _ _ _ _ ?_)
 subst hu
 rw[ha]
 exact Fn.val (Pure.argsD hl (spec y hy)) hpl (hr y) ⟨rfl,hk y h2⟩
end
def flatD:Nat→AV→Bool
 | 0,_=>false
 | n + 1,v=>match v with
  | .bool _ | .int _ _ | .str _=>true
  | .agg cs=>cs.all (flatD n)
  | _=>false
theorem unfD_flat:∀ (n k:Nat) (v:AV),flatD k v=true→unfD n v=v
 | 0,_,_,_=>rfl
 | n + 1,0,v,h=>by cases h
 | n + 1,k + 1,v,h=>by
  have all:∀ cs:List AV,cs.all (flatD k)=true→cs.map (unfD n)=cs:=fun cs hc=>by
   rw[List.map_congr_left (g:=id) fun c hm=>unfD_flat n k c (List.all_eq_true.1 hc c hm),List.map_id]
  cases v with
  | agg cs=>exact congrArg AV.agg (all cs h)
  | _=>first | rfl | cases h
theorem ufx:(∀ cs:List AV,unr (.agg cs)=.agg (cs.map (unf 11)))∧(∀ (n e:Nat) (f:Bool) (xs:List AV),unf (n + 1) (.sl e f xs)=.sl e false xs)∧(∀ (n:Nat) (cs:List AV),unf (n + 1) (.agg cs)=.agg (cs.map (unf n))) ∧
  (∀ (n:Nat) (k:IntKind) (a:Int),unf (n + 1) (.int k a)=.int k a)∧(∀ (n:Nat) (b:Bool),unf (n + 1) (.bool b)=.bool b)∧(∀ (n:Nat) (s:List UInt8),unf (n + 1) (.str s)=.str s) ∧
  (∀ (n e:Nat) (f:Bool) (xs:List AV),unfD (n + 1) (.sl e f xs)=.sl e false (xs.map (unfD n)))∧(∀ (n:Nat) (cs:List AV),unfD (n + 1) (.agg cs)=.agg (cs.map (unfD n))) ∧
  (∀ (n:Nat) (k:IntKind) (a:Int),unfD (n + 1) (.int k a)=.int k a)∧(∀ (n:Nat) (b:Bool),unfD (n + 1) (.bool b)=.bool b)∧(∀ (n:Nat) (s:List UInt8),unfD (n + 1) (.str s)=.str s):=by
 refine ⟨?_,?_,?_,?_,?_,?_,?_,?_,?_,?_,?_⟩<;>intros<;>rfl
theorem map_unfD{τ : Type}(enc : τ → AV)(hf:∀ x,flatD 4 (enc x)=true)(n:Nat)(xs:List τ):(xs.map enc).map (unfD n)=xs.map enc:=by
 rw[List.map_congr_left (g:=id),List.map_id]
 intro c hc
 obtain ⟨x,_,rfl⟩:=List.mem_map.1 hc
 exact unfD_flat n 4 _ (hf x)
end Go.Ab
