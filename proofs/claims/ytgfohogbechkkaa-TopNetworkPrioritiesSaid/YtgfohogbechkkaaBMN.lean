import Derived.Test.YtgfohogbechkkaaBM5
import Derived.Test.YtgfohogbechkkaaBM6
set_option linter.unusedSimpArgs false
set_option linter.unusedVariables false
namespace Go.Ab
open Go
def RT.lst:RT→List Ins
 | .run is=>is
 | .fork is a _=>is++a.lst
theorem lst_cons{i:Ins}{t:RT}:(t.cons i).lst=i::t.lst:=by cases t<;>rfl
theorem least:∀ {l:List Nat},l≠[]→∃ a ∈ l,∀ b ∈ l,a≤b
 | [x],_=>⟨x,by simp,by simp⟩
 | x::y::l,_=>by
  obtain ⟨a,ha,hm⟩:=least (l:=y::l) (by simp)
  by_cases h:x≤a
  ·exact ⟨x,by simp,fun b hb=>by rcases List.mem_cons.1 hb with e | e;exact Nat.le_of_eq e.symm;exact Nat.le_trans h (hm b e)⟩
  ·exact ⟨a,List.mem_cons_of_mem _ ha,fun b hb=>by rcases List.mem_cons.1 hb with e | e;omega;exact hm b e⟩
theorem grow_s{q:Bool}{ops:Array Oper}{b:List Nat}{is:List Ins}{f:Nat}{rest:List Nat}(h:rest≠[]):grow q ops b is (f + 1) rest=(match (rdy ops rest).find? (loneI q b is rest) with
  | some i=>(grow q ops b is f (rest.erase i)).cons (is.getD i default)
  | none=>RT.forks ((rdy ops rest).map fun i=>(grow q ops b is f (rest.erase i)).cons (is.getD i default))):=by
 cases rest with
 | nil=>exact absurd rfl h
 | cons=>rfl
theorem rdy_some{ops:Array Oper}(hfw:∀ (j:Nat) o,ops[j]? = some o→∀ e ∈ o.after.toList,Region.binds .any e=true→e.on<j){rest:List Nat}(h:rest≠[])(hr:∀ j ∈ rest,j<ops.size):∃ i l,rdy ops rest=i::l:=by
 obtain ⟨a,ha,hm⟩:=least h
 have hk:a ∈ rdy ops rest:=by
  unfold rdy
  rw[List.mem_filter]
  refine ⟨ha,?_⟩
  rw[Array.getElem?_eq_getElem (hr a ha)]
  simp only[List.all_eq_true,Bool.or_eq_true,Bool.not_eq_true']
  intro e he
  cases hb:Region.binds .any e with
  | false=>exact .inl rfl
  | true =>
   refine .inr ?_
   have:=hfw a _ (Array.getElem?_eq_getElem (hr a ha)) e he hb
   cases hc:rest.contains e.on with
   | false=>rfl
   | true =>
    have:=hm _ (by simpa using hc)
    omega
 cases hr:rdy ops rest with
 | nil=>rw[hr] at hk;cases hk
 | cons i l=>exact ⟨i,l,rfl⟩
theorem grow_lst{q:Bool}{ops:Array Oper}{b:List Nat}{is:List Ins}(hfw:∀ (j:Nat) o,ops[j]? = some o→∀ e ∈ o.after.toList,Region.binds .any e=true→e.on<j):∀ (f:Nat) (rest:List Nat),rest.length=f→(∀ j ∈ rest,j<ops.size)→∀ i ∈ rest,is.getD i default ∈ (grow q ops b is f rest).lst
 | 0,rest,hl,_,i,hi=>by rw[List.eq_nil_of_length_eq_zero hl] at hi;cases hi
 | f + 1,rest,hl,hr,i,hi=>by
  have hne:rest≠[]:=fun e=>by rw[e] at hi;cases hi
  have go:∀ k ∈ rest,is.getD i default ∈ ((grow q ops b is f (rest.erase k)).cons (is.getD k default)).lst:=fun k hk=>by
   rw[lst_cons]
   by_cases e:i=k
   ·rw[e];exact List.mem_cons_self ..
   ·refine List.mem_cons_of_mem _ (grow_lst hfw f _ (by rw[List.length_erase_of_mem hk,hl];rfl) (fun j hj=>hr j (List.mem_of_mem_erase hj)) i ((List.mem_erase_of_ne e).2 hi))
  rw[grow_s hne]
  split
  ·rename_i k hk
   exact go k (rdy_mem (List.mem_of_find?_eq_some hk)).1
  ·obtain ⟨k,l,hk⟩:=rdy_some hfw hne hr
   rw[hk]
   have hk':k ∈ rest:=(rdy_mem (hk ▸ List.mem_cons_self ..)).1
   cases l with
   | nil=>exact go k hk'
   | cons k2 l =>
    have:∀ (t:RT) (ts:List RT),(RT.forks (t::ts)).lst=t.lst:=fun t ts=>by cases ts<;>simp[RT.forks,RT.lst]
    rw[List.map_cons,this]
    exact go k hk'
variable {P:Program}
theorem Le.junk{lo:Nat}{st:St}(i:Nat):Le lo st ⟨put st.s i .junk,st.h⟩:=fun E a w hst=>⟨E,⟨fun j=>by
 by_cases hj:j=i
 ·subst hj;simp only[put,if_true];exact .junk _
 ·simp only[put,if_neg hj];exact hst.slots j,hst.defers,hst.heap⟩,Ext.refl _ _ _⟩
theorem Le.frz{lo:Nat}{st:St}(i:Nat){τ : Type}{enc : τ → AV}{e b n:Nat}[IsEnc e enc]{xs:List τ}(hi:st.s i=.row e b 0 n)(hn:n=xs.length)(hb:st.h[b]? = some (.els e (xs.map enc))):Le lo st ⟨put st.s i (.sl e false (xs.map enc)),st.h.set b .dead⟩:=by
 refine Le.freeze ?_
 subst hn
 rw[hi]
 have hv:visit st.h (11 + 1) (.row e b 0 xs.length)=[b]:=by
  simp only[visit,hb]
  rw[if_pos (enc_all (enc:=enc) xs)]
 have hi':imm st.h deep (.row e b 0 xs.length)=some (.sl e false (xs.map enc)):=by
  show imm st.h (11 + 1) _=_
  rw[imm_rowE,hb]
  dsimp only
  rw[if_pos ⟨rfl,by simp⟩,List.drop_zero,List.take_of_length_le (by simp),imm_enc st.h 7]
  rfl
 unfold Ab.freeze
 rw[if_neg (by simp[plain,deep]),hi']
 show some (_,kill st.h (visit st.h (11 + 1) _))=_
 rw[hv]
 simp[kill]
def dap?{τ : Type}(bytes:Nat)(xs ys:List τ):Option Unit:=if ys≠[]∧(xs.length + ys.length) * bytes≤room∧xs.length + ys.length≤maxStr then some () else none
theorem Le.same{lo:Nat}{st st2:St}(h:st=st2):Le lo st st2:=h ▸ Le.refl lo st
theorem AW.dapp{n lo:Nat}{y:C}{Q:Ex→St→Prop}{st:St}{α τ : Type}{r : α}{enc : τ → AV}{e bytes:Nat}[IsEnc e enc]{xs ys:List τ}{kont:Unit→Option α}(H:(dap? bytes xs ys).bind kont=some r)
  {i j s1 s2 d D b1 b2 n1 n2:Nat}(hnd:[i,j,s1,s2,d,D].Nodup) (hi:st.s i=.row e b1 0 n1) (h1:n1=xs.length) (hb1:st.h[b1]? = some (.els e (xs.map enc))) (hj:st.s j=.row e b2 0 n2) (h2:n2=ys.length) (hb2:st.h[b2]? = some (.els e (ys.map enc))) (hbb:b1≠b2)
  (hk:kont ()=some r→AW P n lo y Q ⟨put (put (put (put (put st.s s1 .junk) s2 .junk) d .junk) D .junk) i (.row e (st.h.length + 1) 0 n1),st.h.set b1 .dead++[.dead,.els e (xs.map enc)]⟩) :
  AW P n lo (.seq (.reg [Ins.mk (some s1) none (.mv (.t i)),Ins.mk (some s2) none (.mv (.t j)),Ins.mk (some d) none (.append e bytes (.t s1) (.t s2)),Ins.mk (some D) none (.mv (.t d))]) y) Q st:=by
 unfold dap? at H
 split at H
 case isFalse=>cases H
 rename_i hc
 obtain ⟨hyn,hroom,hmax⟩:=hc
 have hk:=hk H
 simp only[List.nodup_cons,List.mem_cons,not_or,List.not_mem_nil,not_false_eq_true,and_true,List.nodup_nil] at hnd
 obtain ⟨⟨ij,is1,is2,id,iD⟩,⟨js1,js2,jd,jD⟩,⟨ss,sd,sD⟩,⟨s2d,s2D⟩,dD⟩:=hnd
 subst h1;subst h2
 have hb1l:b1<st.h.length:=(List.getElem?_eq_some_iff.1 hb1).1
 refine AW.caps (xs:=xs.map enc) hi (by simp) hb1 fun cap hcap=>AW.rseq ?_
 have hset:(st.h.set b1 (.els e (xs.map enc++List.replicate (cap - xs.length) (junkE e))))[b1]? = some (.els e (xs.map enc++List.replicate (cap - xs.length) (junkE e))):=getElem?_set_self' hb1
 generalize hH:st.h.set b1 (.els e (xs.map enc++List.replicate (cap - xs.length) (junkE e)))=h' at hset
 have hlen:h'.length=st.h.length:=by rw[← hH];simp
 have hset2:h'[b2]? = some (.els e (ys.map enc)):=by rw[← hH,List.getElem?_set_ne hbb];exact hb2
 have hdead:h'.set b1 .dead=st.h.set b1 .dead:=by rw[← hH,List.set_set]
 have fin:∀ (v v2 w:AV) (s':Nat→AV),(∀ k,k≠i→k≠s1→k≠s2→k≠d→k≠D→s' k=st.s k)→s' i=.row e (st.h.length + 1) 0 xs.length→Le lo ⟨s',st.h.set b1 .dead++[.dead,.els e (xs.map enc)]⟩ ⟨put (put (put (put (put st.s s1 .junk) s2 .junk) d .junk) D .junk) i (.row e (st.h.length + 1) 0 xs.length),st.h.set b1 .dead++[.dead,.els e (xs.map enc)]⟩:=fun v v2 w s' hs hsi=>by
  refine ((((Le.junk s1).trans (Le.junk s2)).trans (Le.junk d)).trans (Le.junk D)).trans (Le.same ?_)
  congr 1
  funext k
  simp only[put]
  by_cases k1:k=i
  ·subst k1
   rw[if_neg iD,if_neg id,if_neg is2,if_neg is1,if_pos rfl];exact hsi
  rw[if_neg k1]
  by_cases k2:k=D
  ·rw[if_pos k2,if_pos k2]
  rw[if_neg k2,if_neg k2]
  by_cases k3:k=d
  ·rw[if_pos k3,if_pos k3]
  rw[if_neg k3,if_neg k3]
  by_cases k4:k=s2
  ·rw[if_pos k4,if_pos k4]
  rw[if_neg k4,if_neg k4]
  by_cases k5:k=s1
  ·rw[if_pos k5,if_pos k5]
  rw[if_neg k5,if_neg k5]
  exact hs k k1 k5 k4 k3 k2
 have happ:(append h' e bytes (.crow e b1 0 xs.length cap) (.row e b2 0 ys.length))=if xs.length + ys.length≤cap then some (.crow e b1 0 (xs.length + ys.length) cap,h'.set b1 (.els e (xs.map enc++(ys.map enc++(xs.map enc++List.replicate (cap - xs.length) (junkE e)).drop (xs.length + ys.length))))) else some (.row e h'.length 0 (xs.length + ys.length),h'++[.els e (xs.map enc++ys.map enc)]):=by
  have hsrc:srcElems e h' (.row e b2 0 ys.length)=some (ys.map enc):=by
   simp only[srcElems,hset2]
   have hta:List.take ys.length (List.drop 0 (ys.map enc))=ys.map enc:=by rw[List.drop_zero,List.take_of_length_le (by simp)]
   rw[hta,if_pos ⟨trivial,trivial,by simp,enc_all ys⟩]
  unfold append
  rw[hsrc]
  have htk:(xs.map enc++List.replicate (cap - xs.length) (junkE e)).take xs.length=xs.map enc:=by rw[List.take_append_of_le_length (by simp),List.take_of_length_le (by simp)]
  simp only[appendL,hset]
  rw[if_pos ⟨trivial,trivial,by simp,by simp;omega,.inl (by simpa using hyn)⟩,htk,List.length_map]
  by_cases hc:xs.length + ys.length≤cap
  ·rw[if_pos hc,if_pos hc]
  ·rw[if_neg hc,if_neg hc,if_pos ⟨hroom,hmax⟩]
 simp only[evTs,evT,act,evO,evV,Od.ev,put?]
 have g1:put (put (put st.s i (.crow e b1 0 xs.length cap)) s1 (put st.s i (.crow e b1 0 xs.length cap) i)) s2 (put (put st.s i (.crow e b1 0 xs.length cap)) s1 (put st.s i (.crow e b1 0 xs.length cap) i) j) s1=.crow e b1 0 xs.length cap:=by
  simp[put,ss,ij,is1]
 have g2:put (put (put st.s i (.crow e b1 0 xs.length cap)) s1 (put st.s i (.crow e b1 0 xs.length cap) i)) s2 (put (put st.s i (.crow e b1 0 xs.length cap)) s1 (put st.s i (.crow e b1 0 xs.length cap) i) j) s2=.row e b2 0 ys.length:=by
  simp[put,js1,Ne.symm ij,hj]
 rw[g1,g2,happ]
 by_cases hc:xs.length + ys.length≤cap
 ·rw[if_pos hc]
  simp only
  refine AW.weaken ?_ hk
  have hs2:(h'.set b1 (.els e (xs.map enc++(ys.map enc++(xs.map enc++List.replicate (cap - xs.length) (junkE e)).drop (xs.length + ys.length)))))[b1]? = some (.els e (xs.map enc++(ys.map enc++(xs.map enc++List.replicate (cap - xs.length) (junkE e)).drop (xs.length + ys.length)))):=getElem?_set_self' hset
  refine (Le.settle (i:=i) (e:=e) (b:=b1) (cap:=cap) (ys:=xs.map enc) ?_ hs2).trans ?_
  ·simp[put,is1,is2,id,iD]
  simp only[List.length_set,List.set_set,hlen,hdead,List.length_map]
  refine (Le.settleR (i:=i) (e:=e) (b:=st.h.length) (ys:=xs.map enc) (zs:=[]) ?_ ?_).trans ?_
  ·simp[put]
  ·simp[List.getElem?_append_right]
  have hl:(st.h.set b1 .dead++[HB.els e (xs.map enc)]).set st.h.length .dead++[.els e (xs.map enc)]=st.h.set b1 .dead++[.dead,.els e (xs.map enc)]:=by
   rw[List.set_append_right _ _ (by simp)]
   simp
  simp only[hl]
  refine fin .junk .junk .junk _ (fun k k1 k2 k3 k4 k5=>?_) ?_
  ·simp[put,k1,k2,k3,k4,k5]
  ·simp[put]
 ·rw[if_neg hc]
  simp only
  refine AW.weaken ?_ hk
  have hs2:(h'++[HB.els e (xs.map enc++ys.map enc)])[b1]? = some (.els e (xs.map enc++List.replicate (cap - xs.length) (junkE e))):=by
   rw[List.getElem?_append_left (by omega)];exact hset
  refine (Le.settle (i:=i) (e:=e) (b:=b1) (cap:=cap) (ys:=xs.map enc) ?_ hs2).trans ?_
  ·simp[put,is1,is2,id,iD]
  refine (Le.give _ _ st.h.length).trans ?_
  have hl:((h'++[HB.els e (xs.map enc++ys.map enc)]).set b1 .dead++[HB.els e (xs.map enc)]).set st.h.length .dead=st.h.set b1 .dead++[.dead,.els e (xs.map enc)]:=by
   rw[List.set_append_left b1 _ (by omega),hdead,List.append_assoc,List.set_append_right _ _ (by simp)]
   simp
  simp only[List.length_append,List.length_map,List.length_cons,List.length_nil,hlen]
  rw[hl]
  refine fin .junk .junk .junk _ (fun k k1 k2 k3 k4 k5=>?_) ?_
  ·simp[put,k1,k2,k3,k4,k5]
  ·simp[put,hlen]
theorem AW.join2{n lo:Nat}{Q:Ex→St→Prop}{st:St}{V R:Type}(J:Jn V R){r:R}{hh:Option R}(_:hh=some r){a b y:C}(hJ:∀ v st0,J.run v=some r→st0=J.cst v→AW P n lo y Q st0)
  (h:(∀ st' v,J.run v=some r→Le lo st' (J.cst v)→AW P n lo y Q st')→AW P n lo (.seq a (.seq b y)) Q st):AW P n lo (.seq a (.seq b y)) Q st :=
 h fun _ v hv hl=>AW.weaken hl (hJ v _ hv rfl)
theorem visit_aggT(h:Hp)(n:Nat)(cs:List AV):visit h (n + 1) (.agg cs)=visit h (n + 1) (.tup cs):=by simp only[visit]
theorem hand_kI{h:Hp}{e b k n:Nat}{xs cs ds:List AV}(hc:cs[k]? = some (.row e b 0 n))(hb:h[b]? = some (.els e xs))(hn:n=xs.length)(hp:xs.all (plain deep)=true)(hv:(visit h (12 + 1) (.tup (cs.eraseIdx k))).contains b=false)(ho:omap (imm h deep) (cs.eraseIdx k)=some ds) :
  handOver (some k) h (.tup cs)=some (.tup (ds.insertIdx k (.fr e xs))):=by
 subst hn
 have hv:((cs.eraseIdx k).flatMap (visit h deep)).contains b=false:=hv
 simp only[handOver,hc,handRow,hb]
 rw[if_pos ⟨trivial,trivial,by rw[visits_plain hp];rfl,hv⟩,omap_imm hp,ho]
 rfl
theorem ifT{α : Type}{a b r : α}(h:(if (true:Bool)=true then a else b)=r):a=r:=h
theorem ifF{α : Type}{a b r : α}(h:(if (false:Bool)=true then a else b)=r):b=r:=h
end Go.Ab
