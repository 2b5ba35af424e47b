import Derived.Test.YtgfohogbechkkaaBPT2
set_option linter.unusedSimpArgs false
set_option linter.unusedVariables false
namespace Go.Proofs.Ytgfohogbechkkaa
open Go Go.Ab
def cand(t u:Int)(x:ReceiverInput):Bool:=decide (x.fUniverse=u) && (decide (t - x.fLast≤2500) && !decide (x.fSlots=[]))
def winStep(acc:List ReceiverInput)(x:ReceiverInput):List ReceiverInput:=match acc with
 | []=>[x]
 | y::ys=>if y.fPriority<x.fPriority then [x] else if x.fPriority=y.fPriority then y::ys++[x] else y::ys
def winS(l:List ReceiverInput)(t u:Int):List ReceiverInput:=(l.filter (cand t u)).foldl winStep []
theorem winStep_len(acc:List ReceiverInput)(x:ReceiverInput):(winStep acc x).length≤acc.length + 1:=by
 unfold winStep
 split
 ·simp
 ·split
  ·simp
  ·split<;>simp
theorem walk_win(t u:Int):∀ (l:List ReceiverInput) (k:Nat) (acc:List ReceiverInput),walkL (fun _ a x=>(.inl (if cand t u x=true then winStep a x else a):List ReceiverInput⊕List ReceiverInput)) (fun a=>a) k acc l=(l.filter (cand t u)).foldl winStep acc
 | [],_,_=>rfl
 | x::l,k,acc=>by
  simp only[walkL]
  rw[walk_win t u l]
  cases h:cand t u x<;>simp[h]
theorem f73_eq{r:ReceiverReceiver}{t:Int}(hg:Good t r.fInputs)(u:Int):f73 r t u=some (winS r.fInputs t u):=by
 have hlen:=hg.len
 have h0:=hg.t0
 have h1:=hg.t1
 unfold f73
 have hrun:=run_walk (L:=f73_L1 r u t) r.fInputs (fun k (a:List ReceiverInput)=>((k:Int),a)) (fun _ a x=>.inl (if cand t u x=true then winStep a x else a)) (fun a=>a) (fun k a=>a.length≤k) (fun k a x hx hI=>by
  have R:=Rnd.mk' hx (by omega)
  have hk:=R.klt
  refine ⟨?_,fun a' ha'=>?_⟩
  ·have hL:=hg.last x R.mem
   have hL0:=(in_ok (hg.ok x R.mem)).2.2.1
   simp only[f73_L1]
   rw[if_pos R.lt,R.at',Option.bind_some]
   simp only[R.nxt]
   rw[w64 (a:=t - x.fLast) (by omega) (by omega)]
   by_cases c1:x.fUniverse=u
   case neg=>simp[c1,cand,roundL]
   by_cases c2:2500<t - x.fLast
   ·have:¬ t - x.fLast≤2500:=by omega
    simp[c1,c2,this,cand,roundL]
   have c2':t - x.fLast≤2500:=by omega
   by_cases c3:x.fSlots=[]
   ·simp[c1,c2,c3,cand,roundL]
   have hc:cand t u x=true:=by simp[cand,c1,c2',c3]
   have c3':(x.fSlots == [])=false:=by simp[c3]
   simp only[c1,c2,c3',hc,if_true,decide_false,Bool.false_eq_true,if_false,ne_eq,not_true_eq_false,roundL]
   have app1:app? 80 a [x]=some (a++[x]):=app_some (by simp only[List.length_cons,List.length_nil];omega) (by simp only[List.length_cons,List.length_nil];omega)
   have app0:app? 80 [] [x]=some [x]:=app_some (by simp only[List.length_cons,List.length_nil];omega) (by simp only[List.length_cons,List.length_nil];omega)
   cases a with
   | nil=>simp[app0,winStep]
   | cons y ys =>
    have hat:at? (y::ys) 0=some y:=rfl
    have e1:decide (0<(((y::ys).length:Nat):Int))=true:=by simp only[List.length_cons,decide_eq_true_eq];omega
    have e2:decide ((((y::ys).length:Nat):Int)=0)=false:=by simp only[List.length_cons,decide_eq_false_iff_not];omega
    rw[if_pos e1,hat,Option.bind_some]
    simp only[e2,Bool.false_eq_true,if_false,decide_eq_true_eq,Option.bind_some,app0,app1,winStep]
    by_cases d1:y.fPriority<x.fPriority
    ·simp[d1]
    ·by_cases d2:x.fPriority=y.fPriority
     ·simp[d2]
     ·simp[d1,d2]
  ·injection ha' with ha'
   subst ha'
   split
   ·have:=winStep_len a x;omega
   ·omega) (fun a _=>by simp[f73_L1]) [] (by simp)
 rw[show ((0:Int),([]:List ReceiverInput))=(((0:Nat):Int),[]) from rfl,hrun,walk_win,Option.bind_some]
 rfl
theorem win_sub:∀ (c acc:List ReceiverInput) (x:ReceiverInput),x ∈ c.foldl winStep acc→x ∈ c∨x ∈ acc
 | [],acc,x,h=>.inr h
 | y::c,acc,x,h=>by
  rw[List.foldl_cons] at h
  rcases win_sub c _ x h with h | h
  ·exact .inl (List.mem_cons_of_mem _ h)
  ·unfold winStep at h
   split at h
   ·have:x=y:=by simpa using h
    rw[this];exact .inl (List.mem_cons_self ..)
   ·split at h
    ·have:x=y:=by simpa using h
     rw[this];exact .inl (List.mem_cons_self ..)
    ·split at h
     ·rcases List.mem_append.1 h with h | h
      ·exact .inr h
      ·have:x=y:=by simpa using h
       rw[this];exact .inl (List.mem_cons_self ..)
     ·exact .inr h
theorem win_mem{l:List ReceiverInput}{t u:Int}{x:ReceiverInput}(h:x ∈ winS l t u):x ∈ l∧x.fUniverse=u∧t - x.fLast≤2500∧x.fSlots≠[]:=by
 rcases win_sub _ _ x h with h | h
 ·obtain ⟨h1,h2⟩:=List.mem_filter.1 h
  unfold cand at h2
  simp only[Bool.and_eq_true,decide_eq_true_eq,Bool.not_eq_true',decide_eq_false_iff_not] at h2
  exact ⟨h1,h2.1,h2.2.1,h2.2.2⟩
 ·simp at h
def mx8(a b:UInt8):UInt8:=if a.toNat<b.toNat then b else a
def toI(b:UInt8):Int:=(b.toNat:Int)
theorem b8_toI(b:UInt8):b8 (toI b)=b:=by
 unfold b8 toI
 rw[Int.toNat_natCast]
 exact UInt8.ofNat_toNat
theorem map_b8(s:List UInt8):(s.map toI).map b8=s:=by
 rw[List.map_map]
 conv=>rhs;rw[← List.map_id s]
 exact List.map_congr_left fun b _=>b8_toI b
def hiS(w:List ReceiverInput):List UInt8:=w.foldl (fun acc x=>List.zipWith mx8 acc x.fSlots) (List.replicate 512 0)
theorem zip_step{τ σ : Type}(f : τ → σ → τ){a:List τ}{s:List σ}{k:Nat}{x : τ}{y : σ}(hx:a[k]? = some x)(hy:s[k]? = some y) :
  (List.zipWith f (a.take k) (s.take k)++a.drop k)[k]? = some x∧(List.zipWith f (a.take k) (s.take k)++a.drop k).set k (f x y)=List.zipWith f (a.take (k + 1)) (s.take (k + 1))++a.drop (k + 1):=by
 have h1:=getElem?_lt hx
 have h2:=getElem?_lt hy
 have hl:(List.zipWith f (a.take k) (s.take k)).length=k:=by rw[List.length_zipWith,List.length_take,List.length_take];omega
 have hd:a.drop k=x::a.drop (k + 1):=by rw[List.drop_eq_getElem_cons h1];congr 1;exact (List.getElem?_eq_some_iff.1 hx).2
 refine ⟨by rw[List.getElem?_append_right (by omega),hl,Nat.sub_self,hd];rfl,?_⟩
 rw[hd]
 have:=set_mid (List.zipWith f (a.take k) (s.take k)) (a.drop (k + 1)) x (f x y)
 rw[hl] at this
 rw[this,List.take_add_one,List.take_add_one,hx,hy,List.zipWith_append (by rw[List.length_take,List.length_take];omega)]
 simp
theorem L3_eq{x:ReceiverInput}(hx:x.fSlots.length=512){a:List UInt8}(ha:a.length=512)(v:Int)(rr:List ReceiverInput)(u:Int)(out:List ApiFrame)(t:Int)(r:ReceiverReceiver) :
  (f30_L3 x v rr u out t r).run (0,a.map toI)=some ((List.zipWith mx8 a x.fSlots).map toI):=by
 have hrun:=run_count (L:=f30_L3 x v rr u out t r) (e:=(List.zipWith mx8 a x.fSlots).map toI) (fun k=>((k:Int),(List.zipWith mx8 (a.take k) (x.fSlots.take k)++a.drop k).map toI)) 512 (by
  simp only[f30_L3]
  rw[if_neg (by simp),List.take_of_length_le (by omega),List.take_of_length_le (by omega),List.drop_of_length_le (by omega),List.append_nil]) 0 (Nat.zero_le _) (fun k _ hk=>by
  have h1:=List.getElem?_eq_getElem (show k<a.length by omega)
  have h2:=List.getElem?_eq_getElem (show k<x.fSlots.length by omega)
  generalize a[k]=p at h1
  generalize x.fSlots[k]=q at h2
  obtain ⟨z1,z2⟩:=zip_step mx8 h1 h2
  have hlen:(List.zipWith mx8 (a.take k) (x.fSlots.take k)++a.drop k).length=512:=by
   rw[List.length_append,List.length_zipWith,List.length_take,List.length_take,List.length_drop];omega
  have harr:arr? 512 ((List.zipWith mx8 (a.take k) (x.fSlots.take k)++a.drop k).map toI) (k:Int)=some (toI p):=by
   unfold arr?
   rw[if_pos ⟨by rw[List.length_map];exact hlen,by omega⟩,Int.toNat_natCast,List.getElem?_map,z1]
   rfl
  simp only[f30_L3]
  rw[if_pos (by simp only[decide_eq_true_eq];omega),harr,Option.bind_some,at_nat h2,Option.bind_some,Option.bind_some,w64_succ (by omega)]
  congr 2
  rw[Int.toNat_natCast]
  have hv:(if (q.toNat:Int) > toI p then (q.toNat:Int) else toI p)=toI (mx8 p q):=by
   unfold mx8 toI
   by_cases hc:p.toNat<q.toNat
   ·rw[if_pos hc,if_pos (by omega)]
   ·rw[if_neg hc,if_neg (by omega)]
  rw[hv,← List.map_set,z2])
 simpa using hrun
theorem hi_len:∀ (w:List ReceiverInput) (a:List UInt8),a.length=512→(∀ x ∈ w,x.fSlots.length=512)→(w.foldl (fun acc x=>List.zipWith mx8 acc x.fSlots) a).length=512
 | [],a,h,_=>h
 | x::w,a,h,hw=>by
  rw[List.foldl_cons]
  refine hi_len w _ ?_ fun y hy=>hw y (List.mem_cons_of_mem _ hy)
  rw[List.length_zipWith,h,hw x (List.mem_cons_self ..)]
  rfl
theorem L2b_eq{w:List ReceiverInput}(hw:∀ x ∈ w,x.fSlots.length=512)(hl:w.length≤1000)(u:Int)(out:List ApiFrame)(t:Int)(r:ReceiverReceiver):(f30_L2 w u out t r).run (0,(List.replicate 512 (0:UInt8)).map toI)=some ((hiS w).map toI):=by
 have hrun:=run_walk (L:=f30_L2 w u out t r) w (fun k (a:List UInt8)=>((k:Int),a.map toI)) (fun _ a x=>.inl (List.zipWith mx8 a x.fSlots)) (fun a=>a.map toI) (fun _ a=>a.length=512) (fun k a x hx hI=>by
  have R:=Rnd.mk' hx (by omega)
  refine ⟨?_,fun a' ha'=>?_⟩
  ·simp only[f30_L2]
   rw[if_pos R.lt,R.at',Option.bind_some,L3_eq (hw x R.mem) hI,Option.bind_some,R.nxt]
   rfl
  ·injection ha' with ha'
   subst ha'
   rw[List.length_zipWith,hI,hw x R.mem]
   rfl) (fun a _=>by simp[f30_L2]) (List.replicate 512 0) List.length_replicate
 have hwk:∀ (w:List ReceiverInput) (k:Nat) (a:List UInt8),walkL (fun _ a x=>(.inl (List.zipWith mx8 a x.fSlots):List UInt8⊕List Int)) (fun a=>a.map toI) k a w=(w.foldl (fun acc x=>List.zipWith mx8 acc x.fSlots) a).map toI:=fun w=>by
  induction w with
  | nil=>intro k a;rfl
  | cons x w ih=>intro k a;simp only[walkL];rw[ih];rfl
 rw[hwk] at hrun
 exact hrun
def frameS(l:List ReceiverInput)(t u:Int):List ApiFrame:=if winS l t u=[] then [] else [⟨u,hiS (winS l t u)⟩]
def framesS(l:List ReceiverInput)(t:Int):List ApiFrame:=(List.range 8).flatMap fun (i:Nat)=>frameS l t ((i:Int) + 1)
theorem frame_len(l:List ReceiverInput)(t u:Int):(frameS l t u).length≤1:=by unfold frameS;split<;>simp
theorem frames_len(l:List ReceiverInput)(t:Int):∀ n,((List.range n).flatMap fun (i:Nat)=>frameS l t ((i:Int) + 1)).length≤n
 | 0=>by simp
 | n + 1=>by
  rw[List.range_succ,List.flatMap_append,List.length_append]
  have:=frames_len l t n
  have:=frame_len l t ((n:Int) + 1)
  simp only[List.flatMap_cons,List.flatMap_nil,List.append_nil]
  omega
theorem win_slots{l:List ReceiverInput}{t:Int}(hg:Good t l)(u:Int):(∀ x ∈ winS l t u,x.fSlots.length=512)∧(winS l t u).length≤64:=by
 refine ⟨fun x hx=>?_,?_⟩
 ·obtain ⟨h1,_,_,h4⟩:=win_mem hx
  exact ((in_ok (hg.ok x h1)).2.2.2.1).resolve_left h4
 ·have key:∀ (c acc:List ReceiverInput),(c.foldl winStep acc).length≤c.length + acc.length:=fun c=>by
   induction c with
   | nil=>intro acc;simp
   | cons x c ih =>
    intro acc
    rw[List.foldl_cons]
    have:=ih (winStep acc x)
    have:=winStep_len acc x
    simp only[List.length_cons]
    omega
  have h1:=key (l.filter (cand t u)) []
  have h2:=List.length_filter_le (cand t u) l
  have h3:=hg.len
  simp only[List.length_nil] at h1
  exact Nat.le_trans h1 (by omega)
theorem L1_eq{r:ReceiverReceiver}{t:Int}(hg:Good t r.fInputs):(f30_L1 r t).run (1,[])=some (framesS r.fInputs t):=by
 have hrun:=run_count (L:=f30_L1 r t) (e:=framesS r.fInputs t) (fun k=>(((k + 1:Nat):Int),(List.range k).flatMap fun (i:Nat)=>frameS r.fInputs t ((i:Int) + 1))) 8 (by
  simp only[f30_L1]
  rw[if_neg (by simp)]
  rfl) 0 (Nat.zero_le _) (fun k _ hk=>by
  obtain ⟨ws,wl⟩:=win_slots hg (((k + 1:Nat):Int))
  have hout:=frames_len r.fInputs t k
  simp only[f30_L1]
  rw[if_pos (by simp only[decide_eq_true_eq];omega),f73_eq hg,Option.bind_some,w64_succ (by omega),List.range_succ,List.flatMap_append]
  generalize ((List.range k).flatMap fun (i:Nat)=>frameS r.fInputs t ((i:Int) + 1))=out at hout
  by_cases hw:winS r.fInputs t ((k + 1:Nat):Int)=[]
  ·have hz:(((winS r.fInputs t ((k + 1:Nat):Int)).length:Nat):Int)=0:=by rw[hw];rfl
   rw[if_pos (by simpa using hz)]
   have:frameS r.fInputs t ((k:Int) + 1)=[]:=by unfold frameS;rw[if_pos (by exact hw)]
   simp[this]
  ·have hz:¬ (((winS r.fInputs t ((k + 1:Nat):Int)).length:Nat):Int)=0:=fun h=>hw (List.length_eq_zero_iff.1 (by omega))
   rw[if_neg (by simpa using hz)]
   have hrep:List.replicate 512 (0:Int)=(List.replicate 512 (0:UInt8)).map toI:=by rw[List.map_replicate];rfl
   have hf:frameS r.fInputs t ((k:Int) + 1)=[⟨((k + 1:Nat):Int),hiS (winS r.fInputs t ((k + 1:Nat):Int))⟩]:=by unfold frameS;rw[if_neg (by exact hw)];rfl
   have hh:(hiS (winS r.fInputs t ((k + 1:Nat):Int))).length=512:=hi_len _ _ List.length_replicate ws
   simp only[arr0?,Option.bind_some]
   rw[hrep,L2b_eq ws (by omega),Option.bind_some]
   refine (must_true (by rw[List.length_map];exact hh) _).trans ?_
   rw[map_b8,app_some (by simp only[List.length_cons,List.length_nil];omega) (by simp only[List.length_cons,List.length_nil];omega),Option.bind_some]
   simp[hf])
 simpa using hrun
def framesO(l:List ReceiverInput)(t:Int):List ApiFrame×Int:=if momentS l t≠0 then ([],momentS l t) else (framesS l t,0)
theorem f30_eq(r:ReceiverReceiver)(t:Int):f30 r t=some (framesO r.fInputs t):=by
 unfold f30 framesO
 rw[f58_eq,Option.bind_some]
 by_cases h:momentS r.fInputs t=0
 ·rw[if_neg (by simp[h]),if_neg (by simp[h]),L1_eq (moment_good h),Option.bind_some]
 ·simp[h]
end Go.Proofs.Ytgfohogbechkkaa
