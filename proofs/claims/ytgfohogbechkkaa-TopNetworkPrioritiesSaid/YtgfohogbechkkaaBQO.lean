import Derived.Test.YtgfohogbechkkaaBQU
set_option linter.unusedSimpArgs false
set_option linter.unusedVariables false
namespace Go.Proofs.Ytgfohogbechkkaa
open Go Go.Ab
def pq(s pri:Int)(f:ApiFrame):NetworkPacket:=⟨s,f.fUniverse,pri,0,0,false,f.fSlots⟩
def iq(s pri t:Int)(f:ApiFrame):ReceiverInput:=⟨f.fUniverse,s,pri,0,0,t,f.fSlots,[]⟩
theorem slc_one(f:ApiFrame)(l:List ApiFrame):slc? (f::l) 0 1=some [f]:=by
 unfold slc?
 rw[if_pos ⟨by decide,by decide,by simp only[List.length_cons];omega⟩]
 rfl
theorem app_two(p q:NetworkPacket):app? 64 [p] [q]=some [p,q]:=rfl
theorem dap_two(p q:NetworkPacket):dap? 64 [p] [q]=some ():=by
 unfold dap?
 rw[if_pos ⟨by simp,by simp only[List.length_cons,List.length_nil];decide,by simp only[List.length_cons,List.length_nil];decide⟩]
theorem frames_right{f:ApiFrame}(h:Net.FrOk f):Net.framesS [f]=0:=by
 obtain ⟨⟨h1,h2⟩,h3⟩:=h
 have:Net.frErr [f] 0=none:=by
  unfold Net.frErr
  simp only[List.getElem?_cons_zero]
  rw[if_neg (by omega),if_neg (by omega),if_neg (by omega),if_neg (by omega)]
 unfold Net.framesS
 rw[if_neg (by simp)]
 show ([0].findSome? (Net.frErr [f])).getD 0=0
 rw[List.findSome?_cons,this]
 rfl
theorem send_one{s pri:Int}{f:ApiFrame}(hn:Net.namedS s pri 0=true)(hf:Net.FrOk f):Net.sendS ⟨s,pri,0,0,[]⟩ 0 [f]=(⟨s,pri,0,0,[⟨f.fUniverse,0,0,1,f.fSlots⟩]⟩,[pq s pri f],0):=by
 have hm:Net.momentS ⟨s,pri,0,0,[]⟩ 0=0:=Net.moment_of hn ⟨Int.le_refl 0,by show (0:Int)≤255;decide⟩ ⟨Int.le_refl 0,by decide⟩ ⟨⟨fun y hy=>by simp at hy,List.Pairwise.nil⟩,fun y hy=>by simp at hy⟩
 have hs:Net.sentS ⟨s,pri,0,0,[]⟩ 0 [f]=([⟨f.fUniverse,0,0,1,f.fSlots⟩],[pq s pri f]):=rfl
 unfold Net.sendS
 rw[if_neg (by simp[hm]),if_neg (by simp[frames_right hf]),hs,if_neg (by simp)]
theorem good_nil{t:Int}(h0:0≤t)(h1:t≤10000000):Good t []:=⟨by simp,fun y hy=>by simp at hy,List.Pairwise.nil,h0,h1,fun y hy=>by simp at hy⟩
theorem pq_ok{s pri:Int}{f:ApiFrame}(hf:Net.FrOk f)(hs:0<s∧s<281474976710655)(hp:0≤pri∧pri≤200):checkS (pq s pri f)=0:=by
 obtain ⟨⟨h1,h2⟩,h3⟩:=hf
 have hn:namedS s pri 0=true:=by
  unfold namedS
  rw[decide_eq_true hs.1,decide_eq_true hs.2,wi_iff.2 hp]
  rfl
 unfold checkS
 rw[if_neg (by rw[show namedS (pq s pri f).fSource (pq s pri f).fPriority (pq s pri f).fSync=true from hn];simp),if_neg (by rw[show wi (pq s pri f).fUniverse 0 8=true from wi_iff.2 ⟨by show 0≤f.fUniverse;omega,h2⟩];simp),if_neg (by show ¬ wi 0 0 255=false;decide),if_neg (by show ¬ 512<f.fSlots.length;omega),if_neg (by show ¬ f.fUniverse=0;omega)]
theorem fed_iq{s pri t:Int}{f:ApiFrame}(hf:Net.FrOk f):fedS t (pq s pri f) (newI (pq s pri f))=iq s pri t f:=by
 unfold fedS
 rw[if_pos (show (pq s pri f).fSync=0 from rfl)]
 have hl:=hf.2
 have:fullS (pq s pri f).fSlots=f.fSlots:=by
  show f.fSlots++List.replicate (512 - f.fSlots.length) 0=_
  rw[hl]
  simp
 rw[this]
 rfl
theorem taken_first{s pri t:Int}{f:ApiFrame}(hf:Net.FrOk f):(takenS [] t (pq s pri f)).1=[iq s pri t f]:=by
 have:=taken_new (A:=[]) (B:=[]) (t:=t) (p:=pq s pri f) (by show f.fUniverse≠0;have:=hf.1.1;omega) rfl (by simp) (by simp) (by simp)
 rw[fed_iq hf] at this
 exact this
theorem kc_same{s pri s' pri' t:Int}{f g:ApiFrame}(hu:f.fUniverse=g.fUniverse)(h:s<s'):kc (pq s' pri' g) (iq s pri t f)<0∧0<kc (pq s pri f) (iq s' pri' t g):=by
 constructor
 ·rw[kc_neg]
  show ltU f.fUniverse s g.fUniverse s'=true
  simp[ltU,hu,h]
 ·show 0<ordS ⟨g.fUniverse,s'⟩ ⟨f.fUniverse,s⟩
  have h1:cmpI g.fUniverse f.fUniverse=0:=by unfold cmpI;rw[if_neg (by omega),if_neg (by omega)]
  have h2:cmpI s' s=1:=by unfold cmpI;rw[if_neg (by omega),if_pos h]
  unfold ordS
  simp[h1,h2]
theorem two_in{s s' pri pri' t:Int}{f g:ApiFrame}(hf:Net.FrOk f)(hg:Net.FrOk g)(hu:f.fUniverse=g.fUniverse)(h:s<s') :
  foldT t [] [pq s pri f,pq s' pri' g]=[iq s pri t f,iq s' pri' t g]∧foldT t [] [pq s' pri' g,pq s pri f]=[iq s pri t f,iq s' pri' t g]:=by
 obtain ⟨k1,k2⟩:=kc_same (pri:=pri) (pri':=pri') (t:=t) hu h
 constructor
 ·unfold foldT
  rw[List.foldl_cons,taken_first hf,List.foldl_cons,List.foldl_nil]
  have:=taken_new (A:=[iq s pri t f]) (B:=[]) (t:=t) (p:=pq s' pri' g) (by show g.fUniverse≠0;have:=hg.1.1;omega) rfl (by simpa using k1) (by simp) (by simp)
  rw[fed_iq hg] at this
  exact this
 ·unfold foldT
  rw[List.foldl_cons,taken_first hg,List.foldl_cons,List.foldl_nil]
  have:=taken_new (A:=[]) (B:=[iq s' pri' t g]) (t:=t) (p:=pq s pri f) (by show f.fUniverse≠0;have:=hf.1.1;omega) rfl (by simp) (by simpa using k2) (by simp)
  rw[fed_iq hf] at this
  exact this
theorem flat_one{τ : Type}{g:Nat→List τ}{k:Nat}:∀ n,k<n→(∀ i,i<n→i≠k→g i=[])→(List.range n).flatMap g=g k
 | 0,h,_=>absurd h (Nat.not_lt_zero k)
 | n + 1,h,hz=>by
  rw[List.range_succ,List.flatMap_append,List.flatMap_cons,List.flatMap_nil,List.append_nil]
  by_cases hk:k=n
  ·subst hk
   rw[List.flatMap_eq_nil_iff.2 fun i hi=>hz i (by have:=List.mem_range.1 hi;omega) (by have:=List.mem_range.1 hi;omega),List.nil_append]
  ·rw[flat_one n (by omega) fun i hi=>hz i (by omega),hz n (by omega) (by omega),List.append_nil]
theorem frames_one{ys:List ReceiverInput}{t u:Int}(hu:1≤u∧u≤8)(hy:∀ y ∈ ys,y.fUniverse=u):framesS ys t=frameS ys t u:=by
 unfold framesS
 rw[flat_one (k:=(u - 1).toNat) 8 (by omega) fun i hi hne=>?_]
 ·rw[show (((u - 1).toNat:Nat):Int) + 1=u by omega]
 ·unfold frameS
  rw[if_pos]
  rw[List.eq_nil_iff_forall_not_mem]
  intro y hm
  obtain ⟨h1,h2,_⟩:=win_mem hm
  have:=hy y h1
  omega
theorem iq_cand{s pri t u t':Int}{f:ApiFrame}(hf:Net.FrOk f)(ht:t' - t≤2500)(hu:f.fUniverse=u):cand t' u (iq s pri t f)=true:=by
 have hl:=hf.2
 have hne:(iq s pri t f).fSlots≠[]:=fun e=>by
  have e:f.fSlots=[]:=e
  rw[e] at hl;cases hl
 unfold cand
 rw[decide_eq_true (show (iq s pri t f).fUniverse=u from hu),decide_eq_true (show t' - (iq s pri t f).fLast≤2500 from ht),decide_eq_false hne]
 rfl
end Go.Proofs.Ytgfohogbechkkaa
