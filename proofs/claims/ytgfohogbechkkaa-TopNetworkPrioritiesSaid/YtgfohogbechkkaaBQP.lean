import Derived.Test.YtgfohogbechkkaaBQO
set_option linter.unusedSimpArgs false
set_option linter.unusedVariables false
namespace Go.Proofs.Ytgfohogbechkkaa
open Go Go.Ab
def winnersO(l:List ReceiverInput)(t u:Int):List Int×Int:=if momentS l t≠0 then ([],momentS l t) else if u<1 then ([],2) else if 8<u then ([],2) else ((winS l t u).map (·.fSource),0)
theorem f28_eq(r:ReceiverReceiver)(t u:Int):f28 r t u=some (winnersO r.fInputs t u):=by
 unfold f28 winnersO
 rw[f58_eq,Option.bind_some]
 by_cases h:momentS r.fInputs t=0
 case neg=>simp[h]
 have hg:=moment_good h
 simp only[h,ne_eq,not_true_eq_false,decide_false,Bool.false_eq_true,if_false]
 by_cases h2:u<1
 ·simp[h2]
 by_cases h3:8<u
 ·simp[h2,h3]
 simp only[h2,h3,decide_false,Bool.false_eq_true,if_false]
 rw[f73_eq hg,Option.bind_some]
 have hwl:=(win_slots hg u).2
 rw[run_collect (L:=f28_L1 (winS r.fInputs t u)) (xs:=winS r.fInputs t u) (fun x=>[x.fSource]) (fun k acc x hx ha=>by
  have R:=Rnd.mk' hx (by omega)
  have hk:=R.klt
  simp only[f28_L1]
  rw[if_pos R.lt,R.at',Option.bind_some,app_some (by simp only[List.length_cons,List.length_nil];omega) (by simp only[List.length_cons,List.length_nil];omega),Option.bind_some,R.nxt]) (fun x=>by simp) (fun acc=>by simp[f28_L1]),Option.bind_some,← List.map_eq_flatMap]
def plf(u v:Int):ApiFrame:=⟨u,b8 (IntKind.u8.wrap v)::List.replicate 511 0⟩
theorem f50_eq(u v:Int):f50 u v=some (plf u v):=by
 unfold f50
 have h1:f87 [0] 511=some (List.replicate 511 0):=by
  unfold f87 rep?
  rw[if_pos ⟨by decide,by decide,by decide⟩]
  rw[show (511:Int).toNat=511 from rfl,repeat_zero]
 rw[h1,Option.bind_some,cat_some (by rw[List.length_replicate];simp only[List.length_map,List.length_cons,List.length_nil];omega)]
 rfl
theorem plf_ok{u v:Int}(h:1≤u∧u≤8):Net.FrOk (plf u v):=⟨h,by show (b8 (IntKind.u8.wrap v)::List.replicate 511 (0:UInt8)).length=512;rw[List.length_cons,List.length_replicate]⟩
def pe(s pri q:Int)(f:ApiFrame):NetworkPacket:=⟨s,f.fUniverse,pri,q,0,true,f.fSlots⟩
theorem stop_run(u:Int)(s:List UInt8):(f54_L1 ⟨7,150,0,0,[⟨u,0,0,1,s⟩]⟩).run (0,[])=some [pe 7 150 1 ⟨u,s⟩,pe 7 150 2 ⟨u,s⟩,pe 7 150 3 ⟨u,s⟩]:=by kernel_rfl
theorem stop_one{f:ApiFrame}(hf:Net.FrOk f):f54 ⟨7,150,0,0,[⟨f.fUniverse,0,0,1,f.fSlots⟩]⟩ 30=some (⟨7,150,0,0,[]⟩,[pe 7 150 1 f,pe 7 150 2 f,pe 7 150 3 f],0):=by
 obtain ⟨⟨h1,h2⟩,h3⟩:=hf
 have hm:Net.momentS ⟨7,150,0,0,[⟨f.fUniverse,0,0,1,f.fSlots⟩]⟩ 30=0:=Net.moment_of (by kernel_rfl) ⟨Int.le_refl 0,by show (0:Int)≤255;decide⟩ ⟨by decide,by decide⟩ ⟨⟨fun y hy=>by
  rw[List.mem_singleton.1 hy];exact ⟨h1,h2⟩,List.pairwise_singleton _ _⟩,fun y hy=>by
  rw[List.mem_singleton.1 hy]
  exact ⟨⟨Int.le_refl 0,by show (0:Int)≤255;decide⟩,⟨Int.le_refl 0,by show (0:Int)≤30;decide⟩,⟨Int.le_refl 1,by show (1:Int)≤3;decide⟩,h3⟩⟩
 unfold f54
 rw[Net.f79_eq,hm,Option.bind_some,if_neg (by decide)]
 rw[stop_run,Option.bind_some]
theorem pe_ok{s pri q:Int}{f:ApiFrame}(hf:Net.FrOk f)(hs:0<s∧s<281474976710655)(hp:0≤pri∧pri≤200)(hq:0≤q∧q≤255):checkS (pe s pri q f)=0:=by
 obtain ⟨⟨h1,h2⟩,h3⟩:=hf
 have hn:namedS s pri 0=true:=by
  unfold namedS
  rw[decide_eq_true hs.1,decide_eq_true hs.2,wi_iff.2 hp]
  rfl
 unfold checkS
 rw[if_neg (by rw[show namedS (pe s pri q f).fSource (pe s pri q f).fPriority (pe s pri q f).fSync=true from hn];simp),if_neg (by rw[show wi (pe s pri q f).fUniverse 0 8=true from wi_iff.2 ⟨by show 0≤f.fUniverse;omega,h2⟩];simp),if_neg (by rw[show wi (pe s pri q f).fSeq 0 255=true from wi_iff.2 hq];simp),if_neg (by show ¬ 512<f.fSlots.length;omega),if_neg (by show ¬ f.fUniverse=0;omega)]
theorem end_first{f g:ApiFrame}(hf:Net.FrOk f)(hu:f.fUniverse=g.fUniverse):(takenS [iq 7 150 10 f,iq 8 100 10 g] 30 (pe 7 150 1 f)).1=[iq 8 100 10 g]:=by
 have h0:kc (pe 7 150 1 f) (iq 7 150 10 f)=0:=by rw[kc_zero];exact ⟨rfl,rfl⟩
 have hp:posB (kc (pe 7 150 1 f)) [iq 7 150 10 f,iq 8 100 10 g]=0:=posB_mid (A:=[]) (B:=[iq 8 100 10 g]) (by simp) (by omega)
 have hh:hasB (kc (pe 7 150 1 f)) [iq 7 150 10 f,iq 8 100 10 g]=true:=by
  unfold hasB
  rw[hp]
  simpa using h0
 have hu0:(pe 7 150 1 f).fUniverse≠0:=by show f.fUniverse≠0;have:=hf.1.1;omega
 unfold takenS
 rw[if_neg hu0,if_pos hh,hp]
 simp only[List.getElem?_cons_zero]
 rw[if_neg (show ¬ newerS (iq 7 150 10 f).fSeq (pe 7 150 1 f).fSeq=false from (by decide:¬ newerS 0 1=false)),if_pos (show (pe 7 150 1 f).fEnd=true from rfl)]
 rfl
theorem end_more{q:Int}{f g:ApiFrame}(hf:Net.FrOk f)(hu:f.fUniverse=g.fUniverse):(takenS [iq 8 100 10 g] 30 (pe 7 150 q f)).1=[iq 8 100 10 g]:=by
 have hk:0<kc (pe 7 150 q f) (iq 8 100 10 g):=(kc_same (s:=7) (s':=8) (pri:=150) (pri':=100) (t:=10) hu (by decide)).2
 have hu0:(pe 7 150 q f).fUniverse≠0:=by show f.fUniverse≠0;have:=hf.1.1;omega
 have hh:hasB (kc (pe 7 150 q f)) [iq 8 100 10 g]=false:=hasB_app (A:=[]) (B:=[iq 8 100 10 g]) (by simp) (by simpa using hk)
 unfold takenS
 rw[if_neg hu0,hh,if_neg (by simp),if_pos (show (pe 7 150 q f).fEnd=true from rfl)]
theorem ended{f g:ApiFrame}(hf:Net.FrOk f)(hu:f.fUniverse=g.fUniverse):foldT 30 [iq 7 150 10 f,iq 8 100 10 g] [pe 7 150 1 f,pe 7 150 2 f,pe 7 150 3 f]=[iq 8 100 10 g]:=by
 unfold foldT
 rw[List.foldl_cons,end_first hf hu,List.foldl_cons,end_more hf hu,List.foldl_cons,end_more hf hu,List.foldl_nil]
theorem shown_one{s pri t t':Int}{f:ApiFrame}(hf:Net.FrOk f)(ht:t' - t≤2500)(l:List ReceiverInput)(hl:∀ y ∈ l,y.fUniverse=f.fUniverse)(hw:winS l t' f.fUniverse=[iq s pri t f]):framesS l t'=[f]:=by
 rw[frames_one hf.1 hl]
 unfold frameS
 rw[hw,if_neg (by simp)]
 unfold hiS
 rw[List.foldl_cons,List.foldl_nil]
 show [(⟨f.fUniverse,List.zipWith mx8 (List.replicate 512 0) f.fSlots⟩:ApiFrame)]=_
 rw[zip_zero _ 512 hf.2]
theorem j2_eq{x:ApiFrame}{xs:List ApiFrame}{v:Arr2_110}(hx:Net.FrOk x){l:List NetworkPacket}
  (hl:l=[pq 7 150 x,pq 8 100 (plf x.fUniverse (IntKind.i64.wrap v.fE0))]∨l=[pq 8 100 (plf x.fUniverse (IntKind.i64.wrap v.fE0)),pq 7 150 x]) (k:List NetworkPacket×Int) :
  (f13_J2 x (⟨7,150,0,0,[⟨x.fUniverse,0,0,1,x.fSlots⟩]⟩,k) (x::xs) v).run l=some true:=by
 have hg:=plf_ok (v:=IntKind.i64.wrap v.fE0) hx.1
 generalize hG:plf x.fUniverse (IntKind.i64.wrap v.fE0)=g at hl hg
 have hu:x.fUniverse=g.fUniverse:=by rw[← hG];rfl
 have hft:foldT 10 [] l=[iq 7 150 10 x,iq 8 100 10 g]:=by
  rcases hl with rfl | rfl
  ·exact (two_in hx hg hu (by decide)).1
  ·exact (two_in hx hg hu (by decide)).2
 have hck:∀ p ∈ l,checkS p=0:=fun p hp=>by
  have:p=pq 7 150 x∨p=pq 8 100 g:=by rcases hl with rfl | rfl<;>simp at hp<;>rcases hp with h | h<;>simp[h]
  rcases this with rfl | rfl
  ·exact pq_ok hx (by decide) (by decide)
  ·exact pq_ok hg (by decide) (by decide)
 have hlen:l.length≤1000:=by rcases hl with rfl | rfl<;>simp
 have hg0:Good 10 (foldT 10 [] l):=foldT_good (good_nil (by decide) (by decide)) hck
 have hg20:Good 20 (foldT 10 [] l):=hg0.later (by decide) (by decide)
 have hg30:Good 30 (foldT 10 [] l):=hg0.later (by decide) (by decide)
 have hce:∀ p ∈ [pe 7 150 1 x,pe 7 150 2 x,pe 7 150 3 x],checkS p=0:=fun p hp=>by
  simp only[List.mem_cons,List.not_mem_nil,or_false] at hp
  rcases hp with rfl | rfl | rfl<;>exact pe_ok hx (by decide) (by decide) (by decide)
 have hgE:Good 40 (foldT 30 (foldT 10 [] l) [pe 7 150 1 x,pe 7 150 2 x,pe 7 150 3 x]):=(foldT_good hg30 hce).later (by decide) (by decide)
 have hw:winS [iq 7 150 10 x,iq 8 100 10 g] 20 x.fUniverse=[iq 7 150 10 x]:=by
  unfold winS
  rw[List.filter_cons_of_pos (iq_cand hx (by decide) rfl),List.filter_cons_of_pos (iq_cand hg (by decide) hu.symm)]
  rfl
 have hw2:winS [iq 8 100 10 g] 40 g.fUniverse=[iq 8 100 10 g]:=by
  unfold winS
  rw[List.filter_cons_of_pos (iq_cand hg (by decide) rfl)]
  rfl
 have hfr:framesO (foldT 10 [] l) 20=([x],0):=by
  unfold framesO
  rw[if_neg (by simp[good_moment hg20]),hft,shown_one (s:=7) (pri:=150) (t:=10) hx (by decide) _ (fun y hy=>by simp at hy;rcases hy with rfl | rfl;exact rfl;exact hu.symm) hw]
 have hwn:winnersO (foldT 10 [] l) 20 x.fUniverse=([7],0):=by
  unfold winnersO
  have:=hx.1
  rw[if_neg (by simp[good_moment hg20]),if_neg (by omega),if_neg (by omega),hft,hw]
  rfl
 have hfe:framesO (foldT 30 (foldT 10 [] l) [pe 7 150 1 x,pe 7 150 2 x,pe 7 150 3 x]) 40=([g],0):=by
  unfold framesO
  rw[if_neg (by simp[good_moment hgE]),hft,ended hx hu,shown_one (s:=8) (pri:=100) (t:=10) hg (by decide) _ (fun y hy=>by rw[List.mem_singleton.1 hy];exact rfl) hw2]
 simp only[f13_J2]
 rw[f51_eq (good_nil (by decide) (by decide)) hck hlen,Option.bind_some]
 simp only
 rw[f30_eq,Option.bind_some,hfr,f28_eq,Option.bind_some,hwn,stop_one hx,Option.bind_some]
 simp only
 rw[if_neg (by simp),if_neg (show ¬ decide (IntKind.i64.wrap (IntKind.i64.wrap ((0:Int) + 0) + 0)≠0)=true from by decide),slc_one,Option.bind_some,f52_eq (by simp),Option.bind_some,if_neg (by simp),if_neg (by simp)]
 rw[show at? [(7:Int)] 0=some 7 from rfl,Option.bind_some,if_neg (by decide),f51_eq hg30 hce (by simp),Option.bind_some]
 simp only
 rw[f30_eq,Option.bind_some,hfe]
 simp only
 rw[if_pos trivial,if_pos (by decide),f50_eq,Option.bind_some,hG,f52_eq (by simp),Option.bind_some,if_pos rfl,f49_eq]
 rfl
theorem f13_eq(frames:List ApiFrame)(v:Arr2_110)(first:Bool):f13 frames v first=some true:=by
 unfold f13
 obtain ⟨ba,ea,ia⟩:=f53_ex frames
 rw[ea,Option.bind_some]
 cases ba
 ·rw[if_pos (by rfl),f49_eq];rfl
 rw[if_neg (by simp)]
 obtain ⟨a1,a2,a3⟩:=Net.frames_ok (ia rfl)
 rcases frames with _ | ⟨x,xs⟩
 ·rw[if_pos (by rfl),f49_eq];rfl
 rw[if_neg (by simp only[decide_eq_true_eq,List.length_cons];omega)]
 have hx:=a2 x (List.mem_cons_self ..)
 have hat:at? (x::xs) 0=some x:=rfl
 have hn7:Net.newS 7 150 0=(⟨7,150,0,0,[]⟩,0):=by kernel_rfl
 have hn8:Net.newS 8 100 0=(⟨8,100,0,0,[]⟩,0):=by kernel_rfl
 rw[hat,Option.bind_some,Net.f42_eq,hn7,Option.bind_some,Net.f42_eq,hn8,Option.bind_some,Option.bind_some,Net.f43_eq,send_one (by kernel_rfl) hx,Option.bind_some,f50_eq,Option.bind_some,Net.f43_eq,send_one (by kernel_rfl) (plf_ok hx.1),Option.bind_some]
 simp only[f13_J1]
 rw[if_neg (show ¬ decide (IntKind.i64.wrap (IntKind.i64.wrap (IntKind.i64.wrap ((0:Int) + 0) + 0) + 0)≠0)=true from by decide)]
 cases first
 ·rw[if_neg (by simp),app_two,Option.bind_some]
  exact j2_eq hx (.inl rfl) _
 ·rw[if_pos rfl,dap_two,Option.bind_some,app_two,Option.bind_some]
  exact j2_eq hx (.inr rfl) _
end Go.Proofs.Ytgfohogbechkkaa
