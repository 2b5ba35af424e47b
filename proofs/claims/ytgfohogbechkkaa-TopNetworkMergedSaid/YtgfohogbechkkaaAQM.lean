import Derived.Test.YtgfohogbechkkaaAQO
set_option linter.unusedSimpArgs false
set_option linter.unusedVariables false
namespace Go.Proofs.Ytgfohogbechkkaa
open Go Go.Ab
theorem max_loop{a b:List ApiFrame}{f g:ApiFrame}{r:List ApiFrame×Int}{w:ApiFrame}(hr:at? r.1 0=some w)(ha:at? a 0=some f)(hb:at? b 0=some g)(hf:f.fSlots.length=512)(hg:g.fSlots.length=512)(hw:w.fSlots=List.zipWith mx8 f.fSlots g.fSlots) :
  (f12_L4 r a b).run 0=some (.inl ()):=by
 have hrun:=run_count (L:=f12_L4 r a b) (e:=.inl ()) (fun k=>(k:Int)) 512 (by
  simp only[f12_L4]
  rw[if_neg (by simp)]) 0 (Nat.zero_le _) (fun k _ hk=>by
  simp only[f12_L4]
  have hx:=List.getElem?_eq_getElem (show k<f.fSlots.length by omega)
  have hy:=List.getElem?_eq_getElem (show k<g.fSlots.length by omega)
  generalize f.fSlots[k]=x at hx
  generalize g.fSlots[k]=y at hy
  have hz:w.fSlots[k]? = some (mx8 x y):=by rw[hw,List.getElem?_zipWith,hx,hy]
  rw[if_pos (by simp only[decide_eq_true_eq];omega),hr,Option.bind_some,at_nat hz,Option.bind_some,ha,Option.bind_some,at_nat hx,Option.bind_some,hb,Option.bind_some,at_nat hy,Option.bind_some]
  have hm:((mx8 x y).toNat:Int)=if (y.toNat:Int) > (x.toNat:Int) then (y.toNat:Int) else (x.toNat:Int):=by
   unfold mx8
   by_cases h:x.toNat<y.toNat
   ·rw[if_pos h,if_pos (by omega)]
   ·rw[if_neg h,if_neg (by omega)]
  rw[← hm,if_neg (by simp),w64 (by omega) (by omega)]
  rfl)
 exact hrun
theorem j3_eq{a b:List ApiFrame}{f g:ApiFrame}(hfk:Net.FrOk f)(hgk:Net.FrOk g)(hu:f.fUniverse=g.fUniverse)(ha:at? a 0=some f)(hb:at? b 0=some g){l:List NetworkPacket}(hl:l=[pq 3 90 f,pq 5 90 g]∨l=[pq 5 90 g,pq 3 90 f]):(f12_J3 a b).run l=some true:=by
 have hft:foldT 5 [] l=[iq 3 90 5 f,iq 5 90 5 g]:=by
  rcases hl with rfl | rfl
  ·exact (two_in hfk hgk hu (by decide)).1
  ·exact (two_in hfk hgk hu (by decide)).2
 have hck:∀ p ∈ l,checkS p=0:=fun p hp=>by
  have:p=pq 3 90 f∨p=pq 5 90 g:=by rcases hl with rfl | rfl<;>simp at hp<;>rcases hp with h | h<;>simp[h]
  rcases this with rfl | rfl
  ·exact pq_ok hfk (by decide) (by decide)
  ·exact pq_ok hgk (by decide) (by decide)
 have hlen:l.length≤1000:=by rcases hl with rfl | rfl<;>simp
 have hg0:Good 5 (foldT 5 [] l):=foldT_good (good_nil (by decide) (by decide)) hck
 have hfr:framesO (foldT 5 [] l) 5=([⟨f.fUniverse,List.zipWith mx8 f.fSlots g.fSlots⟩],0):=by
  unfold framesO
  rw[if_neg (by simp[good_moment hg0]),hft,frames_one hfk.1 (by intro y hy;simp at hy;rcases hy with rfl | rfl;exact rfl;exact hu.symm)]
  have hwin:winS [iq 3 90 5 f,iq 5 90 5 g] 5 f.fUniverse=[iq 3 90 5 f,iq 5 90 5 g]:=by
   unfold winS
   rw[List.filter_cons_of_pos (iq_cand hfk (by decide) rfl),List.filter_cons_of_pos (iq_cand hgk (by decide) hu.symm)]
   rfl
  unfold frameS
  rw[hwin,if_neg (by simp)]
  unfold hiS
  rw[List.foldl_cons,List.foldl_cons,List.foldl_nil]
  show ([(⟨f.fUniverse,List.zipWith mx8 (List.zipWith mx8 (List.replicate 512 0) f.fSlots) g.fSlots⟩:ApiFrame)],(0:Int))=_
  rw[zip_zero _ 512 hfk.2]
 simp only[f12_J3]
 rw[f51_eq (good_nil (by decide) (by decide)) hck hlen,Option.bind_some]
 simp only
 rw[f30_eq,Option.bind_some,hfr]
 simp only
 rw[if_neg (by simp),if_neg (by simp),if_neg (by simp)]
 have hat:at? [(⟨f.fUniverse,List.zipWith mx8 f.fSlots g.fSlots⟩:ApiFrame)] 0=some ⟨f.fUniverse,List.zipWith mx8 f.fSlots g.fSlots⟩:=rfl
 rw[hat,Option.bind_some]
 have h512:(List.zipWith mx8 f.fSlots g.fSlots).length=512:=by rw[List.length_zipWith,hfk.2,hgk.2];rfl
 rw[if_neg (by simp only[h512];decide),hft,if_neg (by simp)]
 rw[max_loop (w:=⟨f.fUniverse,List.zipWith mx8 f.fSlots g.fSlots⟩) rfl ha hb hfk.2 hgk.2 rfl,Option.bind_some]
 simp only
 have h20:f20 (Ref57Receiver.mk [])=some 0:=by kernel_rfl
 rw[h20,Option.bind_some,if_pos (by decide),f49_eq]
 rfl
theorem f12_eq(a b:List ApiFrame)(turn:Bool):f12 a b turn=some true:=by
 unfold f12
 obtain ⟨ba,ea,ia⟩:=f53_ex a
 rw[ea,Option.bind_some]
 cases ba
 ·rw[if_pos (by rfl),f49_eq];rfl
 rw[if_neg (by simp)]
 obtain ⟨bb,eb,ib⟩:=f53_ex b
 rw[eb,Option.bind_some]
 cases bb
 ·rw[if_pos (by rfl),f49_eq];rfl
 rw[if_neg (by simp)]
 obtain ⟨a1,a2,a3⟩:=Net.frames_ok (ia rfl)
 obtain ⟨b1,b2,b3⟩:=Net.frames_ok (ib rfl)
 rcases a with _ | ⟨f,fs⟩
 ·rw[if_pos (by rfl),f49_eq];rfl
 rw[if_neg (by simp only[decide_eq_true_eq,List.length_cons];omega)]
 rcases b with _ | ⟨g,gs⟩
 ·rw[if_pos (by rfl),f49_eq];rfl
 rw[if_neg (by simp only[decide_eq_true_eq,List.length_cons];omega)]
 have hfk:=a2 f (List.mem_cons_self ..)
 have hgk:=b2 g (List.mem_cons_self ..)
 have ha:at? (f::fs) 0=some f:=rfl
 have hb:at? (g::gs) 0=some g:=rfl
 rw[ha,Option.bind_some,hb,Option.bind_some]
 by_cases hu:f.fUniverse=g.fUniverse
 case neg=>rw[if_pos (by simpa using hu),f49_eq];rfl
 rw[if_neg (by simpa using hu)]
 have hn3:Net.newS 3 90 0=(⟨3,90,0,0,[]⟩,0):=by kernel_rfl
 have hn5:Net.newS 5 90 0=(⟨5,90,0,0,[]⟩,0):=by kernel_rfl
 rw[Net.f42_eq,hn3,Option.bind_some,Net.f42_eq,hn5,Option.bind_some,slc_one,Option.bind_some,Net.f43_eq,send_one (by kernel_rfl) hfk,Option.bind_some]
 simp only[f12_J1]
 rw[slc_one,Option.bind_some,Net.f43_eq,send_one (by kernel_rfl) hgk,Option.bind_some]
 simp only[f12_J2]
 rw[if_neg (show ¬ decide (IntKind.i64.wrap (IntKind.i64.wrap (IntKind.i64.wrap ((0:Int) + 0) + 0) + 0)≠0)=true from by decide)]
 cases turn
 ·rw[if_neg (by simp),app_two,Option.bind_some]
  exact j3_eq hfk hgk hu ha hb (.inl rfl)
 ·rw[if_pos rfl,dap_two,Option.bind_some,app_two,Option.bind_some]
  exact j3_eq hfk hgk hu ha hb (.inr rfl)
end Go.Proofs.Ytgfohogbechkkaa
