import Derived.Test.YtgfohogbechkkaaBW1
set_option linter.unusedSimpArgs false
set_option linter.unusedVariables false
namespace Go.Proofs.Ytgfohogbechkkaa
open Go Go.Ab
theorem mx8_zero(b:UInt8):mx8 0 b=b:=by
 unfold mx8
 by_cases h:(0:UInt8).toNat<b.toNat
 ·rw[if_pos h]
 ·rw[if_neg h]
  have h0:(0:UInt8).toNat=0:=rfl
  have:b.toNat=0:=by omega
  exact (UInt8.toNat_inj.1 (by rw[this];rfl)).symm
theorem zip_zero:∀ (s:List UInt8) (n:Nat),s.length=n→List.zipWith mx8 (List.replicate n 0) s=s
 | [],n,h=>by simp at h;subst h;rfl
 | b::s,0,h=>by simp at h
 | b::s,n + 1,h=>by
  rw[List.replicate_succ,List.zipWith_cons_cons,mx8_zero,zip_zero s n (by simpa using h)]
section
variable {s:Int}{l:List NetworkStream}{ys:List ReceiverInput}
def sh(y:ReceiverInput):ApiFrame:=⟨y.fUniverse,y.fSlots⟩
end
theorem f34_eq(a:List ApiFrame)(h:a.length≤9223372036854775806):f34 a a=some true:=by
 unfold f34
 rw[if_neg (by simp)]
 rw[run_all (L:=f34_L1 a a) (xs:=a) (e:=Sum.inl ()) (fun k x hx=>by
  have R:=Rnd.mk' hx (by omega)
  simp only[f34_L1]
  rw[if_pos R.lt,R.at',R.nxt,Option.bind_some,Option.bind_some]
  simp) (by simp[f34_L1])]
 rfl
theorem f51_eq{t:Int}{ys:List ReceiverInput}{l:List NetworkPacket}(hg:Good t ys)(hc:∀ p ∈ l,checkS p=0)(hl:l.length≤1000):f51 ⟨ys⟩ t l false=some (⟨foldT t ys l⟩,true):=by
 unfold f51
 have hrun:=run_count (L:=f51_L1 l false t) (e:=.inl (foldT t ys l)) (fun k=>((k:Int),foldT t ys (l.take k))) l.length (by simp[f51_L1]) 0 (Nat.zero_le _) (fun k _ hk=>by
  have hx:=List.getElem?_eq_getElem hk
  have htk:l.take (k + 1)=l.take k++[l[k]]:=by rw[List.take_add_one,hx];rfl
  have hxm:=List.getElem_mem hk
  generalize l[k]=x at hx htk hxm
  have R:=Rnd.mk' hx (by omega)
  have hgk:Good t (foldT t ys (l.take k)):=foldT_good hg fun p hp=>hc p (List.mem_of_mem_take hp)
  have c1:f59 x=some 0:=by rw[f59_eq,hc x hxm]
  have hsl:=(check_ok (hc x hxm)).2.2.2.1
  have hdl:=Net.dat_len hsl
  simp only[f51_L1]
  rw[if_pos R.lt,R.at',Option.bind_some,Net.f88_eq c1,Option.bind_some]
  simp only
  rw[Net.f89_eq c1 (Net.ent_dec (by omega)).1,Option.bind_some,if_neg (by simp),if_neg (by simp),if_neg (by simp),if_neg (by simp),f16_eq,Option.bind_some]
  simp only[R.nxt]
  rw[take_ok hgk (hc x hxm),if_neg (by simp),htk,foldT_snoc])
 have hrun:(f51_L1 l false t).run (0,ys)=some (.inl (foldT t ys l)):=hrun
 rw[hrun]
 rfl
theorem f52_eq{a:List ApiFrame}(h:a.length≤1000):f52 a a=some true:=by
 unfold f52
 rw[f34_eq a (by omega)]
 rfl
theorem f90_ex(l:List ApiFrame):∃ b,f90 l=some b:=by
 unfold f90
 obtain ⟨e,he,_⟩:=run_ex (L:=f90_L1 l) (s0:=0) (fun _=>True) (fun s=>0≤s) (fun s=>l.length - s.toNat) (Int.le_refl 0) (fun s hs=>by
  simp only[f90_L1]
  by_cases h1:s<(l.length:Int)
  ·rw[if_pos (by simpa using h1)]
   by_cases h2:s<12
   ·rw[if_pos (by simpa using h2)]
    have hat:at? l s=some l[s.toNat]:=by
     have:=at_nat (List.getElem?_eq_getElem (show s.toNat<l.length by omega))
     rwa [show ((s.toNat:Nat):Int)=s by omega] at this
    rw[hat,Option.bind_some]
    split
    ·exact .inr ⟨_,rfl,trivial⟩
    ·rw[w64 (by omega) (by omega)]
     exact .inl ⟨_,rfl,by omega,by omega⟩
   ·rw[if_neg (by simpa using h2)]
    exact .inr ⟨_,rfl,trivial⟩
  ·rw[if_neg (by simpa using h1)]
   exact .inr ⟨_,rfl,trivial⟩)
 rw[he,Option.bind_some]
 cases e<;>exact ⟨_,rfl⟩
theorem f53_ex(l:List ApiFrame):∃ b,f53 l=some b∧(b=true→Net.framesS l=0):=by
 unfold f53
 obtain ⟨b,hb⟩:=f90_ex l
 rw[hb,Option.bind_some]
 cases b
 ·exact ⟨false,rfl,fun h=>by cases h⟩
 ·rw[if_pos rfl,Net.f41_eq,Option.bind_some]
  exact ⟨_,rfl,fun h=>by simpa using h⟩
def fr9:ApiFrame:=⟨2,b8 9::List.replicate 511 0⟩
theorem f50_29:f50 2 9=some fr9:=by
 unfold f50
 have h1:f87 [0] 511=some (List.replicate 511 0):=by
  unfold f87 rep?
  rw[if_pos ⟨by decide,by decide,by decide⟩]
  rw[show (511:Int).toNat=511 from rfl,repeat_zero]
 rw[h1,Option.bind_some,cat_some (by rw[List.length_replicate];simp only[List.length_map,List.length_cons,List.length_nil];omega)]
 rfl
def pk9:NetworkPacket:=⟨7,2,100,0,0,false,b8 9::List.replicate 511 0⟩
def l9:List ReceiverInput:=[⟨2,7,100,0,0,1000,b8 9::List.replicate 511 0,[]⟩]
theorem k1:Net.sendS ⟨7,100,0,0,[]⟩ 1000 [fr9]=(⟨7,100,0,0,[⟨2,0,1000,1,b8 9::List.replicate 511 0⟩]⟩,[pk9],0):=by kernel_rfl
theorem k2:takeS [] 1000 pk9=(l9,true,0):=by kernel_rfl
theorem k3:framesO l9 3500=([fr9],0):=by kernel_rfl
theorem k4:framesO l9 3501=([],0):=by kernel_rfl
theorem k5:Net.newS 7 100 0=(⟨7,100,0,0,[]⟩,0):=by kernel_rfl
theorem f49_eq:f49=some true:=by
 unfold f49
 rw[Net.f42_eq,k5,Option.bind_some,f50_29,Option.bind_some]
 simp only
 rw[Net.f43_eq,k1,Option.bind_some]
 simp only[f49_J1]
 rw[if_neg (by decide),if_neg (by decide),show at? [pk9] 0=some pk9 from rfl,Option.bind_some,f16_eq,k2,Option.bind_some]
 simp only
 rw[f30_eq,k3,Option.bind_some,f30_eq,k4,Option.bind_some,if_pos (by decide),if_pos trivial,f50_29,Option.bind_some,f52_eq (by decide),Option.bind_some]
 rfl
end Go.Proofs.Ytgfohogbechkkaa
