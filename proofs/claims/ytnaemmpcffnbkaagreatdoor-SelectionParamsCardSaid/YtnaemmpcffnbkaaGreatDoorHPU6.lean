import Derived.Test.YtnaemmpcffnbkaaGreatDoorHPU45
import Derived.Test.YtnaemmpcffnbkaaGreatDoorHGA2
namespace Go.Proofs.YtnaemmpcffnbkaaGreatDoor
open Go Go.Ab
set_option linter.unusedSimpArgs false
set_option linter.unusedVariables false
set_option maxRecDepth 4000
def namE(cs:List (List ApiPoint))(seen:List ApiProfile)(p:ApiProfile):Int:=if profE cs p≠0 then profE cs p else if (seen.any fun q=>decide (q.fName=p.fName))=true then 7 else 0
def uniS(cs:List (List ApiPoint))(ps:List ApiProfile)(fx:List ApiFixture):Int:=if curvesS cs≠0 then curvesS cs else if 32<ps.length then 5
 else if firstE (fun k p=>namE cs (ps.take k) p) 0 ps≠0 then firstE (fun k p=>namE cs (ps.take k) p) 0 ps else checkS fx ps
def FitR(ps:List ApiProfile)(fx:List ApiFixture):Prop:=(∀ p ∈ ps,FitP p)∧Fit fx
theorem f55_L2_eq{g:UniverseRig}(hl:g.fProfiles.length≤32)(hf:∀ p ∈ g.fProfiles,FitP p):Lp.run (f55_L2 g) (0,[])=some (if firstE (fun k p=>namE g.fCurves (g.fProfiles.take k) p) 0 g.fProfiles=0 then .inl () else .inr (firstE (fun k p=>namE g.fCurves (g.fProfiles.take k) p) 0 g.fProfiles)):=by
 have hrun:=run_walk (L:=f55_L2 g) g.fProfiles (fun k (a:List (List UInt8×Bool))=>((k:Int),a)) (fun k a p=>if namE g.fCurves (g.fProfiles.take k) p≠0 then .inr (.inr (namE g.fCurves (g.fProfiles.take k) p)) else .inl (mset a p.fName true)) (fun _=>(.inl ():Unit⊕Int))
  (fun k a=>∀ n,(mget a n).getD false=(g.fProfiles.take k).any fun q=>decide (q.fName=n)) (fun k a p hp hI=>by
   have hk:=getElem?_lt hp
   refine ⟨?_,fun a' ha' n=>?_⟩
   ·simp only[f55_L2]
    rw[if_pos (at_lt hp),at_nat hp,Option.bind_some,f95_eq _ (hf p (getElem?_mem hp)),Option.bind_some,w64_succ (by omega)]
    by_cases h0:profE g.fCurves p=0
    ·rw[if_neg (by simpa using h0)]
     unfold look?
     rw[hI]
     dsimp only
     by_cases h1:((g.fProfiles.take k).any fun q=>decide (q.fName=p.fName))=true
     ·have e:namE g.fCurves (g.fProfiles.take k) p=7:=by unfold namE;rw[if_neg (nn h0),if_pos h1]
      rw[if_pos h1,e]
      rfl
     ·have e:namE g.fCurves (g.fProfiles.take k) p=0:=by unfold namE;rw[if_neg (nn h0),if_neg h1]
      rw[if_neg h1,e]
      rfl
    ·have e:namE g.fCurves (g.fProfiles.take k) p=profE g.fCurves p:=by unfold namE;rw[if_pos h0]
     rw[if_pos (by simpa using h0),e,if_pos h0]
     rfl
   ·by_cases h:namE g.fCurves (g.fProfiles.take k) p≠0
    ·rw[if_pos h] at ha';cases ha'
    ·rw[if_neg h] at ha'
     injection ha' with ha'
     subst ha'
     rw[any_succ hp,mget_mset,← hI n]
     by_cases hc:n=p.fName
     ·simp[hc]
     ·have:¬ p.fName=n:=fun h=>hc h.symm
      simp[hc,this])
  (fun a _=>by simp only[f55_L2];rw[at_end];rfl) [] (fun n=>rfl)
 rw[show ((0,[]):Int×List (List UInt8×Bool))=(((0:Nat):Int),[]) from rfl,hrun,walk_firstS]
theorem f55_eq{g:UniverseRig}(hf:FitR g.fProfiles g.fFixtures):f55 g=some (uniS g.fCurves g.fProfiles g.fFixtures):=by
 unfold f55 uniS
 by_cases h0:16<g.fCurves.length
 ·have hc:curvesS g.fCurves=5:=by unfold curvesS;rw[if_pos h0]
  rw[if_pos (by simp;omega),hc]
  rfl
 ·have hc:curvesS g.fCurves=firstE (fun _ c=>curveS c) 0 g.fCurves:=by unfold curvesS;rw[if_neg h0]
  rw[if_neg (by simp;omega),hc,run_firstE2 (L:=f55_L1 g) (xs:=g.fCurves) (fun _ c=>curveS c) (by omega) (fun k x r _=>by
   simp only[f55_L1,f94_eq]
   rw[if_pos r.lt,r.at',Option.bind_some,Option.bind_some,r.nxt]
   by_cases h1:curveS x=0<;>simp[h1]) (by simp only[f55_L1];rw[at_end];rfl),Option.bind_some]
  by_cases h1:firstE (fun _ c=>curveS c) 0 g.fCurves=0
  ·rw[if_pos h1,if_neg (nn h1)]
   dsimp only
   by_cases h2:32<g.fProfiles.length
   ·rw[if_pos (by simp;omega),if_pos h2]
   ·rw[if_neg (by simp;omega),if_neg h2,f55_L2_eq (by omega) hf.1,Option.bind_some]
    by_cases h3:firstE (fun k p=>namE g.fCurves (g.fProfiles.take k) p) 0 g.fProfiles=0
    ·rw[if_pos h3,if_neg (nn h3)]
     dsimp only
     rw[f96_eq _ hf.2]
     rfl
    ·rw[if_neg h3,if_pos h3]
  ·rw[if_neg h1,if_pos h1]
theorem f29_eq{g:Ref13Rig}(hf:FitR g.fProfiles g.fFixtures):f29 g=some (uniS g.fCurves g.fProfiles g.fFixtures):=by
 unfold f29 uniS
 rw[f70_eq,Option.bind_some]
 by_cases h1:curvesS g.fCurves=0
 ·rw[if_neg (by simpa using h1),if_neg (nn h1)]
  by_cases h2:32<g.fProfiles.length
  ·rw[if_pos (by simp;omega),if_pos h2]
  ·rw[if_neg (by simp;omega),if_neg h2,run_firstE2 (L:=f29_L1 g) (xs:=g.fProfiles) (fun k p=>namE g.fCurves (g.fProfiles.take k) p) (by omega) (fun k p r _=>by
    have hk:=r.klt
    simp only[f29_L1]
    rw[if_pos r.lt,r.at',Option.bind_some,f71_eq _ (hf.1 p r.mem),Option.bind_some,r.nxt]
    by_cases h0:profE g.fCurves p=0
    ·rw[if_neg (by simpa using h0),slc_some (by omega),Option.bind_some,Option.bind_some]
     simp only[Int.toNat_natCast,Int.toNat_zero,List.drop_zero]
     rw[f72_eq (by simp;omega),Option.bind_some,fstI_nonneg]
     by_cases h1:((g.fProfiles.take k).any fun q=>decide (q.fName=p.fName))=true
     ·have e:namE g.fCurves (g.fProfiles.take k) p=7:=by unfold namE;rw[if_neg (nn h0),if_pos h1]
      rw[if_pos h1,chk_eq e]
      rfl
     ·have e:namE g.fCurves (g.fProfiles.take k) p=0:=by unfold namE;rw[if_neg (nn h0),if_neg h1]
      rw[if_neg h1,chk_eq e]
      rfl
    ·have e:namE g.fCurves (g.fProfiles.take k) p=profE g.fCurves p:=by unfold namE;rw[if_pos h0]
     rw[if_pos (by simpa using h0),chk_eq e,if_pos h0]) (by simp only[f29_L1];rw[at_end];rfl),Option.bind_some]
   by_cases h3:firstE (fun k p=>namE g.fCurves (g.fProfiles.take k) p) 0 g.fProfiles=0
   ·rw[if_pos h3,if_neg (nn h3)]
    dsimp only
    rw[f73_eq _ hf.2]
    rfl
   ·rw[if_neg h3,if_pos h3]
 ·rw[if_pos (by simpa using h1),if_pos h1]
structure Rig (ps:List ApiProfile) (fx:List ApiFixture):Prop where
 ok:Ok fx ps
 few:Few fx ps
 attr:∀ p ∈ ps,∀ f ∈ p.fFeatures,0≤f.fAttr∧f.fAttr≤14
theorem rig_of{cs:List (List ApiPoint)}{ps:List ApiProfile}{fx:List ApiFixture}(h:uniS cs ps fx=0):Rig ps fx:=by
 unfold uniS at h
 by_cases h1:curvesS cs=0
 ·rw[if_neg (nn h1)] at h
  by_cases h2:32<ps.length
  ·rw[if_pos h2] at h;cases h
  ·rw[if_neg h2] at h
   by_cases h3:firstE (fun k p=>namE cs (ps.take k) p) 0 ps=0
   ·rw[if_neg (nn h3)] at h
    have hp:∀ p ∈ ps,profE cs p=0:=fun p hp=>by
     obtain ⟨j,hj⟩:=List.mem_iff_getElem?.1 hp
     have:=firstE_zero.1 h3 j p hj
     unfold namE at this
     by_cases h4:profE cs p=0
     ·exact h4
     ·rw[if_pos h4] at this;exact absurd this h4
    have hq:∀ p ∈ ps,p.fFeatures.length≤16∧firstE (fun k f=>featE p.fFootprint cs.length (p.fFeatures.take k) f) 0 p.fFeatures=0:=fun p hpm=>by
     have h5:=hp p hpm
     unfold profE at h5
     rw[if_neg (nn h1)] at h5
     split at h5
     ·cases h5
     ·split at h5
      ·cases h5
      ·split at h5
       ·cases h5
       ·split at h5
        ·cases h5
        ·exact ⟨by omega,h5⟩
    refine ⟨check_ok.1 h,⟨fun p hpm=>(hq p hpm).1⟩,fun p hpm f hf=>?_⟩
    obtain ⟨j,hj⟩:=List.mem_iff_getElem?.1 hf
    have:=firstE_zero.1 (hq p hpm).2 j f hj
    unfold featE at this
    split at this
    ·cases this
    ·omega
   ·rw[if_pos h3] at h;exact absurd h h3
 ·rw[if_pos h1] at h;exact absurd h h1
def clsS(a:Int):Int×Int:=if a<0∨15≤a then (0,1) else if a=0 then (0,0) else if a≤2 then (1,0) else if a≤10 then (2,0) else (3,0)
theorem f144_eq(a:Int):f144 a=some (clsS a):=by
 unfold f144 clsS
 by_cases h1:a<0
 ·simp[h1]
 ·by_cases h2:15≤a
  ·simp[h1,h2]
  ·by_cases h3:a=0
   ·simp[h3]
   ·by_cases h4:a≤2
    ·simp[h1,h2,h3,h4]
    ·by_cases h5:a≤10<;>simp[h1,h2,h3,h4,h5]
def ofB(a kind:Int):Bool:=decide (kind = -1∨kind=a∨kind=15 + (clsS a).1)
theorem cls_rng(a:Int):0≤(clsS a).1∧(clsS a).1≤3:=by
 unfold clsS
 split
 ·simp
 ·split
  ·simp
  ·split
   ·simp
   ·split<;>simp
theorem f99_eq{a kind:Int}(ha:0≤a∧a≤14)(hk : -1≤kind∧kind≤18):f99 a kind=some (ofB a kind):=by
 have hc:=cls_rng a
 have hz:(clsS a).2=0:=by
  unfold clsS
  rw[if_neg (by omega)]
  split
  ·rfl
  ·split
   ·rfl
   ·split<;>rfl
 unfold f99 ofB
 rw[f144_eq,Option.bind_some,hz,w64 (by omega) (by omega)]
 by_cases h1:kind<15
 ·rw[if_pos (by simpa using h1)]
  by_cases h2:kind = -1
  ·simp[h2]
  ·rw[if_neg (by simpa using h2)]
   congr 1
   rw[decide_eq_decide]
   omega
 ·rw[if_neg (by simpa using h1),if_pos (by simp)]
  congr 1
  rw[decide_eq_decide]
  omega
theorem f101_eq{a kind:Int}(ha:0≤a∧a≤14)(hk : -1≤kind∧kind≤18):f101 a kind=some (ofB a kind):=by
 have h146:f146 a=some (clsS a).1:=by
  unfold f146 clsS
  rw[if_neg (show ¬ (a<0∨15≤a) by omega)]
  by_cases h1:a=0
  ·simp[h1]
  ·by_cases h2:a=1
   ·simp[h2]
   ·by_cases h3:a=2
    ·simp[h3]
    ·by_cases h4:a≤10
     ·have:3≤a:=by omega
      have h5:¬ a≤2:=by omega
      simp[h1,h2,h3,h4,this,h5]
     ·have:3≤a:=by omega
      have h5:¬ a≤2:=by omega
      simp[h1,h2,h3,h4,this,h5]
 have hc:=cls_rng a
 unfold f101 ofB
 rw[h146]
 by_cases h2:kind = -1
 ·simp[h2]
 ·rw[if_neg (by simpa using h2)]
  by_cases h3:kind=a
  ·rw[if_pos (by simpa using h3)]
   simp[h3]
  ·rw[if_neg (by simpa using h3),Option.bind_some,w64 (by omega) (by omega)]
   congr 1
   rw[decide_eq_decide]
   omega
theorem attrs_rng{ps:List ApiProfile}{fx:List ApiFixture}(hr:Rig ps fx){c a:Int}(h:a ∈ attrsS ps fx c):0≤a∧a≤14:=by
 unfold attrsS at h
 rw[compact_mem,sortI_mem] at h
 unfold attrsOf at h
 obtain ⟨x,hx,h⟩:=List.mem_flatMap.1 h
 obtain ⟨f,hf,rfl⟩:=List.mem_map.1 h
 unfold featS at hf
 cases hp:profS ps x.fProfile with
 | none=>rw[hp] at hf;simp at hf
 | some p =>
  rw[hp] at hf
  exact hr.attr p (List.mem_of_find?_eq_some hp) f hf
theorem attrsS_len{l:List ApiFixture}{ps:List ApiProfile}(c:Int)(hw:Few l ps)(hok:Ok l ps):(attrsS ps l c).length≤1024:=by
 have h1:=(compact_sub (sortI (attrsOf ps (ofCh l c)))).length_le
 have h2:=attrs_len (ps:=ps) (xs:=ofCh l c) fun x _=>feat_len hw hok x
 have h3:(ofCh l c).length≤l.length:=List.length_filter_le ..
 have h4:=hok.nl
 unfold attrsS
 rw[sortI_length] at h1
 omega
def hadS(ps:List ApiProfile)(fx:List ApiFixture)(c kind:Int):List Int:=(attrsS ps fx c).filter fun a=>ofB a kind
theorem hadS_len{l:List ApiFixture}{ps:List ApiProfile}(c kind:Int)(hr:Rig ps l):(hadS ps l c kind).length≤1024:=Nat.le_trans (List.length_filter_le ..) (attrsS_len c hr.few hr.ok)
theorem f58_eq{g:UniverseRig}(c:Int){kind:Int}(hf:FitR g.fProfiles g.fFixtures)(hr:Rig g.fProfiles g.fFixtures)(hk : -1≤kind∧kind≤18):f58 g c kind=some (hadS g.fProfiles g.fFixtures c kind,0):=by
 unfold f58
 rw[f97_eq c hf.2 hr.few,if_neg (by rw[check_ok.2 hr.ok];simp),Option.bind_some]
 have hd:delf? (fun x=>f98p x kind) (attrsS g.fProfiles g.fFixtures c)=some ((attrsS g.fProfiles g.fFixtures c).filter fun x => !(!ofB x kind)):=delf_some (p:=fun x => !ofB x kind) (fun x hx=>by
  unfold f98p
  rw[f99_eq (attrs_rng hr hx) hk]
  rfl) (by have:=attrsS_len c hr.few hr.ok;omega)
 rw[hd,Option.bind_some]
 simp only[Bool.not_not]
 rfl
theorem f60_eq{g:Ref13Rig}(c:Int){kind:Int}(hr:Rig g.fProfiles g.fFixtures)(hk : -1≤kind∧kind≤18):f60 g c kind=some (hadS g.fProfiles g.fFixtures c kind):=by
 have hl:=attrsS_len c hr.few hr.ok
 unfold f60
 rw[f100_eq c hr.few hr.ok,Option.bind_some]
 have hrun:=run_walk (L:=f60_L1 (attrsS g.fProfiles g.fFixtures c) kind) (attrsS g.fProfiles g.fFixtures c) (fun k (a:List Int)=>((k:Int),a)) (fun _ a x=>.inl (if ofB x kind=true then a++[x] else a)) (fun a=>a) (fun k a=>a.length≤k) (fun k a x hx hI=>by
   have hk':=getElem?_lt hx
   refine ⟨?_,fun a' ha'=>?_⟩
   ·simp only[f60_L1]
    rw[if_pos (at_lt hx),at_nat hx,Option.bind_some,f101_eq (attrs_rng hr (getElem?_mem hx)) hk,Option.bind_some,w64_succ (by omega)]
    by_cases h:ofB x kind=true
    ·rw[if_pos h,Option.bind_some,app_some (by simp;omega) (by simp;omega),Option.bind_some,if_pos h]
     rfl
    ·rw[if_neg h,if_neg h]
     rfl
   ·injection ha' with ha'
    subst ha'
    split
    ·simp;omega
    ·omega)
  (fun a _=>by simp only[f60_L1];rw[at_end];rfl) [] (by simp)
 rw[show ((0,[]):Int×List Int)=(((0:Nat):Int),[]) from rfl,hrun,walk_filter (fun x:Int=>ofB x kind)]
 rfl
theorem f57_eq(kind:Int):f57 kind=some (decide (-1≤kind∧kind≤18)):=by
 unfold f57
 by_cases h : -1≤kind<;>simp[h]
theorem f59_eq(kind:Int):f59 kind=some (decide (-1≤kind∧kind≤18)):=by
 unfold f59
 by_cases h : -1≤kind<;>simp[h]
theorem ex_loop{E:Type}{L:Lp Int E}(n:Nat)(h:∀ k:Nat,k<n→(∃ e,L.body (k:Int)=some (.brk e))∨L.body (k:Int)=some (.next ((k + 1:Nat):Int)))(he:∃ e,L.body (n:Int)=some (.brk e)):∃ e,L.run 0=some e:=by
 obtain ⟨e,h1,_⟩:=run_until (L:=L) (fun k=>(k:Int)) n (fun _=>True) 0 (by omega) (fun i _ hi=>by
  rcases h i hi with ⟨e,h⟩ | h
  ·exact .inr ⟨e,h,trivial⟩
  ·exact .inl h) (by obtain ⟨e,h⟩:=he;exact ⟨e,h,trivial⟩)
 exact ⟨e,h1⟩
theorem few_loop{τ E:Type}{L:Lp Int E}{xs:List τ}(e0 e1:E)(h:∀ (k:Nat) x,k<40→xs[k]? = some x→(∃ e,L.body (k:Int)=some (.brk e))∨L.body (k:Int)=some (.next ((k + 1:Nat):Int)))(h40:∀ k:Nat,k<xs.length→¬ k<40→L.body (k:Int)=some (.brk e0))(he:L.body ((xs.length:Nat):Int)=some (.brk e1)):∃ e,L.run 0=some e:=by
 refine ex_loop xs.length (fun k hk=>?_) ⟨_,he⟩
 by_cases h4:k<40
 ·exact h k _ h4 (List.getElem?_eq_getElem hk)
 ·exact .inl ⟨_,h40 k hk h4⟩
theorem f53_ex(p:ApiProfile):∃ b,f53 p=some b:=by
 obtain ⟨e,he⟩:=few_loop (L:=f53_L1 p) (xs:=p.fFeatures) (.inl ()) (.inl ()) (fun k x hk hx=>by
  simp only[f53_L1]
  rw[if_pos (at_lt hx),if_pos (by simp;omega),at_nat hx,Option.bind_some,w64_succ (by omega)]
  split
  ·exact .inl ⟨_,rfl⟩
  ·exact .inr rfl) (fun k hk h4=>by
  simp only[f53_L1]
  rw[if_pos (by simp;omega),if_neg (by simp;omega)]) (by simp only[f53_L1];rw[at_end];rfl)
 unfold f53
 rw[he,Option.bind_some]
 cases e with
 | inl _ =>
  dsimp only
  split
  ·exact ⟨_,rfl⟩
  ·exact ⟨_,rfl⟩
 | inr _=>exact ⟨_,rfl⟩
theorem f54_ex(l:List (List ApiPoint)):∃ b,f54 l=some b:=by
 obtain ⟨e,he⟩:=few_loop (L:=f54_L1 l) (xs:=l) (.inl ()) (.inl ()) (fun k x hk hx=>by
  simp only[f54_L1,f93]
  rw[if_pos (at_lt hx),if_pos (by simp;omega),at_nat hx,Option.bind_some,Option.bind_some,w64_succ (by omega)]
  split
  ·exact .inl ⟨_,rfl⟩
  ·exact .inr rfl) (fun k hk h4=>by
  simp only[f54_L1]
  rw[if_pos (by simp;omega),if_neg (by simp;omega)]) (by simp only[f54_L1];rw[at_end];rfl)
 unfold f54
 rw[he,Option.bind_some]
 cases e with
 | inl _=>exact ⟨_,rfl⟩
 | inr _=>exact ⟨_,rfl⟩
theorem f18_ex(g:Ref13Rig):∃ b,f18 g=some b:=by
 obtain ⟨e,he⟩:=few_loop (L:=f18_L1 g) (xs:=g.fProfiles) (.inl ()) (.inl ()) (fun k x hk hx=>by
  obtain ⟨b,hb⟩:=f53_ex x
  simp only[f18_L1]
  rw[if_pos (at_lt hx),if_pos (by simp;omega),at_nat hx,Option.bind_some,hb,Option.bind_some,w64_succ (by omega)]
  split
  ·exact .inl ⟨_,rfl⟩
  ·exact .inr rfl) (fun k hk h4=>by
  simp only[f18_L1]
  rw[if_pos (by simp;omega),if_neg (by simp;omega)]) (by simp only[f18_L1];rw[at_end];rfl)
 obtain ⟨b,hb⟩:=f54_ex g.fCurves
 unfold f18
 rw[he,Option.bind_some]
 cases e with
 | inl _ =>
  dsimp only
  rw[hb,Option.bind_some]
  split
  ·split
   ·exact ⟨_,rfl⟩
   ·exact ⟨_,rfl⟩
  ·exact ⟨_,rfl⟩
 | inr _=>exact ⟨_,rfl⟩
end Go.Proofs.YtnaemmpcffnbkaaGreatDoor
