import Derived.Test.YtnaemmpcffnbkaaGreatDoorKPG1
import Derived.Test.YtnaemmpcffnbkaaGreatDoorKGO1
namespace Go.Proofs.YtnaemmpcffnbkaaGreatDoor
open Go Go.Ab
set_option linter.unusedSimpArgs false
set_option linter.unusedVariables false
set_option maxRecDepth 4000
theorem scan_iff:∀ (l seen:List Int),scan seen l=0↔(∀ x ∈ l,1≤x∧x≤999)∧l.Nodup∧∀ x ∈ l,x ∉ seen
 | [],seen=>by simp[scan]
 | x::xs,seen=>by
  unfold scan
  by_cases h1:x<1∨x > 999
  ·rw[if_pos h1]
   exact ⟨(fun e=>by cases e),fun e=>by have:=e.1 x (List.mem_cons_self ..);omega⟩
  ·rw[if_neg h1]
   by_cases h2:x ∈ seen
   ·rw[if_pos h2]
    exact ⟨(fun e=>by cases e),fun e=>absurd h2 (e.2.2 x (List.mem_cons_self ..))⟩
   ·rw[if_neg h2,scan_iff xs (seen++[x]),List.nodup_cons]
    constructor
    ·rintro ⟨a,b,c⟩
     refine ⟨fun y hy=>?_,⟨fun hm=>?_,b⟩,fun y hy=>?_⟩
     ·rcases List.mem_cons.1 hy with rfl | hy
      ·omega
      ·exact a y hy
     ·exact c x hm (List.mem_append_right _ (List.mem_singleton.2 rfl))
     ·rcases List.mem_cons.1 hy with rfl | hy
      ·exact h2
      ·exact fun hs=>c y hy (List.mem_append_left _ hs)
    ·rintro ⟨a,⟨b1,b2⟩,c⟩
     refine ⟨fun y hy=>a y (List.mem_cons_of_mem _ hy),b2,fun y hy hs=>?_⟩
     rcases List.mem_append.1 hs with hs | hs
     ·exact c y (List.mem_cons_of_mem _ hy) hs
     ·rw[List.mem_singleton.1 hs] at hy;exact b1 hy
theorem check_scan{g:ApiGroup}(h:checkG g=0):scan [] g.fChannels=0:=by
 unfold checkG at h
 split at h
 ·cases h
 ·split at h
  ·cases h
  ·exact h
theorem mem_rng{groups:List ApiGroup}(ht:Tab groups){x:ApiSelect}(hx:termE x=0){m:List Int}(h:memS groups x=some m):∀ c ∈ m,1≤c∧c≤999:=by
 unfold memS at h
 by_cases hg:x.fGroup=0
 ·obtain ⟨h1,h2,h3⟩:=term_range hx hg
  rw[if_neg (by simpa using hg)] at h
  injection h with h
  subst h
  intro c hc
  have:=rangeL_mem.1 hc
  omega
 ·rw[if_pos hg] at h
  cases hgs:getS groups x.fGroup with
  | none=>rw[hgs] at h;cases h
  | some g =>
   rw[hgs] at h
   injection h with h
   subst h
   exact ((scan_iff _ _).1 (check_scan (ht.chk g (List.mem_of_find?_eq_some hgs)))).1
def Chans(l:List Int):Prop:=(∀ c ∈ l,1≤c∧c≤999)∧l.Nodup
theorem add_chans:∀ (m:List Int) {out:List Int},(∀ c ∈ m,1≤c∧c≤999)→Chans out→Chans (m.foldl add1 out)
 | [],_,_,h=>h
 | c::m,out,hm,h=>by
  rw[List.foldl_cons]
  refine add_chans m (fun x hx=>hm x (List.mem_cons_of_mem _ hx)) ?_
  unfold add1
  split
  ·exact h
  ·rename_i hn
   refine ⟨fun x hx=>?_,?_⟩
   ·rcases List.mem_append.1 hx with hx | hx
    ·exact h.1 x hx
    ·rw[List.mem_singleton.1 hx];exact hm c (List.mem_cons_self ..)
   ·rw[List.nodup_append]
    exact ⟨h.2,by simp,fun a ha b hb e=>by rw[List.mem_singleton] at hb;subst hb;subst e;exact hn ha⟩
theorem apply_chans(op:Int){m out:List Int}(hm:∀ c ∈ m,1≤c∧c≤999)(h:Chans out):Chans (applyS op out m):=by
 unfold applyS
 split
 ·exact add_chans m hm h
 ·exact ⟨fun x hx=>h.1 x (List.mem_filter.1 hx).1,List.Pairwise.filter _ h.2⟩
theorem chosen_chans{groups:List ApiGroup}(ht:Tab groups):∀ (l:List ApiSelect) {out o:List Int},(∀ x ∈ l,termE x=0)→Chans out→chosenS groups out l=some o→Chans o
 | [],out,o,_,hI,h=>by injection h with h;subst h;exact hI
 | x::xs,out,o,hc,hI,h=>by
  simp only[chosenS] at h
  cases hm:memS groups x with
  | none=>rw[hm] at h;cases h
  | some m =>
   rw[hm] at h
   exact chosen_chans ht xs (fun y hy=>hc y (List.mem_cons_of_mem _ hy)) (apply_chans _ (mem_rng ht (hc x (List.mem_cons_self ..)) hm) hI) h
theorem channels_chans(l:List ApiSelect)(groups:List ApiGroup):Chans (channelsS l groups).1:=by
 have h0:Chans []:=⟨by simp,List.Pairwise.nil⟩
 unfold channelsS
 by_cases h1:selS l=0
 ·rw[if_neg (nn h1)]
  by_cases h2:tableS groups=0
  ·rw[if_neg (nn h2)]
   cases h:chosenS groups [] l with
   | none=>exact h0
   | some o=>exact chosen_chans (tab_of h2) l (sel_of h1).chk h0 h
  ·rw[if_pos h2];exact h0
 ·rw[if_pos h1];exact h0
def fewS(l:List ApiGroup):Bool:=(l.take 60).all (fun g => !(decide (40<g.fChannels.length) && decide (g.fChannels.length≤256))) && decide (l.length≤60)
theorem f41_eq(l:List ApiGroup)(hl:l.length≤9223372036854775807):f41 l=some (fewS l):=by
 obtain ⟨e,h3,h4⟩:=run_ex (L:=f41_L1 l) (s0:=0) (fun e=>(match e with | Sum.inl ()=>some (decide (l.length≤60)) | Sum.inr ()=>some false)=some (fewS l))
  (fun i=>∃ k:Nat,i=k∧k≤l.length∧k≤60∧(l.take k).all (fun g => !(decide (40<g.fChannels.length) && decide (g.fChannels.length≤256)))=true) (fun i=>l.length - i.toNat) ⟨0,rfl,Nat.zero_le _,by omega,by simp⟩ (by
  rintro _ ⟨k,rfl,hk,hk6,hs⟩
  simp only[f41_L1]
  by_cases hlt:k<l.length
  ·rw[if_pos (by simpa using hlt)]
   by_cases h6:k<60
   ·rw[if_pos (by simp;omega),at_nat (List.getElem?_eq_getElem hlt)]
    simp only[Option.bind_some,decide_eq_true_eq]
    have hw:IntKind.i64.wrap ((k:Int) + 1)=((k + 1:Nat):Int):=by rw[w64 (by omega) (by omega)];rfl
    have nxt:(!(decide (40<l[k].fChannels.length) && decide (l[k].fChannels.length≤256)))=true→(l.take (k + 1)).all (fun g => !(decide (40<g.fChannels.length) && decide (g.fChannels.length≤256)))=true:=fun h=>by
     rw[List.take_succ_eq_append_getElem hlt,List.all_append,hs,List.all_cons,List.all_nil,h];rfl
    by_cases c1:40<l[k].fChannels.length
    ·rw[if_pos (by omega)]
     by_cases c2:l[k].fChannels.length≤256
     ·right
      rw[if_pos (by omega)]
      refine ⟨_,rfl,?_⟩
      have:fewS l=false:=by
       unfold fewS
       have hmem:l[k] ∈ l.take 60:=by
        rw[List.mem_take_iff_getElem]
        exact ⟨k,by omega,rfl⟩
       have:(l.take 60).all (fun g => !(decide (40<g.fChannels.length) && decide (g.fChannels.length≤256)))=false:=by
        rw[List.all_eq_false]
        exact ⟨_,hmem,by simp[c1,c2]⟩
       rw[this];rfl
      rw[this]
     ·left
      rw[if_neg (by omega),hw]
      exact ⟨_,rfl,⟨k + 1,rfl,hlt,by omega,nxt (by simp[c2])⟩,by simp;omega⟩
    ·left
     rw[if_neg (by omega),hw]
     exact ⟨_,rfl,⟨k + 1,rfl,hlt,by omega,nxt (by simp[c1])⟩,by simp;omega⟩
   ·right
    rw[if_neg (by simp;omega)]
    refine ⟨_,rfl,?_⟩
    have hk:k=60:=by omega
    subst hk
    unfold fewS
    rw[hs];rfl
  ·right
   rw[if_neg (by simpa using hlt)]
   refine ⟨_,rfl,?_⟩
   have hkl:k=l.length:=by omega
   have:l.take 60=l.take k:=by rw[List.take_of_length_le (by omega),List.take_of_length_le (by omega)]
   unfold fewS
   rw[this,hs];rfl)
 unfold f41
 rw[h3,Option.bind_some]
 have hc:decide (((l.length:Nat):Int)≤60)=decide (l.length≤60):=by
  by_cases h:l.length≤60
  ·rw[decide_eq_true h,decide_eq_true (by omega)]
  ·rw[decide_eq_false h,decide_eq_false (by omega)]
 rw[hc]
 exact h4
theorem f11_ex(l:List ApiSelect)(gs:List ApiGroup)(hl:gs.length≤9223372036854775807):∃ b,f11 l gs=some b:=by
 unfold f11
 rw[f41_eq gs hl]
 simp only[Option.bind_some]
 split
 ·exact ⟨_,rfl⟩
 ·split
  ·split
   ·exact ⟨_,rfl⟩
   ·exact ⟨_,rfl⟩
  ·exact ⟨_,rfl⟩
theorem f27_eq{l:List ApiSelect}(h:l.length * 32≤140737488351232):f27 l=some l:=by
 unfold f27
 by_cases he:l=[]
 ·subst he
  rw[nil_nil (by rw[if_pos rfl,if_neg (by simp),app_some (by simp) (by simp)];rfl)]
  rfl
 ·rw[nil_cons he,if_neg (by simp),app_some (by simp;omega) (by simp;omega),Option.bind_some]
  rfl
theorem chosen_last{gs:List ApiGroup}:∀ (l:List ApiSelect) (out:List Int) (x:ApiSelect),chosenS gs out (l++[x])=(chosenS gs out l).bind fun o=>(memS gs x).map fun m=>applyS x.fOp o m
 | [],out,x=>by simp only[List.nil_append,chosenS];cases memS gs x<;>rfl
 | y::l,out,x=>by
  simp only[List.cons_append,chosenS]
  cases memS gs y with
  | none=>rfl
  | some m=>exact chosen_last l _ x
theorem channels_of{l:List ApiSelect}{gs:List ApiGroup}{o:List Int}(h1:selS l=0)(h2:tableS gs=0)(h3:chosenS gs [] l=some o):channelsS l gs=(o,0):=by
 unfold channelsS
 rw[if_neg (nn h1),if_neg (nn h2),h3]
theorem channels_ok{l:List ApiSelect}{gs:List ApiGroup}(h:(channelsS l gs).2=0):selS l=0∧tableS gs=0∧∃ o,chosenS gs [] l=some o:=by
 unfold channelsS at h
 by_cases h1:selS l=0
 ·rw[if_neg (nn h1)] at h
  by_cases h2:tableS gs=0
  ·rw[if_neg (nn h2)] at h
   cases ho:chosenS gs [] l with
   | none=>rw[ho] at h;cases h
   | some o=>exact ⟨h1,h2,o,rfl⟩
  ·rw[if_pos h2] at h;exact absurd h h2
 ·rw[if_pos h1] at h;exact absurd h h1
theorem fold_mem:∀ (m out:List Int) (x:Int),x ∈ m.foldl add1 out↔x ∈ out∨x ∈ m
 | [],out,x=>by simp
 | c::m,out,x=>by
  rw[List.foldl_cons,fold_mem m,List.mem_cons]
  unfold add1
  split
  ·rename_i h
   constructor
   ·rintro (k | k)
    ·exact .inl k
    ·exact .inr (.inr k)
   ·rintro (k | k | k)
    ·exact .inl k
    ·subst k;exact .inl h
    ·exact .inr k
  ·rw[List.mem_append,List.mem_singleton]
   constructor
   ·rintro ((k | k) | k)
    ·exact .inl k
    ·exact .inr (.inl k)
    ·exact .inr (.inr k)
   ·rintro (k | k | k)
    ·exact .inl (.inl k)
    ·exact .inl (.inr k)
    ·exact .inr k
theorem term_zero{x:ApiSelect}(h:termE x=0):termE ⟨0,x.fGroup,x.fFrom,x.fTo⟩=0:=by
 unfold termE at h ⊢
 split at h
 ·cases h
 ·rw[if_neg (by simp)]
  exact h
theorem not_take{l:List Int}(h:l.Nodup){k:Nat}{x:Int}(hx:l[k]? = some x):x ∉ l.take k:=by
 intro hm
 obtain ⟨i,hi,e⟩:=List.mem_iff_getElem.1 hm
 obtain ⟨hk,e2⟩:=List.getElem?_eq_some_iff.1 hx
 rw[List.getElem_take] at e
 have hik:i<k:=by simp at hi;omega
 exact List.pairwise_iff_getElem.1 (show l.Pairwise (· ≠ ·) from h) i k (by omega) hk hik (e.trans e2.symm)
theorem f7_L1_eq{A B C:List Int×Int}{last:ApiSelect}(hA:A.1.Nodup)(lA:A.1.length≤9223372036854775807)(lB:B.1.length≤9223372036854775807)(lC:C.1.length≤9223372036854775807)(h:∀ c ∈ A.1,c ∈ B.1∨c ∈ C.1):Lp.run (f7_L1 A B C last) 0=some (.inl ()):=by
 refine run_all (xs:=A.1) (fun k x hx=>?_) (by simp only[f7_L1];rw[at_end];rfl)
 have r:=Rnd.mk' hx lA
 have hk:=r.klt
 simp only[f7_L1]
 rw[if_pos r.lt,r.at',Option.bind_some,slc_some (by omega),Option.bind_some]
 simp only[Int.toNat_natCast,Int.toNat_zero,List.drop_zero]
 rw[f28_eq (by simp;omega),Option.bind_some,r.nxt,decide_eq_false (not_take hA hx),if_neg (by simp),f28_eq lB,Option.bind_some]
 by_cases hb:x ∈ B.1
 ·rw[decide_eq_true hb];rfl
 ·rw[decide_eq_false hb,f28_eq lC,decide_eq_true ((h x r.mem).resolve_left hb)];rfl
theorem f7_L2_eq{C A:List Int×Int}{last:ApiSelect}(lC:C.1.length≤9223372036854775807)(lA:A.1.length≤9223372036854775807)(h:∀ c ∈ C.1,(c ∈ A.1↔last.fOp=0)):Lp.run (f7_L2 C A last) 0=some (.inl ()):=by
 refine run_all (xs:=C.1) (fun k x hx=>?_) (by simp only[f7_L2];rw[at_end];rfl)
 have r:=Rnd.mk' hx lC
 have e:(decide (x ∈ A.1) == decide (last.fOp=0))=true:=by simp[h x r.mem]
 simp only[f7_L2]
 rw[if_pos r.lt,r.at',Option.bind_some,f28_eq lA,Option.bind_some,r.nxt,e]
 rfl
theorem f7_eq(l:List ApiSelect)(gs:List ApiGroup)(last:ApiSelect)(hg:gs.length≤9223372036854775807)(hl:l.length * 32≤140737488351232):f7 l gs last=some true:=by
 obtain ⟨b,hb⟩:=f11_ex l gs hg
 unfold f7
 rw[hb,Option.bind_some]
 cases b with
 | false=>rw[if_pos (show (!false)=true from rfl),f12_eq];rfl
 | true =>
  rw[if_neg (by simp),f27_eq hl,Option.bind_some,app_some (by simp;omega) (by simp;omega),Option.bind_some,f13_eq,f13_eq,Option.bind_some,Option.bind_some]
  by_cases hA:(channelsS (l++[last]) gs).2=0
  ·obtain ⟨a1,a2,o,a3⟩:=channels_ok hA
   have eA:=channels_of a1 a2 a3
   rw[chosen_last] at a3
   cases hB:chosenS gs [] l with
   | none=>rw[hB] at a3;cases a3
   | some ob =>
    rw[hB] at a3
    cases hm:memS gs last with
    | none=>rw[hm] at a3;cases a3
    | some m =>
     rw[hm] at a3
     have a3:applyS last.fOp ob m=o:=by injection a3
     have sm:=sel_of a1
     have hterm:=sm.chk last (by simp)
     have e1:channelsS l gs=(ob,0):=channels_of (selS_of ⟨by have:=sm.len;simp at this;omega,fun x hx=>sm.chk x (by simp[hx])⟩) a2 hB
     have e2:channelsS [⟨0,last.fGroup,last.fFrom,last.fTo⟩] gs=(m.foldl add1 [],0):=channels_of (selS_of ⟨by simp,fun x hx=>by rw[List.mem_singleton.1 hx];exact term_zero hterm⟩) a2 (by
      have hm':memS gs ⟨0,last.fGroup,last.fFrom,last.fTo⟩=some m:=hm
      simp only[chosenS]
      rw[hm']
      rfl)
     have cA:=channels_chans (l++[last]) gs
     have lA:=channels_len (l++[last]) gs
     have lB:=channels_len l gs
     have lC:=channels_len [⟨0,last.fGroup,last.fFrom,last.fTo⟩] gs
     rw[eA] at cA lA
     rw[e1] at lB
     rw[e2] at lC
     dsimp only at cA lA lB lC
     have m1:∀ c ∈ o,c ∈ ob∨c ∈ m.foldl add1 []:=fun c hc=>by
      rw[← a3] at hc
      unfold applyS at hc
      split at hc
      ·rcases (fold_mem m ob c).1 hc with k | k
       ·exact .inl k
       ·exact .inr ((fold_mem m [] c).2 (.inr k))
      ·exact .inl (List.mem_filter.1 hc).1
     have m2:∀ c ∈ m.foldl add1 [],(c ∈ o↔last.fOp=0):=fun c hc=>by
      have hcm:c ∈ m:=by
       rcases (fold_mem m [] c).1 hc with k | k
       ·cases k
       ·exact k
      rw[← a3]
      unfold applyS
      split
      ·rename_i h0
       exact ⟨fun _=>h0,fun _=>(fold_mem m ob c).2 (.inr hcm)⟩
      ·rename_i h0
       exact ⟨fun k=>absurd hcm (by simpa using (List.mem_filter.1 k).2),fun k=>absurd k h0⟩
     rw[eA,e1,if_neg (by simp),if_neg (by simp),f13_eq,e2,Option.bind_some,if_neg (by simp),f7_L1_eq cA.2 (by dsimp only;omega) (by dsimp only;omega) (by dsimp only;omega) m1,Option.bind_some]
     dsimp only
     rw[f7_L2_eq (by dsimp only;omega) (by dsimp only;omega) m2,Option.bind_some]
     dsimp only
     rw[f12_eq]
     rfl
  ·rw[if_pos (by simpa using hA)]
   by_cases hB:(channelsS l gs).2=0
   ·rw[if_pos (by simpa using hB),f12_eq];rfl
   ·rw[if_neg (by simpa using hB),if_pos (by simpa using hA),f12_eq];rfl
end Go.Proofs.YtnaemmpcffnbkaaGreatDoor
