import Derived.Test.YtnaemmpcffnbkaaGreatDoorHPU2
namespace Go.Proofs.YtnaemmpcffnbkaaGreatDoor
open Go Go.Ab
set_option linter.unusedSimpArgs false
set_option linter.unusedVariables false
set_option maxRecDepth 4000
theorem run_firstE2{τ : Type}{L:Lp Int (Unit⊕Int)}{xs:List τ}(e:Nat → τ → Int)(hl:xs.length≤9223372036854775807)
  (hs:∀ (k:Nat) x,Rnd xs k x→(∀ j y,j<k→xs[j]? = some y→e j y=0)→L.body (k:Int)=some (if e k x≠0 then .brk (.inr (e k x)) else .next ((k + 1:Nat):Int))) (he:L.body ((xs.length:Nat):Int)=some (.brk (.inl ()))) :
  L.run 0=some (if firstE e 0 xs=0 then .inl () else .inr (firstE e 0 xs)):=by
 have hrun:=run_walk (L:=L) xs (fun k (_:Unit)=>(k:Int)) (fun k _ x=>if e k x≠0 then .inr (.inr (e k x)) else .inl ()) (fun _=>(.inl ():Unit⊕Int)) (fun k _=>∀ j y,j<k→xs[j]? = some y→e j y=0) (fun k a x hx hI=>by
  refine ⟨?_,fun a' ha' j y hj hy=>?_⟩
  ·rw[hs k x (Rnd.mk' hx hl) hI]
   by_cases h:e k x≠0
   ·rw[if_pos h,if_pos h];rfl
   ·rw[if_neg h,if_neg h];rfl
  ·by_cases h:e k x≠0
   ·rw[if_pos h] at ha';cases ha'
   ·rcases Nat.lt_succ_iff_lt_or_eq.1 hj with hj | rfl
    ·exact hI j y hj hy
    ·rw[hx] at hy;injection hy with hy;subst hy;simpa using h) (fun a _=>he) () (fun j y hj=>absurd hj (by omega))
 rw[walk_firstE] at hrun
 exact hrun
theorem chk_eq{E v:Int}{s:Int}(h:E=v):(if E≠0 then (Ctl.brk (Sum.inr E):Ctl Int (Unit⊕Int)) else .next s)=if v≠0 then .brk (.inr v) else .next s:=by rw[h]
theorem last_take{τ : Type}{xs:List τ}{k:Nat}{x : τ}(h:xs[k + 1]? = some x):(xs.take (k + 1)).getLast? = xs[k]? := by
 have hk:=getElem?_lt h
 rw[List.getLast?_take]
 have h1:xs[k]? = some (xs[k]'(by omega)):=List.getElem?_eq_getElem _
 simp[h1]
def isLv(v:Int):Bool:=decide (0≤v∧v≤65535)
theorem f130_eq(v:Int):f130 v=some (isLv v):=by
 unfold f130 isLv
 by_cases h:0≤v<;>simp[h]
theorem f242_eq(v:Int):f242 v=some (isLv v):=by
 unfold f242 isLv
 by_cases h:0≤v<;>simp[h]
theorem f167_eq(v:Int):f167 v=some (isLv v):=by
 unfold f167 isLv
 by_cases h:0≤v<;>simp[h]
def ptE(seen:List ApiPoint)(x:ApiPoint):Int:=if isLv x.fX=false then 2 else if isLv x.fY=false then 2 else match seen.getLast? with
 | some q=>if x.fX≤q.fX then 9 else 0
 | none=>0
def endE(c:List ApiPoint):Int:=match c[0]?,c[c.length - 1]? with
 | some a,some b=>if a.fX≠0 then 14 else if b.fX≠65535 then 14 else 0
 | _,_=>0
def curveS(c:List ApiPoint):Int:=if c.length<2 then 14 else if 16<c.length then 5 else if firstE (fun k x=>ptE (c.take k) x) 0 c≠0 then firstE (fun k x=>ptE (c.take k) x) 0 c else endE c
theorem end_eq{c:List ApiPoint}(h1:¬ c.length<2)(h2:¬ 16<c.length):((at? c 0).bind fun x=>(if (decide (x.fX≠0))=true then (some 14) else (at? c (IntKind.i64.wrap (((c.length:Nat):Int) - 1))).bind fun y=>(if (decide (y.fX≠65535))=true then (some (14:Int)) else (some 0))))=some (endE c):=by
 have g0:c[0]? = some (c[0]'(by omega)):=List.getElem?_eq_getElem _
 have g1:c[c.length - 1]? = some (c[c.length - 1]'(by omega)):=List.getElem?_eq_getElem _
 unfold endE
 rw[w64 (by omega) (by omega),show ((c.length:Nat):Int) - 1=((c.length - 1:Nat):Int) by omega,at_nat g1,show (0:Int)=((0:Nat):Int) from rfl,at_nat g0,g0,g1]
 simp only[Option.bind_some,decide_eq_true_eq]
 split
 ·rfl
 ·split<;>rfl
theorem f94_eq(c:List ApiPoint):f94 c=some (curveS c):=by
 unfold f94 curveS
 by_cases h1:c.length<2
 ·rw[if_pos (by simp;omega),if_pos h1]
 rw[if_neg (by simp;omega),if_neg h1]
 by_cases h2:16<c.length
 ·rw[if_pos (by simp;omega),if_pos h2]
 rw[if_neg (by simp;omega),if_neg h2]
 rw[run_firstE2 (L:=f94_L1 c) (xs:=c) (fun k x=>ptE (c.take k) x) (by omega) (fun k x r _=>by
  have hk:=r.klt
  simp only[f94_L1,f130_eq]
  rw[if_pos r.lt,r.at',Option.bind_some,Option.bind_some,r.nxt]
  by_cases hx:isLv x.fX=true
  ·rw[if_neg (by simp[hx]),Option.bind_some]
   by_cases hy:isLv x.fY=true
   ·rw[if_neg (by simp[hy])]
    cases k with
    | zero =>
     have e:ptE (c.take 0) x=0:=by simp[ptE,hx,hy]
     rw[chk_eq e,if_neg (by simp)]
     try rfl
    | succ k =>
     have hq:c[k]? = some (c[k]'(by omega)):=List.getElem?_eq_getElem _
     rw[if_pos (by simp only[decide_eq_true_eq];omega),w64 (by omega) (by omega),show ((k + 1:Nat):Int) - 1=(k:Int) by omega,at_nat hq,Option.bind_some]
     by_cases h:x.fX≤c[k].fX
     ·have e:ptE (c.take (k + 1)) x=9:=by unfold ptE;rw[if_neg (by simp[hx]),if_neg (by simp[hy]),last_take r.get,hq];exact if_pos h
      rw[chk_eq e,if_pos (by simpa using h)]
      rfl
     ·have e:ptE (c.take (k + 1)) x=0:=by unfold ptE;rw[if_neg (by simp[hx]),if_neg (by simp[hy]),last_take r.get,hq];exact if_neg h
      rw[chk_eq e,if_neg (by simpa using h)]
      rfl
   ·have e:ptE (c.take k) x=2:=by unfold ptE;rw[if_neg (by simp[hx]),if_pos (by simpa using hy)]
    rw[chk_eq e,if_pos (by simpa using hy)]
    rfl
  ·have e:ptE (c.take k) x=2:=by unfold ptE;rw[if_pos (by simpa using hx)]
   rw[chk_eq e,if_pos (by simpa using hx)]
   rfl) (by simp only[f94_L1];rw[at_end];rfl),Option.bind_some]
 by_cases h3:firstE (fun k x=>ptE (c.take k) x) 0 c=0
 ·rw[if_pos h3,if_neg (by simpa using h3)]
  exact end_eq h1 h2
 ·rw[if_neg h3,if_pos h3]
theorem f111_eq(c:List ApiPoint):f111 c=some (curveS c):=by
 unfold f111 curveS
 by_cases h1:c.length<2
 ·rw[if_pos (by simp;omega),if_pos h1]
 rw[if_neg (by simp;omega),if_neg h1]
 by_cases h2:16<c.length
 ·rw[if_pos (by simp;omega),if_pos h2]
 rw[if_neg (by simp;omega),if_neg h2]
 rw[run_firstE2 (L:=f111_L1 c) (xs:=c) (fun k x=>ptE (c.take k) x) (by omega) (fun k x r _=>by
  have hk:=r.klt
  simp only[f111_L1,f167_eq]
  rw[if_pos r.lt,r.at',Option.bind_some,Option.bind_some,r.nxt]
  by_cases hx:isLv x.fX=true
  ·rw[if_neg (by simp[hx]),Option.bind_some,Option.bind_some]
   by_cases hy:isLv x.fY=true
   ·rw[if_neg (by simp[hy])]
    cases k with
    | zero =>
     have e:ptE (c.take 0) x=0:=by simp[ptE,hx,hy]
     rw[chk_eq e,if_neg (by simp)]
     try rfl
    | succ k =>
     have hq:c[k]? = some (c[k]'(by omega)):=List.getElem?_eq_getElem _
     rw[if_pos (by simp only[decide_eq_true_eq];omega),w64 (by omega) (by omega),show ((k + 1:Nat):Int) - 1=(k:Int) by omega,at_nat hq,Option.bind_some,Option.bind_some]
     by_cases h:x.fX≤c[k].fX
     ·have e:ptE (c.take (k + 1)) x=9:=by unfold ptE;rw[if_neg (by simp[hx]),if_neg (by simp[hy]),last_take r.get,hq];exact if_pos h
      rw[chk_eq e,if_pos (by simpa using h)]
      rfl
     ·have e:ptE (c.take (k + 1)) x=0:=by unfold ptE;rw[if_neg (by simp[hx]),if_neg (by simp[hy]),last_take r.get,hq];exact if_neg h
      rw[chk_eq e,if_neg (by simpa using h)]
      rfl
   ·have e:ptE (c.take k) x=2:=by unfold ptE;rw[if_neg (by simp[hx]),if_pos (by simpa using hy)]
    rw[chk_eq e,if_pos (by simpa using hy)]
    rfl
  ·have e:ptE (c.take k) x=2:=by unfold ptE;rw[if_pos (by simpa using hx)]
   rw[chk_eq e,if_pos (by simpa using hx)]
   rfl) (by simp only[f111_L1];rw[at_end];rfl),Option.bind_some]
 by_cases h3:firstE (fun k x=>ptE (c.take k) x) 0 c=0
 ·rw[if_pos h3,if_neg (by simpa using h3)]
  exact end_eq h1 h2
 ·rw[if_neg h3,if_pos h3]
def curvesS(l:List (List ApiPoint)):Int:=if 16<l.length then 5 else firstE (fun _ c=>curveS c) 0 l
theorem f131_eq(l:List (List ApiPoint)):f131 l=some (curvesS l):=by
 unfold f131 curvesS
 by_cases h:16<l.length
 ·rw[if_pos (by simp;omega),if_pos h]
 rw[if_neg (by simp;omega),if_neg h]
 refine run_firstE (L:=f131_L1 l) (fun _ c=>curveS c) (by omega) (fun k x r _=>?_) (by simp only[f131_L1];rw[at_end];rfl)
 simp only[f131_L1,f94_eq]
 rw[if_pos r.lt,r.at',Option.bind_some,Option.bind_some,r.nxt]
 by_cases h1:curveS x=0<;>simp[h1]
theorem f70_eq(l:List (List ApiPoint)):f70 l=some (curvesS l):=by
 unfold f70 curvesS
 by_cases h:16<l.length
 ·rw[if_pos (by simp;omega),if_pos h]
 rw[if_neg (by simp;omega),if_neg h]
 refine run_firstE (L:=f70_L1 l) (fun _ c=>curveS c) (by omega) (fun k x r _=>?_) (by simp only[f70_L1];rw[at_end];rfl)
 simp only[f70_L1,f111_eq]
 rw[if_pos r.lt,r.at',Option.bind_some,Option.bind_some,r.nxt]
 by_cases h1:curveS x=0<;>simp[h1]
def nmCs:List UInt8:=[97,98,99,100,101,102,103,104,105,106,107,108,109,110,111,112,113,114,115,116,117,118,119,120,121,122,48,49,50,51,52,53,54,55,56,57,95]
theorem trim_nil(s cs:List UInt8):(Lib.trimS s cs == ([]:List UInt8))=s.all fun b=>cs.contains b:=by
 have hdw:∀ l:List UInt8,l.dropWhile (cs.contains ·)=[]↔∀ b ∈ l,cs.contains b=true:=fun l=>by
  induction l with
  | nil=>simp
  | cons x l ih =>
   rw[List.dropWhile_cons]
   by_cases h:cs.contains x=true
   ·rw[if_pos h,ih]
    simp only[List.mem_cons,forall_eq_or_imp,h,true_and]
   ·rw[if_neg h]
    simp only[List.mem_cons,forall_eq_or_imp,h,false_and,reduceCtorEq]
 have key:Lib.trimS s cs=[]↔∀ b ∈ s,cs.contains b=true:=by
  unfold Lib.trimS Lib.trimLeftS Lib.trimRightS
  rw[hdw]
  constructor
  ·intro h
   have h2:s.reverse.dropWhile (cs.contains ·)=[]:=by
    cases hd:s.reverse.dropWhile (cs.contains ·) with
    | nil=>rfl
    | cons x l =>
     have hx:=h x (by rw[hd];simp)
     have:=List.head?_dropWhile_not (p:=fun b=>cs.contains b) (l:=s.reverse)
     rw[hd] at this
     simp only[List.head?_cons] at this
     rw[hx] at this
     cases this
   intro b hb
   exact (hdw _).1 h2 b (List.mem_reverse.2 hb)
  ·intro h b hb
   exact h b (List.mem_reverse.1 ((List.dropWhile_suffix _).subset (List.mem_reverse.1 hb)))
 by_cases h:∀ b ∈ s,cs.contains b=true
 ·rw[key.2 h,List.all_eq_true.2 h];rfl
 ·have h1:¬ Lib.trimS s cs=[]:=fun e=>h (key.1 e)
  have h2:(s.all fun b=>cs.contains b)=false:=by
   rw[Bool.eq_false_iff]
   intro e
   exact h (List.all_eq_true.1 e)
  rw[h2]
  simpa using h1
theorem cs_badN(b:UInt8):nmCs.contains b = !badN 1 (b.toNat:Int):=by
 have h:∀ n:Fin 256,nmCs.contains (UInt8.ofNat n.1) = !badN 1 ((UInt8.ofNat n.1).toNat:Int):=by decide +kernel
 have:=h ⟨b.toNat,b.toNat_lt⟩
 simpa using this
theorem nmW_tail:∀ (s:List UInt8) (k:Nat),walkL (fun k (_:Unit) (x:UInt8)=>if badN k (x.toNat:Int)=true then .inr (.inr ()) else .inl ()) (fun _=>(.inl ():Unit⊕Unit)) (k + 1) () s=if (s.all fun b => !badN 1 (b.toNat:Int))=true then .inl () else .inr ()
 | [],_=>rfl
 | b::s,k=>by
  have hb:badN (k + 1) (b.toNat:Int)=badN 1 (b.toNat:Int):=by unfold badN;simp
  simp only[walkL,hb,List.all_cons]
  by_cases h:badN 1 (b.toNat:Int)=true
  ·simp[h]
  ·have h':badN 1 (b.toNat:Int)=false:=by simpa using h
   simp only[h',Bool.false_eq_true,if_false,Bool.not_false,Bool.true_and]
   exact nmW_tail s (k + 1)
theorem nmW_cons(b:UInt8)(s:List UInt8):nmW (b::s)=if badN 0 (b.toNat:Int)=true then .inr () else if (s.all fun b => !badN 1 (b.toNat:Int))=true then .inl () else .inr ():=by
 unfold nmW
 simp only[walkL]
 by_cases h:badN 0 (b.toNat:Int)=true
 ·simp[h]
 ·have h':badN 0 (b.toNat:Int)=false:=by simpa using h
  simp only[h',Bool.false_eq_true,if_false]
  exact nmW_tail s 0
theorem f134_eq{s:List UInt8}(hl:s.length≤140737488355328):f134 s=some (nameS s):=by
 unfold f134
 cases s with
 | nil=>rfl
 | cons b s =>
  have ht:f184 (b::s) nmCs=some (Lib.trimS (b::s) nmCs):=by
   unfold f184 trim?
   exact if_pos ⟨by omega,by decide,by decide,by decide⟩
  have h0:at? (b::s) 0=some b:=rfl
  rw[if_neg (by simp),h0]
  simp only[Option.bind_some]
  show (if _ then _ else if _ then _ else if _ then _ else (f184 (b::s) nmCs).bind _)=_
  rw[ht,Option.bind_some,trim_nil]
  have hcs:((b::s).all fun c=>nmCs.contains c)=((b::s).all fun c => !badN 1 (c.toNat:Int)):=by
   congr 1
   funext c
   exact cs_badN c
  rw[hcs]
  unfold nameS
  rw[nmW_cons]
  by_cases h1:(24:Int)<(((b::s).length:Nat):Int)
  ·rw[if_pos (by simpa using h1)]
   by_cases hb:badN 0 (b.toNat:Int)=true
   ·simp[hb]
   ·simp only[hb,Bool.false_eq_true,if_false]
    by_cases ha:(s.all fun c => !badN 1 (c.toNat:Int))=true
    ·simp only[ha,if_true]
     congr 1
     symm
     simp only[decide_eq_false_iff_not]
     omega
    ·simp[ha]
  ·rw[if_neg (by simpa using h1)]
   have hb0:badN 0 (b.toNat:Int) = !decide (97≤(b.toNat:Int)∧(b.toNat:Int)≤122):=by unfold badN;simp
   by_cases h2:(b.toNat:Int)<97
   ·have hd:decide (97≤(b.toNat:Int)∧(b.toNat:Int)≤122)=false:=by simp only[decide_eq_false_iff_not];omega
    rw[if_pos (by simpa using h2),hb0,hd]
    rfl
   ·rw[if_neg (by simpa using h2)]
    by_cases h3:122<(b.toNat:Int)
    ·have hd:decide (97≤(b.toNat:Int)∧(b.toNat:Int)≤122)=false:=by simp only[decide_eq_false_iff_not];omega
     rw[if_pos (by simpa using h3),hb0,hd]
     rfl
    ·rw[if_neg (by simpa using h3)]
     have hd:decide (97≤(b.toNat:Int)∧(b.toNat:Int)≤122)=true:=by simp;omega
     have hb1:badN 1 (b.toNat:Int)=false:=by
      unfold badN
      rw[hd]
      rfl
     rw[hb0,hd,List.all_cons,hb1]
     simp only[Bool.not_true,Bool.false_eq_true,if_false,Bool.not_false,Bool.true_and]
     by_cases ha:(s.all fun c => !badN 1 (c.toNat:Int))=true
     ·simp only[ha,if_true]
      congr 1
      symm
      simp only[decide_eq_true_eq]
      exact ⟨by simp,by omega⟩
     ·simp[ha]
end Go.Proofs.YtnaemmpcffnbkaaGreatDoor
