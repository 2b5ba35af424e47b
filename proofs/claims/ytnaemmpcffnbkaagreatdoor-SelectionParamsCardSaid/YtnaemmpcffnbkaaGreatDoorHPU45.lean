import Derived.Test.YtnaemmpcffnbkaaGreatDoorHPU3
namespace Go.Proofs.YtnaemmpcffnbkaaGreatDoor
open Go Go.Ab
set_option linter.unusedSimpArgs false
set_option linter.unusedVariables false
set_option maxRecDepth 4000
def slE(seen:List ApiSlot)(x:ApiSlot):Int:=if nameS x.fName=false then 8 else if (seen.any fun y=>decide (y.fName=x.fName))=true then 7 else if isLv x.fFrom=false∨isLv x.fTo=false∨x.fTo<x.fFrom then 2 else match seen.getLast? with
 | some q=>if x.fFrom≤q.fTo then 9 else 0
 | none=>0
def wheelS(l:List ApiSlot):Int:=if 16<l.length then 5 else firstE (fun k x=>slE (l.take k) x) 0 l
def FitW(l:List ApiSlot):Prop:=∀ x ∈ l,x.fName.length≤140737488355328
theorem find_any{τ : Type}{L:Lp Int (Unit⊕Int)}{xs:List τ}(p : τ → Bool)(hl:xs.length≤9223372036854775807)
  (hs:∀ (k:Nat) x,Rnd xs k x→L.body (k:Int)=some (if p x=true then .brk (.inr (k:Int)) else .next ((k + 1:Nat):Int))) (he:L.body ((xs.length:Nat):Int)=some (.brk (.inl ()))) :
  ((L.run 0).bind (fun r_=>match r_ with | (Sum.inl _)=>some (-1) | (Sum.inr v)=>some v)).bind (fun i=>some (decide (0≤i)))=some (xs.any p):=by
 refine (congrArg (fun o:Option Int=>o.bind fun i=>some (decide (0≤i))) (run_findi p hl hs he)).trans ?_
 rw[Option.bind_some,fstI_nonneg]
theorem f258_eq{s:List ApiSlot}{n:List UInt8}(a b:Int)(hl:s.length≤1000000):f258_259 s n a b=some (s.any fun y=>decide (y.fName=n)):=by
 unfold f258_259 f269_259
 exact find_any (xs:=s) (fun y:ApiSlot=>decide (y.fName=n)) (by omega) (fun k x r=>by
  simp only[f269_259_L1,f259p]
  rw[if_pos r.lt,r.at',Option.bind_some,Option.bind_some,r.nxt]
  by_cases h:x.fName=n<;>simp[h]) (by simp only[f269_259_L1];rw[at_end];rfl)
theorem f260_eq(n:List UInt8)(a b:Int):f260p n a b=some (decide (isLv a=false∨isLv b=false∨b<a)):=by
 unfold f260p
 rw[f242_eq,f242_eq,Option.bind_some]
 by_cases h1:isLv a=true<;>by_cases h2:isLv b=true<;>by_cases h3:b<a<;>simp[h1,h2,h3]
theorem f244_C2_eq{l:List ApiSlot}{k:Nat}{x:ApiSlot}(hx:l[k]? = some x)(hl:l.length≤16)(hw:FitW l):(f244_C2 x l (k:Int)).run=some (slE (l.take k) x):=by
 have hk:=getElem?_lt hx
 simp only[f244_C2,f256p,f257p,f261p]
 rw[f134_eq (hw x (getElem?_mem hx)),slc_some (by omega)]
 simp only[Option.bind_some,Int.toNat_natCast,Int.toNat_zero,List.drop_zero]
 rw[f258_eq _ _ (by simp;omega),f260_eq]
 simp only[Option.bind_some]
 unfold slE
 by_cases h1:nameS x.fName=true
 ·rw[if_neg (show ¬ (!nameS x.fName)=true by simp[h1]),if_neg (show ¬ nameS x.fName=false by simp[h1])]
  by_cases h2:((l.take k).any fun y=>decide (y.fName=x.fName))=true
  ·rw[if_pos h2,if_pos h2]
  ·rw[if_neg h2,if_neg h2]
   by_cases h3:isLv x.fFrom=false∨isLv x.fTo=false∨x.fTo<x.fFrom
   ·rw[if_pos (by simpa using h3),if_pos h3]
   ·rw[if_neg (by simpa using h3),if_neg h3]
    cases k with
    | zero=>simp
    | succ k =>
     have hq:l[k]? = some (l[k]'(by omega)):=List.getElem?_eq_getElem _
     rw[if_pos (by simp only[decide_eq_true_eq];omega),w64 (by omega) (by omega),show ((k + 1:Nat):Int) - 1=(k:Int) by omega,at_nat hq,last_take hx,hq]
     simp only[Option.bind_some]
     by_cases h:x.fFrom≤l[k].fTo<;>simp[h]
 ·rw[if_pos (show (!nameS x.fName)=true by simpa using h1),if_pos (show nameS x.fName=false by simpa using h1)]
theorem f244_eq{l:List ApiSlot}(hw:FitW l):f244 l=some (wheelS l):=by
 unfold f244 wheelS
 by_cases h:16<l.length
 ·rw[if_pos (by simp;omega),if_pos h]
 rw[if_neg (by simp;omega),if_neg h]
 refine run_firstE (L:=f244_L1 l) (fun k x=>slE (l.take k) x) (by omega) (fun k x r _=>?_) (by simp only[f244_L1];rw[at_end];rfl)
 simp only[f244_L1]
 rw[if_pos r.lt,r.at',Option.bind_some,f244_C2_eq r.get (by omega) hw,Option.bind_some,r.nxt]
 by_cases h1:slE (l.take k) x=0<;>simp[h1]
theorem f235_L2_eq{l:List ApiSlot}{k:Nat}{x:ApiSlot}(hx:l[k]? = some x)(hl:l.length≤16):Lp.run (f235_L2 (k:Int) l) 0=some (if ((l.take k).any fun y=>decide (y.fName=x.fName))=true then .inr () else .inl ()):=by
 have hk:=getElem?_lt hx
 have hlen:(l.take k).length=k:=by rw[List.length_take];omega
 refine run_any (xs:=l.take k) (fun y=>decide (y.fName=x.fName)) (by omega) (fun j y r=>?_) ?_
 ·have hj:=r.klt
  have hy:l[j]? = some y:=by
   have:=r.get
   rw[List.getElem?_take,if_pos (by omega)] at this
   exact this
  simp only[f235_L2]
  rw[if_pos (by simp only[decide_eq_true_eq];omega),at_nat hy,at_nat hx,Option.bind_some,Option.bind_some,r.nxt]
  by_cases h:y.fName=x.fName<;>simp[h]
 ·simp only[f235_L2]
  rw[hlen,if_neg (by simp)]
theorem f235_eq{l:List ApiSlot}(hw:FitW l):f235 l=some (wheelS l):=by
 unfold f235 wheelS
 by_cases h:16<l.length
 ·rw[if_pos (by simp;omega),if_pos h]
 rw[if_neg (by simp;omega),if_neg h]
 refine run_firstE (L:=f235_L1 l) (fun k x=>slE (l.take k) x) (by omega) (fun k x r _=>?_) (by simp only[f235_L1];rw[at_end];rfl)
 have hk:=r.klt
 simp only[f235_L1]
 rw[if_pos r.lt,r.at',Option.bind_some,f112_eq (hw x r.mem),Option.bind_some,f235_L2_eq r.get (by omega),r.nxt]
 by_cases h1:nameS x.fName=true
 ·rw[if_neg (by simp[h1])]
  by_cases h2:((l.take k).any fun y=>decide (y.fName=x.fName))=true
  ·have e:slE (l.take k) x=7:=by unfold slE;rw[if_neg (by simp[h1]),if_pos h2]
   rw[chk_eq e,if_pos h2]
   rfl
  ·rw[if_neg h2]
   simp only[Option.bind_some,f167_eq]
   by_cases h3:isLv x.fFrom=true
   ·rw[if_neg (by simp[h3])]
    by_cases h4:isLv x.fTo=true
    ·rw[if_neg (by simp[h4])]
     by_cases h5:x.fTo<x.fFrom
     ·have e:slE (l.take k) x=2:=by unfold slE;rw[if_neg (by simp[h1]),if_neg h2,if_pos (.inr (.inr h5))]
      rw[chk_eq e,if_pos (by simpa using h5)]
      rfl
     ·rw[if_neg (by simpa using h5)]
      have hn:¬ (isLv x.fFrom=false∨isLv x.fTo=false∨x.fTo<x.fFrom):=by simp[h3,h4,h5]
      cases k with
      | zero =>
       have e:slE (l.take 0) x=0:=by unfold slE;rw[if_neg (by simp[h1]),if_neg h2,if_neg hn];rfl
       rw[chk_eq e,if_neg (by simp)]
       try rfl
      | succ k =>
       have hq:l[k]? = some (l[k]'(by omega)):=List.getElem?_eq_getElem _
       rw[if_pos (by simp only[decide_eq_true_eq];omega),w64 (by omega) (by omega),show ((k + 1:Nat):Int) - 1=(k:Int) by omega,at_nat hq,Option.bind_some]
       by_cases h6:x.fFrom≤l[k].fTo
       ·have e:slE (l.take (k + 1)) x=9:=by unfold slE;rw[if_neg (by simp[h1]),if_neg h2,if_neg hn,last_take r.get,hq];exact if_pos h6
        rw[chk_eq e,if_pos (by simpa using h6)]
        rfl
       ·have e:slE (l.take (k + 1)) x=0:=by unfold slE;rw[if_neg (by simp[h1]),if_neg h2,if_neg hn,last_take r.get,hq];exact if_neg h6
        rw[chk_eq e,if_neg (by simpa using h6)]
        rfl
    ·have e:slE (l.take k) x=2:=by unfold slE;rw[if_neg (by simp[h1]),if_neg h2,if_pos (.inr (.inl (by simpa using h4)))]
     rw[chk_eq e,if_pos (by simpa using h4)]
     rfl
   ·have e:slE (l.take k) x=2:=by unfold slE;rw[if_neg (by simp[h1]),if_neg h2,if_pos (.inl (by simpa using h3))]
    rw[chk_eq e,if_pos (by simpa using h3)]
    rfl
 ·have e:slE (l.take k) x=8:=by unfold slE;rw[if_pos (by simpa using h1)]
  rw[chk_eq e,if_pos (by simpa using h1)]
  rfl
def topS(b:Int):Int:=if b=8 then 255 else 65535
def insS(f:ApiFeature):Int:=if isLv f.fHome=false∨f.fLow<0∨f.fHigh<f.fLow∨topS f.fBits<f.fHigh then 2 else wheelS f.fWheel
def innS(f:ApiFeature)(n:Int):Int:=if f.fCurve<0∨n<f.fCurve then 6 else insS f
theorem f227_eq{f:ApiFeature}(hb:f.fBits=8∨f.fBits=16)(hw:FitW f.fWheel):f227 f=some (insS f):=by
 have h2:(must? (0≤f.fBits)).bind (fun _=>some (decide ((IntKind.i64.wrap ((IntKind.i64.wrap (1 * 2 ^ (min (Int.toNat f.fBits) (IntKind.bits .i64)))) - 1))<f.fHigh)))=some (decide (topS f.fBits<f.fHigh)):=by
  rw[must_some (by omega),Option.bind_some]
  congr 3
  rcases hb with hb | hb<;>rw[hb]<;>decide
 have hC:(f227_C1 f).run=some (if isLv f.fHome=false∨f.fLow<0∨f.fHigh<f.fLow∨topS f.fBits<f.fHigh then 2 else 0):=by
  simp only[f227_C1,f241p,f243p,f242_eq,h2,Option.bind_some]
  by_cases a1:isLv f.fHome=true<;>by_cases a2:f.fLow<0<;>by_cases a3:f.fHigh<f.fLow<;>by_cases a4:topS f.fBits<f.fHigh<;>simp[a1,a2,a3,a4]
 unfold f227 insS
 rw[hC,Option.bind_some]
 by_cases h:isLv f.fHome=false∨f.fLow<0∨f.fHigh<f.fLow∨topS f.fBits<f.fHigh
 ·rw[if_pos h,if_pos h]
  rfl
 ·rw[if_neg h,if_neg h,if_neg (by simp),f244_eq hw]
  rfl
theorem f197_eq{f:ApiFeature}(n:Int)(hb:f.fBits=8∨f.fBits=16)(hw:FitW f.fWheel):f197 f n=some (innS f n):=by
 unfold f197 innS
 rw[f227_eq hb hw]
 by_cases h1:f.fCurve<0
 ·simp[h1]
 ·by_cases h2:n<f.fCurve<;>simp[h1,h2]
theorem f216_eq{f:ApiFeature}(hw:FitW f.fWheel):f216 f=some (insS f):=by
 have h2:f234 f.fBits=some (topS f.fBits):=by unfold f234 topS;by_cases h:f.fBits=8<;>simp[h]
 unfold f216 insS
 rw[f167_eq,h2,f235_eq hw]
 simp only[Option.bind_some]
 by_cases a1:isLv f.fHome=true<;>by_cases a2:f.fLow<0<;>by_cases a3:f.fHigh<f.fLow<;>by_cases a4:topS f.fBits<f.fHigh<;>simp[a1,a2,a3,a4]
theorem f170_eq{f:ApiFeature}(n:Int)(hw:FitW f.fWheel):f170 f n=some (innS f n):=by
 unfold f170 innS
 rw[f216_eq hw]
 by_cases h1:f.fCurve<0
 ·simp[h1]
 ·by_cases h2:n<f.fCurve<;>simp[h1,h2]
def offs(f:ApiFeature):List Int:=if f.fBits=16 then [f.fCoarse,f.fFine] else [f.fCoarse]
def usedO(seen:List ApiFeature)(a:Int):Bool:=seen.any fun g=>decide (a ∈ offs g)
def featE(foot n:Int)(seen:List ApiFeature)(f:ApiFeature):Int :=
 if f.fAttr<0∨15≤f.fAttr then 1 else if (seen.any fun g=>decide (g.fAttr=f.fAttr))=true then 7 else if f.fBits≠8∧f.fBits≠16 then 1
 else if ((offs f).any fun a=>decide (a<0∨foot≤a))=true then 2 else if f.fBits=8∧f.fFine≠0 then 3 else if ((offs f).any fun a=>usedO seen a)=true then 11
 else if f.fBits=16∧f.fFine=f.fCoarse then 11 else innS f n
theorem offs_len(f:ApiFeature):(offs f).length≤2:=by unfold offs;split<;>simp
theorem f191_eq(f:ApiFeature):f191 f=some (offs f):=by
 unfold f191 offs
 by_cases h:f.fBits=16<;>simp[h]
theorem f190_192_eq{s:List Int}(nm:List UInt8)(foot w:Int)(fs:List ApiFeature)(hl:s.length≤1000000):f190_192 s nm foot w fs=some (s.any fun a=>decide (a<0∨foot≤a)):=by
 unfold f190_192 f90_192
 exact find_any (xs:=s) (fun a:Int=>decide (a<0∨foot≤a)) (by omega) (fun k x r=>by
  simp only[f90_192_L1,f192p]
  rw[if_pos r.lt,r.at',Option.bind_some,r.nxt]
  by_cases h:x<0
  ·simp[h]
  ·by_cases h2:foot≤x<;>simp[h,h2]) (by simp only[f90_192_L1];rw[at_end];rfl)
theorem f190_195_eq{s:List Int}{m:List (Int×Bool)}{p:Int→Bool}(hm:∀ a,(mget m a).getD false=p a)(hl:s.length≤1000000):f190_195 s m=some (s.any p):=by
 unfold f190_195 f90_195
 exact find_any (xs:=s) p (by omega) (fun k x r=>by
  simp only[f90_195_L1,f195p,look?,hm]
  rw[if_pos r.lt,r.at',Option.bind_some,Option.bind_some,r.nxt]
  by_cases h:p x=true<;>simp[h]) (by simp only[f90_195_L1];rw[at_end];rfl)
theorem f138_C2_eq{f:ApiFeature}{at' us:List (Int×Bool)}{p:ApiProfile}{seen:List ApiFeature}(h1:∀ a,(mget at' a).getD false=seen.any fun g=>decide (g.fAttr=a))(h2:∀ a,(mget us a).getD false=usedO seen a) :
  ∃ E,(f138_C2 f at' p us).run=some E∧(∀ n,featE p.fFootprint n seen f=if E≠0 then E else innS f n)∧(E=0→f.fBits=8∨f.fBits=16):=by
 obtain ⟨ff1,ff2,ff3,ff4,ff5,ff6,ff7,ff8,ff9,ff10⟩:=f
 have ho:=offs_len ⟨ff1,ff2,ff3,ff4,ff5,ff6,ff7,ff8,ff9,ff10⟩
 refine ⟨if ff1<0∨15≤ff1 then 1 else if (seen.any fun g=>decide (g.fAttr=ff1))=true then 7 else if ff2≠8∧ff2≠16 then 1
 else if ((offs ⟨ff1,ff2,ff3,ff4,ff5,ff6,ff7,ff8,ff9,ff10⟩).any fun a=>decide (a<0∨p.fFootprint≤a))=true then 2 else if ff2=8∧ff4≠0 then 3 else if ((offs ⟨ff1,ff2,ff3,ff4,ff5,ff6,ff7,ff8,ff9,ff10⟩).any fun a=>usedO seen a)=true then 11
 else if ff2=16∧ff4=ff3 then 11 else 0,?_,fun n=>?_,fun h=>?_⟩
 ·simp only[f138_C2,f185p,f186p,f187p,f188,f189p,f193p,f194p,f196p,f191_eq,Option.bind_some,look?,h1]
  rw[f190_192_eq _ _ _ _ (by omega),f190_195_eq h2 (by omega)]
  simp only[Option.bind_some]
  generalize ((offs ⟨ff1,ff2,ff3,ff4,ff5,ff6,ff7,ff8,ff9,ff10⟩).any fun a=>decide (a<0∨p.fFootprint≤a))=B1
  generalize ((offs ⟨ff1,ff2,ff3,ff4,ff5,ff6,ff7,ff8,ff9,ff10⟩).any fun a=>usedO seen a)=B2
  generalize (seen.any fun g=>decide (g.fAttr=ff1))=B3
  by_cases a1:ff1<0
  ·simp[a1]
  ·by_cases a2:15≤ff1
   ·simp[a1,a2]
   ·cases B3
    ·by_cases a3:ff2=8
     ·cases B1
      ·by_cases a4:ff4=0
       ·cases B2<;>simp[a1,a2,a3,a4]
       ·simp[a1,a2,a3,a4]
      ·simp[a1,a2,a3]
     ·by_cases a5:ff2=16
      ·cases B1
       ·cases B2
        ·by_cases a6:ff4=ff3<;>simp[a1,a2,a5,a6]
        ·simp[a1,a2,a5]
       ·simp[a1,a2,a5]
      ·simp[a1,a2,a3,a5]
    ·simp[a1,a2]
 ·unfold featE
  dsimp only
  repeat' split
  all_goals first | rfl | simp_all
 ·by_cases hb:ff2=8∨ff2=16
  ·exact hb
  ·exfalso
   have hbb:ff2≠8∧ff2≠16:=by omega
   split at h
   ·omega
   ·split at h
    ·omega
    ·first
     | omega
     | (rw[if_pos hbb] at h;omega)
theorem walk_firstS{τ A:Type}(e:Nat → τ → Int)(nx:Nat→A → τ → A):∀ (xs:List τ) (k:Nat) (a:A),walkL (fun k a x=>if e k x≠0 then .inr (.inr (e k x)) else .inl (nx k a x)) (fun _=>(.inl ():Unit⊕Int)) k a xs=if firstE e k xs=0 then .inl () else .inr (firstE e k xs)
 | [],k,a=>by simp[walkL,firstE]
 | x::xs,k,a=>by
  unfold walkL firstE
  by_cases h:e k x≠0
  ·simp only[if_pos h];rw[if_neg h]
  ·simp only[if_neg h];exact walk_firstS e nx xs (k + 1) _
theorem walk_fold{τ A:Type}(g:A → τ → A):∀ (ys:List τ) (k:Nat) (acc:A),walkL (fun _ a c=>.inl (g a c)) (fun a=>a) k acc ys=ys.foldl g acc
 | [],_,_=>rfl
 | y::ys,k,acc=>by simp only[walkL,List.foldl_cons];exact walk_fold g ys (k + 1) _
theorem mget_fold2(a:Int):∀ (os:List Int) (m:List (Int×Bool)),(mget (os.foldl (fun m c=>mset m c true) m) a).getD false=(decide (a ∈ os) || (mget m a).getD false)
 | [],m=>by simp
 | o::os,m=>by
  rw[List.foldl_cons,mget_fold2 a os,mget_mset]
  by_cases h:a=o<;>by_cases h2:a ∈ os<;>simp[h,h2]
theorem f138_L3_eq{os:List Int}{v n:Int}{p:ApiProfile}{m us:List (Int×Bool)}{x:ApiFeature}(hl:os.length≤1000000):Lp.run (f138_L3 os v p n m x) (0,us)=some (os.foldl (fun m c=>mset m c true) us):=by
 have hrun:=run_walk (L:=f138_L3 os v p n m x) os (fun k (a:List (Int×Bool))=>((k:Int),a)) (fun _ a c=>.inl (mset a c true)) (fun a=>a) (fun _ _=>True) (fun k a c hc _=>by
   have hk:=getElem?_lt hc
   refine ⟨?_,fun _ _=>trivial⟩
   simp only[f138_L3]
   rw[if_pos (at_lt hc),at_nat hc,Option.bind_some,w64_succ (by omega)]
   rfl)
  (fun a _=>by simp only[f138_L3];rw[at_end];rfl) us trivial
 rw[show ((0,us):Int×List (Int×Bool))=(((0:Nat):Int),us) from rfl,hrun,walk_fold]
def FitF(fs:List ApiFeature):Prop:=∀ f ∈ fs,FitW f.fWheel
theorem any_succ{τ : Type}{xs:List τ}{k:Nat}{x : τ}(h:xs[k]? = some x)(q : τ → Bool):(xs.take (k + 1)).any q=((xs.take k).any q || q x):=by
 rw[List.take_add_one,h,List.any_append]
 simp
theorem f138_eq{p:ApiProfile}(n:Int)(hl:p.fFeatures.length≤16)(hw:FitF p.fFeatures):f138 p n=some (firstE (fun k f=>featE p.fFootprint n (p.fFeatures.take k) f) 0 p.fFeatures):=by
 unfold f138
 have hrun:=run_walk (L:=f138_L1 p n) p.fFeatures (fun k (a:List (Int×Bool)×List (Int×Bool))=>((k:Int),a.1,a.2)) (fun k a f=>if featE p.fFootprint n (p.fFeatures.take k) f≠0 then .inr (.inr (featE p.fFootprint n (p.fFeatures.take k) f)) else .inl ((offs f).foldl (fun m c=>mset m c true) a.1,mset a.2 f.fAttr true)) (fun _=>(.inl ():Unit⊕Int))
  (fun k a=>(∀ c,(mget a.2 c).getD false=(p.fFeatures.take k).any fun g=>decide (g.fAttr=c))∧∀ c,(mget a.1 c).getD false=usedO (p.fFeatures.take k) c) (fun k a f hf hI=>by
   have hk:=getElem?_lt hf
   obtain ⟨i1,i2⟩:=hI
   obtain ⟨E,hE,hfe,hfb⟩:=f138_C2_eq (f:=f) (p:=p) i1 i2
   refine ⟨?_,fun a' ha'=>?_⟩
   ·simp only[f138_L1]
    rw[if_pos (at_lt hf),at_nat hf,Option.bind_some,hE,Option.bind_some,w64_succ (by omega)]
    by_cases h0:E=0
    ·rw[if_neg (by simpa using h0)]
     have hb:=hfb h0
     have e:featE p.fFootprint n (p.fFeatures.take k) f=innS f n:=by rw[hfe,if_neg (by simpa using h0)]
     rw[f197_eq n hb (hw f (getElem?_mem hf)),Option.bind_some,e]
     by_cases h5:innS f n=0
     ·rw[if_neg (by simpa using h5),if_neg (by simpa using h5),f191_eq,Option.bind_some,f138_L3_eq (by have:=offs_len f;omega)]
      rfl
     ·rw[if_pos (by simpa using h5),if_pos h5]
      rfl
    ·have e:featE p.fFootprint n (p.fFeatures.take k) f=E:=by rw[hfe,if_pos h0]
     rw[if_pos (by simpa using h0),e,if_pos h0]
     rfl
   ·by_cases h:featE p.fFootprint n (p.fFeatures.take k) f≠0
    ·rw[if_pos h] at ha';cases ha'
    ·rw[if_neg h] at ha'
     injection ha' with ha'
     subst ha'
     refine ⟨fun c=>?_,fun c=>?_⟩
     ·rw[any_succ hf,mget_mset,← i1 c]
      by_cases hc:c=f.fAttr
      ·simp[hc]
      ·have:¬ f.fAttr=c:=fun h=>hc h.symm
       simp[hc,this]
     ·dsimp only
      rw[mget_fold2,i2 c]
      unfold usedO
      rw[any_succ hf,Bool.or_comm])
  (fun a _=>by simp only[f138_L1];rw[at_end];rfl) ([],[]) ⟨fun c=>rfl,fun c=>rfl⟩
 rw[show ((0,[],[]):Int×List (Int×Bool)×List (Int×Bool))=(((0:Nat):Int),[],[]) from rfl,hrun,walk_firstS,Option.bind_some]
 by_cases h:firstE (fun k f=>featE p.fFootprint n (p.fFeatures.take k) f) 0 p.fFeatures=0
 ·rw[if_pos h,h]
 ·rw[if_neg h]
def profE(cs:List (List ApiPoint))(p:ApiProfile):Int:=if curvesS cs≠0 then curvesS cs else if nameS p.fName=false then 8 else if p.fFootprint<1∨512<p.fFootprint then 2 else if p.fWatts<0∨1048576<p.fWatts then 2 else if 16<p.fFeatures.length then 5
 else firstE (fun k f=>featE p.fFootprint cs.length (p.fFeatures.take k) f) 0 p.fFeatures
def FitP(p:ApiProfile):Prop:=p.fName.length≤140737488355328∧FitF p.fFeatures
theorem f95_eq{p:ApiProfile}(cs:List (List ApiPoint))(hf:FitP p):f95 p cs=some (profE cs p):=by
 unfold f95 profE
 rw[f131_eq,Option.bind_some]
 by_cases h0:curvesS cs=0
 ·rw[if_neg (by simpa using h0),if_neg (nn h0)]
  have hC:(f95_C1 p).run=some (if nameS p.fName=false then 8 else if p.fFootprint<1∨512<p.fFootprint then 2 else if p.fWatts<0∨1048576<p.fWatts then 2 else if 16<p.fFeatures.length then 5 else 0):=by
   simp only[f95_C1,f133p,f135p,f136p,f137p]
   rw[f134_eq hf.1]
   simp only[Option.bind_some]
   by_cases a1:nameS p.fName=true
   ·by_cases a2:p.fFootprint<1
    ·simp[a1,a2]
    ·by_cases a3:512<p.fFootprint
     ·simp[a1,a2,a3]
     ·by_cases a4:p.fWatts<0
      ·simp[a1,a2,a3,a4]
      ·by_cases a5:1048576<p.fWatts
       ·simp[a1,a2,a3,a4,a5]
       ·by_cases a6:16<p.fFeatures.length
        ·have:(16:Int)<(p.fFeatures.length:Int):=by omega
         simp[a1,a2,a3,a4,a5,a6,this]
        ·have:¬ (16:Int)<(p.fFeatures.length:Int):=by omega
         simp[a1,a2,a3,a4,a5,a6,this]
   ·simp[a1]
  rw[hC,Option.bind_some]
  by_cases a1:nameS p.fName=false
  ·rw[if_pos a1,if_pos a1];rfl
  ·rw[if_neg a1,if_neg a1]
   by_cases a2:p.fFootprint<1∨512<p.fFootprint
   ·rw[if_pos a2,if_pos a2];rfl
   ·rw[if_neg a2,if_neg a2]
    by_cases a3:p.fWatts<0∨1048576<p.fWatts
    ·rw[if_pos a3,if_pos a3];rfl
    ·rw[if_neg a3,if_neg a3]
     by_cases a4:16<p.fFeatures.length
     ·rw[if_pos a4,if_pos a4];rfl
     ·rw[if_neg a4,if_neg a4,if_neg (by simp),f138_eq _ (by omega) hf.2]
      rfl
 ·rw[if_pos (by simpa using h0),if_pos h0]
theorem f168_eq{l:List ApiFeature}(a:Int)(hl:l.length≤1000000):f168 l a=some (fstI (fun g=>decide (g.fAttr=a)) l):=by
 unfold f168
 exact run_findi (xs:=l) (fun g:ApiFeature=>decide (g.fAttr=a)) (by omega) (fun k x r=>by
  simp only[f168_L1]
  rw[if_pos r.lt,r.at',Option.bind_some,r.nxt]
  by_cases h:x.fAttr=a<;>simp[h]) (by simp only[f168_L1];rw[at_end];rfl)
theorem offs_mem(x:ApiFeature)(a:Int):decide (a ∈ offs x)=(decide (x.fCoarse=a) || (decide (x.fBits=16) && decide (x.fFine=a))):=by
 rw[Bool.eq_iff_iff]
 simp only[decide_eq_true_eq,Bool.or_eq_true,Bool.and_eq_true]
 unfold offs
 by_cases h2:x.fBits=16
 ·rw[if_pos h2]
  simp only[List.mem_cons,List.not_mem_nil,or_false,h2,true_and]
  exact ⟨fun h=>h.imp Eq.symm Eq.symm,fun h=>h.imp Eq.symm Eq.symm⟩
 ·rw[if_neg h2]
  simp only[List.mem_cons,List.not_mem_nil,or_false,h2,false_and]
  exact ⟨Eq.symm,Eq.symm⟩
theorem f169_eq{l:List ApiFeature}(a:Int)(hl:l.length≤1000000):f169 l a=some (usedO l a):=by
 unfold f169 usedO
 rw[run_any (xs:=l) (fun g:ApiFeature=>decide (a ∈ offs g)) (by omega) (fun k x r=>by
  simp only[f169_L1]
  rw[if_pos r.lt,r.at',Option.bind_some,r.nxt]
  rw[offs_mem]
  by_cases h1:x.fCoarse=a<;>by_cases h2:x.fBits=16<;>by_cases h3:x.fFine=a<;>simp[h1,h2,h3]) (by simp only[f169_L1];rw[at_end];rfl),Option.bind_some]
 cases l.any fun g=>decide (a ∈ offs g)<;>rfl
theorem f113_eq{p:ApiProfile}{k:Nat}{f:ApiFeature}(n:Int)(hf:p.fFeatures[k]? = some f)(hl:p.fFeatures.length≤16)(hw:FitF p.fFeatures):f113 p (k:Int) n=some (featE p.fFootprint n (p.fFeatures.take k) f):=by
 have hk:=getElem?_lt hf
 have hwf:=hw f (getElem?_mem hf)
 unfold f113
 rw[at_nat hf,Option.bind_some,slc_some (by omega),Option.bind_some]
 simp only[Int.toNat_natCast,Int.toNat_zero,List.drop_zero]
 generalize hs:p.fFeatures.take k=seen
 have hsl:seen.length≤1000000:=by rw[← hs,List.length_take];omega
 obtain ⟨ff1,ff2,ff3,ff4,ff5,ff6,ff7,ff8,ff9,ff10⟩:=f
 dsimp only
 have h4:(f113_J4 seen ff3 ff2 ff4 ff1 ff5 ff6 ff7 ff8 ff9 ff10 n).run ()=some (if ((offs ⟨ff1,ff2,ff3,ff4,ff5,ff6,ff7,ff8,ff9,ff10⟩).any fun a=>usedO seen a)=true then 11 else if ff2=16∧ff4=ff3 then 11 else innS ⟨ff1,ff2,ff3,ff4,ff5,ff6,ff7,ff8,ff9,ff10⟩ n):=by
  simp only[f113_J4]
  rw[f169_eq _ hsl,f169_eq _ hsl,f170_eq n hwf]
  simp only[Option.bind_some]
  unfold offs
  by_cases a1:ff2=16
  ·cases b1:usedO seen ff3
   ·cases b2:usedO seen ff4
    ·by_cases a2:ff4=ff3
     ·subst a2;simp[a1,b1]
     ·simp[a1,b1,b2,a2]
    ·simp[a1,b1,b2]
   ·simp[a1,b1]
  ·cases b1:usedO seen ff3<;>simp[a1,b1]
 have h3:(f113_J3 ff2 ff4 seen ff3 ff1 ff5 ff6 ff7 ff8 ff9 ff10 n).run ()=some (if ff2=8∧ff4≠0 then 3 else if ((offs ⟨ff1,ff2,ff3,ff4,ff5,ff6,ff7,ff8,ff9,ff10⟩).any fun a=>usedO seen a)=true then 11 else if ff2=16∧ff4=ff3 then 11 else innS ⟨ff1,ff2,ff3,ff4,ff5,ff6,ff7,ff8,ff9,ff10⟩ n):=by
  simp only[f113_J3]
  rw[h4]
  by_cases a1:ff2=8
  ·by_cases a2:ff4=0
   ·rw[if_pos (by simpa using a1),if_neg (by simpa using a2),if_neg (show ¬ (ff2=8∧ff4≠0) by omega)]
   ·rw[if_pos (by simpa using a1),if_pos (by simpa using a2),if_pos ⟨a1,a2⟩]
  ·rw[if_neg (by simpa using a1),if_neg (show ¬ (ff2=8∧ff4≠0) by omega)]
 have h2:(f113_J2 ff3 p ff2 ff4 seen ff1 ff5 ff6 ff7 ff8 ff9 ff10 n).run ()=some (if ((offs ⟨ff1,ff2,ff3,ff4,ff5,ff6,ff7,ff8,ff9,ff10⟩).any fun a=>decide (a<0∨p.fFootprint≤a))=true then 2 else if ff2=8∧ff4≠0 then 3 else if ((offs ⟨ff1,ff2,ff3,ff4,ff5,ff6,ff7,ff8,ff9,ff10⟩).any fun a=>usedO seen a)=true then 11 else if ff2=16∧ff4=ff3 then 11 else innS ⟨ff1,ff2,ff3,ff4,ff5,ff6,ff7,ff8,ff9,ff10⟩ n):=by
  simp only[f113_J2]
  rw[h3]
  have ho:((offs ⟨ff1,ff2,ff3,ff4,ff5,ff6,ff7,ff8,ff9,ff10⟩).any fun a=>decide (a<0∨p.fFootprint≤a))=decide ((ff3<0∨p.fFootprint≤ff3)∨ff2=16∧(ff4<0∨p.fFootprint≤ff4)):=by
   unfold offs
   by_cases a1:ff2=16<;>simp[a1]
  rw[ho]
  by_cases a1:ff3<0
  ·rw[if_pos (by simpa using a1),if_pos (by simp[a1])]
  ·rw[if_neg (by simpa using a1)]
   by_cases a2:p.fFootprint≤ff3
   ·rw[if_pos (by simpa using a2),if_pos (by simp[a2])]
   ·rw[if_neg (by simpa using a2)]
    by_cases a3:ff2=16
    ·rw[if_pos (by simpa using a3)]
     by_cases a4:ff4<0
     ·rw[if_pos (by simpa using a4),if_pos (by simp[a3,a4])]
     ·rw[if_neg (by simpa using a4)]
      by_cases a5:p.fFootprint≤ff4
      ·rw[if_pos (by simpa using a5),if_pos (by simp[a3,a5])]
      ·rw[if_neg (by simpa using a5),if_neg (show ¬ decide ((ff3<0∨p.fFootprint≤ff3)∨ff2=16∧(ff4<0∨p.fFootprint≤ff4))=true by simp only[decide_eq_true_eq];omega)]
    ·rw[if_neg (by simpa using a3),if_neg (show ¬ decide ((ff3<0∨p.fFootprint≤ff3)∨ff2=16∧(ff4<0∨p.fFootprint≤ff4))=true by simp only[decide_eq_true_eq];omega)]
 simp only[f113_J1]
 rw[f168_eq _ hsl,h2,Option.bind_some,fstI_nonneg]
 unfold featE
 dsimp only
 by_cases a1:ff1<0
 ·rw[if_pos (by simpa using a1),if_pos (.inl a1)]
 ·rw[if_neg (by simpa using a1)]
  by_cases a2:15≤ff1
  ·rw[if_pos (by simpa using a2),if_pos (.inr a2)]
  ·rw[if_neg (by simpa using a2),if_neg (show ¬ (ff1<0∨15≤ff1) by omega)]
   by_cases a3:(seen.any fun g=>decide (g.fAttr=ff1))=true
   ·rw[if_pos a3,if_pos a3]
   ·rw[if_neg a3,if_neg a3]
    by_cases a4:ff2=8
    ·rw[if_neg (by simpa using a4),if_neg (show ¬ (ff2≠8∧ff2≠16) by omega)]
    ·rw[if_pos (by simpa using a4)]
     by_cases a5:ff2=16
     ·rw[if_neg (by simpa using a5),if_neg (show ¬ (ff2≠8∧ff2≠16) by omega)]
     ·rw[if_pos (by simpa using a5),if_pos ⟨a4,a5⟩]
theorem f71_eq{p:ApiProfile}(cs:List (List ApiPoint))(hf:FitP p):f71 p cs=some (profE cs p):=by
 unfold f71 profE
 rw[f70_eq,Option.bind_some]
 by_cases h0:curvesS cs=0
 ·rw[if_neg (by simpa using h0),if_neg (nn h0),f112_eq hf.1,Option.bind_some]
  by_cases a1:nameS p.fName=true
  ·rw[if_neg (show ¬ (!nameS p.fName)=true by simp[a1]),if_neg (show ¬ nameS p.fName=false by simp[a1])]
   by_cases a2:p.fFootprint<1
   ·rw[if_pos (by simpa using a2),if_pos (.inl a2)]
   ·rw[if_neg (by simpa using a2)]
    by_cases a3:512<p.fFootprint
    ·rw[if_pos (by simpa using a3),if_pos (.inr a3)]
    ·rw[if_neg (by simpa using a3),if_neg (show ¬ (p.fFootprint<1∨512<p.fFootprint) by omega)]
     by_cases a4:p.fWatts<0
     ·rw[if_pos (by simpa using a4),if_pos (.inl a4)]
     ·rw[if_neg (by simpa using a4)]
      by_cases a5:1048576<p.fWatts
      ·rw[if_pos (by simpa using a5),if_pos (.inr a5)]
      ·rw[if_neg (by simpa using a5),if_neg (show ¬ (p.fWatts<0∨1048576<p.fWatts) by omega)]
       by_cases a6:16<p.fFeatures.length
       ·rw[if_pos (by simp;omega),if_pos a6]
       ·rw[if_neg (by simp;omega),if_neg a6]
        refine run_firstE (L:=f71_L1 p cs) (fun k f=>featE p.fFootprint cs.length (p.fFeatures.take k) f) (by omega) (fun k x r _=>?_) (by simp only[f71_L1];rw[at_end];rfl)
        simp only[f71_L1]
        rw[if_pos r.lt,f113_eq _ r.get (by omega) hf.2,Option.bind_some,r.nxt]
        by_cases h1:featE p.fFootprint cs.length (p.fFeatures.take k) x=0<;>simp[h1]
  ·rw[if_pos (show (!nameS p.fName)=true by simpa using a1),if_pos (show nameS p.fName=false by simpa using a1)]
 ·rw[if_pos (by simpa using h0),if_pos h0]
end Go.Proofs.YtnaemmpcffnbkaaGreatDoor
