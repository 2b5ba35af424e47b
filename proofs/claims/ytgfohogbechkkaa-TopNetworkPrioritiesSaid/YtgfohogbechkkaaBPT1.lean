import Derived.Test.YtgfohogbechkkaaBYP3
set_option linter.unusedSimpArgs false
set_option linter.unusedVariables false
namespace Go.Proofs.Ytgfohogbechkkaa
open Go Go.Ab
def wi(n lo hi:Int):Bool:=decide (lo≤n) && decide (n≤hi)
theorem f93_eq(n a b:Int):f93 n a b=some (wi n a b):=by
 unfold f93 wi
 by_cases h:a≤n<;>simp[h]
theorem wi_iff{n a b:Int}:wi n a b=true↔a≤n∧n≤b:=by simp[wi]
def namedS(source priority sync:Int):Bool:=decide (0<source) && (decide (source<281474976710655) && (wi priority 0 200 && wi sync 0 8))
theorem f78_eq(a b c:Int):f78 a b c=some (namedS a b c):=by
 unfold f78 namedS
 simp only[f93_eq,Option.bind_some]
 by_cases h1:0<a<;>by_cases h2:a<281474976710655<;>cases h3:wi b 0 200<;>simp[h1,h2,h3]
theorem f94_eq(n:Int):f94 n=some (wi n 0 255):=by unfold f94;simp[f93_eq]
def newerS(old seq:Int):Bool:=wi old 0 255 && (wi seq 0 255 && (decide (0<(seq - old + 256).tmod 256) && decide ((seq - old + 256).tmod 256<237)))
theorem f97_eq(a b:Int):f97 a b=some (newerS a b):=by
 unfold f97 newerS
 simp only[f94_eq,Option.bind_some]
 cases h1:wi a 0 255
 ·simp
 ·cases h2:wi b 0 255
  ·simp
  ·have:=wi_iff.1 h1;have:=wi_iff.1 h2
   rw[w64 (a:=b - a) (by omega) (by omega),w64 (by omega) (by omega)]
   by_cases h:0<(b - a + 256).tmod 256<;>simp[h]
def checkS(p:NetworkPacket):Int :=
 if namedS p.fSource p.fPriority p.fSync=false then 2 else if wi p.fUniverse 0 8=false then 2 else if wi p.fSeq 0 255=false then 2 else if 512<p.fSlots.length then 13
 else if p.fUniverse=0 then (if p.fSync=0 then 3 else if p.fEnd=true then 3 else if p.fSlots=[] then 0 else 3) else 0
theorem f59_eq(p:NetworkPacket):f59 p=some (checkS p):=by
 unfold f59 checkS
 simp only[f78_eq,f93_eq,f94_eq,Option.bind_some]
 cases h1:namedS p.fSource p.fPriority p.fSync
 ·simp
 cases h2:wi p.fUniverse 0 8
 ·simp
 cases h3:wi p.fSeq 0 255
 ·simp
 by_cases h4:512<p.fSlots.length
 ·have:(512:Int)<(p.fSlots.length:Int):=by omega
  simp[h4,this]
 ·have:¬ (512:Int)<(p.fSlots.length:Int):=by omega
  by_cases h5:p.fUniverse=0
  ·by_cases h6:p.fSync=0
   ·simp[h4,this,h5,h6]
   ·cases h7:p.fEnd
    ·by_cases h8:p.fSlots=[]
     ·simp[h5,h6,h8]
     ·simp[h4,this,h5,h6,h8]
    ·simp[h4,this,h5,h6,h7]
  ·simp[h4,this,h5]
def shapedS(s:List UInt8):Bool:=if s=[] then true else decide (s.length=512)
theorem f105_eq(s:List UInt8):f105 s=some (shapedS s):=by
 unfold f105 shapedS
 by_cases h:s=[]
 ·simp[h]
 ·have:((s.length:Int)=512)=(s.length=512):=by simp;omega
  simp only[this]
  simp[h]
def likeP(x:ReceiverInput):NetworkPacket:=⟨x.fSource,x.fUniverse,x.fPriority,x.fSeq,x.fSync,false,[]⟩
def inErr(x:ReceiverInput):Int :=
 if x.fUniverse<1 then 2 else if checkS (likeP x)≠0 then 2 else if x.fLast<0 then 2 else if 10000000<x.fLast then 2 else if shapedS x.fSlots=false then 14 else if shapedS x.fWait=false then 14
 else if x.fSync=0 then (if x.fWait=[] then 0 else 3) else 0
theorem f63_eq(x:ReceiverInput):f63 x=some (inErr x):=by
 unfold f63 inErr
 rw[show NetworkPacket.mk x.fSource x.fUniverse x.fPriority x.fSeq x.fSync false []=likeP x from rfl]
 simp only[f59_eq,f105_eq,Option.bind_some]
 by_cases h1:x.fUniverse<1
 ·simp[h1]
 by_cases h2:checkS (likeP x)=0
 case neg=>simp[h1,h2]
 by_cases h3:x.fLast<0
 ·simp[h1,h2,h3]
 by_cases h4:10000000<x.fLast
 ·simp[h1,h2,h3,h4]
 cases h5:shapedS x.fSlots
 ·simp[h1,h2,h3,h4]
 cases h6:shapedS x.fWait
 ·simp[h1,h2,h3,h4]
 by_cases h7:x.fSync=0
 ·by_cases h8:x.fWait=[]
  ·simp[h1,h2,h3,h4,h7,h8]
  ·simp[h1,h2,h3,h4,h7,h8]
 ·simp[h1,h2,h3,h4,h7]
def cmpI(a b:Int):Int:=if a<b then -1 else if b<a then 1 else 0
theorem f107_eq(a b:Int):f107 a b=some (cmpI a b):=by
 unfold f107 f144 cmpI
 simp only[Option.bind_some,ne_eq,not_true_eq_false,decide_false,Bool.false_eq_true,if_false,decide_eq_true_eq]
 split
 ·rfl
 ·split<;>rfl
theorem f108_eq(a b:Int):f108 a b=some (cmpI a b):=by
 unfold f108 f145 cmpI
 simp only[Option.bind_some,ne_eq,not_true_eq_false,decide_false,Bool.false_eq_true,if_false,decide_eq_true_eq]
 split
 ·rfl
 ·split<;>rfl
theorem f106_eq(a b:Int):f106 [a,b]=some (if a≠0 then a else b):=by
 unfold f106
 rw[run_findv (L:=f106_L1 [a,b]) (xs:=[a,b]) (fun x=>decide (x≠0)) (fun x=>x) (by simp) (fun k x hr=>by
  simp only[f106_L1]
  rw[if_pos hr.lt,hr.at',hr.nxt,Option.bind_some]
  by_cases h:x=0<;>simp[h]) (by simp[f106_L1])]
 by_cases h1:a=0
 ·by_cases h2:b=0
  ·simp[h1,h2]
  ·simp[h1,h2]
 ·simp[h1]
def ordS(a b:ReceiverPlace):Int:=if cmpI a.fUniverse b.fUniverse≠0 then cmpI a.fUniverse b.fUniverse else cmpI a.fSource b.fSource
theorem f64_eq(a b:ReceiverPlace):f64 a b=some (ordS a b):=by
 unfold f64 ordS
 simp only[f107_eq,f108_eq,f106_eq,Option.bind_some]
def ltU(u s u' s':Int):Bool:=decide (u<u') || (decide (u=u') && decide (s<s'))
def ltI(x y:ReceiverInput):Bool:=ltU x.fUniverse x.fSource y.fUniverse y.fSource
theorem ordS_nonneg(a b:ReceiverPlace):(0≤ordS a b)=(ltU a.fUniverse a.fSource b.fUniverse b.fSource=false):=by
 unfold ordS cmpI ltU
 simp only[Bool.or_eq_false_iff,Bool.and_eq_false_iff,decide_eq_false_iff_not,eq_iff_iff]
 (repeat' split)<;>omega
theorem ordS_neg(a b:ReceiverPlace):(ordS a b<0)=(ltU a.fUniverse a.fSource b.fUniverse b.fSource=true):=by
 unfold ordS cmpI ltU
 simp only[Bool.or_eq_true,Bool.and_eq_true,decide_eq_true_eq,eq_iff_iff]
 (repeat' split)<;>omega
theorem ordS_zero(a b:ReceiverPlace):(ordS a b=0)=(a.fUniverse=b.fUniverse∧a.fSource=b.fSource):=by
 unfold ordS cmpI
 simp only[eq_iff_iff]
 (repeat' split)<;>omega
theorem ltI_trans(a b c:ReceiverInput)(h1:ltI a b=true)(h2:ltI b c=true):ltI a c=true:=by
 unfold ltI ltU at *
 simp only[Bool.or_eq_true,Bool.and_eq_true,decide_eq_true_eq] at *
 omega
def rightS(l:List ReceiverInput):Int:=if 64<l.length then 5 else goC inErr ltI (fun _=>0) none l
theorem f19_eq(r:ReceiverReceiver):f19 r=some (rightS r.fInputs):=by
 unfold f19 rightS
 by_cases h:64<r.fInputs.length
 ·rw[if_pos (by simp only[decide_eq_true_eq];omega),if_pos h]
 ·rw[if_neg (by simp only[decide_eq_true_eq];omega),if_neg h]
  exact run_goC (L:=f19_L1 r) inErr ltI (fun _=>0) (xs:=r.fInputs) (by omega) (fun x hx hlt hat=>by
   simp only[f19_L1]
   rw[if_pos hlt,hat]
   simp only[Option.bind_some,f63_eq]
   unfold stepC
   by_cases h1:inErr x=0
   ·simp[h1,badC,roundC];rfl
   ·simp[h1,roundC]) (fun k q x hq hx hlt hat hat' hpos hw h1 _=>by
   simp only[f19_L1]
   rw[if_pos hlt,hat]
   simp only[Option.bind_some,f63_eq]
   unfold stepC
   by_cases h1:inErr x=0
   ·rw[if_neg (by simp[h1]),if_pos hpos,hat',hw]
    simp only[Option.bind_some,f65,f64_eq,decide_eq_true_eq,ordS_nonneg]
    by_cases h2:ltI q x=true
    ·have h3:¬ ltU q.fUniverse q.fSource x.fUniverse x.fSource=false:=by rw[show ltU q.fUniverse q.fSource x.fUniverse x.fSource=ltI q x from rfl,h2];simp
     rw[if_neg h3]
     simp[h1,badC,h2,roundC]
    ·have h3:ltU q.fUniverse q.fSource x.fUniverse x.fSource=false:=by rw[show ltU q.fUniverse q.fSource x.fUniverse x.fSource=ltI q x from rfl];simpa using h2
     rw[if_pos h3]
     simp[h1,badC,h2,roundC]
   ·simp[h1,roundC]) (by simp[f19_L1])
theorem f68_eq{l:List ReceiverInput}{t:Int}(hl:l.length≤9223372036854775807):f68_92 l t=some (l.any fun x=>decide (t<x.fLast)):=by
 unfold f68_92 f77_92
 have h:=run_findi (L:=f77_92_L1 l t) (xs:=l) (fun x=>decide (t<x.fLast)) hl (fun k x hr=>by
  simp only[f77_92_L1]
  rw[if_pos hr.lt,hr.at',hr.nxt,Option.bind_some,f92p,Option.bind_some]
  by_cases h:t<x.fLast<;>simp[h]) (by simp[f77_92_L1])
 refine (congrArg (fun o:Option Int=>o.bind fun r=>some (decide (0≤r))) h).trans ?_
 simp only[Option.bind_some]
 rw[fstI_nonneg]
def momentS(l:List ReceiverInput)(t:Int):Int:=if rightS l≠0 then rightS l else if t<0 then 2 else if 10000000<t then 2 else if (l.any fun x=>decide (t<x.fLast))=true then 9 else 0
theorem right_len{l:List ReceiverInput}(h:rightS l=0):l.length≤64:=by
 unfold rightS at h
 by_cases h1:64<l.length
 ·rw[if_pos h1] at h;cases h
 ·omega
theorem f58_eq(r:ReceiverReceiver)(t:Int):f58 r t=some (momentS r.fInputs t):=by
 unfold f58 momentS
 rw[f19_eq,Option.bind_some]
 by_cases h1:rightS r.fInputs=0
 ·have:=right_len h1
  simp only[h1,ne_eq,not_true_eq_false,decide_false,Bool.false_eq_true,if_false]
  by_cases h2:t<0
  ·simp[h2]
  by_cases h3:10000000<t
  ·simp[h2,h3]
  simp only[h2,h3,decide_false,Bool.false_eq_true,if_false]
  rw[f68_eq (by omega),Option.bind_some]
  cases (r.fInputs.any fun x=>decide (t<x.fLast))<;>rfl
 ·simp[h1]
structure Good (t:Int) (l:List ReceiverInput):Prop where
 len:l.length≤64
 ok:∀ x ∈ l,inErr x=0
 asc:l.Pairwise fun a b=>ltI a b=true
 t0:0≤t
 t1:t≤10000000
 last:∀ x ∈ l,x.fLast≤t
theorem right_ok{l:List ReceiverInput}(h:rightS l=0):(∀ x ∈ l,inErr x=0)∧l.Pairwise fun a b=>ltI a b=true:=by
 have hl:=right_len h
 unfold rightS at h
 rw[if_neg (by omega)] at h
 exact ⟨fun x hx=>(goC_chk h x hx).1,goC_pairwise ltI_trans h⟩
theorem right_mk{l:List ReceiverInput}(h0:l.length≤64)(h1:∀ x ∈ l,inErr x=0)(h2:l.Pairwise fun a b=>ltI a b=true):rightS l=0:=by
 unfold rightS
 rw[if_neg (by omega)]
 exact goC_zero (fun x hx=>⟨h1 x hx,rfl⟩) h2 (fun q hq=>by cases hq)
theorem moment_good{l:List ReceiverInput}{t:Int}(h:momentS l t=0):Good t l:=by
 unfold momentS at h
 by_cases h1:rightS l=0
 case neg=>rw[if_pos h1] at h;exact absurd h h1
 rw[if_neg (by simp[h1])] at h
 split at h
 ·cases h
 split at h
 ·cases h
 split at h
 ·cases h
 rename_i h2 h3 h4
 refine ⟨right_len h1,(right_ok h1).1,(right_ok h1).2,by omega,by omega,fun x hx=>?_⟩
 have:=List.any_eq_false.1 (Bool.eq_false_iff.2 h4) x hx
 simpa using this
theorem good_moment{l:List ReceiverInput}{t:Int}(h:Good t l):momentS l t=0:=by
 unfold momentS
 have:=right_mk h.len h.ok h.asc
 have h0:=h.t0
 have h1:=h.t1
 rw[if_neg (by simp[this]),if_neg (by omega),if_neg (by omega),if_neg]
 rw[Bool.not_eq_true,List.any_eq_false]
 intro x hx
 have:=h.last x hx
 simp;omega
theorem in_ok{x:ReceiverInput}(h:inErr x=0):1≤x.fUniverse∧checkS (likeP x)=0∧(0≤x.fLast∧x.fLast≤10000000)∧(x.fSlots=[]∨x.fSlots.length=512)∧(x.fWait=[]∨x.fWait.length=512)∧(x.fSync=0→x.fWait=[]):=by
 unfold inErr at h
 split at h
 ·cases h
 split at h
 ·cases h
 split at h
 ·cases h
 split at h
 ·cases h
 split at h
 ·cases h
 split at h
 ·cases h
 rename_i a1 a2 a3 a4 a5 a6
 have sh:∀ s:List UInt8,¬ shapedS s=false→s=[]∨s.length=512:=fun s hs=>by
  unfold shapedS at hs
  by_cases h:s=[]
  ·exact .inl h
  ·rw[if_neg h] at hs;right;simpa using hs
 refine ⟨by omega,by simpa using a2,by omega,sh _ a5,sh _ a6,fun h0=>?_⟩
 rw[if_pos h0] at h
 split at h
 ·assumption
 ·cases h
theorem check_ok{p:NetworkPacket}(h:checkS p=0):((0<p.fSource∧p.fSource<281474976710655)∧(0≤p.fPriority∧p.fPriority≤200)∧(0≤p.fSync∧p.fSync≤8))∧(0≤p.fUniverse∧p.fUniverse≤8)∧(0≤p.fSeq∧p.fSeq≤255)∧p.fSlots.length≤512 ∧
  (p.fUniverse=0→p.fSync≠0∧p.fEnd=false∧p.fSlots=[]):=by
 unfold checkS at h
 split at h
 ·cases h
 split at h
 ·cases h
 split at h
 ·cases h
 split at h
 ·cases h
 rename_i a1 a2 a3 a4
 have a1:namedS p.fSource p.fPriority p.fSync=true:=by simpa using a1
 unfold namedS at a1
 simp only[Bool.and_eq_true,decide_eq_true_eq,wi_iff] at a1
 refine ⟨⟨⟨a1.1,a1.2.1⟩,a1.2.2⟩,wi_iff.1 (by simpa using a2),wi_iff.1 (by simpa using a3),by omega,fun h0=>?_⟩
 rw[if_pos h0] at h
 split at h
 ·cases h
 split at h
 ·cases h
 split at h
 ·rename_i b1 b2 b3
  exact ⟨b1,by simpa using b2,b3⟩
 ·cases h
theorem check_mk{p:NetworkPacket}(h1:0<p.fSource∧p.fSource<281474976710655)(h2:0≤p.fPriority∧p.fPriority≤200)(h3:0≤p.fSync∧p.fSync≤8)(h4:0≤p.fUniverse∧p.fUniverse≤8)(h5:0≤p.fSeq∧p.fSeq≤255)(h6:p.fSlots.length≤512)
  (h7:p.fUniverse=0→p.fSync≠0∧p.fEnd=false∧p.fSlots=[]):checkS p=0:=by
 have hn:namedS p.fSource p.fPriority p.fSync=true:=by
  unfold namedS
  simp only[Bool.and_eq_true,decide_eq_true_eq,wi_iff]
  exact ⟨h1.1,h1.2,h2,h3⟩
 unfold checkS
 rw[if_neg (by simp[hn]),if_neg (by rw[wi_iff.2 h4];simp),if_neg (by rw[wi_iff.2 h5];simp),if_neg (by omega)]
 split
 ·rename_i h0
  obtain ⟨b1,b2,b3⟩:=h7 h0
  rw[if_neg b1,if_neg (by simp[b2]),if_pos b3]
 ·rfl
theorem in_mk{x:ReceiverInput}(h1:1≤x.fUniverse)(h2:checkS (likeP x)=0)(h3:0≤x.fLast∧x.fLast≤10000000)(h4:x.fSlots=[]∨x.fSlots.length=512)(h5:x.fWait=[]∨x.fWait.length=512)(h6:x.fSync=0→x.fWait=[]):inErr x=0:=by
 have sh:∀ s:List UInt8,s=[]∨s.length=512→shapedS s=true:=fun s hs=>by
  unfold shapedS
  by_cases h:s=[]
  ·simp[h]
  ·rw[if_neg h];simpa using hs.resolve_left h
 unfold inErr
 rw[if_neg (by omega),if_neg (by simp[h2]),if_neg (by omega),if_neg (by omega),if_neg (by simp[sh _ h4]),if_neg (by simp[sh _ h5])]
 split
 ·rename_i h0
  rw[if_pos (h6 h0)]
 ·rfl
end Go.Proofs.Ytgfohogbechkkaa
