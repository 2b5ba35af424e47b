import Derived.Test.YtgjfhplkochbpaaGreatAHL
set_option linter.unusedSimpArgs false
set_option linter.unusedVariables false
namespace Go.Proofs.YtgjfhplkochbpaaGreat
open Go Go.Ab
noncomputable def tryOnce(x:ManagerManager)(devs:List ResponderDevice)(q:ManagerRequest):Option (ApiMessage×List ResponderDevice×ApiMessage) :=
 (f45 x q).bind fun m=>(f27 devs m).bind fun r=>match r.2.1 with
  | [a]=>(f67 a).bind fun t=>(f86 t.1).bind fun d=>if d.2=0 then some (m,r.1,d.1) else none
  | _=>none
theorem tryOnce_inv{x:ManagerManager}{devs:List ResponderDevice}{q:ManagerRequest}{y:ApiMessage×List ResponderDevice×ApiMessage}(H:tryOnce x devs q=some y) :
  ∃ a e t e2,f45 x q=some y.1∧f27 devs y.1=some (y.2.1,[a],e)∧f67 a=some (t,e2)∧f86 t=some (y.2.2,0):=by
 unfold tryOnce at H
 obtain ⟨m,h1,H⟩:=Option.bind_eq_some_iff.1 H
 obtain ⟨r,h2,H⟩:=Option.bind_eq_some_iff.1 H
 obtain ⟨ds,ans,e⟩:=r
 match ans,H with
 | [a],H =>
  obtain ⟨t,h3,H⟩:=Option.bind_eq_some_iff.1 H
  obtain ⟨d,h4,H⟩:=Option.bind_eq_some_iff.1 H
  by_cases h0:d.2=0
  ·rw[if_pos h0] at H
   injection H with H
   subst H
   exact ⟨a,e,t.1,t.2,h1,h2,h3,by rw[h4];exact congrArg some (Prod.ext rfl h0)⟩
  ·rw[if_neg h0] at H;cases H
def nextM(x:ManagerManager):ManagerManager:=⟨x.fIdentity,(IntKind.i64.wrap (x.fSeq + 1)).tmod 256,x.fTries⟩
open Classical in
noncomputable def f15(x:ManagerManager)(w:ManagerWire)(q:ManagerRequest):Option (ManagerManager×ManagerWire×ManagerResult×Int) :=
 if f24 x w q=some 0∧f25 w=some w∧w.fLate=[] then
  (if w.fFaults=[] then (tryOnce x w.fDevices q).bind fun y=>if f33 y.1 y.2.2=some true∧y.2.2.fKind≠7∧1≤x.fTries then some (nextM x,⟨y.2.1,[],[]⟩,⟨0,y.2.2.fData,0,1⟩,0) else none
  else if w.fFaults=[2] then (tryOnce x w.fDevices q).bind fun z=>(tryOnce (nextM x) z.2.1 q).bind fun y=>if f33 y.1 y.2.2=some true∧y.2.2.fKind≠7∧2≤x.fTries then some (nextM (nextM x),⟨y.2.1,[],[]⟩,⟨0,y.2.2.fData,0,2⟩,0) else none
  else none)
 else none
theorem f15_ok{x:ManagerManager}{w:ManagerWire}{q:ManagerRequest}{r_:ManagerManager×ManagerWire×ManagerResult×Int}(H:f15 x w q=some r_) :
  Pure Tryz.prog 15 [.agg [.int .u64 x.fIdentity,.int .i64 x.fSeq,.int .i64 x.fTries],.agg [.sl 7 false (w.fDevices.map eResponderDevice),.sl 0 false (w.fFaults.map (AV.int .i64)),.sl 0 false (w.fLate.map AV.str)],.agg [.int .u64 q.fTo,.int .i64 q.fKind,.int .i64 q.fParam,.str q.fData]]
   (· = .tup [.agg [.int .u64 r_.1.fIdentity,.int .i64 r_.1.fSeq,.int .i64 r_.1.fTries],.agg [.sl 7 false (r_.2.1.fDevices.map eResponderDevice),.sl 0 false (r_.2.1.fFaults.map (AV.int .i64)),.sl 0 false (r_.2.1.fLate.map AV.str)],.agg [.int .i64 r_.2.2.1.fKind,.str r_.2.2.1.fData,.int .i64 r_.2.2.1.fReason,.int .i64 r_.2.2.1.fTries],.int .i64 r_.2.2.2]):=by
 obtain ⟨devs,fl,late⟩:=w
 unfold f15 at H
 by_cases hg:f24 x ⟨devs,fl,late⟩ q=some 0∧f25 ⟨devs,fl,late⟩=some ⟨devs,fl,late⟩∧late=[]
 case neg=>rw[if_neg hg] at H;cases H
 rw[if_pos hg] at H
 obtain ⟨h24,h25,rfl⟩:=hg
 simp only at H
 by_cases h0:fl=[]
 ·subst h0
  rw[if_pos rfl] at H
  obtain ⟨y,hy,H⟩:=Option.bind_eq_some_iff.1 H
  by_cases hc:f33 y.1 y.2.2=some true∧y.2.2.fKind≠7∧1≤x.fTries
  case neg=>rw[if_neg hc] at H;cases H
  rw[if_pos hc] at H
  injection H with H
  subst H
  obtain ⟨a,e,t,e2,h45,h27,h67,h86⟩:=tryOnce_inv hy
  exact ask15 (fun h6 hK=>ask1 h45 h27 h67 h86 hc.1 hc.2.1 hc.2.2 h6 hK) h24 h25
 ·rw[if_neg h0] at H
  by_cases h2:fl=[2]
  case neg=>rw[if_neg h2] at H;cases H
  subst h2
  rw[if_pos rfl] at H
  obtain ⟨z,hz,H⟩:=Option.bind_eq_some_iff.1 H
  obtain ⟨y,hy,H⟩:=Option.bind_eq_some_iff.1 H
  by_cases hc:f33 y.1 y.2.2=some true∧y.2.2.fKind≠7∧2≤x.fTries
  case neg=>rw[if_neg hc] at H;cases H
  rw[if_pos hc] at H
  injection H with H
  subst H
  obtain ⟨a,e,t,e2,h45,h27,h67,h86⟩:=tryOnce_inv hz
  obtain ⟨d,f2,u,g2,k45,k27,k67,k86⟩:=tryOnce_inv hy
  exact ask15 (fun h6 hK=>ask2 h45 h27 h67 h86 k45 k27 k67 k86 hc.1 hc.2.1 hc.2.2 h6 hK) h24 h25
end Go.Proofs.YtgjfhplkochbpaaGreat
