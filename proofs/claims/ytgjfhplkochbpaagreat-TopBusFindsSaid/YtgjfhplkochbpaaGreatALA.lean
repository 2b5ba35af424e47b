/-
  The law TopBusFinds of the seat holds for every input: called with any values of its parameter types,the function returns true,and its arguments read as before.
  Conditions: none.
-/
import Derived.Test.YtgjfhplkochbpaaGreatAL5
import Derived.Test.YtgjfhplkochbpaaGreatRows
import Derived.WalkKit
import Derived.ProofKit
import Derived.OpenShut
namespace Go.Proofs.YtgjfhplkochbpaaGreat.topBusFinds
open Go Go.ChangeShapes Go.WideShapes Go.ChangeAt Go.RowKit Go.Ab Go.WideElems
set_option linter.unusedVariables false

theorem own:ownKnob Tryz.prog.godebug=none:=by kernel_rfl
theorem laid:laidOutB Tryz.prog=true:=by kernel_rfl
theorem op23:Opens Tryz.prog 23 0 (AV.int .u64) (fun n=>(Lit.int .u64 n).wf=true):=opens_int Tryz.underlying23 (by kernel_rfl)
theorem op3:Opens Tryz.prog 3 0 (AV.int .i64) (fun n=>(Lit.int .i64 n).wf=true):=opens_int Tryz.underlying3 (by kernel_rfl)
theorem op9:Opens Tryz.prog 9 0 AV.str (fun s=>s.length≤140737488351232):=opens_str Tryz.underlying9 (by kernel_rfl)
theorem op4:Opens Tryz.prog 4 0 AV.bool (fun _=>True):=opens_bool Tryz.underlying4 (by kernel_rfl)
theorem op40:Opens Tryz.prog 40 7 eResponderDevice (fun x=>(fun n=>(Lit.int .u64 n).wf=true) x.fIdentity∧(fun n=>(Lit.int .i64 n).wf=true) x.fFootprint∧(fun n=>(Lit.int .i64 n).wf=true) x.fAddress∧(fun s=>s.length≤140737488351232) x.fLabel∧(fun n=>(Lit.int .i64 n).wf=true) x.fHours∧(fun _=>True) x.fMuted∧(fun _=>True) x.fIdentify):=Opens.struct Tryz.underlying40 (by kernel_rfl) (by decide) fun encH W n cs xs hlt hl hn hf hw=>by
  have hl:cs.length=7:=hl
  rcases cs with _ | ⟨c0,_ | ⟨c1,_ | ⟨c2,_ | ⟨c3,_ | ⟨c4,_ | ⟨c5,_ | ⟨c6,_ | ⟨_,_⟩⟩⟩⟩⟩⟩⟩⟩
  all_goals first | (simp only[List.length_cons,List.length_nil] at hl;omega) | skip
  obtain ⟨x0,w0,r0⟩:=op23.field hlt hn hf hw 0 rfl rfl rfl
  obtain ⟨x1,w1,r1⟩:=op3.field hlt hn hf hw 1 rfl rfl rfl
  obtain ⟨x2,w2,r2⟩:=op3.field hlt hn hf hw 2 rfl rfl rfl
  obtain ⟨x3,w3,r3⟩:=op9.field hlt hn hf hw 3 rfl rfl rfl
  obtain ⟨x4,w4,r4⟩:=op3.field hlt hn hf hw 4 rfl rfl rfl
  obtain ⟨x5,w5,r5⟩:=op4.field hlt hn hf hw 5 rfl rfl rfl
  obtain ⟨x6,w6,r6⟩:=op4.field hlt hn hf hw 6 rfl rfl rfl
  exact ⟨⟨x0,x1,x2,x3,x4,x5,x6⟩,⟨w0,w1,w2,w3,w4,w5,w6⟩,RIL.append r0 (RIL.append r1 (RIL.append r2 (RIL.append r3 (RIL.append r4 (RIL.append r5 (r6))))))⟩
theorem op22:Opens Tryz.prog 22 0 (eL 7 eResponderDevice) (fun xs=>xs.length * 56≤140737488351232∧∀ x ∈ xs,(fun x=>(fun n=>(Lit.int .u64 n).wf=true) x.fIdentity∧(fun n=>(Lit.int .i64 n).wf=true) x.fFootprint∧(fun n=>(Lit.int .i64 n).wf=true) x.fAddress∧(fun s=>s.length≤140737488351232) x.fLabel∧(fun n=>(Lit.int .i64 n).wf=true) x.fHours∧(fun _=>True) x.fMuted∧(fun _=>True) x.fIdentify) x):=opens_sl op40 Tryz.underlying22 (by kernel_rfl) (B:=56) (by kernel_rfl)
set_option maxRecDepth 100000 in
theorem lifted(os:Os)(started:os.Started)(H:Type)(enc:TypeId×Value→H) :
    ReturnsInHanded {} Tryz.checked os 3 .any (Rows.topBusFindsSpec.pre6 enc Tryz.prog Tryz.f3 Rows.topBusFindsRow.domain false) (Rows.topBusFindsSpec.post enc Tryz.prog Tryz.f3 false true false false):=by
  refine returnsInHanded_of_change_sized (C:=Tryz.checked) own started (by kernel_rfl) Tryz.func3
    (ChangeSpec.witness6 (enc:=enc) (C:=Tryz.checked) false ⟨#[],#[.slice none 0 0,.int .u64 0],[]⟩ 8 (by kernel_rfl) (by kernel_rfl) (by kernel_rfl) (by kernel_rfl)) ?_
  intro W base args ds gs before hval0 hW hcnd hsz _
  have hval:∀ (j:Nat) t v,Tryz.f3.params[j]? = some t→args[j]? = some v→Value.okWide Tryz.prog W .any base t v:=hval0
  have hW':=hW
  obtain ⟨p,q,hA0,hV,rfl,hfz,hnd⟩:=hW
  have hA:DataW.TrodAll enc Tryz.prog W 0 (fun _=>true) true Tryz.f3.params.toList args.toList ds p:=hA0
  rw[Tryz.params3] at hA hval
  obtain ⟨v0,vs0,d0,ds0,p0,q0,hargs,rfl,rfl,h0,r0⟩:=trodAll_cons hA
  obtain ⟨v1,vs1,d1,ds1,p1,q1,rfl,rfl,rfl,h1,r1⟩:=trodAll_cons r0
  obtain ⟨rfl,rfl,rfl⟩:=trodAll_nil r1
  obtain rfl:args = #[v0,v1]:=by cases args;simp_all
  obtain ⟨rfl,rfl⟩:=trodVars_none hV
  have hlt:∀ x ∈ (p0++(p1++[])),x.block<W.heap.size:=fun x hx=>by simpa using hW'.lt x (List.mem_append_left _ hx)
  have l0:∀ x ∈ p0,x.block<W.heap.size:=fun x hx=>hlt x (List.mem_append_left _ hx)
  obtain ⟨x0,w0,i0⟩:=op22.val (hval 0 22 v0 rfl rfl) h0 l0 (fun n hn=>of_decide_eq_true (List.all_eq_true.1 hsz n (DataW.weights_mem_each (j:=0) rfl rfl n hn)))
  have l1:∀ x ∈ p1,x.block<W.heap.size:=fun x hx=>hlt x (List.mem_append_right _ (List.mem_append_left _ hx))
  obtain ⟨x1,w1,i1⟩:=op23.val (hval 1 23 v1 rfl rfl) h1 l1 (fun n hn=>of_decide_eq_true (List.all_eq_true.1 hsz n (DataW.weights_mem_each (j:=1) rfl rfl n hn)))
  refine (Pure.below (f3_ok (f3_eq x0 x1 w0.1)) (w:=W) (us:=#[v0,v1]) ⟨i0,i1,trivial⟩).mono fun e W' ⟨he,hb,hz⟩=>?_
  subst he
  exact ⟨_,rfl,post_still (pa:=(p0++(p1++[]))) hW' (fun _ _ _=>(trodAll_cons_mk (shut_bool Tryz.underlying4 _) trodAll_mk0)) (fun sp hsp=>(trodAll_cons_mk (Trod_stays laid (by kernel_rfl) (of_decide_eq_true (by kernel_rfl)) h0 (fun x hx=>hb.same (l0 x hx)) (fun x hx=>hsp x (List.mem_append_left _ (List.mem_append_left _ hx)))) (trodAll_cons_mk (Trod_stays laid (by kernel_rfl) (of_decide_eq_true (by kernel_rfl)) h1 (fun x hx=>hb.same (l1 x hx)) (fun x hx=>hsp x (List.mem_append_left _ (List.mem_append_right _ (List.mem_append_left _ hx))))) trodAll_mk0))) (fun _=>rfl) rfl
    (hb.frame _) hz (ok_one (by kernel_rfl) rfl (okWide_bool_mk Tryz.underlying4 _))⟩

theorem over:Rows.topBusFindsRow.holds Tryz.pinned (OpenSpec.ofChange Rows.topBusFindsSpec) :=
  OpenClaim.holds_of_wide 3 Tryz.f3 rfl rfl rfl rfl rfl rfl rfl ⟨rfl,rfl,rfl,rfl,rfl⟩ rfl rfl rfl rfl rfl (by kernel_rfl) Tryz.func3 (by kernel_rfl)
    (of_decide_eq_true (by kernel_rfl)) (by unfold Func.isWrapper;first | (rw[if_pos (by decide +kernel)];kernel_rfl) | (rw[if_neg (by decide +kernel)];exact ⟨rfl,rfl⟩))
    (fun os started H enc _=>lifted os started H enc)

/-- The statement. -/
theorem proved:Rows.TopBusFindsSaid :=
  over
end Go.Proofs.YtgjfhplkochbpaaGreat.topBusFinds
