/-
  The law TopNetworkPriorities of the seat holds for every input: called with any values of its parameter types,the function returns true,and its arguments read as before.
  Conditions: none.
-/
import Derived.Test.YtgfohogbechkkaaBQP
import Derived.Test.YtgfohogbechkkaaBAb48
import Derived.Test.YtgfohogbechkkaaRows
import Derived.WalkKit
import Derived.ProofKit
import Derived.OpenShut
namespace Go.Proofs.Ytgfohogbechkkaa.topNetworkPriorities
open Go Go.ChangeShapes Go.WideShapes Go.ChangeAt Go.RowKit Go.Ab Go.WideElems
set_option linter.unusedVariables false

theorem own:ownKnob Try.prog.godebug=none:=by kernel_rfl
theorem laid:laidOutB Try.prog=true:=by kernel_rfl
theorem op3:Opens Try.prog 3 0 (AV.int .i64) (fun n=>(Lit.int .i64 n).wf=true):=opens_int Try.underlying3 (by kernel_rfl)
theorem op9:Opens Try.prog 9 0 AV.str (fun s=>s.length≤140737488351232):=opens_str Try.underlying9 (by kernel_rfl)
theorem op74:Opens Try.prog 74 2 eApiFrame (fun x=>(fun n=>(Lit.int .i64 n).wf=true) x.fUniverse∧(fun s=>s.length≤140737488351232) x.fSlots):=Opens.struct Try.underlying74 (by kernel_rfl) (by decide) fun encH W n cs xs hlt hl hn hf hw=>by
  have hl:cs.length=2:=hl
  rcases cs with _ | ⟨c0,_ | ⟨c1,_ | ⟨_,_⟩⟩⟩
  all_goals first | (simp only[List.length_cons,List.length_nil] at hl;omega) | skip
  obtain ⟨x0,w0,r0⟩:=op3.field hlt hn hf hw 0 rfl rfl rfl
  obtain ⟨x1,w1,r1⟩:=op9.field hlt hn hf hw 1 rfl rfl rfl
  exact ⟨⟨x0,x1⟩,⟨w0,w1⟩,RIL.append r0 (r1)⟩
theorem op65:Opens Try.prog 65 0 (eL 2 eApiFrame) (fun xs=>xs.length * 24≤140737488351232∧∀ x ∈ xs,(fun x=>(fun n=>(Lit.int .i64 n).wf=true) x.fUniverse∧(fun s=>s.length≤140737488351232) x.fSlots) x):=opens_sl op74 Try.underlying65 (by kernel_rfl) (B:=24) (by kernel_rfl)
theorem op5:Opens Try.prog 5 0 (AV.int .u8) (fun n=>(Lit.int .u8 n).wf=true):=opens_int Try.underlying5 (by kernel_rfl)
theorem op110:Opens Try.prog 110 2 eArr2_110 (fun x=>(fun n=>(Lit.int .u8 n).wf=true) x.fE0∧(fun n=>(Lit.int .u8 n).wf=true) x.fE1):=Opens.array Try.underlying110 (by kernel_rfl) (by decide) fun encH W n cs xs hlt hl hn hf hw=>by
  have hl:cs.length=2:=hl
  rcases cs with _ | ⟨c0,_ | ⟨c1,_ | ⟨_,_⟩⟩⟩
  all_goals first | (simp only[List.length_cons,List.length_nil] at hl;omega) | skip
  obtain ⟨x0,w0,r0⟩:=op5.elem hlt hn hf hw 0 (by decide)
  obtain ⟨x1,w1,r1⟩:=op5.elem hlt hn hf hw 1 (by decide)
  exact ⟨⟨x0,x1⟩,⟨w0,w1⟩,RIL.append r0 (r1)⟩
theorem op4:Opens Try.prog 4 0 AV.bool (fun _=>True):=opens_bool Try.underlying4 (by kernel_rfl)
set_option maxRecDepth 100000 in
theorem lifted(os:Os)(started:os.Started)(H:Type)(enc:TypeId×Value→H) :
    ReturnsInHanded {} Try.checked os 13 .any (Rows.topNetworkPrioritiesSpec.pre6 enc Try.prog Try.f13 Rows.topNetworkPrioritiesRow.domain false) (Rows.topNetworkPrioritiesSpec.post enc Try.prog Try.f13 false true false false):=by
  refine returnsInHanded_of_change_sized (C:=Try.checked) own started (by kernel_rfl) Try.func13
    (ChangeSpec.witness6 (enc:=enc) (C:=Try.checked) false ⟨#[],#[.slice none 0 0,.agg #[.int .u8 0,.int .u8 0],.bool false],[]⟩ 8 (by kernel_rfl) (by kernel_rfl) (by kernel_rfl) (by kernel_rfl)) ?_
  intro W base args ds gs before hval0 hW hcnd hsz _
  have hval:∀ (j:Nat) t v,Try.f13.params[j]? = some t→args[j]? = some v→Value.okWide Try.prog W .any base t v:=hval0
  have hW':=hW
  obtain ⟨p,q,hA0,hV,rfl,hfz,hnd⟩:=hW
  have hA:DataW.TrodAll enc Try.prog W 0 (fun _=>true) true Try.f13.params.toList args.toList ds p:=hA0
  rw[Try.params13] at hA hval
  obtain ⟨v0,vs0,d0,ds0,p0,q0,hargs,rfl,rfl,h0,r0⟩:=trodAll_cons hA
  obtain ⟨v1,vs1,d1,ds1,p1,q1,rfl,rfl,rfl,h1,r1⟩:=trodAll_cons r0
  obtain ⟨v2,vs2,d2,ds2,p2,q2,rfl,rfl,rfl,h2,r2⟩:=trodAll_cons r1
  obtain ⟨rfl,rfl,rfl⟩:=trodAll_nil r2
  obtain rfl:args = #[v0,v1,v2]:=by cases args;simp_all
  obtain ⟨rfl,rfl⟩:=trodVars_none hV
  have hlt:∀ x ∈ (p0++(p1++(p2++[]))),x.block<W.heap.size:=fun x hx=>by simpa using hW'.lt x (List.mem_append_left _ hx)
  have l0:∀ x ∈ p0,x.block<W.heap.size:=fun x hx=>hlt x (List.mem_append_left _ hx)
  obtain ⟨x0,w0,i0⟩:=op65.val (hval 0 65 v0 rfl rfl) h0 l0 (fun n hn=>of_decide_eq_true (List.all_eq_true.1 hsz n (DataW.weights_mem_each (j:=0) rfl rfl n hn)))
  have l1:∀ x ∈ p1,x.block<W.heap.size:=fun x hx=>hlt x (List.mem_append_right _ (List.mem_append_left _ hx))
  obtain ⟨x1,w1,i1⟩:=op110.val (hval 1 110 v1 rfl rfl) h1 l1 (fun n hn=>of_decide_eq_true (List.all_eq_true.1 hsz n (DataW.weights_mem_each (j:=1) rfl rfl n hn)))
  have l2:∀ x ∈ p2,x.block<W.heap.size:=fun x hx=>hlt x (List.mem_append_right _ (List.mem_append_right _ (List.mem_append_left _ hx)))
  obtain ⟨x2,w2,i2⟩:=op4.val (hval 2 4 v2 rfl rfl) h2 l2 (fun n hn=>of_decide_eq_true (List.all_eq_true.1 hsz n (DataW.weights_mem_each (j:=2) rfl rfl n hn)))
  refine (Pure.below (f13_ok (f13_eq x0 x1 x2)) (w:=W) (us:=#[v0,v1,v2]) ⟨i0,i1,i2,trivial⟩).mono fun e W' ⟨he,hb,hz⟩=>?_
  subst he
  exact ⟨_,rfl,post_still (pa:=(p0++(p1++(p2++[])))) hW' (fun _ _ _=>(trodAll_cons_mk (shut_bool Try.underlying4 _) trodAll_mk0)) (fun sp hsp=>(trodAll_cons_mk (Trod_stays laid (by kernel_rfl) (of_decide_eq_true (by kernel_rfl)) h0 (fun x hx=>hb.same (l0 x hx)) (fun x hx=>hsp x (List.mem_append_left _ (List.mem_append_left _ hx)))) (trodAll_cons_mk (Trod_stays laid (by kernel_rfl) (of_decide_eq_true (by kernel_rfl)) h1 (fun x hx=>hb.same (l1 x hx)) (fun x hx=>hsp x (List.mem_append_left _ (List.mem_append_right _ (List.mem_append_left _ hx))))) (trodAll_cons_mk (Trod_stays laid (by kernel_rfl) (of_decide_eq_true (by kernel_rfl)) h2 (fun x hx=>hb.same (l2 x hx)) (fun x hx=>hsp x (List.mem_append_left _ (List.mem_append_right _ (List.mem_append_right _ (List.mem_append_left _ hx)))))) trodAll_mk0)))) (fun _=>rfl) rfl
    (hb.frame _) hz (ok_one (by kernel_rfl) rfl (okWide_bool_mk Try.underlying4 _))⟩

theorem over:Rows.topNetworkPrioritiesRow.holds Try.pinned (OpenSpec.ofChange Rows.topNetworkPrioritiesSpec) :=
  OpenClaim.holds_of_wide 13 Try.f13 rfl rfl rfl rfl rfl rfl rfl ⟨rfl,rfl,rfl,rfl,rfl⟩ rfl rfl rfl rfl rfl (by kernel_rfl) Try.func13 (by kernel_rfl)
    (of_decide_eq_true (by kernel_rfl)) (by unfold Func.isWrapper;first | (rw[if_pos (by decide +kernel)];kernel_rfl) | (rw[if_neg (by decide +kernel)];exact ⟨rfl,rfl⟩))
    (fun os started H enc _=>lifted os started H enc)

/-- The statement. -/
theorem proved:Rows.TopNetworkPrioritiesSaid :=
  over
end Go.Proofs.Ytgfohogbechkkaa.topNetworkPriorities
