/-
  The law SelectionOnce of the seat holds for every input: called with any values of its parameter types,the function returns true,and its arguments read as before.
  Conditions: none.
-/
import Derived.Test.YtnaemmpcffnbkaaGreatDoorKPO
import Derived.Test.YtnaemmpcffnbkaaGreatDoorRows
import Derived.WalkKit
import Derived.ProofKit
import Derived.OpenShut
import Derived.Test.YtnaemmpcffnbkaaGreatDoorTie
import Derived.Test.YtnaemmpcffnbkaaGreatDoorCards
import Derived.LaidMore
import Derived.Lay
import Derived.SevenTiedAt
import Derived.Stop.Joined
import Derived.Deep.DeepHandedRow
namespace Go.Proofs.YtnaemmpcffnbkaaGreatDoor.selectionOnce
open Go Go.ChangeShapes Go.WideShapes Go.ChangeAt Go.RowKit Go.Ab Go.WideElems
set_option linter.unusedVariables false

theorem own:ownKnob Tryz.prog.godebug=none:=by kernel_rfl
theorem laid:laidOutB Tryz.prog=true:=by kernel_rfl
theorem op3:Opens Tryz.prog 3 0 (AV.int .i64) (fun n=>(Lit.int .i64 n).wf=true):=opens_int Tryz.underlying3 (by kernel_rfl)
theorem op63:Opens Tryz.prog 63 4 eApiSelect (fun x=>(fun n=>(Lit.int .i64 n).wf=true) x.fOp∧(fun n=>(Lit.int .i64 n).wf=true) x.fGroup∧(fun n=>(Lit.int .i64 n).wf=true) x.fFrom∧(fun n=>(Lit.int .i64 n).wf=true) x.fTo):=Opens.struct Tryz.underlying63 (by kernel_rfl) (by decide) fun encH W n cs xs hlt hl hn hf hw=>by
  have hl:cs.length=4:=hl
  rcases cs with _ | ⟨c0,_ | ⟨c1,_ | ⟨c2,_ | ⟨c3,_ | ⟨_,_⟩⟩⟩⟩⟩
  all_goals first | (simp only[List.length_cons,List.length_nil] at hl;omega) | skip
  obtain ⟨x0,w0,r0⟩:=op3.field hlt hn hf hw 0 rfl rfl rfl
  obtain ⟨x1,w1,r1⟩:=op3.field hlt hn hf hw 1 rfl rfl rfl
  obtain ⟨x2,w2,r2⟩:=op3.field hlt hn hf hw 2 rfl rfl rfl
  obtain ⟨x3,w3,r3⟩:=op3.field hlt hn hf hw 3 rfl rfl rfl
  exact ⟨⟨x0,x1,x2,x3⟩,⟨w0,w1,w2,w3⟩,RIL.append r0 (RIL.append r1 (RIL.append r2 (r3)))⟩
theorem op22:Opens Tryz.prog 22 0 (eL 4 eApiSelect) (fun xs=>xs.length * 32≤140737488351232∧∀ x ∈ xs,(fun x=>(fun n=>(Lit.int .i64 n).wf=true) x.fOp∧(fun n=>(Lit.int .i64 n).wf=true) x.fGroup∧(fun n=>(Lit.int .i64 n).wf=true) x.fFrom∧(fun n=>(Lit.int .i64 n).wf=true) x.fTo) x):=opens_sl op63 Tryz.underlying22 (by kernel_rfl) (B:=32) (by kernel_rfl)
theorem op26:Opens Tryz.prog 26 0 (eL 0 (AV.int .i64)) (fun xs=>xs.length * 8≤140737488351232∧∀ x ∈ xs,(fun n=>(Lit.int .i64 n).wf=true) x):=opens_sl op3 Tryz.underlying26 (by kernel_rfl) (B:=8) (by kernel_rfl)
theorem op91:Opens Tryz.prog 91 2 eApiGroup (fun x=>(fun n=>(Lit.int .i64 n).wf=true) x.fNumber∧(fun xs=>xs.length * 8≤140737488351232∧∀ x ∈ xs,(fun n=>(Lit.int .i64 n).wf=true) x) x.fChannels):=Opens.struct Tryz.underlying91 (by kernel_rfl) (by decide) fun encH W n cs xs hlt hl hn hf hw=>by
  have hl:cs.length=2:=hl
  rcases cs with _ | ⟨c0,_ | ⟨c1,_ | ⟨_,_⟩⟩⟩
  all_goals first | (simp only[List.length_cons,List.length_nil] at hl;omega) | skip
  obtain ⟨x0,w0,r0⟩:=op3.field hlt hn hf hw 0 rfl rfl rfl
  obtain ⟨x1,w1,r1⟩:=op26.field hlt hn hf hw 1 rfl rfl rfl
  exact ⟨⟨x0,x1⟩,⟨w0,w1⟩,RIL.append r0 (r1)⟩
theorem op23:Opens Tryz.prog 23 0 (eL 2 eApiGroup) (fun xs=>xs.length * 32≤140737488351232∧∀ x ∈ xs,(fun x=>(fun n=>(Lit.int .i64 n).wf=true) x.fNumber∧(fun xs=>xs.length * 8≤140737488351232∧∀ x ∈ xs,(fun n=>(Lit.int .i64 n).wf=true) x) x.fChannels) x):=opens_sl op91 Tryz.underlying23 (by kernel_rfl) (B:=32) (by kernel_rfl)
set_option maxRecDepth 100000 in
theorem lifted(os:Os)(started:os.Started)(H:Type)(enc:TypeId×Value→H) :
    ReturnsInHanded {} Tryz.checked os 7 .any (fun w args=>(Rows.selectionOnceSpec.pre enc Tryz.prog Tryz.f7 Rows.selectionOnceRow.domain false w args∧laidMetH Tryz.prog Rows.selectionOnceRow.laid w)∧sizedMet enc Tryz.prog Tryz.f7 (OpenSpec.ofChange Rows.selectionOnceSpec) false w args) (Rows.selectionOnceSpec.post enc Tryz.prog Tryz.f7 false true false false):=by
  refine returnsInHanded_of_change_and (C:=Tryz.checked) (X:=fun w _=>laidMetH Tryz.prog Rows.selectionOnceRow.laid w) (fun _ _ _ hh h=>h.of_heap hh) own started (by kernel_rfl) Tryz.func7
    (ChangeSpec.witness_shaped (enc:=enc) (C:=Tryz.checked) (os:=os) (X:=fun w _=>laidMetH Tryz.prog Rows.selectionOnceRow.laid w) false (World.laidAll Tryz.prog os Rows.selectionOnceRow.laid) #[.slice none 0 0,.slice none 0 0,.agg #[.int .i64 0,.int .i64 0,.int .i64 0,.int .i64 0]] 8 (World.laidAll_os _ _ _)
      (World.shaped_of_ZipB (by kernel_rfl) (by kernel_rfl)) (by kernel_rfl) (by kernel_rfl) (by kernel_rfl)
      (by rw[MakeChecks.laidMetH_plain _ _ _ (by kernel_rfl)];exact laidMet_laidAll _ (by kernel_rfl) (by kernel_rfl))) ?_
  intro W base args ds gs before hval0 hW hcnd hsz _ _
  have hval:∀ (j:Nat) t v,Tryz.f7.params[j]? = some t→args[j]? = some v→Value.okWide Tryz.prog W .any base t v:=hval0
  have hW':=hW
  obtain ⟨p,q,hA0,hV,rfl,hfz,hnd⟩:=hW
  have hA:DataW.TrodAll enc Tryz.prog W 0 (fun _=>true) true Tryz.f7.params.toList args.toList ds p:=hA0
  rw[Tryz.params7] at hA hval
  obtain ⟨v0,vs0,d0,ds0,p0,q0,hargs,rfl,rfl,h0,r0⟩:=trodAll_cons hA
  obtain ⟨v1,vs1,d1,ds1,p1,q1,rfl,rfl,rfl,h1,r1⟩:=trodAll_cons r0
  obtain ⟨v2,vs2,d2,ds2,p2,q2,rfl,rfl,rfl,h2,r2⟩:=trodAll_cons r1
  obtain ⟨rfl,rfl,rfl⟩:=trodAll_nil r2
  obtain rfl:args = #[v0,v1,v2]:=by cases args;simp_all
  obtain ⟨rfl,rfl⟩:=trodVars_none hV
  have hlt:∀ x ∈ (p0++(p1++(p2++[]))),x.block<W.heap.size:=fun x hx=>by simpa using hW'.lt x (List.mem_append_left _ hx)
  have l0:∀ x ∈ p0,x.block<W.heap.size:=fun x hx=>hlt x (List.mem_append_left _ hx)
  obtain ⟨x0,w0,i0⟩:=op22.val (hval 0 22 v0 rfl rfl) h0 l0 (fun n hn=>of_decide_eq_true (List.all_eq_true.1 hsz n (DataW.weights_mem_each (j:=0) rfl rfl n hn)))
  have l1:∀ x ∈ p1,x.block<W.heap.size:=fun x hx=>hlt x (List.mem_append_right _ (List.mem_append_left _ hx))
  obtain ⟨x1,w1,i1⟩:=op23.val (hval 1 23 v1 rfl rfl) h1 l1 (fun n hn=>of_decide_eq_true (List.all_eq_true.1 hsz n (DataW.weights_mem_each (j:=1) rfl rfl n hn)))
  have l2:∀ x ∈ p2,x.block<W.heap.size:=fun x hx=>hlt x (List.mem_append_right _ (List.mem_append_right _ (List.mem_append_left _ hx)))
  obtain ⟨x2,w2,i2⟩:=op63.val (hval 2 63 v2 rfl rfl) h2 l2 (fun n hn=>of_decide_eq_true (List.all_eq_true.1 hsz n (DataW.weights_mem_each (j:=2) rfl rfl n hn)))
  refine (Pure.below (f7_ok (f7_eq x0 x1 x2 (by have:=w1.1;omega) w0.1)) (w:=W) (us:=#[v0,v1,v2]) ⟨i0,i1,i2,trivial⟩).mono fun e W' ⟨he,hb,hz⟩=>?_
  subst he
  exact ⟨_,rfl,post_still (pa:=(p0++(p1++(p2++[])))) hW' (fun _ _ _=>(trodAll_cons_mk (shut_bool Tryz.underlying4 _) trodAll_mk0)) (fun sp hsp=>(trodAll_cons_mk (Trod_stays laid (by kernel_rfl) (of_decide_eq_true (by kernel_rfl)) h0 (fun x hx=>hb.same (l0 x hx)) (fun x hx=>hsp x (List.mem_append_left _ (List.mem_append_left _ hx)))) (trodAll_cons_mk (Trod_stays laid (by kernel_rfl) (of_decide_eq_true (by kernel_rfl)) h1 (fun x hx=>hb.same (l1 x hx)) (fun x hx=>hsp x (List.mem_append_left _ (List.mem_append_right _ (List.mem_append_left _ hx))))) (trodAll_cons_mk (Trod_stays laid (by kernel_rfl) (of_decide_eq_true (by kernel_rfl)) h2 (fun x hx=>hb.same (l2 x hx)) (fun x hx=>hsp x (List.mem_append_left _ (List.mem_append_right _ (List.mem_append_right _ (List.mem_append_left _ hx)))))) trodAll_mk0)))) (fun _=>rfl) rfl
    (hb.frame _) hz (ok_one (by kernel_rfl) rfl (okWide_bool_mk Tryz.underlying4 _))⟩

theorem j0:(Rows.selectionOnceRow.inPlace == Tryz.prog.inPlace 7)=true:=by kernel_rfl
theorem j1:(Rows.selectionOnceRow.unfollowed == Tryz.prog.unfollowed 7)=true:=by kernel_rfl
theorem j2:(Rows.selectionOnceRow.recurses == Tryz.prog.recurses 7)=true:=by kernel_rfl
theorem j3:(Rows.selectionOnceRow.named == Tryz.prog.varsNamed 7)=true:=by kernel_rfl
theorem j4:(Tryz.prog.stops == [])=true:=by kernel_rfl
theorem j5:Tryz.prog.stopsHeard=true:=by kernel_rfl
theorem j6:Tryz.prog.mayEnter=true:=by kernel_rfl
theorem j7:(Rows.selectionOnceRow.lifted == Tryz.prog.liftsFinal)=true:=by kernel_rfl
theorem j8:mapsRowed Tryz.prog=true:=by kernel_rfl
theorem j9:(Tryz.prog.stopKnobs == [])=true:=by kernel_rfl
theorem j10:(Rows.selectionOnceRow.plainKeys == Tryz.prog.plainKeys)=true:=by kernel_rfl
theorem closed:joinedFacts Tryz.prog 7 Tryz.f7 Rows.selectionOnceSpec Rows.selectionOnceRow=true:=by
  unfold joinedFacts
  rw[laid,j0,j1,j2,j3,j4,j5,j6,j7,j8,j9,j10]
  kernel_rfl

theorem over:Rows.selectionOnceRow.holds Tryz.pinned (OpenSpec.ofChange Rows.selectionOnceSpec) :=
  OpenClaim.holds_of_wide 7 Tryz.f7 rfl rfl rfl rfl rfl rfl rfl ⟨rfl,rfl,rfl,rfl,rfl⟩ rfl rfl rfl rfl rfl (by kernel_rfl) Tryz.func7 closed
    (of_decide_eq_true (by kernel_rfl)) (by unfold Func.isWrapper;first | (rw[if_pos (by decide +kernel)];kernel_rfl) | (rw[if_neg (by decide +kernel)];exact ⟨rfl,rfl⟩))
    (fun os started H enc _=>lifted os started H enc)

/-- The statement. -/
theorem proved:Rows.SelectionOnceSaid :=
  over

theorem plain (f : FuncId) (fn : Func) (hf : Tryz.pinned.checked.prog.funcNamed "luminaire/luminairelaw41.SelectionOnce" = some f) (hfn : Tryz.pinned.checked.prog.funcs[f]? = some fn) :
    false=Tryz.pinned.checked.prog.looks []∧∀ (j:Nat) t,fn.params[j]? = some t→Tryz.pinned.checked.prog.wantsStandIn t=false:=by
  obtain rfl : f = 7 := Option.some.inj ((show Tryz.prog.funcNamed "luminaire/luminairelaw41.SelectionOnce" = some 7 by kernel_rfl).symm.trans hf) |>.symm
  obtain rfl:fn=Tryz.f7:=(Option.some.inj (Tryz.func7.symm.trans hfn)).symm
  refine ⟨by kernel_rfl,fun j t ht=>?_⟩
  rw[Tryz.params7] at ht
  have hm:=Array.mem_of_getElem? ht
  simp only[List.mem_toArray,List.mem_cons,List.not_mem_nil,or_false] at hm
  rcases hm with rfl | rfl | rfl
  · exact (show Tryz.prog.wantsStandIn 22=false by kernel_rfl)
  · exact (show Tryz.prog.wantsStandIn 23=false by kernel_rfl)
  · exact (show Tryz.prog.wantsStandIn 63=false by kernel_rfl)

/-- The card. -/
theorem card:Rows.SelectionOnceCardSaid :=
  Claim7.holds_tied_plain_at .later [] _ _ _ _ proved (fun _ h=>by cases h) (by kernel_rfl) (fun _ h=>by cases h) selectionOnce_row_tie rfl ⟨rfl,rfl⟩ (by kernel_rfl) rfl plain (by kernel_rfl)
end Go.Proofs.YtnaemmpcffnbkaaGreatDoor.selectionOnce
