/-
  The law SelectionRanges of the seat holds for every input: called with any values of its parameter types,the function returns true,and its arguments read as before.
  Conditions: none.
-/
import Derived.Test.YtnaemmpcffnbkaaGreatDoorRPN
import Derived.Test.YtnaemmpcffnbkaaGreatDoorRows
import Derived.WalkKit
import Derived.ProofKit
import Derived.OpenShut
import Derived.Test.YtnaemmpcffnbkaaGreatDoorTie
import Derived.Test.YtnaemmpcffnbkaaGreatDoorCards
import Derived.LaidMore
import Derived.Lay
import Derived.SevenTiedAt
import Derived.Stop.Joined
import Derived.Deep.DeepHandedRow
namespace Go.Proofs.YtnaemmpcffnbkaaGreatDoor.selectionRanges
open Go Go.ChangeShapes Go.WideShapes Go.ChangeAt Go.RowKit Go.Ab Go.WideElems
set_option linter.unusedVariables false

theorem own:ownKnob Tryz.prog.godebug=none:=by kernel_rfl
theorem laid:laidOutB Tryz.prog=true:=by kernel_rfl
theorem op3:Opens Tryz.prog 3 0 (AV.int .i64) (fun n=>(Lit.int .i64 n).wf=true):=opens_int Tryz.underlying3 (by kernel_rfl)
theorem op63:Opens Tryz.prog 63 4 eApiSelect (fun x=>(fun n=>(Lit.int .i64 n).wf=true) x.fOp∧(fun n=>(Lit.int .i64 n).wf=true) x.fGroup∧(fun n=>(Lit.int .i64 n).wf=true) x.fFrom∧(fun n=>(Lit.int .i64 n).wf=true) x.fTo):=Opens.struct Tryz.underlying63 (by kernel_rfl) (by decide) fun encH W n cs xs hlt hl hn hf hw=>by
  have hl:cs.length=4:=hl
  rcases cs with _ | ⟨c0,_ | ⟨c1,_ | ⟨c2,_ | ⟨c3,_ | ⟨_,_⟩⟩⟩⟩⟩
  all_goals first | (simp only[List.length_cons,List.length_nil] at hl;omega) | skip
  obtain ⟨x0,w0,r0⟩:=op3.field hlt hn hf hw 0 rfl rfl rfl
  obtain ⟨x1,w1,r1⟩:=op3.field hlt hn hf hw 1 rfl rfl rfl
  obtain ⟨x2,w2,r2⟩:=op3.field hlt hn hf hw 2 rfl rfl rfl
  obtain ⟨x3,w3,r3⟩:=op3.field hlt hn hf hw 3 rfl rfl rfl
  exact ⟨⟨x0,x1,x2,x3⟩,⟨w0,w1,w2,w3⟩,RIL.append r0 (RIL.append r1 (RIL.append r2 (r3)))⟩
theorem op22:Opens Tryz.prog 22 0 (eL 4 eApiSelect) (fun xs=>xs.length * 32≤140737488351232∧∀ x ∈ xs,(fun x=>(fun n=>(Lit.int .i64 n).wf=true) x.fOp∧(fun n=>(Lit.int .i64 n).wf=true) x.fGroup∧(fun n=>(Lit.int .i64 n).wf=true) x.fFrom∧(fun n=>(Lit.int .i64 n).wf=true) x.fTo) x):=opens_sl op63 Tryz.underlying22 (by kernel_rfl) (B:=32) (by kernel_rfl)
set_option maxRecDepth 100000 in
theorem lifted(os:Os)(started:os.Started)(H:Type)(enc:TypeId×Value→H) :
    ReturnsInHanded {} Tryz.checked os 9 .any (fun w args=>(Rows.selectionRangesSpec.pre enc Tryz.prog Tryz.f9 Rows.selectionRangesRow.domain false w args∧laidMetH Tryz.prog Rows.selectionRangesRow.laid w)∧sizedMet enc Tryz.prog Tryz.f9 (OpenSpec.ofChange Rows.selectionRangesSpec) false w args) (Rows.selectionRangesSpec.post enc Tryz.prog Tryz.f9 false true false false):=by
  refine returnsInHanded_of_change_and (C:=Tryz.checked) (X:=fun w _=>laidMetH Tryz.prog Rows.selectionRangesRow.laid w) (fun _ _ _ hh h=>h.of_heap hh) own started (by kernel_rfl) Tryz.func9
    (ChangeSpec.witness_shaped (enc:=enc) (C:=Tryz.checked) (os:=os) (X:=fun w _=>laidMetH Tryz.prog Rows.selectionRangesRow.laid w) false (World.laidAll Tryz.prog os Rows.selectionRangesRow.laid) #[.slice none 0 0] 8 (World.laidAll_os _ _ _)
      (World.shaped_of_ZipB (by kernel_rfl) (by kernel_rfl)) (by kernel_rfl) (by kernel_rfl) (by kernel_rfl)
      (by rw[MakeChecks.laidMetH_plain _ _ _ (by kernel_rfl)];exact laidMet_laidAll _ (by kernel_rfl) (by kernel_rfl))) ?_
  intro W base args ds gs before hval0 hW hcnd hsz _ _
  have hval:∀ (j:Nat) t v,Tryz.f9.params[j]? = some t→args[j]? = some v→Value.okWide Tryz.prog W .any base t v:=hval0
  have hW':=hW
  obtain ⟨p,q,hA0,hV,rfl,hfz,hnd⟩:=hW
  have hA:DataW.TrodAll enc Tryz.prog W 0 (fun _=>true) true Tryz.f9.params.toList args.toList ds p:=hA0
  rw[Tryz.params9] at hA hval
  obtain ⟨v0,vs0,d0,ds0,p0,q0,hargs,rfl,rfl,h0,r0⟩:=trodAll_cons hA
  obtain ⟨rfl,rfl,rfl⟩:=trodAll_nil r0
  obtain rfl:args = #[v0]:=by cases args;simp_all
  obtain ⟨rfl,rfl⟩:=trodVars_none hV
  have hlt:∀ x ∈ (p0++[]),x.block<W.heap.size:=fun x hx=>by simpa using hW'.lt x (List.mem_append_left _ hx)
  have l0:∀ x ∈ p0,x.block<W.heap.size:=fun x hx=>hlt x (List.mem_append_left _ hx)
  obtain ⟨x0,w0,i0⟩:=op22.val (hval 0 22 v0 rfl rfl) h0 l0 (fun n hn=>of_decide_eq_true (List.all_eq_true.1 hsz n (DataW.weights_mem_each (j:=0) rfl rfl n hn)))
  refine (Pure.below (f9_ok (f9_eq x0)) (w:=W) (us:=#[v0]) ⟨i0,trivial⟩).mono fun e W' ⟨he,hb,hz⟩=>?_
  subst he
  exact ⟨_,rfl,post_still (pa:=(p0++[])) hW' (fun _ _ _=>(trodAll_cons_mk (shut_bool Tryz.underlying4 _) trodAll_mk0)) (fun sp hsp=>(trodAll_cons_mk (Trod_stays laid (by kernel_rfl) (of_decide_eq_true (by kernel_rfl)) h0 (fun x hx=>hb.same (l0 x hx)) (fun x hx=>hsp x (List.mem_append_left _ (List.mem_append_left _ hx)))) trodAll_mk0)) (fun _=>rfl) rfl
    (hb.frame _) hz (ok_one (by kernel_rfl) rfl (okWide_bool_mk Tryz.underlying4 _))⟩

theorem j0:(Rows.selectionRangesRow.inPlace == Tryz.prog.inPlace 9)=true:=by kernel_rfl
theorem j1:(Rows.selectionRangesRow.unfollowed == Tryz.prog.unfollowed 9)=true:=by kernel_rfl
theorem j2:(Rows.selectionRangesRow.recurses == Tryz.prog.recurses 9)=true:=by kernel_rfl
theorem j3:(Rows.selectionRangesRow.named == Tryz.prog.varsNamed 9)=true:=by kernel_rfl
theorem j4:(Tryz.prog.stops == [])=true:=by kernel_rfl
theorem j5:Tryz.prog.stopsHeard=true:=by kernel_rfl
theorem j6:Tryz.prog.mayEnter=true:=by kernel_rfl
theorem j7:(Rows.selectionRangesRow.lifted == Tryz.prog.liftsFinal)=true:=by kernel_rfl
theorem j8:mapsRowed Tryz.prog=true:=by kernel_rfl
theorem j9:(Tryz.prog.stopKnobs == [])=true:=by kernel_rfl
theorem j10:(Rows.selectionRangesRow.plainKeys == Tryz.prog.plainKeys)=true:=by kernel_rfl
theorem closed:joinedFacts Tryz.prog 9 Tryz.f9 Rows.selectionRangesSpec Rows.selectionRangesRow=true:=by
  unfold joinedFacts
  rw[laid,j0,j1,j2,j3,j4,j5,j6,j7,j8,j9,j10]
  kernel_rfl

theorem over:Rows.selectionRangesRow.holds Tryz.pinned (OpenSpec.ofChange Rows.selectionRangesSpec) :=
  OpenClaim.holds_of_wide 9 Tryz.f9 rfl rfl rfl rfl rfl rfl rfl ⟨rfl,rfl,rfl,rfl,rfl⟩ rfl rfl rfl rfl rfl (by kernel_rfl) Tryz.func9 closed
    (of_decide_eq_true (by kernel_rfl)) (by unfold Func.isWrapper;first | (rw[if_pos (by decide +kernel)];kernel_rfl) | (rw[if_neg (by decide +kernel)];exact ⟨rfl,rfl⟩))
    (fun os started H enc _=>lifted os started H enc)

/-- The statement. -/
theorem proved:Rows.SelectionRangesSaid :=
  over

theorem plain (f : FuncId) (fn : Func) (hf : Tryz.pinned.checked.prog.funcNamed "luminaire/luminairelaw41.SelectionRanges" = some f) (hfn : Tryz.pinned.checked.prog.funcs[f]? = some fn) :
    false=Tryz.pinned.checked.prog.looks []∧∀ (j:Nat) t,fn.params[j]? = some t→Tryz.pinned.checked.prog.wantsStandIn t=false:=by
  obtain rfl : f = 9 := Option.some.inj ((show Tryz.prog.funcNamed "luminaire/luminairelaw41.SelectionRanges" = some 9 by kernel_rfl).symm.trans hf) |>.symm
  obtain rfl:fn=Tryz.f9:=(Option.some.inj (Tryz.func9.symm.trans hfn)).symm
  refine ⟨by kernel_rfl,fun j t ht=>?_⟩
  rw[Tryz.params9] at ht
  have hm:=Array.mem_of_getElem? ht
  simp only[List.mem_toArray,List.mem_cons,List.not_mem_nil,or_false] at hm
  rcases hm with rfl
  · exact (show Tryz.prog.wantsStandIn 22=false by kernel_rfl)

/-- The card. -/
theorem card:Rows.SelectionRangesCardSaid :=
  Claim7.holds_tied_plain_at .later [] _ _ _ _ proved (fun _ h=>by cases h) (by kernel_rfl) (fun _ h=>by cases h) selectionRanges_row_tie rfl ⟨rfl,rfl⟩ (by kernel_rfl) rfl plain (by kernel_rfl)
end Go.Proofs.YtnaemmpcffnbkaaGreatDoor.selectionRanges
