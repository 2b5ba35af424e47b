/-
  The law GroupMirrors of the seat holds for every input: called with any values of its parameter types, the function returns true, and its arguments read as before.
  Conditions: none.
-/
import Derived.Test.YtccipmhffapcmaaR10
import Derived.Test.YtccipmhffapcmaaRows
import Derived.WalkKit
import Derived.ProofKit
import Derived.OpenShut
namespace Go.Proofs.Ytccipmhffapcmaa.groupMirrors
open Go Go.ChangeShapes Go.WideShapes Go.ChangeAt Go.RowKit Go.Ab Go.WideElems
set_option linter.unusedVariables false

theorem own : ownKnob Try.prog.godebug = none := by kernel_rfl
theorem laid : laidOutB Try.prog = true := by kernel_rfl
theorem op3 : Opens Try.prog 3 0 (AV.int .i64) (fun n => (Lit.int .i64 n).wf = true) := opens_int Try.underlying3 (by kernel_rfl)
theorem op22 : Opens Try.prog 22 0 (eL 0 (AV.int .i64)) (fun xs => xs.length * 8 ≤ 140737488351232 ∧ ∀ x ∈ xs, (fun n => (Lit.int .i64 n).wf = true) x) := opens_sl op3 Try.underlying22 (by kernel_rfl) (B := 8) (by kernel_rfl)
theorem op35 : Opens Try.prog 35 2 eApiGroup (fun x => (fun n => (Lit.int .i64 n).wf = true) x.fNumber ∧ (fun xs => xs.length * 8 ≤ 140737488351232 ∧ ∀ x ∈ xs, (fun n => (Lit.int .i64 n).wf = true) x) x.fChannels) := Opens.struct Try.underlying35 (by kernel_rfl) (by decide) fun encH W n cs xs hlt hl hn hf hw => by
  have hl : cs.length = 2 := hl
  rcases cs with _ | ⟨c0, _ | ⟨c1, _ | ⟨_, _⟩⟩⟩
  all_goals first | (simp only [List.length_cons, List.length_nil] at hl; omega) | skip
  obtain ⟨x0, w0, r0⟩ := op3.field hlt hn hf hw 0 rfl rfl rfl
  obtain ⟨x1, w1, r1⟩ := op22.field hlt hn hf hw 1 rfl rfl rfl
  exact ⟨⟨x0, x1⟩, ⟨w0, w1⟩, RIL.append r0 (r1)⟩
set_option maxRecDepth 100000 in
theorem lifted (os : Os) (started : os.Started) (H : Type) (enc : TypeId × Value → H) :
    ReturnsInHanded {} Try.checked os 10 .any (Rows.groupMirrorsSpec.pre6 enc Try.prog Try.f10 Rows.groupMirrorsRow.domain false) (Rows.groupMirrorsSpec.post enc Try.prog Try.f10 false true false false) := by
  refine returnsInHanded_of_change_sized (C := Try.checked) own started (by kernel_rfl) Try.func10
    (ChangeSpec.witness6 (enc := enc) (C := Try.checked) false ⟨#[], #[.agg #[.int .i64 0, .slice none 0 0]], []⟩ 8 (by kernel_rfl) (by kernel_rfl) (by kernel_rfl) (by kernel_rfl)) ?_
  intro W base args ds gs before hval0 hW hcnd hsz _
  have hval : ∀ (j : Nat) t v, Try.f10.params[j]? = some t → args[j]? = some v → Value.okWide Try.prog W .any base t v := hval0
  have hW' := hW
  obtain ⟨p, q, hA0, hV, rfl, hfz, hnd⟩ := hW
  have hA : DataW.TrodAll enc Try.prog W 0 (fun _ => true) true Try.f10.params.toList args.toList ds p := hA0
  rw [Try.params10] at hA hval
  obtain ⟨v0, vs0, d0, ds0, p0, q0, hargs, rfl, rfl, h0, r0⟩ := trodAll_cons hA
  obtain ⟨rfl, rfl, rfl⟩ := trodAll_nil r0
  obtain rfl : args = #[v0] := by cases args; simp_all
  obtain ⟨rfl, rfl⟩ := trodVars_none hV
  have hlt : ∀ x ∈ (p0 ++ []), x.block < W.heap.size := fun x hx => by simpa using hW'.lt x (List.mem_append_left _ hx)
  have l0 : ∀ x ∈ p0, x.block < W.heap.size := fun x hx => hlt x (List.mem_append_left _ hx)
  obtain ⟨x0, w0, i0⟩ := op35.val (hval 0 35 v0 rfl rfl) h0 l0 (fun n hn => of_decide_eq_true (List.all_eq_true.1 hsz n (DataW.weights_mem_each (j := 0) rfl rfl n hn)))
  refine (Pure.below (f10_ok (f10_eq x0)) (w := W) (us := #[v0]) ⟨i0, trivial⟩).mono fun e W' ⟨he, hb, hz⟩ => ?_
  subst he
  exact ⟨_, rfl, post_still (pa := (p0 ++ [])) hW' (fun _ _ _ => (trodAll_cons_mk (shut_bool Try.underlying4 _) trodAll_mk0)) (fun sp hsp => (trodAll_cons_mk (Trod_stays laid (by kernel_rfl) (of_decide_eq_true (by kernel_rfl)) h0 (fun x hx => hb.same (l0 x hx)) (fun x hx => hsp x (List.mem_append_left _ (List.mem_append_left _ hx)))) trodAll_mk0)) (fun _ => rfl) rfl
    (hb.frame _) hz (ok_one (by kernel_rfl) rfl (okWide_bool_mk Try.underlying4 _))⟩

theorem over : Rows.groupMirrorsRow.holds Try.pinned (OpenSpec.ofChange Rows.groupMirrorsSpec) :=
  OpenClaim.holds_of_wide 10 Try.f10 rfl rfl rfl rfl rfl rfl rfl ⟨rfl, rfl, rfl, rfl, rfl⟩ rfl rfl rfl rfl rfl (by kernel_rfl) Try.func10 (by kernel_rfl)
    (of_decide_eq_true (by kernel_rfl)) (by unfold Func.isWrapper; first | (rw [if_pos (by decide +kernel)]; kernel_rfl) | (rw [if_neg (by decide +kernel)]; exact ⟨rfl, rfl⟩))
    (fun os started H enc _ => lifted os started H enc)

/-- The statement. -/
theorem proved : Rows.GroupMirrorsSaid :=
  over
end Go.Proofs.Ytccipmhffapcmaa.groupMirrors
