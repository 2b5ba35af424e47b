/-
  The law TopNetworkDelivers of the seat holds for every input: called with any values of its parameter types, the function returns true, and its arguments read as before.
  Conditions: none.
-/
import Derived.Test.YtgfohogbechkkaaQI
import Derived.Test.YtgfohogbechkkaaRows
import Derived.WalkKit
import Derived.ProofKit
import Derived.OpenShut
namespace Go.Proofs.Ytgfohogbechkkaa.topNetworkDelivers
open Go Go.ChangeShapes Go.WideShapes Go.ChangeAt Go.RowKit Go.Ab Go.WideElems
set_option linter.unusedVariables false

theorem own : ownKnob Try.prog.godebug = none := by kernel_rfl
theorem laid : laidOutB Try.prog = true := by kernel_rfl
theorem op5 : Opens Try.prog 5 0 (AV.int .u8) (fun n => (Lit.int .u8 n).wf = true) := opens_int Try.underlying5 (by kernel_rfl)
theorem op4 : Opens Try.prog 4 0 AV.bool (fun _ => True) := opens_bool Try.underlying4 (by kernel_rfl)
theorem op103 : Opens Try.prog 103 4 eTopPlayBeat (fun x => (fun n => (Lit.int .u8 n).wf = true) x.fUniverse ∧ (fun n => (Lit.int .u8 n).wf = true) x.fAfter ∧ (fun n => (Lit.int .u8 n).wf = true) x.fValue ∧ (fun _ => True) x.fLost) := Opens.struct Try.underlying103 (by kernel_rfl) (by decide) fun encH W n cs xs hlt hl hn hf hw => by
  have hl : cs.length = 4 := hl
  rcases cs with _ | ⟨c0, _ | ⟨c1, _ | ⟨c2, _ | ⟨c3, _ | ⟨_, _⟩⟩⟩⟩⟩
  all_goals first | (simp only [List.length_cons, List.length_nil] at hl; omega) | skip
  obtain ⟨x0, w0, r0⟩ := op5.field hlt hn hf hw 0 rfl rfl rfl
  obtain ⟨x1, w1, r1⟩ := op5.field hlt hn hf hw 1 rfl rfl rfl
  obtain ⟨x2, w2, r2⟩ := op5.field hlt hn hf hw 2 rfl rfl rfl
  obtain ⟨x3, w3, r3⟩ := op4.field hlt hn hf hw 3 rfl rfl rfl
  exact ⟨⟨x0, x1, x2, x3⟩, ⟨w0, w1, w2, w3⟩, RIL.append r0 (RIL.append r1 (RIL.append r2 (r3)))⟩
theorem op99 : Opens Try.prog 99 0 (eL 4 eTopPlayBeat) (fun xs => xs.length * 4 ≤ 140737488351232 ∧ ∀ x ∈ xs, (fun x => (fun n => (Lit.int .u8 n).wf = true) x.fUniverse ∧ (fun n => (Lit.int .u8 n).wf = true) x.fAfter ∧ (fun n => (Lit.int .u8 n).wf = true) x.fValue ∧ (fun _ => True) x.fLost) x) := opens_sl op103 Try.underlying99 (by kernel_rfl) (B := 4) (by kernel_rfl)
set_option maxRecDepth 100000 in
theorem lifted (os : Os) (started : os.Started) (H : Type) (enc : TypeId × Value → H) :
    ReturnsInHanded {} Try.checked os 10 .any (Rows.topNetworkDeliversSpec.pre6 enc Try.prog Try.f10 Rows.topNetworkDeliversRow.domain false) (Rows.topNetworkDeliversSpec.post enc Try.prog Try.f10 false true false false) := by
  refine returnsInHanded_of_change_sized (C := Try.checked) own started (by kernel_rfl) Try.func10
    (ChangeSpec.witness6 (enc := enc) (C := Try.checked) false ⟨#[], #[.slice none 0 0], []⟩ 8 (by kernel_rfl) (by kernel_rfl) (by kernel_rfl) (by kernel_rfl)) ?_
  intro W base args ds gs before hval0 hW hcnd hsz _
  have hval : ∀ (j : Nat) t v, Try.f10.params[j]? = some t → args[j]? = some v → Value.okWide Try.prog W .any base t v := hval0
  have hW' := hW
  obtain ⟨p, q, hA0, hV, rfl, hfz, hnd⟩ := hW
  have hA : DataW.TrodAll enc Try.prog W 0 (fun _ => true) true Try.f10.params.toList args.toList ds p := hA0
  rw [Try.params10] at hA hval
  obtain ⟨v0, vs0, d0, ds0, p0, q0, hargs, rfl, rfl, h0, r0⟩ := trodAll_cons hA
  obtain ⟨rfl, rfl, rfl⟩ := trodAll_nil r0
  obtain rfl : args = #[v0] := by cases args; simp_all
  obtain ⟨rfl, rfl⟩ := trodVars_none hV
  have hlt : ∀ x ∈ (p0 ++ []), x.block < W.heap.size := fun x hx => by simpa using hW'.lt x (List.mem_append_left _ hx)
  have l0 : ∀ x ∈ p0, x.block < W.heap.size := fun x hx => hlt x (List.mem_append_left _ hx)
  obtain ⟨x0, w0, i0⟩ := op99.val (hval 0 99 v0 rfl rfl) h0 l0 (fun n hn => of_decide_eq_true (List.all_eq_true.1 hsz n (DataW.weights_mem_each (j := 0) rfl rfl n hn)))
  refine (Pure.below (f10_ok (f10_eq x0 (fun b hb => ⟨wf8 (w0.2 b hb).1, wf8 (w0.2 b hb).2.1⟩))) (w := W) (us := #[v0]) ⟨i0, trivial⟩).mono fun e W' ⟨he, hb, hz⟩ => ?_
  subst he
  exact ⟨_, rfl, post_still (pa := (p0 ++ [])) hW' (fun _ _ _ => (trodAll_cons_mk (shut_bool Try.underlying4 _) trodAll_mk0)) (fun sp hsp => (trodAll_cons_mk (Trod_stays laid (by kernel_rfl) (of_decide_eq_true (by kernel_rfl)) h0 (fun x hx => hb.same (l0 x hx)) (fun x hx => hsp x (List.mem_append_left _ (List.mem_append_left _ hx)))) trodAll_mk0)) (fun _ => rfl) rfl
    (hb.frame _) hz (ok_one (by kernel_rfl) rfl (okWide_bool_mk Try.underlying4 _))⟩

theorem over : Rows.topNetworkDeliversRow.holds Try.pinned (OpenSpec.ofChange Rows.topNetworkDeliversSpec) :=
  OpenClaim.holds_of_wide 10 Try.f10 rfl rfl rfl rfl rfl rfl rfl ⟨rfl, rfl, rfl, rfl, rfl⟩ rfl rfl rfl rfl rfl (by kernel_rfl) Try.func10 (by kernel_rfl)
    (of_decide_eq_true (by kernel_rfl)) (by unfold Func.isWrapper; first | (rw [if_pos (by decide +kernel)]; kernel_rfl) | (rw [if_neg (by decide +kernel)]; exact ⟨rfl, rfl⟩))
    (fun os started H enc _ => lifted os started H enc)

/-- The statement. -/
theorem proved : Rows.TopNetworkDeliversSaid :=
  over
end Go.Proofs.Ytgfohogbechkkaa.topNetworkDelivers
