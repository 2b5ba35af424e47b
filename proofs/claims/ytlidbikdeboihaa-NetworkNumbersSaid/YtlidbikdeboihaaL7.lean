/-
  The law NetworkNumbers of the seat holds for every input: called with any values of its parameter types, the function returns true, and its arguments read as before.
  Conditions: none.
-/
import Derived.Test.YtlidbikdeboihaaQ7
import Derived.Test.YtlidbikdeboihaaRows
import Derived.WalkKit
import Derived.ProofKit
import Derived.OpenShut
namespace Go.Proofs.Ytlidbikdeboihaa.networkNumbers
open Go Go.ChangeShapes Go.WideShapes Go.ChangeAt Go.RowKit Go.Ab Go.WideElems
set_option linter.unusedVariables false

theorem own : ownKnob Try.prog.godebug = none := by kernel_rfl
theorem laid : laidOutB Try.prog = true := by kernel_rfl
theorem op24 : Opens Try.prog 24 0 (AV.int .u64) (fun n => (Lit.int .u64 n).wf = true) := opens_int Try.underlying24 (by kernel_rfl)
theorem op3 : Opens Try.prog 3 0 (AV.int .i64) (fun n => (Lit.int .i64 n).wf = true) := opens_int Try.underlying3 (by kernel_rfl)
theorem op26 : Opens Try.prog 26 3 eLaw56Start (fun x => (fun n => (Lit.int .u64 n).wf = true) x.fSource ∧ (fun n => (Lit.int .i64 n).wf = true) x.fPriority ∧ (fun n => (Lit.int .i64 n).wf = true) x.fSync) := Opens.struct Try.underlying26 (by kernel_rfl) (by decide) fun encH W n cs xs hlt hl hn hf hw => by
  have hl : cs.length = 3 := hl
  rcases cs with _ | ⟨c0, _ | ⟨c1, _ | ⟨c2, _ | ⟨_, _⟩⟩⟩⟩
  all_goals first | (simp only [List.length_cons, List.length_nil] at hl; omega) | skip
  obtain ⟨x0, w0, r0⟩ := op24.field hlt hn hf hw 0 rfl rfl rfl
  obtain ⟨x1, w1, r1⟩ := op3.field hlt hn hf hw 1 rfl rfl rfl
  obtain ⟨x2, w2, r2⟩ := op3.field hlt hn hf hw 2 rfl rfl rfl
  exact ⟨⟨x0, x1, x2⟩, ⟨w0, w1, w2⟩, RIL.append r0 (RIL.append r1 (r2))⟩
theorem op5 : Opens Try.prog 5 0 (AV.int .u8) (fun n => (Lit.int .u8 n).wf = true) := opens_int Try.underlying5 (by kernel_rfl)
theorem op57 : Opens Try.prog 57 3 eLaw56Beat (fun x => (fun n => (Lit.int .u8 n).wf = true) x.fUniverse ∧ (fun n => (Lit.int .u8 n).wf = true) x.fAfter ∧ (fun n => (Lit.int .u8 n).wf = true) x.fValue) := Opens.struct Try.underlying57 (by kernel_rfl) (by decide) fun encH W n cs xs hlt hl hn hf hw => by
  have hl : cs.length = 3 := hl
  rcases cs with _ | ⟨c0, _ | ⟨c1, _ | ⟨c2, _ | ⟨_, _⟩⟩⟩⟩
  all_goals first | (simp only [List.length_cons, List.length_nil] at hl; omega) | skip
  obtain ⟨x0, w0, r0⟩ := op5.field hlt hn hf hw 0 rfl rfl rfl
  obtain ⟨x1, w1, r1⟩ := op5.field hlt hn hf hw 1 rfl rfl rfl
  obtain ⟨x2, w2, r2⟩ := op5.field hlt hn hf hw 2 rfl rfl rfl
  exact ⟨⟨x0, x1, x2⟩, ⟨w0, w1, w2⟩, RIL.append r0 (RIL.append r1 (r2))⟩
theorem op55 : Opens Try.prog 55 0 (eL 3 eLaw56Beat) (fun xs => xs.length * 3 ≤ 140737488351232 ∧ ∀ x ∈ xs, (fun x => (fun n => (Lit.int .u8 n).wf = true) x.fUniverse ∧ (fun n => (Lit.int .u8 n).wf = true) x.fAfter ∧ (fun n => (Lit.int .u8 n).wf = true) x.fValue) x) := opens_sl op57 Try.underlying55 (by kernel_rfl) (B := 3) (by kernel_rfl)
set_option maxRecDepth 100000 in
theorem lifted (os : Os) (started : os.Started) (H : Type) (enc : TypeId × Value → H) :
    ReturnsInHanded {} Try.checked os 7 .any (Rows.networkNumbersSpec.pre6 enc Try.prog Try.f7 Rows.networkNumbersRow.domain false) (Rows.networkNumbersSpec.post enc Try.prog Try.f7 false true false false) := by
  refine returnsInHanded_of_change_sized (C := Try.checked) own started (by kernel_rfl) Try.func7
    (ChangeSpec.witness6 (enc := enc) (C := Try.checked) false ⟨#[], #[.agg #[.int .u64 0, .int .i64 0, .int .i64 0], .slice none 0 0], []⟩ 8 (by kernel_rfl) (by kernel_rfl) (by kernel_rfl) (by kernel_rfl)) ?_
  intro W base args ds gs before hval0 hW hcnd hsz _
  have hval : ∀ (j : Nat) t v, Try.f7.params[j]? = some t → args[j]? = some v → Value.okWide Try.prog W .any base t v := hval0
  have hW' := hW
  obtain ⟨p, q, hA0, hV, rfl, hfz, hnd⟩ := hW
  have hA : DataW.TrodAll enc Try.prog W 0 (fun _ => true) true Try.f7.params.toList args.toList ds p := hA0
  rw [Try.params7] at hA hval
  obtain ⟨v0, vs0, d0, ds0, p0, q0, hargs, rfl, rfl, h0, r0⟩ := trodAll_cons hA
  obtain ⟨v1, vs1, d1, ds1, p1, q1, rfl, rfl, rfl, h1, r1⟩ := trodAll_cons r0
  obtain ⟨rfl, rfl, rfl⟩ := trodAll_nil r1
  obtain rfl : args = #[v0, v1] := by cases args; simp_all
  obtain ⟨rfl, rfl⟩ := trodVars_none hV
  have hlt : ∀ x ∈ (p0 ++ (p1 ++ [])), x.block < W.heap.size := fun x hx => by simpa using hW'.lt x (List.mem_append_left _ hx)
  have l0 : ∀ x ∈ p0, x.block < W.heap.size := fun x hx => hlt x (List.mem_append_left _ hx)
  obtain ⟨x0, w0, i0⟩ := op26.val (hval 0 26 v0 rfl rfl) h0 l0 (fun n hn => of_decide_eq_true (List.all_eq_true.1 hsz n (DataW.weights_mem_each (j := 0) rfl rfl n hn)))
  have l1 : ∀ x ∈ p1, x.block < W.heap.size := fun x hx => hlt x (List.mem_append_right _ (List.mem_append_left _ hx))
  obtain ⟨x1, w1, i1⟩ := op55.val (hval 1 55 v1 rfl rfl) h1 l1 (fun n hn => of_decide_eq_true (List.all_eq_true.1 hsz n (DataW.weights_mem_each (j := 1) rfl rfl n hn)))
  refine (Pure.below (f7_ok (f7_eq x0 x1 (fun b hb => ⟨wf8 (w1.2 b hb).1, wf8 (w1.2 b hb).2.1, wf8 (w1.2 b hb).2.2⟩))) (w := W) (us := #[v0, v1]) ⟨i0, i1, trivial⟩).mono fun e W' ⟨he, hb, hz⟩ => ?_
  subst he
  exact ⟨_, rfl, post_still (pa := (p0 ++ (p1 ++ []))) hW' (fun _ _ _ => (trodAll_cons_mk (shut_bool Try.underlying4 _) trodAll_mk0)) (fun sp hsp => (trodAll_cons_mk (Trod_stays laid (by kernel_rfl) (of_decide_eq_true (by kernel_rfl)) h0 (fun x hx => hb.same (l0 x hx)) (fun x hx => hsp x (List.mem_append_left _ (List.mem_append_left _ hx)))) (trodAll_cons_mk (Trod_stays laid (by kernel_rfl) (of_decide_eq_true (by kernel_rfl)) h1 (fun x hx => hb.same (l1 x hx)) (fun x hx => hsp x (List.mem_append_left _ (List.mem_append_right _ (List.mem_append_left _ hx))))) trodAll_mk0))) (fun _ => rfl) rfl
    (hb.frame _) hz (ok_one (by kernel_rfl) rfl (okWide_bool_mk Try.underlying4 _))⟩

theorem over : Rows.networkNumbersRow.holds Try.pinned (OpenSpec.ofChange Rows.networkNumbersSpec) :=
  OpenClaim.holds_of_wide 7 Try.f7 rfl rfl rfl rfl rfl rfl rfl ⟨rfl, rfl, rfl, rfl, rfl⟩ rfl rfl rfl rfl rfl (by kernel_rfl) Try.func7 (by kernel_rfl)
    (of_decide_eq_true (by kernel_rfl)) (by unfold Func.isWrapper; first | (rw [if_pos (by decide +kernel)]; kernel_rfl) | (rw [if_neg (by decide +kernel)]; exact ⟨rfl, rfl⟩))
    (fun os started H enc _ => lifted os started H enc)

/-- The statement. -/
theorem proved : Rows.NetworkNumbersSaid :=
  over
end Go.Proofs.Ytlidbikdeboihaa.networkNumbers
