/-
  The law NetworkReturns of the seat holds for every input: called with any values of its parameter types, the function returns true, and its arguments read as before.
  Conditions: none.
-/
import Derived.Test.YtlidbikdeboihaaQ11
import Derived.Test.YtlidbikdeboihaaRows
import Derived.WalkKit
import Derived.ProofKit
import Derived.OpenShut
namespace Go.Proofs.Ytlidbikdeboihaa.networkReturns
open Go Go.ChangeShapes Go.WideShapes Go.ChangeAt Go.RowKit Go.Ab Go.WideElems
set_option linter.unusedVariables false

theorem own : ownKnob Try.prog.godebug = none := by kernel_rfl
theorem laid : laidOutB Try.prog = true := by kernel_rfl
theorem op24 : Opens Try.prog 24 0 (AV.int .u64) (fun n => (Lit.int .u64 n).wf = true) := opens_int Try.underlying24 (by kernel_rfl)
theorem op3 : Opens Try.prog 3 0 (AV.int .i64) (fun n => (Lit.int .i64 n).wf = true) := opens_int Try.underlying3 (by kernel_rfl)
theorem op4 : Opens Try.prog 4 0 AV.bool (fun _ => True) := opens_bool Try.underlying4 (by kernel_rfl)
theorem op9 : Opens Try.prog 9 0 AV.str (fun s => s.length ≤ 140737488351232) := opens_str Try.underlying9 (by kernel_rfl)
theorem op62 : Opens Try.prog 62 7 eNetworkPacket (fun x => (fun n => (Lit.int .u64 n).wf = true) x.fSource ∧ (fun n => (Lit.int .i64 n).wf = true) x.fUniverse ∧ (fun n => (Lit.int .i64 n).wf = true) x.fPriority ∧ (fun n => (Lit.int .i64 n).wf = true) x.fSeq ∧ (fun n => (Lit.int .i64 n).wf = true) x.fSync ∧ (fun _ => True) x.fEnd ∧ (fun s => s.length ≤ 140737488351232) x.fSlots) := Opens.struct Try.underlying62 (by kernel_rfl) (by decide) fun encH W n cs xs hlt hl hn hf hw => by
  have hl : cs.length = 7 := hl
  rcases cs with _ | ⟨c0, _ | ⟨c1, _ | ⟨c2, _ | ⟨c3, _ | ⟨c4, _ | ⟨c5, _ | ⟨c6, _ | ⟨_, _⟩⟩⟩⟩⟩⟩⟩⟩
  all_goals first | (simp only [List.length_cons, List.length_nil] at hl; omega) | skip
  obtain ⟨x0, w0, r0⟩ := op24.field hlt hn hf hw 0 rfl rfl rfl
  obtain ⟨x1, w1, r1⟩ := op3.field hlt hn hf hw 1 rfl rfl rfl
  obtain ⟨x2, w2, r2⟩ := op3.field hlt hn hf hw 2 rfl rfl rfl
  obtain ⟨x3, w3, r3⟩ := op3.field hlt hn hf hw 3 rfl rfl rfl
  obtain ⟨x4, w4, r4⟩ := op3.field hlt hn hf hw 4 rfl rfl rfl
  obtain ⟨x5, w5, r5⟩ := op4.field hlt hn hf hw 5 rfl rfl rfl
  obtain ⟨x6, w6, r6⟩ := op9.field hlt hn hf hw 6 rfl rfl rfl
  exact ⟨⟨x0, x1, x2, x3, x4, x5, x6⟩, ⟨w0, w1, w2, w3, w4, w5, w6⟩, RIL.append r0 (RIL.append r1 (RIL.append r2 (RIL.append r3 (RIL.append r4 (RIL.append r5 (r6))))))⟩
theorem op83 : Opens Try.prog 83 0 (AV.int .u16) (fun n => (Lit.int .u16 n).wf = true) := opens_int Try.underlying83 (by kernel_rfl)
set_option maxRecDepth 100000 in
theorem lifted (os : Os) (started : os.Started) (H : Type) (enc : TypeId × Value → H) :
    ReturnsInHanded {} Try.checked os 11 .any (Rows.networkReturnsSpec.pre6 enc Try.prog Try.f11 Rows.networkReturnsRow.domain false) (Rows.networkReturnsSpec.post enc Try.prog Try.f11 false true false false) := by
  refine returnsInHanded_of_change_sized (C := Try.checked) own started (by kernel_rfl) Try.func11
    (ChangeSpec.witness6 (enc := enc) (C := Try.checked) false ⟨#[], #[.agg #[.int .u64 0, .int .i64 0, .int .i64 0, .int .i64 0, .int .i64 0, .bool false, .string ⟨#[]⟩], .int .u16 0], []⟩ 8 (by kernel_rfl) (by kernel_rfl) (by kernel_rfl) (by kernel_rfl)) ?_
  intro W base args ds gs before hval0 hW hcnd hsz _
  have hval : ∀ (j : Nat) t v, Try.f11.params[j]? = some t → args[j]? = some v → Value.okWide Try.prog W .any base t v := hval0
  have hW' := hW
  obtain ⟨p, q, hA0, hV, rfl, hfz, hnd⟩ := hW
  have hA : DataW.TrodAll enc Try.prog W 0 (fun _ => true) true Try.f11.params.toList args.toList ds p := hA0
  rw [Try.params11] at hA hval
  obtain ⟨v0, vs0, d0, ds0, p0, q0, hargs, rfl, rfl, h0, r0⟩ := trodAll_cons hA
  obtain ⟨v1, vs1, d1, ds1, p1, q1, rfl, rfl, rfl, h1, r1⟩ := trodAll_cons r0
  obtain ⟨rfl, rfl, rfl⟩ := trodAll_nil r1
  obtain rfl : args = #[v0, v1] := by cases args; simp_all
  obtain ⟨rfl, rfl⟩ := trodVars_none hV
  have hlt : ∀ x ∈ (p0 ++ (p1 ++ [])), x.block < W.heap.size := fun x hx => by simpa using hW'.lt x (List.mem_append_left _ hx)
  have l0 : ∀ x ∈ p0, x.block < W.heap.size := fun x hx => hlt x (List.mem_append_left _ hx)
  obtain ⟨x0, w0, i0⟩ := op62.val (hval 0 62 v0 rfl rfl) h0 l0 (fun n hn => of_decide_eq_true (List.all_eq_true.1 hsz n (DataW.weights_mem_each (j := 0) rfl rfl n hn)))
  have l1 : ∀ x ∈ p1, x.block < W.heap.size := fun x hx => hlt x (List.mem_append_right _ (List.mem_append_left _ hx))
  obtain ⟨x1, w1, i1⟩ := op83.val (hval 1 83 v1 rfl rfl) h1 l1 (fun n hn => of_decide_eq_true (List.all_eq_true.1 hsz n (DataW.weights_mem_each (j := 1) rfl rfl n hn)))
  refine (Pure.below (f11_ok (f11_eq x0 x1 (wf16 w1) (f28_some x0))) (w := W) (us := #[v0, v1]) ⟨i0, i1, trivial⟩).mono fun e W' ⟨he, hb, hz⟩ => ?_
  subst he
  exact ⟨_, rfl, post_still (pa := (p0 ++ (p1 ++ []))) hW' (fun _ _ _ => (trodAll_cons_mk (shut_bool Try.underlying4 _) trodAll_mk0)) (fun sp hsp => (trodAll_cons_mk (Trod_stays laid (by kernel_rfl) (of_decide_eq_true (by kernel_rfl)) h0 (fun x hx => hb.same (l0 x hx)) (fun x hx => hsp x (List.mem_append_left _ (List.mem_append_left _ hx)))) (trodAll_cons_mk (Trod_stays laid (by kernel_rfl) (of_decide_eq_true (by kernel_rfl)) h1 (fun x hx => hb.same (l1 x hx)) (fun x hx => hsp x (List.mem_append_left _ (List.mem_append_right _ (List.mem_append_left _ hx))))) trodAll_mk0))) (fun _ => rfl) rfl
    (hb.frame _) hz (ok_one (by kernel_rfl) rfl (okWide_bool_mk Try.underlying4 _))⟩

theorem over : Rows.networkReturnsRow.holds Try.pinned (OpenSpec.ofChange Rows.networkReturnsSpec) :=
  OpenClaim.holds_of_wide 11 Try.f11 rfl rfl rfl rfl rfl rfl rfl ⟨rfl, rfl, rfl, rfl, rfl⟩ rfl rfl rfl rfl rfl (by kernel_rfl) Try.func11 (by kernel_rfl)
    (of_decide_eq_true (by kernel_rfl)) (by unfold Func.isWrapper; first | (rw [if_pos (by decide +kernel)]; kernel_rfl) | (rw [if_neg (by decide +kernel)]; exact ⟨rfl, rfl⟩))
    (fun os started H enc _ => lifted os started H enc)

/-- The statement. -/
theorem proved : Rows.NetworkReturnsSaid :=
  over
end Go.Proofs.Ytlidbikdeboihaa.networkReturns
