/-
  The law PatchFits of the seat holds for every input: called with any values of its parameter types, the function returns true, and its arguments read as before.
  Conditions: none.
-/
import Derived.Test.YthikbfhdebaceaaR8
import Derived.Test.YthikbfhdebaceaaRows
import Derived.WalkKit
import Derived.ProofKit
import Derived.OpenShut
namespace Go.Proofs.Ythikbfhdebaceaa.patchFits
open Go Go.ChangeShapes Go.WideShapes Go.ChangeAt Go.RowKit Go.Ab Go.WideElems
set_option linter.unusedVariables false

theorem own : ownKnob Try.prog.godebug = none := by kernel_rfl
theorem laid : laidOutB Try.prog = true := by kernel_rfl
theorem op3 : Opens Try.prog 3 0 (AV.int .i64) (fun n => (Lit.int .i64 n).wf = true) := opens_int Try.underlying3 (by kernel_rfl)
theorem op9 : Opens Try.prog 9 0 AV.str (fun s => s.length ≤ 140737488351232) := opens_str Try.underlying9 (by kernel_rfl)
theorem op57 : Opens Try.prog 57 7 eApiFixture (fun x => (fun n => (Lit.int .i64 n).wf = true) x.fChannel ∧ (fun n => (Lit.int .i64 n).wf = true) x.fPart ∧ (fun s => s.length ≤ 140737488351232) x.fProfile ∧ (fun n => (Lit.int .i64 n).wf = true) x.fUniverse ∧ (fun n => (Lit.int .i64 n).wf = true) x.fAddress ∧ (fun n => (Lit.int .i64 n).wf = true) x.fPhase ∧ (fun s => s.length ≤ 140737488351232) x.fCable) := Opens.struct Try.underlying57 (by kernel_rfl) (by decide) fun encH W n cs xs hlt hl hn hf hw => by
  have hl : cs.length = 7 := hl
  rcases cs with _ | ⟨c0, _ | ⟨c1, _ | ⟨c2, _ | ⟨c3, _ | ⟨c4, _ | ⟨c5, _ | ⟨c6, _ | ⟨_, _⟩⟩⟩⟩⟩⟩⟩⟩
  all_goals first | (simp only [List.length_cons, List.length_nil] at hl; omega) | skip
  obtain ⟨x0, w0, r0⟩ := op3.field hlt hn hf hw 0 rfl rfl rfl
  obtain ⟨x1, w1, r1⟩ := op3.field hlt hn hf hw 1 rfl rfl rfl
  obtain ⟨x2, w2, r2⟩ := op9.field hlt hn hf hw 2 rfl rfl rfl
  obtain ⟨x3, w3, r3⟩ := op3.field hlt hn hf hw 3 rfl rfl rfl
  obtain ⟨x4, w4, r4⟩ := op3.field hlt hn hf hw 4 rfl rfl rfl
  obtain ⟨x5, w5, r5⟩ := op3.field hlt hn hf hw 5 rfl rfl rfl
  obtain ⟨x6, w6, r6⟩ := op9.field hlt hn hf hw 6 rfl rfl rfl
  exact ⟨⟨x0, x1, x2, x3, x4, x5, x6⟩, ⟨w0, w1, w2, w3, w4, w5, w6⟩, RIL.append r0 (RIL.append r1 (RIL.append r2 (RIL.append r3 (RIL.append r4 (RIL.append r5 (r6))))))⟩
theorem op22 : Opens Try.prog 22 0 (eL 7 eApiFixture) (fun xs => xs.length * 72 ≤ 140737488351232 ∧ ∀ x ∈ xs, (fun x => (fun n => (Lit.int .i64 n).wf = true) x.fChannel ∧ (fun n => (Lit.int .i64 n).wf = true) x.fPart ∧ (fun s => s.length ≤ 140737488351232) x.fProfile ∧ (fun n => (Lit.int .i64 n).wf = true) x.fUniverse ∧ (fun n => (Lit.int .i64 n).wf = true) x.fAddress ∧ (fun n => (Lit.int .i64 n).wf = true) x.fPhase ∧ (fun s => s.length ≤ 140737488351232) x.fCable) x) := opens_sl op57 Try.underlying22 (by kernel_rfl) (B := 72) (by kernel_rfl)
theorem op4 : Opens Try.prog 4 0 AV.bool (fun _ => True) := opens_bool Try.underlying4 (by kernel_rfl)
theorem op133 : Opens Try.prog 133 3 eApiSlot (fun x => (fun s => s.length ≤ 140737488351232) x.fName ∧ (fun n => (Lit.int .i64 n).wf = true) x.fFrom ∧ (fun n => (Lit.int .i64 n).wf = true) x.fTo) := Opens.struct Try.underlying133 (by kernel_rfl) (by decide) fun encH W n cs xs hlt hl hn hf hw => by
  have hl : cs.length = 3 := hl
  rcases cs with _ | ⟨c0, _ | ⟨c1, _ | ⟨c2, _ | ⟨_, _⟩⟩⟩⟩
  all_goals first | (simp only [List.length_cons, List.length_nil] at hl; omega) | skip
  obtain ⟨x0, w0, r0⟩ := op9.field hlt hn hf hw 0 rfl rfl rfl
  obtain ⟨x1, w1, r1⟩ := op3.field hlt hn hf hw 1 rfl rfl rfl
  obtain ⟨x2, w2, r2⟩ := op3.field hlt hn hf hw 2 rfl rfl rfl
  exact ⟨⟨x0, x1, x2⟩, ⟨w0, w1, w2⟩, RIL.append r0 (RIL.append r1 (r2))⟩
theorem op58 : Opens Try.prog 58 0 (eL 3 eApiSlot) (fun xs => xs.length * 32 ≤ 140737488351232 ∧ ∀ x ∈ xs, (fun x => (fun s => s.length ≤ 140737488351232) x.fName ∧ (fun n => (Lit.int .i64 n).wf = true) x.fFrom ∧ (fun n => (Lit.int .i64 n).wf = true) x.fTo) x) := opens_sl op133 Try.underlying58 (by kernel_rfl) (B := 32) (by kernel_rfl)
theorem op60 : Opens Try.prog 60 10 eApiFeature (fun x => (fun n => (Lit.int .i64 n).wf = true) x.fAttr ∧ (fun n => (Lit.int .i64 n).wf = true) x.fBits ∧ (fun n => (Lit.int .i64 n).wf = true) x.fCoarse ∧ (fun n => (Lit.int .i64 n).wf = true) x.fFine ∧ (fun n => (Lit.int .i64 n).wf = true) x.fCurve ∧ (fun n => (Lit.int .i64 n).wf = true) x.fHome ∧ (fun n => (Lit.int .i64 n).wf = true) x.fLow ∧ (fun n => (Lit.int .i64 n).wf = true) x.fHigh ∧ (fun _ => True) x.fSnap ∧ (fun xs => xs.length * 32 ≤ 140737488351232 ∧ ∀ x ∈ xs, (fun x => (fun s => s.length ≤ 140737488351232) x.fName ∧ (fun n => (Lit.int .i64 n).wf = true) x.fFrom ∧ (fun n => (Lit.int .i64 n).wf = true) x.fTo) x) x.fWheel) := Opens.struct Try.underlying60 (by kernel_rfl) (by decide) fun encH W n cs xs hlt hl hn hf hw => by
  have hl : cs.length = 10 := hl
  rcases cs with _ | ⟨c0, _ | ⟨c1, _ | ⟨c2, _ | ⟨c3, _ | ⟨c4, _ | ⟨c5, _ | ⟨c6, _ | ⟨c7, _ | ⟨c8, _ | ⟨c9, _ | ⟨_, _⟩⟩⟩⟩⟩⟩⟩⟩⟩⟩⟩
  all_goals first | (simp only [List.length_cons, List.length_nil] at hl; omega) | skip
  obtain ⟨x0, w0, r0⟩ := op3.field hlt hn hf hw 0 rfl rfl rfl
  obtain ⟨x1, w1, r1⟩ := op3.field hlt hn hf hw 1 rfl rfl rfl
  obtain ⟨x2, w2, r2⟩ := op3.field hlt hn hf hw 2 rfl rfl rfl
  obtain ⟨x3, w3, r3⟩ := op3.field hlt hn hf hw 3 rfl rfl rfl
  obtain ⟨x4, w4, r4⟩ := op3.field hlt hn hf hw 4 rfl rfl rfl
  obtain ⟨x5, w5, r5⟩ := op3.field hlt hn hf hw 5 rfl rfl rfl
  obtain ⟨x6, w6, r6⟩ := op3.field hlt hn hf hw 6 rfl rfl rfl
  obtain ⟨x7, w7, r7⟩ := op3.field hlt hn hf hw 7 rfl rfl rfl
  obtain ⟨x8, w8, r8⟩ := op4.field hlt hn hf hw 8 rfl rfl rfl
  obtain ⟨x9, w9, r9⟩ := op58.field hlt hn hf hw 9 rfl rfl rfl
  exact ⟨⟨x0, x1, x2, x3, x4, x5, x6, x7, x8, x9⟩, ⟨w0, w1, w2, w3, w4, w5, w6, w7, w8, w9⟩, RIL.append r0 (RIL.append r1 (RIL.append r2 (RIL.append r3 (RIL.append r4 (RIL.append r5 (RIL.append r6 (RIL.append r7 (RIL.append r8 (r9)))))))))⟩
theorem op67 : Opens Try.prog 67 0 (eL 10 eApiFeature) (fun xs => xs.length * 96 ≤ 140737488351232 ∧ ∀ x ∈ xs, (fun x => (fun n => (Lit.int .i64 n).wf = true) x.fAttr ∧ (fun n => (Lit.int .i64 n).wf = true) x.fBits ∧ (fun n => (Lit.int .i64 n).wf = true) x.fCoarse ∧ (fun n => (Lit.int .i64 n).wf = true) x.fFine ∧ (fun n => (Lit.int .i64 n).wf = true) x.fCurve ∧ (fun n => (Lit.int .i64 n).wf = true) x.fHome ∧ (fun n => (Lit.int .i64 n).wf = true) x.fLow ∧ (fun n => (Lit.int .i64 n).wf = true) x.fHigh ∧ (fun _ => True) x.fSnap ∧ (fun xs => xs.length * 32 ≤ 140737488351232 ∧ ∀ x ∈ xs, (fun x => (fun s => s.length ≤ 140737488351232) x.fName ∧ (fun n => (Lit.int .i64 n).wf = true) x.fFrom ∧ (fun n => (Lit.int .i64 n).wf = true) x.fTo) x) x.fWheel) x) := opens_sl op60 Try.underlying67 (by kernel_rfl) (B := 96) (by kernel_rfl)
theorem op69 : Opens Try.prog 69 4 eApiProfile (fun x => (fun s => s.length ≤ 140737488351232) x.fName ∧ (fun n => (Lit.int .i64 n).wf = true) x.fFootprint ∧ (fun n => (Lit.int .i64 n).wf = true) x.fWatts ∧ (fun xs => xs.length * 96 ≤ 140737488351232 ∧ ∀ x ∈ xs, (fun x => (fun n => (Lit.int .i64 n).wf = true) x.fAttr ∧ (fun n => (Lit.int .i64 n).wf = true) x.fBits ∧ (fun n => (Lit.int .i64 n).wf = true) x.fCoarse ∧ (fun n => (Lit.int .i64 n).wf = true) x.fFine ∧ (fun n => (Lit.int .i64 n).wf = true) x.fCurve ∧ (fun n => (Lit.int .i64 n).wf = true) x.fHome ∧ (fun n => (Lit.int .i64 n).wf = true) x.fLow ∧ (fun n => (Lit.int .i64 n).wf = true) x.fHigh ∧ (fun _ => True) x.fSnap ∧ (fun xs => xs.length * 32 ≤ 140737488351232 ∧ ∀ x ∈ xs, (fun x => (fun s => s.length ≤ 140737488351232) x.fName ∧ (fun n => (Lit.int .i64 n).wf = true) x.fFrom ∧ (fun n => (Lit.int .i64 n).wf = true) x.fTo) x) x.fWheel) x) x.fFeatures) := Opens.struct Try.underlying69 (by kernel_rfl) (by decide) fun encH W n cs xs hlt hl hn hf hw => by
  have hl : cs.length = 4 := hl
  rcases cs with _ | ⟨c0, _ | ⟨c1, _ | ⟨c2, _ | ⟨c3, _ | ⟨_, _⟩⟩⟩⟩⟩
  all_goals first | (simp only [List.length_cons, List.length_nil] at hl; omega) | skip
  obtain ⟨x0, w0, r0⟩ := op9.field hlt hn hf hw 0 rfl rfl rfl
  obtain ⟨x1, w1, r1⟩ := op3.field hlt hn hf hw 1 rfl rfl rfl
  obtain ⟨x2, w2, r2⟩ := op3.field hlt hn hf hw 2 rfl rfl rfl
  obtain ⟨x3, w3, r3⟩ := op67.field hlt hn hf hw 3 rfl rfl rfl
  exact ⟨⟨x0, x1, x2, x3⟩, ⟨w0, w1, w2, w3⟩, RIL.append r0 (RIL.append r1 (RIL.append r2 (r3)))⟩
theorem op23 : Opens Try.prog 23 0 (eL 4 eApiProfile) (fun xs => xs.length * 56 ≤ 140737488351232 ∧ ∀ x ∈ xs, (fun x => (fun s => s.length ≤ 140737488351232) x.fName ∧ (fun n => (Lit.int .i64 n).wf = true) x.fFootprint ∧ (fun n => (Lit.int .i64 n).wf = true) x.fWatts ∧ (fun xs => xs.length * 96 ≤ 140737488351232 ∧ ∀ x ∈ xs, (fun x => (fun n => (Lit.int .i64 n).wf = true) x.fAttr ∧ (fun n => (Lit.int .i64 n).wf = true) x.fBits ∧ (fun n => (Lit.int .i64 n).wf = true) x.fCoarse ∧ (fun n => (Lit.int .i64 n).wf = true) x.fFine ∧ (fun n => (Lit.int .i64 n).wf = true) x.fCurve ∧ (fun n => (Lit.int .i64 n).wf = true) x.fHome ∧ (fun n => (Lit.int .i64 n).wf = true) x.fLow ∧ (fun n => (Lit.int .i64 n).wf = true) x.fHigh ∧ (fun _ => True) x.fSnap ∧ (fun xs => xs.length * 32 ≤ 140737488351232 ∧ ∀ x ∈ xs, (fun x => (fun s => s.length ≤ 140737488351232) x.fName ∧ (fun n => (Lit.int .i64 n).wf = true) x.fFrom ∧ (fun n => (Lit.int .i64 n).wf = true) x.fTo) x) x.fWheel) x) x.fFeatures) x) := opens_sl op69 Try.underlying23 (by kernel_rfl) (B := 56) (by kernel_rfl)
set_option maxRecDepth 100000 in
theorem lifted (os : Os) (started : os.Started) (H : Type) (enc : TypeId × Value → H) :
    ReturnsInHanded {} Try.checked os 8 .any (Rows.patchFitsSpec.pre6 enc Try.prog Try.f8 Rows.patchFitsRow.domain false) (Rows.patchFitsSpec.post enc Try.prog Try.f8 false true false false) := by
  refine returnsInHanded_of_change_sized (C := Try.checked) own started (by kernel_rfl) Try.func8
    (ChangeSpec.witness6 (enc := enc) (C := Try.checked) false ⟨#[], #[.slice none 0 0, .slice none 0 0, .agg #[.int .i64 0, .int .i64 0, .string ⟨#[]⟩, .int .i64 0, .int .i64 0, .int .i64 0, .string ⟨#[]⟩]], []⟩ 8 (by kernel_rfl) (by kernel_rfl) (by kernel_rfl) (by kernel_rfl)) ?_
  intro W base args ds gs before hval0 hW hcnd hsz _
  have hval : ∀ (j : Nat) t v, Try.f8.params[j]? = some t → args[j]? = some v → Value.okWide Try.prog W .any base t v := hval0
  have hW' := hW
  obtain ⟨p, q, hA0, hV, rfl, hfz, hnd⟩ := hW
  have hA : DataW.TrodAll enc Try.prog W 0 (fun _ => true) true Try.f8.params.toList args.toList ds p := hA0
  rw [Try.params8] at hA hval
  obtain ⟨v0, vs0, d0, ds0, p0, q0, hargs, rfl, rfl, h0, r0⟩ := trodAll_cons hA
  obtain ⟨v1, vs1, d1, ds1, p1, q1, rfl, rfl, rfl, h1, r1⟩ := trodAll_cons r0
  obtain ⟨v2, vs2, d2, ds2, p2, q2, rfl, rfl, rfl, h2, r2⟩ := trodAll_cons r1
  obtain ⟨rfl, rfl, rfl⟩ := trodAll_nil r2
  obtain rfl : args = #[v0, v1, v2] := by cases args; simp_all
  obtain ⟨rfl, rfl⟩ := trodVars_none hV
  have hlt : ∀ x ∈ (p0 ++ (p1 ++ (p2 ++ []))), x.block < W.heap.size := fun x hx => by simpa using hW'.lt x (List.mem_append_left _ hx)
  have l0 : ∀ x ∈ p0, x.block < W.heap.size := fun x hx => hlt x (List.mem_append_left _ hx)
  obtain ⟨x0, w0, i0⟩ := op22.val (hval 0 22 v0 rfl rfl) h0 l0 (fun n hn => of_decide_eq_true (List.all_eq_true.1 hsz n (DataW.weights_mem_each (j := 0) rfl rfl n hn)))
  have l1 : ∀ x ∈ p1, x.block < W.heap.size := fun x hx => hlt x (List.mem_append_right _ (List.mem_append_left _ hx))
  obtain ⟨x1, w1, i1⟩ := op23.val (hval 1 23 v1 rfl rfl) h1 l1 (fun n hn => of_decide_eq_true (List.all_eq_true.1 hsz n (DataW.weights_mem_each (j := 1) rfl rfl n hn)))
  have l2 : ∀ x ∈ p2, x.block < W.heap.size := fun x hx => hlt x (List.mem_append_right _ (List.mem_append_right _ (List.mem_append_left _ hx)))
  obtain ⟨x2, w2, i2⟩ := op57.val (hval 2 57 v2 rfl rfl) h2 l2 (fun n hn => of_decide_eq_true (List.all_eq_true.1 hsz n (DataW.weights_mem_each (j := 2) rfl rfl n hn)))
  refine (Pure.below (f8_ok (f8_eq x0 x1 x2 (fun x hx => Nat.le_trans (w0.2 x hx).2.2.2.2.2.2 (by decide)))) (w := W) (us := #[v0, v1, v2]) ⟨i0, i1, i2, trivial⟩).mono fun e W' ⟨he, hb, hz⟩ => ?_
  subst he
  exact ⟨_, rfl, post_still (pa := (p0 ++ (p1 ++ (p2 ++ [])))) hW' (fun _ _ _ => (trodAll_cons_mk (shut_bool Try.underlying4 _) trodAll_mk0)) (fun sp hsp => (trodAll_cons_mk (Trod_stays laid (by kernel_rfl) (of_decide_eq_true (by kernel_rfl)) h0 (fun x hx => hb.same (l0 x hx)) (fun x hx => hsp x (List.mem_append_left _ (List.mem_append_left _ hx)))) (trodAll_cons_mk (Trod_stays laid (by kernel_rfl) (of_decide_eq_true (by kernel_rfl)) h1 (fun x hx => hb.same (l1 x hx)) (fun x hx => hsp x (List.mem_append_left _ (List.mem_append_right _ (List.mem_append_left _ hx))))) (trodAll_cons_mk (Trod_stays laid (by kernel_rfl) (of_decide_eq_true (by kernel_rfl)) h2 (fun x hx => hb.same (l2 x hx)) (fun x hx => hsp x (List.mem_append_left _ (List.mem_append_right _ (List.mem_append_right _ (List.mem_append_left _ hx)))))) trodAll_mk0)))) (fun _ => rfl) rfl
    (hb.frame _) hz (ok_one (by kernel_rfl) rfl (okWide_bool_mk Try.underlying4 _))⟩

theorem over : Rows.patchFitsRow.holds Try.pinned (OpenSpec.ofChange Rows.patchFitsSpec) :=
  OpenClaim.holds_of_wide 8 Try.f8 rfl rfl rfl rfl rfl rfl rfl ⟨rfl, rfl, rfl, rfl, rfl⟩ rfl rfl rfl rfl rfl (by kernel_rfl) Try.func8 (by kernel_rfl)
    (of_decide_eq_true (by kernel_rfl)) (by unfold Func.isWrapper; first | (rw [if_pos (by decide +kernel)]; kernel_rfl) | (rw [if_neg (by decide +kernel)]; exact ⟨rfl, rfl⟩))
    (fun os started H enc _ => lifted os started H enc)

/-- The statement. -/
theorem proved : Rows.PatchFitsSaid :=
  over
end Go.Proofs.Ythikbfhdebaceaa.patchFits
