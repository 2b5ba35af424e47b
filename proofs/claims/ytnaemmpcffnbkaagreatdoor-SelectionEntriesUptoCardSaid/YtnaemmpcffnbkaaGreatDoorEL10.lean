/-
  The law SelectionEntries of the seat holds for every input: called with any values of its parameter types, the function returns true, and its arguments read as before.
  Conditions: none.
-/
import Derived.Test.YtnaemmpcffnbkaaGreatDoorEPE
import Derived.Test.YtnaemmpcffnbkaaGreatDoorRows
import Derived.WalkKit
import Derived.ProofKit
import Derived.OpenShut
import Derived.Test.YtnaemmpcffnbkaaGreatDoorTie
import Derived.Test.YtnaemmpcffnbkaaGreatDoorCards
import Derived.LaidMore
import Derived.Lay
import Derived.SevenTiedAt
import Derived.Stop.Joined
import Derived.Deep.DeepHandedRow
namespace Go.Proofs.YtnaemmpcffnbkaaGreatDoor.selectionEntries
open Go Go.ChangeShapes Go.WideShapes Go.ChangeAt Go.RowKit Go.Ab Go.WideElems
set_option linter.unusedVariables false

theorem own : ownKnob Tryz.prog.godebug = none := by kernel_rfl
theorem laid : laidOutB Tryz.prog = true := by kernel_rfl
theorem op3 : Opens Tryz.prog 3 0 (AV.int .i64) (fun n => (Lit.int .i64 n).wf = true) := opens_int Tryz.underlying3 (by kernel_rfl)
theorem op69 : Opens Tryz.prog 69 2 eApiParam (fun x => (fun n => (Lit.int .i64 n).wf = true) x.fChannel ∧ (fun n => (Lit.int .i64 n).wf = true) x.fAttr) := Opens.struct Tryz.underlying69 (by kernel_rfl) (by decide) fun encH W n cs xs hlt hl hn hf hw => by
  have hl : cs.length = 2 := hl
  rcases cs with _ | ⟨c0, _ | ⟨c1, _ | ⟨_, _⟩⟩⟩
  all_goals first | (simp only [List.length_cons, List.length_nil] at hl; omega) | skip
  obtain ⟨x0, w0, r0⟩ := op3.field hlt hn hf hw 0 rfl rfl rfl
  obtain ⟨x1, w1, r1⟩ := op3.field hlt hn hf hw 1 rfl rfl rfl
  exact ⟨⟨x0, x1⟩, ⟨w0, w1⟩, RIL.append r0 (r1)⟩
theorem op47 : Opens Tryz.prog 47 0 (eL 2 eApiParam) (fun xs => xs.length * 16 ≤ 140737488351232 ∧ ∀ x ∈ xs, (fun x => (fun n => (Lit.int .i64 n).wf = true) x.fChannel ∧ (fun n => (Lit.int .i64 n).wf = true) x.fAttr) x) := opens_sl op69 Tryz.underlying47 (by kernel_rfl) (B := 16) (by kernel_rfl)
theorem op85 : Opens Tryz.prog 85 2 eApiValue (fun x => (fun n => (Lit.int .i64 n).wf = true) x.fPalette ∧ (fun n => (Lit.int .i64 n).wf = true) x.fLevel) := Opens.struct Tryz.underlying85 (by kernel_rfl) (by decide) fun encH W n cs xs hlt hl hn hf hw => by
  have hl : cs.length = 2 := hl
  rcases cs with _ | ⟨c0, _ | ⟨c1, _ | ⟨_, _⟩⟩⟩
  all_goals first | (simp only [List.length_cons, List.length_nil] at hl; omega) | skip
  obtain ⟨x0, w0, r0⟩ := op3.field hlt hn hf hw 0 rfl rfl rfl
  obtain ⟨x1, w1, r1⟩ := op3.field hlt hn hf hw 1 rfl rfl rfl
  exact ⟨⟨x0, x1⟩, ⟨w0, w1⟩, RIL.append r0 (r1)⟩

theorem len_bulk {P : Program} {t t' : TypeId} (ht : P.underlying t = some (.slice t')) {S : Nat → Nat → Prop} {W : World} {H : Type} {encH : TypeId × Value → H} {v : Value} {d : DataW H} {ps : List MemPlace} {e : Nat} {f : Bool} {xs : List AV} (hi : RI S W (.sl e f xs) v)
    (h : DataW.Trod encH P W 0 (fun _ => true) true t v d ps) : xs.length ≤ Rows.uptoBulk d := by
  have h1 : ∀ l : List (DataW H), l.length ≤ Rows.uptoBulkAll l := fun l => by
    induction l with
    | nil => exact Nat.le_refl _
    | cons x l ih =>
      have : 1 ≤ Rows.uptoBulk x := by
        cases x with
        | lit l => cases l <;> simp [Rows.uptoBulk]
        | _ => simp [Rows.uptoBulk]
      simp only [Rows.uptoBulkAll, List.length_cons]
      omega
  obtain ⟨fuel, hf⟩ := h
  have hv : ∃ A n cap, v = .slice A xs.length cap ∧ n = 0 := by
    cases hi
    exact ⟨_, 0, _, rfl, rfl⟩
  obtain ⟨A, _, cap, rfl, _⟩ := hv
  rcases DataW.trod_slice ht hf with ⟨hcs, _⟩ | ⟨a, len, cap', elems, rest, n, _, hcs, hx, _, _, _, hel, _⟩
  · have hcs' : [Value.slice A xs.length cap] = [.slice none 0 0] := hcs
    injection hcs' with k _
    injection k with _ k _
    omega
  · have hcs' : [Value.slice A xs.length cap] = [.slice (some a) len cap'] := hcs
    injection hcs' with k _
    injection k with _ k _
    injection hx with hx _
    subst hx
    have := h1 (elems.map (·.1))
    rw [List.length_map] at this
    simp only [Rows.uptoBulk]
    omega

set_option maxRecDepth 100000 in
theorem lifted (os : Os) (started : os.Started) (H : Type) (enc : TypeId × Value → H) (F : Stop.Interp) :
    ReturnsInHanded {} Tryz.checked os 10 .any ((Rows.OpenSpec.upto Rows.selectionEntriesSpec).preRow enc Tryz.prog Tryz.f10 Rows.selectionEntriesUptoRow.domain false Rows.selectionEntriesUptoRow.laid) (((Rows.OpenSpec.upto Rows.selectionEntriesSpec).at F).post enc Tryz.prog Tryz.f10 false true false false) := by
  refine returnsInHanded_of_row (C := Tryz.checked) (s := Rows.OpenSpec.upto Rows.selectionEntriesSpec) own started (by kernel_rfl) Tryz.func10
    ⟨World.laidAll Tryz.prog os Rows.selectionEntriesUptoRow.laid, fun _ _ => 0, ⟨#[], #[.slice none 0 0, .agg #[.int .i64 0, .int .i64 0]], []⟩, World.laidAll_os _ _ _, World.shaped_of_ZipB (by kernel_rfl) (by kernel_rfl), rfl, (Input.okWide_of_okWideB (by kernel_rfl)).2,
      OpenSpec.preRow_of_cond (x := ([.nil, .agg [.lit (.int .i64 0), .lit (.int .i64 0)]], [], [])) 8 (by kernel_rfl) (by kernel_rfl) (fun k hk => by cases hk; kernel_rfl) (by kernel_rfl) (by rw [MakeChecks.laidMetH_plain _ _ _ (by kernel_rfl)]; exact laidMet_laidAll _ (by kernel_rfl) (by kernel_rfl)), by
        simp only [Assume.holds]
        exact ⟨by simp, by simp, fun h => by simp at h, by simp, by simp⟩⟩ ?_
  intro W base args ds gs before hval0 hW hcnd hcond hsz _ _ _
  have hval : ∀ (j : Nat) t v, Tryz.f10.params[j]? = some t → args[j]? = some v → Value.okWide Tryz.prog W .any base t v := hval0
  have hW' := hW
  obtain ⟨p, q, hA0, hV, rfl, hfz, hnd⟩ := hW
  have hA : DataW.TrodAll enc Tryz.prog W 0 (fun _ => true) true Tryz.f10.params.toList args.toList ds p := hA0
  rw [Tryz.params10] at hA hval
  obtain ⟨v0, vs0, d0, ds0, p0, q0, hargs, rfl, rfl, h0, r0⟩ := trodAll_cons hA
  obtain ⟨v1, vs1, d1, ds1, p1, q1, rfl, rfl, rfl, h1, r1⟩ := trodAll_cons r0
  obtain ⟨rfl, rfl, rfl⟩ := trodAll_nil r1
  obtain rfl : args = #[v0, v1] := by cases args; simp_all
  obtain ⟨rfl, rfl⟩ := trodVars_none hV
  have hlt : ∀ x ∈ (p0 ++ (p1 ++ [])), x.block < W.heap.size := fun x hx => by simpa using hW'.lt x (List.mem_append_left _ hx)
  have l0 : ∀ x ∈ p0, x.block < W.heap.size := fun x hx => hlt x (List.mem_append_left _ hx)
  obtain ⟨x0, w0, i0⟩ := op47.val (hval 0 47 v0 rfl rfl) h0 l0 (fun n hn => of_decide_eq_true (List.all_eq_true.1 hsz n (DataW.weights_mem_each (j := 0) rfl rfl n hn)))
  have l1 : ∀ x ∈ p1, x.block < W.heap.size := fun x hx => hlt x (List.mem_append_right _ (List.mem_append_left _ hx))
  obtain ⟨x1, w1, i1⟩ := op85.val (hval 1 85 v1 rfl rfl) h1 l1 (fun n hn => of_decide_eq_true (List.all_eq_true.1 hsz n (DataW.weights_mem_each (j := 1) rfl rfl n hn)))
  have hb0 : Rows.uptoBulkAll [d0, d1] ≤ 1048576 := by
    have := hcond _ rfl
    simpa [Rows.uptoSmall] using this
  have hbulk : x0.length ≤ 1048576 := by
    have h1 := len_bulk Tryz.underlying47 i0 h0
    rw [List.length_map] at h1
    simp only [Rows.uptoBulkAll] at hb0
    omega
  refine (Pure.below (f10_ok (f10_eq x0 x1 hbulk)) (w := W) (us := #[v0, v1]) ⟨i0, i1, trivial⟩).mono fun e W' ⟨he, hb, hz⟩ => ?_
  subst he
  exact ⟨_, rfl, post_still (pa := (p0 ++ (p1 ++ []))) hW' (fun _ _ _ => (trodAll_cons_mk (shut_bool Tryz.underlying4 _) trodAll_mk0)) (fun sp hsp => (trodAll_cons_mk (Trod_stays laid (by kernel_rfl) (of_decide_eq_true (by kernel_rfl)) h0 (fun x hx => hb.same (l0 x hx)) (fun x hx => hsp x (List.mem_append_left _ (List.mem_append_left _ hx)))) (trodAll_cons_mk (Trod_stays laid (by kernel_rfl) (of_decide_eq_true (by kernel_rfl)) h1 (fun x hx => hb.same (l1 x hx)) (fun x hx => hsp x (List.mem_append_left _ (List.mem_append_right _ (List.mem_append_left _ hx))))) trodAll_mk0))) (fun _ => rfl) rfl
    (hb.frame _) hz (ok_one (by kernel_rfl) rfl (okWide_bool_mk Tryz.underlying4 _))⟩


theorem proved : Rows.SelectionEntriesUptoSaid :=
  OpenClaim.holds_of_cond 10 Tryz.f10 rfl rfl rfl rfl rfl rfl rfl ⟨rfl, rfl, rfl, rfl, rfl⟩ rfl rfl rfl rfl rfl (by kernel_rfl) Tryz.func10 (by kernel_rfl)
    (of_decide_eq_true (by kernel_rfl)) (by unfold Func.isWrapper; first | (rw [if_pos (by decide +kernel)]; kernel_rfl) | (rw [if_neg (by decide +kernel)]; exact ⟨rfl, rfl⟩))
    (fun os started H enc _ F => by rw [OpenClaim.pre_eq_preRow]; exact lifted os started H enc F)

theorem plain (f : FuncId) (fn : Func) (hf : Tryz.pinned.checked.prog.funcNamed "luminaire/luminairelaw41.SelectionEntries" = some f) (hfn : Tryz.pinned.checked.prog.funcs[f]? = some fn) :
    false = Tryz.pinned.checked.prog.looks [] ∧ ∀ (j : Nat) t, fn.params[j]? = some t → Tryz.pinned.checked.prog.wantsStandIn t = false := by
  obtain rfl : f = 10 := Option.some.inj ((show Tryz.prog.funcNamed "luminaire/luminairelaw41.SelectionEntries" = some 10 by kernel_rfl).symm.trans hf) |>.symm
  obtain rfl : fn = Tryz.f10 := (Option.some.inj (Tryz.func10.symm.trans hfn)).symm
  refine ⟨by kernel_rfl, fun j t ht => ?_⟩
  rw [Tryz.params10] at ht
  have hm := Array.mem_of_getElem? ht
  simp only [List.mem_toArray, List.mem_cons, List.not_mem_nil, or_false] at hm
  rcases hm with rfl | rfl
  · exact (show Tryz.prog.wantsStandIn 47 = false by kernel_rfl)
  · exact (show Tryz.prog.wantsStandIn 85 = false by kernel_rfl)

/-- The card. -/
theorem card : Rows.SelectionEntriesUptoCardSaid :=
  Claim7.holds_tied_plain_at .later [] _ _ _ _ proved (fun _ h => by cases h) (by kernel_rfl) (fun _ h => by cases h) selectionEntriesUpto_row_tie rfl ⟨rfl, rfl⟩ (by kernel_rfl) rfl plain (by kernel_rfl)
end Go.Proofs.YtnaemmpcffnbkaaGreatDoor.selectionEntries
