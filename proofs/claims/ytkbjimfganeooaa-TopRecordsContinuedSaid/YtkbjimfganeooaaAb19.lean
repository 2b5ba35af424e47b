/-
  The abstract machine, nineteenth part: functions.
-/
import Derived.Test.YtkbjimfganeooaaAb18
set_option linter.unusedSimpArgs false
set_option linter.unusedVariables false
namespace Go.Ab
open Go

variable {P : Program}

def compRv (P : Program) : ResultVar → Option Rv
  | .tmp t => some (.slot t)
  | .cell x t => (ecode P t).map (.cell x)

/-- A function's code, read: the number of its slots, its results, its code. -/
def fd? (P : Program) (f : Nat) : Option (Nat × List Rv × C) :=
  match P.funcs[f]? with
  | some fn => if fn.name == "runtime.NumGoroutine" then none else match fn.body with
    | some c => match omap (compRv P) fn.results.toList, compC P fn.ntmps c with
      | some rs, some ir => some (fn.ntmps, rs, ir)
      | _, _ => none
    | none => none
  | none => none

theorem fd?_entered {f : Nat} {d : Nat × List Rv × C} (h : fd? P f = some d) : Entered P f := by
  unfold fd? at h
  split at h
  case h_2 => cases h
  rename_i fn hfn
  split at h
  · cases h
  · rename_i hnm
    split at h
    case h_2 => cases h
    rename_i c hc
    exact ⟨fn, c, hfn, by simpa using hnm, hc⟩

/-- One result. -/
def resF (a : Act) : ResultVar → Sem Value
  | .tmp t => pure (a.tmps.getD t undef)
  | .cell x t => do loadVar t (← asAddr (a.tmps.getD x undef))

theorem results_eq (fn : Func) (a : Act) : results fn a.tmps = (do
    let vs ← fn.results.mapM (resF a)
    pure (if h : vs.size = 1 then vs[0] else .tuple vs)) := by
  unfold results
  congr 1

section
variable {E : Env} {w : World} {st : St} {a : Act}

theorem resV_ok (hst : StOK E st a w) {r : ResultVar} {q : Rv} {v : AV} (hc : compRv P r = some q) (hv : resV st q = some v) :
    ∃ u, (resF a r).run P w = .ok u w ∧ RV E w v u := by
  cases r with
  | tmp t =>
    simp only [compRv, Option.some.injEq] at hc
    subst hc
    simp only [resV, Option.some.injEq] at hv
    subst hv
    exact ⟨_, by simp only [resF, Sem.run_pure], hst.slots t⟩
  | cell x t =>
    obtain ⟨e, he, hc⟩ := map_some' hc
    subst hc
    obtain ⟨⟨v', h'⟩, hl, hv⟩ := map_some' hv
    simp only at hv
    subst hv
    obtain ⟨g, off, u, hp, hrun, hrv, _⟩ := load_core (P := P) (x' := .t x) hst.heap he (hst.slots x) hl
    exact ⟨u, by simp only [resF, hp, asAddr, Sem.run_bind, Sem.run_pure, Result.andThen_ok, hrun], hrv⟩

theorem resL_ok (hst : StOK E st a w) : ∀ (rs : List ResultVar) (qs : List Rv) (vs : List AV), omap (compRv P) rs = some qs → omap (resV st) qs = some vs →
    ∃ us : List Value, us.length = vs.length ∧ (rs.mapM (resF a)).run P w = .ok us w ∧ ∀ (i : Nat) v u, vs[i]? = some v → us[i]? = some u → RV E w v u
  | [], qs, vs, h1, h2 => by
    injection h1 with h1; subst h1
    injection h2 with h2; subst h2
    exact ⟨[], rfl, by simp, fun i v u hv => by simp at hv⟩
  | r :: rs, qs, vs, h1, h2 => by
    simp only [omap] at h1
    split at h1
    case h_2 => cases h1
    rename_i q qs' hq hqs
    injection h1 with h1; subst h1
    simp only [omap] at h2
    split at h2
    case h_2 => cases h2
    rename_i v vs' hv hvs
    injection h2 with h2; subst h2
    obtain ⟨u, k1, k2⟩ := resV_ok hst hq hv
    obtain ⟨us, l1, l2, l3⟩ := resL_ok hst rs qs' vs' hqs hvs
    refine ⟨u :: us, by simp [l1], by simp [List.mapM_cons, k1, l2], fun i v' u' hv' hu' => ?_⟩
    cases i with
    | zero => simp at hv' hu'; subst hv'; subst hu'; exact k2
    | succ i => exact l3 i v' u' (by simpa using hv') (by simpa using hu')

theorem results_ok (hst : StOK E st a w) {fn : Func} {qs : List Rv} {v : AV} (hc : omap (compRv P) fn.results.toList = some qs) (hv : resVs st qs = some v) :
    ∃ u, (results fn a.tmps).run P w = .ok u w ∧ RV E w v u := by
  unfold resVs at hv
  have key : ∃ vs, omap (resV st) qs = some vs ∧ v = (match vs with | [v] => v | vs => .tup vs) := by
    split at hv
    · rename_i x hx
      injection hv with hv; subst hv
      exact ⟨_, hx, rfl⟩
    · rename_i vs hne hx
      injection hv with hv; subst hv
      refine ⟨_, hx, ?_⟩
      split
      · rename_i x
        exact (hne x rfl).elim
      · rfl
    · cases hv
  obtain ⟨vs, hvs, rfl⟩ := key
  obtain ⟨us, l1, l2, l3⟩ := resL_ok hst fn.results.toList qs vs hc hvs
  have hrun : (results fn a.tmps).run P w = .ok (if h : us.toArray.size = 1 then us.toArray[0] else .tuple us.toArray) w := by
    rw [results_eq, Array.mapM_eq_mapM_toList]
    simp [l2]
  refine ⟨_, hrun, ?_⟩
  clear hrun l2 hvs
  rcases vs with _ | ⟨x, _ | ⟨y, vs⟩⟩ <;> rcases us with _ | ⟨u, _ | ⟨z, us⟩⟩ <;> try (simp at l1; done)
  · exact .tup _ _ rfl fun i c u hc => by simp at hc
  · exact l3 0 x u rfl rfl
  · exact .tup _ _ (by simpa using l1) fun i c u hc hu => l3 i c u hc (by simpa using hu)

theorem slotsOf_get : ∀ (vs : List AV) (i : Nat), slotsOf vs i = vs.getD i .junk
  | [], i => by simp [slotsOf]
  | v :: vs, 0 => by simp [slotsOf]
  | v :: vs, i + 1 => by simp [slotsOf, slotsOf_get vs i]

theorem enter_ok (hok : HOK E st.h w) {args : List AV} {us : Array Value} {n : Nat} (hs : st.s = slotsOf args) (hl : us.size = args.length) (hr : ∀ (i : Nat) c u, args[i]? = some c → us[i]? = some u → RV E w c u) :
    StOK E st { tmps := us ++ Array.replicate (n - us.size) undef, defers := [] } w := by
  refine ⟨fun i => ?_, rfl, hok⟩
  rw [hs, slotsOf_get, List.getD_eq_getElem?_getD]
  by_cases hi : i < args.length
  · have hi' : i < us.size := by omega
    have h1 := hr i args[i] us[i] (List.getElem?_eq_getElem hi) (Array.getElem?_eq_getElem hi')
    simp only [List.getElem?_eq_getElem hi, Option.getD_some, Array.getD_eq_getD_getElem?]
    rw [Array.getElem?_append_left hi', Array.getElem?_eq_getElem hi']
    exact h1
  · rw [List.getElem?_eq_none (by omega)]
    exact .junk _
end

/-- A call of a function, of which the code has been walked. -/
theorem code_calls {f n : Nat} {rs : List Rv} {ir : C} (hf : fd? P f = some (n, rs, ir)) {args : List AV} (hn : args.length ≤ n) {h : Hp} {R : AV → Hp → Prop}
    (hw : AW P n h.length ir (fun ex st => (ex = .normal ∨ ex = .ret) ∧ ∃ v, resVs st rs = some v ∧ R v st.h) ⟨slotsOf args, h⟩) {E : Env} {w : World} {us : Array Value} (hok : HOK E h w) (hl : us.size = args.length)
    (hr : ∀ (i : Nat) c u, args[i]? = some c → us[i]? = some u → RV E w c u) :
    Calls P f us w fun e w' => ∃ u E' r h', e = .returned u ∧ R r h' ∧ HOK E' h' w' ∧ Ext h.length E w E' w' ∧ RV E' w' r u := by
  unfold fd? at hf
  split at hf
  case h_2 => cases hf
  rename_i fn hfn
  split at hf
  · cases hf
  rename_i hnm
  split at hf
  case h_2 => cases hf
  rename_i c hc
  split at hf
  case h_2 => cases hf
  rename_i rs' ir' hrs hir
  injection hf with hf; injection hf with e1 hf; injection hf with e2 e3
  subst e1; subst e2; subst e3
  refine calls_of_wp hfn hc ?_
  have hst : StOK E ⟨slotsOf args, h⟩ { tmps := us ++ Array.replicate (fn.ntmps - us.size) undef, defers := [] } w := enter_ok hok rfl hl hr
  refine wp_mono (hw _ hir E _ w hst (by simp; omega)) ?_
  rintro e a' w' ⟨ex, st', E', rfl, ⟨hex, v, hv, hR⟩, k3, k4, k5⟩
  obtain ⟨u, hrun, hrv⟩ := results_ok (P := P) k3 hrs hv
  have fin : a'.defers = [] ∧ ∃ v, (results fn a'.tmps).run P w' = .ok v w' ∧ ∃ u E'' r h', Ending.returned v = .returned u ∧ R r h' ∧ HOK E'' h' w' ∧ Ext h.length E w E'' w' ∧ RV E'' w' r u :=
    ⟨k3.defers, u, hrun, u, E', v, st'.h, rfl, hR, k3.heap, k5, hrv⟩
  rcases hex with rfl | rfl
  · exact fin
  · exact fin

/-- A function that works in the heap of its caller. -/
theorem Fn.of_code {f n : Nat} {rs : List Rv} {ir : C} (hf : fd? P f = some (n, rs, ir)) {args : List AV} (hn : args.length ≤ n) {h : Hp} {R : AV → Hp → Prop} (hR : ∃ r h', R r h')
    (hw : AW P n h.length ir (fun ex st => (ex = .normal ∨ ex = .ret) ∧ ∃ v, resVs st rs = some v ∧ R v st.h) ⟨slotsOf args, h⟩) : Fn P f args h R :=
  ⟨fd?_entered hf, hR, fun _ _ _ hok hl hr => code_calls hf hn hw hok hl hr⟩

/-- A call of a function that neither writes nor keeps what its caller has: its arguments are values that nobody writes any more; what it returns is so, too, or is new. -/
def Pure (P : Program) (f : Nat) (args : List AV) (R : AV → Prop) : Prop :=
  Entered P f ∧ (∃ r, R r) ∧ ∀ (S : Nat → Nat → Prop) (w : World) (us : Array Value), (∀ g o, S g o → g < w.heap.size) → us.size = args.length → (∀ (i : Nat) c u, args[i]? = some c → us[i]? = some u → RI S w c u) →
    Calls P f us w fun e w' => ∃ u S' r, e = .returned u ∧ R r ∧ Blw w.heap.size w w' ∧ Kept S S' w w' ∧ (∀ g o, S' g o → S g o ∨ w.heap.size ≤ g) ∧ (∀ g o, S' g o → g < w'.heap.size) ∧ ResOK S' w' w.heap.size r u

theorem Pure.mono {f : Nat} {args : List AV} {R R' : AV → Prop} (hr : ∀ r, R r → R' r) (hf : Pure P f args R) : Pure P f args R' :=
  ⟨hf.1, hf.2.1.imp fun _ h => hr _ h, fun S w us h1 h2 h3 => Calls.mono (hf.2.2 S w us h1 h2 h3) fun _ _ ⟨u, S', r, e, k, rest⟩ => ⟨u, S', r, e, hr _ k, rest⟩⟩

end Go.Ab
