/-
  The abstract machine, thirty-ninth part: functions of the library by their contracts; loops that are walked round by round.
-/
import Derived.Test.YtkbjimfganeooaaAb38
import Derived.Lib.Repeat
set_option linter.unusedSimpArgs false
set_option linter.unusedVariables false
namespace Go.Ab
open Go Go.RowKit

variable {P : Program}

/-- What a function of texts and numbers returns, as its contract tells it. -/
theorem Pure.of_calls {f : Nat} {args : List AV} {r : AV} {u : Value} (he : Entered P f) (hr : ∀ S w, RI S w r u)
    (h : ∀ (S : Nat → Nat → Prop) (w : World) (us : Array Value), us.size = args.length → (∀ (i : Nat) c u, args[i]? = some c → us[i]? = some u → RI S w c u) → Calls P f us w fun e w' => e = .returned u ∧ Below w.heap.size w w') :
    Pure P f args (· = r) := by
  refine ⟨he, ⟨_, rfl⟩, fun S w us h1 h2 h3 => Calls.mono (h S w us h2 h3) ?_⟩
  rintro e w' ⟨rfl, hb⟩
  refine ⟨u, S, r, rfl, rfl, ⟨hb.os, hb.tape, hb.output, hb.size, hb.block, fun a ha => World.frozen?_of_block (hb.block _ ha)⟩, Kept.of_block (fun _ _ s => s) (fun g o s => hb.block _ (h1 g o s)), fun _ _ s => .inl s, fun g o s => Nat.lt_of_lt_of_le (h1 g o s) hb.size, .inl (hr S w')⟩

def rep? (s : List UInt8) (n : Int) : Option (List UInt8) := if 0 ≤ n ∧ n ≤ 9223372036854775807 ∧ s.length * n.toNat ≤ room then some (Lib.repeatL s n.toNat) else none

theorem repeat_pure {k : Nat} (he : Entered P k) (hc : ∀ (s : ByteArray) (c : Nat) (w : World), c ≤ 9223372036854775807 → s.size * c ≤ 140737488355328 → Calls P k #[.string s, .int .i64 c] w fun e w' => e = .returned (.string ⟨(Lib.repeatL s.data.toList c).toArray⟩) ∧ Below w.heap.size w w')
    {s : List UInt8} {n : Int} {t : List UInt8} (H : rep? s n = some t) : Pure P k [.str s, .int .i64 n] (· = .str t) := by
  unfold rep? at H
  split at H
  case isFalse => cases H
  rename_i h
  obtain ⟨h0, h1, h2⟩ := h
  injection H with H
  obtain ⟨c, rfl⟩ := Int.eq_ofNat_of_zero_le h0
  refine Pure.of_calls (u := .string ⟨t.toArray⟩) he (fun _ _ => .str _) fun S w us hl hr => ?_
  obtain ⟨us⟩ := us
  match us, hl, hr with
  | [a, b], _, hr =>
    have ha := hr 0 (.str s) a rfl rfl
    have hb := hr 1 (.int .i64 (c : Nat)) b rfl rfl
    cases ha
    cases hb
    have hs : (⟨s.toArray⟩ : ByteArray).size = s.length := size_mk s
    have := hc ⟨s.toArray⟩ c w (by omega) (by rw [hs]; have : room = 140737488355328 := by decide
                                              simpa [this] using h2)
    rw [← H]
    simpa using this

/-! ## Loops, round by round -/

/-- The loop ends as Q tells, and has at most m rounds. -/
def Rounds (P : Program) (n lo : Nat) (b : C) (Q : Ex → St → Prop) : Nat → St → Prop
  | 0, _ => False
  | m + 1, st => AW P n lo b (thenQ (fun st' => ∃ st2, Le lo st' st2 ∧ Rounds P n lo b Q m st2) Q) st

/-- What comes behind a round. -/
def roundQ (P : Program) (n lo : Nat) (b : C) (Q : Ex → St → Prop) (m : Nat) : Ex → St → Prop := thenQ (fun st' => ∃ st2, Le lo st' st2 ∧ Rounds P n lo b Q m st2) Q

theorem AW.rounds {n lo : Nat} {b : C} {Q : Ex → St → Prop} {st : St} (m : Nat) (h : Rounds P n lo b Q m st) : AW P n lo (.loop b) Q st := by
  refine AW.loop (fun m st => Rounds P n lo b Q m st) h ?_
  intro m st h
  cases m with
  | zero => exact h.elim
  | succ m =>
    refine AW.mono ?_ h
    intro ex st' hq
    cases ex with
    | normal =>
      obtain ⟨st2, h1, h2⟩ := hq
      exact ⟨m, st2, Nat.lt_succ_self _, h1, h2⟩
    | exit id => exact hq
    | ret => exact hq

section
variable {n lo m : Nat} {b : C} {Q : Ex → St → Prop} {st : St}
theorem Rounds.go (h : AW P n lo b (roundQ P n lo b Q m) st) : Rounds P n lo b Q (m + 1) st := h
theorem roundQ.next {st2 : St} (hl : Le lo st st2) (h : Rounds P n lo b Q m st2) : roundQ P n lo b Q m .normal st := ⟨st2, hl, h⟩
theorem roundQ.exit {id : Nat} (h : Q (.exit id) st) : roundQ P n lo b Q m (.exit id) st := h
theorem roundQ.ret (h : Q .ret st) : roundQ P n lo b Q m .ret st := h
end

section
variable {F : CallF} {is : List Ins} {K : St → Prop} {s : Nat → AV} {h : Hp} {d : Option Nat}
/-- One operation, reckoned out. -/
theorem evTs_any {o : Op1} {v : AV} {h' : Hp} (hc : o.isCall = false) (hv : evV s h o = some (v, h')) (hk : evTs F is K ⟨put? s d v, h'⟩) : evTs F (Ins.mk d none o :: is) K ⟨s, h⟩ := step hc hv hk
end

/-- An element that has just been written. -/
theorem set_get {τ : Type} {xs : List τ} {enc : τ → AV} {i : Nat} {v : AV} (h : (xs.map enc)[i]? = some v) (y : τ) : ((xs.set i y).map enc)[i]? = some (enc y) := by
  have := lt_map h
  simp [this]

/-- A row that a cell holds, in a block of another number. -/
theorem Le.moveCell {lo : Nat} {st : St} (b' o : Nat) {e b n : Nat} {cs xs : List AV} (h1 : st.h[b']? = some (.cel cs)) (h2 : cs[o]? = some (.row e b 0 n)) (h3 : st.h[b]? = some (.els e xs)) :
    Le lo st ⟨st.s, (st.h.set b HB.dead ++ [HB.els e xs]).set b' (HB.cel (cs.set o (AV.row e st.h.length 0 n)))⟩ := fun E a w hst => by
  have hbl' : b' < st.h.length := (List.getElem?_eq_some_iff.1 h1).1
  have hne : b ≠ b' := fun hh => by subst hh; rw [h1] at h3; cases h3
  have ⟨g', vals, t, fz, k1, k2, k3, k4, k5, k6⟩ := hst.heap.blocks b' _ h1
  have hol : o < cs.length := (List.getElem?_eq_some_iff.1 h2).1
  have hrv : RV E w (.row e b 0 n) (vals.getD o undef) := k6 o _ _ h2 (by simp [show o < vals.size by omega])
  have hr : ∃ r, E.rho b = some r := by
    obtain ⟨_, ⟨h, _⟩ | ⟨g, _, _, h, _⟩⟩ := hrv.row_inv
    · exact ⟨_, h⟩
    · exact ⟨_, h⟩
  obtain ⟨r, hr⟩ := hr
  obtain ⟨m1, m2⟩ := hst.heap.move h3 trivial hr
  have hb1 : (st.h.set b .dead ++ [HB.els e xs])[b']? = some (.cel cs) := by
    rw [List.getElem?_append_left (by simpa using hbl'), List.getElem?_set_ne hne]; exact h1
  have hrho : (E.push st.h.length r (E.ke b) (E.ca b)).rho b' = some (some g') := by
    simp only [Env.push, if_neg (show b' ≠ st.h.length by omega)]; exact k1
  have hrv2 : RV (E.push st.h.length r (E.ke b) (E.ca b)) w (.row e st.h.length 0 n) (vals.getD o undef) := by
    obtain ⟨hke, ⟨q0, _, hl0, A, hp⟩ | ⟨g, cap, A, hg, hp, hA, hl, hcc, hm⟩⟩ := hrv.row_inv
    · rw [q0] at hr; injection hr with hr; subst hr
      rw [hp, hl0]
      exact .row0 e _ A (by simp) (by simpa using hke)
    · rw [hg] at hr; injection hr with hr; subst hr
      rw [hp]
      exact .row e _ 0 n g cap A (by simp) (by simpa using hke) (hA.imp id fun h => absurd rfl h.1) hl (by simpa using hcc) (by simpa using hm)
  refine ⟨_, ⟨fun j => (hst.slots j).ext m2 hst.heap.dom, hst.defers, m1.set (y := .cel (cs.set o (.row e st.h.length 0 n))) hb1 trivial hrho rfl rfl rfl (Nat.le_refl _) (fun _ _ _ => rfl) (fun _ => rfl) ⟨g', vals, t, fz, hrho, k2, k3, by simpa using k4, fun c hc => ?_, fun i c u hi hu => ?_⟩⟩, m2.wide hst.heap lo⟩
  · rcases List.mem_or_eq_of_mem_set hc with hc | rfl
    · exact k5 c hc
    · exact .inl rfl
  · by_cases hio : i = o
    · subst hio
      rw [List.getElem?_set_self hol] at hi
      injection hi with hi; subst hi
      have : vals.getD i undef = u := by
        have hil := (Array.getElem?_eq_some_iff.1 hu)
        obtain ⟨hil, rfl⟩ := hil
        simp [hil]
      rw [← this]; exact hrv2
    · rw [List.getElem?_set_ne (Ne.symm hio)] at hi
      exact (k6 i c u hi hu).ext m2 hst.heap.dom
end Go.Ab
