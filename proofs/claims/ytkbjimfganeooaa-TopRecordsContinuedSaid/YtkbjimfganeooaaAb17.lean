/-
  The abstract machine, seventeenth part: code.
-/
import Derived.Test.YtkbjimfganeooaaAb16
import Derived.Scope
set_option linter.unusedSimpArgs false
set_option linter.unusedVariables false
namespace Go.Ab
open Go

variable {P : Program}

def Ex.real : Ex → Exit
  | .normal => .normal
  | .exit id => .exit id
  | .ret => .ret

/-- What is so behind a piece of code. -/
def Post (n lo : Nat) (E : Env) (w : World) (Q : Ex → St → Prop) (e : Exit) (a' : Act) (w' : World) : Prop :=
  ∃ ex st' E', e = ex.real ∧ Q ex st' ∧ StOK E' st' a' w' ∧ a'.tmps.size = n ∧ Ext lo E w E' w'

/-- The code, begun in this state, ends as Q tells. -/
def AW (P : Program) (n lo : Nat) (c : C) (Q : Ex → St → Prop) (st : St) : Prop :=
  ∀ c', compC P n c' = some c → ∀ E a w, StOK E st a w → a.tmps.size = n → c'.wp P (Post n lo E w Q) a w

/-- One state may be taken for another. -/
def Le (lo : Nat) (st st2 : St) : Prop := ∀ E a w, StOK E st a w → ∃ E', StOK E' st2 a w ∧ Ext lo E w E' w

theorem Le.refl (lo : Nat) (st : St) : Le lo st st := fun E _ _ h => ⟨E, h, Ext.refl _ _ _⟩
theorem Le.trans {lo : Nat} {st st2 st3 : St} (h : Le lo st st2) (k : Le lo st2 st3) : Le lo st st3 := fun E a w hs =>
  let ⟨_, h1, h2⟩ := h E a w hs
  let ⟨_, k1, k2⟩ := k _ a w h1
  ⟨_, k1, h2.trans k2 (Nat.le_refl _)⟩

theorem Post.next {n lo : Nat} {E E' : Env} {w w' : World} {Q : Ex → St → Prop} {e : Exit} {a' : Act} {w'' : World} (x : Ext lo E w E' w') (h : Post n lo E' w' Q e a' w'') : Post n lo E w Q e a' w'' := by
  obtain ⟨ex, st', E'', k1, k2, k3, k4, k5⟩ := h
  exact ⟨ex, st', E'', k1, k2, k3, k4, x.trans k5 (Nat.le_refl _)⟩

theorem Post.mono {n lo : Nat} {E : Env} {w : World} {Q Q' : Ex → St → Prop} {e : Exit} {a' : Act} {w' : World} (hq : ∀ ex st, Q ex st → Q' ex st) (h : Post n lo E w Q e a' w') : Post n lo E w Q' e a' w' := by
  obtain ⟨ex, st', E', k1, k2, k3⟩ := h
  exact ⟨ex, st', E', k1, hq _ _ k2, k3⟩

section
variable {n lo : Nat} {Q : Ex → St → Prop} {st : St}

theorem AW.mono {c : C} {Q' : Ex → St → Prop} (hq : ∀ ex st, Q ex st → Q' ex st) (h : AW P n lo c Q st) : AW P n lo c Q' st :=
  fun c' hc E a w hst hn => wp_mono (h c' hc E a w hst hn) fun _ _ _ k => k.mono hq

theorem AW.weaken {c : C} {st2 : St} (hl : Le lo st st2) (h : AW P n lo c Q st2) : AW P n lo c Q st := fun c' hc E a w hst hn => by
  obtain ⟨E', h1, h2⟩ := hl E a w hst
  exact wp_mono (h c' hc E' a w h1 hn) fun _ _ _ k => k.next h2

theorem Post.now {E : Env} {w : World} {a : Act} {ex : Ex} (hq : Q ex st) (hst : StOK E st a w) (hn : a.tmps.size = n) : Post n lo E w Q ex.real a w := ⟨ex, st, E, rfl, hq, hst, hn, Ext.refl _ _ _⟩

theorem AW.skip (h : Q .normal st) : AW P n lo .skip Q st := fun c' hc E a w hst hn => by
  unfold compC at hc
  split at hc
  all_goals first
    | exact wp_skip (Post.now h hst hn)
    | exact wp_label (Post.now h hst hn)
    | skip
  all_goals repeat' split at hc
  all_goals first | (cases hc; done) | (obtain ⟨_, _, hc⟩ := map_some' hc; cases hc; done)

theorem AW.exit {id : Nat} (h : Q (.exit id) st) : AW P n lo (.exit id) Q st := fun c' hc E a w hst hn => by
  unfold compC at hc
  split at hc
  all_goals repeat' split at hc
  all_goals first
    | (cases hc; done)
    | (obtain ⟨_, _, hc⟩ := map_some' hc; cases hc; done)
    | skip
  cases hc
  exact wp_exit (Post.now h hst hn)

theorem AW.ret (h : Q .ret st) : AW P n lo .ret Q st := fun c' hc E a w hst hn => by
  unfold compC at hc
  split at hc
  all_goals repeat' split at hc
  all_goals first
    | (cases hc; done)
    | (obtain ⟨_, _, hc⟩ := map_some' hc; cases hc; done)
    | exact wp_ret (Post.now h hst hn)

/-- Behind the first of two pieces of code. -/
def thenQ (K : St → Prop) (Q : Ex → St → Prop) : Ex → St → Prop
  | .normal, st => K st
  | ex, st => Q ex st

theorem AW.seq {x y : C} (h : AW P n lo x (thenQ (AW P n lo y Q) Q) st) : AW P n lo (.seq x y) Q st := fun c' hc E a w hst hn => by
  unfold compC at hc
  split at hc
  all_goals repeat' split at hc
  all_goals first
    | (cases hc; done)
    | (obtain ⟨_, _, hc⟩ := map_some' hc; cases hc; done)
    | skip
  rename_i x' y' _ _ hx hy
  cases hc
  refine wp_seq (wp_mono (h _ hx E a w hst hn) ?_)
  rintro e a' w' ⟨ex, st', E', rfl, k2, k3, k4, k5⟩
  cases ex with
  | normal => exact wp_mono (k2 _ hy E' a' w' k3 k4) fun _ _ _ k => k.next k5
  | exit id => exact ⟨.exit id, st', E', rfl, k2, k3, k4, k5⟩
  | ret => exact ⟨.ret, st', E', rfl, k2, k3, k4, k5⟩

theorem AW.cond {x : Od} {p q : C} {b : Bool} (hx : x.ev st.s = .bool b) (h : AW P n lo (if b = true then p else q) Q st) : AW P n lo (.cond x p q) Q st := fun c' hc E a w hst hn => by
  unfold compC at hc
  split at hc
  all_goals repeat' split at hc
  all_goals first
    | (cases hc; done)
    | (obtain ⟨_, _, hc⟩ := map_some' hc; cases hc; done)
    | skip
  rename_i xo p' q' _ _ _ hxo hp hq
  cases hc
  have hv := od_ok hst.slots hxo
  rw [hx] at hv
  refine wp_cond hv.bool_inv ?_
  cases b with
  | true => exact h _ hp E a w hst hn
  | false => exact h _ hq E a w hst hn

/-- At the end of a block. -/
def blockQ (id : Nat) (Q : Ex → St → Prop) : Ex → St → Prop
  | .exit i, st => if i = id then Q .normal st else Q (.exit i) st
  | ex, st => Q ex st

theorem AW.block {id : Nat} {c : C} (h : AW P n lo c (blockQ id Q) st) : AW P n lo (.block id c) Q st := fun c' hc E a w hst hn => by
  unfold compC at hc
  split at hc
  all_goals repeat' split at hc
  all_goals first
    | (cases hc; done)
    | skip
  all_goals try (obtain ⟨_, hb, hc⟩ := map_some' hc; cases hc)
  refine wp_block (wp_mono (h _ hb E a w hst hn) ?_)
  rintro e a' w' ⟨ex, st', E', rfl, k2, k3, k4, k5⟩
  cases ex with
  | normal => exact ⟨.normal, st', E', rfl, k2, k3, k4, k5⟩
  | ret => exact ⟨.ret, st', E', rfl, k2, k3, k4, k5⟩
  | exit i =>
    simp only [blockQ] at k2
    simp only [Ex.real, Exit.inBlock]
    split at k2
    · rename_i hi
      rw [if_pos hi]
      exact ⟨.normal, st', E', rfl, k2, k3, k4, k5⟩
    · rename_i hi
      rw [if_neg hi]
      exact ⟨.exit i, st', E', rfl, k2, k3, k4, k5⟩

/-- Code in which there is no way out by a name alone. -/
theorem AW.scope {c : C} (h : AW P n lo c Q st) : AW P n lo (.scope c) Q st := fun c' hc E a w hst hn => by
  unfold compC at hc
  split at hc
  all_goals repeat' split at hc
  all_goals first
    | (cases hc; done)
    | skip
  all_goals try (obtain ⟨_, hb, hc⟩ := map_some' hc; cases hc)
  refine wp_scope_straight (wp_mono (h _ hb E a w hst hn) ?_)
  rintro e a' w' ⟨ex, st', E', rfl, k2, k3, k4, k5⟩
  cases ex with
  | normal => exact ⟨.normal, st', E', rfl, k2, k3, k4, k5⟩
  | ret => exact ⟨.ret, st', E', rfl, k2, k3, k4, k5⟩
  | exit i => exact ⟨.exit i, st', E', rfl, k2, k3, k4, k5⟩

/-- A loop, of which the state is numbered: the number becomes less. -/
theorem wp_loop_rel {c : Code} {Q : Exit → Act → World → Prop} (I : Nat → Act → World → Prop) (round : ∀ m a w, I m a w → c.wp P (Exit.then (fun a' w' => ∃ m', m' < m ∧ I m' a' w') Q) a w) :
    ∀ m a w, I m a w → (Code.loop c).wp P Q a w := by
  intro m a w h0 b k cs
  have key : ∀ m a w, I m a w → ∃ e a' w', Q e a' w' ∧ Arrives P (lone (b.at a (.code c :: .inLoop c :: k)) cs w) b k cs e a' w' := by
    intro m
    induction m using Nat.strongRecOn with
    | _ m ih =>
      intro a w hI
      obtain ⟨e, a₁, w₁, hq, harr⟩ := round m a w hI b (.inLoop c :: k) cs
      cases e with
      | normal =>
        obtain ⟨m', hlt, hI₁⟩ := hq
        obtain ⟨e₂, a₂, w₂, hq₂, harr₂⟩ := ih m' hlt a₁ w₁ hI₁
        exact ⟨e₂, a₂, w₂, hq₂, .of_steps (Steps.trans harr (.one step_inLoop)) harr₂⟩
      | exit id => exact ⟨_, a₁, w₁, hq, .pass (x := .inLoop c) rfl (fun _ _ => .inl (by simp)) harr⟩
      | goto l => exact ⟨_, a₁, w₁, hq, .pass (x := .inLoop c) rfl (fun _ _ => .inl (by simp)) harr⟩
      | ret => exact ⟨_, a₁, w₁, hq, .pass (x := .inLoop c) rfl (fun _ _ => .inl (by simp)) harr⟩
      | panic ch => exact ⟨_, a₁, w₁, hq, .pass (x := .inLoop c) rfl (fun _ _ => .inl (by simp)) harr⟩
      | outgrown => exact ⟨_, a₁, w₁, hq, .pass (x := .inLoop c) rfl (fun _ _ => .inl (by simp)) harr⟩
  obtain ⟨e, a', w', hq, harr⟩ := key m a w h0
  exact ⟨e, a', w', hq, .of_steps (.one step_loop) harr⟩

/-- A loop: I is its head's state, with a number that becomes less. -/
theorem AW.loop {b : C} (I : Nat → St → Prop) {m : Nat} (h0 : I m st) (round : ∀ m st, I m st → AW P n lo b (thenQ (fun st' => ∃ m' st2, m' < m ∧ Le lo st' st2 ∧ I m' st2) Q) st) : AW P n lo (.loop b) Q st := fun c' hc E0 a0 w0 hst hn => by
  unfold compC at hc
  split at hc
  all_goals repeat' split at hc
  all_goals first
    | (cases hc; done)
    | skip
  all_goals try (obtain ⟨_, hb, hc⟩ := map_some' hc; cases hc)
  refine wp_loop_rel (fun m a w => ∃ st E, I m st ∧ StOK E st a w ∧ a.tmps.size = n ∧ Ext lo E0 w0 E w) ?_ m a0 w0 ⟨st, E0, h0, hst, hn, Ext.refl _ _ _⟩
  rintro m a w ⟨st, E, hI, hst, hn, hext⟩
  refine wp_mono (round m st hI _ hb E a w hst hn) ?_
  rintro e a' w' ⟨ex, st', E', rfl, k2, k3, k4, k5⟩
  cases ex with
  | normal =>
    obtain ⟨m', st2, hlt, hle, hI'⟩ := k2
    obtain ⟨E2, q1, q2⟩ := hle E' a' w' k3
    exact ⟨m', hlt, st2, E2, hI', q1, k4, (hext.trans k5 (Nat.le_refl _)).trans q2 (Nat.le_refl _)⟩
  | exit id => exact ⟨.exit id, st', E', rfl, k2, k3, k4, hext.trans k5 (Nat.le_refl _)⟩
  | ret => exact ⟨.ret, st', E', rfl, k2, k3, k4, hext.trans k5 (Nat.le_refl _)⟩

theorem evTs_le {F G : CallF} (hFG : ∀ k args h K, F k args h K → G k args h K) (hG : Mono G) : ∀ {is : List Ins} {K : St → Prop} {st : St}, evTs F is K st → evTs G is K st
  | [], _, _, he => he
  | _ :: _, _, _, he => evT_mono hG (fun _ => evTs_le hFG hG) (evT_le hFG he)

theorem range_map_getD {α : Type} [Inhabited α] (l : List α) : ((List.range l.length).map fun j => l.getD j default) = l := by
  refine List.ext_getElem? fun i => ?_
  rw [List.getElem?_map]
  by_cases hi : i < l.length
  · simp [List.getElem?_range hi, hi]
  · rw [List.getElem?_eq_none (l := List.range l.length) (by rw [List.length_range]; omega), List.getElem?_eq_none (l := l) (by omega)]
    rfl

theorem StOK.drew {E : Env} {a : Act} {w : World} (hst : StOK E st a w) : StOK E st a w.drew ∧ Ext lo E w E w.drew := by
  obtain ⟨h1, h2⟩ := hst.heap.more (More.refl w).drew
  exact ⟨⟨fun i => (hst.slots i).ext (h2 _) hst.heap.dom, hst.defers, h1⟩, h2 _⟩

theorem AW.reg_ {F : CallF} (hF : Mono F) (hL : Live' F) {q : Bool} (hQ : q = true → Quiet F) (hFG : ∀ k args h K, F k args h K → Fn P k args h K) {is : List Ins} (h : evTs F is (Q .normal) st) :
    ∀ c', (compC P n c' = some (if q = true then .regq is else .reg is)) → ∀ E a w, StOK E st a w → a.tmps.size = n → c'.wp P (Post n lo E w Q) a w := fun c' hc E a w hst hn => by
  have fin : ∀ E1 a' w1 w', Ext lo E w E1 w1 → Then lo n E1 w1 (Q .normal) a' w' → Post n lo E w Q .normal a' w' := by
    rintro E1 a' w1 w' hx ⟨st', E', k1, k2, k3, k4⟩
    exact ⟨.normal, st', E', rfl, k1, k2, k3, hx.trans k4 (Nat.le_refl _)⟩
  have drawn : ∀ {ops : Array Oper} {id : Nat}, omap (compI P n ops) ops.toList = some is → drawOK q ops is = true → (P.follows .mixedOrders || !Region.departs ops) = true → (Code.region id ops true).wp P (Post n lo E w Q) a w := fun {ops id} hops hd hm => by
    obtain ⟨hlen, _⟩ := omap_get hops
    have hlen : is.length = ops.size := by simpa using hlen
    refine wp_region_draw fun t => ?_
    obtain ⟨d1, d2⟩ := hst.drew (lo := lo)
    simp only [Region.schedule, hm, if_true]
    refine wpAny_sound ops.size t _ a _ (wpAny_ok hF hL hQ hFG hops hd ops.size (List.range ops.size) _ st E a w.drew List.pairwise_lt_range (fun j => ?_) (by simp) ?_ (by simp) d1 hn (K := Q .normal) ?_ fun a' w' ht => fin E a' w.drew w' d2 ht)
    · rw [List.mem_range]
      constructor
      · intro hj
        exact ⟨hj, by simp [hj]⟩
      · exact fun hj => hj.1
    · intro k o ho hk
      have := (Array.getElem?_eq_some_iff.1 ho).1
      simp [this] at hk
    · rw [← hlen, range_map_getD]
      exact h
  unfold compC at hc
  split at hc
  case h_3 =>
    rename_i id ops draw
    split at hc
    case h_2 => cases hc
    rename_i is' hops
    split at hc
    · rename_i hdraw
      subst hdraw
      split at hc
      case isFalse => cases hc
      rename_i hm
      split at hc
      · rename_i hd
        cases q with
        | true => cases hc
        | false => cases hc; exact drawn hops hd hm
      · split at hc
        case isFalse => split at hc <;> cases q <;> cases hc
        rename_i hd
        cases q with
        | false => cases hc
        | true => cases hc; exact drawn hops hd hm
    · rename_i hdraw
      cases q with
      | true => cases hc
      | false =>
        cases hc
        have : draw = false := by simpa using hdraw
        subst this
        obtain ⟨hlen, _⟩ := omap_get hops
        have hlen : is.length = ops.size := by simpa using hlen
        refine wp_region (wpOps_ok hops (List.range ops.size) st E a w (fun j hj => List.mem_range.1 hj) hst hn (K := Q .normal) ?_ fun a' w' ht => fin E a' w w' (Ext.refl _ _ _) ht)
        rw [← hlen, range_map_getD]
        exact evTs_le hFG Fn_mono h
  all_goals repeat' split at hc
  all_goals first | (cases hc; done) | (obtain ⟨_, _, hc⟩ := map_some' hc; cases hc; done)

theorem AW.reg {is : List Ins} (h : evTs (Fn P) is (Q .normal) st) : AW P n lo (.reg is) Q st :=
  AW.reg_ (q := false) Fn_mono Fn_live (fun h => by cases h) (fun _ _ _ _ h => h) h

/-- A region in which calls leave the heap as it is. -/
theorem AW.regq {is : List Ins} (h : evTs (Fnq P) is (Q .normal) st) : AW P n lo (.regq is) Q st :=
  AW.reg_ (q := true) Fnq_mono Fnq_live (fun _ => Fnq_quiet) Fnq_Fn h

/-- A region of which several orders are walked. -/
theorem AW.regt {t : RT} (h : evR (Fnq P) t (Q .normal) st) : AW P n lo (.regt t) Q st := fun c' hc E a w hst hn => by
  have fin : ∀ E1 a' w1 w', Ext lo E w E1 w1 → Then lo n E1 w1 (Q .normal) a' w' → Post n lo E w Q .normal a' w' := by
    rintro E1 a' w1 w' hx ⟨st', E', k1, k2, k3, k4⟩
    exact ⟨.normal, st', E', rfl, k1, k2, k3, hx.trans k4 (Nat.le_refl _)⟩
  unfold compC at hc
  split at hc
  case h_3 =>
    rename_i id ops draw
    split at hc
    case h_2 => cases hc
    rename_i is' hops
    split at hc
    case isFalse => cases hc
    rename_i hdraw
    subst hdraw
    split at hc
    case isFalse => cases hc
    rename_i hm
    split at hc
    · cases hc
    split at hc
    · cases hc
    split at hc
    case isFalse => cases hc
    rename_i hw
    cases hc
    refine wp_region_draw fun t => ?_
    obtain ⟨d1, d2⟩ := hst.drew (lo := lo)
    simp only [Region.schedule, hm, if_true]
    have hg := grow_ok Fnq_mono _ _ h
    refine wpAny_sound ops.size t _ a _ (wpAny_G Fnq_mono Fnq_live (fun _ => Fnq_quiet) Fnq_Fn hops (fwd_ok hw) ops.size (List.range ops.size) _ st E a w.drew List.nodup_range (fun j => ?_) (by simp) ?_ (by simp) d1 hn (K := Q .normal) (by rw [List.length_range]; exact hg) fun a' w' ht => fin E a' w.drew w' d2 ht)
    · rw [List.mem_range]
      constructor
      · intro hj
        exact ⟨hj, by simp [hj]⟩
      · exact fun hj => hj.1
    · intro k o ho hk
      have := (Array.getElem?_eq_some_iff.1 ho).1
      simp [this] at hk
  all_goals repeat' split at hc
  all_goals first | (cases hc; done) | (obtain ⟨_, _, hc⟩ := map_some' hc; cases hc; done)
end
end Go.Ab
