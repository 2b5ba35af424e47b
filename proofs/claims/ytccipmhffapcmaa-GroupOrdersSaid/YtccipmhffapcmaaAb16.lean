/-
  The abstract machine, sixteenth part: regions whose order is drawn.
-/
import Derived.Test.YtccipmhffapcmaaAb15
set_option linter.unusedSimpArgs false
set_option linter.unusedVariables false
namespace Go.Ab
open Go

variable {P : Program}

theorem orB_testBit {acc : List Nat} : ∀ {es : List Edge} {j : Nat}, (orB acc es).testBit j = true → ∃ e ∈ es, Region.binds .any e = true ∧ (e.on = j ∨ (acc.getD e.on 0).testBit j = true)
  | [], j, h => by simp [orB] at h
  | e :: es, j, h => by
    simp only [orB, Nat.testBit_or, Bool.or_eq_true] at h
    rcases h with h | h
    · split at h
      · rename_i hb
        simp only [Nat.testBit_or, Bool.or_eq_true, Nat.testBit_two_pow, decide_eq_true_eq] at h
        exact ⟨e, List.mem_cons_self, hb, h⟩
      · simp at h
    · obtain ⟨e', k1, k2, k3⟩ := orB_testBit h
      exact ⟨e', List.mem_cons_of_mem _ k1, k2, k3⟩

theorem befs_spec : ∀ (os : List Oper) (acc : List Nat), ∃ t, befs os acc = acc ++ t ∧ ∀ (i : Nat) o, os[i]? = some o → (befs os acc)[acc.length + i]? = some (orB ((befs os acc).take (acc.length + i)) o.after.toList)
  | [], acc => ⟨[], by simp [befs], fun i o h => by simp at h⟩
  | o :: os, acc => by
    obtain ⟨t, h1, h2⟩ := befs_spec os (acc ++ [orB acc o.after.toList])
    refine ⟨orB acc o.after.toList :: t, by simp [befs, h1], fun i o' ho => ?_⟩
    cases i with
    | zero =>
      simp only [List.getElem?_cons_zero, Option.some.injEq] at ho
      subst ho
      simp [befs, h1]
    | succ i =>
      have := h2 i o' (by simpa using ho)
      simp only [List.length_append, List.length_singleton] at this
      simp only [befs]
      rwa [show acc.length + (i + 1) = acc.length + 1 + i by omega]

section
variable {q : Bool} {ops : Array Oper} {Q : Exit → Act → World → Prop} {n lo : Nat} {is : List Ins}

def Closed (ops : Array Oper) (L : Nat → Prop) : Prop := ∀ (k : Nat) o, ops[k]? = some o → L k → ∀ e ∈ o.after.toList, Region.binds .any e = true → L e.on

theorem before_listed {L : Nat → Prop} (hcl : Closed ops L) : ∀ (i : Nat) (o : Oper), ops[i]? = some o → (∀ e ∈ o.after.toList, Region.binds .any e = true → L e.on) → ∀ j, ((befs ops.toList []).getD i 0).testBit j = true → L j := by
  intro i
  induction i using Nat.strongRecOn with
  | _ i ih =>
    intro o ho he j hj
    obtain ⟨t, _, h2⟩ := befs_spec ops.toList []
    have h3 := h2 i o (by simpa using ho)
    simp only [List.length_nil, Nat.zero_add] at h3
    rw [List.getD_eq_getElem?_getD, h3, Option.getD_some] at hj
    obtain ⟨e, k1, k2, k3⟩ := orB_testBit hj
    rcases k3 with k3 | k3
    · rw [← k3]; exact he e k1 k2
    · have hlt : e.on < i := by
        rcases Nat.lt_or_ge e.on i with h | h
        · exact h
        · rw [List.getD_eq_getElem?_getD, List.getElem?_eq_none (by simp; omega)] at k3
          simp at k3
      have hol : e.on < ops.size := by have := (Array.getElem?_eq_some_iff.1 ho).1; omega
      have hoe : ops[e.on]? = some ops[e.on] := Array.getElem?_eq_getElem hol
      refine ih e.on hlt ops[e.on] hoe (fun e' he' hb => hcl e.on _ hoe (he e k1 k2) e' he' hb) j ?_
      rw [List.getD_eq_getElem?_getD, List.getElem?_take_of_lt hlt] at k3
      rw [List.getD_eq_getElem?_getD]
      exact k3

theorem drawOK_edge (hd : drawOK q ops is = true) {j : Nat} {o : Oper} (ho : ops[j]? = some o) {e : Edge} (he : e ∈ o.after.toList) (hb : Region.binds .any e = true) : e.on < j := by
  unfold drawOK at hd
  simp only [List.all_eq_true, List.mem_range, Bool.and_eq_true] at hd
  have := (hd j (Array.getElem?_eq_some_iff.1 ho).1).1
  rw [ho] at this
  simp only [List.all_eq_true, Bool.or_eq_true, Bool.not_eq_true', decide_eq_true_eq] at this
  rcases this e he with h | h
  · rw [hb] at h; cases h
  · exact h

theorem drawOK_apart (hd : drawOK q ops is = true) {i j : Nat} (hj : j < ops.size) (hij : i < j) (hb : ((befs ops.toList []).getD j 0).testBit i = false) : apart q (is.getD i default) (is.getD j default) = true := by
  unfold drawOK at hd
  simp only [List.all_eq_true, List.mem_range, Bool.and_eq_true, Bool.or_eq_true] at hd
  rcases (hd j hj).2 i hij with h | h
  · rw [hb] at h; cases h
  · exact h

theorem wpAny_ok {F : CallF} (hF : Mono F) (hL : Live' F) (hQ : q = true → Quiet F) (hFG : ∀ k args h K, F k args h K → Fn P k args h K) (hc : omap (compI P n ops) ops.toList = some is) (hd : drawOK q ops is = true) : ∀ (fuel : Nat) (rest : List Nat) (listed : Array Bool) (st : St) (E : Env) (a : Act) (w : World),
    rest.Pairwise (· < ·) → (∀ j, j ∈ rest ↔ (j < ops.size ∧ listed.getD j false = false)) → listed.size = ops.size → Closed ops (fun j => listed.getD j false = true) → rest.length ≤ fuel → StOK E st a w → a.tmps.size = n → ∀ {K : St → Prop},
    evTs F (rest.map fun j => is.getD j default) K st → (∀ a' w', Then lo n E w K a' w' → Q .normal a' w') → wpAny P .any ops Q fuel listed a w := by
  have unl : ∀ (listed : Array Bool) (j : Nat), listed.size = ops.size → (listed.getD j true = false ↔ (j < ops.size ∧ listed.getD j false = false)) := fun listed j hs => by
    by_cases hj : j < listed.size
    · simp [hj, ← hs]
    · simp [hj, ← hs]
  intro fuel
  induction fuel with
  | zero =>
    intro rest listed st E a w _ hr hs _ hl hst hn K he hq
    have hnil : rest = [] := List.eq_nil_of_length_eq_zero (by omega)
    subst hnil
    refine ⟨?_, hq a w ⟨st, E, he, hst, hn, Ext.refl _ _ _⟩⟩
    refine List.eq_nil_iff_forall_not_mem.2 fun j hj => ?_
    obtain ⟨h0, o, ho, _⟩ := mem_ready.1 hj
    have := (hr j).2 ((unl listed j hs).1 h0)
    simp at this
  | succ fuel ih =>
    intro rest listed st E a w hp hr hs hcl hl hst hn K he hq
    constructor
    · intro hnil
      cases rest with
      | nil => exact hq a w ⟨st, E, he, hst, hn, Ext.refl _ _ _⟩
      | cons j0 js =>
        exfalso
        obtain ⟨hj0, hu⟩ := (hr j0).1 List.mem_cons_self
        have ho : ops[j0]? = some ops[j0] := Array.getElem?_eq_getElem hj0
        have hmem : j0 ∈ Region.ready .any ops listed := by
          refine mem_ready.2 ⟨(unl listed j0 hs).2 ⟨hj0, hu⟩, _, ho, fun e hee hb => ?_⟩
          have hlt := drawOK_edge hd ho (by simpa using hee) hb
          cases hx : listed.getD e.on false with
          | true => rfl
          | false =>
            have hin := (hr e.on).2 ⟨by omega, hx⟩
            rcases List.mem_cons.1 hin with h | h
            · omega
            · have := (List.pairwise_cons.1 hp).1 _ h
              omega
        rw [hnil] at hmem
        cases hmem
    · intro i hi
      obtain ⟨h0, o, ho, hedge⟩ := mem_ready.1 hi
      have hir : i ∈ rest := (hr i).2 ((unl listed i hs).1 h0)
      obtain ⟨js, ks, rfl⟩ := List.append_of_mem hir
      have hil : i < ops.size := (Array.getElem?_eq_some_iff.1 ho).1
      have hp2 := List.pairwise_append.1 hp
      have hlist : ∀ e ∈ o.after.toList, Region.binds .any e = true → listed.getD e.on false = true := fun e hee hb => hedge e (by simpa using hee) hb
      have hap : ∀ x ∈ js.map (fun j => is.getD j default), apart q x (is.getD i default) = true := fun x hx => by
        obtain ⟨j, hj, rfl⟩ := List.mem_map.1 hx
        have hji : j < i := hp2.2.2 j hj i List.mem_cons_self
        refine drawOK_apart hd hil hji ?_
        cases hb : ((befs ops.toList []).getD i 0).testBit j with
        | false => rfl
        | true =>
          have h1 := before_listed hcl i o ho hlist j hb
          have h2 := ((hr j).1 (List.mem_append_left _ hj)).2
          rw [h1] at h2
          cases h2
      simp only [List.map_append, List.map_cons] at he
      have he := evTs_front hF hL hQ hap he
      simp only [evTs] at he
      obtain ⟨_, h2⟩ := omap_get hc
      obtain ⟨ii, hii, hci⟩ := h2 i o (by simpa using ho)
      simp only [List.getD_eq_getElem?_getD, hii, Option.getD_some] at he
      refine wpOp_mono (fun a' w' h => ?_) (wpOp_ok (lo := lo) ho hci hst hn (evT_le hFG he))
      obtain ⟨st', E', k1, k2, k3, k4⟩ := h
      refine ih (js ++ ks) (listed.setIfInBounds i true) st' E' a' w' ?_ ?_ (by simpa using hs) ?_ (by simp at hl ⊢; omega) k2 k3 (by simpa [List.getD_eq_getElem?_getD, List.map_append] using k1) fun a'' w'' h => hq a'' w'' (h.next k4)
      · refine List.pairwise_append.2 ⟨hp2.1, (List.pairwise_cons.1 hp2.2.1).2, fun x hx y hy => hp2.2.2 x hx y (List.mem_cons_of_mem _ hy)⟩
      · intro j
        have hrj := hr j
        by_cases hji : j = i
        · subst hji
          have hil' : j < listed.size := by omega
          constructor
          · intro hj
            exfalso
            rcases List.mem_append.1 hj with h | h
            · exact absurd (hp2.2.2 j h j List.mem_cons_self) (by omega)
            · exact absurd ((List.pairwise_cons.1 hp2.2.1).1 j h) (by omega)
          · rintro ⟨_, h⟩
            simp [hil'] at h
        · rw [getD_set_ne false (Ne.symm hji), ← hrj]
          simp [hji]
      · intro k o' ho' hk e hee hb
        by_cases hki : k = i
        · subst hki
          rw [ho] at ho'; injection ho' with ho'; subst ho'
          exact getD_set_true (hlist e hee hb)
        · rw [getD_set_ne false (Ne.symm hki)] at hk
          exact getD_set_true (hcl k o' ho' hk e hee hb)
end
end Go.Ab
