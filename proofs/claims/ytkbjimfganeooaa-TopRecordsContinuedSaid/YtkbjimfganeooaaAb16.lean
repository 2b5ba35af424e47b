/-
  The abstract machine, sixteenth part: regions whose order is drawn.
-/
import Derived.Test.YtkbjimfganeooaaAb15
set_option linter.unusedSimpArgs false
set_option linter.unusedVariables false
namespace Go.Ab
open Go

variable {P : Program}

theorem orB_testBit {acc : List Nat} : ∀ {es : List Edge} {j : Nat}, (orB acc es).testBit j = true → ∃ e ∈ es, Region.binds .any e = true ∧ (e.on = j ∨ (acc.getD e.on 0).testBit j = true)
  | [], j, h => by simp [orB] at h
  | e :: es, j, h => by
    simp only [orB, Nat.testBit_or, Bool.or_eq_true] at h
    rcases h with h | h
    · split at h
      · rename_i hb
        simp only [Nat.testBit_or, Bool.or_eq_true, Nat.testBit_two_pow, decide_eq_true_eq] at h
        exact ⟨e, List.mem_cons_self, hb, h⟩
      · simp at h
    · obtain ⟨e', k1, k2, k3⟩ := orB_testBit h
      exact ⟨e', List.mem_cons_of_mem _ k1, k2, k3⟩

theorem befs_spec : ∀ (os : List Oper) (acc : List Nat), ∃ t, befs os acc = acc ++ t ∧ ∀ (i : Nat) o, os[i]? = some o → (befs os acc)[acc.length + i]? = some (orB ((befs os acc).take (acc.length + i)) o.after.toList)
  | [], acc => ⟨[], by simp [befs], fun i o h => by simp at h⟩
  | o :: os, acc => by
    obtain ⟨t, h1, h2⟩ := befs_spec os (acc ++ [orB acc o.after.toList])
    refine ⟨orB acc o.after.toList :: t, by simp [befs, h1], fun i o' ho => ?_⟩
    cases i with
    | zero =>
      simp only [List.getElem?_cons_zero, Option.some.injEq] at ho
      subst ho
      simp [befs, h1]
    | succ i =>
      have := h2 i o' (by simpa using ho)
      simp only [List.length_append, List.length_singleton] at this
      simp only [befs]
      rwa [show acc.length + (i + 1) = acc.length + 1 + i by omega]

section
variable {q : Bool} {ops : Array Oper} {Q : Exit → Act → World → Prop} {n lo : Nat} {is : List Ins}

def Closed (ops : Array Oper) (L : Nat → Prop) : Prop := ∀ (k : Nat) o, ops[k]? = some o → L k → ∀ e ∈ o.after.toList, Region.binds .any e = true → L e.on

theorem before_listed {L : Nat → Prop} (hcl : Closed ops L) : ∀ (i : Nat) (o : Oper), ops[i]? = some o → (∀ e ∈ o.after.toList, Region.binds .any e = true → L e.on) → ∀ j, ((befs ops.toList []).getD i 0).testBit j = true → L j := by
  intro i
  induction i using Nat.strongRecOn with
  | _ i ih =>
    intro o ho he j hj
    obtain ⟨t, _, h2⟩ := befs_spec ops.toList []
    have h3 := h2 i o (by simpa using ho)
    simp only [List.length_nil, Nat.zero_add] at h3
    rw [List.getD_eq_getElem?_getD, h3, Option.getD_some] at hj
    obtain ⟨e, k1, k2, k3⟩ := orB_testBit hj
    rcases k3 with k3 | k3
    · rw [← k3]; exact he e k1 k2
    · have hlt : e.on < i := by
        rcases Nat.lt_or_ge e.on i with h | h
        · exact h
        · rw [List.getD_eq_getElem?_getD, List.getElem?_eq_none (by simp; omega)] at k3
          simp at k3
      have hol : e.on < ops.size := by have := (Array.getElem?_eq_some_iff.1 ho).1; omega
      have hoe : ops[e.on]? = some ops[e.on] := Array.getElem?_eq_getElem hol
      refine ih e.on hlt ops[e.on] hoe (fun e' he' hb => hcl e.on _ hoe (he e k1 k2) e' he' hb) j ?_
      rw [List.getD_eq_getElem?_getD, List.getElem?_take_of_lt hlt] at k3
      rw [List.getD_eq_getElem?_getD]
      exact k3

theorem drawOK_edge (hd : drawOK q ops is = true) {j : Nat} {o : Oper} (ho : ops[j]? = some o) {e : Edge} (he : e ∈ o.after.toList) (hb : Region.binds .any e = true) : e.on < j := by
  unfold drawOK at hd
  simp only [List.all_eq_true, List.mem_range, Bool.and_eq_true] at hd
  have := (hd j (Array.getElem?_eq_some_iff.1 ho).1).1
  rw [ho] at this
  simp only [List.all_eq_true, Bool.or_eq_true, Bool.not_eq_true', decide_eq_true_eq] at this
  rcases this e he with h | h
  · rw [hb] at h; cases h
  · exact h

theorem drawOK_apart (hd : drawOK q ops is = true) {i j : Nat} (hj : j < ops.size) (hij : i < j) (hb : ((befs ops.toList []).getD j 0).testBit i = false) : apart q (is.getD i default) (is.getD j default) = true := by
  unfold drawOK at hd
  simp only [List.all_eq_true, List.mem_range, Bool.and_eq_true, Bool.or_eq_true] at hd
  rcases (hd j hj).2 i hij with h | h
  · rw [hb] at h; cases h
  · exact h

theorem wpAny_ok {F : CallF} (hF : Mono F) (hL : Live' F) (hQ : q = true → Quiet F) (hFG : ∀ k args h K, F k args h K → Fn P k args h K) (hc : omap (compI P n ops) ops.toList = some is) (hd : drawOK q ops is = true) : ∀ (fuel : Nat) (rest : List Nat) (listed : Array Bool) (st : St) (E : Env) (a : Act) (w : World),
    rest.Pairwise (· < ·) → (∀ j, j ∈ rest ↔ (j < ops.size ∧ listed.getD j false = false)) → listed.size = ops.size → Closed ops (fun j => listed.getD j false = true) → rest.length ≤ fuel → StOK E st a w → a.tmps.size = n → ∀ {K : St → Prop},
    evTs F (rest.map fun j => is.getD j default) K st → (∀ a' w', Then lo n E w K a' w' → Q .normal a' w') → wpAny P .any ops Q fuel listed a w := by
  have unl : ∀ (listed : Array Bool) (j : Nat), listed.size = ops.size → (listed.getD j true = false ↔ (j < ops.size ∧ listed.getD j false = false)) := fun listed j hs => by
    by_cases hj : j < listed.size
    · simp [hj, ← hs]
    · simp [hj, ← hs]
  intro fuel
  induction fuel with
  | zero =>
    intro rest listed st E a w _ hr hs _ hl hst hn K he hq
    have hnil : rest = [] := List.eq_nil_of_length_eq_zero (by omega)
    subst hnil
    refine ⟨?_, hq a w ⟨st, E, he, hst, hn, Ext.refl _ _ _⟩⟩
    refine List.eq_nil_iff_forall_not_mem.2 fun j hj => ?_
    obtain ⟨h0, o, ho, _⟩ := mem_ready.1 hj
    have := (hr j).2 ((unl listed j hs).1 h0)
    simp at this
  | succ fuel ih =>
    intro rest listed st E a w hp hr hs hcl hl hst hn K he hq
    constructor
    · intro hnil
      cases rest with
      | nil => exact hq a w ⟨st, E, he, hst, hn, Ext.refl _ _ _⟩
      | cons j0 js =>
        exfalso
        obtain ⟨hj0, hu⟩ := (hr j0).1 List.mem_cons_self
        have ho : ops[j0]? = some ops[j0] := Array.getElem?_eq_getElem hj0
        have hmem : j0 ∈ Region.ready .any ops listed := by
          refine mem_ready.2 ⟨(unl listed j0 hs).2 ⟨hj0, hu⟩, _, ho, fun e hee hb => ?_⟩
          have hlt := drawOK_edge hd ho (by simpa using hee) hb
          cases hx : listed.getD e.on false with
          | true => rfl
          | false =>
            have hin := (hr e.on).2 ⟨by omega, hx⟩
            rcases List.mem_cons.1 hin with h | h
            · omega
            · have := (List.pairwise_cons.1 hp).1 _ h
              omega
        rw [hnil] at hmem
        cases hmem
    · intro i hi
      obtain ⟨h0, o, ho, hedge⟩ := mem_ready.1 hi
      have hir : i ∈ rest := (hr i).2 ((unl listed i hs).1 h0)
      obtain ⟨js, ks, rfl⟩ := List.append_of_mem hir
      have hil : i < ops.size := (Array.getElem?_eq_some_iff.1 ho).1
      have hp2 := List.pairwise_append.1 hp
      have hlist : ∀ e ∈ o.after.toList, Region.binds .any e = true → listed.getD e.on false = true := fun e hee hb => hedge e (by simpa using hee) hb
      have hap : ∀ x ∈ js.map (fun j => is.getD j default), apart q x (is.getD i default) = true := fun x hx => by
        obtain ⟨j, hj, rfl⟩ := List.mem_map.1 hx
        have hji : j < i := hp2.2.2 j hj i List.mem_cons_self
        refine drawOK_apart hd hil hji ?_
        cases hb : ((befs ops.toList []).getD i 0).testBit j with
        | false => rfl
        | true =>
          have h1 := before_listed hcl i o ho hlist j hb
          have h2 := ((hr j).1 (List.mem_append_left _ hj)).2
          rw [h1] at h2
          cases h2
      simp only [List.map_append, List.map_cons] at he
      have he := evTs_front hF hL hQ hap he
      simp only [evTs] at he
      obtain ⟨_, h2⟩ := omap_get hc
      obtain ⟨ii, hii, hci⟩ := h2 i o (by simpa using ho)
      simp only [List.getD_eq_getElem?_getD, hii, Option.getD_some] at he
      refine wpOp_mono (fun a' w' h => ?_) (wpOp_ok (lo := lo) ho hci hst hn (evT_le hFG he))
      obtain ⟨st', E', k1, k2, k3, k4⟩ := h
      refine ih (js ++ ks) (listed.setIfInBounds i true) st' E' a' w' ?_ ?_ (by simpa using hs) ?_ (by simp at hl ⊢; omega) k2 k3 (by simpa [List.getD_eq_getElem?_getD, List.map_append] using k1) fun a'' w'' h => hq a'' w'' (h.next k4)
      · refine List.pairwise_append.2 ⟨hp2.1, (List.pairwise_cons.1 hp2.2.1).2, fun x hx y hy => hp2.2.2 x hx y (List.mem_cons_of_mem _ hy)⟩
      · intro j
        have hrj := hr j
        by_cases hji : j = i
        · subst hji
          have hil' : j < listed.size := by omega
          constructor
          · intro hj
            exfalso
            rcases List.mem_append.1 hj with h | h
            · exact absurd (hp2.2.2 j h j List.mem_cons_self) (by omega)
            · exact absurd ((List.pairwise_cons.1 hp2.2.1).1 j h) (by omega)
          · rintro ⟨_, h⟩
            simp [hil'] at h
        · rw [getD_set_ne false (Ne.symm hji), ← hrj]
          simp [hji]
      · intro k o' ho' hk e hee hb
        by_cases hki : k = i
        · subst hki
          rw [ho] at ho'; injection ho' with ho'; subst ho'
          exact getD_set_true (hlist e hee hb)
        · rw [getD_set_ne false (Ne.symm hki)] at hk
          exact getD_set_true (hcl k o' ho' hk e hee hb)
end
/-- All the orders, but for those that differ in what may change places. -/
def evG (F : CallF) (q : Bool) (ops : Array Oper) (b : List Nat) (is : List Ins) : Nat → List Nat → (St → Prop) → St → Prop
  | 0, _, K, st => K st
  | f + 1, rest, K, st => if rest = [] then K st else match (rdy ops rest).find? (loneI q b is rest) with
      | some i => evT F (is.getD i default) (evG F q ops b is f (rest.erase i) K) st
      | none => ∀ i ∈ rdy ops rest, evT F (is.getD i default) (evG F q ops b is f (rest.erase i) K) st

section
variable {F : CallF} {q : Bool} {ops : Array Oper} {b : List Nat} {is : List Ins}

theorem rdy_erase {rest : List Nat} {i j : Nat} (hj : j ∈ rdy ops rest) (h : j ≠ i) : j ∈ rdy ops (rest.erase i) := by
  unfold rdy at hj ⊢
  rw [List.mem_filter] at hj ⊢
  obtain ⟨h1, h2⟩ := hj
  refine ⟨(List.mem_erase_of_ne h).2 h1, ?_⟩
  split at h2
  · rename_i o ho
    simp only [List.all_eq_true, Bool.or_eq_true, Bool.not_eq_true'] at h2 ⊢
    intro e he
    rcases h2 e he with h | h
    · exact .inl h
    · right
      simp only [List.contains_eq_mem, decide_eq_false_iff_not] at h ⊢
      exact fun hm => h (List.mem_of_mem_erase hm)
  · cases h2

theorem lone_erase {rest : List Nat} {i j : Nat} (h : loneI q b is rest j = true) : loneI q b is (rest.erase i) j = true := by
  unfold loneI at h ⊢
  rw [List.all_eq_true] at h ⊢
  exact fun x hx => h x (List.mem_of_mem_erase hx)


theorem rdy_mem {rest : List Nat} {i : Nat} (h : i ∈ rdy ops rest) : i ∈ rest ∧ ∃ o, ops[i]? = some o ∧ ∀ e ∈ o.after.toList, Region.binds .any e = true → e.on ∉ rest := by
  unfold rdy at h
  rw [List.mem_filter] at h
  obtain ⟨h1, h2⟩ := h
  split at h2
  · rename_i o ho
    refine ⟨h1, o, ho, fun e he hb => ?_⟩
    simp only [List.all_eq_true, Bool.or_eq_true, Bool.not_eq_true'] at h2
    rcases h2 e he with h | h
    · rw [hb] at h; cases h
    · simpa using h
  · cases h2

theorem closed_erase {rest : List Nat} {i : Nat} (hn : rest.Nodup) (hc : Closed ops (fun k => k ∉ rest)) (hi : i ∈ rdy ops rest) : Closed ops (fun k => k ∉ rest.erase i) := by
  intro k o ho hk e he hb hm
  have hm' := List.mem_of_mem_erase hm
  by_cases hki : k = i
  · subst hki
    obtain ⟨_, o', ho', h⟩ := rdy_mem hi
    rw [ho] at ho'; injection ho' with ho'; subst ho'
    exact h e he hb hm'
  · exact hc k o ho (fun h => hk ((List.mem_erase_of_ne hki).2 h)) e he hb hm'

theorem not_bound {rest : List Nat} {i j : Nat} (hc : Closed ops (fun k => k ∉ rest)) (hj : j ∈ rdy ops rest) (hi : i ∈ rest) : ((befs ops.toList []).getD j 0).testBit i = false := by
  obtain ⟨_, o, ho, h⟩ := rdy_mem hj
  cases hb : ((befs ops.toList []).getD j 0).testBit i with
  | false => rfl
  | true => exact absurd hi (before_listed (L := fun k => k ∉ rest) hc j o ho h i hb)

theorem lone_apart {rest : List Nat} {i j : Nat} (hc : Closed ops (fun k => k ∉ rest)) (hi : i ∈ rest) (hl : loneI q (befs ops.toList []) is rest i = true) (hj : j ∈ rdy ops rest) (hne : j ≠ i) : apart q (is.getD i default) (is.getD j default) = true := by
  unfold loneI at hl
  rw [List.all_eq_true] at hl
  have := hl j (rdy_mem hj).1
  have hb := not_bound hc hj hi
  rw [hb] at this
  simpa only [Bool.or_eq_true, beq_iff_eq, hne, Bool.false_eq_true, false_or] using this

theorem evG_AB (hF : Mono F) (hL : Live' F) (hQ : q = true → Quiet F) : ∀ (f : Nat) (rest : List Nat), rest.length = f + 1 → rest.Nodup → Closed ops (fun k => k ∉ rest) → ∀ {K : St → Prop},
    (∀ i st, i ∈ rdy ops rest → evG F q ops (befs ops.toList []) is (f + 1) rest K st → evT F (is.getD i default) (evG F q ops (befs ops.toList []) is f (rest.erase i) K) st) ∧
    (∀ i st, i ∈ rdy ops rest → loneI q (befs ops.toList []) is rest i = true → evT F (is.getD i default) (evG F q ops (befs ops.toList []) is f (rest.erase i) K) st → evG F q ops (befs ops.toList []) is (f + 1) rest K st) := by
  intro f
  induction f with
  | zero =>
    intro rest hl hn hc K
    obtain ⟨x, rfl⟩ := List.length_eq_one_iff.1 hl
    have hr : ∀ i, i ∈ rdy ops [x] → i = x := fun i hi => by simpa using (rdy_mem hi).1
    refine ⟨fun i st hi he => ?_, fun i st hi hlo he => ?_⟩
    · have := hr i hi; subst this
      rw [evG, if_neg (by simp)] at he
      split at he
      · rename_i j hj
        have hj' := hr j (List.mem_of_find?_eq_some hj)
        subst hj'; exact he
      · exact he i hi
    · have := hr i hi; subst this
      rw [evG, if_neg (by simp)]
      split
      · rename_i j hj
        have hj' := hr j (List.mem_of_find?_eq_some hj)
        subst hj'; exact he
      · intro j hj
        have hj' := hr j hj
        subst hj'; exact he
  | succ f ih =>
    intro rest hl hn hc K
    have hne : rest ≠ [] := fun h => by rw [h] at hl; cases hl
    have unf : ∀ st, evG F q ops (befs ops.toList []) is (f + 1 + 1) rest K st = (match (rdy ops rest).find? (loneI q (befs ops.toList []) is rest) with
      | some i => evT F (is.getD i default) (evG F q ops (befs ops.toList []) is (f + 1) (rest.erase i) K) st
      | none => ∀ i ∈ rdy ops rest, evT F (is.getD i default) (evG F q ops (befs ops.toList []) is (f + 1) (rest.erase i) K) st) := fun st => by
      rw [evG, if_neg hne]
    have len : ∀ i, i ∈ rest → (rest.erase i).length = f + 1 := fun i hi => by rw [List.length_erase_of_mem hi, hl]; rfl
    have IH := fun i (hi : i ∈ rdy ops rest) => ih (rest.erase i) (len i (rdy_mem hi).1) (hn.erase i) (closed_erase hn hc hi) (K := K)
    -- two ready operations, of which the first is loneI, change places
    have swap : ∀ i j st, i ∈ rdy ops rest → loneI q (befs ops.toList []) is rest i = true → j ∈ rdy ops rest → j ≠ i → evT F (is.getD i default) (evG F q ops (befs ops.toList []) is (f + 1) (rest.erase i) K) st →
        evT F (is.getD j default) (evT F (is.getD i default) (evG F q ops (befs ops.toList []) is f ((rest.erase j).erase i) K)) st := fun i j st hi hlo hj hji he => by
      have h1 := evT_mono hF (fun st' h => (IH i hi).1 j st' (rdy_erase hj hji) h) he
      rw [List.erase_comm] at h1
      exact evT_comm hF hL hQ (lone_apart hc (rdy_mem hi).1 hlo hj hji) h1
    refine ⟨fun i st hi he => ?_, fun i st hi hlo he => ?_⟩
    · rw [unf] at he
      split at he
      · rename_i i1 h1
        have hr1 := List.mem_of_find?_eq_some h1
        have hl1 := List.find?_some h1
        by_cases e : i = i1
        · subst e; exact he
        · refine evT_mono hF (fun st' h => ?_) (swap i1 i st hr1 hl1 hi e he)
          exact (IH i hi).2 i1 st' (rdy_erase hr1 (Ne.symm e)) (lone_erase hl1) h
      · exact he i hi
    · rw [unf]
      split
      · rename_i i1 h1
        have hr1 := List.mem_of_find?_eq_some h1
        by_cases e : i1 = i
        · subst e; exact he
        · refine evT_mono hF (fun st' h => ?_) (swap i i1 st hi hlo hr1 e he)
          exact (IH i1 hr1).2 i st' (rdy_erase hi (Ne.symm e)) (lone_erase hlo) h
      · rename_i h1
        exact absurd hlo (by simpa using List.find?_eq_none.1 h1 i hi)
def evR (F : CallF) : RT → (St → Prop) → St → Prop
  | .run is, K, st => evTs F is K st
  | .fork is a b, K, st => evTs F is (fun st => evR F a K st ∧ evR F b K st) st

theorem evR_cons {i : Ins} {t : RT} {K : St → Prop} {st : St} : evR F (t.cons i) K st = evT F i (evR F t K) st := by
  cases t <;> simp only [RT.cons, evR, evTs] <;> rfl

theorem evR_forks : ∀ {ts : List RT} {K : St → Prop} {st : St}, evR F (RT.forks ts) K st → ∀ t ∈ ts, evR F t K st
  | [], _, _, _, t, ht => by cases ht
  | [t], _, _, h, t', ht => by
    have : t' = t := by simpa using ht
    subst this; exact h
  | t :: t2 :: ts, K, st, h, t', ht => by
    simp only [RT.forks, evR, evTs] at h
    rcases List.mem_cons.1 ht with e | e
    · subst e; exact h.1
    · exact evR_forks h.2 t' e

theorem grow_ok (hF : Mono F) : ∀ (f : Nat) (rest : List Nat) {K : St → Prop} {st : St}, evR F (grow q ops b is f rest) K st → evG F q ops b is f rest K st
  | 0, rest, K, st, h => h
  | f + 1, rest, K, st, h => by
    rw [evG]
    split
    · rename_i e; subst e; exact h
    · rename_i hne
      have hg : grow q ops b is (f + 1) rest = (match (rdy ops rest).find? (loneI q b is rest) with
        | some i => (grow q ops b is f (rest.erase i)).cons (is.getD i default)
        | none => RT.forks ((rdy ops rest).map fun i => (grow q ops b is f (rest.erase i)).cons (is.getD i default))) := by
        cases rest with
        | nil => exact absurd rfl hne
        | cons => rfl
      rw [hg] at h
      split at h
      · rename_i i hi
        rw [evR_cons] at h
        exact evT_mono hF (fun st' h' => grow_ok hF f _ h') h
      · rename_i hi
        intro i him
        have := evR_forks h _ (List.mem_map.2 ⟨i, him, rfl⟩)
        rw [evR_cons] at this
        exact evT_mono hF (fun st' h' => grow_ok hF f _ h') this

section
variable {Q : Exit → Act → World → Prop} {n lo : Nat}

theorem wpAny_G (hF : Mono F) (hL : Live' F) (hQ : q = true → Quiet F) (hFG : ∀ k args h K, F k args h K → Fn P k args h K) (hc : omap (compI P n ops) ops.toList = some is)
    (hfw : ∀ (j : Nat) o, ops[j]? = some o → ∀ e ∈ o.after.toList, Region.binds .any e = true → e.on < j) : ∀ (fuel : Nat) (rest : List Nat) (listed : Array Bool) (st : St) (E : Env) (a : Act) (w : World),
    rest.Nodup → (∀ j, j ∈ rest ↔ (j < ops.size ∧ listed.getD j false = false)) → listed.size = ops.size → Closed ops (fun k => k ∉ rest) → rest.length ≤ fuel → StOK E st a w → a.tmps.size = n → ∀ {K : St → Prop},
    evG F q ops (befs ops.toList []) is rest.length rest K st → (∀ a' w', Then lo n E w K a' w' → Q .normal a' w') → wpAny P .any ops Q fuel listed a w := by
  have unl : ∀ (listed : Array Bool) (j : Nat), listed.size = ops.size → (listed.getD j true = false ↔ (j < ops.size ∧ listed.getD j false = false)) := fun listed j hs => by
    by_cases hj : j < listed.size
    · simp [hj, ← hs]
    · simp [hj, ← hs]
  have edges : ∀ (rest : List Nat) (listed : Array Bool), (∀ j, j ∈ rest ↔ (j < ops.size ∧ listed.getD j false = false)) → ∀ (i : Nat) o, ops[i]? = some o → (∀ e ∈ o.after.toList, Region.binds .any e = true → e.on ∉ rest) → ∀ e ∈ o.after.toList, Region.binds .any e = true → listed.getD e.on false = true := fun rest listed hr i o ho h e he hb => by
    have hlt := hfw i o ho e he hb
    have hi := (Array.getElem?_eq_some_iff.1 ho).1
    cases hx : listed.getD e.on false with
    | true => rfl
    | false => exact absurd ((hr e.on).2 ⟨by omega, hx⟩) (h e he hb)
  intro fuel
  induction fuel with
  | zero =>
    intro rest listed st E a w _ hr hs _ hl hst hn K he hq
    have hnil : rest = [] := List.eq_nil_of_length_eq_zero (by omega)
    subst hnil
    refine ⟨?_, hq a w ⟨st, E, he, hst, hn, Ext.refl _ _ _⟩⟩
    refine List.eq_nil_iff_forall_not_mem.2 fun j hj => ?_
    obtain ⟨h0, o, ho, _⟩ := mem_ready.1 hj
    have := (hr j).2 ((unl listed j hs).1 h0)
    simp at this
  | succ fuel ih =>
    intro rest listed st E a w hp hr hs hcl hl hst hn K he hq
    constructor
    · intro hnil
      cases hrest : rest with
      | nil => subst hrest; exact hq a w ⟨st, E, he, hst, hn, Ext.refl _ _ _⟩
      | cons j0' js =>
        exfalso
        -- the least of the rest is ready
        obtain ⟨j0, hj0m, hmin⟩ : ∃ j0, j0 ∈ rest ∧ ∀ j ∈ rest, j0 ≤ j := by
          have hne : rest ≠ [] := by rw [hrest]; simp
          exact ⟨rest.min hne, List.min_mem hne, fun j hj => List.min_le_of_mem hj⟩
        obtain ⟨hj0, hu⟩ := (hr j0).1 hj0m
        have ho : ops[j0]? = some ops[j0] := Array.getElem?_eq_getElem hj0
        have hmem : j0 ∈ Region.ready .any ops listed := by
          refine mem_ready.2 ⟨(unl listed j0 hs).2 ⟨hj0, hu⟩, _, ho, fun e hee hb => ?_⟩
          have hlt := hfw j0 _ ho e (by simpa using hee) hb
          cases hx : listed.getD e.on false with
          | true => rfl
          | false =>
            have := hmin e.on ((hr e.on).2 ⟨by omega, hx⟩)
            omega
        rw [hnil] at hmem
        cases hmem
    · intro i hi
      obtain ⟨h0, o, ho, hedge⟩ := mem_ready.1 hi
      have hir : i ∈ rest := (hr i).2 ((unl listed i hs).1 h0)
      have hil : i < ops.size := (Array.getElem?_eq_some_iff.1 ho).1
      have hlist : ∀ e ∈ o.after.toList, Region.binds .any e = true → listed.getD e.on false = true := fun e hee hb => hedge e (by simpa using hee) hb
      have hrdy : i ∈ rdy ops rest := by
        unfold rdy
        rw [List.mem_filter]
        refine ⟨hir, ?_⟩
        rw [ho]
        simp only [List.all_eq_true, Bool.or_eq_true, Bool.not_eq_true']
        intro e hee
        cases hb : Region.binds .any e with
        | false => exact .inl rfl
        | true =>
          right
          have := hlist e hee hb
          simp only [List.contains_eq_mem, decide_eq_false_iff_not]
          intro hm
          rw [((hr e.on).1 hm).2] at this
          cases this
      obtain ⟨m, hm⟩ : ∃ m, rest.length = m + 1 := ⟨rest.length - 1, by have := List.length_pos_of_mem hir; omega⟩
      rw [hm] at he
      have he := (evG_AB hF hL hQ m rest hm hp hcl).1 i st hrdy he
      have hel : (rest.erase i).length = m := by rw [List.length_erase_of_mem hir, hm]; rfl
      rw [← hel] at he
      obtain ⟨_, h2⟩ := omap_get hc
      obtain ⟨ii, hii, hci⟩ := h2 i o (by simpa using ho)
      simp only [List.getD_eq_getElem?_getD, hii, Option.getD_some] at he
      refine wpOp_mono (fun a' w' h => ?_) (wpOp_ok (lo := lo) ho hci hst hn (evT_le hFG he))
      obtain ⟨st', E', k1, k2, k3, k4⟩ := h
      refine ih (rest.erase i) (listed.setIfInBounds i true) st' E' a' w' (hp.erase i) ?_ (by simpa using hs) (closed_erase hp hcl hrdy) (by omega) k2 k3 k1 fun a'' w'' h => hq a'' w'' (h.next k4)
      intro j
      have hrj := hr j
      by_cases hji : j = i
      · subst hji
        have hil' : j < listed.size := by omega
        constructor
        · intro hj
          exact absurd hj (hp.not_mem_erase)
        · rintro ⟨_, h⟩
          simp [hil'] at h
      · rw [getD_set_ne false (Ne.symm hji), ← hrj]
        exact List.mem_erase_of_ne hji
end

theorem fwd_ok {ops : Array Oper} (h : fwd ops = true) : ∀ (j : Nat) o, ops[j]? = some o → ∀ e ∈ o.after.toList, Region.binds .any e = true → e.on < j := by
  intro j o ho e he hb
  unfold fwd at h
  rw [List.all_eq_true] at h
  have := h j (List.mem_range.2 (Array.getElem?_eq_some_iff.1 ho).1)
  rw [ho] at this
  simp only [List.all_eq_true, Bool.or_eq_true, Bool.not_eq_true', decide_eq_true_eq] at this
  rcases this e he with h | h
  · rw [hb] at h; cases h
  · exact h
end
end Go.Ab
