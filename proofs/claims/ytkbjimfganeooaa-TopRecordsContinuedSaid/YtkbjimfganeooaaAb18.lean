/-
  The abstract machine, eighteenth part: a state with fewer blocks and slots.
-/
import Derived.Test.YtkbjimfganeooaaAb17
set_option linter.unusedSimpArgs false
set_option linter.unusedVariables false
namespace Go.Ab
open Go

/-- The surroundings of the blocks that are kept. -/
def Env.pickB (E : Env) (ks : List Nat) : Env :=
  { E with rho := fun b => (ks[b]?).bind E.rho, ke := fun b => E.ke (ks.getD b 0), ca := fun b => E.ca (ks.getD b 0) }

section
variable {E : Env} {w : World} {h : Hp} {ks : List Nat}

theorem idxOf?_get {b i : Nat} (h : ks.idxOf? b = some i) : ks[i]? = some b := by
  induction ks generalizing i with
  | nil => simp at h
  | cons k ks ih =>
    rw [List.idxOf?_cons] at h
    split at h
    · rename_i hk
      injection h with h; subst h
      simp at hk
      simp [hk]
    · simp only [Option.map_eq_some_iff] at h
      obtain ⟨j, hj, rfl⟩ := h
      simpa using ih hj

theorem pickB_at {b i : Nat} (h : ks.idxOf? b = some i) : (E.pickB ks).rho i = E.rho b ∧ (E.pickB ks).ke i = E.ke b ∧ (E.pickB ks).ca i = E.ca b := by
  have := idxOf?_get h
  simp [Env.pickB, this]

theorem ren_RV : ∀ (n : Nat) {v : AV} {u : Value}, RV E w v u → RV (E.pickB ks) w (ren ks n v) u := by
  intro n
  induction n with
  | zero => intro v u _; exact .junk u
  | succ n ih =>
    intro v u hr
    cases v with
    | ptr b off =>
      obtain ⟨g, h1, rfl⟩ := hr.ptr_inv
      simp only [ren]
      split
      · rename_i i hi; exact .ptr _ _ _ ((pickB_at hi).1.trans h1)
      · exact .junk _
    | eptr b j off =>
      obtain ⟨g, h1, rfl⟩ := hr.eptr_inv
      simp only [ren]
      split
      · rename_i i hi
        rw [← (pickB_at (E := E) hi).2.1]
        exact .eptr _ _ _ _ ((pickB_at hi).1.trans h1)
      · exact .junk _
    | row e b off len =>
      obtain ⟨h1, h2⟩ := hr.row_inv
      simp only [ren]
      split
      · rename_i i hi
        obtain ⟨p1, p2, p3⟩ := pickB_at (E := E) hi
        rcases h2 with ⟨k1, rfl, rfl, A, rfl⟩ | ⟨g, cap, A, k1, rfl, k2, k3, k4, k5⟩
        · exact .row0 _ _ _ (p1.trans k1) (p2.trans h1)
        · exact .row _ _ _ _ g _ _ (p1.trans k1) (p2.trans h1) k2 k3 (k4.trans p3.symm) (p3 ▸ k5)
      · exact .junk _
    | arow e b off len =>
      obtain ⟨g, cap, A, k1, rfl, k2, k3, k4⟩ := hr.arow_inv
      simp only [ren]
      split
      · rename_i i hi; exact .arow _ _ _ _ g _ _ ((pickB_at hi).1.trans k1) k2 k3 k4
      · exact .junk _
    | crow e b off len c =>
      obtain ⟨h1, h2⟩ := hr.crow_inv
      simp only [ren]
      split
      · rename_i i hi
        obtain ⟨p1, p2, p3⟩ := pickB_at (E := E) hi
        rcases h2 with ⟨k1, rfl, rfl, rfl, A, rfl⟩ | ⟨g, A, k1, rfl, k2, k3, k4, k5⟩
        · exact .crow0 _ _ _ (p1.trans k1) (p2.trans h1)
        · exact .crow _ _ _ _ g _ _ (p1.trans k1) (p2.trans h1) k2 k3 (k4.trans p3.symm) (p3 ▸ k5)
      · exact .junk _
    | mref b =>
      obtain ⟨g, h1, rfl⟩ := hr.mref_inv
      simp only [ren]
      split
      · rename_i i hi; exact .mref _ _ ((pickB_at hi).1.trans h1)
      · exact .junk _
    | agg cs =>
      obtain ⟨us, rfl, h1, h2⟩ := hr.agg_inv
      simp only [ren]
      refine .agg _ us (by simpa using h1) fun i c u hc hu => ?_
      simp only [List.getElem?_map, Option.map_eq_some_iff] at hc
      obtain ⟨c', hc', rfl⟩ := hc
      exact ih (h2 i c' u hc' hu)
    | tup cs =>
      obtain ⟨us, rfl, h1, h2⟩ := hr.tup_inv
      simp only [ren]
      refine .tup _ us (by simpa using h1) fun i c u hc hu => ?_
      simp only [List.getElem?_map, Option.map_eq_some_iff] at hc
      obtain ⟨c', hc', rfl⟩ := hc
      exact ih (h2 i c' u hc' hu)
    | fn f cs =>
      obtain ⟨us, rfl, h1, h2⟩ := hr.fn_inv
      simp only [ren]
      refine .fn f _ us (by simpa using h1) fun i c u hc hu => ?_
      simp only [List.getElem?_map, Option.map_eq_some_iff] at hc
      obtain ⟨c', hc', rfl⟩ := hc
      exact ih (h2 i c' u hc' hu)
    | fr e xs => exact (hr.fr_inv).elim
    | junk => exact .junk _
    | bool b => rw [hr.bool_inv]; exact .imm (.bool b)
    | int k m => rw [hr.int_inv]; exact .imm (.int k m)
    | str s => rw [hr.str_inv]; exact .imm (.str s)
    | nilp => rw [hr.nilp_inv]; exact .imm .nilp
    | nilfn => rw [hr.nilfn_inv]; exact .imm .nilfn
    | nilmp => rw [hr.nilmp_inv]; exact .imm .nilmp
    | pro cs => exact .imm hr.pro_inv
    | sl e f xs => exact .imm hr.sl_inv
    | mp k v => exact .imm hr.mp_inv

theorem ren_ok1 (n : Nat) {c : AV} (h : Ok1 c) : Ok1 (ren ks n c) := by
  cases n with
  | zero => exact .inr rfl
  | succ n =>
    cases c <;> simp only [ren] <;> first
      | exact h
      | (split <;> first | exact .inr rfl | exact .inl rfl)
      | (rcases h with h | h <;> first | (cases h; done) | exact .inl rfl | exact .inr rfl)
      | exact .inr rfl
      | exact .inl rfl

theorem ren_shape {e : Nat} {x : AV} (h : Shape e x) : Shape e (ren ks deep x) := by
  unfold Shape at *
  split
  · rename_i he
    rw [if_pos he] at h
    exact ren_ok1 _ h
  · rename_i he
    rw [if_neg he] at h
    obtain ⟨cs, rfl, h1, h2⟩ := h
    obtain ⟨m, hd⟩ : ∃ m, deep = m + 1 := ⟨11, rfl⟩
    rw [hd]
    refine ⟨cs.map (ren ks m), rfl, by simpa using h1, fun c hc => ?_⟩
    obtain ⟨c', hc', rfl⟩ := List.mem_map.1 hc
    exact ren_ok1 _ (h2 c' hc')

theorem renB_ok {b i : Nat} (hi : ks[i]? = some b) {x : HB} (hb : BOK E w b x) : BOK (E.pickB ks) w i (renB ks x) := by
  have p1 : (E.pickB ks).rho i = E.rho b := by simp [Env.pickB, hi]
  have p2 : (E.pickB ks).ke i = E.ke b := by simp [Env.pickB, hi]
  have p3 : (E.pickB ks).ca i = E.ca b := by simp [Env.pickB, hi]
  cases x with
  | dead => trivial
  | cel cs =>
    obtain ⟨g, vals, t, fz, k1, k2, k3, k4, k5, k6⟩ := hb
    refine ⟨g, vals, t, fz, p1.trans k1, k2, k3, by simpa using k4, fun c hc => ?_, fun j c u hc hu => ?_⟩
    · obtain ⟨c', hc', rfl⟩ := List.mem_map.1 hc
      exact ren_ok1 _ (k5 c' hc')
    · simp only [List.getElem?_map, Option.map_eq_some_iff] at hc
      obtain ⟨c', hc', rfl⟩ := hc
      exact ren_RV _ (k6 j c' u hc' hu)
  | els e xs =>
    obtain ⟨k0, hb⟩ := hb
    refine ⟨p2.trans k0, ?_⟩
    rcases hb with ⟨k1, rfl⟩ | ⟨g, vals, t, fz, k1, k2, k3, k4, k5, k6, k7, k8⟩
    · exact .inl ⟨p1.trans k1, rfl⟩
    · refine .inr ⟨g, vals, t, fz, p1.trans k1, k2, k3, by rw [p3]; exact k4, by rw [p3, List.length_map]; exact k5, by rw [p3]; exact k6, by rw [List.length_map]; exact k7, fun j x hx => ?_⟩
      simp only [List.getElem?_map, Option.map_eq_some_iff] at hx
      obtain ⟨x', hx', rfl⟩ := hx
      obtain ⟨s1, u, s2, s3, s4⟩ := k8 j x' hx'
      exact ⟨ren_shape s1, u, ren_RV _ s2, s3, s4⟩
  | map k v =>
    obtain ⟨g, es, cl, k1, k2⟩ := hb
    exact ⟨g, es, cl, p1.trans k1, k2⟩

theorem renB_alive {x : HB} (h : (renB ks x).alive) : x.alive := by cases x <;> first | exact h | trivial

theorem getD_dead {b : Nat} {x : HB} (h1 : h.getD b .dead = x) (h2 : x.alive) : h[b]? = some x := by
  rw [List.getD_eq_getElem?_getD] at h1
  cases hb : h[b]? with
  | none => rw [hb] at h1; subst h1; exact h2.elim
  | some y => rw [hb] at h1; exact congrArg some h1

theorem HOK.pickB (hok : HOK E h w) (hn : ks.Nodup) : HOK (E.pickB ks) (ks.map fun b => renB ks (h.getD b .dead)) w := by
  have at_ : ∀ (i : Nat) x, (ks.map fun b => renB ks (h.getD b .dead))[i]? = some x → ∃ b, ks[i]? = some b ∧ x = renB ks (h.getD b .dead) := fun i x hx => by
    simp only [List.getElem?_map, Option.map_eq_some_iff] at hx
    obtain ⟨b, hb, rfl⟩ := hx
    exact ⟨b, hb, rfl⟩
  have al : ∀ b, (renB ks (h.getD b .dead)).alive → h[b]? = some (h.getD b .dead) ∧ (h.getD b .dead).alive := fun b ha => ⟨getD_dead rfl (renB_alive ha), renB_alive ha⟩
  have rh : ∀ i b r, ks[i]? = some b → (E.pickB ks).rho i = some r → E.rho b = some r := fun i b r hi e => by simpa [Env.pickB, hi] using e
  refine ⟨fun i x hx => ?_, fun i r e => ?_, fun i x g hx ha e => ?_, fun i j x y g hx hy ha hb e1 e2 => ?_, hok.old, hok.size⟩
  · obtain ⟨b, hb, rfl⟩ := at_ i x hx
    by_cases ha : (renB ks (h.getD b .dead)).alive
    · exact renB_ok hb (hok.blocks b _ (al b ha).1)
    · cases hg : h.getD b .dead with
      | dead => trivial
      | _ => rw [hg] at ha; exact absurd trivial ha
  · cases hi : ks[i]? with
    | none => simp [Env.pickB, hi] at e
    | some b => simpa using (List.getElem?_eq_some_iff.1 hi).1
  · obtain ⟨b, hb, rfl⟩ := at_ i x hx
    exact hok.own b _ g (al b ha).1 (al b ha).2 (rh i b _ hb e)
  · obtain ⟨b, hb', rfl⟩ := at_ i x hx
    obtain ⟨c, hc', rfl⟩ := at_ j y hy
    have hbc := hok.inj b c _ _ g (al b ha).1 (al c hb).1 (al b ha).2 (al c hb).2 (rh i b _ hb' e1) (rh j c _ hc' e2)
    subst hbc
    have h1 := (List.getElem?_eq_some_iff.1 hb').1
    exact (List.getElem?_inj h1 hn).1 (hb'.trans hc'.symm)

theorem renS_ok {s : Nat → AV} {a : Act} (hs : SOK E w s a) : ∀ (live : List Nat), SOK (E.pickB ks) w (renS ks s live) a
  | [], i => .junk _
  | l :: ls, i => by
    simp only [renS, put]
    split
    · rename_i h; subst h; exact ren_RV _ (hs i)
    · exact renS_ok hs ls i

/-- Fewer blocks, under new numbers (those below lo keep theirs), and fewer slots. -/
theorem Le.restrict {lo : Nat} {st : St} (ks live : List Nat) (hn : ks.Nodup) (hlo : ∀ b, b < lo → ks[b]? = some b) : Le lo st (Ab.restrict ks live st) := fun E a w hst => by
  refine ⟨E.pickB ks, ⟨renS_ok hst.slots live, hst.defers, hst.heap.pickB hn⟩, Blw.refl _ _, rfl, Kept.refl _ _, fun _ _ s => .inl s, fun b r hb e => ?_⟩
  simp [Env.pickB, hlo b hb, e]
end

section
variable {lo : Nat} {st : St}

/-- A value made one that is not written any more: in a slot, the blocks that it leads to are given up. -/
theorem Le.freeze {i : Nat} {x : AV} {h' : Hp} (hf : Ab.freeze st.h (st.s i) = some (x, h')) : Le lo st ⟨put st.s i x, h'⟩ := fun E a w hst => by
  obtain ⟨E', h1, h2, h3, h4, h5⟩ := freeze_ok hst.heap (hst.slots i) hf
  refine ⟨E', ⟨fun j => ?_, hst.defers, h1⟩, h2 lo⟩
  simp only [put]
  split
  · rename_i e; subst e; exact .imm h3
  · exact (hst.slots j).ext (h2 _) hst.heap.dom

/-- The same for several values at once. -/
theorem Le.freezes {is : List Nat} {xs : List AV} {h' : Hp} (hf : Ab.freeze st.h (.tup (is.map st.s)) = some (.tup xs, h')) {s' : Nat → AV} (hs : ∀ j, s' j = st.s j ∨ ∃ k : Nat, is[k]? = some j ∧ xs[k]? = some (s' j)) : Le lo st ⟨s', h'⟩ := fun E a w hst => by
  obtain ⟨E', h1, h2, h3, h4, h5⟩ := freeze_ok hst.heap (v := .tup (is.map st.s)) (u := .tuple (is.map fun j => a.tmps.getD j undef).toArray) (.tup _ _ (by simp) fun k c u hc hu => by
    simp only [List.getElem?_map, Option.map_eq_some_iff] at hc
    obtain ⟨j, hj, rfl⟩ := hc
    simp only [List.getElem?_toArray, List.getElem?_map, hj, Option.map_some, Option.some.injEq] at hu
    subst hu
    exact hst.slots j) hf
  refine ⟨E', ⟨fun j => ?_, hst.defers, h1⟩, h2 lo⟩
  rcases hs j with e | ⟨k, hk, hx⟩
  · show RV E' w (s' j) _; rw [e]; exact (hst.slots j).ext (h2 _) hst.heap.dom
  · cases h3 with
    | tup _ us hsz hr =>
      refine .imm (hr k _ _ hx ?_)
      simp [hk]

/-- A nil slice is an empty row. -/
theorem Le.nilRow {i e : Nat} (hi : st.s i = .sl e true []) : Le lo st ⟨put st.s i (.row e st.h.length 0 0), st.h ++ [.els e []]⟩ := fun E a w hst => by
  have hx := hst.heap.ext_more (More.refl w) none e 0
  have hk : HOK (E.push st.h.length none e 0) (st.h ++ [.els e []]) w := hst.heap.push (More.refl w) none e 0 (.els e []) ⟨by simp, .inl ⟨by simp, rfl⟩⟩ (fun g hg => by cases hg)
  refine ⟨_, ⟨fun j => ?_, hst.defers, hk⟩, hx.wide hst.heap lo⟩
  simp only [put]
  split
  · rename_i e'; subst e'
    have hv := hst.slots j
    rw [hi] at hv
    generalize a.tmps.getD j undef = u at hv
    cases hv.sl_inv with
    | sl _ _ _ A cap g o uu hl hm hf hA hfit hc hr =>
      have := hf rfl
      simp only [List.length_nil] at this
      subst this
      exact .row0 e st.h.length A (by simp) (by simp)
  · exact (hst.slots j).ext hx hst.heap.dom

/-- Whether the capacity is the length need not be known. -/
theorem Le.unfull {i e : Nat} {f : Bool} {xs : List AV} (hi : st.s i = .sl e f xs) : Le lo st ⟨put st.s i (.sl e false xs), st.h⟩ := fun E a w hst => by
  refine ⟨E, ⟨fun j => ?_, hst.defers, hst.heap⟩, Ext.refl _ _ _⟩
  simp only [put]
  split
  · rename_i e'; subst e'
    have hv := hst.slots j
    rw [hi] at hv
    generalize a.tmps.getD j undef = u at hv
    cases hv.sl_inv with
    | sl _ _ _ A cap g o uu hl hm hf hA hfit hc hr => exact .imm (.sl _ _ _ A cap g o uu hl hm (fun h => by cases h) hA hfit hc hr (fun h => by cases h))
  · exact hst.slots j
end
end Go.Ab
