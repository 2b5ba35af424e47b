/-
  The abstract machine, fifth part: steps of the heap: a new block, a changed block, blocks given up.
-/
import Derived.Test.YtkbjimfganeooaaAb4
set_option linter.unusedSimpArgs false
set_option linter.unusedVariables false
namespace Go.Ab
open Go Go.RowKit

section
variable {E : Env} {w w' : World} {h : Hp}

theorem getElem?_set_self' {α : Type} {l : List α} {b : Nat} {x y : α} (hb : l[b]? = some x) : (l.set b y)[b]? = some y := by
  rw [List.getElem?_set_self (by exact (List.getElem?_eq_some_iff.1 hb).1)]

/-- What stands for a value goes on to do so when only the heap's memory changes. -/
theorem BOK.ext {n : Nat} {E E' : Env} {b : Nat} {x : HB} (hb : b < n) (hd : ∀ b r, E.rho b = some r → b < n) (he : Ext n E w E' w')
    (hh : ∀ g, x.alive → E.rho b = some (some g) → w'.heap[g]? = w.heap[g]?) (hk : BOK E w b x) : BOK E' w' b x := by
  cases x with
  | dead => trivial
  | cel cs =>
    obtain ⟨g, vals, t, fz, h1, h2, h3, h4, h5, h6⟩ := hk
    exact ⟨g, vals, t, fz, (he.rho b _ hb h1).1, (hh g trivial h1).trans h2, h3, h4, h5, fun i c u hc hu => (h6 i c u hc hu).ext he hd⟩
  | els e xs =>
    obtain ⟨hke, hk⟩ := hk
    rcases hk with ⟨h1, h2⟩ | ⟨g, vals, t, fz, h1, h2, h3, h4, h5, h6, h7, h8⟩
    · obtain ⟨k1, k2, k3⟩ := he.rho b _ hb h1
      exact ⟨k2.trans hke, .inl ⟨k1, h2⟩⟩
    · obtain ⟨k1, k2, k3⟩ := he.rho b _ hb h1
      refine ⟨k2.trans hke, .inr ⟨g, vals, t, fz, k1, (hh g trivial h1).trans h2, h3, by rw [k3]; exact h4, by rw [k3]; exact h5, by rw [k3]; exact h6, h7, fun i x hx => ?_⟩⟩
      obtain ⟨s1, u, s2, s3, s4⟩ := h8 i x hx
      exact ⟨s1, u, s2.ext he hd, s3, s4⟩
  | map ks vs =>
    obtain ⟨g, es, cl, h1, h2, h3, h4, h5, h6⟩ := hk
    exact ⟨g, es, cl, (he.rho b _ hb h1).1, (hh g trivial h1).trans h2, h3, h4, fun i k x hi hx => (h5 i k x hi hx).kept he.kept, fun i v x hi hx => (h6 i v x hi hx).kept he.kept⟩

/-- One block of the world has changed, which the abstract block b owns. -/
theorem HOK.ext_upd (hok : HOK E h w) {b g : Nat} {x : HB} (hb : h[b]? = some x) (ha : x.alive) (hr : E.rho b = some (some g)) (n : Nat)
    (ho : w'.os = w.os) (ht : w'.tape = w.tape) (hout : w'.output = w.output) (hz : w.heap.size ≤ w'.heap.size) (hk : ∀ k, k ≠ g → k < w.heap.size → w'.heap[k]? = w.heap[k]?) (hf : ∀ a, w'.frozen? a = w.frozen? a) : Ext n E w E w' := by
  obtain ⟨h1, h2, h3⟩ := hok.own b x g hb ha hr
  refine ⟨⟨ho, ht, hout, hz, fun k hkb => hk k (by omega) (by have := hok.size; omega), fun a _ => hf a⟩, rfl, ?_, fun _ _ s => .inl s, fun b r _ e => ⟨e, rfl, rfl⟩⟩
  exact Kept.of_block (fun _ _ s => s) fun g' o s => hk g' (fun e => h3 o (e ▸ s)) (hok.old g' o s)

theorem HOK.set (hok : HOK E h w) {b g : Nat} {x y : HB} (hb : h[b]? = some x) (ha : x.alive) (hr : E.rho b = some (some g))
    (ho : w'.os = w.os) (ht : w'.tape = w.tape) (hout : w'.output = w.output) (hz : w.heap.size ≤ w'.heap.size) (hk : ∀ k, k ≠ g → k < w.heap.size → w'.heap[k]? = w.heap[k]?) (hf : ∀ a, w'.frozen? a = w.frozen? a)
    (hy : BOK E w' b y) : HOK E (h.set b y) w' := by
  have he : Ext h.length E w E w' := hok.ext_upd hb ha hr _ ho ht hout hz hk hf
  have old : ∀ (b' : Nat) (x' : HB), (h.set b y)[b']? = some x' → b' ≠ b → h[b']? = some x' := fun b' x' hx hne => by
    rwa [List.getElem?_set_ne (fun e => hne e.symm)] at hx
  have some_alive : ∀ (b' : Nat) (x' : HB), (h.set b y)[b']? = some x' → x'.alive → ∃ x'', h[b']? = some x'' ∧ x''.alive := fun b' x' hx hal => by
    by_cases hbb : b' = b
    · subst hbb; exact ⟨x, hb, ha⟩
    · exact ⟨x', old b' x' hx hbb, hal⟩
  refine ⟨fun b' x' hx => ?_, fun b' r e => by simpa using hok.dom b' r e, fun b' x' g' hx hal e => ?_, fun b1 b2 x1 x2 g' e1 e2 a1 a2 r1 r2 => ?_, fun g' o s => Nat.lt_of_lt_of_le (hok.old g' o s) hz, Nat.le_trans hok.size hz⟩
  · by_cases hbb : b' = b
    · subst hbb
      rw [getElem?_set_self' hb] at hx
      injection hx with hx
      exact hx ▸ hy
    · have hx' := old b' x' hx hbb
      refine BOK.ext (List.getElem?_eq_some_iff.1 hx').1 hok.dom he (fun g' hal e => hk g' (fun eg => ?_) (hok.own b' x' g' hx' hal e).2.1) (hok.blocks b' x' hx')
      subst eg
      exact hbb (hok.inj b' b x' x g' hx' hb hal ha e hr)
  · obtain ⟨x'', hx'', hal''⟩ := some_alive b' x' hx hal
    obtain ⟨k1, k2, k3⟩ := hok.own b' x'' g' hx'' hal'' e
    exact ⟨k1, by omega, k3⟩
  · obtain ⟨y1, f1, b1'⟩ := some_alive b1 x1 e1 a1
    obtain ⟨y2, f2, b2'⟩ := some_alive b2 x2 e2 a2
    exact hok.inj b1 b2 y1 y2 g' f1 f2 b1' b2' r1 r2

/-- A block is given up. -/
theorem HOK.give (hok : HOK E h w) (b : Nat) : HOK E (h.set b .dead) w := by
  have old : ∀ (b' : Nat) (x' : HB), (h.set b .dead)[b']? = some x' → x' = .dead ∨ h[b']? = some x' := fun b' x' hx => by
    by_cases hbb : b' = b
    · subst hbb
      by_cases hl : b' < h.length
      · rw [List.getElem?_set_self hl] at hx; injection hx with hx; exact .inl hx.symm
      · rw [List.getElem?_eq_none (by simp; omega)] at hx; cases hx
    · rw [List.getElem?_set_ne (fun e => hbb e.symm)] at hx; exact .inr hx
  refine ⟨fun b' x' hx => ?_, fun b' r e => by simpa using hok.dom b' r e, fun b' x' g' hx hal e => ?_, fun b1 b2 x1 x2 g' e1 e2 a1 a2 r1 r2 => ?_, hok.old, hok.size⟩
  · rcases old b' x' hx with rfl | hx
    · trivial
    · exact hok.blocks b' x' hx
  · rcases old b' x' hx with rfl | hx
    · exact hal.elim
    · exact hok.own b' x' g' hx hal e
  · rcases old b1 x1 e1 with rfl | f1
    · exact a1.elim
    · rcases old b2 x2 e2 with rfl | f2
      · exact a2.elim
      · exact hok.inj b1 b2 x1 x2 g' f1 f2 a1 a2 r1 r2

/-- The surroundings with one more block. -/
def Env.push (E : Env) (n : Nat) (r : Option Nat) (e c : Nat) : Env :=
  { E with rho := fun b => if b = n then some r else E.rho b, ke := fun b => if b = n then e else E.ke b, ca := fun b => if b = n then c else E.ca b }

@[simp] theorem Env.push_rho (E : Env) (n : Nat) (r : Option Nat) (e c : Nat) : (E.push n r e c).rho n = some r := by simp [Env.push]
@[simp] theorem Env.push_ke (E : Env) (n : Nat) (r : Option Nat) (e c : Nat) : (E.push n r e c).ke n = e := by simp [Env.push]
@[simp] theorem Env.push_ca (E : Env) (n : Nat) (r : Option Nat) (e c : Nat) : (E.push n r e c).ca n = c := by simp [Env.push]

/-- The world has one block more (or none), and is else as it was. -/
structure More (w w' : World) : Prop where
  os : w'.os = w.os
  tape : w'.tape = w.tape
  output : w'.output = w.output
  size : w.heap.size ≤ w'.heap.size
  old : ∀ k, k < w.heap.size → w'.heap[k]? = w.heap[k]?
  frz : ∀ a : Addr, a.block < w.heap.size → w'.frozen? a = w.frozen? a

theorem frozen_alloc (w : World) (c : Array Value) (t : TypeId) (a : Addr) : (w.alloc (.cells c t)).frozen? a = w.frozen? a := by
  unfold World.frozen?
  rcases Nat.lt_trichotomy a.block w.heap.size with h | h | h
  · rw [Below.heap_alloc w _ _ h]
  · rw [h, heap_alloc_new, Array.getElem?_eq_none (Nat.le_refl _)]
    simp
  · rw [Array.getElem?_eq_none (by simp; omega), Array.getElem?_eq_none (by omega)]

theorem not_frozen_new (w : World) (c : Array Value) (t : TypeId) (k : Nat) : (w.alloc (.cells c t)).frozen? ⟨w.heap.size, k, none⟩ = false := by
  rw [frozen_alloc]
  unfold World.frozen?
  rw [Array.getElem?_eq_none (Nat.le_refl _)]

theorem More.refl (w : World) : More w w := ⟨rfl, rfl, rfl, Nat.le_refl _, fun _ _ => rfl, fun _ _ => rfl⟩
theorem More.alloc (w : World) (c : Array Value) (t : TypeId) : More w (w.alloc (.cells c t)) := ⟨rfl, rfl, rfl, by simp, fun k hk => Below.heap_alloc w _ k hk, fun a _ => frozen_alloc w c t a⟩
theorem More.drew {w w' : World} (m : More w w') : More w w'.drew := ⟨m.os, m.tape, m.output, m.size, m.old, m.frz⟩
theorem More.drew_alloc (w : World) (c : Array Value) (t : TypeId) : More w (w.drew.alloc (.cells c t)) := ⟨rfl, rfl, rfl, by simp, fun k hk => Below.heap_alloc w.drew _ k hk, fun a _ => frozen_alloc w.drew c t a⟩
theorem More.trans {w w' w'' : World} (m : More w w') (k : More w' w'') : More w w'' :=
  ⟨k.os.trans m.os, k.tape.trans m.tape, k.output.trans m.output, Nat.le_trans m.size k.size, fun i hi => (k.old i (Nat.lt_of_lt_of_le hi m.size)).trans (m.old i hi), fun a ha => (k.frz a (Nat.lt_of_lt_of_le ha m.size)).trans (m.frz a ha)⟩

theorem HOK.ext_more (hok : HOK E h w) (m : More w w') (r : Option Nat) (e c : Nat) : Ext h.length E w (E.push h.length r e c) w' := by
  refine ⟨⟨m.os, m.tape, m.output, m.size, fun k hk => m.old k (by have := hok.size; omega), m.frz⟩, rfl, Kept.of_block (fun _ _ s => s) fun g o s => m.old g (hok.old g o s), fun _ _ s => .inl s, fun b r' hb e' => ?_⟩
  have : b ≠ h.length := by omega
  simp [Env.push, this, e']

theorem HOK.push (hok : HOK E h w) (m : More w w') (r : Option Nat) (e c : Nat) (y : HB) (hy : BOK (E.push h.length r e c) w' h.length y)
    (hg : ∀ g, r = some g → w.heap.size ≤ g ∧ g < w'.heap.size) : HOK (E.push h.length r e c) (h ++ [y]) w' := by
  have he : Ext h.length E w (E.push h.length r e c) w' := hok.ext_more m r e c
  have cases_ : ∀ (b : Nat) (x : HB), (h ++ [y])[b]? = some x → (b < h.length ∧ h[b]? = some x) ∨ (b = h.length ∧ x = y) := fun b x hx => by
    rcases Nat.lt_trichotomy b h.length with hb | hb | hb
    · rw [List.getElem?_append_left hb] at hx; exact .inl ⟨hb, hx⟩
    · subst hb; simp at hx; exact .inr ⟨rfl, hx.symm⟩
    · rw [List.getElem?_eq_none (by simp; omega)] at hx; cases hx
  have rho_old : ∀ b r', b < h.length → (E.push h.length r e c).rho b = some r' → E.rho b = some r' := fun b r' hb e' => by
    simpa [Env.push, show b ≠ h.length by omega] using e'
  refine ⟨fun b x hx => ?_, fun b r' e' => ?_, fun b x g hx hal e' => ?_, fun b1 b2 x1 x2 g e1 e2 a1 a2 r1 r2 => ?_, fun g o s => Nat.lt_of_lt_of_le (hok.old g o s) m.size, Nat.le_trans hok.size m.size⟩
  · rcases cases_ b x hx with ⟨hb, hx⟩ | ⟨rfl, rfl⟩
    · exact BOK.ext hb hok.dom he (fun g hal e' => m.old g (hok.own b x g hx hal e').2.1) (hok.blocks b x hx)
    · exact hy
  · by_cases hb : b = h.length
    · simp [hb]
    · have := hok.dom b r' (by simpa [Env.push, hb] using e')
      simp; omega
  · rcases cases_ b x hx with ⟨hb, hx⟩ | ⟨rfl, rfl⟩
    · obtain ⟨k1, k2, k3⟩ := hok.own b x g hx hal (rho_old b _ hb e')
      exact ⟨k1, Nat.lt_of_lt_of_le k2 m.size, k3⟩
    · simp only [Env.push_rho, Option.some.injEq] at e'
      obtain ⟨k1, k2⟩ := hg g e'
      exact ⟨Nat.le_trans hok.size k1, k2, fun o s => by have := hok.old g o s; omega⟩
  · rcases cases_ b1 x1 e1 with ⟨hb1, f1⟩ | ⟨rfl, rfl⟩ <;> rcases cases_ b2 x2 e2 with ⟨hb2, f2⟩ | ⟨rfl, rfl⟩
    · exact hok.inj b1 b2 x1 x2 g f1 f2 a1 a2 (rho_old _ _ hb1 r1) (rho_old _ _ hb2 r2)
    · simp only [Env.push_rho, Option.some.injEq] at r2
      have := (hok.own b1 x1 g f1 a1 (rho_old _ _ hb1 r1)).2.1
      have := (hg g r2).1
      omega
    · simp only [Env.push_rho, Option.some.injEq] at r1
      have := (hok.own b2 x2 g f2 a2 (rho_old _ _ hb2 r2)).2.1
      have := (hg g r1).1
      omega
    · rfl

/-- The world has drawn, or has blocks more, which no abstract block means. -/
theorem HOK.more (hok : HOK E h w) (m : More w w') : HOK E h w' ∧ ∀ n, Ext n E w E w' := by
  have he : ∀ n, Ext n E w E w' := fun n => ⟨⟨m.os, m.tape, m.output, m.size, fun k hk => m.old k (by have := hok.size; omega), m.frz⟩, rfl, Kept.of_block (fun _ _ s => s) fun g o s => m.old g (hok.old g o s), fun _ _ s => .inl s, fun b r' _ e' => ⟨e', rfl, rfl⟩⟩
  refine ⟨⟨fun b x hx => BOK.ext (List.getElem?_eq_some_iff.1 hx).1 hok.dom (he _) (fun g hal e' => m.old g (hok.own b x g hx hal e').2.1) (hok.blocks b x hx), hok.dom, fun b x g hx hal e' => ?_, hok.inj, fun g o s => Nat.lt_of_lt_of_le (hok.old g o s) m.size, Nat.le_trans hok.size m.size⟩, he⟩
  obtain ⟨k1, k2, k3⟩ := hok.own b x g hx hal e'
  exact ⟨k1, Nat.lt_of_lt_of_le k2 m.size, k3⟩
end

/-! ### Values that are not written any more -/
section
variable {E : Env} {w : World} {h : Hp}

/-- The cells of some abstract blocks are stable, too. -/
def Env.stable (E : Env) (B : Nat → Prop) : Nat → Nat → Prop := fun g o => E.S g o ∨ ∃ b, B b ∧ E.rho b = some (some g)

theorem omap_some {α β : Type} {f : α → Option β} : ∀ {l : List α} {r : List β}, omap f l = some r → r.length = l.length ∧ ∀ (i : Nat) (a : α), l[i]? = some a → ∃ b, r[i]? = some b ∧ f a = some b
  | [], r, h => by simp [omap] at h; subst h; exact ⟨rfl, fun i a h => by simp at h⟩
  | x :: l, r, h => by
    simp only [omap] at h
    split at h
    · rename_i y ys hy hys
      injection h with h; subst h
      obtain ⟨h1, h2⟩ := omap_some hys
      refine ⟨by simp [h1], fun i a ha => ?_⟩
      cases i with
      | zero => simp at ha; subst ha; exact ⟨y, rfl, hy⟩
      | succ i => exact h2 i a (by simpa using ha)
    · cases h

theorem omap_back {α β : Type} {f : α → Option β} {l : List α} {r : List β} (h : omap f l = some r) (i : Nat) (b : β) (hb : r[i]? = some b) : ∃ a, l[i]? = some a ∧ f a = some b := by
  obtain ⟨h1, h2⟩ := omap_some h
  have hl : i < l.length := by have := (List.getElem?_eq_some_iff.1 hb).1; omega
  obtain ⟨b', hb', hf⟩ := h2 i l[i] (List.getElem?_eq_getElem hl)
  rw [hb'] at hb
  injection hb with hb
  exact ⟨l[i], List.getElem?_eq_getElem hl, hb ▸ hf⟩

/-- Cells read as values that nobody writes are cells. -/
theorem imm_one {n : Nat} {c x : AV} (h' : imm h n c = some x) (hc : Ok1 c) : x.one = true := by
  have hc1 : c.one = true := by
    rcases hc with hc | rfl
    · exact hc
    · cases n <;> simp [imm] at h'
  cases n with
  | zero => simp [imm] at h'
  | succ n =>
    cases c <;> simp only [imm] at h' <;> (try (injection h' with h'; subst h'; simp [AV.one]; done)) <;> (try (split at h' <;> (try split at h') <;> simp_all <;> obtain ⟨y, _, rfl⟩ := h' <;> simp [AV.one]; done)) <;> simp_all [AV.one]
    all_goals (obtain ⟨y, _, rfl⟩ := h'; simp)

theorem imm_fits {n e : Nat} {x y : AV} (h' : imm h n x = some y) (hs : Shape e x) : y.fits e = true := by
  unfold Shape at hs
  by_cases he : e = 0
  · rw [if_pos he] at hs
    have h1 := imm_one h' hs
    subst he
    cases y <;> simp_all [AV.fits, AV.one]
  · rw [if_neg he] at hs
    obtain ⟨cs, rfl, hl, hc⟩ := hs
    cases n with
    | zero => simp [imm] at h'
    | succ n =>
      simp only [imm, Option.map_eq_some_iff] at h'
      obtain ⟨ys, hys, rfl⟩ := h'
      obtain ⟨k1, k2⟩ := omap_some hys
      have hone : onesB ys = true := by
        simp only [onesB, List.all_eq_true]
        intro y hy
        obtain ⟨i, hi⟩ := List.getElem?_of_mem hy
        obtain ⟨c, hc1, hc2⟩ := omap_back hys i y hi
        exact imm_one hc2 (hc c (List.mem_of_getElem? hc1))
      simp [AV.fits, hone, k1, hl, he]

theorem shape_of_fits {e : Nat} {x : AV} (hf : x.fits e = true) : Shape e x := by
  unfold Shape
  by_cases ha : ∃ cs, x = .agg cs
  · obtain ⟨cs, rfl⟩ := ha
    simp only [AV.fits, Bool.and_eq_true, beq_iff_eq, bne_iff_ne, ne_eq, onesB, List.all_eq_true] at hf
    rw [if_neg hf.1.2]
    exact ⟨cs, rfl, hf.1.1.symm, fun c hc => .inl (hf.2 c hc)⟩
  · have h0 : e = 0 ∧ x.one = true := by cases x <;> first | exact absurd ⟨_, rfl⟩ ha | simpa [AV.fits] using hf
    rw [if_pos h0.1]
    exact .inl h0.2

theorem visit_plain : ∀ (n m : Nat) (v : AV), plain m v = true → visit h n v = []
  | 0, _, _, _ => rfl
  | n + 1, 0, v, hp => by simp [plain] at hp
  | n + 1, m + 1, v, hp => by
    have list : ∀ cs : List AV, cs.all (plain m) = true → cs.flatMap (visit h n) = [] := fun cs hc => by
      rw [List.flatMap_eq_nil_iff]
      exact fun c hm => visit_plain n m c (List.all_eq_true.1 hc c hm)
    cases v <;> simp only [plain] at hp <;> simp only [visit] <;> first | rfl | exact list _ hp | cases hp

theorem visit_mono : ∀ (n : Nat) (v : AV) (b : Nat), b ∈ visit h n v → b ∈ visit h (n + 1) v
  | 0, _, _, hb => by simp [visit] at hb
  | n + 1, v, b, hb => by
    have list : ∀ cs : List AV, b ∈ cs.flatMap (visit h n) → b ∈ cs.flatMap (visit h (n + 1)) := fun cs hc => by
      obtain ⟨c, h1, h2⟩ := List.mem_flatMap.1 hc
      exact List.mem_flatMap.2 ⟨c, h1, visit_mono n c b h2⟩
    have block : ∀ b' : Nat, b ∈ (b' :: (match h[b']? with
        | some (.cel cs) => if cs.all (plain deep) then [] else cs.flatMap (visit h n)
        | some (.els _ xs) => if xs.all (plain deep) then [] else xs.flatMap fun x => visit h n x ++ x.cells.flatMap (visit h n)
        | _ => [])) → b ∈ (b' :: (match h[b']? with
        | some (.cel cs) => if cs.all (plain deep) then [] else cs.flatMap (visit h (n + 1))
        | some (.els _ xs) => if xs.all (plain deep) then [] else xs.flatMap fun x => visit h (n + 1) x ++ x.cells.flatMap (visit h (n + 1))
        | _ => [])) := fun b' hm => by
      rcases List.mem_cons.1 hm with rfl | hm
      · exact List.mem_cons_self
      refine List.mem_cons_of_mem _ ?_
      split at hm
      · split at hm
        · exact absurd hm (by simp)
        · rw [if_neg ‹_›]
          exact list _ hm
      · split at hm
        · exact absurd hm (by simp)
        · rw [if_neg ‹_›]
          obtain ⟨x, h1, h2⟩ := List.mem_flatMap.1 hm
          refine List.mem_flatMap.2 ⟨x, h1, ?_⟩
          rcases List.mem_append.1 h2 with h2 | h2
          · exact List.mem_append_left _ (visit_mono n x b h2)
          · exact List.mem_append_right _ (list _ h2)
      · exact absurd hm (by simp)
    cases v <;> simp only [visit] at hb ⊢ <;> first | exact block _ hb | exact list _ hb | exact hb

theorem mem_visit_agg {n b : Nat} {cs : List AV} {c : AV} (hc : c ∈ cs) (hb : b ∈ visit h n c) : b ∈ cs.flatMap (visit h n) := List.mem_flatMap.2 ⟨c, hc, hb⟩

theorem visit_cel {n b b' : Nat} {v c : AV} {cs : List AV} (hb : h[b]? = some (.cel cs)) (hv : visit h (n + 1) v = b :: (match h[b]? with
      | some (.cel cs) => if cs.all (plain deep) then [] else cs.flatMap (visit h n)
      | some (.els _ xs) => if xs.all (plain deep) then [] else xs.flatMap fun x => visit h n x ++ x.cells.flatMap (visit h n)
      | _ => [])) (hc : c ∈ cs) (h' : b' ∈ visit h n c) : b' ∈ visit h (n + 1) v := by
  rw [hv]
  refine List.mem_cons_of_mem _ ?_
  rw [hb]
  simp only
  by_cases hp : cs.all (plain deep) = true
  · rw [visit_plain n deep c (List.all_eq_true.1 hp c hc)] at h'
    cases h'
  · rw [if_neg hp]
    exact List.mem_flatMap.2 ⟨c, hc, h'⟩

theorem visit_els {n b b' e : Nat} {v x : AV} {xs : List AV} (hb : h[b]? = some (.els e xs)) (hv : visit h (n + 1) v = b :: (match h[b]? with
      | some (.cel cs) => if cs.all (plain deep) then [] else cs.flatMap (visit h n)
      | some (.els _ xs) => if xs.all (plain deep) then [] else xs.flatMap fun x => visit h n x ++ x.cells.flatMap (visit h n)
      | _ => [])) (hc : x ∈ xs) (h' : b' ∈ visit h n x ++ x.cells.flatMap (visit h n)) : b' ∈ visit h (n + 1) v := by
  rw [hv]
  refine List.mem_cons_of_mem _ ?_
  rw [hb]
  simp only
  by_cases hp : xs.all (plain deep) = true
  · have hx := List.all_eq_true.1 hp x hc
    have h0 : x.cells.flatMap (visit h n) = [] := by
      rw [List.flatMap_eq_nil_iff]
      intro c hm
      obtain ⟨m, hd⟩ : ∃ m, deep = m + 1 := ⟨11, rfl⟩
      rw [hd] at hx
      cases x <;> simp only [AV.cells, List.mem_singleton] at hm <;> try (subst hm; exact visit_plain n _ _ hx)
      simp only [plain] at hx
      exact visit_plain n _ c (List.all_eq_true.1 hx c hm)
    rw [visit_plain n deep x hx, h0] at h'
    cases h'
  · rw [if_neg hp]
    exact List.mem_flatMap.2 ⟨x, hc, h'⟩

/-- The cells of a value of a known shape. -/
theorem shape_cells {e : Nat} {x : AV} {u : Value} (hs : Shape e x) (hr : RV E w x u) (hz : u.cells.size = esz e) :
    x.cells.length = esz e ∧ (∀ c ∈ x.cells, Ok1 c) ∧ ∀ (j : Nat) c v, x.cells[j]? = some c → u.cells[j]? = some v → RV E w c v := by
  unfold Shape at hs
  by_cases he : e = 0
  · rw [if_pos he] at hs
    subst he
    have hx : x.cells = [x] := by
      rcases hs with hs | rfl
      · cases x <;> simp_all [AV.cells, AV.one]
      · rfl
    refine ⟨by simp [hx], by simpa [hx] using hs, fun j c v hc hv => ?_⟩
    rw [hx] at hc
    cases j with
    | succ j => simp at hc
    | zero =>
      simp at hc
      subst hc
      rcases hs with hs | rfl
      · rw [(hr.one hs).2] at hv
        simp at hv
        exact hv ▸ hr
      · exact .junk v
  · rw [if_neg he] at hs
    obtain ⟨cs, rfl, hl, hc⟩ := hs
    obtain ⟨us, rfl, hus, hrr⟩ := hr.agg_inv
    exact ⟨by simp [AV.cells, hl, esz, he], hc, fun j c v h1 h2 => hrr j c v h1 (by simpa [Value.cells] using h2)⟩

theorem elems_some {e : Nat} : ∀ {n : Nat} {cs xs : List AV}, elems e n cs = some xs → xs.length = n ∧ ∀ (i : Nat) x, xs[i]? = some x → pick? e (i * esz e) cs = some x
  | 0, cs, xs, h => by simp [elems] at h; subst h; exact ⟨rfl, fun i x h => by simp at h⟩
  | n + 1, cs, xs, h => by
    simp only [elems] at h
    split at h
    · rename_i y ys hy hys
      injection h with h; subst h
      obtain ⟨h1, h2⟩ := elems_some hys
      refine ⟨by simp [h1], fun i x hx => ?_⟩
      cases i with
      | zero => simp at hx; subst hx; simpa using hy
      | succ i =>
        have := h2 i x (by simpa using hx)
        unfold pick? at this ⊢
        by_cases he : e = 0
        · subst he
          simp only [if_true, esz_zero, Nat.mul_one, List.getElem?_drop] at this ⊢
          rw [← this, Nat.add_comm]
        · rw [if_neg he] at this ⊢
          have hz : esz e = e := by simp [esz, he]
          rw [hz] at this ⊢
          split at this
          · rename_i hl
            rw [if_pos (by simp at hl; have : (i + 1) * e = i * e + e := Nat.succ_mul i e; omega)]
            rw [← this, List.drop_drop, Nat.succ_mul, Nat.add_comm e]
          · cases this
    · cases h

/-- What is picked out of cells stands for what the model reads there. -/
theorem pick_ok {e off : Nat} {cs : List AV} {v : AV} {f : Nat → Value} (hp : pick? e off cs = some v) (hr : ∀ (i : Nat) c, cs[i]? = some c → RV E w c (f i)) :
    (∀ j, j < esz e → off + j < cs.length) ∧ RV E w v (realPick e fun j => f (off + j)) := by
  unfold pick? at hp
  by_cases he : e = 0
  · rw [if_pos he] at hp
    subst he
    have hl := (List.getElem?_eq_some_iff.1 hp).1
    exact ⟨fun j hj => by simp at hj; omega, by simpa [realPick] using hr off v hp⟩
  · rw [if_neg he] at hp
    have hz : esz e = e := by simp [esz, he]
    split at hp
    · rename_i hl
      injection hp with hp; subst hp
      refine ⟨fun j hj => by omega, ?_⟩
      unfold realPick
      rw [if_neg he]
      refine .agg _ _ (by simp; omega) fun i c u hc hu => ?_
      have hi : i < e := by
        have := (List.getElem?_eq_some_iff.1 hc).1
        simp at this
        omega
      simp [hi] at hu
      subst hu
      refine hr (off + i) c ?_
      rw [List.getElem?_take, if_pos hi, List.getElem?_drop] at hc
      exact hc
    · cases hp

theorem pick_shape {e off : Nat} {cs : List AV} {v : AV} (hp : pick? e off cs = some v) (hc : ∀ c ∈ cs, Ok1 c) : Shape e v := by
  unfold pick? at hp
  unfold Shape
  by_cases he : e = 0
  · rw [if_pos he] at hp ⊢
    exact hc v (List.mem_of_getElem? hp)
  · rw [if_neg he] at hp ⊢
    split at hp
    · injection hp with hp; subst hp
      exact ⟨_, rfl, by simp; omega, fun c hm => hc c (List.mem_of_mem_drop (List.mem_of_mem_take hm))⟩
    · cases hp

/-- A value as one that is not written any more: it stands for the value, once the blocks that it leads to are not written any more. -/
theorem imm_ok (hok : HOK E h w) (B : Nat → Prop) : ∀ (n : Nat) (v x : AV) (u : Value), (∀ b ∈ visit h n v, (∃ y, h[b]? = some y ∧ y.alive) → B b) → RV E w v u → imm h n v = some x → RI (E.stable B) w x u
  | 0, _, _, _, _, _, h' => by simp [imm] at h'
  | n + 1, v, x, u, hB, hr, h' => by
    have kept : Kept E.S (E.stable B) w w := ⟨fun _ _ s => .inl s, fun _ _ _ => rfl, fun _ _ _ _ _ e => e, fun _ _ _ _ => rfl⟩
    have list : ∀ (cs ys : List AV) (us : Array Value), (∀ c ∈ cs, ∀ b ∈ visit h n c, (∃ y, h[b]? = some y ∧ y.alive) → B b) → us.size = cs.length → (∀ (i : Nat) c v, cs[i]? = some c → us[i]? = some v → RV E w c v) →
        omap (imm h n) cs = some ys → us.size = ys.length ∧ ∀ (i : Nat) c v, ys[i]? = some c → us[i]? = some v → RI (E.stable B) w c v := by
      intro cs ys us hb hs hrr hm
      refine ⟨by rw [hs, (omap_some hm).1], fun i y v hy hv => ?_⟩
      obtain ⟨c, hc, hi⟩ := omap_back hm i y hy
      exact imm_ok hok B n c y v (hb c (List.mem_of_getElem? hc)) (hrr i c v hc hv) hi
    cases v with
    | junk => simp [imm] at h'
    | fr e xs => simp [imm] at h'
    | crow e b off len c => simp [imm] at h'
    | bool b => simp only [imm, Option.some.injEq] at h'; subst h'; cases hr with | imm hr => exact hr.kept kept
    | int k m => simp only [imm, Option.some.injEq] at h'; subst h'; cases hr with | imm hr => exact hr.kept kept
    | str t => simp only [imm, Option.some.injEq] at h'; subst h'; cases hr with | imm hr => exact hr.kept kept
    | nilp => simp only [imm, Option.some.injEq] at h'; subst h'; cases hr with | imm hr => exact hr.kept kept
    | nilfn => simp only [imm, Option.some.injEq] at h'; subst h'; cases hr with | imm hr => exact hr.kept kept
    | nilmp => simp only [imm, Option.some.injEq] at h'; subst h'; cases hr with | imm hr => exact hr.kept kept
    | pro cs => simp only [imm, Option.some.injEq] at h'; subst h'; exact hr.pro_inv.kept kept
    | sl e f xs => simp only [imm, Option.some.injEq] at h'; subst h'; exact hr.sl_inv.kept kept
    | mp ks vs => simp only [imm, Option.some.injEq] at h'; subst h'; exact hr.mp_inv.kept kept
    | ptr b off =>
      obtain ⟨g, hg, rfl⟩ := hr.ptr_inv
      simp only [imm] at h'
      split at h'
      · rename_i cs hb
        simp only [Option.map_eq_some_iff] at h'
        obtain ⟨ys, hys, rfl⟩ := h'
        obtain ⟨g', vals, t, fz, k1, k2, _, k3, _, k4⟩ := hok.blocks b _ hb
        rw [hg] at k1; injection k1 with k1; injection k1 with k1; subst k1
        have hBb : B b := hB b (by simp [visit]) ⟨_, hb, trivial⟩
        have at_ : ∀ (i : Nat) y, ys[i]? = some y → ∃ c v, cs[off + i]? = some c ∧ imm h n c = some y ∧ vals[off + i]? = some v := fun i y hy => by
          obtain ⟨c, hc, hi⟩ := omap_back hys i y hy
          rw [List.getElem?_drop] at hc
          have hl : off + i < vals.size := by have := (List.getElem?_eq_some_iff.1 hc).1; omega
          exact ⟨c, vals[off + i], hc, hi, Array.getElem?_eq_getElem hl⟩
        refine .pro ys g off (fun i => vals.getD (off + i) undef) (fun i y hy => ⟨.inr ⟨b, hBb, hg⟩, ?_⟩) fun i y hy => ?_
        · obtain ⟨c, v, _, _, hv⟩ := at_ i y hy
          simp [World.cell?, k2, hv]
        · obtain ⟨c, v, hc, hi, hv⟩ := at_ i y hy
          have : vals.getD (off + i) undef = v := by simp [hv]
          rw [this]
          refine imm_ok hok B n c y v (fun b' hb' => hB b' ?_) (k4 _ c v hc hv) hi
          exact visit_cel hb rfl (List.mem_of_getElem? hc) hb'
      · cases h'
    | eptr b i off =>
      obtain ⟨g, hg, rfl⟩ := hr.eptr_inv
      simp only [imm] at h'
      split at h'
      · rename_i e xs hb
        split at h'
        · rename_i z hz
          simp only [Option.map_eq_some_iff] at h'
          obtain ⟨ys, hys, rfl⟩ := h'
          obtain ⟨ke, hbb⟩ := hok.blocks b _ hb
          rcases hbb with ⟨k0, rfl⟩ | ⟨g', vals, t, fz, k1, k2, _, k3, k4, k5, k6, k7⟩
          · simp at hz
          rw [hg] at k1; injection k1 with k1; injection k1 with k1; subst k1
          obtain ⟨s1, v, s2, s3, s4⟩ := k7 i z hz
          obtain ⟨c1, c2, c3⟩ := shape_cells s1 s2 s3
          have hBb : B b := hB b (by simp [visit]) ⟨_, hb, trivial⟩
          have at_ : ∀ (j : Nat) y, ys[j]? = some y → ∃ c x, z.cells[off + j]? = some c ∧ imm h n c = some y ∧ v.cells[off + j]? = some x := fun j y hy => by
            obtain ⟨c, hc, hi⟩ := omap_back hys j y hy
            rw [List.getElem?_drop] at hc
            have hl : off + j < v.cells.size := by have := (List.getElem?_eq_some_iff.1 hc).1; omega
            exact ⟨c, v.cells[off + j], hc, hi, Array.getElem?_eq_getElem hl⟩
          refine .pro ys g _ (fun j => v.cells.getD (off + j) undef) (fun j y hy => ⟨.inr ⟨b, hBb, hg⟩, ?_⟩) fun j y hy => ?_
          · obtain ⟨c, x, _, _, hx⟩ := at_ j y hy
            have := s4 _ x hx
            simp only [World.cell?, k2, ke]
            simp [Nat.add_assoc, this, hx]
          · obtain ⟨c, x, hc, hi, hx⟩ := at_ j y hy
            have e1 : v.cells.getD (off + j) undef = x := by simp [hx]
            rw [e1]
            refine imm_ok hok B n c y x (fun b' hb' => hB b' ?_) (c3 _ c x hc hx) hi
            exact visit_els hb rfl (List.mem_of_getElem? hz) (List.mem_append_right _ (List.mem_flatMap.2 ⟨c, List.mem_of_getElem? hc, hb'⟩))
        · cases h'
      · cases h'
    | row e b off len =>
      obtain ⟨ke, hrow⟩ := hr.row_inv
      simp only [imm] at h'
      split at h'
      · rename_i e' xs hb
        split at h'
        · rename_i hcond
          obtain ⟨rfl, hlen⟩ := hcond
          simp only [Option.map_eq_some_iff] at h'
          obtain ⟨ys, hys, rfl⟩ := h'
          have hl : ys.length = len := by rw [(omap_some hys).1]; simp; omega
          rcases hrow with ⟨k0, rfl, rfl, A, rfl⟩ | ⟨g, cap, A, hg, rfl, hA, hlc, hc, hm⟩
          · have : ys = [] := List.eq_nil_of_length_eq_zero hl
            subst this
            exact .sl _ false [] A 0 0 0 (fun _ => undef) (Nat.le_refl _) (Nat.zero_le _) (fun _ => rfl) (.inl rfl) (fun i x h => by simp at h) (fun i x h => by simp at h) (fun i x h => by simp at h) (fun _ h => absurd rfl h)
          obtain ⟨_, hbb⟩ := hok.blocks b _ hb
          rcases hbb with ⟨k0, rfl⟩ | ⟨g', vals, t, fz, k1, k2, _, k3, k4, k5, k6, k7⟩
          · rw [k0] at hg; cases hg
          rw [hg] at k1; injection k1 with k1; injection k1 with k1; subst k1
          have hBb : B b := hB b (by simp [visit]) ⟨_, hb, trivial⟩
          have at_ : ∀ (i : Nat) y, ys[i]? = some y → ∃ x v, xs[off + i]? = some x ∧ imm h n x = some y ∧ Shape e' x ∧ RV E w x v ∧ v.cells.size = esz e' ∧ ∀ (j : Nat) c, v.cells[j]? = some c → vals[(off + i) * esz e' + j]? = some c := fun i y hy => by
            obtain ⟨x, hx, hi⟩ := omap_back hys i y hy
            rw [List.getElem?_take] at hx
            split at hx
            · rw [List.getElem?_drop] at hx
              obtain ⟨s1, v, s2, s3, s4⟩ := k7 _ x hx
              exact ⟨x, v, hx, hi, s1, s2, s3, s4⟩
            · cases hx
          have hu : ∃ uf : Nat → Value, ∀ (i : Nat) y, ys[i]? = some y → ∃ x, xs[off + i]? = some x ∧ imm h n x = some y ∧ Shape e' x ∧ RV E w x (uf i) ∧ (uf i).cells.size = esz e' ∧ ∀ (j : Nat) c, (uf i).cells[j]? = some c → vals[(off + i) * esz e' + j]? = some c := by
            have : ∀ i : Nat, ∃ v : Value, ∀ y, ys[i]? = some y → ∃ x, xs[off + i]? = some x ∧ imm h n x = some y ∧ Shape e' x ∧ RV E w x v ∧ v.cells.size = esz e' ∧ ∀ (j : Nat) c, v.cells[j]? = some c → vals[(off + i) * esz e' + j]? = some c := fun i => by
              cases hy : ys[i]? with
              | none => exact ⟨undef, fun y h => by cases h⟩
              | some y =>
                obtain ⟨x, v, r⟩ := at_ i y hy
                exact ⟨v, fun y' e => by injection e with e; subst e; exact ⟨x, r⟩⟩
            exact ⟨fun i => (this i).choose, fun i => (this i).choose_spec⟩
          obtain ⟨uf, huf⟩ := hu
          rw [← hl]
          refine .sl e' false ys A cap g (off * esz e') uf (by omega) (by omega) (fun h => by cases h) ?_ (fun i y hy => ?_) (fun i y hy j c hc => ⟨.inr ⟨b, hBb, hg⟩, ?_⟩) (fun i y hy => ?_) (fun h => by cases h)
          · rcases hA with hA | ⟨_, h0⟩
            · exact .inr hA
            · exact .inl (List.eq_nil_of_length_eq_zero (by omega))
          · obtain ⟨x, _, hi, hs, _⟩ := huf i y hy
            exact imm_fits hi hs
          · obtain ⟨x, _, _, _, _, _, hv⟩ := huf i y hy
            have := hv j c hc
            simp only [World.cell?, k2]
            rw [Nat.add_mul] at this
            simp [← Nat.add_assoc, this]
          · obtain ⟨x, hx, hi, _, hrv, _⟩ := huf i y hy
            refine imm_ok hok B n x y _ (fun b' hb' => hB b' ?_) hrv hi
            exact visit_els hb rfl (List.mem_of_getElem? hx) (List.mem_append_left _ hb')
        · cases h'
      · cases h'
    | arow e b off len =>
      obtain ⟨g, cap, A, hg, rfl, hA, hlc, hm⟩ := hr.arow_inv
      simp only [imm] at h'
      split at h'
      · rename_i cs hb
        split at h'
        · rename_i xs hxs
          simp only [Option.map_eq_some_iff] at h'
          obtain ⟨ys, hys, rfl⟩ := h'
          obtain ⟨e1, e2⟩ := elems_some hxs
          have hl : ys.length = len := by rw [(omap_some hys).1, e1]
          obtain ⟨g', vals, t, fz, k1, k2, _, k3, k3', k4⟩ := hok.blocks b _ hb
          rw [hg] at k1; injection k1 with k1; injection k1 with k1; subst k1
          have hBb : B b := hB b (by simp [visit]) ⟨_, hb, trivial⟩
          have hf : ∀ (i : Nat) c, (cs.drop off)[i]? = some c → RV E w c (vals.getD (off + i) undef) := fun i c hc => by
            rw [List.getElem?_drop] at hc
            have hl : off + i < vals.size := by have := (List.getElem?_eq_some_iff.1 hc).1; omega
            refine k4 _ c _ hc ?_
            simp [hl]
          rw [← hl]
          refine .sl e false ys A cap g off (fun i => realPick e fun j => vals.getD (off + (i * esz e + j)) undef) (by omega) hm (fun h => by cases h) ?_ (fun i y hy => ?_) (fun i y hy j c hc => ⟨.inr ⟨b, hBb, hg⟩, ?_⟩) (fun i y hy => ?_) (fun h => by cases h)
          · rcases hA with hA | h0
            · exact .inr hA
            · exact .inl (List.eq_nil_of_length_eq_zero (by omega))
          · obtain ⟨x, hx, hi⟩ := omap_back hys i y hy
            exact imm_fits hi (pick_shape (e2 i x hx) fun c hc => k3' c (List.mem_of_mem_drop hc))
          · obtain ⟨x, hx, hi⟩ := omap_back hys i y hy
            obtain ⟨p1, p2⟩ := pick_ok (e2 i x hx) hf
            have hsh := pick_shape (e2 i x hx) fun c hc => k3' c (List.mem_of_mem_drop hc)
            have hlen : ∀ j, j < esz e → off + (i * esz e + j) < vals.size := fun j hj => by
              have := p1 j hj
              simp at this
              omega
            unfold realPick at hc p2
            by_cases h0 : e = 0
            · rw [if_pos h0] at hc p2
              unfold Shape at hsh
              rw [if_pos h0] at hsh
              have ho : x.one = true := by
                rcases hsh with ho | rfl
                · exact ho
                · cases n <;> simp [imm] at hi
              rw [(p2.one ho).2] at hc
              have hj0 : j = 0 := by
                have := (Array.getElem?_eq_some_iff.1 hc).1
                simp at this
                exact this
              subst hj0
              have hl0 := hlen 0 (esz_pos e)
              simp only [Nat.add_zero] at hl0
              simp [hl0] at hc
              subst hc
              simp [World.cell?, k2, hl0]
            · rw [if_neg h0] at hc
              have hj : j < e := by
                have := (Array.getElem?_eq_some_iff.1 hc).1
                simpa [Value.cells] using this
              have hlj := hlen j (by simpa [esz, h0] using hj)
              simp [Value.cells, hj, hlj] at hc
              subst hc
              simp [World.cell?, k2, hlj]
          · obtain ⟨x, hx, hi⟩ := omap_back hys i y hy
            obtain ⟨p1, p2⟩ := pick_ok (e2 i x hx) hf
            refine imm_ok hok B n x y _ (fun b' hb' => hB b' ?_) (by simpa [Nat.add_assoc] using p2) hi
            have hpk := e2 i x hx
            unfold pick? at hpk
            by_cases h0 : e = 0
            · rw [if_pos h0] at hpk
              exact visit_cel hb rfl (List.mem_of_mem_drop (List.mem_of_getElem? hpk)) hb'
            · rw [if_neg h0] at hpk
              split at hpk
              · injection hpk with hpk
                subst hpk
                cases n with
                | zero => simp [visit] at hb'
                | succ n =>
                  simp only [visit] at hb'
                  obtain ⟨c, hc1, hc2⟩ := List.mem_flatMap.1 hb'
                  exact visit_cel hb rfl (List.mem_of_mem_drop (List.mem_of_mem_drop (List.mem_of_mem_take hc1))) (visit_mono n c b' hc2)
              · cases hpk
        · cases h'
      · cases h'
    | mref b =>
      obtain ⟨g, hg, rfl⟩ := hr.mref_inv
      simp only [imm] at h'
      split at h'
      · rename_i ks vs hb
        injection h' with h'; subst h'
        obtain ⟨g', es, cl, k1, k2, k3, k4, k5, k6⟩ := hok.blocks b _ hb
        rw [hg] at k1; injection k1 with k1; injection k1 with k1; subst k1
        have hBb : B b := hB b (by simp [visit]) ⟨_, hb, trivial⟩
        exact .mp ks vs g es cl (.inr ⟨b, hBb, hg⟩) k2 k3 k4 (fun i k x hk hx => (k5 i k x hk hx).kept kept) fun i v x hv hx => (k6 i v x hv hx).kept kept
      · cases h'
    | agg cs =>
      obtain ⟨us, rfl, hs, hrr⟩ := hr.agg_inv
      simp only [imm, Option.map_eq_some_iff] at h'
      obtain ⟨ys, hys, rfl⟩ := h'
      obtain ⟨l1, l2⟩ := list cs ys us (fun c hc b hb => hB b (by simp only [visit]; exact mem_visit_agg hc hb)) hs hrr hys
      exact .agg ys us l1 l2
    | tup cs =>
      obtain ⟨us, rfl, hs, hrr⟩ := hr.tup_inv
      simp only [imm, Option.map_eq_some_iff] at h'
      obtain ⟨ys, hys, rfl⟩ := h'
      obtain ⟨l1, l2⟩ := list cs ys us (fun c hc b hb => hB b (by simp only [visit]; exact mem_visit_agg hc hb)) hs hrr hys
      exact .tup ys us l1 l2
    | fn f cs =>
      obtain ⟨us, rfl, hs, hrr⟩ := hr.fn_inv
      simp only [imm, Option.map_eq_some_iff] at h'
      obtain ⟨ys, hys, rfl⟩ := h'
      obtain ⟨l1, l2⟩ := list cs ys us (fun c hc b hb => hB b (by simp only [visit]; exact mem_visit_agg hc hb)) hs hrr hys
      exact .fn f ys us l1 l2
end
end Go.Ab
