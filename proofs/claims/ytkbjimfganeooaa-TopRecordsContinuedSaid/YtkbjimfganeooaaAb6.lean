/-
  The abstract machine, sixth part: values given up for good, rows handed over.
-/
import Derived.Test.YtkbjimfganeooaaAb5
set_option linter.unusedSimpArgs false
set_option linter.unusedVariables false
namespace Go.Ab
open Go Go.RowKit

section
variable {E : Env} {w : World} {h : Hp}

theorem plain_RI : ∀ (n : Nat) (v : AV) (u : Value), plain n v = true → RV E w v u → RI E.S w v u
  | 0, v, _, hp, _ => by simp [plain] at hp
  | n + 1, v, u, hp, hr => by
    cases v with
    | agg cs =>
      obtain ⟨us, rfl, hs, hrr⟩ := hr.agg_inv
      simp only [plain, List.all_eq_true] at hp
      exact .agg cs us hs fun i c u hc hu => plain_RI n c u (hp c (List.mem_of_getElem? hc)) (hrr i c u hc hu)
    | tup cs =>
      obtain ⟨us, rfl, hs, hrr⟩ := hr.tup_inv
      simp only [plain, List.all_eq_true] at hp
      exact .tup cs us hs fun i c u hc hu => plain_RI n c u (hp c (List.mem_of_getElem? hc)) (hrr i c u hc hu)
    | fn f cs =>
      obtain ⟨us, rfl, hs, hrr⟩ := hr.fn_inv
      simp only [plain, List.all_eq_true] at hp
      exact .fn f cs us hs fun i c u hc hu => plain_RI n c u (hp c (List.mem_of_getElem? hc)) (hrr i c u hc hu)
    | junk => simp [plain] at hp
    | ptr => simp [plain] at hp
    | eptr => simp [plain] at hp
    | row => simp [plain] at hp
    | arow => simp [plain] at hp
    | crow => simp [plain] at hp
    | fr => simp [plain] at hp
    | mref => simp [plain] at hp
    | _ => cases hr with | imm h => exact h

theorem flat_RI {S S' : Nat → Nat → Prop} {w w' : World} : ∀ (n : Nat) (v : AV) (u : Value), flat n v = true → RI S w v u → RI S' w' v u
  | 0, v, _, hp, _ => by simp [flat] at hp
  | n + 1, v, u, hp, hr => by
    cases hr with
    | bool b => exact .bool b
    | int k m => exact .int k m
    | str t => exact .str t
    | nilp => exact .nilp
    | nilfn => exact .nilfn
    | nilmp => exact .nilmp
    | agg cs us hs hrr =>
      simp only [flat, List.all_eq_true] at hp
      exact .agg cs us hs fun i c u hc hu => flat_RI n c u (hp c (List.mem_of_getElem? hc)) (hrr i c u hc hu)
    | tup cs us hs hrr =>
      simp only [flat, List.all_eq_true] at hp
      exact .tup cs us hs fun i c u hc hu => flat_RI n c u (hp c (List.mem_of_getElem? hc)) (hrr i c u hc hu)
    | pro => simp [flat] at hp
    | sl => simp [flat] at hp
    | fn => simp [flat] at hp
    | mp => simp [flat] at hp

theorem kill_getElem : ∀ (bs : List Nat) (h : Hp) (b : Nat) (x : HB), (kill h bs)[b]? = some x → x = .dead ∨ (h[b]? = some x ∧ b ∉ bs)
  | [], h, b, x, hx => .inr ⟨hx, by simp⟩
  | c :: bs, h, b, x, hx => by
    rcases kill_getElem bs (h.set c .dead) b x hx with rfl | ⟨h1, h2⟩
    · exact .inl rfl
    · by_cases hbc : b = c
      · subst hbc
        by_cases hl : b < h.length
        · rw [List.getElem?_set_self hl] at h1; injection h1 with h1; exact .inl h1.symm
        · rw [List.getElem?_eq_none (by simp; omega)] at h1; cases h1
      · rw [List.getElem?_set_ne (fun e => hbc e.symm)] at h1
        exact .inr ⟨h1, by simp [hbc, h2]⟩

theorem kill_length : ∀ (bs : List Nat) (h : Hp), (kill h bs).length = h.length
  | [], _ => rfl
  | c :: bs, h => by rw [kill, kill_length bs]; simp

/-- The blocks of a list that are there. -/
def Live (h : Hp) (bs : List Nat) : Nat → Prop := fun b => b ∈ bs ∧ ∃ y, h[b]? = some y ∧ y.alive

def Env.give (E : Env) (h : Hp) (bs : List Nat) : Env := { E with S := E.stable (Live h bs) }

theorem HOK.kill (hok : HOK E h w) (bs : List Nat) : HOK (E.give h bs) (Ab.kill h bs) w ∧ ∀ n, Ext n E w (E.give h bs) w := by
  have hkept : Kept E.S (E.stable (Live h bs)) w w := ⟨fun _ _ s => .inl s, fun _ _ _ => rfl, fun _ _ _ _ _ e => e, fun _ _ _ _ => rfl⟩
  have he : ∀ n, Ext n E w (E.give h bs) w := fun n => ⟨Blw.refl _ _, rfl, hkept, fun g o s => by
    rcases s with s | ⟨b, ⟨_, y, hy, hal⟩, hr⟩
    · exact .inl s
    · exact .inr (hok.own b y g hy hal hr).1, fun b r _ e => ⟨e, rfl, rfl⟩⟩
  refine ⟨⟨fun b x hx => ?_, fun b r e => by rw [kill_length]; exact hok.dom b r e, fun b x g hx hal e => ?_, fun b1 b2 x1 x2 g e1 e2 a1 a2 r1 r2 => ?_, fun g o s => ?_, hok.size⟩, he⟩
  · rcases kill_getElem bs h b x hx with rfl | ⟨h1, _⟩
    · trivial
    · exact BOK.ext (List.getElem?_eq_some_iff.1 h1).1 hok.dom (he _) (fun _ _ _ => rfl) (hok.blocks b x h1)
  · rcases kill_getElem bs h b x hx with rfl | ⟨h1, h2⟩
    · exact hal.elim
    · obtain ⟨k1, k2, k3⟩ := hok.own b x g h1 hal e
      refine ⟨k1, k2, fun o s => ?_⟩
      rcases s with s | ⟨b', ⟨hm, y, hy, hal'⟩, hr⟩
      · exact k3 o s
      · exact h2 (hok.inj b b' x y g h1 hy hal hal' e hr ▸ hm)
  · rcases kill_getElem bs h b1 x1 e1 with rfl | ⟨f1, _⟩
    · exact a1.elim
    · rcases kill_getElem bs h b2 x2 e2 with rfl | ⟨f2, _⟩
      · exact a2.elim
      · exact hok.inj b1 b2 x1 x2 g f1 f2 a1 a2 r1 r2
  · rcases s with s | ⟨b, ⟨_, y, hy, hal⟩, hr⟩
    · exact hok.old g o s
    · exact (hok.own b y g hy hal hr).2.1

theorem freeze_ok (hok : HOK E h w) {v x : AV} {u : Value} {h' : Hp} (hr : RV E w v u) (hf : freeze h v = some (x, h')) :
    ∃ E', HOK E' h' w ∧ (∀ n, Ext n E w E' w) ∧ RI E'.S w x u ∧ h'.length = h.length ∧ E'.base = E.base := by
  unfold freeze at hf
  split at hf
  · rename_i hp
    injection hf with hf; injection hf with h1 h2; subst h1; subst h2
    exact ⟨E, hok, fun n => Ext.refl n E w, plain_RI deep v u hp hr, rfl, rfl⟩
  · split at hf
    · rename_i y hy
      injection hf with hf; injection hf with h1 h2; subst h1; subst h2
      obtain ⟨k1, k2⟩ := hok.kill (visit h deep v)
      exact ⟨_, k1, k2, imm_ok hok _ deep v y u (fun b hb hy => ⟨hb, hy⟩) hr hy, kill_length _ _, rfl⟩
    · cases hf

/-- A slice in memory of its own, that nobody else knows. -/
def Fresh (S : Nat → Nat → Prop) (w : World) (lo e : Nat) (xs : List AV) (u : Value) : Prop :=
  ∃ A cap, u = .slice A xs.length cap ∧ ((xs = [] ∧ cap = 0) ∨ ∃ g vals t fz, A = some ⟨g, 0, none⟩ ∧ lo ≤ g ∧ w.heap[g]? = some (.cells vals t fz) ∧ Soft vals fz ∧ vals.size = cap * esz e ∧ xs.length ≤ cap ∧ cap ≤ maxLen ∧
    (∀ o, ¬ S g o) ∧ ∀ (i : Nat) x, xs[i]? = some x → Shape e x ∧ ∃ v : Value, RI S w x v ∧ v.cells.size = esz e ∧ ∀ (j : Nat) c, v.cells[j]? = some c → vals[i * esz e + j]? = some c)

/-- What a function hands back: at most one slice in memory of its own, as the result or as one of the results. -/
def ResOK (S : Nat → Nat → Prop) (w : World) (lo : Nat) (r : AV) (u : Value) : Prop :=
  RI S w r u ∨ (∃ e xs, r = .fr e xs ∧ Fresh S w lo e xs u) ∨
  ∃ cs us, r = .tup cs ∧ u = .tuple us ∧ us.size = cs.length ∧ ∀ (i : Nat) c v, cs[i]? = some c → us[i]? = some v → RI S w c v ∨ ∃ e xs, c = .fr e xs ∧ Fresh S w lo e xs v

theorem fresh_push (hok : HOK E h w) {e : Nat} {xs : List AV} {u : Value} {lo : Nat} (hlo : ∀ (b : Nat) x g, h[b]? = some x → x.alive → E.rho b = some (some g) → g < lo) (hl : E.base ≤ lo) (hf : Fresh E.S w lo e xs u) :
    ∃ E', HOK E' (h ++ [.els e xs]) w ∧ Ext h.length E w E' w ∧ RV E' w (.row e h.length 0 xs.length) u := by
  obtain ⟨A, cap, rfl, hf⟩ := hf
  have cases_ : ∀ (b : Nat) (x : HB), (h ++ [HB.els e xs])[b]? = some x → (b < h.length ∧ h[b]? = some x) ∨ (b = h.length ∧ x = .els e xs) := fun b x hx => by
    rcases Nat.lt_trichotomy b h.length with hb | hb | hb
    · rw [List.getElem?_append_left hb] at hx; exact .inl ⟨hb, hx⟩
    · subst hb; simp at hx; exact .inr ⟨rfl, hx.symm⟩
    · rw [List.getElem?_eq_none (by simp; omega)] at hx; cases hx
  have main : ∀ (r : Option Nat), (∀ g, r = some g → lo ≤ g ∧ g < w.heap.size ∧ ∀ o, ¬ E.S g o) → BOK (E.push h.length r e cap) w h.length (.els e xs) → HOK (E.push h.length r e cap) (h ++ [.els e xs]) w ∧ Ext h.length E w (E.push h.length r e cap) w := by
    intro r hg hy
    have he : Ext h.length E w (E.push h.length r e cap) w := hok.ext_more (More.refl w) r e cap
    have rho_old : ∀ b r', b < h.length → (E.push h.length r e cap).rho b = some r' → E.rho b = some r' := fun b r' hb e' => by
      simpa [Env.push, show b ≠ h.length by omega] using e'
    refine ⟨⟨fun b x hx => ?_, fun b r' e' => ?_, fun b x g hx hal e' => ?_, fun b1 b2 x1 x2 g e1 e2 a1 a2 r1 r2 => ?_, hok.old, hok.size⟩, he⟩
    · rcases cases_ b x hx with ⟨hb, hx⟩ | ⟨rfl, rfl⟩
      · exact BOK.ext hb hok.dom he (fun _ _ _ => rfl) (hok.blocks b x hx)
      · exact hy
    · by_cases hb : b = h.length
      · simp [hb]
      · have := hok.dom b r' (by simpa [Env.push, hb] using e')
        simp; omega
    · rcases cases_ b x hx with ⟨hb, hx⟩ | ⟨rfl, rfl⟩
      · exact hok.own b x g hx hal (rho_old b _ hb e')
      · simp only [Env.push_rho, Option.some.injEq] at e'
        obtain ⟨k1, k2, k3⟩ := hg g e'
        exact ⟨Nat.le_trans hl k1, k2, k3⟩
    · rcases cases_ b1 x1 e1 with ⟨hb1, f1⟩ | ⟨rfl, rfl⟩ <;> rcases cases_ b2 x2 e2 with ⟨hb2, f2⟩ | ⟨rfl, rfl⟩
      · exact hok.inj b1 b2 x1 x2 g f1 f2 a1 a2 (rho_old _ _ hb1 r1) (rho_old _ _ hb2 r2)
      · simp only [Env.push_rho, Option.some.injEq] at r2
        have := hlo b1 x1 g f1 a1 (rho_old _ _ hb1 r1)
        have := (hg g r2).1
        omega
      · simp only [Env.push_rho, Option.some.injEq] at r1
        have := hlo b2 x2 g f2 a2 (rho_old _ _ hb2 r2)
        have := (hg g r1).1
        omega
      · rfl
  rcases hf with ⟨rfl, rfl⟩ | ⟨g, vals, t, fz, rfl, k1, k2, k3, k4, k5, k6, k7, k8⟩
  · obtain ⟨m1, m2⟩ := main none (fun g h => by cases h) ⟨by simp, .inl ⟨by simp, rfl⟩⟩
    exact ⟨_, m1, m2, .row0 e h.length A (by simp) (by simp)⟩
  · have hgs : g < w.heap.size := (Array.getElem?_eq_some_iff.1 k2).1
    have he : Ext h.length E w (E.push h.length (some g) e cap) w := hok.ext_more (More.refl w) (some g) e cap
    obtain ⟨m1, m2⟩ := main (some g) (fun g' h => by injection h with h; subst h; exact ⟨k1, hgs, k7⟩)
      ⟨by simp, .inr ⟨g, vals, t, fz, by simp, k2, k3, by simpa using k4, by simpa using k5, by simpa using k6, by rw [k4]; exact Nat.mul_le_mul_right _ k5, fun i x hx => by
        obtain ⟨s1, v, s2, s3, s4⟩ := k8 i x hx
        exact ⟨s1, v, .imm s2, s3, s4⟩⟩⟩
    exact ⟨_, m1, m2, .row e h.length 0 xs.length g cap _ (by simp) (by simp) (.inl (by simp)) k5 (by simp) (by simpa using k6)⟩

theorem adoptL_ok {lo : Nat} : ∀ {cs : List AV} {h : Hp} {E : Env} {ds : List AV} {h' : Hp}, HOK E h w → (∀ (b : Nat) x g, h[b]? = some x → x.alive → E.rho b = some (some g) → g < lo) → E.base ≤ lo → adoptL h cs = some (ds, h') →
    ∀ us : List Value, us.length = cs.length → (∀ (i : Nat) c v, cs[i]? = some c → us[i]? = some v → RI E.S w c v ∨ ∃ e xs, c = .fr e xs ∧ Fresh E.S w lo e xs v) →
    ∃ E', HOK E' h' w ∧ Ext h.length E w E' w ∧ ds.length = cs.length ∧ ∀ (i : Nat) c v, ds[i]? = some c → us[i]? = some v → RV E' w c v
  | [], h, E, ds, h', hok, _, _, ha, us, _, _ => by
    simp [adoptL] at ha
    obtain ⟨rfl, rfl⟩ := ha
    exact ⟨E, hok, Ext.refl _ _ _, rfl, fun i c v h => by simp at h⟩
  | c :: cs, h, E, ds, h', hok, hlo, hl, ha, us, hu, hr => by
    match us, hu with
    | u :: us, hu =>
    have hr0 := hr 0 c u rfl rfl
    have hrs : ∀ (i : Nat) c v, cs[i]? = some c → us[i]? = some v → RI E.S w c v ∨ ∃ e xs, c = .fr e xs ∧ Fresh E.S w lo e xs v := fun i c' v h1 h2 => hr (i + 1) c' v (by simpa using h1) (by simpa using h2)
    by_cases hc : ∃ e xs, c = .fr e xs
    · obtain ⟨e, xs, rfl⟩ := hc
      simp only [adoptL] at ha
      split at ha
      · cases ha
      · rename_i hany
        injection ha with ha; injection ha with h1 h2; subst h1; subst h2
        rcases hr0 with hr0 | ⟨e', xs', he, hf⟩
        · cases hr0
        · injection he with h1 h2; subst h1; subst h2
          obtain ⟨E', p1, p2, p3⟩ := fresh_push hok hlo hl hf
          refine ⟨E', p1, p2, by simp, fun i c v h1 h2 => ?_⟩
          cases i with
          | zero => simp at h1 h2; subst h1; subst h2; exact p3
          | succ i =>
            rcases hrs i c v (by simpa using h1) (by simpa using h2) with hi | ⟨e, xs, rfl, _⟩
            · exact .imm (hi.kept p2.kept)
            · exact absurd (List.any_eq_true.2 ⟨_, List.mem_of_getElem? (by simpa using h1), rfl⟩) hany
    · have hrest : ∃ p, adoptL h cs = some p ∧ ds = c :: p.1 ∧ h' = p.2 := by
        cases c <;> simp only [adoptL, Option.map_eq_some_iff] at ha <;> first
          | (obtain ⟨p, h1, h2⟩ := ha; injection h2 with h2 h3; exact ⟨p, h1, h2.symm, h3.symm⟩)
          | exact absurd ⟨_, _, rfl⟩ hc
      obtain ⟨p, hp, rfl, rfl⟩ := hrest
      obtain ⟨E', p1, p2, p3, p4⟩ := adoptL_ok (cs := cs) hok hlo hl hp us (by simpa using hu) hrs
      refine ⟨E', p1, p2, by simp [p3], fun i c' v h1 h2 => ?_⟩
      cases i with
      | zero =>
        simp at h1 h2
        subst h1; subst h2
        rcases hr0 with hi | ⟨e, xs, rfl, _⟩
        · exact .imm (hi.kept p2.kept)
        · exact absurd ⟨_, _, rfl⟩ hc
      | succ i => exact p4 i c' v (by simpa using h1) (by simpa using h2)

theorem adopt_ok (hok : HOK E h w) {lo : Nat} (hlo : ∀ (b : Nat) x g, h[b]? = some x → x.alive → E.rho b = some (some g) → g < lo) (hl : E.base ≤ lo) {r v : AV} {u : Value} {h' : Hp} (hr : ResOK E.S w lo r u) (ha : adopt h r = some (v, h')) :
    ∃ E', HOK E' h' w ∧ Ext h.length E w E' w ∧ RV E' w v u := by
  by_cases hfr : ∃ e xs, r = .fr e xs
  · obtain ⟨e, xs, rfl⟩ := hfr
    simp only [adopt, Option.some.injEq, Prod.mk.injEq] at ha
    obtain ⟨rfl, rfl⟩ := ha
    rcases hr with hr | ⟨e', xs', he, hf⟩ | ⟨cs, us, he, _⟩
    · cases hr
    · injection he with h1 h2; subst h1; subst h2
      exact fresh_push hok hlo hl hf
    · cases he
  by_cases htup : ∃ cs, r = .tup cs
  · obtain ⟨cs, rfl⟩ := htup
    simp only [adopt, Option.map_eq_some_iff] at ha
    obtain ⟨p, hp, he⟩ := ha
    injection he with h1 h2; subst h1; subst h2
    have key : ∃ us : Array Value, u = .tuple us ∧ us.size = cs.length ∧ ∀ (i : Nat) c v, cs[i]? = some c → us[i]? = some v → RI E.S w c v ∨ ∃ e xs, c = .fr e xs ∧ Fresh E.S w lo e xs v := by
      rcases hr with hr | ⟨e', xs', he, hf⟩ | ⟨cs', us, he, rfl, h1, h2⟩
      · cases hr with | tup _ us hs hrr => exact ⟨us, rfl, hs, fun i c v h1 h2 => .inl (hrr i c v h1 h2)⟩
      · cases he
      · injection he with he; subst he; exact ⟨us, rfl, h1, h2⟩
    obtain ⟨us, rfl, h1, h2⟩ := key
    obtain ⟨E', p1, p2, p3, p4⟩ := adoptL_ok hok hlo hl hp us.toList (by simpa using h1) (fun i c v h3 h4 => h2 i c v h3 (by simpa using h4))
    exact ⟨E', p1, p2, .tup _ us (by rw [p3, h1]) fun i c v h3 h4 => p4 i c v h3 (by simpa using h4)⟩
  · have : v = r ∧ h' = h := by
      cases r <;> simp only [adopt, Option.some.injEq, Prod.mk.injEq] at ha <;> first
        | exact ⟨ha.1.symm, ha.2.symm⟩
        | exact absurd ⟨_, _, rfl⟩ hfr
        | exact absurd ⟨_, rfl⟩ htup
    obtain ⟨rfl, rfl⟩ := this
    rcases hr with hr | ⟨e', xs', he, _⟩ | ⟨cs, us, he, _⟩
    · exact ⟨E, hok, Ext.refl _ _ _, .imm hr⟩
    · exact absurd ⟨_, _, he⟩ hfr
    · exact absurd ⟨_, he⟩ htup
end
end Go.Ab
