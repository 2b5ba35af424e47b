/-
  The abstract machine, twentieth part: functions that neither write nor keep what their caller has.
-/
import Derived.Test.YtkbjimfganeooaaAb19
set_option linter.unusedSimpArgs false
set_option linter.unusedVariables false
namespace Go.Ab
open Go

variable {P : Program}

section
variable {E : Env} {w w' : World} {h : Hp}

/-- What is stable grows; the world has blocks more. -/
theorem HOK.grow (hok : HOK E h w) (m : More w w') {S' : Nat → Nat → Prop} (hk : Kept E.S S' w w') (hn : ∀ g o, S' g o → E.S g o ∨ w.heap.size ≤ g) (ho : ∀ g o, S' g o → g < w'.heap.size) :
    HOK { E with S := S' } h w' ∧ ∀ n, Ext n E w { E with S := S' } w' := by
  have he : ∀ n, Ext n E w { E with S := S' } w' := fun n => ⟨⟨m.os, m.tape, m.output, m.size, fun k hkb => m.old k (by have := hok.size; omega), m.frz⟩, rfl, hk, fun g o s => by
    rcases hn g o s with s | s
    · exact .inl s
    · exact .inr (Nat.le_trans hok.size s), fun b r _ e => ⟨e, rfl, rfl⟩⟩
  refine ⟨⟨fun b x hx => BOK.ext (List.getElem?_eq_some_iff.1 hx).1 hok.dom (he _) (fun g hal e' => m.old g (hok.own b x g hx hal e').2.1) (hok.blocks b x hx), hok.dom, fun b x g hx hal e' => ?_, hok.inj, ho, Nat.le_trans hok.size m.size⟩, he⟩
  obtain ⟨k1, k2, k3⟩ := hok.own b x g hx hal e'
  refine ⟨k1, Nat.lt_of_lt_of_le k2 m.size, fun o s => ?_⟩
  rcases hn g o s with s | s
  · exact k3 o s
  · omega

theorem imms_ok (hok : HOK E h w) {bs : List Nat} {cs ds : List AV} (hi : omap (imm h deep) cs = some ds) (hb : ∀ b ∈ cs.flatMap (visit h deep), b ∈ bs) {us : List Value} (hr : ∀ (i : Nat) c u, cs[i]? = some c → us[i]? = some u → RV E w c u) :
    ds.length = cs.length ∧ ∀ (i : Nat) d u, ds[i]? = some d → us[i]? = some u → RI (E.give h bs).S w d u := by
  obtain ⟨h1, h2⟩ := omap_some hi
  refine ⟨h1, fun i d u hd hu => ?_⟩
  have hil : i < cs.length := by rw [← h1]; exact (List.getElem?_eq_some_iff.1 hd).1
  have hc : cs[i]? = some cs[i] := List.getElem?_eq_getElem hil
  obtain ⟨d', k1, k2⟩ := h2 i _ hc
  rw [hd] at k1; injection k1 with k1; subst k1
  exact imm_ok hok (Live h bs) deep _ d u (fun b hv hy => ⟨hb b (List.mem_flatMap.2 ⟨cs[i], List.getElem_mem hil, hv⟩), hy⟩) (hr i _ u hc hu) k2

theorem handRow_ok (hok : HOK E h w) {v : AV} {u : Value} (hr : RV E w v u) {os : List AV} {us : List Value} (hos : ∀ (i : Nat) c z, os[i]? = some c → us[i]? = some z → RV E w c z) {y : AV} {ds : List AV} (hh : handRow h v os = some (y, ds)) :
    ∃ bs, (RI (E.give h bs).S w y u ∨ ∃ e xs, y = .fr e xs ∧ Fresh (E.give h bs).S w E.base e xs u) ∧ ds.length = os.length ∧ ∀ (i : Nat) d z, ds[i]? = some d → us[i]? = some z → RI (E.give h bs).S w d z := by
  unfold handRow at hh
  split at hh
  · rename_i e b len
    split at hh
    case h_2 => cases hh
    rename_i e' xs hbk
    split at hh
    case isFalse => cases hh
    rename_i hc
    obtain ⟨rfl, rfl, hb1, hb2⟩ := hc
    split at hh
    case h_2 => cases hh
    rename_i ys ds' hys hds
    injection hh with hh; injection hh with e1 e2; subst e1; subst e2
    refine ⟨(xs ++ os).flatMap (visit h deep), .inr ⟨e', ys, rfl, ?_⟩, imms_ok hok hds (fun b hb => by rw [List.flatMap_append]; exact List.mem_append_right _ hb) hos⟩
    have hnb : b ∉ (xs ++ os).flatMap (visit h deep) := by
      rw [List.flatMap_append]
      intro hm
      rcases List.mem_append.1 hm with hm | hm
      · rw [List.contains_iff_mem.2 hm] at hb1; cases hb1
      · rw [List.contains_iff_mem.2 hm] at hb2; cases hb2
    obtain ⟨hlen, hget⟩ := omap_some hys
    obtain ⟨hke, hrow⟩ := hr.row_inv
    obtain ⟨_, hbok⟩ := hok.blocks b _ hbk
    rcases hrow with ⟨k0, _, hl0, A, rfl⟩ | ⟨g, cap, A, hg, rfl, hA, hl, hcc, hm⟩
    · have hx0 : xs = [] := List.eq_nil_of_length_eq_zero hl0
      subst hx0
      have hy0 : ys = [] := List.eq_nil_of_length_eq_zero hlen
      subst hy0
      exact ⟨A, 0, rfl, .inl ⟨rfl, rfl⟩⟩
    · rcases hbok with ⟨k0, _⟩ | ⟨g', vals, t', fz, k1, k2, k3, k4, k5, k6, k7, k8⟩
      · rw [k0] at hg; cases hg
      rw [hg] at k1; injection k1 with k1; injection k1 with k1; subst k1
      have hA : A = some ⟨g, 0, none⟩ := by
        rcases hA with hA | ⟨hA, _⟩
        · simpa using hA
        · exact absurd rfl hA
      have hcap : cap = E.ca b := by omega
      subst hcap
      obtain ⟨o1, o2, o3⟩ := hok.own b _ g hbk trivial hg
      refine ⟨A, E.ca b, by rw [hlen], .inr ⟨g, vals, t', fz, hA, o1, k2, k3, k4, by rw [hlen]; exact k5, k6, fun o s => ?_, fun i y hy => ?_⟩⟩
      · rcases s with s | ⟨b', ⟨hm', z, hz, hal⟩, hr'⟩
        · exact o3 o s
        · exact hnb (hok.inj b b' _ z g hbk hz trivial hal hg hr' ▸ hm')
      · have hil : i < xs.length := by rw [← hlen]; exact (List.getElem?_eq_some_iff.1 hy).1
        have hx : xs[i]? = some xs[i] := List.getElem?_eq_getElem hil
        obtain ⟨y', q1, q2⟩ := hget i _ hx
        rw [hy] at q1; injection q1 with q1; subst q1
        obtain ⟨s1, v, s2, s3, s4⟩ := k8 i _ hx
        refine ⟨shape_of_fits (imm_fits q2 s1), v, ?_, s3, s4⟩
        exact imm_ok hok (Live h _) deep _ y v (fun b hv hy => ⟨List.mem_flatMap.2 ⟨xs[i], List.mem_append_left _ (List.getElem_mem hil), hv⟩, hy⟩) s2 q2
  · rename_i e
    obtain ⟨ds', hds, hh⟩ := map_some' hh
    injection hh with e1 e2; subst e1; subst e2
    refine ⟨os.flatMap (visit h deep), .inr ⟨e, [], rfl, ?_⟩, imms_ok hok hds (fun b hb => hb) hos⟩
    cases hr.sl_inv with
    | sl _ _ _ A cap g o uu hl hm hf hA hfit hc hrr =>
      have := hf rfl
      simp only [List.length_nil] at this
      subst this
      exact ⟨A, 0, rfl, .inl ⟨rfl, rfl⟩⟩
  · split at hh
    case h_2 => cases hh
    rename_i y' ds' hy hds
    injection hh with hh; injection hh with e1 e2; subst e1; subst e2
    refine ⟨visit h deep v ++ os.flatMap (visit h deep), .inl ?_, imms_ok hok hds (fun b hb => List.mem_append_right _ hb) hos⟩
    exact imm_ok hok (Live h _) deep _ y' u (fun b hv hy => ⟨List.mem_append_left _ hv, hy⟩) hr hy

theorem hand_ok (hok : HOK E h w) {fresh : Option Nat} {v r : AV} {u : Value} (hr : RV E w v u) (hh : handOver fresh h v = some r) : ∃ bs, ResOK (E.give h bs).S w E.base r u := by
  unfold handOver at hh
  split at hh
  · exact ⟨visit h deep v, .inl (imm_ok hok (Live h _) deep v r u (fun b hb hy => ⟨hb, hy⟩) hr hh)⟩
  · rename_i k
    split at hh
    · rename_i cs
      split at hh
      case h_2 => cases hh
      rename_i c hc
      obtain ⟨⟨y, ds⟩, hp, hh⟩ := map_some' hh
      dsimp only at hh
      subst hh
      obtain ⟨us, rfl, hl, hall⟩ := hr.tup_inv
      have hkl : k < us.size := by rw [hl]; exact (List.getElem?_eq_some_iff.1 hc).1
      have huk : us[k]? = some us[k] := Array.getElem?_eq_getElem hkl
      obtain ⟨bs, h1, h2, h3⟩ := handRow_ok hok (hall k c _ hc huk) (os := cs.eraseIdx k) (us := us.toList.eraseIdx k) (fun i c' z hi hz => by
        rw [List.getElem?_eraseIdx] at hi hz
        split at hi
        · rename_i hik
          rw [if_pos hik] at hz
          exact hall i c' z hi (by simpa using hz)
        · rename_i hik
          rw [if_neg hik] at hz
          exact hall (i + 1) c' z hi (by simpa using hz)) hp
      have hle : (cs.eraseIdx k).length = cs.length - 1 := by rw [List.length_eraseIdx, if_pos (by omega)]
      refine ⟨bs, .inr (.inr ⟨_, us, rfl, rfl, by rw [List.length_insertIdx, if_pos (by omega), h2, hle]; omega, fun i d z hd hz => ?_⟩)⟩
      rw [List.getElem?_insertIdx] at hd
      split at hd
      · rename_i hik
        exact .inl (h3 i d z hd (by rw [List.getElem?_eraseIdx, if_pos hik]; simpa using hz))
      · rename_i hik
        split at hd
        · rename_i hik'
          subst hik'
          split at hd
          · injection hd with hd; subst hd
            rw [huk] at hz; injection hz with hz; subst hz
            exact h1
          · cases hd
        · rename_i hik'
          refine .inl (h3 (i - 1) d z hd ?_)
          rw [List.getElem?_eraseIdx, if_neg (by omega)]
          rw [show i - 1 + 1 = i by omega]
          simpa using hz
    · obtain ⟨⟨y, ds⟩, hp, hh⟩ := map_some' hh
      dsimp only at hh
      subst hh
      obtain ⟨bs, h1, _⟩ := handRow_ok hok hr (os := []) (us := []) (fun i c z hi => by simp at hi) hp
      rcases h1 with h1 | h1
      · exact ⟨bs, .inl h1⟩
      · exact ⟨bs, .inr (.inl h1)⟩
end

/-- A function that works in a heap of its own. -/
theorem Pure.of_code {f n : Nat} {rs : List Rv} {ir : C} (hf : fd? P f = some (n, rs, ir)) (fresh : Option Nat) {args : List AV} (hn : args.length ≤ n) {R : AV → Prop} (hR : ∃ r, R r)
    (hw : AW P n 0 ir (fun ex st => (ex = .normal ∨ ex = .ret) ∧ ∃ v r, resVs st rs = some v ∧ handOver fresh st.h v = some r ∧ R r) ⟨slotsOf args, []⟩) : Pure P f args R := by
  refine ⟨fd?_entered hf, hR, fun S w us ho hl hr => ?_⟩
  refine Calls.mono (code_calls hf hn (h := []) (R := fun v h' => ∃ r, handOver fresh h' v = some r ∧ R r) (AW.mono (by
    rintro ex st ⟨h1, v, r, h2, h3, h4⟩
    exact ⟨h1, v, h2, r, h3, h4⟩) hw) (E := { S := S, rho := fun _ => none, ke := fun _ => 0, ca := fun _ => 0, base := w.heap.size }) (w := w) ⟨fun b x hx => (by simp at hx), fun b r e => (by cases e), fun b x g hx => (by simp at hx), fun b b' x x' g hx => (by simp at hx), ho, Nat.le_refl _⟩ hl fun i c u hc hu => .imm (hr i c u hc hu)) ?_
  rintro e w' ⟨u, E', v, h', rfl, ⟨r, hh, hR⟩, hok, hext, hrv⟩
  obtain ⟨bs, hres⟩ := hand_ok hok hrv hh
  obtain ⟨k1, k2⟩ := hok.kill bs
  have hbase : E'.base = w.heap.size := hext.base
  refine ⟨u, (E'.give h' bs).S, r, rfl, hR, hext.below, hext.kept.trans (k2 0).kept, fun g o s => ?_, k1.old, by rw [hbase] at hres; exact hres⟩
  rcases (k2 0).new g o s with s | s
  · exact hext.new g o s
  · exact .inr (hbase ▸ s)

theorem ResOK.flat {S S' : Nat → Nat → Prop} {w w' : World} {lo : Nat} {r : AV} {u : Value} (hr : ResOK S w lo r u) (hf : Ab.flat deep r = true) : RI S' w' r u := by
  obtain ⟨m, hd⟩ : ∃ m, deep = m + 2 := ⟨10, rfl⟩
  rcases hr with hr | ⟨e, xs, rfl, _⟩ | ⟨cs, us, rfl, rfl, h1, h2⟩
  · exact flat_RI deep r u hf hr
  · rw [hd] at hf; simp [Ab.flat] at hf
  · rw [hd] at hf
    simp only [Ab.flat, List.all_eq_true] at hf
    refine .tup _ us h1 fun i c v hc hv => ?_
    have hfc := hf c (List.mem_of_getElem? hc)
    rcases h2 i c v hc hv with h3 | ⟨e, xs, rfl, _⟩
    · exact flat_RI (m + 1) c v hfc h3
    · simp [Ab.flat] at hfc

/-- A call of such a function. -/
theorem Fn.pure {f : Nat} {args as : List AV} {h h1 : Hp} {R : AV → Prop} (hp : Pure P f as R) (hf : freeze h (.tup args) = some (.tup as, h1)) {K : AV → Hp → Prop}
    (hK : ∀ r, R r → ∃ v h2, adopt (if flat deep r = true then h else h1) r = some (v, h2) ∧ K v h2) : Fn P f args h K := by
  refine ⟨hp.1, by obtain ⟨r, hr⟩ := hp.2.1; obtain ⟨v, h2, _, hk⟩ := hK r hr; exact ⟨v, h2, hk⟩, fun E w us hok hl hr => ?_⟩
  obtain ⟨E1, q1, q2, q3, q4, q5⟩ := freeze_ok hok (v := .tup args) (u := .tuple us) (.tup _ us hl hr) hf
  have q3' : us.size = as.length ∧ ∀ (i : Nat) c u, as[i]? = some c → us[i]? = some u → RI E1.S w c u := by
    cases q3 with | tup _ us hs hrr => exact ⟨hs, hrr⟩
  refine Calls.mono (hp.2.2 E1.S w us q1.old q3'.1 q3'.2) ?_
  rintro e w' ⟨u, S', r, rfl, hR, hbelow, hkept, hnew, hold, hres⟩
  obtain ⟨v, h2, had, hk⟩ := hK r hR
  have m : More w w' := ⟨hbelow.os, hbelow.tape, hbelow.output, hbelow.size, hbelow.block, hbelow.frz⟩
  by_cases hfl : flat deep r = true
  · rw [if_pos hfl] at had
    obtain ⟨g1, g2⟩ := hok.more m
    obtain ⟨E', p1, p2, p3⟩ := adopt_ok g1 (lo := w.heap.size) (fun b x g hx hal e => (hok.own b x g hx hal e).2.1) hok.size (.inl (hres.flat hfl)) had
    exact ⟨u, E', v, h2, rfl, hk, p1, (g2 h.length).trans p2 (Nat.le_refl _), p3⟩
  · rw [if_neg hfl] at had
    obtain ⟨g1, g2⟩ := q1.grow m hkept hnew hold
    obtain ⟨E', p1, p2, p3⟩ := adopt_ok g1 (lo := w.heap.size) (fun b x g hx hal e => (q1.own b x g hx hal e).2.1) q1.size hres had
    exact ⟨u, E', v, h2, rfl, hk, p1, ((q2 h.length).trans (g2 h.length) (Nat.le_refl _)).trans p2 (by rw [q4]; exact Nat.le_refl _), p3⟩

end Go.Ab
