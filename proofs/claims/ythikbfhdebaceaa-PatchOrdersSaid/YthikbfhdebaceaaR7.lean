import Derived.Test.YthikbfhdebaceaaP5
import Derived.Test.YthikbfhdebaceaaY71
namespace Go.Proofs.Ythikbfhdebaceaa
open Go Go.Ab
set_option linter.unusedSimpArgs false
set_option linter.unusedVariables false
set_option maxRecDepth 4000
theorem strict_ext {τ : Type} {key : τ → Int} : ∀ {xs ys : List τ}, xs.Pairwise (fun a b => key a < key b) → ys.Pairwise (fun a b => key a < key b) → (∀ z, z ∈ xs ↔ z ∈ ys) → xs = ys
  | [], [], _, _, _ => rfl
  | [], y :: ys, _, _, h => by have := (h y).2 (List.mem_cons_self ..); cases this
  | x :: xs, [], _, _, h => by have := (h x).1 (List.mem_cons_self ..); cases this
  | x :: xs, y :: ys, h1, h2, h => by
    have h1' := List.pairwise_cons.1 h1
    have h2' := List.pairwise_cons.1 h2
    have hxy : x = y := by
      rcases List.mem_cons.1 ((h x).1 (List.mem_cons_self ..)) with e | e
      · exact e
      · rcases List.mem_cons.1 ((h y).2 (List.mem_cons_self ..)) with e2 | e2
        · exact e2.symm
        · have := h2'.1 x e
          have := h1'.1 y e2
          omega
    subst hxy
    rw [strict_ext h1'.2 h2'.2 fun z => ?_]
    have hz := h z
    rw [List.mem_cons, List.mem_cons] at hz
    constructor
    · intro hm
      rcases hz.1 (.inr hm) with e | e
      · have := h1'.1 z hm; rw [e] at this; omega
      · exact e
    · intro hm
      rcases hz.2 (.inr hm) with e | e
      · have := h2'.1 z hm; rw [e] at this; omega
      · exact e

theorem f29_ex (l : List ApiFixture) (ps : List ApiProfile) (hf : Fit l) : ∃ b, f29 l ps = some b ∧ (b = true → Few l ps ∧ Ok l ps) := by
  obtain ⟨b, hb, hF⟩ := f10_ex l ps
  unfold f29
  rw [hb, Option.bind_some]
  cases b with
  | false => exact ⟨false, rfl, fun e => by cases e⟩
  | true =>
    rw [if_pos rfl, f17_eq ps hf, Option.bind_some]
    exact ⟨_, rfl, fun e => ⟨hF rfl, check_ok.1 (by simpa using e)⟩⟩

theorem attrsS_len {l : List ApiFixture} {ps : List ApiProfile} (c : Int) (hw : Few l ps) (hok : Ok l ps) : (attrsS ps l c).length ≤ 1000000 := by
  unfold attrsS
  have h1 := compact_le (sortI (attrsOf ps (ofCh l c)))
  rw [sortI_length] at h1
  have h2 := attrs_len (ps := ps) (xs := ofCh l c) fun x _ => feat_len hw hok x
  have h3 : (ofCh l c).length ≤ l.length := List.length_filter_le ..
  have h4 := hok.nl
  omega

theorem partsS_len {l : List ApiFixture} {ps : List ApiProfile} (c : Int) (hok : Ok l ps) : (partsS l c).length ≤ 1000000 := by
  rw [(parts_perm l c).length_eq]
  have h3 : (ofCh l c).length ≤ l.length := List.length_filter_le ..
  have h4 := hok.nl
  omega

/-- Wheels that fit. -/
def FitW (ps : List ApiProfile) : Prop := ∀ p ∈ ps, ∀ y ∈ p.fFeatures, y.fWheel.length ≤ 9223372036854775807

theorem f58_self {xs : List ApiSlot} (hl : xs.length ≤ 9223372036854775807) : f58 xs xs = some true := by
  unfold f58
  rw [if_neg (by simp)]
  have hrun : Lp.run (f58_L1 xs xs) 0 = some (.inl ()) := by
    refine run_all (xs := xs) (fun k x hx => ?_) (if_neg (by simp))
    have r := Rnd.mk' hx hl
    refine (if_pos r.lt).trans ?_
    rw [r.at']
    simp only [Option.bind_some, r.nxt, beq_self_eq_true, Bool.and_self, Bool.not_true, Bool.false_eq_true, if_false]
  rw [hrun, Option.bind_some]

theorem f28_self {y : ApiFeature} (hl : y.fWheel.length ≤ 9223372036854775807) : f28 y y = some true := by
  unfold f28
  rw [f58_self hl]
  simp

theorem have_wheel {ps : List ApiProfile} (hfw : FitW ps) {xs : List ApiFixture} {a : Int} {x : ApiFixture} {y : ApiFeature} (h : firstS ps xs a = some (x, y)) : x ∈ xs ∧ y.fAttr = a ∧ y.fWheel.length ≤ 9223372036854775807 := by
  unfold firstS at h
  obtain ⟨x', hx', h⟩ := List.exists_of_findSome?_eq_some h
  obtain ⟨y', hy', h⟩ := Option.map_eq_some_iff.1 h
  injection h with e1 e2
  subst e1; subst e2
  unfold havS at hy'
  refine ⟨hx', by simpa using List.find?_some hy', ?_⟩
  have hm := List.mem_of_find?_eq_some hy'
  unfold featS at hm
  cases hp : profS ps x'.fProfile with
  | none => rw [hp] at hm; simp at hm
  | some p => rw [hp] at hm; exact hfw p (List.mem_of_find?_eq_some hp) y' hm

theorem first_wheel {ps : List ApiProfile} (hfw : FitW ps) (xs : List ApiFixture) (a : Int) : (firstT (firstS ps xs a)).2.1.fWheel.length ≤ 9223372036854775807 := by
  cases h : firstS ps xs a with
  | none => simp [firstT]
  | some p => obtain ⟨x, y⟩ := p; exact (have_wheel hfw h).2.2
/-! ## Turned fixtures -/

theorem f7_L2_eq {p : ApiParam} {xs : List ApiFixture} (hl : xs.length ≤ 256) : (f7_L2 p).run (0, IntKind.i64.wrap (((xs.length : Nat) : Int) - 1), xs) = some xs.reverse := by
  refine run_eq (L := f7_L2 p) (fun s => ∃ k : Nat, s.1 = k ∧ s.2.1 = ((xs.length : Nat) : Int) - 1 - (k : Int) ∧ 2 * k ≤ xs.length + 1 ∧ s.2.2.length = xs.length ∧ ∀ m, m < xs.length → s.2.2[m]? = if m < k ∨ xs.length ≤ m + k then xs[xs.length - 1 - m]? else xs[m]?) (fun s => (s.2.1 - s.1 + 1).toNat) ⟨0, rfl, ?_, by omega, rfl, ?_⟩ ?_
  · dsimp only; rw [w64 (by omega) (by omega)]; simp
  · intro m hm; rw [if_neg (by omega)]
  · rintro ⟨i, j, v⟩ ⟨k, e1, e2, hk, hv, hm⟩
    dsimp only at e1 e2 hv hm ⊢
    subst e1; subst e2
    simp only [f7_L2]
    by_cases hlt : (k : Int) < ((xs.length : Nat) : Int) - 1 - (k : Int)
    · left
      have hj : (((xs.length : Nat) : Int) - 1 - (k : Int)).toNat = xs.length - 1 - k := by omega
      have a1 : xs.length - 1 - k < v.length := by omega
      have a2 : k < v.length := by omega
      rw [if_pos (by simpa using hlt), at_some (x := v[xs.length - 1 - k]) (by omega) (by rw [hj]; exact List.getElem?_eq_getElem a1), at_nat (List.getElem?_eq_getElem a2)]
      simp only [Option.bind_some, Int.toNat_natCast]
      rw [at_some (x := (v.set k v[xs.length - 1 - k])[xs.length - 1 - k]'(by simpa using a1)) (by omega) (by rw [hj]; exact List.getElem?_eq_getElem _)]
      simp only [Option.bind_some]
      refine ⟨_, rfl, ⟨k + 1, ?_, ?_, by omega, by simp [hv], ?_⟩, ?_⟩
      · dsimp only; rw [w64 (by omega) (by omega)]; rfl
      · dsimp only; rw [w64 (by omega) (by omega)]; omega
      · intro m hmm
        dsimp only
        rw [hj]
        by_cases c1 : xs.length - 1 - k = m
        · subst c1
          rw [List.getElem?_set_self (by simp; omega), if_pos (by omega), ← List.getElem?_eq_getElem a2, hm k (by omega), if_neg (by omega)]
          congr 1; omega
        · rw [List.getElem?_set_ne c1]
          by_cases c2 : k = m
          · subst c2
            rw [List.getElem?_set_self a2, if_pos (by omega), ← List.getElem?_eq_getElem a1, hm _ (by omega), if_neg (by omega)]
          · rw [List.getElem?_set_ne c2, hm m hmm]
            by_cases c3 : m < k ∨ xs.length ≤ m + k
            · rw [if_pos c3, if_pos (by omega)]
            · rw [if_neg c3, if_neg (by omega)]
      · dsimp only; rw [w64 (by omega) (by omega), w64 (by omega) (by omega)]; omega
    · right
      rw [if_neg (by simpa using hlt)]
      congr 2
      refine List.ext_getElem? fun m => ?_
      by_cases hmm : m < xs.length
      · rw [hm m hmm, List.getElem?_reverse hmm]
        split
        · rfl
        · congr 1; omega
      · rw [List.getElem?_eq_none (by omega), List.getElem?_eq_none (by simp; omega)]

theorem ok_rev {l : List ApiFixture} {ps : List ApiProfile} (h : Ok l ps) : Ok l.reverse ps where
  np := h.np
  nl := by rw [List.length_reverse]; exact h.nl
  one := fun x hx => h.one x (List.mem_reverse.1 hx)
  two := by
    rw [List.pairwise_reverse]
    refine h.two.imp fun {a b} hd => ?_
    unfold dupS at hd ⊢
    simp only [decide_eq_false_iff_not] at hd ⊢
    exact fun e => hd ⟨e.1.symm, e.2.symm⟩
  lap := by
    rw [List.pairwise_reverse]
    refine h.lap.imp fun {a b} hd => ?_
    unfold overS at hd ⊢
    simp only [decide_eq_false_iff_not] at hd ⊢
    exact fun e => hd ⟨e.1.symm, e.2.2, e.2.1⟩

theorem parts_rev {l : List ApiFixture} {ps : List ApiProfile} (c : Int) (h : Ok l ps) : partsS l.reverse c = partsS l c :=
  strict_ext (key := fun x => x.fPart) (parts_asc c (ok_rev h)) (parts_asc c h) fun z => by rw [parts_mem, parts_mem, List.mem_reverse]

theorem attrs_rev (ps : List ApiProfile) (l : List ApiFixture) (c : Int) : attrsS ps l.reverse c = attrsS ps l c := by
  have h : (ofCh l.reverse c).Perm (ofCh l c) := (List.reverse_perm l).filter _
  unfold attrsS
  rw [sortI_perm_eq (attrs_perm (ps := ps) h)]

theorem attrs_asc (ps : List ApiProfile) (l : List ApiFixture) (c : Int) : (attrsS ps l c).Pairwise fun a b => a < b := compact_strict (sortI_asc _)

theorem f59_eq (x y : Int) : f59 x y = some (decide (x < y)) := by
  unfold f59 f84
  simp

theorem f32_asc {xs : List Int} (h : xs.Pairwise fun a b => a < b) (hl : xs.length ≤ 1000000) : f32 xs = some true := by
  unfold f32
  have hrun : Lp.run (f32_L1 xs) (IntKind.i64.wrap (((xs.length : Nat) : Int) - 1)) = some (.inl ()) := by
    refine run_eq (L := f32_L1 xs) (fun i => i < (xs.length : Int) ∧ -1 ≤ i) (fun i => (i + 1).toNat) ?_ ?_
    · rw [w64 (by omega) (by omega)]; omega
    · rintro i ⟨h1, h2⟩
      by_cases h0 : 0 < i
      · left
        have hb : (f32_L1 xs).body i = (if decide (0 < i) = true then _ else _) := rfl
        have e1 : xs[i.toNat]? = some xs[i.toNat] := List.getElem?_eq_getElem (by omega)
        have e2 : xs[(i - 1).toNat]? = some xs[(i - 1).toNat] := List.getElem?_eq_getElem (by omega)
        have hlt := List.pairwise_iff_getElem.1 h (i - 1).toNat i.toNat (by omega) (by omega) (by omega)
        rw [hb, if_pos (by simpa using h0), at_some (by omega) e1, Option.bind_some, w64 (by omega) (by omega), at_some (by omega) e2, Option.bind_some, f59_eq, Option.bind_some, if_neg (by simp only [decide_eq_true_eq]; omega)]
        exact ⟨_, rfl, ⟨by omega, by omega⟩, by omega⟩
      · right
        exact if_neg (by simpa using h0)
  rw [hrun, Option.bind_some]

theorem f33_eq {xs : List Int} (v : Int) (hl : xs.length ≤ 1000000) : f33 xs v = some (decide (v ∈ xs)) := by
  have h : f60 xs v = some (fstI (fun x => decide (v = x)) xs) := by
    refine run_findi (fun x : Int => decide (v = x)) (by omega) (fun k x r => ?_) (if_neg (by simp))
    refine (if_pos r.lt).trans ?_
    rw [r.at']
    simp only [Option.bind_some, r.nxt]
    split <;> rfl
  unfold f33
  rw [h, Option.bind_some, fstI_nonneg]
  congr 1
  rw [Bool.eq_iff_iff, List.any_eq_true]
  simp

theorem first_mem {ps : List ApiProfile} (xs : List ApiFixture) (a : Int) : (firstT (firstS ps xs a)).2.2.1 = decide (a ∈ attrsOf ps xs) := by
  have h : (firstS ps xs a).isSome = true ↔ a ∈ attrsOf ps xs := by
    unfold firstS attrsOf
    rw [List.findSome?_isSome_iff, List.mem_flatMap]
    constructor
    · rintro ⟨x, hx, h⟩
      rw [Option.isSome_map] at h
      obtain ⟨y, hy⟩ := Option.isSome_iff_exists.1 h
      unfold havS at hy
      exact ⟨x, hx, List.mem_map.2 ⟨y, List.mem_of_find?_eq_some hy, by simpa using List.find?_some hy⟩⟩
    · rintro ⟨x, hx, h⟩
      obtain ⟨y, hy, e⟩ := List.mem_map.1 h
      refine ⟨x, hx, ?_⟩
      rw [Option.isSome_map]
      unfold havS
      rw [List.find?_isSome]
      exact ⟨y, hy, by simpa using e⟩
  cases hf : firstS ps xs a with
  | none =>
    rw [hf] at h
    have : a ∉ attrsOf ps xs := fun e => by have := h.2 e; cases this
    simp [firstT, this]
  | some p =>
    obtain ⟨x, y⟩ := p
    rw [hf] at h
    have : a ∈ attrsOf ps xs := h.1 rfl
    simp [firstT, this]

theorem f7_eq (l : List ApiFixture) (ps : List ApiProfile) (p : ApiParam) (hf : Fit l) (hfw : FitW ps) : f7 l ps p = some true := by
  obtain ⟨b, hb, hF⟩ := f29_ex l ps hf
  unfold f7
  rw [hb, Option.bind_some]
  cases b with
  | false => rw [if_pos (by simp), f11_eq]; rfl
  | true =>
    obtain ⟨hw, hok⟩ := hF rfl
    have hl := hok.nl
    have hchk := check_ok.2 hok
    have hok2 := ok_rev hok
    have hchk2 := check_ok.2 hok2
    have hf2 : Fit l.reverse := fun x hx => hf x (List.mem_reverse.1 hx)
    have hw2 : Few l.reverse ps := ⟨by rw [List.length_reverse]; exact hw.nl, hw.np, hw.nf⟩
    rw [if_neg (by simp), f30_eq (by omega), Option.bind_some]
    have hC : (f7_C1 p l).run = some l.reverse := by
      show (Lp.run (f7_L2 p) (0, IntKind.i64.wrap (((l.length : Nat) : Int) - 1), l)).bind _ = _
      rw [f7_L2_eq (by omega)]; rfl
    rw [hC, Option.bind_some, must_some (by simp), Option.bind_some, f12_eq _ hf hw, f12_eq _ hf2 hw2, f14_eq _ hf hw, f14_eq _ hf2 hw2, f26_eq _ hf hw, f26_eq _ hf2 hw2, hchk, hchk2]
    simp only [ne_eq, not_true_eq_false, if_false, Option.bind_some]
    rw [parts_rev _ hok, attrs_rev, if_neg (by simp [show IntKind.i64.wrap (0 : Int) = 0 from rfl]), f18_self (partsS_len _ hok), f19_self (attrsS_len _ hw hok), f32_asc (attrs_asc ps l _) (attrsS_len _ hw hok), f33_eq _ (attrsS_len _ hw hok)]
    simp only [Option.bind_some, Bool.not_true, Bool.false_eq_true, if_false]
    have hz : (firstT (firstS ps (partsS l p.fChannel) p.fAttr)).2.2.2 = 0 := by cases firstS ps (partsS l p.fChannel) p.fAttr <;> rfl
    have hmem : (firstT (firstS ps (partsS l p.fChannel) p.fAttr)).2.2.1 = decide (p.fAttr ∈ attrsS ps l p.fChannel) := by
      rw [first_mem]
      unfold attrsS
      rw [Bool.eq_iff_iff]
      simp only [decide_eq_true_eq, compact_mem, sortI_mem]
      exact (attrs_perm (parts_perm l p.fChannel)).mem_iff
    rw [hz, if_neg (by simp [show IntKind.i64.wrap (0 : Int) = 0 from rfl]), ← hmem]
    simp only [beq_self_eq_true, Bool.and_self, Bool.not_true, Bool.false_eq_true, if_false]
    rw [f28_self (first_wheel hfw _ _)]
    simp only [Option.bind_some, Bool.not_true, Bool.false_eq_true, if_false]
    rw [f11_eq]
    have hprop : (firstT (firstS ps (partsS l p.fChannel) p.fAttr)).2.2.1 = true → (firstT (firstS ps (partsS l p.fChannel) p.fAttr)).1.fChannel = p.fChannel ∧ (firstT (firstS ps (partsS l p.fChannel) p.fAttr)).2.1.fAttr = p.fAttr := by
      cases hfs : firstS ps (partsS l p.fChannel) p.fAttr with
      | none => intro e; cases e
      | some q =>
        obtain ⟨x, y⟩ := q
        have h1 := have_wheel hfw hfs
        exact fun _ => ⟨(parts_mem.1 h1.1).2, h1.2.1⟩
    generalize firstT (firstS ps (partsS l p.fChannel) p.fAttr) = T at hprop ⊢
    cases h1 : T.2.2.1 with
    | false => rw [if_pos (by simp)]; rfl
    | true =>
      obtain ⟨e1, e2⟩ := hprop h1
      rw [if_neg (by simp), if_pos (by simpa using e1), if_pos (by simpa using e2)]
      rfl
end Go.Proofs.Ythikbfhdebaceaa
