import Derived.Test.YthikbfhdebaceaaP5
import Derived.Test.YthikbfhdebaceaaY51
namespace Go.Proofs.Ythikbfhdebaceaa
open Go Go.Ab
set_option linter.unusedSimpArgs false
set_option linter.unusedVariables false
set_option maxRecDepth 4000
theorem strict_ext {τ : Type} {key : τ → Int} : ∀ {xs ys : List τ}, xs.Pairwise (fun a b => key a < key b) → ys.Pairwise (fun a b => key a < key b) → (∀ z, z ∈ xs ↔ z ∈ ys) → xs = ys
  | [], [], _, _, _ => rfl
  | [], y :: ys, _, _, h => by have := (h y).2 (List.mem_cons_self ..); cases this
  | x :: xs, [], _, _, h => by have := (h x).1 (List.mem_cons_self ..); cases this
  | x :: xs, y :: ys, h1, h2, h => by
    have h1' := List.pairwise_cons.1 h1
    have h2' := List.pairwise_cons.1 h2
    have hxy : x = y := by
      rcases List.mem_cons.1 ((h x).1 (List.mem_cons_self ..)) with e | e
      · exact e
      · rcases List.mem_cons.1 ((h y).2 (List.mem_cons_self ..)) with e2 | e2
        · exact e2.symm
        · have := h2'.1 x e
          have := h1'.1 y e2
          omega
    subst hxy
    rw [strict_ext h1'.2 h2'.2 fun z => ?_]
    have hz := h z
    rw [List.mem_cons, List.mem_cons] at hz
    constructor
    · intro hm
      rcases hz.1 (.inr hm) with e | e
      · have := h1'.1 z hm; rw [e] at this; omega
      · exact e
    · intro hm
      rcases hz.2 (.inr hm) with e | e
      · have := h2'.1 z hm; rw [e] at this; omega
      · exact e

/-! ## The reference's parts -/

def oneP (c n : Int) (x : ApiFixture) : List ApiFixture := if x.fChannel = c ∧ x.fPart = n then [x] else []
def partN (l : List ApiFixture) (c : Int) (n : Nat) : List ApiFixture := l.flatMap (oneP c ((n + 1 : Nat) : Int))
def partsR (l : List ApiFixture) (c : Int) (m : Nat) : List ApiFixture := (List.range m).flatMap (partN l c)

theorem oneP_len (c n : Int) (x : ApiFixture) : (oneP c n x).length ≤ 1 := by unfold oneP; split <;> simp
theorem oneP_mem {c n : Int} {x y : ApiFixture} : y ∈ oneP c n x ↔ y = x ∧ x.fChannel = c ∧ x.fPart = n := by
  unfold oneP
  split
  · rename_i h; simp [h]
  · rename_i h; simp only [List.not_mem_nil, false_iff]; exact fun e => h e.2

theorem partN_mem {l : List ApiFixture} {c : Int} {n : Nat} {y : ApiFixture} : y ∈ partN l c n ↔ y ∈ l ∧ y.fChannel = c ∧ y.fPart = ((n + 1 : Nat) : Int) := by
  unfold partN
  rw [List.mem_flatMap]
  constructor
  · rintro ⟨x, hx, hy⟩
    obtain ⟨rfl, h1, h2⟩ := oneP_mem.1 hy
    exact ⟨hx, h1, h2⟩
  · rintro ⟨h1, h2, h3⟩
    exact ⟨y, h1, oneP_mem.2 ⟨rfl, h2, h3⟩⟩

theorem partN_len (l : List ApiFixture) (c : Int) (n : Nat) : (partN l c n).length ≤ l.length := by
  unfold partN
  induction l with
  | nil => simp
  | cons x xs ih =>
    have := oneP_len c ((n + 1 : Nat) : Int) x
    rw [List.flatMap_cons, List.length_append, List.length_cons]
    omega

theorem partsR_succ (l : List ApiFixture) (c : Int) (m : Nat) : partsR l c (m + 1) = partsR l c m ++ partN l c m := by
  unfold partsR
  rw [List.range_succ, List.flatMap_append]
  simp

theorem partsR_len (l : List ApiFixture) (c : Int) : ∀ m, (partsR l c m).length ≤ m * l.length
  | 0 => by simp [partsR]
  | m + 1 => by
    rw [partsR_succ, List.length_append, Nat.succ_mul]
    have := partsR_len l c m
    have := partN_len l c m
    omega

theorem f46_run {l : List ApiFixture} (c : Int) (hl : l.length ≤ 1000) : f46 l c = some (partsR l c 64) := by
  unfold f46
  have hrun := run_count (L := f46_L1 l c) (e := partsR l c 64) (fun m => (((m + 1 : Nat) : Int), partsR l c m)) 64 rfl 0 (Nat.zero_le _) (fun m _ hm => by
    refine (if_pos (by simp only [decide_eq_true_eq]; omega)).trans ?_
    have hb := partsR_len l c m
    have hb2 : m * l.length ≤ 64 * 1000 := Nat.mul_le_mul (by omega) hl
    have hin : Lp.run (f46_L2 l c ((m + 1 : Nat) : Int)) (0, partsR l c m) = some (partsR l c m ++ l.flatMap (oneP c ((m + 1 : Nat) : Int))) := by
      refine run_more (xs := l) (oneP c ((m + 1 : Nat) : Int)) (64 * 1000) (fun k acc x r hb3 => ?_) (by omega) (fun x _ => by have := oneP_len c ((m + 1 : Nat) : Int) x; omega) (fun acc => if_neg (by simp)) (by omega)
      have hk := r.klt
      refine (if_pos r.lt).trans ?_
      rw [r.at']
      simp only [Option.bind_some, r.nxt, decide_eq_true_eq]
      unfold oneP
      by_cases h1 : x.fChannel = c
      · rw [if_pos h1]
        by_cases h2 : x.fPart = ((m + 1 : Nat) : Int)
        · rw [if_pos h2, if_pos ⟨h1, h2⟩, app_some (by simp only [List.length_cons, List.length_nil]; omega) (by simp only [List.length_cons, List.length_nil]; omega)]
          rfl
        · rw [if_neg h2, if_neg (fun e => h2 e.2), List.append_nil]
      · rw [if_neg h1, if_neg (fun e => h1 e.1), List.append_nil]
    rw [hin, Option.bind_some, partsR_succ, w64_succ (by omega)]
    rfl)
  rw [show ((1 : Int), ([] : List ApiFixture)) = (((0 + 1 : Nat) : Int), partsR l c 0) from rfl, hrun, Option.bind_some]

theorem parts_eq {l : List ApiFixture} {ps : List ApiProfile} (c : Int) (hok : Ok l ps) : partsR l c 64 = partsS l c := by
  refine strict_ext (key := fun x => x.fPart) ?_ (parts_asc c hok) fun z => ?_
  · unfold partsR
    rw [List.pairwise_flatMap]
    refine ⟨fun n _ => ?_, List.pairwise_lt_range.imp fun {a b} hab x hx y hy => ?_⟩
    · unfold partN
      rw [List.pairwise_flatMap]
      refine ⟨fun x _ => by unfold oneP; split <;> simp, hok.two.imp fun {x y} hd a ha b hb => ?_⟩
      obtain ⟨rfl, h1, h2⟩ := oneP_mem.1 ha
      obtain ⟨rfl, h3, h4⟩ := oneP_mem.1 hb
      unfold dupS at hd
      simp only [decide_eq_false_iff_not] at hd
      exact absurd ⟨by rw [h1, h3], by rw [h2, h4]⟩ hd
    · have h1 := (partN_mem.1 hx).2.2
      have h2 := (partN_mem.1 hy).2.2
      omega
  · rw [parts_mem]
    unfold partsR
    rw [List.mem_flatMap]
    constructor
    · rintro ⟨n, _, hz⟩
      have := partN_mem.1 hz
      exact ⟨this.1, this.2.1⟩
    · rintro ⟨h1, h2⟩
      have hr := alone_rng (hok.one z h1)
      exact ⟨(z.fPart - 1).toNat, by rw [List.mem_range]; omega, partN_mem.2 ⟨h1, h2, by omega⟩⟩

theorem f46_eq {l : List ApiFixture} {ps : List ApiProfile} (c : Int) (hok : Ok l ps) : f46 l c = some (partsS l c) := by
  rw [f46_run c (by have := hok.nl; omega), parts_eq c hok]
/-! ## The reference's First -/

def first3 (o : Option (ApiFixture × ApiFeature)) : ApiFixture × ApiFeature × Bool := match o with
  | some (x, y) => (x, y, true)
  | none => (⟨0, 0, [], 0, 0, 0, []⟩, ⟨0, 0, 0, 0, 0, 0, 0, 0, false, []⟩, false)

theorem f57_eq {l : List ApiFixture} {ps : List ApiProfile} (p : ApiParam) (hw : Few l ps) (hok : Ok l ps) : f57 l ps p = some (first3 (firstS ps (partsS l p.fChannel) p.fAttr)) := by
  unfold f57
  rw [f46_eq _ hok, Option.bind_some]
  have h1 := hok.nl
  have hnp := hok.np
  have hp : (partsS l p.fChannel).length ≤ 64 := by rw [(parts_perm l p.fChannel).length_eq]; exact Nat.le_trans (List.length_filter_le ..) (by omega)
  have hat : ∀ x ∈ partsS l p.fChannel, ∃ q, f34 ps x.fProfile = some (fstI (fun p => decide (p.fName = x.fProfile)) ps) ∧ at? ps (fstI (fun p => decide (p.fName = x.fProfile)) ps) = some q ∧ q.fFeatures = featS ps x := fun x hx => by
    obtain ⟨p, hp⟩ := alone_prof (hok.one x (parts_mem.1 hx).1)
    refine ⟨p, f34_eq (by omega) _, ?_, by unfold featS; rw [hp]⟩
    rcases fstI_find (fun p : ApiProfile => decide (p.fName = x.fProfile)) ps with ⟨h1, _⟩ | ⟨i, q, h1, _, _, h4⟩
    · unfold profS at hp; rw [h1] at hp; cases hp
    · unfold profS at hp; rw [h1] at hp; injection hp with hp; subst hp; exact h4
  generalize partsS l p.fChannel = xs at hp hat
  have hrun := run_walk (L := f57_L1 xs ps p) xs (fun k (_ : Unit) => (k : Int)) (fun _ _ x => match havS ps x p.fAttr with
      | some y => .inr (.inr (x.fChannel, x.fPart, x.fProfile, x.fUniverse, x.fAddress, x.fPhase, x.fCable, y.fAttr, y.fBits, y.fCoarse, y.fFine, y.fCurve, y.fHome, y.fLow, y.fHigh, y.fSnap, y.fWheel))
      | none => .inl ()) (fun _ => .inl ()) (fun _ _ => True) (fun k _ x hx _ => by
    refine ⟨?_, fun _ _ => trivial⟩
    have hlt := getElem?_lt hx
    obtain ⟨q, hq1, hq2, hq3⟩ := hat x (getElem?_mem hx)
    refine (if_pos (by simp only [decide_eq_true_eq]; omega)).trans ?_
    rw [at_nat hx, Option.bind_some, hq1, Option.bind_some, hq2, Option.bind_some]
    have h16 := feat_len hw hok x
    have hin : Lp.run (f57_L2 q p xs (k : Int) ps) 0 = some (match (featS ps x).find? (fun y => decide (y.fAttr = p.fAttr)) with
        | none => .inl ()
        | some y => .inr (x.fChannel, x.fPart, x.fProfile, x.fUniverse, x.fAddress, x.fPhase, x.fCable, y.fAttr, y.fBits, y.fCoarse, y.fFine, y.fCurve, y.fHome, y.fLow, y.fHigh, y.fSnap, y.fWheel)) := by
      refine (run_findv (xs := featS ps x) (fun y => decide (y.fAttr = p.fAttr)) (fun y => (x.fChannel, x.fPart, x.fProfile, x.fUniverse, x.fAddress, x.fPhase, x.fCable, y.fAttr, y.fBits, y.fCoarse, y.fFine, y.fCurve, y.fHome, y.fLow, y.fHigh, y.fSnap, y.fWheel)) (by omega) (fun j y r => ?_) ?_).trans ?_
      · show (if decide ((j : Int) < ((q.fFeatures.length : Nat) : Int)) = true then _ else _) = _
        rw [hq3, if_pos r.lt, r.at', Option.bind_some, at_nat hx]
        simp only [r.nxt, Option.bind_some]
        split <;> rfl
      · show (if decide ((((featS ps x).length : Nat) : Int) < ((q.fFeatures.length : Nat) : Int)) = true then _ else _) = _
        rw [hq3, if_neg (by simp)]
      · cases (featS ps x).find? (fun y => decide (y.fAttr = p.fAttr)) <;> rfl
    rw [hin, Option.bind_some]
    unfold havS
    cases (featS ps x).find? (fun y => decide (y.fAttr = p.fAttr)) with
    | none => simp only [w64_succ (show k + 1 ≤ 9223372036854775807 by omega)]; rfl
    | some y => rfl) (fun _ _ => if_neg (by simp)) () trivial
  have hrun' : Lp.run (f57_L1 xs ps p) 0 = _ := hrun
  rw [hrun', Option.bind_some]
  have hw2 : ∀ (xs : List ApiFixture) (k : Nat), (match walkL (fun _ (_ : Unit) (x : ApiFixture) => match havS ps x p.fAttr with
      | some y => .inr (.inr (x.fChannel, x.fPart, x.fProfile, x.fUniverse, x.fAddress, x.fPhase, x.fCable, y.fAttr, y.fBits, y.fCoarse, y.fFine, y.fCurve, y.fHome, y.fLow, y.fHigh, y.fSnap, y.fWheel))
      | none => .inl ()) (fun _ => (.inl () : Unit ⊕ (Int × Int × (List UInt8) × Int × Int × Int × (List UInt8) × Int × Int × Int × Int × Int × Int × Int × Int × Bool × (List ApiSlot)))) k () xs with
      | .inl _ => some (⟨0, 0, [], 0, 0, 0, []⟩, ⟨0, 0, 0, 0, 0, 0, 0, 0, false, []⟩, false)
      | .inr (v1, v2, v3, v4, v5, v6, v7, v8, v9, v10, v11, v12, v13, v14, v15, v16, v17) => some (⟨v1, v2, v3, v4, v5, v6, v7⟩, ⟨v8, v9, v10, v11, v12, v13, v14, v15, v16, v17⟩, true)) = some (first3 (firstS ps xs p.fAttr)) := fun xs => by
    induction xs with
    | nil => intro k; rfl
    | cons x xs ih =>
      intro k
      unfold walkL firstS
      rw [List.findSome?_cons]
      cases havS ps x p.fAttr with
      | none => exact ih (k + 1)
      | some y => rfl
  exact hw2 xs 0

theorem f27_eq {l : List ApiFixture} {ps : List ApiProfile} (p : ApiParam) (hf : Fit l) (hw : Few l ps) : f27 l ps p = some (if checkS l ps ≠ 0 then (⟨0, 0, [], 0, 0, 0, []⟩, ⟨0, 0, 0, 0, 0, 0, 0, 0, false, []⟩, false, checkS l ps) else firstT (firstS ps (partsS l p.fChannel) p.fAttr)) := by
  unfold f27
  rw [f17_eq ps hf, Option.bind_some]
  by_cases h : checkS l ps ≠ 0
  · rw [if_pos (by simpa using h), if_pos h]
  · rw [if_neg (by simpa using h), if_neg h, f57_eq p hw (check_ok.1 (by simpa using h)), Option.bind_some]
    cases firstS ps (partsS l p.fChannel) p.fAttr <;> rfl
/-- Wheels that fit. -/
def FitW (ps : List ApiProfile) : Prop := ∀ p ∈ ps, ∀ y ∈ p.fFeatures, y.fWheel.length ≤ 9223372036854775807

theorem f58_self {xs : List ApiSlot} (hl : xs.length ≤ 9223372036854775807) : f58 xs xs = some true := by
  unfold f58
  rw [if_neg (by simp)]
  have hrun : Lp.run (f58_L1 xs xs) 0 = some (.inl ()) := by
    refine run_all (xs := xs) (fun k x hx => ?_) (if_neg (by simp))
    have r := Rnd.mk' hx hl
    refine (if_pos r.lt).trans ?_
    rw [r.at']
    simp only [Option.bind_some, r.nxt, beq_self_eq_true, Bool.and_self, Bool.not_true, Bool.false_eq_true, if_false]
  rw [hrun, Option.bind_some]

theorem f28_self {y : ApiFeature} (hl : y.fWheel.length ≤ 9223372036854775807) : f28 y y = some true := by
  unfold f28
  rw [f58_self hl]
  simp

theorem have_wheel {ps : List ApiProfile} (hfw : FitW ps) {xs : List ApiFixture} {a : Int} {x : ApiFixture} {y : ApiFeature} (h : firstS ps xs a = some (x, y)) : x ∈ xs ∧ y.fAttr = a ∧ y.fWheel.length ≤ 9223372036854775807 := by
  unfold firstS at h
  obtain ⟨x', hx', h⟩ := List.exists_of_findSome?_eq_some h
  obtain ⟨y', hy', h⟩ := Option.map_eq_some_iff.1 h
  injection h with e1 e2
  subst e1; subst e2
  unfold havS at hy'
  refine ⟨hx', by simpa using List.find?_some hy', ?_⟩
  have hm := List.mem_of_find?_eq_some hy'
  unfold featS at hm
  cases hp : profS ps x'.fProfile with
  | none => rw [hp] at hm; simp at hm
  | some p => rw [hp] at hm; exact hfw p (List.mem_of_find?_eq_some hp) y' hm

theorem first_wheel {ps : List ApiProfile} (hfw : FitW ps) (xs : List ApiFixture) (a : Int) : (firstT (firstS ps xs a)).2.1.fWheel.length ≤ 9223372036854775807 := by
  cases h : firstS ps xs a with
  | none => simp [firstT]
  | some p => obtain ⟨x, y⟩ := p; exact (have_wheel hfw h).2.2
theorem f5_eq (l : List ApiFixture) (ps : List ApiProfile) (p : ApiParam) (hf : Fit l) (hfw : FitW ps) : f5 l ps p = some true := by
  obtain ⟨b, hb, hF⟩ := f10_ex l ps
  unfold f5
  rw [hb, Option.bind_some]
  cases b with
  | false => rw [if_pos (by simp), f11_eq]; rfl
  | true =>
    rw [if_neg (by simp), f26_eq p hf (hF rfl), f27_eq p hf (hF rfl), f11_eq]
    simp only [Option.bind_some, beq_self_eq_true, Bool.and_self, if_true]
    have hs : f28 (if checkS l ps ≠ 0 then ((⟨0, 0, [], 0, 0, 0, []⟩, ⟨0, 0, 0, 0, 0, 0, 0, 0, false, []⟩, false, checkS l ps) : ApiFixture × ApiFeature × Bool × Int) else firstT (firstS ps (partsS l p.fChannel) p.fAttr)).2.1
        (if checkS l ps ≠ 0 then ((⟨0, 0, [], 0, 0, 0, []⟩, ⟨0, 0, 0, 0, 0, 0, 0, 0, false, []⟩, false, checkS l ps) : ApiFixture × ApiFeature × Bool × Int) else firstT (firstS ps (partsS l p.fChannel) p.fAttr)).2.1 = some true := by
      refine f28_self ?_
      split
      · simp
      · exact first_wheel hfw _ _
    rw [hs]
    simp
end Go.Proofs.Ythikbfhdebaceaa
