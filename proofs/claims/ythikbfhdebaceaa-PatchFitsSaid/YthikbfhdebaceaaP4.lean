import Derived.Test.YthikbfhdebaceaaP3
namespace Go.Proofs.Ythikbfhdebaceaa
open Go Go.Ab
set_option linter.unusedSimpArgs false
set_option linter.unusedVariables false
set_option maxRecDepth 4000

/-! ## At -/

theorem uses_rng {ps : List ApiProfile} {x : ApiFixture} {u a : Int} (hx : aloneS ps x = 0) (h : usesS ps x u a = true) : 1 ≤ a ∧ a ≤ 512 ∧ x.fAddress ≤ a ∧ a < x.fAddress + sizeS ps x ∧ x.fUniverse = u := by
  have := alone_rng hx
  unfold usesS at h
  simp only [decide_eq_true_eq] at h
  omega

theorem one_user {l : List ApiFixture} {ps : List ApiProfile} (hok : Ok l ps) (u a : Int) : l.Pairwise fun x y => ¬ (usesS ps x u a = true ∧ usesS ps y u a = true) := by
  refine hok.lap.imp_of_mem fun {x y} hx hy ho e => ?_
  have h1 := uses_rng (hok.one x hx) e.1
  have h2 := uses_rng (hok.one y hy) e.2
  unfold overS at ho
  simp only [decide_eq_false_iff_not] at ho
  omega

def atS (ps : List ApiProfile) (l : List ApiFixture) (u a : Int) : Int × Int × Bool × Int := match l.findIdx? fun x => usesS ps x u a with
  | some i => match l[i]? with
    | some x => ((i : Int), a - x.fAddress, true, 0)
    | none => (0, 0, false, 0)
  | none => (0, 0, false, 0)

theorem idx_none {α : Type} {p : α → Bool} {l : List α} (h : ∀ x ∈ l, p x = false) : l.findIdx? p = none := List.findIdx?_eq_none_iff.2 fun x hx => by simpa using h x hx

theorem f20_eq {l : List ApiFixture} (ps : List ApiProfile) (u a : Int) (hf : Fit l) : f20 l ps u a = some (if checkS l ps ≠ 0 then (0, 0, false, checkS l ps) else atS ps l u a) := by
  unfold f20
  rw [f44_eq ps hf, Option.bind_some]
  by_cases h : checkS l ps ≠ 0
  · rw [if_pos h, if_pos (by simpa using h), if_pos h]
  · rw [if_neg h, if_neg (by simp), if_neg h]
    have hok := check_ok.1 (by simpa using h : checkS l ps = 0)
    have hl := hok.nl
    by_cases h1 : a < 1
    · rw [if_pos (by simpa using h1)]
      unfold atS
      rw [idx_none fun x hx => ?_]
      cases hu : usesS ps x u a with
      | false => rfl
      | true => have := uses_rng (hok.one x hx) hu; omega
    · rw [if_neg (by simpa using h1)]
      by_cases h2 : 512 < a
      · rw [if_pos (by simpa using h2)]
        unfold atS
        rw [idx_none fun x hx => ?_]
        cases hu : usesS ps x u a with
        | false => rfl
        | true => have := uses_rng (hok.one x hx) hu; omega
      · rw [if_neg (by simpa using h2)]
        show (f54 ⟨l, mapS ps⟩ u).bind _ = _
        rw [f54_eq u hok.one (by omega), Option.bind_some]
        have hget := slots_get (u := u) hok.one (j := a.toNat) (by omega)
        have hva := slotV_first ps u a l 0 (one_user hok u a)
        have hcast : ((a.toNat : Nat) : Int) = a := by omega
        rw [hcast] at hget
        rw [arr_some slots_len (by omega) hget, Option.bind_some]
        unfold atS
        cases hi : l.findIdx? fun x => usesS ps x u a with
        | none =>
          rw [hi] at hva
          rw [show slotV ps u a 0 0 l = 0 from hva]
          rfl
        | some i =>
          rw [hi] at hva
          obtain ⟨hlt, hp, _⟩ := List.findIdx?_eq_some_iff_getElem.1 hi
          have hv : slotV ps u a 0 0 l = ((i + 1 : Nat) : Int) := by rw [hva]; simp
          have hw : IntKind.i64.wrap (slotV ps u a 0 0 l - 1) = (i : Int) := by rw [hv, w64 (by omega) (by omega)]; omega
          have hr := uses_rng (hok.one l[i] (List.getElem_mem hlt)) hp
          have hadr := (alone_rng (hok.one l[i] (List.getElem_mem hlt))).1
          rw [hw, if_neg (by simp), at_nat (List.getElem?_eq_getElem hlt)]
          simp only [Option.bind_some, List.getElem?_eq_getElem hlt]
          rw [w64 (by omega) (by omega)]

/-! ## Free -/

def usedB (ps : List ApiProfile) (l : List ApiFixture) (u a : Int) : Bool := l.any fun x => usesS ps x u a
def openS (ps : List ApiProfile) (l : List ApiFixture) (u : Int) (a n : Nat) : Bool := (List.range n).all fun i => !usedB ps l u ((a + i : Nat) : Int)
def freeS (ps : List ApiProfile) (l : List ApiFixture) (u : Int) (n : Nat) : Option Nat := (List.range (513 - n)).find? fun i => openS ps l u (i + 1) n

theorem open_iff {ps : List ApiProfile} {l : List ApiFixture} {u : Int} {a n : Nat} : openS ps l u a n = true ↔ ∀ j : Nat, a ≤ j → j < a + n → usedB ps l u j = false := by
  unfold openS
  simp only [List.all_eq_true, List.mem_range, Bool.not_eq_true']
  constructor
  · intro h j h1 h2
    have := h (j - a) (by omega)
    rwa [show a + (j - a) = j by omega] at this
  · intro h i hi
    exact h (a + i) (by omega) (by omega)

theorem open_not {ps : List ApiProfile} {l : List ApiFixture} {u : Int} {a n j : Nat} (h1 : a ≤ j) (h2 : j < a + n) (h : usedB ps l u j = true) : openS ps l u a n = false := by
  cases ho : openS ps l u a n with
  | false => rfl
  | true => rw [open_iff.1 ho j h1 h2] at h; cases h

def freeR (o : Option Nat) : Unit ⊕ Int := match o with
  | some i => .inr ((i + 1 : Nat) : Int)
  | none => .inl ()

theorem slot_pos {ps : List ApiProfile} {l : List ApiFixture} {u : Int} {j : Nat} (h : ∀ x ∈ l, aloneS ps x = 0) (hj : j < 513) : ∃ v, (slotsS ps u l)[j]? = some v ∧ (0 < v ↔ usedB ps l u j = true) :=
  ⟨_, slots_get h hj, (slotV_pos ps u j l 0 0).trans ⟨fun e => e.elim (fun h => absurd h (by omega)) id, .inr⟩⟩

theorem f22_run {l : List ApiFixture} {ps : List ApiProfile} (u : Int) {n : Nat} (h : ∀ x ∈ l, aloneS ps x = 0) (h1 : 1 ≤ n) (h2 : n ≤ 512) : Lp.run (f22_L1 (slotsS ps u l) (n : Int)) (0, 0) = some (freeR (freeS ps l u n)) := by
  obtain ⟨e, he, hq⟩ := run_ex (L := f22_L1 (slotsS ps u l) (n : Int)) (s0 := (0, 0)) (fun e => e = freeR (freeS ps l u n))
    (fun s => ∃ F V : Nat, s = ((F : Int), (V : Int)) ∧ V ≤ 513 ∧ F < n ∧ (V = 0 → F = 0) ∧ (1 ≤ V → F + 1 ≤ V) ∧ (∀ j, V ≤ j + F → j < V → usedB ps l u j = false) ∧ (1 ≤ V → F + 1 = V ∨ usedB ps l u ((V - F - 1 : Nat) : Int) = true) ∧ ∀ a, 1 ≤ a → a + n ≤ V → openS ps l u a n = false)
    (fun s => (513 - s.2).toNat) ⟨0, 0, rfl, by omega, by omega, fun _ => rfl, fun e => by omega, fun j _ hj => by omega, fun e => by omega, fun a _ ha => by omega⟩ (by
    rintro _ ⟨F, V, rfl, hV, hF, hz, hFV, hfree, hprev, hno⟩
    by_cases hlt : V < 513
    · obtain ⟨v, hv, hpos⟩ := slot_pos (u := u) h hlt
      have ha : arr? 513 (slotsS ps u l) (V : Int) = some v := arr_some slots_len (by omega) (by simpa using hv)
      have hbody : (f22_L1 (slotsS ps u l) (n : Int)).body ((F : Int), (V : Int)) = (if decide ((V : Int) < 513) = true then _ else _) := rfl
      rw [hbody, if_pos (by simp only [decide_eq_true_eq]; omega), ha]
      simp only [Option.bind_some, decide_eq_true_eq, w64_succ (show V + 1 ≤ 9223372036854775807 by omega), w64_succ (show F + 1 ≤ 9223372036854775807 by omega)]
      by_cases h0 : V = 0
      · subst h0
        have hF0 := hz rfl
        subst hF0
        rw [if_pos (show ((0 : Nat) : Int) = 0 from rfl), if_neg (show ¬ ((0 : Nat) : Int) = (n : Int) by omega)]
        refine .inl ⟨_, rfl, ⟨0, 1, rfl, by omega, by omega, fun _ => rfl, fun _ => by omega, fun j _ hj => by omega, fun _ => .inl rfl, fun a _ _ => by omega⟩, by simp⟩
      · rw [if_neg (show ¬ (V : Int) = 0 by omega)]
        by_cases hu : 0 < v
        · rw [if_pos hu, if_neg (show ¬ (0 : Int) = (n : Int) by omega)]
          refine .inl ⟨_, rfl, ⟨0, V + 1, rfl, by omega, by omega, fun _ => rfl, fun _ => by omega, fun j _ hj => by omega, fun _ => .inr ?_, fun a ha1 ha2 => ?_⟩, by simp; omega⟩
          · have := hpos.1 hu
            simpa using this
          · by_cases hle : a + n ≤ V
            · exact hno a ha1 hle
            · exact open_not (j := V) (by omega) (by omega) (hpos.1 hu)
        · rw [if_neg hu]
          have hun : usedB ps l u V = false := by
            cases hb : usedB ps l u V with
            | false => rfl
            | true => exact absurd (hpos.2 hb) hu
          have hfree' : ∀ j, V ≤ j + F → j < V + 1 → usedB ps l u j = false := fun j hj1 hj2 => by
            by_cases e : j = V
            · subst e; exact hun
            · exact hfree j hj1 (by omega)
          have hFV' := hFV (by omega)
          by_cases hn : F + 1 = n
          · rw [if_pos (show ((F + 1 : Nat) : Int) = (n : Int) by omega)]
            refine .inr ⟨_, rfl, ?_⟩
            have hi : freeS ps l u n = some (V - n) := by
              unfold freeS
              rw [List.find?_range_eq_some]
              refine ⟨open_iff.2 fun j hj1 hj2 => hfree' j (by omega) (by omega), by rw [List.mem_range]; omega, fun j hj => ?_⟩
              rw [hno (j + 1) (by omega) (by omega)]; rfl
            rw [hi, w64 (a := (V : Int) - (n : Int)) (by omega) (by omega), w64 (by omega) (by omega)]
            show Sum.inr _ = Sum.inr _
            congr 1
            omega
          · rw [if_neg (show ¬ ((F + 1 : Nat) : Int) = (n : Int) by omega)]
            refine .inl ⟨_, rfl, ⟨F + 1, V + 1, rfl, by omega, by omega, fun e => by omega, fun _ => by omega, fun j hj1 hj2 => hfree' j (by omega) hj2, fun _ => ?_, fun a ha1 ha2 => ?_⟩, by simp; omega⟩
            · rcases hprev (by omega) with e | e
              · exact .inl (by omega)
              · refine .inr ?_
                rwa [show V + 1 - (F + 1) - 1 = V - F - 1 by omega]
            · by_cases hle : a + n ≤ V
              · exact hno a ha1 hle
              · rcases hprev (by omega) with e | e
                · omega
                · exact open_not (j := V - F - 1) (by omega) (by omega) e
    · have hV2 : V = 513 := by omega
      subst hV2
      refine .inr ⟨.inl (), rfl, ?_⟩
      have hi : freeS ps l u n = none := by
        unfold freeS
        rw [List.find?_eq_none]
        intro i hi
        rw [List.mem_range] at hi
        rw [hno (i + 1) (by omega) (by omega)]
        simp
      rw [hi]; rfl)
  rw [he, hq]

def freeT (ps : List ApiProfile) (l : List ApiFixture) (u n : Int) : Int × Int := if checkS l ps ≠ 0 then (0, checkS l ps) else if ¬ ((1 ≤ u ∧ u ≤ 8) ∧ 1 ≤ n ∧ n ≤ 512) then (0, 2) else match freeS ps l u n.toNat with
  | some i => (((i + 1 : Nat) : Int), 0)
  | none => (0, 12)

theorem f22_eq {l : List ApiFixture} (ps : List ApiProfile) (u n : Int) (hf : Fit l) : f22 l ps u n = some (freeT ps l u n) := by
  unfold f22 freeT
  rw [f44_eq ps hf, Option.bind_some]
  by_cases h : checkS l ps ≠ 0
  · rw [if_pos h, if_pos (by simpa using h), if_pos h]
  · rw [if_neg h, if_neg (by simp), if_neg h]
    have hok := check_ok.1 (by simpa using h : checkS l ps = 0)
    have hl := hok.nl
    simp only [decide_eq_true_eq]
    by_cases h1 : u < 1
    · rw [if_pos h1, if_pos (by omega)]
    · rw [if_neg h1]
      by_cases h2 : 8 < u
      · rw [if_pos h2, if_pos (by omega)]
      · rw [if_neg h2]
        by_cases h3 : n < 1
        · rw [if_pos h3, if_pos (by omega)]
        · rw [if_neg h3]
          by_cases h4 : 512 < n
          · rw [if_pos h4, if_pos (by omega)]
          · rw [if_neg h4, if_neg (by omega)]
            show (f54 ⟨l, mapS ps⟩ u).bind _ = _
            have hr := f22_run (l := l) (ps := ps) u (n := n.toNat) hok.one (by omega) (by omega)
            rw [show ((n.toNat : Nat) : Int) = n by omega] at hr
            rw [f54_eq u hok.one (by omega), Option.bind_some, hr]
            cases freeS ps l u n.toNat <;> rfl

/-! ## Used -/

def usedS (ps : List ApiProfile) (l : List ApiFixture) (u : Int) : Nat := ((List.range 513).filter fun a : Nat => usedB ps l u (a : Int)).length

theorem walk_count {α : Type} (p : α → Bool) : ∀ (xs : List α) (k c : Nat), walkL (E := Int) (fun _ (c : Nat) x => .inl (if p x = true then c + 1 else c)) (fun c => (c : Int)) k c xs = ((c + (xs.filter p).length : Nat) : Int)
  | [], k, c => by simp [walkL]
  | x :: xs, k, c => by
    show walkL _ _ (k + 1) (if p x = true then c + 1 else c) xs = _
    rw [walk_count p xs (k + 1), List.filter_cons]
    split <;> simp <;> omega

theorem range_get {n k x : Nat} (h : (List.range n)[k]? = some x) : x = k ∧ k < n := by
  obtain ⟨h1, h2⟩ := List.getElem?_eq_some_iff.1 h
  simp at h1 h2
  exact ⟨h2.symm, h1⟩

theorem f24_eq {l : List ApiFixture} (ps : List ApiProfile) (u : Int) (hf : Fit l) : f24 l ps u = some (if checkS l ps ≠ 0 then (0, checkS l ps) else ((usedS ps l u : Int), 0)) := by
  unfold f24
  rw [f44_eq ps hf, Option.bind_some]
  by_cases h : checkS l ps ≠ 0
  · rw [if_pos h, if_pos (by simpa using h), if_pos h]
  · rw [if_neg h, if_neg (by simp), if_neg h]
    have hok := check_ok.1 (by simpa using h : checkS l ps = 0)
    have hl := hok.nl
    show (f54 ⟨l, mapS ps⟩ u).bind _ = _
    rw [f54_eq u hok.one (by omega), Option.bind_some]
    have hrun := run_walk (L := f24_L1 (slotsS ps u l)) (List.range 513) (fun k (c : Nat) => ((c : Int), (k : Int))) (fun _ c (x : Nat) => .inl (if usedB ps l u (x : Int) = true then c + 1 else c)) (fun c => (c : Int)) (fun k c => c ≤ k) (fun k c x hx hI => by
      obtain ⟨hxk, hk⟩ := range_get hx
      subst hxk
      refine ⟨?_, fun a' ha' => by injection ha' with ha'; subst ha'; split <;> omega⟩
      obtain ⟨v, hv, hpos⟩ := slot_pos (u := u) hok.one hk
      have ha : arr? 513 (slotsS ps u l) (x : Int) = some v := arr_some slots_len (by omega) (by simpa using hv)
      refine (if_pos (by simp only [decide_eq_true_eq]; omega)).trans ?_
      rw [ha]
      simp only [Option.bind_some, decide_eq_true_eq, w64_succ (show x + 1 ≤ 9223372036854775807 by omega), w64_succ (show c + 1 ≤ 9223372036854775807 by omega)]
      by_cases hu : 0 < v
      · rw [if_pos hu, if_pos (hpos.1 hu)]; rfl
      · rw [if_neg hu, if_neg (fun e => hu (hpos.2 e))]; rfl) (fun c _ => by rw [List.length_range]; rfl) 0 (Nat.le_refl _)
    have hrun' : Lp.run (f24_L1 (slotsS ps u l)) (0, 0) = _ := hrun
    rw [hrun', walk_count, Option.bind_some, Nat.zero_add]
    rfl

/-! ## First -/

def havS (ps : List ApiProfile) (x : ApiFixture) (a : Int) : Option ApiFeature := (featS ps x).find? fun y => decide (y.fAttr = a)
def firstS (ps : List ApiProfile) (xs : List ApiFixture) (a : Int) : Option (ApiFixture × ApiFeature) := xs.findSome? fun x => (havS ps x a).map fun y => (x, y)
def firstT (o : Option (ApiFixture × ApiFeature)) : ApiFixture × ApiFeature × Bool × Int := match o with
  | some (x, y) => (x, y, true, 0)
  | none => (⟨0, 0, [], 0, 0, 0, []⟩, ⟨0, 0, 0, 0, 0, 0, 0, 0, false, []⟩, false, 0)

theorem f26_eq {l : List ApiFixture} {ps : List ApiProfile} (p : ApiParam) (hf : Fit l) (hw : Few l ps) : f26 l ps p = some (if checkS l ps ≠ 0 then (⟨0, 0, [], 0, 0, 0, []⟩, ⟨0, 0, 0, 0, 0, 0, 0, 0, false, []⟩, false, checkS l ps) else firstT (firstS ps (partsS l p.fChannel) p.fAttr)) := by
  unfold f26
  rw [f44_eq ps hf, Option.bind_some]
  by_cases h : checkS l ps ≠ 0
  · rw [if_pos h, if_pos (by simpa using h), if_pos h]
  · rw [if_neg h, if_neg (by simp), if_neg h]
    have hok := check_ok.1 (by simpa using h : checkS l ps = 0)
    have h1 := hok.nl
    have h2 := hw.nl
    have hp : (partsS l p.fChannel).length ≤ 12 := by rw [(parts_perm l p.fChannel).length_eq]; exact Nat.le_trans (List.length_filter_le ..) (by omega)
    show (f45 ⟨l, mapS ps⟩ p.fChannel).bind _ = _
    rw [f45_eq _ _ hok (by omega), Option.bind_some]
    generalize partsS l p.fChannel = xs at hp
    have hrun := run_walk (L := f26_L1 xs ((⟨l, mapS ps⟩, 0) : PatchRig × Int) p) xs (fun k (_ : Unit) => (k : Int)) (fun _ _ x => match havS ps x p.fAttr with
        | some y => .inr (.inr (x.fChannel, x.fPart, x.fProfile, x.fUniverse, x.fAddress, x.fPhase, x.fCable, y.fAttr, y.fBits, y.fCoarse, y.fFine, y.fCurve, y.fHome, y.fLow, y.fHigh, y.fSnap, y.fWheel))
        | none => .inl ()) (fun _ => .inl ()) (fun _ _ => True) (fun k _ x hx _ => by
      refine ⟨?_, fun _ _ => trivial⟩
      have hlt := getElem?_lt hx
      refine (if_pos (by simp only [decide_eq_true_eq]; omega)).trans ?_
      rw [at_nat hx, Option.bind_some]
      show look? (mapS ps) x.fProfile _ _ = _
      rw [look_get]
      have h16 := feat_len hw hok x
      have hin : Lp.run (f26_L2 ((profS ps x.fProfile).getD ⟨[], 0, 0, []⟩) p x (k : Int) xs ((⟨l, mapS ps⟩, 0) : PatchRig × Int)) 0 = some (match (featS ps x).find? (fun y => decide (y.fAttr = p.fAttr)) with
          | none => .inl ()
          | some y => .inr (y.fAttr, y.fBits, y.fCoarse, y.fFine, y.fCurve, y.fHome, y.fLow, y.fHigh, y.fSnap, y.fWheel)) := by
        refine (run_findv (xs := featS ps x) (fun y => decide (y.fAttr = p.fAttr)) (fun y => (y.fAttr, y.fBits, y.fCoarse, y.fFine, y.fCurve, y.fHome, y.fLow, y.fHigh, y.fSnap, y.fWheel)) (by omega) (fun j y q => ?_) ?_).trans ?_
        · show (if decide ((j : Int) < ((((profS ps x.fProfile).getD ⟨[], 0, 0, []⟩).fFeatures.length : Nat) : Int)) = true then _ else _) = _
          rw [feat_getD ps x _ rfl, if_pos q.lt, q.at', Option.bind_some]
          simp only [q.nxt]
          split <;> rfl
        · show (if decide ((((featS ps x).length : Nat) : Int) < ((((profS ps x.fProfile).getD ⟨[], 0, 0, []⟩).fFeatures.length : Nat) : Int)) = true then _ else _) = _
          rw [feat_getD ps x _ rfl, if_neg (by simp)]
        · cases (featS ps x).find? (fun y => decide (y.fAttr = p.fAttr)) <;> rfl
      rw [hin, Option.bind_some]
      unfold havS
      cases (featS ps x).find? (fun y => decide (y.fAttr = p.fAttr)) with
      | none => simp only [w64_succ (show k + 1 ≤ 9223372036854775807 by omega)]; rfl
      | some y => rfl) (fun _ _ => if_neg (by simp)) () trivial
    have hrun' : Lp.run (f26_L1 xs ((⟨l, mapS ps⟩, 0) : PatchRig × Int) p) 0 = _ := hrun
    rw [hrun', Option.bind_some]
    have hw2 : ∀ (xs : List ApiFixture) (k : Nat), (match walkL (fun _ (_ : Unit) (x : ApiFixture) => match havS ps x p.fAttr with
        | some y => .inr (.inr (x.fChannel, x.fPart, x.fProfile, x.fUniverse, x.fAddress, x.fPhase, x.fCable, y.fAttr, y.fBits, y.fCoarse, y.fFine, y.fCurve, y.fHome, y.fLow, y.fHigh, y.fSnap, y.fWheel))
        | none => .inl ()) (fun _ => (.inl () : Unit ⊕ (Int × Int × (List UInt8) × Int × Int × Int × (List UInt8) × Int × Int × Int × Int × Int × Int × Int × Int × Bool × (List ApiSlot)))) k () xs with
        | .inl _ => some (⟨0, 0, [], 0, 0, 0, []⟩, ⟨0, 0, 0, 0, 0, 0, 0, 0, false, []⟩, false, 0)
        | .inr (v1, v2, v3, v4, v5, v6, v7, v8, v9, v10, v11, v12, v13, v14, v15, v16, v17) => some (⟨v1, v2, v3, v4, v5, v6, v7⟩, ⟨v8, v9, v10, v11, v12, v13, v14, v15, v16, v17⟩, true, 0)) = some (firstT (firstS ps xs p.fAttr)) := fun xs => by
      induction xs with
      | nil => intro k; rfl
      | cons x xs ih =>
        intro k
        unfold walkL firstS
        rw [List.findSome?_cons]
        cases havS ps x p.fAttr with
        | none => exact ih (k + 1)
        | some y => rfl
    exact hw2 xs 0
end Go.Proofs.Ythikbfhdebaceaa
