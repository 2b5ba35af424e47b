import Derived.Test.YthikbfhdebaceaaP5
import Derived.Test.YthikbfhdebaceaaY61
namespace Go.Proofs.Ythikbfhdebaceaa
open Go Go.Ab
set_option linter.unusedSimpArgs false
set_option linter.unusedVariables false
set_option maxRecDepth 4000
theorem f29_ex (l : List ApiFixture) (ps : List ApiProfile) (hf : Fit l) : ∃ b, f29 l ps = some b ∧ (b = true → Few l ps ∧ Ok l ps) := by
  obtain ⟨b, hb, hF⟩ := f10_ex l ps
  unfold f29
  rw [hb, Option.bind_some]
  cases b with
  | false => exact ⟨false, rfl, fun e => by cases e⟩
  | true =>
    rw [if_pos rfl, f17_eq ps hf, Option.bind_some]
    exact ⟨_, rfl, fun e => ⟨hF rfl, check_ok.1 (by simpa using e)⟩⟩

/-! ## The slots that are used -/

theorem count_run (n lo s : Nat) (h : lo + s ≤ n) : ((List.range n).filter fun a => decide (lo ≤ a ∧ a < lo + s)).length = s := by
  induction s with
  | zero =>
    rw [List.length_eq_zero_iff, List.filter_eq_nil_iff]
    intro a _
    simp only [decide_eq_true_eq]
    omega
  | succ s ih =>
    have hsplit : ∀ (xs : List Nat), xs.Nodup → (xs.filter fun a => decide (lo ≤ a ∧ a < lo + (s + 1))).length = (xs.filter fun a => decide (lo ≤ a ∧ a < lo + s)).length + (if lo + s ∈ xs then 1 else 0) := fun xs => by
      induction xs with
      | nil => intro _; rfl
      | cons x xs ihx =>
        intro hnd
        rw [List.nodup_cons] at hnd
        have ih' := ihx hnd.2
        by_cases e : x = lo + s
        · subst e
          rw [List.filter_cons_of_pos (by simp), List.filter_cons_of_neg (by simp), if_pos (List.mem_cons_self ..), List.length_cons, ih', if_neg hnd.1]
        · have hm : (lo + s ∈ x :: xs) ↔ lo + s ∈ xs := by rw [List.mem_cons]; exact ⟨fun h => h.elim (fun h => absurd h.symm e) id, .inr⟩
          by_cases hx : lo ≤ x ∧ x < lo + s
          · rw [List.filter_cons_of_pos (by simp only [decide_eq_true_eq]; omega), List.filter_cons_of_pos (by simp only [decide_eq_true_eq]; omega), List.length_cons, List.length_cons, ih']
            simp only [hm]; omega
          · rw [List.filter_cons_of_neg (by simp only [decide_eq_true_eq]; omega), List.filter_cons_of_neg (by simp only [decide_eq_true_eq]; omega), ih']
            simp only [hm]
    rw [hsplit _ List.nodup_range, ih (by omega), if_pos (by rw [List.mem_range]; omega)]

theorem filter_or {α : Type} (p q : α → Bool) : ∀ (xs : List α), (∀ x ∈ xs, ¬ (p x = true ∧ q x = true)) → (xs.filter fun x => p x || q x).length = (xs.filter p).length + (xs.filter q).length
  | [], _ => rfl
  | x :: xs, h => by
    have ih := filter_or p q xs fun y hy => h y (List.mem_cons_of_mem _ hy)
    have hx := h x (List.mem_cons_self ..)
    rw [List.filter_cons, List.filter_cons, List.filter_cons]
    cases hp : p x <;> cases hq : q x <;> simp [hp, hq, ih] at hx ⊢ <;> omega

theorem used_cons {ps : List ApiProfile} {x : ApiFixture} {l : List ApiFixture} (u : Int) (hx : aloneS ps x = 0) (hl : ∀ y ∈ l, aloneS ps y = 0) (hd : ∀ y ∈ l, overS ps x y = false) :
    (usedS ps (x :: l) u : Int) = (usedS ps l u : Int) + if x.fUniverse = u then sizeS ps x else 0 := by
  have hr := alone_rng hx
  have h1 : usedS ps (x :: l) u = ((List.range 513).filter fun a : Nat => usesS ps x u (a : Int)).length + usedS ps l u := by
    unfold usedS
    rw [← filter_or]
    · rfl
    · rintro a _ ⟨h1, h2⟩
      obtain ⟨y, hy, hu⟩ := List.any_eq_true.1 h2
      have e1 := uses_rng hx h1
      have e2 := uses_rng (hl y hy) hu
      have := hd y hy
      unfold overS at this
      simp only [decide_eq_false_iff_not] at this
      omega
  have h2 : ((List.range 513).filter fun a : Nat => usesS ps x u (a : Int)).length = if x.fUniverse = u then (sizeS ps x).toNat else 0 := by
    by_cases hu : x.fUniverse = u
    · rw [if_pos hu, ← count_run 513 x.fAddress.toNat (sizeS ps x).toNat (by omega)]
      congr 1
      refine List.filter_congr fun a _ => ?_
      unfold usesS
      rw [Bool.eq_iff_iff]
      simp only [decide_eq_true_eq]
      omega
    · rw [if_neg hu, List.length_eq_zero_iff, List.filter_eq_nil_iff]
      intro a _
      unfold usesS
      simp only [decide_eq_true_eq]
      exact fun e => hu e.1
  rw [h1, h2]
  split <;> omega

def tot (ps : List ApiProfile) (l : List ApiFixture) : Nat → Int
  | 0 => 0
  | n + 1 => tot ps l n + (usedS ps l ((n + 1 : Nat) : Int) : Int)
def sumZ (ps : List ApiProfile) : List ApiFixture → Int
  | [] => 0
  | x :: l => sizeS ps x + sumZ ps l

theorem used_nil (ps : List ApiProfile) (u : Int) : usedS ps [] u = 0 := by
  unfold usedS
  rw [List.length_eq_zero_iff, List.filter_eq_nil_iff]
  intro a _; simp [usedB]

theorem tot_nil (ps : List ApiProfile) : ∀ n, tot ps [] n = 0
  | 0 => rfl
  | n + 1 => by unfold tot; rw [tot_nil ps n, used_nil]; rfl

theorem tot_cons {ps : List ApiProfile} {x : ApiFixture} {l : List ApiFixture} (hx : aloneS ps x = 0) (hl : ∀ y ∈ l, aloneS ps y = 0) (hd : ∀ y ∈ l, overS ps x y = false) : ∀ n : Nat, tot ps (x :: l) n = tot ps l n + if x.fUniverse ≤ (n : Int) then sizeS ps x else 0
  | 0 => by have := alone_rng hx; rw [if_neg (by omega)]; rfl
  | n + 1 => by
    unfold tot
    rw [tot_cons hx hl hd n, used_cons _ hx hl hd]
    by_cases h1 : x.fUniverse ≤ (n : Int)
    · rw [if_pos h1, if_neg (by omega), if_pos (by omega)]; omega
    · rw [if_neg h1]
      by_cases h2 : x.fUniverse = ((n + 1 : Nat) : Int)
      · rw [if_pos h2, if_pos (by omega)]; omega
      · rw [if_neg h2, if_neg (by omega)]; omega

theorem tot_sum {ps : List ApiProfile} : ∀ {l : List ApiFixture}, (∀ y ∈ l, aloneS ps y = 0) → (l.Pairwise fun y x => overS ps y x = false) → tot ps l 8 = sumZ ps l
  | [], _, _ => tot_nil ps 8
  | x :: l, h1, h2 => by
    rw [List.pairwise_cons] at h2
    have hx := h1 x (List.mem_cons_self ..)
    have hr := alone_rng hx
    have hl := fun y hy => h1 y (List.mem_cons_of_mem _ hy)
    rw [tot_cons hx hl h2.1, tot_sum hl h2.2, if_pos (by omega)]
    rw [show sumZ ps (x :: l) = sizeS ps x + sumZ ps l from rfl]; omega

theorem used_le (ps : List ApiProfile) (l : List ApiFixture) (u : Int) : usedS ps l u ≤ 513 := by
  unfold usedS
  exact Nat.le_trans (List.length_filter_le ..) (by rw [List.length_range]; exact Nat.le_refl _)

theorem tot_rng (ps : List ApiProfile) (l : List ApiFixture) : ∀ n : Nat, 0 ≤ tot ps l n ∧ tot ps l n ≤ 513 * n
  | 0 => ⟨Int.le_refl _, Int.le_refl _⟩
  | n + 1 => by
    have := tot_rng ps l n
    have := used_le ps l ((n + 1 : Nat) : Int)
    unfold tot
    omega

theorem f6_uses {l : List ApiFixture} {ps : List ApiProfile} {k : Nat} {x : ApiFixture} (hok : Ok l ps) (hx : l[k]? = some x) {s : Nat} (hs : (s : Int) < sizeS ps x) : atS ps l x.fUniverse (x.fAddress + (s : Int)) = ((k : Int), (s : Int), true, 0) := by
  have hxm := getElem?_mem hx
  have hr := alone_rng (hok.one x hxm)
  have hu : usesS ps x x.fUniverse (x.fAddress + (s : Int)) = true := by unfold usesS; simp only [decide_eq_true_eq, true_and]; omega
  have hone := one_user hok x.fUniverse (x.fAddress + (s : Int))
  have hkl := getElem?_lt hx
  have hxe : l[k] = x := (List.getElem?_eq_some_iff.1 hx).2
  have hi : l.findIdx? (fun y => usesS ps y x.fUniverse (x.fAddress + (s : Int))) = some k := by
    rw [List.findIdx?_eq_some_iff_getElem]
    refine ⟨hkl, by rw [hxe]; exact hu, fun j hj hc => ?_⟩
    exact List.pairwise_iff_getElem.1 hone j k (by omega) hkl hj ⟨by simpa using hc, by rw [hxe]; exact hu⟩
  unfold atS
  rw [hi]
  dsimp only
  rw [hx]
  dsimp only
  rw [show x.fAddress + (s : Int) - x.fAddress = (s : Int) by omega]

theorem f6_eq (l : List ApiFixture) (ps : List ApiProfile) (hf : Fit l) : f6 l ps = some true := by
  obtain ⟨b, hb, hF⟩ := f29_ex l ps hf
  unfold f6
  rw [hb, Option.bind_some]
  cases b with
  | false => rw [if_pos (by simp), f11_eq]; rfl
  | true =>
    obtain ⟨hw, hok⟩ := hF rfl
    have hl := hok.nl
    have hnp := hok.np
    have hchk := check_ok.2 hok
    rw [if_neg (by simp)]
    have hrun := run_walk (L := f6_L1 l ps) l (fun k (s : Int) => (s, (k : Int))) (fun _ s x => .inl (s + sizeS ps x)) (fun s => (.inl s : Int ⊕ Unit)) (fun k s => 0 ≤ s ∧ s ≤ 600 * (k : Int)) (fun k s x hx hI => by
      have hkl := getElem?_lt hx
      have hxm := getElem?_mem hx
      have hr := alone_rng (hok.one x hxm)
      refine ⟨?_, fun a' ha' => by injection ha' with ha'; subst ha'; omega⟩
      refine (if_pos (by simpa using hkl)).trans ?_
      rw [at_nat hx, Option.bind_some]
      obtain ⟨p, hp⟩ := alone_prof (hok.one x hxm)
      have h3 : Lp.run (f6_L3 ps x (k : Int) l s) 0 = some (sizeS ps x) := by
        have hr3 := run_walk (L := f6_L3 ps x (k : Int) l s) ps (fun k (_ : Unit) => (k : Int)) (fun _ _ q => if q.fName = x.fProfile then .inr q.fFootprint else .inl ()) (fun _ => (0 : Int)) (fun _ _ => True) (fun j _ q hq _ => by
          have hjl := getElem?_lt hq
          refine ⟨?_, fun _ _ => trivial⟩
          refine (if_pos (by simpa using hjl)).trans ?_
          rw [at_nat hq, Option.bind_some, w64_succ (by omega)]
          by_cases e : q.fName = x.fProfile
          · rw [if_pos (by simpa using e), if_pos e]; rfl
          · rw [if_neg (by simpa using e), if_neg e]; rfl) (fun _ _ => if_neg (by simp)) () trivial
        have hr3' : Lp.run (f6_L3 ps x (k : Int) l s) 0 = _ := hr3
        rw [hr3']
        have hw3 : ∀ (qs : List ApiProfile) (j : Nat), walkL (fun _ (_ : Unit) (q : ApiProfile) => if q.fName = x.fProfile then .inr q.fFootprint else .inl ()) (fun _ => (0 : Int)) j () qs = match qs.find? (fun q => decide (q.fName = x.fProfile)) with
            | some q => q.fFootprint
            | none => 0 := fun qs => by
          induction qs with
          | nil => intro j; rfl
          | cons q qs ih =>
            intro j
            unfold walkL
            by_cases e : q.fName = x.fProfile
            · simp only [if_pos e]; rw [List.find?_cons_of_pos (by simpa using e)]
            · simp only [if_neg e]; rw [List.find?_cons_of_neg (by simpa using e)]; exact ih (j + 1)
        rw [hw3]
        unfold sizeS profS
        cases ps.find? (fun q => decide (q.fName = x.fProfile)) <;> rfl
      rw [h3, Option.bind_some]
      have h4 : Lp.run (f6_L4 (sizeS ps x) l ps x (k : Int) s) 0 = some (.inl ()) := by
        refine run_all (xs := List.range (sizeS ps x).toNat) (fun j y hy => ?_) ?_
        · obtain ⟨e, hj⟩ := range_get hy
          refine (if_pos (by simp only [decide_eq_true_eq]; omega)).trans ?_
          rw [w64 (a := x.fAddress + (j : Int)) (by omega) (by omega), f20_eq ps _ _ hf, if_neg (by rw [hchk]; simp), f6_uses hok hx (by omega), Option.bind_some, w64_succ (by omega)]
          simp only [ne_eq, not_true_eq_false, decide_false, Bool.not_true, Bool.false_eq_true, if_false]
        · rw [List.length_range]
          refine if_neg ?_
          simp only [decide_eq_true_eq]; omega
      rw [h4, Option.bind_some]
      dsimp only
      rw [w64 (by omega) (by omega), w64_succ (by omega)]
      rfl) (fun s _ => if_neg (by simp)) 0 ⟨Int.le_refl _, by omega⟩
    have hrun' : Lp.run (f6_L1 l ps) (0, 0) = _ := hrun
    have hw1 : ∀ (xs : List ApiFixture) (k : Nat) (s : Int), walkL (fun _ s (x : ApiFixture) => .inl (s + sizeS ps x)) (fun s => (.inl s : Int ⊕ Unit)) k s xs = .inl (s + sumZ ps xs) := fun xs => by
      induction xs with
      | nil => intro k s; simp [walkL, sumZ]
      | cons x xs ih =>
        intro k s
        show walkL _ _ (k + 1) (s + sizeS ps x) xs = _
        rw [ih]
        rw [show sumZ ps (x :: xs) = sizeS ps x + sumZ ps xs from rfl]
        congr 1; omega
    rw [hrun', hw1, Option.bind_some]
    dsimp only
    have h2 := run_count (L := f6_L2 l ps (0 + sumZ ps l)) (e := Sum.inl (tot ps l 8)) (fun n => (tot ps l n, ((n + 1 : Nat) : Int))) 8 rfl 0 (Nat.zero_le _) (fun n _ hn => by
      have ht := tot_rng ps l n
      have hu := used_le ps l ((n + 1 : Nat) : Int)
      refine (if_pos (by simp only [decide_eq_true_eq]; omega)).trans ?_
      rw [f24_eq ps _ hf, if_neg (by rw [hchk]; simp), Option.bind_some]
      dsimp only
      rw [if_neg (by simp), w64 (by omega) (by omega), w64_succ (by omega)]
      rfl)
    have h2' : Lp.run (f6_L2 l ps (0 + sumZ ps l)) (0, 1) = _ := h2
    rw [h2', Option.bind_some]
    dsimp only
    rw [tot_sum hok.one hok.lap, if_pos (by simp), f11_eq]
    rfl
end Go.Proofs.Ythikbfhdebaceaa
