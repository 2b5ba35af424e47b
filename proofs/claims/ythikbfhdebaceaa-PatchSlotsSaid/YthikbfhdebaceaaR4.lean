import Derived.Test.YthikbfhdebaceaaP5
import Derived.Test.YthikbfhdebaceaaY41
namespace Go.Proofs.Ythikbfhdebaceaa
open Go Go.Ab
set_option linter.unusedSimpArgs false
set_option linter.unusedVariables false
set_option maxRecDepth 4000
/-! ## The reference's slots -/

theorem f83_eq {ps : List ApiProfile} {x : ApiFixture} (u a : Int) (hp : ps.length ≤ 1000000) (hx : aloneS ps x = 0) : f83 ps x u a = some (usesS ps x u a) := by
  unfold f83 usesS
  obtain ⟨p, hp1⟩ := alone_prof hx
  have hr := alone_rng hx
  by_cases h1 : x.fUniverse = u
  · rw [if_pos (by simpa using h1)]
    by_cases h2 : x.fAddress ≤ a
    · rw [if_pos (by simpa using h2), f81_eq hp hp1, Option.bind_some, w64 (by omega) (by omega)]
      simp [h1, h2]
    · rw [if_neg (by simpa using h2)]; simp [h2]
  · rw [if_neg (by simpa using h1)]; simp [h1]

theorem f55_eq {l : List ApiFixture} {ps : List ApiProfile} (u a : Int) (hok : Ok l ps) : f55 l ps u a = some (fstI (fun x => usesS ps x u a) l) := by
  have hl := hok.nl
  have hp := hok.np
  unfold f55
  refine run_findi (fun x => usesS ps x u a) (by omega) (fun k x r => ?_) (if_neg (by simp))
  refine (if_pos r.lt).trans ?_
  rw [r.at', Option.bind_some, f83_eq u a (by omega) (hok.one x r.mem)]
  simp only [Option.bind_some, r.nxt]
  split <;> rfl

theorem used_ge {l : List ApiFixture} {ps : List ApiProfile} (u a : Int) : decide (0 ≤ fstI (fun x => usesS ps x u a) l) = usedB ps l u a := fstI_nonneg ..

theorem f21_eq {l : List ApiFixture} (ps : List ApiProfile) (u a : Int) (hf : Fit l) : f21 l ps u a = some (if checkS l ps ≠ 0 then (0, 0, false, checkS l ps) else atS ps l u a) := by
  unfold f21
  rw [f17_eq ps hf, Option.bind_some]
  by_cases h : checkS l ps ≠ 0
  · rw [if_pos (by simpa using h), if_pos h]
  · have hok := check_ok.1 (by simpa using h : checkS l ps = 0)
    rw [if_neg (by simpa using h), if_neg h, f55_eq u a hok, Option.bind_some]
    unfold atS fstI
    cases hi : l.findIdx? fun x => usesS ps x u a with
    | none => rfl
    | some i =>
      obtain ⟨hlt, hp, _⟩ := List.findIdx?_eq_some_iff_getElem.1 hi
      have hr := uses_rng (hok.one l[i] (List.getElem_mem hlt)) hp
      have hadr := (alone_rng (hok.one l[i] (List.getElem_mem hlt))).1
      rw [if_neg (by simp)]
      show (at? l (i : Int)).bind _ = _
      rw [at_nat (List.getElem?_eq_getElem hlt)]
      simp only [Option.bind_some, List.getElem?_eq_getElem hlt]
      rw [w64 (by omega) (by omega)]

theorem f56_eq {l : List ApiFixture} {ps : List ApiProfile} (u : Int) {a n : Nat} (hok : Ok l ps) (ha : a ≤ 1000) (hn : n ≤ 1000) : f56 l ps u (a : Int) (n : Int) = some (openS ps l u a n) := by
  unfold f56
  have hrun : Lp.run (f56_L1 (n : Int) l ps u (a : Int)) 0 = some (if ((List.range n).any fun i => usedB ps l u ((a + i : Nat) : Int)) = true then .inr () else .inl ()) := by
    refine run_any (xs := List.range n) (fun i => usedB ps l u ((a + i : Nat) : Int)) (by rw [List.length_range]; omega) (fun k x r => ?_) ?_
    · obtain ⟨hxk, hk⟩ := range_get r.get
      subst hxk
      refine (if_pos (by simp only [decide_eq_true_eq]; omega)).trans ?_
      rw [w64 (a := (a : Int) + (x : Int)) (by omega) (by omega), show (a : Int) + (x : Int) = ((a + x : Nat) : Int) by omega, f55_eq _ _ hok, Option.bind_some, r.nxt, used_ge]
      split <;> rfl
    · rw [List.length_range]; exact if_neg (by simp)
  rw [hrun, Option.bind_some]
  have ho : openS ps l u a n = !((List.range n).any fun i => usedB ps l u ((a + i : Nat) : Int)) := by
    unfold openS
    rw [List.not_any_eq_all_not]
  rw [ho]
  cases (List.range n).any fun i => usedB ps l u ((a + i : Nat) : Int) <;> rfl

theorem walk_range (p : Nat → Bool) : ∀ (xs : List Nat) (k : Nat), walkL (fun _ (_ : Unit) (x : Nat) => if p x = true then .inr (.inr ((x + 1 : Nat) : Int)) else .inl ()) (fun _ => (.inl () : Unit ⊕ Int)) k () xs = freeR (xs.find? p)
  | [], _ => rfl
  | x :: xs, k => by
    unfold walkL
    by_cases h : p x = true
    · simp only [if_pos h]; rw [List.find?_cons_of_pos h]; rfl
    · simp only [if_neg h]; rw [List.find?_cons_of_neg h]; exact walk_range p xs (k + 1)

theorem f23_run {l : List ApiFixture} {ps : List ApiProfile} (u : Int) {n : Nat} (hok : Ok l ps) (h1 : 1 ≤ n) (h2 : n ≤ 512) : Lp.run (f23_L1 (n : Int) l ps u) 1 = some (freeR (freeS ps l u n)) := by
  have hrun := run_walk (L := f23_L1 (n : Int) l ps u) (List.range (513 - n)) (fun k (_ : Unit) => ((k + 1 : Nat) : Int)) (fun _ _ x => if openS ps l u (x + 1) n = true then .inr (.inr ((x + 1 : Nat) : Int)) else .inl ()) (fun _ => .inl ()) (fun _ _ => True) (fun k _ x hx _ => by
    obtain ⟨hxk, hk⟩ := range_get hx
    subst hxk
    refine ⟨?_, fun _ _ => trivial⟩
    refine (if_pos ?_).trans ?_
    · rw [w64 (a := ((x + 1 : Nat) : Int) + (n : Int)) (by omega) (by omega), w64 (by omega) (by omega)]
      simp only [decide_eq_true_eq]; omega
    · rw [f56_eq u hok (by omega) (by omega), Option.bind_some, w64_succ (by omega)]
      split <;> rfl) (fun _ _ => by
    rw [List.length_range]
    refine if_neg ?_
    rw [w64 (a := ((513 - n + 1 : Nat) : Int) + (n : Int)) (by omega) (by omega), w64 (by omega) (by omega)]
    simp only [decide_eq_true_eq]; omega) () trivial
  have hrun' : Lp.run (f23_L1 (n : Int) l ps u) 1 = _ := hrun
  rw [hrun', walk_range]
  rfl

theorem f23_eq {l : List ApiFixture} (ps : List ApiProfile) (u n : Int) (hf : Fit l) : f23 l ps u n = some (freeT ps l u n) := by
  unfold f23 freeT
  rw [f17_eq ps hf, Option.bind_some]
  by_cases h : checkS l ps ≠ 0
  · rw [if_pos (by simpa using h), if_pos h]
  · have hok := check_ok.1 (by simpa using h : checkS l ps = 0)
    rw [if_neg (by simpa using h), if_neg h]
    simp only [decide_eq_true_eq]
    by_cases h1 : u < 1
    · rw [if_pos h1, if_pos (by omega)]
    · rw [if_neg h1]
      by_cases h2 : 8 < u
      · rw [if_pos h2, if_pos (by omega)]
      · rw [if_neg h2]
        by_cases h3 : n < 1
        · rw [if_pos h3, if_pos (by omega)]
        · rw [if_neg h3]
          by_cases h4 : 512 < n
          · rw [if_pos h4, if_pos (by omega)]
          · rw [if_neg h4, if_neg (by omega)]
            have hr := f23_run (l := l) (ps := ps) u (n := n.toNat) hok (by omega) (by omega)
            rw [show ((n.toNat : Nat) : Int) = n by omega] at hr
            rw [hr, Option.bind_some]
            cases freeS ps l u n.toNat <;> rfl

theorem f25_eq {l : List ApiFixture} (ps : List ApiProfile) (u : Int) (hf : Fit l) : f25 l ps u = some (if checkS l ps ≠ 0 then (0, checkS l ps) else ((usedS ps l u : Int), 0)) := by
  unfold f25
  rw [f17_eq ps hf, Option.bind_some]
  by_cases h : checkS l ps ≠ 0
  · rw [if_pos (by simpa using h), if_pos h]
  · have hok := check_ok.1 (by simpa using h : checkS l ps = 0)
    rw [if_neg (by simpa using h), if_neg h]
    have hrun := run_walk (L := f25_L1 l ps u) (List.range 512) (fun k (c : Nat) => ((c : Int), ((k + 1 : Nat) : Int))) (fun _ c (x : Nat) => .inl (if usedB ps l u ((x + 1 : Nat) : Int) = true then c + 1 else c)) (fun c => (c : Int)) (fun k c => c ≤ k) (fun k c x hx hI => by
      obtain ⟨hxk, hk⟩ := range_get hx
      subst hxk
      refine ⟨?_, fun a' ha' => by injection ha' with ha'; subst ha'; split <;> omega⟩
      refine (if_pos (by simp only [decide_eq_true_eq]; omega)).trans ?_
      rw [f55_eq _ _ hok, Option.bind_some, used_ge, w64_succ (show c + 1 ≤ 9223372036854775807 by omega), w64_succ (show x + 1 + 1 ≤ 9223372036854775807 by omega)]
      split <;> rfl) (fun c _ => by rw [List.length_range]; rfl) 0 (Nat.le_refl _)
    have hrun' : Lp.run (f25_L1 l ps u) (0, 1) = _ := hrun
    rw [hrun', walk_count (fun x : Nat => usedB ps l u ((x + 1 : Nat) : Int)), Option.bind_some, Nat.zero_add]
    have h0 : usedB ps l u ((0 : Nat) : Int) = false := by
      unfold usedB
      rw [List.any_eq_false]
      intro x hx hu
      have := uses_rng (hok.one x hx) hu
      omega
    have he : usedS ps l u = ((List.range 512).filter fun x : Nat => usedB ps l u ((x + 1 : Nat) : Int)).length := by
      unfold usedS
      rw [show (513 : Nat) = 512 + 1 from rfl, List.range_succ_eq_map, List.filter_cons_of_neg (by rw [h0]; simp), List.filter_map, List.length_map]
      rfl
    rw [he]
theorem f4_eq (l : List ApiFixture) (ps : List ApiProfile) (x : Law12Slots) (hf : Fit l) : f4 l ps x = some true := by
  obtain ⟨b, hb, hF⟩ := f10_ex l ps
  unfold f4
  rw [hb, Option.bind_some]
  cases b with
  | false => rw [if_pos (by simp), f11_eq]; rfl
  | true =>
    rw [if_neg (by simp), f20_eq ps _ _ hf, f21_eq ps _ _ hf, f11_eq, f22_eq ps _ _ hf, f23_eq ps _ _ hf, f24_eq ps _ hf, f25_eq ps _ hf]
    simp only [Option.bind_some, ne_eq, not_true_eq_false, decide_false, beq_self_eq_true, Bool.not_true, Bool.false_eq_true, if_false, decide_true, if_true]
end Go.Proofs.Ythikbfhdebaceaa
