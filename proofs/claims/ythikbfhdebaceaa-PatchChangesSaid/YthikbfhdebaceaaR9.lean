import Derived.Test.YthikbfhdebaceaaP5
import Derived.Test.YthikbfhdebaceaaY91
namespace Go.Proofs.Ythikbfhdebaceaa
open Go Go.Ab
set_option linter.unusedSimpArgs false
set_option linter.unusedVariables false
set_option maxRecDepth 4000
theorem strict_ext {τ : Type} {key : τ → Int} : ∀ {xs ys : List τ}, xs.Pairwise (fun a b => key a < key b) → ys.Pairwise (fun a b => key a < key b) → (∀ z, z ∈ xs ↔ z ∈ ys) → xs = ys
  | [], [], _, _, _ => rfl
  | [], y :: ys, _, _, h => by have := (h y).2 (List.mem_cons_self ..); cases this
  | x :: xs, [], _, _, h => by have := (h x).1 (List.mem_cons_self ..); cases this
  | x :: xs, y :: ys, h1, h2, h => by
    have h1' := List.pairwise_cons.1 h1
    have h2' := List.pairwise_cons.1 h2
    have hxy : x = y := by
      rcases List.mem_cons.1 ((h x).1 (List.mem_cons_self ..)) with e | e
      · exact e
      · rcases List.mem_cons.1 ((h y).2 (List.mem_cons_self ..)) with e2 | e2
        · exact e2.symm
        · have := h2'.1 x e
          have := h1'.1 y e2
          omega
    subst hxy
    rw [strict_ext h1'.2 h2'.2 fun z => ?_]
    have hz := h z
    rw [List.mem_cons, List.mem_cons] at hz
    constructor
    · intro hm
      rcases hz.1 (.inr hm) with e | e
      · have := h1'.1 z hm; rw [e] at this; omega
      · exact e
    · intro hm
      rcases hz.2 (.inr hm) with e | e
      · have := h2'.1 z hm; rw [e] at this; omega
      · exact e

/-! ## Put, Drop, Move -/

def isP (c p : Int) (y : ApiFixture) : Bool := decide (y.fChannel = c ∧ y.fPart = p)
def withS (l : List ApiFixture) (x : ApiFixture) : List ApiFixture := match l.findIdx? (isP x.fChannel x.fPart) with
  | some i => l.set i x
  | none => l ++ [x]
def resT (m : List ApiFixture) (ps : List ApiProfile) : List ApiFixture × Int := if checkS m ps ≠ 0 then ([], checkS m ps) else (m, 0)

theorem f61_eq2 {l : List ApiFixture} (m : List (List UInt8 × ApiProfile)) (c p : Int) (hl : l.length ≤ 1000000) : f61 ⟨l, m⟩ c p = some (fstI (isP c p) l) := f61_eq c p hl

theorem f62_eq {m : List ApiFixture} (ps : List ApiProfile) (hf : Fit m) : f62 m ps = some (resT m ps) := by
  unfold f62 resT
  rw [f16_eq ps hf, Option.bind_some]
  by_cases h : checkS m ps ≠ 0
  · rw [if_pos (by simpa using h), if_pos h]
  · rw [if_neg (by simpa using h), if_neg h]

theorem f65_eq {m : List ApiFixture} (ps : List ApiProfile) (hf : Fit m) : f65 m ps = some (resT m ps) := by
  unfold f65 resT
  rw [f17_eq ps hf, Option.bind_some]
  by_cases h : checkS m ps ≠ 0
  · rw [if_pos (by simpa using h), if_pos h]
  · rw [if_neg (by simpa using h), if_neg h]

theorem f35_eq {l : List ApiFixture} (c p : Int) (hl : l.length ≤ 1000000) : f35 l c p = some (fstI (isP c p) l) := by
  unfold f35
  refine run_findi (isP c p) (by omega) (fun k x r => ?_) (if_neg (by simp))
  refine (if_pos r.lt).trans ?_
  rw [r.at']
  simp only [Option.bind_some, r.nxt, decide_eq_true_eq]
  unfold isP
  by_cases h1 : x.fChannel = c
  · rw [if_pos h1]
    by_cases h2 : x.fPart = p
    · rw [if_pos h2, if_pos (by simp [h1, h2])]
    · rw [if_neg h2, if_neg (by simp [h2])]
  · rw [if_neg h1, if_neg (by simp [h1])]

theorem with_fit {l : List ApiFixture} {x : ApiFixture} (hf : Fit l) (hx : x.fCable.length ≤ 140737488355328) : Fit (withS l x) := by
  unfold withS
  intro y hy
  split at hy
  · rcases List.mem_or_eq_of_mem_set hy with h | h
    · exact hf y h
    · rw [h]; exact hx
  · rcases List.mem_append.1 hy with h | h
    · exact hf y h
    · simp only [List.mem_cons, List.not_mem_nil, or_false] at h; rw [h]; exact hx

theorem f66_eq {l : List ApiFixture} (x : ApiFixture) (hl : l.length ≤ 1000) : f66 l x = some (withS l x) := by
  unfold f66 withS
  rw [app_some (by simp only [List.length_nil]; omega) (by simp only [List.length_nil]; omega), Option.bind_some, List.nil_append, f35_eq _ _ (by omega), Option.bind_some]
  unfold fstI
  cases hi : l.findIdx? (isP x.fChannel x.fPart) with
  | none =>
    dsimp only
    rw [if_neg (by simp), app_some (by simp only [List.length_cons, List.length_nil]; omega) (by simp only [List.length_cons, List.length_nil]; omega)]
    rfl
  | some i =>
    obtain ⟨hlt, _⟩ := List.findIdx?_eq_some_iff_getElem.1 hi
    dsimp only
    rw [if_pos (by simp), at_nat (List.getElem?_eq_getElem hlt), Option.bind_some, Int.toNat_natCast]

theorem f36_eq {l : List ApiFixture} (ps : List ApiProfile) (x : ApiFixture) (hf : Fit l) (hx : x.fCable.length ≤ 140737488355328) : f36 l ps x = some (if checkS l ps ≠ 0 then ([], checkS l ps) else resT (withS l x) ps) := by
  unfold f36
  rw [f44_eq ps hf, Option.bind_some]
  by_cases h : checkS l ps ≠ 0
  · rw [if_pos h, if_pos (by simpa using h), if_pos h]
  · rw [if_neg h, if_neg (by simp), if_neg h]
    have hok := check_ok.1 (by simpa using h : checkS l ps = 0)
    have hl := hok.nl
    have hfm := with_fit hf hx
    rw [f30_eq (by omega), Option.bind_some]
    show (f61 ⟨l, mapS ps⟩ x.fChannel x.fPart).bind _ = _
    rw [f61_eq2 _ _ _ (by omega), Option.bind_some]
    unfold withS at hfm ⊢
    unfold fstI
    cases hi : l.findIdx? (isP x.fChannel x.fPart) with
    | none =>
      rw [hi] at hfm
      dsimp only at hfm ⊢
      rw [if_neg (by simp), app_some (by simp only [List.length_cons, List.length_nil]; omega) (by simp only [List.length_cons, List.length_nil]; omega), Option.bind_some, f62_eq ps hfm, Option.bind_some]
    | some i =>
      rw [hi] at hfm
      obtain ⟨hlt, _⟩ := List.findIdx?_eq_some_iff_getElem.1 hi
      dsimp only at hfm ⊢
      rw [if_pos (by simp), at_nat (List.getElem?_eq_getElem hlt), Option.bind_some, Int.toNat_natCast, f62_eq ps hfm, Option.bind_some]

theorem f39_eq {l : List ApiFixture} (ps : List ApiProfile) (x : ApiFixture) (hf : Fit l) (hx : x.fCable.length ≤ 140737488355328) : f39 l ps x = some (if checkS l ps ≠ 0 then ([], checkS l ps) else resT (withS l x) ps) := by
  unfold f39
  rw [f17_eq ps hf, Option.bind_some]
  by_cases h : checkS l ps ≠ 0
  · rw [if_pos (by simpa using h), if_pos h]
  · rw [if_neg (by simpa using h), if_neg h]
    have hok := check_ok.1 (by simpa using h : checkS l ps = 0)
    rw [f66_eq x (by have := hok.nl; omega), Option.bind_some, f65_eq ps (with_fit hf hx), Option.bind_some]

def withoutS (l : List ApiFixture) (c p : Int) : List ApiFixture := l.filter fun y => !isP c p y

theorem filter_erase {α : Type} {p : α → Bool} : ∀ {l : List α} {i : Nat}, l.Pairwise (fun a b => ¬ (p a = true ∧ p b = true)) → l.findIdx? p = some i → l.filter (fun y => !p y) = l.take i ++ l.drop (i + 1)
  | [], i, _, h => by simp at h
  | x :: xs, i, hp, h => by
    rw [List.pairwise_cons] at hp
    rw [List.findIdx?_cons] at h
    by_cases hx : p x = true
    · rw [if_pos hx] at h
      injection h with h; subst h
      rw [List.filter_cons_of_neg (by simp [hx])]
      simp only [List.take_zero, List.nil_append, List.drop_succ_cons, List.drop_zero]
      refine List.filter_eq_self.2 fun y hy => ?_
      have := hp.1 y hy
      cases hy2 : p y with
      | false => rfl
      | true => exact absurd ⟨hx, hy2⟩ this
    · rw [if_neg hx] at h
      obtain ⟨j, hj, rfl⟩ := Option.map_eq_some_iff.1 h
      rw [List.filter_cons_of_pos (by simpa using hx), filter_erase hp.2 hj]
      simp

theorem f37_eq {l : List ApiFixture} (ps : List ApiProfile) (c p : Int) (hf : Fit l) : f37 l ps c p = some (if checkS l ps ≠ 0 then ([], false, checkS l ps) else (withoutS l c p, l.any (isP c p), 0)) := by
  unfold f37
  rw [f44_eq ps hf, Option.bind_some]
  by_cases h : checkS l ps ≠ 0
  · rw [if_pos h, if_pos (by simpa using h), if_pos h]
  · rw [if_neg h, if_neg (by simp), if_neg h]
    have hok := check_ok.1 (by simpa using h : checkS l ps = 0)
    have hl := hok.nl
    show (f61 ⟨l, mapS ps⟩ c p).bind _ = _
    rw [f61_eq2 _ _ _ (by omega), Option.bind_some]
    have hone : l.Pairwise fun a b => ¬ (isP c p a = true ∧ isP c p b = true) := by
      refine hok.two.imp fun {a b} hd e => ?_
      unfold isP at e
      unfold dupS at hd
      simp only [decide_eq_true_eq, decide_eq_false_iff_not] at e hd
      exact hd ⟨by rw [e.1.1, e.2.1], by rw [e.1.2, e.2.2]⟩
    have hany := fstI_nonneg (isP c p) l
    unfold fstI at hany ⊢
    cases hi : l.findIdx? (isP c p) with
    | none =>
      rw [hi] at hany
      dsimp only at hany ⊢
      have hno := List.findIdx?_eq_none_iff.1 hi
      rw [if_pos (by simp), f30_eq (by omega), Option.bind_some, ← hany]
      have hw : withoutS l c p = l := List.filter_eq_self.2 fun y hy => by simpa using hno y hy
      rw [hw]
      rfl
    | some i =>
      rw [hi] at hany
      dsimp only at hany ⊢
      obtain ⟨hlt, _⟩ := List.findIdx?_eq_some_iff_getElem.1 hi
      rw [if_neg (by simp), slc_some ⟨by omega, by omega, by omega⟩, Option.bind_some, w64_succ (by omega), slc_some ⟨by omega, by omega, by omega⟩, Option.bind_some, ← hany]
      have e1 : (l.take (i : Int).toNat).drop (0 : Int).toNat = l.take i := by simp
      have e2 : (l.take ((l.length : Nat) : Int).toNat).drop ((i + 1 : Nat) : Int).toNat = l.drop (i + 1) := by
        rw [Int.toNat_natCast, Int.toNat_natCast, List.take_length]
      have hc : conc? 72 [l.take i, l.drop (i + 1)] = some (l.take i ++ l.drop (i + 1)) := by
        unfold conc?
        have hlen : ([l.take i, l.drop (i + 1)] : List (List ApiFixture)).flatten.length ≤ 200 := by simp; omega
        rw [if_pos ⟨by unfold room; omega, by unfold maxStr; omega, by simp [maxStr]⟩]
        simp
      unfold f63
      rw [e1, e2, hc, Option.bind_some]
      unfold withoutS
      rw [filter_erase hone hi]
      simp

theorem f67_eq {l : List ApiFixture} (c p : Int) (hl : l.length ≤ 1000) : f67 l c p = some (withoutS l c p) := by
  unfold f67
  have hrun : Lp.run (f67_L1 l c p) (0, []) = some ([] ++ l.flatMap fun x => if isP c p x = true then [] else [x]) := by
    refine run_more (xs := l) (fun x => if isP c p x = true then [] else [x]) 0 (fun k acc x r hb => ?_) (by omega) (fun x _ => by split <;> simp) (fun acc => if_neg (by simp)) (Nat.le_refl _)
    have hk := r.klt
    refine (if_pos r.lt).trans ?_
    rw [r.at']
    simp only [Option.bind_some, r.nxt, decide_eq_true_eq]
    unfold isP
    by_cases h1 : x.fChannel = c
    · rw [if_neg (by simpa using h1)]
      by_cases h2 : x.fPart = p
      · rw [if_neg (by simpa using h2), if_pos (by simp [h1, h2]), List.append_nil]
      · rw [if_pos (by simpa using h2), if_neg (by simp [h2]), app_some (by simp only [List.length_cons, List.length_nil]; omega) (by simp only [List.length_cons, List.length_nil]; omega)]
        rfl
    · rw [if_pos (by simpa using h1), if_neg (by simp [h1]), app_some (by simp only [List.length_cons, List.length_nil]; omega) (by simp only [List.length_cons, List.length_nil]; omega)]
      rfl
  rw [hrun, Option.bind_some, List.nil_append]
  congr 1
  unfold withoutS
  induction l with
  | nil => rfl
  | cons x xs ih =>
    rw [List.flatMap_cons, List.filter_cons]
    have ih' : (xs.flatMap fun x => if isP c p x = true then [] else [x]) = xs.filter fun y => !isP c p y := by
      clear ih hrun
      induction xs with
      | nil => rfl
      | cons y ys ih2 => rw [List.flatMap_cons, List.filter_cons, ih2 (by simp only [List.length_cons] at hl ⊢; omega)]; cases isP c p y <;> rfl
    rw [ih']
    cases isP c p x <;> rfl

theorem f40_eq {l : List ApiFixture} (ps : List ApiProfile) (c p : Int) (hf : Fit l) : f40 l ps c p = some (if checkS l ps ≠ 0 then ([], false, checkS l ps) else (withoutS l c p, l.any (isP c p), 0)) := by
  unfold f40
  rw [f17_eq ps hf, Option.bind_some]
  by_cases h : checkS l ps ≠ 0
  · rw [if_pos (by simpa using h), if_pos h]
  · rw [if_neg (by simpa using h), if_neg h]
    have hok := check_ok.1 (by simpa using h : checkS l ps = 0)
    have hl := hok.nl
    rw [f67_eq _ _ (by omega), Option.bind_some, f35_eq _ _ (by omega), Option.bind_some, fstI_nonneg]

def moved (x to : ApiFixture) : ApiFixture := ⟨x.fChannel, x.fPart, x.fProfile, to.fUniverse, to.fAddress, x.fPhase, x.fCable⟩
def moveS (l : List ApiFixture) (ps : List ApiProfile) (fr to : ApiFixture) : List ApiFixture × Int := match l.findIdx? (isP fr.fChannel fr.fPart) with
  | some i => match l[i]? with
    | some x => resT (l.set i (moved x to)) ps
    | none => ([], 6)
  | none => ([], 6)

theorem set_fit {l : List ApiFixture} {x : ApiFixture} {i : Nat} (hf : Fit l) (hx : x.fCable.length ≤ 140737488355328) : Fit (l.set i x) := fun y hy => by
  rcases List.mem_or_eq_of_mem_set hy with h | h
  · exact hf y h
  · rw [h]; exact hx

theorem f41_eq {l : List ApiFixture} (ps : List ApiProfile) (fr to : ApiFixture) (hf : Fit l) : f41 l ps fr to = some (if checkS l ps ≠ 0 then ([], checkS l ps) else moveS l ps fr to) := by
  unfold f41
  rw [f44_eq ps hf, Option.bind_some]
  by_cases h : checkS l ps ≠ 0
  · rw [if_pos h, if_pos (by simpa using h), if_pos h]
  · rw [if_neg h, if_neg (by simp), if_neg h]
    have hok := check_ok.1 (by simpa using h : checkS l ps = 0)
    have hl := hok.nl
    show (f61 ⟨l, mapS ps⟩ fr.fChannel fr.fPart).bind _ = _
    rw [f61_eq2 _ _ _ (by omega), Option.bind_some]
    unfold moveS fstI
    cases hi : l.findIdx? (isP fr.fChannel fr.fPart) with
    | none => dsimp only; rw [if_pos (by simp)]
    | some i =>
      dsimp only
      obtain ⟨hlt, _⟩ := List.findIdx?_eq_some_iff_getElem.1 hi
      rw [if_neg (by simp), f30_eq (by omega), Option.bind_some, at_nat (List.getElem?_eq_getElem hlt), Option.bind_some, Int.toNat_natCast, at_nat (by rw [List.getElem?_set_self hlt]), Option.bind_some, List.getElem?_eq_getElem hlt]
      unfold f41_J1
      dsimp only
      rw [List.set_set]
      show (f62 (l.set i (moved l[i] to)) ps).bind _ = _
      rw [f62_eq ps (set_fit (x := moved l[i] to) hf (hf l[i] (List.getElem_mem hlt))), Option.bind_some]

theorem f42_eq {l : List ApiFixture} (ps : List ApiProfile) (fr to : ApiFixture) (hf : Fit l) : f42 l ps fr to = some (if checkS l ps ≠ 0 then ([], checkS l ps) else moveS l ps fr to) := by
  unfold f42
  rw [f17_eq ps hf, Option.bind_some]
  by_cases h : checkS l ps ≠ 0
  · rw [if_pos (by simpa using h), if_pos h]
  · rw [if_neg (by simpa using h), if_neg h]
    have hok := check_ok.1 (by simpa using h : checkS l ps = 0)
    have hl := hok.nl
    rw [f35_eq _ _ (by omega), Option.bind_some]
    unfold moveS fstI
    cases hi : l.findIdx? (isP fr.fChannel fr.fPart) with
    | none => dsimp only; rw [if_pos (by simp)]
    | some i =>
      dsimp only
      obtain ⟨hlt, hp, _⟩ := List.findIdx?_eq_some_iff_getElem.1 hi
      rw [if_neg (by simp), at_nat (List.getElem?_eq_getElem hlt), Option.bind_some, List.getElem?_eq_getElem hlt]
      unfold f42_J1
      dsimp only
      show (f66 l (moved l[i] to)).bind _ = _
      have hw : withS l (moved l[i] to) = l.set i (moved l[i] to) := by
        unfold isP at hp
        simp only [decide_eq_true_eq] at hp
        unfold withS
        show (match l.findIdx? (isP l[i].fChannel l[i].fPart) with | some i_1 => l.set i_1 (moved l[i] to) | none => l ++ [moved l[i] to]) = _
        rw [hp.1, hp.2, hi]
      rw [f66_eq _ (by omega), Option.bind_some, hw, f65_eq ps (set_fit (x := moved l[i] to) hf (hf l[i] (List.getElem_mem hlt))), Option.bind_some]

theorem resT_len {m : List ApiFixture} {ps : List ApiProfile} : (resT m ps).1.length ≤ 1000000 := by
  unfold resT
  by_cases h : checkS m ps ≠ 0
  · rw [if_pos h]; simp
  · rw [if_neg h]
    have := (check_ok.1 (by simpa using h : checkS m ps = 0)).nl
    show m.length ≤ _
    omega

theorem f9_eq (l : List ApiFixture) (ps : List ApiProfile) (x : ApiFixture) (hf : Fit l) (hx : x.fCable.length ≤ 140737488355328) : f9 l ps x = some true := by
  obtain ⟨b, hb, hF⟩ := f10_ex l ps
  unfold f9
  rw [hb, Option.bind_some]
  cases b with
  | false => rw [if_pos (by simp), f11_eq]; rfl
  | true =>
    rw [if_neg (by simp), f36_eq ps x hf hx, f39_eq ps x hf hx, f37_eq ps _ _ hf, f40_eq ps _ _ hf, f11_eq, f41_eq ps x x hf, f42_eq ps x x hf]
    simp only [Option.bind_some, Bool.not_true, Bool.false_eq_true, if_false]
    by_cases h : checkS l ps ≠ 0
    · simp only [if_pos h]
      rw [f18_self (by simp)]
      simp
    · have hok := check_ok.1 (by simpa using h : checkS l ps = 0)
      have hl := hok.nl
      simp only [if_neg h]
      have h2 : (withoutS l x.fChannel x.fPart).length ≤ 1000000 := Nat.le_trans (List.length_filter_le ..) (by omega)
      have h3 : (moveS l ps x x).1.length ≤ 1000000 := by
        unfold moveS
        split
        · split
          · exact resT_len
          · simp
        · simp
      rw [f18_self resT_len, f18_self h2, f18_self h3]
      simp
end Go.Proofs.Ythikbfhdebaceaa
