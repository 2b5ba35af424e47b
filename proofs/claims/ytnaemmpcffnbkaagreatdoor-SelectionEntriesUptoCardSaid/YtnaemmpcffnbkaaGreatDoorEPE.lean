import Derived.Test.YtnaemmpcffnbkaaGreatDoorEP1
import Derived.Test.YtnaemmpcffnbkaaGreatDoorEYE1
namespace Go.Proofs.YtnaemmpcffnbkaaGreatDoor
open Go Go.Ab
set_option linter.unusedSimpArgs false
set_option linter.unusedVariables false
theorem walk_goC2 {τ : Type} (c1 : τ → Int) (lt : τ → τ → Bool) (c2 : τ → Int) : ∀ (xs : List τ) (k : Nat) (a : Option τ), walkL (fun _ a x => stepC c1 lt c2 a x) (fun _ => (.inl () : Unit ⊕ Int)) k a xs = if goC c1 lt c2 a xs = 0 then .inl () else .inr (goC c1 lt c2 a xs)
 | [], _, _ => rfl
 | x :: xs, k, a => by
  simp only [walkL, goC, stepC]
  by_cases h1 : c1 x ≠ 0
  ·simp only [if_pos h1, if_neg h1]
  ·simp only [if_neg h1]
   by_cases h2 : badC lt a x = true
   ·simp [if_pos h2]
   ·simp only [if_neg h2]
    by_cases h3 : c2 x ≠ 0
    ·simp only [if_pos h3, if_neg h3]
    ·simp only [if_neg h3]
     exact walk_goC2 c1 lt c2 xs (k + 1) (some x)
theorem run_goC2 {τ : Type} {L : Lp Int (Unit ⊕ Int)} (c1 : τ → Int) (lt : τ → τ → Bool) (c2 : τ → Int) {xs : List τ} (hl : xs.length ≤ 1000000)
  (h0 : ∀ x, xs[0]? = some x → decide (((0 : Nat) : Int) < ((xs.length : Nat) : Int)) = true → at? xs ((0 : Nat) : Int) = some x → L.body ((0 : Nat) : Int) = some (roundC 0 (stepC c1 lt c2 none x)))
  (h1 : ∀ (k : Nat) q x, xs[k]? = some q → xs[k + 1]? = some x → decide (((k + 1 : Nat) : Int) < ((xs.length : Nat) : Int)) = true → at? xs ((k + 1 : Nat) : Int) = some x → at? xs (IntKind.i64.wrap (((k + 1 : Nat) : Int) - 1)) = some q → decide (0 < ((k + 1 : Nat) : Int)) = true →
   IntKind.i64.wrap (((k + 1 : Nat) : Int) + 1) = ((k + 1 + 1 : Nat) : Int) → c1 q = 0 → c2 q = 0 → L.body ((k + 1 : Nat) : Int) = some (roundC (k + 1) (stepC c1 lt c2 (some q) x)))
  (he : L.body ((xs.length : Nat) : Int) = some (.brk (.inl ()))) : L.run 0 = some (if goC c1 lt c2 none xs = 0 then .inl () else .inr (goC c1 lt c2 none xs)) := by
 have hrun := run_walk (L := L) xs (fun k (_ : Option τ) => (k : Int)) (fun _ a x => stepC c1 lt c2 a x) (fun _ => (.inl () : Unit ⊕ Int)) (fun k a => a = bef xs k ∧ ∀ q, a = some q → c1 q = 0 ∧ c2 q = 0) (fun k a x hx hI => by
   obtain ⟨rfl, hv⟩ := hI
   have hlt := at_lt hx
   have hat := at_nat hx
   have hk := getElem?_lt hx
   refine ⟨?_, fun a' ha' => ?_⟩
   ·have hr : ∀ s : Option τ ⊕ (Unit ⊕ Int), roundL (fun k (_ : Option τ) => (k : Int)) k s = roundC k s := fun s => by cases s <;> rfl
    rw [hr]
    cases k with
    | zero => exact h0 x hx hlt hat
    | succ k =>
     have hq : xs[k]? = some (xs[k]'(by omega)) := List.getElem?_eq_getElem _
     obtain ⟨v1, v2⟩ := hv _ hq
     have := h1 k _ x hq hx hlt hat (by rw [w64 (by omega) (by omega), show ((k + 1 : Nat) : Int) - 1 = (k : Int) by omega]; exact at_nat hq) (by simp) (w64_succ (by omega)) v1 v2
     rw [show bef xs (k + 1) = some (xs[k]'(by omega)) from hq]
     exact this
   ·obtain ⟨rfl, v1, v2⟩ := stepC_inl ha'
    exact ⟨(bef_succ hx).symm, fun q hq => by injection hq with hq; subst hq; exact ⟨v1, v2⟩⟩)
  (fun a _ => he) none ⟨rfl, fun q hq => by cases hq⟩
 rw [walk_goC2] at hrun
 exact hrun
def isLev (v : Int) : Bool := decide (0 ≤ v ∧ v ≤ 65535)
def ltP (p q : ApiParam) : Bool := decide (p.fChannel < q.fChannel ∨ p.fChannel = q.fChannel ∧ p.fAttr < q.fAttr)
def valP (least : Int) (p : ApiParam) : Int := if p.fChannel < least ∨ 999 < p.fChannel ∨ p.fAttr < 0 ∨ 15 ≤ p.fAttr then 2 else 0
def valS (v : ApiValue) : Int := if (v.fPalette = 0 ∧ isLev v.fLevel = true) ∨ (-1 ≤ v.fPalette ∧ v.fPalette ≠ 0 ∧ v.fPalette ≤ 1048576 ∧ v.fLevel = 0) then 0 else 2
def entE (x : ApiEntry) : Int := if valP 1 x.fParam ≠ 0 then valP 1 x.fParam else valS x.fValue
def ltE (a b : ApiEntry) : Bool := ltP a.fParam b.fParam
def entS (l : List ApiEntry) : Int := if 4096 < l.length then 5 else goC entE ltE (fun _ => 0) none l
theorem f126_eq (v : Int) : f126 v = some (isLev v) := by
 unfold f126 isLev
 by_cases h : 0 ≤ v <;> simp [h]
theorem f127_eq (v : Int) : f127 v = some (isLev v) := by
 unfold f127 isLev
 by_cases h : 0 ≤ v <;> simp [h]
theorem f122_eq (p : ApiParam) (n : Int) : f122 p n = some (valP n p) := by
 unfold f122 valP
 simp only [decide_eq_true_eq]
 by_cases h1 : p.fChannel < n
 ·simp [h1]
 ·by_cases h2 : 999 < p.fChannel
  ·simp [h1, h2]
  ·by_cases h3 : p.fAttr < 0
   ·simp [h1, h2, h3]
   ·by_cases h4 : 15 ≤ p.fAttr <;> simp [h1, h2, h3, h4]
theorem f84_eq (p : ApiParam) : f84 p = some (valP 1 p) := by
 rw [← f122_eq]; rfl
theorem valP_ok {n : Int} {p : ApiParam} (h : valP n p = 0) : n ≤ p.fChannel ∧ p.fChannel ≤ 999 ∧ 0 ≤ p.fAttr ∧ p.fAttr ≤ 14 := by
 unfold valP at h
 split at h
 ·cases h
 ·omega
def cmpP (p q : ApiParam) : Int := if p.fChannel ≠ q.fChannel then p.fChannel - q.fChannel else p.fAttr - q.fAttr
def okP (p : ApiParam) : Prop := 0 ≤ p.fChannel ∧ p.fChannel ≤ 999 ∧ 0 ≤ p.fAttr ∧ p.fAttr ≤ 14
theorem f125_eq {p q : ApiParam} (hp : okP p) (hq : okP q) : f125 p q = some (cmpP p q) := by
 obtain ⟨a1, a2, a3, a4⟩ := hp
 obtain ⟨b1, b2, b3, b4⟩ := hq
 unfold f125 cmpP
 simp only [decide_eq_true_eq]
 by_cases h : p.fChannel = q.fChannel
 ·rw [if_neg (by simpa using h), if_neg (by simpa using h), w64 (by omega) (by omega)]
 ·rw [if_pos h, if_pos h, w64 (by omega) (by omega)]
theorem cmpP_lt {p q : ApiParam} : cmpP p q < 0 ↔ ltP p q = true := by
 unfold cmpP ltP
 simp only [decide_eq_true_eq]
 split <;> omega
theorem cmpP_ge {p q : ApiParam} : decide (0 ≤ cmpP p q) = !ltP p q := by
 have := cmpP_lt (p := p) (q := q)
 cases h : ltP p q with
 | true => rw [h] at this; simp; exact this.2 rfl
 | false => rw [h] at this; simp at this; simpa using this
theorem f85_eq (p q : ApiParam) : f85 p q = some (ltP p q) := by
 unfold f85 ltP
 simp only [decide_eq_true_eq]
 by_cases h1 : p.fChannel < q.fChannel
 ·simp [h1]
 ·by_cases h2 : p.fChannel = q.fChannel
  ·simp [h1, h2]
  ·simp [h1, h2]
theorem f83_eq (v : ApiValue) : f83 v = some (valS v) := by
 unfold f83 valS
 simp only [f126_eq, Option.bind_some, decide_eq_true_eq]
 by_cases h1 : v.fPalette = 0
 ·cases h2 : isLev v.fLevel <;> simp [h1, h2]
 ·by_cases h3 : -1 ≤ v.fPalette <;> by_cases h4 : v.fPalette ≤ 1048576 <;> by_cases h5 : v.fLevel = 0 <;> simp [h1, h3, h4, h5]
theorem f86_eq (v : ApiValue) : f86 v = some (valS v) := by
 unfold f86 valS
 simp only [f127_eq, Option.bind_some, decide_eq_true_eq]
 by_cases h1 : v.fPalette = 0
 ·cases h2 : isLev v.fLevel <;> simp [h1, h2]
 ·by_cases h3 : -1 ≤ v.fPalette <;> by_cases h4 : v.fPalette ≤ 1048576 <;> by_cases h5 : v.fLevel = 0 <;> simp [h1, h3, h4, h5]
theorem f121_eq (x : ApiEntry) : f121 x = some (entE x) := by
 unfold f121 entE
 simp only [f122_eq, f83_eq, Option.bind_some, decide_eq_true_eq]
 by_cases h1 : valP 1 x.fParam = 0 <;> simp [h1]
theorem entE_ok {x : ApiEntry} (h : entE x = 0) : okP x.fParam ∧ 1 ≤ x.fParam.fChannel ∧ valP 1 x.fParam = 0 ∧ valS x.fValue = 0 := by
 unfold entE at h
 split at h
 ·rename_i h1; exact absurd h h1
 ·rename_i h1
  have h1 : valP 1 x.fParam = 0 := by simpa using h1
  have := valP_ok h1
  exact ⟨⟨by omega, by omega, by omega, by omega⟩, by omega, h1, h⟩
theorem f124_eq {a b : ApiEntry} (ha : okP a.fParam) (hb : okP b.fParam) : f124 a b = some (cmpP a.fParam b.fParam) := by
 unfold f124; rw [f125_eq ha hb]; rfl
theorem f82_eq (l : List ApiEntry) : f82 l = some (entS l) := by
 unfold f82 f123_121_124 entS
 by_cases hl : 4096 < l.length
 ·rw [if_pos (by simp; omega), if_pos hl]; rfl
 rw [if_neg (by simp; omega), if_neg hl]
 have := run_goC (L := f123_121_124_L1 l) (xs := l) entE ltE (fun _ => 0) (by omega) (fun x hx hlt hat => by
  simp only [f123_121_124_L1, stepC, badC, f121_eq]
  rw [if_pos hlt, hat]
  simp only [Option.bind_some]
  by_cases h1 : entE x = 0 <;> simp [h1, roundC, IntKind.wrap_i64]) (fun k q x hq hx hlt hat hpr hpos hw v1 v2 => by
  simp only [f123_121_124_L1, stepC, badC, f121_eq]
  rw [if_pos hlt, hat]
  simp only [Option.bind_some]
  by_cases h1 : entE x = 0
  ·rw [if_neg (by simpa using h1), if_neg (nn h1), if_pos hpos, hpr, Option.bind_some, f124_eq (entE_ok v1).1 (entE_ok h1).1, hw]
   simp only [Option.bind_some]
   rw [cmpP_ge]
   unfold ltE
   cases ltP q.fParam x.fParam <;> rfl
  ·simp [h1, roundC]) (by simp only [f123_121_124_L1]; rw [at_end]; rfl)
 exact congrArg (fun o => o.bind fun r => some r) this
theorem f26_self {xs : List ApiEntry} (hl : xs.length ≤ 9223372036854775807) : f26 xs xs = some true := by
 unfold f26
 rw [if_neg (by simp)]
 have hrun : Lp.run (f26_L1 xs xs) 0 = some (.inl ()) := by
  refine run_all (xs := xs) (fun k x hx => ?_) (if_neg (by simp))
  have r := Rnd.mk' hx hl
  refine (if_pos r.lt).trans ?_
  rw [r.at']
  simp only [Option.bind_some, r.nxt, beq_self_eq_true, Bool.and_self, Bool.not_true, Bool.false_eq_true, if_false]
 rw [hrun, Option.bind_some]
def homE (p : ApiParam) : ApiEntry := ⟨p, ⟨-1, 0⟩⟩
theorem valS_home : valS ⟨-1, 0⟩ = 0 := by decide
theorem entE_home (p : ApiParam) : entE (homE p) = valP 1 p := by
 unfold entE homE
 by_cases h : valP 1 p = 0
 ·rw [if_neg (by simpa using h), valS_home, h]
 ·rw [if_pos h]
theorem goC_home : ∀ (ps : List ApiParam) (a : Option ApiParam), goC entE ltE (fun _ => 0) (a.map homE) (ps.map homE) = goC (valP 1) ltP (fun _ => 0) a ps
 | [], _ => rfl
 | p :: ps, a => by
  simp only [List.map_cons, goC, entE_home]
  have hb : badC ltE (a.map homE) (homE p) = badC ltP a p := by cases a <;> rfl
  rw [hb]
  have ih := goC_home ps (some p)
  simp only [Option.map_some] at ih
  rw [ih]
theorem flat_one {τ ρ : Type} (f : τ → ρ) : ∀ xs : List τ, (xs.flatMap fun x => [f x]) = xs.map f
 | [] => rfl
 | x :: xs => by rw [List.flatMap_cons, flat_one f xs]; rfl
theorem f39_L1_eq {ps : List ApiParam} {v : ApiValue} (hl : ps.length ≤ 1048576) : Lp.run (f39_L1 ps v) (0, []) = some (ps.map homE) := by
 rw [run_collect (L := f39_L1 ps v) (xs := ps) (fun p => [homE p]) (fun k acc x hx ha => by
  have hk := getElem?_lt hx
  simp only [f39_L1]
  rw [if_pos (at_lt hx), at_nat hx, Option.bind_some, app_some (by simp; omega) (by simp; omega), Option.bind_some, w64_succ (by omega)]
  try rfl) (fun _ => by simp) (fun acc => by simp only [f39_L1]; rw [at_end]; rfl), flat_one]
theorem f87_eq {ps : List ApiParam} {v : ApiValue} (hl : ps.length ≤ 1048576) : f87 ps v = some (ps.map fun p => ⟨p, v⟩) := by
 unfold f87
 rw [run_collect (L := f87_L1 ps v) (xs := ps) (fun p => [(⟨p, v⟩ : ApiEntry)]) (fun k acc x hx ha => by
  have hk := getElem?_lt hx
  simp only [f87_L1]
  rw [if_pos (at_lt hx), at_nat hx, Option.bind_some, app_some (by simp; omega) (by simp; omega), Option.bind_some, w64_succ (by omega)]
  try rfl) (fun _ => by simp) (fun acc => by simp only [f87_L1]; rw [at_end]; rfl), flat_one]
 rfl
def setE (v : ApiValue) (p : ApiParam) : ApiEntry := ⟨p, v⟩
def midE (v : ApiValue) (ps : List ApiParam) (k : Nat) : List ApiEntry := (ps.take k).map (setE v) ++ (ps.drop k).map homE
theorem midE_at {v : ApiValue} {ps : List ApiParam} {k : Nat} (hk : k < ps.length) : (midE v ps k)[k]? = some (homE ps[k]) := by
 have hl : ((ps.take k).map (setE v)).length = k := by rw [List.length_map, List.length_take]; omega
 unfold midE
 rw [List.getElem?_append_right (by omega), hl, Nat.sub_self, List.drop_eq_getElem_cons hk]
 rfl
theorem midE_set {v : ApiValue} {ps : List ApiParam} {k : Nat} (hk : k < ps.length) : (midE v ps k).set k (setE v ps[k]) = midE v ps (k + 1) := by
 have hl : ((ps.take k).map (setE v)).length = k := by rw [List.length_map, List.length_take]; omega
 unfold midE
 rw [List.set_append_right _ _ (by omega), hl, Nat.sub_self, List.drop_eq_getElem_cons hk, List.take_succ_eq_append_getElem hk, List.map_append, List.append_assoc]
 rfl
theorem f39_L2_eq {ps : List ApiParam} {v : ApiValue} (hl : ps.length ≤ 1048576) : Lp.run (f39_L2 (ps.map homE) v) (0, ps.map homE) = some (ps.map (setE v)) := by
 have := run_count (L := f39_L2 (ps.map homE) v) (e := ps.map (setE v)) (fun k => ((k : Int), midE v ps k)) ps.length ?_ 0 (by omega) fun k _ hk => ?_
 ·exact this
 ·simp only [f39_L2]
  rw [List.length_map, at_end, if_neg (by simp)]
  unfold midE
  rw [List.take_of_length_le (Nat.le_refl _), List.drop_of_length_le (Nat.le_refl _), List.map_nil, List.append_nil]
 ·have hx := List.getElem?_eq_getElem hk
  simp only [f39_L2]
  rw [List.length_map, if_pos (at_lt hx), at_nat (midE_at hk), Option.bind_some, w64_succ (by omega), Int.toNat_natCast]
  exact congrArg (fun z => some (Ctl.next (((k + 1 : Nat) : Int), z))) (midE_set hk)
def entsS (ps : List ApiParam) (v : ApiValue) : List ApiEntry × Int :=
 if 4096 < ps.length then ([], 5) else if goC (valP 1) ltP (fun _ => 0) none ps ≠ 0 then ([], goC (valP 1) ltP (fun _ => 0) none ps) else if valS v ≠ 0 then ([], valS v) else (ps.map fun p => ⟨p, v⟩, 0)
theorem f39_eq {ps : List ApiParam} (v : ApiValue) (hl : ps.length ≤ 1048576) : f39 ps v = some (entsS ps v) := by
 unfold f39 entsS
 rw [f39_L1_eq hl, Option.bind_some, f82_eq, Option.bind_some]
 unfold entS
 rw [List.length_map]
 by_cases h0 : 4096 < ps.length
 ·rw [if_pos h0, if_pos h0]
  rfl
 ·rw [if_neg h0, if_neg h0]
  have := goC_home ps none
  simp only [Option.map_none] at this
  rw [this]
  by_cases h1 : goC (valP 1) ltP (fun _ => 0) none ps = 0
  ·rw [if_neg (by simpa using h1), if_neg (nn h1), f83_eq, Option.bind_some]
   by_cases h2 : valS v = 0
   ·rw [if_neg (by simpa using h2), if_neg (nn h2), f39_L2_eq hl]
    rfl
   ·rw [if_pos (by simpa using h2), if_pos h2]
  ·rw [if_pos (by simpa using h1), if_pos h1]
theorem f40_eq {ps : List ApiParam} (v : ApiValue) (hl : ps.length ≤ 1048576) : f40 ps v = some (entsS ps v) := by
 unfold f40 entsS
 by_cases h0 : 4096 < ps.length
 ·rw [if_pos (by simp; omega), if_pos h0]
 ·rw [if_neg (by simp; omega), if_neg h0]
  have hrun := run_goC2 (L := f40_L1 ps v) (valP 1) ltP (fun _ => 0) (xs := ps) (by omega) (fun x hx hlt hat => by
   simp only [f40_L1, stepC, badC, f84_eq]
   rw [if_pos hlt, hat]
   simp only [Option.bind_some]
   by_cases h1 : valP 1 x = 0 <;> simp [h1, roundC, IntKind.wrap_i64]) (fun k q x hq hx hlt hat hpr hpos hw v1 v2 => by
   simp only [f40_L1, stepC, badC, f84_eq]
   rw [if_pos hlt, hat, hw]
   simp only [Option.bind_some]
   by_cases h1 : valP 1 x = 0
   ·rw [hpr]
    simp only [if_pos hpos, Option.bind_some, f85_eq]
    rcases Bool.eq_false_or_eq_true (ltP q x) with h3 | h3 <;> simp [h1, h3, roundC]
   ·simp [h1, roundC]) (by simp only [f40_L1]; rw [at_end]; rfl)
  rw [hrun, Option.bind_some]
  by_cases h1 : goC (valP 1) ltP (fun _ => 0) none ps = 0
  ·rw [if_pos h1, if_neg (nn h1)]
   dsimp only
   rw [f86_eq, Option.bind_some]
   by_cases h2 : valS v = 0
   ·rw [if_neg (by simpa using h2), if_neg (nn h2), f87_eq hl]
    rfl
   ·rw [if_pos (by simpa using h2), if_pos h2]
  ·rw [if_neg h1, if_pos h1]
theorem entsS_len {ps : List ApiParam} {v : ApiValue} (hl : ps.length ≤ 1048576) : (entsS ps v).1.length ≤ 1048576 := by
 unfold entsS
 split
 ·simp
 ·split
  ·simp
  ·split
   ·simp
   ·simpa using hl
theorem f10_eq (ps : List ApiParam) (v : ApiValue) (hl : ps.length ≤ 1048576) : f10 ps v = some true := by
 have hJ : (f10_J1 ps v).run () = some true := by
  simp only [f10_J1]
  rw [f39_eq v hl, f40_eq v hl, f12_eq]
  simp only [Option.bind_some, if_true]
  rw [f26_self (by have := entsS_len (v := v) hl; omega)]
  simp
 unfold f10
 rw [hJ, f12_eq]
 split
 ·split <;> rfl
 ·rfl
end Go.Proofs.YtnaemmpcffnbkaaGreatDoor
