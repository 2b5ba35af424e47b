import Derived.Test.YtccipmhffapcmaaP1
namespace Go.Proofs.Ytccipmhffapcmaa
open Go Go.Ab
set_option linter.unusedSimpArgs false

/-- Well-formed groups. -/
def okG (g : ApiGroup) : Prop := g.fChannels.length ≤ 9223372036854775807

theorem f43_eq {xs ys : List Int} (hm : xs.length ≤ 9223372036854775807) : f43 xs ys = some (decide (xs = ys)) := by
  unfold f43
  by_cases hl : xs.length = ys.length
  · rw [if_neg (by simp; omega), run_equal (xs := xs) (ys := ys) (fun _ => rfl) hl hm]
    by_cases he : xs = ys <;> simp [he]
  · rw [if_pos (by simp; omega)]
    have : xs ≠ ys := fun e => hl (by rw [e])
    simp [this]

instance : DecidableEq ApiGroup := fun a b =>
  if h : a.fNumber = b.fNumber ∧ a.fChannels = b.fChannels then isTrue (by cases a; cases b; simp at h; simp [h]) else isFalse (fun e => h (by rw [e]; exact ⟨rfl, rfl⟩))

theorem grp_eq {a b : ApiGroup} : a = b ↔ a.fNumber = b.fNumber ∧ a.fChannels = b.fChannels := by
  cases a; cases b; simp

theorem f18_eq {a b : ApiGroup} (ha : okG a) : f18 a b = some (decide (a = b)) := by
  unfold f18
  rw [f16_eq ha]
  by_cases h1 : a.fNumber = b.fNumber <;> by_cases h2 : a.fChannels = b.fChannels <;> simp [grp_eq, h1, h2]

theorem f19_eq {a b : ApiGroup} (ha : okG a) : f19 a b = some (decide (a = b)) := by
  unfold f19
  rw [f43_eq ha]
  by_cases h1 : a.fNumber = b.fNumber <;> by_cases h2 : a.fChannels = b.fChannels <;> simp [grp_eq, h1, h2]

theorem f45_eq {xs : List Int} {v : Int} (hm : xs.length ≤ 9223372036854775807) : f45 xs v = some (decide (v ∈ xs)) := by
  obtain ⟨e, h1, h2⟩ := run_ex (L := f45_L1 xs v) (s0 := 0) (fun e => e = if v ∈ xs then Sum.inr () else Sum.inl ()) (fun i => ∃ k : Nat, i = k ∧ k ≤ xs.length ∧ v ∉ xs.take k) (fun i => xs.length - i.toNat) ⟨0, rfl, Nat.zero_le _, by simp⟩ (by
    rintro _ ⟨k, rfl, hk, ht⟩
    simp only [f45_L1]
    by_cases hlt : k < xs.length
    · rw [if_pos (by simpa using hlt), at_nat (List.getElem?_eq_getElem hlt)]
      simp only [Option.bind_some, decide_eq_true_eq]
      by_cases he : xs[k] = v
      · right
        have hmem : v ∈ xs := by rw [← he]; exact List.getElem_mem hlt
        exact ⟨_, if_pos he, by rw [if_pos hmem]⟩
      · left
        refine ⟨((k + 1 : Nat) : Int), ?_, ⟨k + 1, rfl, hlt, ?_⟩, by simp; omega⟩
        · rw [if_neg he, w64 (by omega) (by omega)]; rfl
        · rw [List.take_succ_eq_append_getElem hlt, List.mem_append, not_or]
          exact ⟨ht, by simpa using fun h => he h.symm⟩
    · right
      rw [if_neg (by simpa using hlt)]
      refine ⟨_, rfl, ?_⟩
      rw [List.take_of_length_le (by omega)] at ht
      rw [if_neg ht])
  unfold f45
  rw [h1, h2]
  by_cases he : v ∈ xs <;> simp [he]

theorem f21_eq (g : ApiGroup) : f21 g = some (checkG g) := by
  unfold f21 checkG
  by_cases h1 : g.fNumber < 1 ∨ g.fNumber > 1048576
  · rw [if_pos h1]
    by_cases h : g.fNumber < 1
    · rw [if_pos (by simpa using h)]
    · rw [if_neg (by simpa using h), if_pos (by simp; omega)]
  rw [if_neg h1, if_neg (by simp; omega), if_neg (by simp; omega)]
  by_cases h2 : g.fChannels.length > 256
  · rw [if_pos h2, if_pos (by simp; omega)]
  rw [if_neg h2, if_neg (by simp; omega)]
  generalize hms : g.fChannels = ms at h2
  obtain ⟨e, h3, h4⟩ := run_ex (L := f21_L1 g) (s0 := 0) (fun e => (match e with | Sum.inl () => some 0 | Sum.inr v => some v) = some (scan [] ms)) (fun i => ∃ k : Nat, i = k ∧ k ≤ ms.length ∧ scan (ms.take k) (ms.drop k) = scan [] ms) (fun i => ms.length - i.toNat) ⟨0, rfl, Nat.zero_le _, rfl⟩ (by
    rintro _ ⟨k, rfl, hk, hs⟩
    simp only [f21_L1, hms]
    by_cases hlt : k < ms.length
    · rw [if_pos (by simpa using hlt), at_nat (List.getElem?_eq_getElem hlt)]
      rw [List.drop_eq_getElem_cons hlt] at hs
      simp only [Option.bind_some, decide_eq_true_eq]
      by_cases c1 : ms[k] < 1
      · right; rw [if_pos c1]; refine ⟨_, rfl, ?_⟩; rw [← hs]; simp [scan, c1]
      rw [if_neg c1]
      by_cases c2 : 999 < ms[k]
      · right; rw [if_pos c2]; refine ⟨_, rfl, ?_⟩; rw [← hs]; simp [scan, c2]
      rw [if_neg c2, slc_some (by omega)]
      simp only [Option.bind_some, Int.toNat_natCast, Int.toNat_zero, List.drop_zero]
      rw [f45_eq (by simp; omega)]
      simp only [Option.bind_some, decide_eq_true_eq]
      by_cases c3 : ms[k] ∈ ms.take k
      · right; rw [if_pos c3]; refine ⟨_, rfl, ?_⟩; rw [← hs]; simp [scan, c1, c2, c3]
      · left; rw [if_neg c3]
        refine ⟨((k + 1 : Nat) : Int), by rw [w64 (by omega) (by omega)]; rfl, ⟨k + 1, rfl, hlt, ?_⟩, by simp; omega⟩
        rw [← hs, List.take_succ_eq_append_getElem hlt, scan, if_neg (by omega), if_neg c3]
    · right
      rw [if_neg (by simpa using hlt)]
      refine ⟨_, rfl, ?_⟩
      rw [← hs, List.drop_eq_nil_of_le (by omega)]
      rfl)
  rw [h3, Option.bind_some]
  exact h4

/-- The first fault of a table, behind a group. -/
def goT : Option ApiGroup → List ApiGroup → Int
  | _, [] => 0
  | p, g :: gs => if checkG g ≠ 0 then checkG g else match p with
    | some q => if g.fNumber ≤ q.fNumber then 9 else goT (some g) gs
    | none => goT (some g) gs
theorem goT_cons (p : Option ApiGroup) (g : ApiGroup) (gs : List ApiGroup) : goT p (g :: gs) = if checkG g ≠ 0 then checkG g else match p with
    | some q => if g.fNumber ≤ q.fNumber then 9 else goT (some g) gs
    | none => goT (some g) gs := by cases p <;> rfl
def tableS (l : List ApiGroup) : Int := if 32 < l.length then 5 else goT none l

/-- The group ahead of a place. -/
def befT (l : List ApiGroup) : Nat → Option ApiGroup
  | 0 => none
  | k + 1 => l[k]?

theorem f22_eq (l : List ApiGroup) : f22 l = some (tableS l) := by
  unfold f22 tableS
  by_cases h2 : 32 < l.length
  · rw [if_pos h2, if_pos (by simp; omega)]
  rw [if_neg h2, if_neg (by simp; omega)]
  obtain ⟨e, h3, h4⟩ := run_ex (L := f22_L1 l) (s0 := 0) (fun e => (match e with | Sum.inl () => some 0 | Sum.inr v => some v) = some (goT none l)) (fun i => ∃ k : Nat, i = k ∧ k ≤ l.length ∧ goT (befT l k) (l.drop k) = goT none l) (fun i => l.length - i.toNat) ⟨0, rfl, Nat.zero_le _, rfl⟩ (by
    rintro _ ⟨k, rfl, hk, hs⟩
    simp only [f22_L1]
    by_cases hlt : k < l.length
    · rw [if_pos (by simpa using hlt), at_nat (List.getElem?_eq_getElem hlt)]
      rw [List.drop_eq_getElem_cons hlt, goT_cons] at hs
      simp only [Option.bind_some, decide_eq_true_eq, f20_eq]
      by_cases c1 : checkG l[k] = 0
      · rw [if_neg (by simpa using c1)]
        rw [if_neg (by simpa using c1)] at hs
        have hw : IntKind.i64.wrap ((k : Int) + 1) = ((k + 1 : Nat) : Int) := by rw [w64 (by omega) (by omega)]; rfl
        cases k with
        | zero =>
          left
          rw [if_neg (by omega), hw]
          exact ⟨_, rfl, ⟨1, rfl, hlt, by simpa [befT, List.getElem?_eq_getElem hlt] using hs⟩, by simp; omega⟩
        | succ k =>
          rw [if_pos (by omega), w64 (a := ((k + 1 : Nat) : Int) - 1) (by omega) (by omega), show ((k + 1 : Nat) : Int) - 1 = (k : Int) by omega, at_nat (List.getElem?_eq_getElem (by omega : k < l.length)), Option.bind_some]
          simp only [befT, List.getElem?_eq_getElem (by omega : k < l.length)] at hs
          by_cases c2 : l[k + 1].fNumber ≤ l[k].fNumber
          · right
            rw [if_pos c2] at hs ⊢
            exact ⟨_, rfl, by rw [← hs]⟩
          · left
            rw [if_neg c2] at hs ⊢
            rw [hw]
            exact ⟨_, rfl, ⟨k + 2, rfl, hlt, by simpa [befT, List.getElem?_eq_getElem hlt] using hs⟩, by simp; omega⟩
      · right
        rw [if_pos (by simpa using c1)] at hs ⊢
        exact ⟨_, rfl, by rw [← hs]⟩
    · right
      rw [if_neg (by simpa using hlt)]
      refine ⟨_, rfl, ?_⟩
      rw [← hs, List.drop_eq_nil_of_le (by omega)]
      rfl)
  rw [h3, Option.bind_some]
  exact h4

theorem f23_eq (l : List ApiGroup) : f23 l = some (tableS l) := by
  unfold f23 tableS
  by_cases h2 : 32 < l.length
  · rw [if_pos h2, if_pos (by simp; omega)]
  rw [if_neg h2, if_neg (by simp; omega)]
  obtain ⟨e, h3, h4⟩ := run_ex (L := f23_L1 l) (s0 := 0) (fun e => (match e with | Sum.inl () => some 0 | Sum.inr v => some v) = some (goT none l)) (fun i => ∃ k : Nat, i = k ∧ k ≤ l.length ∧ goT (befT l k) (l.drop k) = goT none l) (fun i => l.length - i.toNat) ⟨0, rfl, Nat.zero_le _, rfl⟩ (by
    rintro _ ⟨k, rfl, hk, hs⟩
    simp only [f23_L1]
    by_cases hlt : k < l.length
    · rw [if_pos (by simpa using hlt), at_nat (List.getElem?_eq_getElem hlt)]
      rw [List.drop_eq_getElem_cons hlt, goT_cons] at hs
      simp only [Option.bind_some, decide_eq_true_eq, f21_eq]
      by_cases c1 : checkG l[k] = 0
      · rw [if_neg (by simpa using c1)]
        rw [if_neg (by simpa using c1)] at hs
        have hw : IntKind.i64.wrap ((k : Int) + 1) = ((k + 1 : Nat) : Int) := by rw [w64 (by omega) (by omega)]; rfl
        cases k with
        | zero =>
          left
          rw [if_neg (by omega), hw]
          exact ⟨_, rfl, ⟨1, rfl, hlt, by simpa [befT, List.getElem?_eq_getElem hlt] using hs⟩, by simp; omega⟩
        | succ k =>
          rw [if_pos (by omega), w64 (a := ((k + 1 : Nat) : Int) - 1) (by omega) (by omega), show ((k + 1 : Nat) : Int) - 1 = (k : Int) by omega, at_nat (List.getElem?_eq_getElem (by omega : k < l.length)), Option.bind_some]
          simp only [befT, List.getElem?_eq_getElem (by omega : k < l.length)] at hs
          by_cases c2 : l[k + 1].fNumber ≤ l[k].fNumber
          · right
            rw [if_pos c2] at hs ⊢
            exact ⟨_, rfl, by rw [← hs]⟩
          · left
            rw [if_neg c2] at hs ⊢
            rw [hw]
            exact ⟨_, rfl, ⟨k + 2, rfl, hlt, by simpa [befT, List.getElem?_eq_getElem hlt] using hs⟩, by simp; omega⟩
      · right
        rw [if_pos (by simpa using c1)] at hs ⊢
        exact ⟨_, rfl, by rw [← hs]⟩
    · right
      rw [if_neg (by simpa using hlt)]
      refine ⟨_, rfl, ?_⟩
      rw [← hs, List.drop_eq_nil_of_le (by omega)]
      rfl)
  rw [h3, Option.bind_some]
  exact h4

/-- Few groups, with few channels. -/
def fewS (l : List ApiGroup) : Bool := (l.take 60).all (fun g => !(decide (40 < g.fChannels.length) && decide (g.fChannels.length ≤ 256))) && decide (l.length ≤ 60)

theorem f17_eq (l : List ApiGroup) (hl : l.length ≤ 9223372036854775807) : f17 l = some (fewS l) := by
  obtain ⟨e, h3, h4⟩ := run_ex (L := f17_L1 l) (s0 := 0) (fun e => (match e with | Sum.inl () => some (decide (l.length ≤ 60)) | Sum.inr () => some false) = some (fewS l))
    (fun i => ∃ k : Nat, i = k ∧ k ≤ l.length ∧ k ≤ 60 ∧ (l.take k).all (fun g => !(decide (40 < g.fChannels.length) && decide (g.fChannels.length ≤ 256))) = true) (fun i => l.length - i.toNat) ⟨0, rfl, Nat.zero_le _, by omega, by simp⟩ (by
    rintro _ ⟨k, rfl, hk, hk6, hs⟩
    simp only [f17_L1]
    by_cases hlt : k < l.length
    · rw [if_pos (by simpa using hlt)]
      by_cases h6 : k < 60
      · rw [if_pos (by simp; omega), at_nat (List.getElem?_eq_getElem hlt)]
        simp only [Option.bind_some, decide_eq_true_eq]
        have hw : IntKind.i64.wrap ((k : Int) + 1) = ((k + 1 : Nat) : Int) := by rw [w64 (by omega) (by omega)]; rfl
        have nxt : (!(decide (40 < l[k].fChannels.length) && decide (l[k].fChannels.length ≤ 256))) = true → (l.take (k + 1)).all (fun g => !(decide (40 < g.fChannels.length) && decide (g.fChannels.length ≤ 256))) = true := fun h => by
          rw [List.take_succ_eq_append_getElem hlt, List.all_append, hs, List.all_cons, List.all_nil, h]; rfl
        by_cases c1 : 40 < l[k].fChannels.length
        · rw [if_pos (by omega)]
          by_cases c2 : l[k].fChannels.length ≤ 256
          · right
            rw [if_pos (by omega)]
            refine ⟨_, rfl, ?_⟩
            have : fewS l = false := by
              unfold fewS
              have hmem : l[k] ∈ l.take 60 := by
                rw [List.mem_take_iff_getElem]
                exact ⟨k, by omega, rfl⟩
              have : (l.take 60).all (fun g => !(decide (40 < g.fChannels.length) && decide (g.fChannels.length ≤ 256))) = false := by
                rw [List.all_eq_false]
                exact ⟨_, hmem, by simp [c1, c2]⟩
              rw [this]; rfl
            rw [this]
          · left
            rw [if_neg (by omega), hw]
            exact ⟨_, rfl, ⟨k + 1, rfl, hlt, by omega, nxt (by simp [c2])⟩, by simp; omega⟩
        · left
          rw [if_neg (by omega), hw]
          exact ⟨_, rfl, ⟨k + 1, rfl, hlt, by omega, nxt (by simp [c1])⟩, by simp; omega⟩
      · right
        rw [if_neg (by simp; omega)]
        refine ⟨_, rfl, ?_⟩
        have hk : k = 60 := by omega
        subst hk
        unfold fewS
        rw [hs]; rfl
    · right
      rw [if_neg (by simpa using hlt)]
      refine ⟨_, rfl, ?_⟩
      have hkl : k = l.length := by omega
      have : l.take 60 = l.take k := by rw [List.take_of_length_le (by omega), List.take_of_length_le (by omega)]
      unfold fewS
      rw [this, hs]; rfl)
  unfold f17
  rw [h3, Option.bind_some]
  have hc : decide (((l.length : Nat) : Int) ≤ 60) = decide (l.length ≤ 60) := by
    by_cases h : l.length ≤ 60
    · rw [decide_eq_true h, decide_eq_true (by omega)]
    · rw [decide_eq_false h, decide_eq_false (by omega)]
  rw [hc]
  exact h4

theorem f6_eq (l : List ApiGroup) (g : ApiGroup) (hl : l.length ≤ 9223372036854775807) (hg : okG g) (hall : ∀ x ∈ l, okG x) : f6 l g = some true := by
  unfold f6
  rw [f17_eq l hl, f17_eq [g] (by simp), f15_eq]
  simp only [Option.bind_some, if_true]
  by_cases h1 : fewS l = true
  · by_cases h2 : fewS [g] = true
    · rw [h1, h2]
      simp only [Bool.not_true, Bool.false_eq_true, if_false]
      have h3 : (f6_L1 l g).run 0 = some (Sum.inl ()) := by
        refine run_count (L := f6_L1 l g) (fun k => (k : Int)) l.length ?_ 0 (Nat.zero_le _) fun k _ hk => ?_
        · simp only [f6_L1]; rw [if_neg (by simp)]
        · simp only [f6_L1]
          have hok := hall _ (List.getElem_mem hk)
          rw [if_pos (by simpa using hk), at_nat (List.getElem?_eq_getElem hk), Option.bind_some, f18_eq hok, f19_eq hok]
          simp only [Option.bind_some, beq_self_eq_true, Bool.not_true, Bool.false_eq_true, if_false]
          rw [w64 (by omega) (by omega)]; rfl
      rw [h3]
      simp only [Option.bind_some, f20_eq, f21_eq, f22_eq, f23_eq, f18_eq hg, decide_true, if_true]
    · have : fewS [g] = false := by simpa using h2
      rw [h1, this]; rfl
  · have : fewS l = false := by simpa using h1
    rw [this]; rfl
end Go.Proofs.Ytccipmhffapcmaa
