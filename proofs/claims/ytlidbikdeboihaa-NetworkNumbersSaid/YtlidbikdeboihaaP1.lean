/-
  Plain laws of the sender of layer 56: what the functions that the examples reach compute.
-/
import Derived.Test.YtlidbikdeboihaaX2
set_option linter.unusedSimpArgs false
set_option linter.unusedVariables false
namespace Go.Proofs.Ytlidbikdeboihaa
open Go Go.Ab

/-! ## Loops that look for the first -/

/-- A loop that counts from 0 to n and leaves at the first place of which g tells something. -/
theorem run_first {E : Type} {L : Lp Int E} (n : Nat) (g : Nat → Option E) (e : E) (hb : ∀ i, i < n → L.body (i : Int) = some (match g i with | none => .next ((i + 1 : Nat) : Int) | some x => .brk x)) (he : L.body (n : Int) = some (.brk e)) :
    L.run 0 = some (((List.range n).findSome? g).getD e) := by
  have key : ∀ m k, n = k + m → (∀ i, i < k → g i = none) → L.run (k : Int) = some (((List.range n).findSome? g).getD e) := by
    intro m
    induction m with
    | zero =>
      intro k hk hn
      have : (List.range n).findSome? g = none := by
        rw [List.findSome?_eq_none_iff]
        intro i hi
        exact hn i (by have := List.mem_range.1 hi; omega)
      rw [this]
      have hkn : k = n := by omega
      subst hkn
      exact iter_brk he
    | succ m ih =>
      intro k hk hn
      have hkn : k < n := by omega
      have hbk := hb k hkn
      cases hg : g k with
      | none =>
        rw [hg] at hbk
        rw [show L.run (k : Int) = iter L.body (k : Int) from rfl, iter_next hbk]
        exact ih (k + 1) (by omega) fun i hi => by
          by_cases h : i = k
          · subst h; exact hg
          · exact hn i (by omega)
      | some x =>
        rw [hg] at hbk
        rw [show L.run (k : Int) = iter L.body (k : Int) from rfl, iter_brk hbk]
        have : (List.range n).findSome? g = some x := by
          have hsplit : List.range n = List.range k ++ (List.range' k (m + 1)) := by
            rw [hk, List.range_eq_range', List.range_eq_range', ← List.range'_append_1]; simp
          rw [hsplit, List.findSome?_append]
          have h0 : (List.range k).findSome? g = none := by
            rw [List.findSome?_eq_none_iff]
            intro i hi
            exact hn i (List.mem_range.1 hi)
          rw [h0, List.range'_succ, List.findSome?_cons, hg]
          rfl
        rw [this]
        rfl
  exact key n 0 (by omega) fun i hi => absurd hi (Nat.not_lt_zero i)

/-! ## Numbers -/

def wi (n lo hi : Int) : Bool := decide (lo ≤ n) && decide (n ≤ hi)
theorem f40_eq (n a b : Int) : f40 n a b = some (wi n a b) := by
  unfold f40 wi
  by_cases h : a ≤ n <;> simp [h]
theorem wi_iff {n a b : Int} : wi n a b = true ↔ a ≤ n ∧ n ≤ b := by simp [wi]

def namedS (source priority sync : Int) : Bool := decide (0 < source) && (decide (source < 281474976710655) && (wi priority 0 200 && wi sync 0 8))
theorem f38_eq (a b c : Int) : f38 a b c = some (namedS a b c) := by
  unfold f38 namedS
  simp only [f40_eq, Option.bind_some]
  by_cases h1 : 0 < a <;> by_cases h2 : a < 281474976710655 <;> cases h3 : wi b 0 200 <;> simp [h1, h2, h3]

theorem f36_eq (n : Int) : f36 n = some (wi n 0 255) := by unfold f36; simp [f40_eq]

def newS (a b c : Int) : NetworkSender × Int := if namedS a b c = true then (⟨a, b, c, 0, []⟩, 0) else (⟨0, 0, 0, 0, []⟩, 2)
theorem f17_eq (a b c : Int) : f17 a b c = some (newS a b c) := by
  unfold f17 newS
  rw [f38_eq]
  cases h : namedS a b c <;> simp [h]

def newerS (old seq : Int) : Bool := wi old 0 255 && (wi seq 0 255 && (decide (0 < (seq - old + 256).tmod 256) && decide ((seq - old + 256).tmod 256 < 237)))
theorem f12_eq (a b : Int) : f12 a b = some (newerS a b) := by
  unfold f12 newerS
  simp only [f36_eq, Option.bind_some]
  cases h1 : wi a 0 255
  · simp
  · cases h2 : wi b 0 255
    · simp
    · have := wi_iff.1 h1; have := wi_iff.1 h2
      rw [w64 (a := b - a) (by omega) (by omega), w64 (by omega) (by omega)]
      by_cases h : 0 < (b - a + 256).tmod 256 <;> simp [h]

def nextSeq (n : Int) : Int := (n + 1).tmod 256
theorem f46_eq {n : Int} (h : wi n 0 255 = true) : f46 n = some (nextSeq n) := by
  have := wi_iff.1 h
  unfold f46 nextSeq
  rw [w64 (by omega) (by omega)]

/-! ## Frames, streams -/

def plainS (u v : Int) : ApiFrame := ⟨u, b8 (IntKind.u8.wrap v) :: Lib.repeatL [0] 511⟩
theorem f27_eq (u v : Int) : f27 u v = some (plainS u v) := by
  unfold f27 plainS f50 rep?
  rw [if_pos (by simp [room])]
  simp only [Option.bind_some, List.map_cons, List.map_nil]
  rw [cat_some (by simp [Lib.repeatL_length])]
  rfl

/-- The error of a stream at a place. -/
def stErr (l : List NetworkStream) (i : Nat) : Option Int := match l[i]? with
  | none => none
  | some x => if (wi x.fUniverse 1 8 && (wi x.fSeq 0 255 && (wi x.fLast 0 10000000 && wi x.fTimes 1 3))) = false then some 2 else if x.fSlots.length ≠ 512 then some 14 else if 0 < i then (match l[i - 1]? with
    | none => none
    | some y => if x.fUniverse ≤ y.fUniverse then some 9 else none) else none

def rightS (s : NetworkSender) : Int := if namedS s.fSource s.fPriority s.fSync = false then 2 else if wi s.fPulse 0 255 = false then 2 else if 8 < s.fStreams.length then 5 else ((List.range s.fStreams.length).findSome? (stErr s.fStreams)).getD 0

theorem f20_eq (s : NetworkSender) : f20 s = some (rightS s) := by
  unfold f20 rightS
  simp only [f38_eq, f36_eq, Option.bind_some]
  cases h1 : namedS s.fSource s.fPriority s.fSync
  · simp
  cases h2 : wi s.fPulse 0 255
  · simp
  by_cases h3 : 8 < s.fStreams.length
  · rw [if_neg (by simp), if_neg (by simp), if_pos (by simp; omega)]; simp [h3]
  rw [if_neg (by simp), if_neg (by simp), if_neg (by simp; omega)]
  have hrun := run_first (L := f20_L1 s) s.fStreams.length (fun i => (stErr s.fStreams i).map Sum.inr) (Sum.inl ()) (fun i hi => by
    have hx := List.getElem?_eq_getElem hi
    have hw : IntKind.i64.wrap ((i : Int) + 1) = ((i + 1 : Nat) : Int) := by rw [w64 (by omega) (by omega)]; omega
    simp only [f20_L1, stErr, hx]
    rw [if_pos (by simp; omega), at_nat hx]
    simp only [Option.bind_some, f40_eq, f36_eq]
    generalize hX : s.fStreams[i] = x
    cases a1 : wi x.fUniverse 1 8
    · simp
    cases a2 : wi x.fSeq 0 255
    · simp
    cases a3 : wi x.fLast 0 10000000
    · simp
    cases a4 : wi x.fTimes 1 3
    · simp
    by_cases a5 : x.fSlots.length = 512
    · by_cases a6 : 0 < i
      · have hw2 : IntKind.i64.wrap ((i : Int) - 1) = ((i - 1 : Nat) : Int) := by rw [w64 (by omega) (by omega)]; omega
        have hy := List.getElem?_eq_getElem (show i - 1 < s.fStreams.length by omega)
        generalize hY : s.fStreams[i - 1] = y at hy
        by_cases a7 : x.fUniverse ≤ y.fUniverse
        · simp [a5, a6, hw2, at_nat hy, hy, a7]
        · simp [a5, a6, hw2, at_nat hy, hy, a7, hw]
      · obtain rfl : i = 0 := by omega
        simp [a5]
        rfl
    · have a5' : ¬ (x.fSlots.length : Int) = 512 := by omega
      simp [a5, a5']) (by
    simp only [f20_L1]
    rw [if_neg (by simp)])
  rw [hrun]
  have : (List.range s.fStreams.length).findSome? (fun i => (stErr s.fStreams i).map (Sum.inr : Int → Unit ⊕ Int)) = ((List.range s.fStreams.length).findSome? (stErr s.fStreams)).map Sum.inr := by
    rw [List.map_findSome?]; rfl
  rw [this]
  cases h : (List.range s.fStreams.length).findSome? (stErr s.fStreams) <;> simp [h3, h]

/-- Is a stream later than a time? -/
theorem f63_eq {l : List NetworkStream} {t : Int} (hl : l.length ≤ 9223372036854775807) : f63_64 l t = some (l.any fun x => decide (t < x.fLast)) := by
  unfold f63_64 f89_64
  have hrun := run_first (L := f89_64_L1 l t) l.length (fun i => match l[i]? with | none => none | some x => if t < x.fLast then some (Sum.inr (i : Int)) else none) (Sum.inl ()) (fun i hi => by
    have hx := List.getElem?_eq_getElem hi
    have hw : IntKind.i64.wrap ((i : Int) + 1) = ((i + 1 : Nat) : Int) := by rw [w64 (by omega) (by omega)]; omega
    simp only [f89_64_L1, hx]
    rw [if_pos (by simp; omega), at_nat hx]
    simp only [Option.bind_some, f64p]
    by_cases h : t < l[i].fLast
    · simp [h]
    · simp [h, hw]) (by
    simp only [f89_64_L1]
    rw [if_neg (by simp)])
  rw [hrun]
  simp only [Option.bind_some]
  cases h : (List.range l.length).findSome? (fun i => match l[i]? with | none => none | some x => if t < x.fLast then some (Sum.inr (i : Int) : Unit ⊕ Int) else none) with
  | none =>
    rw [List.findSome?_eq_none_iff] at h
    have : l.any (fun x => decide (t < x.fLast)) = false := by
      rw [List.any_eq_false]
      intro x hx
      obtain ⟨i, hi, rfl⟩ := List.mem_iff_getElem.1 hx
      have := h i (List.mem_range.2 hi)
      rw [List.getElem?_eq_getElem hi] at this
      simp only at this
      split at this
      · cases this
      · rename_i hn; simp; omega
    rw [this]
    simp
  | some e =>
    obtain ⟨i, hi, he⟩ := List.exists_of_findSome?_eq_some h
    have hi := List.mem_range.1 hi
    rw [List.getElem?_eq_getElem hi] at he
    simp only at he
    split at he
    · rename_i hlt
      injection he with he; subst he
      have : l.any (fun x => decide (t < x.fLast)) = true := List.any_eq_true.2 ⟨l[i], List.getElem_mem hi, by simpa using hlt⟩
      rw [this]
      simp
    · cases he

def momentS (s : NetworkSender) (t : Int) : Int := if rightS s ≠ 0 then rightS s else if wi t 0 10000000 = false then 2 else if s.fStreams.any (fun x => decide (t < x.fLast)) = true then 9 else 0

theorem right_len {s : NetworkSender} (h : rightS s = 0) : s.fStreams.length ≤ 8 := by
  unfold rightS at h
  by_cases h1 : namedS s.fSource s.fPriority s.fSync = false
  · rw [if_pos h1] at h; cases h
  rw [if_neg h1] at h
  by_cases h2 : wi s.fPulse 0 255 = false
  · rw [if_pos h2] at h; cases h
  rw [if_neg h2] at h
  by_cases h3 : 8 < s.fStreams.length
  · rw [if_pos h3] at h; cases h
  · omega

theorem f41_eq (s : NetworkSender) (t : Int) : f41 s t = some (momentS s t) := by
  unfold f41 momentS
  simp only [f20_eq, f40_eq, Option.bind_some]
  by_cases h : rightS s = 0
  · have hl := right_len h
    rw [f63_eq (by omega)]
    cases h2 : wi t 0 10000000
    · simp [h]
    · cases h3 : s.fStreams.any (fun x => decide (t < x.fLast))
      · rw [if_neg (by simp [h]), if_neg (by simp), if_neg (by simp [h]), if_neg (by simp)]; rfl
      · rw [if_neg (by simp [h]), if_neg (by simp), if_neg (by simp [h]), if_neg (by simp)]; rfl
  · simp [h]

/-- The error of a frame at a place. -/
def frErr (l : List ApiFrame) (i : Nat) : Option Int := match l[i]? with
  | none => none
  | some x => if x.fUniverse < 1 then some 2 else if 8 < x.fUniverse then some 2 else if x.fSlots.length ≠ 512 then some 14 else if 0 < i then (match l[i - 1]? with
    | none => none
    | some y => if x.fUniverse ≤ y.fUniverse then some 9 else none) else none

def framesS (l : List ApiFrame) : Int := if 8 < l.length then 5 else ((List.range l.length).findSome? (frErr l)).getD 0

theorem f42_eq (l : List ApiFrame) : f42 l = some (framesS l) := by
  unfold f42 framesS
  by_cases h3 : 8 < l.length
  · rw [if_pos (by simp; omega)]; simp [h3]
  rw [if_neg (by simp; omega)]
  have hrun := run_first (L := f42_L1 l) l.length (fun i => (frErr l i).map Sum.inr) (Sum.inl ()) (fun i hi => by
    have hx := List.getElem?_eq_getElem hi
    have hw : IntKind.i64.wrap ((i : Int) + 1) = ((i + 1 : Nat) : Int) := by rw [w64 (by omega) (by omega)]; omega
    simp only [f42_L1, frErr, hx]
    rw [if_pos (by simp; omega), at_nat hx]
    simp only [Option.bind_some]
    generalize hX : l[i] = x
    by_cases a1 : x.fUniverse < 1
    · simp [a1]
    by_cases a2 : 8 < x.fUniverse
    · simp [a1, a2]
    by_cases a5 : x.fSlots.length = 512
    · by_cases a6 : 0 < i
      · have hw2 : IntKind.i64.wrap ((i : Int) - 1) = ((i - 1 : Nat) : Int) := by rw [w64 (by omega) (by omega)]; omega
        have hy := List.getElem?_eq_getElem (show i - 1 < l.length by omega)
        generalize hY : l[i - 1] = y at hy
        by_cases a7 : x.fUniverse ≤ y.fUniverse
        · simp [a1, a2, a5, a6, hw2, at_nat hy, hy, a7]
        · simp [a1, a2, a5, a6, hw2, at_nat hy, hy, a7, hw]
      · obtain rfl : i = 0 := by omega
        simp [a1, a2, a5]
        rfl
    · have a5' : ¬ (x.fSlots.length : Int) = 512 := by omega
      simp [a1, a2, a5, a5']) (by
    simp only [f42_L1]
    rw [if_neg (by simp)])
  rw [hrun]
  have : (List.range l.length).findSome? (fun i => (frErr l i).map (Sum.inr : Int → Unit ⊕ Int)) = ((List.range l.length).findSome? (frErr l)).map Sum.inr := by
    rw [List.map_findSome?]; rfl
  rw [this]
  cases h : (List.range l.length).findSome? (frErr l) <;> simp [h3, h]

theorem f43_eq {l : List NetworkStream} (hl : l.length ≤ 1000) : f43 l = some l := by
  unfold f43
  have happ : app? 48 [] l = some ([] ++ l) := app_some (by simp only [List.length_nil]; omega) (by simp only [List.length_nil]; omega)
  cases l with
  | nil => rw [nil_nil (by rw [happ]; rfl)]; rfl
  | cons x xs => rw [nil_cons (by simp), happ]; simp

/-! ## A frame is sent -/

/-- Ascending universes from 1 to 8. -/
structure Asc (l : List NetworkStream) : Prop where
  rng : ∀ x ∈ l, 1 ≤ x.fUniverse ∧ x.fUniverse ≤ 8
  asc : l.Pairwise fun x y => x.fUniverse < y.fUniverse

/-- How many streams are of lesser universes. -/
def posS (l : List NetworkStream) (u : Int) : Nat := l.countP fun x => decide (x.fUniverse < u)
def hasS (l : List NetworkStream) (u : Int) : Bool := l.any fun x => decide (x.fUniverse = u)

theorem pos_le (l : List NetworkStream) (u : Int) : posS l u ≤ l.length := List.countP_le_length
theorem pos_spec {l : List NetworkStream} (h : l.Pairwise fun x y => x.fUniverse < y.fUniverse) (u : Int) : ∀ (i : Nat) x, l[i]? = some x → (x.fUniverse < u ↔ i < posS l u) := by
  induction l with
  | nil => intro i x hx; simp at hx
  | cons a l ih =>
    obtain ⟨h1, h2⟩ := List.pairwise_cons.1 h
    intro i x hx
    unfold posS
    rw [List.countP_cons]
    cases i with
    | zero =>
      simp at hx; subst hx
      by_cases hu : a.fUniverse < u
      · simp [hu]
      · simp only [hu, decide_false, if_neg (by simp : ¬ (false = true)), Nat.add_zero, false_iff, Nat.not_lt, Nat.le_zero]
        refine List.countP_eq_zero.2 fun y hy => ?_
        have := h1 y hy
        simp; omega
    | succ i =>
      have hx' : l[i]? = some x := by simpa using hx
      have := ih h2 i x hx'
      unfold posS at this
      rw [this]
      have hax := h1 x (List.mem_of_getElem? hx')
      by_cases hu : a.fUniverse < u
      · simp [hu]
      · have hz : l.countP (fun x => decide (x.fUniverse < u)) = 0 := List.countP_eq_zero.2 fun y hy => by
          have := h1 y hy
          simp; omega
        simp [hu, hz]

theorem f65_eq {l : List NetworkStream} (ha : Asc l) {u : Int} (hu : 1 ≤ u ∧ u ≤ 8) (hl : l.length ≤ 1000) : f65_66 l u = some ((posS l u : Int), hasS l u) := by
  have hp := pos_spec ha.asc u
  have hpl := pos_le l u
  unfold f65_66
  have hrun := run_eq (L := f65_66_L1 l u) (s0 := (0, (l.length : Int))) (e := (posS l u : Int)) (fun s => 0 ≤ s.1 ∧ s.1 ≤ s.2 ∧ s.2 ≤ l.length ∧ s.1 ≤ posS l u ∧ (posS l u : Int) ≤ s.2) (fun s => (s.2 - s.1).toNat) (by refine ⟨?_, ?_, ?_, ?_, ?_⟩ <;> simp <;> omega) (by
    rintro ⟨i, j⟩ ⟨h1, h2, h3, h4, h5⟩
    simp only at h1 h2 h3 h4 h5
    simp only [f65_66_L1]
    by_cases hij : i < j
    · left
      rw [if_pos (by simpa using hij)]
      have e1 : IntKind.i64.wrap (i + j) = i + j := w64 (by omega) (by omega)
      have e2 : IntKind.u64.wrap (i + j) = i + j := by rw [IntKind.wrap_u64]; omega
      have e3 : min (Int.toNat 1) (IntKind.bits .u64) = 1 := by decide
      have e4 : Int.fdiv (i + j) (2 ^ 1) = (i + j) / 2 := by rw [Int.fdiv_eq_ediv_of_nonneg _ (by decide)]; rfl
      have e5 : IntKind.i64.wrap ((i + j) / 2) = (i + j) / 2 := w64 (by omega) (by omega)
      rw [e1, e2, e3, e4, e5]
      obtain ⟨m, hm⟩ : ∃ m : Nat, (i + j) / 2 = m := ⟨((i + j) / 2).toNat, by omega⟩
      rw [hm]
      have hml : m < l.length := by omega
      have hx := List.getElem?_eq_getElem hml
      generalize hX : l[m] = x at hx
      have hxr := ha.rng x (List.mem_of_getElem? hx)
      have hpm := hp m x hx
      rw [at_nat hx]
      simp only [Option.bind_some, f66]
      rw [w64 (a := x.fUniverse - u) (by omega) (by omega)]
      by_cases hlt : x.fUniverse < u
      · refine ⟨((m : Int) + 1, j), ?_, ?_, ?_⟩
        · rw [if_pos (by simp; omega), w64 (by omega) (by omega)]
        · have := hpm.1 hlt
          refine ⟨?_, ?_, ?_, ?_, ?_⟩ <;> simp only <;> omega
        · simp only; omega
      · refine ⟨(i, (m : Int)), ?_, ?_, ?_⟩
        · rw [if_neg (by simp; omega)]
        · have : ¬ m < posS l u := fun h => hlt (hpm.2 h)
          refine ⟨?_, ?_, ?_, ?_, ?_⟩ <;> simp only <;> omega
        · simp only; omega
    · right
      rw [if_neg (by simpa using hij)]
      have : i = posS l u := by omega
      rw [this])
  rw [hrun]
  simp only [Option.bind_some]
  by_cases hpe : posS l u < l.length
  · rw [if_pos (by simp; omega)]
    have hx := List.getElem?_eq_getElem hpe
    generalize hX : l[posS l u] = x at hx
    have hxr := ha.rng x (List.mem_of_getElem? hx)
    have hnlt : ¬ x.fUniverse < u := fun h => Nat.lt_irrefl _ ((hp _ x hx).1 h)
    rw [at_nat hx]
    simp only [Option.bind_some, f66]
    rw [w64 (by omega) (by omega)]
    have : hasS l u = decide (x.fUniverse - u = 0) := by
      unfold hasS
      by_cases he : x.fUniverse = u
      · rw [List.any_eq_true.2 ⟨x, List.mem_of_getElem? hx, by simpa using he⟩]; simp [he]
      · rw [show decide (x.fUniverse - u = 0) = false by simp; omega, List.any_eq_false]
        intro y hy
        obtain ⟨k, hk, rfl⟩ := List.mem_iff_getElem.1 hy
        simp only [decide_eq_true_eq]
        intro hyu
        have hyk := hp k _ (List.getElem?_eq_getElem hk)
        have hkp : ¬ k < posS l u := fun h => by have := hyk.2 h; omega
        have hlt : posS l u < k := by
          rcases Nat.lt_trichotomy k (posS l u) with h | h | h
          · exact absurd h hkp
          · subst h; rw [List.getElem?_eq_getElem hk] at hx; injection hx with hx; exact absurd (hx ▸ hyu) he
          · exact h
        have := List.pairwise_iff_getElem.1 ha.asc (posS l u) k hpe hk hlt
        rw [hX] at this
        omega
    rw [this]
  · rw [if_neg (by simp; omega)]
    have : hasS l u = false := by
      unfold hasS
      rw [List.any_eq_false]
      intro y hy
      obtain ⟨k, hk, rfl⟩ := List.mem_iff_getElem.1 hy
      have := (hp k _ (List.getElem?_eq_getElem hk)).2 (by omega)
      simp; omega
    rw [this]
end Go.Proofs.Ytlidbikdeboihaa
