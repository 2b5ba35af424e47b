/-
  Plain laws of the sender of layer 56: NetworkSends.
-/
import Derived.Test.YtlidbikdeboihaaP5
import Derived.Test.YtlidbikdeboihaaY51
set_option linter.unusedSimpArgs false
set_option linter.unusedVariables false
namespace Go.Proofs.Ytlidbikdeboihaa
open Go Go.Ab

/-! ## The model's own reading of the numbers and the streams -/

theorem f37_eq (n a b : Int) : f37 n a b = some (wi n a b) := by
  unfold f37 wi
  by_cases h : a ≤ n <;> simp [h]
theorem f39_eq (n : Int) : f39 n = some (decide (0 < n) && decide (n < 281474976710655)) := by
  unfold f39
  by_cases h : 0 < n <;> simp [h]

def refSt (x : NetworkStream) : Ref56Stream := ⟨x.fUniverse, x.fSeq, x.fLast, x.fTimes, x.fSlots⟩
def refSe (s : NetworkSender) : Ref56Sender := ⟨s.fSource, s.fPriority, s.fSync, s.fPulse, s.fStreams.map refSt⟩

theorem f16_eq {s : NetworkSender} (h : s.fStreams.length * 48 ≤ 140737488351232) : f16 s = some (refSe s) := by
  unfold f16
  have hrun := run_count (L := f16_L1 s) (e := s.fStreams.map refSt) (fun k => ((k : Int), (s.fStreams.take k).map refSt)) s.fStreams.length (by
    simp only [f16_L1]
    rw [if_neg (by simp)]
    simp) 0 (Nat.zero_le _) (fun k _ hk => by
    have hx := List.getElem?_eq_getElem hk
    have hw : IntKind.i64.wrap ((k : Int) + 1) = ((k + 1 : Nat) : Int) := by rw [w64 (by omega) (by omega)]; omega
    simp only [f16_L1]
    rw [if_pos (by simp; omega), at_nat hx, Option.bind_some, app_some (by simp; omega) (by simp; omega), Option.bind_some, hw, List.take_succ_eq_append_getElem hk, List.map_append]
    rfl)
  have h0 : (((0 : Nat) : Int), (s.fStreams.take 0).map refSt) = ((0 : Int), []) := by simp
  rw [h0] at hrun
  rw [hrun]
  rfl

theorem f15_some (r : Ref56Sender) : ∃ b, f15 r = some b := by
  unfold f15
  obtain ⟨e, he, _⟩ := run_ex (L := f15_L1 r) (s0 := 0) (fun _ => True) (fun i => 0 ≤ i ∧ i ≤ 20) (fun i => 20 - i.toNat) ⟨by omega, by omega⟩ (fun i hi => by
    simp only [f15_L1]
    by_cases h1 : i < (r.fStreams.length : Int)
    · by_cases h2 : i < 20
      · have hx := List.getElem?_eq_getElem (show i.toNat < r.fStreams.length by omega)
        have hi' : i = (i.toNat : Int) := by omega
        have hw : IntKind.i64.wrap (i + 1) = i + 1 := w64 (by omega) (by omega)
        rw [if_pos (by simpa using h1), if_pos (by simpa using h2)]
        rw [at_some hi.1 hx]
        simp only [Option.bind_some]
        by_cases h3 : 1024 < (r.fStreams[i.toNat].fSlots.length : Int)
        · rw [if_pos (by simpa using h3)]; exact .inr ⟨_, rfl, trivial⟩
        · rw [if_neg (by simpa using h3)]; exact .inl ⟨_, rfl, by rw [hw]; omega, by rw [hw]; omega⟩
      · rw [if_pos (by simpa using h1), if_neg (by simpa using h2)]; exact .inr ⟨_, rfl, trivial⟩
    · rw [if_neg (by simpa using h1)]; exact .inr ⟨_, rfl, trivial⟩)
  rw [he]
  cases e <;> exact ⟨_, rfl⟩

theorem f18_eq (a b c : Int) : f18 a b c = some (refSe (newS a b c).1, (newS a b c).2) := by
  unfold f18 newS namedS
  simp only [f39_eq, f37_eq, Option.bind_some]
  by_cases h1 : 0 < a <;> by_cases h2 : a < 281474976710655 <;> cases h3 : wi b 0 200 <;> cases h4 : wi c 0 8 <;> simp [h1, h2, refSe]

theorem f19_eq (a : Ref56Sender) (h : a.fStreams.length ≤ 9223372036854775806) : f19 a a = some true := by
  unfold f19
  simp only [ne_eq, not_true_eq_false, decide_false, Bool.false_eq_true, if_false]
  have hrun := run_count (L := f19_L1 a a) (e := Sum.inl ()) (fun k => (k : Int)) a.fStreams.length (by
    simp only [f19_L1]
    rw [if_neg (by simp)]) 0 (Nat.zero_le _) (fun k _ hk => by
    have hx := List.getElem?_eq_getElem hk
    have hw : IntKind.i64.wrap ((k : Int) + 1) = ((k + 1 : Nat) : Int) := by rw [w64 (by omega) (by omega)]; omega
    simp only [f19_L1]
    rw [if_pos (by simp; omega), at_nat hx]
    simp [hw])
  rw [show ((0 : Nat) : Int) = 0 from rfl] at hrun
  rw [hrun]
  rfl

theorem f21_eq (s : NetworkSender) : f21 (refSe s) = some (rightS s) := by
  unfold f21 rightS
  have hlen : (refSe s).fStreams.length = s.fStreams.length := by simp [refSe]
  have e1 : (refSe s).fSource = s.fSource := rfl
  have e2 : (refSe s).fPriority = s.fPriority := rfl
  have e3 : (refSe s).fSync = s.fSync := rfl
  have e4 : (refSe s).fPulse = s.fPulse := rfl
  simp only [f18_eq, f37_eq, Option.bind_some, hlen, e1, e2, e3, e4]
  unfold newS
  cases h1 : namedS s.fSource s.fPriority s.fSync
  · simp
  cases h2 : wi s.fPulse 0 255
  · simp
  by_cases h3 : 8 < s.fStreams.length
  · rw [if_neg (by simp), if_neg (by simp), if_pos (by simp; omega)]; simp [h3]
  rw [if_neg (by simp), if_neg (by simp), if_neg (by simp; omega)]
  have hat : ∀ i (hi : i < s.fStreams.length), (refSe s).fStreams[i]? = some (refSt s.fStreams[i]) := fun i hi => by simp [refSe, List.getElem?_eq_getElem hi]
  have hrun := run_first (L := f21_L1 (refSe s)) s.fStreams.length (fun i => (stErr s.fStreams i).map Sum.inr) (Sum.inl ()) (fun i hi => by
    have hx := List.getElem?_eq_getElem hi
    have hw : IntKind.i64.wrap ((i : Int) + 1) = ((i + 1 : Nat) : Int) := by rw [w64 (by omega) (by omega)]; omega
    simp only [f21_L1, stErr, hx, hlen]
    rw [if_pos (by simp; omega), at_nat (hat i hi)]
    simp only [Option.bind_some, f37_eq]
    generalize hX : s.fStreams[i] = x
    simp only [refSt]
    rcases Bool.eq_false_or_eq_true (wi x.fUniverse 1 8) with a1 | a1
    case inr => simp [a1]
    rcases Bool.eq_false_or_eq_true (wi x.fSeq 0 255) with a2 | a2
    case inr => simp [a1, a2]
    rcases Bool.eq_false_or_eq_true (wi x.fLast 0 10000000) with a3 | a3
    case inr => simp [a1, a2, a3]
    rcases Bool.eq_false_or_eq_true (wi x.fTimes 1 3) with a4 | a4
    case inr => simp [a1, a2, a3, a4]
    by_cases a5 : x.fSlots.length = 512
    · by_cases a6 : 0 < i
      · have hw2 : IntKind.i64.wrap ((i : Int) - 1) = ((i - 1 : Nat) : Int) := by rw [w64 (by omega) (by omega)]; omega
        have hy := List.getElem?_eq_getElem (show i - 1 < s.fStreams.length by omega)
        have hz := hat (i - 1) (by omega)
        generalize hY : s.fStreams[i - 1] = y at hy hz
        by_cases a7 : x.fUniverse ≤ y.fUniverse
        · simp [a1, a2, a3, a4, a5, a6, hw2, at_nat hz, hy, a7, refSt]
        · simp [a1, a2, a3, a4, a5, a6, hw2, at_nat hz, hy, a7, hw, refSt]
      · obtain rfl : i = 0 := by omega
        simp [a1, a2, a3, a4, a5]
        rfl
    · have a5' : ¬ (x.fSlots.length : Int) = 512 := by omega
      simp [a1, a2, a3, a4, a5, a5']) (by
    simp only [f21_L1, hlen]
    rw [if_neg (by simp)])
  rw [hrun]
  have : (List.range s.fStreams.length).findSome? (fun i => (stErr s.fStreams i).map (Sum.inr : Int → Unit ⊕ Int)) = ((List.range s.fStreams.length).findSome? (stErr s.fStreams)).map Sum.inr := by
    rw [List.map_findSome?]; rfl
  rw [this]
  cases h : (List.range s.fStreams.length).findSome? (stErr s.fStreams) <;> simp [h3, h]

theorem f47_eq (s : NetworkSender) (t : Int) : f47 (refSe s) t = some (momentS s t) := by
  unfold f47 momentS
  rw [f21_eq]
  simp only [Option.bind_some, f37_eq]
  by_cases h : rightS s = 0
  case neg => simp [h]
  simp only [h, ne_eq, not_true_eq_false, decide_false, if_false, Bool.false_eq_true]
  cases ht : wi t 0 10000000
  · simp
  simp only [Bool.not_true, Bool.false_eq_true, if_false, Bool.true_eq_false]
  have hl := right_len h
  have hlen : (refSe s).fStreams.length = s.fStreams.length := by simp [refSe]
  have hat : ∀ i (hi : i < s.fStreams.length), (refSe s).fStreams[i]? = some (refSt s.fStreams[i]) := fun i hi => by simp [refSe, List.getElem?_eq_getElem hi]
  have hrun := run_first (L := f47_L1 (refSe s) t) s.fStreams.length (fun i => match s.fStreams[i]? with | none => none | some x => if t < x.fLast then some (Sum.inr ()) else none) (Sum.inl ()) (fun i hi => by
    have hx := List.getElem?_eq_getElem hi
    have hw : IntKind.i64.wrap ((i : Int) + 1) = ((i + 1 : Nat) : Int) := by rw [w64 (by omega) (by omega)]; omega
    simp only [f47_L1, hlen]
    rw [if_pos (by simp; omega), at_nat (hat i hi), hx]
    simp only [Option.bind_some, refSt]
    by_cases h1 : t < s.fStreams[i].fLast <;> simp [h1, hw]) (by
    simp only [f47_L1, hlen]
    rw [if_neg (by simp)])
  rw [hrun]
  cases ha : s.fStreams.any fun x => decide (t < x.fLast)
  · have : (List.range s.fStreams.length).findSome? (fun i => match s.fStreams[i]? with | none => none | some x => if t < x.fLast then some (Sum.inr () : Unit ⊕ Unit) else none) = none := by
      rw [List.findSome?_eq_none_iff]
      intro i hi
      have hi' := List.mem_range.1 hi
      rw [List.getElem?_eq_getElem hi']
      have := List.any_eq_false.1 ha _ (List.getElem_mem hi')
      simp only [decide_eq_true_eq] at this
      simp [this]
    rw [this]
    simp
  · have : (List.range s.fStreams.length).findSome? (fun i => match s.fStreams[i]? with | none => none | some x => if t < x.fLast then some (Sum.inr () : Unit ⊕ Unit) else none) = some (Sum.inr ()) := by
      obtain ⟨x, hx, hd⟩ := List.any_eq_true.1 ha
      obtain ⟨i, hi, rfl⟩ := List.mem_iff_getElem.1 hx
      cases hf : (List.range s.fStreams.length).findSome? (fun i => match s.fStreams[i]? with | none => none | some x => if t < x.fLast then some (Sum.inr () : Unit ⊕ Unit) else none) with
      | none =>
        have := List.findSome?_eq_none_iff.1 hf i (List.mem_range.2 hi)
        rw [List.getElem?_eq_getElem hi] at this
        simp [of_decide_eq_true hd] at this
      | some e =>
        obtain ⟨j, hj, he⟩ := List.exists_of_findSome?_eq_some hf
        rw [List.getElem?_eq_getElem (List.mem_range.1 hj)] at he
        simp only at he
        split at he
        · exact he.symm ▸ rfl
        · cases he
    rw [this]
    simp

def refPk (p : NetworkPacket) : Ref56Packet := ⟨p.fSource, p.fUniverse, p.fPriority, p.fSeq, p.fSync, p.fEnd, p.fSlots⟩

theorem f26_eq {l : List NetworkPacket} (h : l.length ≤ 900) : f26 l = some (l.map refPk) := by
  unfold f26
  have hrun := run_count (L := f26_L1 l) (e := l.map refPk) (fun k => ((k : Int), (l.take k).map refPk)) l.length (by
    simp only [f26_L1]
    rw [if_neg (by simp)]
    simp) 0 (Nat.zero_le _) (fun k _ hk => by
    have hx := List.getElem?_eq_getElem hk
    have hw : IntKind.i64.wrap ((k : Int) + 1) = ((k + 1 : Nat) : Int) := by rw [w64 (by omega) (by omega)]; omega
    simp only [f26_L1]
    rw [if_pos (by simp; omega), at_nat hx, Option.bind_some, app_some (by simp; omega) (by simp; omega), Option.bind_some, hw, List.take_succ_eq_append_getElem hk, List.map_append]
    rfl)
  have h0 : (((0 : Nat) : Int), (l.take 0).map refPk) = ((0 : Int), []) := by simp
  rw [h0] at hrun
  rw [hrun]
  rfl

theorem f25_eq (a : List Ref56Packet) (h : a.length ≤ 900) : f25 a a = some true := by
  unfold f25
  simp only [ne_eq, not_true_eq_false, decide_false, Bool.false_eq_true, if_false]
  have hrun := run_count (L := f25_L1 a a) (e := Sum.inl ()) (fun k => (k : Int)) a.length (by
    simp only [f25_L1]
    rw [if_neg (by simp)]) 0 (Nat.zero_le _) (fun k _ hk => by
    have hx := List.getElem?_eq_getElem hk
    have hw : IntKind.i64.wrap ((k : Int) + 1) = ((k + 1 : Nat) : Int) := by rw [w64 (by omega) (by omega)]; omega
    simp only [f25_L1]
    rw [if_pos (by simp; omega), at_nat hx]
    simp [hw])
  rw [show ((0 : Nat) : Int) = 0 from rfl] at hrun
  rw [hrun]
  rfl

/-! ## Sending, in the model's own words -/

theorem f22_some (r : List ApiFrame) : ∃ b, f22 r = some b := by
  unfold f22
  obtain ⟨e, he, _⟩ := run_ex (L := f22_L1 r) (s0 := 0) (fun _ => True) (fun i => 0 ≤ i ∧ i ≤ 12) (fun i => 12 - i.toNat) ⟨by omega, by omega⟩ (fun i hi => by
    simp only [f22_L1]
    by_cases h1 : i < (r.length : Int)
    · by_cases h2 : i < 12
      · have hx := List.getElem?_eq_getElem (show i.toNat < r.length by omega)
        have hw : IntKind.i64.wrap (i + 1) = i + 1 := w64 (by omega) (by omega)
        rw [if_pos (by simpa using h1), if_pos (by simpa using h2)]
        rw [at_some hi.1 hx]
        simp only [Option.bind_some]
        by_cases h3 : 1024 < (r[i.toNat].fSlots.length : Int)
        · rw [if_pos (by simpa using h3)]; exact .inr ⟨_, rfl, trivial⟩
        · rw [if_neg (by simpa using h3)]; exact .inl ⟨_, rfl, by rw [hw]; omega, by rw [hw]; omega⟩
      · rw [if_pos (by simpa using h1), if_neg (by simpa using h2)]; exact .inr ⟨_, rfl, trivial⟩
    · rw [if_neg (by simpa using h1)]; exact .inr ⟨_, rfl, trivial⟩)
  rw [he]
  cases e <;> exact ⟨_, rfl⟩

theorem f48_eq (l : List ApiFrame) : f48 l = some (framesS l) := by
  unfold f48 framesS
  by_cases h3 : 8 < l.length
  · rw [if_pos (by simp; omega)]; simp [h3]
  rw [if_neg (by simp; omega)]
  have hrun := run_first (L := f48_L1 l) l.length (fun i => (frErr l i).map Sum.inr) (Sum.inl ()) (fun i hi => by
    have hx := List.getElem?_eq_getElem hi
    have hw : IntKind.i64.wrap ((i : Int) + 1) = ((i + 1 : Nat) : Int) := by rw [w64 (by omega) (by omega)]; omega
    simp only [f48_L1, frErr, hx]
    rw [if_pos (by simp; omega), at_nat hx]
    simp only [Option.bind_some]
    generalize hX : l[i] = x
    by_cases a1 : x.fUniverse < 1
    · simp [a1]
    by_cases a2 : 8 < x.fUniverse
    · simp [a1, a2]
    by_cases a5 : x.fSlots.length = 512
    · by_cases a6 : 0 < i
      · have hw2 : IntKind.i64.wrap ((i : Int) - 1) = ((i - 1 : Nat) : Int) := by rw [w64 (by omega) (by omega)]; omega
        have hy := List.getElem?_eq_getElem (show i - 1 < l.length by omega)
        generalize hY : l[i - 1] = y at hy
        by_cases a7 : x.fUniverse ≤ y.fUniverse
        · simp [a1, a2, a5, a6, hw2, at_nat hy, hy, a7]
        · simp [a1, a2, a5, a6, hw2, at_nat hy, hy, a7, hw]
      · obtain rfl : i = 0 := by omega
        simp [a1, a2, a5]
        rfl
    · have a5' : ¬ (x.fSlots.length : Int) = 512 := by omega
      simp [a1, a2, a5, a5']) (by
    simp only [f48_L1]
    rw [if_neg (by simp)])
  rw [hrun]
  have : (List.range l.length).findSome? (fun i => (frErr l i).map (Sum.inr : Int → Unit ⊕ Int)) = ((List.range l.length).findSome? (frErr l)).map Sum.inr := by
    rw [List.map_findSome?]; rfl
  rw [this]
  cases h : (List.range l.length).findSome? (frErr l) <;> simp [h3, h]

/-- The place of a universe's stream, or −1. -/
def whereS (l : List NetworkStream) (u : Int) : Int := match l[posS l u]? with
  | some x => if x.fUniverse = u then (posS l u : Int) else -1
  | none => -1

theorem at_pos {l : List NetworkStream} (ha : Asc l) {u : Int} {i : Nat} {y : NetworkStream} (hy : l[i]? = some y) (hu : y.fUniverse = u) : i = posS l u := by
  have hp := pos_spec ha.asc u
  have h1 : ¬ i < posS l u := fun h => by have := (hp i y hy).2 h; omega
  rcases Nat.lt_trichotomy (posS l u) i with h | h | h
  · exfalso
    have hil := (List.getElem?_eq_some_iff.1 hy).1
    have hpl : posS l u < l.length := by omega
    have hlt := List.pairwise_iff_getElem.1 ha.asc (posS l u) i hpl hil h
    have hye := (List.getElem?_eq_some_iff.1 hy).2
    have hn : ¬ l[posS l u].fUniverse < u := fun h => Nat.lt_irrefl _ ((hp _ _ (List.getElem?_eq_getElem hpl)).1 h)
    rw [hye] at hlt
    omega
  · exact h.symm
  · exact absurd h h1

theorem f92_eq {l : List NetworkStream} (ha : Asc l) (hl : l.length ≤ 1000) (A B C D u : Int) : f92 ⟨A, B, C, D, l.map refSt⟩ u = some (whereS l u) := by
  unfold f92
  have hlen : (l.map refSt).length = l.length := by simp
  let g : Nat → Option (Unit ⊕ Int) := fun i => match l[i]? with | none => none | some x => if x.fUniverse = u then some (Sum.inr (i : Int)) else none
  have hrun := run_first (L := f92_L1 ⟨A, B, C, D, l.map refSt⟩ u) l.length g (Sum.inl ()) (fun i hi => by
    have hx := List.getElem?_eq_getElem hi
    have hat : (l.map refSt)[i]? = some (refSt l[i]) := by simp [hx]
    have hw : IntKind.i64.wrap ((i : Int) + 1) = ((i + 1 : Nat) : Int) := by rw [w64 (by omega) (by omega)]; omega
    simp only [f92_L1, hlen, g, hx]
    rw [if_pos (by simp; omega), at_nat hat]
    simp only [Option.bind_some, refSt]
    by_cases h1 : l[i].fUniverse = u <;> simp [h1, hw]) (by
    simp only [f92_L1, hlen]
    rw [if_neg (by simp)])
  rw [hrun]
  have hg : ∀ i e, g i = some e → i = posS l u ∧ e = Sum.inr (i : Int) ∧ ∃ x, l[i]? = some x ∧ x.fUniverse = u := fun i e h => by
    simp only [g] at h
    cases hx : l[i]? with
    | none => rw [hx] at h; cases h
    | some x =>
      rw [hx] at h
      simp only at h
      by_cases hu : x.fUniverse = u
      · rw [if_pos hu] at h
        injection h with h
        exact ⟨at_pos ha hx hu, h.symm, x, rfl, hu⟩
      · rw [if_neg hu] at h; cases h
  unfold whereS
  cases hf : (List.range l.length).findSome? g with
  | none =>
    have hn := List.findSome?_eq_none_iff.1 hf
    cases hx : l[posS l u]? with
    | none => simp
    | some x =>
      have := hn (posS l u) (List.mem_range.2 (List.getElem?_eq_some_iff.1 hx).1)
      simp only [g, hx] at this
      by_cases hu : x.fUniverse = u
      · rw [if_pos hu] at this; cases this
      · simp [hu]
  | some e =>
    obtain ⟨j, _, hj⟩ := List.exists_of_findSome?_eq_some hf
    obtain ⟨rfl, rfl, x, hx, hu⟩ := hg j e hj
    simp [hx, hu]

/-- The stream behind a frame, and whether it is told. -/
def pickS (t : Int) (f : ApiFrame) (l : List NetworkStream) : NetworkStream × Bool := match l[posS l f.fUniverse]? with
  | some x => if x.fUniverse = f.fUniverse then nextS t f x else (⟨f.fUniverse, 0, t, 1, f.fSlots⟩, true)
  | none => (⟨f.fUniverse, 0, t, 1, f.fSlots⟩, true)

theorem f68_eq {l : List NetworkStream} {t : Int} (hg : Good t l) (ht : 0 ≤ t ∧ t ≤ 10000000) (hl : l.length ≤ 1000) (A B C D : Int) (f : ApiFrame) :
    f68 ⟨A, B, C, D, l.map refSt⟩ t f = some (refSt (pickS t f l).1, (pickS t f l).2) := by
  unfold f68
  rw [f92_eq hg.toAsc hl]
  simp only [Option.bind_some]
  unfold pickS
  cases hx : l[posS l f.fUniverse]? with
  | none =>
    rw [show whereS l f.fUniverse = -1 by unfold whereS; rw [hx]]
    simp [refSt]
  | some x =>
    simp only
    by_cases hu : x.fUniverse = f.fUniverse
    · obtain ⟨ok1, ok2, ok3, ok4⟩ := hg.ok x (List.mem_of_getElem? hx)
      have hat : (l.map refSt)[posS l f.fUniverse]? = some (refSt x) := by simp [hx]
      have h1 : (IntKind.i64.wrap (x.fSeq + 1)).tmod 256 = nextSeq x.fSeq := by rw [w64 (by omega) (by omega)]; rfl
      have h2 : IntKind.i64.wrap (t - x.fLast) = t - x.fLast := w64 (by omega) (by omega)
      have h3 : IntKind.i64.wrap (x.fTimes + 1) = x.fTimes + 1 := w64 (by omega) (by omega)
      have hmin : (if x.fTimes + 1 < 3 then x.fTimes + 1 else 3) = min (x.fTimes + 1) 3 := by split <;> omega
      rw [show whereS l f.fUniverse = (posS l f.fUniverse : Int) by unfold whereS; rw [hx]; exact if_pos hu, if_pos hu, if_neg (by simp), at_nat hat]
      simp only [Option.bind_some, refSt, f68_J1, h1, h2, h3, hmin]
      by_cases hs : x.fSlots = f.fSlots
      · by_cases h4 : x.fTimes = 3
        · by_cases h5 : t - x.fLast < 1000
          · have h6 : ¬ 1000 ≤ t - x.fLast := by omega
            simp [nextS, hs, h4, h5, h6]
          · have h6 : x.fTimes < 3 ∨ 1000 ≤ t - x.fLast := by omega
            have h7 : 1000 ≤ t - x.fLast := by omega
            simp [nextS, hs, h4, h5, h7]
        · have h6 : x.fTimes < 3 := by omega
          simp [nextS, hs, h4, h6]
      · simp [nextS, hs]
    · rw [show whereS l f.fUniverse = -1 by unfold whereS; rw [hx]; exact if_neg hu, if_neg hu]
      simp [refSt]

/-- A stream put at its place. -/
def putS (l : List NetworkStream) (x : NetworkStream) : List NetworkStream := l.take (posS l x.fUniverse) ++ (x :: (l.drop (posS l x.fUniverse)).filter fun y => decide (y.fUniverse ≠ x.fUniverse))

theorem f69_eq {l : List NetworkStream} (ha : Asc l) (hl : l.length ≤ 1000) (x : NetworkStream) : f69 (l.map refSt) (refSt x) = some ((putS l x).map refSt) := by
  have hp := pos_spec ha.asc x.fUniverse
  have hpl := pos_le l x.fUniverse
  unfold f69 putS
  generalize posS l x.fUniverse = p at *
  have hlen : (l.map refSt).length = l.length := by simp
  let A : Nat → List NetworkStream := fun k => if k ≤ p then l.take k else l.take p ++ (x :: ((l.take k).drop p).filter fun y => decide (y.fUniverse ≠ x.fUniverse))
  have hA : ∀ k, k ≤ l.length → (A k).length ≤ k + 1 := fun k hk => by
    simp only [A]
    split
    · simp; omega
    · have := List.length_filter_le (fun y : NetworkStream => decide (y.fUniverse ≠ x.fUniverse)) ((l.take k).drop p)
      simp only [List.length_append, List.length_cons, List.length_take, List.length_drop] at this ⊢
      omega
  have happ : ∀ (a : List NetworkStream) (y : NetworkStream), a.length ≤ 1002 → app? 48 (a.map refSt) [refSt y] = some ((a ++ [y]).map refSt) := fun a y h => by
    rw [app_some (by simp; omega) (by simp; omega)]; simp
  have hrun := run_count (L := f69_L1 (l.map refSt) (refSt x)) (e := (decide (p < l.length), (A l.length).map refSt)) (fun k => (decide (p < k), (k : Int), (A k).map refSt)) l.length (by
    simp only [f69_L1, hlen]
    rw [if_neg (by simp)]) 0 (Nat.zero_le _) (fun k _ hk => by
    have hx := List.getElem?_eq_getElem hk
    have hat : (l.map refSt)[k]? = some (refSt l[k]) := by simp [hx]
    have hw : IntKind.i64.wrap ((k : Int) + 1) = ((k + 1 : Nat) : Int) := by rw [w64 (by omega) (by omega)]; omega
    have hpk := hp k _ hx
    have hAk := hA k (by omega)
    have htk := List.take_succ_eq_append_getElem hk
    generalize l[k] = y at *
    have hru : (refSt y).fUniverse = y.fUniverse := rfl
    have hrx : (refSt x).fUniverse = x.fUniverse := rfl
    simp only [f69_L1, f69_J2, hlen]
    rw [if_pos (by simp; omega), at_nat hat]
    simp only [Option.bind_some, hru, hrx]
    rcases Nat.lt_trichotomy k p with h | h | h
    · have hlt := hpk.2 h
      have e1 : A (k + 1) = A k ++ [y] := by simp only [A]; rw [if_pos (by omega), if_pos (by omega), htk]
      have n1 : ¬ p < k := by omega
      have n2 : ¬ p < k + 1 := by omega
      have n3 : ¬ x.fUniverse ≤ y.fUniverse := by omega
      have n4 : y.fUniverse ≠ x.fUniverse := by omega
      rw [e1]
      simp only [n1, n2, n3, n4, decide_false, decide_true, Bool.not_false, if_true, Bool.false_eq_true, if_false, ne_eq, not_false_eq_true]
      rw [happ _ _ (by omega), Option.bind_some, hw]
    · subst h
      have hge : x.fUniverse ≤ y.fUniverse := by have : ¬ y.fUniverse < x.fUniverse := fun h => Nat.lt_irrefl _ (hpk.1 h); omega
      have n1 : ¬ k < k := by omega
      have n2 : k < k + 1 := by omega
      have e0 : A k = l.take k := by simp only [A]; rw [if_pos (by omega)]
      have hd : (l.take (k + 1)).drop k = [y] := by
        rw [htk, List.drop_append_of_le_length (by simp; omega)]
        simp
      have e1 : A (k + 1) = l.take k ++ (x :: [y].filter fun y => decide (y.fUniverse ≠ x.fUniverse)) := by simp only [A]; rw [if_neg (by omega), hd]
      rw [e0] at hAk
      rw [e1, e0]
      simp only [n1, n2, hge, decide_false, decide_true, Bool.not_false, if_true]
      rw [happ _ _ (by omega)]
      simp only [Option.bind_some]
      by_cases h4 : y.fUniverse = x.fUniverse
      · simp [h4, hw]
      · simp only [h4, ne_eq, not_false_eq_true, decide_true, if_true]
        rw [happ _ _ (by simp; omega), Option.bind_some, hw]
        simp [h4]
    · have n1 : p < k := h
      have n2 : p < k + 1 := by omega
      have hd : (l.take (k + 1)).drop p = (l.take k).drop p ++ [y] := by
        rw [htk, List.drop_append_of_le_length (by simp; omega)]
      have e1 : A (k + 1) = A k ++ ([y].filter fun y => decide (y.fUniverse ≠ x.fUniverse)) := by
        simp only [A]; rw [if_neg (by omega), if_neg (by omega), hd, List.filter_append]; simp
      rw [e1]
      simp only [n1, n2, decide_true, Bool.not_true, Bool.false_eq_true, if_false]
      by_cases h4 : y.fUniverse = x.fUniverse
      · simp [h4, hw]
      · simp only [h4, ne_eq, not_false_eq_true, decide_true, if_true]
        rw [happ _ _ (by omega), Option.bind_some, hw]
        simp [h4])
  have h0 : (decide (p < 0), ((0 : Nat) : Int), (A 0).map refSt) = (false, (0 : Int), []) := by simp [A]
  rw [h0] at hrun
  rw [hrun]
  simp only [Option.bind_some]
  by_cases hpn : p < l.length
  · simp only [hpn, decide_true, Bool.not_true, Bool.false_eq_true, if_false, A]
    rw [if_neg (by omega), List.take_length]
  · have hpe : p = l.length := by omega
    simp only [hpn, decide_false, Bool.not_false, if_true]
    rw [happ _ _ (by have := hA l.length (Nat.le_refl _); omega), Option.bind_some]
    simp only [A]
    rw [if_pos (by omega), hpe]
    simp

theorem step_pick {S : NetworkSender} {t : Int} {f : ApiFrame} {l : List NetworkStream} {out : List NetworkPacket} (ha : Asc l) :
    stepS S t f l out = if (pickS t f l).2 = true then (putS l (pickS t f l).1, out ++ [tellS S (pickS t f l).1]) else (l, out) := by
  have hp := pos_spec ha.asc f.fUniverse
  unfold stepS pickS
  cases hx : l[posS l f.fUniverse]? with
  | none =>
    have hle : l.length ≤ posS l f.fUniverse := by simpa using hx
    simp only [if_true, putS]
    rw [List.take_of_length_le hle, List.drop_of_length_le hle]
    simp
  | some x =>
    simp only
    obtain ⟨hpl, hxe⟩ := List.getElem?_eq_some_iff.1 hx
    have hrest : ∀ y ∈ l.drop (posS l f.fUniverse + 1), x.fUniverse < y.fUniverse := fun y hy => by
      obtain ⟨k, hk, rfl⟩ := List.mem_iff_getElem.1 hy
      rw [List.length_drop] at hk
      rw [List.getElem_drop]
      have := List.pairwise_iff_getElem.1 ha.asc (posS l f.fUniverse) (posS l f.fUniverse + 1 + k) hpl (by omega) (by omega)
      rwa [hxe] at this
    have hd : l.drop (posS l f.fUniverse) = x :: l.drop (posS l f.fUniverse + 1) := by rw [List.drop_eq_getElem_cons hpl, hxe]
    by_cases he : x.fUniverse = f.fUniverse
    · rw [if_pos he, if_pos he]
      have hn : (nextS t f x).1.fUniverse = f.fUniverse := nextS_spec.trans he
      by_cases h2 : (nextS t f x).2 = true
      · simp only [h2, if_true, putS, hn]
        rw [hd, List.filter_cons_of_neg (by simp [he]), List.filter_eq_self.2 fun y hy => by have := hrest y hy; simp; omega]
        rw [List.set_eq_take_append_cons_drop, if_pos hpl]
      · simp only [h2, if_false]
        have hsame : (nextS t f x).1 = x := by
          unfold nextS at h2 ⊢
          split at h2
          · simp at h2
          · rename_i h3
            rw [if_neg h3]
            split at h2
            · simp at h2
            · rename_i h4
              rw [if_neg h4]
        rw [hsame, ← hxe, List.set_getElem_self hpl]
        simp
    · rw [if_neg he, if_neg he]
      have hnl : ¬ x.fUniverse < f.fUniverse := fun h => Nat.lt_irrefl _ ((hp _ x hx).1 h)
      simp only [if_true, putS]
      rw [List.filter_eq_self.2 fun y hy => by
        rw [hd] at hy
        rcases List.mem_cons.1 hy with rfl | hy
        · simp; omega
        · have := hrest y hy
          simp; omega]

theorem f49_eq {S : NetworkSender} {t : Int} {frames : List ApiFrame} (hm : momentS S t = 0) (hf : framesS frames = 0) :
    f49 (refSe S) t frames = some (refSe (sendS S t frames).1, (sendS S t frames).2.1.map refPk) := by
  obtain ⟨hr, ht, hg⟩ := moment_good hm
  obtain ⟨_, hpu, hsl, _⟩ := right_inv hr
  obtain ⟨hfl, hfo, _⟩ := frames_ok hf
  have hpu' := wi_iff.1 hpu
  let acc : Nat → List NetworkStream × List NetworkPacket := fun k => (frames.take k).foldl (fun p f => stepS S t f p.1 p.2) (S.fStreams, [])
  have hsucc : ∀ k (hk : k < frames.length), acc (k + 1) = stepS S t frames[k] (acc k).1 (acc k).2 := fun k hk => by
    simp only [acc]
    rw [List.take_succ_eq_append_getElem hk, List.foldl_append]
    rfl
  have hinv : ∀ k, k ≤ frames.length → Good t (acc k).1 ∧ (acc k).1.length ≤ 8 + k ∧ (acc k).2.length ≤ k := by
    intro k
    induction k with
    | zero => intro _; exact ⟨hg, by simpa [acc] using hsl, by simp [acc]⟩
    | succ k ih =>
      intro hk
      obtain ⟨i1, i2, i3⟩ := ih (by omega)
      rw [hsucc k (by omega)]
      have := step_len (S := S) (t := t) (f := frames[k]) (l := (acc k).1) (out := (acc k).2)
      generalize acc k = q at *
      obtain ⟨q1, q2⟩ := this
      exact ⟨good_step i1 ht.1 (hfo _ (List.getElem_mem _)), Nat.le_trans q1 (by omega), Nat.le_trans q2 (by omega)⟩
  have hend : acc frames.length = sentS S t frames := by simp [acc, sentS]
  have hlen : (sentS S t frames).2.length ≤ 8 := by
    have := (hinv frames.length (Nat.le_refl _)).2.2
    rw [hend] at this
    omega
  have hrun := run_count (L := f49_L1 frames (refSe S) t) (e := ((sentS S t frames).1.map refSt, (sentS S t frames).2.map refPk)) (fun k => ((k : Int), (acc k).1.map refSt, (acc k).2.map refPk)) frames.length (by
    simp only [f49_L1]
    rw [if_neg (by simp), hend]) 0 (Nat.zero_le _) (fun k _ hk => by
    obtain ⟨i1, i2, i3⟩ := hinv k (by omega)
    have hx := List.getElem?_eq_getElem hk
    have hw : IntKind.i64.wrap ((k : Int) + 1) = ((k + 1 : Nat) : Int) := by rw [w64 (by omega) (by omega)]; omega
    rw [hsucc k hk, step_pick i1.toAsc]
    have hfk := hfo _ (List.getElem_mem hk)
    generalize frames[k] = f at *
    generalize acc k = q at *
    simp only [f49_L1]
    rw [if_pos (by simp; omega), at_nat hx]
    simp only [Option.bind_some]
    rw [f68_eq i1 ht (by omega)]
    simp only [Option.bind_some, f49_J2]
    generalize hpk : pickS t f q.1 = pk
    obtain ⟨x', b⟩ := pk
    cases b
    · simp [hw]
    · simp only [if_true]
      have hre : Ref56Stream.mk (refSt x').fUniverse (refSt x').fSeq (refSt x').fLast (refSt x').fTimes (refSt x').fSlots = refSt x' := rfl
      rw [hre, f69_eq i1.toAsc (by omega)]
      simp only [Option.bind_some, f52]
      rw [app_some (by simp; omega) (by simp; omega), Option.bind_some, hw]
      simp [refPk, tellS, refSt, refSe])
  have h0 : (((0 : Nat) : Int), (acc 0).1.map refSt, (acc 0).2.map refPk) = ((0 : Int), (refSe S).fStreams, []) := by simp [acc, refSe]
  rw [h0] at hrun
  unfold f49 sendS
  rw [hrun, if_neg (by simp [hm]), if_neg (by simp [hf])]
  simp only [Option.bind_some]
  have hq : (IntKind.i64.wrap ((refSe S).fPulse + 1)).tmod 256 = nextSeq S.fPulse := by
    show (IntKind.i64.wrap (S.fPulse + 1)).tmod 256 = _
    rw [w64 (by omega) (by omega)]; rfl
  by_cases h1 : 0 < (sentS S t frames).2.length
  · rw [if_pos (by simp; omega)]
    by_cases h2 : S.fSync = 0
    · have h2' : (refSe S).fSync = 0 := h2
      simp [h2, h2']
      rfl
    · have h2' : ¬ (refSe S).fSync = 0 := h2
      rw [if_pos (by simp [h2']), app_some (by simp; omega) (by simp; omega), hq]
      simp [h1, h2]
      exact ⟨rfl, rfl⟩
  · rw [if_neg (by simp only [List.length_map, decide_eq_true_eq]; omega)]
    simp [h1]
    rfl

theorem f24_eq (S : NetworkSender) (t : Int) (frames : List ApiFrame) : f24 (refSe S) t frames = some (refSe (sendS S t frames).1, (sendS S t frames).2.1.map refPk, (sendS S t frames).2.2) := by
  unfold f24
  rw [f47_eq]
  simp only [Option.bind_some]
  by_cases hm : momentS S t = 0
  case neg => simp [hm, sendS, refSe]
  rw [if_neg (by simp [hm]), f48_eq]
  simp only [Option.bind_some]
  by_cases hf : framesS frames = 0
  case neg => simp [hm, hf, sendS, refSe]
  rw [if_neg (by simp [hf]), f49_eq hm hf]
  simp only [Option.bind_some]
  have : (sendS S t frames).2.2 = 0 := by
    unfold sendS
    rw [if_neg (by simp [hm]), if_neg (by simp [hf])]
    split <;> rfl
  rw [this]

theorem send_len (S : NetworkSender) (t : Int) (frames : List ApiFrame) : (sendS S t frames).1.fStreams.length ≤ 16 ∧ (sendS S t frames).2.1.length ≤ 9 := by
  by_cases hm : momentS S t = 0
  case neg => simp [hm, sendS]
  by_cases hf : framesS frames = 0
  case neg => simp [hm, hf, sendS]
  obtain ⟨hr, ht, hg⟩ := moment_good hm
  have hsl := right_len hr
  obtain ⟨hfl, hfo, _⟩ := frames_ok hf
  have key : ∀ (l : List ApiFrame) (p : List NetworkStream × List NetworkPacket), (l.foldl (fun p f => stepS S t f p.1 p.2) p).1.length ≤ p.1.length + l.length ∧ (l.foldl (fun p f => stepS S t f p.1 p.2) p).2.length ≤ p.2.length + l.length := by
    intro l
    induction l with
    | nil => intro p; simp
    | cons f l ih =>
      intro p
      have h1 := ih (stepS S t f p.1 p.2)
      have h2 := step_len (S := S) (t := t) (f := f) (l := p.1) (out := p.2)
      rw [List.foldl_cons, List.length_cons]
      omega
  have h1 := key frames (S.fStreams, [])
  have h2 : (sentS S t frames).1.length ≤ 16 ∧ (sentS S t frames).2.length ≤ 8 := by
    unfold sentS
    simp only [List.length_nil] at h1
    omega
  unfold sendS
  rw [if_neg (by simp [hm]), if_neg (by simp [hf])]
  split
  · simp only [List.length_append, List.length_cons, List.length_nil]; omega
  · simp only; omega

theorem f5_eq (s : NetworkSender) (t : Int) (frames : List ApiFrame) (h : s.fStreams.length * 48 ≤ 140737488351232) : f5 s t frames = some true := by
  unfold f5
  rw [f16_eq h]
  simp only [Option.bind_some]
  obtain ⟨b, hb⟩ := f15_some (refSe s)
  obtain ⟨c, hc⟩ := f22_some frames
  obtain ⟨l1, l2⟩ := send_len s t frames
  rw [hb]
  simp only [Option.bind_some]
  cases b
  · simp [f14_eq]
  simp only [Bool.not_true, Bool.false_eq_true, if_false]
  rw [hc]
  simp only [Option.bind_some]
  cases c
  · simp [f14_eq]
  rw [f23_eq, f14_eq]
  simp only [Option.bind_some, Bool.not_true, Bool.false_eq_true, if_false, if_true]
  rw [f24_eq]
  simp only [Option.bind_some]
  rw [f16_eq (by omega)]
  simp only [Option.bind_some]
  rw [f19_eq _ (by simp [refSe]; omega)]
  simp only [Option.bind_some, if_true]
  rw [f26_eq (by omega)]
  simp only [Option.bind_some]
  rw [f25_eq _ (by simp; omega)]
  simp
end Go.Proofs.Ytlidbikdeboihaa
