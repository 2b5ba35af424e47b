/-
  Plain laws of the sender of layer 56: NetworkStops.
-/
import Derived.Test.YtlidbikdeboihaaP5
import Derived.Test.YtlidbikdeboihaaY81
set_option linter.unusedSimpArgs false
set_option linter.unusedVariables false
namespace Go.Proofs.Ytlidbikdeboihaa
open Go Go.Ab

/-! ## The model's own reading of the numbers and the streams -/

theorem f37_eq (n a b : Int) : f37 n a b = some (wi n a b) := by
  unfold f37 wi
  by_cases h : a ≤ n <;> simp [h]
theorem f39_eq (n : Int) : f39 n = some (decide (0 < n) && decide (n < 281474976710655)) := by
  unfold f39
  by_cases h : 0 < n <;> simp [h]

def refSt (x : NetworkStream) : Ref56Stream := ⟨x.fUniverse, x.fSeq, x.fLast, x.fTimes, x.fSlots⟩
def refSe (s : NetworkSender) : Ref56Sender := ⟨s.fSource, s.fPriority, s.fSync, s.fPulse, s.fStreams.map refSt⟩

theorem f16_eq {s : NetworkSender} (h : s.fStreams.length * 48 ≤ 140737488351232) : f16 s = some (refSe s) := by
  unfold f16
  have hrun := run_count (L := f16_L1 s) (e := s.fStreams.map refSt) (fun k => ((k : Int), (s.fStreams.take k).map refSt)) s.fStreams.length (by
    simp only [f16_L1]
    rw [if_neg (by simp)]
    simp) 0 (Nat.zero_le _) (fun k _ hk => by
    have hx := List.getElem?_eq_getElem hk
    have hw : IntKind.i64.wrap ((k : Int) + 1) = ((k + 1 : Nat) : Int) := by rw [w64 (by omega) (by omega)]; omega
    simp only [f16_L1]
    rw [if_pos (by simp; omega), at_nat hx, Option.bind_some, app_some (by simp; omega) (by simp; omega), Option.bind_some, hw, List.take_succ_eq_append_getElem hk, List.map_append]
    rfl)
  have h0 : (((0 : Nat) : Int), (s.fStreams.take 0).map refSt) = ((0 : Int), []) := by simp
  rw [h0] at hrun
  rw [hrun]
  rfl

theorem f15_some (r : Ref56Sender) : ∃ b, f15 r = some b := by
  unfold f15
  obtain ⟨e, he, _⟩ := run_ex (L := f15_L1 r) (s0 := 0) (fun _ => True) (fun i => 0 ≤ i ∧ i ≤ 20) (fun i => 20 - i.toNat) ⟨by omega, by omega⟩ (fun i hi => by
    simp only [f15_L1]
    by_cases h1 : i < (r.fStreams.length : Int)
    · by_cases h2 : i < 20
      · have hx := List.getElem?_eq_getElem (show i.toNat < r.fStreams.length by omega)
        have hi' : i = (i.toNat : Int) := by omega
        have hw : IntKind.i64.wrap (i + 1) = i + 1 := w64 (by omega) (by omega)
        rw [if_pos (by simpa using h1), if_pos (by simpa using h2)]
        rw [at_some hi.1 hx]
        simp only [Option.bind_some]
        by_cases h3 : 1024 < (r.fStreams[i.toNat].fSlots.length : Int)
        · rw [if_pos (by simpa using h3)]; exact .inr ⟨_, rfl, trivial⟩
        · rw [if_neg (by simpa using h3)]; exact .inl ⟨_, rfl, by rw [hw]; omega, by rw [hw]; omega⟩
      · rw [if_pos (by simpa using h1), if_neg (by simpa using h2)]; exact .inr ⟨_, rfl, trivial⟩
    · rw [if_neg (by simpa using h1)]; exact .inr ⟨_, rfl, trivial⟩)
  rw [he]
  cases e <;> exact ⟨_, rfl⟩

theorem f18_eq (a b c : Int) : f18 a b c = some (refSe (newS a b c).1, (newS a b c).2) := by
  unfold f18 newS namedS
  simp only [f39_eq, f37_eq, Option.bind_some]
  by_cases h1 : 0 < a <;> by_cases h2 : a < 281474976710655 <;> cases h3 : wi b 0 200 <;> cases h4 : wi c 0 8 <;> simp [h1, h2, refSe]

theorem f19_eq (a : Ref56Sender) (h : a.fStreams.length ≤ 9223372036854775806) : f19 a a = some true := by
  unfold f19
  simp only [ne_eq, not_true_eq_false, decide_false, Bool.false_eq_true, if_false]
  have hrun := run_count (L := f19_L1 a a) (e := Sum.inl ()) (fun k => (k : Int)) a.fStreams.length (by
    simp only [f19_L1]
    rw [if_neg (by simp)]) 0 (Nat.zero_le _) (fun k _ hk => by
    have hx := List.getElem?_eq_getElem hk
    have hw : IntKind.i64.wrap ((k : Int) + 1) = ((k + 1 : Nat) : Int) := by rw [w64 (by omega) (by omega)]; omega
    simp only [f19_L1]
    rw [if_pos (by simp; omega), at_nat hx]
    simp [hw])
  rw [show ((0 : Nat) : Int) = 0 from rfl] at hrun
  rw [hrun]
  rfl

theorem f21_eq (s : NetworkSender) : f21 (refSe s) = some (rightS s) := by
  unfold f21 rightS
  have hlen : (refSe s).fStreams.length = s.fStreams.length := by simp [refSe]
  have e1 : (refSe s).fSource = s.fSource := rfl
  have e2 : (refSe s).fPriority = s.fPriority := rfl
  have e3 : (refSe s).fSync = s.fSync := rfl
  have e4 : (refSe s).fPulse = s.fPulse := rfl
  simp only [f18_eq, f37_eq, Option.bind_some, hlen, e1, e2, e3, e4]
  unfold newS
  cases h1 : namedS s.fSource s.fPriority s.fSync
  · simp
  cases h2 : wi s.fPulse 0 255
  · simp
  by_cases h3 : 8 < s.fStreams.length
  · rw [if_neg (by simp), if_neg (by simp), if_pos (by simp; omega)]; simp [h3]
  rw [if_neg (by simp), if_neg (by simp), if_neg (by simp; omega)]
  have hat : ∀ i (hi : i < s.fStreams.length), (refSe s).fStreams[i]? = some (refSt s.fStreams[i]) := fun i hi => by simp [refSe, List.getElem?_eq_getElem hi]
  have hrun := run_first (L := f21_L1 (refSe s)) s.fStreams.length (fun i => (stErr s.fStreams i).map Sum.inr) (Sum.inl ()) (fun i hi => by
    have hx := List.getElem?_eq_getElem hi
    have hw : IntKind.i64.wrap ((i : Int) + 1) = ((i + 1 : Nat) : Int) := by rw [w64 (by omega) (by omega)]; omega
    simp only [f21_L1, stErr, hx, hlen]
    rw [if_pos (by simp; omega), at_nat (hat i hi)]
    simp only [Option.bind_some, f37_eq]
    generalize hX : s.fStreams[i] = x
    simp only [refSt]
    rcases Bool.eq_false_or_eq_true (wi x.fUniverse 1 8) with a1 | a1
    case inr => simp [a1]
    rcases Bool.eq_false_or_eq_true (wi x.fSeq 0 255) with a2 | a2
    case inr => simp [a1, a2]
    rcases Bool.eq_false_or_eq_true (wi x.fLast 0 10000000) with a3 | a3
    case inr => simp [a1, a2, a3]
    rcases Bool.eq_false_or_eq_true (wi x.fTimes 1 3) with a4 | a4
    case inr => simp [a1, a2, a3, a4]
    by_cases a5 : x.fSlots.length = 512
    · by_cases a6 : 0 < i
      · have hw2 : IntKind.i64.wrap ((i : Int) - 1) = ((i - 1 : Nat) : Int) := by rw [w64 (by omega) (by omega)]; omega
        have hy := List.getElem?_eq_getElem (show i - 1 < s.fStreams.length by omega)
        have hz := hat (i - 1) (by omega)
        generalize hY : s.fStreams[i - 1] = y at hy hz
        by_cases a7 : x.fUniverse ≤ y.fUniverse
        · simp [a1, a2, a3, a4, a5, a6, hw2, at_nat hz, hy, a7, refSt]
        · simp [a1, a2, a3, a4, a5, a6, hw2, at_nat hz, hy, a7, hw, refSt]
      · obtain rfl : i = 0 := by omega
        simp [a1, a2, a3, a4, a5]
        rfl
    · have a5' : ¬ (x.fSlots.length : Int) = 512 := by omega
      simp [a1, a2, a3, a4, a5, a5']) (by
    simp only [f21_L1, hlen]
    rw [if_neg (by simp)])
  rw [hrun]
  have : (List.range s.fStreams.length).findSome? (fun i => (stErr s.fStreams i).map (Sum.inr : Int → Unit ⊕ Int)) = ((List.range s.fStreams.length).findSome? (stErr s.fStreams)).map Sum.inr := by
    rw [List.map_findSome?]; rfl
  rw [this]
  cases h : (List.range s.fStreams.length).findSome? (stErr s.fStreams) <;> simp [h3, h]

theorem f47_eq (s : NetworkSender) (t : Int) : f47 (refSe s) t = some (momentS s t) := by
  unfold f47 momentS
  rw [f21_eq]
  simp only [Option.bind_some, f37_eq]
  by_cases h : rightS s = 0
  case neg => simp [h]
  simp only [h, ne_eq, not_true_eq_false, decide_false, if_false, Bool.false_eq_true]
  cases ht : wi t 0 10000000
  · simp
  simp only [Bool.not_true, Bool.false_eq_true, if_false, Bool.true_eq_false]
  have hl := right_len h
  have hlen : (refSe s).fStreams.length = s.fStreams.length := by simp [refSe]
  have hat : ∀ i (hi : i < s.fStreams.length), (refSe s).fStreams[i]? = some (refSt s.fStreams[i]) := fun i hi => by simp [refSe, List.getElem?_eq_getElem hi]
  have hrun := run_first (L := f47_L1 (refSe s) t) s.fStreams.length (fun i => match s.fStreams[i]? with | none => none | some x => if t < x.fLast then some (Sum.inr ()) else none) (Sum.inl ()) (fun i hi => by
    have hx := List.getElem?_eq_getElem hi
    have hw : IntKind.i64.wrap ((i : Int) + 1) = ((i + 1 : Nat) : Int) := by rw [w64 (by omega) (by omega)]; omega
    simp only [f47_L1, hlen]
    rw [if_pos (by simp; omega), at_nat (hat i hi), hx]
    simp only [Option.bind_some, refSt]
    by_cases h1 : t < s.fStreams[i].fLast <;> simp [h1, hw]) (by
    simp only [f47_L1, hlen]
    rw [if_neg (by simp)])
  rw [hrun]
  cases ha : s.fStreams.any fun x => decide (t < x.fLast)
  · have : (List.range s.fStreams.length).findSome? (fun i => match s.fStreams[i]? with | none => none | some x => if t < x.fLast then some (Sum.inr () : Unit ⊕ Unit) else none) = none := by
      rw [List.findSome?_eq_none_iff]
      intro i hi
      have hi' := List.mem_range.1 hi
      rw [List.getElem?_eq_getElem hi']
      have := List.any_eq_false.1 ha _ (List.getElem_mem hi')
      simp only [decide_eq_true_eq] at this
      simp [this]
    rw [this]
    simp
  · have : (List.range s.fStreams.length).findSome? (fun i => match s.fStreams[i]? with | none => none | some x => if t < x.fLast then some (Sum.inr () : Unit ⊕ Unit) else none) = some (Sum.inr ()) := by
      obtain ⟨x, hx, hd⟩ := List.any_eq_true.1 ha
      obtain ⟨i, hi, rfl⟩ := List.mem_iff_getElem.1 hx
      cases hf : (List.range s.fStreams.length).findSome? (fun i => match s.fStreams[i]? with | none => none | some x => if t < x.fLast then some (Sum.inr () : Unit ⊕ Unit) else none) with
      | none =>
        have := List.findSome?_eq_none_iff.1 hf i (List.mem_range.2 hi)
        rw [List.getElem?_eq_getElem hi] at this
        simp [of_decide_eq_true hd] at this
      | some e =>
        obtain ⟨j, hj, he⟩ := List.exists_of_findSome?_eq_some hf
        rw [List.getElem?_eq_getElem (List.mem_range.1 hj)] at he
        simp only at he
        split at he
        · exact he.symm ▸ rfl
        · cases he
    rw [this]
    simp

def refPk (p : NetworkPacket) : Ref56Packet := ⟨p.fSource, p.fUniverse, p.fPriority, p.fSeq, p.fSync, p.fEnd, p.fSlots⟩

theorem f26_eq {l : List NetworkPacket} (h : l.length ≤ 900) : f26 l = some (l.map refPk) := by
  unfold f26
  have hrun := run_count (L := f26_L1 l) (e := l.map refPk) (fun k => ((k : Int), (l.take k).map refPk)) l.length (by
    simp only [f26_L1]
    rw [if_neg (by simp)]
    simp) 0 (Nat.zero_le _) (fun k _ hk => by
    have hx := List.getElem?_eq_getElem hk
    have hw : IntKind.i64.wrap ((k : Int) + 1) = ((k + 1 : Nat) : Int) := by rw [w64 (by omega) (by omega)]; omega
    simp only [f26_L1]
    rw [if_pos (by simp; omega), at_nat hx, Option.bind_some, app_some (by simp; omega) (by simp; omega), Option.bind_some, hw, List.take_succ_eq_append_getElem hk, List.map_append]
    rfl)
  have h0 : (((0 : Nat) : Int), (l.take 0).map refPk) = ((0 : Int), []) := by simp
  rw [h0] at hrun
  rw [hrun]
  rfl

theorem f25_eq (a : List Ref56Packet) (h : a.length ≤ 900) : f25 a a = some true := by
  unfold f25
  simp only [ne_eq, not_true_eq_false, decide_false, Bool.false_eq_true, if_false]
  have hrun := run_count (L := f25_L1 a a) (e := Sum.inl ()) (fun k => (k : Int)) a.length (by
    simp only [f25_L1]
    rw [if_neg (by simp)]) 0 (Nat.zero_le _) (fun k _ hk => by
    have hx := List.getElem?_eq_getElem hk
    have hw : IntKind.i64.wrap ((k : Int) + 1) = ((k + 1 : Nat) : Int) := by rw [w64 (by omega) (by omega)]; omega
    simp only [f25_L1]
    rw [if_pos (by simp; omega), at_nat hx]
    simp [hw])
  rw [show ((0 : Nat) : Int) = 0 from rfl] at hrun
  rw [hrun]
  rfl

/-! ## The end of every stream -/

def endP (S : NetworkSender) (x : NetworkStream) (q : Int) : NetworkPacket := ⟨S.fSource, x.fUniverse, S.fPriority, q, S.fSync, true, x.fSlots⟩
def endS (S : NetworkSender) (x : NetworkStream) : List NetworkPacket := [endP S x (nextSeq x.fSeq), endP S x (nextSeq (nextSeq x.fSeq)), endP S x (nextSeq (nextSeq (nextSeq x.fSeq)))]
def stopS (S : NetworkSender) (t : Int) : NetworkSender × List NetworkPacket × Int :=
  if momentS S t ≠ 0 then (⟨0, 0, 0, 0, []⟩, [], momentS S t) else (⟨S.fSource, S.fPriority, S.fSync, S.fPulse, []⟩, S.fStreams.flatMap (endS S), 0)

theorem ends_len (S : NetworkSender) (l : List NetworkStream) : (l.flatMap (endS S)).length = 3 * l.length := by
  induction l with
  | nil => rfl
  | cons x l ih => rw [List.flatMap_cons, List.length_append, ih]; simp [endS]; omega

theorem f29L2 {S : NetworkSender} {x : NetworkStream} {v : Int} {out : List NetworkPacket} (hx : 0 ≤ x.fSeq ∧ x.fSeq ≤ 255) (ho : out.length ≤ 800) : (f29_L2 S x v).run (0, out, x.fSeq) = some (out ++ endS S x) := by
  have hq1 := nextSeq_wi x.fSeq hx.1
  have hq2 := nextSeq_wi (nextSeq x.fSeq) hq1.1
  have w1 : IntKind.i64.wrap (0 + 1) = 1 := rfl
  have w2 : IntKind.i64.wrap (1 + 1) = 2 := rfl
  have w3 : IntKind.i64.wrap (2 + 1) = 3 := rfl
  have happ : ∀ (a : List NetworkPacket) p, a.length ≤ 802 → app? 64 a [p] = some (a ++ [p]) := fun a p h => app_some (by simp; omega) (by simp; omega)
  have hrun := run_count (L := f29_L2 S x v) (e := out ++ endS S x) (fun k => match k with
    | 0 => ((0 : Int), out, x.fSeq)
    | 1 => (1, out ++ [endP S x (nextSeq x.fSeq)], nextSeq x.fSeq)
    | 2 => (2, out ++ [endP S x (nextSeq x.fSeq)] ++ [endP S x (nextSeq (nextSeq x.fSeq))], nextSeq (nextSeq x.fSeq))
    | _ => (3, out ++ endS S x, nextSeq (nextSeq (nextSeq x.fSeq)))) 3 (by simp [f29_L2]) 0 (Nat.zero_le _) (fun k _ hk => by
    match k, hk with
    | 0, _ => simp only [f29_L2]; rw [if_pos (by simp), f46_eq (wi_iff.2 hx)]; simp only [Option.bind_some, f51]; rw [happ _ _ (by omega), w1]; rfl
    | 1, _ => simp only [f29_L2]; rw [if_pos (by simp), f46_eq (wi_iff.2 hq1)]; simp only [Option.bind_some, f51]; rw [happ _ _ (by simp; omega), w2]; rfl
    | 2, _ => simp only [f29_L2]; rw [if_pos (by simp), f46_eq (wi_iff.2 hq2)]; simp only [Option.bind_some, f51]; rw [happ _ _ (by simp; omega), w3]; simp [endS, endP])
  simp only at hrun
  exact hrun

theorem f29_eq (S : NetworkSender) (t : Int) : f29 S t = some (stopS S t) := by
  unfold f29 stopS
  rw [f41_eq]
  simp only [Option.bind_some]
  by_cases hm : momentS S t = 0
  case neg => simp [hm]
  rw [if_neg (by simp [hm]), if_neg (by simp [hm])]
  obtain ⟨hr, ht, hg⟩ := moment_good hm
  have hl := right_len hr
  have hrun := run_count (L := f29_L1 S) (e := S.fStreams.flatMap (endS S)) (fun k => ((k : Int), (S.fStreams.take k).flatMap (endS S))) S.fStreams.length (by
    simp only [f29_L1]
    rw [if_neg (by simp)]
    simp) 0 (Nat.zero_le _) (fun k _ hk => by
    have hx := List.getElem?_eq_getElem hk
    have hw : IntKind.i64.wrap ((k : Int) + 1) = ((k + 1 : Nat) : Int) := by rw [w64 (by omega) (by omega)]; omega
    simp only [f29_L1]
    rw [if_pos (by simp; omega), at_nat hx, Option.bind_some, f29L2 (hg.ok _ (List.getElem_mem hk)).1 (by rw [ends_len]; simp; omega), Option.bind_some, hw, List.take_succ_eq_append_getElem hk, List.flatMap_append]
    simp)
  have h0 : (((0 : Nat) : Int), (S.fStreams.take 0).flatMap (endS S)) = ((0 : Int), []) := by simp
  rw [h0] at hrun
  rw [hrun]
  rfl

theorem seqs {n : Int} (h : 0 ≤ n ∧ n ≤ 255) : (IntKind.i64.wrap (n + 1)).tmod 256 = nextSeq n ∧ (IntKind.i64.wrap (n + 2)).tmod 256 = nextSeq (nextSeq n) ∧ (IntKind.i64.wrap (n + 3)).tmod 256 = nextSeq (nextSeq (nextSeq n)) := by
  have q1 := nextSeq_wi n h.1
  have q2 := nextSeq_wi (nextSeq n) q1.1
  rw [w64 (by omega) (by omega), w64 (by omega) (by omega), w64 (by omega) (by omega)]
  unfold nextSeq at *
  rw [Int.tmod_eq_emod_of_nonneg (a := n + 1) (by omega)] at *
  rw [Int.tmod_eq_emod_of_nonneg (a := n + 2) (by omega), Int.tmod_eq_emod_of_nonneg (a := n + 3) (by omega)]
  rw [Int.tmod_eq_emod_of_nonneg (a := (n + 1) % 256 + 1) (by omega)] at *
  rw [Int.tmod_eq_emod_of_nonneg (a := ((n + 1) % 256 + 1) % 256 + 1) (by omega)]
  omega

theorem f30L2 {s : NetworkSender} {i : Nat} (hi : i < s.fStreams.length) {out : List Ref56Packet} (hx : 0 ≤ s.fStreams[i].fSeq ∧ s.fStreams[i].fSeq ≤ 255) (ho : out.length ≤ 800) :
    (f30_L2 (refSe s) (i : Int)).run (1, out) = some (out ++ (endS s s.fStreams[i]).map refPk) := by
  obtain ⟨s1, s2, s3⟩ := seqs hx
  have hat : (refSe s).fStreams[i]? = some (refSt s.fStreams[i]) := by simp [refSe, List.getElem?_eq_getElem hi]
  generalize s.fStreams[i] = x at *
  have w1 : IntKind.i64.wrap (1 + 1) = 2 := rfl
  have w2 : IntKind.i64.wrap (2 + 1) = 3 := rfl
  have w3 : IntKind.i64.wrap (3 + 1) = 4 := rfl
  have happ : ∀ (a : List Ref56Packet) p, a.length ≤ 802 → app? 64 a [p] = some (a ++ [p]) := fun a p h => app_some (by simp; omega) (by simp; omega)
  have hrun := run_count (L := f30_L2 (refSe s) (i : Int)) (e := out ++ (endS s x).map refPk) (fun k => match k with
    | 0 => ((1 : Int), out)
    | 1 => (2, out ++ [refPk (endP s x (nextSeq x.fSeq))])
    | 2 => (3, out ++ [refPk (endP s x (nextSeq x.fSeq))] ++ [refPk (endP s x (nextSeq (nextSeq x.fSeq)))])
    | _ => (4, out ++ (endS s x).map refPk)) 3 (by simp [f30_L2]) 0 (Nat.zero_le _) (fun k _ hk => by
    match k, hk with
    | 0, _ => simp only [f30_L2]; rw [if_pos (by simp), at_nat hat]; simp only [Option.bind_some, f52, refSt, s1]; rw [happ _ _ (by omega), w1]; rfl
    | 1, _ => simp only [f30_L2]; rw [if_pos (by simp), at_nat hat]; simp only [Option.bind_some, f52, refSt, s2]; rw [happ _ _ (by simp; omega), w2]; rfl
    | 2, _ => simp only [f30_L2]; rw [if_pos (by simp), at_nat hat]; simp only [Option.bind_some, f52, refSt, s3]; rw [happ _ _ (by simp; omega), w3]; simp [endS, endP, refPk, refSe])
  simp only at hrun
  exact hrun

theorem f30_eq (s : NetworkSender) (t : Int) : f30 (refSe s) t = some (refSe (stopS s t).1, (stopS s t).2.1.map refPk, (stopS s t).2.2) := by
  unfold f30 stopS
  rw [f47_eq]
  simp only [Option.bind_some]
  by_cases hm : momentS s t = 0
  case neg => simp [hm, refSe]
  rw [if_neg (by simp [hm]), if_neg (by simp [hm])]
  obtain ⟨hr, ht, hg⟩ := moment_good hm
  have hl := right_len hr
  have hlen : (refSe s).fStreams.length = s.fStreams.length := by simp [refSe]
  have hrun := run_count (L := f30_L1 (refSe s)) (e := (s.fStreams.flatMap (endS s)).map refPk) (fun k => ((k : Int), ((s.fStreams.take k).flatMap (endS s)).map refPk)) s.fStreams.length (by
    simp only [f30_L1, hlen]
    rw [if_neg (by simp)]
    simp) 0 (Nat.zero_le _) (fun k _ hk => by
    have hw : IntKind.i64.wrap ((k : Int) + 1) = ((k + 1 : Nat) : Int) := by rw [w64 (by omega) (by omega)]; omega
    simp only [f30_L1, hlen]
    rw [if_pos (by simp; omega), f30L2 hk (hg.ok _ (List.getElem_mem hk)).1 (by rw [List.length_map, ends_len]; simp; omega), Option.bind_some, hw, List.take_succ_eq_append_getElem hk, List.flatMap_append, List.map_append]
    simp)
  have h0 : (((0 : Nat) : Int), ((s.fStreams.take 0).flatMap (endS s)).map refPk) = ((0 : Int), []) := by simp
  rw [h0] at hrun
  rw [hrun]
  simp [refSe]

theorem f8_eq (s : NetworkSender) (t : Int) (h : s.fStreams.length * 48 ≤ 140737488351232) : f8 s t = some true := by
  unfold f8
  rw [f16_eq h]
  simp only [Option.bind_some]
  obtain ⟨b, hb⟩ := f15_some (refSe s)
  rw [hb]
  simp only [Option.bind_some]
  have hn : (stopS s t).1.fStreams = [] := by unfold stopS; split <;> rfl
  have hp : (stopS s t).2.1.length ≤ 24 := by
    unfold stopS
    split
    · simp
    · rename_i hm
      have := right_len (moment_good (by simpa using hm)).1
      simp only [ends_len]
      omega
  cases b
  · simp [f14_eq]
  · rw [f29_eq, f14_eq]
    simp only [Option.bind_some, Bool.not_true, Bool.false_eq_true, if_false, if_true]
    rw [f30_eq]
    simp only [Option.bind_some]
    rw [f16_eq (by rw [hn]; simp)]
    simp only [Option.bind_some]
    rw [f19_eq _ (by simp [refSe, hn])]
    simp only [Option.bind_some, if_true]
    rw [f26_eq (by omega)]
    simp only [Option.bind_some]
    rw [f25_eq _ (by simp; omega)]
    simp
end Go.Proofs.Ytlidbikdeboihaa
