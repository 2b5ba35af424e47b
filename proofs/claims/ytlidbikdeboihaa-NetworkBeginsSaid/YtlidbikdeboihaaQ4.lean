/-
  Plain laws of the sender of layer 56: NetworkBegins.
-/
import Derived.Test.YtlidbikdeboihaaP5
import Derived.Test.YtlidbikdeboihaaY41
set_option linter.unusedSimpArgs false
set_option linter.unusedVariables false
namespace Go.Proofs.Ytlidbikdeboihaa
open Go Go.Ab

/-! ## The model's own reading of the numbers and the streams -/

theorem f37_eq (n a b : Int) : f37 n a b = some (wi n a b) := by
  unfold f37 wi
  by_cases h : a ≤ n <;> simp [h]
theorem f39_eq (n : Int) : f39 n = some (decide (0 < n) && decide (n < 281474976710655)) := by
  unfold f39
  by_cases h : 0 < n <;> simp [h]

def refSt (x : NetworkStream) : Ref56Stream := ⟨x.fUniverse, x.fSeq, x.fLast, x.fTimes, x.fSlots⟩
def refSe (s : NetworkSender) : Ref56Sender := ⟨s.fSource, s.fPriority, s.fSync, s.fPulse, s.fStreams.map refSt⟩

theorem f16_eq {s : NetworkSender} (h : s.fStreams.length * 48 ≤ 140737488351232) : f16 s = some (refSe s) := by
  unfold f16
  have hrun := run_count (L := f16_L1 s) (e := s.fStreams.map refSt) (fun k => ((k : Int), (s.fStreams.take k).map refSt)) s.fStreams.length (by
    simp only [f16_L1]
    rw [if_neg (by simp)]
    simp) 0 (Nat.zero_le _) (fun k _ hk => by
    have hx := List.getElem?_eq_getElem hk
    have hw : IntKind.i64.wrap ((k : Int) + 1) = ((k + 1 : Nat) : Int) := by rw [w64 (by omega) (by omega)]; omega
    simp only [f16_L1]
    rw [if_pos (by simp; omega), at_nat hx, Option.bind_some, app_some (by simp; omega) (by simp; omega), Option.bind_some, hw, List.take_succ_eq_append_getElem hk, List.map_append]
    rfl)
  have h0 : (((0 : Nat) : Int), (s.fStreams.take 0).map refSt) = ((0 : Int), []) := by simp
  rw [h0] at hrun
  rw [hrun]
  rfl

theorem f15_some (r : Ref56Sender) : ∃ b, f15 r = some b := by
  unfold f15
  obtain ⟨e, he, _⟩ := run_ex (L := f15_L1 r) (s0 := 0) (fun _ => True) (fun i => 0 ≤ i ∧ i ≤ 20) (fun i => 20 - i.toNat) ⟨by omega, by omega⟩ (fun i hi => by
    simp only [f15_L1]
    by_cases h1 : i < (r.fStreams.length : Int)
    · by_cases h2 : i < 20
      · have hx := List.getElem?_eq_getElem (show i.toNat < r.fStreams.length by omega)
        have hi' : i = (i.toNat : Int) := by omega
        have hw : IntKind.i64.wrap (i + 1) = i + 1 := w64 (by omega) (by omega)
        rw [if_pos (by simpa using h1), if_pos (by simpa using h2)]
        rw [at_some hi.1 hx]
        simp only [Option.bind_some]
        by_cases h3 : 1024 < (r.fStreams[i.toNat].fSlots.length : Int)
        · rw [if_pos (by simpa using h3)]; exact .inr ⟨_, rfl, trivial⟩
        · rw [if_neg (by simpa using h3)]; exact .inl ⟨_, rfl, by rw [hw]; omega, by rw [hw]; omega⟩
      · rw [if_pos (by simpa using h1), if_neg (by simpa using h2)]; exact .inr ⟨_, rfl, trivial⟩
    · rw [if_neg (by simpa using h1)]; exact .inr ⟨_, rfl, trivial⟩)
  rw [he]
  cases e <;> exact ⟨_, rfl⟩

theorem f18_eq (a b c : Int) : f18 a b c = some (refSe (newS a b c).1, (newS a b c).2) := by
  unfold f18 newS namedS
  simp only [f39_eq, f37_eq, Option.bind_some]
  by_cases h1 : 0 < a <;> by_cases h2 : a < 281474976710655 <;> cases h3 : wi b 0 200 <;> cases h4 : wi c 0 8 <;> simp [h1, h2, refSe]

theorem f19_eq (a : Ref56Sender) (h : a.fStreams.length ≤ 9223372036854775806) : f19 a a = some true := by
  unfold f19
  simp only [ne_eq, not_true_eq_false, decide_false, Bool.false_eq_true, if_false]
  have hrun := run_count (L := f19_L1 a a) (e := Sum.inl ()) (fun k => (k : Int)) a.fStreams.length (by
    simp only [f19_L1]
    rw [if_neg (by simp)]) 0 (Nat.zero_le _) (fun k _ hk => by
    have hx := List.getElem?_eq_getElem hk
    have hw : IntKind.i64.wrap ((k : Int) + 1) = ((k + 1 : Nat) : Int) := by rw [w64 (by omega) (by omega)]; omega
    simp only [f19_L1]
    rw [if_pos (by simp; omega), at_nat hx]
    simp [hw])
  rw [show ((0 : Nat) : Int) = 0 from rfl] at hrun
  rw [hrun]
  rfl

theorem f21_eq (s : NetworkSender) : f21 (refSe s) = some (rightS s) := by
  unfold f21 rightS
  have hlen : (refSe s).fStreams.length = s.fStreams.length := by simp [refSe]
  have e1 : (refSe s).fSource = s.fSource := rfl
  have e2 : (refSe s).fPriority = s.fPriority := rfl
  have e3 : (refSe s).fSync = s.fSync := rfl
  have e4 : (refSe s).fPulse = s.fPulse := rfl
  simp only [f18_eq, f37_eq, Option.bind_some, hlen, e1, e2, e3, e4]
  unfold newS
  cases h1 : namedS s.fSource s.fPriority s.fSync
  · simp
  cases h2 : wi s.fPulse 0 255
  · simp
  by_cases h3 : 8 < s.fStreams.length
  · rw [if_neg (by simp), if_neg (by simp), if_pos (by simp; omega)]; simp [h3]
  rw [if_neg (by simp), if_neg (by simp), if_neg (by simp; omega)]
  have hat : ∀ i (hi : i < s.fStreams.length), (refSe s).fStreams[i]? = some (refSt s.fStreams[i]) := fun i hi => by simp [refSe, List.getElem?_eq_getElem hi]
  have hrun := run_first (L := f21_L1 (refSe s)) s.fStreams.length (fun i => (stErr s.fStreams i).map Sum.inr) (Sum.inl ()) (fun i hi => by
    have hx := List.getElem?_eq_getElem hi
    have hw : IntKind.i64.wrap ((i : Int) + 1) = ((i + 1 : Nat) : Int) := by rw [w64 (by omega) (by omega)]; omega
    simp only [f21_L1, stErr, hx, hlen]
    rw [if_pos (by simp; omega), at_nat (hat i hi)]
    simp only [Option.bind_some, f37_eq]
    generalize hX : s.fStreams[i] = x
    simp only [refSt]
    rcases Bool.eq_false_or_eq_true (wi x.fUniverse 1 8) with a1 | a1
    case inr => simp [a1]
    rcases Bool.eq_false_or_eq_true (wi x.fSeq 0 255) with a2 | a2
    case inr => simp [a1, a2]
    rcases Bool.eq_false_or_eq_true (wi x.fLast 0 10000000) with a3 | a3
    case inr => simp [a1, a2, a3]
    rcases Bool.eq_false_or_eq_true (wi x.fTimes 1 3) with a4 | a4
    case inr => simp [a1, a2, a3, a4]
    by_cases a5 : x.fSlots.length = 512
    · by_cases a6 : 0 < i
      · have hw2 : IntKind.i64.wrap ((i : Int) - 1) = ((i - 1 : Nat) : Int) := by rw [w64 (by omega) (by omega)]; omega
        have hy := List.getElem?_eq_getElem (show i - 1 < s.fStreams.length by omega)
        have hz := hat (i - 1) (by omega)
        generalize hY : s.fStreams[i - 1] = y at hy hz
        by_cases a7 : x.fUniverse ≤ y.fUniverse
        · simp [a1, a2, a3, a4, a5, a6, hw2, at_nat hz, hy, a7, refSt]
        · simp [a1, a2, a3, a4, a5, a6, hw2, at_nat hz, hy, a7, hw, refSt]
      · obtain rfl : i = 0 := by omega
        simp [a1, a2, a3, a4, a5]
        rfl
    · have a5' : ¬ (x.fSlots.length : Int) = 512 := by omega
      simp [a1, a2, a3, a4, a5, a5']) (by
    simp only [f21_L1, hlen]
    rw [if_neg (by simp)])
  rw [hrun]
  have : (List.range s.fStreams.length).findSome? (fun i => (stErr s.fStreams i).map (Sum.inr : Int → Unit ⊕ Int)) = ((List.range s.fStreams.length).findSome? (stErr s.fStreams)).map Sum.inr := by
    rw [List.map_findSome?]; rfl
  rw [this]
  cases h : (List.range s.fStreams.length).findSome? (stErr s.fStreams) <;> simp [h3, h]

theorem f4_eq (x : Law56Start) (s : NetworkSender) (h : s.fStreams.length * 48 ≤ 140737488351232) : f4 x s = some true := by
  unfold f4
  rw [f16_eq h]
  simp only [Option.bind_some]
  obtain ⟨b, hb⟩ := f15_some (refSe s)
  rw [hb]
  simp only [Option.bind_some]
  have hn : (newS x.fSource x.fPriority x.fSync).1.fStreams = [] := by unfold newS; split <;> rfl
  cases b
  · simp [f14_eq]
  · rw [f17_eq, f18_eq, f14_eq]
    simp only [Option.bind_some, Bool.not_true, Bool.false_eq_true, if_false, if_true]
    rw [f16_eq (by rw [hn]; simp)]
    simp only [Option.bind_some]
    rw [f19_eq _ (by simp [refSe, hn])]
    simp only [Option.bind_some, if_true, decide_true, f20_eq]
    rw [f21_eq]
    simp
end Go.Proofs.Ytlidbikdeboihaa
