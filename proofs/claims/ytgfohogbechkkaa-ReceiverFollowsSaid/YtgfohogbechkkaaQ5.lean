/-
  Plain laws of the receiver of layer 57: ReceiverFollows.
-/
import Derived.Test.YtgfohogbechkkaaQ3
import Derived.Test.YtgfohogbechkkaaP5
import Derived.Test.YtgfohogbechkkaaY51
set_option linter.unusedSimpArgs false
set_option linter.unusedVariables false
namespace Go.Proofs.Ytgfohogbechkkaa
open Go Go.Ab

def liveS (l : List ReceiverInput) (t : Int) : List ReceiverInput := l.filter fun x => !decide (2500 < t - x.fLast)
def expireS (l : List ReceiverInput) (t : Int) : List ReceiverInput × Int × Int := if momentS l t ≠ 0 then ([], 0, momentS l t) else (liveS l t, (l.length : Int) - ((liveS l t).length : Int), 0)

theorem f26_eq (r : ReceiverReceiver) (t : Int) : f26 r t = some (⟨(expireS r.fInputs t).1⟩, (expireS r.fInputs t).2.1, (expireS r.fInputs t).2.2) := by
  unfold f26 expireS
  rw [f58_eq, Option.bind_some]
  by_cases h : momentS r.fInputs t = 0
  case neg => simp [h]
  have hg := moment_good h
  have h0 := hg.t0
  have h1 := hg.t1
  have hl := hg.len
  simp only [h, ne_eq, not_true_eq_false, decide_false, Bool.false_eq_true, if_false]
  rw [f39_eq (by omega), Option.bind_some, delf_some (p := fun x => decide (2500 < t - x.fLast)) (fun x hx => by
    have := hg.last x hx
    have := (in_ok (hg.ok x hx)).2.2.1
    unfold f72p
    rw [w64 (by omega) (by omega)]) (by omega), Option.bind_some]
  simp only [f26_J1]
  have hfl : (liveS r.fInputs t).length ≤ r.fInputs.length := List.length_filter_le _ _
  rw [w64 (by unfold liveS at hfl; omega) (by unfold liveS at hfl; omega)]
  rfl

theorem f27_eq (l : List ReceiverInput) (t : Int) : f27 ⟨l.map refI⟩ t = some (⟨(expireS l t).1.map refI⟩, (expireS l t).2.1, (expireS l t).2.2) := by
  unfold f27 expireS
  rw [f61_eq, Option.bind_some]
  by_cases h : momentS l t = 0
  case neg => simp [h]
  have hg := moment_good h
  have h0 := hg.t0
  have h1 := hg.t1
  have hl := hg.len
  simp only [h, ne_eq, not_true_eq_false, decide_false, Bool.false_eq_true, if_false]
  have hfl : (liveS l t).length ≤ l.length := List.length_filter_le _ _
  rw [run_collect (L := f27_L1 ⟨l.map refI⟩ t) (xs := l.map refI) (fun x => if 2500 < t - x.fLast then [] else [x]) (fun k acc x hx ha => by
    have R := Rnd.mk' hx (by rw [List.length_map]; omega)
    have hk := R.klt
    rw [List.length_map] at hk
    obtain ⟨y, hy, rfl⟩ := List.mem_map.1 R.mem
    have hL := hg.last y hy
    have hL0 := (in_ok (hg.ok y hy)).2.2.1
    have he : (refI y).fLast = y.fLast := rfl
    simp only [f27_L1]
    rw [if_pos R.lt, R.at', Option.bind_some, he, w64 (by omega) (by omega), R.nxt]
    by_cases hc : 2500 < t - y.fLast
    · have hc' : ¬ t - y.fLast ≤ 2500 := by omega
      rw [if_neg (by simpa using hc'), if_pos hc, List.append_nil]
    · have hc' : t - y.fLast ≤ 2500 := by omega
      rw [if_pos (by simpa using hc'), if_neg hc, Option.bind_some, app_some (by simp only [List.length_cons, List.length_nil]; omega) (by simp only [List.length_cons, List.length_nil]; omega), Option.bind_some]) (fun x => by split <;> simp) (fun acc => by simp [f27_L1])]
  have hm : (l.map refI).flatMap (fun x => if 2500 < t - x.fLast then [] else [x]) = (liveS l t).map refI := by
    unfold liveS
    clear hg hfl h hl
    induction l with
    | nil => rfl
    | cons x l ih =>
      rw [List.map_cons, List.flatMap_cons, ih, List.filter_cons]
      have he : (refI x).fLast = x.fLast := rfl
      by_cases hc : 2500 < t - x.fLast
      · simp [hc, he]
      · simp [hc, he]
  rw [Option.bind_some, hm]
  simp only [f27_J2, List.length_map]
  rw [w64 (by omega) (by omega)]

def refE (x : ReceiverEvent) : Ref57Event := ⟨x.fAt, refP x.fPacket⟩

theorem f25_eq (l : List ReceiverInput) (es : List ReceiverEvent) : f25 ⟨l.map refI⟩ (es.map refE) = some (⟨(allS l es).1.map refI⟩, (allS l es).2.1, (allS l es).2.2) := by
  unfold f25 allS
  rw [f20_eq, Option.bind_some]
  by_cases h1 : rightS l = 0
  case neg => simp [h1]
  by_cases h2 : 4096 < es.length
  · have : (4096 : Int) < (es.length : Int) := by omega
    simp [h1, h2, this]
  have h2' : ¬ (4096 : Int) < (es.length : Int) := by omega
  simp only [h1, h2, h2', List.length_map, ne_eq, not_true_eq_false, decide_false, Bool.false_eq_true, if_false]
  have hrun := run_walk (L := f25_L1 (es.map refE)) es (fun k (a : Int × List ReceiverInput) => (a.1, (k : Int), a.2.map refI)) (fun k a x => match evF k a x with | .inl a' => .inl a' | .inr (.inl q) => .inr (.inl (q.1, q.2.map refI)) | .inr (.inr e) => .inr (.inr e)) (fun a => .inl (a.1, a.2.map refI)) (fun k a => 0 ≤ a.1 ∧ a.1 ≤ k) (fun k a x hx hI => by
    have R := Rnd.mk' hx (by omega)
    have hk := R.klt
    have hat : at? (es.map refE) (k : Int) = some (refE x) := at_nat (by rw [List.getElem?_map, hx]; rfl)
    refine ⟨?_, fun a' ha' => ?_⟩
    · simp only [f25_L1]
      rw [if_pos (by simp only [List.length_map, decide_eq_true_eq]; omega), hat, Option.bind_some, Option.bind_some, show (refE x).fAt = x.fAt from rfl, show (refE x).fPacket = refP x.fPacket from rfl, f17_eq, Option.bind_some]
      simp only [f25_J2, evF, R.nxt]
      rw [w64 (a := a.1 + 1) (by omega) (by omega)]
      by_cases he : (takeS a.2 x.fAt x.fPacket).2.2 = 0
      · simp only [he, ne_eq, not_true_eq_false, decide_false, Bool.false_eq_true, if_false]
        cases hb : (takeS a.2 x.fAt x.fPacket).2.1 <;> simp [roundL]
      · simp [he, roundL]
    · unfold evF at ha'
      split at ha'
      · rename_i a2 h3
        split at h3
        · cases h3
        · injection h3 with h3
          injection ha' with ha'
          subst h3; subst ha'
          simp only
          split <;> omega
      · cases ha'
      · cases ha') (fun a _ => by simp [f25_L1]) (0, l) ⟨by simp, by simp⟩
  simp only at hrun
  rw [show ((0 : Int), (0 : Int), l.map refI) = ((0 : Int), ((0 : Nat) : Int), l.map refI) from rfl, hrun]
  have hw : ∀ (es : List ReceiverEvent) (k : Nat) (a : Int × List ReceiverInput), walkL (fun k a x => match evF k a x with | .inl a' => .inl a' | .inr (.inl q) => (.inr (.inl (q.1, q.2.map refI)) : (Int × List ReceiverInput) ⊕ ((Int × List Ref57Input) ⊕ Int)) | .inr (.inr e) => .inr (.inr e)) (fun a => .inl (a.1, a.2.map refI)) k a es =
      (match evS a.1 a.2 es with | .inl q => .inl (q.1, q.2.map refI) | .inr e => .inr e) := fun es => by
    induction es with
    | nil => intro k a; rfl
    | cons x es ih =>
      intro k a
      simp only [walkL, evF, evS]
      by_cases h : (takeS a.2 x.fAt x.fPacket).2.2 ≠ 0
      · simp only [if_pos h]
      · simp only [if_neg h]
        exact ih (k + 1) _
  rw [hw, Option.bind_some]
  cases evS 0 l es with
  | inl q => rfl
  | inr e => rfl

theorem evS_len : ∀ (es : List ReceiverEvent) (n : Int) (l : List ReceiverInput) (q : Int × List ReceiverInput), l.length ≤ 65 → evS n l es = .inl q → q.2.length ≤ 65
  | [], n, l, q, h, e => by
    simp only [evS, Sum.inl.injEq] at e
    subst e; exact h
  | x :: es, n, l, q, h, e => by
    simp only [evS] at e
    split at e
    · cases e
    · exact evS_len es _ _ q (take_len l x.fAt x.fPacket) e
theorem all_len (l : List ReceiverInput) (es : List ReceiverEvent) : (allS l es).1.length ≤ 65 := by
  unfold allS
  split
  · simp
  · rename_i h
    split
    · simp
    · split
      · rename_i q hq
        exact evS_len es 0 l q (by have := right_len (by simpa using h); omega) hq
      · simp

theorem f5L2_eq {es : List ReceiverEvent} (t : Int) (r : ReceiverReceiver) (hl : es.length ≤ 100000) : (f5_L2 es t r).run (0, []) = some (.inl (es.map refE)) ∨ (f5_L2 es t r).run (0, []) = some (.inr true) := by
  by_cases hall : ∀ x ∈ es, x.fPacket.fSlots.length ≤ 521
  · left
    have hrun := run_count (L := f5_L2 es t r) (e := Sum.inl (es.map refE)) (fun k => ((k : Int), (es.take k).map refE)) es.length (by simp [f5_L2]) 0 (Nat.zero_le _) (fun k _ hk => by
      have hx := List.getElem?_eq_getElem hk
      have hx2 := hall _ (List.getElem_mem hk)
      generalize es[k] = x at hx hx2
      have hn : ¬ (521 : Int) < (x.fPacket.fSlots.length : Int) := by omega
      simp only [f5_L2]
      rw [if_pos (by simp only [decide_eq_true_eq]; omega), at_nat hx, Option.bind_some, if_neg (by simpa using hn), app_some (by simp only [List.length_map, List.length_take, List.length_cons, List.length_nil]; omega) (by simp only [List.length_map, List.length_take, List.length_cons, List.length_nil]; omega), Option.bind_some,
        w64_succ (by omega), List.take_add_one, hx]
      simp [refE, refP])
    simpa using hrun
  · right
    refine run_eq (L := f5_L2 es t r) (s0 := (0, [])) (e := Sum.inr true) (fun s => ∃ k : Nat, s.1 = k ∧ k ≤ es.length ∧ s.2.length ≤ k ∧ (∀ x ∈ es.take k, x.fPacket.fSlots.length ≤ 521)) (fun s => es.length - s.1.toNat) ⟨0, rfl, Nat.zero_le _, by simp, by simp⟩ ?_
    rintro ⟨i, acc⟩ ⟨k, hik, hk, hacc, hok⟩
    simp only at hik hacc
    subst hik
    by_cases hlt : k < es.length
    · have hx := List.getElem?_eq_getElem hlt
      generalize es[k] = x at hx
      simp only [f5_L2]
      rw [if_pos (by simp only [decide_eq_true_eq]; omega), at_nat hx, Option.bind_some]
      by_cases hc : 521 < x.fPacket.fSlots.length
      · right
        have hc' : (521 : Int) < (x.fPacket.fSlots.length : Int) := by omega
        rw [if_pos (by simpa using hc'), f15_eq]
        rfl
      · left
        have hn : ¬ (521 : Int) < (x.fPacket.fSlots.length : Int) := by omega
        refine ⟨_, by rw [if_neg (by simpa using hn), app_some (by simp only [List.length_cons, List.length_nil]; omega) (by simp only [List.length_cons, List.length_nil]; omega), Option.bind_some, w64_succ (by omega)], ⟨k + 1, rfl, hlt, by simp; omega, ?_⟩, by simp only [Int.toNat_natCast]; omega⟩
        intro y hy
        rw [List.take_add_one, hx] at hy
        rcases List.mem_append.1 hy with hy | hy
        · exact hok y hy
        · have : y = x := by simpa using hy
          rw [this]; omega
    · exfalso
      apply hall
      rw [List.take_of_length_le (by omega)] at hok
      exact hok

theorem f5J1_eq {es : List ReceiverEvent} (t : Int) (r : ReceiverReceiver) (h : r.fInputs.length * 80 ≤ 140737488351232) (hl : es.length ≤ 100000) : (f5_J1 es t r).run () = some true := by
  simp only [f5_J1]
  rcases f5L2_eq t r hl with h1 | h1
  · rw [h1, Option.bind_some]
    dsimp only
    have ha := all_len r.fInputs es
    have he : (expireS r.fInputs t).1.length ≤ 64 := by
      unfold expireS
      split
      · simp
      · rename_i hm
        have h3 : (liveS r.fInputs t).length ≤ r.fInputs.length := List.length_filter_le _ _
        have := (moment_good (by simpa using hm)).len
        simp only
        omega
    rw [f24_eq, Option.bind_some, f18_eq h, Option.bind_some, f25_eq, Option.bind_some, f26_eq, Option.bind_some, Option.bind_some, f27_eq, Option.bind_some, f15_eq, Option.bind_some, if_pos rfl,
      f18_eq (by simp only; omega), Option.bind_some, f21_eq _ (by simp only [List.length_map]; omega), Option.bind_some, if_pos rfl, if_pos (by simp), if_pos (by simp), f18_eq (by simp only; omega), Option.bind_some, f21_eq _ (by simp only [List.length_map]; omega), Option.bind_some, if_pos rfl, if_pos (by simp)]
    simp
  · rw [h1]
    rfl

theorem f5_eq (r : ReceiverReceiver) (es : List ReceiverEvent) (t : Int) (h : r.fInputs.length * 80 ≤ 140737488351232) : f5 r es t = some true := by
  unfold f5
  rw [f14_eq h, Option.bind_some]
  cases hf : fewS r.fInputs
  · simp [f15_eq]
  rw [if_neg (by simp)]
  by_cases h1 : 12 < es.length
  · have h1' : (12 : Int) < (es.length : Int) := by omega
    rw [if_pos (by simpa using h1')]
    by_cases h2 : (es.length : Int) ≤ 4096
    · rw [if_pos (by simpa using h2), f15_eq]; rfl
    · rw [if_neg (by simpa using h2)]
      by_cases h3 : (4100 : Int) < (es.length : Int)
      · rw [if_pos (by simpa using h3), f15_eq]; rfl
      · rw [if_neg (by simpa using h3), f5J1_eq t r h (by omega)]
  · have h1' : ¬ (12 : Int) < (es.length : Int) := by omega
    rw [if_neg (by simpa using h1')]
    have h3 : ¬ (4100 : Int) < (es.length : Int) := by omega
    rw [if_neg (by simpa using h3), f5J1_eq t r h (by omega)]
end Go.Proofs.Ytgfohogbechkkaa
