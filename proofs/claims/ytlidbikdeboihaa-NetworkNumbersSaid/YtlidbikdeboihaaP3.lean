/-
  Plain laws of the sender of layer 56, third part: Send; the examples.
-/
import Derived.Test.YtlidbikdeboihaaP2
set_option linter.unusedSimpArgs false
set_option linter.unusedVariables false
namespace Go.Proofs.Ytlidbikdeboihaa
open Go Go.Ab

/-- A right frame. -/
def FrOk (f : ApiFrame) : Prop := (1 ≤ f.fUniverse ∧ f.fUniverse ≤ 8) ∧ f.fSlots.length = 512

theorem nextS_spec {t : Int} {f : ApiFrame} {x : NetworkStream} : (nextS t f x).1.fUniverse = x.fUniverse := by
  unfold nextS
  split
  · rfl
  · split <;> rfl

theorem good_step {S : NetworkSender} {t : Int} {f : ApiFrame} {l : List NetworkStream} {out : List NetworkPacket} (hg : Good t l) (ht : 0 ≤ t) (hf : FrOk f) : Good t (stepS S t f l out).1 := by
  have hp := pos_spec hg.asc f.fUniverse
  have hnew : ∀ y : NetworkStream, y = ⟨f.fUniverse, 0, t, 1, f.fSlots⟩ → ((0 ≤ y.fSeq ∧ y.fSeq ≤ 255) ∧ (0 ≤ y.fLast ∧ y.fLast ≤ t) ∧ (1 ≤ y.fTimes ∧ y.fTimes ≤ 3) ∧ y.fSlots.length = 512) ∧ (1 ≤ y.fUniverse ∧ y.fUniverse ≤ 8) := fun y e => by
    subst e
    exact ⟨⟨by simp, by simp; omega, by simp, hf.2⟩, hf.1⟩
  unfold stepS
  cases hx : l[posS l f.fUniverse]? with
  | none =>
    simp only
    have hle : l.length ≤ posS l f.fUniverse := by simpa using hx
    refine ⟨⟨fun y hy => ?_, ?_⟩, fun y hy => ?_⟩
    · rcases List.mem_append.1 hy with hy | hy
      · exact hg.rng y hy
      · exact (hnew y (by simpa using hy)).2
    · refine List.pairwise_append.2 ⟨hg.asc, by simp, fun y hy z hz => ?_⟩
      obtain ⟨k, hk, rfl⟩ := List.mem_iff_getElem.1 hy
      have := (hp k _ (List.getElem?_eq_getElem hk)).2 (by omega)
      have hz : z = (⟨f.fUniverse, 0, t, 1, f.fSlots⟩ : NetworkStream) := by simpa using hz
      subst hz; exact this
    · rcases List.mem_append.1 hy with hy | hy
      · exact hg.ok y hy
      · exact (hnew y (by simpa using hy)).1
  | some x =>
    simp only
    obtain ⟨hpl, hxe⟩ := List.getElem?_eq_some_iff.1 hx
    have hxm := List.mem_of_getElem? hx
    obtain ⟨ok1, ok2, ok3, ok4⟩ := hg.ok x hxm
    by_cases he : x.fUniverse = f.fUniverse
    · rw [if_pos he]
      simp only
      have hn : ((0 ≤ (nextS t f x).1.fSeq ∧ (nextS t f x).1.fSeq ≤ 255) ∧ (0 ≤ (nextS t f x).1.fLast ∧ (nextS t f x).1.fLast ≤ t) ∧ (1 ≤ (nextS t f x).1.fTimes ∧ (nextS t f x).1.fTimes ≤ 3) ∧ (nextS t f x).1.fSlots.length = 512) := by
        have hq := nextSeq_wi x.fSeq ok1.1
        have hf2 := hf.2
        unfold nextS
        split
        · exact ⟨hq, ⟨ht, Int.le_refl _⟩, by simp, hf2⟩
        · split
          · exact ⟨hq, ⟨ht, Int.le_refl _⟩, by simp only; omega, ok4⟩
          · exact ⟨ok1, ok2, ok3, ok4⟩
      refine ⟨⟨fun y hy => ?_, ?_⟩, fun y hy => ?_⟩
      · rcases List.mem_or_eq_of_mem_set hy with hy | rfl
        · exact hg.rng y hy
        · rw [nextS_spec]; exact hg.rng x hxm
      · rw [List.pairwise_iff_getElem]
        intro i j hi hj hij
        have hi' : i < l.length := by simpa using hi
        have hj' : j < l.length := by simpa using hj
        have hu : ∀ k (hk : k < l.length), ((l.set (posS l f.fUniverse) (nextS t f x).1)[k]'(by simpa using hk)).fUniverse = l[k].fUniverse := fun k hk => by
          rw [List.getElem_set]
          split
          · rename_i hpk; subst hpk; rw [nextS_spec, ← hxe]
          · rfl
        rw [hu i hi', hu j hj']
        exact List.pairwise_iff_getElem.1 hg.asc i j hi' hj' hij
      · rcases List.mem_or_eq_of_mem_set hy with hy | rfl
        · exact hg.ok y hy
        · exact hn
    · rw [if_neg he]
      simp only
      have hnl : ¬ x.fUniverse < f.fUniverse := fun h => Nat.lt_irrefl _ ((hp _ x hx).1 h)
      have hmem : ∀ y, y ∈ l.take (posS l f.fUniverse) ++ ((⟨f.fUniverse, 0, t, 1, f.fSlots⟩ : NetworkStream) :: l.drop (posS l f.fUniverse)) → y ∈ l ∨ y = ⟨f.fUniverse, 0, t, 1, f.fSlots⟩ := fun y hy => by
        rcases List.mem_append.1 hy with hy | hy
        · exact .inl (List.mem_of_mem_take hy)
        · rcases List.mem_cons.1 hy with hy | hy
          · exact .inr hy
          · exact .inl (List.mem_of_mem_drop hy)
      refine ⟨⟨fun y hy => ?_, ?_⟩, fun y hy => ?_⟩
      · rcases hmem y hy with hy | hy
        · exact hg.rng y hy
        · exact (hnew y hy).2
      · have hlow : ∀ y ∈ l.take (posS l f.fUniverse), y.fUniverse < f.fUniverse := fun y hy => by
          obtain ⟨k, hk, rfl⟩ := List.mem_iff_getElem.1 hy
          rw [List.length_take] at hk
          rw [List.getElem_take]
          exact (hp k _ (List.getElem?_eq_getElem (by omega))).2 (by omega)
        have hhigh : ∀ y ∈ l.drop (posS l f.fUniverse), f.fUniverse < y.fUniverse := fun y hy => by
          obtain ⟨k, hk, rfl⟩ := List.mem_iff_getElem.1 hy
          rw [List.length_drop] at hk
          rw [List.getElem_drop]
          have h1 : ¬ posS l f.fUniverse + k < posS l f.fUniverse := by omega
          have hk2 : posS l f.fUniverse + k < l.length := by omega
          have h2 : ¬ l[posS l f.fUniverse + k].fUniverse < f.fUniverse := fun h => h1 ((hp (posS l f.fUniverse + k) _ (List.getElem?_eq_getElem hk2)).1 h)
          cases k with
          | zero =>
            simp only [Nat.add_zero] at h2 ⊢
            have : l[posS l f.fUniverse].fUniverse ≠ f.fUniverse := by rw [hxe]; exact he
            omega
          | succ k =>
            have := List.pairwise_iff_getElem.1 hg.asc (posS l f.fUniverse) (posS l f.fUniverse + (k + 1)) hpl (by omega) (by omega)
            rw [hxe] at this
            omega
        refine List.pairwise_append.2 ⟨hg.asc.sublist (List.take_sublist _ _), List.pairwise_cons.2 ⟨fun y hy => hhigh y hy, hg.asc.sublist (List.drop_sublist _ _)⟩, fun y hy z hz => ?_⟩
        have h1 := hlow y hy
        rcases List.mem_cons.1 hz with rfl | hz
        · exact h1
        · exact Int.lt_trans h1 (hhigh z hz)
      · rcases hmem y hy with hy | hy
        · exact hg.ok y hy
        · exact (hnew y hy).1

theorem step_len {S : NetworkSender} {t : Int} {f : ApiFrame} {l : List NetworkStream} {out : List NetworkPacket} : (stepS S t f l out).1.length ≤ l.length + 1 ∧ (stepS S t f l out).2.length ≤ out.length + 1 := by
  unfold stepS
  split
  · split
    · simp only [List.length_set]
      refine ⟨by omega, ?_⟩
      split <;> simp
    · have := pos_le l f.fUniverse
      simp; omega
  · simp

/-- The streams and packets behind frames. -/
def sentS (S : NetworkSender) (t : Int) (frames : List ApiFrame) : List NetworkStream × List NetworkPacket := frames.foldl (fun p f => stepS S t f p.1 p.2) (S.fStreams, [])

def sendS (S : NetworkSender) (t : Int) (frames : List ApiFrame) : NetworkSender × List NetworkPacket × Int :=
  if momentS S t ≠ 0 then (⟨0, 0, 0, 0, []⟩, [], momentS S t) else if framesS frames ≠ 0 then (⟨0, 0, 0, 0, []⟩, [], framesS frames)
  else if 0 < (sentS S t frames).2.length ∧ S.fSync ≠ 0 then (⟨S.fSource, S.fPriority, S.fSync, nextSeq S.fPulse, (sentS S t frames).1⟩, (sentS S t frames).2 ++ [⟨S.fSource, 0, S.fPriority, S.fPulse, S.fSync, false, []⟩], 0)
  else (⟨S.fSource, S.fPriority, S.fSync, S.fPulse, (sentS S t frames).1⟩, (sentS S t frames).2, 0)

theorem right_inv {s : NetworkSender} (h : rightS s = 0) : namedS s.fSource s.fPriority s.fSync = true ∧ wi s.fPulse 0 255 = true ∧ s.fStreams.length ≤ 8 ∧ ∀ i, i < s.fStreams.length → stErr s.fStreams i = none := by
  have hl := right_len h
  unfold rightS at h
  cases h1 : namedS s.fSource s.fPriority s.fSync
  · rw [if_pos h1] at h; cases h
  rw [if_neg (by simp [h1])] at h
  cases h2 : wi s.fPulse 0 255
  · rw [if_pos h2] at h; cases h
  rw [if_neg (by simp [h2]), if_neg (by omega)] at h
  refine ⟨rfl, rfl, hl, fun i hi => ?_⟩
  cases hf : (List.range s.fStreams.length).findSome? (stErr s.fStreams) with
  | none => exact List.findSome?_eq_none_iff.1 hf i (List.mem_range.2 hi)
  | some e =>
    rw [hf] at h
    simp only [Option.getD_some] at h
    subst h
    obtain ⟨j, _, hj⟩ := List.exists_of_findSome?_eq_some hf
    exfalso
    unfold stErr at hj
    split at hj
    · cases hj
    · repeat' split at hj
      all_goals cases hj

theorem adj_pairwise {τ : Type} {l : List τ} {u : τ → Int} (h : ∀ i (h1 : i + 1 < l.length), u l[i] < u l[i + 1]) : l.Pairwise fun x y => u x < u y := by
  rw [List.pairwise_iff_getElem]
  intro i j hi hj hij
  obtain ⟨d, rfl⟩ : ∃ d, j = i + 1 + d := ⟨j - i - 1, by omega⟩
  clear hij
  induction d with
  | zero => exact h i hj
  | succ d ih => exact Int.lt_trans (ih (by omega)) (h (i + 1 + d) hj)

theorem moment_good {s : NetworkSender} {t : Int} (h : momentS s t = 0) : rightS s = 0 ∧ (0 ≤ t ∧ t ≤ 10000000) ∧ Good t s.fStreams := by
  unfold momentS at h
  by_cases hr : rightS s = 0
  · rw [if_neg (by simpa using hr)] at h
    cases ht : wi t 0 10000000
    · rw [if_pos ht] at h; cases h
    rw [if_neg (by simp [ht])] at h
    cases ha : s.fStreams.any fun x => decide (t < x.fLast)
    · obtain ⟨_, _, hl, hst⟩ := right_inv hr
      have key : ∀ i (hi : i < s.fStreams.length), (wi s.fStreams[i].fUniverse 1 8 = true ∧ wi s.fStreams[i].fSeq 0 255 = true ∧ wi s.fStreams[i].fLast 0 10000000 = true ∧ wi s.fStreams[i].fTimes 1 3 = true) ∧ s.fStreams[i].fSlots.length = 512 ∧
          (∀ h0 : 0 < i, s.fStreams[i - 1].fUniverse < s.fStreams[i].fUniverse) := fun i hi => by
        have := hst i hi
        unfold stErr at this
        rw [List.getElem?_eq_getElem hi] at this
        simp only at this
        split at this
        · cases this
        rename_i h1
        split at this
        · cases this
        rename_i h2
        refine ⟨by simpa using h1, by omega, fun h0 => ?_⟩
        rw [if_pos h0, List.getElem?_eq_getElem (show i - 1 < s.fStreams.length by omega)] at this
        simp only at this
        split at this
        · cases this
        · omega
      refine ⟨hr, wi_iff.1 ht, ⟨⟨fun x hx => ?_, adj_pairwise fun i h1 => ?_⟩, fun x hx => ?_⟩⟩
      · obtain ⟨i, hi, rfl⟩ := List.mem_iff_getElem.1 hx
        exact wi_iff.1 (key i hi).1.1
      · exact (key (i + 1) h1).2.2 (by omega)
      · obtain ⟨i, hi, rfl⟩ := List.mem_iff_getElem.1 hx
        obtain ⟨⟨_, k2, k3, k4⟩, k5, _⟩ := key i hi
        have hn := List.any_eq_false.1 ha _ hx
        simp only [decide_eq_true_eq, Int.not_lt] at hn
        exact ⟨wi_iff.1 k2, ⟨(wi_iff.1 k3).1, hn⟩, wi_iff.1 k4, k5⟩
    · rw [if_pos ha] at h; cases h
  · rw [if_pos (by simpa using hr)] at h
    exact absurd h hr

theorem frames_ok {l : List ApiFrame} (h : framesS l = 0) : l.length ≤ 8 ∧ (∀ f ∈ l, FrOk f) ∧ l.Pairwise fun x y => x.fUniverse < y.fUniverse := by
  unfold framesS at h
  by_cases hl : 8 < l.length
  · rw [if_pos hl] at h; cases h
  rw [if_neg hl] at h
  have hst : ∀ i, i < l.length → frErr l i = none := fun i hi => by
    cases hf : (List.range l.length).findSome? (frErr l) with
    | none => exact List.findSome?_eq_none_iff.1 hf i (List.mem_range.2 hi)
    | some e =>
      rw [hf] at h
      simp only [Option.getD_some] at h
      subst h
      obtain ⟨j, _, hj⟩ := List.exists_of_findSome?_eq_some hf
      exfalso
      unfold frErr at hj
      split at hj
      · cases hj
      · repeat' split at hj
        all_goals cases hj
  have key : ∀ i (hi : i < l.length), FrOk l[i] ∧ (∀ h0 : 0 < i, l[i - 1].fUniverse < l[i].fUniverse) := fun i hi => by
    have := hst i hi
    unfold frErr at this
    rw [List.getElem?_eq_getElem hi] at this
    simp only at this
    split at this
    · cases this
    split at this
    · cases this
    split at this
    · cases this
    refine ⟨⟨by omega, by omega⟩, fun h0 => ?_⟩
    rw [if_pos h0, List.getElem?_eq_getElem (show i - 1 < l.length by omega)] at this
    simp only at this
    split at this
    · cases this
    · omega
  refine ⟨by omega, fun f hf => ?_, adj_pairwise fun i h1 => (key (i + 1) h1).2 (by omega)⟩
  obtain ⟨i, hi, rfl⟩ := List.mem_iff_getElem.1 hf
  exact (key i hi).1

theorem f23_eq (S : NetworkSender) (t : Int) (frames : List ApiFrame) : f23 S t frames = some (sendS S t frames) := by
  unfold f23 sendS
  rw [f41_eq]
  simp only [Option.bind_some]
  by_cases hm : momentS S t = 0
  case neg => simp [hm]
  rw [if_neg (by simp [hm]), if_neg (by simp [hm]), f42_eq]
  simp only [Option.bind_some]
  by_cases hf : framesS frames = 0
  case neg => simp [hf]
  rw [if_neg (by simp [hf]), if_neg (by simp [hf])]
  obtain ⟨hr, ht, hg⟩ := moment_good hm
  obtain ⟨_, hpu, hsl, _⟩ := right_inv hr
  obtain ⟨hfl, hfo, _⟩ := frames_ok hf
  rw [f43_eq (by omega)]
  simp only [Option.bind_some]
  let acc : Nat → List NetworkStream × List NetworkPacket := fun k => (frames.take k).foldl (fun p f => stepS S t f p.1 p.2) (S.fStreams, [])
  have hsucc : ∀ k (hk : k < frames.length), acc (k + 1) = stepS S t frames[k] (acc k).1 (acc k).2 := fun k hk => by
    simp only [acc]
    rw [List.take_succ_eq_append_getElem hk, List.foldl_append]
    rfl
  have hinv : ∀ k, k ≤ frames.length → Good t (acc k).1 ∧ (acc k).1.length ≤ 8 + k ∧ (acc k).2.length ≤ k := by
    intro k
    induction k with
    | zero => intro _; exact ⟨hg, by simpa [acc] using hsl, by simp [acc]⟩
    | succ k ih =>
      intro hk
      obtain ⟨i1, i2, i3⟩ := ih (by omega)
      rw [hsucc k (by omega)]
      have := step_len (S := S) (t := t) (f := frames[k]) (l := (acc k).1) (out := (acc k).2)
      generalize acc k = q at *
      obtain ⟨q1, q2⟩ := this
      exact ⟨good_step i1 ht.1 (hfo _ (List.getElem_mem _)), Nat.le_trans q1 (by omega), Nat.le_trans q2 (by omega)⟩
  have hend : acc frames.length = sentS S t frames := by simp [acc, sentS]
  have hrun := run_count (L := f23_L1 frames S t) (e := sentS S t frames) (fun k => ((k : Int), (acc k).1, (acc k).2)) frames.length (by
    simp only [f23_L1]
    rw [if_neg (by simp), hend]) 0 (Nat.zero_le _) (fun k _ hk => by
    obtain ⟨i1, i2, i3⟩ := hinv k (by omega)
    have hx := List.getElem?_eq_getElem hk
    have hw : IntKind.i64.wrap ((k : Int) + 1) = ((k + 1 : Nat) : Int) := by rw [w64 (by omega) (by omega)]; omega
    simp only [f23_L1]
    rw [if_pos (by simp; omega), at_nat hx]
    simp only [Option.bind_some]
    rw [C4_eq i1 ht (hfo _ (List.getElem_mem _)).1 (by omega) (by omega)]
    simp only [Option.bind_some, hw, hsucc k hk])
  have h0 : (((0 : Nat) : Int), (acc 0).1, (acc 0).2) = ((0 : Int), S.fStreams, []) := by simp [acc]
  rw [h0] at hrun
  rw [hrun]
  have hlen : (sentS S t frames).2.length ≤ 8 := by
    have := (hinv frames.length (Nat.le_refl _)).2.2
    rw [hend] at this
    omega
  simp only [Option.bind_some, f23_J2, f23_J3]
  by_cases h1 : 0 < (sentS S t frames).2.length
  · rw [if_pos (by simp; omega)]
    by_cases h2 : S.fSync = 0
    · simp [h2]
    · rw [if_pos (by simp [h2]), app_some (by simp only [List.length_cons, List.length_nil]; omega) (by simp only [List.length_cons, List.length_nil]; omega), f46_eq hpu]
      simp [h1, h2]
  · rw [if_neg (by simp only [decide_eq_true_eq]; omega)]
    simp [h1]
end Go.Proofs.Ytlidbikdeboihaa
