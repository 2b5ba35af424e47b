/-
  Plain laws of the sender of layer 56: NetworkLives.
-/
import Derived.Test.YtlidbikdeboihaaP5
import Derived.Test.YtlidbikdeboihaaY61
set_option linter.unusedSimpArgs false
set_option linter.unusedVariables false
namespace Go.Proofs.Ytlidbikdeboihaa
open Go Go.Ab

theorem wf8 {n : Int} (h : (Lit.int .u8 n).wf = true) : 0 ≤ n ∧ n ≤ 255 := by
  have h2 : IntKind.u8.min ≤ n ∧ n ≤ IntKind.u8.max := by simpa [Lit.wf] using h
  rwa [show IntKind.u8.min = 0 by decide, show IntKind.u8.max = 255 by decide] at h2

theorem plain_len (u v : Int) : (plainS u v).fSlots.length = 512 := by simp [plainS, Lib.repeatL_length]
theorem plain_eq {a b : Int} (ha : 0 ≤ a ∧ a ≤ 1) (hb : 0 ≤ b ∧ b ≤ 1) : ((plainS 1 a).fSlots == (plainS 1 b).fSlots) = decide (a = b) := by
  have h : (a = 0 ∨ a = 1) ∧ (b = 0 ∨ b = 1) := by omega
  obtain ⟨rfl | rfl, rfl | rfl⟩ := h <;> simp [plainS] <;> decide

theorem sendS_ok {S : NetworkSender} {t : Int} {frames : List ApiFrame} (hm : momentS S t = 0) (hf : framesS frames = 0) (h0 : S.fSync = 0) :
    sendS S t frames = (⟨S.fSource, S.fPriority, S.fSync, S.fPulse, (sentS S t frames).1⟩, (sentS S t frames).2, 0) := by
  unfold sendS
  simp [hm, hf, h0]

theorem frames6 (v : Int) : framesS [plainS 1 v] = 0 := by
  have := plain_len 1 v
  have hu : (plainS 1 v).fUniverse = 1 := rfl
  simp [framesS, frErr, List.range_succ, this, hu]

theorem moment60 {t : Int} (ht : 0 ≤ t ∧ t ≤ 10000000) : momentS ⟨9, 100, 0, 0, []⟩ t = 0 := by
  have h1 : namedS 9 100 0 = true := by decide
  simp [momentS, rightS, h1, wi, ht]

theorem moment61 {t : Int} (ht : 0 ≤ t ∧ t ≤ 10000000) {x : NetworkStream} (hu : x.fUniverse = 1) (hs : 0 ≤ x.fSeq ∧ x.fSeq ≤ 255) (hl : 0 ≤ x.fLast ∧ x.fLast ≤ t) (hti : 1 ≤ x.fTimes ∧ x.fTimes ≤ 3) (hsl : x.fSlots.length = 512) :
    momentS ⟨9, 100, 0, 0, [x]⟩ t = 0 := by
  have h1 : namedS 9 100 0 = true := by decide
  have h2 : wi t 0 10000000 = true := wi_iff.2 ht
  have h3 : wi x.fSeq 0 255 = true := wi_iff.2 hs
  have h4 : wi x.fLast 0 10000000 = true := wi_iff.2 (by omega)
  have h5 : wi x.fTimes 1 3 = true := wi_iff.2 hti
  have h6 : wi 1 1 8 = true := by decide
  have h7 : wi 0 0 255 = true := by decide
  have h8 : ¬ t < x.fLast := by omega
  simp [momentS, rightS, stErr, List.range_succ, h1, h2, h3, h4, h5, h6, h7, h8, hu, hsl]

theorem sent60 {t v : Int} : sentS ⟨9, 100, 0, 0, []⟩ t [plainS 1 v] = ([⟨1, 0, t, 1, (plainS 1 v).fSlots⟩], [⟨9, 1, 100, 0, 0, false, (plainS 1 v).fSlots⟩]) := by
  simp [sentS, stepS, posS, tellS]
  rfl

theorem sent61 {t v : Int} {x : NetworkStream} (hu : x.fUniverse = 1) :
    sentS ⟨9, 100, 0, 0, [x]⟩ t [plainS 1 v] = ([(nextS t (plainS 1 v) x).1], if (nextS t (plainS 1 v) x).2 = true then [⟨9, 1, 100, (nextS t (plainS 1 v) x).1.fSeq, 0, false, (nextS t (plainS 1 v) x).1.fSlots⟩] else []) := by
  have hv : (plainS 1 v).fUniverse = 1 := rfl
  have hn : (nextS t (plainS 1 v) x).1.fUniverse = 1 := nextS_spec.trans hu
  simp [sentS, stepS, posS, tellS, hu, hv, hn]

/-- What is known ahead of a beat. -/
structure At6 (n : Nat) (k : Nat) (value times last t : Int) (streams : List NetworkStream) : Prop where
  ht : 0 ≤ t ∧ t ≤ 1275 * k
  hl : 0 ≤ last ∧ last ≤ t
  hk : k ≤ n ∧ n ≤ 40
  hor : (streams = [] ∧ value = -1) ∨ ∃ seq, streams = [⟨1, seq, last, min times 3, (plainS 1 value).fSlots⟩] ∧ (0 ≤ seq ∧ seq ≤ 255) ∧ (0 ≤ value ∧ value ≤ 1) ∧ (1 ≤ times ∧ times ≤ k)

theorem f6_step {beats : List Law56Beat} (hb : ∀ b ∈ beats, (0 ≤ b.fAfter ∧ b.fAfter ≤ 255) ∧ (0 ≤ b.fValue ∧ b.fValue ≤ 255)) {k : Nat} {value times last t : Int} {streams : List NetworkStream}
    (h : At6 beats.length k value times last t streams) (hk : k < beats.length) :
    ∃ value' times' last' t' streams', (f6_L1 beats).body (t, value, times, last, (k : Int), 9, 100, 0, 0, streams) = some (.next (t', value', times', last', ((k + 1 : Nat) : Int), 9, 100, 0, 0, streams')) ∧ At6 beats.length (k + 1) value' times' last' t' streams' := by
  obtain ⟨ht, hl, hkn, hor⟩ := h
  have hx := List.getElem?_eq_getElem hk
  obtain ⟨hba, hbv⟩ := hb _ (List.getElem_mem hk)
  generalize beats[k] = b at *
  have hw : IntKind.i64.wrap ((k : Int) + 1) = ((k + 1 : Nat) : Int) := by rw [w64 (by omega) (by omega)]; omega
  have hv1 : 0 ≤ b.fValue.tmod 2 ∧ b.fValue.tmod 2 ≤ 1 := by rw [Int.tmod_eq_emod_of_nonneg hbv.1]; omega
  have hv : IntKind.i64.wrap (b.fValue.tmod 2) = b.fValue.tmod 2 := w64 (by omega) (by omega)
  have ha : IntKind.i64.wrap b.fAfter = b.fAfter := w64 (by omega) (by omega)
  have h5 : IntKind.i64.wrap (5 * b.fAfter) = 5 * b.fAfter := w64 (by omega) (by omega)
  have htt : IntKind.i64.wrap (t + 5 * b.fAfter) = t + 5 * b.fAfter := w64 (by omega) (by omega)
  have hd : IntKind.i64.wrap (t + 5 * b.fAfter - last) = t + 5 * b.fAfter - last := w64 (by omega) (by omega)
  have hat1 : ∀ p : NetworkPacket, at? [p] 0 = some p := fun p => rfl
  simp only [f6_L1]
  rw [if_pos (by simp; omega), at_nat hx]
  simp only [Option.bind_some, hv, ha, h5, htt, f27_eq, f23_eq]
  generalize hvv : b.fValue.tmod 2 = v at *
  generalize hT : t + 5 * b.fAfter = T at *
  rcases hor with ⟨rfl, rfl⟩ | ⟨seq, rfl, hs, hva, htm⟩
  · rw [sendS_ok (moment60 (by omega)) (frames6 v) rfl, sent60]
    refine ⟨v, 1, T, T, [⟨1, 0, T, 1, (plainS 1 v).fSlots⟩], ?_, ⟨by omega, by omega, by omega, .inr ⟨0, ?_, by omega, by omega, by omega⟩⟩⟩
    · simp only [f6_J2, f6_J3, f6_J4]
      have hne : v ≠ -1 := by omega
      have w1 : IntKind.i64.wrap 1 = 1 := rfl
      simp [hne, hat1, hv, hvv, ha, h5, hT, htt, hw, f27_eq, w1]
    · simp; decide
  · have hmin : 1 ≤ min times 3 ∧ min times 3 ≤ 3 := by omega
    rw [sendS_ok (moment61 (by omega) rfl hs (by simp only; omega) hmin (plain_len 1 value)) (frames6 v) rfl, sent61 rfl]
    have hpe := plain_eq hva hv1
    have hnq := nextSeq_wi seq hs.1
    have w1 : IntKind.i64.wrap 1 = 1 := rfl
    have wt : IntKind.i64.wrap (times + 1) = times + 1 := w64 (by omega) (by omega)
    by_cases hveq : v = value
    · subst hveq
      by_cases h3 : times < 3
      · have hns : nextS T (plainS 1 v) ⟨1, seq, last, min times 3, (plainS 1 v).fSlots⟩ = (⟨1, nextSeq seq, T, min (times + 1) 3, (plainS 1 v).fSlots⟩, true) := by
          unfold nextS
          rw [if_neg (by simp), if_pos (by simp only; omega)]
          simp only [Prod.mk.injEq, NetworkStream.mk.injEq, and_true, true_and]
          omega
        rw [hns]
        refine ⟨v, times + 1, T, T, _, ?_, ⟨by omega, by omega, by omega, .inr ⟨nextSeq seq, rfl, hnq, hva, by omega⟩⟩⟩
        simp only [f6_J2, f6_J3, f6_J4]
        simp [h3, hat1, hv, hvv, ha, h5, hT, htt, hw, f27_eq, wt]
      · by_cases h4 : 1000 ≤ T - last
        · have hns : nextS T (plainS 1 v) ⟨1, seq, last, min times 3, (plainS 1 v).fSlots⟩ = (⟨1, nextSeq seq, T, min (times + 1) 3, (plainS 1 v).fSlots⟩, true) := by
            unfold nextS
            rw [if_neg (by simp), if_pos (by simp only; omega)]
            simp only [Prod.mk.injEq, NetworkStream.mk.injEq, and_true, true_and]
            omega
          rw [hns]
          refine ⟨v, times + 1, T, T, _, ?_, ⟨by omega, by omega, by omega, .inr ⟨nextSeq seq, rfl, hnq, hva, by omega⟩⟩⟩
          simp only [f6_J2, f6_J3, f6_J4]
          simp [h3, h4, hat1, hv, hvv, ha, h5, hT, htt, hd, hw, f27_eq, wt]
        · have hns : nextS T (plainS 1 v) ⟨1, seq, last, min times 3, (plainS 1 v).fSlots⟩ = (⟨1, seq, last, min times 3, (plainS 1 v).fSlots⟩, false) := by
            unfold nextS
            rw [if_neg (by simp), if_neg (by simp only; omega)]
          rw [hns]
          refine ⟨v, times, last, T, _, ?_, ⟨by omega, by omega, by omega, .inr ⟨seq, rfl, hs, hva, by omega⟩⟩⟩
          simp only [f6_J2, f6_J3, f6_J4]
          simp [h3, h4, hat1, hv, hvv, ha, h5, hT, htt, hd, hw, f27_eq, wt]
    · have hsl : (plainS 1 value).fSlots ≠ (plainS 1 v).fSlots := by
        intro h
        rw [h] at hpe
        simp at hpe
        exact hveq hpe.symm
      have hns : nextS T (plainS 1 v) ⟨1, seq, last, min times 3, (plainS 1 value).fSlots⟩ = (⟨1, nextSeq seq, T, 1, (plainS 1 v).fSlots⟩, true) := by
        unfold nextS
        rw [if_pos hsl]
      rw [hns]
      refine ⟨v, 1, T, T, _, ?_, ⟨by omega, by omega, by omega, .inr ⟨nextSeq seq, by rw [show min (1 : Int) 3 = 1 by decide], hnq, hv1, by omega⟩⟩⟩
      simp only [f6_J2, f6_J3, f6_J4]
      simp [hveq, hat1, hv, hvv, ha, h5, hT, htt, hd, hw, f27_eq, w1]

theorem f6_eq (beats : List Law56Beat) (hb : ∀ b ∈ beats, (0 ≤ b.fAfter ∧ b.fAfter ≤ 255) ∧ (0 ≤ b.fValue ∧ b.fValue ≤ 255)) : f6 beats = some true := by
  unfold f6
  have hn : newS 9 100 0 = (⟨9, 100, 0, 0, []⟩, 0) := by kernel_rfl
  rw [f17_eq, hn]
  simp only [Option.bind_some, ne_eq, not_true_eq_false, decide_false, Bool.false_eq_true, if_false]
  by_cases h40 : 40 < beats.length
  · rw [if_pos (by simp; omega)]; simp [f14_eq]
  rw [if_neg (by simp; omega)]
  have hrun := run_eq (L := f6_L1 beats) (s0 := (0, -1, 0, 0, 0, 9, 100, 0, 0, [])) (e := Sum.inl ())
    (fun (t, value, times, last, v, s1, s2, s3, s4, streams) => ∃ k : Nat, v = k ∧ s1 = 9 ∧ s2 = 100 ∧ s3 = 0 ∧ s4 = 0 ∧ At6 beats.length k value times last t streams)
    (fun (t, value, times, last, v, _) => beats.length - v.toNat) ⟨0, rfl, rfl, rfl, rfl, rfl, ⟨by simp, by simp, by omega, .inl ⟨rfl, rfl⟩⟩⟩ (by
    rintro ⟨t, value, times, last, v, s1, s2, s3, s4, streams⟩ ⟨k, rfl, rfl, rfl, rfl, rfl, h⟩
    by_cases hk : k < beats.length
    · obtain ⟨value', times', last', t', streams', h1, h2⟩ := f6_step hb h hk
      exact .inl ⟨_, h1, ⟨k + 1, rfl, rfl, rfl, rfl, rfl, h2⟩, by simp only; omega⟩
    · right
      simp only [f6_L1]
      rw [if_neg (by simp; omega)])
  rw [hrun]
  simp [f14_eq]
end Go.Proofs.Ytlidbikdeboihaa
