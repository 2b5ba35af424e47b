import Derived.Test.YtgfohogbechkkaaQH
set_option linter.unusedSimpArgs false
set_option linter.unusedVariables false
namespace Go.Proofs.Ytgfohogbechkkaa
open Go Go.Ab
theorem f10_eq (beats : List TopPlayBeat) (hb : ∀ b ∈ beats, (0 ≤ b.fUniverse ∧ b.fUniverse ≤ 255) ∧ (0 ≤ b.fAfter ∧ b.fAfter ≤ 255)) : f10 beats = some true := by
 unfold f10
 rw [Net.f42_eq, k5, Option.bind_some]
 simp only
 rw [if_neg (by decide)]
 by_cases hl : 40 < beats.length
 ·rw [if_pos (by simp only [decide_eq_true_eq]; omega), if_pos (by decide), f49_eq]; rfl
 rw [if_neg (by simp only [decide_eq_true_eq]; omega)]
 have hrun : (f10_L1 beats).run (0, 0, 7, 100, 0, 0, [], [], List.replicate 4 [], List.replicate 4 0) = some (.inl ()) := by
  refine run_eq (fun s => ∃ (k : Nat) (t pulse : Int) (l : List NetworkStream) (ys : List ReceiverInput) (slots : List (List UInt8)) (last : List Int), s = (t, (k : Int), 7, 100, 0, pulse, l, ys, slots, last) ∧ k ≤ beats.length ∧ t ≤ 2550 * k ∧ (0 ≤ pulse ∧ pulse ≤ 255) ∧ Dl t k l ys slots last ∧ ∀ z ∈ last, 0 ≤ z ∧ z ≤ 10000000) (fun s => beats.length - s.2.1.toNat)
   ⟨0, 0, 0, [], [], _, _, rfl, Nat.zero_le _, by omega, by omega, dl_zero, fun z hz => by rw [List.eq_of_mem_replicate hz]; omega⟩ ?_
  rintro s ⟨k, t, pulse, l, ys, slots, last, rfl, hk, ht, hp, hd, hr⟩
  simp only [f10_L1]
  by_cases h1 : k < beats.length
  ·left
   have hx := List.getElem?_eq_getElem h1
   obtain ⟨b1, b2⟩ := hb _ (List.getElem_mem h1)
   generalize beats[k] = x at hx b1 b2
   have R := Rnd.mk' hx (by omega)
   have t0 := hd.gr.t0
   have hw5 : IntKind.i64.wrap (t + IntKind.i64.wrap (10 * IntKind.i64.wrap x.fAfter)) = t + 10 * x.fAfter := by
    rw [w64 (a := x.fAfter) (by omega) (by omega), w64 (a := 10 * x.fAfter) (by omega) (by omega), w64 (by omega) (by omega)]
   have hm3 : x.fUniverse.tmod 3 = x.fUniverse % 3 := Int.tmod_eq_emod_of_nonneg b1.1
   obtain ⟨U, hU⟩ : ∃ U : Nat, (U : Int) = 1 + x.fUniverse % 3 := ⟨(1 + x.fUniverse % 3).toNat, by omega⟩
   have hu : IntKind.i64.wrap (1 + IntKind.i64.wrap (x.fUniverse.tmod 3)) = (U : Int) := by
    rw [hm3, w64 (a := x.fUniverse % 3) (by omega) (by omega), w64 (by omega) (by omega), hU]
   have hd1 : Dl (t + 10 * x.fAfter) k l ys slots last := hd.later (by omega) (by omega) (Nat.le_refl _)
   have hfo : Net.FrOk (plainF (U : Int) (IntKind.i64.wrap (x.fValue.tmod 4))) := plain_ok (by omega)
   obtain ⟨c1, c2⟩ := dl_beat (pulse := pulse) (st := l) hd1 (by omega) hfo rfl (by omega)
   rw [if_pos R.lt, R.at', Option.bind_some, hu, f50_eq, Option.bind_some, hw5, Net.f43_eq, send_one hd1.gs ⟨by omega, by omega⟩ hp hfo, Option.bind_some]
   simp only
   obtain ⟨ys', slots', last', e1, e2, e3⟩ := J2_eq (v := (k : Int)) (beats := beats) (s1 := 7) (s2 := 100) (s3 := 0) (s4 := pulse) (n1 := 7) (n2 := 100) (n3 := 0) (n4 := pulse) (s5 := l) (n5 := (Net.stepS ⟨7, 100, 0, pulse, l⟩ (t + 10 * x.fAfter) (plainF (U : Int) (IntKind.i64.wrap (x.fValue.tmod 4))) l []).1) hw5 (by rw [w64 (by omega) (by omega)]) hu (by omega) hr hd1.gr c1 c2
   rw [e1]
   exact ⟨_, rfl, ⟨k + 1, _, _, _, _, _, _, by rfl, h1, by omega, hp, e2, e3⟩, by simp only; omega⟩
  ·right
   rw [if_neg (by simp only [decide_eq_true_eq]; omega)]
 rw [hrun]
 simp only [Option.bind_some]
 rw [f49_eq]
 rfl
end Go.Proofs.Ytgfohogbechkkaa
