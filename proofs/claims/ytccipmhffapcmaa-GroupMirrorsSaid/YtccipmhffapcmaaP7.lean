import Derived.Test.YtccipmhffapcmaaP2
namespace Go.Proofs.Ytccipmhffapcmaa
open Go Go.Ab
set_option linter.unusedSimpArgs false

theorem f27_eq (g : ApiGroup) (step first : Int) : f27 g step first = some (everyS g step first) := by
  rw [← f26_eq]
  unfold f27 f26
  rw [f21_eq, f20_eq]
  rfl

def mirS (g : ApiGroup) : ApiGroup × Int := if checkG g ≠ 0 then (⟨0, []⟩, checkG g) else (⟨g.fNumber, g.fChannels.reverse⟩, 0)

theorem f46_eq {xs : List Int} (h : xs.length ≤ 1000) : f46 xs = some xs := by
  unfold f46
  have ha : app? 8 [] xs = some xs := by rw [app_some (by simp; omega) (by simp; omega)]; rfl
  by_cases hx : xs = []
  · subst hx
    rw [nil_nil (by simp [ha])]
    simp
  · rw [nil_cons hx]
    simp [ha]

theorem f25_L1_eq {g : ApiGroup} (hl : g.fChannels.length ≤ 256) : (f25_L1 g).run (IntKind.i64.wrap (((g.fChannels.length : Nat) : Int) - 1), []) = some g.fChannels.reverse := by
  generalize hx : g.fChannels = xs at hl
  have h0 : IntKind.i64.wrap (((xs.length : Nat) : Int) - 1) = ((xs.length : Nat) : Int) - 1 := w64 (by omega) (by omega)
  rw [h0]
  have := run_count (L := f25_L1 g) (e := xs.reverse) (fun k => (((xs.length : Nat) : Int) - 1 - (k : Int), xs.reverse.take k)) xs.length ?_ 0 (Nat.zero_le _) fun k _ hk => ?_
  · simpa using this
  · simp only [f25_L1]
    rw [if_neg (by simp; omega), List.take_of_length_le (by simp)]
  · simp only [f25_L1, hx]
    have hk' : xs.length - 1 - k < xs.length := by omega
    rw [if_pos (by simp; omega), at_some (x := xs[xs.length - 1 - k]) (by omega) (by rw [show (((xs.length : Nat) : Int) - 1 - (k : Int)).toNat = xs.length - 1 - k by omega]; exact List.getElem?_eq_getElem hk')]
    simp only [Option.bind_some]
    rw [app_some (by simp; omega) (by simp; omega), w64 (by omega) (by omega)]
    simp only [Option.bind_some]
    rw [List.take_succ_eq_append_getElem (by simpa using hk), List.getElem_reverse]
    congr 3
    omega

theorem f25_eq (g : ApiGroup) : f25 g = some (mirS g) := by
  unfold f25 mirS
  simp only [f21_eq, Option.bind_some, decide_eq_true_eq]
  by_cases h0 : checkG g = 0
  · simp only [h0, ne_eq, not_true_eq_false, if_false]
    rw [f25_L1_eq (check_len h0)]
    rfl
  · rw [if_pos h0, if_pos h0]

theorem f24_L2_eq {g : ApiGroup} {xs : List Int} (hl : xs.length ≤ 256) : (f24_L2 g).run (0, IntKind.i64.wrap (((xs.length : Nat) : Int) - 1), xs) = some xs.reverse := by
  refine run_eq (L := f24_L2 g) (fun s => ∃ k : Nat, s.1 = k ∧ s.2.1 = ((xs.length : Nat) : Int) - 1 - (k : Int) ∧ 2 * k ≤ xs.length + 1 ∧ s.2.2.length = xs.length ∧ ∀ m, m < xs.length → s.2.2[m]? = if m < k ∨ xs.length ≤ m + k then xs[xs.length - 1 - m]? else xs[m]?) (fun s => (s.2.1 - s.1 + 1).toNat) ⟨0, rfl, ?_, by omega, rfl, ?_⟩ ?_
  · dsimp only; rw [w64 (by omega) (by omega)]; simp
  · intro m hm; rw [if_neg (by omega)]
  · rintro ⟨i, j, v⟩ ⟨k, e1, e2, hk, hv, hm⟩
    dsimp only at e1 e2 hv hm ⊢
    subst e1; subst e2
    simp only [f24_L2]
    by_cases hlt : (k : Int) < ((xs.length : Nat) : Int) - 1 - (k : Int)
    · left
      have hj : (((xs.length : Nat) : Int) - 1 - (k : Int)).toNat = xs.length - 1 - k := by omega
      have a1 : xs.length - 1 - k < v.length := by omega
      have a2 : k < v.length := by omega
      rw [if_pos (by simpa using hlt), at_some (x := v[xs.length - 1 - k]) (by omega) (by rw [hj]; exact List.getElem?_eq_getElem a1), at_nat (List.getElem?_eq_getElem a2)]
      simp only [Option.bind_some, Int.toNat_natCast]
      rw [at_some (x := (v.set k v[xs.length - 1 - k])[xs.length - 1 - k]'(by simpa using a1)) (by omega) (by rw [hj]; exact List.getElem?_eq_getElem _)]
      simp only [Option.bind_some]
      refine ⟨_, rfl, ⟨k + 1, ?_, ?_, by omega, by simp [hv], ?_⟩, ?_⟩
      · dsimp only; rw [w64 (by omega) (by omega)]; rfl
      · dsimp only; rw [w64 (by omega) (by omega)]; omega
      · intro m hmm
        dsimp only
        rw [hj]
        by_cases c1 : xs.length - 1 - k = m
        · subst c1
          rw [List.getElem?_set_self (by simp; omega), if_pos (by omega), ← List.getElem?_eq_getElem a2, hm k (by omega), if_neg (by omega)]
          congr 1; omega
        · rw [List.getElem?_set_ne c1]
          by_cases c2 : k = m
          · subst c2
            rw [List.getElem?_set_self a2, if_pos (by omega), ← List.getElem?_eq_getElem a1, hm _ (by omega), if_neg (by omega)]
          · rw [List.getElem?_set_ne c2, hm m hmm]
            by_cases c3 : m < k ∨ xs.length ≤ m + k
            · rw [if_pos c3, if_pos (by omega)]
            · rw [if_neg c3, if_neg (by omega)]
      · dsimp only; rw [w64 (by omega) (by omega), w64 (by omega) (by omega)]; omega
    · right
      rw [if_neg (by simpa using hlt)]
      congr 2
      refine List.ext_getElem? fun m => ?_
      by_cases hmm : m < xs.length
      · rw [hm m hmm, List.getElem?_reverse hmm]
        split
        · rfl
        · congr 1; omega
      · rw [List.getElem?_eq_none (by omega), List.getElem?_eq_none (by simp; omega)]

theorem f24_eq (g : ApiGroup) : f24 g = some (mirS g) := by
  unfold f24 mirS
  simp only [f20_eq, Option.bind_some, decide_eq_true_eq]
  by_cases h0 : checkG g = 0
  · have hl := check_len h0
    simp only [h0, ne_eq, not_true_eq_false, if_false]
    rw [f46_eq (by omega)]
    simp only [Option.bind_some, f24_C1, f24_L2_eq hl]
    rw [must_true (by simp)]
  · rw [if_pos h0, if_pos h0]

theorem evL_len (s : Nat) : ∀ (m i : Nat) (xs : List Int), (evL s m i xs).length ≤ m
  | 0, _, _ => by simp [evL]
  | m + 1, i, xs => by
    unfold evL
    split
    · have := evL_len s m (i + s) xs
      simp; omega
    · simp

theorem f7_eq (g : ApiGroup) (step first : Int) : f7 g step first = some true := by
  unfold f7
  rw [f17_eq _ (by simp)]
  simp only [Option.bind_some, f15_eq, f24_eq, f25_eq, f26_eq, f27_eq, if_true]
  have o1 : okG (mirS g).1 := by
    unfold mirS okG
    split
    · simp
    · rename_i h; have := check_len (g := g) (by simpa using h); simp; omega
  have o2 : okG (everyS g step first).1 := by
    unfold everyS okG
    split
    · simp
    · split
      · simp
      · rename_i h _
        have h1 := check_len (g := g) (by simpa using h)
        have h2 := evL_len step.toNat (g.fChannels.length + 1) first.toNat g.fChannels
        dsimp only
        omega
  rw [f19_eq o1, f19_eq o2]
  simp
end Go.Proofs.Ytccipmhffapcmaa
