import Derived.Test.YtccipmhffapcmaaP7
namespace Go.Proofs.Ytccipmhffapcmaa
open Go Go.Ab
set_option linter.unusedSimpArgs false
set_option linter.unusedVariables false

theorem scan_iff : ∀ (l seen : List Int), scan seen l = 0 ↔ (∀ x ∈ l, 1 ≤ x ∧ x ≤ 999) ∧ l.Nodup ∧ ∀ x ∈ l, x ∉ seen
  | [], seen => by simp [scan]
  | x :: xs, seen => by
    unfold scan
    by_cases h1 : x < 1 ∨ x > 999
    · rw [if_pos h1]
      exact ⟨(fun e => by cases e), fun e => by have := e.1 x (List.mem_cons_self ..); omega⟩
    · rw [if_neg h1]
      by_cases h2 : x ∈ seen
      · rw [if_pos h2]
        exact ⟨(fun e => by cases e), fun e => absurd h2 (e.2.2 x (List.mem_cons_self ..))⟩
      · rw [if_neg h2, scan_iff xs (seen ++ [x]), List.nodup_cons]
        constructor
        · rintro ⟨a, b, c⟩
          refine ⟨fun y hy => ?_, ⟨fun hm => ?_, b⟩, fun y hy => ?_⟩
          · rcases List.mem_cons.1 hy with rfl | hy
            · omega
            · exact a y hy
          · exact c x hm (List.mem_append_right _ (List.mem_singleton.2 rfl))
          · rcases List.mem_cons.1 hy with rfl | hy
            · exact h2
            · exact fun hs => c y hy (List.mem_append_left _ hs)
        · rintro ⟨a, ⟨b1, b2⟩, c⟩
          refine ⟨fun y hy => a y (List.mem_cons_of_mem _ hy), b2, fun y hy hs => ?_⟩
          rcases List.mem_append.1 hs with hs | hs
          · exact c y (List.mem_cons_of_mem _ hy) hs
          · rw [List.mem_singleton.1 hs] at hy; exact b1 hy

theorem check_rev {g : ApiGroup} (h : checkG g = 0) : checkG ⟨g.fNumber, g.fChannels.reverse⟩ = 0 := by
  unfold checkG at h ⊢
  by_cases h1 : g.fNumber < 1 ∨ g.fNumber > 1048576
  · rw [if_pos h1] at h; cases h
  · rw [if_neg h1] at h
    by_cases h2 : g.fChannels.length > 256
    · rw [if_pos h2] at h; cases h
    · rw [if_neg h2] at h
      obtain ⟨a, b, _⟩ := (scan_iff _ _).1 h
      show (if g.fNumber < 1 ∨ g.fNumber > 1048576 then 2 else if g.fChannels.reverse.length > 256 then 5 else scan [] g.fChannels.reverse) = 0
      rw [if_neg h1, List.length_reverse, if_neg h2]
      exact (scan_iff _ _).2 ⟨fun x hx => a x (List.mem_reverse.1 hx), List.pairwise_reverse.2 (b.imp fun h => Ne.symm h), fun x _ => by simp⟩

theorem evL_one {xs : List Int} : ∀ (m i : Nat), xs.length < m + i → evL 1 m i xs = xs.drop i
  | 0, i, h => by unfold evL; rw [List.drop_of_length_le (by omega)]
  | m + 1, i, h => by
    unfold evL
    by_cases hi : i < xs.length
    · rw [List.getElem?_eq_getElem hi, List.drop_eq_getElem_cons hi]
      dsimp only
      rw [evL_one m (i + 1) (by omega)]
    · rw [List.getElem?_eq_none (by omega), List.drop_of_length_le (by omega)]

theorem evL_none {s m i : Nat} {xs : List Int} (h : xs.length ≤ i) : evL s m i xs = [] := by
  cases m with
  | zero => rfl
  | succ m => unfold evL; rw [List.getElem?_eq_none h]

theorem evL_two {xs : List Int} : ∀ (n m1 m2 i : Nat), xs.length - i = n → xs.length < m1 + i → xs.length < m2 + (i + 1) → (evL 2 m1 i xs ++ evL 2 m2 (i + 1) xs).Perm (xs.drop i)
  | 0, m1, m2, i, hn, h1, h2 => by rw [evL_none (by omega), evL_none (by omega), List.drop_of_length_le (by omega)]; exact List.Perm.refl _
  | n + 1, m1, m2, i, hn, h1, h2 => by
    have hi : i < xs.length := by omega
    obtain ⟨m, rfl⟩ : ∃ m, m1 = m + 1 := ⟨m1 - 1, by omega⟩
    have e : evL 2 (m + 1) i xs = xs[i] :: evL 2 m (i + 2) xs := by
      conv => lhs; unfold evL
      rw [List.getElem?_eq_getElem hi]
    rw [e, List.drop_eq_getElem_cons hi, List.cons_append]
    refine List.Perm.cons _ ?_
    exact (List.perm_append_comm).trans (evL_two n m2 m (i + 1) (by omega) (by omega) (by omega))

theorem sort_perm {xs ys : List Int} (h : xs.Perm ys) : (xs.mergeSort fun x y => decide (x ≤ y)) = ys.mergeSort fun x y => decide (x ≤ y) := by
  have hs : ∀ zs : List Int, (zs.mergeSort fun x y => decide (x ≤ y)).Pairwise fun x y => decide (x ≤ y) = true := fun zs => List.pairwise_mergeSort (le := fun x y : Int => decide (x ≤ y)) (fun a b c h1 h2 => by simp at *; omega) (fun a b => by simp; omega) zs
  refine List.Perm.eq_of_pairwise (le := fun x y : Int => decide (x ≤ y) = true) (fun a b _ _ h1 h2 => by simp at h1 h2; omega) (hs xs) (hs ys) ?_
  exact (List.mergeSort_perm ..).trans (h.trans (List.mergeSort_perm ..).symm)

theorem f10_eq (x : ApiGroup) : f10 x = some true := by
  unfold f10
  rw [f17_eq _ (by simp), Option.bind_some, f15_eq]
  cases fewS [x] with
  | false => rfl
  | true =>
    rw [if_neg (by simp), f21_eq, Option.bind_some]
    by_cases h : checkG x ≠ 0
    · rw [if_pos (by simpa using h)]; rfl
    · rw [if_neg (by simpa using h)]
      have h0 : checkG x = 0 := by simpa using h
      have hl := check_len h0
      have m1 : mirS x = (⟨x.fNumber, x.fChannels.reverse⟩, 0) := by unfold mirS; rw [if_neg h]
      have m2 : mirS ⟨x.fNumber, x.fChannels.reverse⟩ = (x, 0) := by
        unfold mirS
        rw [if_neg (by rw [check_rev h0]; simp)]
        simp
      have e1 : everyS x 1 0 = (x, 0) := by
        unfold everyS
        rw [if_neg h, if_neg (by omega)]
        show ((⟨x.fNumber, evL 1 (x.fChannels.length + 1) 0 x.fChannels⟩ : ApiGroup), (0 : Int)) = _
        rw [evL_one _ _ (by omega), List.drop_zero]
      have e2 : everyS x 2 0 = (⟨x.fNumber, evL 2 (x.fChannels.length + 1) 0 x.fChannels⟩, 0) := by
        unfold everyS
        rw [if_neg h, if_neg (by omega)]
        rfl
      have e3 : everyS x 2 1 = (⟨x.fNumber, evL 2 (x.fChannels.length + 1) 1 x.fChannels⟩, 0) := by
        unfold everyS
        rw [if_neg h, if_neg (by omega)]
        rfl
      have hp := evL_two (xs := x.fChannels) (x.fChannels.length - 0) (x.fChannels.length + 1) (x.fChannels.length + 1) 0 rfl (by omega) (by omega)
      rw [List.drop_zero] at hp
      have hpl := hp.length_eq
      rw [List.length_append] at hpl
      rw [Nat.zero_add] at hp hpl
      generalize evL 2 (x.fChannels.length + 1) 0 x.fChannels = ev at *
      generalize evL 2 (x.fChannels.length + 1) 1 x.fChannels = od at *
      have hc : conc? 8 [ev, od] = some (ev ++ od) := by
        unfold conc?
        have hlen : ([ev, od] : List (List Int)).flatten.length ≤ 256 := by simp; omega
        rw [if_pos ⟨by unfold room; omega, by unfold maxStr; omega, by simp [maxStr]⟩]
        simp
      have s1 : sortv? (ev ++ od) = some ((ev ++ od).mergeSort fun x y => decide (x ≤ y)) := if_pos (by rw [List.length_append]; omega)
      have s2 : sortv? x.fChannels = some (x.fChannels.mergeSort fun x y => decide (x ≤ y)) := if_pos (by omega)
      have hsl : (x.fChannels.mergeSort fun x y => decide (x ≤ y)).length ≤ 9223372036854775807 := by rw [List.length_mergeSort]; omega
      rw [f24_eq, m1, Option.bind_some]
      dsimp only
      rw [f24_eq, m2, Option.bind_some, f26_eq, e1, Option.bind_some, f26_eq, e2, Option.bind_some, f26_eq, e3, Option.bind_some]
      dsimp only
      have ho : okG x := by unfold okG; omega
      rw [if_neg (by simp [show IntKind.i64.wrap 0 = 0 by decide]), f19_eq ho, Option.bind_some, if_neg (by simp), Option.bind_some, if_neg (by simp), w64 (by omega) (by omega), if_neg (by simp only [decide_eq_true_eq]; omega), if_neg (by simp)]
      unfold f37 f35_58
      rw [hc, Option.bind_some]
      simp only [f10_C1, f10_C2, Option.bind_some]
      rw [s1, Option.bind_some, s2, Option.bind_some, sort_perm hp, f16_eq hsl, Option.bind_some]
      simp
end Go.Proofs.Ytccipmhffapcmaa
