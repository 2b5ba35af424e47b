/-
  Plain laws of records: TopRecordsContinued.
-/
import Derived.Test.YtkbjimfganeooaaP2
import Derived.Test.YtkbjimfganeooaaY41
set_option linter.unusedSimpArgs false
set_option linter.unusedVariables false
namespace Go.Proofs.Ytkbjimfganeooaa
open Go Go.Ab

theorem f4_eq (l more : List RecordEntry) (cut : Int) (hc : 0 ≤ cut ∧ cut ≤ 65535) : f4 l more cut = some true := by
  obtain ⟨b1, hb1, hbt1⟩ := play_ok l
  obtain ⟨b2, hb2, hbt2⟩ := play_ok more
  unfold f4
  rw [hb1, hb2]
  simp only [Option.bind_some, f7_eq]
  cases b1 with
  | false => rfl
  | true =>
  cases b2 with
  | false => rfl
  | true =>
  obtain ⟨hl, hR⟩ := hbt1 rfl
  obtain ⟨hl2, hR2⟩ := hbt2 rfl
  rw [if_neg (by simp), if_neg (by simp), join_ok hR (by omega), join_ok hR2 (by omega)]
  simp only [Option.bind_some]
  have hJ1 := Jn_len hR
  have hJ2 := Jn_len hR2
  have hw1 : IntKind.i64.wrap (((Jn l).length : Int) + 1) = ((Jn l).length : Int) + 1 := w64 (by omega) (by omega)
  have hw2 : IntKind.i64.wrap cut = cut := w64 (by omega) (by omega)
  rw [if_neg (by simp), if_neg (by simp), hw1, hw2, nz_some (by omega)]
  simp only [Option.bind_some]
  obtain ⟨c, hc0, hcl⟩ : ∃ c : Nat, cut.tmod (((Jn l).length : Int) + 1) = (c : Int) ∧ c ≤ (Jn l).length := by
    rw [Int.tmod_eq_emod_of_nonneg hc.1]
    have a1 := Int.emod_nonneg cut (b := ((Jn l).length : Int) + 1) (by omega)
    have a2 := Int.emod_lt_of_pos cut (b := ((Jn l).length : Int) + 1) (by omega)
    exact ⟨(cut % (((Jn l).length : Int) + 1)).toNat, by omega, by omega⟩
  have hs : slc? (Jn l) 0 (c : Int) = some ((Jn l).take c) := by
    rw [slc_some ⟨by omega, by omega, by omega⟩]; simp
  rw [hc0, hs]
  simp only [Option.bind_some]
  obtain ⟨m, t, hm, ht, htt⟩ := torn l c hcl
  have hRt : ∀ x ∈ l.take m, Rt x := fun x hx => hR x (List.mem_of_mem_take hx)
  have htl : (l.take m).length = m := by rw [List.length_take]; omega
  have hJt := Jn_len hRt
  have hall : ∃ e, f9 (Jn (l.take m) ++ t) = some (l.take m, ((Jn (l.take m)).length : Int), e) := by
    rcases htt with rfl | ⟨x, hx, k, hk, hk0, rfl⟩
    · exact ⟨0, all_eq hRt (by omega) (by simp) (.inl ⟨rfl, rfl⟩)⟩
    · have hpl := Pk_len x
      have hxr := (hR x hx).2
      refine ⟨20, all_eq hRt (by omega) (by rw [List.length_take]; omega) (.inr ⟨?_, by decide, _, _, next_torn (hR x hx) (by omega) hk⟩)⟩
      intro h
      have := congrArg List.length h
      rw [List.length_take, List.length_nil] at this
      omega
  obtain ⟨e, he⟩ := hall
  rw [ht, he]
  simp only [Option.bind_some]
  have hs2 : slc? (Jn (l.take m) ++ t) 0 ((Jn (l.take m)).length : Int) = some (Jn (l.take m)) := slc_mid (pre := []) rfl (by simp)
  rw [if_neg (by simp), if_neg (by simp only [decide_eq_true_eq, List.length_append]; omega), hs2]
  simp only [Option.bind_some]
  rw [cat_some (by omega)]
  simp only [Option.bind_some]
  have hRa : ∀ x ∈ l.take m ++ more, Rt x := fun x hx => (List.mem_append.1 hx).elim (hRt x) (hR2 x)
  have ha := all_eq (l := l.take m ++ more) (t := []) (e := 0) hRa (by rw [List.length_append]; omega) (by simp) (.inl ⟨rfl, rfl⟩)
  rw [List.append_nil, Jn_app] at ha
  rw [ha]
  simp only [Option.bind_some]
  have hw3 : IntKind.i64.wrap (((Jn (l.take m)).length : Int) + ((Jn more).length : Int)) = ((Jn (l.take m) ++ Jn more).length : Int) := by
    rw [w64 (by omega) (by omega), List.length_append]; omega
  have hcon : f11 [l.take m, more] = some (l.take m ++ more) := by
    have hf : [l.take m, more].flatten = l.take m ++ more := by simp
    unfold f11 conc?
    rw [hf, if_pos ⟨by unfold room; rw [List.length_append]; omega, by unfold maxStr; rw [List.length_append]; omega, by unfold maxStr; simp⟩]
  rw [if_pos (by simp), if_pos (by rw [hw3]; simp), hcon]
  simp only [Option.bind_some]
  rw [same_ok (by rw [List.length_append]; omega)]
  simp only [Option.bind_some, if_true]
  have hs3 : slc? l 0 ((l.take m).length : Int) = some (l.take m) := by
    rw [slc_some ⟨by omega, by omega, by omega⟩, htl]; simp
  rw [if_pos (by simp only [decide_eq_true_eq, htl]; omega), hs3]
  simp only [Option.bind_some]
  rw [same_ok (by omega)]
  simp only [Option.bind_some, if_true, f7_eq]

theorem wf16 {n : Int} (h : (Lit.int .u16 n).wf = true) : 0 ≤ n ∧ n ≤ 65535 := by
  have h2 : IntKind.u16.min ≤ n ∧ n ≤ IntKind.u16.max := by simpa [Lit.wf] using h
  rwa [show IntKind.u16.min = 0 by decide, show IntKind.u16.max = 65535 by decide] at h2
end Go.Proofs.Ytkbjimfganeooaa
