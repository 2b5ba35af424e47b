import Derived.Test.YtccipmhffapcmaaP8
namespace Go.Proofs.Ytccipmhffapcmaa
open Go Go.Ab
set_option linter.unusedSimpArgs false

theorem putL_mem (g : ApiGroup) : ∀ {l : List ApiGroup} {x : ApiGroup}, x ∈ putL g l → x = g ∨ x ∈ l
  | [], x, h => by simp [putL] at h; exact .inl h
  | y :: ys, x, h => by
    simp only [putL] at h
    split at h
    · rcases List.mem_cons.1 h with rfl | h
      · exact .inr (List.mem_cons_self ..)
      · exact (putL_mem g h).imp id fun h => List.mem_cons_of_mem _ h
    · split at h
      · rcases List.mem_cons.1 h with rfl | h
        · exact .inl rfl
        · exact .inr (List.mem_cons_of_mem _ h)
      · rcases List.mem_cons.1 h with rfl | h
        · exact .inl rfl
        · exact .inr h

theorem putL_asc (g : ApiGroup) : ∀ {l : List ApiGroup}, l.Pairwise (fun a b => a.fNumber < b.fNumber) → (putL g l).Pairwise fun a b => a.fNumber < b.fNumber
  | [], _ => by simp [putL]
  | x :: xs, h => by
    rw [List.pairwise_cons] at h
    simp only [putL]
    split
    · rename_i h1
      rw [List.pairwise_cons]
      refine ⟨fun y hy => ?_, putL_asc g h.2⟩
      rcases putL_mem g hy with rfl | hy
      · exact h1
      · exact h.1 y hy
    · rename_i h1
      split
      · rename_i h2
        rw [List.pairwise_cons]
        exact ⟨fun y hy => by have := h.1 y hy; omega, h.2⟩
      · rename_i h2
        rw [List.pairwise_cons, List.pairwise_cons]
        refine ⟨fun y hy => ?_, h⟩
        rcases List.mem_cons.1 hy with rfl | hy
        · omega
        · have := h.1 y hy; omega

theorem putL_get (g : ApiGroup) (n : Int) : ∀ {l : List ApiGroup}, l.Pairwise (fun a b => a.fNumber < b.fNumber) → getS (putL g l) n = if g.fNumber = n then some g else getS l n
  | [], _ => by
    unfold getS putL
    by_cases h : g.fNumber = n <;> simp [h]
  | x :: xs, h => by
    rw [List.pairwise_cons] at h
    have ih := putL_get g n h.2
    unfold getS at ih ⊢
    simp only [putL]
    split
    · rename_i h1
      by_cases h2 : x.fNumber = n
      · have : ¬ g.fNumber = n := by omega
        simp [h2, this]
      · rw [List.find?_cons_of_neg (by simpa using h2), List.find?_cons_of_neg (by simpa using h2)]
        exact ih
    · rename_i h1
      split
      · rename_i h2
        by_cases h3 : g.fNumber = n
        · simp [h3]
        · rw [List.find?_cons_of_neg (by simpa using h3), List.find?_cons_of_neg (by simp; omega), if_neg h3]
      · rename_i h2
        by_cases h3 : g.fNumber = n
        · simp [h3]
        · rw [List.find?_cons_of_neg (by simpa using h3), if_neg h3]

theorem putL_tab {l : List ApiGroup} {g : ApiGroup} (h : Tab l) (hg : checkG g = 0) (hl : (putL g l).length ≤ 32) : Tab (putL g l) where
  len := hl
  chk := fun x hx => by
    rcases putL_mem g hx with rfl | hx
    · exact hg
    · exact h.chk x hx
  asc := putL_asc g h.asc

def findF : Option ApiGroup → ApiGroup × Int
  | some g => (g, 0)
  | none => (⟨0, []⟩, 6)

theorem f9_eq (l : List ApiGroup) (g : ApiGroup) (hl : l.length ≤ 9223372036854775807) : f9 l g = some true := by
  unfold f9
  rw [f17_eq l hl, f17_eq [g] (by simp), f15_eq]
  simp only [Option.bind_some]
  by_cases h1 : fewS l = true
  case neg =>
    have : fewS l = false := by simpa using h1
    rw [this]; rfl
  by_cases h2 : fewS [g] = true
  case neg =>
    have : fewS [g] = false := by simpa using h2
    rw [h1, this]; rfl
  rw [h1, h2, f23_eq, f21_eq]
  simp only [Bool.not_true, Bool.false_eq_true, if_false, Option.bind_some, decide_eq_true_eq]
  by_cases h0 : tableS l = 0
  case neg => rw [if_pos h0]
  rw [if_neg (nn h0)]
  by_cases hg : checkG g = 0
  case neg => rw [if_pos hg]
  rw [if_neg (nn hg), f30_eq]
  have ht := tab_of h0
  have hlen := ht.len
  have hp := putL_len g l
  have hput : putS l g = if 32 < (putL g l).length then ([], 5) else (putL g l, 0) := by
    unfold putS; rw [if_neg (nn h0), if_neg (nn hg)]
  rw [hput]
  by_cases h3 : 32 < (putL g l).length
  · simp only [if_pos h3, Option.bind_some, decide_eq_true_eq]
    rw [if_pos (by decide), if_pos trivial, if_pos (by omega)]
  simp only [if_neg h3, Option.bind_some]
  have htm := putL_tab ht hg (by omega)
  have hm := tableS_of htm
  rw [if_neg (by decide), f28_eq, f32_eq, f22_eq, hm]
  have hfind : ∀ n, findS (putL g l) n = findF (if g.fNumber = n then some g else getS l n) := fun n => by
    unfold findS; rw [if_neg (nn hm), putL_get g n ht.asc]
    generalize (if g.fNumber = n then some g else getS l n) = o
    cases o <;> rfl
  have hdrop : dropS (putL g l) g.fNumber = ((putL g l).filter fun x => decide (x.fNumber ≠ g.fNumber), 0) := by
    unfold dropS; rw [if_neg (nn hm), putL_get g _ ht.asc, if_pos rfl]; rfl
  have htd : Tab ((putL g l).filter fun x => decide (x.fNumber ≠ g.fNumber)) := by
    refine ⟨?_, fun x hx => htm.chk x (List.mem_filter.1 hx).1, htm.asc.sublist List.filter_sublist⟩
    have := List.length_filter_le (fun x : ApiGroup => decide (x.fNumber ≠ g.fNumber)) (putL g l)
    omega
  have hgone : findS ((putL g l).filter fun x => decide (x.fNumber ≠ g.fNumber)) g.fNumber = (⟨0, []⟩, 6) := by
    unfold findS
    rw [if_neg (nn (tableS_of htd))]
    have : getS ((putL g l).filter fun x => decide (x.fNumber ≠ g.fNumber)) g.fNumber = none := by
      unfold getS
      rw [List.find?_eq_none]
      intro x hx
      simpa using (List.mem_filter.1 hx).2
    rw [this]
  rw [hdrop]
  simp only [Option.bind_some]
  rw [f28_eq, hgone, hfind, if_pos rfl]
  simp only [Option.bind_some, findF]
  rw [if_neg (by decide), if_neg (by decide), if_neg (by decide), f19_eq (okG_of hg)]
  simp only [Option.bind_some, decide_true, Bool.not_true, Bool.false_eq_true, if_false]
  have hrun := run_walk (L := f9_L1 l (putL g l, 0) g) l (fun k (_ : Unit) => (k : Int)) (fun _ _ _ => .inl ()) (fun _ => Sum.inl ()) (fun _ _ => True) (fun k a x hx _ => by
      refine ⟨?_, fun _ _ => trivial⟩
      have hk := getElem?_lt hx
      have hxm := getElem?_mem hx
      simp only [f9_L1]
      rw [if_pos (at_lt hx), at_nat hx, Option.bind_some, f28_eq, hfind, w64_succ (by omega)]
      by_cases hn : x.fNumber = g.fNumber
      · rw [if_pos hn.symm]
        simp [hn, roundL, findF]
      · rw [if_neg (Ne.symm hn)]
        have hget : getS l x.fNumber = some x := by
          unfold getS
          rw [List.find?_eq_some_iff_getElem]
          refine ⟨by simp, k, hk, (List.getElem?_eq_some_iff.1 hx).2, fun j hj => ?_⟩
          have := List.pairwise_iff_getElem.1 ht.asc j k (by omega) hk hj
          rw [(List.getElem?_eq_some_iff.1 hx).2] at this
          simp; omega
        rw [hget]
        simp only [Option.bind_some, findF]
        rw [f19_eq (okG_of (ht.chk x hxm))]
        simp [hn, roundL])
    (fun a _ => by simp only [f9_L1]; rw [at_end]; rfl) () trivial
  have hr0 : (f9_L1 l (putL g l, 0) g).run 0 = _ := hrun
  rw [hr0]
  have : ∀ (xs : List ApiGroup) (k : Nat), walkL (fun _ _ _ => .inl ()) (fun _ => (Sum.inl () : Unit ⊕ Unit)) k () xs = Sum.inl () := fun xs => by
    induction xs with
    | nil => intro k; rfl
    | cons x xs ih => intro k; exact ih (k + 1)
  rw [this]
  rfl
end Go.Proofs.Ytccipmhffapcmaa
