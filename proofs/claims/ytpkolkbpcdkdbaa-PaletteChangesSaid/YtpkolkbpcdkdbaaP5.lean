import Derived.Test.YtpkolkbpcdkdbaaP4
namespace Go.Proofs.Ytpkolkbpcdkdbaa
open Go Go.Ab
set_option linter.unusedSimpArgs false

/-! ## PaletteUses -/

theorem f50_eq (x y : Int) : f50 x y = some (decide (x < y)) := by
  unfold f50 f71; simp

theorem f16_eq {xs : List Int} (hl : xs.length ≤ 1000000) (h : xs.Pairwise fun a b => a < b) : f16 xs = some true := by
  unfold f16
  by_cases h0 : xs.length = 0
  · rw [h0, w64 (by omega) (by omega), show (f16_L1 xs).run (((0 : Nat) : Int) - 1) = some (.inl ()) from iter_brk (by simp only [f16_L1]; rfl)]
    rfl
  · rw [w64 (by omega) (by omega)]
    have := run_count (L := f16_L1 xs) (e := Sum.inl ()) (fun k => ((xs.length : Nat) : Int) - 1 - (k : Int)) (xs.length - 1) (by simp only [f16_L1]; rw [if_neg (by simp; omega)]) 0 (Nat.zero_le _) fun k _ hk => by
      have h1 : xs.length - 1 - k < xs.length := by omega
      have h2 : xs.length - 1 - k - 1 < xs.length := by omega
      have hlt := List.pairwise_iff_getElem.1 h _ _ h2 h1 (by omega)
      simp only [f16_L1]
      rw [w64 (a := ((xs.length : Nat) : Int) - 1 - (k : Int) - 1) (by omega) (by omega)]
      rw [if_pos (by simp; omega), at_some (x := xs[xs.length - 1 - k]) (by omega) (by rw [show (((xs.length : Nat) : Int) - 1 - (k : Int)).toNat = xs.length - 1 - k by omega]; exact List.getElem?_eq_getElem h1), Option.bind_some,
        at_some (x := xs[xs.length - 1 - k - 1]) (by omega) (by rw [show (((xs.length : Nat) : Int) - 1 - (k : Int) - 1).toNat = xs.length - 1 - k - 1 by omega]; exact List.getElem?_eq_getElem h2), Option.bind_some, f50_eq]
      simp only [Option.bind_some, decide_eq_true_eq]
      rw [if_neg (by omega)]
      congr 2
      omega
    rw [show ((xs.length : Nat) : Int) - 1 = ((xs.length : Nat) : Int) - 1 - ((0 : Nat) : Int) by simp, this]
    rfl

theorem f17_eq {xs : List Int} (hl : xs.length ≤ 9223372036854775807) (v : Int) : f17 xs v = some (decide (v ∈ xs)) := by
  unfold f17 f51
  have := run_findi (L := f51_L1 xs v) (xs := xs) (fun x => decide (v = x)) hl (fun k x r => by
    simp only [f51_L1]
    rw [if_pos r.lt, r.at', r.nxt, Option.bind_some]
    by_cases h1 : v = x <;> simp [h1]) (by simp only [f51_L1]; rw [at_end]; rfl)
  refine (congrArg (fun o : Option Int => o.bind fun r => some (decide (0 ≤ r))) this).trans ?_
  rw [Option.bind_some, fstI_nonneg]
  congr 1
  by_cases h : v ∈ xs
  · simp [h]
  · simp only [h, decide_false]
    rw [List.any_eq_false]
    intro x hx
    simp only [decide_eq_true_eq]
    rintro rfl
    exact h hx

theorem f19_eq {es : List ApiEntry} (hl : es.length ≤ 9223372036854775807) (n : Int) : f19_20 es n = some (es.any fun x => decide (x.fValue.fPalette = n)) := by
  unfold f19_20 f55_20
  have := run_findi (L := f55_20_L1 es n) (xs := es) (fun x => decide (x.fValue.fPalette = n)) hl (fun k x r => by
    simp only [f55_20_L1, f20p]
    rw [if_pos r.lt, r.at', r.nxt, Option.bind_some, Option.bind_some]
    split <;> rfl) (by simp only [f55_20_L1]; rw [at_end]; rfl)
  refine (congrArg (fun o : Option Int => o.bind fun r => some (decide (0 ≤ r))) this).trans ?_
  rw [Option.bind_some, fstI_nonneg]

theorem f18_eq {l : List ApiPalette} (h : Pal l) {n : Int} (hn : -1 ≤ n ∧ n ≤ 1048576) : f18 l n = some (l.filter fun x => decide (x.fNumber ≠ n), hasB (cNum n) l, 0) := by
  unfold f18
  have hl := h.len
  rw [f32_eq, pals_of h, f52_eq h hn]
  simp only [Option.bind_some, ne_eq, not_true_eq_false, decide_false, Bool.false_eq_true, if_false]
  have : (f18_C1 l n).run = some (l.filter fun x => decide (x.fNumber ≠ n)) := by
    simp only [f18_C1]
    rw [run_collect (L := f18_L2 l n) (xs := l) (fun x => if decide (x.fNumber ≠ n) = true then [x] else []) (fun k acc x hx ha => by
      have r := Rnd.mk' hx (by omega)
      have hk := r.klt
      simp only [f18_L2, f54p]
      rw [if_pos r.lt, r.at', r.nxt]
      simp only [Option.bind_some]
      by_cases h : x.fNumber = n
      · simp [h]
      · simp only [ne_eq, h, not_false_eq_true, decide_true, if_true]
        rw [app_some (by simp; omega) (by simp; omega)]
        rfl) (fun x => by split <;> simp) (fun acc => by simp only [f18_L2]; rw [at_end]; rfl)]
    rw [Option.bind_some]
    congr 1
    have := flat_filter (p := fun _ => true) (q := fun x : ApiPalette => decide (x.fNumber ≠ n)) (fun x => x) l
    rw [List.filter_eq_self.2 (fun _ _ => rfl)] at this
    simpa using this
  rw [this]
  rfl

theorem f21_eq {xs ys : List ApiEntry} (hm : xs.length ≤ 9223372036854775807) : f21 xs ys = some (decide (xs = ys)) := by
  unfold f21
  by_cases hl : xs.length = ys.length
  · rw [if_neg (by simp; omega), run_same (L := f21_L1 xs ys) (xs := xs) (ys := ys) hm hl (fun k x y r hy => by
      simp only [f21_L1]
      rw [if_pos r.lt, r.at', hy, r.nxt]
      simp only [Option.bind_some]
      by_cases h1 : x.fParam.fChannel = y.fParam.fChannel <;> by_cases h2 : x.fParam.fAttr = y.fParam.fAttr <;> by_cases h3 : x.fValue.fPalette = y.fValue.fPalette <;> by_cases h4 : x.fValue.fLevel = y.fValue.fLevel <;> simp [ent_eq, par_eq, vl_eq, h1, h2, h3, h4]) (by simp only [f21_L1]; rw [at_end]; rfl)]
    by_cases he : xs = ys <;> simp [he]
  · rw [if_pos (by simp; omega)]
    have : xs ≠ ys := fun e => hl (by rw [e])
    simp [this]

theorem pal_sub {l m : List ApiPalette} (h : Pal l) (hs : m.Sublist l) : Pal m :=
  ⟨Nat.le_trans hs.length_le h.len, fun x hx => h.num x (hs.subset hx), fun x hx => h.hue x (hs.subset hx), h.asc.sublist hs⟩

theorem f5_eq (l : List ApiPalette) (es : List ApiEntry) (hl : l.length ≤ 9223372036854775807) : f5 l es = some true := by
  obtain ⟨b, hb, hgiven⟩ := f11_ex es hl
  unfold f5
  rw [hb, f8_eq, f15_eq]
  simp only [Option.bind_some]
  cases b with
  | false => rfl
  | true =>
  obtain ⟨hlen, h0⟩ := hgiven rfl
  obtain ⟨hP, hE⟩ := both_ok h0
  have hPl := hP.len
  have he0 : entS es = 0 := by
    unfold bothS at h0
    rw [if_neg (nn (pals_of hP))] at h0
    exact h0
  have hus : usedS es = (Lib.compact (sortI (refsS es)), 0) := by unfold usedS; rw [if_neg (nn he0)]
  rw [hus]
  generalize hU : Lib.compact (sortI (refsS es)) = U
  have hmemU : ∀ n, n ∈ U ↔ n ∈ refsS es := fun n => by rw [← hU, compact_mem, sortI_mem]
  have hUl : U.length ≤ 200 := by
    have h1 := compact_le (sortI (refsS es))
    rw [sortI_length, hU] at h1
    have h2 : (refsS es).length ≤ es.length := by unfold refsS; rw [List.length_map]; exact List.length_filter_le _ _
    omega
  have hUs : U.Pairwise fun a b => a < b := by rw [← hU]; exact compact_strict (sortI_asc _)
  simp only [Bool.not_true, Bool.false_eq_true, if_false]
  rw [if_neg (by simp), f16_eq (by omega) hUs]
  simp only [Option.bind_some, Bool.not_true, Bool.false_eq_true, if_false]
  have hrun : (f5_L1 l (U, 0) es).run (l, 0) = some (Sum.inl (l.filter fun x => decide (x.fNumber ∈ U))) := by
    refine run_eq (L := f5_L1 l (U, 0) es) (fun s => ∃ k : Nat, s = ((l.take k).filter (fun x => decide (x.fNumber ∈ U)) ++ l.drop k, (k : Int)) ∧ k ≤ l.length) (fun s => l.length - s.2.toNat) ⟨0, by simp, Nat.zero_le _⟩ ?_
    rintro _ ⟨k, rfl, hk⟩
    simp only [f5_L1]
    by_cases hlt : k < l.length
    · left
      have hx := List.getElem?_eq_getElem hlt
      have r := Rnd.mk' hx (by omega)
      have hnum := hP.num _ r.mem
      rw [if_pos r.lt, r.at', r.nxt, Option.bind_some, f17_eq (by omega)]
      simp only [Option.bind_some]
      by_cases hm : l[k].fNumber ∈ U
      · simp only [hm, decide_true, Bool.not_true, Bool.false_eq_true, if_false]
        refine ⟨_, rfl, ⟨k + 1, ?_, hlt⟩, by simp; omega⟩
        rw [List.take_succ_eq_append_getElem hlt, List.filter_append, List.filter_cons_of_pos (by simpa using hm), List.drop_eq_getElem_cons hlt]
        simp
      · simp only [hm, decide_false, Bool.not_false, if_true]
        have hsub : ((l.take k).filter (fun x => decide (x.fNumber ∈ U)) ++ l.drop k).Sublist l := by
          have := (List.filter_sublist (l := l.take k) (p := fun x => decide (x.fNumber ∈ U))).append (List.Sublist.refl (l.drop k))
          rwa [List.take_append_drop] at this
        rw [f18_eq (pal_sub hP hsub) (by omega)]
        simp only [Option.bind_some, ne_eq, not_true_eq_false, decide_false, Bool.false_eq_true, if_false]
        refine ⟨_, rfl, ⟨k + 1, ?_, hlt⟩, by simp; omega⟩
        congr 1
        have ha := List.pairwise_iff_getElem.1 hP.asc
        rw [List.take_succ_eq_append_getElem hlt, List.filter_append, List.filter_append, List.filter_cons_of_neg (by simpa using hm), List.filter_nil, List.append_nil, List.drop_eq_getElem_cons hlt, List.filter_cons_of_neg (by simp)]
        congr 1
        · rw [List.filter_eq_self]
          intro y hy
          obtain ⟨j, hj, rfl⟩ := List.getElem_of_mem (List.mem_filter.1 hy).1
          rw [List.length_take] at hj
          have := ha j k (by omega) hlt (by omega)
          rw [List.getElem_take]
          simp; omega
        · rw [List.filter_eq_self]
          intro y hy
          obtain ⟨j, hj, rfl⟩ := List.getElem_of_mem hy
          rw [List.length_drop] at hj
          have := ha k (k + 1 + j) hlt (by omega) (by omega)
          rw [List.getElem_drop]
          simp; omega
    · right
      have : k = l.length := by omega
      subst this
      rw [at_end]
      simp
  rw [hrun]
  simp only [Option.bind_some]
  have hless : Pal (l.filter fun x => decide (x.fNumber ∈ U)) := pal_sub hP List.filter_sublist
  have hfl : flatS l es = (es.map (flat1 l), 0) := by unfold flatS; rw [if_neg (nn h0)]
  have hfl2 : flatS (l.filter fun x => decide (x.fNumber ∈ U)) es = (es.map (flat1 (l.filter fun x => decide (x.fNumber ∈ U))), 0) := by
    unfold flatS bothS; rw [if_neg (nn (pals_of hless)), if_neg (nn he0)]
  have hsame : es.map (flat1 (l.filter fun x => decide (x.fNumber ∈ U))) = es.map (flat1 l) := by
    refine List.map_congr_left fun x hx => ?_
    unfold flat1
    by_cases hp : 0 < x.fValue.fPalette
    · have hin : x.fValue.fPalette ∈ U := (hmemU _).2 (List.mem_map.2 ⟨x, List.mem_filter.2 ⟨hx, by simpa using hp⟩, rfl⟩)
      have : byN (l.filter fun x => decide (x.fNumber ∈ U)) x.fValue.fPalette = byN l x.fValue.fPalette := by
        unfold byN
        rw [List.find?_filter]
        congr 1
        funext z
        by_cases hz : z.fNumber = x.fValue.fPalette
        · simp [hz, hin]
        · simp [hz]
      unfold hueS
      rw [this]
    · rw [if_neg hp, if_neg hp]
  rw [f12_eq, f12_eq, hfl, hfl2, hsame]
  simp only [Option.bind_some]
  have hrun2 : (f5_L2 (U, 0) es (es.map (flat1 l), 0) (es.map (flat1 l), 0)).run 0 = some (Sum.inl ()) := by
    refine run_all (xs := U) (fun k x hx => ?_) (by simp only [f5_L2]; rw [at_end]; rfl)
    have r := Rnd.mk' hx (by omega)
    simp only [f5_L2]
    rw [if_pos r.lt, r.at', r.nxt, Option.bind_some, f19_eq (by omega)]
    obtain ⟨y, hy, he⟩ := List.mem_map.1 ((hmemU x).1 r.mem)
    have : (es.any fun z => decide (z.fValue.fPalette = x)) = true := List.any_eq_true.2 ⟨y, (List.mem_filter.1 hy).1, by simpa using he⟩
    rw [this]
    rfl
  rw [hrun2]
  simp only [Option.bind_some]
  rw [f21_eq (by rw [List.length_map]; omega)]
  simp
end Go.Proofs.Ytpkolkbpcdkdbaa
