/-
  Plain laws of the receiver of layer 57: ReceiverHides.
-/
import Derived.Test.YtgfohogbechkkaaP4
import Derived.Test.YtgfohogbechkkaaP3
import Derived.Test.YtgfohogbechkkaaY81
set_option linter.unusedSimpArgs false
set_option linter.unusedVariables false
namespace Go.Proofs.Ytgfohogbechkkaa
open Go Go.Ab

theorem wf8 {n : Int} (h : (Lit.int .u8 n).wf = true) : 0 ≤ n ∧ n ≤ 255 := by
  have h2 : IntKind.u8.min ≤ n ∧ n ≤ IntKind.u8.max := by simpa [Lit.wf] using h
  rwa [show IntKind.u8.min = 0 by decide, show IntKind.u8.max = 255 by decide] at h2

def winnersO (l : List ReceiverInput) (t u : Int) : List Int × Int := if momentS l t ≠ 0 then ([], momentS l t) else if u < 1 then ([], 2) else if 8 < u then ([], 2) else ((winS l t u).map (·.fSource), 0)

theorem f28_eq (r : ReceiverReceiver) (t u : Int) : f28 r t u = some (winnersO r.fInputs t u) := by
  unfold f28 winnersO
  rw [f58_eq, Option.bind_some]
  by_cases h : momentS r.fInputs t = 0
  case neg => simp [h]
  have hg := moment_good h
  simp only [h, ne_eq, not_true_eq_false, decide_false, Bool.false_eq_true, if_false]
  by_cases h2 : u < 1
  · simp [h2]
  by_cases h3 : 8 < u
  · simp [h2, h3]
  simp only [h2, h3, decide_false, Bool.false_eq_true, if_false]
  rw [f73_eq hg, Option.bind_some]
  have hwl := (win_slots hg u).2
  rw [run_collect (L := f28_L1 (winS r.fInputs t u)) (xs := winS r.fInputs t u) (fun x => [x.fSource]) (fun k acc x hx ha => by
    have R := Rnd.mk' hx (by omega)
    have hk := R.klt
    simp only [f28_L1]
    rw [if_pos R.lt, R.at', Option.bind_some, app_some (by simp only [List.length_cons, List.length_nil]; omega) (by simp only [List.length_cons, List.length_nil]; omega), Option.bind_some, R.nxt]) (fun x => by simp) (fun acc => by simp [f28_L1]), Option.bind_some, ← List.map_eq_flatMap]

theorem f34_eq (a : List ApiFrame) (h : a.length ≤ 9223372036854775806) : f34 a a = some true := by
  unfold f34
  rw [if_neg (by simp)]
  rw [run_all (L := f34_L1 a a) (xs := a) (e := Sum.inl ()) (fun k x hx => by
    have R := Rnd.mk' hx (by omega)
    simp only [f34_L1]
    rw [if_pos R.lt, R.at', R.nxt, Option.bind_some, Option.bind_some]
    simp) (by simp [f34_L1])]
  rfl

/-! ## Who wins -/

def topB (c : List ReceiverInput) (x : ReceiverInput) : Bool := c.all fun y => decide (y.fPriority ≤ x.fPriority)
def topS (c : List ReceiverInput) : List ReceiverInput := c.filter (topB c)

theorem top_ex : ∀ {c : List ReceiverInput}, c ≠ [] → ∃ x ∈ c, topB c x = true
  | [], h => absurd rfl h
  | [x], _ => ⟨x, List.mem_cons_self .., by simp [topB]⟩
  | x :: y :: c, _ => by
    obtain ⟨z, hz, ht⟩ := top_ex (c := y :: c) (by simp)
    unfold topB at ht ⊢
    rw [List.all_eq_true] at ht
    by_cases h : z.fPriority < x.fPriority
    · refine ⟨x, List.mem_cons_self .., List.all_eq_true.2 fun w hw => ?_⟩
      rcases List.mem_cons.1 hw with rfl | hw
      · simp
      · have := ht w hw
        simp only [decide_eq_true_eq] at this ⊢
        omega
    · refine ⟨z, List.mem_cons_of_mem _ hz, List.all_eq_true.2 fun w hw => ?_⟩
      rcases List.mem_cons.1 hw with rfl | hw
      · simp only [decide_eq_true_eq]; omega
      · exact ht w hw

theorem topB_iff {c : List ReceiverInput} {x : ReceiverInput} : topB c x = true ↔ ∀ y ∈ c, y.fPriority ≤ x.fPriority := by
  unfold topB
  rw [List.all_eq_true]
  simp

theorem top_mem {c : List ReceiverInput} {x : ReceiverInput} : x ∈ topS c ↔ x ∈ c ∧ ∀ y ∈ c, y.fPriority ≤ x.fPriority := by
  unfold topS
  rw [List.mem_filter, topB_iff]

theorem top_step (c : List ReceiverInput) (x : ReceiverInput) : winStep (topS c) x = topS (c ++ [x]) := by
  have happ : topS (c ++ [x]) = (c.filter (topB (c ++ [x]))) ++ (if topB (c ++ [x]) x = true then [x] else []) := by
    unfold topS
    rw [List.filter_append]
    congr 1
    rw [List.filter_cons, List.filter_nil]
  rw [happ]
  cases hw : topS c with
  | nil =>
    have hc : c = [] := by
      by_cases h : c = []
      · exact h
      · obtain ⟨z, hz, ht⟩ := top_ex h
        have : z ∈ topS c := by unfold topS; rw [List.mem_filter]; exact ⟨hz, ht⟩
        rw [hw] at this; cases this
    subst hc
    simp [winStep, topB]
  | cons y ys =>
    have hy := top_mem.1 (show y ∈ topS c by rw [hw]; exact List.mem_cons_self ..)
    unfold winStep
    dsimp only
    by_cases h1 : y.fPriority < x.fPriority
    · rw [if_pos h1]
      have e1 : c.filter (topB (c ++ [x])) = [] := by
        rw [List.filter_eq_nil_iff]
        intro z hz ht
        have h2 := topB_iff.1 ht x (by simp)
        have h3 := hy.2 z hz
        omega
      have e2 : topB (c ++ [x]) x = true := topB_iff.2 fun z hz => by
        rcases List.mem_append.1 hz with hz | hz
        · have := hy.2 z hz; omega
        · simp at hz; rw [hz]; omega
      rw [e1, if_pos e2]; rfl
    · rw [if_neg h1]
      have e1 : c.filter (topB (c ++ [x])) = y :: ys := by
        rw [← hw]
        unfold topS
        refine List.filter_congr fun z hz => ?_
        rw [Bool.eq_iff_iff, topB_iff, topB_iff]
        constructor
        · exact fun h w hwm => h w (List.mem_append_left _ hwm)
        · intro h w hwm
          rcases List.mem_append.1 hwm with hwm | hwm
          · exact h w hwm
          · simp at hwm
            have := h y hy.1
            rw [hwm]; omega
      rw [e1]
      by_cases h2 : x.fPriority = y.fPriority
      · rw [if_pos h2]
        have e2 : topB (c ++ [x]) x = true := topB_iff.2 fun z hz => by
          rcases List.mem_append.1 hz with hz | hz
          · have := hy.2 z hz; omega
          · simp at hz; rw [hz]; omega
        rw [if_pos e2]
      · rw [if_neg h2]
        have e2 : ¬ topB (c ++ [x]) x = true := fun h => by
          have := topB_iff.1 h y (List.mem_append_left _ hy.1)
          omega
        rw [if_neg e2, List.append_nil]

theorem win_top (l : List ReceiverInput) (t u : Int) : winS l t u = topS (l.filter (cand t u)) := by
  have key : ∀ (c2 c1 : List ReceiverInput), c2.foldl winStep (topS c1) = topS (c1 ++ c2) := fun c2 => by
    induction c2 with
    | nil => intro c1; simp
    | cons x c2 ih =>
      intro c1
      rw [List.foldl_cons, top_step, ih]
      simp
  unfold winS
  have := key (l.filter (cand t u)) []
  simpa [topS] using this

/-- Leaving out what does not win changes nothing. -/
theorem top_without {c : List ReceiverInput} {p : ReceiverInput → Bool} (h : ∀ x ∈ topS c, p x = true) : topS (c.filter p) = topS c := by
  by_cases hc : c = []
  · subst hc; rfl
  · obtain ⟨z, hz, ht⟩ := top_ex hc
    have hzt : z ∈ topS c := by unfold topS; rw [List.mem_filter]; exact ⟨hz, ht⟩
    have hz' := top_mem.1 hzt
    unfold topS
    rw [List.filter_filter]
    refine List.filter_congr fun x hx => ?_
    rw [Bool.eq_iff_iff, Bool.and_eq_true, topB_iff, topB_iff]
    constructor
    · rintro ⟨h1, h2⟩ w hw
      have h3 := h1 z (List.mem_filter.2 ⟨hz, h z hzt⟩)
      have h4 := hz'.2 w hw
      omega
    · intro h1
      exact ⟨fun w hw => h1 w (List.mem_filter.1 hw).1, h x (top_mem.2 ⟨hx, h1⟩)⟩

/-! ## A frame holds no byte less than a winner's -/

theorem mx8_left (a b : UInt8) : a.toNat ≤ (mx8 a b).toNat := by unfold mx8; split <;> omega
theorem mx8_right (a b : UInt8) : b.toNat ≤ (mx8 a b).toNat := by unfold mx8; split <;> omega

theorem hi_ge {k : Nat} (hk : k < 512) : ∀ (w : List ReceiverInput) (a : List UInt8), a.length = 512 → (∀ x ∈ w, x.fSlots.length = 512) →
    (∀ b, a[k]? = some b → ∃ c, (w.foldl (fun acc x => List.zipWith mx8 acc x.fSlots) a)[k]? = some c ∧ b.toNat ≤ c.toNat) ∧ ∀ x ∈ w, ∀ b, x.fSlots[k]? = some b → ∃ c, (w.foldl (fun acc x => List.zipWith mx8 acc x.fSlots) a)[k]? = some c ∧ b.toNat ≤ c.toNat
  | [], a, _, _ => ⟨fun b hb => ⟨b, hb, Nat.le_refl _⟩, fun x hx => by cases hx⟩
  | y :: w, a, ha, hw => by
    have hy := hw y (List.mem_cons_self ..)
    have hz : (List.zipWith mx8 a y.fSlots).length = 512 := by rw [List.length_zipWith]; omega
    obtain ⟨h1, h2⟩ := hi_ge hk w (List.zipWith mx8 a y.fSlots) hz fun x hx => hw x (List.mem_cons_of_mem _ hx)
    have ga : a[k]? = some a[k] := List.getElem?_eq_getElem (by omega)
    have gy : y.fSlots[k]? = some y.fSlots[k] := List.getElem?_eq_getElem (by omega)
    have gz : (List.zipWith mx8 a y.fSlots)[k]? = some (mx8 a[k] y.fSlots[k]) := by rw [List.getElem?_zipWith, ga, gy]
    obtain ⟨c, hc, hle⟩ := h1 _ gz
    refine ⟨fun b hb => ⟨c, hc, ?_⟩, fun x hx b hb => ?_⟩
    · rw [ga] at hb; injection hb with hb; subst hb
      exact Nat.le_trans (mx8_left _ _) hle
    · rcases List.mem_cons.1 hx with rfl | hx
      · rw [gy] at hb; injection hb with hb; subst hb
        exact ⟨c, hc, Nat.le_trans (mx8_right _ _) hle⟩
      · exact h2 x hx b hb

theorem dcd_pos (s : List UInt8) (p : Nat) : 1 ≤ (dcd s p).2 := by
  unfold dcd Utf8.decode
  dsimp only
  repeat' split
  all_goals first | (simp; done) | omega

/-! ## The law -/

theorem frames_mem {l : List ReceiverInput} {t : Int} {f : ApiFrame} : f ∈ framesS l t ↔ 1 ≤ f.fUniverse ∧ f.fUniverse ≤ 8 ∧ winS l t f.fUniverse ≠ [] ∧ f.fSlots = hiS (winS l t f.fUniverse) := by
  unfold framesS
  rw [List.mem_flatMap]
  constructor
  · rintro ⟨i, hi, hf⟩
    rw [List.mem_range] at hi
    unfold frameS at hf
    split at hf
    · cases hf
    · rename_i hw
      simp only [List.mem_cons, List.not_mem_nil, or_false] at hf
      subst hf
      exact ⟨by dsimp only; omega, by dsimp only; omega, hw, rfl⟩
  · rintro ⟨h1, h2, h3, h4⟩
    refine ⟨(f.fUniverse - 1).toNat, by rw [List.mem_range]; omega, ?_⟩
    have e : (((f.fUniverse - 1).toNat : Nat) : Int) + 1 = f.fUniverse := by omega
    rw [e]
    unfold frameS
    rw [if_neg h3]
    obtain ⟨a, b⟩ := f
    dsimp only at h4 ⊢
    rw [h4]
    exact List.mem_cons_self ..

theorem asc_same {l : List ReceiverInput} (h : l.Pairwise fun a b => ltI a b = true) {x y : ReceiverInput} (hx : x ∈ l) (hy : y ∈ l) (hu : x.fUniverse = y.fUniverse) (hs : x.fSource = y.fSource) : x = y := by
  obtain ⟨i, hi, rfl⟩ := List.mem_iff_getElem.1 hx
  obtain ⟨j, hj, rfl⟩ := List.mem_iff_getElem.1 hy
  rcases Nat.lt_trichotomy i j with h1 | h1 | h1
  · have := List.pairwise_iff_getElem.1 h i j hi hj h1
    unfold ltI ltU at this
    simp [hu, hs] at this
  · subst h1; rfl
  · have := List.pairwise_iff_getElem.1 h j i hj hi h1
    unfold ltI ltU at this
    simp [hu, hs] at this

theorem f37_eq {xs : List Int} (v : Int) (hl : xs.length ≤ 1000000) : f37 xs v = some (decide (v ∈ xs)) := by
  have h : f76 xs v = some (fstI (fun x => decide (v = x)) xs) := by
    refine run_findi (fun x : Int => decide (v = x)) (by omega) (fun k x r => ?_) (if_neg (by simp))
    refine (if_pos r.lt).trans ?_
    rw [r.at']
    simp only [Option.bind_some, r.nxt]
    split <;> rfl
  unfold f37
  rw [h, Option.bind_some, fstI_nonneg]
  congr 1
  rw [Bool.eq_iff_iff, List.any_eq_true]
  simp

theorem f35_eq {xs : List ApiFrame} (u a b c d e : Int) (f g : List UInt8) (hl : xs.length ≤ 1000000) : f35_36 xs u a b c d e f g = some (fstI (fun y => decide (y.fUniverse = u)) xs) := by
  unfold f35_36
  refine run_findi (fun y : ApiFrame => decide (y.fUniverse = u)) (by omega) (fun k x r => ?_) (if_neg (by simp))
  refine (if_pos r.lt).trans ?_
  rw [r.at']
  simp only [Option.bind_some, r.nxt, f36p]
  split <;> rfl

theorem f8_eq (r : ReceiverReceiver) (t n : Int) (hn : 0 ≤ n ∧ n ≤ 255) : f8 r t n = some true := by
  unfold f8
  rw [f22_eq, Option.bind_some]
  by_cases ho : okS r.fInputs t = true
  case neg => simp [ho, f15_eq]
  rw [if_neg (by simp [ho])]
  unfold okS at ho
  simp only [Bool.and_eq_true, decide_eq_true_eq] at ho
  have hg := moment_good ho.2
  have h0 := hg.t0
  have h1 := hg.t1
  have hlen := hg.len
  by_cases hz : r.fInputs.length = 0
  · rw [if_pos (by simp [hz]), f15_eq]; rfl
  have hpos : 0 < r.fInputs.length := by omega
  have hw : IntKind.i64.wrap n = n := w64 (by omega) (by omega)
  have hmod : n.tmod (r.fInputs.length : Int) = ((n.toNat % r.fInputs.length : Nat) : Int) := by
    rw [Int.tmod_eq_emod_of_nonneg hn.1, Int.natCast_emod]
    congr 1; omega
  have hlt : n.toNat % r.fInputs.length < r.fInputs.length := Nat.mod_lt _ hpos
  rw [if_neg (by simp only [decide_eq_true_eq]; omega), nz_some (by omega), Option.bind_some, hw, hmod, at_nat (List.getElem?_eq_getElem hlt), Option.bind_some]
  generalize hxe : r.fInputs[n.toNat % r.fInputs.length] = x
  have hx : x ∈ r.fInputs := hxe ▸ List.getElem_mem hlt
  have hin := in_ok (hg.ok x hx)
  have hu8 := (check_ok hin.2.1).2.1.2
  have hu1 := hin.1
  have hu8' : x.fUniverse ≤ 8 := hu8
  have ewin : winnersO r.fInputs t x.fUniverse = ((winS r.fInputs t x.fUniverse).map (·.fSource), 0) := by
    unfold winnersO
    rw [if_neg (by simp [good_moment hg]), if_neg (by omega), if_neg (by omega)]
  have efr : framesO r.fInputs t = (framesS r.fInputs t, 0) := by unfold framesO; rw [if_neg (by simp [good_moment hg])]
  have hfl := frames_len r.fInputs t 8
  have hfl' : (framesS r.fInputs t).length ≤ 8 := hfl
  have hwl := (win_slots hg x.fUniverse).2
  rw [f28_eq, ewin, Option.bind_some, f30_eq, efr, Option.bind_some]
  dsimp only
  rw [if_neg (by simp [show IntKind.i64.wrap (0 : Int) = 0 from rfl]), f35_eq _ _ _ _ _ _ _ _ (by omega), Option.bind_some]
  have hany : (framesS r.fInputs t).any (fun y => decide (y.fUniverse = x.fUniverse)) = decide (winS r.fInputs t x.fUniverse ≠ []) := by
    rw [Bool.eq_iff_iff, List.any_eq_true, decide_eq_true_eq]
    constructor
    · rintro ⟨f, hf, he⟩
      have := frames_mem.1 hf
      simp only [decide_eq_true_eq] at he
      rw [he] at this
      exact this.2.2.1
    · intro h
      exact ⟨⟨x.fUniverse, hiS (winS r.fInputs t x.fUniverse)⟩, frames_mem.2 ⟨hu1, hu8', h, rfl⟩, by simp⟩
  rw [fstI_nonneg, hany, if_neg (by
    have : decide ((0 : Int) < ((((winS r.fInputs t x.fUniverse).map (·.fSource)).length : Nat) : Int)) = decide (winS r.fInputs t x.fUniverse ≠ []) := by
      rw [List.length_map, decide_eq_decide, ← List.length_pos_iff]
      omega
    rw [this]; simp), f37_eq _ (by rw [List.length_map]; omega), Option.bind_some]
  by_cases hc : x.fSource ∈ (winS r.fInputs t x.fUniverse).map (·.fSource)
  · rw [if_pos (by simpa using hc)]
    obtain ⟨y, hy, hye⟩ := List.mem_map.1 hc
    have hym := win_mem hy
    have hyx : y = x := asc_same hg.asc hym.1 hx hym.2.1 hye
    subst hyx
    have hsl := (win_slots hg y.fUniverse).1
    have h512 := hsl y hy
    have hne : winS r.fInputs t y.fUniverse ≠ [] := fun e => by rw [e] at hy; cases hy
    rcases fstI_find (fun f : ApiFrame => decide (f.fUniverse = y.fUniverse)) (framesS r.fInputs t) with ⟨e1, _⟩ | ⟨i, f, e1, _, _, e4⟩
    · have := List.find?_eq_none.1 e1 ⟨y.fUniverse, hiS (winS r.fInputs t y.fUniverse)⟩ (frames_mem.2 ⟨hu1, hu8', hne, rfl⟩)
      simp at this
    · have hf1 := frames_mem.1 (List.mem_of_find?_eq_some e1)
      have hf2 : f.fUniverse = y.fUniverse := by simpa using List.find?_some e1
      have hhi : f.fSlots = hiS (winS r.fInputs t y.fUniverse) := by rw [hf1.2.2.2, hf2]
      have hfl512 : f.fSlots.length = 512 := by rw [hhi]; exact hi_len _ _ (List.length_replicate ..) hsl
      rw [e4, Option.bind_some, if_neg (by rw [hfl512, h512]; simp)]
      have hrun : Lp.run (f8_L1 y (framesS r.fInputs t, 0) (fstI (fun f : ApiFrame => decide (f.fUniverse = y.fUniverse)) (framesS r.fInputs t))) 0 = some (.inl ()) := by
        refine run_eq (L := f8_L1 y (framesS r.fInputs t, 0) (fstI (fun f : ApiFrame => decide (f.fUniverse = y.fUniverse)) (framesS r.fInputs t))) (fun _ => True) (fun v => 512 - v) trivial fun v _ => ?_
        by_cases hv : v < 512
        · left
          have gy : y.fSlots[v]? = some y.fSlots[v] := List.getElem?_eq_getElem (by omega)
          obtain ⟨c, hcv, hle⟩ := (hi_ge hv (winS r.fInputs t y.fUniverse) (List.replicate 512 0) (List.length_replicate ..) hsl).2 y hy _ gy
          have gf : f.fSlots[v]? = some c := by rw [hhi]; exact hcv
          have hb : (f8_L1 y (framesS r.fInputs t, 0) (fstI (fun f : ApiFrame => decide (f.fUniverse = y.fUniverse)) (framesS r.fInputs t))).body v = (if decide (v < y.fSlots.length) = true then _ else _) := rfl
          have hd := dcd_pos y.fSlots v
          rw [hb, if_pos (by simp only [decide_eq_true_eq]; omega), e4, Option.bind_some, at_nat gf, Option.bind_some, at_nat gy, Option.bind_some, if_neg (by simp only [decide_eq_true_eq]; omega)]
          exact ⟨_, rfl, trivial, by omega⟩
        · right
          exact if_neg (by simp only [decide_eq_true_eq]; omega)
      rw [hrun, Option.bind_some, f15_eq]; rfl
  · rw [if_neg (by simpa using hc), f39_eq (by omega), Option.bind_some]
    have hdel := delf_some (f := fun y => f40p y x.fUniverse x.fSource x.fPriority x.fSeq x.fSync x.fLast x.fSlots x.fWait) (xs := r.fInputs) (p := fun y => decide (y.fUniverse = x.fUniverse ∧ y.fSource = x.fSource)) (fun y _ => by
      unfold f40p
      by_cases e1 : y.fUniverse = x.fUniverse
      · rw [if_pos (by simpa using e1)]; simp [e1]
      · rw [if_neg (by simpa using e1)]; simp [e1]) (by omega)
    rw [hdel, Option.bind_some, f30_eq]
    have hg2 : Good t (r.fInputs.filter fun y => !decide (y.fUniverse = x.fUniverse ∧ y.fSource = x.fSource)) := {
      len := Nat.le_trans (List.length_filter_le ..) hg.len
      ok := fun y hy => hg.ok y (List.mem_filter.1 hy).1
      asc := hg.asc.sublist (List.filter_sublist ..)
      t0 := hg.t0
      t1 := hg.t1
      last := fun y hy => hg.last y (List.mem_filter.1 hy).1 }
    have hfr : framesS (r.fInputs.filter fun y => !decide (y.fUniverse = x.fUniverse ∧ y.fSource = x.fSource)) t = framesS r.fInputs t := by
      have hwu : ∀ u : Int, winS (r.fInputs.filter fun y => !decide (y.fUniverse = x.fUniverse ∧ y.fSource = x.fSource)) t u = winS r.fInputs t u := fun u => by
        rw [win_top, win_top, List.filter_filter]
        have hcomm : (r.fInputs.filter fun a => cand t u a && !decide (a.fUniverse = x.fUniverse ∧ a.fSource = x.fSource)) = (r.fInputs.filter (cand t u)).filter fun y => !decide (y.fUniverse = x.fUniverse ∧ y.fSource = x.fSource) := by
          rw [List.filter_filter]
          refine List.filter_congr fun a _ => ?_
          rw [Bool.and_comm]
        rw [hcomm]
        refine top_without fun y hy => ?_
        rw [← win_top] at hy
        have hym := win_mem hy
        rw [Bool.not_eq_true', decide_eq_false_iff_not]
        rintro ⟨e1, e2⟩
        refine hc (List.mem_map.2 ⟨y, ?_, e2⟩)
        rw [← e1, hym.2.1]; exact hy
      unfold framesS frameS
      simp only [hwu]
    have e3 : framesO (r.fInputs.filter fun y => !decide (y.fUniverse = x.fUniverse ∧ y.fSource = x.fSource)) t = (framesS r.fInputs t, 0) := by
      unfold framesO
      rw [if_neg (by rw [good_moment hg2]; simp), hfr]
    dsimp only
    rw [e3, Option.bind_some, if_pos (by simp), f34_eq _ (by show (framesS r.fInputs t).length ≤ _; omega), Option.bind_some, if_pos rfl, f15_eq]
    rfl
end Go.Proofs.Ytgfohogbechkkaa
