import Derived.Test.YthikbfhdebaceaaP5
import Derived.Test.YthikbfhdebaceaaY81
namespace Go.Proofs.Ythikbfhdebaceaa
open Go Go.Ab
set_option linter.unusedSimpArgs false
set_option linter.unusedVariables false
set_option maxRecDepth 4000

def isP (c p : Int) (y : ApiFixture) : Bool := decide (y.fChannel = c ∧ y.fPart = p)
def resT (m : List ApiFixture) (ps : List ApiProfile) : List ApiFixture × Int := if checkS m ps ≠ 0 then ([], checkS m ps) else (m, 0)

theorem f61_eq2 {l : List ApiFixture} (m : List (List UInt8 × ApiProfile)) (c p : Int) (hl : l.length ≤ 1000000) : f61 ⟨l, m⟩ c p = some (fstI (isP c p) l) := f61_eq c p hl

theorem f62_eq {m : List ApiFixture} (ps : List ApiProfile) (hf : Fit m) : f62 m ps = some (resT m ps) := by
  unfold f62 resT
  rw [f16_eq ps hf, Option.bind_some]
  by_cases h : checkS m ps ≠ 0
  · rw [if_pos (by simpa using h), if_pos h]
  · rw [if_neg (by simpa using h), if_neg h]

theorem f35_eq {l : List ApiFixture} (c p : Int) (hl : l.length ≤ 1000000) : f35 l c p = some (fstI (isP c p) l) := by
  unfold f35
  refine run_findi (isP c p) (by omega) (fun k x r => ?_) (if_neg (by simp))
  refine (if_pos r.lt).trans ?_
  rw [r.at']
  simp only [Option.bind_some, r.nxt, decide_eq_true_eq]
  unfold isP
  by_cases h1 : x.fChannel = c
  · rw [if_pos h1]
    by_cases h2 : x.fPart = p
    · rw [if_pos h2, if_pos (by simp [h1, h2])]
    · rw [if_neg h2, if_neg (by simp [h2])]
  · rw [if_neg h1, if_neg (by simp [h1])]

theorem no_idx {l : List ApiFixture} {c p : Int} (hno : l.any (isP c p) = false) : l.findIdx? (isP c p) = none := List.findIdx?_eq_none_iff.2 fun x hx => by
  have := List.any_eq_false.1 hno x hx
  simpa using this

theorem fit_app {l : List ApiFixture} {x : ApiFixture} (hf : Fit l) (hx : x.fCable = []) : Fit (l ++ [x]) := fun y hy => by
  rcases List.mem_append.1 hy with h | h
  · exact hf y h
  · simp only [List.mem_cons, List.not_mem_nil, or_false] at h; rw [h, hx]; simp

/-- A new fixture is put at the end. -/
theorem f36_new {l : List ApiFixture} (ps : List ApiProfile) (x : ApiFixture) (hf : Fit l) (hx : x.fCable = []) (hok : Ok l ps) (hno : l.any (isP x.fChannel x.fPart) = false) : f36 l ps x = some (resT (l ++ [x]) ps) := by
  unfold f36
  have hl := hok.nl
  have h : ¬ checkS l ps ≠ 0 := by rw [check_ok.2 hok]; simp
  rw [f44_eq ps hf, Option.bind_some, if_neg h, if_neg (by simp), f30_eq (by omega), Option.bind_some]
  show (f61 ⟨l, mapS ps⟩ x.fChannel x.fPart).bind _ = _
  rw [f61_eq2 _ _ _ (by omega), Option.bind_some]
  unfold fstI
  rw [no_idx hno]
  dsimp only
  rw [if_neg (by simp), app_some (by simp only [List.length_cons, List.length_nil]; omega) (by simp only [List.length_cons, List.length_nil]; omega), Option.bind_some, f62_eq ps (fit_app hf hx), Option.bind_some]

theorem isP_dup {l : List ApiFixture} {x : ApiFixture} (hno : l.any (isP x.fChannel x.fPart) = false) : ∀ y ∈ l, dupS y x = false := fun y hy => by
  have := List.any_eq_false.1 hno y hy
  unfold isP at this
  unfold dupS
  simpa using this

theorem ok_app {l : List ApiFixture} {ps : List ApiProfile} {x : ApiFixture} (hok : Ok l ps) (hl : l.length ≤ 60) (h1 : aloneS ps x = 0) (h2 : ∀ y ∈ l, dupS y x = false) (h3 : ∀ y ∈ l, overS ps y x = false) : Ok (l ++ [x]) ps := by
  refine ⟨hok.np, by rw [List.length_append, List.length_singleton]; omega, fun y hy => ?_, ?_, ?_⟩
  · rcases List.mem_append.1 hy with h | h
    · exact hok.one y h
    · simp only [List.mem_cons, List.not_mem_nil, or_false] at h; rw [h]; exact h1
  · refine List.pairwise_append.2 ⟨hok.two, List.pairwise_singleton .., fun a ha b hb => ?_⟩
    simp only [List.mem_cons, List.not_mem_nil, or_false] at hb; rw [hb]; exact h2 a ha
  · refine List.pairwise_append.2 ⟨hok.lap, List.pairwise_singleton .., fun a ha b hb => ?_⟩
    simp only [List.mem_cons, List.not_mem_nil, or_false] at hb; rw [hb]; exact h3 a ha

theorem firstE_app {τ : Type} {e : Nat → τ → Int} : ∀ {xs : List τ} {k : Nat} {x : τ}, firstE e k xs = 0 → firstE e k (xs ++ [x]) = e (k + xs.length) x
  | [], k, x, _ => by
    show (if e k x ≠ 0 then e k x else 0) = e k x
    by_cases h : e k x ≠ 0
    · rw [if_pos h]
    · rw [if_neg h]; simp at h; exact h.symm
  | y :: ys, k, x, h => by
    unfold firstE at h
    by_cases hy : e k y ≠ 0
    · rw [if_pos hy] at h; exact absurd h hy
    · rw [if_neg hy] at h
      rw [List.cons_append]
      unfold firstE
      rw [if_neg hy, firstE_app h]
      rw [List.length_cons, show k + 1 + ys.length = k + (ys.length + 1) by omega]

theorem firstE_congr {τ : Type} {e e' : Nat → τ → Int} : ∀ {xs : List τ} {k : Nat}, (∀ j x, xs[j]? = some x → e (k + j) x = e' (k + j) x) → firstE e k xs = firstE e' k xs
  | [], _, _ => rfl
  | x :: xs, k, h => by
    have h0 := h 0 x rfl
    simp only [Nat.add_zero] at h0
    have hr : firstE e (k + 1) xs = firstE e' (k + 1) xs := firstE_congr fun j y hy => by
      have := h (j + 1) y (by rwa [List.getElem?_cons_succ])
      rwa [show k + (j + 1) = k + 1 + j by omega] at this
    unfold firstE
    rw [h0, hr]

theorem check_app {l : List ApiFixture} {ps : List ApiProfile} {x : ApiFixture} (hok : Ok l ps) (hl : l.length ≤ 60) : checkS (l ++ [x]) ps = oneS ps l x := by
  have hl2 := hok.np
  have h0 : firstE (fun k y => oneS ps ((l ++ [x]).take k) y) 0 l = 0 := by
    have := check_ok.2 hok
    unfold checkS at this
    rw [if_neg (by omega)] at this
    rw [← this]
    refine firstE_congr fun j y hy => ?_
    rw [Nat.zero_add, List.take_append_of_le_length (Nat.le_of_lt (getElem?_lt hy))]
  unfold checkS
  rw [if_neg (by rw [List.length_append, List.length_singleton]; omega), firstE_app h0, Nat.zero_add, List.take_left]

theorem f37_new {l : List ApiFixture} (ps : List ApiProfile) (x : ApiFixture) (hf : Fit (l ++ [x])) (hok : Ok (l ++ [x]) ps) (hl : l.length ≤ 60) (hno : l.any (isP x.fChannel x.fPart) = false) : f37 (l ++ [x]) ps x.fChannel x.fPart = some (l, true, 0) := by
  unfold f37
  have h : ¬ checkS (l ++ [x]) ps ≠ 0 := by rw [check_ok.2 hok]; simp
  rw [f44_eq ps hf, Option.bind_some, if_neg h, if_neg (by simp)]
  show (f61 ⟨l ++ [x], mapS ps⟩ x.fChannel x.fPart).bind _ = _
  rw [f61_eq2 _ _ _ (by rw [List.length_append, List.length_singleton]; omega), Option.bind_some]
  have hi : (l ++ [x]).findIdx? (isP x.fChannel x.fPart) = some l.length := by
    rw [List.findIdx?_append, no_idx hno]
    simp [isP]
  unfold fstI
  rw [hi]
  dsimp only
  rw [if_neg (by simp), slc_some ⟨by omega, by omega, by rw [List.length_append]; omega⟩, Option.bind_some, w64_succ (by omega), slc_some ⟨by omega, by rw [List.length_append, List.length_singleton]; omega, by omega⟩, Option.bind_some]
  have e1 : ((l ++ [x]).take (l.length : Int).toNat).drop (0 : Int).toNat = l := by simp
  have e2 : ((l ++ [x]).take (((l ++ [x]).length : Nat) : Int).toNat).drop ((l.length + 1 : Nat) : Int).toNat = [] := by simp
  have hc : conc? 72 [l, []] = some l := by
    unfold conc?
    have hlen : ([l, []] : List (List ApiFixture)).flatten.length ≤ 200 := by simp; omega
    rw [if_pos ⟨by unfold room; omega, by unfold maxStr; omega, by simp [maxStr]⟩]
    simp
  unfold f63
  rw [e1, e2, hc, Option.bind_some]

theorem f38_in {xs : List ApiFixture} {x : ApiFixture} (hl : xs.length ≤ 1000000) (h : x ∈ xs) : f38 xs x = some true := by
  unfold f38
  have h64 : f64 xs x = some (fstI (fun y => (x.fChannel == y.fChannel) && ((x.fPart == y.fPart) && ((x.fProfile == y.fProfile) && ((x.fUniverse == y.fUniverse) && ((x.fAddress == y.fAddress) && ((x.fPhase == y.fPhase) && ((x.fCable == y.fCable) && true))))))) xs) := by
    refine run_findi _ (by omega) (fun k y r => ?_) (if_neg (by simp))
    refine (if_pos r.lt).trans ?_
    rw [r.at']
    simp only [Option.bind_some, r.nxt]
    split <;> rfl
  rw [h64, Option.bind_some, fstI_nonneg]
  congr 1
  rw [List.any_eq_true]
  exact ⟨x, h, by simp⟩

theorem f29_ex (l : List ApiFixture) (ps : List ApiProfile) (hf : Fit l) : ∃ b, f29 l ps = some b ∧ (b = true → Few l ps ∧ Ok l ps) := by
  obtain ⟨b, hb, hF⟩ := f10_ex l ps
  unfold f29
  rw [hb, Option.bind_some]
  cases b with
  | false => exact ⟨false, rfl, fun e => by cases e⟩
  | true =>
    rw [if_pos rfl, f17_eq ps hf, Option.bind_some]
    exact ⟨_, rfl, fun e => ⟨hF rfl, check_ok.1 (by simpa using e)⟩⟩

theorem over_used {l : List ApiFixture} {ps : List ApiProfile} {x : ApiFixture} (hok : Ok l ps) (hx : aloneS ps x = 0) : (l.any fun y => overS ps y x) = !openS ps l x.fUniverse x.fAddress.toNat (sizeS ps x).toNat := by
  have hr := alone_rng hx
  rw [Bool.eq_iff_iff, List.any_eq_true]
  constructor
  · rintro ⟨y, hy, ho⟩
    obtain ⟨a, ⟨h1, h2⟩, hu⟩ := (over_uses hr.2.1 (alone_rng (hok.one y hy)).2.1).1 ho
    rw [Bool.not_eq_true']
    refine open_not (j := a.toNat) (by omega) (by omega) ?_
    unfold usedB
    rw [List.any_eq_true]
    exact ⟨y, hy, by rw [show ((a.toNat : Nat) : Int) = a by omega]; exact hu⟩
  · intro hn
    rw [Bool.not_eq_true'] at hn
    refine Classical.byContradiction fun hno => ?_
    have : openS ps l x.fUniverse x.fAddress.toNat (sizeS ps x).toNat = true := open_iff.2 fun j h1 h2 => by
      unfold usedB
      rw [List.any_eq_false]
      intro y hy hu
      exact hno ⟨y, hy, (over_uses hr.2.1 (alone_rng (hok.one y hy)).2.1).2 ⟨(j : Int), ⟨by omega, by omega⟩, hu⟩⟩
    rw [this] at hn; cases hn

theorem alone_new {ps : List ApiProfile} {x : ApiFixture} {p : ApiProfile} (hp : profS ps x.fProfile = some p) (hr : okR x = true) (hc : x.fCable = []) (h1 : 1 ≤ p.fFootprint) (h2 : x.fAddress + p.fFootprint ≤ 513) : aloneS ps x = 0 ∧ sizeS ps x = p.fFootprint := by
  refine ⟨?_, by unfold sizeS; rw [hp]⟩
  unfold aloneS
  rw [if_neg (by simp [hr]), if_neg (by simp [hc]), hp]
  simp only
  rw [if_neg (by omega)]

theorem free_some {ps : List ApiProfile} {l : List ApiFixture} {u : Int} {n i : Nat} (h : freeS ps l u n = some i) : i + 1 + n ≤ 513 ∧ openS ps l u (i + 1) n = true ∧ ∀ j, j < i → openS ps l u (j + 1) n = false := by
  unfold freeS at h
  rw [List.find?_eq_some_iff_getElem] at h
  obtain ⟨h1, k, hk, e, h2⟩ := h
  simp only [List.getElem_range] at e h2
  rw [List.length_range] at hk
  subst e
  refine ⟨by omega, h1, fun j hj => ?_⟩
  have := h2 j hj
  simpa using this

theorem f8_eq (l : List ApiFixture) (ps : List ApiProfile) (x : ApiFixture) (hf : Fit l) : f8 l ps x = some true := by
  obtain ⟨b, hb, hF⟩ := f29_ex l ps hf
  unfold f8
  rw [hb, Option.bind_some, f11_eq]
  simp only [Option.bind_some, decide_eq_true_eq]
  cases b with
  | false => rw [if_pos (by simp)]
  | true =>
    obtain ⟨hw, hok⟩ := hF rfl
    have hnl := hok.nl
    have hnp := hok.np
    have hl12 : l.length ≤ 12 := by have := hw.nl; omega
    rw [if_neg (by simp)]
    by_cases g1 : 64 ≤ ((l.length : Nat) : Int)
    · rw [if_pos g1]
    rw [if_neg g1]
    by_cases g2 : x.fChannel < 1
    · rw [if_pos g2]
    rw [if_neg g2]
    by_cases g3 : 999 < x.fChannel
    · rw [if_pos g3]
    rw [if_neg g3]
    by_cases g4 : x.fPart < 1
    · rw [if_pos g4]
    rw [if_neg g4]
    by_cases g5 : 64 < x.fPart
    · rw [if_pos g5]
    rw [if_neg g5]
    by_cases g6 : x.fUniverse < 1
    · rw [if_pos g6]
    rw [if_neg g6]
    by_cases g7 : 8 < x.fUniverse
    · rw [if_pos g7]
    rw [if_neg g7, f34_eq (by omega), Option.bind_some]
    have hfst := fstI_find (fun p : ApiProfile => decide (p.fName = x.fProfile)) ps
    rcases hfst with ⟨_, h2⟩ | ⟨i, p, hp, h2, hpi, _⟩
    · rw [h2, if_pos (by decide)]
    rw [h2, if_neg (by omega), at_nat hpi]
    simp only [Option.bind_some]
    have hprof : profS ps x.fProfile = some p := hp
    by_cases g8 : p.fFootprint < 1
    · rw [if_pos g8]
    rw [if_neg g8]
    by_cases g9 : 512 < p.fFootprint
    · rw [if_pos g9]
    rw [if_neg g9, f35_eq _ _ (by omega), Option.bind_some]
    by_cases g10 : 0 ≤ fstI (isP x.fChannel x.fPart) l
    · rw [if_pos g10]
    rw [if_neg g10, f22_eq ps _ _ hf, Option.bind_some]
    have hno : l.any (isP x.fChannel x.fPart) = false := by
      rw [← fstI_nonneg]; simpa using g10
    have hchk : ¬ checkS l ps ≠ 0 := by rw [check_ok.2 hok]; simp
    have hT : freeT ps l x.fUniverse p.fFootprint = match freeS ps l x.fUniverse p.fFootprint.toNat with
        | some i => (((i + 1 : Nat) : Int), 0)
        | none => (0, 12) := by
      unfold freeT
      rw [if_neg hchk, if_neg (by omega)]
      cases freeS ps l x.fUniverse p.fFootprint.toNat <;> rfl
    rw [hT]
    cases hfr : freeS ps l x.fUniverse p.fFootprint.toNat with
    | none => dsimp only; rw [if_pos (by decide), if_pos rfl]
    | some k =>
      dsimp only
      rw [if_neg (by simp)]
      obtain ⟨q1, q2, q3⟩ := free_some hfr
      let nx : Int → ApiFixture := fun a => ⟨x.fChannel, x.fPart, x.fProfile, x.fUniverse, a, 1, []⟩
      have hal : ∀ a : Int, 1 ≤ a → a ≤ ((k + 1 : Nat) : Int) → aloneS ps (nx a) = 0 ∧ sizeS ps (nx a) = p.fFootprint := fun a h1 h2 =>
        alone_new (x := nx a) hprof (by
          show decide ((1 ≤ x.fChannel ∧ x.fChannel ≤ 999) ∧ (1 ≤ x.fPart ∧ x.fPart ≤ 64) ∧ (1 ≤ x.fUniverse ∧ x.fUniverse ≤ 8) ∧ (1 ≤ a ∧ a ≤ 512) ∧ (1 : Int) ≤ 1 ∧ (1 : Int) ≤ 3) = true
          simp only [decide_eq_true_eq]; omega) rfl (by omega) (by show a + _ ≤ _; omega)
      have hdup : ∀ a : Int, ∀ y ∈ l, dupS y (nx a) = false := fun a => isP_dup (x := nx a) hno
      have hput : ∀ a : Int, f36 l ps (nx a) = some (resT (l ++ [nx a]) ps) := fun a => f36_new ps (nx a) hf rfl hok hno
      have hlow : ∀ a : Int, 1 ≤ a → a < ((k + 1 : Nat) : Int) → f36 l ps (nx a) = some ([], 10) := fun a h1 h2 => by
        obtain ⟨a1, a2⟩ := hal a h1 (by omega)
        rw [hput]
        have ho : checkS (l ++ [nx a]) ps = 10 := by
          rw [check_app hok (by omega)]
          unfold oneS
          have hany : (l.any fun y => dupS y (nx a)) = false := List.any_eq_false.2 fun y hy => by rw [hdup a y hy]; simp
          have hov := over_used hok a1
          rw [a2] at hov
          have hop := q3 (a.toNat - 1) (by omega)
          rw [show a.toNat - 1 + 1 = a.toNat by omega] at hop
          have hop' : openS ps l (nx a).fUniverse (nx a).fAddress.toNat p.fFootprint.toNat = false := hop
          rw [if_neg (by rw [a1]; simp), hany, if_neg (by simp), hov, hop', if_pos (by simp)]
        unfold resT
        rw [ho, if_pos (by decide)]
      obtain ⟨a1, a2⟩ := hal ((k + 1 : Nat) : Int) (by omega) (Int.le_refl _)
      have hov : ∀ y ∈ l, overS ps y (nx ((k + 1 : Nat) : Int)) = false := fun y hy => by
        have h1 := over_used hok a1
        rw [a2] at h1
        have h2 : openS ps l (nx ((k + 1 : Nat) : Int)).fUniverse (nx ((k + 1 : Nat) : Int)).fAddress.toNat p.fFootprint.toNat = true := q2
        rw [h2] at h1
        have := List.any_eq_false.1 h1 y hy
        simpa using this
      have hokm : Ok (l ++ [nx ((k + 1 : Nat) : Int)]) ps := ok_app hok (by omega) a1 (hdup _) hov
      have hfm : Fit (l ++ [nx ((k + 1 : Nat) : Int)]) := fit_app hf rfl
      have e1 : f36 l ps (nx ((k + 1 : Nat) : Int)) = some (l ++ [nx ((k + 1 : Nat) : Int)], 0) := by
        rw [hput]; unfold resT; rw [if_neg (by rw [check_ok.2 hokm]; simp)]
      have e2 : f37 (l ++ [nx ((k + 1 : Nat) : Int)]) ps x.fChannel x.fPart = some (l, true, 0) := f37_new ps (nx ((k + 1 : Nat) : Int)) hfm hokm (by omega) hno
      have e3 : f12 (l ++ [nx ((k + 1 : Nat) : Int)]) ps x.fChannel = some (partsS (l ++ [nx ((k + 1 : Nat) : Int)]) x.fChannel, 0) := f12_eq2 _ hfm hokm
      have e4 : f38 (partsS (l ++ [nx ((k + 1 : Nat) : Int)]) x.fChannel) (nx ((k + 1 : Nat) : Int)) = some true := by
        refine f38_in ?_ (parts_mem.2 ⟨List.mem_append_right _ (List.mem_singleton.2 rfl), rfl⟩)
        rw [(parts_perm _ _).length_eq]
        have h3 : (ofCh (l ++ [nx ((k + 1 : Nat) : Int)]) x.fChannel).length ≤ (l ++ [nx ((k + 1 : Nat) : Int)]).length := List.length_filter_le ..
        rw [List.length_append, List.length_singleton] at h3
        omega
      show (f36 l ps (nx ((k + 1 : Nat) : Int))).bind _ = _
      rw [e1, Option.bind_some]
      show (f37 (l ++ [nx ((k + 1 : Nat) : Int)]) ps x.fChannel x.fPart).bind _ = _
      rw [e2, Option.bind_some]
      show (f12 (l ++ [nx ((k + 1 : Nat) : Int)]) ps x.fChannel).bind _ = _
      rw [e3, Option.bind_some]
      dsimp only
      rw [if_neg (by decide), if_neg (by simp), f18_self (show l.length ≤ 1000000 by omega), Option.bind_some, if_neg (by simp)]
      show (f38 (partsS (l ++ [nx ((k + 1 : Nat) : Int)]) x.fChannel) (nx ((k + 1 : Nat) : Int))).bind _ = _
      rw [e4, Option.bind_some, if_neg (by simp)]
      generalize hL : f8_L1 (((k + 1 : Nat) : Int), (0 : Int)) l ps x = L
      have hrun : Lp.run L (((0 : Nat) : Int), ((k + 1 : Nat) : Int)) = some (.inl ()) := by
        have hr := run_walk (L := L) [(IntKind.i64.wrap (((k + 1 : Nat) : Int) - 1)), (IntKind.i64.wrap ((((k + 1 : Nat) : Int)).tdiv 2)), 1] (fun j (a : Int) => ((j : Int), a)) (fun _ _ y => .inl y) (fun _ => (.inl () : Unit ⊕ Unit)) (fun _ _ => True) (fun j a y hy _ => by
          refine ⟨?_, fun _ _ => trivial⟩
          have hj := getElem?_lt hy
          have hj' : j < 3 := hj
          subst hL
          refine (if_pos ?_).trans ?_
          · simp only [decide_eq_true_eq, List.length_cons, List.length_nil]; omega
          · rw [at_nat hy, Option.bind_some, w64_succ (by omega)]
            show (if decide (1 ≤ y) = true then _ else _) = _
            by_cases c1 : 1 ≤ y
            · rw [if_pos (by simpa using c1)]
              by_cases c2 : y < ((k + 1 : Nat) : Int)
              · rw [if_pos (by simpa using c2)]
                show (f36 l ps (nx y)).bind _ = _
                rw [hlow y c1 c2, Option.bind_some, if_neg (by simp)]
                rfl
              · rw [if_neg (by simpa using c2)]; rfl
            · rw [if_neg (by simpa using c1)]; rfl) (fun a _ => by
          subst hL
          rfl) (((k + 1 : Nat) : Int)) trivial
        rw [hr]
        rfl
      have hrun' : Lp.run L (0, ((k + 1 : Nat) : Int)) = some (.inl ()) := hrun
      rw [hrun', Option.bind_some]
end Go.Proofs.Ythikbfhdebaceaa
