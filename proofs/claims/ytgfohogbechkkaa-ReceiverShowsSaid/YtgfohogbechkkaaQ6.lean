/-
  Plain laws of the receiver of layer 57: ReceiverShows.
-/
import Derived.Test.YtgfohogbechkkaaP4
import Derived.Test.YtgfohogbechkkaaY61
set_option linter.unusedSimpArgs false
set_option linter.unusedVariables false
namespace Go.Proofs.Ytgfohogbechkkaa
open Go Go.Ab

def bestS : List ReceiverInput → Int
  | [] => -1
  | y :: _ => y.fPriority

theorem f74_eq {l : List ReceiverInput} {t : Int} (hg : Good t l) (u : Int) : f74 ⟨l.map refI⟩ t u = some ((winS l t u).map refI) := by
  have hlen := hg.len
  have h0 := hg.t0
  have h1 := hg.t1
  unfold f74
  have hrun := run_walk (L := f74_L1 ⟨l.map refI⟩ u t) l (fun k (a : List ReceiverInput) => (bestS a, (k : Int), a.map refI)) (fun _ a x => .inl (if cand t u x = true then winStep a x else a)) (fun a => a.map refI) (fun k a => a.length ≤ k) (fun k a x hx hI => by
    have R := Rnd.mk' hx (by omega)
    have hk := R.klt
    have hat : at? (l.map refI) (k : Int) = some (refI x) := at_nat (by rw [List.getElem?_map, hx]; rfl)
    refine ⟨?_, fun a' ha' => ?_⟩
    · have hL := hg.last x R.mem
      have hin := in_ok (hg.ok x R.mem)
      have hL0 := hin.2.2.1
      have hP0 := (check_ok hin.2.1).1.2.1
      simp only [f74_L1]
      rw [if_pos (by simp only [List.length_map, decide_eq_true_eq]; omega), hat, Option.bind_some]
      simp only [R.nxt, show (refI x).fUniverse = x.fUniverse from rfl, show (refI x).fLast = x.fLast from rfl, show (refI x).fSlots = x.fSlots from rfl, show (refI x).fPriority = x.fPriority from rfl]
      rw [w64 (a := t - x.fLast) (by omega) (by omega)]
      by_cases c1 : x.fUniverse = u
      case neg => simp [c1, cand, roundL]
      by_cases c2 : 2500 < t - x.fLast
      · have : ¬ t - x.fLast ≤ 2500 := by omega
        simp [c1, c2, this, cand, roundL]
      have c2' : t - x.fLast ≤ 2500 := by omega
      by_cases c3 : x.fSlots = []
      · simp [c1, c2, c3, cand, roundL]
      have hc : cand t u x = true := by simp [cand, c1, c2', c3]
      have c3' : (x.fSlots == []) = false := by simp [c3]
      simp only [c1, c2, c3', hc, if_true, decide_false, Bool.false_eq_true, if_false, ne_eq, not_true_eq_false, roundL]
      have app1 : app? 80 (a.map refI) [refI x] = some (a.map refI ++ [refI x]) := app_some (by simp only [List.length_map, List.length_cons, List.length_nil]; omega) (by simp only [List.length_map, List.length_cons, List.length_nil]; omega)
      have app0 : app? 80 [] [refI x] = some [refI x] := app_some (by simp only [List.length_cons, List.length_nil]; omega) (by simp only [List.length_cons, List.length_nil]; omega)
      have hP : 0 ≤ x.fPriority := hP0.1
      cases a with
      | nil =>
        have e1 : ¬ x.fPriority < -1 := by omega
        have e2 : -1 < x.fPriority := by omega
        simp [app0, winStep, bestS, e1, e2]
      | cons y ys =>
        simp only [bestS, winStep, app0, app1, Option.bind_some]
        by_cases d1 : y.fPriority < x.fPriority
        · have e1 : ¬ x.fPriority < y.fPriority := by omega
          simp [d1, e1]
        · by_cases d2 : x.fPriority = y.fPriority
          · simp [d2]
          · have e1 : x.fPriority < y.fPriority := by omega
            simp [d1, d2, e1]
    · injection ha' with ha'
      subst ha'
      split
      · have := winStep_len a x; omega
      · omega) (fun a _ => by simp [f74_L1]) [] (by simp)
  rw [show ((-1 : Int), (0 : Int), ([] : List Ref57Input)) = (bestS [], ((0 : Nat) : Int), ([] : List ReceiverInput).map refI) from rfl, hrun, Option.bind_some]
  have hw : ∀ (l : List ReceiverInput) (k : Nat) (acc : List ReceiverInput), walkL (fun _ a x => (.inl (if cand t u x = true then winStep a x else a) : List ReceiverInput ⊕ List Ref57Input)) (fun a => a.map refI) k acc l = ((l.filter (cand t u)).foldl winStep acc).map refI := fun l => by
    induction l with
    | nil => intro k acc; rfl
    | cons x l ih =>
      intro k acc
      simp only [walkL]
      rw [ih]
      cases h : cand t u x <;> simp [h]
  rw [hw]
  rfl

def winnersO (l : List ReceiverInput) (t u : Int) : List Int × Int := if momentS l t ≠ 0 then ([], momentS l t) else if u < 1 then ([], 2) else if 8 < u then ([], 2) else ((winS l t u).map (·.fSource), 0)

theorem f28_eq (r : ReceiverReceiver) (t u : Int) : f28 r t u = some (winnersO r.fInputs t u) := by
  unfold f28 winnersO
  rw [f58_eq, Option.bind_some]
  by_cases h : momentS r.fInputs t = 0
  case neg => simp [h]
  have hg := moment_good h
  simp only [h, ne_eq, not_true_eq_false, decide_false, Bool.false_eq_true, if_false]
  by_cases h2 : u < 1
  · simp [h2]
  by_cases h3 : 8 < u
  · simp [h2, h3]
  simp only [h2, h3, decide_false, Bool.false_eq_true, if_false]
  rw [f73_eq hg, Option.bind_some]
  have hwl := (win_slots hg u).2
  rw [run_collect (L := f28_L1 (winS r.fInputs t u)) (xs := winS r.fInputs t u) (fun x => [x.fSource]) (fun k acc x hx ha => by
    have R := Rnd.mk' hx (by omega)
    have hk := R.klt
    simp only [f28_L1]
    rw [if_pos R.lt, R.at', Option.bind_some, app_some (by simp only [List.length_cons, List.length_nil]; omega) (by simp only [List.length_cons, List.length_nil]; omega), Option.bind_some, R.nxt]) (fun x => by simp) (fun acc => by simp [f28_L1]), Option.bind_some, ← List.map_eq_flatMap]

theorem f29_eq {l : List ReceiverInput} (t u : Int) : f29 ⟨l.map refI⟩ t u = some (winnersO l t u) := by
  unfold f29 winnersO
  rw [f61_eq, Option.bind_some]
  by_cases h : momentS l t = 0
  case neg => simp [h]
  have hg := moment_good h
  simp only [h, ne_eq, not_true_eq_false, decide_false, Bool.false_eq_true, if_false]
  by_cases h2 : u < 1
  · simp [h2]
  by_cases h3 : 8 < u
  · simp [h2, h3]
  simp only [h2, h3, decide_false, Bool.false_eq_true, if_false]
  rw [f74_eq hg, Option.bind_some]
  have hwl := (win_slots hg u).2
  rw [run_collect (L := f29_L1 ((winS l t u).map refI)) (xs := (winS l t u).map refI) (fun x => [x.fSource]) (fun k acc x hx ha => by
    have R := Rnd.mk' hx (by rw [List.length_map]; omega)
    have hk := R.klt
    rw [List.length_map] at hk
    simp only [f29_L1]
    rw [if_pos R.lt, R.at', Option.bind_some, app_some (by simp only [List.length_cons, List.length_nil]; omega) (by simp only [List.length_cons, List.length_nil]; omega), Option.bind_some, R.nxt]) (fun x => by simp) (fun acc => by simp [f29_L1]), Option.bind_some, ← List.map_eq_flatMap, List.map_map]
  rfl

/-! ## Frames of the reference -/

theorem mx8_zero (b : UInt8) : mx8 0 b = b := by
  unfold mx8
  split
  · rfl
  · rename_i h
    have h0 : (0 : UInt8).toNat = 0 := rfl
    rw [h0] at h
    have : b.toNat = 0 := by omega
    exact (UInt8.toNat_inj.1 (by rw [this]; rfl)).symm
theorem zip_zero : ∀ (s : List UInt8) (n : Nat), s.length = n → List.zipWith mx8 (List.replicate n 0) s = s
  | [], n, h => by simp at h; subst h; rfl
  | b :: s, 0, h => by simp at h
  | b :: s, n + 1, h => by
    rw [List.replicate_succ, List.zipWith_cons_cons, mx8_zero, zip_zero s n (by simpa using h)]

theorem L2c_eq {w : List Ref57Input} {i : Nat} {x : Ref57Input} (hi : w[i]? = some x) (hx : x.fSlots.length = 512) {a : List UInt8} (ha : a.length = 512) : (f110_L2 w (i : Int)).run (0, a.map toI) = some ((List.zipWith mx8 a x.fSlots).map toI) := by
  have hrun := run_count (L := f110_L2 w (i : Int)) (e := (List.zipWith mx8 a x.fSlots).map toI) (fun k => ((k : Int), (List.zipWith mx8 (a.take k) (x.fSlots.take k) ++ a.drop k).map toI)) 512 (by
    simp only [f110_L2]
    rw [if_neg (by simp only [List.length_map, List.length_append, List.length_zipWith, List.length_take, List.length_drop, decide_eq_true_eq]; omega), List.take_of_length_le (by omega), List.take_of_length_le (by omega), List.drop_of_length_le (by omega), List.append_nil]) 0 (Nat.zero_le _) (fun k _ hk => by
    have h1 := List.getElem?_eq_getElem (show k < a.length by omega)
    have h2 := List.getElem?_eq_getElem (show k < x.fSlots.length by omega)
    generalize a[k] = p at h1
    generalize x.fSlots[k] = q at h2
    obtain ⟨z1, z2⟩ := zip_step mx8 h1 h2
    have hlen : (List.zipWith mx8 (a.take k) (x.fSlots.take k) ++ a.drop k).length = 512 := by
      rw [List.length_append, List.length_zipWith, List.length_take, List.length_take, List.length_drop]; omega
    have harr : at? ((List.zipWith mx8 (a.take k) (x.fSlots.take k) ++ a.drop k).map toI) (k : Int) = some (toI p) := at_nat (by rw [List.getElem?_map, z1]; rfl)
    simp only [f110_L2]
    rw [if_pos (by simp only [List.length_map, hlen, decide_eq_true_eq]; omega), harr, Option.bind_some, at_nat hi, Option.bind_some, at_nat h2, Option.bind_some, Option.bind_some, w64_succ (by omega)]
    congr 2
    rw [Int.toNat_natCast]
    have hv : (if (q.toNat : Int) > toI p then (q.toNat : Int) else toI p) = toI (mx8 p q) := by
      unfold mx8 toI
      by_cases hc : p.toNat < q.toNat
      · rw [if_pos hc, if_pos (by omega)]
      · rw [if_neg hc, if_neg (by omega)]
    rw [hv, ← List.map_set, z2])
  simpa using hrun

theorem f110_eq {w : List ReceiverInput} (hw : ∀ x ∈ w, x.fSlots.length = 512) (hl : w.length ≤ 1000) (hne : w ≠ []) : f110 (w.map refI) = some (hiS w) := by
  cases w with
  | nil => exact absurd rfl hne
  | cons x ws =>
    unfold f110
    have hx := hw x (List.mem_cons_self ..)
    simp only [List.length_cons] at hl
    rw [show at? ((x :: ws).map refI) 0 = some (refI x) from rfl, Option.bind_some]
    unfold room?
    rw [if_pos (by show x.fSlots.length ≤ room; unfold room; omega), Option.bind_some]
    have hrun := run_walk (L := f110_L1 ((x :: ws).map refI)) ws (fun k (a : List UInt8) => (((k + 1 : Nat) : Int), a.map toI)) (fun _ a y => .inl (List.zipWith mx8 a y.fSlots)) (fun a => a.map toI) (fun _ a => a.length = 512) (fun k a y hy hI => by
      have hk := getElem?_lt hy
      have hyl := hw y (List.mem_cons_of_mem _ (getElem?_mem hy))
      refine ⟨?_, fun a' ha' => ?_⟩
      · simp only [f110_L1]
        rw [if_pos (by simp only [List.length_map, List.length_cons, decide_eq_true_eq]; omega), L2c_eq (x := refI y) (by rw [List.getElem?_map, List.getElem?_cons_succ, hy]; rfl) hyl hI, Option.bind_some, w64_succ (by omega)]
        rfl
      · injection ha' with ha'
        subst ha'
        rw [List.length_zipWith, hI, hyl]
        rfl) (fun a _ => by simp only [f110_L1]; rw [if_neg (by simp)]) x.fSlots hx
    have hwk : ∀ (w : List ReceiverInput) (k : Nat) (a : List UInt8), walkL (fun _ a x => (.inl (List.zipWith mx8 a x.fSlots) : List UInt8 ⊕ List Int)) (fun a => a.map toI) k a w = (w.foldl (fun acc x => List.zipWith mx8 acc x.fSlots) a).map toI := fun w => by
      induction w with
      | nil => intro k a; rfl
      | cons x w ih => intro k a; simp only [walkL]; rw [ih]; rfl
    rw [hwk] at hrun
    refine (congrArg (fun o : Option (List Int) => o.bind fun out => some (out.map b8)) hrun).trans ?_
    simp only [Option.bind_some]
    rw [map_b8]
    unfold hiS
    rw [List.foldl_cons, zip_zero _ 512 hx]

theorem f75_eq {l : List ReceiverInput} {t : Int} (hg : Good t l) : f75 ⟨l.map refI⟩ t = some (framesS l t) := by
  unfold f75
  have hrun := run_count (L := f75_L1 ⟨l.map refI⟩ t) (e := framesS l t) (fun k => (((k + 1 : Nat) : Int), (List.range k).flatMap fun (i : Nat) => frameS l t ((i : Int) + 1))) 8 (by
    simp only [f75_L1]
    rw [if_neg (by simp)]
    rfl) 0 (Nat.zero_le _) (fun k _ hk => by
    obtain ⟨ws, wl⟩ := win_slots hg (((k + 1 : Nat) : Int))
    have hout := frames_len l t k
    simp only [f75_L1]
    rw [if_pos (by simp only [decide_eq_true_eq]; omega), f74_eq hg, Option.bind_some, w64_succ (by omega), List.range_succ, List.flatMap_append]
    generalize ((List.range k).flatMap fun (i : Nat) => frameS l t ((i : Int) + 1)) = out at hout
    by_cases hw : winS l t ((k + 1 : Nat) : Int) = []
    · have : frameS l t ((k : Int) + 1) = [] := by unfold frameS; rw [if_pos (by exact hw)]
      rw [hw]
      simp [this]
    · have hz : (0 : Int) < ((((winS l t ((k + 1 : Nat) : Int)).map refI).length : Nat) : Int) := by
        rw [List.length_map]
        have := List.length_pos_iff.2 hw
        omega
      rw [if_pos (by simpa using hz)]
      have hf : frameS l t ((k : Int) + 1) = [⟨((k + 1 : Nat) : Int), hiS (winS l t ((k + 1 : Nat) : Int))⟩] := by unfold frameS; rw [if_neg (by exact hw)]; rfl
      rw [f110_eq ws (by omega) hw, Option.bind_some, app_some (by simp only [List.length_cons, List.length_nil]; omega) (by simp only [List.length_cons, List.length_nil]; omega), Option.bind_some]
      simp [hf])
  rw [show ((1 : Int), ([] : List ApiFrame)) = (((0 + 1 : Nat) : Int), (List.range 0).flatMap fun (i : Nat) => frameS l t ((i : Int) + 1)) from rfl, hrun]
  rfl

theorem f31_eq (l : List ReceiverInput) (t : Int) : f31 ⟨l.map refI⟩ t = some (framesO l t) := by
  unfold f31 framesO
  rw [f61_eq, Option.bind_some]
  by_cases h : momentS l t = 0
  · rw [if_neg (by simp [h]), if_neg (by simp [h]), f75_eq (moment_good h), Option.bind_some]
  · simp [h]

theorem f32_eq (a : List Int) (h : a.length ≤ 9223372036854775806) : f32 a a = some true := by
  unfold f32
  rw [if_neg (by simp)]
  rw [run_all (L := f32_L1 a a) (xs := a) (e := Sum.inl ()) (fun k x hx => by
    have R := Rnd.mk' hx (by omega)
    simp only [f32_L1]
    rw [if_pos R.lt, R.at', R.nxt, Option.bind_some, Option.bind_some]
    simp) (by simp [f32_L1])]
  rfl
theorem f33_eq (a : List ApiFrame) (h : a.length ≤ 9223372036854775806) : f33 a a = some true := by
  unfold f33
  rw [if_neg (by simp)]
  rw [run_all (L := f33_L1 a a) (xs := a) (e := Sum.inl ()) (fun k x hx => by
    have R := Rnd.mk' hx (by omega)
    simp only [f33_L1]
    rw [if_pos R.lt, R.at', R.nxt, Option.bind_some, Option.bind_some]
    simp) (by simp [f33_L1])]
  rfl

theorem winners_len (l : List ReceiverInput) (t u : Int) : (winnersO l t u).1.length ≤ 64 := by
  unfold winnersO
  split
  · simp
  · rename_i h
    split
    · simp
    · split
      · simp
      · simp only [List.length_map]
        exact (win_slots (moment_good (by simpa using h)) u).2
theorem framesO_len (l : List ReceiverInput) (t : Int) : (framesO l t).1.length ≤ 8 := by
  unfold framesO
  split
  · simp
  · exact frames_len l t 8

theorem f6_eq (r : ReceiverReceiver) (t u : Int) (h : r.fInputs.length * 80 ≤ 140737488351232) : f6 r t u = some true := by
  unfold f6
  rw [f14_eq h, Option.bind_some]
  cases hf : fewS r.fInputs
  · simp [f15_eq]
  have h1 := winners_len r.fInputs t u
  have h2 := framesO_len r.fInputs t
  rw [if_neg (by simp), f28_eq, Option.bind_some, f18_eq h, Option.bind_some, f29_eq, Option.bind_some, f30_eq, Option.bind_some, Option.bind_some, f31_eq, Option.bind_some, f15_eq, Option.bind_some, if_pos rfl,
    f32_eq _ (by omega), Option.bind_some, if_pos rfl, if_pos (by simp), f33_eq _ (by omega), Option.bind_some, if_pos rfl]
  simp
end Go.Proofs.Ytgfohogbechkkaa
