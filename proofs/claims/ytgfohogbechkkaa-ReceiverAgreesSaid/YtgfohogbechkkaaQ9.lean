import Derived.Test.YtgfohogbechkkaaSA
set_option linter.unusedSimpArgs false
set_option linter.unusedVariables false
namespace Go.Proofs.Ytgfohogbechkkaa
open Go Go.Ab
theorem wf8 {n : Int} (h : (Lit.int .u8 n).wf = true) : 0 ≤ n ∧ n ≤ 255 := by
  have h2 : IntKind.u8.min ≤ n ∧ n ≤ IntKind.u8.max := by simpa [Lit.wf] using h
  rwa [show IntKind.u8.min = 0 by decide, show IntKind.u8.max = 255 by decide] at h2
theorem strict_ext {τ : Type} {key : τ → Int} : ∀ {xs ys : List τ}, xs.Pairwise (fun a b => key a < key b) → ys.Pairwise (fun a b => key a < key b) → (∀ z, z ∈ xs ↔ z ∈ ys) → xs = ys
  | [], [], _, _, _ => rfl
  | [], y :: ys, _, _, h => by have := (h y).2 (List.mem_cons_self ..); cases this
  | x :: xs, [], _, _, h => by have := (h x).1 (List.mem_cons_self ..); cases this
  | x :: xs, y :: ys, h1, h2, h => by
    have h1' := List.pairwise_cons.1 h1
    have h2' := List.pairwise_cons.1 h2
    have hxy : x = y := by
      rcases List.mem_cons.1 ((h x).1 (List.mem_cons_self ..)) with e | e
      · exact e
      · rcases List.mem_cons.1 ((h y).2 (List.mem_cons_self ..)) with e2 | e2
        · exact e2.symm
        · have := h2'.1 x e
          have := h1'.1 y e2
          omega
    subst hxy
    rw [strict_ext h1'.2 h2'.2 fun z => ?_]
    have hz := h z
    rw [List.mem_cons, List.mem_cons] at hz
    constructor
    · intro hm
      rcases hz.1 (.inr hm) with e | e
      · have := h1'.1 z hm; rw [e] at this; omega
      · exact e
    · intro hm
      rcases hz.2 (.inr hm) with e | e
      · have := h2'.1 z hm; rw [e] at this; omega
      · exact e
theorem mx8_zero (b : UInt8) : mx8 0 b = b := by
  unfold mx8
  by_cases h : (0 : UInt8).toNat < b.toNat
  · rw [if_pos h]
  · rw [if_neg h]
    have h0 : (0 : UInt8).toNat = 0 := rfl
    have : b.toNat = 0 := by omega
    exact (UInt8.toNat_inj.1 (by rw [this]; rfl)).symm
theorem zip_zero : ∀ (s : List UInt8) (n : Nat), s.length = n → List.zipWith mx8 (List.replicate n 0) s = s
  | [], n, h => by simp at h; subst h; rfl
  | b :: s, 0, h => by simp at h
  | b :: s, n + 1, h => by
    rw [List.replicate_succ, List.zipWith_cons_cons, mx8_zero, zip_zero s n (by simpa using h)]
section
variable {s : Int} {l : List NetworkStream} {ys : List ReceiverInput}
theorem both_univ (h : ys.map gI = l.map (hI s)) : ys.map (fun y => y.fUniverse) = l.map (fun x => x.fUniverse) := by
  have := congrArg (List.map Prod.fst) h
  rw [List.map_map, List.map_map] at this
  exact this
theorem both_frames (h : ys.map gI = l.map (hI s)) (hw : ∀ y ∈ ys, y.fWait = []) : ys.map (fun y => (⟨y.fUniverse, y.fSlots⟩ : ApiFrame)) = l.map Net.fr := by
  have := congrArg (List.map fun g : Int × Int × Int × Int × Int × List UInt8 => (⟨g.1, g.2.2.2.2.2⟩ : ApiFrame)) h
  rw [List.map_map, List.map_map] at this
  refine Eq.trans (List.map_congr_left fun y hy => ?_) this
  show _ = (⟨y.fUniverse, if y.fWait = [] then y.fSlots else y.fWait⟩ : ApiFrame)
  rw [if_pos (hw y hy)]
theorem win_one {t : Int} (hd : ys.Pairwise fun a b => a.fUniverse < b.fUniverse) {y : ReceiverInput} (hy : y ∈ ys) (hc : cand t y.fUniverse y = true) : winS ys t y.fUniverse = [y] := by
  obtain ⟨A, B, rfl⟩ := List.append_of_mem hy
  obtain ⟨_, h2, h3⟩ := List.pairwise_append.1 hd
  have h4 := List.pairwise_cons.1 h2
  have hA : A.filter (cand t y.fUniverse) = [] := by
    rw [List.filter_eq_nil_iff]
    intro x hx
    have := h3 x hx y (List.mem_cons_self ..)
    unfold cand
    rw [decide_eq_false (by omega)]
    simp
  have hB : B.filter (cand t y.fUniverse) = [] := by
    rw [List.filter_eq_nil_iff]
    intro x hx
    have := h4.1 x hx
    unfold cand
    rw [decide_eq_false (by omega)]
    simp
  unfold winS
  rw [List.filter_append, hA, List.filter_cons_of_pos hc, hB]
  rfl
theorem frame_one {t : Int} (hd : ys.Pairwise fun a b => a.fUniverse < b.fUniverse) {y : ReceiverInput} (hy : y ∈ ys) (hc : cand t y.fUniverse y = true) (hl : y.fSlots.length = 512) : frameS ys t y.fUniverse = [⟨y.fUniverse, y.fSlots⟩] := by
  unfold frameS
  rw [win_one hd hy hc, if_neg (by simp)]
  unfold hiS
  rw [List.foldl_cons, zip_zero _ 512 hl]
  rfl
theorem frame_univ {t u : Int} {z : ApiFrame} (h : z ∈ frameS ys t u) : z.fUniverse = u ∧ winS ys t u ≠ [] := by
  unfold frameS at h
  split at h
  · cases h
  · rename_i hn
    rw [List.mem_singleton.1 h]
    exact ⟨rfl, hn⟩
theorem both_show (h : Both s 1000 l ys) (hw : ∀ y ∈ ys, y.fWait = []) : framesS ys 1000 = l.map Net.fr := by
  have hd : ys.Pairwise fun a b => a.fUniverse < b.fUniverse := by
    have : (ys.map fun y => y.fUniverse).Pairwise (· < ·) := by rw [both_univ h.rel, List.pairwise_map]; exact h.gs.asc
    exact List.pairwise_map.1 this
  have hyk : ∀ y ∈ ys, y.fSlots.length = 512 ∧ (1 ≤ y.fUniverse ∧ y.fUniverse ≤ 8) ∧ cand 1000 y.fUniverse y = true := fun y hy => by
    obtain ⟨x, hx, e⟩ := rel_mem h.rel hy
    have ru := rel_u e
    rw [if_pos (hw y hy)] at ru
    have hr := h.gs.rng x hx
    have ok := (h.gs.ok x hx).2.2.2
    have h512 : y.fSlots.length = 512 := by rw [ru.2.2.2.2]; exact ok
    have hne : y.fSlots ≠ [] := fun e => by rw [e] at h512; cases h512
    have hlast := (in_ok (h.gr.ok y hy)).2.2.1
    refine ⟨h512, by omega, ?_⟩
    unfold cand
    rw [decide_eq_true rfl, decide_eq_true (by omega), decide_eq_false hne]
    rfl
  refine strict_ext (key := fun z => z.fUniverse) ?_ ?_ fun z => ?_
  · unfold framesS
    rw [List.pairwise_flatMap]
    refine ⟨fun i _ => ?_, List.pairwise_lt_range.imp fun hij x hx y hy => ?_⟩
    · unfold frameS
      split <;> simp
    · have := (frame_univ hx).1
      have := (frame_univ hy).1
      omega
  · rw [List.pairwise_map]
    exact h.gs.asc
  · rw [← both_frames h.rel hw]
    constructor
    · intro hz
      unfold framesS at hz
      obtain ⟨i, _, hz⟩ := List.mem_flatMap.1 hz
      obtain ⟨hu, hne⟩ := frame_univ hz
      obtain ⟨y, hy⟩ := List.exists_mem_of_ne_nil _ hne
      obtain ⟨hm, hyu, _⟩ := win_mem hy
      obtain ⟨k1, k2, k3⟩ := hyk y hm
      rw [← hyu, frame_one hd hm k3 k1] at hz
      exact List.mem_map.2 ⟨y, hm, (List.mem_singleton.1 hz).symm⟩
    · intro hz
      obtain ⟨y, hy, rfl⟩ := List.mem_map.1 hz
      obtain ⟨k1, k2, k3⟩ := hyk y hy
      unfold framesS
      refine List.mem_flatMap.2 ⟨(y.fUniverse - 1).toNat, List.mem_range.2 (by omega), ?_⟩
      rw [show (((y.fUniverse - 1).toNat : Nat) : Int) + 1 = y.fUniverse by omega, frame_one hd hy k3 k1]
      exact List.mem_singleton.2 rfl
end
theorem L3_run {r : NetworkSender × List NetworkPacket × Int} {v t : Int} {a b : List ApiFrame} {ys : List ReceiverInput} (hv : IntKind.i64.wrap (1000 * v) = t) (hg : Good t ys) (hc : ∀ p ∈ r.2.1, checkS p = 0) (hl : r.2.1.length ≤ 1000) :
    (f9_L3 r v a b).run (0, ys) = some (.inl (foldT t ys r.2.1)) := by
  have hrun := run_count (L := f9_L3 r v a b) (e := .inl (foldT t ys r.2.1)) (fun k => ((k : Int), foldT t ys (r.2.1.take k))) r.2.1.length (by simp [f9_L3]) 0 (Nat.zero_le _) (fun k _ hk => by
    have hx := List.getElem?_eq_getElem hk
    have htk : r.2.1.take (k + 1) = r.2.1.take k ++ [r.2.1[k]] := by rw [List.take_add_one, hx]; rfl
    have hxm := List.getElem_mem hk
    generalize r.2.1[k] = x at hx htk hxm
    have R := Rnd.mk' hx (by omega)
    have hgk : Good t (foldT t ys (r.2.1.take k)) := foldT_good hg fun p hp => hc p (List.mem_of_mem_take hp)
    simp only [f9_L3]
    rw [if_pos R.lt, R.at', Option.bind_some, hv, f16_eq, Option.bind_some]
    simp only [R.nxt]
    rw [take_ok hgk (hc x hxm), if_neg (by simp), htk, foldT_snoc])
  exact hrun
def hasU (b : List ApiFrame) (u : Int) : Bool := b.any fun g => decide (g.fUniverse = u)
theorem f45_eq {b : List ApiFrame} {u : Int} {sl : List UInt8} (hl : b.length ≤ 9223372036854775807) : f45_46 b u sl = some (hasU b u) := by
  unfold f45_46 f35_46
  have h := run_findi (L := f35_46_L1 b u sl) (xs := b) (fun g => decide (g.fUniverse = u)) hl (fun k x hr => by
    simp only [f35_46_L1]
    rw [if_pos hr.lt, hr.at', hr.nxt, Option.bind_some, f46p, Option.bind_some]
    by_cases h : x.fUniverse = u <;> simp [h]) (by simp [f35_46_L1])
  refine (congrArg (fun o : Option Int => o.bind fun r => some (decide (0 ≤ r))) h).trans ?_
  simp only [Option.bind_some]
  rw [fstI_nonneg]
  rfl
def wantS (a b : List ApiFrame) : List ApiFrame := b ++ a.filter fun x => !hasU b x.fUniverse
theorem L2_run {a b : List ApiFrame} {r : List ReceiverInput} (ha : a.length ≤ 8) (hb : b.length ≤ 8) : (f9_L2 a b r).run (0, b) = some (wantS a b) := by
  have hrun := run_count (L := f9_L2 a b r) (e := wantS a b) (fun k => ((k : Int), b ++ (a.take k).filter fun x => !hasU b x.fUniverse)) a.length (by simp [f9_L2, wantS]) 0 (Nat.zero_le _) (fun k _ hk => by
    have hx := List.getElem?_eq_getElem hk
    have htk : a.take (k + 1) = a.take k ++ [a[k]] := by rw [List.take_add_one, hx]; rfl
    generalize a[k] = x at hx htk
    have R := Rnd.mk' hx (by omega)
    have hfl : ((a.take k).filter fun x => !hasU b x.fUniverse).length ≤ 8 := Nat.le_trans (List.length_filter_le _ _) (by rw [List.length_take]; omega)
    simp only [f9_L2]
    rw [if_pos R.lt, R.at', Option.bind_some, f45_eq (by omega), Option.bind_some, htk, List.filter_append]
    cases hh : hasU b x.fUniverse
    · rw [if_pos (show (!false) = true from rfl), app_some (by rw [List.length_append, List.length_singleton]; omega) (by rw [List.length_append, List.length_singleton]; omega), Option.bind_some, R.nxt]
      simp [hh]
    · rw [if_neg (by simp), R.nxt]
      simp [hh])
  simpa using hrun
theorem f44_eq {b : List ApiFrame} (hb : b.length ≤ 1000) : f44 b = some b := by
  unfold f44
  have happ : app? 24 [] b = some ([] ++ b) := app_some (by simp only [List.length_nil]; omega) (by simp only [List.length_nil]; omega)
  cases b with
  | nil => rw [nil_nil (by rw [happ]; rfl)]; rfl
  | cons x xs => rw [nil_cons (by simp), happ]; simp
theorem f34_eq (a : List ApiFrame) (h : a.length ≤ 9223372036854775806) : f34 a a = some true := by
  unfold f34
  rw [if_neg (by simp)]
  rw [run_all (L := f34_L1 a a) (xs := a) (e := Sum.inl ()) (fun k x hx => by
    have R := Rnd.mk' hx (by omega)
    simp only [f34_L1]
    rw [if_pos R.lt, R.at', R.nxt, Option.bind_some, Option.bind_some]
    simp) (by simp [f34_L1])]
  rfl
theorem want_sort {a b : List ApiFrame} (ha : Net.framesS a = 0) (hb : Net.framesS b = 0) (ha3 : a.length ≤ 3) (hb3 : b.length ≤ 3) :
    sortf? (fun x y => f48 x y) (wantS a b) = some (isortL (fun x y => x.fUniverse - y.fUniverse) (wantS a b)) ∧ (isortL (fun x y => x.fUniverse - y.fUniverse) (wantS a b)).Pairwise (fun x y => x.fUniverse < y.fUniverse) ∧
    ∀ z, z ∈ isortL (fun x y => x.fUniverse - y.fUniverse) (wantS a b) ↔ z ∈ b ∨ (z ∈ a ∧ ∀ f ∈ b, z.fUniverse ≠ f.fUniverse) := by
  obtain ⟨_, a2, a3⟩ := Net.frames_ok ha
  obtain ⟨_, b2, b3⟩ := Net.frames_ok hb
  have hm : ∀ z, z ∈ wantS a b ↔ z ∈ b ∨ (z ∈ a ∧ ∀ f ∈ b, z.fUniverse ≠ f.fUniverse) := fun z => by
    unfold wantS
    rw [List.mem_append, List.mem_filter]
    have : (!hasU b z.fUniverse) = true ↔ ∀ f ∈ b, z.fUniverse ≠ f.fUniverse := by
      unfold hasU
      rw [Bool.not_eq_true', List.any_eq_false]
      constructor
      · intro h f hf e
        exact h f hf (by simp [e])
      · intro h f hf e
        exact h f hf (by simpa using (of_decide_eq_true e).symm)
    rw [this]
  have hrng : ∀ z ∈ wantS a b, 1 ≤ z.fUniverse ∧ z.fUniverse ≤ 8 := fun z hz => by
    rcases (hm z).1 hz with h | h
    · exact (b2 z h).1
    · exact (a2 z h.1).1
  have hlen : (wantS a b).length ≤ 12 := by
    unfold wantS
    rw [List.length_append]
    have := List.length_filter_le (fun x => !hasU b x.fUniverse) a
    omega
  have hdist : (wantS a b).Pairwise fun x y => x.fUniverse ≠ y.fUniverse := by
    unfold wantS
    refine List.pairwise_append.2 ⟨b3.imp fun h e => by omega, (a3.sublist List.filter_sublist).imp fun h e => by omega, fun x hx y hy e => ?_⟩
    have hy' := ((hm y).1 (by unfold wantS; exact List.mem_append_right _ hy))
    have hyf := (List.mem_filter.1 hy).2
    unfold hasU at hyf
    rw [Bool.not_eq_true', List.any_eq_false] at hyf
    exact hyf x hx (by simpa using e)
  have hperm := isortL_perm (fun x y : ApiFrame => x.fUniverse - y.fUniverse) (wantS a b)
  have hs := isortL_sorted (c := fun x y : ApiFrame => x.fUniverse - y.fUniverse) (key := fun x => x.fUniverse) (xs := wantS a b) (fun x _ y _ => by omega)
  have hd2 : (isortL (fun x y : ApiFrame => x.fUniverse - y.fUniverse) (wantS a b)).Pairwise fun x y => x.fUniverse ≠ y.fUniverse := (hperm.pairwise_iff (fun h => Ne.symm h)).2 hdist
  refine ⟨sortf_some (fun x hx y hy => ?_) hlen, ?_, fun z => ?_⟩
  · have := hrng x hx
    have := hrng y hy
    unfold f48
    rw [w64 (by omega) (by omega)]
  · exact (List.pairwise_and_iff.2 ⟨hs, hd2⟩).imp fun h => by obtain ⟨h1, h2⟩ := h; omega
  · rw [hperm.mem_iff]
    exact hm z
theorem f9_eq (a b : List ApiFrame) (sync : Int) (hsy : 0 ≤ sync ∧ sync ≤ 255) : f9 a b sync = some true := by
  unfold f9
  rw [Net.f41_eq, Option.bind_some]
  by_cases ha : Net.framesS a = 0
  case neg => rw [if_pos (by simpa using ha), f15_eq]; rfl
  rw [if_neg (by simpa using ha), Net.f41_eq, Option.bind_some]
  by_cases hb : Net.framesS b = 0
  case neg => rw [if_pos (by simpa using hb), f15_eq]; rfl
  rw [if_neg (by simpa using hb)]
  by_cases ha3 : 3 < a.length
  · rw [if_pos (by simp only [decide_eq_true_eq]; omega), f15_eq]; rfl
  rw [if_neg (by simp only [decide_eq_true_eq]; omega)]
  by_cases hb3 : 3 < b.length
  · rw [if_pos (by simp only [decide_eq_true_eq]; omega), f15_eq]; rfl
  rw [if_neg (by simp only [decide_eq_true_eq]; omega)]
  have hs : 0 ≤ (IntKind.i64.wrap sync).tmod 3 ∧ (IntKind.i64.wrap sync).tmod 3 ≤ 8 := by
    rw [w64 (by omega) (by omega), Int.tmod_eq_emod_of_nonneg hsy.1]
    omega
  generalize (IntKind.i64.wrap sync).tmod 3 = s at hs
  have hn : Net.namedS 77 100 s = true := by
    unfold Net.namedS
    simp only [Bool.and_eq_true, decide_eq_true_eq, Net.wi_iff]
    exact ⟨by decide, by decide, by decide, hs⟩
  have hnew : Net.newS 77 100 s = (⟨77, 100, s, 0, []⟩, 0) := by unfold Net.newS; rw [if_pos hn]
  rw [Net.f42_eq, hnew, Option.bind_some]
  rw [if_neg (by simp)]
  have hb0 : Both s 0 [] [] := ⟨⟨⟨fun y hy => by simp at hy, List.Pairwise.nil⟩, fun y hy => by simp at hy⟩, ⟨by simp, fun y hy => by simp at hy, List.Pairwise.nil, by omega, by omega, fun y hy => by simp at hy⟩, rfl⟩
  obtain ⟨p1, l1, o1, s1, s2, s3, s4, s5, s6, s7⟩ := send_ok hs ⟨Int.le_refl 0, by decide⟩ hb0 ha (by simp)
  have hb1 : Both s 1000 l1 (foldT 0 [] o1) := ⟨Net.good_mono s5.gs (by omega), s5.gr.later (by omega) (by omega), s5.rel⟩
  obtain ⟨p2, l2, o2, t1, t2, t3, t4, t5, t6, t7⟩ := send_ok hs s2 hb1 hb s6
  have w0 : IntKind.i64.wrap (1000 * 0) = 0 := by decide
  have w1 : IntKind.i64.wrap (1000 * 1) = 1000 := by decide
  have st0 : (f9_L1 a b).body (0, 77, 100, s, 0, [], []) = some (.next (1, 77, 100, s, p1, l1, foldT 0 [] o1)) := by
    simp only [f9_L1]
    rw [if_pos (by simp), show at? [a, b] 0 = some a from rfl, Option.bind_some, w0, Net.f43_eq, s1, Option.bind_some, if_neg (by simp), L3_run w0 hb0.gr s4 (by show o1.length ≤ 1000; omega)]
    rfl
  have st1 : (f9_L1 a b).body (1, 77, 100, s, p1, l1, foldT 0 [] o1) = some (.next (2, 77, 100, s, p2, l2, foldT 1000 (foldT 0 [] o1) o2)) := by
    simp only [f9_L1]
    rw [if_pos (by simp), show at? [a, b] 1 = some b from rfl, Option.bind_some, w1, Net.f43_eq, t1, Option.bind_some, if_neg (by simp), L3_run w1 hb1.gr t4 (by show o2.length ≤ 1000; omega)]
    rfl
  have st2 : (f9_L1 a b).body (2, 77, 100, s, p2, l2, foldT 1000 (foldT 0 [] o1) o2) = some (.brk (.inl (foldT 1000 (foldT 0 [] o1) o2))) := by
    simp only [f9_L1]
    rw [if_neg (by simp)]
  have hrun : (f9_L1 a b).run (0, 77, 100, s, 0, [], []) = some (.inl (foldT 1000 (foldT 0 [] o1) o2)) := (iter_next st0).trans ((iter_next st1).trans (iter_brk st2))
  rw [hrun]
  simp only [Option.bind_some]
  obtain ⟨q1, q2, q3⟩ := want_sort ha hb (by omega) (by omega)
  have hfr : framesS (foldT 1000 (foldT 0 [] o1) o2) 1000 = isortL (fun x y : ApiFrame => x.fUniverse - y.fUniverse) (wantS a b) := by
    rw [both_show t5 t6]
    refine strict_ext (key := fun z => z.fUniverse) (by rw [List.pairwise_map]; exact t5.gs.asc) q2 fun z => ?_
    rw [t7, q3, s7]
    simp
  have hfo : framesO (foldT 1000 (foldT 0 [] o1) o2) 1000 = (isortL (fun x y : ApiFrame => x.fUniverse - y.fUniverse) (wantS a b), 0) := by
    unfold framesO
    rw [if_neg (by simp [good_moment t5.gr]), hfr]
  rw [f44_eq (by omega), Option.bind_some, L2_run (by omega) (by omega), Option.bind_some, q1, Option.bind_some, f30_eq, hfo, Option.bind_some]
  simp only
  rw [if_pos (by simp), f34_eq, Option.bind_some, if_pos rfl, f15_eq]
  · rfl
  · rw [isortL_length]
    unfold wantS
    rw [List.length_append]
    have := List.length_filter_le (fun x => !hasU b x.fUniverse) a
    omega
end Go.Proofs.Ytgfohogbechkkaa
