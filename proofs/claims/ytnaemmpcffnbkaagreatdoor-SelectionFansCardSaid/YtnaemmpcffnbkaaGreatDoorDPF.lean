import Derived.Test.YtnaemmpcffnbkaaGreatDoorDPG1
import Derived.Test.YtnaemmpcffnbkaaGreatDoorDGF1
import Derived.Test.YtnaemmpcffnbkaaGreatDoorDM10
namespace Go.Proofs.YtnaemmpcffnbkaaGreatDoor
open Go Go.Ab
set_option linter.unusedSimpArgs false
set_option linter.unusedVariables false
theorem mul_bd {x y A B : Int} (hx : -A ≤ x ∧ x ≤ A) (hy : 0 ≤ y ∧ y ≤ B) (hA : 0 ≤ A) : -(A * B) ≤ x * y ∧ x * y ≤ A * B := by
 have h1 : x * y ≤ A * y := Int.mul_le_mul_of_nonneg_right hx.2 hy.1
 have h2 : A * y ≤ A * B := Int.mul_le_mul_of_nonneg_left hy.2 hA
 have h3 : (-A) * y ≤ x * y := Int.mul_le_mul_of_nonneg_right hx.1 hy.1
 have h4 : (-A) * y = -(A * y) := Int.neg_mul _ _
 omega
theorem floor_q {t y : Int} (hy : 0 < y) : (if t.tmod y < 0 then t.tdiv y - 1 else t.tdiv y) = t / y := by
 have h1 := Int.mul_tdiv_add_tmod t y
 have h2 : t.tmod y < y := Int.tmod_lt_of_pos t hy
 have h3 : -y < t.tmod y := by
  have := Int.tmod_lt_of_pos (-t) hy
  rw [Int.neg_tmod] at this
  omega
 have key : ∀ q : Int, q * y ≤ t → t < (q + 1) * y → t / y = q := fun q a b => by
  have c1 : q ≤ t / y := (Int.le_ediv_iff_mul_le hy).2 a
  have c2 : t / y < q + 1 := (Int.ediv_lt_iff_lt_mul hy).2 b
  omega
 split
 ·refine (key _ ?_ ?_).symm
  ·rw [Int.sub_mul, Int.mul_comm]; omega
  ·rw [show t.tdiv y - 1 + 1 = t.tdiv y by omega, Int.mul_comm]; omega
 ·refine (key _ ?_ ?_).symm
  ·rw [Int.mul_comm]; omega
  ·rw [Int.add_mul, Int.mul_comm]; omega
def betweenI (a b i n : Int) : Int := if n = 0 then a else (2 * (a * n + (b - a) * i) + n).tdiv (2 * n)
def ptI (a b d x : Int) : Int := if 0 < d then (if (2 * (b - a) * x + d).tmod (2 * d) < 0 then a + (2 * (b - a) * x + d).tdiv (2 * d) - 1 else a + (2 * (b - a) * x + d).tdiv (2 * d)) else a
theorem pt_between {a b d x : Int} (ha : 0 ≤ a) (hb : 0 ≤ b) (hx : 0 ≤ x) (hxd : x ≤ d) : ptI a b d x = betweenI a b x d := by
 by_cases hd : d = 0
 ·subst hd; simp [ptI, betweenI]
 ·have hd0 : 0 < d := by omega
  have hy : 0 < 2 * d := by omega
  simp only [ptI, betweenI, hd0, hd, if_true, if_false]
  have hf := floor_q (t := 2 * (b - a) * x + d) hy
  have e1 : (if (2 * (b - a) * x + d).tmod (2 * d) < 0 then a + (2 * (b - a) * x + d).tdiv (2 * d) - 1 else a + (2 * (b - a) * x + d).tdiv (2 * d)) = a + (2 * (b - a) * x + d) / (2 * d) := by
   rw [← hf]; split <;> omega
  rw [e1]
  have hN : 0 ≤ a * (d - x) + b * x := Int.add_nonneg (Int.mul_nonneg ha (by omega)) (Int.mul_nonneg hb hx)
  have e2 : a * (d - x) = a * d - a * x := Int.mul_sub _ _ _
  have e3 : (b - a) * x = b * x - a * x := Int.sub_mul _ _ _
  have e4 : 2 * (b - a) * x = 2 * ((b - a) * x) := Int.mul_assoc _ _ _
  rw [Int.tdiv_eq_ediv_of_nonneg (by omega)]
  have e5 : 2 * (a * d + (b - a) * x) + d = (2 * (b - a) * x + d) + a * (2 * d) := by
   have : a * (2 * d) = 2 * (a * d) := Int.mul_left_comm _ _ _
   omega
  rw [e5, Int.add_mul_ediv_right _ _ (by omega)]
  omega
def givenI (a b n : Int) : Int := if a < 0 ∨ a > 65535 ∨ b < 0 ∨ b > 65535 ∨ n < 0 ∨ n > 256 then 2 else 0
theorem f109_eq (a b n : Int) : f109 a b n = some (givenI a b n) := by
 simp only [f109, givenI, decide_eq_true_eq]
 repeat' split
 all_goals first | rfl | (exfalso; omega)
theorem f110_eq {a b i n : Int} (ha : 0 ≤ a ∧ a ≤ 65535) (hb : 0 ≤ b ∧ b ≤ 65535) (hi : 0 ≤ i ∧ i ≤ 1024) (hn : 0 ≤ n ∧ n ≤ 1024) : f110 a b i n = some (betweenI a b i n) := by
 have p1 := mul_bd (x := a) (y := n) (A := 65535) (B := 1024) (by omega) (by omega) (by omega)
 have p2 := mul_bd (x := b - a) (y := i) (A := 65535) (B := 1024) (by omega) (by omega) (by omega)
 simp (disch := omega) only [f110, betweenI, w64, decide_eq_true_eq]
 split
 ·rfl
 ·have hq : (2 * (a * n + (b - a) * i) + n).tdiv (2 * n) = (2 * (a * n + (b - a) * i) + n).tdiv (2 * n) := rfl
  have h2 : -9223372036854775808 ≤ (2 * (a * n + (b - a) * i) + n).tdiv (2 * n) ∧ (2 * (a * n + (b - a) * i) + n).tdiv (2 * n) ≤ 9223372036854775807 := by
   have := Int.natAbs_tdiv_le_natAbs (2 * (a * n + (b - a) * i) + n) (2 * n)
   omega
  simp (disch := omega) only [nz_some, Option.bind_some, w64]
def fanL (a b n w : Int) (part : Int → Int) : List Int := (List.range n.toNat).map fun (i : Nat) => ptI a b w (part (i : Int))
theorem fanL_succ (a b w : Int) (part : Int → Int) (k : Nat) : (List.range (k + 1)).map (fun i : Nat => ptI a b w (part i)) = (List.range k).map (fun i : Nat => ptI a b w (part i)) ++ [ptI a b w (part k)] := by
 rw [List.range_succ, List.map_append]; rfl
theorem f106_107_eq {a b n w : Int} (hw : w ≤ 1024) (hw' : -1024 ≤ w) : f106_107 a b n w = some (if givenI a b n = 0 then (fanL a b n w id, 0) else ([], 2)) := by
 by_cases hg : givenI a b n = 0
 ·have hr : (0 ≤ a ∧ a ≤ 65535) ∧ (0 ≤ b ∧ b ≤ 65535) ∧ 0 ≤ n ∧ n ≤ 256 := by
   unfold givenI at hg; split at hg
   ·cases hg
   ·omega
  obtain ⟨ha, hb, hn⟩ := hr
  have e1 : f158 a = some true := by simp [f158, ha]
  have e2 : f158 b = some true := by simp [f158, hb]
  have e3 : Lp.run (f106_107_L1 n w b a) (0, []) = some (fanL a b n w id) := by
   refine run_count (L := f106_107_L1 n w b a) (fun k => ((k : Int), (List.range k).map fun i : Nat => ptI a b w (id (i : Int)))) n.toNat ?_ 0 (by omega) fun k h0 hk => ?_
   ·simp only [f106_107_L1, fanL]
    rw [if_neg (by simp; omega)]
   ·simp only [f106_107_L1]
    rw [if_pos (by simp; omega)]
    have hw1 : IntKind.i64.wrap ((k : Int) + 1) = ((k + 1 : Nat) : Int) := by rw [w64 (by omega) (by omega)]; omega
    by_cases hd : 0 < w
    ·have p2 := mul_bd (x := 2 * (b - a)) (y := (k : Int)) (A := 131070) (B := 256) (by omega) (by omega) (by omega)
     have h2 : -100000000 ≤ (2 * (b - a) * (k : Int) + w).tdiv (2 * w) ∧ (2 * (b - a) * (k : Int) + w).tdiv (2 * w) ≤ 100000000 := by
      have := Int.natAbs_tdiv_le_natAbs (2 * (b - a) * (k : Int) + w) (2 * w)
      omega
     have hpt : ptI a b w (id (k : Int)) = (if (2 * (b - a) * (k : Int) + w).tmod (2 * w) < 0 then a + (2 * (b - a) * (k : Int) + w).tdiv (2 * w) - 1 else a + (2 * (b - a) * (k : Int) + w).tdiv (2 * w)) := by
      simp [ptI, hd]
     rw [if_pos (by simpa using hd)]
     simp (disch := omega) only [f107, Option.bind_some, w64, nz_some, decide_eq_true_eq, hw1]
     rw [fanL_succ, hpt]
     split
     ·rw [app_some (by simp; omega) (by simp; omega)]
      simp (disch := omega) only [Option.bind_some, w64]
     ·rw [app_some (by simp; omega) (by simp; omega)]
      simp (disch := omega) only [Option.bind_some, w64]
    ·have hpt : ptI a b w (id (k : Int)) = a := by simp [ptI, hd]
     rw [if_neg (by simpa using hd), app_some (by simp; omega) (by simp; omega), hw1, fanL_succ, hpt]
     rfl
  simp only [f106_107, e1, e2, e3, hg, Option.bind_some, Bool.not_true, Bool.false_eq_true, if_false, if_true, decide_eq_true_eq]
  rw [if_neg (by omega), if_neg (by omega)]
 ·rw [if_neg hg]
  have : ¬ (0 ≤ a ∧ a ≤ 65535 ∧ 0 ≤ b ∧ b ≤ 65535 ∧ 0 ≤ n ∧ n ≤ 256) := by
   intro h; apply hg; unfold givenI; rw [if_neg (by omega)]
  simp only [f106_107, f158, decide_eq_true_eq]
  by_cases h1 : 0 ≤ a <;> by_cases h2 : a ≤ 65535 <;> by_cases h3 : 0 ≤ b <;> by_cases h4 : b ≤ 65535 <;> by_cases h5 : n < 0 <;> by_cases h6 : 256 < n <;> simp [h1, h2, h3, h4, h5, h6] <;> omega
def fanS (a b n : Int) : List Int × Int := if givenI a b n = 0 then (fanL a b n (n - 1) id, 0) else ([], 2)
theorem given_ok {a b n : Int} (h : givenI a b n = 0) : (0 ≤ a ∧ a ≤ 65535) ∧ (0 ≤ b ∧ b ≤ 65535) ∧ 0 ≤ n ∧ n ≤ 256 := by
 unfold givenI at h; split at h
 ·cases h
 ·omega
theorem given_no {a b n : Int} (h : ¬ givenI a b n = 0) : givenI a b n = 2 := by
 unfold givenI at h ⊢; split at h
 ·rw [if_pos (by assumption)]
 ·exact absurd rfl h
theorem f106_107_no {a b n w : Int} (hg : ¬ givenI a b n = 0) : f106_107 a b n w = some ([], 2) := by
 have : ¬ (0 ≤ a ∧ a ≤ 65535 ∧ 0 ≤ b ∧ b ≤ 65535 ∧ 0 ≤ n ∧ n ≤ 256) := by
  intro h; apply hg; unfold givenI; rw [if_neg (by omega)]
 simp only [f106_107, f158, decide_eq_true_eq]
 by_cases h1 : 0 ≤ a <;> by_cases h2 : a ≤ 65535 <;> by_cases h3 : 0 ≤ b <;> by_cases h4 : b ≤ 65535 <;> by_cases h5 : n < 0 <;> by_cases h6 : 256 < n <;> simp [h1, h2, h3, h4, h5, h6] <;> omega
theorem f64_eq (a b n : Int) : f64 a b n = some (fanS a b n) := by
 by_cases hg : givenI a b n = 0
 ·obtain ⟨_, _, hn⟩ := given_ok hg
  simp only [f64, fanS, hg, if_true]
  rw [w64 (by omega) (by omega), f106_107_eq (by omega) (by omega), if_pos hg]
  rfl
 ·simp only [f64, fanS, hg, if_false, f106_107_no hg, Option.bind_some]
theorem f68_eq (a b n : Int) : f68 a b n = some (fanS a b n) := by
 by_cases hg : givenI a b n = 0
 ·obtain ⟨ha, hb, hn⟩ := given_ok hg
  have e3 : Lp.run (f68_L1 n a b) (0, []) = some (fanL a b n (n - 1) id) := by
   refine run_count (L := f68_L1 n a b) (fun k => ((k : Int), (List.range k).map fun i : Nat => ptI a b (n - 1) (id (i : Int)))) n.toNat ?_ 0 (by omega) fun k h0 hk => ?_
   ·simp only [f68_L1, fanL]
    rw [if_neg (by simp; omega)]
   ·simp only [f68_L1]
    rw [if_pos (by simp; omega)]
    simp (disch := omega) only [w64, f110_eq ha hb, Option.bind_some]
    rw [app_some (by simp; omega) (by simp; omega), fanL_succ, Option.bind_some, ← pt_between (by omega) (by omega) (by omega) (by omega)]
    rfl
  simp only [f68, f109_eq, e3, hg, Option.bind_some, fanS, if_true, decide_eq_true_eq]
  rfl
 ·simp only [f68, f109_eq, fanS, hg, if_false, Option.bind_some, given_no hg]
  rfl
theorem scan_iff : ∀ (l seen : List Int), scan seen l = 0 ↔ (∀ x ∈ l, 1 ≤ x ∧ x ≤ 999) ∧ l.Nodup ∧ ∀ x ∈ l, x ∉ seen
 | [], seen => by simp [scan]
 | x :: xs, seen => by
  unfold scan
  by_cases h1 : x < 1 ∨ x > 999
  ·rw [if_pos h1]
   exact ⟨(fun e => by cases e), fun e => by have := e.1 x (List.mem_cons_self ..); omega⟩
  ·rw [if_neg h1]
   by_cases h2 : x ∈ seen
   ·rw [if_pos h2]
    exact ⟨(fun e => by cases e), fun e => absurd h2 (e.2.2 x (List.mem_cons_self ..))⟩
   ·rw [if_neg h2, scan_iff xs (seen ++ [x]), List.nodup_cons]
    constructor
    ·rintro ⟨a, b, c⟩
     refine ⟨fun y hy => ?_, ⟨fun hm => ?_, b⟩, fun y hy => ?_⟩
     ·rcases List.mem_cons.1 hy with rfl | hy
      ·omega
      ·exact a y hy
     ·exact c x hm (List.mem_append_right _ (List.mem_singleton.2 rfl))
     ·rcases List.mem_cons.1 hy with rfl | hy
      ·exact h2
      ·exact fun hs => c y hy (List.mem_append_left _ hs)
    ·rintro ⟨a, ⟨b1, b2⟩, c⟩
     refine ⟨fun y hy => a y (List.mem_cons_of_mem _ hy), b2, fun y hy hs => ?_⟩
     rcases List.mem_append.1 hs with hs | hs
     ·exact c y (List.mem_cons_of_mem _ hy) hs
     ·rw [List.mem_singleton.1 hs] at hy; exact b1 hy
theorem f67_eq {xs : List Int} {v : Int} (hm : xs.length ≤ 9223372036854775807) : f67 xs v = some (decide (v ∈ xs)) := by
 unfold f67
 rw [run_any (xs := xs) (fun x => decide (x = v)) hm (fun k x r => by
   simp only [f67_L1]
   rw [if_pos r.lt, r.at', Option.bind_some, r.nxt]
   by_cases h : x = v <;> simp [h]) (by simp only [f67_L1]; rw [at_end]; rfl)]
 by_cases h : v ∈ xs
 ·have : (xs.any fun x => decide (x = v)) = true := List.any_eq_true.2 ⟨v, h, by simp⟩
  simp [this, h]
 ·have : (xs.any fun x => decide (x = v)) = false := List.any_eq_false.2 fun x hx => by
   simp only [decide_eq_true_eq]
   intro e
   exact h (e ▸ hx)
  simp [this, h]
theorem walk_scan {ms : List Int} : ∀ (xs seen : List Int), ms = seen ++ xs → walkL (fun k (_ : Unit) x => if x < 1 ∨ x > 999 then .inr (.inr 2) else if x ∈ ms.take k then .inr (.inr 7) else .inl ()) (fun _ => (.inl () : Unit ⊕ Int)) seen.length () xs = if scan seen xs = 0 then .inl () else .inr (scan seen xs)
 | [], seen, _ => by simp [walkL, scan]
 | x :: xs, seen, h => by
  have ht : ms.take seen.length = seen := by rw [h]; simp
  simp only [walkL, ht]
  unfold scan
  by_cases h1 : x < 1 ∨ x > 999
  ·rw [if_pos h1, if_pos h1]
   rfl
  ·rw [if_neg h1, if_neg h1]
   by_cases h2 : x ∈ seen
   ·rw [if_pos h2, if_pos h2]
    rfl
   ·rw [if_neg h2, if_neg h2]
    have := walk_scan (ms := ms) xs (seen ++ [x]) (by rw [h]; simp)
    rw [List.length_append] at this
    exact this
theorem f24_L1_eq {ch : List Int} {a b at' : Int} (hl : ch.length ≤ 256) : Lp.run (f24_L1 ch b a at') 0 = some (if scan [] ch = 0 then .inl () else .inr (scan [] ch)) := by
 have hrun := run_walk (L := f24_L1 ch b a at') ch (fun k (_ : Unit) => (k : Int)) (fun k _ x => if x < 1 ∨ x > 999 then .inr (.inr 2) else if x ∈ ch.take k then .inr (.inr 7) else .inl ()) (fun _ => (.inl () : Unit ⊕ Int)) (fun _ _ => True) (fun k u x hx _ => by
   have hk := getElem?_lt hx
   refine ⟨?_, fun _ _ => trivial⟩
   simp only [f24_L1]
   rw [if_pos (at_lt hx), at_nat hx, Option.bind_some, f56_eq, Option.bind_some, w64_succ (by omega)]
   by_cases h1 : x < 1 ∨ x > 999
   ·rw [if_pos (by simp; omega), if_pos h1]
    rfl
   ·rw [if_neg (by simp; omega), if_neg h1, slc_some (by omega), Option.bind_some]
    simp only [Int.toNat_natCast, Int.toNat_zero, List.drop_zero]
    rw [f28_eq (by simp; omega), Option.bind_some]
    by_cases h2 : x ∈ ch.take k
    ·rw [if_pos (by simpa using h2), if_pos h2]
     rfl
    ·rw [if_neg (by simpa using h2), if_neg h2]
     rfl) (fun _ _ => by simp only [f24_L1]; rw [at_end]; rfl) () trivial
 rw [show (0 : Int) = ((0 : Nat) : Int) from rfl, hrun]
 congr 1
 exact walk_scan ch [] rfl
theorem f25_L1_eq {ch : List Int} {a b at' : Int} (hl : ch.length ≤ 256) : Lp.run (f25_L1 ch b a at') 0 = some (if scan [] ch = 0 then .inl () else .inr (scan [] ch)) := by
 have hrun := run_walk (L := f25_L1 ch b a at') ch (fun k (_ : Unit) => (k : Int)) (fun k _ x => if x < 1 ∨ x > 999 then .inr (.inr 2) else if x ∈ ch.take k then .inr (.inr 7) else .inl ()) (fun _ => (.inl () : Unit ⊕ Int)) (fun _ _ => True) (fun k u x hx _ => by
   have hk := getElem?_lt hx
   refine ⟨?_, fun _ _ => trivial⟩
   simp only [f25_L1]
   rw [if_pos (at_lt hx), at_nat hx, Option.bind_some, w64_succ (by omega)]
   by_cases h1 : x < 1
   ·rw [if_pos (by simpa using h1), if_pos (.inl h1)]
    rfl
   ·rw [if_neg (by simpa using h1), Option.bind_some]
    by_cases h1' : 999 < x
    ·rw [if_pos (by simpa using h1'), if_pos (.inr h1')]
     rfl
    ·rw [if_neg (by simpa using h1'), if_neg (by omega), slc_some (by omega), Option.bind_some, Option.bind_some]
     simp only [Int.toNat_natCast, Int.toNat_zero, List.drop_zero]
     rw [f67_eq (by simp; omega), Option.bind_some]
     by_cases h2 : x ∈ ch.take k
     ·rw [if_pos (by simpa using h2), if_pos h2]
      rfl
     ·rw [if_neg (by simpa using h2), if_neg h2]
      rfl) (fun _ _ => by simp only [f25_L1]; rw [at_end]; rfl) () trivial
 rw [show (0 : Int) = ((0 : Nat) : Int) from rfl, hrun]
 congr 1
 exact walk_scan ch [] rfl
def entsL (at' : Int) (ch lv : List Int) : List ApiEntry := List.zipWith (fun c v => ⟨⟨c, at'⟩, ⟨0, v⟩⟩) ch lv
theorem ents_len {at' : Int} {ch lv : List Int} (h : lv.length = ch.length) : (entsL at' ch lv).length = ch.length := by simp [entsL, h]
theorem ents_get {at' : Int} {ch lv : List Int} {k : Nat} {c v : Int} (h1 : ch[k]? = some c) (h2 : lv[k]? = some v) : (entsL at' ch lv)[k]? = some ⟨⟨c, at'⟩, ⟨0, v⟩⟩ := by
 unfold entsL
 rw [List.getElem?_zipWith, h1, h2]
theorem ents_chan {at' : Int} : ∀ {ch lv : List Int}, lv.length = ch.length → (entsL at' ch lv).map (fun e => e.fParam.fChannel) = ch
 | [], [], _ => rfl
 | c :: ch, v :: lv, h => by
  show c :: (entsL at' ch lv).map (fun e => e.fParam.fChannel) = c :: ch
  rw [ents_chan (by simpa using h)]
 | [], _ :: _, h => by cases h
 | _ :: _, [], h => by cases h
theorem f24_L2_eq {ch : List Int} {r : List Int × Int} {at' : Int} (hl : ch.length ≤ 256) (hr : r.1.length = ch.length) : Lp.run (f24_L2 ch r at') (0, []) = some (entsL at' ch r.1) := by
 have hE := ents_len (at' := at') hr
 have := run_count (L := f24_L2 ch r at') (e := entsL at' ch r.1) (fun k => ((k : Int), (entsL at' ch r.1).take k)) ch.length ?_ 0 (by omega) fun k _ hk => ?_
 ·simpa using this
 ·simp only [f24_L2]
  rw [at_end, if_neg (by simp), List.take_of_length_le (by omega)]
 ·have h1 := List.getElem?_eq_getElem hk
  have h2 := List.getElem?_eq_getElem (show k < r.1.length by omega)
  simp only [f24_L2]
  rw [if_pos (at_lt h1), at_nat h1, at_nat h2, Option.bind_some, Option.bind_some, app_some (by simp; omega) (by simp; omega), Option.bind_some, w64_succ (by omega), List.take_add_one, ents_get h1 h2]
  rfl
def sg (x y : Int) : Int := if x < y then -1 else if y < x then 1 else 0
theorem f105_eq (x y : Int) : f105 x y = some (sg x y) := by
 unfold f105 f157 sg
 simp only [Option.bind_some, ne_eq, not_true_eq_false, decide_false, Bool.false_eq_true, if_false, decide_eq_true_eq]
 split
 ·rfl
 ·split <;> rfl
theorem f104_eq (a b : Int) : f104 [a, b] = some (if a ≠ 0 then a else b) := by
 have h0 : at? [a, b] 0 = some a := rfl
 have h1 : at? [a, b] 1 = some b := rfl
 unfold f104
 by_cases ha : a = 0
 ·have b0 : (f104_L1 [a, b]).body 0 = some (.next 1) := by
   simp only [f104_L1, h0, Option.bind_some]
   rw [if_pos (by simp), if_neg (by simpa using ha)]
   rfl
  rw [show Lp.run (f104_L1 [a, b]) 0 = iter (f104_L1 [a, b]).body 0 from rfl, iter_next b0, if_neg (by simpa using ha)]
  by_cases hb : b = 0
  ·have b1 : (f104_L1 [a, b]).body 1 = some (.next 2) := by
    simp only [f104_L1, h1, Option.bind_some]
    rw [if_pos (by simp), if_neg (by simpa using hb)]
    rfl
   have b2 : (f104_L1 [a, b]).body 2 = some (.brk (.inl ())) := by
    simp only [f104_L1]
    rw [if_neg (by simp)]
   rw [iter_next b1, iter_brk b2, hb]
   rfl
  ·have b1 : (f104_L1 [a, b]).body 1 = some (.brk (.inr b)) := by
    simp only [f104_L1, h1, Option.bind_some]
    rw [if_pos (by simp), if_pos (by simpa using hb)]
   rw [iter_brk b1]
   rfl
 ·have b0 : (f104_L1 [a, b]).body 0 = some (.brk (.inr a)) := by
   simp only [f104_L1, h0, Option.bind_some]
   rw [if_pos (by simp), if_pos (by simpa using ha)]
  rw [show Lp.run (f104_L1 [a, b]) 0 = iter (f104_L1 [a, b]).body 0 from rfl, iter_brk b0, if_pos ha]
  rfl
def cmpP (p q : ApiParam) : Int := if sg p.fChannel q.fChannel ≠ 0 then sg p.fChannel q.fChannel else sg p.fAttr q.fAttr
theorem f62_eq (p q : ApiParam) : f62 p q = some (cmpP p q) := by
 unfold f62
 rw [f105_eq, f105_eq, Option.bind_some, Option.bind_some, f104_eq]
 rfl
theorem cmpP_lt {p q : ApiParam} : cmpP p q < 0 ↔ p.fChannel < q.fChannel ∨ p.fChannel = q.fChannel ∧ p.fAttr < q.fAttr := by
 unfold cmpP sg
 by_cases h1 : p.fChannel < q.fChannel
 ·simp [h1]
 ·by_cases h2 : q.fChannel < p.fChannel
  ·simp [h1, h2]; omega
  ·by_cases h3 : p.fAttr < q.fAttr
   ·simp [h1, h2, h3]; omega
   ·by_cases h4 : q.fAttr < p.fAttr <;> simp [h1, h2, h3, h4] <;> omega
theorem f66_eq (a b : ApiEntry) : f66 a b = some (cmpP a.fParam b.fParam) := by
 unfold f66; rw [f62_eq]; rfl
theorem key_unique {τ : Type} (key : τ → Int) : ∀ {xs ys : List τ}, xs.Pairwise (fun a b => key a < key b) → ys.Pairwise (fun a b => key a < key b) → (∀ a, a ∈ xs ↔ a ∈ ys) → xs = ys
 | [], [], _, _, _ => rfl
 | [], y :: ys, _, _, h => absurd ((h y).2 (List.mem_cons_self ..)) (by simp)
 | x :: xs, [], _, _, h => absurd ((h x).1 (List.mem_cons_self ..)) (by simp)
 | x :: xs, y :: ys, h1, h2, h => by
  rw [List.pairwise_cons] at h1 h2
  have hx : x = y := by
   rcases List.mem_cons.1 ((h x).1 (List.mem_cons_self ..)) with e | m1
   ·exact e
   ·rcases List.mem_cons.1 ((h y).2 (List.mem_cons_self ..)) with e | m2
    ·exact e.symm
    ·have := h1.1 y m2
     have := h2.1 x m1
     omega
  subst hx
  have := key_unique key h1.2 h2.2 fun a => by
   constructor
   ·intro ha
    rcases List.mem_cons.1 ((h a).1 (List.mem_cons_of_mem _ ha)) with e | m
    ·subst e; have := h1.1 a ha; omega
    ·exact m
   ·intro ha
    rcases List.mem_cons.1 ((h a).2 (List.mem_cons_of_mem _ ha)) with e | m
    ·subst e; have := h2.1 a ha; omega
    ·exact m
  rw [this]
def gath (E : List ApiEntry) (cs : List Int) : List ApiEntry := cs.flatMap fun c => E.filter fun e => decide (e.fParam.fChannel = c)
theorem f25_L3_eq {ch : List Int} {r : List Int × Int} {at' c : Int} {out : List ApiEntry} (hl : ch.length ≤ 256) (hr : r.1.length = ch.length) (ho : out.length ≤ 1000000) : Lp.run (f25_L3 ch c r at') (0, out) = some (out ++ (entsL at' ch r.1).filter fun e => decide (e.fParam.fChannel = c)) := by
 have hE := ents_len (at' := at') hr
 have := run_count (L := f25_L3 ch c r at') (e := out ++ (entsL at' ch r.1).filter fun e => decide (e.fParam.fChannel = c)) (fun k => ((k : Int), out ++ ((entsL at' ch r.1).take k).filter fun e => decide (e.fParam.fChannel = c))) ch.length ?_ 0 (by omega) fun k _ hk => ?_
 ·simpa using this
 ·simp only [f25_L3]
  rw [at_end, if_neg (by simp), List.take_of_length_le (by omega)]
 ·have h1 := List.getElem?_eq_getElem hk
  have h2 := List.getElem?_eq_getElem (show k < r.1.length by omega)
  have hf := List.length_filter_le (fun e : ApiEntry => decide (e.fParam.fChannel = c)) ((entsL at' ch r.1).take k)
  have ht : ((entsL at' ch r.1).take k).length ≤ k := by rw [List.length_take]; omega
  simp only [f25_L3]
  rw [if_pos (at_lt h1), at_nat h1, Option.bind_some, at_nat h2, w64_succ (by omega), List.take_add_one, ents_get h1 h2, List.filter_append]
  by_cases hc : ch[k] = c
  ·rw [if_pos (by simpa using hc), Option.bind_some, app_some (by simp; omega) (by simp; omega), Option.bind_some]
   simp [hc]
  ·rw [if_neg (by simpa using hc)]
   simp [hc]
theorem range999 : rangeL 1 999 = (List.range 999).map fun (i : Nat) => 1 + (i : Int) := by
 unfold rangeL
 rw [show (999 + 1 - 1 : Int).toNat = 999 from by decide]
theorem f25_L2_eq {ch : List Int} {r : List Int × Int} {at' : Int} (hl : ch.length ≤ 256) (hr : r.1.length = ch.length) : Lp.run (f25_L2 ch r at') (1, []) = some (gath (entsL at' ch r.1) (rangeL 1 999)) := by
 have hE := ents_len (at' := at') hr
 have hg : ∀ k, (gath (entsL at' ch r.1) ((List.range k).map fun (i : Nat) => 1 + (i : Int))).length ≤ 256 * k := by
  intro k
  induction k with
  | zero => simp [gath]
  | succ k ih =>
   have hf := List.length_filter_le (fun e : ApiEntry => decide (e.fParam.fChannel = 1 + (k : Int))) (entsL at' ch r.1)
   rw [rangeL_succ]
   unfold gath at ih ⊢
   rw [List.flatMap_append, List.length_append, List.flatMap_cons, List.flatMap_nil, List.append_nil]
   omega
 have := run_count (L := f25_L2 ch r at') (e := gath (entsL at' ch r.1) (rangeL 1 999)) (fun k => (1 + (k : Int), gath (entsL at' ch r.1) ((List.range k).map fun (i : Nat) => 1 + (i : Int)))) 999 ?_ 0 (by omega) fun k _ hk => ?_
 ·simpa [gath] using this
 ·simp only [f25_L2]
  rw [if_neg (by simp), range999]
 ·simp only [f25_L2]
  have := hg k
  rw [if_pos (by simp; omega), f25_L3_eq hl hr (by omega), Option.bind_some, rangeL_succ, w64 (by omega) (by omega), Int.add_assoc]
  unfold gath
  rw [List.flatMap_append, List.flatMap_cons, List.flatMap_nil, List.append_nil]
  rfl
theorem gath_mem {E : List ApiEntry} (h : ∀ e ∈ E, 1 ≤ e.fParam.fChannel ∧ e.fParam.fChannel ≤ 999) (e : ApiEntry) : e ∈ gath E (rangeL 1 999) ↔ e ∈ E := by
 unfold gath
 rw [List.mem_flatMap]
 constructor
 ·rintro ⟨c, _, he⟩
  exact (List.mem_filter.1 he).1
 ·intro he
  exact ⟨e.fParam.fChannel, rangeL_mem.2 (h e he), List.mem_filter.2 ⟨he, by simp⟩⟩
theorem gath_sorted {E : List ApiEntry} (hn : E.Pairwise fun a b => a.fParam.fChannel ≠ b.fParam.fChannel) {cs : List Int} (hc : cs.Pairwise fun a b => a < b) : (gath E cs).Pairwise fun a b => a.fParam.fChannel < b.fParam.fChannel := by
 unfold gath
 rw [List.pairwise_flatMap]
 refine ⟨fun c _ => ?_, hc.imp fun {a b} hab x hx y hy => ?_⟩
 ·refine (hn.filter _).imp_of_mem fun {a b} ha hb hab => ?_
  have h1 := (List.mem_filter.1 ha).2
  have h2 := (List.mem_filter.1 hb).2
  simp only [decide_eq_true_eq] at h1 h2
  exact absurd (h1.trans h2.symm) hab
 ·have h1 := (List.mem_filter.1 hx).2
  have h2 := (List.mem_filter.1 hy).2
  simp only [decide_eq_true_eq] at h1 h2
  omega
theorem range_asc (a b : Int) : (rangeL a b).Pairwise fun x y => x < y := by
 unfold rangeL
 rw [List.pairwise_map]
 exact List.pairwise_lt_range.imp fun {x y} h => by omega
theorem sort_gath {at' : Int} {ch lv : List Int} (hlv : lv.length = ch.length) (hl : ch.length ≤ 256) (hs : scan [] ch = 0) : sortx? (fun x y => f66 x y) (entsL at' ch lv) = some (gath (entsL at' ch lv) (rangeL 1 999)) := by
 obtain ⟨hr, hn, _⟩ := (scan_iff ch []).1 hs
 have hch := ents_chan (at' := at') hlv
 have hE : (entsL at' ch lv).Pairwise fun a b => a.fParam.fChannel ≠ b.fParam.fChannel := by
  rw [← hch] at hn
  exact List.pairwise_map.1 hn
 have hb : ∀ e ∈ entsL at' ch lv, 1 ≤ e.fParam.fChannel ∧ e.fParam.fChannel ≤ 999 := fun e he => hr _ (hch ▸ List.mem_map.2 ⟨e, he, rfl⟩)
 have hat : ∀ e ∈ entsL at' ch lv, e.fParam.fAttr = at' := fun e he => by
  unfold entsL at he
  obtain ⟨i, hi, rfl⟩ := List.mem_iff_getElem.1 he
  simp
 generalize hG : gath (entsL at' ch lv) (rangeL 1 999) = G
 obtain ⟨ys, h1, h2, h3⟩ := sortx_some (f := fun x y => f66 x y) (c := fun a b => cmpP a.fParam b.fParam) (xs := entsL at' ch lv) (fun x _ y _ => f66_eq x y) (fun x _ y _ z _ => by
  simp only [cmpP_lt]; omega) (by rw [ents_len hlv]; omega)
 rw [h1]
 refine congrArg some ?_
 refine key_unique (fun e : ApiEntry => e.fParam.fChannel) ?_ (by rw [← hG]; exact gath_sorted hE (range_asc 1 999)) fun e => by rw [h2.mem_iff, ← hG, gath_mem hb]
 have hne : ys.Pairwise fun a b => a.fParam.fChannel ≠ b.fParam.fChannel := (h2.pairwise_iff fun {a b} h => Ne.symm h).2 hE
 refine (h3.and hne).imp_of_mem fun {a b} ha hb' hab => ?_
 have ea := hat a (h2.mem_iff.1 ha)
 have eb := hat b (h2.mem_iff.1 hb')
 have := hab.1
 simp only [cmpP_lt] at this
 omega
def fanE (ch : List Int) (at' a b : Int) : List ApiEntry × Int :=
 if 256 < ch.length then ([], 5) else if scan [] ch ≠ 0 then ([], scan [] ch) else if at' < 0 ∨ 15 ≤ at' then ([], 1) else if (fanS a b ch.length).2 ≠ 0 then ([], (fanS a b ch.length).2) else (gath (entsL at' ch (fanS a b ch.length).1) (rangeL 1 999), 0)
theorem fanS_len {a b n : Int} (h : (fanS a b n).2 = 0) : (fanS a b n).1.length = n.toNat := by
 unfold fanS at h ⊢
 split
 ·simp [fanL]
 ·rename_i hg
  rw [if_neg hg] at h
  cases h
theorem f24_eq (ch : List Int) (at' a b : Int) : f24 ch at' a b = some (fanE ch at' a b) := by
 unfold f24 fanE
 by_cases h0 : 256 < ch.length
 ·rw [if_pos (by simp; omega), if_pos h0]
 ·rw [if_neg (by simp; omega), if_neg h0, f24_L1_eq (by omega), Option.bind_some]
  by_cases h1 : scan [] ch = 0
  ·rw [if_pos h1, if_neg (nn h1)]
   dsimp only
   by_cases h2 : at' < 0
   ·rw [if_pos (by simpa using h2), if_pos (.inl h2)]
   ·rw [if_neg (by simpa using h2)]
    by_cases h3 : 15 ≤ at'
    ·rw [if_pos (by simpa using h3), if_pos (.inr h3)]
    ·rw [if_neg (by simpa using h3), if_neg (by omega), f64_eq, Option.bind_some]
     by_cases h4 : (fanS a b ch.length).2 = 0
     ·have hlv : (fanS a b ch.length).1.length = ch.length := by rw [fanS_len h4]; simp
      rw [if_neg (by simpa using h4), if_neg (nn h4), f24_L2_eq (by omega) hlv, Option.bind_some, sort_gath hlv (by omega) h1]
      rfl
     ·rw [if_pos (by simpa using h4), if_pos h4]
  ·rw [if_neg h1, if_pos h1]
theorem f25_eq (ch : List Int) (at' a b : Int) : f25 ch at' a b = some (fanE ch at' a b) := by
 unfold f25 fanE
 by_cases h0 : 256 < ch.length
 ·rw [if_pos (by simp; omega), if_pos h0]
 ·rw [if_neg (by simp; omega), if_neg h0, f25_L1_eq (by omega), Option.bind_some]
  by_cases h1 : scan [] ch = 0
  ·rw [if_pos h1, if_neg (nn h1)]
   dsimp only
   by_cases h2 : at' < 0
   ·rw [if_pos (by simpa using h2), if_pos (.inl h2)]
   ·rw [if_neg (by simpa using h2)]
    by_cases h3 : 15 ≤ at'
    ·rw [if_pos (by simpa using h3), if_pos (.inr h3)]
    ·rw [if_neg (by simpa using h3), if_neg (by omega), f68_eq, Option.bind_some]
     by_cases h4 : (fanS a b ch.length).2 = 0
     ·have hlv : (fanS a b ch.length).1.length = ch.length := by rw [fanS_len h4]; simp
      rw [if_neg (by simpa using h4), if_neg (nn h4), f25_L2_eq (by omega) hlv]
      rfl
     ·rw [if_pos (by simpa using h4), if_pos h4]
  ·rw [if_neg h1, if_pos h1]
theorem gath_len {E : List ApiEntry} : ∀ cs : List Int, (gath E cs).length ≤ E.length * cs.length
 | [] => by simp [gath]
 | c :: cs => by
  have := gath_len (E := E) cs
  have hf := List.length_filter_le (fun e : ApiEntry => decide (e.fParam.fChannel = c)) E
  unfold gath at this ⊢
  rw [List.flatMap_cons, List.length_append, List.length_cons, Nat.mul_add]
  omega
theorem fanE_len (ch : List Int) (at' a b : Int) : (fanE ch at' a b).1.length ≤ 300000 := by
 unfold fanE
 split
 ·simp
 ·split
  ·simp
  ·split
   ·simp
   ·split
    ·simp
    ·rename_i h0 _ _ h4
     have hlv : (fanS a b ch.length).1.length = ch.length := by rw [fanS_len (by simpa using h4)]; simp
     have h1 := gath_len (E := entsL at' ch (fanS a b ch.length).1) (rangeL 1 999)
     rw [ents_len hlv, rangeL_len, show (999 + 1 - 1 : Int).toNat = 999 from by decide] at h1
     generalize gath (entsL at' ch (fanS a b ch.length).1) (rangeL 1 999) = G at h1
     dsimp only
     omega
theorem f26_self {xs : List ApiEntry} (hl : xs.length ≤ 9223372036854775807) : f26 xs xs = some true := by
 unfold f26
 rw [if_neg (by simp)]
 have hrun : Lp.run (f26_L1 xs xs) 0 = some (.inl ()) := by
  refine run_all (xs := xs) (fun k x hx => ?_) (if_neg (by simp))
  have r := Rnd.mk' hx hl
  refine (if_pos r.lt).trans ?_
  rw [r.at']
  simp only [Option.bind_some, r.nxt, beq_self_eq_true, Bool.and_self, Bool.not_true, Bool.false_eq_true, if_false]
 rw [hrun, Option.bind_some]
theorem f6_eq (ch : List Int) (at' : Int) (lv : Arr2_54) : f6 ch at' lv = some true := by
 have hJ : (f6_J1 ch at' lv).run () = some true := by
  simp only [f6_J1]
  rw [f24_eq, f25_eq, f12_eq]
  simp only [Option.bind_some, if_true]
  rw [f26_self (by have := fanE_len ch at' lv.fE0 lv.fE1; omega)]
  simp
 unfold f6
 rw [hJ, f12_eq]
 split
 ·split <;> rfl
 ·rfl
end Go.Proofs.YtnaemmpcffnbkaaGreatDoor
