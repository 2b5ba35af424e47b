/-
  Plain laws of the lexer's functions: classes of bytes, skipping, lower case, one token.
-/
import Derived.Test.YtkbjimfganeooaaQL
set_option linter.unusedSimpArgs false
set_option linter.unusedVariables false
namespace Go.Proofs.Ytkbjimfganeooaa
open Go Go.Ab

def clsS (p : UInt8 → Bool) (s : List UInt8) (i : Nat) : Bool := match s[i]? with
  | some c => p c
  | none => false

theorem cls_at {p : UInt8 → Bool} {s : List UInt8} {i : Nat} {c : UInt8} (h : s[i]? = some c) : clsS p s i = p c := by unfold clsS; rw [h]
theorem cls_end {p : UInt8 → Bool} {s : List UInt8} {i : Nat} (h : s.length ≤ i) : clsS p s i = false := by unfold clsS; rw [List.getElem?_eq_none h]

theorem f36_eq (c : UInt8) : f36 (c.toNat : Int) = some (isSp c) := by
  unfold f36 isSp
  by_cases h : c.toNat = 32
  · rw [decide_eq_true (by omega), decide_eq_true h]
  · rw [decide_eq_false (by omega), decide_eq_false h]
theorem f43_eq (c : UInt8) : f43 (c.toNat : Int) = some (isQt c) := by
  unfold f43 isQt
  by_cases h : c.toNat = 34
  · rw [decide_eq_true (by omega), decide_eq_true h]
  · rw [decide_eq_false (by omega), decide_eq_false h]
theorem f45_eq (c : UInt8) : f45 (c.toNat : Int) = some (isDt c) := by
  unfold f45 isDt
  by_cases h : c.toNat = 46
  · rw [decide_eq_true (by omega), decide_eq_true h]
  · rw [decide_eq_false (by omega), decide_eq_false h]
theorem f39_eq (c : UInt8) : f39 (c.toNat : Int) = some (isLet c) := by
  unfold f39 isLet
  simp only [decide_eq_true_eq]
  by_cases h1 : 97 ≤ (c.toNat : Int)
  · rw [if_pos h1]
    by_cases h2 : (c.toNat : Int) ≤ 122
    · rw [if_pos h2, decide_eq_true (by omega)]
    · rw [if_neg h2, if_pos (by omega), decide_eq_false (by omega), decide_eq_false (by omega)]
  · rw [if_neg h1]
    by_cases h2 : 65 ≤ (c.toNat : Int)
    · rw [if_pos h2]
      by_cases h3 : (c.toNat : Int) ≤ 90
      · rw [decide_eq_true h3, decide_eq_true (by omega)]
      · rw [decide_eq_false h3, decide_eq_false (by omega)]
    · rw [if_neg h2, decide_eq_false (by omega)]
theorem f44_eq (c : UInt8) : f44 (c.toNat : Int) = some (isDg c) := by
  unfold f44 isDg
  simp only [decide_eq_true_eq]
  by_cases h1 : 48 ≤ (c.toNat : Int)
  · rw [if_pos h1]
    by_cases h2 : (c.toNat : Int) ≤ 57
    · rw [decide_eq_true h2, decide_eq_true (by omega)]
    · rw [decide_eq_false h2, decide_eq_false (by omega)]
  · rw [if_neg h1, decide_eq_false (by omega)]
theorem f42_eq (c : UInt8) : f42 (c.toNat : Int) = some (isPl c) := by
  unfold f42 isPl
  simp only [decide_eq_true_eq]
  by_cases h1 : 32 ≤ (c.toNat : Int)
  · rw [if_pos h1]
    by_cases h2 : (c.toNat : Int) ≤ 126
    · rw [if_pos h2]
      by_cases h3 : (c.toNat : Int) ≠ 34
      · rw [decide_eq_true h3, decide_eq_true (by omega)]
      · rw [decide_eq_false h3, decide_eq_false (by omega)]
    · rw [if_neg h2, decide_eq_false (by omega)]
  · rw [if_neg h1, decide_eq_false (by omega)]
theorem f40_eq (c : UInt8) : f40 (c.toNat : Int) = some (isWd c) := by
  unfold f40 isWd
  rw [f39_eq, Option.bind_some, f44_eq, Option.bind_some]
  cases isLet c with
  | true => rfl
  | false =>
    cases isDg c with
    | true => rfl
    | false =>
      by_cases h : c.toNat = 95
      · rw [decide_eq_true h, decide_eq_true (show (c.toNat : Int) = 95 by omega)]; rfl
      · rw [decide_eq_false h, decide_eq_false (show ¬ (c.toNat : Int) = 95 by omega)]; rfl
theorem f46_eq (c : UInt8) : f46 (c.toNat : Int) = some (isSg c) := by
  unfold f46 f51 ixb? isSg
  rw [Option.bind_some, Int.toNat_natCast]
  have : c.toNat.toUInt8 = c := UInt8.ofNat_toNat
  rw [this]

theorem is36_0 {s : List UInt8} {k : Nat} (hk : k ≤ 1000000) : f38_36p s (k : Int) 0 = some (clsS isSp s k) := by
  unfold f38_36p
  rw [show IntKind.i64.wrap ((k : Int) + 0) = ((k : Nat) : Int) by rw [w64 (by omega) (by omega)]; rfl]
  by_cases h : k < s.length
  · rw [if_pos (by simp only [decide_eq_true_eq]; omega), at_nat (List.getElem?_eq_getElem h), cls_at (List.getElem?_eq_getElem h)]
    simp only [Option.bind_some, f36_eq]
  · rw [if_neg (by simp only [decide_eq_true_eq]; omega), cls_end (by omega)]

theorem is39_0 {s : List UInt8} {k : Nat} (hk : k ≤ 1000000) : f38_39p s (k : Int) 0 = some (clsS isLet s k) := by
  unfold f38_39p
  rw [show IntKind.i64.wrap ((k : Int) + 0) = ((k : Nat) : Int) by rw [w64 (by omega) (by omega)]; rfl]
  by_cases h : k < s.length
  · rw [if_pos (by simp only [decide_eq_true_eq]; omega), at_nat (List.getElem?_eq_getElem h), cls_at (List.getElem?_eq_getElem h)]
    simp only [Option.bind_some, f39_eq]
  · rw [if_neg (by simp only [decide_eq_true_eq]; omega), cls_end (by omega)]

theorem is40_0 {s : List UInt8} {k : Nat} (hk : k ≤ 1000000) : f38_40p s (k : Int) 0 = some (clsS isWd s k) := by
  unfold f38_40p
  rw [show IntKind.i64.wrap ((k : Int) + 0) = ((k : Nat) : Int) by rw [w64 (by omega) (by omega)]; rfl]
  by_cases h : k < s.length
  · rw [if_pos (by simp only [decide_eq_true_eq]; omega), at_nat (List.getElem?_eq_getElem h), cls_at (List.getElem?_eq_getElem h)]
    simp only [Option.bind_some, f40_eq]
  · rw [if_neg (by simp only [decide_eq_true_eq]; omega), cls_end (by omega)]

theorem is42_0 {s : List UInt8} {k : Nat} (hk : k ≤ 1000000) : f38_42p s (k : Int) 0 = some (clsS isPl s k) := by
  unfold f38_42p
  rw [show IntKind.i64.wrap ((k : Int) + 0) = ((k : Nat) : Int) by rw [w64 (by omega) (by omega)]; rfl]
  by_cases h : k < s.length
  · rw [if_pos (by simp only [decide_eq_true_eq]; omega), at_nat (List.getElem?_eq_getElem h), cls_at (List.getElem?_eq_getElem h)]
    simp only [Option.bind_some, f42_eq]
  · rw [if_neg (by simp only [decide_eq_true_eq]; omega), cls_end (by omega)]

theorem is43_0 {s : List UInt8} {k : Nat} (hk : k ≤ 1000000) : f38_43p s (k : Int) 0 = some (clsS isQt s k) := by
  unfold f38_43p
  rw [show IntKind.i64.wrap ((k : Int) + 0) = ((k : Nat) : Int) by rw [w64 (by omega) (by omega)]; rfl]
  by_cases h : k < s.length
  · rw [if_pos (by simp only [decide_eq_true_eq]; omega), at_nat (List.getElem?_eq_getElem h), cls_at (List.getElem?_eq_getElem h)]
    simp only [Option.bind_some, f43_eq]
  · rw [if_neg (by simp only [decide_eq_true_eq]; omega), cls_end (by omega)]

theorem is44_0 {s : List UInt8} {k : Nat} (hk : k ≤ 1000000) : f38_44p s (k : Int) 0 = some (clsS isDg s k) := by
  unfold f38_44p
  rw [show IntKind.i64.wrap ((k : Int) + 0) = ((k : Nat) : Int) by rw [w64 (by omega) (by omega)]; rfl]
  by_cases h : k < s.length
  · rw [if_pos (by simp only [decide_eq_true_eq]; omega), at_nat (List.getElem?_eq_getElem h), cls_at (List.getElem?_eq_getElem h)]
    simp only [Option.bind_some, f44_eq]
  · rw [if_neg (by simp only [decide_eq_true_eq]; omega), cls_end (by omega)]

theorem is44_1 {s : List UInt8} {k : Nat} (hk : k ≤ 1000000) : f38_44p s (k : Int) 1 = some (clsS isDg s (k + 1)) := by
  unfold f38_44p
  rw [show IntKind.i64.wrap ((k : Int) + 1) = (((k + 1) : Nat) : Int) by rw [w64 (by omega) (by omega)]; rfl]
  by_cases h : k + 1 < s.length
  · rw [if_pos (by simp only [decide_eq_true_eq]; omega), at_nat (List.getElem?_eq_getElem h), cls_at (List.getElem?_eq_getElem h)]
    simp only [Option.bind_some, f44_eq]
  · rw [if_neg (by simp only [decide_eq_true_eq]; omega), cls_end (by omega)]

theorem is45_0 {s : List UInt8} {k : Nat} (hk : k ≤ 1000000) : f38_45p s (k : Int) 0 = some (clsS isDt s k) := by
  unfold f38_45p
  rw [show IntKind.i64.wrap ((k : Int) + 0) = ((k : Nat) : Int) by rw [w64 (by omega) (by omega)]; rfl]
  by_cases h : k < s.length
  · rw [if_pos (by simp only [decide_eq_true_eq]; omega), at_nat (List.getElem?_eq_getElem h), cls_at (List.getElem?_eq_getElem h)]
    simp only [Option.bind_some, f45_eq]
  · rw [if_neg (by simp only [decide_eq_true_eq]; omega), cls_end (by omega)]

theorem is46_0 {s : List UInt8} {k : Nat} (hk : k ≤ 1000000) : f38_46p s (k : Int) 0 = some (clsS isSg s k) := by
  unfold f38_46p
  rw [show IntKind.i64.wrap ((k : Int) + 0) = ((k : Nat) : Int) by rw [w64 (by omega) (by omega)]; rfl]
  by_cases h : k < s.length
  · rw [if_pos (by simp only [decide_eq_true_eq]; omega), at_nat (List.getElem?_eq_getElem h), cls_at (List.getElem?_eq_getElem h)]
    simp only [Option.bind_some, f46_eq]
  · rw [if_neg (by simp only [decide_eq_true_eq]; omega), cls_end (by omega)]


/-! ## Skipping -/

def skp (p : UInt8 → Bool) (s : List UInt8) (k : Nat) : Nat := k + ((s.drop k).takeWhile p).length

theorem skp_le {p : UInt8 → Bool} {s : List UInt8} {k : Nat} (h : k ≤ s.length) : k ≤ skp p s k ∧ skp p s k ≤ s.length := by
  have := (List.takeWhile_sublist (l := s.drop k) p).length_le
  rw [List.length_drop] at this
  unfold skp
  omega

theorem skipL {L : Lp Int Int} {p : UInt8 → Bool} {s : List UInt8} {cl : List UInt8 → Int → Int → Option Bool} (hl : s.length ≤ 100000) (hcl : ∀ k : Nat, k ≤ 1000000 → cl s (k : Int) 0 = some (clsS p s k))
    (hL : ∀ v, L.body v = (cl s v 0).bind fun r => if r = true then some (.next (IntKind.i64.wrap (v + 1))) else some (.brk v)) : ∀ {k : Nat}, k ≤ s.length → L.run (k : Int) = some ((skp p s k : Nat) : Int) := by
  have key : ∀ m k : Nat, k + m = s.length → L.run (k : Int) = some ((skp p s k : Nat) : Int) := by
    intro m
    induction m with
    | zero =>
      intro k hk
      have hb : L.body (k : Int) = some (.brk (k : Int)) := by rw [hL, hcl k (by omega), cls_end (by omega)]; rfl
      have e0 : skp p s k = k := by unfold skp; rw [List.drop_of_length_le (by omega)]; rfl
      rw [e0]
      exact iter_brk hb
    | succ m ih =>
      intro k hk
      have hlt : k < s.length := by omega
      have hx := List.getElem?_eq_getElem hlt
      have hd : s.drop k = s[k] :: s.drop (k + 1) := List.drop_eq_getElem_cons hlt
      cases hc : p s[k] with
      | true =>
        have hb : L.body (k : Int) = some (.next ((k + 1 : Nat) : Int)) := by rw [hL, hcl k (by omega), cls_at hx, hc, Option.bind_some, if_pos rfl, w64_succ (by omega)]
        have e0 : skp p s k = skp p s (k + 1) := by unfold skp; rw [hd, List.takeWhile_cons_of_pos hc, List.length_cons]; omega
        rw [e0, ← ih (k + 1) (by omega)]
        exact iter_next hb
      | false =>
        have hb : L.body (k : Int) = some (.brk (k : Int)) := by rw [hL, hcl k (by omega), cls_at hx, hc]; rfl
        have e0 : skp p s k = k := by unfold skp; rw [hd, List.takeWhile_cons_of_neg (by simp [hc])]; rfl
        rw [e0]
        exact iter_brk hb
  intro k hk
  exact key (s.length - k) k (by omega)

/-! ## Lower case -/

theorem b2i_cons (c : UInt8) (s : List UInt8) : b2i (c :: s) = (c.toNat : Int) :: b2i s := rfl

theorem f41_eq {x : List UInt8} (hl : x.length ≤ 100000) : f41 x = some (lowS x) := by
  unfold f41
  rw [show room? x.length = some () from if_pos (by unfold room; omega), Option.bind_some]
  have hrun := run_count (L := f41_L1 x) (e := b2i (lowS x)) (fun k => ((k : Int), b2i (lowS (x.take k) ++ x.drop k))) x.length (by
    rw [List.take_length, List.drop_length, List.append_nil]
    exact if_neg (by rw [b2i_len]; simp)) 0 (Nat.zero_le _) (fun k _ hk => by
    have hx := List.getElem?_eq_getElem hk
    have hd : x.drop k = x[k] :: x.drop (k + 1) := List.drop_eq_getElem_cons hk
    have ht : x.take (k + 1) = x.take k ++ [x[k]] := List.take_succ_eq_append_getElem hk
    have hA : (lowS (x.take k)).length = k := by rw [lowS_len, List.length_take]; omega
    generalize x[k] = c at hx hd ht
    have hlow : lowS (x.take (k + 1)) ++ x.drop (k + 1) = lowS (x.take k) ++ (lowB c :: x.drop (k + 1)) := by rw [ht]; unfold lowS; simp
    have hat : at? (b2i (lowS (x.take k) ++ x.drop k)) (k : Int) = some (c.toNat : Int) := by
      refine at_nat ?_
      unfold b2i
      rw [hd, List.getElem?_map, List.getElem?_append_right (by omega), hA]
      simp
    have hc := c.toNat_lt
    refine (if_pos (by simp only [decide_eq_true_eq, b2i_len]; omega)).trans ?_
    rw [hat, Option.bind_some, w64_succ (by omega), Option.bind_some, hlow]
    simp only [decide_eq_true_eq]
    by_cases h1 : 65 ≤ (c.toNat : Int)
    · rw [if_pos h1]
      by_cases h2 : (c.toNat : Int) ≤ 90
      · rw [if_pos h2]
        have e1 : IntKind.u8.wrap (IntKind.u8.wrap ((c.toNat : Int) + 97) - 65) = ((lowB c).toNat : Int) := by
          have hb : lowB c = UInt8.ofNat (c.toNat + 32) := by unfold lowB; rw [if_pos (by omega)]
          rw [hb, IntKind.wrap_u8, IntKind.wrap_u8]
          have : (UInt8.ofNat (c.toNat + 32)).toNat = (c.toNat + 32) % 256 := by simp
          rw [this]
          omega
        rw [e1, Int.toNat_natCast]
        congr 3
        unfold b2i
        rw [hd, List.map_append, List.map_append, List.set_append_right _ _ (by rw [List.length_map, hA]; exact Nat.le_refl _), List.length_map, hA, Nat.sub_self]
        rfl
      · rw [if_neg h2]
        have hb : lowB c = c := by unfold lowB; rw [if_neg (by omega)]
        rw [hb, hd]
    · rw [if_neg h1]
      have hb : lowB c = c := by unfold lowB; rw [if_neg (by omega)]
      rw [hb, hd])
  have hrun' : Lp.run (f41_L1 x) (0, b2i x) = some (b2i (lowS x)) := by
    have e0 : b2i x = b2i (lowS (x.take 0) ++ x.drop 0) := by simp [lowS]
    conv => lhs; rw [e0]
    exact hrun
  rw [hrun', Option.bind_some, b8_b2i]

/-! ## A token -/

def tokI (s : List UInt8) (k : Nat) : Bool × Int × Int × List UInt8 × Int := match bodyT (s.drop (skp isSp s k)) with
  | none => (false, ((skp isSp s k : Nat) : Int), 0, [], 0)
  | some (kd, n) => (true, ((skp isSp s k + n : Nat) : Int), (kd : Int), textT (s.drop (skp isSp s k)) n, ((skp isSp s k : Nat) : Int))

theorem skp_drop (p : UInt8 → Bool) (s : List UInt8) (k : Nat) : s.drop (skp p s k) = (s.drop k).dropWhile p := by
  unfold skp
  rw [← List.drop_drop]
  generalize s.drop k = r
  have h := tw_app (p := p) r
  have h2 : r.drop (r.takeWhile p).length = (r.takeWhile p ++ r.dropWhile p).drop (r.takeWhile p).length := by rw [h]
  rw [h2, List.drop_left]

theorem slc_nat {s : List UInt8} {a n : Nat} (h : a + n ≤ s.length) : slc? s (a : Int) ((a + n : Nat) : Int) = some ((s.drop a).take n) := by
  rw [slc_some ⟨by omega, by omega, by omega⟩, Int.toNat_natCast, Int.toNat_natCast, List.drop_take, Nat.add_sub_cancel_left]


theorem tok_f14 {s : List UInt8} {out : List ApiToken} {k : Nat} (hl : s.length ≤ 10000) (hk : k ≤ s.length) : (f14_C2 s out (k : Int)).run = some (tokI s k) := by
  have h1 : (f14_C3 s out (k : Int)).run = some ((skp isSp s k : Nat) : Int) := by
    have := skipL (L := f14_L4 s out) (p := isSp) (cl := f38_36p) (by omega) (fun k hk => is36_0 hk) (fun _ => rfl) hk
    simp only [f14_C3]
    show (Lp.run (f14_L4 s out) (k : Int)).bind _ = _
    rw [this]; rfl
  obtain ⟨hj0, hj⟩ := skp_le (p := isSp) hk
  unfold tokI
  generalize skp isSp s k = j at h1 hj hj0
  simp only [f14_C2]
  rw [h1, Option.bind_some]
  by_cases hend : j = s.length
  · rw [if_pos (by simp only [decide_eq_true_eq]; omega)]
    simp only [f14_C5]
    have hr : s.drop j = [] := List.drop_of_length_le (by omega)
    have hsl := slc_nat (s := s) (a := j) (n := 0) (by omega)
    rw [Nat.add_zero] at hsl
    rw [hsl, hr]
    rfl
  · rw [if_neg (by simp only [decide_eq_true_eq]; omega)]
    have hlt : j < s.length := by omega
    have hx := List.getElem?_eq_getElem hlt
    have hd : s.drop j = s[j] :: s.drop (j + 1) := List.drop_eq_getElem_cons hlt
    have hdl : (s.drop (j + 1)).length = s.length - (j + 1) := List.length_drop ..
    generalize s[j] = c at hx hd
    rw [is39_0 (by omega), Option.bind_some, cls_at hx, hd]
    have hsk : ∀ p, p c = true → skp p s j = j + (1 + ((s.drop (j + 1)).takeWhile p).length) := fun p hp => by
      unfold skp; rw [hd, List.takeWhile_cons_of_pos hp, List.length_cons]; omega
    have htl : ∀ p : UInt8 → Bool, ((s.drop (j + 1)).takeWhile p).length ≤ s.length - (j + 1) := fun p => by
      have := (List.takeWhile_sublist (l := s.drop (j + 1)) p).length_le
      omega
    unfold bodyT
    dsimp only
    by_cases hc : isLet c = true
    · rw [if_pos hc, if_pos hc]
      have h6 := skipL (L := f14_L7 s out (j : Int)) (p := isWd) (cl := f38_40p) (by omega) (fun k hk => is40_0 hk) (fun _ => rfl) hj
      have hw := htl isWd
      rw [hsk isWd (let_wd c hc)] at h6
      simp only [f14_C6, f14_C8]
      rw [h6]
      simp only [Option.bind_some]
      rw [slc_nat (by omega), Option.bind_some, Option.bind_some, f41_eq (by rw [List.length_take]; omega), Option.bind_some, hd]
      unfold textT
      dsimp only
      rw [if_pos hc]
      rfl
    · rw [if_neg hc, if_neg hc, at_nat hx, Option.bind_some]
      have htx : ∀ m, textT (c :: s.drop (j + 1)) m = (s.drop j).take m := fun m => by unfold textT; dsimp only; rw [if_neg hc, hd]
      simp only [htx]
      by_cases hq : c.toNat = 34
      · rw [if_pos (by simp only [decide_eq_true_eq]; omega), if_pos hq]
        have h9 := skipL (L := f14_L10 s out (j : Int)) (p := isPl) (cl := f38_42p) (by omega) (fun k hk => is42_0 hk) (fun _ => rfl) (show j + 1 ≤ s.length by omega)
        simp only [f14_C9]
        rw [w64_succ (by omega), h9]
        simp only [Option.bind_some]
        have hm := htl isPl
        have hske : skp isPl s (j + 1) = j + 1 + ((s.drop (j + 1)).takeWhile isPl).length := rfl
        have hdr := skp_drop isPl s (j + 1)
        rw [is43_0 (by rw [hske]; omega), Option.bind_some]
        rw [← hdr]
        cases hy : s.drop (skp isPl s (j + 1)) with
        | nil =>
          have hle : s.length ≤ skp isPl s (j + 1) := by
            have := congrArg List.length hy
            rw [List.length_drop] at this
            simp only [List.length_nil] at this
            omega
          rw [cls_end hle]
          rfl
        | cons q u =>
          have hlt2 : skp isPl s (j + 1) < s.length := by
            have := congrArg List.length hy
            rw [List.length_drop] at this
            simp only [List.length_cons] at this
            omega
          have hq2 : s[skp isPl s (j + 1)]? = some q := by
            have := List.drop_eq_getElem_cons hlt2
            rw [hy] at this
            injection this with e1 _
            rw [List.getElem?_eq_getElem hlt2, e1]
          rw [cls_at hq2]
          dsimp only
          unfold isQt
          by_cases hqq : q.toNat = 34
          · rw [decide_eq_true hqq, if_neg (by simp), if_pos hqq]
            simp only [f14_C11]
            have e1 : IntKind.i64.wrap (((skp isPl s (j + 1) : Nat) : Int) + 1) = ((j + (((s.drop (j + 1)).takeWhile isPl).length + 2) : Nat) : Int) := by
              rw [w64_succ (by omega), hske]; congr 1; omega
            rw [e1, slc_nat (by omega)]
            rfl
          · rw [decide_eq_false hqq, if_pos (by simp), if_neg hqq]
      · rw [if_neg (by simp only [decide_eq_true_eq]; omega), if_neg hq, is44_0 (by omega), Option.bind_some, cls_at hx]
        by_cases hg : isDg c = true
        · rw [if_pos hg, if_pos hg]
          have h12 := skipL (L := f14_L13 s out (j : Int)) (p := isDg) (cl := f38_44p) (by omega) (fun k hk => is44_0 hk) (fun _ => rfl) hj
          have hw := htl isDg
          have hske := hsk isDg hg
          have hdr := skp_drop isDg s j
          rw [hd, List.dropWhile_cons_of_pos hg] at hdr
          simp only [f14_C12]
          rw [h12]
          simp only [Option.bind_some]
          rw [is45_0 (by omega), Option.bind_some, is44_1 (by omega), Option.bind_some]
          rw [← hdr]
          have plain : ((slc? s (j : Int) ((skp isDg s j : Nat) : Int)).bind fun s_ => some s_) = some ((s.drop j).take (1 + ((s.drop (j + 1)).takeWhile isDg).length)) := by
            rw [hske, slc_nat (by omega)]; rfl
          cases hy : s.drop (skp isDg s j) with
          | nil =>
            have hle : s.length ≤ skp isDg s j := by
              have := congrArg List.length hy
              rw [List.length_drop] at this
              simp only [List.length_nil] at this
              omega
            rw [cls_end hle, if_neg (by simp)]
            simp only [f14_C18]
            rw [plain, hske]
            rfl
          | cons q u =>
            have hlt2 : skp isDg s j < s.length := by
              have := congrArg List.length hy
              rw [List.length_drop] at this
              simp only [List.length_cons] at this
              omega
            have hcons := List.drop_eq_getElem_cons hlt2
            rw [hy] at hcons
            injection hcons with e1 e2
            have hq2 : s[skp isDg s j]? = some q := by rw [List.getElem?_eq_getElem hlt2, e1]
            rw [cls_at hq2]
            unfold isDt
            by_cases hqq : q.toNat = 46
            · rw [decide_eq_true hqq, if_pos rfl]
              cases hu : u with
              | nil =>
                have hle : s.length ≤ skp isDg s j + 1 := by
                  have := congrArg List.length (e2.symm.trans hu)
                  rw [List.length_drop] at this
                  simp only [List.length_nil] at this
                  omega
                rw [cls_end hle, if_neg (by simp)]
                simp only [f14_C17]
                rw [plain, hske]
                rfl
              | cons d v =>
                rw [hu] at e2
                have hlt3 : skp isDg s j + 1 < s.length := by
                  have := congrArg List.length e2
                  rw [List.length_drop] at this
                  simp only [List.length_cons] at this
                  omega
                have hcons2 := List.drop_eq_getElem_cons hlt3
                rw [← e2] at hcons2
                injection hcons2 with e3 e4
                have hd3 : s[skp isDg s j + 1]? = some d := by rw [List.getElem?_eq_getElem hlt3, e3]
                rw [cls_at hd3]
                dsimp only
                by_cases hdd : isDg d = true
                · rw [if_pos hdd, if_pos ⟨hqq, hdd⟩]
                  have h14 := skipL (L := f14_L15 s out (j : Int)) (p := isDg) (cl := f38_44p) (by omega) (fun k hk => is44_0 hk) (fun _ => rfl) (show skp isDg s j + 1 ≤ s.length by omega)
                  have hsk3 : skp isDg s (skp isDg s j + 1) = j + (((s.drop (j + 1)).takeWhile isDg).length + 3 + (v.takeWhile isDg).length) := by
                    have : skp isDg s (skp isDg s j + 1) = skp isDg s j + 1 + ((d :: v).takeWhile isDg).length := by
                      conv => lhs; unfold skp
                      rw [show s.drop (j + ((s.drop j).takeWhile isDg).length + 1) = d :: v from e2.symm]
                      rfl
                    rw [this, List.takeWhile_cons_of_pos hdd, List.length_cons, hske]; omega
                  have hle3 := (skp_le (p := isDg) (show skp isDg s j + 1 ≤ s.length by omega)).2
                  simp only [f14_C14, f14_C16]
                  rw [w64_succ (by omega), h14]
                  simp only [Option.bind_some]
                  rw [hsk3] at hle3 ⊢
                  rw [slc_nat hle3]
                  rfl
                · rw [if_neg hdd, if_neg (fun e => hdd e.2)]
                  simp only [f14_C17]
                  rw [plain, hske]
                  rfl
            · rw [decide_eq_false hqq, if_neg (by simp)]
              simp only [f14_C18]
              rw [plain, hske]
              cases u with
              | nil => rfl
              | cons d v =>
                dsimp only
                rw [if_neg (fun e => hqq e.1)]
                rfl
        · rw [if_neg hg, if_neg hg, is46_0 (by omega), Option.bind_some, cls_at hx]
          by_cases hs : isSg c = true
          · rw [if_pos hs, if_pos hs]
            simp only [f14_C19]
            rw [w64_succ (by omega), slc_nat (by omega)]
            rfl
          · rw [if_neg hs, if_neg hs]


theorem tok_f25 {s : List UInt8} (hl : s.length ≤ 10000) : (f25_C1 s).run = some (tokI s 0) := by
  have h1 : (f25_C2 s).run = some ((skp isSp s 0 : Nat) : Int) := by
    have := skipL (L := f25_L3 s) (p := isSp) (cl := f38_36p) (by omega) (fun k hk => is36_0 hk) (fun _ => rfl) (Nat.zero_le _)
    simp only [f25_C2]
    show (Lp.run (f25_L3 s) 0).bind _ = _
    rw [show Lp.run (f25_L3 s) 0 = Lp.run (f25_L3 s) ((0 : Nat) : Int) from rfl, this]; rfl
  obtain ⟨hj0, hj⟩ := skp_le (p := isSp) (Nat.zero_le _)
  unfold tokI
  generalize skp isSp s 0 = j at h1 hj hj0
  simp only [f25_C1]
  rw [h1, Option.bind_some]
  by_cases hend : j = s.length
  · rw [if_pos (by simp only [decide_eq_true_eq]; omega)]
    simp only [f25_C4]
    have hr : s.drop j = [] := List.drop_of_length_le (by omega)
    have hsl := slc_nat (s := s) (a := j) (n := 0) (by omega)
    rw [Nat.add_zero] at hsl
    rw [hsl, hr]
    rfl
  · rw [if_neg (by simp only [decide_eq_true_eq]; omega)]
    have hlt : j < s.length := by omega
    have hx := List.getElem?_eq_getElem hlt
    have hd : s.drop j = s[j] :: s.drop (j + 1) := List.drop_eq_getElem_cons hlt
    have hdl : (s.drop (j + 1)).length = s.length - (j + 1) := List.length_drop ..
    generalize s[j] = c at hx hd
    rw [is39_0 (by omega), Option.bind_some, cls_at hx, hd]
    have hsk : ∀ p, p c = true → skp p s j = j + (1 + ((s.drop (j + 1)).takeWhile p).length) := fun p hp => by
      unfold skp; rw [hd, List.takeWhile_cons_of_pos hp, List.length_cons]; omega
    have htl : ∀ p : UInt8 → Bool, ((s.drop (j + 1)).takeWhile p).length ≤ s.length - (j + 1) := fun p => by
      have := (List.takeWhile_sublist (l := s.drop (j + 1)) p).length_le
      omega
    unfold bodyT
    dsimp only
    by_cases hc : isLet c = true
    · rw [if_pos hc, if_pos hc]
      have h6 := skipL (L := f25_L6 s (j : Int)) (p := isWd) (cl := f38_40p) (by omega) (fun k hk => is40_0 hk) (fun _ => rfl) hj
      have hw := htl isWd
      rw [hsk isWd (let_wd c hc)] at h6
      simp only [f25_C5, f25_C7]
      rw [h6]
      simp only [Option.bind_some]
      rw [slc_nat (by omega), Option.bind_some, Option.bind_some, f41_eq (by rw [List.length_take]; omega), Option.bind_some, hd]
      unfold textT
      dsimp only
      rw [if_pos hc]
      rfl
    · rw [if_neg hc, if_neg hc, at_nat hx, Option.bind_some]
      have htx : ∀ m, textT (c :: s.drop (j + 1)) m = (s.drop j).take m := fun m => by unfold textT; dsimp only; rw [if_neg hc, hd]
      simp only [htx]
      by_cases hq : c.toNat = 34
      · rw [if_pos (by simp only [decide_eq_true_eq]; omega), if_pos hq]
        have h9 := skipL (L := f25_L9 s (j : Int)) (p := isPl) (cl := f38_42p) (by omega) (fun k hk => is42_0 hk) (fun _ => rfl) (show j + 1 ≤ s.length by omega)
        simp only [f25_C8]
        rw [w64_succ (by omega), h9]
        simp only [Option.bind_some]
        have hm := htl isPl
        have hske : skp isPl s (j + 1) = j + 1 + ((s.drop (j + 1)).takeWhile isPl).length := rfl
        have hdr := skp_drop isPl s (j + 1)
        rw [is43_0 (by rw [hske]; omega), Option.bind_some]
        rw [← hdr]
        cases hy : s.drop (skp isPl s (j + 1)) with
        | nil =>
          have hle : s.length ≤ skp isPl s (j + 1) := by
            have := congrArg List.length hy
            rw [List.length_drop] at this
            simp only [List.length_nil] at this
            omega
          rw [cls_end hle]
          rfl
        | cons q u =>
          have hlt2 : skp isPl s (j + 1) < s.length := by
            have := congrArg List.length hy
            rw [List.length_drop] at this
            simp only [List.length_cons] at this
            omega
          have hq2 : s[skp isPl s (j + 1)]? = some q := by
            have := List.drop_eq_getElem_cons hlt2
            rw [hy] at this
            injection this with e1 _
            rw [List.getElem?_eq_getElem hlt2, e1]
          rw [cls_at hq2]
          dsimp only
          unfold isQt
          by_cases hqq : q.toNat = 34
          · rw [decide_eq_true hqq, if_neg (by simp), if_pos hqq]
            simp only [f25_C10]
            have e1 : IntKind.i64.wrap (((skp isPl s (j + 1) : Nat) : Int) + 1) = ((j + (((s.drop (j + 1)).takeWhile isPl).length + 2) : Nat) : Int) := by
              rw [w64_succ (by omega), hske]; congr 1; omega
            rw [e1, slc_nat (by omega)]
            rfl
          · rw [decide_eq_false hqq, if_pos (by simp), if_neg hqq]
      · rw [if_neg (by simp only [decide_eq_true_eq]; omega), if_neg hq, is44_0 (by omega), Option.bind_some, cls_at hx]
        by_cases hg : isDg c = true
        · rw [if_pos hg, if_pos hg]
          have h12 := skipL (L := f25_L12 s (j : Int)) (p := isDg) (cl := f38_44p) (by omega) (fun k hk => is44_0 hk) (fun _ => rfl) hj
          have hw := htl isDg
          have hske := hsk isDg hg
          have hdr := skp_drop isDg s j
          rw [hd, List.dropWhile_cons_of_pos hg] at hdr
          simp only [f25_C11]
          rw [h12]
          simp only [Option.bind_some]
          rw [is45_0 (by omega), Option.bind_some, is44_1 (by omega), Option.bind_some]
          rw [← hdr]
          have plain : ((slc? s (j : Int) ((skp isDg s j : Nat) : Int)).bind fun s_ => some s_) = some ((s.drop j).take (1 + ((s.drop (j + 1)).takeWhile isDg).length)) := by
            rw [hske, slc_nat (by omega)]; rfl
          cases hy : s.drop (skp isDg s j) with
          | nil =>
            have hle : s.length ≤ skp isDg s j := by
              have := congrArg List.length hy
              rw [List.length_drop] at this
              simp only [List.length_nil] at this
              omega
            rw [cls_end hle, if_neg (by simp)]
            simp only [f25_C17]
            rw [plain, hske]
            rfl
          | cons q u =>
            have hlt2 : skp isDg s j < s.length := by
              have := congrArg List.length hy
              rw [List.length_drop] at this
              simp only [List.length_cons] at this
              omega
            have hcons := List.drop_eq_getElem_cons hlt2
            rw [hy] at hcons
            injection hcons with e1 e2
            have hq2 : s[skp isDg s j]? = some q := by rw [List.getElem?_eq_getElem hlt2, e1]
            rw [cls_at hq2]
            unfold isDt
            by_cases hqq : q.toNat = 46
            · rw [decide_eq_true hqq, if_pos rfl]
              cases hu : u with
              | nil =>
                have hle : s.length ≤ skp isDg s j + 1 := by
                  have := congrArg List.length (e2.symm.trans hu)
                  rw [List.length_drop] at this
                  simp only [List.length_nil] at this
                  omega
                rw [cls_end hle, if_neg (by simp)]
                simp only [f25_C16]
                rw [plain, hske]
                rfl
              | cons d v =>
                rw [hu] at e2
                have hlt3 : skp isDg s j + 1 < s.length := by
                  have := congrArg List.length e2
                  rw [List.length_drop] at this
                  simp only [List.length_cons] at this
                  omega
                have hcons2 := List.drop_eq_getElem_cons hlt3
                rw [← e2] at hcons2
                injection hcons2 with e3 e4
                have hd3 : s[skp isDg s j + 1]? = some d := by rw [List.getElem?_eq_getElem hlt3, e3]
                rw [cls_at hd3]
                dsimp only
                by_cases hdd : isDg d = true
                · rw [if_pos hdd, if_pos ⟨hqq, hdd⟩]
                  have h14 := skipL (L := f25_L14 s (j : Int)) (p := isDg) (cl := f38_44p) (by omega) (fun k hk => is44_0 hk) (fun _ => rfl) (show skp isDg s j + 1 ≤ s.length by omega)
                  have hsk3 : skp isDg s (skp isDg s j + 1) = j + (((s.drop (j + 1)).takeWhile isDg).length + 3 + (v.takeWhile isDg).length) := by
                    have : skp isDg s (skp isDg s j + 1) = skp isDg s j + 1 + ((d :: v).takeWhile isDg).length := by
                      conv => lhs; unfold skp
                      rw [show s.drop (j + ((s.drop j).takeWhile isDg).length + 1) = d :: v from e2.symm]
                      rfl
                    rw [this, List.takeWhile_cons_of_pos hdd, List.length_cons, hske]; omega
                  have hle3 := (skp_le (p := isDg) (show skp isDg s j + 1 ≤ s.length by omega)).2
                  simp only [f25_C13, f25_C15]
                  rw [w64_succ (by omega), h14]
                  simp only [Option.bind_some]
                  rw [hsk3] at hle3 ⊢
                  rw [slc_nat hle3]
                  rfl
                · rw [if_neg hdd, if_neg (fun e => hdd e.2)]
                  simp only [f25_C16]
                  rw [plain, hske]
                  rfl
            · rw [decide_eq_false hqq, if_neg (by simp)]
              simp only [f25_C17]
              rw [plain, hske]
              cases u with
              | nil => rfl
              | cons d v =>
                dsimp only
                rw [if_neg (fun e => hqq e.1)]
                rfl
        · rw [if_neg hg, if_neg hg, is46_0 (by omega), Option.bind_some, cls_at hx]
          by_cases hs : isSg c = true
          · rw [if_pos hs, if_pos hs]
            simp only [f25_C18]
            rw [w64_succ (by omega), slc_nat (by omega)]
            rfl
          · rw [if_neg hs, if_neg hs]

end Go.Proofs.Ytkbjimfganeooaa
