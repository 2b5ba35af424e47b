/-
  Plain laws of texts in records, and TopTokensRecorded.
-/
import Derived.Test.YtkbjimfganeooaaQN
set_option linter.unusedSimpArgs false
set_option linter.unusedVariables false
namespace Go.Proofs.Ytkbjimfganeooaa
open Go Go.Ab

/-! ## A number as bytes -/

def intS (k : Nat) : List UInt8 := if 2 * k < 128 then [b8 ((2 * k : Nat) : Int)] else [b8 ((2 * k % 128 + 128 : Nat) : Int), b8 ((2 * k / 128 : Nat) : Int)]

def zz (z sh : Int) (c : UInt8) : Int := IntKind.u64.wrap ((BitVec.ofInt (IntKind.bits .u64) z ||| BitVec.ofInt (IntKind.bits .u64) (IntKind.u64.wrap ((IntKind.u64.wrap (IntKind.u8.wrap ((BitVec.ofInt (IntKind.bits .u8) (c.toNat : Int) &&& BitVec.ofInt (IntKind.bits .u8) 127).toNat : Int))) * 2 ^ (min (Int.toNat sh) (IntKind.bits .u64))))).toNat : Int)

theorem upto {P : Nat → Bool} (h : ∀ n : Fin 512, P n.val = true) {k : Nat} (hk : k < 512) : P k = true := h ⟨k, hk⟩

theorem zig {k : Nat} (hk : k < 512) : IntKind.u64.wrap ((BitVec.ofInt (IntKind.bits .u64) (IntKind.u64.wrap ((IntKind.u64.wrap (k : Int)) * 2 ^ (min (Int.toNat 1) (IntKind.bits .u64)))) ^^^ BitVec.ofInt (IntKind.bits .u64) (IntKind.u64.wrap (Int.fdiv (k : Int) (2 ^ (min (Int.toNat 63) (IntKind.bits .i64)))))).toNat : Int) = ((2 * k : Nat) : Int) := by
  have := upto (P := fun k => decide (IntKind.u64.wrap ((BitVec.ofInt (IntKind.bits .u64) (IntKind.u64.wrap ((IntKind.u64.wrap (k : Int)) * 2 ^ (min (Int.toNat 1) (IntKind.bits .u64)))) ^^^ BitVec.ofInt (IntKind.bits .u64) (IntKind.u64.wrap (Int.fdiv (k : Int) (2 ^ (min (Int.toNat 63) (IntKind.bits .i64)))))).toNat : Int) = ((2 * k : Nat) : Int))) (by decide +kernel) hk
  exact of_decide_eq_true this
theorem low7 {k : Nat} (hk : k < 512) : IntKind.u8.wrap ((BitVec.ofInt (IntKind.bits .u8) (IntKind.u8.wrap ((2 * k : Nat) : Int)) ||| BitVec.ofInt (IntKind.bits .u8) 128).toNat : Int) = ((2 * k % 128 + 128 : Nat) : Int) := by
  have := upto (P := fun k => decide (IntKind.u8.wrap ((BitVec.ofInt (IntKind.bits .u8) (IntKind.u8.wrap ((2 * k : Nat) : Int)) ||| BitVec.ofInt (IntKind.bits .u8) 128).toNat : Int) = ((2 * k % 128 + 128 : Nat) : Int))) (by decide +kernel) hk
  exact of_decide_eq_true this
theorem high7 {k : Nat} (hk : k < 512) : Int.fdiv ((2 * k : Nat) : Int) (2 ^ (min (Int.toNat 7) (IntKind.bits .u64))) = ((2 * k / 128 : Nat) : Int) := by
  have := upto (P := fun k => decide (Int.fdiv ((2 * k : Nat) : Int) (2 ^ (min (Int.toNat 7) (IntKind.bits .u64))) = ((2 * k / 128 : Nat) : Int))) (by decide +kernel) hk
  exact of_decide_eq_true this
theorem zz_one {k : Nat} (hk : k < 512) (h : 2 * k < 128) : zz 0 0 (b8 ((2 * k : Nat) : Int)) = ((2 * k : Nat) : Int) := by
  have := upto (P := fun k => decide (2 * k < 128 → zz 0 0 (b8 ((2 * k : Nat) : Int)) = ((2 * k : Nat) : Int))) (by decide +kernel) hk
  exact of_decide_eq_true this h
theorem zz_fst {k : Nat} (hk : k < 512) : zz 0 0 (b8 ((2 * k % 128 + 128 : Nat) : Int)) = ((2 * k % 128 : Nat) : Int) := by
  have := upto (P := fun k => decide (zz 0 0 (b8 ((2 * k % 128 + 128 : Nat) : Int)) = ((2 * k % 128 : Nat) : Int))) (by decide +kernel) hk
  exact of_decide_eq_true this
theorem zz_snd {k : Nat} (hk : k < 512) : zz ((2 * k % 128 : Nat) : Int) 7 (b8 ((2 * k / 128 : Nat) : Int)) = ((2 * k : Nat) : Int) := by
  have := upto (P := fun k => decide (zz ((2 * k % 128 : Nat) : Int) 7 (b8 ((2 * k / 128 : Nat) : Int)) = ((2 * k : Nat) : Int))) (by decide +kernel) hk
  exact of_decide_eq_true this
theorem zag {k : Nat} (hk : k < 512) : IntKind.i64.wrap ((BitVec.ofInt (IntKind.bits .i64) (IntKind.i64.wrap (Int.fdiv ((2 * k : Nat) : Int) (2 ^ (min (Int.toNat 1) (IntKind.bits .u64))))) ^^^ BitVec.ofInt (IntKind.bits .i64) (IntKind.i64.wrap (0 - (IntKind.i64.wrap (IntKind.u64.wrap ((BitVec.ofInt (IntKind.bits .u64) ((2 * k : Nat) : Int) &&& BitVec.ofInt (IntKind.bits .u64) 1).toNat : Int)))))).toNat : Int) = (k : Int) := by
  have := upto (P := fun k => decide (IntKind.i64.wrap ((BitVec.ofInt (IntKind.bits .i64) (IntKind.i64.wrap (Int.fdiv ((2 * k : Nat) : Int) (2 ^ (min (Int.toNat 1) (IntKind.bits .u64))))) ^^^ BitVec.ofInt (IntKind.bits .i64) (IntKind.i64.wrap (0 - (IntKind.i64.wrap (IntKind.u64.wrap ((BitVec.ofInt (IntKind.bits .u64) ((2 * k : Nat) : Int) &&& BitVec.ofInt (IntKind.bits .u64) 1).toNat : Int)))))).toNat : Int) = (k : Int))) (by decide +kernel) hk
  exact of_decide_eq_true this

theorem b8_toNat {m : Nat} (h : m < 256) : (b8 (m : Int)).toNat = m := by
  have := b8_nat (m := (m : Int)) ⟨by omega, by omega⟩
  omega

theorem f27_eq {k : Nat} (hk : k < 512) : f27 (k : Int) = some (intS k) := by
  unfold f27 intS
  rw [zig hk]
  by_cases h : 2 * k < 128
  · have hr : f27_L1.run (((2 * k : Nat) : Int), []) = some (((2 * k : Nat) : Int), []) := iter_brk (if_neg (by simp only [decide_eq_true_eq]; omega))
    rw [hr, Option.bind_some]
    dsimp only
    rw [if_pos h, app_some (by simp) (by simp), Option.bind_some]
    have e : IntKind.u8.wrap ((2 * k : Nat) : Int) = ((2 * k : Nat) : Int) := by rw [IntKind.wrap_u8]; omega
    rw [e]
    rfl
  · have hr : f27_L1.run (((2 * k : Nat) : Int), []) = some (((2 * k / 128 : Nat) : Int), [((2 * k % 128 + 128 : Nat) : Int)]) := by
      refine (iter_next (s' := (((2 * k / 128 : Nat) : Int), [((2 * k % 128 + 128 : Nat) : Int)])) ?_).trans (iter_brk (if_neg (by simp only [decide_eq_true_eq]; omega)))
      refine (if_pos (by simp only [decide_eq_true_eq]; omega)).trans ?_
      rw [low7 hk, high7 hk, app_some (by simp) (by simp)]
      rfl
    rw [hr, Option.bind_some]
    dsimp only
    rw [if_neg h, app_some (by simp) (by simp), Option.bind_some]
    have e : IntKind.u8.wrap ((2 * k / 128 : Nat) : Int) = ((2 * k / 128 : Nat) : Int) := by rw [IntKind.wrap_u8]; omega
    rw [e]
    rfl

theorem intS_len (k : Nat) : 1 ≤ (intS k).length ∧ (intS k).length ≤ 2 := by
  unfold intS
  split <;> simp

def textS (t : List UInt8) : List UInt8 := intS t.length ++ t

theorem f16_eq {t : List UInt8} (ht : t.length < 512) : f16 t = some (textS t, 0) := by
  have := intS_len t.length
  unfold f16
  rw [if_neg (by simp only [decide_eq_true_eq]; omega), f27_eq ht, Option.bind_some, cat_some (by omega), Option.bind_some]
  rfl

/-! ## A text, read -/

theorem has_some {s : List UInt8} {v : Nat} {n : Int} (hv : v ≤ s.length) (hl : s.length ≤ 1000000) : f31p s (v : Int) n = some (decide (n ≤ ((s.length - v : Nat) : Int))) := by
  unfold f31p
  rw [w64 (by omega) (by omega)]
  congr 2
  rw [show ((s.length : Nat) : Int) - (v : Int) = ((s.length - v : Nat) : Int) by omega]

theorem take_one {s : List UInt8} {v : Nat} {c : UInt8} (hc : s[v]? = some c) (hl : s.length ≤ 1000000) : (f19_C4 s (v : Int)).run = some ([c], ((v + 1 : Nat) : Int)) := by
  have hv := getElem?_lt hc
  simp only [f19_C4]
  rw [w64_succ (by omega), w64 (a := ((v + 1 : Nat) : Int) - 1) (by omega) (by omega), show ((v + 1 : Nat) : Int) - 1 = (v : Int) by omega, slc_nat (by omega), List.drop_eq_getElem_cons hv, (List.getElem?_eq_some_iff.1 hc).2]
  rfl

theorem int_body {s : List UInt8} {v : Nat} {c : UInt8} {z sh : Int} (hc : s[v]? = some c) (hl : s.length ≤ 1000000) (hsh : sh = 0 ∨ (sh = 7 ∧ c.toNat ≠ 0)) : (f19_L3 s).body (z, sh, (v : Int)) = some (if c.toNat < 128 then .brk (.inl (zz z sh c, ((v + 1 : Nat) : Int))) else .next (zz z sh c, sh + 7, ((v + 1 : Nat) : Int))) := by
  have hv := getElem?_lt hc
  simp only [f19_L3]
  rw [has_some (by omega) hl, Option.bind_some, decide_eq_true (by omega), if_neg (by simp), take_one hc hl, Option.bind_some]
  dsimp only
  rw [show at? [c] 0 = some c from rfl, Option.bind_some, show must? (0 ≤ sh) = some () from if_pos (by omega), Option.bind_some, if_neg (by simp only [decide_eq_true_eq]; omega), w64 (a := sh + 7) (by omega) (by omega)]
  simp only [decide_eq_true_eq]
  by_cases h0 : (c.toNat : Int) = 0
  · rw [if_pos h0, if_neg (by omega), if_pos (by omega), if_pos (by omega)]
    rfl
  · rw [if_neg h0]
    by_cases h1 : (c.toNat : Int) < 128
    · rw [if_pos h1, if_pos (by omega)]; rfl
    · rw [if_neg h1, if_neg (by omega)]; rfl

theorem text_ok {pre t post : List UInt8} (ht : t.length < 512) (hl : (pre ++ (textS t ++ post)).length ≤ 100000) : f19 (pre ++ (textS t ++ post)) (pre.length : Int) = some (t, ((pre.length + (textS t).length : Nat) : Int), 0) := by
  have hlen : (pre ++ (textS t ++ post)).length = pre.length + (intS t.length).length + t.length + post.length := by unfold textS; simp only [List.length_append]; omega
  have hmid : ((pre ++ (textS t ++ post)).drop (pre.length + (intS t.length).length)).take t.length = t := by
    have : pre ++ (textS t ++ post) = (pre ++ intS t.length) ++ (t ++ post) := by unfold textS; simp only [List.append_assoc]
    rw [this, ← List.length_append, List.drop_left, List.take_left]
  have hfst : ∀ (i : Nat) c, (intS t.length)[i]? = some c → (pre ++ (textS t ++ post))[pre.length + i]? = some c := fun i c hc => by
    have hi := getElem?_lt hc
    rw [List.getElem?_append_right (by omega), Nat.add_sub_cancel_left]
    unfold textS
    rw [List.append_assoc, List.getElem?_append_left hi]
    exact hc
  have hts : (textS t).length = (intS t.length).length + t.length := by unfold textS; rw [List.length_append]
  rw [hts]
  clear hts
  generalize pre ++ (textS t ++ post) = s at *
  generalize hk : t.length = k at *
  generalize pre.length = a at *
  have hrun : (f19_L3 s).run (0, 0, (a : Int)) = some (.inl (((2 * k : Nat) : Int), ((a + (intS k).length : Nat) : Int))) := by
    unfold intS at hfst ⊢
    by_cases h : 2 * k < 128
    · simp only [if_pos h] at hfst ⊢
      have h1 := int_body (z := 0) (sh := 0) (hfst 0 _ rfl) (by omega) (.inl rfl)
      rw [if_pos (by rw [b8_toNat (by omega)]; exact h), zz_one ht h] at h1
      exact iter_brk h1
    · simp only [if_neg h] at hfst ⊢
      have h1 := int_body (z := 0) (sh := 0) (hfst 0 _ rfl) (by omega) (.inl rfl)
      rw [if_neg (by rw [b8_toNat (by omega)]; omega), zz_fst ht] at h1
      have h2 := int_body (z := ((2 * k % 128 : Nat) : Int)) (sh := 7) (hfst 1 _ rfl) (by omega) (.inr ⟨rfl, by rw [b8_toNat (by omega)]; omega⟩)
      rw [if_pos (by rw [b8_toNat (by omega)]; omega), zz_snd ht] at h2
      exact (iter_next h1).trans (iter_brk h2)
  have hC2 : (f19_C2 s (a : Int)).run = some ((k : Int), 0, ((a + (intS k).length : Nat) : Int)) := by
    simp only [f19_C2]
    rw [hrun, Option.bind_some]
    dsimp only
    rw [zag ht]
  have hC1 : (f19_C1 s (a : Int)).run = some (t, 0, ((a + ((intS k).length + k) : Nat) : Int)) := by
    simp only [f19_C1]
    rw [hC2, Option.bind_some]
    dsimp only
    rw [if_neg (by simp), if_neg (by simp only [decide_eq_true_eq]; omega), if_neg (by simp only [decide_eq_true_eq]; omega), has_some (by omega) (by omega), Option.bind_some, decide_eq_true (by omega), if_neg (by simp)]
    simp only [f19_C5]
    rw [w64 (a := ((a + (intS k).length : Nat) : Int) + (k : Int)) (by omega) (by omega), w64 (by omega) (by omega), show ((a + (intS k).length : Nat) : Int) + (k : Int) - (k : Int) = ((a + (intS k).length : Nat) : Int) by omega, show ((a + (intS k).length : Nat) : Int) + (k : Int) = ((a + (intS k).length + k : Nat) : Int) by omega, slc_nat (by omega), hmid]
    simp only [Option.bind_some]
    rw [Nat.add_assoc]
  have h0 : f30p s (a : Int) = some 0 := by
    unfold f30p
    rw [if_neg (by simp only [decide_eq_true_eq]; omega), if_neg (by simp only [decide_eq_true_eq]; omega)]
  unfold f19
  rw [h0, Option.bind_some, if_neg (by simp), hC1, Option.bind_some]
  dsimp only
  rw [if_neg (by simp)]

/-! ## The commands -/

def joinS (l : List ApiToken) : List UInt8 := Lib.join (l.dropLast.map (·.fText)) [32]

structure Good (l : List ApiToken) : Prop where
  len : (joinS l).length < 500
  join : f15 l = some (joinS l, 0)
  scan : ∃ m, f14 (joinS l) = some (m, 0, 0) ∧ m.map kt = l.map kt
  toks : l.length ≤ 1000

theorem mem_lens {x : List UInt8} : ∀ {xs : List (List UInt8)}, x ∈ xs → x.length ≤ Lib.lens xs
  | y :: ys, h => by
    have : Lib.lens (y :: ys) = y.length + Lib.lens ys := by simp [Lib.lens]
    rw [this]
    rcases List.mem_cons.1 h with rfl | h
    · omega
    · have := mem_lens h; omega

theorem good_of {s : List UInt8} {l : List ApiToken} {ts : List (Nat × List UInt8)} (hs : s.length ≤ 200) (h : l.map kt = ts.map ci) (hsc : Scans s ts) : Good l := by
  obtain ⟨l', h1, h2, h3, h4⟩ := hsc.toks
  subst h1
  have hj : joinS l = Lib.join (l'.map (·.2)) [32] := by
    unfold joinS
    congr 1
    have := congrArg (fun z => (z.dropLast).map Prod.snd) h
    simp only [← List.map_dropLast, List.map_map] at this
    rw [List.dropLast_concat] at this
    exact this
  have hlen : (Lib.join (l'.map (·.2)) [32]).length < 500 := by
    cases l' with
    | nil => simp [Lib.join_nil]
    | cons x xs =>
      have h3' : Lib.lens (x.2 :: xs.map (·.2)) ≤ s.length := h3
      rw [List.map_cons, Lib.join_length]
      simp only [List.length_cons, List.length_nil, List.length_map] at h4 ⊢
      omega
  have hll : l.length = l'.length + 1 := by
    have := congrArg List.length h
    simpa using this
  have hts : ∀ x ∈ l', Tk x.1 x.2 ∧ x.2.length ≤ 10000 := fun x hx => ⟨h2 x hx, by have := mem_lens (List.mem_map_of_mem (f := fun x : Nat × List UInt8 => x.2) hx); omega⟩
  refine ⟨by rw [hj]; exact hlen, by rw [hj]; exact join_tok h hts (by omega) (by omega), ?_, by omega⟩
  rw [hj]
  obtain ⟨m, q1, q2⟩ := scan_ok (by omega) (scans_join h2) (by rw [List.length_append, List.length_singleton]; omega)
  exact ⟨m, q1, q2.trans h.symm⟩

def allS (all : List (List ApiToken)) : List UInt8 := (all.map fun l => textS (joinS l)).flatten

theorem allS_len : ∀ {all : List (List ApiToken)}, (∀ l ∈ all, Good l) → (allS all).length ≤ 502 * all.length
  | [], _ => by simp [allS]
  | l :: ls, h => by
    have h1 := (h l (List.mem_cons_self ..)).len
    have h2 := intS_len (joinS l).length
    have h3 := allS_len fun x hx => h x (List.mem_cons_of_mem l hx)
    have : allS (l :: ls) = textS (joinS l) ++ allS ls := rfl
    rw [this, List.length_append, List.length_cons]
    unfold textS
    rw [List.length_append]
    omega

theorem allS_app (A B : List (List ApiToken)) : allS (A ++ B) = allS A ++ allS B := by unfold allS; simp

theorem allS_snoc (all : List (List ApiToken)) (l : List ApiToken) : allS (all ++ [l]) = allS all ++ textS (joinS l) := by
  unfold allS; simp

theorem L1_run {l : List (List UInt8)} (hl : l.length ≤ 12) (hs : ∀ x ∈ l, x.length ≤ 200) : ∀ (m k : Nat) (all : List (List ApiToken)), k + m = l.length → (∀ x ∈ all, Good x) → all.length ≤ k →
    ∃ all', (f5_L1 l).run (allS all, (k : Int), all) = some (.inl (allS all', all')) ∧ (∀ x ∈ all', Good x) ∧ all'.length ≤ 12 := by
  intro m
  induction m with
  | zero =>
    intro k all hk hg ha
    exact ⟨all, iter_brk (if_neg (by simp only [decide_eq_true_eq]; omega)), hg, by omega⟩
  | succ m ih =>
    intro k all hk hg ha
    have hx := List.getElem?_eq_getElem (show k < l.length by omega)
    have hxl := hs _ (List.getElem_mem (show k < l.length by omega))
    generalize l[k] = x at hx hxl
    obtain ⟨t, p, e, h1, h2⟩ := scan_any (s := x) (by omega)
    by_cases he : e = 0
    · obtain ⟨ts, q1, q2, q3⟩ := h2 he
      subst he
      have hgood := good_of hxl q1 q2
      have hal := allS_len hg
      have hi := intS_len (joinS t).length
      have htl : (textS (joinS t)).length ≤ 502 := by unfold textS; rw [List.length_append]; have := hgood.len; omega
      have hb : (f5_L1 l).body (allS all, (k : Int), all) = some (.next (allS (all ++ [t]), ((k + 1 : Nat) : Int), all ++ [t])) := by
        refine (if_pos (by simp only [decide_eq_true_eq]; omega)).trans ?_
        rw [at_nat hx, Option.bind_some, h1, Option.bind_some]
        dsimp only
        rw [if_neg (by simp), hgood.join, Option.bind_some]
        dsimp only
        rw [f16_eq (by have := hgood.len; omega), Option.bind_some]
        dsimp only
        rw [if_neg (by simp), if_neg (by simp), app_some (by simp only [List.length_cons, List.length_nil]; omega) (by simp only [List.length_cons, List.length_nil]; omega), Option.bind_some, cat_some (by omega), Option.bind_some, w64_succ (by omega), allS_snoc]
      obtain ⟨all', r1, r2, r3⟩ := ih (k + 1) (all ++ [t]) (by omega) (fun y hy => by
        rcases List.mem_append.1 hy with hy | hy
        · exact hg y hy
        · rw [List.mem_singleton.1 hy]; exact hgood) (by rw [List.length_append, List.length_singleton]; omega)
      exact ⟨all', (iter_next hb).trans r1, r2, r3⟩
    · have hb : (f5_L1 l).body (allS all, (k : Int), all) = some (.next (allS all, ((k + 1 : Nat) : Int), all)) := by
        refine (if_pos (by simp only [decide_eq_true_eq]; omega)).trans ?_
        rw [at_nat hx, Option.bind_some, h1, Option.bind_some]
        dsimp only
        rw [if_pos (by simp only [decide_eq_true_eq]; exact he), w64_succ (by omega)]
      obtain ⟨all', r1, r2, r3⟩ := ih (k + 1) all (by omega) hg (by omega)
      exact ⟨all', (iter_next hb).trans r1, r2, r3⟩

theorem L3_run {x : List ApiToken} {r : List ApiToken × Int × Int} {v : Int} {all : List (List ApiToken)} {r1 : List UInt8 × Int × Int} {r2 : RecordEntry × Int × Int} (h : r.1.map kt = x.map kt) (hl : x.length ≤ 100000) : (f5_L3 x r v all r1 r2).run 0 = some (.inl ()) := by
  have hlen : r.1.length = x.length := by simpa using congrArg List.length h
  refine run_all (xs := x) (fun k y hy => ?_) (if_neg (by simp))
  have hk := getElem?_lt hy
  have hz := List.getElem?_eq_getElem (show k < r.1.length by omega)
  generalize r.1[k] = z at hz
  have e : kt z = kt y := by
    have := congrArg (fun l => l[k]?) h
    simpa [List.getElem?_map, hz, hy] using this
  unfold kt at e
  injection e with e1 e2
  refine (if_pos (by simp only [decide_eq_true_eq]; omega)).trans ?_
  rw [at_nat hy, Option.bind_some, at_nat hz, Option.bind_some, e1, if_neg (by simp), Option.bind_some, e2, if_neg (by simp), w64_succ (by omega)]

theorem f12_eq {l : List (List UInt8)} (hl : l.length ≤ 1000000) : f12_13 l = some (l.any fun x => decide (200 < ((x.length : Nat) : Int))) := by
  have h : f23_13 l = some (fstI (fun x => decide (200 < ((x.length : Nat) : Int))) l) := by
    refine run_findi (fun x : List UInt8 => decide (200 < ((x.length : Nat) : Int))) (by omega) (fun k x r => ?_) (if_neg (by simp))
    refine (if_pos r.lt).trans ?_
    rw [r.at']
    simp only [Option.bind_some, r.nxt, f13]
    split <;> rfl
  unfold f12_13
  rw [h, Option.bind_some, fstI_nonneg]

theorem f5_eq (l : List (List UInt8)) : f5 l = some true := by
  unfold f5
  rw [f7_eq]
  by_cases h12 : 12 < ((l.length : Nat) : Int)
  · rw [if_pos (by simpa using h12)]; rfl
  · rw [if_neg (by simpa using h12), f12_eq (by omega), Option.bind_some]
    cases hany : l.any fun x => decide (200 < ((x.length : Nat) : Int)) with
    | true => rfl
    | false =>
      rw [if_neg (by simp)]
      have hs : ∀ x ∈ l, x.length ≤ 200 := fun x hx => by
        have := List.any_eq_false.1 hany x hx
        simp only [decide_eq_true_eq] at this
        omega
      obtain ⟨all, h1, h2, h3⟩ := L1_run (l := l) (by omega) hs l.length 0 [] (by omega) (fun x hx => nomatch hx) (by simp)
      have h1' : (f5_L1 l).run ([], 0, []) = some (.inl (allS all, all)) := h1
      have hal := allS_len h2
      rw [h1', Option.bind_some]
      dsimp only
      have hR : Rt (RecordEntry.mk 7 (allS all)) := ⟨by show (0 : Int) ≤ 7 ∧ (7 : Int) ≤ 255; decide, by show (allS all).length ≤ 7000; omega⟩
      have hp := next_ok (pre := []) (post := []) hR (by rw [List.nil_append, List.append_nil, Pk_len]; show (allS all).length + 5 ≤ _; omega)
      rw [List.nil_append, List.append_nil] at hp
      have hp' : f18 (Pk (RecordEntry.mk 7 (allS all))) 0 = some (RecordEntry.mk 7 (allS all), (((Pk (RecordEntry.mk 7 (allS all))).length : Nat) : Int), 0) := hp
      rw [pack_ok hR, Option.bind_some]
      dsimp only
      rw [hp', Option.bind_some]
      dsimp only
      rw [if_neg (by simp), if_neg (by simp), if_neg (by simp), if_neg (by simp)]
      have key : ∀ r1 : RecordEntry × Int × Int, r1.1.fData = allS all → (f5_L2 all r1).run (0, 0) = some (.inl (((allS all).length : Nat) : Int)) := fun r1 hd => by
        have hrun := run_count (L := f5_L2 all r1) (e := (Sum.inl (((allS all).length : Nat) : Int) : Int ⊕ Unit)) (fun k => ((((allS (all.take k)).length : Nat) : Int), (k : Int))) all.length (by
          rw [List.take_length]
          exact if_neg (by simp)) 0 (Nat.zero_le _) (fun k _ hk => by
          have hx := List.getElem?_eq_getElem hk
          have hg := h2 _ (List.getElem_mem hk)
          have hsplit : allS all = allS (all.take k) ++ (textS (joinS all[k]) ++ allS (all.drop (k + 1))) := by
            have : all = all.take k ++ (all[k] :: all.drop (k + 1)) := by rw [← List.drop_eq_getElem_cons hk, List.take_append_drop]
            refine (congrArg allS this).trans ?_
            rw [allS_app]
            rfl
          have hsn : allS (all.take (k + 1)) = allS (all.take k) ++ textS (joinS all[k]) := by rw [List.take_succ_eq_append_getElem hk, allS_snoc]
          generalize all[k] = x at hx hg hsplit hsn
          obtain ⟨m, q1, q2⟩ := hg.scan
          refine (if_pos (by simp only [decide_eq_true_eq]; omega)).trans ?_
          rw [at_nat hx, Option.bind_some, hd]
          have ht := text_ok (pre := allS (all.take k)) (t := joinS x) (post := allS (all.drop (k + 1))) (by have := hg.len; omega) (by rw [← hsplit]; omega)
          rw [← hsplit] at ht
          rw [ht, Option.bind_some]
          dsimp only
          rw [q1, Option.bind_some]
          dsimp only
          have hlen : m.length = x.length := by simpa using congrArg List.length q2
          rw [if_neg (by simp), if_neg (by simp), if_neg (by simp only [decide_eq_true_eq]; omega), L3_run q2 (by have := hg.toks; omega), Option.bind_some, w64_succ (by omega), hsn, List.length_append])
        exact hrun
      rw [key _ rfl, Option.bind_some]
      dsimp only
      rw [if_pos (by simp)]
      rfl
end Go.Proofs.Ytkbjimfganeooaa
