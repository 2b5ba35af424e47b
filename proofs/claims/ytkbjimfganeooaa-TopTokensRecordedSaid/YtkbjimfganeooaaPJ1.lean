/-
  Plain laws of records: packing, reading, joining.
-/
import Derived.Test.YtkbjimfganeooaaY51
set_option linter.unusedSimpArgs false
set_option linter.unusedVariables false
namespace Go.Proofs.Ytkbjimfganeooaa
open Go Go.Ab

/-! ## Sums -/

def sumS (s : List UInt8) : Int × Int := s.foldl (fun p c => ((p.1 + (c.toNat : Int)) % 255, (p.2 + (p.1 + (c.toNat : Int)) % 255) % 255)) (0, 0)

theorem sum_range (s : List UInt8) : (0 ≤ (sumS s).1 ∧ (sumS s).1 < 255) ∧ (0 ≤ (sumS s).2 ∧ (sumS s).2 < 255) := by
  have key : ∀ (l : List UInt8) (p : Int × Int), ((0 ≤ p.1 ∧ p.1 < 255) ∧ (0 ≤ p.2 ∧ p.2 < 255)) → ((0 ≤ (l.foldl (fun p c => ((p.1 + (c.toNat : Int)) % 255, (p.2 + (p.1 + (c.toNat : Int)) % 255) % 255)) p).1 ∧ (l.foldl (fun p c => ((p.1 + (c.toNat : Int)) % 255, (p.2 + (p.1 + (c.toNat : Int)) % 255) % 255)) p).1 < 255) ∧
      (0 ≤ (l.foldl (fun p c => ((p.1 + (c.toNat : Int)) % 255, (p.2 + (p.1 + (c.toNat : Int)) % 255) % 255)) p).2 ∧ (l.foldl (fun p c => ((p.1 + (c.toNat : Int)) % 255, (p.2 + (p.1 + (c.toNat : Int)) % 255) % 255)) p).2 < 255)) := by
    intro l
    induction l with
    | nil => intro p h; exact h
    | cons c l ih =>
      intro p _
      rw [List.foldl_cons]
      exact ih _ ⟨⟨by simp only; omega, by simp only; omega⟩, ⟨by simp only; omega, by simp only; omega⟩⟩
  exact key s (0, 0) (by simp)

theorem sum_succ {s : List UInt8} {k : Nat} (hk : k < s.length) : sumS (s.take (k + 1)) = (((sumS (s.take k)).1 + (s[k].toNat : Int)) % 255, ((sumS (s.take k)).2 + ((sumS (s.take k)).1 + (s[k].toNat : Int)) % 255) % 255) := by
  unfold sumS
  rw [List.take_succ_eq_append_getElem hk, List.foldl_append]
  rfl

def tot : List UInt8 → Int
  | [] => 0
  | c :: l => (c.toNat : Int) + tot l

theorem tot_app (s t : List UInt8) : tot (s ++ t) = tot s + tot t := by
  induction s with
  | nil => simp [tot]
  | cons c s ih => rw [List.cons_append, tot, tot, ih]; omega

theorem sum_tot (s : List UInt8) : (sumS s).1 = tot s % 255 := by
  have key : ∀ (l : List UInt8) (p : Int × Int), (l.foldl (fun p c => ((p.1 + (c.toNat : Int)) % 255, (p.2 + (p.1 + (c.toNat : Int)) % 255) % 255)) p).1 % 255 = (p.1 + tot l) % 255 := by
    intro l
    induction l with
    | nil => intro p; simp [tot]
    | cons c l ih =>
      intro p
      rw [List.foldl_cons, ih, tot]
      simp only
      omega
  have h := key s (0, 0)
  have h2 := sum_range s
  have h3 : (s.foldl (fun p c => ((p.1 + (c.toNat : Int)) % 255, (p.2 + (p.1 + (c.toNat : Int)) % 255) % 255)) (0, 0)) = sumS s := rfl
  rw [h3] at h
  simp only at h
  omega

/-- One byte that is another one changes the sum. -/
theorem sum_other {s t : List UInt8} {a c : UInt8} (h : a ≠ c) (h2 : ¬ ((a.toNat = 0 ∧ c.toNat = 255) ∨ (a.toNat = 255 ∧ c.toNat = 0))) : (sumS (s ++ a :: t)).1 ≠ (sumS (s ++ c :: t)).1 := by
  have h3 : a.toNat ≠ c.toNat := fun e => h (UInt8.toNat_inj.1 e)
  have ha := a.toNat_lt
  have hc := c.toNat_lt
  rw [sum_tot, sum_tot, tot_app, tot_app, tot, tot]
  omega

theorem or8 {x y : Int} (hx : 0 ≤ x ∧ x < 256) (hy : 0 ≤ y ∧ y < 256) : (((BitVec.ofInt 64 (x * 256)) ||| BitVec.ofInt 64 y).toNat : Int) = 256 * x + y := by
  obtain ⟨n, rfl⟩ : ∃ n : Nat, x = n := ⟨x.toNat, by omega⟩
  obtain ⟨m, rfl⟩ : ∃ m : Nat, y = m := ⟨y.toNat, by omega⟩
  rw [BitVec.toNat_or, BitVec.toNat_ofInt, BitVec.toNat_ofInt]
  have e1 : ((n : Int) * 256 % ((2 ^ 64 : Nat) : Int)).toNat = 2 ^ 8 * n := by omega
  have e2 : ((m : Int) % ((2 ^ 64 : Nat) : Int)).toNat = m := by omega
  rw [e1, e2, ← Nat.two_pow_add_eq_or_of_lt (by omega)]
  omega

def ckS (r : Int) : List UInt8 := [b8 (IntKind.u8.wrap (r / 256)), b8 (IntKind.u8.wrap r)]

theorem b8_nat {m : Int} (h : 0 ≤ m ∧ m < 256) : ((b8 m).toNat : Int) = m := by
  unfold b8
  have : (UInt8.ofNat m.toNat).toNat = m.toNat % 256 := by simp
  rw [this]
  omega

/-- The sum of a record as a number. -/
def sumN (s : List UInt8) : Int := 256 * (sumS s).2 + (sumS s).1

theorem sumN_range (s : List UInt8) : 0 ≤ sumN s ∧ sumN s < 65536 := by
  have := sum_range s
  unfold sumN
  omega

theorem ck_other {s t : List UInt8} (h : (sumS s).1 ≠ (sumS t).1) : ckS (sumN s) ≠ ckS (sumN t) := by
  intro e
  unfold ckS at e
  simp only [List.cons.injEq, and_true] at e
  obtain ⟨⟨a1, a2⟩, a3, a4⟩ := sum_range s
  obtain ⟨⟨b1, b2⟩, b3, b4⟩ := sum_range t
  have e2 := congrArg (fun x : UInt8 => (x.toNat : Int)) e.2
  have k1 : IntKind.u8.wrap (sumN s) = (sumS s).1 := by rw [IntKind.wrap_u8]; unfold sumN; omega
  have k2 : IntKind.u8.wrap (sumN t) = (sumS t).1 := by rw [IntKind.wrap_u8]; unfold sumN; omega
  rw [k1, k2, b8_nat (by omega), b8_nat (by omega)] at e2
  exact h e2

/-! ## Records -/

/-- The bytes ahead of the data. -/
def hdS (k n : Int) : List UInt8 := [b8 k, b8 (IntKind.u8.wrap (n / 256)), b8 (IntKind.u8.wrap n)]

/-- The bytes of a record. -/
def Pk (x : RecordEntry) : List UInt8 := hdS x.fKind x.fData.length ++ (x.fData ++ ckS (sumN (hdS x.fKind x.fData.length ++ x.fData)))

theorem Pk_len (x : RecordEntry) : (Pk x).length = x.fData.length + 5 := by
  unfold Pk hdS ckS
  simp

/-- The bytes of all records. -/
def Rt (x : RecordEntry) : Prop := (0 ≤ x.fKind ∧ x.fKind ≤ 255) ∧ x.fData.length ≤ 7000

theorem f29_eq {s : List UInt8} (hs : s.length ≤ 100000) : f29 s = some (sumN s) := by
  unfold f29
  have hrun := run_count (L := f29_L1 s) (e := ((sumS s).1, (sumS s).2)) (fun k => ((sumS (s.take k)).1, (sumS (s.take k)).2, (k : Int))) s.length (by
    simp only [f29_L1]
    rw [if_neg (by simp), List.take_length]) 0 (Nat.zero_le _) (fun k _ hk => by
    have hx := List.getElem?_eq_getElem hk
    obtain ⟨⟨a1, a2⟩, b1, b2⟩ := sum_range (s.take k)
    have hc : (0 : Int) ≤ (s[k].toNat : Int) ∧ (s[k].toNat : Int) < 256 := ⟨by omega, by have := s[k].toNat_lt; omega⟩
    have hw : IntKind.i64.wrap ((k : Int) + 1) = ((k + 1 : Nat) : Int) := by rw [w64 (by omega) (by omega)]; omega
    simp only [f29_L1]
    rw [if_pos (by simp; omega), at_nat hx, sum_succ hk]
    simp only [Option.bind_some]
    generalize (s[k].toNat : Int) = c at *
    generalize (sumS (s.take k)).1 = a at *
    generalize (sumS (s.take k)).2 = b at *
    have e1 : IntKind.u64.wrap c = c := by rw [IntKind.wrap_u64]; omega
    have e2 : IntKind.u64.wrap (a + c) = a + c := by rw [IntKind.wrap_u64]; omega
    have e3 : (a + c).tmod 255 = (a + c) % 255 := Int.tmod_eq_emod_of_nonneg (by omega)
    have e4 : IntKind.u64.wrap (b + (a + c) % 255) = b + (a + c) % 255 := by rw [IntKind.wrap_u64]; omega
    have e5 : (b + (a + c) % 255).tmod 255 = (b + (a + c) % 255) % 255 := Int.tmod_eq_emod_of_nonneg (by omega)
    simp only [e1, e2, e3, e4, e5, hw])
  have h0 : ((sumS (s.take 0)).1, (sumS (s.take 0)).2, ((0 : Nat) : Int)) = ((0 : Int), (0 : Int), (0 : Int)) := by simp [sumS]
  rw [h0] at hrun
  rw [hrun]
  unfold sumN
  obtain ⟨⟨a1, a2⟩, b1, b2⟩ := sum_range s
  generalize (sumS s).1 = a at *
  generalize (sumS s).2 = b at *
  simp only [Option.bind_some]
  have e0 : (2 : Int) ^ (min (Int.toNat 8) (IntKind.bits .u64)) = 256 := by decide
  have e1 : IntKind.u64.wrap (b * 256) = b * 256 := by rw [IntKind.wrap_u64]; omega
  rw [e0, e1, show IntKind.bits .u64 = 64 from rfl, or8 (by omega) (by omega)]
  have e2 : IntKind.u64.wrap (256 * b + a) = 256 * b + a := by rw [IntKind.wrap_u64]; omega
  rw [e2, w64 (by omega) (by omega)]

theorem f28_eq (r : Int) : f28 r = some (ckS r) := by
  unfold f28 ckS
  have e0 : (2 : Int) ^ (min (Int.toNat 8) (IntKind.bits .i64)) = 256 := by decide
  rw [e0, Int.fdiv_eq_ediv_of_nonneg _ (by decide)]
  rfl

theorem pack_ok {x : RecordEntry} (h : Rt x) : f17 x = some (Pk x, 0) := by
  obtain ⟨⟨h1, h2⟩, h3⟩ := h
  have hck : ∀ r, (ckS r).length = 2 := fun r => rfl
  have e1 : IntKind.u8.wrap x.fKind = x.fKind := by rw [IntKind.wrap_u8]; omega
  have hx : List.map b8 [x.fKind] ++ ckS (x.fData.length : Int) ++ x.fData = hdS x.fKind x.fData.length ++ x.fData := rfl
  have hl : (hdS x.fKind x.fData.length ++ x.fData).length ≤ 100000 := by simp [hdS]; omega
  unfold f17
  rw [if_neg (by simp; omega), if_neg (by simp; omega), if_neg (by simp; omega), f28_eq]
  simp only [Option.bind_some, e1]
  rw [cat_some (by simp [hck])]
  simp only [Option.bind_some]
  rw [cat_some (by simp [hck]; omega), hx]
  simp only [Option.bind_some]
  rw [f29_eq hl]
  simp only [Option.bind_some]
  rw [f28_eq]
  simp only [Option.bind_some]
  rw [cat_some (by rw [hck]; omega)]
  simp only [Option.bind_some]
  unfold Pk
  rw [List.append_assoc]

theorem slc_mid {α : Type} {pre m post : List α} {lo hi : Int} (h1 : lo = pre.length) (h2 : hi = (pre.length : Int) + m.length) : slc? (pre ++ (m ++ post)) lo hi = some m := by
  subst h1 h2
  rw [slc_some ⟨by omega, by omega, by simp only [List.length_append]; omega⟩, show ((pre.length : Int) + m.length).toNat = (pre ++ m).length by simp only [List.length_append]; omega, show ((pre.length : Int)).toNat = pre.length by omega, ← List.append_assoc, List.take_left, List.drop_left]

theorem next_short {s : List UInt8} {a : Nat} (h1 : a ≤ s.length) (h2 : s.length < a + 5) : f18 s a = some (RecordEntry.mk 0 [], 0, 20) := by
  have o1 : f30p s a = some 0 := by unfold f30p; rw [if_neg (by simp), if_neg (by simp; omega)]
  have g1 : f31p s a 5 = some false := by unfold f31p; rw [w64 (by omega) (by omega)]; simp; omega
  unfold f18
  rw [o1]
  simp only [Option.bind_some]
  rw [if_neg (by simp), g1]
  simp only [Option.bind_some]
  rw [if_pos (by simp)]

theorem next_flow {pre rest : List UInt8} {k n : Int} (hk : 0 ≤ k ∧ k ≤ 255) (hn : 0 ≤ n ∧ n ≤ 65535) (hl : (pre ++ (hdS k n ++ rest)).length ≤ 100000) (h2 : 2 ≤ rest.length) :
    ((rest.length : Int) < n + 2 → f18 (pre ++ (hdS k n ++ rest)) pre.length = some (RecordEntry.mk 0 [], 0, 20)) ∧
    (∀ d ck post, rest = d ++ (ck ++ post) → (d.length : Int) = n → ck.length = 2 → f18 (pre ++ (hdS k n ++ rest)) pre.length = some (if ck = ckS (sumN (hdS k n ++ d)) then (RecordEntry.mk k d, (pre.length : Int) + 5 + n, 0) else (RecordEntry.mk 0 [], 0, 17))) := by
  have hlen : (pre ++ (hdS k n ++ rest)).length = pre.length + 3 + rest.length := by simp [hdS]; omega
  have hhl : (hdS k n).length = 3 := rfl
  have hm1 : slc? (pre ++ (hdS k n ++ rest)) (pre.length : Int) ((pre.length : Int) + 3) = some (hdS k n) := slc_mid rfl (by rw [hhl]; rfl)
  have hm2 : ∀ d ck post, rest = d ++ (ck ++ post) → (d.length : Int) = n → ck.length = 2 → slc? (pre ++ (hdS k n ++ rest)) ((pre.length : Int) + 3) ((pre.length : Int) + 3 + n) = some d ∧ slc? (pre ++ (hdS k n ++ rest)) ((pre.length : Int) + 3 + n) ((pre.length : Int) + 3 + n + 2) = some ck := by
    intro d ck post hr hd hc
    constructor
    · rw [hr, ← List.append_assoc]
      exact slc_mid (by rw [List.length_append, hhl]; omega) (by rw [List.length_append, hhl]; omega)
    · rw [hr, ← List.append_assoc pre, ← List.append_assoc (pre ++ hdS k n)]
      exact slc_mid (by rw [List.length_append, List.length_append, hhl]; omega) (by rw [List.length_append, List.length_append, hhl]; omega)
  obtain ⟨a, ha⟩ : ∃ a : Int, a = (pre.length : Int) := ⟨_, rfl⟩
  simp only [← ha] at hm1 hm2 ⊢
  generalize pre ++ (hdS k n ++ rest) = s at *
  have e1 : IntKind.u8.wrap (n / 256) = n / 256 := by rw [IntKind.wrap_u8]; omega
  have e2 : IntKind.u8.wrap n = n % 256 := IntKind.wrap_u8 _
  obtain ⟨b0, hb0, v0⟩ : ∃ b0, b0 = b8 k ∧ (b0.toNat : Int) = k := ⟨_, rfl, b8_nat (by omega)⟩
  obtain ⟨b1, hb1, v1⟩ : ∃ b1, b1 = b8 (IntKind.u8.wrap (n / 256)) ∧ (b1.toNat : Int) = n / 256 := ⟨_, rfl, by rw [e1, b8_nat (by omega)]⟩
  obtain ⟨b2, hb2, v2⟩ : ∃ b2, b2 = b8 (IntKind.u8.wrap n) ∧ (b2.toNat : Int) = n % 256 := ⟨_, rfl, by rw [e2, b8_nat (by omega)]⟩
  have hh : hdS k n = [b0, b1, b2] := by rw [hb0, hb1, hb2]; rfl
  rw [hh] at hm1 ⊢
  have hg0 : at? [b0, b1, b2] 0 = some b0 := rfl
  have hg1 : at? [b0, b1, b2] 1 = some b1 := rfl
  have hg2 : at? [b0, b1, b2] 2 = some b2 := rfl
  have o1 : f30p s a = some 0 := by unfold f30p; rw [if_neg (by simp; omega), if_neg (by simp; omega)]
  have g1 : f31p s a 5 = some true := by unfold f31p; rw [w64 (by omega) (by omega)]; simp; omega
  have c1 : IntKind.i64.wrap (a + 3) = a + 3 := w64 (by omega) (by omega)
  have c2 : IntKind.i64.wrap (a + 3 - 3) = a := by rw [w64 (by omega) (by omega)]; omega
  have hword : IntKind.i64.wrap ((BitVec.ofInt (IntKind.bits .i64) (IntKind.i64.wrap ((IntKind.i64.wrap (b1.toNat : Int)) * 2 ^ (min (Int.toNat 8) (IntKind.bits .i64)))) ||| BitVec.ofInt (IntKind.bits .i64) (IntKind.i64.wrap (b2.toNat : Int))).toNat : Int) = n := by
    have e0 : (2 : Int) ^ (min (Int.toNat 8) (IntKind.bits .i64)) = 256 := by decide
    rw [e0, v1, v2, w64 (a := n / 256) (by omega) (by omega), w64 (a := n % 256) (by omega) (by omega), w64 (a := n / 256 * 256) (by omega) (by omega), show IntKind.bits .i64 = 64 from rfl, or8 (by omega) (by omega), w64 (by omega) (by omega)]
    omega
  have x1 : IntKind.i64.wrap (a + 3 + n) = a + 3 + n := w64 (by omega) (by omega)
  have x2 : IntKind.i64.wrap (a + 3 + n - n) = a + 3 := by rw [w64 (by omega) (by omega)]; omega
  have x4 : IntKind.i64.wrap (a + 3 + n + 2) = a + 3 + n + 2 := w64 (by omega) (by omega)
  have x5 : IntKind.i64.wrap (a + 3 + n + 2 - 2) = a + 3 + n := by rw [w64 (by omega) (by omega)]; omega
  have x6 : IntKind.i64.wrap (n + 2) = n + 2 := w64 (by omega) (by omega)
  have x7 : IntKind.i64.wrap ((s.length : Int) - (a + 3)) = (s.length : Int) - (a + 3) := w64 (by omega) (by omega)
  have x8 : IntKind.i64.wrap (b0.toNat : Int) = k := by rw [v0, w64 (by omega) (by omega)]
  have hC1 : (f18_C1 s a).run = some ([b0, b1, b2], a + 3) := by simp only [f18_C1, c1, c2, hm1, Option.bind_some]
  refine ⟨fun hr => ?_, fun d ck post hr hd hc => ?_⟩
  · have g2 : f31p s (a + 3) (n + 2) = some false := by unfold f31p; rw [x7]; simp; omega
    unfold f18
    rw [o1]
    simp only [Option.bind_some]
    rw [if_neg (by simp), g1]
    simp only [Option.bind_some]
    rw [if_neg (by simp), hC1]
    rw [Option.bind_some]
    simp only []
    rw [hg1, Option.bind_some, hg2, Option.bind_some, hword, x6, g2, Option.bind_some]
    rw [if_pos (by simp)]
  · obtain ⟨m1, m2⟩ := hm2 d ck post hr hd hc
    have hrl : rest.length = d.length + 2 + post.length := by rw [hr]; simp only [List.length_append]; omega
    have g2 : f31p s (a + 3) (n + 2) = some true := by unfold f31p; rw [x7]; simp; omega
    have hcl : ([b0, b1, b2] ++ d).length ≤ 100000 := by rw [List.length_append]; simp only [List.length_cons, List.length_nil]; omega
    have hcat : cat? [b0, b1, b2] d = some ([b0, b1, b2] ++ d) := cat_some (by simp only [List.length_cons, List.length_nil]; omega)
    have hC2 : (f18_C2 s (a + 3) b1 b2).run = some (d, a + 3 + n) := by simp only [f18_C2, hword, x1, x2, m1, Option.bind_some]
    have hC3 : (f18_C3 s (a + 3 + n)).run = some (ck, a + 3 + n + 2) := by simp only [f18_C3, x4, x5, m2, Option.bind_some]
    unfold f18
    rw [o1]
    simp only [Option.bind_some]
    rw [if_neg (by simp), g1]
    simp only [Option.bind_some]
    rw [if_neg (by simp), hC1]
    rw [Option.bind_some]
    simp only []
    rw [hg1, Option.bind_some, hg2, Option.bind_some, hword, x6, g2, Option.bind_some]
    rw [if_neg (by simp), hC2, Option.bind_some]
    simp only []
    rw [hC3, Option.bind_some]
    simp only []
    rw [hcat, Option.bind_some, f29_eq hcl, Option.bind_some, f28_eq, Option.bind_some]
    by_cases hck : ck = ckS (sumN ([b0, b1, b2] ++ d))
    · rw [if_neg (by simp [hck]), if_pos hck, hg0, Option.bind_some, x8]
      simp only [f18_J4]
      rw [show a + 3 + n + 2 = a + 5 + n by omega]
    · rw [if_pos (by simpa using hck), if_neg hck]

theorem next_ok {pre post : List UInt8} {x : RecordEntry} (h : Rt x) (hl : (pre ++ (Pk x ++ post)).length ≤ 100000) : f18 (pre ++ (Pk x ++ post)) pre.length = some (x, ((pre ++ Pk x).length : Int), 0) := by
  have hp : Pk x ++ post = hdS x.fKind x.fData.length ++ (x.fData ++ (ckS (sumN (hdS x.fKind x.fData.length ++ x.fData)) ++ post)) := by unfold Pk; simp only [List.append_assoc]
  have hpl := Pk_len x
  rw [hp] at hl ⊢
  have := (next_flow (pre := pre) (rest := x.fData ++ (ckS (sumN (hdS x.fKind x.fData.length ++ x.fData)) ++ post)) h.1 ⟨by omega, by have := h.2; omega⟩ hl (by simp [ckS]; omega)).2 x.fData _ post rfl rfl rfl
  rw [this, if_pos rfl]
  simp only [List.length_append, hpl]
  congr 3
  omega

end Go.Proofs.Ytkbjimfganeooaa
