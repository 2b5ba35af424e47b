/-
  Plain laws of the sender of layer 56: NetworkReads.
-/
import Derived.Test.YtlidbikdeboihaaP5
import Derived.Test.YtlidbikdeboihaaY102
set_option linter.unusedSimpArgs false
set_option linter.unusedVariables false
namespace Go.Proofs.Ytlidbikdeboihaa
open Go Go.Ab

/-! ## Bits -/

theorem low7 (b : UInt8) : IntKind.u8.wrap ((BitVec.ofInt (IntKind.bits .u8) (b.toNat : Int) &&& BitVec.ofInt (IntKind.bits .u8) 127).toNat : Int) = (b.toNat : Int).tmod 128 := by
  have h : ∀ n : Fin 256, IntKind.u8.wrap ((BitVec.ofInt (IntKind.bits .u8) ((n.1 : Nat) : Int) &&& BitVec.ofInt (IntKind.bits .u8) 127).toNat : Int) = ((n.1 : Nat) : Int).tmod 128 := by decide +kernel
  exact h ⟨b.toNat, b.toNat_lt⟩

/-- The number so far, with seven bits more. -/
def nz (z c sh : Int) : Int := IntKind.u64.wrap ((BitVec.ofInt (IntKind.bits .u64) z ||| BitVec.ofInt (IntKind.bits .u64) (IntKind.u64.wrap ((IntKind.u64.wrap (c.tmod 128)) * 2 ^ (min (Int.toNat sh) (IntKind.bits .u64))))).toNat : Int)

theorem nz_def (z c sh : Int) : IntKind.u64.wrap ((BitVec.ofInt (IntKind.bits .u64) z ||| BitVec.ofInt (IntKind.bits .u64) (IntKind.u64.wrap ((IntKind.u64.wrap (c.tmod 128)) * 2 ^ (min (Int.toNat sh) (IntKind.bits .u64))))).toNat : Int) = nz z c sh := rfl

theorem nz_range (z c sh : Int) : 0 ≤ nz z c sh ∧ nz z c sh < 18446744073709551616 := by
  unfold nz
  rw [IntKind.wrap_u64]
  omega

/-- What the sign bit tells. -/
def unz (z : Int) : Int := if z.tmod 2 = 1 then IntKind.i64.wrap ((BitVec.ofInt (IntKind.bits .i64) (-1) ^^^ BitVec.ofInt (IntKind.bits .i64) (IntKind.i64.wrap (Int.fdiv z (2 ^ (min (Int.toNat 1) (IntKind.bits .u64)))))).toNat : Int)
  else IntKind.i64.wrap (Int.fdiv z (2 ^ (min (Int.toNat 1) (IntKind.bits .u64))))

theorem unz_def (z : Int) : (if z.tmod 2 = 1 then IntKind.i64.wrap ((BitVec.ofInt (IntKind.bits .i64) (-1) ^^^ BitVec.ofInt (IntKind.bits .i64) (IntKind.i64.wrap (Int.fdiv z (2 ^ (min (Int.toNat 1) (IntKind.bits .u64)))))).toNat : Int)
  else IntKind.i64.wrap (Int.fdiv z (2 ^ (min (Int.toNat 1) (IntKind.bits .u64))))) = unz z := rfl

theorem and1 {z : Int} (h : 0 ≤ z ∧ z < 18446744073709551616) : ((BitVec.ofInt (IntKind.bits .u64) z &&& BitVec.ofInt (IntKind.bits .u64) 1).toNat : Int) = z % 2 := by
  obtain ⟨n, rfl⟩ : ∃ n : Nat, z = n := ⟨z.toNat, by omega⟩
  show (((BitVec.ofInt 64 (n : Int)) &&& BitVec.ofInt 64 1).toNat : Int) = _
  rw [BitVec.toNat_and, BitVec.toNat_ofInt, BitVec.toNat_ofInt]
  have e1 : ((n : Int) % ((2 ^ 64 : Nat) : Int)).toNat = n := by omega
  have e2 : ((1 : Int) % ((2 ^ 64 : Nat) : Int)).toNat = 1 := by decide
  rw [e1, e2, Nat.and_one_is_mod]
  omega

theorem unz58 {z : Int} (h : 0 ≤ z ∧ z < 18446744073709551616) :
    (IntKind.i64.wrap ((BitVec.ofInt (IntKind.bits .i64) (IntKind.i64.wrap (Int.fdiv z (2 ^ (min (Int.toNat 1) (IntKind.bits .u64))))) ^^^ BitVec.ofInt (IntKind.bits .i64) (IntKind.i64.wrap (0 - (IntKind.i64.wrap (IntKind.u64.wrap ((BitVec.ofInt (IntKind.bits .u64) z &&& BitVec.ofInt (IntKind.bits .u64) 1).toNat : Int)))))).toNat : Int)) = unz z := by
  rw [and1 h]
  unfold unz
  rw [Int.tmod_eq_emod_of_nonneg h.1]
  generalize hw : IntKind.i64.wrap (Int.fdiv z (2 ^ (min (Int.toNat 1) (IntKind.bits .u64)))) = w
  have hwr : -9223372036854775808 ≤ w ∧ w ≤ 9223372036854775807 := by
    rw [← hw, IntKind.wrap_i64]; omega
  have hp : z % 2 = 0 ∨ z % 2 = 1 := by omega
  rcases hp with hp | hp
  · rw [hp, if_neg (by decide)]
    have e : IntKind.i64.wrap (0 - IntKind.i64.wrap (IntKind.u64.wrap 0)) = 0 := by decide
    rw [e]
    show IntKind.i64.wrap (((BitVec.ofInt 64 w) ^^^ BitVec.ofInt 64 0).toNat : Int) = w
    rw [show BitVec.ofInt 64 0 = 0#64 by decide, BitVec.xor_zero, BitVec.toNat_ofInt, IntKind.wrap_i64]
    omega
  · rw [hp, if_pos rfl]
    have e : IntKind.i64.wrap (0 - IntKind.i64.wrap (IntKind.u64.wrap 1)) = -1 := by decide
    rw [e, BitVec.xor_comm]

/-! ## Numbers of seven bits a letter -/

def fin58 : (Int × Int) ⊕ (Int × Int) → Int × Int × Int
  | .inl (z, q) => (unz z, q, 0)
  | .inr (_, c) => (0, 0, c)
def fin61 : Unit ⊕ (Int × Int × Int) → Int × Int × Int
  | .inl _ => (0, 0, 3)
  | .inr (c, v, q) => (v, q, c)
def ok58 (n : Nat) : (Int × Int) ⊕ (Int × Int) → Prop
  | .inl (z, q) => (0 ≤ z ∧ z < 18446744073709551616) ∧ ∃ k : Nat, q = k ∧ k ≤ n
  | .inr (_, c) => c ≠ 0

theorem vstep {s : List UInt8} (hs : s.length ≤ 1500) {a : Nat} {i : Nat} (hi : i ≤ 9) (hp : a + i ≤ s.length) (z : Int) :
    (∃ e58 e61, (f58_L2 s).body (z, 7 * (i : Int), ((a + i : Nat) : Int)) = some (.brk e58) ∧ (f61_L1 (a : Int) s).body (z, (i : Int)) = some (.brk e61) ∧ fin58 e58 = fin61 e61 ∧ ok58 s.length e58) ∨
    (∃ z', i < 9 ∧ a + i < s.length ∧ (f58_L2 s).body (z, 7 * (i : Int), ((a + i : Nat) : Int)) = some (.next (z', 7 * ((i + 1 : Nat) : Int), ((a + (i + 1) : Nat) : Int))) ∧ (f61_L1 (a : Int) s).body (z, (i : Int)) = some (.next (z', ((i + 1 : Nat) : Int)))) ∨
    (∃ z' q, i = 9 ∧ (f58_L2 s).body (z, 7 * (i : Int), ((a + i : Nat) : Int)) = some (.brk (.inr (q, 3))) ∧ (f61_L1 (a : Int) s).body (z, (i : Int)) = some (.next (z', 10))) := by
  have w1 : IntKind.i64.wrap ((s.length : Int) - ((a + i : Nat) : Int)) = (s.length : Int) - ((a + i : Nat) : Int) := w64 (by omega) (by omega)
  have w2 : IntKind.i64.wrap ((a : Int) + (i : Int)) = ((a + i : Nat) : Int) := by rw [w64 (by omega) (by omega)]; omega
  have w3 : IntKind.i64.wrap (((a + i : Nat) : Int) + 1) = ((a + i : Nat) : Int) + 1 := w64 (by omega) (by omega)
  have w4 : IntKind.i64.wrap (((a + i : Nat) : Int) + 1 - 1) = ((a + i : Nat) : Int) := by rw [w64 (by omega) (by omega)]; omega
  have w5 : IntKind.i64.wrap (7 * (i : Int)) = 7 * (i : Int) := w64 (by omega) (by omega)
  have w6 : IntKind.i64.wrap (7 * (i : Int) + 7) = 7 * ((i + 1 : Nat) : Int) := by rw [w64 (by omega) (by omega)]; omega
  have w7 : IntKind.i64.wrap ((i : Int) + 1) = ((i + 1 : Nat) : Int) := by rw [w64 (by omega) (by omega)]; omega
  have wq : ((a + i : Nat) : Int) + 1 = ((a + (i + 1) : Nat) : Int) := by omega
  by_cases hlen : a + i = s.length
  · left
    refine ⟨.inr (((a + i : Nat) : Int), 20), .inr (20, 0, 0), ?_, ?_, rfl, by simp [ok58]⟩
    · simp only [f58_L2, f82p, w1, Option.bind_some]
      rw [if_pos (by simp; omega)]
    · simp only [f61_L1, w2]
      rw [if_pos (by simp; omega), if_pos (by simp; omega)]
  · have hlt : a + i < s.length := by omega
    have hx := List.getElem?_eq_getElem hlt
    generalize s[a + i] = b at hx
    have hslc : slc? s ((a + i : Nat) : Int) (((a + i : Nat) : Int) + 1) = some [b] := by
      rw [slc_some ⟨by omega, by omega, by omega⟩]
      have e1 : (((a + i : Nat) : Int) + 1).toNat = a + i + 1 := by omega
      have e2 : (((a + i : Nat) : Int)).toNat = a + i := by omega
      rw [e1, e2, List.take_add_one, hx, List.drop_append_of_le_length (by simp; omega)]
      simp
    have hb : at? [b] 0 = some b := rfl
    have hc : (0 : Int) ≤ (b.toNat : Int) ∧ (b.toNat : Int) < 256 := ⟨by omega, by have := b.toNat_lt; omega⟩
    have d58 : (f58_L2 s).body (z, 7 * (i : Int), ((a + i : Nat) : Int)) = (if decide (7 * (i : Int) = 63) = true then (if decide (1 < (b.toNat : Int)) = true then some (.brk (.inr (((a + (i + 1) : Nat) : Int), 3))) else if decide ((b.toNat : Int) = 0) = true then some (.brk (.inr (((a + (i + 1) : Nat) : Int), 3))) else some (.brk (.inl (nz z b.toNat (7 * (i : Int)), ((a + (i + 1) : Nat) : Int)))))
        else if decide ((b.toNat : Int) = 0) = true then (if decide (0 < 7 * (i : Int)) = true then some (.brk (.inr (((a + (i + 1) : Nat) : Int), 3))) else some (.brk (.inl (nz z b.toNat (7 * (i : Int)), ((a + (i + 1) : Nat) : Int)))))
        else if decide ((b.toNat : Int) < 128) = true then some (.brk (.inl (nz z b.toNat (7 * (i : Int)), ((a + (i + 1) : Nat) : Int)))) else some (.next (nz z b.toNat (7 * (i : Int)), 7 * ((i + 1 : Nat) : Int), ((a + (i + 1) : Nat) : Int)))) := by
      simp only [f58_L2, f58_C3, f82p, w1, w3, w4, w6, hslc, hb, low7, Option.bind_some]
      rw [if_neg (by simp; omega), must_true (by omega)]
      simp only [wq]
      generalize (b.toNat : Int) = c at *
      unfold nz
      by_cases h63 : 7 * (i : Int) = 63
      · by_cases h1 : 1 < c
        · simp [h63, h1]
        · by_cases h0 : c = 0
          · simp [h63, h1, h0]
          · have : c < 128 := by omega
            simp [h63, h1, h0, this]
      · by_cases h0 : c = 0
        · by_cases hi0 : (0 : Int) < 7 * (i : Int)
          · simp [h63, h0, hi0]
          · simp [h63, h0, hi0]
        · by_cases h8 : c < 128 <;> simp [h63, h0, h8]
    have d61 : (f61_L1 (a : Int) s).body (z, (i : Int)) = (if decide (128 ≤ (b.toNat : Int)) = true then some (.next (nz z b.toNat (7 * (i : Int)), ((i + 1 : Nat) : Int)))
        else if 0 < i ∧ (b.toNat : Int) = 0 then some (.brk (.inr (3, 0, 0))) else if i = 9 ∧ 1 < (b.toNat : Int) then some (.brk (.inr (3, 0, 0))) else some (.brk (.inr (0, unz (nz z b.toNat (7 * (i : Int))), ((a + (i + 1) : Nat) : Int))))) := by
      have hJ : (f61_J2 z b (i : Int) (a : Int)).run () = some (.brk (.inr (0, unz (nz z b.toNat (7 * (i : Int))), ((a + (i + 1) : Nat) : Int)))) := by
        simp only [f61_J2, w2, w5, w3]
        by_cases hpar : (nz z b.toNat (7 * (i : Int))).tmod 2 = 1
        · refine (if_pos (decide_eq_true hpar)).trans ?_
          rw [show unz (nz z b.toNat (7 * (i : Int))) = _ from if_pos hpar, wq]
          rfl
        · refine (if_neg (fun h => hpar (of_decide_eq_true h))).trans ?_
          rw [show unz (nz z b.toNat (7 * (i : Int))) = _ from if_neg hpar, wq]
          rfl
      simp only [f61_L1, w2, w5, w7]
      rw [if_pos (by simp; omega), if_neg (by simp; omega), at_nat hx, Option.bind_some, must_true (by omega)]
      simp only [hJ, nz_def]
      generalize unz (nz z b.toNat (7 * (i : Int))) = u
      generalize nz z b.toNat (7 * (i : Int)) = z'
      generalize ((a + (i + 1) : Nat) : Int) = q
      generalize (b.toNat : Int) = c at *
      by_cases h8 : 128 ≤ c
      · simp [h8]
      · by_cases hi0 : 0 < i
        · by_cases h0 : c = 0
          · simp [h8, hi0, h0]
          · by_cases h9 : i = 9
            · by_cases h1 : 1 < c
              · simp [h8, h0, h9, h1]
              · simp [h8, h0, h9, h1]
            · have h9' : ¬ (i : Int) = 9 := by omega
              simp [h8, hi0, h0, h9, h9']
        · obtain rfl : i = 0 := by omega
          simp [h8]
    rw [d58, d61]
    have hnz := nz_range z b.toNat (7 * (i : Int))
    generalize nz z b.toNat (7 * (i : Int)) = z' at *
    generalize (b.toNat : Int) = c at *
    by_cases h8 : 128 ≤ c
    · by_cases h9 : i = 9
      · right; right
        subst h9
        have h1 : 1 < c := by omega
        exact ⟨z', ((a + (9 + 1) : Nat) : Int), rfl, by simp [h1], by simp [h8]⟩
      · right; left
        have h63 : ¬ 7 * (i : Int) = 63 := by omega
        have h0 : ¬ c = 0 := by omega
        have h8' : ¬ c < 128 := by omega
        exact ⟨z', by omega, hlt, by simp [h63, h0, h8'], by simp [h8]⟩
    · left
      have h8' : c < 128 := by omega
      by_cases h9 : i = 9
      · subst h9
        by_cases h1 : 1 < c
        · exact ⟨.inr (((a + (9 + 1) : Nat) : Int), 3), .inr (3, 0, 0), by simp [h1], by simp [h8, h1], rfl, by simp [ok58]⟩
        · by_cases h0 : c = 0
          · exact ⟨.inr (((a + (9 + 1) : Nat) : Int), 3), .inr (3, 0, 0), by simp [h1, h0], by simp [h8, h1, h0], rfl, by simp [ok58]⟩
          · exact ⟨.inl (z', ((a + (9 + 1) : Nat) : Int)), .inr (0, unz z', ((a + (9 + 1) : Nat) : Int)), by simp [h1, h0], by simp [h8, h1, h0], rfl, hnz, _, rfl, by omega⟩
      · have h63 : ¬ 7 * (i : Int) = 63 := by omega
        by_cases h0 : c = 0
        · by_cases hi0 : 0 < i
          · have hi0' : (0 : Int) < 7 * (i : Int) := by omega
            exact ⟨.inr (((a + (i + 1) : Nat) : Int), 3), .inr (3, 0, 0), by simp only [h63, h0, hi0', decide_false, decide_true, Bool.false_eq_true, if_false, if_true], by simp [h0, hi0], rfl, by simp [ok58]⟩
          · have hi0' : ¬ (0 : Int) < 7 * (i : Int) := by omega
            exact ⟨.inl (z', ((a + (i + 1) : Nat) : Int)), .inr (0, unz z', ((a + (i + 1) : Nat) : Int)), by simp only [h63, h0, hi0', decide_false, decide_true, Bool.false_eq_true, if_false, if_true], by simp [h0, hi0, h9], rfl, hnz, _, rfl, by omega⟩
        · exact ⟨.inl (z', ((a + (i + 1) : Nat) : Int)), .inr (0, unz z', ((a + (i + 1) : Nat) : Int)), by simp only [h63, h0, h8', decide_false, decide_true, Bool.false_eq_true, if_false, if_true], by simp [h8, h0, h9], rfl, hnz, _, rfl, by omega⟩

theorem vint {s : List UInt8} (hs : s.length ≤ 1500) {a : Nat} : ∀ m i, i + m = 9 → a + i ≤ s.length → ∀ z, ∃ e58 e61, (f58_L2 s).run (z, 7 * (i : Int), ((a + i : Nat) : Int)) = some e58 ∧ (f61_L1 (a : Int) s).run (z, (i : Int)) = some e61 ∧ fin58 e58 = fin61 e61 ∧ ok58 s.length e58 := by
  intro m
  induction m with
  | zero =>
    intro i hi hp z
    rcases vstep hs (show i ≤ 9 by omega) hp z with ⟨e58, e61, h1, h2, h3, h4⟩ | ⟨z', h, _⟩ | ⟨z', q, h, h1, h2⟩
    · exact ⟨e58, e61, iter_brk h1, iter_brk h2, h3, h4⟩
    · omega
    · refine ⟨.inr (q, 3), .inl (), iter_brk h1, ?_, rfl, by simp [ok58]⟩
      rw [show (f61_L1 (a : Int) s).run (z, (i : Int)) = iter (f61_L1 (a : Int) s).body (z, (i : Int)) from rfl, iter_next h2]
      exact iter_brk (by simp [f61_L1])
  | succ m ih =>
    intro i hi hp z
    rcases vstep hs (show i ≤ 9 by omega) hp z with ⟨e58, e61, h1, h2, h3, h4⟩ | ⟨z', h, hl, h1, h2⟩ | ⟨z', q, h, h1, h2⟩
    · exact ⟨e58, e61, iter_brk h1, iter_brk h2, h3, h4⟩
    · obtain ⟨e58, e61, k1, k2, k3, k4⟩ := ih (i + 1) (by omega) (by omega) z'
      exact ⟨e58, e61, (iter_next h1).trans k1, (iter_next h2).trans k2, k3, k4⟩
    · omega

theorem at_ok {s : List UInt8} {a : Nat} (ha : a ≤ s.length) : f81p s (a : Int) = some 0 ∧ f86 s (a : Int) = some true := by
  constructor
  · unfold f81p; rw [if_neg (by simp), if_neg (by simp; omega)]
  · unfold f86; rw [if_pos (by simp)]; simp; omega

theorem int_eq {s : List UInt8} (hs : s.length ≤ 1500) {a : Nat} (ha : a ≤ s.length) : ∃ r : Int × Int × Int, f58 s (a : Int) = some r ∧ f61 s (a : Int) = some r ∧ (r.2.2 = 0 → ∃ k : Nat, r.2.1 = k ∧ k ≤ s.length) := by
  obtain ⟨e58, e61, h1, h2, h3, h4⟩ := vint hs (a := a) 9 0 rfl (by omega) 0
  have h1' : (f58_L2 s).run (0, 0, (a : Int)) = some e58 := h1
  have h2' : (f61_L1 (a : Int) s).run (0, 0) = some e61 := h2
  obtain ⟨o1, o2⟩ := at_ok ha
  refine ⟨fin58 e58, ?_, ?_, ?_⟩
  · unfold f58
    rw [o1]
    simp only [Option.bind_some, ne_eq, not_true_eq_false, decide_false, Bool.false_eq_true, if_false, f58_C1, h1']
    rcases e58 with ⟨z, q⟩ | ⟨q, c⟩
    · simp only [Option.bind_some, unz58 h4.1, fin58, not_true_eq_false, decide_false, Bool.false_eq_true, if_false]
    · have h4' : c ≠ 0 := h4
      simp [fin58, h4']
  · unfold f61
    rw [o2]
    simp only [Option.bind_some, Bool.not_true, Bool.false_eq_true, if_false, h2', h3]
    rcases e61 with _ | ⟨c, v, q⟩ <;> rfl
  · rcases e58 with ⟨z, q⟩ | ⟨q, c⟩
    · intro _; exact h4.2
    · intro h; exact absurd h h4

theorem str_eq {s : List UInt8} (hs : s.length ≤ 1500) {a : Nat} (ha : a ≤ s.length) : ∃ r : List UInt8 × Int × Int, f59 s (a : Int) = some r ∧ f62 s (a : Int) = some r := by
  obtain ⟨e58, e61, h1, h2, h3, h4⟩ := vint hs (a := a) 9 0 rfl (by omega) 0
  have h1' : (f59_L3 s).run (0, 0, (a : Int)) = some e58 := h1
  have h2' : (f61_L1 (a : Int) s).run (0, 0) = some e61 := h2
  obtain ⟨o1, o2⟩ := at_ok ha
  have hf61 : f61 s (a : Int) = some (fin58 e58) := by
    unfold f61
    rw [o2]
    simp only [Option.bind_some, Bool.not_true, Bool.false_eq_true, if_false, h2', h3]
    rcases e61 with _ | ⟨c, v, q⟩ <;> rfl
  unfold f59 f62
  rw [o1]
  simp only [Option.bind_some, ne_eq, not_true_eq_false, decide_false, Bool.false_eq_true, if_false]
  rcases e58 with ⟨z, q⟩ | ⟨q, c⟩
  · obtain ⟨hz, k, rfl, hk⟩ := h4
    have hC2 : (f59_C2 s (a : Int)).run = some (unz z, 0, (k : Int)) := by
      simp only [f59_C2, h1', Option.bind_some, unz58 hz]
    have hf : f61 s (a : Int) = some (unz z, (k : Int), 0) := hf61
    rw [hf]
    simp only [f59_C1, hC2, Option.bind_some, ne_eq, not_true_eq_false, decide_false, Bool.false_eq_true, if_false]
    clear hC2 h1 h1' h3 hf61 hf
    generalize unz z = v
    by_cases hv1 : v < 0
    · exact ⟨([], 0, 3), by simp [hv1], by simp [hv1]⟩
    by_cases hv2 : 65535 < v
    · exact ⟨([], 0, 3), by simp [hv1, hv2], by simp [hv1, hv2]⟩
    have w1 : IntKind.i64.wrap ((s.length : Int) - (k : Int)) = (s.length : Int) - (k : Int) := w64 (by omega) (by omega)
    have w2 : IntKind.i64.wrap ((k : Int) + v) = (k : Int) + v := w64 (by omega) (by omega)
    have w3 : IntKind.i64.wrap ((k : Int) + v - v) = (k : Int) := by rw [w64 (by omega) (by omega)]; omega
    by_cases hf : v ≤ (s.length : Int) - (k : Int)
    · have hf' : ¬ (s.length : Int) - (k : Int) < v := by omega
      refine ⟨(((s.take ((k : Int) + v).toNat).drop ((k : Int)).toNat), (k : Int) + v, 0), ?_, ?_⟩
      · simp only [hv1, hv2, f82p, w1, hf, f59_C5, w2, w3]
        rw [slc_some ⟨by omega, by omega, by omega⟩]
        simp
      · simp only [hv1, hv2, w1, hf', w2]
        rw [slc_some ⟨by omega, by omega, by omega⟩]
        simp
    · have hf' : (s.length : Int) - (k : Int) < v := by omega
      exact ⟨([], 0, 20), by simp [hv1, hv2, f82p, w1, hf], by simp [hv1, hv2, w1, hf']⟩
  · have h4' : c ≠ 0 := h4
    have hC2 : (f59_C2 s (a : Int)).run = some (0, c, q) := by
      simp only [f59_C2, h1', Option.bind_some]
    have hf : f61 s (a : Int) = some (0, 0, c) := hf61
    rw [hf]
    exact ⟨([], 0, c), by simp [f59_C1, hC2, h4'], by simp [h4']⟩

/-! ## Entries and their checks -/

def sumS (s : List UInt8) : Int × Int := s.foldl (fun p c => ((p.1 + (c.toNat : Int)) % 255, (p.2 + (p.1 + (c.toNat : Int)) % 255) % 255)) (0, 0)

theorem sum_range (s : List UInt8) : (0 ≤ (sumS s).1 ∧ (sumS s).1 < 255) ∧ (0 ≤ (sumS s).2 ∧ (sumS s).2 < 255) := by
  have key : ∀ (l : List UInt8) (p : Int × Int), ((0 ≤ p.1 ∧ p.1 < 255) ∧ (0 ≤ p.2 ∧ p.2 < 255)) → ((0 ≤ (l.foldl (fun p c => ((p.1 + (c.toNat : Int)) % 255, (p.2 + (p.1 + (c.toNat : Int)) % 255) % 255)) p).1 ∧ (l.foldl (fun p c => ((p.1 + (c.toNat : Int)) % 255, (p.2 + (p.1 + (c.toNat : Int)) % 255) % 255)) p).1 < 255) ∧
      (0 ≤ (l.foldl (fun p c => ((p.1 + (c.toNat : Int)) % 255, (p.2 + (p.1 + (c.toNat : Int)) % 255) % 255)) p).2 ∧ (l.foldl (fun p c => ((p.1 + (c.toNat : Int)) % 255, (p.2 + (p.1 + (c.toNat : Int)) % 255) % 255)) p).2 < 255)) := by
    intro l
    induction l with
    | nil => intro p h; exact h
    | cons c l ih =>
      intro p _
      rw [List.foldl_cons]
      exact ih _ ⟨⟨by simp only; omega, by simp only; omega⟩, ⟨by simp only; omega, by simp only; omega⟩⟩
  exact key s (0, 0) (by simp)

theorem sum_succ {s : List UInt8} {k : Nat} (hk : k < s.length) : sumS (s.take (k + 1)) = (((sumS (s.take k)).1 + (s[k].toNat : Int)) % 255, ((sumS (s.take k)).2 + ((sumS (s.take k)).1 + (s[k].toNat : Int)) % 255) % 255) := by
  unfold sumS
  rw [List.take_succ_eq_append_getElem hk, List.foldl_append]
  rfl

theorem or8 {x y : Int} (hx : 0 ≤ x ∧ x < 256) (hy : 0 ≤ y ∧ y < 256) : (((BitVec.ofInt 64 (x * 256)) ||| BitVec.ofInt 64 y).toNat : Int) = 256 * x + y := by
  obtain ⟨n, rfl⟩ : ∃ n : Nat, x = n := ⟨x.toNat, by omega⟩
  obtain ⟨m, rfl⟩ : ∃ m : Nat, y = m := ⟨y.toNat, by omega⟩
  rw [BitVec.toNat_or, BitVec.toNat_ofInt, BitVec.toNat_ofInt]
  have e1 : ((n : Int) * 256 % ((2 ^ 64 : Nat) : Int)).toNat = 2 ^ 8 * n := by omega
  have e2 : ((m : Int) % ((2 ^ 64 : Nat) : Int)).toNat = m := by omega
  rw [e1, e2, ← Nat.two_pow_add_eq_or_of_lt (by omega)]
  omega

theorem f77_eq {s : List UInt8} (hs : s.length ≤ 2000) : f77 s = some (256 * (sumS s).2 + (sumS s).1) := by
  unfold f77
  have hrun := run_count (L := f77_L1 s) (e := ((sumS s).1, (sumS s).2)) (fun k => ((sumS (s.take k)).1, (sumS (s.take k)).2, (k : Int))) s.length (by
    simp only [f77_L1]
    rw [if_neg (by simp), List.take_length]) 0 (Nat.zero_le _) (fun k _ hk => by
    have hx := List.getElem?_eq_getElem hk
    obtain ⟨⟨a1, a2⟩, b1, b2⟩ := sum_range (s.take k)
    have hc : (0 : Int) ≤ (s[k].toNat : Int) ∧ (s[k].toNat : Int) < 256 := ⟨by omega, by have := s[k].toNat_lt; omega⟩
    have hw : IntKind.i64.wrap ((k : Int) + 1) = ((k + 1 : Nat) : Int) := by rw [w64 (by omega) (by omega)]; omega
    simp only [f77_L1]
    rw [if_pos (by simp; omega), at_nat hx, sum_succ hk]
    simp only [Option.bind_some]
    generalize (s[k].toNat : Int) = c at *
    generalize (sumS (s.take k)).1 = a at *
    generalize (sumS (s.take k)).2 = b at *
    have e1 : IntKind.u64.wrap c = c := by rw [IntKind.wrap_u64]; omega
    have e2 : IntKind.u64.wrap (a + c) = a + c := by rw [IntKind.wrap_u64]; omega
    have e3 : (a + c).tmod 255 = (a + c) % 255 := Int.tmod_eq_emod_of_nonneg (by omega)
    have e4 : IntKind.u64.wrap (b + (a + c) % 255) = b + (a + c) % 255 := by rw [IntKind.wrap_u64]; omega
    have e5 : (b + (a + c) % 255).tmod 255 = (b + (a + c) % 255) % 255 := Int.tmod_eq_emod_of_nonneg (by omega)
    simp only [e1, e2, e3, e4, e5, hw])
  have h0 : ((sumS (s.take 0)).1, (sumS (s.take 0)).2, ((0 : Nat) : Int)) = ((0 : Int), (0 : Int), (0 : Int)) := by simp [sumS]
  rw [h0] at hrun
  rw [hrun]
  obtain ⟨⟨a1, a2⟩, b1, b2⟩ := sum_range s
  generalize (sumS s).1 = a at *
  generalize (sumS s).2 = b at *
  simp only [Option.bind_some]
  have e0 : (2 : Int) ^ (min (Int.toNat 8) (IntKind.bits .u64)) = 256 := by decide
  have e1 : IntKind.u64.wrap (b * 256) = b * 256 := by rw [IntKind.wrap_u64]; omega
  rw [e0, e1, show IntKind.bits .u64 = 64 from rfl, or8 (by omega) (by omega)]
  have e2 : IntKind.u64.wrap (256 * b + a) = 256 * b + a := by rw [IntKind.wrap_u64]; omega
  rw [e2, w64 (by omega) (by omega)]

theorem f88_eq {s : List UInt8} (hs : s.length ≤ 2000) : f88 s = some (256 * (sumS s).2 + (sumS s).1) := by
  unfold f88
  have hrun := run_count (L := f88_L1 s) (e := ((sumS s).1, (sumS s).2)) (fun k => ((sumS (s.take k)).1, (sumS (s.take k)).2, (k : Int))) s.length (by
    simp only [f88_L1]
    rw [if_neg (by simp), List.take_length]) 0 (Nat.zero_le _) (fun k _ hk => by
    have hx := List.getElem?_eq_getElem hk
    obtain ⟨⟨a1, a2⟩, b1, b2⟩ := sum_range (s.take k)
    have hc : (0 : Int) ≤ (s[k].toNat : Int) ∧ (s[k].toNat : Int) < 256 := ⟨by omega, by have := s[k].toNat_lt; omega⟩
    have hw : IntKind.i64.wrap ((k : Int) + 1) = ((k + 1 : Nat) : Int) := by rw [w64 (by omega) (by omega)]; omega
    simp only [f88_L1]
    rw [if_pos (by simp; omega), at_nat hx, sum_succ hk]
    simp only [Option.bind_some]
    generalize (s[k].toNat : Int) = c at *
    generalize (sumS (s.take k)).1 = a at *
    generalize (sumS (s.take k)).2 = b at *
    have e1 : IntKind.i64.wrap c = c := w64 (by omega) (by omega)
    have e2 : IntKind.i64.wrap (a + c) = a + c := w64 (by omega) (by omega)
    have e3 : (a + c).tmod 255 = (a + c) % 255 := Int.tmod_eq_emod_of_nonneg (by omega)
    have e4 : IntKind.i64.wrap (b + (a + c) % 255) = b + (a + c) % 255 := w64 (by omega) (by omega)
    have e5 : (b + (a + c) % 255).tmod 255 = (b + (a + c) % 255) % 255 := Int.tmod_eq_emod_of_nonneg (by omega)
    simp only [e1, e2, e3, e4, e5, hw])
  have h0 : ((sumS (s.take 0)).1, (sumS (s.take 0)).2, ((0 : Nat) : Int)) = ((0 : Int), (0 : Int), (0 : Int)) := by simp [sumS]
  rw [h0] at hrun
  rw [hrun]
  obtain ⟨⟨a1, a2⟩, b1, b2⟩ := sum_range s
  simp only [Option.bind_some]
  rw [w64 (a := 256 * (sumS s).2) (by omega) (by omega), w64 (by omega) (by omega)]

def ckS (r : Int) : List UInt8 := [b8 (IntKind.u8.wrap (r / 256)), b8 (IntKind.u8.wrap r)]
theorem f76_eq {r : Int} (h : 0 ≤ r ∧ r < 65536) : f76 r = some (ckS r) := by
  unfold f76 ckS
  have e0 : (2 : Int) ^ (min (Int.toNat 8) (IntKind.bits .i64)) = 256 := by decide
  rw [e0, Int.fdiv_eq_ediv_of_nonneg _ (by decide)]
  rfl
theorem f87_eq {r : Int} (h : 0 ≤ r ∧ r < 65536) : f87 r = some (ckS r) := by
  unfold f87 ckS f98
  simp only [Option.bind_some, List.map_cons, List.map_nil]
  rw [cat_some (by simp), Int.tdiv_eq_ediv_of_nonneg h.1, Int.tmod_eq_emod_of_nonneg h.1, w64 (by omega) (by omega)]
  simp only [Option.bind_some, List.cons_append, List.nil_append, IntKind.wrap_u8]
  rw [show r % 256 % 256 = r % 256 by omega]

theorem f37_eq (n a b : Int) : f37 n a b = some (wi n a b) := by
  unfold f37 wi
  by_cases h : a ≤ n <;> simp [h]
theorem f39_eq (n : Int) : f39 n = some (decide (0 < n) && decide (n < 281474976710655)) := by
  unfold f39
  by_cases h : 0 < n <;> simp [h]

theorem ent_eq {s : List UInt8} (hs : s.length ≤ 1500) : ∃ (k : Int) (d : List UInt8) (q e : Int), f57 s 0 = some (RecordEntry.mk k d, q, e) ∧ f60 s 0 = some (Ref08Entry.mk k d, q, e) ∧ d.length ≤ 1500 := by
  obtain ⟨o1, o2⟩ := at_ok (s := s) (a := 0) (Nat.zero_le _)
  have o1' : f81p s 0 = some 0 := o1
  have o2' : f86 s 0 = some true := o2
  have wl : IntKind.i64.wrap ((s.length : Int) - 0) = (s.length : Int) := by rw [w64 (by omega) (by omega)]; omega
  have c1 : IntKind.i64.wrap (0 + 3) = 3 := rfl
  have c2 : IntKind.i64.wrap (3 - 3) = 0 := rfl
  have c3 : IntKind.i64.wrap (0 + 1) = 1 := rfl
  have c4 : IntKind.i64.wrap (0 + 2) = 2 := rfl
  have c5 : IntKind.i64.wrap (0 + 5) = 5 := rfl
  by_cases h5 : 5 ≤ (s.length : Int)
  case neg =>
    have h5' : (s.length : Int) < 5 := by omega
    refine ⟨0, [], 0, 20, ?_, ?_, by simp⟩
    · simp only [f57, o1', Option.bind_some, f82p, wl, h5]
      simp
    · simp only [f60, o2', Option.bind_some, wl, h5']
      simp
  have h5' : ¬ (s.length : Int) < 5 := by omega
  obtain ⟨b0, b1, b2, rest, rfl⟩ : ∃ b0 b1 b2 rest, s = b0 :: b1 :: b2 :: rest := by
    rcases s with _ | ⟨b0, _ | ⟨b1, _ | ⟨b2, rest⟩⟩⟩
    · simp at h5
    · simp at h5
    · simp at h5
    · exact ⟨b0, b1, b2, rest, rfl⟩
  generalize hS : b0 :: b1 :: b2 :: rest = s at *
  have hat0 : at? s 0 = some b0 := by rw [← hS]; rfl
  have hat1 : at? s 1 = some b1 := by rw [← hS]; rfl
  have hat2 : at? s 2 = some b2 := by rw [← hS]; rfl
  have h3 : slc? s 0 3 = some [b0, b1, b2] := by rw [slc_some ⟨by omega, by omega, by omega⟩, ← hS]; rfl
  have hc1 : (0 : Int) ≤ (b1.toNat : Int) ∧ (b1.toNat : Int) < 256 := ⟨by omega, by have := b1.toNat_lt; omega⟩
  have hc2 : (0 : Int) ≤ (b2.toNat : Int) ∧ (b2.toNat : Int) < 256 := ⟨by omega, by have := b2.toNat_lt; omega⟩
  have hg1 : at? [b0, b1, b2] 1 = some b1 := rfl
  have hg2 : at? [b0, b1, b2] 2 = some b2 := rfl
  have hg0 : at? [b0, b1, b2] 0 = some b0 := rfl
  have v1 : IntKind.i64.wrap (b1.toNat : Int) = (b1.toNat : Int) := w64 (by omega) (by omega)
  have v2 : IntKind.i64.wrap (b2.toNat : Int) = (b2.toNat : Int) := w64 (by omega) (by omega)
  obtain ⟨W, hW⟩ : ∃ W : Int, W = 256 * (b1.toNat : Int) + (b2.toNat : Int) := ⟨_, rfl⟩
  have hWr : 0 ≤ W ∧ W < 65536 := by omega
  have hword : IntKind.i64.wrap ((BitVec.ofInt (IntKind.bits .i64) (IntKind.i64.wrap ((IntKind.i64.wrap (b1.toNat : Int)) * 2 ^ (min (Int.toNat 8) (IntKind.bits .i64)))) ||| BitVec.ofInt (IntKind.bits .i64) (IntKind.i64.wrap (b2.toNat : Int))).toNat : Int) = W := by
    have e0 : (2 : Int) ^ (min (Int.toNat 8) (IntKind.bits .i64)) = 256 := by decide
    rw [e0, v1, v2, w64 (a := (b1.toNat : Int) * 256) (by omega) (by omega), show IntKind.bits .i64 = 64 from rfl, or8 hc1 hc2, w64 (by omega) (by omega), hW]
  have hword2 : IntKind.i64.wrap ((IntKind.i64.wrap (256 * (b1.toNat : Int))) + (b2.toNat : Int)) = W := by
    rw [w64 (a := 256 * (b1.toNat : Int)) (by omega) (by omega), w64 (by omega) (by omega), hW]
  have x1 : IntKind.i64.wrap (3 + W) = 3 + W := w64 (by omega) (by omega)
  have x2 : IntKind.i64.wrap (3 + W - W) = 3 := by rw [w64 (by omega) (by omega)]; omega
  have x3 : IntKind.i64.wrap (5 + W) = 5 + W := w64 (by omega) (by omega)
  have x4 : IntKind.i64.wrap (3 + W + 2) = 5 + W := by rw [w64 (by omega) (by omega)]; omega
  have x5 : IntKind.i64.wrap (5 + W - 2) = 3 + W := by rw [w64 (by omega) (by omega)]; omega
  have x6 : IntKind.i64.wrap (W + 2) = W + 2 := w64 (by omega) (by omega)
  have x7 : IntKind.i64.wrap ((s.length : Int) - 3) = (s.length : Int) - 3 := w64 (by omega) (by omega)
  have hC1 : (f57_C1 s 0).run = some ([b0, b1, b2], 3) := by simp only [f57_C1, c1, c2, h3, Option.bind_some]
  have g1 : f82p s 0 5 = some true := by simp only [f82p, wl, h5, decide_true]
  by_cases hf : W + 2 ≤ (s.length : Int) - 3
  case neg =>
    have hf' : (s.length : Int) < 5 + W := by omega
    refine ⟨0, [], 0, 20, ?_, ?_, by simp⟩
    · have g2 : f82p s 3 (W + 2) = some false := by simp only [f82p, x7, hf, decide_false]
      unfold f57
      rw [o1']
      simp only [Option.bind_some]
      rw [if_neg (by simp), g1]
      simp only [Option.bind_some]
      rw [if_neg (by simp), hC1]
      rw [Option.bind_some]
      simp only []
      rw [hg1, Option.bind_some, hg2, Option.bind_some, hword, x6, g2, Option.bind_some]
      rw [if_pos (by simp)]
    · simp only [f60, o2', Option.bind_some, wl, h5', c3, c4, hat1, hat2, v1, v2, hword2, x3, hf']
      simp
  have hf' : ¬ (s.length : Int) < 5 + W := by omega
  obtain ⟨d, hd⟩ : ∃ d, d = (s.take (3 + W).toNat).drop (3 : Int).toNat := ⟨_, rfl⟩
  have hdl : d.length ≤ 1500 := by rw [hd, List.length_drop, List.length_take]; omega
  have hs3 : slc? s 3 (3 + W) = some d := by rw [slc_some ⟨by omega, by omega, by omega⟩, hd]
  have hs5 : slc? s (3 + W) (5 + W) = some ((s.take (5 + W).toNat).drop (3 + W).toNat) := slc_some ⟨by omega, by omega, by omega⟩
  have hs0 : slc? s 0 (3 + W) = some ([b0, b1, b2] ++ d) := by
    rw [slc_some ⟨by omega, by omega, by omega⟩, hd]
    obtain ⟨w, rfl⟩ : ∃ w : Nat, W = w := ⟨W.toNat, by omega⟩
    have e1 : (3 + (w : Int)).toNat = w + 3 := by omega
    rw [e1, ← hS]
    simp
  generalize (s.take (5 + W).toNat).drop (3 + W).toNat = ck at hs5
  have hcl : ([b0, b1, b2] ++ d).length ≤ 2000 := by rw [List.length_append]; simp only [List.length_cons, List.length_nil]; omega
  obtain ⟨⟨a1, a2⟩, a3, a4⟩ := sum_range ([b0, b1, b2] ++ d)
  have hcat : cat? [b0, b1, b2] d = some ([b0, b1, b2] ++ d) := cat_some (by simp only [List.length_cons, List.length_nil]; omega)
  have h77 := f77_eq hcl
  have h88 := f88_eq hcl
  obtain ⟨r, hr⟩ : ∃ r : Int, r = 256 * (sumS ([b0, b1, b2] ++ d)).2 + (sumS ([b0, b1, b2] ++ d)).1 := ⟨_, rfl⟩
  rw [← hr] at h77 h88
  have hrr : 0 ≤ r ∧ r < 65536 := by omega
  have g2 : f82p s 3 (W + 2) = some true := by simp only [f82p, x7, hf, decide_true]
  have hC2 : (f57_C2 s 3 b1 b2).run = some (d, 3 + W) := by simp only [f57_C2, hword, x1, x2, hs3, Option.bind_some]
  have hC3 : (f57_C3 s (3 + W)).run = some (ck, 5 + W) := by simp only [f57_C3, x4, x5, hs5, Option.bind_some]
  by_cases hck : ck = ckS r
  · refine ⟨IntKind.i64.wrap (b0.toNat : Int), d, 5 + W, 0, ?_, ?_, hdl⟩
    · unfold f57
      rw [o1']
      simp only [Option.bind_some]
      rw [if_neg (by simp), g1]
      simp only [Option.bind_some]
      rw [if_neg (by simp), hC1]
      rw [Option.bind_some]
      simp only []
      rw [hg1, Option.bind_some, hg2, Option.bind_some, hword, x6, g2, Option.bind_some]
      rw [if_neg (by simp), hC2, Option.bind_some]
      simp only []
      rw [hC3, Option.bind_some]
      simp only []
      rw [hcat, Option.bind_some, h77, Option.bind_some, f76_eq hrr, Option.bind_some]
      rw [if_neg (by simp [hck]), hg0, Option.bind_some]
      rfl
    · simp only [f60, o2', Option.bind_some, wl, h5', c3, c4, c1, c5, hat0, hat1, hat2, v1, v2, hword2, x1, x3, hf', hs5, hs0, hs3, h88, f87_eq hrr, hck]
      simp
  · refine ⟨0, [], 0, 17, ?_, ?_, by simp⟩
    · unfold f57
      rw [o1']
      simp only [Option.bind_some]
      rw [if_neg (by simp), g1]
      simp only [Option.bind_some]
      rw [if_neg (by simp), hC1]
      rw [Option.bind_some]
      simp only []
      rw [hg1, Option.bind_some, hg2, Option.bind_some, hword, x6, g2, Option.bind_some]
      rw [if_neg (by simp), hC2, Option.bind_some]
      simp only []
      rw [hC3, Option.bind_some]
      simp only []
      rw [hcat, Option.bind_some, h77, Option.bind_some, f76_eq hrr, Option.bind_some]
      rw [if_pos (by simp [hck])]
    · simp only [f60, o2', Option.bind_some, wl, h5', c3, c4, c1, c5, hat0, hat1, hat2, v1, v2, hword2, x1, x3, hf', hs5, hs0, hs3, h88, f87_eq hrr]
      simp [hck]

def refPk (p : NetworkPacket) : Ref56Packet := ⟨p.fSource, p.fUniverse, p.fPriority, p.fSeq, p.fSync, p.fEnd, p.fSlots⟩

theorem chk_eq (p : NetworkPacket) : ∃ e, f28 p = some e ∧ f33 (refPk p) = some e := by
  unfold f28 f33 refPk
  simp only [f38_eq, f40_eq, f36_eq, f39_eq, f37_eq, Option.bind_some, namedS]
  generalize wi p.fUniverse 0 8 = b1
  generalize wi p.fPriority 0 200 = b2
  generalize wi p.fSeq 0 255 = b3
  generalize wi p.fSync 0 8 = b4
  generalize decide (0 < p.fSource) = b5
  generalize decide (p.fSource < 281474976710655) = b6
  cases b5 <;> cases b6 <;> cases b1 <;> cases b2 <;> cases b3 <;> cases b4 <;> simp
  by_cases h1 : 512 < (p.fSlots.length : Int)
  · simp [h1]
  by_cases h2 : p.fUniverse = 0
  · by_cases h3 : p.fSync = 0
    · simp [h1, h2, h3]
    · cases h4 : p.fEnd
      · by_cases h5 : p.fSlots = []
        · simp [h2, h3, h5]
        · simp [h1, h2, h3, h5]
      · simp [h1, h2, h3]
  · simp [h1, h2]

theorem dec_eq {s : List UInt8} (hs : s.length ≤ 1500) : ∃ p e, f34 s = some (p, e) ∧ f35 s = some (refPk p, e) := by
  obtain ⟨k, d, q, e, h1, h2, hd⟩ := ent_eq hs
  unfold f34 f35
  rw [h1, h2]
  simp only [Option.bind_some]
  by_cases he : e = 0
  case neg => exact ⟨_, e, by simp [he]; exact rfl, by simp [he]; rfl⟩
  by_cases hq : q < (s.length : Int)
  · exact ⟨_, 13, by simp [he, hq]; exact rfl, by simp [he, hq]; rfl⟩
  by_cases hk : k = 85
  case neg => exact ⟨_, 1, by simp [he, hq, hk]; exact rfl, by simp [he, hq, hk]; rfl⟩
  subst he; subst hk
  simp only [hq, ne_eq, not_true_eq_false, decide_false, Bool.false_eq_true, if_false]
  obtain ⟨r1, i1, j1, k1⟩ := int_eq hd (a := 0) (Nat.zero_le _)
  have i1' : f58 d 0 = some r1 := i1
  have j1' : f61 d 0 = some r1 := j1
  rw [i1', j1']
  simp only [Option.bind_some]
  by_cases g1 : r1.2.2 = 0
  case neg => exact ⟨_, 3, by simp [g1]; exact rfl, by simp [g1]; rfl⟩
  obtain ⟨n1, m1, l1⟩ := k1 g1
  obtain ⟨r2, i2, j2, k2⟩ := int_eq hd l1
  rw [m1, i2, j2]
  simp only [Option.bind_some, g1, ne_eq, not_true_eq_false, decide_false, Bool.false_eq_true, if_false]
  by_cases g2 : r2.2.2 = 0
  case neg => exact ⟨_, 3, by simp [g2]; exact rfl, by simp [g2]; rfl⟩
  obtain ⟨n2, m2, l2⟩ := k2 g2
  obtain ⟨r3, i3, j3, k3⟩ := int_eq hd l2
  rw [m2, i3, j3]
  simp only [Option.bind_some, g2, ne_eq, not_true_eq_false, decide_false, Bool.false_eq_true, if_false]
  by_cases g3 : r3.2.2 = 0
  case neg => exact ⟨_, 3, by simp [g3]; exact rfl, by simp [g3]; rfl⟩
  obtain ⟨n3, m3, l3⟩ := k3 g3
  obtain ⟨r4, i4, j4, k4⟩ := int_eq hd l3
  rw [m3, i4, j4]
  simp only [Option.bind_some, g3, ne_eq, not_true_eq_false, decide_false, Bool.false_eq_true, if_false]
  by_cases g4 : r4.2.2 = 0
  case neg => exact ⟨_, 3, by simp [g4]; exact rfl, by simp [g4]; rfl⟩
  obtain ⟨n4, m4, l4⟩ := k4 g4
  obtain ⟨r5, i5, j5, k5⟩ := int_eq hd l4
  rw [m4, i5, j5]
  simp only [Option.bind_some, g4, ne_eq, not_true_eq_false, decide_false, Bool.false_eq_true, if_false]
  by_cases g5 : r5.2.2 = 0
  case neg => exact ⟨_, 3, by simp [g5]; exact rfl, by simp [g5]; rfl⟩
  obtain ⟨n5, m5, l5⟩ := k5 g5
  obtain ⟨r6, i6, j6, k6⟩ := int_eq hd l5
  rw [m5, i6, j6]
  simp only [Option.bind_some, g5, ne_eq, not_true_eq_false, decide_false, Bool.false_eq_true, if_false]
  by_cases g6 : r6.2.2 = 0
  case neg => exact ⟨_, 3, by simp [g6]; exact rfl, by simp [g6]; rfl⟩
  obtain ⟨n6, m6, l6⟩ := k6 g6
  obtain ⟨r7, i7, j7⟩ := str_eq hd l6
  rw [m6]
  simp only [f34_J1, f35_J1, i7, j7, Option.bind_some, g6, ne_eq, not_true_eq_false, decide_false, Bool.false_eq_true, if_false]
  by_cases g7 : r7.2.2 = 0
  case neg => exact ⟨_, 3, by simp [g7]; exact rfl, by simp [g7]; rfl⟩
  by_cases g8 : r7.2.1 < (d.length : Int)
  · exact ⟨_, 3, by simp [g7, g8]; exact rfl, by simp [g7, g8]; rfl⟩
  by_cases g9 : r1.1 < 0
  · exact ⟨_, 3, by simp [g7, g8, g9]; exact rfl, by simp [g7, g8, g9]; rfl⟩
  simp only [g7, g8, g9, f40_eq, not_true_eq_false, decide_false, Bool.false_eq_true, if_false, Option.bind_some]
  cases hw : wi r6.1 0 1
  · have : r6.1 < 0 ∨ 1 < r6.1 := by
      have : ¬ (0 ≤ r6.1 ∧ r6.1 ≤ 1) := fun h => by rw [wi_iff.2 h] at hw; cases hw
      omega
    refine ⟨_, 3, by simp; exact rfl, ?_⟩
    rcases this with h | h
    · simp [h]; rfl
    · have h' : ¬ r6.1 < 0 := by omega
      simp [h, h']; rfl
  · have h6 := wi_iff.1 hw
    have n1' : ¬ r6.1 < 0 := by omega
    have n2' : ¬ 1 < r6.1 := by omega
    simp only [n1', n2', Bool.not_true, decide_false, Bool.false_eq_true, if_false]
    obtain ⟨e, c1, c2⟩ := chk_eq (NetworkPacket.mk (IntKind.u64.wrap r1.1) r2.1 r3.1 r4.1 r5.1 (decide (r6.1 = 1)) r7.1)
    have c2' : f33 (Ref56Packet.mk (IntKind.u64.wrap r1.1) r2.1 r3.1 r4.1 r5.1 (decide (r6.1 = 1)) r7.1) = some e := c2
    rw [c1, c2']
    simp only [Option.bind_some]
    by_cases he : e = 0
    · exact ⟨_, 0, by simp [he]; exact rfl, by simp [he]; rfl⟩
    · exact ⟨_, e, by simp [he]; exact rfl, by simp [he]; rfl⟩

theorem f10_eq (s : List UInt8) : f10 s = some true := by
  unfold f10
  by_cases hs : 1500 < s.length
  · rw [if_pos (by simp; omega)]; simp [f14_eq]
  rw [if_neg (by simp; omega)]
  obtain ⟨p, e, h1, h2⟩ := dec_eq (show s.length ≤ 1500 by omega)
  rw [h1, h2, f14_eq]
  simp [refPk]
end Go.Proofs.Ytlidbikdeboihaa
