/-
  Plain laws of the sender of layer 56: NetworkWrites.
-/
import Derived.Test.YtlidbikdeboihaaP5
import Derived.Test.YtlidbikdeboihaaY91
set_option linter.unusedSimpArgs false
set_option linter.unusedVariables false
namespace Go.Proofs.Ytlidbikdeboihaa
open Go Go.Ab

/-! ## Entries and their checks -/

def sumS (s : List UInt8) : Int × Int := s.foldl (fun p c => ((p.1 + (c.toNat : Int)) % 255, (p.2 + (p.1 + (c.toNat : Int)) % 255) % 255)) (0, 0)

theorem sum_range (s : List UInt8) : (0 ≤ (sumS s).1 ∧ (sumS s).1 < 255) ∧ (0 ≤ (sumS s).2 ∧ (sumS s).2 < 255) := by
  have key : ∀ (l : List UInt8) (p : Int × Int), ((0 ≤ p.1 ∧ p.1 < 255) ∧ (0 ≤ p.2 ∧ p.2 < 255)) → ((0 ≤ (l.foldl (fun p c => ((p.1 + (c.toNat : Int)) % 255, (p.2 + (p.1 + (c.toNat : Int)) % 255) % 255)) p).1 ∧ (l.foldl (fun p c => ((p.1 + (c.toNat : Int)) % 255, (p.2 + (p.1 + (c.toNat : Int)) % 255) % 255)) p).1 < 255) ∧
      (0 ≤ (l.foldl (fun p c => ((p.1 + (c.toNat : Int)) % 255, (p.2 + (p.1 + (c.toNat : Int)) % 255) % 255)) p).2 ∧ (l.foldl (fun p c => ((p.1 + (c.toNat : Int)) % 255, (p.2 + (p.1 + (c.toNat : Int)) % 255) % 255)) p).2 < 255)) := by
    intro l
    induction l with
    | nil => intro p h; exact h
    | cons c l ih =>
      intro p _
      rw [List.foldl_cons]
      exact ih _ ⟨⟨by simp only; omega, by simp only; omega⟩, ⟨by simp only; omega, by simp only; omega⟩⟩
  exact key s (0, 0) (by simp)

theorem sum_succ {s : List UInt8} {k : Nat} (hk : k < s.length) : sumS (s.take (k + 1)) = (((sumS (s.take k)).1 + (s[k].toNat : Int)) % 255, ((sumS (s.take k)).2 + ((sumS (s.take k)).1 + (s[k].toNat : Int)) % 255) % 255) := by
  unfold sumS
  rw [List.take_succ_eq_append_getElem hk, List.foldl_append]
  rfl

theorem or8 {x y : Int} (hx : 0 ≤ x ∧ x < 256) (hy : 0 ≤ y ∧ y < 256) : (((BitVec.ofInt 64 (x * 256)) ||| BitVec.ofInt 64 y).toNat : Int) = 256 * x + y := by
  obtain ⟨n, rfl⟩ : ∃ n : Nat, x = n := ⟨x.toNat, by omega⟩
  obtain ⟨m, rfl⟩ : ∃ m : Nat, y = m := ⟨y.toNat, by omega⟩
  rw [BitVec.toNat_or, BitVec.toNat_ofInt, BitVec.toNat_ofInt]
  have e1 : ((n : Int) * 256 % ((2 ^ 64 : Nat) : Int)).toNat = 2 ^ 8 * n := by omega
  have e2 : ((m : Int) % ((2 ^ 64 : Nat) : Int)).toNat = m := by omega
  rw [e1, e2, ← Nat.two_pow_add_eq_or_of_lt (by omega)]
  omega

theorem f77_eq {s : List UInt8} (hs : s.length ≤ 2000) : f77 s = some (256 * (sumS s).2 + (sumS s).1) := by
  unfold f77
  have hrun := run_count (L := f77_L1 s) (e := ((sumS s).1, (sumS s).2)) (fun k => ((sumS (s.take k)).1, (sumS (s.take k)).2, (k : Int))) s.length (by
    simp only [f77_L1]
    rw [if_neg (by simp), List.take_length]) 0 (Nat.zero_le _) (fun k _ hk => by
    have hx := List.getElem?_eq_getElem hk
    obtain ⟨⟨a1, a2⟩, b1, b2⟩ := sum_range (s.take k)
    have hc : (0 : Int) ≤ (s[k].toNat : Int) ∧ (s[k].toNat : Int) < 256 := ⟨by omega, by have := s[k].toNat_lt; omega⟩
    have hw : IntKind.i64.wrap ((k : Int) + 1) = ((k + 1 : Nat) : Int) := by rw [w64 (by omega) (by omega)]; omega
    simp only [f77_L1]
    rw [if_pos (by simp; omega), at_nat hx, sum_succ hk]
    simp only [Option.bind_some]
    generalize (s[k].toNat : Int) = c at *
    generalize (sumS (s.take k)).1 = a at *
    generalize (sumS (s.take k)).2 = b at *
    have e1 : IntKind.u64.wrap c = c := by rw [IntKind.wrap_u64]; omega
    have e2 : IntKind.u64.wrap (a + c) = a + c := by rw [IntKind.wrap_u64]; omega
    have e3 : (a + c).tmod 255 = (a + c) % 255 := Int.tmod_eq_emod_of_nonneg (by omega)
    have e4 : IntKind.u64.wrap (b + (a + c) % 255) = b + (a + c) % 255 := by rw [IntKind.wrap_u64]; omega
    have e5 : (b + (a + c) % 255).tmod 255 = (b + (a + c) % 255) % 255 := Int.tmod_eq_emod_of_nonneg (by omega)
    simp only [e1, e2, e3, e4, e5, hw])
  have h0 : ((sumS (s.take 0)).1, (sumS (s.take 0)).2, ((0 : Nat) : Int)) = ((0 : Int), (0 : Int), (0 : Int)) := by simp [sumS]
  rw [h0] at hrun
  rw [hrun]
  obtain ⟨⟨a1, a2⟩, b1, b2⟩ := sum_range s
  generalize (sumS s).1 = a at *
  generalize (sumS s).2 = b at *
  simp only [Option.bind_some]
  have e0 : (2 : Int) ^ (min (Int.toNat 8) (IntKind.bits .u64)) = 256 := by decide
  have e1 : IntKind.u64.wrap (b * 256) = b * 256 := by rw [IntKind.wrap_u64]; omega
  rw [e0, e1, show IntKind.bits .u64 = 64 from rfl, or8 (by omega) (by omega)]
  have e2 : IntKind.u64.wrap (256 * b + a) = 256 * b + a := by rw [IntKind.wrap_u64]; omega
  rw [e2, w64 (by omega) (by omega)]

theorem f88_eq {s : List UInt8} (hs : s.length ≤ 2000) : f88 s = some (256 * (sumS s).2 + (sumS s).1) := by
  unfold f88
  have hrun := run_count (L := f88_L1 s) (e := ((sumS s).1, (sumS s).2)) (fun k => ((sumS (s.take k)).1, (sumS (s.take k)).2, (k : Int))) s.length (by
    simp only [f88_L1]
    rw [if_neg (by simp), List.take_length]) 0 (Nat.zero_le _) (fun k _ hk => by
    have hx := List.getElem?_eq_getElem hk
    obtain ⟨⟨a1, a2⟩, b1, b2⟩ := sum_range (s.take k)
    have hc : (0 : Int) ≤ (s[k].toNat : Int) ∧ (s[k].toNat : Int) < 256 := ⟨by omega, by have := s[k].toNat_lt; omega⟩
    have hw : IntKind.i64.wrap ((k : Int) + 1) = ((k + 1 : Nat) : Int) := by rw [w64 (by omega) (by omega)]; omega
    simp only [f88_L1]
    rw [if_pos (by simp; omega), at_nat hx, sum_succ hk]
    simp only [Option.bind_some]
    generalize (s[k].toNat : Int) = c at *
    generalize (sumS (s.take k)).1 = a at *
    generalize (sumS (s.take k)).2 = b at *
    have e1 : IntKind.i64.wrap c = c := w64 (by omega) (by omega)
    have e2 : IntKind.i64.wrap (a + c) = a + c := w64 (by omega) (by omega)
    have e3 : (a + c).tmod 255 = (a + c) % 255 := Int.tmod_eq_emod_of_nonneg (by omega)
    have e4 : IntKind.i64.wrap (b + (a + c) % 255) = b + (a + c) % 255 := w64 (by omega) (by omega)
    have e5 : (b + (a + c) % 255).tmod 255 = (b + (a + c) % 255) % 255 := Int.tmod_eq_emod_of_nonneg (by omega)
    simp only [e1, e2, e3, e4, e5, hw])
  have h0 : ((sumS (s.take 0)).1, (sumS (s.take 0)).2, ((0 : Nat) : Int)) = ((0 : Int), (0 : Int), (0 : Int)) := by simp [sumS]
  rw [h0] at hrun
  rw [hrun]
  obtain ⟨⟨a1, a2⟩, b1, b2⟩ := sum_range s
  simp only [Option.bind_some]
  rw [w64 (a := 256 * (sumS s).2) (by omega) (by omega), w64 (by omega) (by omega)]

def ckS (r : Int) : List UInt8 := [b8 (IntKind.u8.wrap (r / 256)), b8 (IntKind.u8.wrap r)]
theorem f76_eq {r : Int} (h : 0 ≤ r ∧ r < 65536) : f76 r = some (ckS r) := by
  unfold f76 ckS
  have e0 : (2 : Int) ^ (min (Int.toNat 8) (IntKind.bits .i64)) = 256 := by decide
  rw [e0, Int.fdiv_eq_ediv_of_nonneg _ (by decide)]
  rfl
theorem f87_eq {r : Int} (h : 0 ≤ r ∧ r < 65536) : f87 r = some (ckS r) := by
  unfold f87 ckS f98
  simp only [Option.bind_some, List.map_cons, List.map_nil]
  rw [cat_some (by simp), Int.tdiv_eq_ediv_of_nonneg h.1, Int.tmod_eq_emod_of_nonneg h.1, w64 (by omega) (by omega)]
  simp only [Option.bind_some, List.cons_append, List.nil_append, IntKind.wrap_u8]
  rw [show r % 256 % 256 = r % 256 by omega]

theorem f37_eq (n a b : Int) : f37 n a b = some (wi n a b) := by
  unfold f37 wi
  by_cases h : a ≤ n <;> simp [h]
theorem f39_eq (n : Int) : f39 n = some (decide (0 < n) && decide (n < 281474976710655)) := by
  unfold f39
  by_cases h : 0 < n <;> simp [h]

def refPk (p : NetworkPacket) : Ref56Packet := ⟨p.fSource, p.fUniverse, p.fPriority, p.fSeq, p.fSync, p.fEnd, p.fSlots⟩

theorem chk_eq (p : NetworkPacket) : ∃ e, f28 p = some e ∧ f33 (refPk p) = some e := by
  unfold f28 f33 refPk
  simp only [f38_eq, f40_eq, f36_eq, f39_eq, f37_eq, Option.bind_some, namedS]
  generalize wi p.fUniverse 0 8 = b1
  generalize wi p.fPriority 0 200 = b2
  generalize wi p.fSeq 0 255 = b3
  generalize wi p.fSync 0 8 = b4
  generalize decide (0 < p.fSource) = b5
  generalize decide (p.fSource < 281474976710655) = b6
  cases b5 <;> cases b6 <;> cases b1 <;> cases b2 <;> cases b3 <;> cases b4 <;> simp
  by_cases h1 : 512 < (p.fSlots.length : Int)
  · simp [h1]
  by_cases h2 : p.fUniverse = 0
  · by_cases h3 : p.fSync = 0
    · simp [h1, h2, h3]
    · cases h4 : p.fEnd
      · by_cases h5 : p.fSlots = []
        · simp [h2, h3, h5]
        · simp [h1, h2, h3, h5]
      · simp [h1, h2, h3]
  · simp [h1, h2]


/-! ## Numbers, seven bits a letter -/

theorem hi7 (z : Int) (h : 0 ≤ z) : b8 (IntKind.u8.wrap ((BitVec.ofInt (IntKind.bits .u8) (IntKind.u8.wrap z) ||| BitVec.ofInt (IntKind.bits .u8) 128).toNat : Int)) = b8 (IntKind.u8.wrap (z % 128 + 128)) := by
  have key : ∀ n : Fin 256, ((BitVec.ofInt (IntKind.bits .u8) ((n.1 : Nat) : Int) ||| BitVec.ofInt (IntKind.bits .u8) 128).toNat : Int) = ((n.1 : Nat) : Int) % 128 + 128 := by decide +kernel
  have h1 : IntKind.u8.wrap z = (((z % 256).toNat : Nat) : Int) := by rw [IntKind.wrap_u8]; omega
  have h2 := key ⟨(z % 256).toNat, by omega⟩
  simp only at h2
  rw [h1, h2]
  congr 2
  omega

theorem venc : ∀ (k : Nat) (z : Int) (out : List Int), 0 ≤ z → z < 128 ^ (k + 1) → z < 18446744073709551616 → out.length + k ≤ 100 → ∃ zf out', f53_L1.run (z, out) = some (zf, out') ∧ f79_L2.run (z, out.map b8) = some (zf, out'.map b8) ∧ (0 ≤ zf ∧ zf < 128) ∧ out'.length ≤ out.length + k := by
  intro k
  induction k with
  | zero =>
    intro z out h1 h2 h3 h4
    have h5 : z < 128 := by simpa using h2
    refine ⟨z, out, iter_brk ?_, iter_brk ?_, ⟨h1, h5⟩, by omega⟩
    · simp only [f53_L1]; rw [if_neg (by simp; omega)]
    · simp only [f79_L2]; rw [if_neg (by simp; omega)]
  | succ k ih =>
    intro z out h1 h2 h3 h4
    by_cases h5 : z < 128
    · refine ⟨z, out, iter_brk ?_, iter_brk ?_, ⟨h1, h5⟩, by omega⟩
      · simp only [f53_L1]; rw [if_neg (by simp; omega)]
      · simp only [f79_L2]; rw [if_neg (by simp; omega)]
    · have hz : z / 128 < 128 ^ (k + 1) := by
        have : (128 : Int) ^ (k + 1 + 1) = 128 ^ (k + 1) * 128 := Int.pow_succ _ _
        rw [this] at h2
        omega
      obtain ⟨zf, out', r1, r2, r3, r4⟩ := ih (z / 128) (out ++ [IntKind.u8.wrap ((BitVec.ofInt (IntKind.bits .u8) (IntKind.u8.wrap z) ||| BitVec.ofInt (IntKind.bits .u8) 128).toNat : Int)]) (by omega) hz (by omega) (by simp; omega)
      have b1 : f53_L1.body (z, out) = some (.next (z / 128, out ++ [IntKind.u8.wrap ((BitVec.ofInt (IntKind.bits .u8) (IntKind.u8.wrap z) ||| BitVec.ofInt (IntKind.bits .u8) 128).toNat : Int)])) := by
        have e0 : (2 : Int) ^ (min (Int.toNat 7) (IntKind.bits .u64)) = 128 := by decide
        simp only [f53_L1]
        rw [if_pos (by simp; omega), app_some (by simp; omega) (by simp; omega), Option.bind_some, e0, Int.fdiv_eq_ediv_of_nonneg _ (by decide)]
      have b2 : f79_L2.body (z, out.map b8) = some (.next (z / 128, (out ++ [IntKind.u8.wrap ((BitVec.ofInt (IntKind.bits .u8) (IntKind.u8.wrap z) ||| BitVec.ofInt (IntKind.bits .u8) 128).toNat : Int)]).map b8)) := by
        rw [List.map_append, List.map_cons, List.map_nil, hi7 z h1]
        simp only [f79_L2, f98]
        rw [if_pos (by simp; omega), Option.bind_some, cat_some (by simp; omega), Option.bind_some, Int.tmod_eq_emod_of_nonneg h1, Int.tdiv_eq_ediv_of_nonneg h1, w64 (a := z % 128) (by omega) (by omega), w64 (by omega) (by omega), IntKind.wrap_u64, List.map_cons, List.map_nil]
        rw [show z / 128 % 18446744073709551616 = z / 128 by omega]
      refine ⟨zf, out', (iter_next b1).trans r1, (iter_next b2).trans r2, r3, ?_⟩
      simp only [List.length_append, List.length_cons, List.length_nil] at r4
      omega

theorem num_eq {n : Int} (h : 0 ≤ n ∧ n < 281474976710656) : ∃ v, f53 n = some v ∧ f79 n = some v ∧ v.length ≤ 20 := by
  obtain ⟨zf, out, r1, r2, r3, r4⟩ := venc 9 (2 * n) [] (by omega) (by rw [show (128 : Int) ^ (9 + 1) = 1180591620717411303424 by decide]; omega) (by omega) (by simp)
  have e1 : IntKind.u64.wrap n = n := by rw [IntKind.wrap_u64]; omega
  have e0 : (2 : Int) ^ (min (Int.toNat 1) (IntKind.bits .u64)) = 2 := by decide
  have e2 : IntKind.u64.wrap (n * 2) = 2 * n := by rw [IntKind.wrap_u64]; omega
  have e3 : (2 : Int) ^ (min (Int.toNat 63) (IntKind.bits .i64)) = 9223372036854775808 := by decide
  have e4 : Int.fdiv n 9223372036854775808 = 0 := by rw [Int.fdiv_eq_ediv_of_nonneg _ (by decide)]; omega
  have e5 : IntKind.u64.wrap ((BitVec.ofInt 64 (2 * n) ^^^ BitVec.ofInt 64 (IntKind.u64.wrap 0)).toNat : Int) = 2 * n := by
    rw [show IntKind.u64.wrap 0 = 0 from rfl, show BitVec.ofInt 64 0 = 0#64 by decide, BitVec.xor_zero, BitVec.toNat_ofInt, IntKind.wrap_u64]
    omega
  have e6 : IntKind.i64.wrap zf = zf := w64 (by omega) (by omega)
  refine ⟨(out ++ [IntKind.u8.wrap zf]).map b8, ?_, ?_, ?_⟩
  · unfold f53
    rw [e1, e0, e2, e3, e4, show IntKind.bits .u64 = 64 from rfl, e5, r1, Option.bind_some]
    simp only []
    rw [app_some (by simp; simp at r4; omega) (by simp; simp at r4; omega), Option.bind_some]
  · unfold f79
    rw [if_neg (by simp; omega), e1, e0, e2]
    simp only [f79_J1]
    rw [show (2 * n, ([] : List UInt8)) = (2 * n, ([] : List Int).map b8) from rfl, r2, Option.bind_some]
    simp only []
    unfold f98
    rw [Option.bind_some, e6, cat_some (by simp; simp at r4; omega), Option.bind_some]
    simp
  · simp at r4 ⊢; omega

theorem ent_enc {d : List UInt8} (hd : d.length ≤ 1000) : ∃ w, f55 (RecordEntry.mk 85 d) = some (w, 0) ∧ f80 (Ref08Entry.mk 85 d) = some w := by
  have hck : ∀ r, (ckS r).length = 2 := fun r => rfl
  have hc1 : cat? (List.map b8 [IntKind.u8.wrap 85]) (ckS (d.length : Int)) = some (List.map b8 [IntKind.u8.wrap 85] ++ ckS (d.length : Int)) := cat_some (by simp [hck])
  have hc2 : cat? (List.map b8 [IntKind.u8.wrap 85] ++ ckS (d.length : Int)) d = some (List.map b8 [IntKind.u8.wrap 85] ++ ckS (d.length : Int) ++ d) := cat_some (by simp [hck]; omega)
  have hl : (List.map b8 [IntKind.u8.wrap 85] ++ ckS (d.length : Int) ++ d).length ≤ 2000 := by simp [hck]; omega
  have h1 := f77_eq hl
  have h2 := f88_eq hl
  obtain ⟨⟨a1, a2⟩, a3, a4⟩ := sum_range (List.map b8 [IntKind.u8.wrap 85] ++ ckS (d.length : Int) ++ d)
  unfold f55 f80 f98
  simp only [Option.bind_some]
  rw [if_neg (by simp), if_neg (by simp), if_neg (by simp; omega), f76_eq (by omega), f87_eq (by omega)]
  simp only [Option.bind_some, hc1, hc2]
  generalize (List.map b8 [IntKind.u8.wrap 85] ++ ckS (d.length : Int) ++ d) = x at *
  rw [h1, h2]
  simp only [Option.bind_some]
  rw [f76_eq (by omega), f87_eq (by omega)]
  simp only [Option.bind_some]
  rw [cat_some (by simp [hck]; omega)]
  exact ⟨_, rfl, rfl⟩

theorem txt_enc {t : List UInt8} (ht : t.length ≤ 512) : ∃ w, f54 t = some (w, 0) ∧ f78 t = some (w, 0) ∧ w.length ≤ 540 := by
  obtain ⟨v, h1, h2, h3⟩ := num_eq (n := (t.length : Int)) (by omega)
  unfold f54 f78
  rw [if_neg (by simp; omega), if_neg (by simp; omega), h1, h2]
  simp only [Option.bind_some]
  rw [cat_some (by omega)]
  exact ⟨_, rfl, rfl, by simp; omega⟩

theorem chk_range {p : NetworkPacket} (h : f28 p = some 0) : (0 < p.fSource ∧ p.fSource < 281474976710655) ∧ (0 ≤ p.fUniverse ∧ p.fUniverse ≤ 8) ∧ (0 ≤ p.fPriority ∧ p.fPriority ≤ 200) ∧ (0 ≤ p.fSeq ∧ p.fSeq ≤ 255) ∧ (0 ≤ p.fSync ∧ p.fSync ≤ 8) ∧ p.fSlots.length ≤ 512 := by
  unfold f28 at h
  simp only [f38_eq, f40_eq, f36_eq, Option.bind_some, namedS] at h
  cases h1 : wi p.fUniverse 0 8
  · simp [h1] at h
  cases h2 : wi p.fPriority 0 200
  · simp [h2] at h
  cases h3 : wi p.fSeq 0 255
  · simp [h3] at h
  cases h4 : wi p.fSync 0 8
  · simp [h4] at h
  by_cases h5 : 0 < p.fSource
  case neg => simp [h5] at h
  by_cases h6 : p.fSource < 281474976710655
  case neg => simp [h6] at h
  by_cases h7 : 512 < (p.fSlots.length : Int)
  · simp [h1, h2, h3, h4, h5, h6, h7] at h
  exact ⟨⟨h5, h6⟩, wi_iff.1 h1, wi_iff.1 h2, wi_iff.1 h3, wi_iff.1 h4, by omega⟩

theorem enc_eq (p : NetworkPacket) : ∃ w e, f31 p = some (w, e) ∧ f32 (refPk p) = some (w, e) := by
  obtain ⟨e, c1, c2⟩ := chk_eq p
  unfold f31 f32
  rw [c1, c2]
  simp only [Option.bind_some]
  by_cases he : e = 0
  case neg => exact ⟨[], e, by simp [he], by simp [he]⟩
  subst he
  obtain ⟨r1, r2, r3, r4, r5, r6⟩ := chk_range c1
  simp only [ne_eq, not_true_eq_false, decide_false, Bool.false_eq_true, if_false]
  have key : ∀ n : Int, n = 0 ∨ n = 1 → ∃ w, (f31_J1 p).run n = some (w, 0) ∧ (f56_J1 (refPk p)).run n = some w := fun n hn => by
    have es : IntKind.i64.wrap p.fSource = p.fSource := w64 (by omega) (by omega)
    obtain ⟨v1, a1, b1, l1⟩ := num_eq (n := p.fSource) (by omega)
    obtain ⟨v2, a2, b2, l2⟩ := num_eq (n := p.fUniverse) (by omega)
    obtain ⟨v3, a3, b3, l3⟩ := num_eq (n := p.fPriority) (by omega)
    obtain ⟨v4, a4, b4, l4⟩ := num_eq (n := p.fSeq) (by omega)
    obtain ⟨v5, a5, b5, l5⟩ := num_eq (n := p.fSync) (by omega)
    obtain ⟨v6, a6, b6, l6⟩ := num_eq (n := n) (by omega)
    obtain ⟨v7, a7, b7, l7⟩ := txt_enc r6
    have k0 : cat? [] v1 = some v1 := by rw [cat_some (by simp; omega)]; rfl
    have k1 : cat? v1 v2 = some (v1 ++ v2) := cat_some (by omega)
    have k2 : cat? (v1 ++ v2) v3 = some (v1 ++ v2 ++ v3) := cat_some (by simp; omega)
    have k3 : cat? (v1 ++ v2 ++ v3) v4 = some (v1 ++ v2 ++ v3 ++ v4) := cat_some (by simp; omega)
    have k4 : cat? (v1 ++ v2 ++ v3 ++ v4) v5 = some (v1 ++ v2 ++ v3 ++ v4 ++ v5) := cat_some (by simp; omega)
    have k5 : cat? (v1 ++ v2 ++ v3 ++ v4 ++ v5) v6 = some (v1 ++ v2 ++ v3 ++ v4 ++ v5 ++ v6) := cat_some (by simp; omega)
    have k6 : cat? (v1 ++ v2 ++ v3 ++ v4 ++ v5 ++ v6) v7 = some (v1 ++ v2 ++ v3 ++ v4 ++ v5 ++ v6 ++ v7) := cat_some (by simp; omega)
    obtain ⟨w, c1, c2⟩ := ent_enc (d := v1 ++ v2 ++ v3 ++ v4 ++ v5 ++ v6 ++ v7) (by simp; omega)
    refine ⟨w, ?_, ?_⟩
    · simp only [f31_J1, es, a1, a2, a3, a4, a5, a6, a7, k0, k1, k2, k3, k4, k5, k6, c1, Option.bind_some]
      simp
    · simp only [f56_J1, refPk, es, b1, b2, b3, b4, b5, b6, b7, k1, k2, k3, k4, k5, k6, c2, Option.bind_some]
  unfold f56
  obtain ⟨w1, x1, y1⟩ := key 1 (.inr rfl)
  obtain ⟨w0, x0, y0⟩ := key 0 (.inl rfl)
  have hend : (refPk p).fEnd = p.fEnd := rfl
  rw [hend]
  cases p.fEnd
  · exact ⟨w0, 0, by simp [x0], by simp [y0]⟩
  · exact ⟨w1, 0, by simp [x1], by simp [y1]⟩

theorem f9_eq (p : NetworkPacket) : f9 p = some true := by
  unfold f9
  by_cases hs : 1100 < p.fSlots.length
  · rw [if_pos (by simp; omega)]; simp [f14_eq]
  rw [if_neg (by simp; omega)]
  obtain ⟨w, e, h1, h2⟩ := enc_eq p
  obtain ⟨c, c1, c2⟩ := chk_eq p
  have h2' : f32 ⟨p.fSource, p.fUniverse, p.fPriority, p.fSeq, p.fSync, p.fEnd, p.fSlots⟩ = some (w, e) := h2
  have c2' : f33 ⟨p.fSource, p.fUniverse, p.fPriority, p.fSeq, p.fSync, p.fEnd, p.fSlots⟩ = some c := c2
  rw [h1, h2', f14_eq]
  simp only [Option.bind_some, if_true]
  rw [c1, c2']
  simp
end Go.Proofs.Ytlidbikdeboihaa
