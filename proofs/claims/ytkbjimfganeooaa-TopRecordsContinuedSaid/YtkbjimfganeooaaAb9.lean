/-
  The abstract machine, ninth part: slice expressions, lengths, comparisons, composite values.
-/
import Derived.Test.YtkbjimfganeooaaAb8
set_option linter.unusedSimpArgs false
set_option linter.unusedVariables false
namespace Go.Ab
open Go Go.RowKit

variable {P : Program}

section
variable {E : Env} {w : World} {h : Hp} {s : Nat → AV} {a : Act} {o : Oper}

theorem run_bounds (hs : SOK E w s a) {t1 t2 : TypeId} {lo hi : Option Operand} {lo' hi' : Option Od} (hlo : odO P t1 lo = some lo') (hhi : odO P t2 hi = some hi') {n cap l m : Nat} (hn : n ≤ cap) (b : Bool)
    (hb : bounds s n lo' hi' = some (l, m)) : (Instr.sliceBounds b n cap (lo.map a.eval) (hi.map a.eval) none).run P w = .ok (l, m, cap) w ∧ l ≤ m ∧ m ≤ n := by
  unfold bounds at hb
  split at hb
  case h_2 => cases hb
  rename_i k1 x k2 y e1 e2
  split at hb
  case isFalse => cases hb
  rename_i hc
  obtain ⟨h0, h1, h2⟩ := hc
  injection hb with hb; injection hb with e3 e4; subst e3; subst e4
  have ey : (y.toNat : Int) = y := Int.toNat_of_nonneg (by omega)
  refine ⟨?_, by omega, by omega⟩
  cases lo with
  | none =>
    simp only [odO, Option.some.injEq] at hlo
    subst hlo
    injection e1 with _ e1; subst e1
    cases hi with
    | none =>
      simp only [odO, Option.some.injEq] at hhi
      subst hhi
      injection e2 with _ e2; subst e2
      simp [Instr.sliceBounds]
    | some hi =>
      simp only [odO, Option.map_eq_some_iff] at hhi
      obtain ⟨hi', hh, rfl⟩ := hhi
      have := od_ok hs hh
      simp only at e2
      rw [e2] at this
      simp [Instr.sliceBounds, this.int_inv, run_sliceBound w k2 y cap _ (by omega) (by omega)]
  | some lo =>
    simp only [odO, Option.map_eq_some_iff] at hlo
    obtain ⟨lo', hl, rfl⟩ := hlo
    have h3 := od_ok hs hl
    simp only at e1
    rw [e1] at h3
    cases hi with
    | none =>
      simp only [odO, Option.some.injEq] at hhi
      subst hhi
      injection e2 with _ e2; subst e2
      simp [Instr.sliceBounds, h3.int_inv, run_sliceBound w k1 x n _ (by omega) (by omega)]
    | some hi =>
      simp only [odO, Option.map_eq_some_iff] at hhi
      obtain ⟨hi', hh, rfl⟩ := hhi
      have h4 := od_ok hs hh
      simp only at e2
      rw [e2] at h4
      simp [Instr.sliceBounds, h3.int_inv, h4.int_inv, run_sliceBound w k2 y cap _ (by omega) (by omega), run_sliceBound w k1 x y.toNat _ (by omega) (by omega)]

theorem run_bounds2 (hs : SOK E w s a) {t1 t2 : TypeId} {lo hi : Option Operand} {lo' hi' : Option Od} (hlo : odO P t1 lo = some lo') (hhi : odO P t2 hi = some hi') {n cap l m : Nat} (b : Bool)
    (hb : bounds2 s n cap lo' hi' = some (l, m)) : (Instr.sliceBounds b n cap (lo.map a.eval) (hi.map a.eval) none).run P w = .ok (l, m, cap) w ∧ l ≤ m ∧ m ≤ cap := by
  unfold bounds2 at hb
  split at hb
  case h_2 => cases hb
  rename_i k1 x k2 y e1 e2
  split at hb
  case isFalse => cases hb
  rename_i hc
  obtain ⟨h0, h1, h2⟩ := hc
  injection hb with hb; injection hb with e3 e4; subst e3; subst e4
  have ey : (y.toNat : Int) = y := Int.toNat_of_nonneg (by omega)
  refine ⟨?_, by omega, by omega⟩
  cases lo with
  | none =>
    simp only [odO, Option.some.injEq] at hlo
    subst hlo
    injection e1 with _ e1; subst e1
    cases hi with
    | none =>
      simp only [odO, Option.some.injEq] at hhi
      subst hhi
      injection e2 with _ e2; subst e2
      simp [Instr.sliceBounds]
    | some hi =>
      simp only [odO, Option.map_eq_some_iff] at hhi
      obtain ⟨hi', hh, rfl⟩ := hhi
      have := od_ok hs hh
      simp only at e2
      rw [e2] at this
      simp [Instr.sliceBounds, this.int_inv, run_sliceBound w k2 y cap _ (by omega) (by omega)]
  | some lo =>
    simp only [odO, Option.map_eq_some_iff] at hlo
    obtain ⟨lo', hl, rfl⟩ := hlo
    have h3 := od_ok hs hl
    simp only at e1
    rw [e1] at h3
    cases hi with
    | none =>
      simp only [odO, Option.some.injEq] at hhi
      subst hhi
      injection e2 with _ e2; subst e2
      simp [Instr.sliceBounds, h3.int_inv, run_sliceBound w k1 x n _ (by omega) (by omega)]
    | some hi =>
      simp only [odO, Option.map_eq_some_iff] at hhi
      obtain ⟨hi', hh, rfl⟩ := hhi
      have h4 := od_ok hs hh
      simp only at e2
      rw [e2] at h4
      simp [Instr.sliceBounds, h3.int_inv, h4.int_inv, run_sliceBound w k2 y cap _ (by omega) (by omega), run_sliceBound w k1 x y.toNat _ (by omega) (by omega)]

theorem extract_mk (t : List UInt8) (l m : Nat) : (⟨t.toArray⟩ : ByteArray).extract l m = ⟨((t.take m).drop l).toArray⟩ := by
  apply ByteArray.ext
  simp [ByteArray.data_extract, List.drop_take]

theorem ok_slice (hok : HOK E h w) (hs : SOK E w s a) {t t1 t2 t3 el : TypeId} {x : Operand} {lo hi : Option Operand} {x' : Od} {lo' hi' : Option Od} {e : Nat} (ho : o.op = .slice t x lo hi none) (ht : P.underlying t = some (.slice el)) (he : ecode P el = some e)
    (hx : od P t1 x = some x') (hlo : odO P t2 lo = some lo') (hhi : odO P t3 hi = some hi') {v : AV} {h' : Hp} (hb : evV s h (.slice e x' lo' hi') = some (v, h')) : Yields P o a E h.length w v h' := by
  have h1 := od_ok hs hx
  simp only [evV] at hb
  have run : ∀ A n cap l m, a.eval x = .slice A n cap → n ≤ cap → bounds s n lo' hi' = some (l, m) → (execOp a.eval o).run P w = .ok (.value (.slice (if cap = l then A else A.map (·.add (l * esz e))) (m - l) (cap - l))) w ∧ l ≤ m ∧ m ≤ n := by
    intro A n cap l m hp hn hbd
    obtain ⟨r, r1, r2⟩ := run_bounds (w := w) hs hlo hhi hn true hbd
    exact ⟨by simp [execOp, ho, hp, Instr.sliceAt, run_underlying ht, Instr.slice, r, run_sizeOf_e he], r1, r2⟩
  have run2 : ∀ A n cap l m, a.eval x = .slice A n cap → bounds2 s n cap lo' hi' = some (l, m) → (execOp a.eval o).run P w = .ok (.value (.slice (if cap = l then A else A.map (·.add (l * esz e))) (m - l) (cap - l))) w ∧ l ≤ m ∧ m ≤ cap := by
    intro A n cap l m hp hbd
    obtain ⟨r, r1, r2⟩ := run_bounds2 (w := w) hs hlo hhi true hbd
    exact ⟨by simp [execOp, ho, hp, Instr.sliceAt, run_underlying ht, Instr.slice, r, run_sizeOf_e he], r1, r2⟩
  split at hb
  · rename_i e' f xs ex
    rw [ex] at h1
    split at hb
    · rename_i hee
      subst hee
      simp only [Option.map_eq_some_iff] at hb
      obtain ⟨⟨l, m⟩, hbd, hb⟩ := hb
      injection hb with e1 e2; subst e1; subst e2
      generalize hu : a.eval x = u at h1
      cases h1.sl_inv with
      | sl _ _ _ A cap g off uf hl hm hf hA hfit hc hr =>
        obtain ⟨r, hlm, hmn⟩ := run A _ cap l m hu hl hbd
        have hlen : ((xs.take m).drop l).length = m - l := by simp; omega
        have at_ : ∀ (i : Nat) z, ((xs.take m).drop l)[i]? = some z → xs[l + i]? = some z := fun i z hz => by
          rw [List.getElem?_drop, List.getElem?_take] at hz
          split at hz
          · exact hz
          · cases hz
        refine .still hok r (.imm ?_)
        simp only
        rw [← hlen]
        refine .sl e' _ _ _ (cap - l) g (off + l * esz e') (fun i => uf (l + i)) (by omega) (by omega) (fun h => ?_) ?_ (fun i z hz => hfit _ z (at_ i z hz)) (fun i z hz j c hj => ?_) (fun i z hz => hr _ z (at_ i z hz)) (fun h h' => ?_)
        · rw [Bool.and_eq_true, List.isEmpty_iff] at h
          have h3 := hf h.1
          obtain rfl := h.2
          simp at hlen h3 ⊢
          omega
        · by_cases h0 : (xs.take m).drop l = []
          · exact .inl h0
          · right
            have : 0 < ((xs.take m).drop l).length := List.length_pos_iff.2 h0
            rcases hA with hA | hA
            · subst hA; simp at this
            · subst hA
              rw [if_neg (by omega)]
              simp [add_addr]
        · have := hc _ z (at_ i z hz) j c hj
          rw [Nat.add_mul] at this
          rw [show off + l * esz e' + (i * esz e' + j) = off + (l * esz e' + i * esz e' + j) by omega]
          exact this
        · rw [Bool.and_eq_true, List.isEmpty_iff] at h
          obtain rfl := h.2
          exact absurd (by simp) h'
    · cases hb
  · rename_i e' b off len ex
    rw [ex] at h1
    split at hb
    · rename_i hee
      subst hee
      simp only [Option.map_eq_some_iff] at hb
      obtain ⟨⟨l, m⟩, hbd, hb⟩ := hb
      injection hb with e1 e2; subst e1; subst e2
      obtain ⟨hke, ⟨h0, rfl, rfl, A, hp⟩ | ⟨g, cap, A, hg, hp, hA, hl, hc, hm⟩⟩ := h1.row_inv
      · obtain ⟨r, hlm, hmn⟩ := run A 0 0 l m hp (Nat.le_refl _) hbd
        have : l = 0 := by omega
        subst this
        have : m = 0 := by omega
        subst this
        exact .still hok r (.row0 e' b _ h0 hke)
      · obtain ⟨r, hlm, hmn⟩ := run A len cap l m hp hl hbd
        refine .still hok r (.row e' b (off + l) (m - l) g (cap - l) _ hg hke ?_ (by omega) (by omega) hm)
        by_cases hcl : cap = l
        · rw [if_pos hcl]
          by_cases h00 : off + l = 0
          · have : off = 0 := by omega
            subst this
            have : l = 0 := by omega
            subst this
            rcases hA with hA | ⟨hA, _⟩
            · left; simpa using hA
            · exact absurd rfl hA
          · right; exact ⟨h00, by omega⟩
        · rw [if_neg hcl]
          rcases hA with hA | ⟨hA, hA2⟩
          · left
            subst hA
            simp [add_addr, Nat.add_mul]
          · right; exact ⟨by omega, by omega⟩
    · cases hb
  · rename_i e' b off len cap ex
    rw [ex] at h1
    split at hb
    · rename_i hee
      subst hee
      simp only [Option.map_eq_some_iff] at hb
      obtain ⟨⟨l, m⟩, hbd, hb⟩ := hb
      injection hb with e1 e2; subst e1; subst e2
      obtain ⟨hke, ⟨h0, rfl, rfl, rfl, A, hp⟩ | ⟨g, A, hg, hp, hA, hl, hc, hm⟩⟩ := h1.crow_inv
      · obtain ⟨r, hlm, hmn⟩ := run2 A 0 0 l m hp hbd
        have : l = 0 := by omega
        subst this
        have : m = 0 := by omega
        subst this
        exact .still hok r (.crow0 e' b _ h0 hke)
      · obtain ⟨r, hlm, hmn⟩ := run2 A len cap l m hp hbd
        refine .still hok r (.crow e' b (off + l) (m - l) g (cap - l) _ hg hke ?_ (by omega) (by omega) hm)
        by_cases hcl : cap = l
        · rw [if_pos hcl]
          by_cases h00 : off + l = 0
          · have : off = 0 := by omega
            subst this
            have : l = 0 := by omega
            subst this
            rcases hA with hA | ⟨hA, _⟩
            · left; simpa using hA
            · exact absurd rfl hA
          · right; exact ⟨h00, by omega⟩
        · rw [if_neg hcl]
          rcases hA with hA | ⟨hA, hA2⟩
          · left
            subst hA
            simp [add_addr, Nat.add_mul]
          · right; exact ⟨by omega, by omega⟩
    · cases hb
  · cases hb

theorem ok_slice3 (hok : HOK E h w) (hs : SOK E w s a) {t t1 t2 t3 t4 el : TypeId} {x : Operand} {lo hi mx : Option Operand} {x' : Od} {lo' hi' mx' : Option Od} {e : Nat} (ho : o.op = .slice t x lo hi mx) (ht : P.underlying t = some (.slice el)) (he : ecode P el = some e)
    (hx : od P t1 x = some x') (hlo : odO P t2 lo = some lo') (hhi : odO P t3 hi = some hi') (hmx : odO P t4 mx = some mx') {v : AV} {h' : Hp} (hb : evV s h (.slice3 e x' lo' hi' mx') = some (v, h')) : Yields P o a E h.length w v h' := by
  have h1 := od_ok hs hx
  simp only [evV] at hb
  split at hb
  case h_2 => cases hb
  rename_i e' b off len ex
  rw [ex] at h1
  split at hb
  case isFalse => cases hb
  split at hb
  case h_2 => cases hb
  rename_i km m em
  split at hb
  case isFalse => cases hb
  rename_i hc
  obtain ⟨c0, c1, c2, c3⟩ := hc
  simp only [Option.map_eq_some_iff] at hb
  obtain ⟨⟨l, q⟩, hbd, hb⟩ := hb
  injection hb with e1 e2; subst e1; subst e2
  cases mx with
  | none => simp only [odO, Option.some.injEq] at hmx; subst hmx; cases c3
  | some mx =>
  cases hi with
  | none => simp only [odO, Option.some.injEq] at hhi; subst hhi; cases c2
  | some hi =>
  simp only [odO, Option.map_eq_some_iff] at hmx
  obtain ⟨mx'', hm, rfl⟩ := hmx
  simp only [odO, Option.map_eq_some_iff] at hhi
  obtain ⟨hi'', hh, rfl⟩ := hhi
  have h4 := od_ok hs hm
  simp only at em
  rw [em] at h4
  have h5 := od_ok hs hh
  unfold bounds at hbd
  split at hbd
  case h_2 => cases hbd
  rename_i k1 x1 k2 y1 e1 e2
  split at hbd
  case isFalse => cases hbd
  rename_i hbc
  obtain ⟨d0, d1, d2⟩ := hbc
  simp only at e2
  rw [e2] at h5
  have emn : (m.toNat : Int) = m := Int.toNat_of_nonneg c0
  obtain ⟨A, cap, hp, hcap⟩ : ∃ A cap, a.eval x = .slice A len cap ∧ len ≤ cap := by
    obtain ⟨_, ⟨_, _, rfl, A, hp⟩ | ⟨g, cap, A, _, hp, _, hl, _⟩⟩ := h1.row_inv
    · exact ⟨A, 0, hp, Nat.le_refl _⟩
    · exact ⟨A, cap, hp, hl⟩
  have run : (Instr.sliceBounds true len cap (lo.map a.eval) (some (a.eval hi)) (some (a.eval mx))).run P w = .ok (x1.toNat, y1.toNat, m.toNat) w := by
    cases lo with
    | none =>
      simp only [odO, Option.some.injEq] at hlo
      subst hlo
      injection e1 with _ e1; subst e1
      simp [Instr.sliceBounds, h4.int_inv, h5.int_inv, run_sliceBound w km m cap _ (by omega) (by omega), run_sliceBound w k2 y1 m.toNat _ (by omega) (by omega)]
    | some lo =>
      simp only [odO, Option.map_eq_some_iff] at hlo
      obtain ⟨lo'', hl, rfl⟩ := hlo
      have h6 := od_ok hs hl
      simp only at e1
      rw [e1] at h6
      simp [Instr.sliceBounds, h4.int_inv, h5.int_inv, h6.int_inv, run_sliceBound w km m cap _ (by omega) (by omega), run_sliceBound w k2 y1 m.toNat _ (by omega) (by omega), run_sliceBound w k1 x1 y1.toNat _ (by omega) (by omega)]
  refine .still hok (u := .slice (if m.toNat = x1.toNat then A else A.map (·.add (x1.toNat * esz e))) (y1.toNat - x1.toNat) (m.toNat - x1.toNat)) ?_ (.junk _)
  simp [execOp, ho, hp, Instr.sliceAt, run_underlying ht, Instr.slice, run, run_sizeOf_e he]

theorem ok_sslice (hok : HOK E h w) (hs : SOK E w s a) {t t1 t2 t3 : TypeId} {x : Operand} {lo hi : Option Operand} {x' : Od} {lo' hi' : Option Od} (ho : o.op = .slice t x lo hi none) (ht : P.underlying t = some .string)
    (hx : od P t1 x = some x') (hlo : odO P t2 lo = some lo') (hhi : odO P t3 hi = some hi') {v : AV} {h' : Hp} (hb : evV s h (.sslice x' lo' hi') = some (v, h')) : Yields P o a E h.length w v h' := by
  have h1 := od_ok hs hx
  simp only [evV] at hb
  split at hb
  case h_2 => cases hb
  rename_i q hq
  simp only [Option.map_eq_some_iff] at hb
  obtain ⟨⟨l, m⟩, hbd, hb⟩ := hb
  injection hb with e1 e2; subst e1; subst e2
  rw [hq] at h1
  obtain ⟨r, r1, r2⟩ := run_bounds (w := w) hs hlo hhi (Nat.le_refl _) false hbd
  refine .still hok (u := .string ⟨((q.take m).drop l).toArray⟩) ?_ (.imm (.str _))
  simp [execOp, ho, h1.str_inv, Instr.sliceAt, run_underlying ht, Instr.slice, size_mk, r, extract_mk]

theorem ok_aslice (hok : HOK E h w) (hs : SOK E w s a) {t t1 t2 t3 el : TypeId} {x : Operand} {lo hi : Option Operand} {x' : Od} {lo' hi' : Option Od} {e n : Nat} (ho : o.op = .slice t x lo hi none) (ht : P.underlying t = some (.array n el)) (he : ecode P el = some e)
    (hx : od P t1 x = some x') (hlo : odO P t2 lo = some lo') (hhi : odO P t3 hi = some hi') (hn : n ≤ maxLen) {v : AV} {h' : Hp} (hb : evV s h (.aslice e n x' lo' hi') = some (v, h')) : Yields P o a E h.length w v h' := by
  have h1 := od_ok hs hx
  simp only [evV] at hb
  split at hb
  · rename_i b off ex
    rw [ex] at h1
    simp only [Option.map_eq_some_iff] at hb
    obtain ⟨⟨l, m⟩, hbd, hb⟩ := hb
    injection hb with e1 e2; subst e1; subst e2
    obtain ⟨g, hg, hp⟩ := h1.ptr_inv
    obtain ⟨r, r1, r2⟩ := run_bounds (w := w) hs hlo hhi (Nat.le_refl _) false hbd
    refine .still hok (u := .slice (some (if n = l then ⟨g, off, none⟩ else ⟨g, off + l * esz e, none⟩)) (m - l) (n - l)) ?_ (.arow e b _ _ g (n - l) _ hg ?_ (by omega) (by omega))
    · simp only [execOp, ho, hp, Instr.sliceAt, run_underlying ht, Sem.run_bind, Result.andThen_ok, Instr.sureAddr, Sem.run_pure, Option.map_none, r, run_sizeOf_e he, add_addr]
    · by_cases hnl : n = l
      · right; show m - l = 0; omega
      · left; rw [if_neg hnl]
  · cases hb

theorem ok_len (hok : HOK E h w) (hs : SOK E w s a) {t t1 : TypeId} {ts : Array TypeId} {x : Operand} {x' : Od} {k : Nat} (ho : o.op = .call { callee := .builtin .len, args := #[x], argTypes := ts }) (hts : ts[0]? = some t)
    (ht : (k = 1 ∧ P.underlying t = some .string) ∨ (k = 0 ∧ ∃ e, P.underlying t = some (.slice e)) ∨ (k = 2 ∧ ∃ k e, P.underlying t = some (.map k e)))
    (hx : od P t1 x = some x') {v : AV} {h' : Hp} (hb : evV s h (.len k x') = some (v, h')) : Yields P o a E h.length w v h' := by
  have h1 := od_ok hs hx
  have run : ∀ n : Nat, (Builtin.len_ ts o.type #[a.eval x]).run P w = .ok (goInt n) w → (execOp a.eval o).run P w = .ok (.value (.int .i64 n)) w := by
    intro n hr
    simp [execOp, ho, resolve, invoke, builtin, hr, goInt]
  simp only [evV] at hb
  split at hb
  · rename_i e f xs ex
    rw [ex] at h1
    injection hb with hb; injection hb with e1 e2; subst e1; subst e2
    obtain ⟨el, hu⟩ : ∃ e, P.underlying t = some (.slice e) := by rcases ht with ⟨h, _⟩ | ⟨_, h⟩ | ⟨h, _⟩ <;> first | exact h | cases h
    generalize hxu : a.eval x = u at h1 run
    cases h1.sl_inv with
    | sl _ _ _ A cap g off uf hl hm hf hA hfit hc hr => exact .still hok (run _ (by simp [Builtin.len_, hts, run_underlying hu])) (.imm (.int _ _))
  · rename_i e b f n ex
    rw [ex] at h1
    injection hb with hb; injection hb with e1 e2; subst e1; subst e2
    obtain ⟨el, hu⟩ : ∃ e, P.underlying t = some (.slice e) := by rcases ht with ⟨h, _⟩ | ⟨_, h⟩ | ⟨h, _⟩ <;> first | exact h | cases h
    obtain ⟨_, ⟨_, _, rfl, A, hp⟩ | ⟨g, cap, A, _, hp, _⟩⟩ := h1.row_inv <;> exact .still hok (run _ (by simp [Builtin.len_, hts, run_underlying hu, hp])) (.imm (.int _ _))
  · rename_i e b f n ex
    rw [ex] at h1
    injection hb with hb; injection hb with e1 e2; subst e1; subst e2
    obtain ⟨el, hu⟩ : ∃ e, P.underlying t = some (.slice e) := by rcases ht with ⟨h, _⟩ | ⟨_, h⟩ | ⟨h, _⟩ <;> first | exact h | cases h
    obtain ⟨g, cap, A, _, hp, _⟩ := h1.arow_inv
    exact .still hok (run _ (by simp [Builtin.len_, hts, run_underlying hu, hp])) (.imm (.int _ _))
  · rename_i e b f n c ex
    rw [ex] at h1
    injection hb with hb; injection hb with e1 e2; subst e1; subst e2
    obtain ⟨el, hu⟩ : ∃ e, P.underlying t = some (.slice e) := by rcases ht with ⟨h, _⟩ | ⟨_, h⟩ | ⟨h, _⟩ <;> first | exact h | cases h
    obtain ⟨_, ⟨_, _, rfl, _, A, hp⟩ | ⟨g, A, _, hp, _⟩⟩ := h1.crow_inv <;> exact .still hok (run _ (by simp [Builtin.len_, hts, run_underlying hu, hp])) (.imm (.int _ _))
  · rename_i q ex
    rw [ex] at h1
    injection hb with hb; injection hb with e1 e2; subst e1; subst e2
    have hu : P.underlying t = some .string := by rcases ht with ⟨_, h⟩ | ⟨h, _⟩ | ⟨h, _⟩ <;> first | exact h | cases h
    exact .still hok (run _ (by simp [Builtin.len_, hts, run_underlying hu, h1.str_inv, size_mk])) (.imm (.int _ _))
  · rename_i ex
    rw [ex] at h1
    injection hb with hb; injection hb with e1 e2; subst e1; subst e2
    obtain ⟨k, el, hu⟩ : ∃ k e, P.underlying t = some (.map k e) := by rcases ht with ⟨h, _⟩ | ⟨h, _⟩ | ⟨_, h⟩ <;> first | exact h | cases h
    exact .still hok (run 0 (by simp [Builtin.len_, hts, run_underlying hu, h1.nilmp_inv])) (.imm (.int _ _))
  · rename_i ks vs ex
    rw [ex] at h1
    injection hb with hb; injection hb with e1 e2; subst e1; subst e2
    obtain ⟨k, el, hu⟩ : ∃ k e, P.underlying t = some (.map k e) := by rcases ht with ⟨h, _⟩ | ⟨h, _⟩ | ⟨_, h⟩ <;> first | exact h | cases h
    generalize hxu : a.eval x = u at h1 run
    cases h1.mp_inv with
    | mp _ _ g es cl hS hg h2 h3 hk hv =>
      refine .still hok (run ks.length ?_) (.imm (.int _ _))
      simp [Builtin.len_, hts, run_underlying hu, getObj, Sem.run, hg, h2]
  · rename_i b ex
    rw [ex] at h1
    split at hb
    · rename_i ks vs hbk
      injection hb with hb; injection hb with e1 e2; subst e1; subst e2
      obtain ⟨k, el, hu⟩ : ∃ k e, P.underlying t = some (.map k e) := by rcases ht with ⟨h, _⟩ | ⟨h, _⟩ | ⟨_, h⟩ <;> first | exact h | cases h
      obtain ⟨g, hg, hp⟩ := h1.mref_inv
      obtain ⟨g', es, cl, k1, k2, k3, _⟩ := hok.blocks b _ hbk
      rw [hg] at k1; injection k1 with k1; injection k1 with k1; subst k1
      refine .still hok (run ks.length ?_) (.imm (.int _ _))
      simp [Builtin.len_, hts, run_underlying hu, hp, getObj, Sem.run, k2, k3]
    · cases hb
  · cases hb

theorem ok_alen (hok : HOK E h w) {t : TypeId} {ts : Array TypeId} {x : Operand} {n : Nat} {el : TypeId} (ho : o.op = .call { callee := .builtin .len, args := #[x], argTypes := ts }) (hts : ts[0]? = some t) (ht : P.underlying t = some (.array n el)) :
    Yields P o a E h.length w (.int .i64 n) h := by
  refine .still hok (u := .int .i64 n) ?_ (.imm (.int _ _))
  simp [execOp, ho, resolve, invoke, builtin, Builtin.len_, hts, run_underlying ht, goInt]

theorem run_max2 {k : IntKind} {m n : Int} : (Builtin.max2 (.int k m) (.int k n)).run P w = .ok (.int k (if n > m then n else m)) w := by simp [Builtin.max2]
theorem run_min2 {k : IntKind} {m n : Int} : (Builtin.min2 (.int k m) (.int k n)).run P w = .ok (.int k (if n < m then n else m)) w := by simp [Builtin.min2]

theorem foldMax_ok (mx : Bool) : ∀ {ys : List AV} {us : List Value} {x : AV} {u : Value} {v : AV}, ys.length = us.length → (∀ (i : Nat) c z, ys[i]? = some c → us[i]? = some z → RV E w c z) → RV E w x u → foldMax mx x ys = some v →
    ∃ z, (us.foldlM (if mx then Builtin.max2 else Builtin.min2) u).run P w = .ok z w ∧ RV E w v z
  | [], [], x, u, v, _, _, hx, hf => by
    simp only [foldMax, Option.some.injEq] at hf
    subst hf
    exact ⟨u, by simp, hx⟩
  | y :: ys, z :: us, x, u, v, hl, hr, hx, hf => by
    simp only [foldMax] at hf
    split at hf
    · rename_i q hq
      unfold maxI at hq
      split at hq
      · rename_i k m k' n
        split at hq
        · rename_i hk
          subst hk
          injection hq with hq; subst hq
          have hz := hr 0 _ z rfl rfl
          obtain ⟨r, r1, r2⟩ := foldMax_ok mx (ys := ys) (us := us) (u := .int k (if mx then (if n > m then n else m) else (if n < m then n else m))) (by simpa using hl) (fun i c z' h1 h2 => hr (i + 1) c z' (by simpa using h1) (by simpa using h2)) (.imm (.int _ _)) hf
          refine ⟨r, ?_, r2⟩
          rw [hx.int_inv, hz.int_inv]
          simp only [List.foldlM_cons, Sem.run_bind]
          cases mx
          · simp only [Bool.false_eq_true, if_false, run_min2, Result.andThen_ok] at r1 ⊢; exact r1
          · simp only [if_true, run_max2, Result.andThen_ok] at r1 ⊢; exact r1
        · cases hq
      · cases hq
    · cases hf
  | [], _ :: _, _, _, _, hl, _, _, _ => by simp at hl
  | _ :: _, [], _, _, _, hl, _, _, _ => by simp at hl

theorem ok_maxmin (hok : HOK E h w) (hs : SOK E w s a) (mx : Bool) {t1 : TypeId} {ts : Array TypeId} {args : Array Operand} {x : Operand} {xs : List Operand} {x' : Od} {xs' : List Od} (ho : o.op = .call { callee := .builtin (if mx then .max else .min), args := args, argTypes := ts })
    (hargs : args.toList = x :: xs) (hx : od P t1 x = some x') (hxs : omap (od P t1) xs = some xs') {v : AV} {h' : Hp} (hb : evV s h (.maxmin mx x' xs') = some (v, h')) : Yields P o a E h.length w v h' := by
  simp only [evV, Option.map_eq_some_iff] at hb
  obtain ⟨v', hf, hb⟩ := hb
  injection hb with e1 e2; subst e1; subst e2
  obtain ⟨k1, k2⟩ := omap_od_ok hs hxs
  obtain ⟨z, r1, r2⟩ := foldMax_ok (P := P) mx (us := xs.map a.eval) (by simp [k1]) (fun i c z hc hz => by
    rw [List.getElem?_map] at hc hz
    cases hy : xs'[i]? with
    | none => rw [hy] at hc; cases hc
    | some y =>
      cases hx' : xs[i]? with
      | none => rw [hx'] at hz; cases hz
      | some y' =>
        rw [hy] at hc; rw [hx'] at hz
        simp at hc hz
        subst hc; subst hz
        exact k2 i y' y hx' hy) (od_ok hs hx) hf
  refine .still hok (u := z) ?_ r2
  have hargs' : args = (x :: xs).toArray := by rw [← hargs]
  cases mx
  · simp only [Bool.false_eq_true, if_false] at ho r1
    simp [execOp, ho, resolve, invoke, builtin, Builtin.min_, hargs', r1]
  · simp only [if_true] at ho r1
    simp [execOp, ho, resolve, invoke, builtin, Builtin.max_, hargs', r1]

/-! ### Comparison of structs -/

theorem eqKind_run {t : TypeId} {d k : Nat} {x y : AV} {u z : Value} {b : Bool} {td : TypeDesc} (hx : RV E w x u) (hy : RV E w y z) (ht : P.underlying t = some td) (hk : kindOf td = some k)
    (hb : eqKind k x y = some b) : (Op.equalIn (d + 1) t u z).run P w = .ok b w := by
  unfold eqKind at hb
  split at hb
  · split at hb
    · rename_i k m k' n hkk
      subst hkk
      injection hb with hb; subst hb
      cases td <;> simp only [kindOf, Option.some.injEq, reduceCtorEq] at hk <;> try (cases hk; done)
      rw [hx.int_inv, hy.int_inv]
      exact run_equalIn_int w d t k _ m n ht
    · cases hb
  · injection hb with hb; subst hb
    cases td <;> simp only [kindOf, Option.some.injEq, reduceCtorEq] at hk <;> try (cases hk; done)
    rw [hx.str_inv, hy.str_inv, run_equalIn_string w d t _ _ ht, toList_mk, toList_mk]
  · injection hb with hb; subst hb
    cases td <;> simp only [kindOf, Option.some.injEq, reduceCtorEq] at hk <;> try (cases hk; done)
    rw [hx.bool_inv, hy.bool_inv]
    exact run_equalIn_bool' w d t _ _ ht
  · cases hb

theorem eqCells_append : ∀ {k ks : List Nat} {as bs : List AV} {b : Bool}, eqCells (k ++ ks) as bs = some b →
    ∃ b1 b2, eqCells k (as.take k.length) (bs.take k.length) = some b1 ∧ eqCells ks (as.drop k.length) (bs.drop k.length) = some b2 ∧ b = (b1 && b2)
  | [], ks, as, bs, b, h => ⟨true, b, by simp [eqCells], by simpa using h, by simp⟩
  | q :: k, ks, [], bs, b, h => by simp [eqCells] at h
  | q :: k, ks, x :: as, [], b, h => by simp [eqCells] at h
  | q :: k, ks, x :: as, y :: bs, b, h => by
    simp only [List.cons_append, eqCells] at h
    split at h
    case h_2 => cases h
    rename_i c1 c2 e1 e2
    injection h with h; subst h
    obtain ⟨b1, b2, h1, h2, rfl⟩ := eqCells_append e2
    exact ⟨c1 && b1, b2, by simp [eqCells, e1, h1], by simpa using h2, by simp [Bool.and_assoc]⟩

theorem eqCells_length : ∀ {ks : List Nat} {as bs : List AV} {b : Bool}, eqCells ks as bs = some b → as.length = ks.length ∧ bs.length = ks.length
  | [], [], [], _, _ => ⟨rfl, rfl⟩
  | [], [], _ :: _, _, h => by simp [eqCells] at h
  | [], _ :: _, _, _, h => by simp [eqCells] at h
  | q :: k, [], bs, b, h => by simp [eqCells] at h
  | q :: k, x :: as, [], b, h => by simp [eqCells] at h
  | q :: k, x :: as, y :: bs, b, h => by
    simp only [eqCells] at h
    split at h
    case h_2 => cases h
    rename_i c1 c2 e1 e2
    obtain ⟨h1, h2⟩ := eqCells_length e2
    simp [h1, h2]

/-- What '==' of two values of a type with known kinds of cells yields. -/
def EqT (P : Program) (E : Env) (w : World) (d : Nat) (t : TypeId) (ks : List Nat) : Prop :=
  ∀ (cs ds : List AV) (us zs : Array Value) (i : Nat) (b : Bool), Match E w cs us → Match E w ds zs → eqCells ks ((cs.drop i).take ks.length) ((ds.drop i).take ks.length) = some b →
    ∃ u z, (part t us i).run P w = .ok u w ∧ (part t zs i).run P w = .ok z w ∧ (Op.equalIn (d + 1) t u z).run P w = .ok b w

theorem eqFields_run {d : Nat} {K : TypeId → Option (List Nat)} (hK : ∀ t ks, K t = some ks → EqT P E w d t ks) {cs ds : List AV} {us zs : Array Value} (h1 : Match E w cs us) (h2 : Match E w ds zs) :
    ∀ (fs : List Field) (i : Nat) (ks : List Nat) (b : Bool), kindsF K i fs = some ks → eqCells ks (cs.drop i) (ds.drop i) = some b →
    (Op.eqFields (d + 1) us zs fs).run P w = .ok b w
  | [], i, ks, b, hk, hb => by
    simp only [kindsF, Option.some.injEq] at hk
    subst hk
    cases hc : cs.drop i with
    | nil =>
      cases hd : ds.drop i with
      | nil => rw [hc, hd] at hb; simp only [eqCells, Option.some.injEq] at hb; subst hb; simp [Op.eqFields]
      | cons y ys => rw [hc, hd] at hb; simp [eqCells] at hb
    | cons x xs => rw [hc] at hb; simp [eqCells] at hb
  | f :: fs, i, ks, b, hk, hb => by
    simp only [kindsF] at hk
    split at hk
    case isFalse => cases hk
    rename_i hcond
    obtain ⟨hoff, hname⟩ := hcond
    split at hk
    case h_2 => cases hk
    rename_i k hkk
    split at hk
    case h_2 => cases hk
    rename_i ks' hks
    injection hk with hk; subst hk
    obtain ⟨b1, b2, e1, e2, rfl⟩ := eqCells_append hb
    obtain ⟨u, z, hpx, hpy, he⟩ := hK _ _ hkk _ _ _ _ _ _ h1 h2 e1
    rw [← hoff] at hpx hpy
    rw [List.drop_drop, List.drop_drop] at e2
    have hrest := eqFields_run hK h1 h2 fs (i + k.length) ks' b2 hks e2
    simp only [Op.eqFields]
    rw [if_pos hname]
    simp only [Sem.run_bind, hpx, hpy, he, Result.andThen_ok]
    cases b1
    · simp
    · simp [hrest]

theorem Match.part {cs : List AV} {us : Array Value} (h : Match E w cs us) {i n : Nat} (hn : ((cs.drop i).take n).length = n) : Match E w ((cs.drop i).take n) (us.extract i (i + n)) := by
  rw [List.length_take, List.length_drop] at hn
  have hl := h.1
  refine ⟨?_, fun j c u hc hu => ?_⟩
  · rw [List.length_take, List.length_drop, Array.size_extract]; omega
  · rw [List.getElem?_take] at hc
    split at hc
    case isFalse => cases hc
    rw [List.getElem?_drop] at hc
    have hj : i + j < us.size := by have := (List.getElem?_eq_some_iff.1 hc).1; omega
    have : (us.extract i (i + n))[j]? = us[i + j]? := by
      rw [Array.getElem?_extract]
      rw [if_pos (by omega)]
    rw [this] at hu
    exact h.2 _ c u hc hu

theorem eqLeaf_run {d k : Nat} {t : TypeId} {td : TypeDesc} (ht : P.underlying t = some td) (hkt : kindOf td = some k) : EqT P E w d t [k] := by
  intro cs ds us zs i b h1 h2 hb
  cases hc : cs.drop i with
  | nil => rw [hc] at hb; simp [eqCells] at hb
  | cons x xs =>
    cases hd : ds.drop i with
    | nil => rw [hc, hd] at hb; simp [eqCells] at hb
    | cons y ys =>
      rw [hc, hd] at hb
      simp only [List.length_singleton, List.take_succ_cons, List.take_zero, eqCells] at hb
      split at hb
      case h_2 => cases hb
      rename_i b1 b2 e1 e2
      injection hb with hb; subst hb
      injection e2 with e2; subst e2
      have hx : cs[i]? = some x := by rw [← List.head?_drop, hc]; rfl
      have hy : ds[i]? = some y := by rw [← List.head?_drop, hd]; rfl
      have hxl : i < us.size := by have := (List.getElem?_eq_some_iff.1 hx).1; have := h1.1; omega
      have hyl : i < zs.size := by have := (List.getElem?_eq_some_iff.1 hy).1; have := h2.1; omega
      have hrx := h1.2 i x _ hx (Array.getElem?_eq_getElem hxl)
      have hry := h2.2 i y _ hy (Array.getElem?_eq_getElem hyl)
      have hagg : (isAgg t).run P w = .ok false w := by
        simp only [isAgg, Go.underlying, Sem.run_bind, run_program, Result.andThen_ok, ht]
        cases td <;> first | rfl | (simp [kindOf] at hkt)
      refine ⟨us[i], zs[i], by simp [Go.part, hagg, hxl], by simp [Go.part, hagg, hyl], ?_⟩
      rw [Bool.and_true]
      exact eqKind_run (P := P) (d := d) hrx hry ht hkt e1

theorem eqT_run : ∀ (n d : Nat), n ≤ d → ∀ t ks, kindsT P n t = some ks → EqT P E w d t ks
  | 0, d, _, t, ks, hk => by
    simp only [kindsT, Option.map_eq_some_iff, Option.bind_eq_some_iff] at hk
    obtain ⟨k, ⟨td, h1, h2⟩, rfl⟩ := hk
    exact eqLeaf_run h1 h2
  | n + 1, d, hd, t, ks, hk => by
    simp only [kindsT] at hk
    split at hk
    · rename_i fs hfs
      split at hk
      case isFalse => cases hk
      rename_i hst
      split at hk
      case h_2 => cases hk
      rename_i ks' hks
      split at hk
      case isFalse => cases hk
      rename_i hsz
      injection hk with hk; subst hk
      intro cs ds us zs i b h1 h2 hb
      obtain ⟨l1, l2⟩ := eqCells_length hb
      have m1 := h1.part l1
      have m2 := h2.part l2
      have hfo : P.fieldsOf t = fs := by simp [Program.fieldsOf, hfs]
      obtain ⟨inf, hinf, hs⟩ := Option.map_eq_some_iff.1 hsz
      have hagg : (isAgg t).run P w = .ok true w := by
        simp only [isAgg, Go.underlying, Sem.run_bind, run_program, Result.andThen_ok, hfs, Sem.run_pure]
      have hso : (sizeOf t).run P w = .ok ks'.length w := by
        simp [sizeOf, typeInfo, hinf, hs]
      obtain ⟨d, rfl⟩ : ∃ d', d = d' + 1 := ⟨d - 1, by omega⟩
      refine ⟨.agg (us.extract i (i + ks'.length)), .agg (zs.extract i (i + ks'.length)), by simp [Go.part, hagg, hso], by simp [Go.part, hagg, hso], ?_⟩
      rw [run_equalIn_agg w (d + 1) t _ _ (by rw [hfo]; exact hfs) hst, hfo]
      exact eqFields_run (fun t ks h => eqT_run n d (by omega) t ks h) m1 m2 fs.toList 0 ks' b hks (by simpa using hb)
    · rename_i td _ htd
      obtain ⟨k, h2, rfl⟩ := Option.map_eq_some_iff.1 hk
      exact eqLeaf_run htd h2
    · cases hk

theorem ok_eqs (hok : HOK E h w) (hs : SOK E w s a) {neg : Bool} {ks : List Nat} {x y : Operand} {x' y' : Od} {t t1 t2 yt : TypeId} (ho : o.op = .binOp (if neg then .neq else .eql) t x y yt) (hx : od P t1 x = some x') (hy : od P t2 y = some y')
    (hk : cmpKinds P t = some ks) {v : AV} {h' : Hp} (hb : evV s h (.eqs neg ks x' y') = some (v, h')) : Yields P o a E h.length w v h' := by
  have h1 := od_ok hs hx
  have h2 := od_ok hs hy
  simp only [evV, Option.map_eq_some_iff] at hb
  obtain ⟨b, hb, he⟩ := hb
  injection he with e1 e2; subst e1; subst e2
  unfold eqS at hb
  split at hb
  case h_2 => cases hb
  rename_i cs ds ex ey
  rw [ex] at h1
  rw [ey] at h2
  obtain ⟨us, hu, u1, u2⟩ := h1.agg_inv
  obtain ⟨zs, hz, z1, z2⟩ := h2.agg_inv
  unfold cmpKinds at hk
  split at hk
  case h_2 => cases hk
  rename_i fs hfs
  split at hk
  case isFalse => cases hk
  rename_i hc2
  simp only [kindsT, hfs] at hk
  split at hk
  case isFalse => cases hk
  rename_i hc1
  split at hk
  case h_2 => cases hk
  rename_i ks' hks
  split at hk
  case isFalse => cases hk
  injection hk with hk; subst hk
  have hfo : P.fieldsOf t = fs := by simp [Program.fieldsOf, hfs]
  have hr := eqFields_run (P := P) (d := 9998) (fun t ks h => eqT_run 3 9998 (by omega) t ks h) ⟨u1, u2⟩ ⟨z1, z2⟩ fs.toList 0 ks' b hks (by simpa using hb)
  have heq : (Op.equalIn 10000 t (.agg us) (.agg zs)).run P w = .ok b w := by
    rw [run_equalIn_agg w 9999 t us zs (by rw [hfo]; exact hfs) hc1, hfo]
    exact hr
  refine .still hok (u := .bool (if neg then !b else b)) ?_ (.imm (.bool _))
  cases neg
  · simp only [Bool.false_eq_true, if_false] at ho ⊢
    simp only [execOp, ho, hu, hz, Sem.run_bind, run_eqGuard_agg w _ t x y us zs hc2, Result.andThen_ok, run_eql_struct, heq, Sem.run_pure]
  · simp only [if_true] at ho ⊢
    simp only [execOp, ho, hu, hz, Sem.run_bind, run_eqGuard_agg w _ t x y us zs hc2, Result.andThen_ok, run_neq_struct, heq, Sem.run_pure]

theorem run_equalIn_nil1 {t el : TypeId} (ht : P.underlying t = some (.pointer el)) (d : Nat) (q : Option Addr) : (Op.equalIn (d + 1) t (.pointer none) (.pointer q)).run P w = .ok q.isNone w := by
  simp [Op.equalIn, run_underlying ht]
theorem run_equalIn_nil2 {t el : TypeId} (ht : P.underlying t = some (.pointer el)) (d : Nat) (q : Option Addr) : (Op.equalIn (d + 1) t (.pointer q) (.pointer none)).run P w = .ok q.isNone w := by
  cases q <;> simp [Op.equalIn, run_underlying ht]

theorem ok_eqp (hok : HOK E h w) (hs : SOK E w s a) {neg : Bool} {x y : Operand} {x' y' : Od} {t t1 t2 yt el : TypeId} (ho : o.op = .binOp (if neg then .neq else .eql) t x y yt) (hx : od P t1 x = some x') (hy : od P t2 y = some y')
    (ht : P.underlying t = some (.pointer el)) {v : AV} {h' : Hp} (hb : evV s h (.eqp neg x' y') = some (v, h')) : Yields P o a E h.length w v h' := by
  have h1 := od_ok hs hx
  have h2 := od_ok hs hy
  simp only [evV, Option.map_eq_some_iff] at hb
  obtain ⟨b, hb, he⟩ := hb
  injection he with e1 e2; subst e1; subst e2
  have fin : ∀ p q : Option Addr, a.eval x = .pointer p → a.eval y = .pointer q → (p = none ∧ b = q.isNone ∨ q = none ∧ b = p.isNone) → Yields P o a E h.length w (.bool (if neg then !b else b)) h := by
    intro p q hp hq hpq
    have heq : (Op.equal t (.pointer p) (.pointer q)).run P w = .ok b w := by
      rcases hpq with ⟨rfl, rfl⟩ | ⟨rfl, rfl⟩
      · exact run_equalIn_nil1 ht 9999 q
      · exact run_equalIn_nil2 ht 9999 p
    refine .still hok (u := .bool (if neg then !b else b)) ?_ (.imm (.bool _))
    cases neg
    · simp only [Bool.false_eq_true, if_false] at ho ⊢
      simp only [execOp, ho, hp, hq, Sem.run_bind, run_eqGuard_ptr, Result.andThen_ok, binOp, heq, Sem.run_pure]
    · simp only [if_true] at ho ⊢
      simp only [execOp, ho, hp, hq, Sem.run_bind, run_eqGuard_ptr, Result.andThen_ok, binOp, heq, Sem.run_pure]
  have anp : ∀ (z : AV) (u : Value), RV E w z u → (z = .nilp ∨ (∃ b o, z = .ptr b o) ∨ (∃ cs, z = .pro cs) ∨ ∃ b i o, z = .eptr b i o) → ∃ p : Option Addr, u = .pointer p ∧ (p.isNone ↔ z = .nilp) := by
    intro z u hz hk
    rcases hk with rfl | ⟨b, o, rfl⟩ | ⟨cs, rfl⟩ | ⟨b, i, o, rfl⟩
    · exact ⟨none, hz.nilp_inv, by simp⟩
    · obtain ⟨g, _, hp⟩ := hz.ptr_inv; exact ⟨_, hp, by simp⟩
    · cases hz.pro_inv with | pro _ g o u hc hr => exact ⟨_, rfl, by simp⟩
    · obtain ⟨g, _, hp⟩ := hz.eptr_inv; exact ⟨_, hp, by simp⟩
  unfold eqP at hb
  split at hb <;> (try (cases hb; done)) <;> rename_i ex ey <;> injection hb with hb <;> subst hb <;> rw [ex] at h1 <;> rw [ey] at h2
  all_goals
    obtain ⟨p, hp, hpn⟩ := anp _ _ h1 (by simp)
    obtain ⟨q, hq, hqn⟩ := anp _ _ h2 (by simp)
    refine fin p q hp hq ?_
    cases p <;> cases q <;> simp_all
end
end Go.Ab
