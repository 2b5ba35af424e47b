/-
  The abstract machine, seventh part: the model's operations do what the abstract ones say (values, reading and writing of memory).
-/
import Derived.Test.YtkbjimfganeooaaAb6
set_option linter.unusedSimpArgs false
set_option linter.unusedVariables false
namespace Go.Ab
open Go Go.RowKit

variable {P : Program}

/-- The operation, in this frame and world, leaves a value for which v stands, and a world for which h' stands. -/
def Yields (P : Program) (o : Oper) (a : Act) (E : Env) (n : Nat) (w : World) (v : AV) (h' : Hp) : Prop :=
  ∃ u w' E' nx, (execOp a.eval o).run P w = .ok nx w' ∧ (nx = .value u ∨ (nx = .skip ∧ u = undef)) ∧ HOK E' h' w' ∧ Ext n E w E' w' ∧ RV E' w' v u

section
variable {E : Env} {w : World} {h : Hp} {s : Nat → AV} {a : Act} {o : Oper}

theorem Yields.still (hok : HOK E h w) {v : AV} {u : Value} (hr : (execOp a.eval o).run P w = .ok (.value u) w) (hv : RV E w v u) : Yields P o a E h.length w v h :=
  ⟨u, w, E, _, hr, .inl rfl, hok, Ext.refl _ _ _, hv⟩

theorem ok_mv (hok : HOK E h w) (hs : SOK E w s a) {x : Operand} {y : Od} {t : TypeId} (ho : o.op = .move x ∨ o.op = .assign x) (hx : od P t x = some y) : Yields P o a E h.length w (y.ev s) h :=
  .still hok (u := a.eval x) (by rcases ho with ho | ho <;> simp [execOp, ho]) (od_ok hs hx)

theorem ok_pick (hok : HOK E h w) (hs : SOK E w s a) {c x y : Operand} {c' x' y' : Od} {t0 t : TypeId} (ho : o.op = .pick c x y) (hc : od P t0 c = some c') (hx : od P t x = some x') (hy : od P t y = some y') {b : Bool}
    (hb : c'.ev s = .bool b) : Yields P o a E h.length w (if b then x'.ev s else y'.ev s) h := by
  have h1 := od_ok hs hc
  rw [hb] at h1
  refine .still hok (u := if b then a.eval x else a.eval y) (by simp [execOp, ho, h1.bool_inv, asBool]) ?_
  cases b
  · exact od_ok hs hy
  · exact od_ok hs hx

theorem run_eqGuard_int {op : BinOp} {t : TypeId} {x y : Operand} {k j : IntKind} {m n : Int} : (eqGuard op t x y (.int k m) (.int j n)).run P w = .ok () w := by
  cases op <;> simp [eqGuard]
theorem run_eqGuard_str {op : BinOp} {t : TypeId} {x y : Operand} {m n : ByteArray} : (eqGuard op t x y (.string m) (.string n)).run P w = .ok () w := by
  cases op <;> simp [eqGuard]
theorem run_eqGuard_bool {op : BinOp} {t : TypeId} {x y : Operand} {m n : Bool} : (eqGuard op t x y (.bool m) (.bool n)).run P w = .ok () w := by
  cases op <;> simp [eqGuard]
theorem run_eqGuard_ptr {op : BinOp} {t : TypeId} {x y : Operand} {m n : Option Addr} : (eqGuard op t x y (.pointer m) (.pointer n)).run P w = .ok () w := by
  cases op <;> simp [eqGuard]

theorem run_binI {op : BinOp} {t : TypeId} {k j : IntKind} {m n : Int} {v : AV} (hb : bin op (.int k m) (.int j n) = some v) :
    ∃ u, (binOp op t (.int k m) (.int j n)).run P w = .ok u w ∧ RV E w v u := by
  simp only [bin] at hb
  by_cases hsh : isShift op = true
  · rw [if_pos hsh] at hb
    unfold shiftI at hb
    split at hb
    · cases hb
    · rename_i hn
      cases op <;> simp only [isShift, Bool.false_eq_true] at hsh
      · injection hb with hb; subst hb
        exact ⟨_, by simp only [binOp, Op.shift]; rw [if_neg hn]; rfl, .imm (.int _ _)⟩
      · injection hb with hb; subst hb
        exact ⟨_, by simp only [binOp, Op.shift]; rw [if_neg hn]; rfl, .imm (.int _ _)⟩
  · rw [if_neg hsh] at hb
    split at hb
    · rename_i hk
      subst hk
      cases op <;> simp only [binI] at hb <;> simp only [isShift, not_true_eq_false, Bool.false_eq_true, not_false_eq_true] at hsh
      case quo =>
        split at hb
        · cases hb
        · rename_i h0
          injection hb with hb; subst hb
          exact ⟨_, by simp [binOp, Op.intDiv, h0], .imm (.int _ _)⟩
      case rem =>
        split at hb
        · cases hb
        · rename_i h0
          injection hb with hb; subst hb
          exact ⟨_, by simp [binOp, Op.intDiv, h0], .imm (.int _ _)⟩
      case and => injection hb with hb; subst hb; exact ⟨_, by simp only [binOp, ne_eq, not_true_eq_false, if_false]; rfl, .imm (.int _ _)⟩
      case or => injection hb with hb; subst hb; exact ⟨_, by simp only [binOp, ne_eq, not_true_eq_false, if_false]; rfl, .imm (.int _ _)⟩
      case xor => injection hb with hb; subst hb; exact ⟨_, by simp only [binOp, ne_eq, not_true_eq_false, if_false]; rfl, .imm (.int _ _)⟩
      case andNot => injection hb with hb; subst hb; exact ⟨_, by simp only [binOp, ne_eq, not_true_eq_false, if_false]; rfl, .imm (.int _ _)⟩
      case add => injection hb with hb; subst hb; exact ⟨_, by simp [binOp, Op.intArith], .imm (.int _ _)⟩
      case sub => injection hb with hb; subst hb; exact ⟨_, by simp [binOp, Op.intArith], .imm (.int _ _)⟩
      case mul => injection hb with hb; subst hb; exact ⟨_, by simp [binOp, Op.intArith], .imm (.int _ _)⟩
      all_goals (injection hb with hb; subst hb; exact ⟨_, by simp [binOp, Op.intCmp], .imm (.bool _)⟩)
    · cases hb

theorem toList_mk (l : List UInt8) : (⟨l.toArray⟩ : ByteArray).toList = l := by
  rw [ByteArray.toList_eq]
theorem size_mk (l : List UInt8) : (⟨l.toArray⟩ : ByteArray).size = l.length := by
  simp [ByteArray.size]
theorem append_mk (l m : List UInt8) : (⟨l.toArray⟩ : ByteArray) ++ ⟨m.toArray⟩ = ⟨(l ++ m).toArray⟩ := by
  apply ByteArray.ext
  simp

theorem run_binS {op : BinOp} {t : TypeId} {m n : List UInt8} {v : AV} (hb : bin op (.str m) (.str n) = some v) :
    ∃ u, (binOp op t (.string ⟨m.toArray⟩) (.string ⟨n.toArray⟩)).run P w = .ok u w ∧ RV E w v u := by
  simp only [bin] at hb
  cases op <;> simp only [binS] at hb <;> (try (cases hb; done))
  case add =>
    split at hb
    · rename_i hl
      injection hb with hb; subst hb
      refine ⟨_, ?_, .imm (.str _)⟩
      simp only [binOp, Op.stringOp, size_mk, append_mk]
      rw [if_neg (by simp only [IntKind.max_i64]; unfold maxStr at hl; omega)]
      rfl
    · cases hb
  all_goals (injection hb with hb; subst hb; exact ⟨_, by simp only [binOp, Op.stringOp, toList_mk]; rfl, .imm (.bool _)⟩)

theorem run_binB {op : BinOp} {t : TypeId} (ht : P.underlying t = some .bool) {m n : Bool} {v : AV} (hb : binb op (.bool m) (.bool n) = some v) :
    ∃ u, (binOp op t (.bool m) (.bool n)).run P w = .ok u w ∧ RV E w v u := by
  simp only [binb] at hb
  have he : (Op.equal t (.bool m) (.bool n)).run P w = .ok (m == n) w := run_equalIn_bool' w _ t m n ht
  cases op <;> simp only at hb <;> (try (cases hb; done))
  · injection hb with hb; subst hb
    exact ⟨_, by simp only [binOp, Sem.run_bind, he, Result.andThen_ok, Sem.run_pure], .imm (.bool _)⟩
  · injection hb with hb; subst hb
    exact ⟨_, by simp only [binOp, Sem.run_bind, he, Result.andThen_ok, Sem.run_pure], .imm (.bool _)⟩

theorem bin_kinds {op : BinOp} {x y v : AV} (h : bin op x y = some v) : (∃ k m j n, x = .int k m ∧ y = .int j n) ∨ ∃ m n, x = .str m ∧ y = .str n := by
  unfold bin at h
  split at h
  · exact .inl ⟨_, _, _, _, rfl, rfl⟩
  · exact .inr ⟨_, _, rfl, rfl⟩
  · cases h

theorem ok_bin (hok : HOK E h w) (hs : SOK E w s a) {op : BinOp} {x y : Operand} {x' y' : Od} {t t1 t2 yt : TypeId} (ho : o.op = .binOp op t x y yt) (hx : od P t1 x = some x') (hy : od P t2 y = some y')
    {v : AV} {h' : Hp} (hb : evV s h (.bin op x' y') = some (v, h')) : Yields P o a E h.length w v h' := by
  have h1 := od_ok hs hx
  have h2 := od_ok hs hy
  simp only [evV, Option.map_eq_some_iff] at hb
  obtain ⟨v', hb, he⟩ := hb
  injection he with e1 e2; subst e1; subst e2
  rcases bin_kinds hb with ⟨k, m, j, n, e1, e2⟩ | ⟨m, n, e1, e2⟩
  · rw [e1] at h1 hb; rw [e2] at h2 hb
    obtain ⟨u, r1, r2⟩ := run_binI (P := P) (t := t) (w := w) (E := E) hb
    exact .still hok (by simp only [execOp, ho, h1.int_inv, h2.int_inv, Sem.run_bind, run_eqGuard_int, Result.andThen_ok, r1, Sem.run_pure]) r2
  · rw [e1] at h1 hb; rw [e2] at h2 hb
    obtain ⟨u, r1, r2⟩ := run_binS (P := P) (t := t) (w := w) (E := E) hb
    exact .still hok (by simp only [execOp, ho, h1.str_inv, h2.str_inv, Sem.run_bind, run_eqGuard_str, Result.andThen_ok, r1, Sem.run_pure]) r2

theorem ok_binb (hok : HOK E h w) (hs : SOK E w s a) {op : BinOp} {x y : Operand} {x' y' : Od} {t t1 t2 yt : TypeId} (ho : o.op = .binOp op t x y yt) (hx : od P t1 x = some x') (hy : od P t2 y = some y') (ht : P.underlying t = some .bool)
    {v : AV} {h' : Hp} (hb : evV s h (.binb op x' y') = some (v, h')) : Yields P o a E h.length w v h' := by
  have h1 := od_ok hs hx
  have h2 := od_ok hs hy
  simp only [evV, Option.map_eq_some_iff] at hb
  obtain ⟨v', hb, he⟩ := hb
  injection he with e1 e2; subst e1; subst e2
  have hk : ∃ m n, x'.ev s = .bool m ∧ y'.ev s = .bool n := by
    unfold binb at hb
    split at hb
    · rename_i m n e1 e2; exact ⟨m, n, e1, e2⟩
    · cases hb
  obtain ⟨m, n, e1, e2⟩ := hk
  rw [e1] at h1 hb; rw [e2] at h2 hb
  obtain ⟨u, r1, r2⟩ := run_binB (P := P) (t := t) (w := w) (E := E) ht hb
  exact .still hok (by simp only [execOp, ho, h1.bool_inv, h2.bool_inv, Sem.run_bind, run_eqGuard_bool, Result.andThen_ok, r1, Sem.run_pure]) r2

theorem ok_un (hok : HOK E h w) (hs : SOK E w s a) {op : UnOp} {x : Operand} {x' : Od} {t t1 : TypeId} (ho : o.op = .unOp op t x) (hx : od P t1 x = some x') {v : AV} {h' : Hp} (hb : evV s h (.un op x') = some (v, h')) :
    Yields P o a E h.length w v h' := by
  have h1 := od_ok hs hx
  simp only [evV] at hb
  split at hb
  · rename_i b e
    rw [e] at h1
    injection hb with hb; injection hb with e1 e2; subst e1; subst e2
    exact .still hok (by simp only [execOp, ho, h1.bool_inv, Op.unary, Sem.run_bind, Sem.run_pure, Result.andThen_ok]) (.imm (.bool _))
  · rename_i k n e
    rw [e] at h1
    injection hb with hb; injection hb with e1 e2; subst e1; subst e2
    exact .still hok (by simp only [execOp, ho, h1.int_inv, Op.unary, Op.intArith, Sem.run_bind, Sem.run_pure, Result.andThen_ok]) (.imm (.int _ _))
  · rename_i k n e
    rw [e] at h1
    injection hb with hb; injection hb with e1 e2; subst e1; subst e2
    exact .still hok (by simp only [execOp, ho, h1.int_inv, Op.unary, Op.intBits, Sem.run_bind, Sem.run_pure, Result.andThen_ok]) (.imm (.int _ _))
  · cases hb

/-- A cell below the memory of a block. -/
theorem cell_vals {g o : Nat} {vals : Array Value} {t : TypeId} {fz : Nat × Nat} (hg : w.heap[g]? = some (.cells vals t fz)) : w.cell? ⟨g, o, none⟩ = vals[o]? := by
  simp [World.cell?, hg]

theorem load_core (hok : HOK E h w) {t : TypeId} {x' : Od} {e : Nat} {ux : Value} (he : ecode P t = some e) (h1 : RV E w (x'.ev s) ux) {v : AV} {h' : Hp}
    (hb : evV s h (.load e x') = some (v, h')) : ∃ g off u, ux = .pointer (some ⟨g, off, none⟩) ∧ (loadVar t ⟨g, off, none⟩).run P w = .ok u w ∧ RV E w v u ∧ h' = h := by
  simp only [evV] at hb
  have fin : ∀ (g off : Nat) (f : Nat → Value), ux = .pointer (some ⟨g, off, none⟩) → (∀ j, j < esz e → w.cell? ⟨g, off + j, none⟩ = some (f j)) → RV E w v (realPick e f) → h' = h →
      ∃ g off u, ux = .pointer (some ⟨g, off, none⟩) ∧ (loadVar t ⟨g, off, none⟩).run P w = .ok u w ∧ RV E w v u ∧ h' = h := by
    rintro g off f hp hf hv rfl
    exact ⟨g, off, _, hp, run_loadVar_e he w g off f hf, hv, rfl⟩
  split at hb
  · rename_i b off e1
    rw [e1] at h1
    obtain ⟨g, hg, hp⟩ := h1.ptr_inv
    split at hb
    · rename_i cs hcs
      simp only [Option.map_eq_some_iff] at hb
      obtain ⟨v', hv, hb⟩ := hb
      injection hb with e2 e3; subst e2; subst e3
      obtain ⟨g', vals, t', fz, k1, k2, _, k3, _, k4⟩ := hok.blocks b _ hcs
      rw [hg] at k1; injection k1 with k1; injection k1 with k1; subst k1
      obtain ⟨p1, p2⟩ := pick_ok hv (f := fun i => vals.getD i undef) (E := E) (w := w) fun i c hc => by
        have hl : i < vals.size := by have := (List.getElem?_eq_some_iff.1 hc).1; omega
        refine k4 i c _ hc ?_
        simp [hl]
      refine fin g off _ hp (fun j hj => ?_) p2 rfl
      have hl : off + j < vals.size := by have := p1 j hj; omega
      simp [cell_vals k2, hl]
    · cases hb
  · rename_i b i off e1
    rw [e1] at h1
    obtain ⟨g, hg, hp⟩ := h1.eptr_inv
    split at hb
    · rename_i e' xs hxs
      split at hb
      · rename_i z hz
        simp only [Option.map_eq_some_iff] at hb
        obtain ⟨v', hv, hb⟩ := hb
        injection hb with e2 e3; subst e2; subst e3
        obtain ⟨ke, hbb⟩ := hok.blocks b _ hxs
        rcases hbb with ⟨k0, rfl⟩ | ⟨g', vals, t', fz, k1, k2, _, k3, k4, k5, k6, k7⟩
        · simp at hz
        rw [hg] at k1; injection k1 with k1; injection k1 with k1; subst k1
        obtain ⟨s1, u, s2, s3, s4⟩ := k7 i z hz
        obtain ⟨c1, c2, c3⟩ := shape_cells s1 s2 s3
        obtain ⟨p1, p2⟩ := pick_ok hv (f := fun i => u.cells.getD i undef) (E := E) (w := w) fun i c hc => by
          have hl : i < u.cells.size := by have := (List.getElem?_eq_some_iff.1 hc).1; omega
          refine c3 i c _ hc ?_
          simp [hl]
        refine fin g _ _ hp (fun j hj => ?_) p2 rfl
        have hl : off + j < u.cells.size := by have := p1 j hj; omega
        have := s4 (off + j) u.cells[off + j] (Array.getElem?_eq_getElem hl)
        rw [cell_vals k2, ke, Nat.add_assoc, this]
        simp [hl]
      · cases hb
    · cases hb
  · rename_i cs e1
    rw [e1] at h1
    simp only [Option.map_eq_some_iff] at hb
    obtain ⟨v', hv, hb⟩ := hb
    injection hb with e2 e3; subst e2; subst e3
    cases h1.pro_inv with
    | pro _ g off f hc hr =>
      obtain ⟨p1, p2⟩ := pick_ok hv (f := f) (E := E) (w := w) fun i c hc => .imm (hr i c hc)
      refine fin g off _ rfl (fun j hj => ?_) p2 rfl
      have := p1 j hj
      simp only [Nat.zero_add] at this ⊢
      exact (hc j cs[j] (List.getElem?_eq_getElem this)).2
  · cases hb

theorem ok_load (hok : HOK E h w) (hs : SOK E w s a) {t t0 : TypeId} {x : Operand} {x' : Od} {e : Nat} (ho : o.op = .load t x) (he : ecode P t = some e) (hx : od P t0 x = some x') {v : AV} {h' : Hp}
    (hb : evV s h (.load e x') = some (v, h')) : Yields P o a E h.length w v h' := by
  obtain ⟨g, off, u, hp, hrun, hv, rfl⟩ := load_core (P := P) hok he (od_ok hs hx) hb
  exact .still hok (by simp only [execOp, ho, hp, Instr.loadAt, Instr.sureAddr, Sem.run_bind, Sem.run_pure, Result.andThen_ok, hrun]) hv

theorem getElem?_splice {cs us : List AV} {off : Nat} (hl : off + us.length ≤ cs.length) (i : Nat) :
    (cs.take off ++ us ++ cs.drop (off + us.length))[i]? = if off ≤ i ∧ i < off + us.length then us[i - off]? else cs[i]? := by
  have h1 : (cs.take off).length = off := by simp; omega
  by_cases h2 : i < off
  · rw [if_neg (by omega), List.append_assoc, List.getElem?_append_left (by omega), List.getElem?_take, if_pos h2]
  · by_cases h3 : i < off + us.length
    · rw [if_pos ⟨by omega, h3⟩, List.append_assoc, List.getElem?_append_right (by omega), h1, List.getElem?_append_left (by omega)]
    · rw [if_neg (by omega), List.getElem?_append_right (by simp; omega)]
      simp only [List.length_append, h1, List.getElem?_drop]
      congr 1
      omega

theorem getElem?_splice' {cs : List AV} {off e : Nat} {v : AV} (hf : v.fits e = true) (hl : off + esz e ≤ cs.length) (i : Nat) :
    (splice cs off v)[i]? = if off ≤ i ∧ i < off + esz e then v.cells[i - off]? else cs[i]? := by
  by_cases ha : ∃ us, v = .agg us
  · obtain ⟨us, rfl⟩ := ha
    simp only [AV.fits, Bool.and_eq_true, beq_iff_eq, bne_iff_ne, ne_eq] at hf
    have hz : esz e = us.length := by unfold esz; rw [if_neg hf.1.2]; exact hf.1.1
    rw [hz] at hl ⊢
    exact getElem?_splice hl i
  · have he : e = 0 := by cases v <;> simp_all [AV.fits]
    subst he
    have hz1 : esz 0 = 1 := rfl
    have hsp : splice cs off v = cs.set off v := by cases v <;> first | rfl | exact absurd ⟨_, rfl⟩ ha
    have hvc : v.cells = [v] := by cases v <;> first | rfl | exact absurd ⟨_, rfl⟩ ha
    rw [hsp, hvc, List.getElem?_set]
    by_cases h1 : off = i
    · subst h1; rw [if_pos rfl, if_pos (by omega), if_pos ⟨Nat.le_refl _, by omega⟩]; simp
    · rw [if_neg h1, if_neg (by omega)]

theorem length_splice {cs : List AV} {off e : Nat} {v : AV} (hf : v.fits e = true) (hl : off + esz e ≤ cs.length) : (splice cs off v).length = cs.length := by
  by_cases ha : ∃ us, v = .agg us
  · obtain ⟨us, rfl⟩ := ha
    simp only [AV.fits, Bool.and_eq_true, beq_iff_eq, bne_iff_ne, ne_eq] at hf
    have hz : esz e = us.length := by unfold esz; rw [if_neg hf.1.2]; exact hf.1.1
    rw [hz] at hl
    simp [splice]; omega
  · have hsp : splice cs off v = cs.set off v := by cases v <;> first | rfl | exact absurd ⟨_, rfl⟩ ha
    rw [hsp]; simp

theorem fits_zero {v : AV} (h : v.fits 0 = true) : v.one = true ∧ ∀ cs, v ≠ .agg cs := by
  cases v <;> first
    | (simp [AV.fits] at h; done)
    | exact ⟨by simpa [AV.fits] using h, fun cs e => by cases e⟩

theorem cells_one {v : AV} (h : ∀ cs, v ≠ .agg cs) : v.cells = [v] := by
  cases v <;> first | rfl | exact absurd rfl (h _)

set_option maxHeartbeats 2000000 in
theorem ok_store (hok : HOK E h w) (hs : SOK E w s a) {t t0 t1 : TypeId} {x y : Operand} {x' y' : Od} {e : Nat} (ho : o.op = .store t x y) (he : ecode P t = some e) (hx : od P t0 x = some x') (hy : od P t1 y = some y') {v : AV} {h' : Hp}
    (hb : evV s h (.store e x' y') = some (v, h')) : Yields P o a E h.length w v h' := by
  have h1 := od_ok hs hx
  have h2 := od_ok hs hy
  simp only [evV] at hb
  split at hb
  case isFalse => cases hb
  rename_i hfit
  obtain ⟨f1, f2, f3, f4, f5⟩ := h2.fits hfit
  have fin : ∀ (b g off : Nat) (x0 y0 : HB) (vals : Array Value) (t' : TypeId) (fz : Nat × Nat), a.eval x = .pointer (some ⟨g, off, none⟩) → h[b]? = some x0 → x0.alive → E.rho b = some (some g) → w.heap[g]? = some (.cells vals t' fz) → Soft vals fz →
      off + esz e ≤ vals.size → (∀ (w' : World) (vals' : Array Value), Ext h.length E w E w' → w'.heap[g]? = some (.cells vals' t' fz) → vals'.size = vals.size → (∀ (j : Nat), vals'[j]? = if off ≤ j ∧ j < off + esz e then (a.eval y).cells[j - off]? else vals[j]?) → BOK E w' b y0) →
      v = .junk → h' = h.set b y0 → Yields P o a E h.length w v h' := by
    rintro b g off x0 y0 vals t' fz hp hb0 hal hr hg hsoft hl hnew rfl rfl
    have hsz : (a.eval y).cells.toList.length = esz e := by simpa using f1
    obtain ⟨w', vals', r1, r2, r3, r4⟩ := run_storeRow (P := P) g t' fz (a.eval y).cells.toList off 0 vals w hg hsoft (by rw [hsz]; omega) f4
    have hext : Ext h.length E w E w' := hok.ext_upd hb0 hal hr _ r2.os r2.tape r2.output (Nat.le_of_eq r2.size.symm) (fun k hk _ => r2.other k hk) (r2.frz hg)
    have hbok := hnew w' vals' hext r2.here r3 (fun j => by rw [r4 j, hsz]; simp)
    have hok' := hok.set hb0 hal hr r2.os r2.tape r2.output (Nat.le_of_eq r2.size.symm) (fun k hk _ => r2.other k hk) (r2.frz hg) hbok
    refine ⟨undef, w', E, .skip, ?_, .inr ⟨rfl, rfl⟩, hok', hext, .junk _⟩
    simp only [execOp, ho, hp, Instr.storeAt, Instr.sureAddr, Sem.run_bind, Sem.run_pure, Result.andThen_ok, storeVar, run_sizeOf_e he, f1, ne_eq, not_true_eq_false, if_false, r1]
  split at hb
  · rename_i b off e1
    rw [e1] at h1
    obtain ⟨g, hg, hp⟩ := h1.ptr_inv
    split at hb
    · rename_i cs hcs
      split at hb
      · rename_i hl
        injection hb with hb; injection hb with e2 e3
        obtain ⟨g', vals, t', fz, k1, k2, k2', k3, k3', k4⟩ := hok.blocks b _ hcs
        rw [hg] at k1; injection k1 with k1; injection k1 with k1; subst k1
        refine fin b g off _ _ vals t' fz hp hcs trivial hg k2 k2' (by omega) (fun w' vals' hext hh hz hv => ?_) e2.symm e3.symm
        refine ⟨g, vals', t', fz, hg, hh, fun j hj => k2' j (by omega), by rw [length_splice hfit hl]; omega, fun c hc => ?_, fun i c u hc hu => ?_⟩
        · obtain ⟨i, hi⟩ := List.getElem?_of_mem hc
          rw [getElem?_splice' hfit hl] at hi
          split at hi
          · exact .inl (f5 c (List.mem_of_getElem? hi))
          · exact k3' c (List.mem_of_getElem? hi)
        · rw [getElem?_splice' hfit hl] at hc
          rw [hv i] at hu
          split at hc
          · rename_i hi
            rw [if_pos hi] at hu
            exact (f3 _ c u hc hu).ext hext hok.dom
          · rename_i hi
            rw [if_neg hi] at hu
            exact (k4 i c u hc hu).ext hext hok.dom
      · cases hb
    · cases hb
  · rename_i b i off e1
    rw [e1] at h1
    obtain ⟨g, hg, hp⟩ := h1.eptr_inv
    split at hb
    · rename_i e' xs hxs
      obtain ⟨ke, hbb⟩ := hok.blocks b _ hxs
      -- the element i gets the cells of z', which differ from its own at off .. off + esz e
      have elem : ∀ (z z' : AV), xs[i]? = some z → Shape e' z' → off + esz e ≤ esz e' → (∀ (j : Nat), z'.cells[j]? = if off ≤ j ∧ j < off + esz e then (y'.ev s).cells[j - off]? else z.cells[j]?) → (∀ cs, z' = .agg cs → ∃ cs0, z = .agg cs0 ∧ cs.length = cs0.length) → (e' = 0 → z' = y'.ev s) →
          v = .junk → h' = h.set b (.els e' (xs.set i z')) → Yields P o a E h.length w v h' := by
        intro z z' hz hsh' hle hcells hag he0 hv1 hh1
        rcases hbb with ⟨k0, rfl⟩ | ⟨g', vals, t', fz, k1, k2, k2', k3, k4, k5, k6, k7⟩
        · simp at hz
        rw [hg] at k1; injection k1 with k1; injection k1 with k1; subst k1
        have hil : i < xs.length := (List.getElem?_eq_some_iff.1 hz).1
        have hmul : (i + 1) * esz e' ≤ xs.length * esz e' := Nat.mul_le_mul_right _ hil
        rw [Nat.succ_mul] at hmul
        refine fin b g (i * esz (E.ke b) + off) _ _ vals t' fz hp hxs trivial hg k2 k2' (by rw [ke]; omega) (fun w' vals' hext hh hz' hv => ?_) hv1 hh1
        rw [ke] at hv
        refine ⟨ke, .inr ⟨g, vals', t', fz, hg, hh, fun j hj => k2' j (by omega), by omega, by simpa using k4, k5, by simp; omega, fun i' x' hx' => ?_⟩⟩
        rw [List.getElem?_set] at hx'
        by_cases hii : i = i'
        · subst hii
          rw [if_pos rfl, if_pos hil] at hx'
          injection hx' with hx'; subst hx'
          obtain ⟨s1, u, s2, s3, s4⟩ := k7 i z hz
          obtain ⟨c1, c2, c3⟩ := shape_cells s1 s2 s3
          -- the new value of the element
          by_cases h0 : e' = 0
          · have hz' := he0 h0
            subst hz'
            subst h0
            simp only [esz_zero] at hle
            have hes : esz e = 1 := by have := esz_pos e; omega
            have hoff : off = 0 := by omega
            subst hoff
            refine ⟨hsh', a.eval y, h2.ext hext hok.dom, by rw [f1, hes]; rfl, fun j c hc => ?_⟩
            have hj : j = 0 := by have := (Array.getElem?_eq_some_iff.1 hc).1; omega
            subst hj
            rw [hv, if_pos (by simp; omega)]
            simpa using hc
          · have hsz : esz e' = e' := by simp [esz, h0]
            unfold Shape at hsh'
            rw [if_neg h0] at hsh'
            obtain ⟨cs', rfl, hl', hok1⟩ := hsh'
            let us : Array Value := ((List.range (esz e')).map fun j => vals'.getD (i * esz e' + j) undef).toArray
            have hus : us.size = esz e' := by simp [us]
            have husj : ∀ (j : Nat) c, us[j]? = some c → j < esz e' ∧ vals'[i * esz e' + j]? = some c := fun j c hc => by
              have hj : j < esz e' := by have := (Array.getElem?_eq_some_iff.1 hc).1; omega
              have hjl : i * esz e' + j < vals'.size := by omega
              simp [us, hj, hjl] at hc
              exact ⟨hj, by simp [hjl, hc]⟩
            refine ⟨by unfold Shape; rw [if_neg h0]; exact ⟨cs', rfl, hl', hok1⟩, .agg us, .agg cs' us (by rw [hus, hsz, hl']) fun j c x hc hx => ?_, hus, fun j c hc => (husj j c hc).2⟩
            obtain ⟨hj, hx⟩ := husj j x hx
            have hcj := hcells j
            simp only [AV.cells] at hcj
            rw [hc] at hcj
            rw [hv] at hx
            by_cases hin : off ≤ j ∧ j < off + esz e
            · rw [if_pos hin] at hcj
              rw [if_pos (by omega), show i * esz e' + j - (i * esz e' + off) = j - off by omega] at hx
              exact (f3 _ c x hcj.symm hx).ext hext hok.dom
            · rw [if_neg hin] at hcj
              rw [if_neg (by omega)] at hx
              have hjl : j < u.cells.size := by omega
              have h4 := s4 j u.cells[j] (Array.getElem?_eq_getElem hjl)
              rw [hx] at h4; injection h4 with h4
              exact (c3 j c x hcj.symm (by rw [Array.getElem?_eq_getElem hjl, h4])).ext hext hok.dom
        · rw [if_neg hii] at hx'
          obtain ⟨s1, u, s2, s3, s4⟩ := k7 i' x' hx'
          refine ⟨s1, u, s2.ext hext hok.dom, s3, fun j c hc => ?_⟩
          have hj : j < esz e' := by have := (Array.getElem?_eq_some_iff.1 hc).1; omega
          rw [hv, if_neg (fun hin => ?_)]
          · exact s4 j c hc
          · rcases Nat.lt_or_gt_of_ne hii with hlt | hgt
            · have := Nat.mul_le_mul_right (esz e') hlt
              rw [Nat.succ_mul] at this
              omega
            · have := Nat.mul_le_mul_right (esz e') hgt
              rw [Nat.succ_mul] at this
              omega
      have shape_of : ∀ z, xs[i]? = some z → Shape e' z := fun z hz => by
        rcases hbb with ⟨_, rfl⟩ | ⟨_, _, _, _, _, _, _, _, _, _, _, k7⟩
        · simp at hz
        · exact (k7 i z hz).1
      split at hb
      · rename_i cs hz
        split at hb
        · rename_i hl
          injection hb with hb; injection hb with e2 e3
          have hsh := shape_of _ hz
          have h0 : e' ≠ 0 := by
            intro h0
            unfold Shape at hsh
            rw [if_pos h0] at hsh
            rcases hsh with hsh | hsh
            · simp [AV.one] at hsh
            · cases hsh
          unfold Shape at hsh
          rw [if_neg h0] at hsh
          obtain ⟨cs0, hcs0, hl0, hok1⟩ := hsh
          injection hcs0 with hcs0; subst hcs0
          have hsz : esz e' = e' := by simp [esz, h0]
          refine elem (.agg cs) (.agg (splice cs off (y'.ev s))) hz ?_ (by omega) (fun j => ?_) (fun cs' hc => ?_) (fun h => absurd h h0) e2.symm e3.symm
          · unfold Shape
            rw [if_neg h0]
            refine ⟨_, rfl, by rw [length_splice hfit hl, hl0], fun c hc => ?_⟩
            obtain ⟨j, hj⟩ := List.getElem?_of_mem hc
            rw [getElem?_splice' hfit hl] at hj
            split at hj
            · exact .inl (f5 c (List.mem_of_getElem? hj))
            · exact hok1 c (List.mem_of_getElem? hj)
          · simp only [AV.cells]
            exact getElem?_splice' hfit hl j
          · injection hc with hc
            exact ⟨cs, rfl, by rw [← hc, length_splice hfit hl]⟩
        · cases hb
      · rename_i z hnag hz
        split at hb
        · rename_i hcond
          obtain ⟨rfl, rfl⟩ := hcond
          injection hb with hb; injection hb with e2 e3
          have hsh := shape_of _ hz
          have h0 : e' = 0 := by
            by_cases h0 : e' = 0
            · exact h0
            · unfold Shape at hsh
              rw [if_neg h0] at hsh
              obtain ⟨cs, rfl, _⟩ := hsh
              exact absurd rfl (hnag cs)
          subst h0
          have hone := fits_zero hfit
          refine elem z (y'.ev s) hz (by unfold Shape; rw [if_pos rfl]; exact .inl hone.1) (by simp) (fun j => ?_) (fun cs hc => absurd hc (hone.2 cs)) (fun _ => rfl) e2.symm e3.symm
          have hvc := cells_one hone.2
          have hzc := cells_one hnag
          rw [hvc, hzc]
          by_cases hj : j = 0
          · subst hj; simp
          · rw [if_neg (by simp; omega)]
            cases j with
            | zero => exact absurd rfl hj
            | succ j => simp
        · cases hb
      · cases hb
    · cases hb
  · cases hb
end
end Go.Ab
