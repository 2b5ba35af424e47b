/-
  The abstract machine, fourth part: small facts on values, memory and constants.
-/
import Derived.Test.YtkbjimfganeooaaAb3
set_option linter.unusedSimpArgs false
set_option linter.unusedVariables false
namespace Go.Ab
open Go Go.RowKit

/-! ### What stands for what -/
section
variable {S : Nat → Nat → Prop} {E : Env} {w : World}

theorem RV.int_inv {k : IntKind} {n : Int} {u : Value} (h : RV E w (.int k n) u) : u = .int k n := by
  cases h with | imm h => cases h; rfl
theorem RV.bool_inv {b : Bool} {u : Value} (h : RV E w (.bool b) u) : u = .bool b := by
  cases h with | imm h => cases h; rfl
theorem RV.str_inv {s : List UInt8} {u : Value} (h : RV E w (.str s) u) : u = .string ⟨s.toArray⟩ := by
  cases h with | imm h => cases h; rfl
theorem RV.nilp_inv {u : Value} (h : RV E w .nilp u) : u = .pointer none := by
  cases h with | imm h => cases h; rfl
theorem RV.nilfn_inv {u : Value} (h : RV E w .nilfn u) : u = .nilFunc := by
  cases h with | imm h => cases h; rfl
theorem RV.nilmp_inv {u : Value} (h : RV E w .nilmp u) : u = .map none := by
  cases h with | imm h => cases h; rfl
theorem RV.ptr_inv {b off : Nat} {u : Value} (h : RV E w (.ptr b off) u) : ∃ g, E.rho b = some (some g) ∧ u = .pointer (some ⟨g, off, none⟩) := by
  cases h with
  | imm h => cases h
  | ptr _ _ g h => exact ⟨g, h, rfl⟩
theorem RV.eptr_inv {b i off : Nat} {u : Value} (h : RV E w (.eptr b i off) u) : ∃ g, E.rho b = some (some g) ∧ u = .pointer (some ⟨g, i * esz (E.ke b) + off, none⟩) := by
  cases h with
  | imm h => cases h
  | eptr _ _ _ g h => exact ⟨g, h, rfl⟩
theorem RV.mref_inv {b : Nat} {u : Value} (h : RV E w (.mref b) u) : ∃ g, E.rho b = some (some g) ∧ u = .map (some g) := by
  cases h with
  | imm h => cases h
  | mref _ g h => exact ⟨g, h, rfl⟩
theorem RV.row_inv {e b off len : Nat} {u : Value} (h : RV E w (.row e b off len) u) : E.ke b = e ∧ ((E.rho b = some none ∧ off = 0 ∧ len = 0 ∧ ∃ A, u = .slice A 0 0) ∨
    ∃ g cap A, E.rho b = some (some g) ∧ u = .slice A len cap ∧ (A = some ⟨g, off * esz e, none⟩ ∨ (off ≠ 0 ∧ len = 0)) ∧ len ≤ cap ∧ off + cap = E.ca b ∧ E.ca b ≤ maxLen) := by
  cases h with
  | imm h => cases h
  | row0 _ _ A h he => exact ⟨he, .inl ⟨h, rfl, rfl, A, rfl⟩⟩
  | row _ _ _ _ g cap A h he hA hl hc hm => exact ⟨he, .inr ⟨g, cap, A, h, rfl, hA, hl, hc, hm⟩⟩
theorem RV.arow_inv {e b off len : Nat} {u : Value} (h : RV E w (.arow e b off len) u) : ∃ g cap A, E.rho b = some (some g) ∧ u = .slice A len cap ∧ (A = some ⟨g, off, none⟩ ∨ len = 0) ∧ len ≤ cap ∧ cap ≤ maxLen := by
  cases h with
  | imm h => cases h
  | arow _ _ _ _ g cap A h hA hl hm => exact ⟨g, cap, A, h, rfl, hA, hl, hm⟩
theorem RV.crow_inv {e b off len cap : Nat} {u : Value} (h : RV E w (.crow e b off len cap) u) : E.ke b = e ∧ ((E.rho b = some none ∧ off = 0 ∧ len = 0 ∧ cap = 0 ∧ ∃ A, u = .slice A 0 0) ∨
    ∃ g A, E.rho b = some (some g) ∧ u = .slice A len cap ∧ (A = some ⟨g, off * esz e, none⟩ ∨ (off ≠ 0 ∧ cap = 0)) ∧ len ≤ cap ∧ off + cap = E.ca b ∧ E.ca b ≤ maxLen) := by
  cases h with
  | imm h => cases h
  | crow0 _ _ A h he => exact ⟨he, .inl ⟨h, rfl, rfl, rfl, A, rfl⟩⟩
  | crow _ _ _ _ g _ A h he hA hl hc hm => exact ⟨he, .inr ⟨g, A, h, rfl, hA, hl, hc, hm⟩⟩
/-- A row of a known capacity is a row. -/
theorem RV.crow_row {e b off len cap : Nat} {u : Value} (h : RV E w (.crow e b off len cap) u) : RV E w (.row e b off len) u := by
  obtain ⟨he, ⟨hr, rfl, rfl, rfl, A, rfl⟩ | ⟨g, A, hr, rfl, hA, hl, hc, hm⟩⟩ := h.crow_inv
  · exact .row0 e b A hr he
  · refine .row e b off len g cap A hr he ?_ hl hc hm
    rcases hA with hA | ⟨h1, h2⟩
    · exact .inl hA
    · exact .inr ⟨h1, by omega⟩
theorem RV.pro_inv {cs : List AV} {u : Value} (h : RV E w (.pro cs) u) : RI E.S w (.pro cs) u := by
  cases h with | imm h => exact h
theorem RV.sl_inv {e : Nat} {f : Bool} {xs : List AV} {u : Value} (h : RV E w (.sl e f xs) u) : RI E.S w (.sl e f xs) u := by
  cases h with | imm h => exact h
theorem RV.mp_inv {ks vs : List AV} {u : Value} (h : RV E w (.mp ks vs) u) : RI E.S w (.mp ks vs) u := by
  cases h with | imm h => exact h
theorem RV.fr_inv {e : Nat} {xs : List AV} {u : Value} (h : RV E w (.fr e xs) u) : False := by
  cases h with | imm h => cases h
theorem RV.agg_inv {cs : List AV} {u : Value} (h : RV E w (.agg cs) u) : ∃ us : Array Value, u = .agg us ∧ us.size = cs.length ∧ ∀ (i : Nat) c v, cs[i]? = some c → us[i]? = some v → RV E w c v := by
  cases h with
  | imm h => cases h with | agg _ us hs hr => exact ⟨us, rfl, hs, fun i c v h1 h2 => .imm (hr i c v h1 h2)⟩
  | agg _ us hs hr => exact ⟨us, rfl, hs, hr⟩
theorem RV.tup_inv {cs : List AV} {u : Value} (h : RV E w (.tup cs) u) : ∃ us : Array Value, u = .tuple us ∧ us.size = cs.length ∧ ∀ (i : Nat) c v, cs[i]? = some c → us[i]? = some v → RV E w c v := by
  cases h with
  | imm h => cases h with | tup _ us hs hr => exact ⟨us, rfl, hs, fun i c v h1 h2 => .imm (hr i c v h1 h2)⟩
  | tup _ us hs hr => exact ⟨us, rfl, hs, hr⟩
theorem RV.fn_inv {f : Nat} {cs : List AV} {u : Value} (h : RV E w (.fn f cs) u) : ∃ us : Array Value, u = .func (.func f) #[] us ∧ us.size = cs.length ∧ ∀ (i : Nat) c v, cs[i]? = some c → us[i]? = some v → RV E w c v := by
  cases h with
  | imm h => cases h with | fn _ _ us hs hr => exact ⟨us, rfl, hs, fun i c v h1 h2 => .imm (hr i c v h1 h2)⟩
  | fn _ _ us hs hr => exact ⟨us, rfl, hs, hr⟩

/-- A value that may stand in one cell is one. -/
theorem RV.one {v : AV} {u : Value} (h : RV E w v u) (ho : v.one = true) : u.oneCell' = true ∧ u.cells = #[u] := by
  cases h with
  | imm h => cases h <;> simp_all [AV.one, Value.oneCell', Value.cells]
  | junk => simp [AV.one] at ho
  | agg => simp [AV.one] at ho
  | tup => simp [AV.one] at ho
  | _ => simp [Value.oneCell', Value.cells]

/-- The cells of a value that fits stand for its cells. -/
theorem RV.fits {e : Nat} {v : AV} {u : Value} (h : RV E w v u) (hf : v.fits e = true) : u.cells.size = esz e ∧ v.cells.length = esz e ∧ (∀ (j : Nat) c x, v.cells[j]? = some c → u.cells[j]? = some x → RV E w c x) ∧
    (∀ x ∈ u.cells.toList, x.oneCell' = true) ∧ (∀ c ∈ v.cells, c.one = true) := by
  have plain : ∀ v' : AV, v' = v → (∀ cs, v' ≠ .agg cs) → u.cells.size = esz e ∧ v.cells.length = esz e ∧ (∀ (j : Nat) c x, v.cells[j]? = some c → u.cells[j]? = some x → RV E w c x) ∧
      (∀ x ∈ u.cells.toList, x.oneCell' = true) ∧ (∀ c ∈ v.cells, c.one = true) := by
    rintro v' rfl hn
    have hfo : e = 0 ∧ v'.one = true := by
      cases v' <;> simp_all [AV.fits]
    have hvc : v'.cells = [v'] := by cases v' <;> simp_all [AV.cells]
    obtain ⟨h1, h2⟩ := h.one hfo.2
    obtain ⟨rfl, ho⟩ := hfo
    refine ⟨by simp [h2], by simp [hvc], ?_, by simp [h2, h1], by simp [hvc, ho]⟩
    intro j c x hc hx
    rw [hvc] at hc
    rw [h2] at hx
    cases j with
    | zero => simp at hc hx; subst hc; subst hx; exact h
    | succ j => simp at hc
  by_cases ha : ∃ cs, v = .agg cs
  · obtain ⟨cs, rfl⟩ := ha
    obtain ⟨us, rfl, hs, hr⟩ := h.agg_inv
    simp only [AV.fits, Bool.and_eq_true, beq_iff_eq, bne_iff_ne, ne_eq, onesB, List.all_eq_true] at hf
    obtain ⟨⟨h1, h2⟩, h3⟩ := hf
    have he : esz e = e := by unfold esz; rw [if_neg h2]
    refine ⟨by rw [he]; simp [Value.cells, hs, h1], by rw [he]; simp [AV.cells, h1], fun j c x hc hx => hr j c x hc (by simpa [Value.cells] using hx), ?_, by simpa [AV.cells] using h3⟩
    intro x hx
    simp only [Value.cells] at hx
    obtain ⟨j, hj⟩ := List.getElem?_of_mem hx
    have hjl : j < cs.length := by
      have := (List.getElem?_eq_some_iff.1 hj).1
      simp at this
      omega
    exact ((hr j cs[j] x (List.getElem?_eq_getElem hjl) (by simpa using hj)).one (h3 _ (List.getElem_mem hjl))).1
  · exact plain v rfl fun cs e => ha ⟨cs, e⟩
end

/-- As `RV.fits`, of values that are not written any more. -/
theorem RI_cells {S : Nat → Nat → Prop} {w : World} {e : Nat} {v : AV} {u : Value} (h : RI S w v u) (hf : v.fits e = true) (j : Nat) (c : AV) (x : Value) (hc : v.cells[j]? = some c) (hx : u.cells[j]? = some x) : RI S w c x := by
  by_cases ha : ∃ cs, v = .agg cs
  · obtain ⟨cs, rfl⟩ := ha
    cases h with | agg _ us hs hr => exact hr j c x hc hx
  · have hvc : v.cells = [v] := by cases v <;> first | rfl | exact absurd ⟨_, rfl⟩ ha
    have ho : v.one = true := by cases v <;> simp_all [AV.fits]
    have huc := ((RV.imm (E := { S := S, rho := fun _ => none, ke := fun _ => 0, ca := fun _ => 0, base := 0 }) h).one ho).2
    rw [hvc] at hc
    rw [huc] at hx
    cases j with
    | zero => simp at hc hx; subst hc; subst hx; exact h
    | succ j => simp at hc

/-! ### Constants and operands -/
section
variable {P : Program} {S : Nat → Nat → Prop} {E : Env} {w : World} {s : Nat → AV} {a : Act}

theorem bytes_mk (s : ByteArray) : (⟨s.data.toList.toArray⟩ : ByteArray) = s := by
  obtain ⟨d⟩ := s
  simp

theorem relC_ok {x : AV} {v : Value} (h : relC x v = true) : RI S w x v := by
  unfold relC at h
  split at h
  · simp only [beq_iff_eq] at h; subst h; exact .bool _
  · simp only [Bool.and_eq_true, beq_iff_eq] at h; obtain ⟨rfl, rfl⟩ := h; exact .int _ _
  · simp only [beq_iff_eq] at h; subst h; rename_i t; have := RI.str (S := S) (w := w) t.data.toList; rwa [bytes_mk] at this
  · exact .nilp
  · exact .nilfn
  · exact .nilmp
  · exact .sl _ true [] none 0 0 0 (fun _ => undef) (Nat.le_refl _) (Nat.zero_le _) (fun _ => rfl) (.inl rfl) (fun i x h => by simp at h) (fun i x h => by simp at h) (fun i x h => by simp at h) (fun _ h => absurd rfl h)
  · cases h

theorem constAV_ok {t : TypeId} {v : Value} {x : AV} (h : constAV P t v = some x) : RI S w x v := by
  unfold constAV at h
  split at h
  · injection h with h; subst h; exact .bool _
  · injection h with h; subst h; exact .int _ _
  · injection h with h; subst h; rename_i t; have := RI.str (S := S) (w := w) t.data.toList; rwa [bytes_mk] at this
  · injection h with h; subst h; exact .nilp
  · injection h with h; subst h; exact .nilfn
  · injection h with h; subst h; exact .nilmp
  · split at h
    · simp only [Option.map_eq_some_iff] at h
      obtain ⟨e, _, rfl⟩ := h
      exact relC_ok (by rfl)
    · cases h
  · cases h

theorem od_ok {t : TypeId} {x : Operand} {y : Od} (hs : SOK E w s a) (h : od P t x = some y) : RV E w (y.ev s) (a.eval x) := by
  unfold od at h
  split at h
  · injection h with h; subst h; exact hs _
  · simp only [Option.map_eq_some_iff] at h
    obtain ⟨c, hc, rfl⟩ := h
    exact .imm (constAV_ok hc)
  · injection h with h; subst h
    exact .imm (.fn _ [] #[] rfl (fun i c u h _ => by simp at h))
  · cases h

theorem relCs_ok : ∀ {xs : List AV} {vs : List Value}, relCs xs vs = true → xs.length = vs.length ∧ ∀ (i : Nat) c u, xs[i]? = some c → vs[i]? = some u → RI S w c u
  | [], [], _ => ⟨rfl, fun i c u h => by simp at h⟩
  | x :: xs, v :: vs, h => by
    simp only [relCs, Bool.and_eq_true] at h
    obtain ⟨h1, h2⟩ := relCs_ok (xs := xs) (vs := vs) h.2
    refine ⟨by simp [h1], fun i c u hc hu => ?_⟩
    cases i with
    | zero => simp at hc hu; subst hc; subst hu; exact relC_ok h.1
    | succ i => exact h2 i c u (by simpa using hc) (by simpa using hu)
  | [], _ :: _, h => by simp [relCs] at h
  | _ :: _, [], h => by simp [relCs] at h

theorem relC_one {x : AV} {v : Value} (h : relC x v = true) : x.one = true := by
  unfold relC at h
  split at h <;> first | rfl | cases h

theorem relCs_one : ∀ {xs : List AV} {vs : List Value}, relCs xs vs = true → ∀ c ∈ xs, c.one = true
  | [], _, _, c, hc => by cases hc
  | x :: xs, v :: vs, h, c, hc => by
    simp only [relCs, Bool.and_eq_true] at h
    rcases List.mem_cons.1 hc with rfl | hc
    · exact relC_one h.1
    · exact relCs_one h.2 c hc
  | _ :: _, [], h, _, _ => by simp [relCs] at h

theorem ecode_cases {t : TypeId} {e : Nat} (h : ecode P t = some e) : ∃ i d, P.info? t = some i ∧ P.underlying t = some d ∧ i.size = esz e ∧ aggD d = (e != 0) := by
  unfold ecode at h
  cases hi : P.info? t with
  | none => rw [hi] at h; cases h
  | some i =>
    cases hu : P.underlying t with
    | none => rw [hi, hu] at h; cases h
    | some d =>
      rw [hi, hu] at h
      simp only at h
      refine ⟨i, d, rfl, rfl, ?_⟩
      by_cases ha : aggD d = true
      · rw [if_pos ha] at h
        split at h
        · injection h with h; subst h
          refine ⟨by unfold esz; rw [if_neg (by omega)], ?_⟩
          rw [ha]; simp; omega
        · cases h
      · rw [if_neg ha] at h
        split at h
        · rename_i h1
          injection h with h; subst h
          exact ⟨by simpa using h1, by simpa using ha⟩
        · cases h

theorem ecode_info {t : TypeId} {e : Nat} (h : ecode P t = some e) : ∃ i, P.info? t = some i ∧ i.size = esz e := by
  obtain ⟨i, d, hi, _, hs, _⟩ := ecode_cases h
  exact ⟨i, hi, hs⟩

theorem run_sizeOf_e {t : TypeId} {e : Nat} (h : ecode P t = some e) (w : World) : (sizeOf t).run P w = .ok (esz e) w := by
  obtain ⟨i, hi, hs⟩ := ecode_info h
  simp [sizeOf, typeInfo, hi, hs]

theorem run_isAgg_e {t : TypeId} {e : Nat} (h : ecode P t = some e) (w : World) : (isAgg t).run P w = .ok (e != 0) w := by
  obtain ⟨i, d, _, hu, _, ha⟩ := ecode_cases h
  rw [← ha]
  simp only [isAgg, Go.underlying, Sem.run_bind, run_program, Result.andThen_ok, hu]
  cases d <;> rfl

theorem zero?_ok {t : TypeId} {z : List (Nat × AV)} (h : zero? P t = some z) : ∃ i v, P.info? t = some i ∧ i.zero = some v ∧ v.cells.size = (expand z).length ∧
    ∀ (S : Nat → Nat → Prop) (w : World) (j : Nat) c u, (expand z)[j]? = some c → v.cells[j]? = some u → RI S w c u := by
  unfold zero? at h
  split at h
  · rename_i z' v hz hv
    split at h
    · rename_i hr
      injection h with h; subst h
      cases hi : P.info? t with
      | none => rw [hi] at hv; cases hv
      | some i =>
        rw [hi] at hv
        refine ⟨i, v, rfl, hv, ?_, fun S w j c u hc hu => (relCs_ok (S := S) (w := w) hr).2 j c u hc (by simpa using hu)⟩
        have := (relCs_ok (S := fun _ _ => True) (w := default) hr).1
        simpa using this.symm
    · cases h
  · cases h
end

/-! ### Memory -/
section
variable {P : Program}

theorem add_addr (g o k : Nat) : (⟨g, o, none⟩ : Addr).add k = ⟨g, o + k, none⟩ := by unfold Addr.add; split <;> simp_all

/-- A value read out of cells. -/
def realPick (e : Nat) (f : Nat → Value) : Value := if e = 0 then f 0 else .agg ((List.range e).map f).toArray

theorem run_loadVar_e {t : TypeId} {e : Nat} (he : ecode P t = some e) (w : World) (g o : Nat) (f : Nat → Value) (hf : ∀ j, j < esz e → w.cell? ⟨g, o + j, none⟩ = some (f j)) :
    (loadVar t ⟨g, o, none⟩).run P w = .ok (realPick e f) w := by
  by_cases h0 : e = 0
  · subst h0
    have := hf 0 (by simp)
    simp only [Nat.add_zero] at this
    simp [loadVar, run_isAgg_e he, realPick, this]
  · have hz : esz e = e := by unfold esz; rw [if_neg h0]
    have hl := run_loadCells (P := P) w ⟨g, o, none⟩ e f (fun j hj => by rw [add_addr]; exact hf j (by omega))
    simp [loadVar, run_isAgg_e he, h0, run_sizeOf_e he, hz, hl, realPick]

/-- One block has got other cells. -/
structure Upd (w w' : World) (g : Nat) (vals : Array Value) (t : TypeId) (fz : Nat × Nat) : Prop where
  os : w'.os = w.os
  tape : w'.tape = w.tape
  output : w'.output = w.output
  size : w'.heap.size = w.heap.size
  here : w'.heap[g]? = some (.cells vals t fz)
  other : ∀ k, k ≠ g → w'.heap[k]? = w.heap[k]?

theorem Upd.frz {w w' : World} {g : Nat} {vals vals' : Array Value} {t t' : TypeId} {fz : Nat × Nat} (h : Upd w w' g vals' t fz) (hg : w.heap[g]? = some (.cells vals t' fz)) (a : Addr) : w'.frozen? a = w.frozen? a := by
  unfold World.frozen?
  by_cases ha : a.block = g
  · rw [ha, h.here, hg]
  · rw [h.other _ ha]

theorem run_storeRow (g : Nat) (t : TypeId) (fz : Nat × Nat) : ∀ (vs : List Value) (o i : Nat) (vals : Array Value) (w : World), w.heap[g]? = some (.cells vals t fz) → Soft vals fz → o + i + vs.length ≤ vals.size → (∀ v ∈ vs, v.oneCell' = true) →
    ∃ w' vals', (storeCells ⟨g, o, none⟩ vs i).run P w = .ok () w' ∧ Upd w w' g vals' t fz ∧ vals'.size = vals.size ∧ ∀ j, vals'[j]? = if o + i ≤ j ∧ j < o + i + vs.length then vs[j - (o + i)]? else vals[j]?
  | [], o, i, vals, w, hg, _, _, _ => ⟨w, vals, rfl, ⟨rfl, rfl, rfl, rfl, hg, fun _ _ => rfl⟩, rfl, fun j => by rw [if_neg (by simp)]⟩
  | v :: vs, o, i, vals, w, hg, hs, hl, h1 => by
    have hi : o + i < vals.size := by simp at hl; omega
    have hcell : w.cell? ⟨g, o + i, none⟩ = some vals[o + i] := by simp [World.cell?, hg, hi]
    have hfro : w.frozen? ⟨g, o + i, none⟩ = false := by
      have := hs (o + i) hi
      simp only [World.frozen?, hg]
      simpa using this
    have hst : (store ((⟨g, o, none⟩ : Addr).add i) v).run P w = .ok () (w.setCell ⟨g, o + i, none⟩ v) := by
      rw [add_addr, run_store P w _ v _ (h1 v (by simp)), hcell]
      simp [hfro]
    have hg' : (w.setCell ⟨g, o + i, none⟩ v).heap[g]? = some (.cells (vals.setIfInBounds (o + i) v) t fz) := by
      simp [World.setCell, Array.getElem?_modify, hg]
    have hs' : Soft (vals.setIfInBounds (o + i) v) fz := fun k hk => hs k (by simpa using hk)
    obtain ⟨w', vals', hr, hu, hz, hv⟩ := run_storeRow g t fz vs o (i + 1) _ _ hg' hs' (by simp at hl ⊢; omega) (fun x hx => h1 x (by simp [hx]))
    refine ⟨w', vals', ?_, ⟨hu.os, hu.tape, hu.output, hu.size.trans (by simp), hu.here, fun k hk => (hu.other k hk).trans (heap_setCell_other w _ k v hk)⟩, by simpa using hz, fun j => ?_⟩
    · simp only [storeCells, Sem.run_bind, hst, Result.andThen_ok, hr]
    · rw [hv j]
      by_cases hj : j = o + i
      · subst hj
        rw [if_neg (by omega), if_pos (by simp)]
        simp [hi]
      · by_cases hj2 : o + i ≤ j ∧ j < o + i + (v :: vs).length
        · rw [if_pos (by simp at hj2; omega), if_pos hj2, show j - (o + i) = (j - (o + (i + 1))) + 1 by omega]
          simp
        · rw [if_neg (by simp at hj2; omega), if_neg hj2]
          rw [Array.getElem?_setIfInBounds]
          rw [if_neg (by omega)]
end
end Go.Ab
