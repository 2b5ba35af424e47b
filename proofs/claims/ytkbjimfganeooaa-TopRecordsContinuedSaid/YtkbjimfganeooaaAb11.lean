/-
  The abstract machine, eleventh part: append, make, conversions of texts, maps.
-/
import Derived.Test.YtkbjimfganeooaaAb10
import Derived.Lib.ConvBytes
import Derived.Laws.BytesString
set_option linter.unusedSimpArgs false
set_option linter.unusedVariables false
namespace Go.Ab
open Go Go.RowKit

variable {P : Program}

section
variable {E : Env} {w : World} {h : Hp} {s : Nat → AV} {a : Act} {o : Oper}

/-- The cells of a row: element by element. -/
def rowCells (e : Nat) (uf : Nat → Value) (n : Nat) : Array Value := ((List.range (n * esz e)).map fun k => (uf (k / esz e)).cells.getD (k % esz e) undef).toArray

theorem rowCells_size (e : Nat) (uf : Nat → Value) (n : Nat) : (rowCells e uf n).size = n * esz e := by simp [rowCells]

theorem rowCells_at {e n i j : Nat} {uf : Nat → Value} (hi : i < n) (hj : j < esz e) : (rowCells e uf n)[i * esz e + j]? = some ((uf i).cells.getD j undef) := by
  have hlt : i * esz e + j < n * esz e := by
    have := Nat.mul_le_mul_right (esz e) hi
    rw [Nat.succ_mul] at this
    omega
  have h1 : (i * esz e + j) / esz e = i := by
    rw [Nat.mul_comm, Nat.mul_add_div (esz_pos e), Nat.div_eq_of_lt hj, Nat.add_zero]
  have h2 : (i * esz e + j) % esz e = j := by rw [Nat.mul_comm, Nat.mul_add_mod, Nat.mod_eq_of_lt hj]
  simp [rowCells, hlt, h1, h2]

/-- Where elements come from: their values, and how the model reads them. -/
structure Src (P : Program) (E : Env) (w : World) (e : Nat) (ys : List AV) (u : Value) (uf : Nat → Value) : Prop where
  len : ∀ w' : World, (Builtin.lenOf u).run P w' = .ok ys.length w'
  readn : ∀ n, n ≤ ys.length → ∀ w' : World, (∀ x, w'.cell? x = w.cell? x) → (Builtin.firstCells (esz e) n u).run P w' = .ok (rowCells e uf n) w'
  el : ∀ (i : Nat) y, ys[i]? = some y → y.fits e = true ∧ RI E.S w y (uf i) ∧ (uf i).cells.size = esz e

theorem Src.read {P : Program} {E : Env} {w : World} {e : Nat} {ys : List AV} {u : Value} {uf : Nat → Value} (h : Src P E w e ys u uf) (w' : World) (hw : ∀ x, w'.cell? x = w.cell? x) :
    (Builtin.firstCells (esz e) ys.length u).run P w' = .ok (rowCells e uf ys.length) w' := h.readn _ (Nat.le_refl _) w' hw

theorem run_loadCells_row {g o0 e n : Nat} {uf : Nat → Value} {w' : World} (hc : ∀ i, i < n → ∀ j, j < esz e → w'.cell? ⟨g, o0 + (i * esz e + j), none⟩ = some ((uf i).cells.getD j undef)) :
    (loadCells ⟨g, o0, none⟩ (n * esz e)).run P w' = .ok (rowCells e uf n) w' := by
  have := run_loadCells (P := P) w' ⟨g, o0, none⟩ (n * esz e) (fun k => (uf (k / esz e)).cells.getD (k % esz e) undef) (fun k hk => by
    rw [add_addr]
    have hd := Nat.div_add_mod k (esz e)
    rw [Nat.mul_comm] at hd
    have := hc (k / esz e) (Nat.div_lt_of_lt_mul (by rw [Nat.mul_comm]; exact hk)) (k % esz e) (Nat.mod_lt _ (esz_pos e))
    rw [hd] at this
    exact this)
  simpa [rowCells] using this

theorem choose_uf {xs : List AV} {Q : Nat → AV → Value → Prop} (hq : ∀ (i : Nat) x, xs[i]? = some x → ∃ v, Q i x v) : ∃ uf : Nat → Value, ∀ (i : Nat) x, xs[i]? = some x → Q i x (uf i) := by
  have : ∀ i : Nat, ∃ v : Value, ∀ x, xs[i]? = some x → Q i x v := fun i => by
    cases hx : xs[i]? with
    | none => exact ⟨undef, fun y h => by cases h⟩
    | some x =>
      obtain ⟨v, hv⟩ := hq i x hx
      exact ⟨v, fun y e => by injection e with e; subst e; exact hv⟩
  exact ⟨fun i => (this i).choose, fun i => (this i).choose_spec⟩

theorem shape_plain {e : Nat} {x : AV} (hs : Shape e x) (hp : plain deep x = true) : x.fits e = true := by
  unfold Shape at hs
  by_cases he : e = 0
  · rw [if_pos he] at hs
    subst he
    rcases hs with hs | rfl
    · cases x <;> simp_all [AV.fits, AV.one]
    · obtain ⟨m, hd⟩ : ∃ m, deep = m + 1 := ⟨11, rfl⟩
      rw [hd] at hp
      simp [plain] at hp
  · rw [if_neg he] at hs
    obtain ⟨cs, rfl, hl, hc⟩ := hs
    obtain ⟨m, hd⟩ : ∃ m, deep = m + 1 := ⟨11, rfl⟩
    rw [hd] at hp
    simp only [plain, List.all_eq_true] at hp
    simp only [AV.fits, Bool.and_eq_true, beq_iff_eq, bne_iff_ne, ne_eq, onesB, List.all_eq_true]
    refine ⟨⟨hl.symm, he⟩, fun c hcm => ?_⟩
    rcases hc c hcm with h1 | rfl
    · exact h1
    · have := hp _ hcm
      cases m <;> simp [plain] at this

theorem srcElems_ok0 (hok : HOK E h w) {e : Nat} {y : AV} {u : Value} {ys : List AV} (hr : RV E w y u) (hs : srcElems e h y = some ys) (hnc : ∀ e b o l c, y ≠ .crow e b o l c) : ∃ uf, Src P E w e ys u uf := by
  unfold srcElems at hs
  split at hs
  · rename_i e' f xs
    split at hs
    case isFalse => cases hs
    rename_i hee
    subst hee
    injection hs with hs; subst hs
    cases hr.sl_inv with
    | sl _ _ _ A cap g o uf hl hm hf hA hfit hc hrr =>
      have hsz : ∀ (i : Nat) x, xs[i]? = some x → (uf i).cells.size = esz e' := fun i x hx => ((RV.imm (E := E) (hrr i x hx)).fits (hfit i x hx)).1
      refine ⟨uf, fun w' => by simp [Builtin.lenOf], fun n hn w' hw => ?_, fun i x hx => ⟨hfit i x hx, hrr i x hx, hsz i x hx⟩⟩
      rcases hA with hA | hA
      · subst hA
        obtain rfl : n = 0 := Nat.le_zero.1 hn
        cases A <;> simp [Builtin.firstCells, rowCells, loadCells, loadCellsFrom]
      · subst hA
        simp only [Builtin.firstCells]
        refine run_loadCells_row fun i hi j hj => ?_
        rw [hw]
        have hx := List.getElem?_eq_getElem (Nat.lt_of_lt_of_le hi hn)
        have hj' : j < (uf i).cells.size := by rw [hsz i _ hx]; exact hj
        rw [(hc i _ hx j _ (Array.getElem?_eq_getElem hj')).2]
        simp [hj']
  · rename_i e' b off len
    split at hs
    case h_2 => cases hs
    rename_i e'' xs hb
    split at hs
    case isFalse => cases hs
    rename_i hcond
    obtain ⟨rfl, rfl, hle, hpl⟩ := hcond
    injection hs with hs
    have hyl : ys.length = len := by rw [← hs]; simp; omega
    obtain ⟨hke, ⟨h0, rfl, rfl, A, rfl⟩ | ⟨g, cap, A, hg, rfl, hA, hl, hc, hm⟩⟩ := hr.row_inv
    · have hy0 : ys = [] := List.eq_nil_of_length_eq_zero hyl
      subst hy0
      refine ⟨fun _ => undef, fun w' => by simp [Builtin.lenOf], fun n hn w' hw => ?_, fun i x hx => by simp at hx⟩
      obtain rfl : n = 0 := Nat.le_zero.1 hn
      cases A <;> simp [Builtin.firstCells, rowCells, loadCells, loadCellsFrom]
    · obtain ⟨_, ⟨h0, _⟩ | ⟨g', vals, t, fz, k1, k2, k2', k3, k4, k5, k6, k7⟩⟩ := hok.blocks b _ hb
      · rw [h0] at hg; cases hg
      rw [hg] at k1; injection k1 with k1; injection k1 with k1; subst k1
      have hat : ∀ (i : Nat) y, ys[i]? = some y → xs[off + i]? = some y := fun i y hy => by
        rw [← hs, List.getElem?_take] at hy
        split at hy
        · rwa [List.getElem?_drop] at hy
        · cases hy
      obtain ⟨uf, huf⟩ := choose_uf (xs := ys) (Q := fun i y v => y.fits e'' = true ∧ RI E.S w y v ∧ v.cells.size = esz e'' ∧ ∀ (j : Nat) c, v.cells[j]? = some c → vals[(off + i) * esz e'' + j]? = some c) (fun i y hy => by
        obtain ⟨s1, v, s2, s3, s4⟩ := k7 _ y (hat i y hy)
        have hp : plain deep y = true := List.all_eq_true.1 hpl y (by rw [hs]; exact List.mem_of_getElem? hy)
        exact ⟨v, shape_plain s1 hp, plain_RI deep y v hp s2, s3, s4⟩)
      refine ⟨uf, fun w' => by simp [Builtin.lenOf, hyl], fun n hn w' hw => ?_, fun i x hx => ⟨(huf i x hx).1, (huf i x hx).2.1, (huf i x hx).2.2.1⟩⟩
      rcases hA with hA | ⟨_, h0⟩
      · subst hA
        simp only [Builtin.firstCells]
        refine run_loadCells_row fun i hi j hj => ?_
        rw [hw]
        obtain ⟨_, _, q3, q4⟩ := huf i _ (List.getElem?_eq_getElem (Nat.lt_of_lt_of_le hi hn))
        have hj' : j < (uf i).cells.size := by rw [q3]; exact hj
        have := q4 j _ (Array.getElem?_eq_getElem hj')
        rw [Nat.add_mul] at this
        rw [cell_vals k2, ← Nat.add_assoc, this]
        simp [hj']
      · have hy0 : ys = [] := List.eq_nil_of_length_eq_zero (by omega)
        subst hy0
        obtain rfl : n = 0 := Nat.le_zero.1 hn
        cases A <;> simp [Builtin.firstCells, rowCells, loadCells, loadCellsFrom]
  · exact absurd rfl (hnc _ _ _ _ _)
  · rename_i e' b off len
    split at hs
    case h_2 => cases hs
    rename_i cs hb
    split at hs
    case isFalse => cases hs
    rename_i hee
    subst hee
    split at hs
    case h_2 => cases hs
    rename_i xs hxs
    split at hs
    case isFalse => cases hs
    rename_i hpl
    injection hs with hs; subst hs
    obtain ⟨e1, e2⟩ := elems_some hxs
    obtain ⟨g, cap, A, hg, rfl, hA, hl, hm⟩ := hr.arow_inv
    obtain ⟨g', vals, t, fz, k1, k2, k2', k3, k3', k4⟩ := hok.blocks b _ hb
    rw [hg] at k1; injection k1 with k1; injection k1 with k1; subst k1
    have hf : ∀ (i : Nat) c, (cs.drop off)[i]? = some c → RV E w c (vals.getD (off + i) undef) := fun i c hc => by
      rw [List.getElem?_drop] at hc
      have hl : off + i < vals.size := by have := (List.getElem?_eq_some_iff.1 hc).1; omega
      refine k4 _ c _ hc ?_
      simp [hl]
    let uf : Nat → Value := fun i => realPick e' fun j => vals.getD (off + (i * esz e' + j)) undef
    have hel : ∀ (i : Nat) x, xs[i]? = some x → x.fits e' = true ∧ RI E.S w x (uf i) ∧ (uf i).cells.size = esz e' ∧ ∀ j, j < esz e' → vals[off + (i * esz e' + j)]? = some ((uf i).cells.getD j undef) := fun i x hx => by
      obtain ⟨p1, p2⟩ := pick_ok (e2 i x hx) hf
      have hp : plain deep x = true := List.all_eq_true.1 hpl x (List.mem_of_getElem? hx)
      have hfit := shape_plain (pick_shape (e2 i x hx) fun c hc => k3' c (List.mem_of_mem_drop hc)) hp
      have hfu := RV.fits p2 hfit
      have hlen : ∀ j, j < esz e' → off + (i * esz e' + j) < vals.size := fun j hj => by
        have := p1 j hj
        simp at this
        omega
      refine ⟨hfit, plain_RI deep x _ hp p2, hfu.1, fun j hj => ?_⟩
      have hlj := hlen j hj
      rw [Array.getElem?_eq_getElem hlj]
      congr 1
      show _ = (realPick e' fun j => vals.getD (off + (i * esz e' + j)) undef).cells.getD j undef
      unfold realPick
      by_cases h0 : e' = 0
      · rw [if_pos h0]
        have hj0 : j = 0 := by subst h0; simp at hj; exact hj
        subst hj0
        have hone : x.one = true := by
          subst h0
          exact (fits_zero hfit).1
        have hcell := (p2.one hone).2
        unfold realPick at hcell
        rw [if_pos h0] at hcell
        rw [hcell]
        simp only [Nat.add_zero] at hlj
        simp [hlj]
      · rw [if_neg h0]
        have hje : j < e' := by simpa [esz, h0] using hj
        simp [Value.cells, hje, hlj]
    refine ⟨uf, fun w' => by simp [Builtin.lenOf, e1], fun n hn w' hw => ?_, fun i x hx => ⟨(hel i x hx).1, (hel i x hx).2.1, (hel i x hx).2.2.1⟩⟩
    rcases hA with hA | h0
    · subst hA
      simp only [Builtin.firstCells]
      refine run_loadCells_row fun i hi j hj => ?_
      rw [hw, cell_vals k2]
      exact (hel i _ (List.getElem?_eq_getElem (Nat.lt_of_lt_of_le hi hn))).2.2.2 j hj
    · have hy0 : xs = [] := List.eq_nil_of_length_eq_zero (by omega)
      subst hy0
      obtain rfl : n = 0 := Nat.le_zero.1 hn
      cases A <;> simp [Builtin.firstCells, rowCells, loadCells, loadCellsFrom]
  · rename_i t
    split at hs
    case isFalse => cases hs
    rename_i h0
    subst h0
    injection hs with hs; subst hs
    rw [hr.str_inv]
    have hlen : (byteCells t).length = t.length := by simp [byteCells]
    refine ⟨fun i => .int .u8 ((t.getD i 0).toNat : Int), fun w' => by simp [Builtin.lenOf, size_mk, hlen], fun n hn w' hw => ?_, fun i x hx => ?_⟩
    · simp only [Builtin.firstCells, Sem.run_pure]
      rw [hlen] at hn
      congr 1
      apply Array.ext
      · simp [rowCells, ByteArray.data_extract]; omega
      · intro k h1 h2
        simp [rowCells] at h2
        have h3 : k < t.length := by omega
        simp [rowCells, ByteArray.data_extract, Nat.mod_one, h2, h3, Value.cells]
    · have hi : i < t.length := by have := (List.getElem?_eq_some_iff.1 hx).1; omega
      simp [byteCells, hi] at hx
      subst hx
      refine ⟨rfl, ?_, rfl⟩
      simp [hi]
      exact .int _ _
  · cases hs

theorem srcElems_ok (hok : HOK E h w) {e : Nat} {y : AV} {u : Value} {ys : List AV} (hr : RV E w y u) (hs : srcElems e h y = some ys) : ∃ uf, Src P E w e ys u uf := by
  by_cases hc : ∃ e b o l c, y = .crow e b o l c
  · obtain ⟨e', b, o, l, c, rfl⟩ := hc
    exact srcElems_ok0 (y := .row e' b o l) hok hr.crow_row (by simpa only [srcElems] using hs) (fun _ _ _ _ _ h => by cases h)
  · exact srcElems_ok0 hok hr hs fun e b o l c h => hc ⟨e, b, o, l, c, h⟩
end
end Go.Ab
