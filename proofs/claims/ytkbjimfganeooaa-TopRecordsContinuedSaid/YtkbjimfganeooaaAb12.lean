/-
  The abstract machine, twelfth part: append, make, conversions of texts.
-/
import Derived.Test.YtkbjimfganeooaaAb11
import Derived.Laws.BytesArg
set_option linter.unusedSimpArgs false
set_option linter.unusedVariables false
namespace Go.Ab
open Go Go.RowKit

variable {P : Program}

section
variable {E : Env} {w w' : World} {h : Hp} {s : Nat → AV} {a : Act} {o : Oper}

/-- A block's content under another number. -/
theorem HOK.move (hok : HOK E h w) {b : Nat} {x : HB} {r : Option Nat} (hb : h[b]? = some x) (ha : x.alive) (hr : E.rho b = some r) :
    HOK (E.push h.length r (E.ke b) (E.ca b)) (h.set b .dead ++ [x]) w ∧ Ext h.length E w (E.push h.length r (E.ke b) (E.ca b)) w := by
  have hbl : b < h.length := (List.getElem?_eq_some_iff.1 hb).1
  have hg := hok.give b
  have he : Ext h.length E w (E.push h.length r (E.ke b) (E.ca b)) w := hok.ext_more (More.refl w) r _ _
  have cases_ : ∀ (c : Nat) (y : HB), (h.set b .dead ++ [x])[c]? = some y → (c < h.length ∧ (h.set b .dead)[c]? = some y) ∨ (c = h.length ∧ y = x) := fun c y hy => by
    rcases Nat.lt_trichotomy c h.length with hc | hc | hc
    · rw [List.getElem?_append_left (by simpa using hc)] at hy; exact .inl ⟨hc, hy⟩
    · subst hc; rw [List.getElem?_append_right (by simp)] at hy; simp at hy; exact .inr ⟨rfl, hy.symm⟩
    · rw [List.getElem?_eq_none (by simp; omega)] at hy; cases hy
  have rho_old : ∀ c r', c < h.length → (E.push h.length r (E.ke b) (E.ca b)).rho c = some r' → E.rho c = some r' := fun c r' hc e' => by
    simpa [Env.push, show c ≠ h.length by omega] using e'
  have bx := hok.blocks b x hb
  have notb : ∀ (c : Nat) (y : HB), (h.set b .dead)[c]? = some y → y.alive → c ≠ b ∧ h[c]? = some y := fun c y hy hal => by
    by_cases hcb : c = b
    · subst hcb
      rw [List.getElem?_set_self hbl] at hy
      injection hy with hy
      subst hy
      exact hal.elim
    · rw [List.getElem?_set_ne (fun e => hcb e.symm)] at hy
      exact ⟨hcb, hy⟩
  refine ⟨⟨fun c y hy => ?_, fun c r' e' => ?_, fun c y g hy hal e' => ?_, fun c1 c2 y1 y2 g e1 e2 a1 a2 r1 r2 => ?_, hok.old, hok.size⟩, he⟩
  · rcases cases_ c y hy with ⟨hc, hy⟩ | ⟨rfl, rfl⟩
    · exact BOK.ext hc hok.dom he (fun _ _ _ => rfl) (hg.blocks c y hy)
    · cases y with
      | dead => trivial
      | cel cs =>
        obtain ⟨g, vals, t, fz, k1, k2, k3, k4, k5, k6⟩ := bx
        rw [hr] at k1; injection k1 with k1
        exact ⟨g, vals, t, fz, by simp [k1], k2, k3, k4, k5, fun i c u hc hu => (k6 i c u hc hu).ext he hok.dom⟩
      | els e xs =>
        obtain ⟨k0, k⟩ := bx
        refine ⟨by simpa using k0, ?_⟩
        rcases k with ⟨k1, k2⟩ | ⟨g, vals, t, fz, k1, k2, k3, k4, k5, k6, k7, k8⟩
        · rw [hr] at k1; injection k1 with k1
          exact .inl ⟨by simp [k1], k2⟩
        · rw [hr] at k1; injection k1 with k1
          refine .inr ⟨g, vals, t, fz, by simp [k1], k2, k3, by simpa using k4, by simpa using k5, by simpa using k6, k7, fun i z hz => ?_⟩
          obtain ⟨s1, u, s2, s3, s4⟩ := k8 i z hz
          exact ⟨s1, u, s2.ext he hok.dom, s3, s4⟩
      | map ks vs =>
        obtain ⟨g, es, cl, k1, k2, k3⟩ := bx
        rw [hr] at k1; injection k1 with k1
        exact ⟨g, es, cl, by simp [k1], k2, k3⟩
  · by_cases hc : c = h.length
    · simp [hc]
    · have := hok.dom c r' (by simpa [Env.push, hc] using e')
      simp; omega
  · rcases cases_ c y hy with ⟨hc, hy⟩ | ⟨rfl, rfl⟩
    · exact hg.own c y g hy hal (rho_old c _ hc e')
    · simp only [Env.push_rho, Option.some.injEq] at e'
      subst e'
      exact hok.own b y g hb ha hr
  · rcases cases_ c1 y1 e1 with ⟨hc1, f1⟩ | ⟨rfl, rfl⟩ <;> rcases cases_ c2 y2 e2 with ⟨hc2, f2⟩ | ⟨rfl, rfl⟩
    · exact hg.inj c1 c2 y1 y2 g f1 f2 a1 a2 (rho_old _ _ hc1 r1) (rho_old _ _ hc2 r2)
    · simp only [Env.push_rho, Option.some.injEq] at r2
      subst r2
      obtain ⟨n1, n2⟩ := notb c1 y1 f1 a1
      exact absurd (hok.inj c1 b y1 y2 g n2 hb a1 a2 (rho_old _ _ hc1 r1) hr) n1
    · simp only [Env.push_rho, Option.some.injEq] at r1
      subst r1
      obtain ⟨n1, n2⟩ := notb c2 y2 f2 a2
      exact absurd (hok.inj c2 b y2 y1 g n2 hb a2 a1 (rho_old _ _ hc2 r2) hr) n1
    · rfl

section
variable {t u ty el : TypeId} {inf : TypeInfo} {z : Value}

theorem run_append_grow' (ht : P.underlying t = some (.slice el)) (hu : (∃ e', P.underlying u = some (.slice e')) ∨ P.underlying u = some .string) (hi : P.info? el = some inf) (hz : inf.zero = some z) {x : Value} {A : Option Addr} {n c m : Nat} {old news : Array Value}
    (hlen : ∀ w : World, (Builtin.lenOf x).run P w = .ok m w) (hold : (Builtin.firstCells inf.size n (.slice A n c)).run P w.drew = .ok old w.drew) (hnew : (Builtin.firstCells inf.size m x).run P w.drew = .ok news w.drew)
    (hg : c < n + m) (h63 : n + m ≤ maxLen) (hfit : (n + m) * inf.bytes ≤ 140737488355328) :
    (Builtin.append_ #[t, u] ty #[.slice A n c, x]).run P w =
      .ok (.slice (some ⟨w.heap.size, 0, none⟩) (n + m) (grownCap w (n + m) c el)) (w.drew.alloc (.cells (old ++ news ++ Builtin.zeroCells z.cells (grownCap w (n + m) c el - (n + m))) el)) := by
  have hn : ¬ (n + m ≤ c) := by omega
  have h48 := growslice_fits (old := c) hg hfit
  have h48' : ¬ (281474976710656 < Builtin.nextslicecap (n + m) c * inf.bytes) := by omega
  have h63' : ¬ (9223372036854775807 < ((n : Int) + (m : Int))) := by unfold maxLen at h63; omega
  rcases hu with ⟨e', hu⟩ | hu
  · simp [Builtin.append_, run_underlying ht, run_underlying hu, sizeOf, typeInfo, zeroValue, hi, hz, hlen, hn, h63', h48', Question.forced, hold, hnew, newRow, grownCap]
  · simp [Builtin.append_, run_underlying ht, run_underlying hu, sizeOf, typeInfo, zeroValue, hi, hz, hlen, hn, h63', h48', Question.forced, hold, hnew, newRow, grownCap]

theorem run_append_fits' (ht : P.underlying t = some (.slice el)) (hu : (∃ e', P.underlying u = some (.slice e')) ∨ P.underlying u = some .string) (hi : P.info? el = some inf) {x : Value} {A : Option Addr} {n c m : Nat} {news : Array Value}
    (hlen : ∀ w : World, (Builtin.lenOf x).run P w = .ok m w) (hnew : (Builtin.firstCells inf.size m x).run P w = .ok news w) (hg : n + m ≤ c)
    (hst : ∀ g, A = some g → (storeCells (g.add (n * inf.size)) news.toList).run P w = .ok () w') (hA : A = none → w' = w) :
    (Builtin.append_ #[t, u] ty #[.slice A n c, x]).run P w = .ok (.slice A (n + m) c) w' := by
  rcases hu with ⟨e', hu⟩ | hu
  · cases A with
    | none => rw [hA rfl]; simp [Builtin.append_, run_underlying ht, run_underlying hu, sizeOf, typeInfo, hi, hlen, hg, hnew]
    | some g => simp [Builtin.append_, run_underlying ht, run_underlying hu, sizeOf, typeInfo, hi, hlen, hg, hnew, hst g rfl]
  · cases A with
    | none => rw [hA rfl]; simp [Builtin.append_, run_underlying ht, run_underlying hu, sizeOf, typeInfo, hi, hlen, hg, hnew]
    | some g => simp [Builtin.append_, run_underlying ht, run_underlying hu, sizeOf, typeInfo, hi, hlen, hg, hnew, hst g rfl]
end

theorem size_zeroCells' (z : Array Value) (n : Nat) : (Builtin.zeroCells z n).size = n * z.size := by simp [Builtin.zeroCells]

/-- A new row that holds the old elements and the new ones. -/
theorem grown_row (hok : HOK E h w) {e : Nat} {xs ys : List AV} {ux uy : Nat → Value} {el : TypeId} {z : Array Value} (hz : z.size = esz e) {c need : Nat} (hneed : need = xs.length + ys.length) (hc : need ≤ c) (hm : c ≤ maxLen)
    (hx : ∀ (i : Nat) x, xs[i]? = some x → Shape e x ∧ RV E w x (ux i) ∧ (ux i).cells.size = esz e) (hy : ∀ (i : Nat) y, ys[i]? = some y → Shape e y ∧ RV E w y (uy i) ∧ (uy i).cells.size = esz e) :
    HOK (E.push h.length (some w.heap.size) e c) (h ++ [.els e (xs ++ ys)]) (w.drew.alloc (.cells (rowCells e ux xs.length ++ rowCells e uy ys.length ++ Builtin.zeroCells z (c - need)) el)) ∧
    Ext h.length E w (E.push h.length (some w.heap.size) e c) (w.drew.alloc (.cells (rowCells e ux xs.length ++ rowCells e uy ys.length ++ Builtin.zeroCells z (c - need)) el)) ∧
    RV (E.push h.length (some w.heap.size) e c) (w.drew.alloc (.cells (rowCells e ux xs.length ++ rowCells e uy ys.length ++ Builtin.zeroCells z (c - need)) el)) (.row e h.length 0 need) (.slice (some ⟨w.heap.size, 0, none⟩) need c) := by
  have m := More.drew_alloc w (rowCells e ux xs.length ++ rowCells e uy ys.length ++ Builtin.zeroCells z (c - need)) el
  have he := hok.ext_more m (some w.heap.size) e c
  have hsz : (rowCells e ux xs.length ++ rowCells e uy ys.length ++ Builtin.zeroCells z (c - need)).size = c * esz e := by
    simp only [Array.size_append, rowCells_size, size_zeroCells', hz, ← Nat.add_mul]
    congr 1
    omega
  refine ⟨hok.push m _ _ _ _ ⟨by simp, .inr ⟨w.heap.size, rowCells e ux xs.length ++ rowCells e uy ys.length ++ Builtin.zeroCells z (c - need), el, (0, 0), by simp, ?_, fun o _ => by simp, by simpa using hsz, by simp; omega, by simpa using hm, ?_, fun i v hv => ?_⟩⟩ (fun g hg => by injection hg with hg; subst hg; simp), he, .row e h.length 0 need w.heap.size c _ (by simp) (by simp) (.inl (by simp)) hc (by simp) (by simpa using hm)⟩
  · exact heap_alloc_new w.drew _
  · rw [hsz, List.length_append]; exact Nat.mul_le_mul_right _ (by omega)
  · have key : ∀ (uv : Nat → Value) (k n : Nat), (uv k).cells.size = esz e → k < n → ∀ (pre post : Array Value) (off : Nat), pre.size = off * esz e → ∀ (j : Nat) cc, (uv k).cells[j]? = some cc → (pre ++ rowCells e uv n ++ post)[(off + k) * esz e + j]? = some cc := by
      intro uv k n hs hk pre post off hpre j cc hj
      have hjl : j < esz e := by have := (Array.getElem?_eq_some_iff.1 hj).1; omega
      have hlt : k * esz e + j < n * esz e := by
        have := Nat.mul_le_mul_right (esz e) hk
        rw [Nat.succ_mul] at this
        omega
      have e0 : (off + k) * esz e = off * esz e + k * esz e := Nat.add_mul _ _ _
      rw [Array.append_assoc, Array.getElem?_append_right (by omega), Array.getElem?_append_left (by rw [rowCells_size]; omega)]
      rw [show (off + k) * esz e + j - pre.size = k * esz e + j by omega, rowCells_at hk hjl]
      have hjj : j < (uv k).cells.size := by omega
      rw [Array.getElem?_eq_getElem hjj] at hj
      injection hj with hj
      simp [hjj, hj]
    by_cases hi : i < xs.length
    · rw [List.getElem?_append_left hi] at hv
      obtain ⟨s1, s2, s3⟩ := hx i v hv
      refine ⟨s1, ux i, s2.ext he hok.dom, s3, fun j cc hj => ?_⟩
      have := key ux i xs.length s3 hi #[] (rowCells e uy ys.length ++ Builtin.zeroCells z (c - need)) 0 (by simp) j cc hj
      simpa [Array.append_assoc] using this
    · rw [List.getElem?_append_right (by omega)] at hv
      obtain ⟨s1, s2, s3⟩ := hy _ v hv
      have hil : i - xs.length < ys.length := (List.getElem?_eq_some_iff.1 hv).1
      refine ⟨s1, uy (i - xs.length), s2.ext he hok.dom, s3, fun j cc hj => ?_⟩
      have := key uy (i - xs.length) ys.length s3 hil (rowCells e ux xs.length) (Builtin.zeroCells z (c - need)) xs.length (rowCells_size _ _ _) j cc hj
      rwa [show xs.length + (i - xs.length) = i by omega] at this

/-- Elements, and the values of the model that they stand for. -/
def Els (E : Env) (w : World) (e : Nat) (ys : List AV) (uy : Nat → Value) : Prop := ∀ (i : Nat) y, ys[i]? = some y → y.fits e = true ∧ RI E.S w y (uy i) ∧ (uy i).cells.size = esz e

theorem Els.one {e : Nat} {ys : List AV} {uy : Nat → Value} (hy : Els E w e ys uy) : ∀ v ∈ (rowCells e uy ys.length).toList, v.oneCell' = true := fun v hv => by
  obtain ⟨k, hk⟩ := List.getElem?_of_mem hv
  have hkl : k < ys.length * esz e := by
    have := (List.getElem?_eq_some_iff.1 hk).1
    simpa [rowCells_size] using this
  have hki : k / esz e < ys.length := Nat.div_lt_of_lt_mul (by rw [Nat.mul_comm]; exact hkl)
  have hkj := Nat.mod_lt k (esz_pos e)
  have hat := rowCells_at (uf := uy) hki hkj
  have hd : k / esz e * esz e + k % esz e = k := by rw [Nat.mul_comm]; exact Nat.div_add_mod k (esz e)
  rw [hd] at hat
  have hk' : (rowCells e uy ys.length)[k]? = some v := by simpa using hk
  rw [hk'] at hat
  injection hat with hat
  obtain ⟨q1, q2, q3⟩ := hy _ _ (List.getElem?_eq_getElem hki)
  have hjj : k % esz e < (uy (k / esz e)).cells.size := by omega
  have hmem : v ∈ (uy (k / esz e)).cells.toList := by
    rw [hat]
    simp [hjj]
  exact ((RV.imm (E := E) q2).fits q1).2.2.2.1 v hmem

/-- What stands where, once elements have been written into a row. -/
theorem overwrite_get {xs ys : List AV} {off : Nat} (ho : off ≤ xs.length) {i : Nat} {v : AV} (h : (overwrite xs off ys)[i]? = some v) :
    (i < off ∧ xs[i]? = some v) ∨ (off ≤ i ∧ i < off + ys.length ∧ ys[i - off]? = some v) ∨ (off + ys.length ≤ i ∧ xs[i]? = some v) := by
  unfold overwrite at h
  have hl : (xs.take off).length = off := by rw [List.length_take]; omega
  by_cases h1 : i < off
  · rw [List.getElem?_append_left (by omega), List.getElem?_take, if_pos h1] at h
    exact .inl ⟨h1, h⟩
  · rw [List.getElem?_append_right (by omega), hl] at h
    by_cases h2 : i - off < ys.length
    · rw [List.getElem?_append_left h2] at h
      exact .inr (.inl ⟨by omega, by omega, h⟩)
    · rw [List.getElem?_append_right (by omega), List.getElem?_drop, show off + ys.length + (i - off - ys.length) = i by omega] at h
      exact .inr (.inr ⟨by omega, h⟩)

theorem overwrite_length (xs ys : List AV) {off : Nat} (ho : off ≤ xs.length) : (overwrite xs off ys).length = max xs.length (off + ys.length) := by
  simp only [overwrite, List.length_append, List.length_take, List.length_drop]
  omega

/-- Elements are written into a row's memory. -/
theorem write_row (hok : HOK E h w) {b g e off : Nat} {xs ys : List AV} {uy : Nat → Value} (hbk : h[b]? = some (.els e xs)) (hg : E.rho b = some (some g)) (ho : off ≤ xs.length) (hcap : off + ys.length ≤ E.ca b) (hy : Els E w e ys uy) :
    ∃ w', (storeCells ⟨g, off * esz e, none⟩ (rowCells e uy ys.length).toList).run P w = .ok () w' ∧ HOK E (h.set b (.els e (overwrite xs off ys))) w' ∧ Ext h.length E w E w' := by
  obtain ⟨hke, ⟨k0, _⟩ | ⟨g', vals, t', fz, k1, k2, k2', k3, k4, k5, k6, k7⟩⟩ := hok.blocks b _ hbk
  · rw [k0] at hg; cases hg
  rw [hg] at k1; injection k1 with k1; injection k1 with k1; subst k1
  obtain ⟨w', vals', r1, r2, r3, r4⟩ := run_storeRow (P := P) g t' fz (rowCells e uy ys.length).toList (off * esz e) 0 vals w k2 k2' (by
    simp only [Array.length_toList, rowCells_size, Nat.add_zero, ← Nat.add_mul]
    rw [k3]
    exact Nat.mul_le_mul_right _ (by omega)) hy.one
  have hext : Ext h.length E w E w' := hok.ext_upd hbk trivial hg _ r2.os r2.tape r2.output (Nat.le_of_eq r2.size.symm) (fun k hk _ => r2.other k hk) (r2.frz k2)
  have hle : (overwrite xs off ys).length ≤ E.ca b := by rw [overwrite_length _ _ ho]; omega
  refine ⟨w', r1, ?_, hext⟩
  refine hok.set hbk trivial hg r2.os r2.tape r2.output (Nat.le_of_eq r2.size.symm) (fun k hk _ => r2.other k hk) (r2.frz k2) ⟨hke, .inr ⟨g, vals', t', fz, hg, r2.here, fun j hj => k2' j (by omega), by omega, hle, k5, ?_, fun i v hv => ?_⟩⟩
  · rw [r3, k3]
    exact Nat.mul_le_mul_right _ hle
  · have old : (i < off ∨ off + ys.length ≤ i) → xs[i]? = some v → Shape e v ∧ ∃ u, RV E w' v u ∧ u.cells.size = esz e ∧ ∀ (j : Nat) c, u.cells[j]? = some c → vals'[i * esz e + j]? = some c := fun hi hv => by
      obtain ⟨s1, u, s2, s3, s4⟩ := k7 i v hv
      refine ⟨s1, u, s2.ext hext hok.dom, s3, fun j c hj => ?_⟩
      have hjl : j < esz e := by have := (Array.getElem?_eq_some_iff.1 hj).1; omega
      rw [r4, if_neg, s4 j c hj]
      simp only [Array.length_toList, rowCells_size, Nat.add_zero]
      rintro ⟨c1, c2⟩
      rcases hi with hi | hi
      · have hmul := Nat.mul_le_mul_right (esz e) hi
        rw [Nat.succ_mul] at hmul
        omega
      · have hmul := Nat.mul_le_mul_right (esz e) hi
        rw [Nat.add_mul] at hmul
        omega
    rcases overwrite_get ho hv with ⟨hi, hv⟩ | ⟨hi, hi2, hv⟩ | ⟨hi, hv⟩
    · exact old (.inl hi) hv
    · obtain ⟨q1, s2, s3⟩ := hy _ v hv
      have hil : i - off < ys.length := by omega
      refine ⟨shape_of_fits q1, uy (i - off), (RV.imm s2).ext hext hok.dom, s3, fun j c hj => ?_⟩
      have hjl : j < esz e := by have := (Array.getElem?_eq_some_iff.1 hj).1; omega
      have hmul := Nat.mul_le_mul_right (esz e) hil
      rw [Nat.succ_mul] at hmul
      have e0 : i * esz e = off * esz e + (i - off) * esz e := by rw [← Nat.add_mul]; congr 1; omega
      rw [r4, if_pos (by simp only [Array.length_toList, rowCells_size]; omega), show i * esz e + j - (off * esz e + 0) = (i - off) * esz e + j by omega]
      have hjj : j < (uy (i - off)).cells.size := by omega
      have hat := rowCells_at (uf := uy) hil hjl
      rw [Array.getElem?_eq_getElem hjj] at hj
      injection hj with hj
      simp only [hjj, Array.getD_eq_getD_getElem?, Array.getElem?_eq_getElem, Option.getD_some] at hat
      rw [← hj]
      simpa using hat
    · exact old (.inr hi) hv

/-- What the model's 'append' does to a slice: into new memory, or into the room that there is. -/
structure Apps (P : Program) (w : World) (e bytes : Nat) (el : TypeId) (z : Value) (m : Nat) (uy : Nat → Value) (ex : Value → Sem Value) : Prop where
  grow : ∀ (A : Option Addr) (n c : Nat) (old : Array Value), (Builtin.firstCells (esz e) n (.slice A n c)).run P w.drew = .ok old w.drew → c < n + m → n + m ≤ maxLen → (n + m) * bytes ≤ room →
    ∃ c', n + m ≤ c' ∧ c' ≤ maxLen ∧ (ex (.slice A n c)).run P w = .ok (.slice (some ⟨w.heap.size, 0, none⟩) (n + m) c') (w.drew.alloc (.cells (old ++ rowCells e uy m ++ Builtin.zeroCells z.cells (c' - (n + m))) el))
  fits : ∀ (A : Option Addr) (n c : Nat) (w' : World), n + m ≤ c → (∀ g, A = some g → (storeCells (g.add (n * esz e)) (rowCells e uy m).toList).run P w = .ok () w') → (A = none → w' = w) → (ex (.slice A n c)).run P w = .ok (.slice A (n + m) c) w'

/-- A row's elements, as the model reads the first n of them. -/
theorem read_row (hok : HOK E h w) {b g e : Nat} {xs : List AV} (hbk : h[b]? = some (.els e xs)) (hg : E.rho b = some (some g)) : ∃ ux, (∀ (i : Nat) x, xs[i]? = some x → Shape e x ∧ RV E w x (ux i) ∧ (ux i).cells.size = esz e) ∧
    ∀ n c, n ≤ xs.length → ∀ w' : World, (∀ x, w'.cell? x = w.cell? x) → (Builtin.firstCells (esz e) n (.slice (some ⟨g, 0, none⟩) n c)).run P w' = .ok (rowCells e ux n) w' := by
  obtain ⟨hke, ⟨k0, _⟩ | ⟨g', vals, t', fz, k1, k2, k2', k3, k4, k5, k6, k7⟩⟩ := hok.blocks b _ hbk
  · rw [k0] at hg; cases hg
  rw [hg] at k1; injection k1 with k1; injection k1 with k1; subst k1
  obtain ⟨ux, hux⟩ := choose_uf (xs := xs) (Q := fun i x v => Shape e x ∧ RV E w x v ∧ v.cells.size = esz e ∧ ∀ (j : Nat) c, v.cells[j]? = some c → vals[i * esz e + j]? = some c) (fun i x hx => by
    obtain ⟨s1, v, s2, s3, s4⟩ := k7 i x hx
    exact ⟨v, s1, s2, s3, s4⟩)
  refine ⟨ux, fun i x hx => ⟨(hux i x hx).1, (hux i x hx).2.1, (hux i x hx).2.2.1⟩, fun n c hn w' hw => ?_⟩
  simp only [Builtin.firstCells]
  refine run_loadCells_row fun i hi j hj => ?_
  obtain ⟨_, _, q3, q4⟩ := hux i _ (List.getElem?_eq_getElem (Nat.lt_of_lt_of_le hi hn))
  have hj' : j < (ux i).cells.size := by rw [q3]; exact hj
  have := q4 j _ (Array.getElem?_eq_getElem hj')
  rw [hw, cell_vals k2, Nat.zero_add, this]
  simp [hj']

theorem rowCells_ext {e n : Nat} {uf ug : Nat → Value} (h : ∀ i, i < n → uf i = ug i) : rowCells e uf n = rowCells e ug n := by
  unfold rowCells
  congr 1
  refine List.map_congr_left fun k hk => ?_
  have hk := List.mem_range.1 hk
  rw [h _ (Nat.div_lt_of_lt_mul (by rw [Nat.mul_comm]; exact hk))]

theorem appendL_ok (hok : HOK E h w) {e bytes : Nat} {el : TypeId} {z : Value} (hzs : z.cells.size = esz e) {ys : List AV} {uy : Nat → Value} (hy : Els E w e ys uy) {ex : Value → Sem Value} (ha : Apps P w e bytes el z ys.length uy ex)
    {x : AV} {ux : Value} (h1 : RV E w x ux) {v : AV} {h' : Hp} (hb : appendL h e bytes x ys = some (v, h')) : ∃ u w' E', (ex ux).run P w = .ok u w' ∧ HOK E' h' w' ∧ Ext h.length E w E' w' ∧ RV E' w' v u := by
  have hyel : ∀ (i : Nat) y, ys[i]? = some y → Shape e y ∧ RV E w y (uy i) ∧ (uy i).cells.size = esz e := fun i y hi => by
    obtain ⟨q1, q2, q3⟩ := hy i y hi
    exact ⟨shape_of_fits q1, .imm q2, q3⟩
  have hmax : maxStr = maxLen := rfl
  have nocells : ∀ (A : Option Addr) (w' : World), (Builtin.firstCells (esz e) 0 (.slice A 0 0)).run P w' = .ok (rowCells e uy 0) w' := fun A w' => by
    cases A <;> simp [Builtin.firstCells, rowCells, loadCells, loadCellsFrom]
  have nostore : ∀ (g : Addr), (storeCells (g.add (0 * esz e)) (rowCells e uy 0).toList).run P w = .ok () w := fun g => by simp [rowCells, storeCells]
  unfold appendL at hb
  split at hb
  · rename_i e' xs
    split at hb
    case isFalse => cases hb
    rename_i hc
    obtain ⟨rfl, hor, hby, hlen⟩ := hc
    injection hb with hb; injection hb with q1 q2; subst q1; subst q2
    cases h1.sl_inv with
    | sl _ _ _ A cap g off vx hl hm hf hA hfit hcell hr =>
      have hcap := hf rfl
      subst hcap
      by_cases hy0 : ys = []
      · have hx0 : xs = [] := by rcases hor with hor | hor; exact hor; exact absurd hy0 hor
        subst hx0; subst hy0
        have hrun := ha.fits A 0 0 w (Nat.le_refl _) (fun g hg => nostore g) (fun _ => rfl)
        obtain ⟨p1, p2⟩ : HOK (E.push h.length none e' 0) (h ++ [.els e' []]) w ∧ Ext h.length E w (E.push h.length none e' 0) w :=
          ⟨hok.push (More.refl w) none e' 0 (.els e' []) ⟨by simp, .inl ⟨by simp, rfl⟩⟩ (fun g hg => by cases hg), hok.ext_more (More.refl w) _ _ _⟩
        exact ⟨_, _, _, hrun, p1, p2, .row0 e' h.length A (by simp) (by simp)⟩
      · have hpos : 0 < ys.length := List.length_pos_iff.2 hy0
        have hold : (Builtin.firstCells (esz e') xs.length (.slice A xs.length xs.length)).run P w.drew = .ok (rowCells e' vx xs.length) w.drew := by
          rcases hA with hA | hA
          · subst hA
            cases A <;> simp [Builtin.firstCells, rowCells, loadCells, loadCellsFrom]
          · subst hA
            simp only [Builtin.firstCells]
            refine run_loadCells_row fun i hi j hj => ?_
            have hxi := List.getElem?_eq_getElem hi
            have hsz := ((RV.imm (E := E) (hr i _ hxi)).fits (hfit i _ hxi)).1
            have hj' : j < (vx i).cells.size := by rw [hsz]; exact hj
            have := (hcell i _ hxi j _ (Array.getElem?_eq_getElem hj')).2
            rw [show w.drew.cell? ⟨g, off + (i * esz e' + j), none⟩ = w.cell? ⟨g, off + (i * esz e' + j), none⟩ from rfl, this]
            simp [hj']
        obtain ⟨c', c1, c2, hrun⟩ := ha.grow A xs.length xs.length _ hold (by omega) (by omega) hby
        obtain ⟨g1, g2, g3⟩ := grown_row hok (el := el) (z := z.cells) hzs (c := c') rfl c1 c2 (fun i x hx => ⟨shape_of_fits (hfit i x hx), .imm (hr i x hx), ((RV.imm (E := E) (hr i x hx)).fits (hfit i x hx)).1⟩) hyel
        exact ⟨_, _, _, hrun, g1, g2, g3⟩
  · rename_i e' b len
    split at hb
    case h_2 => cases hb
    rename_i e'' xs hbk
    have hbl : b < h.length := (List.getElem?_eq_some_iff.1 hbk).1
    obtain ⟨hke, hrow⟩ := h1.row_inv
    split at hb
    · rename_i hc
      obtain ⟨rfl, rfl, rfl, hby, hlen⟩ := hc
      injection hb with hb; injection hb with q1 q2; subst q1; subst q2
      have hglen : (h.set b .dead).length = h.length := by simp
      rcases hrow with ⟨h0, _, hx0, A, rfl⟩ | ⟨g, cap, A, hg, rfl, hA, hl, hcc, hm⟩
      · have hx0 : xs = [] := List.eq_nil_of_length_eq_zero hx0
        subst hx0
        by_cases hy0 : ys = []
        · subst hy0
          have hrun := ha.fits A 0 0 w (Nat.le_refl _) (fun g hg => nostore g) (fun _ => rfl)
          obtain ⟨p1, p2⟩ : HOK (E.push h.length none e'' 0) (h.set b .dead ++ [.els e'' []]) w ∧ Ext h.length E w (E.push h.length none e'' 0) w := by
            have := (hok.give b).push (More.refl w) none e'' 0 (.els e'' []) ⟨by simp, .inl ⟨by simp, rfl⟩⟩ (fun g hg => by cases hg)
            rw [hglen] at this
            exact ⟨this, hok.ext_more (More.refl w) _ _ _⟩
          exact ⟨_, _, _, hrun, p1, p2, .row0 e'' h.length A (by simp) (by simp)⟩
        · have hpos : 0 < ys.length := List.length_pos_iff.2 hy0
          simp only [List.length_nil] at hby hlen
          obtain ⟨c', c1, c2, hrun⟩ := ha.grow A 0 0 _ (nocells A _) (by omega) (by omega) hby
          have hgr := grown_row (hok.give b) (xs := []) (ys := ys) (ux := uy) (uy := uy) (el := el) (z := z.cells) hzs (c := c') (need := 0 + ys.length) (by simp) c1 c2 (fun i x hx => by simp at hx) hyel
          rw [hglen] at hgr
          obtain ⟨g1, g2, g3⟩ := hgr
          exact ⟨_, _, _, hrun, g1, g2, g3⟩
      · have hA : A = some ⟨g, 0, none⟩ := by
          rcases hA with hA | ⟨hA, _⟩
          · simpa using hA
          · exact absurd rfl hA
        subst hA
        have hcap : cap = E.ca b := by omega
        obtain ⟨vx, hvx, hread⟩ := read_row (P := P) hok hbk hg
        by_cases hgrow : cap < xs.length + ys.length
        · obtain ⟨c', c1, c2, hrun⟩ := ha.grow _ xs.length cap _ (hread xs.length cap (Nat.le_refl _) w.drew fun _ => rfl) hgrow (by omega) hby
          have hgr := grown_row (hok.give b) (xs := xs) (ys := ys) (ux := vx) (uy := uy) (el := el) (z := z.cells) hzs (c := c') rfl c1 c2 hvx hyel
          rw [hglen] at hgr
          obtain ⟨g1, g2, g3⟩ := hgr
          exact ⟨_, _, _, hrun, g1, g2, g3⟩
        · obtain ⟨w', r1, hset, hext⟩ := write_row (P := P) hok (off := xs.length) hbk hg (Nat.le_refl _) (by omega) hy
          have hrun := ha.fits (some ⟨g, 0, none⟩) xs.length cap w' (by omega) (fun g' hg' => by
            injection hg' with hg'; subst hg'
            rw [add_addr, Nat.zero_add]; exact r1) (fun h => by cases h)
          have how : overwrite xs xs.length ys = xs ++ ys := by simp [overwrite]
          rw [how] at hset
          have hb2 : (h.set b (.els e'' (xs ++ ys)))[b]? = some (.els e'' (xs ++ ys)) := getElem?_set_self' hbk
          obtain ⟨m1, m2⟩ := hset.move hb2 trivial hg
          rw [List.length_set] at m1 m2
          rw [List.set_set] at m1
          exact ⟨_, _, _, hrun, m1, hext.trans m2 (Nat.le_refl _), .row e'' h.length 0 _ g cap _ (by simp) (by simpa using hke) (.inl (by simp)) (by omega) (by simp; omega) (by simpa using hm)⟩
    · split at hb
      case isFalse => cases hb
      rename_i hc
      obtain ⟨rfl, rfl, hlt, hle⟩ := hc
      injection hb with hb; injection hb with q1 q2; subst q1; subst q2
      rcases hrow with ⟨h0, _, _, A, rfl⟩ | ⟨g, cap, A, hg, rfl, hA, hl, hcc, hm⟩
      · obtain ⟨_, ⟨_, hn⟩ | ⟨g', _, _, _, k1, _⟩⟩ := hok.blocks b _ hbk
        · subst hn; exact absurd hlt (by simp)
        · rw [h0] at k1; cases k1
      have hA : A = some ⟨g, 0, none⟩ := by
        rcases hA with hA | ⟨hA, _⟩
        · simpa using hA
        · exact absurd rfl hA
      subst hA
      have hca : xs.length ≤ E.ca b := by
        obtain ⟨_, ⟨k0, _⟩ | ⟨_, _, _, _, _, _, _, _, k, _⟩⟩ := hok.blocks b _ hbk
        · rw [hg] at k0; cases k0
        · exact k
      obtain ⟨w', r1, hset, hext⟩ := write_row (P := P) hok (off := len) hbk hg (by omega) (by omega) hy
      have hrun := ha.fits (some ⟨g, 0, none⟩) len cap w' (by omega) (fun g' hg' => by
        injection hg' with hg'; subst hg'
        rw [add_addr, Nat.zero_add]; exact r1) (fun h => by cases h)
      exact ⟨_, _, _, hrun, hset, hext, .row e'' b 0 _ g cap _ hg hke (.inl (by simp)) (by omega) hcc hm⟩
  · rename_i e' b len cap
    split at hb
    case h_2 => cases hb
    rename_i e'' xs hbk
    obtain ⟨hke, hrow⟩ := h1.crow_inv
    split at hb
    case isFalse => cases hb
    rename_i hc
    obtain ⟨rfl, rfl, hlx, rfl, hy0⟩ := hc
    rcases hrow with ⟨h0, _, rfl, hx0, A, rfl⟩ | ⟨g, A, hg, rfl, hA, hl, hcc, hm⟩
    · have hpos : 0 < ys.length := by
        rcases hy0 with hy0 | hy0
        · exact List.length_pos_iff.2 hy0
        · omega
      rw [if_neg (by omega)] at hb
      split at hb
      case isFalse => cases hb
      rename_i hbd
      have hx0 : xs = [] := List.eq_nil_of_length_eq_zero hx0
      subst hx0
      injection hb with hb; injection hb with q1 q2; subst q1; subst q2
      obtain ⟨c', c1, c2, hrun⟩ := ha.grow A 0 0 _ (nocells A _) (by omega) (by omega) hbd.1
      obtain ⟨g1, g2, g3⟩ := grown_row hok (xs := []) (ys := ys) (ux := uy) (uy := uy) (el := el) (z := z.cells) hzs (c := c') (need := 0 + ys.length) (by simp) c1 c2 (fun i x hx => by simp at hx) hyel
      exact ⟨_, _, _, hrun, by simpa using g1, g2, g3⟩
    · have hA : A = some ⟨g, 0, none⟩ := by
        rcases hA with hA | ⟨hA, _⟩
        · simpa using hA
        · exact absurd rfl hA
      subst hA
      split at hb
      · rename_i hfit
        injection hb with hb; injection hb with q1 q2; subst q1; subst q2
        obtain ⟨w', r1, hset, hext⟩ := write_row (P := P) hok (off := len) hbk hg hlx (by omega) hy
        have hrun := ha.fits (some ⟨g, 0, none⟩) len xs.length w' (by omega) (fun g' hg' => by
          injection hg' with hg'; subst hg'
          rw [add_addr, Nat.zero_add]; exact r1) (fun h => by cases h)
        exact ⟨_, _, _, hrun, hset, hext, .crow e'' b 0 _ g _ _ hg hke (.inl (by simp)) (by omega) hcc hm⟩
      · rename_i hfit
        split at hb
        case isFalse => cases hb
        rename_i hbd
        injection hb with hb; injection hb with q1 q2; subst q1; subst q2
        obtain ⟨vx, hvx, hread⟩ := read_row (P := P) hok hbk hg
        obtain ⟨c', c1, c2, hrun⟩ := ha.grow _ len xs.length _ (hread len xs.length hlx w.drew fun _ => rfl) (by omega) (by omega) hbd.1
        have htl : (xs.take len).length = len := by rw [List.length_take]; omega
        obtain ⟨g1, g2, g3⟩ := grown_row hok (xs := xs.take len) (ys := ys) (ux := vx) (uy := uy) (el := el) (z := z.cells) hzs (c := c') (need := len + ys.length) (by rw [htl]) c1 c2 (fun i x hx => hvx i x (by
          rw [List.getElem?_take] at hx
          split at hx
          · exact hx
          · cases hx)) hyel
        rw [htl] at g1 g2 g3
        exact ⟨_, _, _, hrun, g1, g2, g3⟩
  · cases hb

section
variable {t u el t1 t2 : TypeId} {x y : Operand} {x' y' : Od} {e : Nat} {inf : TypeInfo} {z : Value} {ts : Array TypeId} {args : Array Operand}

theorem apps_src (ht : P.underlying t = some (.slice el)) (hu : (∃ e', P.underlying u = some (.slice e')) ∨ P.underlying u = some .string) (hi : P.info? el = some inf) (hz : inf.zero = some z) (hinf : inf.size = esz e) {ys : List AV} {uval : Value} {uy : Nat → Value} (hsrc : Src P E w e ys uval uy) (ty : TypeId) :
    Apps P w e inf.bytes el z ys.length uy (fun s => Builtin.append_ #[t, u] ty #[s, uval]) := by
  have hroom : room = 140737488355328 := by decide
  refine ⟨fun A n c old hold hc hl hb => ⟨grownCap w (n + ys.length) c el, grownCap_ge _ _ _ _, grownCap_le_maxLen _ _ _ _ hl, ?_⟩, fun A n c w' hn hst hA => ?_⟩
  · exact run_append_grow' ht hu hi hz (fun w => hsrc.len w) (by rw [hinf]; exact hold) (by rw [hinf]; exact hsrc.read w.drew fun _ => rfl) hc hl (by omega)
  · exact run_append_fits' ht hu hi (fun w => hsrc.len w) (by rw [hinf]; exact hsrc.read w fun _ => rfl) hn (by rw [hinf]; exact hst) hA

theorem ok_append (hok : HOK E h w) (hs : SOK E w s a) (ho : o.op = .call { callee := .builtin .append, args := args, argTypes := ts }) (hargs : args.toList = [x, y]) (hts : ts.toList = [t, u])
    (ht : P.underlying t = some (.slice el)) (he : ecode P el = some e) (hi : P.info? el = some inf) (hz : inf.zero = some z) (hzs : z.cells.size = esz e) (hu : (∃ e', P.underlying u = some (.slice e')) ∨ P.underlying u = some .string)
    (hx : od P t1 x = some x') (hy : od P t2 y = some y') {v : AV} {h' : Hp} (hb : evV s h (.append e inf.bytes x' y') = some (v, h')) : Yields P o a E h.length w v h' := by
  have h1 := od_ok hs hx
  have h2 := od_ok hs hy
  simp only [evV, append] at hb
  have hargs' : args = #[x, y] := by rw [← hargs]
  have hts' : ts = #[t, u] := by rw [← hts]
  subst hargs'; subst hts'
  have hinf : inf.size = esz e := by
    obtain ⟨i, q1, q2⟩ := ecode_info he
    rw [hi] at q1; injection q1 with q1; subst q1; exact q2
  split at hb
  case h_1 => cases hb
  rename_i ys hys
  obtain ⟨uy, hsrc⟩ := srcElems_ok (P := P) hok h2 hys
  obtain ⟨r, w', E', hr, k1, k2, k3⟩ := appendL_ok hok hzs hsrc.el (apps_src ht hu hi hz hinf hsrc o.type) h1 hb
  refine ⟨r, w', E', _, ?_, .inl rfl, k1, k2, k3⟩
  simp [execOp, ho, resolve, invoke, builtin, hr]

theorem zeroCells_row {z : Value} (hzs : z.cells.size = esz e) (n : Nat) : Builtin.zeroCells z.cells n = rowCells e (fun _ => z) n := by
  unfold Builtin.zeroCells rowCells
  apply Array.ext
  · simp [hzs]
  · intro k h1 h2
    have hm : k % esz e < z.cells.size := by rw [hzs]; exact Nat.mod_lt _ (esz_pos e)
    simp only [List.getElem_toArray, List.getElem_map, List.getElem_range, Array.getElem_map, Array.getElem_range, hzs]
    rw [getElem!_pos z.cells (k % esz e) hm]
    simp [hm]

theorem apps_zeros (ht : P.underlying t = some (.slice el)) {ik : IntKind} (hu : P.underlying u = some (.int ik)) (hi : P.info? el = some inf) (hz : inf.zero = some z) (hinf : inf.size = esz e) (hzs : z.cells.size = esz e) {jk : IntKind} {k : Int} (hk : 0 < k) (hk2 : k.toNat ≤ maxLen) (hk3 : k.toNat * inf.bytes ≤ room) (ty : TypeId) :
    Apps P w e inf.bytes el z k.toNat (fun _ => z) (fun s => Builtin.append_ #[t, u] ty #[s, .int jk k]) := by
  have hroom : room = 140737488355328 := by decide
  have hw : IntKind.i64.wrap k = k := by
    rw [IntKind.wrap_i64]
    unfold maxLen at hk2
    omega
  have hkn : ((k.toNat : Nat) : Int) = k := Int.toNat_of_nonneg (by omega)
  have hpos := esz_pos e
  have hz0 : ¬ (k.toNat * esz e = 0) := by
    have := Nat.mul_pos (show 0 < k.toNat by omega) hpos
    omega
  have hlt0 : ¬ (k < 0) := by omega
  have hroom3 : ¬ (281474976710656 < k * (inf.bytes : Int)) := by
    have h1 : ((k.toNat * inf.bytes : Nat) : Int) ≤ room := by exact_mod_cast hk3
    rw [Int.natCast_mul, hkn, hroom] at h1
    omega
  have hcells := zeroCells_row hzs k.toNat
  refine ⟨fun A n c old hold hc hl hb => ⟨grownCap w (n + k.toNat) c el, grownCap_ge _ _ _ _, grownCap_le_maxLen _ _ _ _ hl, ?_⟩, fun A n c w' hn hst hA => ?_⟩
  · have hn : ¬ (n + k.toNat ≤ c) := by omega
    have h48 := growslice_fits (old := c) hc (show (n + k.toNat) * inf.bytes ≤ 140737488355328 by omega)
    have h48' : ¬ (281474976710656 < Builtin.nextslicecap (n + k.toNat) c * inf.bytes) := by omega
    have h63' : ¬ (9223372036854775807 < ((n : Int) + (k.toNat : Int))) := by unfold maxLen at hl; omega
    rw [Int.toNat_eq_max] at h63'
    have hold' : (Builtin.firstCells inf.size n (.slice A n c)).run P w.drew = .ok old w.drew := by rw [hinf]; exact hold
    simp [Builtin.append_, run_underlying ht, run_underlying hu, sizeOf, typeInfo, zeroValue, hi, hz, hn, hlt0, hw, hroom3, h63', h48', hkn, hinf, hz0, Question.forced, hold, newRow, grownCap, hcells, asInt, asIntOf]
  · simp [Builtin.append_, run_underlying ht, run_underlying hu, sizeOf, typeInfo, zeroValue, hi, hz, hn, hlt0, hw, hroom3, hinf, hz0, hcells, asInt, asIntOf]
    cases A with
    | none => rw [hA rfl]; simp
    | some g => simp [hst g rfl]

theorem ok_appz (hok : HOK E h w) (hs : SOK E w s a) {ik : IntKind} {z' : AV} (ho : o.op = .call { callee := .builtin .append, args := args, argTypes := ts }) (hargs : args.toList = [x, y]) (hts : ts.toList = [t, u])
    (ht : P.underlying t = some (.slice el)) (he : ecode P el = some e) (hi : P.info? el = some inf) (hz : inf.zero = some z) (hzs : z.cells.size = esz e) (hz' : zeroE P el = some z') (hu : P.underlying u = some (.int ik))
    (hx : od P t1 x = some x') (hy : od P t2 y = some y') {v : AV} {h' : Hp} (hb : evV s h (.appz e inf.bytes z' x' y') = some (v, h')) : Yields P o a E h.length w v h' := by
  have h1 := od_ok hs hx
  have h2 := od_ok hs hy
  simp only [evV] at hb
  have hargs' : args = #[x, y] := by rw [← hargs]
  have hts' : ts = #[t, u] := by rw [← hts]
  subst hargs'; subst hts'
  have hinf : inf.size = esz e := by
    obtain ⟨i, q1, q2⟩ := ecode_info he
    rw [hi] at q1; injection q1 with q1; subst q1; exact q2
  split at hb
  case h_2 => cases hb
  rename_i jk k hk
  rw [hk] at h2
  split at hb
  case isFalse => cases hb
  rename_i hc
  obtain ⟨zv, q1, q2, q3, q4⟩ := zeroE_ok he hz'
  have hzv : zv = z := by
    have := q1 w
    simp [zeroValue, typeInfo, hi, hz] at this
    exact this.symm
  subst hzv
  have hel : Els E w e (List.replicate k.toNat z') (fun _ => zv) := fun i y hy => by
    obtain ⟨_, rfl⟩ := List.mem_replicate.1 (List.mem_of_getElem? hy)
    exact ⟨q3, q2 _ _, q4⟩
  have ha := apps_zeros (P := P) (w := w) ht hu hi hz hinf hzs (jk := jk) hc.1 hc.2.1 hc.2.2 o.type
  obtain ⟨r, w', E', hr, k1, k2, k3⟩ := appendL_ok hok hzs hel (by rw [List.length_replicate]; exact ha) h1 hb
  refine ⟨r, w', E', _, ?_, .inl rfl, k1, k2, k3⟩
  simp [execOp, ho, resolve, invoke, builtin, h2.int_inv, hr]
end
end

/-! ## Bytes as a text -/

theorem bytesOf_ints : ∀ {ys : List AV} {t : List UInt8}, bytesOf ys = some t → ∃ ns : List Int, ys = ns.map (AV.int .u8) ∧ t = ns.map fun n => UInt8.ofNat n.toNat
  | [], t, h => by injection h with h; subst h; exact ⟨[], rfl, rfl⟩
  | y :: ys, t, h => by
    unfold bytesOf at h
    split at h
    · rename_i e; cases e
    · rename_i n cs e
      injection e with e1 e2
      subst e1; subst e2
      simp only [Option.map_eq_some_iff] at h
      obtain ⟨t', ht, rfl⟩ := h
      obtain ⟨ns, rfl, rfl⟩ := bytesOf_ints ht
      exact ⟨n :: ns, rfl, rfl⟩
    · cases h

section
variable {P : Program} {E : Env} {w : World} {h : Hp} {s : Nat → AV} {a : Act} {o : Oper}

theorem ok_cstr (hok : HOK E h w) (hs : SOK E w s a) {src dst t1 el : TypeId} {x : Operand} {x' : Od} (ho : o.op = .convert src dst x) (hsrc : P.underlying src = some (.slice el)) (hel : P.underlying el = some (.int .u8)) (hdst : P.underlying dst = some .string)
    (hx : od P t1 x = some x') {v : AV} {h' : Hp} (hb : evV s h (.cstr x') = some (v, h')) : Yields P o a E h.length w v h' := by
  have hv := od_ok hs hx
  simp only [evV] at hb
  split at hb
  · cases hb
  rename_i hns
  split at hb
  case h_2 => cases hb
  rename_i ys hys
  simp only [Option.map_eq_some_iff] at hb
  obtain ⟨t, ht, he⟩ := hb
  injection he with e1 e2; subst e1; subst e2
  obtain ⟨uf, src'⟩ := srcElems_ok (P := P) hok hv hys
  obtain ⟨ns, rfl, rfl⟩ := bytesOf_ints ht
  have hcells : rowCells 0 uf (ns.map (AV.int .u8)).length = (ns.map (Value.int .u8)).toArray := by
    refine Array.ext_getElem? fun i => ?_
    simp only [rowCells, esz_zero, Nat.mul_one, Nat.div_one, Nat.mod_one, List.getElem?_toArray, List.getElem?_map, List.length_map]
    by_cases hi : i < ns.length
    · rw [List.getElem?_range hi, List.getElem?_eq_getElem hi]
      obtain ⟨_, h2, _⟩ := src'.el i (.int .u8 ns[i]) (by simp [hi])
      have hu : uf i = .int .u8 ns[i] := by
        generalize uf i = z at h2
        cases h2; rfl
      simp [hu, Value.cells]
    · rw [List.getElem?_eq_none (by simpa using hi), List.getElem?_eq_none (by simpa using hi)]
      rfl
  have hrd := src'.read w (fun _ => rfl)
  have hform : ∃ A n c, a.eval x = .slice A n c := by
    generalize a.eval x = u at hv
    generalize x'.ev s = y at hv hys hns
    unfold srcElems at hys
    split at hys
    · cases hv.sl_inv with
      | sl _ _ _ A cap g o uu hl hm hf hA hx hc hr => exact ⟨A, _, _, rfl⟩
    · obtain ⟨_, hrow⟩ := hv.row_inv
      rcases hrow with ⟨_, _, _, A, h⟩ | ⟨g, cap, A, _, h, _⟩
      · exact ⟨A, _, _, h⟩
      · exact ⟨A, _, _, h⟩
    · obtain ⟨_, hrow⟩ := hv.crow_inv
      rcases hrow with ⟨_, _, _, _, A, h⟩ | ⟨g, A, _, h, _⟩
      · exact ⟨A, _, _, h⟩
      · exact ⟨A, _, _, h⟩
    · obtain ⟨g, cap, A, _, h, _⟩ := hv.arow_inv
      exact ⟨A, _, _, h⟩
    · exact absurd rfl (hns _)
    · cases hys
  obtain ⟨A, n, c, hu⟩ := hform
  have hlen := src'.len w
  rw [hu] at hrd hlen
  have hn : n = ns.length := by
    simp [Builtin.lenOf] at hlen
    simpa using hlen
  subst hn
  refine .still hok (u := .string ⟨(ns.map fun n => UInt8.ofNat n.toNat).toArray⟩) ?_ (.imm (.str _))
  have hconv : (convert src dst (.slice A ns.length c)).run P w = .ok (.string ⟨(ns.map fun n => UInt8.ofNat n.toNat).toArray⟩) w := by
    rw [run_convert_bytes_string w src dst el A ns.length c hsrc hel hdst]
    cases A with
    | none =>
      simp [Builtin.firstCells] at hrd
      have : rowCells 0 uf ns.length = #[] := by simpa using hrd.symm
      have hsz := rowCells_size 0 uf ns.length
      rw [this] at hsz
      have hn0 : ns = [] := by
        cases ns with
        | nil => rfl
        | cons a b => simp at hsz
      subst hn0
      simp [Conv.bytesToString]
      rfl
    | some ad =>
      rw [hcells] at hrd
      rw [run_bytesToString w ad ns.length c ns (by simpa [Builtin.firstCells] using hrd), foldl_push_bytes]
      simp [ByteArray.empty, ByteArray.emptyWithCapacity]
      rfl
  simp only [execOp, ho, hu, Sem.run_bind, hconv, Result.andThen_ok, Sem.run_pure]
end

end Go.Ab
