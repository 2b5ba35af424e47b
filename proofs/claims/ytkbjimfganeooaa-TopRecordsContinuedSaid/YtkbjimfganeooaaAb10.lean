/-
  The abstract machine, tenth part: composite values, append, make, conversions of texts.
-/
import Derived.Test.YtkbjimfganeooaaAb9
set_option linter.unusedSimpArgs false
set_option linter.unusedVariables false
namespace Go.Ab
open Go Go.RowKit

variable {P : Program}

section
variable {E : Env} {w : World} {h : Hp} {s : Nat → AV} {a : Act} {o : Oper}

theorem foldl_set (off : Nat) : ∀ (vs : List Value) (k : Nat) (cells : Array Value), off + k + vs.length ≤ cells.size →
    ((vs.zipIdx k).foldl (fun (cs : Array Value) (p : Value × Nat) => cs.setIfInBounds (off + p.2) p.1) cells).size = cells.size ∧
    ∀ m : Nat, ((vs.zipIdx k).foldl (fun (cs : Array Value) (p : Value × Nat) => cs.setIfInBounds (off + p.2) p.1) cells)[m]? = if off + k ≤ m ∧ m < off + k + vs.length then vs[m - (off + k)]? else cells[m]?
  | [], k, cells, _ => ⟨rfl, fun m => by simp; intro h1 h2; omega⟩
  | v :: vs, k, cells, hl => by
    simp only [List.length_cons] at hl
    obtain ⟨h1, h2⟩ := foldl_set off vs (k + 1) (cells.setIfInBounds (off + k) v) (by simp; omega)
    simp only [List.zipIdx_cons, List.foldl_cons]
    refine ⟨by simpa using h1, fun m => ?_⟩
    rw [h2 m]
    by_cases hm : m = off + k
    · subst hm
      rw [if_neg (by omega), if_pos (by simp)]
      have : off + k < cells.size := by omega
      simp [this]
    · by_cases hm2 : off + k ≤ m ∧ m < off + k + (v :: vs).length
      · rw [if_pos (by simp at hm2; omega), if_pos hm2, show m - (off + k) = (m - (off + (k + 1))) + 1 by omega]
        simp
      · rw [if_neg (by simp at hm2; omega), if_neg hm2, Array.getElem?_setIfInBounds, if_neg (by omega)]

/-- One part put in. -/
theorem fill1 {z : List AV} {cells : Array Value} {v : AV} {u : Value} {e off : Nat} (hm : Match E w z cells) (hr : RV E w v u) (hf : v.fits e = true) (hl : off + esz e ≤ z.length) :
    u.cells.size = esz e ∧ off + u.cells.size ≤ cells.size ∧ Match E w (splice z off v) (u.cells.zipIdx.foldl (fun cs (c, j) => cs.setIfInBounds (off + j) c) cells) := by
  obtain ⟨f1, f2, f3, f4, f5⟩ := hr.fits hf
  refine ⟨f1, by rw [f1, hm.1]; exact hl, ?_⟩
  have hfold : (u.cells.zipIdx.foldl (fun cs (c, j) => cs.setIfInBounds (off + j) c) cells) = (u.cells.toList.zipIdx 0).foldl (fun (cs : Array Value) (p : Value × Nat) => cs.setIfInBounds (off + p.2) p.1) cells := by
    rw [← Array.foldl_toList, Array.toList_zipIdx]
  have hlen : u.cells.toList.length = esz e := by simpa using f1
  obtain ⟨g1, g2⟩ := foldl_set off u.cells.toList 0 cells (by rw [hlen, hm.1]; omega)
  rw [hfold]
  refine ⟨by rw [g1, hm.1, length_splice hf hl], fun i c x hc hx => ?_⟩
  rw [getElem?_splice' hf hl] at hc
  rw [g2 i, hlen] at hx
  split at hc
  · rename_i hi
    rw [if_pos (by omega)] at hx
    exact f3 _ c x hc (by simpa using hx)
  · rename_i hi
    rw [if_neg (by omega)] at hx
    exact hm.2 i c x hc hx

theorem fillS_ok (hs : SOK E w s a) {fs : Array Field} {places : Array (Nat × Nat)} (hp : ∀ (i : Nat) (f : Field), fs[i]? = some f → places[i]? = some (f.offset, P.cellsOf f.type)) : ∀ (ps : List (Nat × Operand)) (qs : List (Nat × Nat × Od)) (z z' : List AV) (cells : Array Value),
    partsS P fs ps = some qs → Match E w z cells → fill s z qs = some z' → ∃ cells', Instr.fill (places[·]?) cells (ps.map fun p => (p.1, a.eval p.2)) = some cells' ∧ Match E w z' cells'
  | [], qs, z, z', cells, hq, hm, hf => by
    simp only [partsS, Option.some.injEq] at hq
    subst hq
    simp only [fill, Option.some.injEq] at hf
    subst hf
    exact ⟨cells, rfl, hm⟩
  | (i, x) :: ps, qs, z, z', cells, hq, hm, hf => by
    simp only [partsS] at hq
    split at hq
    case h_2 => cases hq
    rename_i f hfi
    split at hq
    case h_2 => cases hq
    rename_i e y qs' he hy hqs
    injection hq with hq; subst hq
    simp only [fill] at hf
    split at hf
    case isFalse => cases hf
    rename_i hc
    obtain ⟨f1, f2, f3⟩ := fill1 hm (od_ok hs hy) hc.1 hc.2
    obtain ⟨cells', r1, r2⟩ := fillS_ok hs hp ps qs' _ z' _ hqs f3 hf
    obtain ⟨inf, hi, hsz⟩ := ecode_info he
    have hco : P.cellsOf f.type = esz e := by simp [Program.cellsOf, hi, hsz]
    refine ⟨cells', ?_, r2⟩
    simp only [List.map_cons, Instr.fill, hp i f hfi, hco]
    rw [if_neg (by simp only [f1, ne_eq, not_true_eq_false, false_or, Bool.or_eq_true, decide_eq_true_eq]; omega)]
    exact r1

theorem fillA_ok (hs : SOK E w s a) {t : TypeId} {e : Nat} : ∀ (ps : List (Nat × Operand)) (qs : List (Nat × Nat × Od)) (z z' : List AV) (cells : Array Value),
    partsA P t e ps = some qs → Match E w z cells → fill s z qs = some z' → ∃ cells', Instr.fill (fun i => some (i * esz e, esz e)) cells (ps.map fun p => (p.1, a.eval p.2)) = some cells' ∧ Match E w z' cells'
  | [], qs, z, z', cells, hq, hm, hf => by
    simp only [partsA, Option.some.injEq] at hq
    subst hq
    simp only [fill, Option.some.injEq] at hf
    subst hf
    exact ⟨cells, rfl, hm⟩
  | (i, x) :: ps, qs, z, z', cells, hq, hm, hf => by
    simp only [partsA] at hq
    split at hq
    case h_2 => cases hq
    rename_i y qs' hy hqs
    injection hq with hq; subst hq
    simp only [fill] at hf
    split at hf
    case isFalse => cases hf
    rename_i hc
    obtain ⟨f1, f2, f3⟩ := fill1 hm (od_ok hs hy) hc.1 hc.2
    obtain ⟨cells', r1, r2⟩ := fillA_ok hs ps qs' _ z' _ hqs f3 hf
    refine ⟨cells', ?_, r2⟩
    simp only [List.map_cons, Instr.fill]
    rw [if_neg (by simp only [f1, ne_eq, not_true_eq_false, false_or, Bool.or_eq_true, decide_eq_true_eq]; omega)]
    exact r1

theorem run_places {fs : Array Field} (hf : ∀ f ∈ fs.toList, (P.info? f.type).isSome = true) (w : World) :
    (fs.mapM (m := Sem) fun f => do pure (f.offset, ← sizeOf f.type)).run P w = .ok (fs.map fun f => (f.offset, P.cellsOf f.type)) w := by
  rw [Array.mapM_eq_mapM_toList]
  have : ∀ l : List Field, (∀ f ∈ l, (P.info? f.type).isSome = true) → (l.mapM (m := Sem) fun f => do pure (f.offset, ← sizeOf f.type)).run P w = .ok (l.map fun f => (f.offset, P.cellsOf f.type)) w := by
    intro l
    induction l with
    | nil => intro _; simp
    | cons f l ih =>
      intro hl
      obtain ⟨i, hi⟩ := Option.isSome_iff_exists.1 (hl f (by simp))
      have h1 : (sizeOf f.type).run P w = .ok (P.cellsOf f.type) w := by simp [sizeOf, typeInfo, hi, Program.cellsOf]
      simp only [List.mapM_cons, Sem.run_bind, h1, Result.andThen_ok, Sem.run_pure, ih (fun f hf => hl f (by simp [hf])), List.map_cons]
  simp only [Sem.run_map, this fs.toList hf, Result.andThen_ok]
  congr 1
  apply Array.ext'
  simp

theorem zero_match {t : TypeId} {z : List (Nat × AV)} (hz : zero? P t = some z) : ∃ v, (zeroValue t).run P w = .ok v w ∧ Match E w (expand z) v.cells := by
  obtain ⟨i, v, hi, hv, hl, hr⟩ := zero?_ok hz
  exact ⟨v, by simp [zeroValue, typeInfo, hi, hv], hl, fun j c u hc hu => .imm (hr E.S w j c u hc hu)⟩

theorem run_mapParts (ps : Array (Nat × Operand)) : (ps.map fun (p : Nat × Operand) => (p.1, a.eval p.2)).toList = ps.toList.map fun p => (p.1, a.eval p.2) := by simp

theorem ok_buildS (hok : HOK E h w) (hs : SOK E w s a) {t : TypeId} {fs : Array Field} {ps : Array (Nat × Operand)} {qs : List (Nat × Nat × Od)} {z : List (Nat × AV)} (ho : o.op = .build t ps) (hz : zero? P t = some z) (ht : P.underlying t = some (.struct fs))
    (hf : fs.toList.all (fun f => (P.info? f.type).isSome) = true) (hq : partsS P fs ps.toList = some qs) {v : AV} {h' : Hp} (hb : evV s h (.build z qs) = some (v, h')) : Yields P o a E h.length w v h' := by
  simp only [evV, Option.map_eq_some_iff] at hb
  obtain ⟨cs, hfill, hb⟩ := hb
  injection hb with e1 e2; subst e1; subst e2
  obtain ⟨zv, hzv, hm⟩ := zero_match (P := P) (E := E) (w := w) hz
  obtain ⟨cells', r1, r2⟩ := fillS_ok (P := P) hs (places := fs.map fun f => (f.offset, P.cellsOf f.type)) (fun i f hi => by rw [Array.getElem?_map, hi]; rfl) ps.toList qs _ cs _ hq hm hfill
  refine .still hok (u := .agg cells') ?_ (.agg _ _ r2.1 r2.2)
  have hpl := run_places (P := P) (List.all_eq_true.1 hf) w
  simp only [execOp, ho, Instr.build, Sem.run_bind, hzv, Result.andThen_ok, run_underlying ht, hpl]
  rw [show ((ps.map fun x => match x with | (i, x) => (i, a.eval x)).toList) = ps.toList.map fun p => (p.1, a.eval p.2) from by simp]
  rw [r1]
  rfl

theorem ok_buildA (hok : HOK E h w) (hs : SOK E w s a) {t el : TypeId} {n e : Nat} {ps : Array (Nat × Operand)} {qs : List (Nat × Nat × Od)} {z : List (Nat × AV)} (ho : o.op = .build t ps) (hz : zero? P t = some z) (ht : P.underlying t = some (.array n el))
    (he : ecode P el = some e) (hq : partsA P el e ps.toList = some qs) {v : AV} {h' : Hp} (hb : evV s h (.build z qs) = some (v, h')) : Yields P o a E h.length w v h' := by
  simp only [evV, Option.map_eq_some_iff] at hb
  obtain ⟨cs, hfill, hb⟩ := hb
  injection hb with e1 e2; subst e1; subst e2
  obtain ⟨zv, hzv, hm⟩ := zero_match (P := P) (E := E) (w := w) hz
  obtain ⟨cells', r1, r2⟩ := fillA_ok (P := P) hs ps.toList qs _ cs _ hq hm hfill
  refine .still hok (u := .agg cells') ?_ (.agg _ _ r2.1 r2.2)
  simp only [execOp, ho, Instr.build, Sem.run_bind, hzv, Result.andThen_ok, run_underlying ht, run_sizeOf_e he]
  rw [show ((ps.map fun x => match x with | (i, x) => (i, a.eval x)).toList) = ps.toList.map fun p => (p.1, a.eval p.2) from by simp]
  rw [r1]
  rfl

/-! ### Slices of literals -/

/-- Elements stand for the cells of a row. -/
def EMatch (E : Env) (w : World) (e : Nat) (xs : List AV) (us : Array Value) : Prop :=
  us.size = xs.length * esz e ∧ ∀ (i : Nat) x, xs[i]? = some x → x.fits e = true ∧ ∃ u : Value, RV E w x u ∧ u.cells.size = esz e ∧ ∀ (j : Nat) c, u.cells[j]? = some c → us[i * esz e + j]? = some c

theorem zeroE_ok {t : TypeId} {e : Nat} {z : AV} (he : ecode P t = some e) (hz : zeroE P t = some z) : ∃ v : Value, (∀ w, (zeroValue t).run P w = .ok v w) ∧ (∀ S w, RI S w z v) ∧ z.fits e = true ∧ v.cells.size = esz e := by
  unfold zeroE at hz
  rw [he] at hz
  split at hz
  case h_2 => cases hz
  rename_i e' zz v0 h0 hzz hv0
  injection h0 with h0; subst h0
  obtain ⟨i, v, k1, k2, k3, k5⟩ := zero?_ok hzz
  rw [k1] at hv0
  simp only [Option.bind_some, k2, Option.some.injEq] at hv0
  subst hv0
  have k4 : ∀ c ∈ expand zz, c.one = true := by
    unfold zero? at hzz
    split at hzz
    · split at hzz
      · injection hzz with hzz; subst hzz
        rename_i z' v' _ hv' hrel
        rw [k1] at hv'
        simp only [Option.bind_some, k2, Option.some.injEq] at hv'
        subst hv'
        exact relCs_one hrel
      · cases hzz
    · cases hzz
  split at hz
  case isFalse => cases hz
  rename_i hc
  obtain ⟨hc1, hc2⟩ := hc
  have hrun : ∀ w, (zeroValue t).run P w = .ok v w := fun w => by simp [zeroValue, typeInfo, k1, k2]
  split at hz
  · rename_i h00
    subst h00
    split at hz
    case h_2 => cases hz
    rename_i x hx
    injection hz with hz; subst hz
    rw [hx] at k3 k4 k5
    have hxo := k4 x (by simp)
    have hvc : v.cells = #[v] := by cases v <;> first | rfl | (simp [vAgg] at hc1)
    have hr0 := fun S w => k5 S w 0 x v rfl (by rw [hvc]; rfl)
    refine ⟨v, hrun, hr0, ?_, hc2⟩
    cases x <;> first | rfl | (simp [AV.one] at hxo)
  · rename_i h00
    injection hz with hz; subst hz
    cases v <;> simp only [vAgg, bne_iff_ne, ne_eq, eq_comm] at hc1 <;> first
      | (exfalso; revert hc1; simp [h00]; done)
      | skip
    rename_i us
    simp only [Value.cells] at k3 k5 hc2
    have hez : esz e = e := by simp [esz, h00]
    refine ⟨.agg us, hrun, fun S w => .agg _ us k3 (k5 S w), ?_, hc2⟩
    simp only [AV.fits, Bool.and_eq_true, beq_iff_eq, bne_iff_ne, ne_eq, onesB, List.all_eq_true]
    exact ⟨⟨by omega, h00⟩, k4⟩

theorem replicate_match {e n : Nat} {z : AV} {v : Value} (hr : RV E w z v) (hf : z.fits e = true) (hz : v.cells.size = esz e) :
    EMatch E w e (List.replicate n z) ((Array.range (n * esz e)).map (v.cells[· % v.cells.size]!)) := by
  refine ⟨by simp, fun i x hx => ?_⟩
  have hi : i < n := by have := (List.getElem?_eq_some_iff.1 hx).1; simpa using this
  simp [List.getElem?_replicate, hi] at hx
  subst hx
  refine ⟨hf, v, hr, hz, fun j c hc => ?_⟩
  have hj : j < esz e := by have := (Array.getElem?_eq_some_iff.1 hc).1; omega
  have hlt : i * esz e + j < n * esz e := by
    have := Nat.mul_le_mul_right (esz e) hi
    rw [Nat.succ_mul] at this
    omega
  have hmod : (i * esz e + j) % esz e = j := by rw [Nat.mul_comm, Nat.mul_add_mod, Nat.mod_eq_of_lt hj]
  have hjv : j < v.cells.size := by omega
  rw [Array.getElem?_eq_getElem hjv] at hc
  injection hc with hc
  rw [Array.getElem?_map, Array.getElem?_range]
  simp only [hlt, if_true, Option.map_some, hz, hmod]
  rw [getElem!_pos v.cells j hjv, hc]

theorem fillE_ok (hs : SOK E w s a) {t : TypeId} {e : Nat} (he : ecode P t = some e) : ∀ (ps : List (Nat × Operand)) (qs : List (Nat × Od)) (z z' : List AV) (cells : Array Value),
    partsL P t ps = some qs → EMatch E w e z cells → fillE s e z qs = some z' → ∃ cells', Instr.fill (fun i => some (i * esz e, esz e)) cells (ps.map fun p => (p.1, a.eval p.2)) = some cells' ∧ EMatch E w e z' cells' ∧ z'.length = z.length
  | [], qs, z, z', cells, hq, hm, hf => by
    simp only [partsL, Option.some.injEq] at hq
    subst hq
    simp only [fillE, Option.some.injEq] at hf
    subst hf
    exact ⟨cells, rfl, hm, rfl⟩
  | (i, x) :: ps, qs, z, z', cells, hq, hm, hf => by
    simp only [partsL] at hq
    split at hq
    case h_2 => cases hq
    rename_i y qs' hy hqs
    injection hq with hq; subst hq
    simp only [fillE] at hf
    split at hf
    case isFalse => cases hf
    rename_i hc
    obtain ⟨hfit, hil⟩ := hc
    have hrv := od_ok hs hy
    obtain ⟨f1, f2, f3, f4, f5⟩ := hrv.fits hfit
    have hmul : (i + 1) * esz e ≤ z.length * esz e := Nat.mul_le_mul_right _ hil
    rw [Nat.succ_mul] at hmul
    have hsz := hm.1
    have hlen : (a.eval x).cells.toList.length = esz e := by simpa using f1
    obtain ⟨g1, g2⟩ := foldl_set (i * esz e) (a.eval x).cells.toList 0 cells (by rw [hlen]; omega)
    have hfold : ((a.eval x).cells.zipIdx.foldl (fun cs (c, j) => cs.setIfInBounds (i * esz e + j) c) cells) = ((a.eval x).cells.toList.zipIdx 0).foldl (fun (cs : Array Value) (p : Value × Nat) => cs.setIfInBounds (i * esz e + p.2) p.1) cells := by
      rw [← Array.foldl_toList, Array.toList_zipIdx]
    have hm' : EMatch E w e (z.set i (y.ev s)) ((a.eval x).cells.zipIdx.foldl (fun cs (c, j) => cs.setIfInBounds (i * esz e + j) c) cells) := by
      rw [hfold]
      refine ⟨by rw [g1, hsz]; simp, fun k v hv => ?_⟩
      rw [List.getElem?_set] at hv
      by_cases hki : i = k
      · subst hki
        rw [if_pos rfl, if_pos hil] at hv
        injection hv with hv; subst hv
        refine ⟨hfit, a.eval x, hrv, f1, fun j c hc => ?_⟩
        have hj : j < esz e := by have := (Array.getElem?_eq_some_iff.1 hc).1; omega
        rw [g2, hlen, if_pos (by omega), show i * esz e + j - (i * esz e + 0) = j by omega]
        simpa using hc
      · rw [if_neg hki] at hv
        obtain ⟨m1, u, m2, m3, m4⟩ := hm.2 k v hv
        refine ⟨m1, u, m2, m3, fun j c hc => ?_⟩
        have hj : j < esz e := by have := (Array.getElem?_eq_some_iff.1 hc).1; omega
        rw [g2, hlen, if_neg (fun hin => ?_)]
        · exact m4 j c hc
        · rcases Nat.lt_or_gt_of_ne hki with hlt | hgt
          · have := Nat.mul_le_mul_right (esz e) hlt
            rw [Nat.succ_mul] at this
            omega
          · have := Nat.mul_le_mul_right (esz e) hgt
            rw [Nat.succ_mul] at this
            omega
    obtain ⟨cells', r1, r2, r3⟩ := fillE_ok hs he ps qs' _ z' _ hqs hm' hf
    refine ⟨cells', ?_, r2, by simpa using r3⟩
    simp only [List.map_cons, Instr.fill]
    rw [if_neg (by simp only [f1, ne_eq, not_true_eq_false, false_or, Bool.or_eq_true, decide_eq_true_eq]; omega)]
    exact r1

/-- A row of literal elements, in a new block, whose cells are never written again. -/
theorem ok_mksl (hok : HOK E h w) (hs : SOK E w s a) {t el : TypeId} {n e : Nat} {z : AV} {ps : Array (Nat × Operand)} {qs : List (Nat × Od)} (ho : o.op = .buildSlice t n ps) (ht : P.underlying t = some (.slice el)) (he : ecode P el = some e)
    (hz : zeroE P el = some z) (hn : n * esz e ≤ 2 ^ 24) (hq : partsL P el ps.toList = some qs) {v : AV} {h' : Hp} (hb : evV s h (.mksl e n z qs) = some (v, h')) : Yields P o a E h.length w v h' := by
  obtain ⟨zv, z1, z2, z3, z4⟩ := zeroE_ok he hz
  simp only [evV] at hb
  split at hb
  case h_2 => cases hb
  rename_i xs hfill
  simp only [Option.map_eq_some_iff] at hb
  obtain ⟨⟨fz, h1⟩, hfr, hb⟩ := hb
  have hm0 := replicate_match (E := E) (w := w) (n := n) (.imm (z2 E.S w)) z3 z4
  obtain ⟨cells, r1, r2, r3⟩ := fillE_ok (P := P) hs he ps.toList qs _ xs _ hq hm0 hfill
  have hxl : xs.length = n := by simpa using r3
  -- the elements' own values
  have hu : ∃ uf : Nat → Value, ∀ (i : Nat) x, xs[i]? = some x → x.fits e = true ∧ RV E w x (uf i) ∧ (uf i).cells.size = esz e ∧ ∀ (j : Nat) c, (uf i).cells[j]? = some c → cells[i * esz e + j]? = some c := by
    have : ∀ i : Nat, ∃ v : Value, ∀ x, xs[i]? = some x → x.fits e = true ∧ RV E w x v ∧ v.cells.size = esz e ∧ ∀ (j : Nat) c, v.cells[j]? = some c → cells[i * esz e + j]? = some c := fun i => by
      cases hx : xs[i]? with
      | none => exact ⟨undef, fun y h => by cases h⟩
      | some x =>
        obtain ⟨m1, u, m2, m3, m4⟩ := r2.2 i x hx
        exact ⟨u, fun y e => by injection e with e; subst e; exact ⟨m1, m2, m3, m4⟩⟩
    exact ⟨fun i => (this i).choose, fun i => (this i).choose_spec⟩
  obtain ⟨uf, huf⟩ := hu
  have htup : RV E w (.tup xs) (.tuple ((List.range xs.length).map uf).toArray) := by
    refine .tup xs _ (by simp) fun i c u hc hu => ?_
    have hi : i < xs.length := (List.getElem?_eq_some_iff.1 hc).1
    simp [hi] at hu
    subst hu
    exact (huf i c hc).2.1
  obtain ⟨E1, k1, k2, k3, k4, k5⟩ := freeze_ok hok htup hfr
  -- the new block
  have m := More.alloc w cells el
  obtain ⟨l1, l2⟩ := k1.more m
  have hext := (k2 h.length).trans (l2 h1.length) (Nat.le_of_eq k4.symm)
  -- its cells are stable
  let E2 : Env := { E1 with S := fun g o => E1.S g o ∨ g = w.heap.size }
  have hkept : Kept E1.S E2.S (w.alloc (.cells cells el)) (w.alloc (.cells cells el)) := ⟨fun _ _ s => .inl s, fun _ _ _ => rfl, fun _ _ _ _ _ e => e, fun _ _ _ _ => rfl⟩
  have hE2 : ∀ n, Ext n E1 (w.alloc (.cells cells el)) E2 (w.alloc (.cells cells el)) := fun n => ⟨Blw.refl _ _, rfl, hkept, fun g o s => by
    rcases s with s | rfl
    · exact .inl s
    · exact .inr k1.size, fun b r _ e => ⟨e, rfl, rfl⟩⟩
  have hok2 : HOK E2 h1 (w.alloc (.cells cells el)) := by
    refine ⟨fun b x hx => BOK.ext (List.getElem?_eq_some_iff.1 hx).1 l1.dom (hE2 _) (fun _ _ _ => rfl) (l1.blocks b x hx), l1.dom, fun b x g hx hal e => ?_, l1.inj, fun g o s => ?_, l1.size⟩
    · obtain ⟨q1, q2, q3⟩ := l1.own b x g hx hal e
      refine ⟨q1, q2, fun o s => ?_⟩
      rcases s with s | rfl
      · exact q3 o s
      · have := (k1.own b x _ hx hal e).2.1
        omega
    · rcases s with s | rfl
      · exact l1.old g o s
      · simp
  have hrun : (execOp a.eval o).run P w = .ok (.value (.slice (some ⟨w.heap.size, 0, none⟩) n n)) (w.alloc (.cells cells el)) := by
    have hmap : (ps.map fun x => match x with | (i, x) => (i, a.eval x)).toList = ps.toList.map fun p => (p.1, a.eval p.2) := by simp
    simp only [execOp, ho, Instr.buildSlice, Sem.run_bind, run_underlying ht, Result.andThen_ok, run_sizeOf_e he]
    rw [if_neg (by omega)]
    by_cases h0 : n * esz e = 0
    · have hr0 : (Array.map (fun x => (#[] : Array Value)[x % (#[] : Array Value).size]!) (Array.range (n * esz e))) = (Array.range (n * esz e)).map (zv.cells[· % zv.cells.size]!) := by simp [h0]
      simp only [if_pos h0, Sem.run_bind, Sem.run_pure, Result.andThen_ok]
      rw [hmap, hr0, r1]
      simp [newRow]
    · simp only [if_neg h0, Sem.run_bind, Sem.run_pure, Result.andThen_ok, z1]
      rw [hmap, r1]
      simp [newRow]
  have hfx : ∃ ys, fz = .tup ys ∧ ys.length = xs.length ∧ (∀ (i : Nat) y, ys[i]? = some y → y.fits e = true) := by
    unfold freeze at hfr
    split at hfr
    · injection hfr with hfr; injection hfr with e1 e2; subst e1
      exact ⟨xs, rfl, rfl, fun i y hy => (huf i y hy).1⟩
    · split at hfr
      · rename_i y hy
        injection hfr with hfr; injection hfr with e1 e2; subst e1
        obtain ⟨m, hd⟩ : ∃ m, deep = m + 1 := ⟨11, rfl⟩
        rw [hd] at hy
        simp only [imm, Option.map_eq_some_iff] at hy
        obtain ⟨ys, hys, rfl⟩ := hy
        refine ⟨ys, rfl, (omap_some hys).1, fun i y hyi => ?_⟩
        obtain ⟨x, hx, hi⟩ := omap_back hys i y hyi
        exact imm_fits hi (shape_of_fits (huf i x hx).1)
      · cases hfr
  obtain ⟨ys, rfl, hyl, hyf⟩ := hfx
  injection hb with e1 e2; subst e1; subst e2
  refine ⟨_, _, E2, _, hrun, .inl rfl, hok2, hext.trans (hE2 h1.length) (by rw [k4]; exact Nat.le_refl _), .imm ?_⟩
  cases k3 with
  | tup _ us q1 q2 =>
    have hy2 : ∀ (i : Nat) y, ys[i]? = some y → RI E1.S w y (uf i) := fun i y hy => by
      have hi : i < ys.length := (List.getElem?_eq_some_iff.1 hy).1
      have hix : i < xs.length := by omega
      exact q2 i y (uf i) hy (by simp [hix])
    have hnm : n = ys.length := by omega
    subst hnm
    refine .sl e true ys _ _ w.heap.size 0 uf (Nat.le_refl _) ?_ (fun _ => rfl) (.inr rfl) hyf (fun i y hy j c hc => ⟨.inr rfl, ?_⟩) (fun i y hy => ((hy2 i y hy).kept (l2 0).kept).kept hkept) ?_
    · unfold maxLen
      have := Nat.le_mul_of_pos_right ys.length (esz_pos e)
      have h24 : ys.length ≤ 2 ^ 24 := Nat.le_trans this hn
      exact Nat.le_trans h24 (by decide)
    · have hi : i < ys.length := (List.getElem?_eq_some_iff.1 hy).1
      have hix : i < xs.length := by omega
      have := (huf i xs[i] (List.getElem?_eq_getElem hix)).2.2.2 j c hc
      rw [World.cell?_alloc_new]
      simpa using this
    · exact fun _ _ k => not_frozen_new w _ _ k
end
end Go.Ab
