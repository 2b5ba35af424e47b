/-
  The abstract machine, eighth part: more operations: addresses, slices, lengths, new memory.
-/
import Derived.Test.YtkbjimfganeooaaAb7
set_option linter.unusedSimpArgs false
set_option linter.unusedVariables false
namespace Go.Ab
open Go Go.RowKit

variable {P : Program}

section
variable {E : Env} {w : World} {h : Hp} {s : Nat → AV} {a : Act} {o : Oper}

/-- Cells stand for cells, one by one. -/
def Match (E : Env) (w : World) (cs : List AV) (us : Array Value) : Prop := us.size = cs.length ∧ ∀ (i : Nat) c u, cs[i]? = some c → us[i]? = some u → RV E w c u

theorem match_cells {v : AV} {u : Value} (hr : RV E w v u) (ho : onesB v.cells = true) : Match E w v.cells u.cells := by
  by_cases ha : ∃ cs, v = .agg cs
  · obtain ⟨cs, rfl⟩ := ha
    obtain ⟨us, rfl, h1, h2⟩ := hr.agg_inv
    exact ⟨h1, h2⟩
  · have hc : v.cells = [v] := cells_one fun cs e => ha ⟨cs, e⟩
    rw [hc] at ho ⊢
    have h1 := (hr.one (by simpa [onesB] using ho)).2
    refine ⟨by simp [h1], fun i c x hc hx => ?_⟩
    rw [h1] at hx
    cases i with
    | zero => simp at hc hx; subst hc; subst hx; exact hr
    | succ i => simp at hc

/-- A new block of cells. -/
theorem push_cel (hok : HOK E h w) {cs : List AV} {us : Array Value} {t : TypeId} (hm : Match E w cs us) (h1 : ∀ c ∈ cs, Ok1 c) :
    HOK (E.push h.length (some w.heap.size) 0 0) (h ++ [.cel cs]) (w.alloc (.cells us t)) ∧ Ext h.length E w (E.push h.length (some w.heap.size) 0 0) (w.alloc (.cells us t)) := by
  have m := More.alloc w us t
  have he := hok.ext_more m (some w.heap.size) 0 0
  refine ⟨hok.push m _ _ _ _ ⟨w.heap.size, us, t, (0, 0), by simp, heap_alloc_new w _, fun o _ => by simp, by rw [hm.1]; exact Nat.le_refl _, h1, fun i c u hc hu => (hm.2 i c u hc hu).ext he hok.dom⟩ (fun g hg => by injection hg with hg; subst hg; simp), he⟩

theorem ok_box (hok : HOK E h w) (hs : SOK E w s a) {t t1 : TypeId} {x : Operand} {x' : Od} (ho : o.op = .box t x) (hx : od P t1 x = some x') {v : AV} {h' : Hp} (hb : evV s h (.box x') = some (v, h')) :
    Yields P o a E h.length w v h' := by
  have h1 := od_ok hs hx
  simp only [evV] at hb
  split at hb
  · rename_i hone
    injection hb with hb; injection hb with e1 e2; subst e1; subst e2
    obtain ⟨k1, k2⟩ := push_cel hok (t := t) (match_cells h1 hone) (fun c hc => .inl (List.all_eq_true.1 hone c hc))
    refine ⟨_, _, _, _, ?_, .inl rfl, k1, k2, .ptr h.length 0 w.heap.size (by simp)⟩
    simp [execOp, ho, Instr.box, newVar, newRow]
  · cases hb

theorem ok_alloc (hok : HOK E h w) {t : TypeId} {z : List (Nat × AV)} (ho : o.op = .alloc t) (hz : zero? P t = some z) {v : AV} {h' : Hp} (hb : evV s h (.alloc z) = some (v, h')) :
    Yields P o a E h.length w v h' := by
  simp only [evV, Option.some.injEq, Prod.mk.injEq] at hb
  obtain ⟨rfl, rfl⟩ := hb
  obtain ⟨i, zv, hi, hzv, hl, hr⟩ := zero?_ok hz
  have hone : ∀ c ∈ expand z, Ok1 c := by
    intro c hc
    obtain ⟨j, hj⟩ := List.getElem?_of_mem hc
    have hjl : j < zv.cells.size := by have := (List.getElem?_eq_some_iff.1 hj).1; omega
    have := hr E.S w j c _ hj (Array.getElem?_eq_getElem hjl)
    unfold zero? at hz
    split at hz
    · split at hz
      · injection hz with hz; subst hz
        rename_i z' v' _ hv' hrel
        rw [hi] at hv'
        simp only [Option.bind_some, hzv, Option.some.injEq] at hv'
        subst hv'
        exact .inl (relCs_one hrel c hc)
      · cases hz
    · cases hz
  obtain ⟨k1, k2⟩ := push_cel hok (t := t) (cs := expand z) (us := zv.cells) ⟨hl, fun i c u hc hu => .imm (hr E.S w i c u hc hu)⟩ hone
  refine ⟨_, _, _, _, ?_, .inl rfl, k1, k2, .ptr h.length 0 w.heap.size (by simp)⟩
  simp [execOp, ho, Instr.alloc, zeroValue, typeInfo, hi, hzv, newVar, newRow]

theorem ok_nilchk (hok : HOK E h w) (hs : SOK E w s a) {t1 : TypeId} {x : Operand} {x' : Od} (ho : o.op = .nilCheck x) (hx : od P t1 x = some x') {v : AV} {h' : Hp} (hb : evV s h (.nilchk x') = some (v, h')) :
    Yields P o a E h.length w v h' := by
  have h1 := od_ok hs hx
  simp only [evV] at hb
  have fin : ∀ u, a.eval x = u → (execOp a.eval o).run P w = .ok (.value u) w → x'.ev s = v → h = h' → Yields P o a E h.length w v h' := by
    rintro u hu hrun rfl rfl
    exact .still hok hrun (hu ▸ h1)
  generalize hu : a.eval x = u at h1
  generalize hv : x'.ev s = x0 at h1 hb fin
  have hrun : (∀ p, u ≠ .pointer none ∧ u ≠ .nilIface ∧ u ≠ .nilFunc ∧ ∀ n f c, p = n → u ≠ .func (.method n) f c) → (execOp a.eval o).run P w = .ok (.value u) w := by
    intro hne
    simp only [execOp, ho, hu]
    have := hne ""
    cases u with
    | pointer p => cases p with
      | none => exact absurd rfl this.1
      | some p => rfl
    | nilIface => exact absurd rfl this.2.1
    | nilFunc => exact absurd rfl this.2.2.1
    | func fn f c => cases fn with
      | method n => exact absurd rfl ((hne n).2.2.2 n f c rfl)
      | _ => rfl
    | _ => rfl
  cases x0 <;> simp only [Option.some.injEq, Prod.mk.injEq, reduceCtorEq] at hb <;> obtain ⟨e1, e2⟩ := hb
  case bool b => exact fin u hu (hrun fun _ => by rw [h1.bool_inv]; simp) e1 e2
  case int k n => exact fin u hu (hrun fun _ => by rw [h1.int_inv]; simp) e1 e2
  case str t => exact fin u hu (hrun fun _ => by rw [h1.str_inv]; simp) e1 e2
  case nilmp => exact fin u hu (hrun fun _ => by rw [h1.nilmp_inv]; simp) e1 e2
  case ptr b off => obtain ⟨g, _, hp⟩ := h1.ptr_inv; exact fin u hu (hrun fun _ => by rw [hp]; simp) e1 e2
  case eptr b i off => obtain ⟨g, _, hp⟩ := h1.eptr_inv; exact fin u hu (hrun fun _ => by rw [hp]; simp) e1 e2
  case pro cs => cases h1.pro_inv with | pro _ g off f hc hr => exact fin _ hu (hrun fun _ => by simp) e1 e2
  case sl e f xs => cases h1.sl_inv; exact fin _ hu (hrun fun _ => by simp) e1 e2
  case row e b off len => obtain ⟨_, ⟨_, _, _, A, hp⟩ | ⟨g, cap, A, _, hp, _⟩⟩ := h1.row_inv <;> exact fin u hu (hrun fun _ => by rw [hp]; simp) e1 e2
  case crow e b off len cap => obtain ⟨_, ⟨_, _, _, _, A, hp⟩ | ⟨g, A, _, hp, _⟩⟩ := h1.crow_inv <;> exact fin u hu (hrun fun _ => by rw [hp]; simp) e1 e2
  case arow e b off len => obtain ⟨g, cap, A, _, hp, _⟩ := h1.arow_inv; exact fin u hu (hrun fun _ => by rw [hp]; simp) e1 e2
  case fn f cs => obtain ⟨us, hp, _⟩ := h1.fn_inv; exact fin u hu (hrun fun _ => by rw [hp]; simp) e1 e2
  case agg cs => obtain ⟨us, hp, _⟩ := h1.agg_inv; exact fin u hu (hrun fun _ => by rw [hp]; simp) e1 e2
  case tup cs => obtain ⟨us, hp, _⟩ := h1.tup_inv; exact fin u hu (hrun fun _ => by rw [hp]; simp) e1 e2
  case mref b => obtain ⟨g, _, hp⟩ := h1.mref_inv; exact fin u hu (hrun fun _ => by rw [hp]; simp) e1 e2
  case mp ks vs => cases h1.mp_inv; exact fin _ hu (hrun fun _ => by simp) e1 e2

theorem ok_cint (hok : HOK E h w) (hs : SOK E w s a) {t1 src dst : TypeId} {k k0 : IntKind} {x : Operand} {x' : Od} (ho : o.op = .convert src dst x) (hsrc : P.underlying src = some (.int k0)) (hdst : P.underlying dst = some (.int k))
    (hx : od P t1 x = some x') {v : AV} {h' : Hp} (hb : evV s h (.cint k x') = some (v, h')) : Yields P o a E h.length w v h' := by
  have h1 := od_ok hs hx
  simp only [evV] at hb
  split at hb
  · rename_i k1 n e
    rw [e] at h1
    injection hb with hb; injection hb with e1 e2; subst e1; subst e2
    exact .still hok (by simp [execOp, ho, h1.int_inv, convert, run_underlying hsrc, run_underlying hdst, Conv.intToInt]) (.imm (.int _ _))
  · cases hb

theorem ok_idconv (hok : HOK E h w) (hs : SOK E w s a) {t1 src dst : TypeId} {x : Operand} {x' : Od} (ho : o.op = .convert src dst x) (hsrc : P.underlying src = some .string) (hdst : P.underlying dst = some .string)
    (hx : od P t1 x = some x') {t : List UInt8} (hb : x'.ev s = .str t) : Yields P o a E h.length w (x'.ev s) h := by
  have h1 := od_ok hs hx
  have h2 := h1
  rw [hb] at h2
  exact .still hok (u := a.eval x) (by simp [execOp, ho, h2.str_inv, convert, run_underlying hsrc, run_underlying hdst]) h1

theorem ods_ok {E : Env} {w : World} {s : Nat → AV} {a : Act} (hs : SOK E w s a) : ∀ {ts : List TypeId} {xs : List Operand} {ys : List Od}, ods P ts xs = some ys → ys.length = xs.length ∧ ∀ (i : Nat) x y, xs[i]? = some x → ys[i]? = some y → RV E w (y.ev s) (a.eval x)
  | [], [], ys, h => by simp [ods] at h; subst h; exact ⟨rfl, fun i x y h => by simp at h⟩
  | t :: ts, x :: xs, ys, h => by
    simp only [ods] at h
    split at h
    · rename_i y ys' hy hys
      injection h with h; subst h
      obtain ⟨h1, h2⟩ := ods_ok hs hys
      refine ⟨by simp [h1], fun i x' y' hx' hy' => ?_⟩
      cases i with
      | zero => simp at hx' hy'; subst hx'; subst hy'; exact od_ok hs hy
      | succ i => exact h2 i x' y' (by simpa using hx') (by simpa using hy')
    · cases h
  | [], _ :: _, _, h => by simp [ods] at h
  | _ :: _, [], _, h => by simp [ods] at h

theorem omap_od_ok {t : TypeId} (hs : SOK E w s a) {xs : List Operand} {ys : List Od} (h : omap (od P t) xs = some ys) : ys.length = xs.length ∧ ∀ (i : Nat) x y, xs[i]? = some x → ys[i]? = some y → RV E w (y.ev s) (a.eval x) := by
  obtain ⟨h1, h2⟩ := omap_some h
  refine ⟨h1, fun i x y hx hy => ?_⟩
  obtain ⟨y', hy', he⟩ := h2 i x hx
  rw [hy'] at hy; injection hy with hy; subst hy
  exact od_ok hs he

theorem ok_mkfn (hok : HOK E h w) (hs : SOK E w s a) {f : FuncId} {first caps : Array Operand} {t1 : TypeId} {ys : List Od} (ho : o.op = .makeFunc (.func f) first caps) (hf : first.size = 0) (hx : omap (od P t1) caps.toList = some ys) :
    Yields P o a E h.length w (.fn f (ys.map (Od.ev s))) h := by
  obtain ⟨h1, h2⟩ := omap_od_ok hs hx
  have hfe : first = #[] := Array.eq_empty_of_size_eq_zero hf
  refine .still hok (u := .func (.func f) #[] (caps.map a.eval)) (by simp [execOp, ho, Instr.makeFunc, hfe]) ?_
  refine .fn f _ _ (by simp [h1]) fun i c u hc hu => ?_
  rw [List.getElem?_map] at hc
  rw [Array.getElem?_map] at hu
  cases hy : ys[i]? with
  | none => rw [hy] at hc; cases hc
  | some y =>
    rw [hy] at hc
    cases hx' : caps[i]? with
    | none => rw [hx'] at hu; cases hu
    | some x =>
      rw [hx'] at hu
      simp at hc hu
      subst hc; subst hu
      exact h2 i x y (by simpa using hx') hy

/-! ### Addresses -/

theorem ok_faddr (hok : HOK E h w) (hs : SOK E w s a) {t t1 : TypeId} {x : Operand} {x' : Od} {f : Nat} {fs : Array Field} {fd : Field} (ho : o.op = .fieldAddr t x f) (ht : P.underlying t = some (.struct fs)) (hf : fs[f]? = some fd) (hz : P.cellsOf fd.type ≠ 0)
    (hx : od P t1 x = some x') {v : AV} {h' : Hp} (hb : evV s h (.faddr fd.offset x') = some (v, h')) : Yields P o a E h.length w v h' := by
  have h1 := od_ok hs hx
  simp only [evV] at hb
  have hinfo : ∃ i, P.info? fd.type = some i ∧ i.size ≠ 0 := by
    unfold Program.cellsOf at hz
    cases hi : P.info? fd.type with
    | none => rw [hi] at hz; simp at hz
    | some i => exact ⟨i, rfl, by simpa [hi] using hz⟩
  obtain ⟨i, hi, hi0⟩ := hinfo
  have run : ∀ g off, a.eval x = .pointer (some ⟨g, off, none⟩) → (execOp a.eval o).run P w = .ok (.value (.pointer (some ⟨g, off + fd.offset, none⟩))) w := by
    intro g off hp
    simp [execOp, ho, hp, Instr.fieldAt, run_underlying ht, hf, Instr.sureAddr, fieldPlace, sizeOf, typeInfo, hi, hi0, add_addr]
  split at hb
  · rename_i b off e
    rw [e] at h1
    obtain ⟨g, hg, hp⟩ := h1.ptr_inv
    injection hb with hb; injection hb with e1 e2; subst e1; subst e2
    exact .still hok (run _ _ hp) (.ptr _ _ g hg)
  · rename_i b j off e
    rw [e] at h1
    obtain ⟨g, hg, hp⟩ := h1.eptr_inv
    injection hb with hb; injection hb with e1 e2; subst e1; subst e2
    refine .still hok (run _ _ hp) ?_
    rw [Nat.add_assoc]
    exact .eptr _ _ _ g hg
  · rename_i cs e
    rw [e] at h1
    injection hb with hb; injection hb with e1 e2; subst e1; subst e2
    generalize hu : a.eval x = u at h1
    cases h1.pro_inv with
    | pro _ g off u hc hr =>
      refine .still hok (run _ _ hu) (.imm (.pro _ g (off + fd.offset) (fun j => u (fd.offset + j)) (fun j c hj => ?_) fun j c hj => ?_))
      · rw [List.getElem?_drop] at hj
        rw [Nat.add_assoc]
        exact hc _ c hj
      · rw [List.getElem?_drop] at hj
        exact hr _ c hj
  · cases hb

/-- A part of a struct or array value. -/
theorem run_part_e {t : TypeId} {e : Nat} (he : ecode P t = some e) {us : Array Value} {cs : List AV} {off : Nat} {v : AV} (hm : Match E w cs us) (hp : pick? e off cs = some v) : ∃ u, (part t us off).run P w = .ok u w ∧ RV E w v u := by
  unfold pick? at hp
  by_cases h0 : e = 0
  · rw [if_pos h0] at hp
    subst h0
    have hl : off < us.size := by have := (List.getElem?_eq_some_iff.1 hp).1; have := hm.1; omega
    refine ⟨us[off], ?_, hm.2 off v _ hp (Array.getElem?_eq_getElem hl)⟩
    simp [part, run_isAgg_e he, hl]
  · rw [if_neg h0] at hp
    have hz : esz e = e := by simp [esz, h0]
    split at hp
    · rename_i hl
      injection hp with hp; subst hp
      have hus := hm.1
      refine ⟨.agg (us.extract off (off + e)), by simp [part, run_isAgg_e he, h0, run_sizeOf_e he, hz], .agg _ _ (by simp; omega) fun i c u hc hu => ?_⟩
      rw [List.getElem?_take] at hc
      split at hc
      · rw [List.getElem?_drop] at hc
        refine hm.2 (off + i) c u hc ?_
        rw [Array.getElem?_extract] at hu
        split at hu
        · exact hu
        · cases hu
      · cases hc
    · cases hp

theorem ok_fld (hok : HOK E h w) (hs : SOK E w s a) {t t1 : TypeId} {x : Operand} {x' : Od} {f e : Nat} {fs : Array Field} {fd : Field} (ho : o.op = .field t x f) (ht : P.underlying t = some (.struct fs)) (hf : fs[f]? = some fd) (he : ecode P fd.type = some e)
    (hx : od P t1 x = some x') {v : AV} {h' : Hp} (hb : evV s h (.fld fd.offset e x') = some (v, h')) : Yields P o a E h.length w v h' := by
  have h1 := od_ok hs hx
  simp only [evV] at hb
  split at hb
  · rename_i cs ec
    rw [ec] at h1
    simp only [Option.map_eq_some_iff] at hb
    obtain ⟨v', hv, hb⟩ := hb
    injection hb with e1 e2; subst e1; subst e2
    obtain ⟨us, hu, k1, k2⟩ := h1.agg_inv
    obtain ⟨u, r1, r2⟩ := run_part_e he ⟨k1, k2⟩ hv
    exact .still hok (by simp [execOp, ho, hu, Instr.field, run_underlying ht, hf, asAgg, r1]) r2
  · cases hb

theorem ok_ext (hok : HOK E h w) (hs : SOK E w s a) {t1 : TypeId} {x : Operand} {x' : Od} {i : Nat} (ho : o.op = .extract x i) (hx : od P t1 x = some x') {v : AV} {h' : Hp} (hb : evV s h (.ext x' i) = some (v, h')) : Yields P o a E h.length w v h' := by
  have h1 := od_ok hs hx
  simp only [evV] at hb
  split at hb
  · rename_i cs ec
    rw [ec] at h1
    simp only [Option.map_eq_some_iff] at hb
    obtain ⟨v', hv, hb⟩ := hb
    injection hb with e1 e2; subst e1; subst e2
    obtain ⟨us, hu, k1, k2⟩ := h1.tup_inv
    have hl : i < us.size := by have := (List.getElem?_eq_some_iff.1 hv).1; omega
    exact .still hok (u := us[i]) (by simp [execOp, ho, hu, Instr.extract, hl]) (k2 i v' _ hv (Array.getElem?_eq_getElem hl))
  · cases hb

theorem ok_iaddr (hok : HOK E h w) (hs : SOK E w s a) {t t1 t2 el : TypeId} {x i : Operand} {x' i' : Od} {e : Nat} (ho : o.op = .indexAddr t x i) (ht : P.underlying t = some (.slice el)) (he : ecode P el = some e)
    (hx : od P t1 x = some x') (hi : od P t2 i = some i') {v : AV} {h' : Hp} (hb : evV s h (.iaddr e x' i') = some (v, h')) : Yields P o a E h.length w v h' := by
  have h1 := od_ok hs hx
  have h2 := od_ok hs hi
  simp only [evV] at hb
  split at hb
  case h_2 => cases hb
  rename_i k n en
  rw [en] at h2
  have hn := h2.int_inv
  split at hb
  case isFalse => cases hb
  rename_i hn0
  have run : ∀ g off len cap, a.eval x = .slice (some ⟨g, off, none⟩) len cap → n.toNat < len → (execOp a.eval o).run P w = .ok (.value (.pointer (some ⟨g, off + n.toNat * esz e, none⟩))) w := by
    intro g off len cap hp hlt
    have hlt' : n < (len : Int) := by omega
    simp [execOp, ho, hp, hn, Instr.indexAt, asIntOf, run_underlying ht, hn0, hlt', run_sizeOf_e he, add_addr]
  split at hb
  · rename_i e' f xs ex
    rw [ex] at h1
    split at hb
    · rename_i hee
      subst hee
      simp only [Option.map_eq_some_iff] at hb
      obtain ⟨z, hz, hb⟩ := hb
      injection hb with e1 e2; subst e1; subst e2
      have hlt := (List.getElem?_eq_some_iff.1 hz).1
      generalize hu : a.eval x = u at h1
      cases h1.sl_inv with
      | sl _ _ _ A cap g off uf hl hm hf hA hfit hc hr =>
        rcases hA with hA | hA
        · subst hA; simp at hlt
        subst hA
        have hzf := hfit _ z hz
        have hzr : RV E w z (uf n.toNat) := .imm (hr _ z hz)
        obtain ⟨f1, f2, f3, f4, f5⟩ := hzr.fits hzf
        refine .still hok (run g off _ _ hu hlt) (.imm (.pro _ g (off + n.toNat * esz e') (fun j => (uf n.toNat).cells.getD j undef) (fun j c hj => ?_) fun j c hj => ?_))
        · have hjl : j < (uf n.toNat).cells.size := by have := (List.getElem?_eq_some_iff.1 hj).1; omega
          have := hc _ z hz j _ (Array.getElem?_eq_getElem hjl)
          rw [← Nat.add_assoc] at this
          exact ⟨this.1, by rw [this.2]; simp [hjl]⟩
        · have hjl : j < (uf n.toNat).cells.size := by have := (List.getElem?_eq_some_iff.1 hj).1; omega
          have hz2 := hr _ z hz
          have e3 : (uf n.toNat).cells.getD j undef = (uf n.toNat).cells[j] := by simp [hjl]
          rw [e3]
          exact RI_cells hz2 hzf j c _ hj (Array.getElem?_eq_getElem hjl)
    · cases hb
  · rename_i e' b off len ex
    rw [ex] at h1
    split at hb
    · rename_i hcond
      obtain ⟨rfl, hlt⟩ := hcond
      injection hb with hb; injection hb with e1 e2; subst e1; subst e2
      obtain ⟨hke, ⟨_, _, rfl, _⟩ | ⟨g, cap, A, hg, hp, hA, hl, hc, hm⟩⟩ := h1.row_inv
      · omega
      · rcases hA with hA | ⟨_, h0⟩
        · subst hA
          refine .still hok (run g _ _ _ hp hlt) ?_
          have := RV.eptr (E := E) (w := w) b (off + n.toNat) 0 g hg
          rw [hke, Nat.add_zero, Nat.add_mul] at this
          exact this
        · omega
    · cases hb
  · rename_i e' b off len ex
    rw [ex] at h1
    split at hb
    · rename_i hcond
      obtain ⟨rfl, hlt⟩ := hcond
      injection hb with hb; injection hb with e1 e2; subst e1; subst e2
      obtain ⟨g, cap, A, hg, hp, hA, hl, hm⟩ := h1.arow_inv
      rcases hA with hA | h0
      · subst hA
        exact .still hok (run g _ _ _ hp hlt) (.ptr _ _ g hg)
      · omega
    · cases hb
  · cases hb

theorem ok_aiaddr (hok : HOK E h w) (hs : SOK E w s a) {t t1 t2 el : TypeId} {x i : Operand} {x' i' : Od} {e len : Nat} (ho : o.op = .indexAddr t x i) (ht : P.underlying t = some (.array len el)) (he : ecode P el = some e)
    (hx : od P t1 x = some x') (hi : od P t2 i = some i') {v : AV} {h' : Hp} (hb : evV s h (.aiaddr e len x' i') = some (v, h')) : Yields P o a E h.length w v h' := by
  have h1 := od_ok hs hx
  have h2 := od_ok hs hi
  simp only [evV] at hb
  split at hb
  case h_2 => cases hb
  rename_i k n en
  rw [en] at h2
  have hn := h2.int_inv
  split at hb
  case isFalse => cases hb
  rename_i hcond
  obtain ⟨hn0, hlt⟩ := hcond
  have run : ∀ g off, a.eval x = .pointer (some ⟨g, off, none⟩) → (execOp a.eval o).run P w = .ok (.value (.pointer (some ⟨g, off + n.toNat * esz e, none⟩))) w := by
    intro g off hp
    have hlt' : n < (len : Int) := by omega
    simp [execOp, ho, hp, hn, Instr.indexAt, asIntOf, run_underlying ht, hn0, hlt', run_sizeOf_e he, add_addr, Instr.sureAddr]
  split at hb
  · rename_i b off ex
    rw [ex] at h1
    obtain ⟨g, hg, hp⟩ := h1.ptr_inv
    injection hb with hb; injection hb with e1 e2; subst e1; subst e2
    exact .still hok (run _ _ hp) (.ptr _ _ g hg)
  · rename_i b j off ex
    rw [ex] at h1
    obtain ⟨g, hg, hp⟩ := h1.eptr_inv
    injection hb with hb; injection hb with e1 e2; subst e1; subst e2
    refine .still hok (run _ _ hp) ?_
    rw [Nat.add_assoc]
    exact .eptr _ _ _ g hg
  · rename_i cs ex
    rw [ex] at h1
    injection hb with hb; injection hb with e1 e2; subst e1; subst e2
    generalize hu : a.eval x = u at h1
    cases h1.pro_inv with
    | pro _ g off u hc hr =>
      refine .still hok (run _ _ hu) (.imm (.pro _ g (off + n.toNat * esz e) (fun j => u (n.toNat * esz e + j)) (fun j c hj => ?_) fun j c hj => ?_))
      · rw [List.getElem?_drop] at hj
        rw [Nat.add_assoc]
        exact hc _ c hj
      · rw [List.getElem?_drop] at hj
        exact hr _ c hj
  · cases hb

theorem ok_idx (hok : HOK E h w) (hs : SOK E w s a) {t t1 t2 el : TypeId} {x i : Operand} {x' i' : Od} {e len : Nat} (ho : o.op = .index t x i) (ht : P.underlying t = some (.array len el)) (he : ecode P el = some e)
    (hx : od P t1 x = some x') (hi : od P t2 i = some i') {v : AV} {h' : Hp} (hb : evV s h (.idx e len x' i') = some (v, h')) : Yields P o a E h.length w v h' := by
  have h1 := od_ok hs hx
  have h2 := od_ok hs hi
  simp only [evV] at hb
  split at hb
  · rename_i k n cs en ex
    rw [en] at h2
    rw [ex] at h1
    have hn := h2.int_inv
    split at hb
    · rename_i hcond
      obtain ⟨hn0, hlt⟩ := hcond
      simp only [Option.map_eq_some_iff] at hb
      obtain ⟨v', hv, hb⟩ := hb
      injection hb with e1 e2; subst e1; subst e2
      obtain ⟨us, hu, k1, k2⟩ := h1.agg_inv
      obtain ⟨u, r1, r2⟩ := run_part_e he ⟨k1, k2⟩ hv
      have hlt' : n < (len : Int) := by omega
      exact .still hok (by simp [execOp, ho, hu, hn, Instr.index, asIntOf, run_underlying ht, hn0, hlt', run_sizeOf_e he, r1]) r2
    · cases hb
  · cases hb

theorem ok_sidx (hok : HOK E h w) (hs : SOK E w s a) {t t1 t2 : TypeId} {x i : Operand} {x' i' : Od} (ho : o.op = .index t x i) (ht : P.underlying t = some .string)
    (hx : od P t1 x = some x') (hi : od P t2 i = some i') {v : AV} {h' : Hp} (hb : evV s h (.sidx x' i') = some (v, h')) : Yields P o a E h.length w v h' := by
  have h1 := od_ok hs hx
  have h2 := od_ok hs hi
  simp only [evV] at hb
  split at hb
  · rename_i k n l en ex
    rw [en] at h2
    rw [ex] at h1
    have hn := h2.int_inv
    have hx' := h1.str_inv
    split at hb
    · rename_i hn0
      simp only [Option.map_eq_some_iff] at hb
      obtain ⟨b, hv, hb⟩ := hb
      injection hb with e1 e2; subst e1; subst e2
      have hl := (List.getElem?_eq_some_iff.1 hv).1
      have hget : (⟨l.toArray⟩ : ByteArray)[n.toNat]? = some b := by
        show (if hh : n.toNat < (⟨l.toArray⟩ : ByteArray).size then some ((⟨l.toArray⟩ : ByteArray)[n.toNat]'hh) else none) = some b
        rw [dif_pos (by rw [size_mk]; exact hl)]
        rw [← hv, List.getElem?_eq_getElem hl]
        rfl
      exact .still hok (by simp [execOp, ho, hx', hn, Instr.index, asIntOf, run_underlying ht, hn0, hget]) (.imm (.int _ _))
    · cases hb
  · cases hb
end
end Go.Ab
