/-
  The abstract machine, between the twelfth and the thirteenth part: copy, clear, capacities, overlaps, texts as bytes.
-/
import Derived.Test.YtkbjimfganeooaaAb12
import Derived.Lib.Overlaps
set_option linter.unusedSimpArgs false
set_option linter.unusedVariables false
namespace Go.Ab
open Go Go.RowKit

variable {P : Program}

section
variable {E : Env} {w w' : World} {h : Hp} {s : Nat → AV} {a : Act} {o : Oper}

theorem AV.rowOf_RV {x : AV} {e b off len : Nat} (hx : x.rowOf = some (e, b, off, len)) {u : Value} (hr : RV E w x u) : RV E w (.row e b off len) u := by
  unfold AV.rowOf at hx
  split at hx
  · simp only [Option.some.injEq, Prod.mk.injEq] at hx
    obtain ⟨rfl, rfl, rfl, rfl⟩ := hx
    exact hr
  · simp only [Option.some.injEq, Prod.mk.injEq] at hx
    obtain ⟨rfl, rfl, rfl, rfl⟩ := hx
    exact hr.crow_row
  · cases hx

/-- Elements are written into a row: what the model's memory is then. -/
theorem copyTo_ok (hok : HOK E h w) {e : Nat} {x : AV} {ux : Value} (hr : RV E w x ux) {ys : List AV} {uy : Nat → Value} (hy : Els E w e ys uy) {v : AV} {h' : Hp} (hb : copyTo h e x ys = some (v, h')) :
    ∃ (A : Option Addr) (len cap : Nat) (w' : World), ux = .slice A len cap ∧ v = .int .i64 (min len ys.length : Nat) ∧ (∀ g, A = some g → (storeCells g (rowCells e uy (min len ys.length)).toList).run P w = .ok () w') ∧ (A = none → w' = w) ∧
      HOK E h' w' ∧ Ext h.length E w E w' ∧ (len = 0 → w' = w) ∧ ∃ e' b off, x.rowOf = some (e', b, off, len) := by
  unfold copyTo at hb
  split at hb
  case h_2 => cases hb
  rename_i e' b off len hx
  split at hb
  case h_2 => cases hb
  rename_i e'' xs hbk
  split at hb
  case isFalse => cases hb
  rename_i hc
  obtain ⟨rfl, rfl, hle⟩ := hc
  injection hb with hb; injection hb with q1 q2; subst q1; subst q2
  have hrow := AV.rowOf_RV hx hr
  have same : h.set b (.els e'' (overwrite xs off (ys.take 0))) = h := by
    have : overwrite xs off (ys.take 0) = xs := by simp [overwrite]
    rw [this]
    exact List.ext_getElem? fun i => by
      by_cases hi : i = b
      · subst hi; rw [getElem?_set_self' hbk, hbk]
      · rw [List.getElem?_set_ne (Ne.symm hi)]
  have nothing : ∀ A : Option Addr, len = 0 → HOK E (h.set b (.els e'' (overwrite xs off (ys.take len)))) w ∧ ∀ g, A = some g → (storeCells g (rowCells e'' uy (min len ys.length)).toList).run P w = .ok () w := fun A h0 => by
    subst h0
    refine ⟨by rw [same]; exact hok, fun g _ => by simp [rowCells, storeCells]⟩
  obtain ⟨hke, ⟨h0, rfl, rfl, A, rfl⟩ | ⟨g, cap, A, hg, rfl, hA, hl, hcc, hm⟩⟩ := hrow.row_inv
  · obtain ⟨n1, n2⟩ := nothing A rfl
    exact ⟨A, 0, 0, w, rfl, rfl, n2, fun _ => rfl, n1, Ext.refl _ _ _, fun _ => rfl, _, _, _, hx⟩
  · by_cases h0 : len = 0
    · obtain ⟨n1, n2⟩ := nothing A h0
      exact ⟨A, len, cap, w, rfl, rfl, n2, fun _ => rfl, n1, Ext.refl _ _ _, fun _ => rfl, _, _, _, hx⟩
    · have hA : A = some ⟨g, off * esz e'', none⟩ := by
        rcases hA with hA | ⟨_, hA⟩
        · exact hA
        · exact absurd hA h0
      subst hA
      have hca : xs.length ≤ E.ca b := by
        obtain ⟨_, ⟨k0, _⟩ | ⟨_, _, _, _, _, _, _, _, k, _⟩⟩ := hok.blocks b _ hbk
        · rw [hg] at k0; cases k0
        · exact k
      have hy' : Els E w e'' (ys.take len) uy := fun i y hi => by
        rw [List.getElem?_take] at hi
        split at hi
        · exact hy i y hi
        · cases hi
      have htl : (ys.take len).length = min len ys.length := List.length_take
      obtain ⟨w', r1, r2, r3⟩ := write_row (P := P) hok (off := off) hbk hg (by omega) (by rw [htl]; omega) hy'
      rw [htl] at r1
      exact ⟨_, len, cap, w', rfl, rfl, fun g' hg' => (by injection hg' with hg'; subst hg'; exact r1), fun h => (by cases h), r2, r3, fun h => absurd h h0, _, _, _, hx⟩

/-- The first elements of what is copied from, as the model reads them. -/
theorem cut_src (hok : HOK E h w) {e len : Nat} {y : AV} {u : Value} {ys : List AV} (hr : RV E w y u) (hs : srcElems e h (y.cut len) = some ys) : ∃ m uy, (∀ w' : World, (Builtin.lenOf u).run P w' = .ok m w') ∧ True ∧ Els E w e ys uy ∧ min len m = min len ys.length ∧
    ∀ n, n ≤ ys.length → ∀ w' : World, (∀ x, w'.cell? x = w.cell? x) → (Builtin.firstCells (esz e) n u).run P w' = .ok (rowCells e uy n) w' := by
  have rows : ∀ e' b off l, RV E w (.row e' b off l) u → srcElems e h (.row e' b off (min len l)) = some ys → ∃ m uy, (∀ w' : World, (Builtin.lenOf u).run P w' = .ok m w') ∧ True ∧ Els E w e ys uy ∧ min len m = min len ys.length ∧
      ∀ n, n ≤ ys.length → ∀ w' : World, (∀ x, w'.cell? x = w.cell? x) → (Builtin.firstCells (esz e) n u).run P w' = .ok (rowCells e uy n) w' := fun e' b off l hr hs => by
    have hyl : ys.length = min len l := by
      simp only [srcElems] at hs
      split at hs
      case h_2 => cases hs
      split at hs
      case isFalse => cases hs
      rename_i hc
      injection hs with hs
      rw [← hs, List.length_take, List.length_drop]
      omega
    obtain ⟨hke, ⟨h0, rfl, rfl, A, rfl⟩ | ⟨g, cap, A, hg, rfl, hA, hl, hc, hm⟩⟩ := hr.row_inv
    · rw [Nat.min_zero] at hs hyl
      obtain ⟨uf, hsrc⟩ := srcElems_ok (P := P) (u := .slice A 0 0) hok (.row0 e' b A h0 hke) hs
      exact ⟨0, uf, fun w' => by simp [Builtin.lenOf], trivial, hsrc.el, by rw [hyl], hsrc.readn⟩
    · have hr2 : RV E w (.row e' b off (min len l)) (.slice A (min len l) cap) := .row e' b off _ g cap A hg hke (hA.imp id fun h => ⟨h.1, by omega⟩) (by omega) hc hm
      obtain ⟨uf, hsrc⟩ := srcElems_ok (P := P) hok hr2 hs
      refine ⟨l, uf, fun w' => by simp [Builtin.lenOf], trivial, hsrc.el, by rw [hyl]; omega, fun n hn w' hw => ?_⟩
      have := hsrc.readn n hn w' hw
      cases A <;> exact this
  unfold AV.cut at hs
  split at hs
  · exact rows _ _ _ _ hr hs
  · exact rows _ _ _ _ hr.crow_row hs
  · obtain ⟨uf, hsrc⟩ := srcElems_ok (P := P) hok hr hs
    exact ⟨ys.length, uf, hsrc.len, trivial, hsrc.el, rfl, hsrc.readn⟩

theorem ok_copy (hok : HOK E h w) (hs : SOK E w s a) {t u el t1 t2 : TypeId} {x y : Operand} {x' y' : Od} {e : Nat} {ts : Array TypeId} {args : Array Operand} {tl : List TypeId} (ho : o.op = .call { callee := .builtin .copy, args := args, argTypes := ts }) (hargs : args.toList = [x, y]) (hts : ts.toList = t :: u :: tl)
    (ht : P.underlying t = some (.slice el)) (he : ecode P el = some e) (hx : od P t1 x = some x') (hy : od P t2 y = some y') {v : AV} {h' : Hp} (hb : evV s h (.copy e x' y') = some (v, h')) : Yields P o a E h.length w v h' := by
  have h1 := od_ok hs hx
  have h2 := od_ok hs hy
  simp only [evV] at hb
  have hargs' : args = #[x, y] := by rw [← hargs]
  subst hargs'
  have hts0 : ts[0]? = some t := by rw [← Array.getElem?_toList, hts]; rfl
  split at hb
  case h_2 => cases hb
  rename_i e0 b0 off0 len0 hx0
  split at hb
  case h_2 => cases hb
  rename_i ys hys
  obtain ⟨m, uy, hml, hmr, hel, hmin0, hread0⟩ := cut_src (P := P) hok h2 hys
  obtain ⟨A, len, cap, w', hu, rfl, hst, hnone, k1, k2, _, e1, b1, off1, hx1⟩ := copyTo_ok (P := P) hok h1 hel hb
  rw [hx0] at hx1
  simp only [Option.some.injEq, Prod.mk.injEq] at hx1
  obtain ⟨_, _, _, rfl⟩ := hx1
  obtain ⟨inf, q1, q2⟩ := ecode_info he
  have hmin : Nat.min m len0 = min len0 ys.length := by rw [← hmin0]; exact Nat.min_comm _ _
  have hread := hread0 (min len0 ys.length) (Nat.min_le_right _ _) w fun _ => rfl
  refine ⟨.int .i64 (min len0 ys.length : Nat), w', E, _, ?_, .inl rfl, k1, k2, .imm (.int _ _)⟩
  cases A with
  | none =>
    rw [hnone rfl]
    simp [execOp, ho, resolve, invoke, builtin, Builtin.copy_, hts0, run_underlying ht, hu, hml, sizeOf, typeInfo, q1, q2, hmin, hread, goInt]
  | some g =>
    simp [execOp, ho, resolve, invoke, builtin, Builtin.copy_, hts0, run_underlying ht, hu, hml, sizeOf, typeInfo, q1, q2, hmin, hread, hst g rfl, goInt]

theorem ok_clear (hok : HOK E h w) (hs : SOK E w s a) {t el t1 : TypeId} {x : Operand} {x' : Od} {e : Nat} {z : AV} {ts : Array TypeId} {args : Array Operand} {tl : List TypeId} (ho : o.op = .call { callee := .builtin .clear, args := args, argTypes := ts }) (hargs : args.toList = [x]) (hts : ts.toList = t :: tl)
    (ht : P.underlying t = some (.slice el)) (he : ecode P el = some e) (hz : zeroE P el = some z) (hx : od P t1 x = some x') {v : AV} {h' : Hp} (hb : evV s h (.clear e z x') = some (v, h')) : Yields P o a E h.length w v h' := by
  have h1 := od_ok hs hx
  simp only [evV] at hb
  have hargs' : args = #[x] := by rw [← hargs]
  subst hargs'
  have hts0 : ts[0]? = some t := by rw [← Array.getElem?_toList, hts]; rfl
  split at hb
  case h_2 => cases hb
  rename_i e0 b0 off0 len hx0
  simp only [Option.map_eq_some_iff] at hb
  obtain ⟨⟨v0, h0⟩, hb, hv⟩ := hb
  injection hv with e1 e2; subst e1; subst e2
  obtain ⟨zv, q1, q2, q3, q4⟩ := zeroE_ok he hz
  have hel : Els E w e (List.replicate len z) (fun _ => zv) := fun i y hy => by
    obtain ⟨_, rfl⟩ := List.mem_replicate.1 (List.mem_of_getElem? hy)
    exact ⟨q3, q2 _ _, q4⟩
  obtain ⟨A, len', cap, w', hu, _, hst, hnone, k1, k2, hzero, e', b', off', hx1⟩ := copyTo_ok (P := P) hok h1 hel hb
  rw [hx0] at hx1
  simp only [Option.some.injEq, Prod.mk.injEq] at hx1
  obtain ⟨_, _, _, rfl⟩ := hx1
  rw [List.length_replicate, Nat.min_self] at hst
  refine ⟨.tuple #[], w', E, _, ?_, .inl rfl, k1, k2, .junk _⟩
  have hcells := zeroCells_row (e := e) q4 len
  cases A with
  | none =>
    rw [hnone rfl]
    simp [execOp, ho, resolve, invoke, builtin, Builtin.clear_, hts0, run_underlying ht, hu]
  | some g =>
    cases len with
    | zero =>
      rw [hzero rfl]
      simp [execOp, ho, resolve, invoke, builtin, Builtin.clear_, hts0, run_underlying ht, hu]
    | succ n =>
      simp [execOp, ho, resolve, invoke, builtin, Builtin.clear_, hts0, run_underlying ht, hu, q1, hcells, hst g rfl]

theorem ok_cap (hok : HOK E h w) (hs : SOK E w s a) {t el t1 : TypeId} {x : Operand} {x' : Od} {ts : Array TypeId} {args : Array Operand} {tl : List TypeId} (ho : o.op = .call { callee := .builtin .cap, args := args, argTypes := ts }) (hargs : args.toList = [x]) (hts : ts.toList = t :: tl)
    (ht : P.underlying t = some (.slice el)) (hx : od P t1 x = some x') {v : AV} {h' : Hp} (hb : evV s h (.cap x') = some (v, h')) : Yields P o a E h.length w v h' := by
  have h1 := od_ok hs hx
  simp only [evV] at hb
  have hargs' : args = #[x] := by rw [← hargs]
  subst hargs'
  have hts0 : ts[0]? = some t := by rw [← Array.getElem?_toList, hts]; rfl
  have run : ∀ A n c, a.eval x = .slice A n c → (execOp a.eval o).run P w = .ok (.value (.int .i64 c)) w := fun A n c hu => by
    simp [execOp, ho, resolve, invoke, builtin, Builtin.cap_, hts0, run_underlying ht, hu, goInt]
  split at hb
  · rename_i e xs ex
    rw [ex] at h1
    injection hb with hb; injection hb with e1 e2; subst e1; subst e2
    generalize hu : a.eval x = u at h1
    cases h1.sl_inv with
    | sl _ _ _ A cap g off uf hl hm hf hA hfit hc hr =>
      have hcap := hf rfl
      subst hcap
      exact .still hok (run _ _ _ hu) (.imm (.int _ _))
  · rename_i e b off len c ex
    rw [ex] at h1
    injection hb with hb; injection hb with e1 e2; subst e1; subst e2
    obtain ⟨_, ⟨_, _, _, rfl, A, hp⟩ | ⟨g, A, _, hp, _⟩⟩ := h1.crow_inv <;> exact .still hok (run _ _ _ hp) (.imm (.int _ _))
  · cases hb

theorem ok_ovl (hok : HOK E h w) (hs : SOK E w s a) {f : Od} {x y fo : Operand} {x' y' : Od} {t1 t2 tf : TypeId} {ts : Array TypeId} {args : Array Operand} (ho : o.op = .call { callee := .value fo, args := args, argTypes := ts }) (hargs : args.toList = [x, y])
    (hf : od P tf fo = some f) (hov : ovlF P f = true) (hx : od P t1 x = some x') (hy : od P t2 y = some y') {v : AV} {h' : Hp} (hb : evV s h (.ovl x' y') = some (v, h')) : Yields P o a E h.length w v h' := by
  have h1 := od_ok hs hx
  have h2 := od_ok hs hy
  have h3 := od_ok hs hf
  have hargs' : args = #[x, y] := by rw [← hargs]
  subst hargs'
  simp only [evV] at hb
  split at hb
  case h_2 => cases hb
  rename_i e x0 xs e' b off len ex ey
  split at hb
  case h_2 => cases hb
  rename_i e'' zs hbk
  injection hb with hb; injection hb with e1 e2; subst e1; subst e2
  unfold ovlF at hov
  split at hov
  case h_2 => cases hov
  rename_i k
  split at hov
  case h_2 => cases hov
  rename_i fn hfn
  simp only [Bool.and_eq_true, beq_iff_eq, bne_iff_ne, ne_eq] at hov
  obtain ⟨c1, c2, c3, c4, c5, c6, c7, c8⟩ := hov
  split at c8
  case h_2 => cases c8
  rename_i t t' tr hp0 hr0
  simp only [Bool.and_eq_true, beq_iff_eq] at c8
  obtain ⟨rfl, c8⟩ := c8
  split at c8
  case h_2 => cases c8
  rename_i el ht
  obtain ⟨kk, he⟩ := Option.isSome_iff_exists.1 c8
  have hp1 : fn.params = #[t, t] := by rw [← hp0]
  have hr1 : fn.resultTypes = #[tr] := by rw [← hr0]
  obtain ⟨us, hu, hus, _⟩ := h3.fn_inv
  have hus : us = #[] := Array.eq_empty_of_size_eq_zero (by simpa using hus)
  subst hus
  have n1 : Extern.allNextRows.lookup fn.name = none := by simpa using c4
  have n2 : Extern.allNextRows.lookup "slices.overlaps" = none := by rfl
  have n3 : Extern.allGenericRows.lookup fn.name = none := by simpa using c5
  have n4 : Extern.allTypedRows.lookup fn.name = none := by simpa using c6
  have n5 : Extern.allRows.lookup fn.name = none := by simpa using c7
  have n6 : Extern.allGenericRows.lookup "slices.overlaps" = none := by rfl
  have n7 : Extern.allTypedRows.lookup "slices.overlaps" = some Extern.SlicesOverlaps.overlaps := by rfl
  have hfind : Extern.find fn = some (Extern.SlicesOverlaps.overlaps #[t, t] #[tr]) := by
    simp [Extern.find, n3, n4, n5, c2, n6, n7, hp1, hr1]
  have hnext : Extern.findNext fn = none := by
    simp [Extern.findNext, n1, c2, n2]
  rw [ex] at h1
  have hrow := AV.rowOf_RV ey h2
  generalize hux : a.eval x = ux at h1
  generalize huy : a.eval y = uy at hrow
  have key : ∃ A la ca B lb cb, ux = .slice A la ca ∧ uy = .slice B lb cb ∧ (Extern.SlicesOverlaps.overlaps #[t, t] #[tr] #[.slice A la ca, .slice B lb cb]).run P w = .ok (.bool false) w := by
    cases h1.sl_inv with
    | sl _ _ _ A cap g o uf hl hm hfl hA hfit hc hr hn =>
      rcases hA with hA | hA
      · cases hA
      subst hA
      obtain ⟨c0, hc0⟩ := (hr 0 x0 rfl).cell0 (hfit 0 x0 rfl)
      obtain ⟨s1, s2⟩ := hc 0 x0 rfl 0 c0 hc0
      have hsh : ∃ t n, w.shape? g = some (t, n) := by
        unfold World.cell? at s2
        unfold World.shape?
        split at s2
        · rename_i hg
          rw [hg]
          exact ⟨_, _, rfl⟩
        · cases s2
      obtain ⟨tA, kA, hsh⟩ := hsh
      obtain ⟨hke, ⟨h0, _, hl0, B, rfl⟩ | ⟨g', cap', B, hg, rfl, hB, hlc, hcc, hm'⟩⟩ := hrow.row_inv
      · cases hl0
      have hown := hok.own b _ g' hbk trivial hg
      rcases hB with hB | ⟨_, hB⟩
      · subst hB
        obtain ⟨_, ⟨k0, _⟩ | ⟨g'', vals, t', fz, k1, k2, k2', k3, k4, k5, k6, k7⟩⟩ := hok.blocks b _ hbk
        · rw [k0] at hg; cases hg
        rw [hg] at k1; injection k1 with k1; injection k1 with k1; subst k1
        refine ⟨_, _, _, _, _, _, rfl, rfl, Lib.run_overlaps_apart w t tr el ht (esz kk) (run_sizeOf_e he) _ _ _ _ _ _ (fun e => hown.2.2 _ (by
          have : g = g' := e
          rw [← this]; exact s1)) tA t' kA vals.size hsh (by simp [World.shape?, k2]) ?_ (hn rfl (by simp) _) (hn rfl (by simp) _)⟩
        rw [k3]
        have := Nat.mul_pos (show 0 < E.ca b by omega) (esz_pos e'')
        omega
      · cases hB
  obtain ⟨A, la, ca, B, lb, cb, rfl, rfl, hrun⟩ := key
  refine .still hok (u := .bool false) ?_ (.imm (.bool _))
  have hcall := run_callFunc_extern hfn (by simpa using c3) c1 hnext hfind #[.slice A la ca, .slice B lb cb] w
  simp [execOp, ho, resolve, Deferred.ofValue, hu, invoke, hux, huy, hcall, hrun]

theorem bytes_row (t : List UInt8) (n : Nat) : (t.map fun b => (Value.int .u8 (b.toNat : Int))).toArray ++ Array.replicate n (Value.int .u8 0) = rowCells 0 (fun i => .int .u8 ((t.getD i 0).toNat : Int)) (t.length + n) := by
  refine Array.ext_getElem? fun i => ?_
  simp only [rowCells, esz_zero, Nat.mul_one, Nat.div_one, Nat.mod_one]
  by_cases h1 : i < t.length
  · rw [Array.getElem?_append_left (by simpa using h1)]
    simp [h1, Value.cells, show i < t.length + n by omega]
  · rw [Array.getElem?_append_right (by simp; omega)]
    by_cases h2 : i < t.length + n
    · simp [h2, Value.cells, List.getElem?_eq_none (show t.length ≤ i by omega), show i - t.length < n by omega]
    · simp [h2, show ¬ i - t.length < n by omega]

theorem ok_cbytes (hok : HOK E h w) (hs : SOK E w s a) {src dst t1 el : TypeId} {x : Operand} {x' : Od} (ho : o.op = .convert src dst x) (hsrc : P.underlying src = some .string) (hdst : P.underlying dst = some (.slice el)) (hel : P.underlying el = some (.int .u8)) (he : ecode P el = some 0)
    (hx : od P t1 x = some x') {v : AV} {h' : Hp} (hb : evV s h (.cbytes x') = some (v, h')) : Yields P o a E h.length w v h' := by
  have hv := od_ok hs hx
  simp only [evV] at hb
  split at hb
  case h_2 => cases hb
  rename_i t ht
  split at hb
  case isFalse => cases hb
  rename_i hlen
  injection hb with hb; injection hb with e1 e2; subst e1; subst e2
  rw [ht] at hv
  have hu := hv.str_inv
  have hroom : t.length ≤ maxLen := Nat.le_trans hlen (by decide)
  have hc1 := grownCap_ge w t.length 0 el
  have hc2 := grownCap_le_maxLen w t.length 0 el hroom
  generalize hc : grownCap w t.length 0 el = c at hc1 hc2
  let vals : Array Value := (t.map fun b => (Value.int .u8 (b.toNat : Int))).toArray ++ Array.replicate (c - t.length) (Value.int .u8 0)
  have hsz : vals.size = c := by simp [vals]; omega
  let w1 : World := w.drew.alloc (.cells vals el)
  let w2 : World := w1.freeze ⟨w.heap.size, c, none⟩ 1
  have hnew : w1.heap[w.heap.size]? = some (.cells vals el (0, 0)) := heap_alloc_new w.drew _
  have hnew2 : w2.heap[w.heap.size]? = some (.cells vals el (c, c + 1)) := by
    simp only [w2, World.freeze, Nat.one_ne_zero, if_false, Array.getElem?_modify, if_true, hnew, Option.map_some]
    simp
  have hold2 : ∀ k, k ≠ w.heap.size → w2.heap[k]? = w1.heap[k]? := fun k hk => by
    simp only [w2, World.freeze, Nat.one_ne_zero, if_false, Array.getElem?_modify, if_neg (Ne.symm hk)]
  have hsize2 : w2.heap.size = w1.heap.size := by simp [w2, World.freeze]
  have hsize1 : w1.heap.size = w.heap.size + 1 := by simp [w1]
  have hm : More w w2 := by
    refine ⟨rfl, rfl, rfl, by omega, fun k hk => ?_, fun p hp => ?_⟩
    · rw [hold2 k (by omega)]; exact Below.heap_alloc w.drew _ _ hk
    · refine World.frozen?_of_block ?_
      rw [hold2 _ (by omega)]; exact Below.heap_alloc w.drew _ _ hp
  have hext := hok.ext_more hm (some w.heap.size) 0 c
  have hshape : w1.shape? w.heap.size = some (el, c) := by simp [World.shape?, hnew, hsz]
  have hrun : (execOp a.eval o).run P w = .ok (.value (.slice (some ⟨w.heap.size, 0, none⟩) t.length c)) w2 := by
    have hdata : (⟨t.toArray⟩ : ByteArray).data = t.toArray := rfl
    have e1 : (convert src dst (.string ⟨t.toArray⟩)).run P w = .ok (.slice (some ⟨w.heap.size, 0, none⟩) t.length c) w2 := by
      simp only [convert, run_underlying hsrc, run_underlying hdst, run_underlying hel, Sem.run_bind, Result.andThen_ok]
      simp only [grownCap] at hc
      simp [Conv.stringToBytes, newRow, markStringish, Question.forced, size_mk, hc]
      have hs1 : World.shape? (w.drew.alloc (.cells ((t.map fun b => (Value.int .u8 (b.toNat : Int))).toArray ++ Array.replicate (c - t.length) (Value.int .u8 0)) el)) w.heap.size = some (el, c) := hshape
      rw [hs1]
      simp only [Go.freeze, Sem.run, Result.andThen]
      rfl
    simp only [execOp, ho, hu, Sem.run_bind, e1, Result.andThen_ok, Sem.run_pure]
  refine ⟨_, w2, E.push h.length (some w.heap.size) 0 c, _, hrun, .inl rfl, ?_, hext, .row 0 h.length 0 _ w.heap.size c _ (by simp) (by simp) (.inl (by simp)) hc1 (by simp) (by simpa using hc2)⟩
  refine hok.push hm _ _ _ _ ⟨by simp, .inr ⟨w.heap.size, vals, el, _, by simp, hnew2, fun o ho => by omega, by simpa using hsz, by simp [byteCells]; exact hc1, by simpa using hc2, ?_, fun i y hy => ?_⟩⟩ (fun g hg => by injection hg with hg; subst hg; exact ⟨Nat.le_refl _, by omega⟩)
  · simp [byteCells]; omega
  · have hi : i < t.length := by have := (List.getElem?_eq_some_iff.1 hy).1; simpa [byteCells] using this
    have hyv : y = .int .u8 ((t[i]).toNat : Int) := by
      simp [byteCells, hi] at hy
      exact hy.symm
    subst hyv
    refine ⟨by simp [Shape, Ok1, AV.one], .int .u8 ((t[i]).toNat : Int), .imm (.int _ _), rfl, fun j cc hj => ?_⟩
    have hj0 : j = 0 := by
      have := (Array.getElem?_eq_some_iff.1 hj).1
      simp [Value.cells] at this
      exact this
    subst hj0
    simp [Value.cells] at hj
    subst hj
    simp only [esz_zero, Nat.mul_one, Nat.add_zero, vals]
    rw [Array.getElem?_append_left (by simpa using hi)]
    simp [hi]
end
end Go.Ab
