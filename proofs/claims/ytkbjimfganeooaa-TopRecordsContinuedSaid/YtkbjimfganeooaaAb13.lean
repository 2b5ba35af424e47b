/-
  The abstract machine, thirteenth part: every operation that is no call does what the abstract machine says.
-/
import Derived.Test.YtkbjimfganeooaaAb36
set_option linter.unusedSimpArgs false
set_option linter.unusedVariables false
namespace Go.Ab
open Go Go.RowKit

variable {P : Program}

section
variable {E : Env} {w : World} {h : Hp} {s : Nat → AV} {a : Act} {o : Oper}

theorem map_some' {α β : Type} {f : α → β} {x : Option α} {y : β} (h : x.map f = some y) : ∃ z, x = some z ∧ f z = y := Option.map_eq_some_iff.1 h

theorem array_one {α : Type} {as : Array α} {x : α} (h : as.toList = [x]) : as = #[x] := by rw [← h]

theorem array_head {α : Type} {as : Array α} {x : α} {l : List α} (h : as.toList = x :: l) : as[0]? = some x := by
  rw [← Array.getElem?_toList, h]; rfl

theorem bin_ok (hok : HOK E h w) (hs : SOK E w s a) {op : BinOp} {t yt : TypeId} {x y : Operand} (ho : o.op = .binOp op t x y yt) {p : Op1} (hc : compBin P op t x y yt = some p) {v : AV} {h' : Hp} (hb : evV s h p = some (v, h')) :
    Yields P o a E h.length w v h' := by
  unfold compBin at hc
  split at hc
  case h_2 => cases hc
  rename_i x' y' hx hy
  split at hc
  · injection hc with hc; subst hc; exact ok_bin hok hs ho hx hy hb
  · injection hc with hc; subst hc; exact ok_bin hok hs ho hx hy hb
  · rename_i ht
    injection hc with hc; subst hc; exact ok_binb hok hs ho hx hy ht hb
  · split at hc
    · rename_i hk
      injection hc with hc; subst hc
      exact ok_eqs (neg := false) hok hs (by simpa using ho) hx hy hk hb
    · rename_i hk
      injection hc with hc; subst hc
      exact ok_eqs (neg := true) hok hs (by simpa using ho) hx hy hk hb
    · cases hc
  · rename_i el ht
    split at hc
    · injection hc with hc; subst hc
      exact ok_eqp (neg := false) hok hs (by simpa using ho) hx hy ht hb
    · injection hc with hc; subst hc
      exact ok_eqp (neg := true) hok hs (by simpa using ho) hx hy ht hb
    · cases hc
  · split at hc
    · injection hc with hc; subst hc; cases hb
    · injection hc with hc; subst hc; cases hb
    · cases hc
  · cases hc

theorem conv_ok (hok : HOK E h w) (hs : SOK E w s a) {src dst : TypeId} {x : Operand} (ho : o.op = .convert src dst x) {p : Op1} (hc : compConv P src dst x = some p) {v : AV} {h' : Hp} (hb : evV s h p = some (v, h')) :
    Yields P o a E h.length w v h' := by
  unfold compConv at hc
  split at hc
  case h_2 => cases hc
  rename_i x' hx
  split at hc
  · rename_i hsrc hdst
    injection hc with hc; subst hc; exact ok_cint hok hs ho hsrc hdst hx hb
  · rename_i hsrc hdst
    injection hc with hc; subst hc
    simp only [evV] at hb
    split at hb
    case h_2 => cases hb
    rename_i t ht
    simp only [bounds] at hb
    simp at hb
    obtain ⟨e1, e2⟩ := hb
    subst e1; subst e2
    rw [← ht]
    exact ok_idconv hok hs ho hsrc hdst hx ht
  · rename_i el hsrc hdst
    split at hc
    · rename_i hel
      injection hc with hc; subst hc
      exact ok_cstr hok hs ho hsrc hel hdst hx hb
    · cases hc
  · rename_i el hsrc hdst
    split at hc
    · rename_i hel he
      injection hc with hc; subst hc
      exact ok_cbytes hok hs ho hsrc hdst hel he hx hb
    · cases hc
  · cases hc

theorem builtin_ok (hok : HOK E h w) (hs : SOK E w s a) {c : Call} (ho : o.op = .call c) {p : Op1} (hc : compCall P o.type c = some p) {v : AV} {h' : Hp} (hb : evV s h p = some (v, h')) :
    Yields P o a E h.length w v h' := by
  obtain ⟨cal, args, ts⟩ := c
  unfold compCall at hc
  dsimp only at hc
  split at hc
  · split at hc
    · rename_i fo f as hf has
      split at hc
      · rename_i x' y' t1 t2 hov hts
        injection hc with hc; subst hc
        rw [hts] at has
        have hl := (ods_ok hs has).1
        obtain ⟨x, y, hargs⟩ : ∃ x y, args.toList = [x, y] := by
          match h : args.toList with
          | [x, y] => exact ⟨x, y, rfl⟩
          | [] => rw [h] at hl; cases hl
          | [_] => rw [h] at hl; cases hl
          | _ :: _ :: _ :: _ => rw [h] at hl; simp at hl
        rw [hargs] at has
        simp only [ods] at has
        split at has
        case h_2 => cases has
        rename_i x1 l1 hx hl1
        injection has with has; injection has with e1 e2; subst e1; subst e2
        split at hl1
        case h_2 => cases hl1
        rename_i y1 l2 hy hl2
        injection hl1 with hl1; injection hl1 with e1 e2; subst e1; subst e2
        exact ok_ovl hok hs ho hargs hf hov hx hy hb
      · injection hc with hc; subst hc; cases hb
    · cases hc
  · cases hc
  rename_i b
  split at hc
  · rename_i t l x hts hargs
    have hargs := array_one hargs
    subst hargs
    have hts := array_head hts
    split at hc
    · rename_i n el ht
      injection hc with hc; subst hc
      simp only [evV] at hb
      injection hb with hb; injection hb with e1 e2; subst e1; subst e2
      exact ok_alen hok ho hts ht
    · rename_i ht
      obtain ⟨x', hx, hc⟩ := map_some' hc; subst hc
      exact ok_len hok hs ho hts (.inl ⟨rfl, ht⟩) hx hb
    · rename_i el ht
      obtain ⟨x', hx, hc⟩ := map_some' hc; subst hc
      exact ok_len hok hs ho hts (.inr (.inl ⟨rfl, el, ht⟩)) hx hb
    · rename_i k el ht
      obtain ⟨x', hx, hc⟩ := map_some' hc; subst hc
      exact ok_len hok hs ho hts (.inr (.inr ⟨rfl, k, el, ht⟩)) hx hb
    · cases hc
  · rename_i t u x y hts hargs
    split at hc
    case h_2 => cases hc
    rename_i el ht
    split at hc
    case h_4 => cases hc
    · rename_i k i z x' y' el' he hi hz hx hy hu
      split at hc
      case isFalse => cases hc
      rename_i hzs
      injection hc with hc; subst hc
      have hz' : i.zero = some z := by simpa [hi] using hz
      exact ok_append hok hs ho hargs hts ht he hi hz' hzs (.inl ⟨_, hu⟩) hx hy hb
    · rename_i k i z x' y' he hi hz hx hy hu
      split at hc
      case isFalse => cases hc
      rename_i hzs
      injection hc with hc; subst hc
      have hz' : i.zero = some z := by simpa [hi] using hz
      exact ok_append hok hs ho hargs hts ht he hi hz' hzs (.inr hu) hx hy hb
    · rename_i k i z x' y' ik he hi hz hx hy hu
      split at hc
      case h_2 => cases hc
      rename_i z' hz0
      split at hc
      case isFalse => cases hc
      rename_i hzs
      injection hc with hc; subst hc
      have hz' : i.zero = some z := by simpa [hi] using hz
      exact ok_appz hok hs ho hargs hts ht he hi hz' hzs hz0 hu hx hy hb
  · rename_i t tl x hts hargs
    split at hc
    case h_2 => cases hc
    rename_i el ht
    obtain ⟨x', hx, hc⟩ := map_some' hc; subst hc
    exact ok_cap hok hs ho hargs hts ht hx hb
  · rename_i t u tl x y hts hargs
    split at hc
    case h_2 => cases hc
    rename_i el ht
    split at hc
    case h_2 => cases hc
    rename_i k x' y' he hx hy
    injection hc with hc; subst hc
    exact ok_copy hok hs ho hargs hts ht he hx hy hb
  · rename_i t tl x hts hargs
    split at hc
    case h_2 => cases hc
    rename_i el ht
    split at hc
    case h_2 => cases hc
    rename_i k z x' he hz hx
    injection hc with hc; subst hc
    exact ok_clear hok hs ho hargs hts ht he hz hx hb
  · rename_i x xs hargs
    split at hc
    case h_2 => cases hc
    rename_i x' xs' hx hxs
    injection hc with hc; subst hc
    exact ok_maxmin (mx := true) hok hs (by simpa using ho) hargs hx hxs hb
  · rename_i x xs hargs
    split at hc
    case h_2 => cases hc
    rename_i x' xs' hx hxs
    injection hc with hc; subst hc
    exact ok_maxmin (mx := false) hok hs (by simpa using ho) hargs hx hxs hb
  · cases hc

theorem compO_ok (hok : HOK E h w) (hs : SOK E w s a) {p : Op1} (hc : compO P o = some p) {v : AV} {h' : Hp} (hb : evV s h p = some (v, h')) : Yields P o a E h.length w v h' := by
  replace hc : compO1 P o = some p := by
    simp only [compO, Option.some.injEq] at hc
    cases h1 : compO1 P o with
    | none => rw [h1] at hc; subst hc; cases hb
    | some q => rw [h1] at hc; exact congrArg some hc
  unfold compO1 at hc
  split at hc
  · rename_i x ho
    obtain ⟨x', hx, hc⟩ := map_some' hc; subst hc
    simp only [evV] at hb
    injection hb with hb; injection hb with e1 e2; subst e1; subst e2
    exact ok_mv hok hs (.inl ho) hx
  · rename_i x ho
    obtain ⟨x', hx, hc⟩ := map_some' hc; subst hc
    simp only [evV] at hb
    injection hb with hb; injection hb with e1 e2; subst e1; subst e2
    exact ok_mv hok hs (.inr ho) hx
  · rename_i c x y ho
    split at hc
    case h_2 => cases hc
    rename_i c' x' y' hc' hx hy
    injection hc with hc; subst hc
    simp only [evV] at hb
    split at hb
    case h_2 => cases hb
    rename_i t ht
    injection hb with hb; injection hb with e1 e2; subst e1; subst e2
    exact ok_pick hok hs ho hc' hx hy ht
  · rename_i t ho
    obtain ⟨z, hz, hc⟩ := map_some' hc; subst hc
    exact ok_alloc hok ho hz hb
  · rename_i t x ho
    obtain ⟨x', hx, hc⟩ := map_some' hc; subst hc
    exact ok_box hok hs ho hx hb
  · rename_i t ps ho
    split at hc
    · rename_i z fs hz ht
      split at hc
      case isFalse => cases hc
      rename_i hf
      obtain ⟨qs, hq, hc⟩ := map_some' hc; subst hc
      exact ok_buildS hok hs ho hz ht hf hq hb
    · rename_i z n el hz ht
      split at hc
      case h_2 => cases hc
      rename_i e he
      obtain ⟨qs, hq, hc⟩ := map_some' hc; subst hc
      exact ok_buildA hok hs ho hz ht he hq hb
    · cases hc
  · rename_i t n ps ho
    split at hc
    case h_2 => cases hc
    rename_i el ht
    split at hc
    case h_2 => cases hc
    rename_i e z he hz
    split at hc
    case isFalse => cases hc
    rename_i hn
    obtain ⟨qs, hq, hc⟩ := map_some' hc; subst hc
    refine ok_mksl hok hs ho ht he hz hn hq ?_
    split at hb
    · simp only [evV] at hb ⊢
      split at hb
      case h_2 => cases hb
      rename_i xs hxs
      split at hb
      case isFalse => cases hb
      rename_i hpl
      injection hb with hb; injection hb with e1 e2; subst e1; subst e2
      simp [freeze, hpl]
    · exact hb
  · rename_i t x ho
    split at hc
    case h_2 => cases hc
    rename_i e x' he hx
    injection hc with hc; subst hc
    exact ok_load hok hs ho he hx hb
  · rename_i t x y ho
    split at hc
    case h_2 => cases hc
    rename_i e x' y' he hx hy
    injection hc with hc; subst hc
    exact ok_store hok hs ho he hx hy hb
  · rename_i x ho
    obtain ⟨x', hx, hc⟩ := map_some' hc; subst hc
    exact ok_nilchk hok hs ho hx hb
  · rename_i op t x y yt ho
    exact bin_ok hok hs ho hc hb
  · rename_i op t x ho
    obtain ⟨x', hx, hc⟩ := map_some' hc; subst hc
    exact ok_un hok hs ho hx hb
  · rename_i src dst x ho
    exact conv_ok hok hs ho hc hb
  · rename_i f first caps ho
    split at hc
    case isFalse => cases hc
    rename_i hf
    obtain ⟨ys, hy, hc⟩ := map_some' hc; subst hc
    simp only [evV] at hb
    injection hb with hb; injection hb with e1 e2; subst e1; subst e2
    exact ok_mkfn hok hs ho hf hy
  · rename_i t x lo hi ho
    split at hc
    · rename_i el lo' hi' ht hlo hhi
      split at hc
      case h_2 => cases hc
      rename_i e x' he hx
      injection hc with hc; subst hc
      exact ok_slice hok hs ho ht he hx hlo hhi hb
    · rename_i lo' hi' ht hlo hhi
      obtain ⟨x', hx, hc⟩ := map_some' hc; subst hc
      exact ok_sslice hok hs ho ht hx hlo hhi hb
    · rename_i n el lo' hi' ht hlo hhi
      split at hc
      case h_2 => cases hc
      rename_i e x' he hx
      split at hc
      case isFalse => cases hc
      rename_i hn
      injection hc with hc; subst hc
      exact ok_aslice hok hs ho ht he hx hlo hhi hn hb
    · cases hc
  · rename_i t x lo hi mx hne ho
    split at hc
    case h_2 => cases hc
    rename_i el lo' hi' mx' ht hlo hhi hmx
    split at hc
    case h_2 => cases hc
    rename_i e x' he hx
    injection hc with hc; subst hc
    exact ok_slice3 hok hs ho ht he hx hlo hhi hmx hb
  · rename_i t x f ho
    split at hc
    case h_2 => cases hc
    rename_i fs x' ht hx
    split at hc
    case h_2 => cases hc
    rename_i fd hf
    split at hc
    case isTrue => cases hc
    rename_i hz
    injection hc with hc; subst hc
    exact ok_faddr hok hs ho ht hf hz hx hb
  · rename_i t x f ho
    split at hc
    case h_2 => cases hc
    rename_i fs x' ht hx
    split at hc
    case h_2 => cases hc
    rename_i fd hf
    obtain ⟨e, he, hc⟩ := map_some' hc; subst hc
    exact ok_fld hok hs ho ht hf he hx hb
  · rename_i t x i ho
    split at hc
    · rename_i el i' ht hi
      split at hc
      case h_2 => cases hc
      rename_i e x' he hx
      injection hc with hc; subst hc
      exact ok_iaddr hok hs ho ht he hx hi hb
    · rename_i n el i' ht hi
      split at hc
      case h_2 => cases hc
      rename_i e x' he hx
      injection hc with hc; subst hc
      exact ok_aiaddr hok hs ho ht he hx hi hb
    · cases hc
  · rename_i t x i ho
    split at hc
    · rename_i n el x' i' ht hx hi
      obtain ⟨e, he, hc⟩ := map_some' hc; subst hc
      exact ok_idx hok hs ho ht he hx hi hb
    · rename_i x' i' ht hx hi
      injection hc with hc; subst hc
      exact ok_sidx hok hs ho ht hx hi hb
    · cases hc
  · rename_i x i ho
    obtain ⟨x', hx, hc⟩ := map_some' hc; subst hc
    exact ok_ext hok hs ho hx hb
  · rename_i c ho
    exact builtin_ok hok hs ho hc hb
  · cases hc
end
end Go.Ab
