import Derived.Test.YtgfohogbechkkaaQD
set_option linter.unusedSimpArgs false
set_option linter.unusedVariables false
namespace Go.Proofs.Ytgfohogbechkkaa
open Go Go.Ab
def plainF (u v : Int) : ApiFrame := ⟨u, b8 (IntKind.u8.wrap v) :: List.replicate 511 0⟩
theorem f50_eq (u v : Int) : f50 u v = some (plainF u v) := by
 unfold f50
 have h1 : f87 [0] 511 = some (List.replicate 511 0) := by
  unfold f87 rep?
  rw [if_pos ⟨by decide, by decide, by decide⟩]
  rw [show (511 : Int).toNat = 511 from rfl, repeat_zero]
 rw [h1, Option.bind_some, cat_some (by rw [List.length_replicate]; simp only [List.length_map, List.length_cons, List.length_nil]; omega)]
 rfl
theorem plain_ok {u v : Int} (hu : 1 ≤ u ∧ u ≤ 8) : Net.FrOk (plainF u v) := ⟨hu, by show (b8 (IntKind.u8.wrap v) :: List.replicate 511 0).length = 512; rw [List.length_cons, List.length_replicate]⟩
theorem f51_lost {t : Int} {ys : List ReceiverInput} {l : List NetworkPacket} (hc : ∀ p ∈ l, checkS p = 0) (hl : l.length ≤ 1000) : f51 ⟨ys⟩ t l true = some (⟨ys⟩, true) := by
 unfold f51
 have hrun := run_count (L := f51_L1 l true t) (e := .inl ys) (fun k => ((k : Int), ys)) l.length (by simp [f51_L1]) 0 (Nat.zero_le _) (fun k _ hk => by
  have hx := List.getElem?_eq_getElem hk
  have hxm := List.getElem_mem hk
  generalize l[k] = x at hx hxm
  have R := Rnd.mk' hx (by omega)
  have c1 : f59 x = some 0 := by rw [f59_eq, hc x hxm]
  have hsl := (check_ok (hc x hxm)).2.2.2.1
  have hdl := Net.dat_len hsl
  simp only [f51_L1]
  rw [if_pos R.lt, R.at', Option.bind_some, Net.f88_eq c1, Option.bind_some]
  simp only
  rw [Net.f89_eq c1 (Net.ent_dec (by omega)).1, Option.bind_some, if_neg (by simp), if_neg (by simp), if_neg (by simp), if_pos trivial, R.nxt])
 have hrun : (f51_L1 l true t).run (0, ys) = some (.inl ys) := hrun
 rw [hrun]
 rfl
theorem arr_some {τ : Type} {n : Nat} {xs : List τ} {i : Int} {x : τ} (hl : xs.length = n) (h0 : 0 ≤ i) (h : xs[i.toNat]? = some x) : arr? n xs i = some x := by
 unfold arr?; rw [if_pos ⟨hl, h0⟩, h]
theorem L4_eq {slots : List (List UInt8)} {last : List Int} {t t' v n1 n2 n3 n4 : Int} {x : TopPlayBeat} {beats : List TopPlayBeat} {n5 : List NetworkStream} {r : ReceiverReceiver × Bool} (hs : slots.length = 4) (hl : last.length = 4)
  (ht : IntKind.i64.wrap (t + IntKind.i64.wrap (10 * IntKind.i64.wrap x.fAfter)) = t') (h0 : 0 ≤ t' ∧ t' ≤ 10000000) (hr : ∀ z ∈ last, 0 ≤ z ∧ z ≤ 10000000) : (f10_L4 slots last t x v beats n1 n2 n3 n4 n5 r).run (1, []) = some (wantD t' slots last) := by
 have hrun := run_count (L := f10_L4 slots last t x v beats n1 n2 n3 n4 n5 r) (e := wantD t' slots last) (fun k => (((k + 1 : Nat) : Int), (List.range k).flatMap fun (i : Nat) => match slots[i + 1]?, last[i + 1]? with
   | some s, some v => if s ≠ [] ∧ t' - v ≤ 2500 then [(⟨((i + 1 : Nat) : Int), s⟩ : ApiFrame)] else []
   | _, _ => [])) 3 (by simp only [f10_L4]; rw [if_neg (by simp)]; rfl) 0 (Nat.zero_le _) (fun k _ hk => by
  have g1 := List.getElem?_eq_getElem (show k + 1 < slots.length by omega)
  have g2 := List.getElem?_eq_getElem (show k + 1 < last.length by omega)
  have hz := hr _ (List.getElem_mem (show k + 1 < last.length by omega))
  generalize slots[k + 1] = a at g1
  generalize last[k + 1] = z at g2 hz
  have e1 : arr? 4 slots (((k + 1 : Nat) : Int)) = some a := arr_some hs (by omega) g1
  have e2 : arr? 4 last (((k + 1 : Nat) : Int)) = some z := arr_some hl (by omega) g2
  have hw : IntKind.i64.wrap (((k + 1 : Nat) : Int) + 1) = ((k + 1 + 1 : Nat) : Int) := w64_succ (by omega)
  have hlen : ((List.range k).flatMap fun (i : Nat) => match slots[i + 1]?, last[i + 1]? with
   | some s, some v => if s ≠ [] ∧ t' - v ≤ 2500 then [(⟨((i + 1 : Nat) : Int), s⟩ : ApiFrame)] else []
   | _, _ => []).length ≤ 1000 := by
   have : k = 0 ∨ k = 1 ∨ k = 2 := by omega
   rw [List.length_flatMap]
   rcases this with rfl | rfl | rfl <;> simp [List.range_succ] <;> (repeat' split) <;> simp
  simp only [f10_L4]
  rw [if_pos (by simp only [decide_eq_true_eq]; omega), e1, Option.bind_some, List.range_succ, List.flatMap_append]
  simp only [List.flatMap_cons, List.flatMap_nil, List.append_nil, g1, g2]
  rw [ht, hw]
  by_cases ha : a = []
  ·rw [if_neg (by simp [ha]), if_neg (by simp [ha]), List.append_nil]
  ·rw [if_pos (by simp [ha]), e2, Option.bind_some, w64 (a := t' - z) (by omega) (by omega)]
   by_cases hz2 : t' - z ≤ 2500
   ·rw [if_pos (by simpa using hz2), Option.bind_some, app_some (by simp only [List.length_cons, List.length_nil]; omega) (by simp only [List.length_cons, List.length_nil]; omega), Option.bind_some, if_pos ⟨ha, hz2⟩]
   ·rw [if_neg (by simpa using hz2), if_neg (fun hc => hz2 hc.2), List.append_nil])
 exact hrun
end Go.Proofs.Ytgfohogbechkkaa
