import Derived.Test.YtgfohogbechkkaaQG
set_option linter.unusedSimpArgs false
set_option linter.unusedVariables false
namespace Go.Proofs.Ytgfohogbechkkaa
open Go Go.Ab
theorem J2_eq {t t' v s1 s2 s3 s4 n1 n2 n3 n4 : Int} {s5 n5 : List NetworkStream} {x : TopPlayBeat} {beats : List TopPlayBeat} {ys : List ReceiverInput} {k U : Nat} {l : List NetworkStream} {slots : List (List UInt8)} {last : List Int} {out : List NetworkPacket}
  (ht : IntKind.i64.wrap (t + IntKind.i64.wrap (10 * IntKind.i64.wrap x.fAfter)) = t') (hv : IntKind.i64.wrap (v + 1) = v + 1) (hu : IntKind.i64.wrap (1 + IntKind.i64.wrap (x.fUniverse.tmod 3)) = (U : Int)) (hU : 1 ≤ U ∧ U ≤ 3) (hr : ∀ z ∈ last, 0 ≤ z ∧ z ≤ 10000000)
  (hg : Good t' ys) (h : Dl t' k l ys slots last) (ho : out = [] ∨ ∃ p, out = [p] ∧ checkS p = 0 ∧ Dl t' k l (takenS ys t' p).1 (slots.set U p.fSlots) (last.set U t')) :
  ∃ ys' slots' last', (f10_J2 ys t x slots last v beats s1 s2 s3 s4 s5).run (out, 0, n1, n2, n3, n4, n5) = some (.next (t', v + 1, n1, n2, n3, n4, n5, ys', slots', last')) ∧ Dl t' k l ys' slots' last' ∧ ∀ z ∈ last', 0 ≤ z ∧ z ≤ 10000000 := by
 simp only [f10_J2]
 rw [if_neg (by simp), ht]
 rcases ho with rfl | ⟨p, rfl, hc, hd⟩
 ·refine ⟨ys, slots, last, ?_, h, hr⟩
  have h51 : f51 ⟨ys⟩ t' [] x.fLost = some (⟨ys⟩, true) := by
   cases x.fLost
   ·exact f51_eq hg (by simp) (by simp)
   ·exact f51_lost (by simp) (by simp)
  rw [h51, Option.bind_some, if_neg (by simp), if_neg (by simp), J3_eq ht hv h hr]
 ·cases hlo : x.fLost
  ·refine ⟨(takenS ys t' p).1, slots.set U p.fSlots, last.set U t', ?_, hd, fun z hz => ?_⟩
   ·have e1 : arr? 4 slots (U : Int) = some (slots[U]'(by rw [h.ls]; omega)) := arr_some h.ls (by omega) (List.getElem?_eq_getElem _)
    have e2 : arr? 4 last (U : Int) = some (last[U]'(by rw [h.ll]; omega)) := arr_some h.ll (by omega) (List.getElem?_eq_getElem _)
    rw [f51_eq hg (fun q hq => by rw [List.mem_singleton.1 hq]; exact hc) (by simp), Option.bind_some, if_neg (by simp), if_pos (by simp), if_pos (by simp), show at? [p] 0 = some p from rfl, Option.bind_some, hu, e1, e2, Option.bind_some, Option.bind_some]
    exact J3_eq ht hv hd fun z hz => by
     rcases List.mem_or_eq_of_mem_set hz with hz | rfl
     ·exact hr z hz
     ·exact ⟨h.gr.t0, h.gr.t1⟩
   ·rcases List.mem_or_eq_of_mem_set hz with hz | rfl
    ·exact hr z hz
    ·exact ⟨h.gr.t0, h.gr.t1⟩
  ·refine ⟨ys, slots, last, ?_, h, hr⟩
   rw [f51_lost (fun q hq => by rw [List.mem_singleton.1 hq]; exact hc) (by simp), Option.bind_some, if_neg (by simp), if_pos (by simp), if_neg (by simp), J3_eq ht hv h hr]
end Go.Proofs.Ytgfohogbechkkaa
