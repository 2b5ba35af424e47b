import Derived.Test.YtgfohogbechkkaaQF
set_option linter.unusedSimpArgs false
set_option linter.unusedVariables false
namespace Go.Proofs.Ytgfohogbechkkaa
open Go Go.Ab
theorem want_len (t : Int) (slots : List (List UInt8)) (last : List Int) : (wantD t slots last).length ≤ 1000 := by
 unfold wantD
 rw [List.length_flatMap]
 simp [List.range_succ] <;> (repeat' split) <;> simp
theorem J3_eq {t t' v n1 n2 n3 n4 : Int} {x : TopPlayBeat} {beats : List TopPlayBeat} {n5 : List NetworkStream} {ys : List ReceiverInput} {ok : Bool} {k : Nat} {l : List NetworkStream} {slots : List (List UInt8)} {last : List Int}
  (ht : IntKind.i64.wrap (t + IntKind.i64.wrap (10 * IntKind.i64.wrap x.fAfter)) = t') (hv : IntKind.i64.wrap (v + 1) = v + 1) (h : Dl t' k l ys slots last) (hr : ∀ z ∈ last, 0 ≤ z ∧ z ≤ 10000000) :
  (f10_J3 t x v beats n1 n2 n3 n4 n5 (⟨ys⟩, ok)).run (slots, last) = some (.next (t', v + 1, n1, n2, n3, n4, n5, ys, slots, last)) := by
 simp only [f10_J3]
 rw [L4_eq h.ls h.ll ht ⟨h.gr.t0, h.gr.t1⟩ hr, Option.bind_some, ht, f30_eq, Option.bind_some]
 have hfo : framesO ys t' = (wantD t' slots last, 0) := by
  unfold framesO
  rw [if_neg (by simp [good_moment h.gr]), dl_show h]
 rw [hfo, if_neg (by simp), f52_eq (want_len _ _ _), Option.bind_some, if_neg (by simp), hv]
theorem frames_one {f : ApiFrame} (hf : Net.FrOk f) : Net.framesS [f] = 0 := by
 have h1 := hf.2
 have h2 : ¬ f.fUniverse < 1 := by have := hf.1; omega
 have h3 : ¬ 8 < f.fUniverse := by have := hf.1; omega
 simp [Net.framesS, Net.frErr, List.range_succ, h1, h2, h3]
theorem send_one {t pulse : Int} {l : List NetworkStream} {f : ApiFrame} (hg : Net.Good t l) (ht : 0 ≤ t ∧ t ≤ 10000000) (hp : 0 ≤ pulse ∧ pulse ≤ 255) (hf : Net.FrOk f) :
  Net.sendS ⟨7, 100, 0, pulse, l⟩ t [f] = (⟨7, 100, 0, pulse, (Net.stepS ⟨7, 100, 0, pulse, l⟩ t f l []).1⟩, (Net.stepS ⟨7, 100, 0, pulse, l⟩ t f l []).2, 0) := by
 have hm : Net.momentS ⟨7, 100, 0, pulse, l⟩ t = 0 := Net.moment_of (show Net.namedS 7 100 0 = true by decide) hp ht hg
 unfold Net.sendS
 rw [if_neg (by simp [hm]), if_neg (by simp [frames_one hf]), if_neg (by simp)]
 rfl
end Go.Proofs.Ytgfohogbechkkaa
