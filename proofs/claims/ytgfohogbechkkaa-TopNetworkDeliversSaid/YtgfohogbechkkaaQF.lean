import Derived.Test.YtgfohogbechkkaaQE
set_option linter.unusedSimpArgs false
set_option linter.unusedVariables false
namespace Go.Proofs.Ytgfohogbechkkaa
open Go Go.Ab
theorem dl_beat {t pulse : Int} {k U : Nat} {l st : List NetworkStream} {ys : List ReceiverInput} {slots : List (List UInt8)} {last : List Int} {f : ApiFrame} (h : Dl t k l ys slots last) (hk : k ≤ 100) (hf : Net.FrOk f) (hu : f.fUniverse = (U : Int)) (hU : 1 ≤ U ∧ U ≤ 3) :
  Dl t (k + 1) (Net.stepS ⟨7, 100, 0, pulse, st⟩ t f l []).1 ys slots last ∧ ((Net.stepS ⟨7, 100, 0, pulse, st⟩ t f l []).2 = [] ∨ ∃ p, (Net.stepS ⟨7, 100, 0, pulse, st⟩ t f l []).2 = [p] ∧ checkS p = 0 ∧
   Dl t (k + 1) (Net.stepS ⟨7, 100, 0, pulse, st⟩ t f l []).1 (takenS ys t p).1 (slots.set U p.fSlots) (last.set U t)) := by
 have ht := h.gr.t0
 have h' := dl_lost (pulse := pulse) (st := st) (out := []) h ht hk hf
 refine ⟨h', ?_⟩
 obtain ⟨A, B, hA, hB, hh⟩ := Net.step_split (S := ⟨7, 100, 0, pulse, st⟩) (f := f) (out := []) h.gs
 have tell_ok : ∀ n : NetworkStream, n.fUniverse = f.fUniverse → (0 ≤ n.fSeq ∧ n.fSeq ≤ 255) → n.fSlots.length = 512 → checkS (Net.tellS ⟨7, 100, 0, pulse, st⟩ n) = 0 := fun n h1 h2 h3 => by
  have hu := hf.1
  exact check_mk (p := Net.tellS ⟨7, 100, 0, pulse, st⟩ n) (by decide : (0 : Int) < 7 ∧ (7 : Int) < 281474976710655) (by decide : (0 : Int) ≤ 100 ∧ (100 : Int) ≤ 200) (by decide : (0 : Int) ≤ 0 ∧ (0 : Int) ≤ 8) (by show 0 ≤ n.fUniverse ∧ n.fUniverse ≤ 8; omega) h2 (by show n.fSlots.length ≤ 512; omega) (fun h0 => by have : n.fUniverse = 0 := h0; omega)
 rcases hh with ⟨hl, hst⟩ | ⟨x, hl, he, hst⟩
 ·rw [hst] at h' ⊢
  have hck := tell_ok ⟨f.fUniverse, 0, t, 1, f.fSlots⟩ rfl ⟨Int.le_refl _, by show (0 : Int) ≤ 255; decide⟩ hf.2
  refine .inr ⟨_, rfl, hck, dl_take h h' hk hu hU rfl rfl rfl hck hf.2 ⟨⟨f.fUniverse, 0, t, 1, f.fSlots⟩, by simp, rfl, rfl⟩ fun y hy hyu => ?_⟩
  exfalso
  obtain ⟨x0, hx0, e0, _⟩ := h.seq y hy
  have hyu : y.fUniverse = f.fUniverse := hyu
  rw [hl] at hx0
  rcases List.mem_append.1 hx0 with hm | hm
  ·have := hA x0 hm; omega
  ·have := hB x0 hm; omega
 ·rw [hst] at h' ⊢
  have hnu : (Net.nextS t f x).1.fUniverse = x.fUniverse := Net.nextS_spec
  obtain ⟨k1, k2, k3, k4⟩ := h'.gs.ok (Net.nextS t f x).1 (by simp)
  have hxok := h.gs.ok x (by rw [hl]; simp)
  cases hb : (Net.nextS t f x).2
  ·left; rfl
  ·right
   have hck := tell_ok (Net.nextS t f x).1 (hnu.trans he) k1 k4
   refine ⟨_, rfl, hck, dl_take h h' hk (hnu.trans (he.trans hu)) hU rfl rfl rfl hck k4 ⟨(Net.nextS t f x).1, by simp, rfl, rfl⟩ fun y hy hyu => ?_⟩
   obtain ⟨x0, hx0, e0, d, hd, e2⟩ := h.seq y hy
   have hyu : y.fUniverse = (Net.nextS t f x).1.fUniverse := hyu
   have hxx : x0 = x := by
    rw [hl] at hx0
    rcases List.mem_append.1 hx0 with hm | hm
    ·have := hA x0 hm; omega
    ·rcases List.mem_cons.1 hm with hm | hm
     ·exact hm
     ·have := hB x0 hm; omega
   subst hxx
   refine ⟨d, hd, ?_⟩
   show ((Net.nextS t f x0).1.fSeq - y.fSeq) % 256 = d + 1
   rw [Net.next_sent hb, next_mod hxok.1]
   omega
end Go.Proofs.Ytgfohogbechkkaa
