import Derived.Test.YtgfohogbechkkaaQU
set_option linter.unusedSimpArgs false
set_option linter.unusedVariables false
namespace Go.Proofs.Ytgfohogbechkkaa
open Go Go.Ab
theorem newer_of {o q : Int} (ho : 0 ≤ o ∧ o ≤ 255) (hq : 0 ≤ q ∧ q ≤ 255) {d : Nat} (h1 : 0 < d) (h2 : d < 237) (h : (q - o) % 256 = d) : newerS o q = true := by
 unfold newerS
 rw [wi_iff.2 ho, wi_iff.2 hq]
 have : (q - o + 256).tmod 256 = d := by rw [Int.tmod_eq_emod_of_nonneg (by omega)]; omega
 rw [this]
 simp
 omega
theorem next_mod {q : Int} (h : 0 ≤ q ∧ q ≤ 255) : Net.nextSeq q = (q + 1) % 256 := by
 unfold Net.nextSeq
 rw [Int.tmod_eq_emod_of_nonneg (by omega)]
structure Dl (t : Int) (k : Nat) (l : List NetworkStream) (ys : List ReceiverInput) (slots : List (List UInt8)) (last : List Int) : Prop where
 gs : Net.Good t l
 gr : Good t ys
 src : ∀ y ∈ ys, y.fSource = 7
 seq : ∀ y ∈ ys, ∃ x ∈ l, x.fUniverse = y.fUniverse ∧ ∃ d : Nat, d ≤ k ∧ (x.fSeq - y.fSeq) % 256 = d
 ls : slots.length = 4
 ll : last.length = 4
 rng : ∀ y ∈ ys, 1 ≤ y.fUniverse ∧ y.fUniverse ≤ 3
 tab : ∀ u : Nat, 1 ≤ u → u ≤ 3 → (slots[u]? = some [] ∧ ∀ y ∈ ys, y.fUniverse ≠ u) ∨ ∃ y ∈ ys, y.fUniverse = u ∧ slots[u]? = some y.fSlots ∧ last[u]? = some y.fLast ∧ y.fSlots.length = 512
theorem dl_zero : Dl 0 0 [] [] (List.replicate 4 []) (List.replicate 4 0) where
 gs := ⟨⟨fun y hy => by simp at hy, List.Pairwise.nil⟩, fun y hy => by simp at hy⟩
 gr := ⟨by simp, fun y hy => by simp at hy, List.Pairwise.nil, by omega, by omega, fun y hy => by simp at hy⟩
 src := fun y hy => by simp at hy
 seq := fun y hy => by simp at hy
 ls := rfl
 ll := rfl
 rng := fun y hy => by simp at hy
 tab := fun u h1 h2 => .inl ⟨by
  have : u = 1 ∨ u = 2 ∨ u = 3 := by omega
  rcases this with rfl | rfl | rfl <;> rfl, fun y hy => by simp at hy⟩
theorem Dl.later {t t' : Int} {k k' : Nat} {l : List NetworkStream} {ys : List ReceiverInput} {slots : List (List UInt8)} {last : List Int} (h : Dl t k l ys slots last) (ht : t ≤ t') (ht' : t' ≤ 10000000) (hk : k ≤ k') : Dl t' k' l ys slots last :=
 { h with gs := Net.good_mono h.gs ht, gr := h.gr.later ht ht', seq := fun y hy => by obtain ⟨x, hx, e, d, hd, e2⟩ := h.seq y hy; exact ⟨x, hx, e, d, by omega, e2⟩ }
theorem Dl.dist {t : Int} {k : Nat} {l : List NetworkStream} {ys : List ReceiverInput} {slots : List (List UInt8)} {last : List Int} (h : Dl t k l ys slots last) : ys.Pairwise fun a b => a.fUniverse < b.fUniverse := by
 refine h.gr.asc.imp_of_mem fun {a b} ha hb hab => ?_
 have h1 := h.src a ha
 have h2 := h.src b hb
 unfold ltI ltU at hab
 simp only [Bool.or_eq_true, Bool.and_eq_true, decide_eq_true_eq] at hab
 omega
def wantD (t : Int) (slots : List (List UInt8)) (last : List Int) : List ApiFrame := (List.range 3).flatMap fun (i : Nat) => match slots[i + 1]?, last[i + 1]? with
 | some s, some v => if s ≠ [] ∧ t - v ≤ 2500 then [⟨((i + 1 : Nat) : Int), s⟩] else []
 | _, _ => []
theorem dl_lost {t pulse : Int} {k : Nat} {l st : List NetworkStream} {ys : List ReceiverInput} {slots : List (List UInt8)} {last : List Int} {f : ApiFrame} {out : List NetworkPacket} (h : Dl t k l ys slots last) (ht : 0 ≤ t) (hk : k ≤ 100) (hf : Net.FrOk f) :
  Dl t (k + 1) (Net.stepS ⟨7, 100, 0, pulse, st⟩ t f l out).1 ys slots last := by
 refine { h with gs := Net.good_step h.gs ht hf, seq := fun y hy => ?_ }
 obtain ⟨x0, hx0, e0, d, hd, e2⟩ := h.seq y hy
 obtain ⟨A, B, hA, hB, hh⟩ := Net.step_split (S := ⟨7, 100, 0, pulse, st⟩) (f := f) (out := out) h.gs
 rcases hh with ⟨hl, hst⟩ | ⟨x, hl, he, hst⟩
 ·rw [hst]
  refine ⟨x0, ?_, e0, d, by omega, e2⟩
  rw [hl] at hx0
  rcases List.mem_append.1 hx0 with hm | hm
  ·exact List.mem_append_left _ hm
  ·exact List.mem_append_right _ (List.mem_cons_of_mem _ hm)
 ·rw [hst]
  have hx0' := hx0
  rw [hl] at hx0'
  rcases List.mem_append.1 hx0' with hm | hm
  ·exact ⟨x0, List.mem_append_left _ hm, e0, d, by omega, e2⟩
  ·rcases List.mem_cons.1 hm with rfl | hm
   ·refine ⟨(Net.nextS t f x0).1, by simp, Net.nextS_spec.trans e0, ?_⟩
    cases hb : (Net.nextS t f x0).2
    ·exact ⟨d, by omega, by rw [Net.next_same hb]; exact e2⟩
    ·refine ⟨d + 1, by omega, ?_⟩
     rw [Net.next_sent hb, next_mod (h.gs.ok x0 hx0).1]
     omega
   ·exact ⟨x0, List.mem_append_right _ (List.mem_cons_of_mem _ hm), e0, d, by omega, e2⟩
theorem Dl.len {t : Int} {k : Nat} {l : List NetworkStream} {ys : List ReceiverInput} {slots : List (List UInt8)} {last : List Int} (h : Dl t k l ys slots last) : ys.length ≤ 8 := by
 have ha : Net.Asc (ys.map fun y => (⟨y.fUniverse, 0, 0, 0, []⟩ : NetworkStream)) := ⟨fun x hx => by
  obtain ⟨y, hy, rfl⟩ := List.mem_map.1 hx
  have := h.rng y hy
  show 1 ≤ y.fUniverse ∧ y.fUniverse ≤ 8
  omega, by rw [List.pairwise_map]; exact h.dist⟩
 have := Net.asc_len ha
 rwa [List.length_map] at this
theorem dl_take {t : Int} {k U : Nat} {l l' : List NetworkStream} {ys : List ReceiverInput} {slots : List (List UInt8)} {last : List Int} {p : NetworkPacket} (h : Dl t k l ys slots last) (h' : Dl t (k + 1) l' ys slots last) (hk : k ≤ 100) (hu : p.fUniverse = (U : Int)) (hU : 1 ≤ U ∧ U ≤ 3)
  (h1 : p.fSource = 7) (h2 : p.fSync = 0) (h3 : p.fEnd = false) (hc : checkS p = 0) (h5 : p.fSlots.length = 512) (hin : ∃ n ∈ l', n.fUniverse = p.fUniverse ∧ n.fSeq = p.fSeq)
  (hnew : ∀ y ∈ ys, y.fUniverse = p.fUniverse → ∃ d : Nat, d ≤ k ∧ (p.fSeq - y.fSeq) % 256 = d + 1) : Dl t (k + 1) l' (takenS ys t p).1 (slots.set U p.fSlots) (last.set U t) := by
 have h0 : p.fUniverse ≠ 0 := by omega
 have hq := (check_ok hc).2.2.1
 have hlen := h.len
 have hok : (takenS ys t p).2 = true := by
  unfold takenS
  rw [if_neg h0]
  by_cases hh : hasB (kc p) ys = true
  ·rw [if_pos hh]
   obtain ⟨y, hy, hy0⟩ := hasB_at hh
   have hym := List.mem_of_getElem? hy
   rw [kc_zero] at hy0
   obtain ⟨d, hd, e⟩ := hnew y hym hy0.1
   have hyq : 0 ≤ y.fSeq ∧ y.fSeq ≤ 255 := (check_ok (in_ok (h.gr.ok y hym)).2.1).2.2.1
   rw [hy]
   simp only
   rw [if_neg (by rw [newer_of hyq hq (d := d + 1) (by omega) (by omega) (by omega)]; simp), h3, if_neg (by simp)]
  ·rw [if_neg hh, h3, if_neg (by simp), if_neg (by omega)]
 obtain ⟨x, A, B, g⟩ := taken_gone h.gr h0 h3 hok
 obtain ⟨q1, q2, q3, q4, q5, q6⟩ := fed_place t p x
 have hxs : (fedS t p x).fSlots = p.fSlots := by
  have hf : fullS p.fSlots = p.fSlots := by unfold fullS; rw [h5]; simp
  unfold fedS
  rw [if_pos h2, hf]
 have hx7 : x.fSource = 7 := g.hs.trans h1
 have hmem : ∀ z ∈ (takenS ys t p).1, (z ∈ ys ∧ z.fUniverse ≠ p.fUniverse) ∨ z = fedS t p x := fun z hz => by
  rw [g.eq] at hz
  have ne : ∀ z, z ∈ ys → kc p z ≠ 0 → z.fUniverse ≠ p.fUniverse := fun z hzy hzk e => hzk (by rw [kc_zero]; exact ⟨e, (h.src z hzy).trans h1.symm⟩)
  rcases List.mem_append.1 hz with hz | hz
  ·have := g.low z hz
   exact .inl ⟨g.sub z (.inl hz), ne z (g.sub z (.inl hz)) (by omega)⟩
  ·rcases List.mem_cons.1 hz with hz | hz
   ·exact .inr hz
   ·have := g.high z hz
    exact .inl ⟨g.sub z (.inr hz), ne z (g.sub z (.inr hz)) (by omega)⟩
 have hstay : ∀ z ∈ ys, z.fUniverse ≠ p.fUniverse → z ∈ (takenS ys t p).1 := fun z hz hzu => by
  rw [g.eq]
  rcases g.old with ⟨e, _, _⟩ | ⟨e, _⟩
  ·rw [e] at hz
   rcases List.mem_append.1 hz with hz | hz
   ·exact List.mem_append_left _ hz
   ·exact List.mem_append_right _ (List.mem_cons_of_mem _ hz)
  ·rw [e] at hz
   rcases List.mem_append.1 hz with hz | hz
   ·exact List.mem_append_left _ hz
   ·rcases List.mem_cons.1 hz with rfl | hz
    ·exact absurd g.hu hzu
    ·exact List.mem_append_right _ (List.mem_cons_of_mem _ hz)
 have hself : fedS t p x ∈ (takenS ys t p).1 := by rw [g.eq]; simp
 refine ⟨h'.gs, taken_good h.gr hc, fun z hz => ?_, fun z hz => ?_, by rw [List.length_set]; exact h.ls, by rw [List.length_set]; exact h.ll, fun z hz => ?_, fun u u1 u2 => ?_⟩
 ·rcases hmem z hz with ⟨hz, _⟩ | rfl
  ·exact h.src z hz
  ·exact q2.trans hx7
 ·rcases hmem z hz with ⟨hz, _⟩ | rfl
  ·exact h'.seq z hz
  ·obtain ⟨n, hn, e1, e2⟩ := hin
   refine ⟨n, hn, e1.trans (g.hu.symm.trans q1.symm), 0, by omega, ?_⟩
   rw [q5, e2]
   simp
 ·rcases hmem z hz with ⟨hz, _⟩ | rfl
  ·exact h.rng z hz
  ·rw [q1, g.hu, hu]; omega
 ·by_cases huu : U = u
  ·subst huu
   refine .inr ⟨fedS t p x, hself, by rw [q1, g.hu, hu], ?_, ?_, by rw [hxs]; exact h5⟩
   ·rw [hxs]; exact List.getElem?_set_self (by rw [h.ls]; omega)
   ·rw [q3]; exact List.getElem?_set_self (by rw [h.ll]; omega)
  ·rw [List.getElem?_set_ne huu, List.getElem?_set_ne huu]
   rcases h.tab u u1 u2 with ⟨a1, a2⟩ | ⟨y, hy, a1, a2, a3, a4⟩
   ·refine .inl ⟨a1, fun z hz => ?_⟩
    rcases hmem z hz with ⟨hz, _⟩ | rfl
    ·exact a2 z hz
    ·rw [q1, g.hu, hu]; omega
   ·exact .inr ⟨y, hstay y hy (by rw [a1, hu]; omega), a1, a2, a3, a4⟩
theorem no_win {ys : List ReceiverInput} {t u : Int} (h : ∀ y ∈ ys, y.fUniverse = u → ¬ t - y.fLast ≤ 2500) : frameS ys t u = [] := by
 unfold frameS
 rw [if_pos]
 cases hw : winS ys t u with
 | nil => rfl
 | cons y w =>
  obtain ⟨hm, hu, hl, _⟩ := win_mem (l := ys) (t := t) (u := u) (x := y) (by rw [hw]; exact List.mem_cons_self ..)
  exact absurd hl (h y hm hu)
theorem dl_show {t : Int} {k : Nat} {l : List NetworkStream} {ys : List ReceiverInput} {slots : List (List UInt8)} {last : List Int} (h : Dl t k l ys slots last) : framesS ys t = wantD t slots last := by
 have key : ∀ i : Nat, i < 3 → frameS ys t ((i : Int) + 1) = (match slots[i + 1]?, last[i + 1]? with
   | some s, some v => if s ≠ [] ∧ t - v ≤ 2500 then [⟨((i + 1 : Nat) : Int), s⟩] else []
   | _, _ => []) := fun i hi => by
  have hlast : (last[i + 1]?) = some (last[i + 1]'(by rw [h.ll]; omega)) := List.getElem?_eq_getElem _
  rcases h.tab (i + 1) (by omega) (by omega) with ⟨a1, a2⟩ | ⟨y, hy, a1, a2, a3, a4⟩
  ·rw [a1, hlast, no_win fun y hy e => absurd e (by have := a2 y hy; omega)]
   simp
  ·have hne : y.fSlots ≠ [] := fun e => by rw [e] at a4; cases a4
   rw [a2, a3]
   simp only
   by_cases ht : t - y.fLast ≤ 2500
   ·rw [if_pos ⟨hne, ht⟩, show (i : Int) + 1 = y.fUniverse by rw [a1]; omega, frame_one h.dist hy (by unfold cand; rw [decide_eq_true rfl, decide_eq_true ht, decide_eq_false hne]; rfl) a4, a1]
   ·rw [if_neg (fun hc => ht hc.2)]
    refine no_win fun z hz e => ?_
    have hzu : z.fUniverse = y.fUniverse := by rw [e, a1]; omega
    have hd := h.dist
    obtain ⟨A, B, rfl⟩ := List.append_of_mem hy
    obtain ⟨_, d2, d3⟩ := List.pairwise_append.1 hd
    rcases List.mem_append.1 hz with hm | hm
    ·have := d3 z hm y (List.mem_cons_self ..)
     omega
    ·rcases List.mem_cons.1 hm with rfl | hm
     ·exact ht
     ·have := (List.pairwise_cons.1 d2).1 z hm
      omega
 have far : ∀ i : Nat, 3 ≤ i → frameS ys t ((i : Int) + 1) = [] := fun i hi => no_win fun y hy e => absurd e (by have := h.rng y hy; omega)
 unfold framesS wantD
 rw [show List.range 8 = [0, 1, 2, 3, 4, 5, 6, 7] from rfl, show List.range 3 = [0, 1, 2] from rfl]
 simp only [List.flatMap_cons, List.flatMap_nil]
 rw [key 0 (by omega), key 1 (by omega), key 2 (by omega), far 3 (by omega), far 4 (by omega), far 5 (by omega), far 6 (by omega), far 7 (by omega)]
 simp only [List.append_nil]
end Go.Proofs.Ytgfohogbechkkaa
