/-
  The abstract machine, forty-sixth part: the library's functions that ask a function of each element of a row.
-/
import Derived.Test.YtkbjimfganeooaaAb45
set_option linter.unusedSimpArgs false
set_option linter.unusedVariables false
namespace Go.Ab
open Go

variable {P : Program}

/-! ## slices.IndexFunc -/

def idxB1 (e : Nat) : C := .seq (.reg [iI 10 (.mv (.t 8)), iI 5 (.mv (.t 10))]) (.seq (.reg [iI 11 (.mv (.t 1)), iI 12 (.mv (.t 0)), iI 13 (.mv (.t 5)), iI 14 (.iaddr e (.t 12) (.t 13)), iI 15 (.load e (.t 14)), iI 16 (.call (.t 11) [(.t 15)])]) (.cond (.t 16) (.seq (.reg [iI 17 (.mv (.t 5)), iI 4 (.mv (.t 17))]) .ret) .skip))
def idxB (e : Nat) : C := .seq (.reg [iI 9 (.bin .lss (.t 8) (.t 7))]) (.seq (.cond (.t 9) .skip (.exit 0)) (.seq (.block 1 (idxB1 e)) (.reg [iI 18 (.bin .add (.t 8) (.c (.int .i64 1))), iI 8 (.mv (.t 18))])))
/-- The code of slices.IndexFunc. -/
def idxC (e : Nat) : C := .seq (.reg [iI 4 (.mv (.c (.int .i64 0)))]) (.seq (.seq (.reg [iI 6 (.mv (.t 0)), iI 7 (.len 0 (.t 6)), iI 8 (.mv (.c (.int .i64 0)))]) (.block 0 (.loop (idxB e)))) (.seq (.reg [iI 4 (.mv (.c (.int .i64 (-1))))]) .ret))

section
variable {n lo : Nat} {Q : Ex → St → Prop} {τ : Type} {enc : τ → AV} {e : Nat} [IsEnc e enc]

theorem iaddr_row {s : Nat → AV} {h : Hp} {b len i : Nat} {k : IntKind} {x j : Od} (hx : x.ev s = .row e b 0 len) (hj : j.ev s = .int k i) (hi : i < len) : evV s h (.iaddr e x j) = some (.eptr b i 0, h) := by
  simp only [evV, hx, hj, Int.toNat_natCast, Nat.zero_add]
  rw [if_pos (by omega), if_pos ⟨trivial, hi⟩]

theorem cells_pick {v : AV} (hf : v.fits e = true) : pick? e 0 v.cells = some v := by
  cases e with
  | zero =>
    have : v.cells = [v] := cells_fit0 hf
    rw [this]; rfl
  | succ n =>
    obtain ⟨cs, rfl, hl⟩ := fits_succ hf
    show pick? (n + 1) 0 cs = _
    unfold pick?
    rw [if_neg (by omega), if_pos (by omega), List.drop_zero, List.take_of_length_le (by omega)]

theorem load_elem {s : Nat → AV} {h : Hp} {b i : Nat} {a : Od} {xs : List τ} {x : τ} (ha : a.ev s = .eptr b i 0) (hb : h[b]? = some (.els e (xs.map enc))) (hx : xs[i]? = some x) : evV s h (.load e a) = some (enc x, h) := by
  simp only [evV, ha, hb, List.getElem?_map, hx, Option.map_some, cells_pick (IsEnc.fits (enc := enc) x)]

theorem idxC_walk {b m kf : Nat} {caps : List AV} {xs : List τ} {h : Hp} {p : τ → Bool} (hm : m = xs.length) (hmax : m ≤ maxStr) (hb : h[b]? = some (.els e (xs.map enc)))
    (hcall : ∀ x ∈ xs, ∀ K : AV → Hp → Prop, K (.bool (p x)) h → Fn P kf (enc x :: caps) h K)
    (hQ : ∀ st, st.s 4 = .int .i64 (fstI p xs) → st.h = h → Q .ret st) : AW P n lo (idxC e) Q ⟨slotsOf [.row e b 0 m, .fn kf caps], h⟩ := by
  subst hm
  unfold idxC
  refine AW.rseq ?_
  simp only [iI, ↓wk, ↓wl, nc, evV, ↓reduceIte, Nat.reduceEqDiff, Nat.reduceSub, Nat.reduceAdd]
  refine AW.sseq ?_
  refine AW.sseq ?_
  refine AW.rend ?_
  simp only [iI, ↓wk, ↓wl, nc, evV, ↓reduceIte, Nat.reduceEqDiff, Nat.reduceSub, Nat.reduceAdd]
  refine seqQ.norm ?_
  refine AW.bend ?_
  refine AW.loop (fun c st => ∃ k : Nat, k ≤ xs.length ∧ c = xs.length - k ∧ st.h = h ∧ st.s 0 = .row e b 0 xs.length ∧ st.s 1 = .fn kf caps ∧ st.s 7 = .int .i64 (xs.length : Nat) ∧ st.s 8 = .int .i64 (k : Nat) ∧ ∀ x ∈ xs.take k, p x = false) (m := xs.length)
    ⟨0, Nat.zero_le _, rfl, rfl, rfl, rfl, rfl, rfl, by simp⟩ ?_
  rintro c ⟨s, h'⟩ ⟨k, hk, rfl, hh, h0, h1, h7, h8, hall⟩
  dsimp only at hh h0 h1 h7 h8
  subst hh
  unfold idxB
  refine AW.rseq ?_
  simp only [iI, ↓wk, ↓wl, nc, evV, h7, h8, ↓reduceIte, Nat.reduceEqDiff, Nat.reduceSub, Nat.reduceAdd]
  refine AW.sseq ?_
  by_cases hlt : k < xs.length
  · refine AW.ift (by simp only [od_t, put_at]; simp; omega) ?_
    refine AW.skip ?_
    refine seqQ.norm ?_
    refine AW.bseq ?_
    have hx := List.getElem?_eq_getElem hlt
    have hxm := List.getElem_mem hlt
    generalize xs[k] = x at hx hxm
    unfold idxB1
    refine AW.rseq ?_
    simp only [iI, ↓wk, ↓wl, nca, evV, h0, h1, h7, h8, ↓reduceIte, Nat.reduceEqDiff, Nat.reduceSub, Nat.reduceAdd]
    refine AW.rseq ?_
    simp only [iI, ↓wk, ↓wl, nca, evV, h0, h1, h7, h8, ↓reduceIte, Nat.reduceEqDiff, Nat.reduceSub, Nat.reduceAdd]
    refine step rfl (iaddr_row (i := k) (by rfl) (by rfl) hlt) ?_
    simp only [iI, ↓wk, ↓wl, nca, evV, h0, h1, h7, h8, ↓reduceIte, Nat.reduceEqDiff, Nat.reduceSub, Nat.reduceAdd]
    refine step rfl (load_elem (by rfl) hb hx) ?_
    simp only [iI, ↓wk, ↓wl, nca, evV, h0, h1, h7, h8, ↓reduceIte, Nat.reduceEqDiff, Nat.reduceSub, Nat.reduceAdd]
    refine evTs_call (by first | rfl | (simp only [od_t, put_at, ↓reduceIte, Nat.reduceEqDiff, h1]; rfl)) ?_
    simp only [List.map_cons, List.map_nil, od_t, put_at, ↓reduceIte, Nat.reduceEqDiff, List.singleton_append]
    refine hcall x hxm _ ?_
    simp only [iI, ↓wk, ↓wl, nc, evV, h0, h1, h7, h8, ↓reduceIte, Nat.reduceEqDiff, Nat.reduceSub, Nat.reduceAdd]
    cases hp : p x with
    | true =>
      refine AW.ift (by simp only [od_t, put_at]; rfl) ?_
      refine AW.rseq ?_
      simp only [iI, ↓wk, ↓wl, nc, evV, h0, h1, h7, h8, ↓reduceIte, Nat.reduceEqDiff, Nat.reduceSub, Nat.reduceAdd]
      refine AW.ret ?_
      refine blkQ.ret ?_
      refine hQ _ ?_ rfl
      simp only [put_at, ↓reduceIte, Nat.reduceEqDiff]
      congr 1
      have hf : xs.findIdx? p = some k := by
        rw [List.findIdx?_eq_some_iff_getElem]
        refine ⟨hlt, by rw [(List.getElem?_eq_some_iff.1 hx).2]; exact hp, fun j hj => ?_⟩
        have : xs[j] ∈ xs.take k := List.mem_take_iff_getElem.2 ⟨j, by omega, rfl⟩
        simp [hall _ this]
      unfold fstI
      rw [hf]
    | false =>
      refine AW.iff (by simp only [od_t, put_at]; rfl) ?_
      refine AW.skip ?_
      refine blkQ.norm ?_
      refine AW.rend ?_
      simp only [iI, ↓wk, ↓wl, nc, evV, h0, h1, h7, h8, ↓reduceIte, Nat.reduceEqDiff, Nat.reduceSub, Nat.reduceAdd]
      have hw : IntKind.i64.wrap ((k : Int) + 1) = ((k + 1 : Nat) : Int) := by unfold maxStr at hmax; exact w64_succ (by omega)
      refine ⟨xs.length - (k + 1), _, by omega, Le.refl _ _, k + 1, hlt, rfl, rfl, ?_⟩
      simp only [put_at, ↓reduceIte, Nat.reduceEqDiff, h0, h1, h7, hw, true_and]
      intro y hy
      rw [List.take_add_one, hx] at hy
      rcases List.mem_append.1 hy with hy | hy
      · exact hall y hy
      · have : y = x := by simpa using hy
        rw [this]; exact hp
  · refine AW.iff (by simp only [od_t, put_at]; simp; omega) ?_
    refine AW.exit ?_
    refine seqQ.exit ?_
    show blk0 0 _ (.exit 0) _
    refine blk0.here ?_
    refine seqQ.norm ?_
    refine AW.rseq ?_
    simp only [iI, ↓wk, ↓wl, nc, evV, h0, h1, h7, h8, ↓reduceIte, Nat.reduceEqDiff, Nat.reduceSub, Nat.reduceAdd]
    refine AW.ret ?_
    refine hQ _ ?_ rfl
    simp only [put_at, ↓reduceIte, Nat.reduceEqDiff]
    have hf : xs.findIdx? p = none := by
      rw [List.findIdx?_eq_none_iff]
      intro y hy
      exact hall y (by rw [List.take_of_length_le (by omega)]; exact hy)
    unfold fstI
    rw [hf]

/-- slices.IndexFunc of a row, in its caller's heap. -/
theorem index_fn {k b m kf : Nat} {caps : List AV} {xs : List τ} {h : Hp} {p : τ → Bool} (hk : fd? P k = some (19, [.slot 4], idxC e)) (hm : m = xs.length) (hmax : m ≤ maxStr) (hb : h[b]? = some (.els e (xs.map enc)))
    (hcall : ∀ x ∈ xs, ∀ K : AV → Hp → Prop, K (.bool (p x)) h → Fn P kf (enc x :: caps) h K) {R : AV → Hp → Prop} (hR : R (.int .i64 (fstI p xs)) h) : Fn P k [.row e b 0 m, .fn kf caps] h R := by
  refine ⟨fd?_entered hk, ⟨_, _, hR⟩, fun E w us hok hl hr => code_calls2 hk (Nat.le_of_ble_eq_true rfl) ?_ hok hl hr⟩
  refine idxC_walk hm hmax hb hcall ?_
  intro st h4 hh
  refine ⟨.inr rfl, st, .int .i64 (fstI p xs), Le.refl _ _, ?_, ?_⟩
  · simp only [resVs, omap, resV, h4]
  · rw [hh]; exact hR
end

/-! ## slices.DeleteFunc -/

def dlfB1 (e : Nat) : C := .seq (.reg [iI 20 (.mv (.t 0)), iI 21 (.mv (.t 6)), iI 22 (.iaddr e (.t 20) (.t 21)), iI 23 (.load e (.t 22)), iI 7 (.mv (.t 23))]) (.seq (.reg [iI 24 (.mv (.t 1)), iI 25 (.mv (.t 7)), iI 26 (.call (.t 24) [(.t 25)]), iI 27 (.un .not (.t 26))]) (.cond (.t 27) (.seq (.reg [iI 28 (.mv (.t 0)), iI 29 (.mv (.t 5)), iI 30 (.mv (.t 7)), iI 31 (.iaddr e (.t 28) (.t 29)), iN (.store e (.t 31) (.t 30))]) (.reg [iI 32 (.mv (.t 5)), iI 33 (.bin .add (.t 32) (.c (.int .i64 1))), iI 5 (.mv (.t 33))])) .skip))
def dlfB (e : Nat) : C := .seq (.seq (.reg [iI 14 (.mv (.t 6)), iI 15 (.mv (.t 0)), iI 16 (.len 0 (.t 15)), iI 17 (.bin .lss (.t 14) (.t 16))]) (.cond (.t 17) .skip (.exit 0))) (.seq (.block 1 (dlfB1 e)) (.reg [iI 18 (.mv (.t 6)), iI 19 (.bin .add (.t 18) (.c (.int .i64 1))), iI 6 (.mv (.t 19))]))
def dlfE (e : Nat) (z : AV) : C := .seq (.reg [iI 34 (.mv (.t 0)), iI 35 (.mv (.t 5)), iI 36 (.slice e (.t 34) (some (.t 35)) none), iN (.clear e z (.t 36))]) (.seq (.reg [iI 37 (.mv (.t 0)), iI 38 (.mv (.t 5)), iI 39 (.slice e (.t 37) none (some (.t 38))), iI 4 (.mv (.t 39))]) .ret)
/-- The code of slices.DeleteFunc. -/
def dlfC (e : Nat) (z : AV) (ix : Nat) : C := .seq (.reg [iI 4 (.mv (.c (.sl e true [])))]) (.seq (.reg [iI 8 (.mv (.t 0)), iI 9 (.mv (.t 1)), iI 10 (.call (.c (.fn ix [])) [(.t 8), (.t 9)]), iI 5 (.mv (.t 10))]) (.seq (.seq (.reg [iI 11 (.mv (.t 5)), iI 12 (.bin .eql (.t 11) (.c (.int .i64 (-1))))]) (.cond (.t 12) (.seq (.reg [iI 13 (.mv (.t 0)), iI 4 (.mv (.t 13))]) .ret) .skip)) (.seq (.seq (.reg [iI 40 (.mv (.t 5)), iI 41 (.bin .add (.t 40) (.c (.int .i64 1))), iI 6 (.mv (.t 41))]) (.block 0 (.loop (dlfB e)))) (dlfE e z))))

section
variable {n lo : Nat} {Q : Ex → St → Prop} {τ : Type} {enc : τ → AV} {e : Nat} [IsEnc e enc]

theorem stE_whole (y y' : τ) : stE e 0 (enc y) (enc y') = some (enc y') := by
  have h1 := IsEnc.fits (enc := enc) y
  have h2 := IsEnc.fits (enc := enc) y'
  unfold stE
  rw [if_pos h2]
  cases e with
  | zero =>
    split
    · rename_i cs hc
      rw [hc] at h1
      simp [AV.fits] at h1
    · simp
  | succ n =>
    obtain ⟨cs, hc, l1⟩ := fits_succ h1
    obtain ⟨ds, hd, l2⟩ := fits_succ h2
    rw [hc, hd]
    simp only
    rw [if_pos (by show 0 + (n + 1) ≤ cs.length; omega)]
    have : splice cs 0 (.agg ds) = ds := by
      show cs.take 0 ++ ds ++ cs.drop (0 + ds.length) = ds
      rw [List.drop_of_length_le (by omega)]
      simp
    rw [this]

/-- A part of a row from its beginning on, as a row in a block of its own number. -/
theorem Le.settleR {lo : Nat} {st : St} {i e b : Nat} {ys zs : List AV} (hi : st.s i = .row e b 0 ys.length) (hb : st.h[b]? = some (.els e (ys ++ zs))) :
    Le lo st ⟨put st.s i (.row e st.h.length 0 ys.length), st.h.set b .dead ++ [.els e ys]⟩ := fun E a w hst => by
  have hv := hst.slots i
  rw [hi] at hv
  obtain ⟨hke, hrow⟩ := hv.row_inv
  have hbk := hst.heap.blocks b _ hb
  have trimmed : ∃ r, E.rho b = some r ∧ HOK E (st.h.set b (.els e ys)) w := by
    obtain ⟨_, ⟨k0, hnil⟩ | ⟨g', vals, t', fz, k1, k2, k2', k3, k4, k5, k6, k7⟩⟩ := hbk
    · have hy : ys = [] := (List.append_eq_nil_iff.1 hnil).1
      have hz : zs = [] := (List.append_eq_nil_iff.1 hnil).2
      subst hy; subst hz
      refine ⟨Option.none, k0, ?_⟩
      rw [set_same (show st.h[b]? = some (.els e []) from hb)]
      exact hst.heap
    · rw [List.length_append] at k4 k6
      refine ⟨some g', k1, hst.heap.set hb trivial k1 rfl rfl rfl (Nat.le_refl _) (fun _ _ _ => rfl) (fun _ => rfl) ⟨hke, .inr ⟨g', vals, t', fz, k1, k2, k2', k3, by omega, k5, Nat.le_trans (Nat.mul_le_mul_right _ (Nat.le_add_right _ _)) k6, fun j v hv => ?_⟩⟩⟩
      exact k7 j v (by rw [List.getElem?_append_left (List.getElem?_eq_some_iff.1 hv).1]; exact hv)
  obtain ⟨r, hr, hok⟩ := trimmed
  have hb2 : (st.h.set b (.els e ys))[b]? = some (.els e ys) := getElem?_set_self' hb
  obtain ⟨m1, m2⟩ := hok.move hb2 trivial hr
  rw [List.length_set] at m1 m2
  rw [List.set_set] at m1
  refine ⟨_, ⟨fun j => ?_, hst.defers, m1⟩, m2.wide hst.heap lo⟩
  by_cases hj : j = i
  · subst hj
    simp only [put, if_true]
    rcases hrow with ⟨h0, _, hl0, A, hp⟩ | ⟨g, cap, A, hg, hp, hA, hl, hcc, hmx⟩
    · rw [h0] at hr; injection hr with hr; subst hr
      rw [hp, hl0]
      exact .row0 e _ A (by simp) (by simpa using hke)
    · rw [hg] at hr; injection hr with hr; subst hr
      rw [hp]
      exact .row e _ 0 _ g cap A (by simp) (by simpa using hke) (hA.imp id fun h => absurd rfl h.1) hl (by simp; omega) (by simpa using hmx)
  · simp only [put, if_neg hj]
    exact (hst.slots j).ext m2 hst.heap.dom

theorem slice_row_hi {s : Nat → AV} {h : Hp} {e b off len a : Nat} {k : IntKind} {x j : Od} (hx : x.ev s = .row e b off len) (hj : j.ev s = .int k a) (h1 : a ≤ len) : evV s h (.slice e x none (some j)) = some (.row e b off a, h) := by
  have : bounds s len none (some j) = some (0, a) := by
    simp only [bounds, hj]
    rw [if_pos (by omega)]
    simp
  simp only [evV, hx, if_true, this, Option.map_some, Nat.add_zero, Nat.sub_zero]

theorem filter_take_succ {p : τ → Bool} {xs : List τ} {j : Nat} {x : τ} (hx : xs[j]? = some x) : (xs.take (j + 1)).filter p = (xs.take j).filter p ++ (if p x = true then [x] else []) := by
  rw [List.take_add_one, hx, List.filter_append]
  simp only [Option.toList_some, List.filter_cons, List.filter_nil]

set_option maxHeartbeats 2000000 in
theorem dlfC_walk {b m ix kf : Nat} {z : AV} {caps : List AV} {xs : List τ} {h : Hp} {p : τ → Bool} (hix : fd? P ix = some (19, [.slot 4], idxC e)) (hm : m = xs.length) (hmax : m ≤ maxStr) (hb : h[b]? = some (.els e (xs.map enc)))
    (hcall : ∀ (ys : List τ) x, x ∈ xs → ∀ K : AV → Hp → Prop, K (.bool (p x)) (h.set b (.els e (ys.map enc))) → Fn P kf (enc x :: caps) (h.set b (.els e (ys.map enc))) K)
    (hQ : ∀ st zs, st.s 4 = .row e b 0 (xs.filter fun x => !p x).length → st.h = h.set b (.els e ((xs.filter fun x => !p x).map enc ++ zs)) → Q .ret st) : AW P n lo (dlfC e z ix) Q ⟨slotsOf [.row e b 0 m, .fn kf caps], h⟩ := by
  subst hm
  have hmx : xs.length ≤ 9223372036854775807 := by unfold maxStr at hmax; omega
  unfold dlfC
  refine AW.rseq ?_
  simp only [iI, ↓wk, ↓wl, nca, evV, ↓reduceIte, Nat.reduceEqDiff, Nat.reduceSub, Nat.reduceAdd]
  refine AW.rseq ?_
  simp only [iI, ↓wk, ↓wl, nca, evV, ↓reduceIte, Nat.reduceEqDiff, Nat.reduceSub, Nat.reduceAdd]
  refine evTs_call (by rfl) ?_
  simp only [List.map_cons, List.map_nil, od_t, put_at, ↓reduceIte, Nat.reduceEqDiff, List.append_nil]
  refine index_fn (p := p) hix rfl hmax hb (fun x hx K hK => ?_) ?_
  · have := hcall xs x hx K
    rw [set_same hb] at this
    exact this hK
  simp only [iI, ↓wk, ↓wl, nca, evV, ↓reduceIte, Nat.reduceEqDiff, Nat.reduceSub, Nat.reduceAdd]
  refine AW.sseq ?_
  refine AW.rseq ?_
  simp only [iI, ↓wk, ↓wl, nca, evV, ↓reduceIte, Nat.reduceEqDiff, Nat.reduceSub, Nat.reduceAdd]
  cases hf : xs.findIdx? p with
  | none =>
    have hfi : fstI p xs = -1 := by unfold fstI; rw [hf]
    have hall : (xs.filter fun x => !p x) = xs := by
      rw [List.filter_eq_self]
      intro x hx
      simp [List.findIdx?_eq_none_iff.1 hf x hx]
    refine AW.ift (by simp only [od_t, put_at]; simp [hfi]) ?_
    refine AW.rseq ?_
    simp only [iI, ↓wk, ↓wl, nca, evV, ↓reduceIte, Nat.reduceEqDiff, Nat.reduceSub, Nat.reduceAdd]
    refine AW.ret ?_
    refine seqQ.ret ?_
    refine hQ _ [] (by rw [hall]; rfl) ?_
    rw [hall, List.append_nil, set_same hb]
  | some i0 =>
    obtain ⟨hi0, hp1, hp2⟩ := List.findIdx?_eq_some_iff_getElem.1 hf
    have hfi : fstI p xs = (i0 : Nat) := by unfold fstI; rw [hf]
    refine AW.iff (by simp only [od_t, put_at]; simp [hfi]) ?_
    refine AW.skip ?_
    refine seqQ.norm ?_
    simp only [hfi]
    have hw0 : IntKind.i64.wrap ((i0 : Int) + 1) = ((i0 + 1 : Nat) : Int) := w64_succ (by omega)
    refine AW.sseq ?_
    refine AW.sseq ?_
    refine AW.rend ?_
    simp only [iI, ↓wk, ↓wl, nca, evV, ↓reduceIte, Nat.reduceEqDiff, Nat.reduceSub, Nat.reduceAdd, hw0]
    refine seqQ.norm ?_
    refine AW.bend ?_
    have hx0 := List.getElem?_eq_getElem hi0
    have hfirst : (xs.take (i0 + 1)).filter (fun x => !p x) = xs.take i0 := by
      rw [filter_take_succ hx0, if_neg (by simp [hp1]), List.append_nil, List.filter_eq_self]
      intro y hy
      obtain ⟨j, hj, rfl⟩ := List.mem_take_iff_getElem.1 hy
      simpa using hp2 j (by omega)
    refine AW.loop (fun c st => ∃ (j : Nat) (cur : List τ), j ≤ xs.length ∧ c = xs.length - j ∧ cur.length = xs.length ∧ ((xs.take j).filter fun x => !p x).length ≤ j ∧ cur.take ((xs.take j).filter fun x => !p x).length = (xs.take j).filter (fun x => !p x) ∧ (∀ i, j ≤ i → cur[i]? = xs[i]?) ∧
        st.h = h.set b (.els e (cur.map enc)) ∧ st.s 0 = .row e b 0 xs.length ∧ st.s 1 = .fn kf caps ∧ st.s 5 = .int .i64 (((xs.take j).filter fun x => !p x).length : Nat) ∧ st.s 6 = .int .i64 (j : Nat)) (m := xs.length - (i0 + 1))
      ⟨i0 + 1, xs, by omega, rfl, rfl, by rw [hfirst, List.length_take]; omega, by rw [hfirst, List.length_take, Nat.min_eq_left (by omega)], fun _ _ => rfl, by rw [set_same hb], rfl, rfl, by
        rw [hfirst, List.length_take, Nat.min_eq_left (by omega)]; rfl, rfl⟩ ?_
    rintro c ⟨s, h'⟩ ⟨j, cur, hj, rfl, hcl, hle, htk, hrest, hh, h0, h1, h5, h6⟩
    dsimp only at hh h0 h1 h5 h6
    subst hh
    generalize hF : (xs.take j).filter (fun x => !p x) = F at hle htk h5
    have hbl : (h.set b (.els e (cur.map enc)))[b]? = some (.els e (cur.map enc)) := getElem?_set_self' hb
    unfold dlfB
    refine AW.sseq ?_
    refine AW.rseq ?_
    simp only [iI, ↓wk, ↓wl, nca, evV, h0, h6, ↓reduceIte, Nat.reduceEqDiff, Nat.reduceSub, Nat.reduceAdd]
    by_cases hlt : j < xs.length
    · refine AW.ift (by simp only [od_t, put_at]; simp; omega) ?_
      refine AW.skip ?_
      refine seqQ.norm ?_
      refine AW.bseq ?_
      have hx := List.getElem?_eq_getElem hlt
      have hxm := List.getElem_mem hlt
      generalize xs[j] = x at hx hxm
      have hcx : cur[j]? = some x := (hrest j (Nat.le_refl _)).trans hx
      have hwj : IntKind.i64.wrap ((j : Int) + 1) = ((j + 1 : Nat) : Int) := w64_succ (by omega)
      have hFs := filter_take_succ (p := fun x => !p x) hx
      rw [hF] at hFs
      unfold dlfB1
      refine AW.rseq ?_
      simp only [iI, ↓wk, ↓wl, nca, evV, h0, h1, h5, h6, ↓reduceIte, Nat.reduceEqDiff, Nat.reduceSub, Nat.reduceAdd]
      refine step rfl (iaddr_row (i := j) (by rfl) (by rfl) hlt) ?_
      simp only [iI, ↓wk, ↓wl, nca, evV, h0, h1, h5, h6, ↓reduceIte, Nat.reduceEqDiff, Nat.reduceSub, Nat.reduceAdd]
      refine step rfl (load_elem (by rfl) hbl hcx) ?_
      simp only [iI, ↓wk, ↓wl, nca, evV, h0, h1, h5, h6, ↓reduceIte, Nat.reduceEqDiff, Nat.reduceSub, Nat.reduceAdd]
      refine AW.rseq ?_
      simp only [iI, ↓wk, ↓wl, nca, evV, h0, h1, h5, h6, ↓reduceIte, Nat.reduceEqDiff, Nat.reduceSub, Nat.reduceAdd]
      refine evTs_call (by first | rfl | (simp only [od_t, put_at, ↓reduceIte, Nat.reduceEqDiff, h1]; rfl)) ?_
      simp only [List.map_cons, List.map_nil, od_t, put_at, ↓reduceIte, Nat.reduceEqDiff, List.singleton_append]
      refine hcall cur x hxm _ ?_
      simp only [iI, ↓wk, ↓wl, nca, evV, h0, h1, h5, h6, ↓reduceIte, Nat.reduceEqDiff, Nat.reduceSub, Nat.reduceAdd]
      cases hp : p x with
      | true =>
        refine AW.iff (by simp only [od_t, put_at]; simp [hp]) ?_
        refine AW.skip ?_
        refine blkQ.norm ?_
        refine AW.rend ?_
        simp only [iI, ↓wk, ↓wl, nca, evV, h0, h1, h5, h6, ↓reduceIte, Nat.reduceEqDiff, Nat.reduceSub, Nat.reduceAdd]
        rw [if_neg (by simp [hp]), List.append_nil] at hFs
        refine ⟨xs.length - (j + 1), _, by omega, Le.refl _ _, j + 1, cur, hlt, rfl, hcl, by rw [hFs]; omega, by rw [hFs]; exact htk, fun i hi => hrest i (by omega), rfl, ?_⟩
        simp only [put_at, ↓reduceIte, Nat.reduceEqDiff, h0, h1, h5, hwj, hFs, and_self]
      | false =>
        refine AW.ift (by simp only [od_t, put_at]; simp [hp]) ?_
        refine AW.rseq ?_
        simp only [iI, iN, ↓wk, ↓wl, nca, evV, h0, h1, h5, h6, ↓reduceIte, Nat.reduceEqDiff, Nat.reduceSub, Nat.reduceAdd]
        have hFl : F.length < xs.length := by omega
        refine step rfl (iaddr_row (i := F.length) (by rfl) (by rfl) hFl) ?_
        simp only [iI, iN, ↓wk, ↓wl, nca, evV, h0, h1, h5, h6, ↓reduceIte, Nat.reduceEqDiff, Nat.reduceSub, Nat.reduceAdd]
        refine evTs_stW (enc := enc) x (by rfl) hbl (by omega) (fun y => stE_whole y x) ?_
        simp only [iI, iN, ↓wk, ↓wl, nca, evV, h0, h1, h5, h6, ↓reduceIte, Nat.reduceEqDiff, Nat.reduceSub, Nat.reduceAdd]
        have hwF : IntKind.i64.wrap ((F.length : Int) + 1) = ((F.length + 1 : Nat) : Int) := w64_succ (by omega)
        refine AW.rend ?_
        simp only [iI, iN, ↓wk, ↓wl, nca, evV, h0, h1, h5, h6, hwF, ↓reduceIte, Nat.reduceEqDiff, Nat.reduceSub, Nat.reduceAdd]
        refine blkQ.norm ?_
        refine AW.rend ?_
        simp only [iI, iN, ↓wk, ↓wl, nca, evV, h0, h1, h5, h6, ↓reduceIte, Nat.reduceEqDiff, Nat.reduceSub, Nat.reduceAdd]
        rw [if_pos (by simp [hp])] at hFs
        refine ⟨xs.length - (j + 1), _, by omega, Le.refl _ _, j + 1, cur.set F.length x, hlt, rfl, by simpa using hcl, by rw [hFs]; simp; omega, ?_, fun i hi => ?_, ?_, ?_⟩
        · rw [hFs, List.length_append, List.length_singleton, List.take_add_one, List.getElem?_set_self (by omega)]
          rw [List.take_set_of_le (Nat.le_refl _), htk]
          rfl
        · rw [List.getElem?_set_ne (by omega)]
          exact hrest i (by omega)
        · rw [List.set_set]
        · simp only [put_at, ↓reduceIte, Nat.reduceEqDiff, h0, h1, hwj, hFs, List.length_append, List.length_singleton, and_self]
    · have hjx : j = xs.length := by omega
      subst hjx
      rw [List.take_of_length_le (Nat.le_refl _)] at hF
      refine AW.iff (by simp only [od_t, put_at]; simp) ?_
      refine AW.exit ?_
      refine seqQ.exit ?_
      show blk0 0 _ (.exit 0) _
      refine blk0.here ?_
      refine seqQ.norm ?_
      unfold dlfE
      refine AW.rseq ?_
      simp only [iI, iN, ↓wk, ↓wl, nca, evV, h0, h1, h5, h6, ↓reduceIte, Nat.reduceEqDiff, Nat.reduceSub, Nat.reduceAdd]
      refine step rfl (slice_row_lo (a := F.length) (by rfl) (by rfl) hle) ?_
      simp only [iI, iN, ↓wk, ↓wl, nca, evV, h0, h1, h5, h6, ↓reduceIte, Nat.reduceEqDiff, Nat.reduceSub, Nat.reduceAdd]
      refine step rfl (clear_ok (by rfl) hbl (by simp; omega)) ?_
      simp only [iI, iN, ↓wk, ↓wl, nca, evV, h0, h1, h5, h6, ↓reduceIte, Nat.reduceEqDiff, Nat.reduceSub, Nat.reduceAdd]
      refine AW.rseq ?_
      simp only [iI, iN, ↓wk, ↓wl, nca, evV, h0, h1, h5, h6, ↓reduceIte, Nat.reduceEqDiff, Nat.reduceSub, Nat.reduceAdd]
      refine step rfl (slice_row_hi (a := F.length) (by rfl) (by rfl) hle) ?_
      simp only [iI, iN, ↓wk, ↓wl, nca, evV, h0, h1, h5, h6, ↓reduceIte, Nat.reduceEqDiff, Nat.reduceSub, Nat.reduceAdd]
      refine AW.ret ?_
      refine hQ _ (List.replicate (xs.length - F.length) z ++ (cur.map enc).drop (F.length + (xs.length - F.length))) (by rw [hF]; rfl) ?_
      rw [hF, List.set_set]
      congr 2
      unfold overwrite
      rw [Nat.zero_add, ← List.map_take, htk, List.length_replicate]

theorem dlf_fn {k b m ix kf : Nat} {z : AV} {caps : List AV} {xs : List τ} {h : Hp} {p : τ → Bool} (hk : fd? P k = some (43, [.slot 4], dlfC e z ix)) (hix : fd? P ix = some (19, [.slot 4], idxC e)) (hm : m = xs.length) (hmax : m ≤ maxStr) (hb : h[b]? = some (.els e (xs.map enc)))
    (hcall : ∀ (ys : List τ) x, x ∈ xs → ∀ K : AV → Hp → Prop, K (.bool (p x)) (h.set b (.els e (ys.map enc))) → Fn P kf (enc x :: caps) (h.set b (.els e (ys.map enc))) K)
    {R : AV → Hp → Prop} (hR : R (.row e h.length 0 (xs.filter fun x => !p x).length) (h.set b .dead ++ [.els e ((xs.filter fun x => !p x).map enc)])) : Fn P k [.row e b 0 m, .fn kf caps] h R := by
  refine ⟨fd?_entered hk, ⟨_, _, hR⟩, fun E w us hok hl hr => code_calls2 hk (Nat.le_of_ble_eq_true rfl) ?_ hok hl hr⟩
  refine dlfC_walk hix hm hmax hb hcall ?_
  intro st zs h4 hh
  have hyl : ((xs.filter fun x => !p x).map enc).length = (xs.filter fun x => !p x).length := List.length_map ..
  refine ⟨.inr rfl, ⟨put st.s 4 (.row e st.h.length 0 ((xs.filter fun x => !p x).map enc).length), st.h.set b .dead ++ [.els e ((xs.filter fun x => !p x).map enc)]⟩, .row e h.length 0 (xs.filter fun x => !p x).length, Le.settleR (zs := zs) (by rw [hyl]; exact h4) (by rw [hh]; exact getElem?_set_self' hb), ?_, ?_⟩
  · simp only [resVs, omap, resV, put, if_true, hyl, hh, List.length_set]
  · simp only [hh, List.set_set]; exact hR
end

def delf? {τ : Type} (f : τ → Option Bool) (xs : List τ) : Option (List τ) := if (xs.all fun x => (f x).isSome) = true ∧ xs.length ≤ maxStr then some (xs.filter fun x => !(f x).getD false) else none

theorem imm_encx {τ : Type} {enc : τ → AV} {e : Nat} [IsEnc e enc] (h : Hp) (n : Nat) (x : τ) : imm h (n + 4) (enc x) = some (enc x) := imm_plain h (n + 4) 4 _ (IsEnc.plain x) (by omega)

theorem evTs_dlf {τ α : Type} {enc : τ → AV} {e : Nat} [IsEnc e enc] {xs : List τ} {f : τ → Option Bool} {kont : List τ → Option α} {r : α} (H : (delf? f xs).bind kont = some r) {kf : Nat} (caps' : List AV)
    (spec : ∀ x y, f x = some y → Pure P kf (enc x :: caps'.map (unf 12)) (· = .bool y)) {k ix : Nat} {z : AV} (hk : fd? P k = some (43, [.slot 4], dlfC e z ix)) (hix : fd? P ix = some (19, [.slot 4], idxC e))
    {is : List Ins} {K : St → Prop} {s : Nat → AV} {h : Hp} {d : Option Nat} {fo : Od} {as : List Od} {b m : Nat} {caps : List AV} (hf : fo.ev s = .fn k []) (ha : as.map (Od.ev s) = [.row e b 0 m, .fn kf caps])
    (himm : ∀ h' : Hp, (∀ b', b' ≠ b → h'[b']? = h[b']?) → ∀ x, imm h' deep (.tup (enc x :: caps)) = some (.tup (enc x :: caps'))) (hm : m = xs.length) (hb : h[b]? = some (.els e (xs.map enc)))
    (hK : ∀ zs, kont zs = some r → evTs (Fn P) is K ⟨put? s d (.row e h.length 0 zs.length), h.set b .dead ++ [.els e (zs.map enc)]⟩) : evTs (Fn P) (Ins.mk d none (.call fo as) :: is) K ⟨s, h⟩ := by
  unfold delf? at H
  split at H
  case isFalse => cases H
  rename_i hc
  obtain ⟨hall, hmax⟩ := hc
  subst hm
  refine evTs_call hf ?_
  rw [ha, List.append_nil]
  refine dlf_fn (p := fun x => (f x).getD false) hk hix rfl hmax hb (fun ys x hx K' hK' => ?_) (hK _ H)
  have hs := List.all_eq_true.1 hall x hx
  obtain ⟨y, hy⟩ := Option.isSome_iff_exists.1 hs
  have hp := spec x y hy
  simp only [hy, Option.getD_some] at hK'
  refine Fn.valf (as := enc x :: caps') (by rw [List.map_cons, IsEnc.unf]; exact hp) (himm _ (fun b' hb' => List.getElem?_set_ne (Ne.symm hb')) x) rfl rfl hK'

theorem delf_some {τ : Type} {f : τ → Option Bool} {p : τ → Bool} {xs : List τ} (h : ∀ x ∈ xs, f x = some (p x)) (hl : xs.length ≤ 9223372036854775807) : delf? f xs = some (xs.filter fun x => !p x) := by
  unfold delf?
  rw [if_pos ⟨List.all_eq_true.2 fun x hx => by rw [h x hx]; rfl, by unfold maxStr; omega⟩]
  congr 1
  exact List.filter_congr fun x hx => by rw [h x hx]; rfl
end Go.Ab
