/-
  The abstract machine, forty-first part: the library's sorting of a row of numbers, by its contract.
-/
import Derived.Test.YtkbjimfganeooaaAb40
import Derived.Sort.Grow
import Derived.Lib.SlicesCompact
set_option linter.unusedSimpArgs false
set_option linter.unusedVariables false
namespace Go.Ab
open Go Go.RowKit Go.Sort

variable {P : Program}

/-- Numbers, ascending. -/
def sortI (xs : List Int) : List Int := xs.mergeSort fun x y => decide (x ≤ y)

theorem sortI_length (xs : List Int) : (sortI xs).length = xs.length := by simp [sortI]

/-- What a contract tells of a function that sorts. -/
structure SortsInts (P : Program) (k : Nat) (ik : IntKind) : Prop where
  entered : Entered P k
  none : ∀ (p : Option Addr) (cap : Nat) (w : World), Calls P k #[.slice p 0 cap] w fun e w' => e = .returned (.tuple #[]) ∧ w' = w
  some : ∀ (blk off cap : Nat) (zs : List Int) (w : World), Holds (Value.int ik) w blk off zs.toArray → blk < w.heap.size → zs.length < 4611686018427387904 →
    Calls P k #[.slice (some ⟨blk, off, Option.none⟩) zs.length cap] w fun e w' => e = .returned (.tuple #[]) ∧ ∃ n os, w' = Go.Sort.grow (putRow (Value.int ik) (Sort.ahead w n) blk off (sortI zs).toArray) os

theorem frozen_soft {w : World} {g : Nat} {vals : Array Value} {t : TypeId} {fz : Nat × Nat} (h : w.heap[g]? = some (.cells vals t fz)) (hs : Soft vals fz) {o : Nat} (ho : o < vals.size) : w.frozen? ⟨g, o, Option.none⟩ = false := by
  have := hs o ho
  simp only [World.frozen?, h]
  simp only [Bool.and_eq_false_iff, decide_eq_false_iff_not]
  omega

/-- Numbers that a row holds. -/
theorem HOK.holds {E : Env} {h : Hp} {w : World} (hok : HOK E h w) {b g : Nat} {ik : IntKind} {xs : List Int} (hb : h[b]? = some (.els 0 (xs.map (AV.int ik)))) (hg : E.rho b = some (some g)) : Holds (Value.int ik) w g 0 xs.toArray ∧ g < w.heap.size := by
  obtain ⟨_, ⟨k0, _⟩ | ⟨g', vals, t', fz, k1, k2, k2', k3, k4, k5, k6, k7⟩⟩ := hok.blocks b _ hb
  · rw [k0] at hg; cases hg
  rw [hg] at k1; injection k1 with k1; injection k1 with k1; subst k1
  simp only [List.length_map, esz_zero, Nat.mul_one] at k3 k4 k6
  have hgl : g < w.heap.size := (Array.getElem?_eq_some_iff.1 k2).1
  have hcell : ∀ j (hj : j < xs.length), vals[j]? = some (.int ik xs[j]) := fun j hj => by
    obtain ⟨_, v, s2, s3, s4⟩ := k7 j (.int ik xs[j]) (by simp [hj])
    have := s2.int_inv
    subst this
    have := s4 0 (.int ik xs[j]) rfl
    simpa using this
  refine ⟨fun j hj => ?_, hgl⟩
  have hj : j < xs.length := by simpa using hj
  refine ⟨?_, ?_⟩
  · simp only [World.cell?, k2, Nat.zero_add, hcell j hj, Option.isSome_none, Bool.false_eq_true, if_false]
    simp [hj]
  · rw [Nat.zero_add]; exact frozen_soft k2 k2' (by omega)

/-- A row with other numbers, of which the first m count from now on. -/
theorem HOK.putInts {E : Env} {h : Hp} {w : World} (hok : HOK E h w) {b g : Nat} {ik : IntKind} {xs : List Int} (hb : h[b]? = some (.els 0 (xs.map (AV.int ik)))) (hg : E.rho b = some (some g)) (n : Nat) {ys zs : List Int} (hl : (ys ++ zs).length = xs.length) :
    HOK E (h.set b (.els 0 (ys.map (AV.int ik)))) (putRow (Value.int ik) (Sort.ahead w n) g 0 (ys ++ zs).toArray) ∧ Ext h.length E w E (putRow (Value.int ik) (Sort.ahead w n) g 0 (ys ++ zs).toArray) := by
  obtain ⟨hke, ⟨k0, _⟩ | ⟨g', vals, t', fz, k1, k2, k2', k3, k4, k5, k6, k7⟩⟩ := hok.blocks b _ hb
  · rw [k0] at hg; cases hg
  rw [hg] at k1; injection k1 with k1; injection k1 with k1; subst k1
  simp only [List.length_map, esz_zero, Nat.mul_one] at k3 k4 k6
  have hyz : ys.length + zs.length = xs.length := by rw [← hl, List.length_append]
  have w1 : (putRow (Value.int ik) (Sort.ahead w n) g 0 (ys ++ zs).toArray).heap[g]? = some (.cells (putCells (Value.int ik) 0 (ys ++ zs).toArray vals) t' fz) := by
    simp [putRow, mapBlock, Sort.ahead, Array.getElem?_modify, k2, onCells]
  refine ⟨?_, hok.ext_upd hb trivial hg _ rfl rfl rfl (by simp [Sort.ahead]) (fun i hi _ => by simp [putRow, mapBlock, Sort.ahead, Array.getElem?_modify, Ne.symm hi]) (fun a => by simp)⟩
  refine hok.set hb trivial hg rfl rfl rfl (by simp [Sort.ahead]) (fun i hi _ => ?_) (fun a => by simp) ⟨hke, .inr ⟨g, _, t', fz, hg, w1, ?_, ?_, ?_, k5, ?_, fun i v hv => ?_⟩⟩
  · simp [putRow, mapBlock, Sort.ahead, Array.getElem?_modify, Ne.symm hi]
  · intro o ho
    exact k2' o (by simpa [putCells] using ho)
  · simp [putCells, k3]
  · simp only [List.length_map]; omega
  · simp only [putCells, Array.size_mapIdx, List.length_map, esz_zero, Nat.mul_one]; omega
  · simp only [List.getElem?_map, Option.map_eq_some_iff] at hv
    obtain ⟨m, hm, rfl⟩ := hv
    obtain ⟨hil, hiv⟩ := List.getElem?_eq_some_iff.1 hm
    refine ⟨by simp [Shape, Ok1, AV.one], .int ik m, .imm (.int ik m), rfl, fun j c hj => ?_⟩
    have hj0 : j = 0 := by
      have := (Array.getElem?_eq_some_iff.1 hj).1
      simp [Value.cells] at this
      exact this
    subst hj0
    simp [Value.cells] at hj
    subst hj
    have hivl : i < vals.size := by omega
    have hil2 : i < (ys ++ zs).toArray.size := by simp; omega
    simp only [esz_zero, Nat.mul_one, Nat.add_zero, putCells, Array.getElem?_mapIdx, Array.getElem?_eq_getElem hivl, Option.map_some, Nat.zero_le, Nat.zero_add, true_and, Nat.sub_zero]
    rw [if_pos hil2, getElem!_pos _ i hil2]
    simp [List.getElem_append_left hil, hiv]

theorem sort_fn {k : Nat} {ik : IntKind} (hc : SortsInts P k ik) {h : Hp} {b : Nat} {xs : List Int} (hb : h[b]? = some (.els 0 (xs.map (AV.int ik)))) (hsz : xs.length < 4611686018427387904) {R : AV → Hp → Prop}
    (hR : R (.tup []) (h.set b (.els 0 ((sortI xs).map (AV.int ik))))) : Fn P k [.row 0 b 0 xs.length] h R := by
  refine ⟨hc.entered, ⟨_, _, hR⟩, fun E w us hok hl hr => ?_⟩
  obtain ⟨us⟩ := us
  match us, hl, hr with
  | [u], _, hr =>
  have hv := hr 0 (.row 0 b 0 xs.length) u rfl rfl
  obtain ⟨hke, hrow⟩ := hv.row_inv
  rcases hrow with ⟨h0, _, hx0, A, rfl⟩ | ⟨g, cap, A, hg, rfl, hA, hlc, hcc, hm⟩
  · have hx : xs = [] := List.eq_nil_of_length_eq_zero hx0
    subst hx
    refine (hc.none A 0 w).mono ?_
    rintro e w' ⟨rfl, rfl⟩
    refine ⟨_, E, _, _, rfl, hR, ?_, Ext.refl _ _ _, .tup [] #[] rfl fun i c u hc => by simp at hc⟩
    rw [show sortI [] = [] by simp [sortI], set_same hb]
    exact hok
  · obtain rfl : A = some ⟨g, 0, Option.none⟩ := by
      rcases hA with hA | ⟨hA, _⟩
      · simpa using hA
      · exact absurd rfl hA
    obtain ⟨hH, hgl⟩ := hok.holds hb hg
    refine (hc.some g 0 cap xs w hH hgl hsz).mono ?_
    rintro e w' ⟨rfl, n, os, rfl⟩
    obtain ⟨hset, hext⟩ := hok.putInts hb hg n (ys := sortI xs) (zs := []) (by simp [sortI_length])
    rw [List.append_nil] at hset hext
    have hmore : More (putRow (Value.int ik) (Sort.ahead w n) g 0 (sortI xs).toArray) (Go.Sort.grow (putRow (Value.int ik) (Sort.ahead w n) g 0 (sortI xs).toArray) os) := by
      have hold : ∀ i, i < (putRow (Value.int ik) (Sort.ahead w n) g 0 (sortI xs).toArray).heap.size → (Go.Sort.grow (putRow (Value.int ik) (Sort.ahead w n) g 0 (sortI xs).toArray) os).heap[i]? = (putRow (Value.int ik) (Sort.ahead w n) g 0 (sortI xs).toArray).heap[i]? := fun i hi => by
        simp only [Go.Sort.grow]
        rw [Array.getElem?_append_left hi]
      exact ⟨rfl, rfl, rfl, by simp [Go.Sort.grow], hold, fun a ha => World.frozen?_of_block (hold _ ha)⟩
    obtain ⟨m1, m2⟩ := hset.more hmore
    exact ⟨_, E, _, _, rfl, hR, m1, hext.trans (m2 h.length) (Nat.le_refl _), .tup [] #[] rfl fun i c u hc => by simp at hc⟩

/-- What a contract tells of a function that takes out what is equal to the one before it. -/
structure CompactsInts (P : Program) (k : Nat) (ik : IntKind) : Prop where
  entered : Entered P k
  none : ∀ (p : Option Addr) (cap : Nat) (w : World), Calls P k #[.slice p 0 cap] w fun e w' => e = .returned (.slice p 0 cap) ∧ w' = w
  some : ∀ (blk off cap : Nat) (zs : List Int) (w : World), Holds (Value.int ik) w blk off zs.toArray → zs.length ≤ 9223372036854775807 → zs.length ≤ cap →
    Calls P k #[.slice (some ⟨blk, off, Option.none⟩) zs.length cap] w fun e w' => e = .returned (.slice (some ⟨blk, off, Option.none⟩) (Lib.compact zs).length cap) ∧ ∃ q, w' = putRow (Value.int ik) (Sort.ahead w q) blk off (Lib.compact zs ++ List.replicate (zs.length - (Lib.compact zs).length) 0).toArray

theorem compact_le (xs : List Int) : (Lib.compact xs).length ≤ xs.length := by
  unfold Lib.compact Lib.compactUpTo
  rw [List.length_map]
  exact Nat.le_trans (List.length_filter_le _ _) (by simp)

theorem compact_fn {k : Nat} {ik : IntKind} (hc : CompactsInts P k ik) {h : Hp} {b : Nat} {xs : List Int} (hb : h[b]? = some (.els 0 (xs.map (AV.int ik)))) (hsz : xs.length ≤ 9223372036854775807) {R : AV → Hp → Prop}
    (hR : R (.row 0 b 0 (Lib.compact xs).length) (h.set b (.els 0 ((Lib.compact xs).map (AV.int ik))))) : Fn P k [.row 0 b 0 xs.length] h R := by
  refine ⟨hc.entered, ⟨_, _, hR⟩, fun E w us hok hl hr => ?_⟩
  obtain ⟨us⟩ := us
  match us, hl, hr with
  | [u], _, hr =>
  have hv := hr 0 (.row 0 b 0 xs.length) u rfl rfl
  obtain ⟨hke, hrow⟩ := hv.row_inv
  have hle := compact_le xs
  rcases hrow with ⟨h0, _, hx0, A, rfl⟩ | ⟨g, cap, A, hg, rfl, hA, hlc, hcc, hm⟩
  · have hx : xs = [] := List.eq_nil_of_length_eq_zero hx0
    subst hx
    refine (hc.none A 0 w).mono ?_
    rintro e w' ⟨rfl, rfl⟩
    have hcn : Lib.compact ([] : List Int) = [] := List.eq_nil_of_length_eq_zero (Nat.le_zero.1 hle)
    rw [hcn] at hR
    refine ⟨_, E, _, _, rfl, hR, ?_, Ext.refl _ _ _, hv⟩
    rw [set_same hb]
    exact hok
  · obtain rfl : A = some ⟨g, 0, Option.none⟩ := by
      rcases hA with hA | ⟨hA, _⟩
      · simpa using hA
      · exact absurd rfl hA
    obtain ⟨hH, hgl⟩ := hok.holds hb hg
    refine (hc.some g 0 cap xs w hH hsz hlc).mono ?_
    rintro e w' ⟨rfl, n, rfl⟩
    obtain ⟨hset, hext⟩ := hok.putInts hb hg n (ys := Lib.compact xs) (zs := List.replicate (xs.length - (Lib.compact xs).length) 0) (by simp; omega)
    exact ⟨_, E, _, _, rfl, hR, hset, hext, .row 0 b 0 _ g cap _ hg hke (.inl (by simp)) (by omega) hcc hm⟩

section
variable {is : List Ins} {K : St → Prop} {s : Nat → AV} {h : Hp} {d : Option Nat} {α : Type} {r : α}

def sort? (xs : List Int) : Option (List Int) := if xs.length < 4611686018427387904 then some (sortI xs) else none
def compact? (xs : List Int) : Option (List Int) := if xs.length ≤ 9223372036854775807 then some (Lib.compact xs) else none

/-- slices.Sort of a row. -/
theorem evTs_sort {k : Nat} {ik : IntKind} (hc : SortsInts P k ik) {xs : List Int} {kont : List Int → Option α} (H : (sort? xs).bind kont = some r) {f : Od} {as : List Od} {b m : Nat} (hf : f.ev s = .fn k []) (ha : as.map (Od.ev s) = [.row 0 b 0 m])
    (hm : m = xs.length) (hb : h[b]? = some (.els 0 (xs.map (AV.int ik))))
    (hK : ∀ zs, zs.length = xs.length → kont zs = some r → evTs (Fn P) is K ⟨put? s d (.tup []), h.set b (.els 0 (zs.map (AV.int ik)))⟩) : evTs (Fn P) (Ins.mk d none (.call f as) :: is) K ⟨s, h⟩ := by
  unfold sort? at H
  split at H
  case isFalse => cases H
  rename_i h1
  subst hm
  refine evTs_call hf ?_
  rw [ha, List.append_nil]
  exact sort_fn hc hb h1 (hK _ (sortI_length xs) H)

/-- slices.Compact of a row. -/
theorem evTs_compact {k : Nat} {ik : IntKind} (hc : CompactsInts P k ik) {xs : List Int} {kont : List Int → Option α} (H : (compact? xs).bind kont = some r) {f : Od} {as : List Od} {b m : Nat} (hf : f.ev s = .fn k []) (ha : as.map (Od.ev s) = [.row 0 b 0 m])
    (hm : m = xs.length) (hb : h[b]? = some (.els 0 (xs.map (AV.int ik))))
    (hK : ∀ zs, kont zs = some r → evTs (Fn P) is K ⟨put? s d (.row 0 b 0 zs.length), h.set b (.els 0 (zs.map (AV.int ik)))⟩) : evTs (Fn P) (Ins.mk d none (.call f as) :: is) K ⟨s, h⟩ := by
  unfold compact? at H
  split at H
  case isFalse => cases H
  rename_i h1
  subst hm
  refine evTs_call hf ?_
  rw [ha, List.append_nil]
  exact compact_fn hc hb h1 (hK _ H)
end
end Go.Ab
