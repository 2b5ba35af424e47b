/-
  The abstract machine, fortieth part: arrays in blocks, whose elements are one cell each.
-/
import Derived.Test.YtkbjimfganeooaaAb39
set_option linter.unusedSimpArgs false
set_option linter.unusedVariables false
namespace Go.Ab
open Go

/-- As nc, without memory: where there are arrays. -/
theorem nca : (∀ a0, (Op1.mv a0).isCall = false) ∧
    (∀ a0 a1 a2, (Op1.pick a0 a1 a2).isCall = false) ∧
    (∀ a0 a1, (Op1.build a0 a1).isCall = false) ∧
    (∀ a0 a1 a2 a3, (Op1.mksl a0 a1 a2 a3).isCall = false) ∧
    (∀ a0 a1 a2 a3, (Op1.mkslp a0 a1 a2 a3).isCall = false) ∧
    (∀ a0, (Op1.nilchk a0).isCall = false) ∧
    (∀ a0 a1 a2, (Op1.bin a0 a1 a2).isCall = false) ∧
    (∀ a0 a1 a2, (Op1.binb a0 a1 a2).isCall = false) ∧
    (∀ a0 a1 a2 a3, (Op1.eqs a0 a1 a2 a3).isCall = false) ∧
    (∀ a0 a1 a2, (Op1.eqp a0 a1 a2).isCall = false) ∧
    (∀ a0 a1, (Op1.un a0 a1).isCall = false) ∧
    (∀ a0 a1, (Op1.cint a0 a1).isCall = false) ∧
    (∀ a0 a1, (Op1.mkfn a0 a1).isCall = false) ∧
    (∀ a0 a1, (Op1.faddr a0 a1).isCall = false) ∧
    (∀ a0 a1 a2, (Op1.fld a0 a1 a2).isCall = false) ∧
    (∀ a0 a1, (Op1.ext a0 a1).isCall = false) ∧
    (∀ a0 a1, (Op1.len a0 a1).isCall = false) ∧
    (∀ a0, (Op1.alen a0).isCall = false) ∧
    (∀ a0 a1 a2, (Op1.maxmin a0 a1 a2).isCall = false) ∧
    ((Op1.mkmap).isCall = false) :=
  ⟨fun _ => rfl, fun _ _ _ => rfl, fun _ _ => rfl, fun _ _ _ _ => rfl, fun _ _ _ _ => rfl, fun _ => rfl, fun _ _ _ => rfl, fun _ _ _ => rfl, fun _ _ _ _ => rfl, fun _ _ _ => rfl, fun _ _ => rfl, fun _ _ => rfl, fun _ _ => rfl, fun _ _ => rfl,
    fun _ _ _ => rfl, fun _ _ => rfl, fun _ _ => rfl, fun _ => rfl, fun _ _ _ => rfl, rfl⟩

/-- An element of an array of n elements. -/
def arr? {τ : Type} (n : Nat) (xs : List τ) (i : Int) : Option τ := if xs.length = n ∧ 0 ≤ i then xs[i.toNat]? else none

theorem arr_inv {τ α : Type} {n : Nat} {xs : List τ} {i : Int} {kont : τ → Option α} {r : α} (H : (arr? n xs i).bind kont = some r) : ∃ y, xs.length = n ∧ 0 ≤ i ∧ xs[i.toNat]? = some y ∧ kont y = some r := by
  obtain ⟨y, hy, hk⟩ := Option.bind_eq_some_iff.1 H
  unfold arr? at hy
  split at hy
  · rename_i h; exact ⟨y, h.1, h.2, hy, hk⟩
  · cases hy

section
variable {F : CallF} {is : List Ins} {K : St → Prop} {s : Nat → AV} {h : Hp} {d : Option Nat} {α : Type} {r : α}

theorem evTs_arr {τ : Type} {enc : τ → AV} {n : Nat} {v : AV} (z : τ) (hz : enc z = v) (hk : evTs F is K ⟨put? s d (.ptr h.length 0), h ++ [.cel ((List.replicate n z).map enc)]⟩) : evTs F (Ins.mk d none (.alloc [(n, v)]) :: is) K ⟨s, h⟩ := by
  subst hz
  refine step rfl ?_ hk
  simp [evV, expand]

theorem evTs_aat {τ : Type} {xs : List τ} {n : Nat} {i : Int} {kont : τ → Option α} (H : (arr? n xs i).bind kont = some r) {enc : τ → AV} {b : Nat} {k : IntKind} {x j : Od} (hx : x.ev s = .ptr b 0) (hi : j.ev s = .int k i)
    (hk : ∀ y, (xs.map enc)[i.toNat]? = some (enc y) → kont y = some r → evTs F is K ⟨put? s d (.ptr b i.toNat), h⟩) : evTs F (Ins.mk d none (.aiaddr 0 n x j) :: is) K ⟨s, h⟩ := by
  obtain ⟨y, hl, h0, h1, h2⟩ := arr_inv H
  have hlt : i.toNat < n := by rw [← hl]; exact (List.getElem?_eq_some_iff.1 h1).1
  refine step rfl ?_ (hk y (by simp [h1]) h2)
  simp only [evV, hx, hi, h0, hlt, and_self, if_true, esz0, Nat.zero_add, Nat.mul_one]

theorem evTs_ald {τ : Type} {enc : τ → AV} [IsEnc 0 enc] {b i : Nat} {xs : List τ} (y : τ) {a : Od} (ha : a.ev s = .ptr b i) (hb : h[b]? = some (.cel (xs.map enc))) (hy : (xs.map enc)[i]? = some (enc y))
    (hk : evTs F is K ⟨put? s d (enc y), h⟩) : evTs F (Ins.mk d none (.load 0 a) :: is) K ⟨s, h⟩ := by
  refine step rfl ?_ hk
  simp only [evV, ha, hb, pick0, hy, Option.map_some]

theorem splice_one {cs : List AV} {o : Nat} {v : AV} (hv : v.fits 0 = true) : splice cs o v = cs.set o v := by
  cases v <;> first | rfl | (simp [AV.fits, AV.one] at hv; done)

theorem evTs_ast {τ : Type} {enc : τ → AV} [IsEnc 0 enc] {b i : Nat} {xs : List τ} (y : τ) {v : AV} {a x : Od} (ha : a.ev s = .ptr b i) (hb : h[b]? = some (.cel (xs.map enc))) (hy : (xs.map enc)[i]? = some v) (hx : x.ev s = enc y)
    (hk : evTs F is K ⟨put? s d .junk, h.set b (.cel ((xs.set i y).map enc))⟩) : evTs F (Ins.mk d none (.store 0 a x) :: is) K ⟨s, h⟩ := by
  refine step rfl ?_ hk
  have hf : (enc y).fits 0 = true := IsEnc.fits y
  have hlt := lt_map hy
  simp only [evV, ha, hb, hx, hf, if_true, esz0, List.length_map, splice_one hf, List.map_set]
  rw [if_pos (by omega)]

theorem elems0 : ∀ (ys : List AV), elems 0 ys.length ys = some ys
  | [] => rfl
  | y :: ys => by simp [elems, pick?, elems0 ys]

/-- The bytes of a whole array as a text. -/
theorem evTs_cstra {n : Nat} {xs : List Int} {kont : Unit → Option α} (H : (must? (xs.length = n)).bind kont = some r) {x : Od} {b : Nat} (hx : x.ev s = .arow 0 b 0 n) (hb : h[b]? = some (.cel (xs.map (AV.int .u8))))
    (hk : kont () = some r → evTs F is K ⟨put? s d (.str (xs.map b8)), h⟩) : evTs F (Ins.mk d none (.cstr x) :: is) K ⟨s, h⟩ := by
  obtain ⟨hl, h2⟩ := must_inv H
  subst hl
  refine step rfl ?_ (hk h2)
  have he : elems 0 xs.length ((xs.map (AV.int .u8)).drop 0) = some (xs.map (AV.int .u8)) := by
    have := elems0 (xs.map (AV.int .u8))
    rwa [List.length_map] at this
  have hp : (xs.map (AV.int .u8)).all (plain deep) = true := enc_all xs
  simp only [evV, hx, srcElems, hb, he, hp, if_true, bytesOf_map, Option.map_some]
end
end Go.Ab
