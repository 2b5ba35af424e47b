/-
  The abstract machine, forty-seventh part: a text appended to a slice of bytes.
-/
import Derived.Test.YtkbjimfganeooaaAb46
set_option linter.unusedSimpArgs false
set_option linter.unusedVariables false
namespace Go.Ab
open Go

section
variable {F : CallF} {is : List Ins} {K : St → Prop} {s : Nat → AV} {h : Hp} {d : Option Nat} {α : Type} {r : α}

theorem append_txt {hp : Hp} {bytes : Nat} {x : AV} (t : List UInt8) : append hp 0 bytes x (.str t) = append hp 0 bytes x (.sl 0 false ((b2i t).map (AV.int .u8))) := by
  simp only [append, srcElems, if_true, byteCells_map]

/-- Appending a text to a row of bytes. -/
theorem evTs_apps {bytes : Nat} {t : List UInt8} {xs : List Int} {kont : List Int → Option α} (H : (app? bytes xs (b2i t)).bind kont = some r) {enc : Int → AV} {b m : Nat} {x y : Od}
    (hx : x.ev s = .row 0 b 0 m) (hm : m = xs.length) (hb : h[b]? = some (.els 0 (xs.map enc))) (hy : y.ev s = .str t) 
    (hk : ∀ z, kont z = some r → evTs F is K ⟨put? s d (.row 0 h.length 0 z.length), h.set b .dead ++ [.els 0 (z.map enc)]⟩) (he : enc = AV.int .u8 := by rfl) : evTs F (Ins.mk d none (.append 0 bytes x y) :: is) K ⟨s, h⟩ := by
  subst he
  obtain ⟨z, rfl, h1, h2, h3⟩ := app_inv H
  subst hm
  refine step rfl ?_ (hk _ h3)
  simp only [evV, hx, hy, append_txt]
  rw [append_row hb (by simp) (by simpa using h1) (by simpa using h2)]
  simp

/-- Appending a text to an empty slice of bytes. -/
theorem evTs_app0s {bytes : Nat} {t : List UInt8} {kont : List Int → Option α} (H : (app? bytes [] (b2i t)).bind kont = some r) {enc : Int → AV} {x y : Od}
    (hx : x.ev s = .sl 0 true []) (hy : y.ev s = .str t) 
    (hk : ∀ z, kont z = some r → evTs F is K ⟨put? s d (.row 0 h.length 0 z.length), h ++ [.els 0 (z.map enc)]⟩) (he : enc = AV.int .u8 := by rfl) : evTs F (Ins.mk d none (.append 0 bytes x y) :: is) K ⟨s, h⟩ := by
  subst he
  obtain ⟨z, rfl, h1, h2, h3⟩ := app_inv H
  refine step rfl ?_ (hk _ h3)
  simp only [List.length_nil, Nat.zero_add] at h1 h2
  simp only [evV, hx, hy, append_txt]
  simp [append, appendL, srcElems, h1, h2]
end
end Go.Ab
