/-
  The abstract machine, 55 of its parts: a verified evaluator over values (no program stands here).
-/
import Derived.Test.YtkbjimfganeooaaM4
import Derived.Lib.Join
import Derived.Lib.Bytealg
set_option linter.unusedSimpArgs false
set_option linter.unusedVariables false
namespace Go.Ab
open Go Go.RowKit
variable {P : Program}
def join? (xs : List (List UInt8)) (sep : List UInt8) : Option (List UInt8) := if xs.length ≤ 140737488355328 ∧ (Lib.join xs sep).length ≤ 140737488355328 then some (Lib.join xs sep) else none
structure JoinsS (P : Program) (k : Nat) : Prop where
  entered : Entered P k
  none : ∀ (a : Option Addr) (c : Nat) (sep : ByteArray) (w : World), Calls P k #[.slice a 0 c, .string sep] w fun e w' => e = .returned (.string ⟨#[]⟩) ∧ w' = w
  some : ∀ (bk o c : Nat) (xs : List ByteArray) (sep : ByteArray) (w : World), (∀ (j : Nat) x, xs[j]? = some x → w.cell? ⟨bk, o + j, Option.none⟩ = some (.string x)) → bk < w.heap.size → xs.length ≤ 140737488355328 → xs.length ≤ c →
    (Lib.join (xs.map (·.data.toList)) sep.data.toList).length ≤ 140737488355328 →
    Calls P k #[.slice (some ⟨bk, o, Option.none⟩) xs.length c, .string sep] w fun e w' => e = .returned (.string ⟨(Lib.join (xs.map (·.data.toList)) sep.data.toList).toArray⟩) ∧ Below w.heap.size w w'
theorem join_pure (hdr : ∀ w w' : World, Dr w w') {k : Nat} (hc : JoinsS P k) {xs : List (List UInt8)} {sep t : List UInt8} (H : join? xs sep = some t) : Pure P k [.sl 0 false (xs.map AV.str), .str sep] (· = .str t) := by
  unfold join? at H
  split at H
  case isFalse => cases H
  rename_i h
  obtain ⟨h1, h2⟩ := h
  injection H with H
  subst H
  refine ⟨hc.entered, ⟨_, rfl⟩, fun S w us hS hl hr => ?_⟩
  have key : Calls P k us w fun e w' => e = .returned (.string ⟨(Lib.join xs sep).toArray⟩) ∧ Below w.heap.size w w' := by
    obtain ⟨us⟩ := us
    match us, hl, hr with
    | [a, b], _, hr =>
      have ha := hr 0 (.sl 0 false (xs.map AV.str)) a rfl rfl
      have hb := hr 1 (.str sep) b rfl rfl
      cases hb
      cases ha with
      | sl _ _ _ A cap g o u hlc hm hf hA hx hcl hrr hn =>
        rw [List.length_map] at hlc ⊢
        by_cases hx0 : xs = []
        · subst hx0
          refine (hc.none A cap ⟨sep.toArray⟩ w).mono ?_
          rintro e w' ⟨rfl, rfl⟩
          exact ⟨rfl, Below.refl _ _⟩
        · have hA' : A = some ⟨g, o, none⟩ := by
            rcases hA with hA | hA
            · exact absurd (List.map_eq_nil_iff.1 hA) hx0
            · exact hA
          subst hA'
          have hcells : ∀ (j : Nat) x, (xs.map fun s => (⟨s.toArray⟩ : ByteArray))[j]? = some x → S g (o + j) ∧ w.cell? ⟨g, o + j, none⟩ = some (.string x) := fun j x hj => by
            rw [List.getElem?_map, Option.map_eq_some_iff] at hj
            obtain ⟨s, hs, rfl⟩ := hj
            have hj2 : (xs.map AV.str)[j]? = some (.str s) := by rw [List.getElem?_map, hs]; rfl
            have hu : u j = .string ⟨s.toArray⟩ := by
              have := hrr j _ hj2
              generalize u j = v at this
              cases this; rfl
            have := hcl j _ hj2 0 (.string ⟨s.toArray⟩) (by rw [hu]; rfl)
            simpa using this
          obtain ⟨s0, rest, rfl⟩ := List.exists_cons_of_ne_nil hx0
          have hbk := hS g o (by simpa using (hcells 0 _ rfl).1)
          have hmap : ((s0 :: rest).map fun s => (⟨s.toArray⟩ : ByteArray)).map (·.data.toList) = s0 :: rest := by rw [List.map_map]; exact List.map_id'' (fun _ => rfl) _
          have := hc.some g o cap ((s0 :: rest).map fun s => (⟨s.toArray⟩ : ByteArray)) ⟨sep.toArray⟩ w (fun j x hj => (hcells j x hj).2) hbk (by rw [List.length_map]; exact h1) (by rw [List.length_map]; exact hlc) (by rw [hmap]; exact h2)
          rw [hmap, List.length_map] at this
          exact this
  refine Calls.mono key ?_
  rintro e w' ⟨rfl, hb⟩
  refine ⟨_, S, .str (Lib.join xs sep), rfl, rfl, ⟨hb.os, hb.tape, hb.output, hb.size, hb.block, fun a ha => World.frozen?_of_block (hb.block _ ha), hdr _ _⟩, Kept.of_block (fun _ _ s => s) (fun g o s => hb.block _ (hS g o s)), fun _ _ s => .inl s, fun g o s => Nat.lt_of_lt_of_le (hS g o s) hb.size, .inl (.str _)⟩
def ixb? (s : List UInt8) (c : Int) : Option Int := some (Lib.indexByte s c.toNat.toUInt8)
structure IxbS (P : Program) (k : Nat) : Prop where
  entered : Entered P k
  run : ∀ (s : ByteArray) (c : Int) (w : World), Calls P k #[.string s, .int .u8 c] w fun e w' => e = .returned (.int .i64 (Lib.indexByte s.data.toList c.toNat.toUInt8)) ∧ w' = w
theorem ixb_pure (hdr : ∀ w w' : World, Dr w w') {k : Nat} (hc : IxbS P k) {s : List UInt8} {c r : Int} (H : ixb? s c = some r) : Pure P k [.str s, .int .u8 c] (· = .int .i64 r) := by
  injection H with H
  subst H
  refine Pure.of_calls hdr (u := .int .i64 (Lib.indexByte s c.toNat.toUInt8)) hc.entered (fun _ _ => .int _ _) fun S w us hl hr => ?_
  obtain ⟨us⟩ := us
  match us, hl, hr with
  | [a, b], _, hr =>
    have ha := hr 0 (.str s) a rfl rfl
    have hb := hr 1 (.int .u8 c) b rfl rfl
    cases ha
    cases hb
    refine (hc.run ⟨s.toArray⟩ c w).mono ?_
    rintro e w' ⟨rfl, rfl⟩
    exact ⟨rfl, Below.refl _ _⟩
end Go.Ab
