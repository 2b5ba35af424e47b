/-
  The abstract machine, thirty-first part: calls whose arguments lead to blocks, and whose results are new and flat; elements of rows.
-/
import Derived.Test.YtkbjimfganeooaaAb30
set_option linter.unusedSimpArgs false
set_option linter.unusedVariables false
namespace Go.Ab
open Go

/-- Is the result flat, or a new row of flat values? -/
def flatR : AV → Bool
  | .fr _ xs => xs.all (flat deep)
  | .tup cs => cs.all fun c => match c with
    | .fr _ xs => xs.all (flat deep)
    | c => flat deep c
  | v => flat deep v

class IsFlat {τ : Type} (enc : τ → AV) : Prop where
  flat : ∀ x, Ab.flat 4 (enc x) = true

instance (k : IntKind) : IsFlat (AV.int k) := ⟨fun _ => rfl⟩
instance : IsFlat AV.bool := ⟨fun _ => rfl⟩
instance : IsFlat AV.str := ⟨fun _ => rfl⟩

theorem flat_mono : ∀ (n m : Nat) (v : AV), flat n v = true → n ≤ m → flat m v = true
  | 0, _, _, h, _ => by simp [flat] at h
  | n + 1, 0, _, _, hl => by omega
  | n + 1, m + 1, v, h, hl => by
    cases v <;> simp only [flat] at h ⊢ <;> first
      | (cases h; done)
      | (rw [List.all_eq_true] at h ⊢
         exact fun c hc => flat_mono n m c (h c hc) (by omega))

theorem flat_all {τ : Type} {enc : τ → AV} [IsFlat enc] (xs : List τ) : (xs.map enc).all (flat deep) = true := by
  rw [List.all_eq_true]
  intro c hc
  obtain ⟨n, _, rfl⟩ := List.mem_map.1 hc
  exact flat_mono 4 deep _ (IsFlat.flat n) (by decide)

section
variable {P : Program}

theorem Fresh.flat {S S' : Nat → Nat → Prop} {w : World} {lo e : Nat} {xs : List AV} {u : Value} (h : Fresh S w lo e xs u) (hf : xs.all (Ab.flat deep) = true) (hS : ∀ g o, S' g o → g < lo) : Fresh S' w lo e xs u := by
  obtain ⟨A, cap, rfl, h⟩ := h
  refine ⟨A, cap, rfl, ?_⟩
  rcases h with h | ⟨g, vals, t, fz, rfl, hlo, k1, k2, k3, k4, k5, _, k7⟩
  · exact .inl h
  · refine .inr ⟨g, vals, t, fz, rfl, hlo, k1, k2, k3, k4, k5, fun o s => absurd (hS g o s) (by omega), fun i x hx => ?_⟩
    obtain ⟨s1, v, s2, s3⟩ := k7 i x hx
    rw [List.all_eq_true] at hf
    exact ⟨s1, v, flat_RI deep x v (hf x (List.mem_of_getElem? hx)) s2, s3⟩

theorem ResOK.flatR {S S' : Nat → Nat → Prop} {w : World} {lo : Nat} {r : AV} {u : Value} (h : ResOK S w lo r u) (hf : Ab.flatR r = true) (hS : ∀ g o, S' g o → g < lo) : ResOK S' w lo r u := by
  rcases h with h | ⟨e, xs, rfl, h⟩ | ⟨cs, us, rfl, rfl, hs, hall⟩
  · cases r with
    | fr e xs => cases h
    | tup cs =>
      cases h with
      | tup _ us hs hr =>
        refine .inl (.tup _ us hs fun i c z hc hz => ?_)
        have hi := hr i c z hc hz
        have hc' := List.all_eq_true.1 hf c (List.mem_of_getElem? hc)
        cases c with
        | fr e xs => cases hi
        | _ => exact flat_RI deep _ z hc' hi
    | _ => exact .inl (flat_RI deep _ u hf h)
  · exact .inr (.inl ⟨e, xs, rfl, h.flat hf hS⟩)
  · refine .inr (.inr ⟨cs, us, rfl, rfl, hs, fun i c z hc hz => ?_⟩)
    have hc' := List.all_eq_true.1 hf c (List.mem_of_getElem? hc)
    rcases hall i c z hc hz with hi | ⟨e, xs, rfl, hi⟩
    · cases c with
      | fr e xs => cases hi
      | _ => exact .inl (flat_RI deep _ z hc' hi)
    · exact .inr ⟨e, xs, rfl, hi.flat hc' hS⟩

/-- A call, of which the arguments may lead to blocks and the result is flat or a new row of flat values. -/
theorem Fn.pureR {f : Nat} {args as : List AV} {h h2 : Hp} {r v : AV} (hp : Pure P f as (· = r)) (hi : imm h deep (.tup args) = some (.tup as)) (hfl : flatR r = true) (ha : adopt h r = some (v, h2)) {K : AV → Hp → Prop} (hK : K v h2) : Fn P f args h K := by
  have hfz : ∃ h1, freeze h (.tup args) = some (.tup as, h1) := by
    by_cases hpl : plain deep (.tup args) = true
    · have := imm_plain h deep deep _ hpl (Nat.le_refl _)
      rw [this] at hi
      injection hi with hi
      exact ⟨h, by simp only [freeze, hpl, if_true]; rw [hi]⟩
    · exact ⟨_, by simp only [freeze, hpl, hi]; rfl⟩
  obtain ⟨h1, hf⟩ := hfz
  refine ⟨hp.1, ⟨v, h2, hK⟩, fun E w us hok hl hr => ?_⟩
  obtain ⟨E1, q1, q2, q3, q4, q5⟩ := freeze_ok hok (v := .tup args) (u := .tuple us) (.tup _ us hl hr) hf
  have q3' : us.size = as.length ∧ ∀ (i : Nat) c u, as[i]? = some c → us[i]? = some u → RI E1.S w c u := by
    cases q3 with | tup _ us hs hrr => exact ⟨hs, hrr⟩
  refine Calls.mono (hp.2.2 E1.S w us q1.old q3'.1 q3'.2) ?_
  rintro e w' ⟨u, S', r', rfl, rfl, hbelow, hkept, hnew, hold, hres⟩
  have m : More w w' := ⟨hbelow.os, hbelow.tape, hbelow.output, hbelow.size, hbelow.block, hbelow.frz⟩
  obtain ⟨g1, g2⟩ := hok.more m
  obtain ⟨E', p1, p2, p3⟩ := adopt_ok g1 (lo := w.heap.size) (fun b x g hx hal e => (hok.own b x g hx hal e).2.1) hok.size (hres.flatR hfl hok.old) ha
  exact ⟨u, E', v, h2, rfl, hK, p1, (g2 h.length).trans p2 (Nat.le_refl _), p3⟩

variable {is : List Ins} {K : St → Prop} {s : Nat → AV} {h : Hp} {d : Option Nat} {α β : Type} {r : α}

/-- A call that hands a row over, of flat values; its arguments may lead to blocks. -/
theorem evTs_frR {m : Option β} {kont : β → Option α} (H : m.bind kont = some r) {k : Nat} {as' : List AV} {enc : β → AV} (spec : ∀ y, m = some y → Pure P k as' (· = enc y))
    {f : Od} {as : List Od} {caps args ims : List AV} (hf : f.ev s = .fn k caps) (ha : as.map (Od.ev s) ++ caps = args) (him : imm h deep (.tup args) = some (.tup ims)) (hu : ims.map (unf 12) = as') (hfl : ∀ y, flatR (enc y) = true)
    {enc' : β → AV} {blk : β → HB} (hr : ∀ y, adopt h (enc y) = some (enc' y, h ++ [blk y]))
    (hk : ∀ y, kont y = some r → evTs (Fn P) is K ⟨put? s d (enc' y), h ++ [blk y]⟩) : evTs (Fn P) (Ins.mk d none (.call f as) :: is) K ⟨s, h⟩ := by
  obtain ⟨y, hy, h2⟩ := Option.bind_eq_some_iff.1 H
  refine evTs_call hf ?_
  subst hu
  rw [ha]
  exact Fn.pureR (spec y hy).args him (hfl y) (hr y) (hk y h2)
end

section
variable {F : CallF} {is : List Ins} {K : St → Prop} {s : Nat → AV} {h : Hp} {d : Option Nat} {α : Type} {r : α}

/-- An element of a row. -/
theorem evTs_atr {τ : Type} {xs : List τ} {i : Int} {kont : τ → Option α} (H : (at? xs i).bind kont = some r) {enc : τ → AV} {e b m : Nat} {k : IntKind} {x j : Od} (hx : x.ev s = .row e b 0 m) (hm : m = xs.length)
    (hi : j.ev s = .int k i) (hk : ∀ y, (xs.map enc)[i.toNat]? = some (enc y) → kont y = some r → evTs F is K ⟨put? s d (.eptr b i.toNat 0), h⟩) : evTs F (Ins.mk d none (.iaddr e x j) :: is) K ⟨s, h⟩ := by
  obtain ⟨y, h0, h1, h2⟩ := at_inv H
  subst hm
  have hlt : i.toNat < xs.length := (List.getElem?_eq_some_iff.1 h1).1
  refine step rfl ?_ (hk y (by simp [h1]) h2)
  simp only [evV, hx, hi, h0, if_true, hlt, and_self, Nat.zero_add]

/-- A part of a row from its beginning on. -/
theorem bin_shr (k k' : IntKind) (a b : Int) (hb : 0 ≤ b) : bin .shr (.int k a) (.int k' b) = some (.int k (a.fdiv (2 ^ (min b.toNat k.bits)))) := by
  simp [bin, isShift, shiftI]; omega
theorem bin_shl (k k' : IntKind) (a b : Int) (hb : 0 ≤ b) : bin .shl (.int k a) (.int k' b) = some (.int k (k.wrap (a * 2 ^ (min b.toNat k.bits)))) := by
  simp [bin, isShift, shiftI]; omega

theorem rest_shr {k k' : IntKind} {a b : Int} (hb : 0 ≤ b) (hk : rest F is K s d (some (.int k (a.fdiv (2 ^ (min b.toNat k.bits))), h))) : rest F is K s d (Option.map (fun v => (v, h)) (bin .shr (.int k a) (.int k' b))) := by
  rw [bin_shr _ _ _ _ hb]; exact hk
theorem rest_shl {k k' : IntKind} {a b : Int} (hb : 0 ≤ b) (hk : rest F is K s d (some (.int k (k.wrap (a * 2 ^ (min b.toNat k.bits))), h))) : rest F is K s d (Option.map (fun v => (v, h)) (bin .shl (.int k a) (.int k' b))) := by
  rw [bin_shl _ _ _ _ hb]; exact hk
theorem rest_and {k : IntKind} {a b : Int} (hk : rest F is K s d (some (wrapBits k (BitVec.ofInt k.bits a &&& BitVec.ofInt k.bits b), h))) : rest F is K s d (Option.map (fun v => (v, h)) (bin .and (.int k a) (.int k b))) := by
  simpa [bin, isShift, binI] using hk

open Classical in
/-- Is a slice nil? Of an empty one it isn't known: what follows must be the same. -/
noncomputable def nil? {τ : Type} (xs : List τ) (neg : Bool) (k : Bool → Option α) : Option α := if xs = [] then (if k true = k false then k true else none) else k neg

theorem nil_cons {τ : Type} {xs : List τ} {neg : Bool} {k : Bool → Option α} (h : xs ≠ []) : nil? xs neg k = k neg := by unfold nil?; rw [if_neg h]
theorem nil_nil {τ : Type} {neg : Bool} {k : Bool → Option α} (h : k true = k false) : nil? ([] : List τ) neg k = k true := by unfold nil?; rw [if_pos rfl, if_pos h]

theorem evTs_isnil {τ : Type} {xs : List τ} {neg : Bool} {k : Bool → Option α} (H : nil? xs neg k = some r) {enc : τ → AV} {e : Nat} {f : Bool} {x : Od} (hx : x.ev s = .sl e f (xs.map enc))
    (hk : ∀ b, k b = some r → evTs F is K ⟨put? s d (.bool b), h⟩) : evTs F (Ins.mk d none (.isnil neg x) :: is) K ⟨s, h⟩ := by
  simp only [evTs, evT, act, evO, hx]
  cases xs with
  | nil =>
    unfold nil? at H
    rw [if_pos rfl] at H
    split at H
    · rename_i he
      exact ⟨hk _ H, hk _ (he ▸ H)⟩
    · cases H
  | cons y ys =>
    rw [nil_cons (by simp)] at H
    exact hk _ H

theorem evTs_isnilr {τ : Type} {xs : List τ} {neg : Bool} {k : Bool → Option α} (H : nil? xs neg k = some r) {e b m : Nat} {x : Od} (hx : x.ev s = .row e b 0 m) (hm : m = xs.length)
    (hk : ∀ b, k b = some r → evTs F is K ⟨put? s d (.bool b), h⟩) : evTs F (Ins.mk d none (.isnil neg x) :: is) K ⟨s, h⟩ := by
  subst hm
  simp only [evTs, evT, act, evO, hx]
  cases xs with
  | nil =>
    unfold nil? at H
    rw [if_pos rfl] at H
    split at H
    · rename_i he
      exact ⟨hk _ H, hk _ (he ▸ H)⟩
    · cases H
  | cons y ys =>
    rw [nil_cons (by simp)] at H
    exact hk _ H

/-- A number as a byte. -/
def b8 (n : Int) : UInt8 := UInt8.ofNat n.toNat

theorem bytesOf_map (xs : List Int) : bytesOf (xs.map (AV.int .u8)) = some (xs.map b8) := by
  induction xs with
  | nil => rfl
  | cons x xs ih => simp [bytesOf, ih, b8]

theorem evTs_cstr {xs : List Int} {f : Bool} {x : Od} (hx : x.ev s = .sl 0 f (xs.map (AV.int .u8))) (hk : evTs F is K ⟨put? s d (.str (xs.map b8)), h⟩) : evTs F (Ins.mk d none (.cstr x) :: is) K ⟨s, h⟩ := by
  refine step rfl ?_ hk
  simp only [evV, hx, srcElems, if_true, bytesOf_map, Option.map_some]

theorem evTs_cstrr {xs : List Int} {b m : Nat} {x : Od} (hx : x.ev s = .row 0 b 0 m) (hm : m = xs.length) (hb : h[b]? = some (.els 0 (xs.map (AV.int .u8)))) (hk : evTs F is K ⟨put? s d (.str (xs.map b8)), h⟩) : evTs F (Ins.mk d none (.cstr x) :: is) K ⟨s, h⟩ := by
  subst hm
  refine step rfl ?_ hk
  have h1 : ((xs.map (AV.int .u8)).drop 0).take xs.length = xs.map (AV.int .u8) := take_map_len _ _
  have h2 : (xs.map (AV.int .u8)).all (plain deep) = true := enc_all xs
  simp only [evV, hx, srcElems, hb, h1, h2, and_self, Nat.zero_add, List.length_map, Nat.le_refl, if_true, bytesOf_map, Option.map_some]
end
end Go.Ab
