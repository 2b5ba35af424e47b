/-
  The abstract machine, forty-third part: plain laws: walks along a list, searches in an ordered list.
-/
import Derived.Test.YtkbjimfganeooaaAb42
set_option linter.unusedSimpArgs false
set_option linter.unusedVariables false
namespace Go.Ab
open Go

section
variable {S E A τ : Type}

/-- A walk along a list: each element makes a new state, or ends the walk. -/
def walkL (f : Nat → A → τ → A ⊕ E) (g : A → E) : Nat → A → List τ → E
  | _, a, [] => g a
  | k, a, x :: xs => match f k a x with
    | .inl a' => walkL f g (k + 1) a' xs
    | .inr e => e

/-- What a loop does in a round that f tells. -/
def roundL (mk : Nat → A → S) (k : Nat) : A ⊕ E → Ctl S E
  | .inl a => .next (mk (k + 1) a)
  | .inr e => .brk e

/-- A loop that walks along a list. -/
theorem run_walk {L : Lp S E} (xs : List τ) (mk : Nat → A → S) (f : Nat → A → τ → A ⊕ E) (g : A → E) (I : Nat → A → Prop)
    (hs : ∀ k a x, xs[k]? = some x → I k a → L.body (mk k a) = some (roundL mk k (f k a x)) ∧ ∀ a', f k a x = .inl a' → I (k + 1) a')
    (he : ∀ a, I xs.length a → L.body (mk xs.length a) = some (.brk (g a))) (a0 : A) (h0 : I 0 a0) : L.run (mk 0 a0) = some (walkL f g 0 a0 xs) := by
  have key : ∀ (m k : Nat) (a : A), k + m = xs.length → I k a → L.run (mk k a) = some (walkL f g k a (xs.drop k)) := by
    intro m
    induction m with
    | zero =>
      intro k a hk hI
      have : k = xs.length := by omega
      subst this
      rw [List.drop_length]
      exact iter_brk (he a hI)
    | succ m ih =>
      intro k a hk hI
      have hlt : k < xs.length := by omega
      obtain ⟨h1, h2⟩ := hs k a xs[k] (List.getElem?_eq_getElem hlt) hI
      rw [List.drop_eq_getElem_cons hlt]
      simp only [walkL]
      cases hf : f k a xs[k] with
      | inl a' =>
        rw [hf] at h1
        rw [show L.run (mk k a) = iter L.body (mk k a) from rfl, iter_next h1]
        exact ih (k + 1) a' (by omega) (h2 a' hf)
      | inr e =>
        rw [hf] at h1
        exact iter_brk h1
  exact key xs.length 0 a0 (by omega) h0

theorem at_lt {xs : List τ} {k : Nat} {x : τ} (h : xs[k]? = some x) : decide ((k : Int) < ((xs.length : Nat) : Int)) = true := by
  have := (List.getElem?_eq_some_iff.1 h).1
  simpa using this
theorem at_end {xs : List τ} : decide (((xs.length : Nat) : Int) < ((xs.length : Nat) : Int)) = false := by simp
theorem w64_succ {k : Nat} (h : k + 1 ≤ 9223372036854775807) : IntKind.i64.wrap ((k : Int) + 1) = ((k + 1 : Nat) : Int) := by rw [w64 (by omega) (by omega)]; rfl
theorem getElem?_lt {xs : List τ} {k : Nat} {x : τ} (h : xs[k]? = some x) : k < xs.length := (List.getElem?_eq_some_iff.1 h).1
theorem getElem?_mem {xs : List τ} {k : Nat} {x : τ} (h : xs[k]? = some x) : x ∈ xs := List.mem_of_getElem? h

/-- A walk that keeps some of the elements. -/
theorem walk_filter (p : τ → Bool) {E : Type} (g : List τ → E) : ∀ (xs : List τ) (k : Nat) (acc : List τ), walkL (fun _ a x => .inl (if p x then a ++ [x] else a)) g k acc xs = g (acc ++ xs.filter p)
  | [], _, acc => by simp [walkL]
  | x :: xs, k, acc => by
    simp only [walkL]
    rw [walk_filter p g xs]
    by_cases h : p x <;> simp [h]

/-- A walk that looks for an element. -/
theorem walk_find (p : τ → Bool) (e : Nat → τ → E) (g : Unit → E) : ∀ (xs : List τ) (k : Nat), walkL (fun k _ x => if p x then .inr (e k x) else .inl ()) g k () xs = match xs.findIdx? p with
    | none => g ()
    | some i => match xs[i]? with
      | some x => e (k + i) x
      | none => g ()
  | [], _ => by simp [walkL]
  | x :: xs, k => by
    simp only [walkL, List.findIdx?_cons]
    by_cases h : p x
    · simp [h]
    · simp only [h, Bool.false_eq_true, if_false]
      rw [walk_find p e g xs (k + 1)]
      cases hf : xs.findIdx? p with
      | none => rfl
      | some i =>
        simp only [Option.map_some, List.getElem?_cons_succ]
        rw [show k + 1 + i = k + (i + 1) by omega]

theorem del_some {xs : List τ} {i j : Int} (h : 0 ≤ i ∧ i ≤ j ∧ j ≤ xs.length) (hm : xs.length ≤ 9223372036854775807) : del? xs i j = some (xs.take i.toNat ++ xs.drop j.toNat) := by
  unfold del?; exact if_pos ⟨h.1, h.2.1, h.2.2, by unfold maxStr; omega⟩
theorem ins_some {bytes : Nat} {xs : List τ} {i : Int} {y : τ} (h : 0 ≤ i ∧ i ≤ xs.length) (hr : (xs.length + 1) * bytes ≤ 140737488355328) (hm : xs.length + 1 ≤ 9223372036854775807) : ins? bytes xs i y = some (xs.take i.toNat ++ (y :: xs.drop i.toNat)) := by
  unfold ins?; exact if_pos ⟨h.1, h.2, by unfold room; omega, by unfold maxStr; omega⟩
end

/-! ## slices.BinarySearchFunc -/

section
variable {τ : Type}

def midI (i j : Int) : Int := IntKind.i64.wrap (Int.fdiv (IntKind.u64.wrap (IntKind.i64.wrap (i + j))) (2 ^ (min (Int.toNat 1) (IntKind.bits .u64))))

theorem midI_eq {i j : Int} (h0 : 0 ≤ i) (h1 : i ≤ j) (h2 : j ≤ 4611686018427387903) : midI i j = (i + j) / 2 := by
  unfold midI
  have h6 : IntKind.i64.wrap (i + j) = i + j := w64 (by omega) (by omega)
  rw [h6]
  have h3 : IntKind.u64.wrap (i + j) = i + j := by
    simp only [IntKind.wrap, IntKind.signed, IntKind.bits, Bool.false_and, Bool.false_eq_true, if_false]
    omega
  rw [h3]
  have h4 : (min (Int.toNat 1) (IntKind.bits .u64)) = 1 := by decide
  rw [h4]
  have h5 : Int.fdiv (i + j) (2 ^ 1) = (i + j) / 2 := by
    rw [Int.fdiv_eq_ediv_of_nonneg _ (by omega)]
    rfl
  rw [h5, w64 (by omega) (by omega)]

/-- Where a value belongs in a list that is ordered: behind those that are less. -/
def posB (c : τ → Int) (xs : List τ) : Nat := (xs.takeWhile fun x => decide (c x < 0)).length
/-- Is the value there? -/
def hasB (c : τ → Int) (xs : List τ) : Bool := match xs[posB c xs]? with
  | some x => decide (c x = 0)
  | none => false

theorem posB_le (c : τ → Int) (xs : List τ) : posB c xs ≤ xs.length := List.takeWhile_prefix _ |>.length_le

theorem posB_cons_neg {c : τ → Int} {y : τ} {ys : List τ} (hy : c y < 0) : posB c (y :: ys) = posB c ys + 1 := by simp [posB, List.takeWhile_cons, hy]
theorem posB_cons_pos {c : τ → Int} {y : τ} {ys : List τ} (hy : ¬ c y < 0) : posB c (y :: ys) = 0 := by simp [posB, List.takeWhile_cons, hy]

theorem posB_lt {c : τ → Int} : ∀ {xs : List τ} {k : Nat} {x : τ}, k < posB c xs → xs[k]? = some x → c x < 0
  | [], k, x, _, hx => by simp at hx
  | y :: ys, k, x, h, hx => by
    by_cases hy : c y < 0
    · rw [posB_cons_neg hy] at h
      cases k with
      | zero => simp at hx; subst hx; exact hy
      | succ k => exact posB_lt (xs := ys) (k := k) (by omega) (by simpa using hx)
    · rw [posB_cons_pos hy] at h; omega

theorem posB_at {c : τ → Int} {xs : List τ} {x : τ} (hx : xs[posB c xs]? = some x) : 0 ≤ c x := by
  induction xs with
  | nil => simp at hx
  | cons y ys ih =>
    by_cases hy : c y < 0
    · have he : posB c (y :: ys) = posB c ys + 1 := by simp [posB, List.takeWhile_cons, hy]
      rw [he, List.getElem?_cons_succ] at hx
      exact ih hx
    · have he : posB c (y :: ys) = 0 := by simp [posB, List.takeWhile_cons, hy]
      rw [he] at hx
      simp at hx
      subst hx
      omega

theorem posB_ge {c : τ → Int} {xs : List τ} (hm : xs.Pairwise fun a b => c b < 0 → c a < 0) {k : Nat} {x : τ} (h : posB c xs ≤ k) (hx : xs[k]? = some x) : 0 ≤ c x := by
  by_cases he : k = posB c xs
  · subst he; exact posB_at hx
  · have hlt : posB c xs < k := by omega
    have hk := getElem?_lt hx
    have hp : posB c xs < xs.length := by omega
    have h1 := posB_at (c := c) (xs := xs) (List.getElem?_eq_getElem hp)
    by_cases hc : c x < 0
    · have h2 := List.pairwise_iff_getElem.1 hm (posB c xs) k hp hk hlt
      rw [(List.getElem?_eq_some_iff.1 hx).2] at h2
      exact absurd (h2 hc) (by omega)
    · omega

/-- The loop of slices.BinarySearchFunc. -/
theorem run_bsearch {L : Lp (Int × Int) Int} {xs : List τ} {cmp : τ → Option Int} {c : τ → Int}
    (hb : ∀ i j, L.body (i, j) = if decide (i < j) = true then (at? xs (midI i j)).bind fun x => (cmp x).bind fun r => (if decide (r < 0) = true then some (.next (IntKind.i64.wrap (midI i j + 1), j)) else some (.next (i, midI i j))) else some (.brk i))
    (hc : ∀ x ∈ xs, cmp x = some (c x)) (hm : xs.Pairwise fun a b => c b < 0 → c a < 0) (hl : xs.length ≤ 4611686018427387903) : L.run (0, ((xs.length : Nat) : Int)) = some (posB c xs : Int) := by
  have hp := posB_le c xs
  refine run_eq (L := L) (fun s => 0 ≤ s.1 ∧ s.1 ≤ s.2 ∧ s.2 ≤ xs.length ∧ s.1 ≤ posB c xs ∧ (posB c xs : Int) ≤ s.2) (fun s => (s.2 - s.1).toNat) ⟨by simp, by simp, by simp, by simp, by simpa using hp⟩ ?_
  rintro ⟨i, j⟩ ⟨h0, h1, h2, h3, h4⟩
  dsimp only at h0 h1 h2 h3 h4 ⊢
  rw [hb]
  by_cases hlt : i < j
  · left
    have hmid := midI_eq h0 h1 (by omega)
    rw [hmid]
    have hk : ((i + j) / 2).toNat < xs.length := by omega
    have hx := List.getElem?_eq_getElem hk
    rw [if_pos (by simpa using hlt), at_some (by omega) hx, Option.bind_some, hc _ (List.getElem_mem hk), Option.bind_some]
    by_cases hneg : c xs[((i + j) / 2).toNat] < 0
    · rw [if_pos (by simpa using hneg)]
      have hlt2 : ((i + j) / 2).toNat < posB c xs := by
        by_cases hh : ((i + j) / 2).toNat < posB c xs
        · exact hh
        · exact absurd (posB_ge hm (by omega) hx) (by omega)
      refine ⟨_, rfl, ?_, ?_⟩
      · rw [w64 (by omega) (by omega)]
        dsimp only
        omega
      · rw [w64 (by omega) (by omega)]
        dsimp only
        omega
    · rw [if_neg (by simpa using hneg)]
      have hle : posB c xs ≤ ((i + j) / 2).toNat := by
        by_cases hh : posB c xs ≤ ((i + j) / 2).toNat
        · exact hh
        · exact absurd (posB_lt (Nat.lt_of_not_le hh) hx) (by omega)
      refine ⟨_, rfl, ?_, ?_⟩
      · dsimp only; omega
      · dsimp only; omega
  · right
    rw [if_neg (by simpa using hlt)]
    congr 2
    omega
end
/-! ## Flags forgotten, within slices too -/

/-- As `unf`, within slices too. -/
def unfD : Nat → AV → AV
  | 0, v => v
  | n + 1, v => match v with
    | .sl e _ xs => .sl e false (xs.map (unfD n))
    | .agg cs => .agg (cs.map (unfD n))
    | .tup cs => .tup (cs.map (unfD n))
    | .fn f cs => .fn f (cs.map (unfD n))
    | .pro cs => .pro (cs.map (unfD n))
    | v => v

theorem one_unfD (n : Nat) (c : AV) : (unfD n c).one = c.one := by
  cases n with
  | zero => rfl
  | succ n => cases c <;> rfl

theorem onesB_unfD (n : Nat) (cs : List AV) : onesB (cs.map (unfD n)) = onesB cs := by
  simp only [onesB, List.all_map]
  congr 1
  funext c
  exact one_unfD n c

theorem fits_unfD (n e : Nat) (c : AV) : (unfD n c).fits e = c.fits e := by
  cases n with
  | zero => rfl
  | succ n => cases c <;> first | rfl | simp [unfD, AV.fits, onesB_unfD]

theorem RI.unfD {S : Nat → Nat → Prop} {w : World} : ∀ (n : Nat) {v : AV} {u : Value}, RI S w v u → RI S w (Ab.unfD n v) u
  | 0, _, _, h => h
  | n + 1, v, u, h => by
    have nth : ∀ {cs : List AV} {i : Nat} {c : AV}, (cs.map (Ab.unfD n))[i]? = some c → ∃ c', cs[i]? = some c' ∧ c = Ab.unfD n c' := fun {cs i c} hc => by
      simp only [List.getElem?_map, Option.map_eq_some_iff] at hc
      obtain ⟨c', hc', rfl⟩ := hc
      exact ⟨c', hc', rfl⟩
    cases h with
    | sl e full xs A cap g o uu hl hm hf hA hx hc hr =>
      have hlen : (xs.map (Ab.unfD n)).length = xs.length := List.length_map ..
      have main := RI.sl (S := S) (w := w) e false (xs.map (Ab.unfD n)) A cap g o uu (by omega) hm (fun h => by cases h) (hA.imp (fun h => by subst h; rfl) id) (fun i x hi => by
          obtain ⟨x', hx', rfl⟩ := nth hi
          rw [fits_unfD]; exact hx i x' hx')
        (fun i x hi j c hj => by
          obtain ⟨x', hx', rfl⟩ := nth hi
          exact hc i x' hx' j c hj)
        (fun i x hi => by
          obtain ⟨x', hx', rfl⟩ := nth hi
          exact (hr i x' hx').unfD n) (fun h => by cases h)
      rw [hlen] at main
      exact main
    | agg cs us hs hr =>
      refine .agg _ us (by simpa using hs) fun i c z hc hz => ?_
      obtain ⟨c', hc', rfl⟩ := nth hc
      exact (hr i c' z hc' hz).unfD n
    | tup cs us hs hr =>
      refine .tup _ us (by simpa using hs) fun i c z hc hz => ?_
      obtain ⟨c', hc', rfl⟩ := nth hc
      exact (hr i c' z hc' hz).unfD n
    | fn f cs us hs hr =>
      refine .fn f _ us (by simpa using hs) fun i c z hc hz => ?_
      obtain ⟨c', hc', rfl⟩ := nth hc
      exact (hr i c' z hc' hz).unfD n
    | pro cs g o uu hc hr =>
      refine .pro _ g o uu (fun i c hi => ?_) fun i c hi => ?_
      · obtain ⟨c', hc', rfl⟩ := nth hi
        exact hc i c' hc'
      · obtain ⟨c', hc', rfl⟩ := nth hi
        exact (hr i c' hc').unfD n
    | bool b => exact .bool b
    | int k n => exact .int k n
    | str s => exact .str s
    | nilp => exact .nilp
    | nilfn => exact .nilfn
    | nilmp => exact .nilmp
    | mp ks vs g es cl hS hg h1 h2 hk hv => exact .mp ks vs g es cl hS hg h1 h2 hk hv

theorem unfD_fr (n e : Nat) (xs : List AV) : unfD n (.fr e xs) = .fr e xs := by cases n <;> rfl

theorem ResOK.unfD {S : Nat → Nat → Prop} {w : World} {lo : Nat} {r : AV} {u : Value} (h : ResOK S w lo r u) : ResOK S w lo (Ab.unfD 12 r) u := by
  rcases h with h | ⟨e, xs, rfl, h⟩ | ⟨cs, us, rfl, rfl, hs, hall⟩
  · exact .inl (h.unfD 12)
  · exact .inr (.inl ⟨e, xs, unfD_fr _ _ _, h⟩)
  · refine .inr (.inr ⟨cs.map (Ab.unfD 11), us, rfl, rfl, by simpa using hs, fun i c v hc hv => ?_⟩)
    simp only [List.getElem?_map, Option.map_eq_some_iff] at hc
    obtain ⟨c', hc', rfl⟩ := hc
    rcases hall i c' v hc' hv with h | ⟨e, xs, rfl, h⟩
    · exact .inl (h.unfD 11)
    · exact .inr ⟨e, xs, unfD_fr _ _ _, h⟩

theorem Pure.walk3 {P : Program} {f n : Nat} {rs : List Rv} {ir : C} (hf : fd? P f = some (n, rs, ir)) (fresh : Option Nat) {args : List AV} (hn : args.length ≤ n) {v : AV} (hv : Ab.unr v = v)
    (hw : ∀ Q, Ends2 rs fresh (fun x => x = v ∨ Ab.unfD 12 x = v) Q → AW P n 0 ir Q ⟨slotsOf args, []⟩) : Pure P f args (· = v) := by
  have h1 : Pure P f args (fun r => Ab.unr r = v ∨ Ab.unfD 12 (Ab.unr r) = v) := Pure.of_code hf fresh hn ⟨v, .inl hv⟩ (hw _ fun _ _ v r h1 h2 h3 h4 => ⟨h1, v, r, h2, h3, h4⟩)
  have h2 := h1.unr (R' := fun r => r = v ∨ Ab.unfD 12 r = v) fun r hr => hr
  refine ⟨h2.1, ⟨v, rfl⟩, fun S w us k1 k2 k3 => Calls.mono (h2.2.2 S w us k1 k2 k3) ?_⟩
  rintro e w' ⟨u, S', r, rfl, hR, q1, q2, q3, q4, q5⟩
  rcases hR with rfl | hR
  · exact ⟨u, S', _, rfl, rfl, q1, q2, q3, q4, q5⟩
  · exact ⟨u, S', _, rfl, rfl, q1, q2, q3, q4, hR ▸ q5.unfD⟩
end Go.Ab
