/-
  The abstract machine, twenty-fourth part: results that are rows, taken over or only read.
-/
import Derived.Test.YtkbjimfganeooaaAb23
set_option linter.unusedSimpArgs false
set_option linter.unusedVariables false
namespace Go.Ab
open Go

variable {P : Program}

/-- A call that hands a row over, and a value beside it. -/
theorem Fn.fr {f : Nat} {args : List AV} {h : Hp} {e : Nat} {xs : List AV} {v : AV} (hp : Pure P f args (· = .tup [.fr e xs, v])) (ha : plain deep (.tup args) = true) (hv : AV.isFr v = false) {K : AV → Hp → Prop}
    (hK : K (.tup [.row e h.length 0 xs.length, v]) (h ++ [.els e xs])) : Fn P f args h K := by
  refine Fn.pure hp (h1 := h) (as := args) (by simp [freeze, ha]) fun r hr => ⟨_, _, ?_, hK⟩
  subst hr
  have h1 : flat deep (.tup [.fr e xs, v]) = false := rfl
  rw [h1]
  simp [adopt, adoptL, hv]

theorem Fn.fr1 {f : Nat} {args : List AV} {h : Hp} {e : Nat} {xs : List AV} (hp : Pure P f args (· = .fr e xs)) (ha : plain deep (.tup args) = true) {K : AV → Hp → Prop}
    (hK : K (.row e h.length 0 xs.length) (h ++ [.els e xs])) : Fn P f args h K := by
  refine Fn.pure hp (h1 := h) (as := args) (by simp [freeze, ha]) fun r hr => ⟨_, _, ?_, hK⟩
  subst hr
  have h1 : flat deep (.fr e xs) = false := rfl
  rw [h1]
  simp [adopt]

/-- The same, where arguments lead to blocks, which are given up. -/
theorem Fn.frF {f : Nat} {args as : List AV} {h h1 : Hp} {e : Nat} {xs : List AV} {v : AV} (hf : freeze h (.tup args) = some (.tup as, h1)) (hp : Pure P f as (· = .tup [.fr e xs, v])) (hv : AV.isFr v = false) {K : AV → Hp → Prop}
    (hK : K (.tup [.row e h1.length 0 xs.length, v]) (h1 ++ [.els e xs])) : Fn P f args h K := by
  refine Fn.pure hp hf fun r hr => ⟨_, _, ?_, hK⟩
  subst hr
  have h1 : flat deep (.tup [.fr e xs, v]) = false := rfl
  rw [h1]
  simp [adopt, adoptL, hv]

/-- A row in new memory, as one that is only read. -/
theorem Fresh.sl {S : Nat → Nat → Prop} {w : World} {lo e : Nat} {xs : List AV} {u : Value} (hf : Fresh S w lo e xs u) (hx : ∀ x ∈ xs, x.fits e = true) : RI (fun g o => S g o ∨ (lo ≤ g ∧ g < w.heap.size)) w (.sl e false xs) u := by
  obtain ⟨A, cap, rfl, hf⟩ := hf
  have hk : Kept S (fun g o => S g o ∨ (lo ≤ g ∧ g < w.heap.size)) w w := ⟨fun _ _ h => .inl h, fun _ _ _ => rfl, fun _ _ _ _ _ h => h, fun _ _ _ _ => rfl⟩
  have hfit : ∀ (i : Nat) x, xs[i]? = some x → x.fits e = true := fun i x hi => hx x (List.mem_of_getElem? hi)
  rcases hf with ⟨rfl, rfl⟩ | ⟨g, vals, t, fz, rfl, hlo, hg, hs, hv, hl, hm, _, hel⟩
  · exact .sl e false [] A 0 0 0 (fun _ => undef) (Nat.le_refl _) (Nat.zero_le _) (fun _ => rfl) (.inl rfl) (fun i x hi => by simp at hi) (fun i x hi => by simp at hi) (fun i x hi => by simp at hi) (fun _ h => absurd rfl h)
  · obtain ⟨uf, huf⟩ := choose_uf (xs := xs) (Q := fun i x v => Shape e x ∧ RI S w x v ∧ v.cells.size = esz e ∧ ∀ (j : Nat) c, v.cells[j]? = some c → vals[i * esz e + j]? = some c) (fun i x hi => by
      obtain ⟨s1, v, s2, s3, s4⟩ := hel i x hi
      exact ⟨v, s1, s2, s3, s4⟩)
    have hgl : g < w.heap.size := (Array.getElem?_eq_some_iff.1 hg).1
    refine .sl e false xs _ cap g 0 uf hl hm (fun h => by cases h) (.inr rfl) hfit (fun i x hi j c hj => ⟨.inr ⟨hlo, hgl⟩, ?_⟩) (fun i x hi => (huf i x hi).2.1.kept hk) (fun h => by cases h)
    rw [cell_vals hg, Nat.zero_add]
    exact (huf i x hi).2.2.2 j c hj

/-- The same call, of which the row is only read. -/
theorem Pure.unfresh {f : Nat} {args : List AV} {e : Nat} {xs : List AV} {v : AV} (hp : Pure P f args (· = .tup [.fr e xs, v])) (hx : ∀ x ∈ xs, x.fits e = true) (hv : AV.isFr v = false) : Pure P f args (· = .tup [.sl e false xs, v]) := by
  refine ⟨hp.1, ⟨_, rfl⟩, fun S w us h1 h2 h3 => Calls.mono (hp.2.2 S w us h1 h2 h3) ?_⟩
  rintro e' w' ⟨u, S', r, rfl, rfl, hb, hk, hn, ho, hres⟩
  have hkk : Kept S' (fun g o => S' g o ∨ (w.heap.size ≤ g ∧ g < w'.heap.size)) w' w' := ⟨fun _ _ h => .inl h, fun _ _ _ => rfl, fun _ _ _ _ _ h => h, fun _ _ _ _ => rfl⟩
  refine ⟨u, fun g o => S' g o ∨ (w.heap.size ≤ g ∧ g < w'.heap.size), _, rfl, rfl, hb, hk.trans hkk, fun g o s => ?_, fun g o s => ?_, .inl ?_⟩
  · rcases s with s | s
    · exact hn g o s
    · exact .inr s.1
  · rcases s with s | s
    · exact ho g o s
    · exact s.2
  · rcases hres with hres | ⟨_, _, hh, _⟩ | ⟨cs, us', hh, rfl, hs, hall⟩
    · cases hres with
      | tup _ us' hs hr =>
        have hpos : 0 < us'.size := by simp at hs; omega
        cases hr 0 _ _ rfl (Array.getElem?_eq_getElem hpos)
    · cases hh
    · injection hh with hh; subst hh
      refine .tup _ us' (by simpa using hs) fun i c z hc hz => ?_
      match i, hc with
      | 0, hc =>
        simp only [List.getElem?_cons_zero, Option.some.injEq] at hc
        subst hc
        rcases hall 0 _ z rfl hz with h | ⟨e2, xs2, h, hfr⟩
        · cases h
        · injection h with h1 h2; subst h1; subst h2
          exact hfr.sl hx
      | 1, hc =>
        simp only [List.getElem?_cons_succ, List.getElem?_cons_zero, Option.some.injEq] at hc
        subst hc
        rcases hall 1 _ z rfl hz with h | ⟨e2, xs2, h, _⟩
        · exact h.kept hkk
        · subst h; cases hv
      | i + 2, hc => simp at hc

theorem fits_ints (k : IntKind) (ns : List Int) : ∀ x ∈ ns.map (AV.int k), x.fits 0 = true := fun x hx => by
  obtain ⟨n, _, rfl⟩ := List.mem_map.1 hx
  rfl

theorem cells_int (k : IntKind) (n : Int) : (AV.int k n).cells = [.int k n] := Eq.trans rfl rfl
theorem cells_str (s : List UInt8) : (AV.str s).cells = [.str s] := Eq.trans rfl rfl
theorem cells_bool (b : Bool) : (AV.bool b).cells = [.bool b] := Eq.trans rfl rfl
theorem cells_sl (e : Nat) (f : Bool) (xs : List AV) : (AV.sl e f xs).cells = [.sl e f xs] := Eq.trans rfl rfl
theorem cells_agg (cs : List AV) : (AV.agg cs).cells = cs := Eq.trans rfl rfl
theorem one_int (k : IntKind) (n : Int) : (AV.int k n).one = true := Eq.trans rfl rfl
theorem one_str (s : List UInt8) : (AV.str s).one = true := Eq.trans rfl rfl
theorem one_bool (b : Bool) : (AV.bool b).one = true := Eq.trans rfl rfl
theorem one_sl (e : Nat) (f : Bool) (xs : List AV) : (AV.sl e f xs).one = true := Eq.trans rfl rfl
theorem one_row (e b o l : Nat) : (AV.row e b o l).one = true := Eq.trans rfl rfl
theorem onesB_nil : onesB [] = true := Eq.trans rfl rfl
theorem onesB_cons (c : AV) (cs : List AV) : onesB (c :: cs) = (c.one && onesB cs) := Eq.trans rfl rfl
theorem expand_nil : expand [] = [] := Eq.trans rfl rfl
theorem expand_cons (n : Nat) (v : AV) (z : List (Nat × AV)) : expand ((n, v) :: z) = List.replicate n v ++ expand z := Eq.trans rfl rfl
theorem splice_int (cs : List AV) (o : Nat) (k : IntKind) (n : Int) : splice cs o (.int k n) = cs.set o (.int k n) := Eq.trans rfl rfl
theorem splice_str (cs : List AV) (o : Nat) (s : List UInt8) : splice cs o (.str s) = cs.set o (.str s) := Eq.trans rfl rfl
theorem splice_bool (cs : List AV) (o : Nat) (b : Bool) : splice cs o (.bool b) = cs.set o (.bool b) := Eq.trans rfl rfl
theorem splice_sl (cs : List AV) (o e : Nat) (f : Bool) (xs : List AV) : splice cs o (.sl e f xs) = cs.set o (.sl e f xs) := Eq.trans rfl rfl
theorem splice_row (cs : List AV) (o e b p l : Nat) : splice cs o (.row e b p l) = cs.set o (.row e b p l) := Eq.trans rfl rfl
theorem splice_agg (cs : List AV) (o : Nat) (us : List AV) : splice cs o (.agg us) = cs.take o ++ us ++ cs.drop (o + us.length) := Eq.trans rfl rfl
theorem fits_sl (e : Nat) (f : Bool) (xs : List AV) : (AV.sl e f xs).fits 0 = true := Eq.trans rfl rfl
theorem fits_row (e b o l : Nat) : (AV.row e b o l).fits 0 = true := Eq.trans rfl rfl
theorem esz0 : esz 0 = 1 := Eq.trans rfl rfl
theorem pick0 (o : Nat) (cs : List AV) : pick? 0 o cs = cs[o]? := Eq.trans rfl rfl

end Go.Ab
