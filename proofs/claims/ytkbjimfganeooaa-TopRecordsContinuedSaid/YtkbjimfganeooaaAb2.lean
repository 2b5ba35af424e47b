/-
  The abstract machine, second part: when an abstract value stands for a value of the model, in a world of the model; and what keeps that so.
-/
import Derived.Test.YtkbjimfganeooaaAb1
set_option linter.unusedSimpArgs false
set_option linter.unusedVariables false
namespace Go.Ab
open Go

/-- The abstract value, which holds no address of the abstract heap, stands for the value: S tells which cells (and maps) nobody writes any more. -/
inductive RI (S : Nat → Nat → Prop) (w : World) : AV → Value → Prop where
  | bool (b : Bool) : RI S w (.bool b) (.bool b)
  | int (k : IntKind) (n : Int) : RI S w (.int k n) (.int k n)
  | str (s : List UInt8) : RI S w (.str s) (.string ⟨s.toArray⟩)
  | nilp : RI S w .nilp (.pointer none)
  | nilfn : RI S w .nilfn .nilFunc
  | nilmp : RI S w .nilmp (.map none)
  | pro (cs : List AV) (g o : Nat) (u : Nat → Value) (hc : ∀ (i : Nat) c, cs[i]? = some c → S g (o + i) ∧ w.cell? ⟨g, o + i, none⟩ = some (u i))
      (hr : ∀ (i : Nat) c, cs[i]? = some c → RI S w c (u i)) : RI S w (.pro cs) (.pointer (some ⟨g, o, none⟩))
  | sl (e : Nat) (full : Bool) (xs : List AV) (A : Option Addr) (cap g o : Nat) (u : Nat → Value) (hl : xs.length ≤ cap) (hm : cap ≤ maxLen) (hf : full = true → cap = xs.length)
      (hA : xs = [] ∨ A = some ⟨g, o, none⟩) (hx : ∀ (i : Nat) x, xs[i]? = some x → AV.fits e x = true)
      (hc : ∀ (i : Nat) x, xs[i]? = some x → ∀ (j : Nat) c, (u i).cells[j]? = some c → S g (o + (i * esz e + j)) ∧ w.cell? ⟨g, o + (i * esz e + j), none⟩ = some c)
      (hr : ∀ (i : Nat) x, xs[i]? = some x → RI S w x (u i)) (hn : full = true → xs ≠ [] → ∀ k, w.frozen? ⟨g, k, none⟩ = false) : RI S w (.sl e full xs) (.slice A xs.length cap)
  | fn (f : Nat) (cs : List AV) (us : Array Value) (hs : us.size = cs.length) (hr : ∀ (i : Nat) c u, cs[i]? = some c → us[i]? = some u → RI S w c u) : RI S w (.fn f cs) (.func (.func f) #[] us)
  | agg (cs : List AV) (us : Array Value) (hs : us.size = cs.length) (hr : ∀ (i : Nat) c u, cs[i]? = some c → us[i]? = some u → RI S w c u) : RI S w (.agg cs) (.agg us)
  | tup (cs : List AV) (us : Array Value) (hs : us.size = cs.length) (hr : ∀ (i : Nat) c u, cs[i]? = some c → us[i]? = some u → RI S w c u) : RI S w (.tup cs) (.tuple us)
  | mp (ks vs : List AV) (g : Nat) (es : Array MapEntry) (cl : Nat) (hS : S g 0) (hg : w.heap[g]? = some (.map es cl)) (h1 : es.size = ks.length) (h2 : es.size = vs.length)
      (hk : ∀ (i : Nat) k (x : MapEntry), ks[i]? = some k → es[i]? = some x → RI S w k x.key) (hv : ∀ (i : Nat) v (x : MapEntry), vs[i]? = some v → es[i]? = some x → RI S w v x.val) :
      RI S w (.mp ks vs) (.map (some g))

/-- What nobody writes stays. -/
structure Kept (S S' : Nat → Nat → Prop) (w w' : World) : Prop where
  sub : ∀ g o, S g o → S' g o
  cell : ∀ g o, S g o → w'.cell? ⟨g, o, none⟩ = w.cell? ⟨g, o, none⟩
  map : ∀ g o es cl, S g o → w.heap[g]? = some (.map es cl) → w'.heap[g]? = some (.map es cl)
  frz : ∀ g o, S g o → ∀ k, w'.frozen? ⟨g, k, none⟩ = w.frozen? ⟨g, k, none⟩

theorem Kept.refl (S : Nat → Nat → Prop) (w : World) : Kept S S w w := ⟨fun _ _ h => h, fun _ _ _ => rfl, fun _ _ _ _ _ h => h, fun _ _ _ _ => rfl⟩
theorem Kept.trans {S S' S'' : Nat → Nat → Prop} {w w' w'' : World} (h : Kept S S' w w') (k : Kept S' S'' w' w'') : Kept S S'' w w'' :=
  ⟨fun g o s => k.sub g o (h.sub g o s), fun g o s => (k.cell g o (h.sub g o s)).trans (h.cell g o s), fun g o es cl s e => k.map g o es cl (h.sub g o s) (h.map g o es cl s e),
    fun g o s j => (k.frz g o (h.sub g o s) j).trans (h.frz g o s j)⟩

/-- The blocks in which something is stable are as they were. -/
theorem Kept.of_block {S S' : Nat → Nat → Prop} {w w' : World} (hs : ∀ g o, S g o → S' g o) (h : ∀ g o, S g o → w'.heap[g]? = w.heap[g]?) : Kept S S' w w' :=
  ⟨hs, fun g o s => World.cell?_of_block (h g o s), fun g o _ _ s e => (h g o s).trans e, fun g o s k => World.frozen?_of_block (a := ⟨g, k, none⟩) (h g o s)⟩

/-- A value that fits has a first cell. -/
theorem RI.cell0 {S : Nat → Nat → Prop} {w : World} {v : AV} {u : Value} (hr : RI S w v u) {e : Nat} (hf : v.fits e = true) : ∃ c, u.cells[0]? = some c := by
  cases hr with
  | agg cs us hs _ =>
    simp only [AV.fits, Bool.and_eq_true, beq_iff_eq, bne_iff_ne] at hf
    have : 0 < us.size := by omega
    exact ⟨us[0], by show us[0]? = _; simp [this]⟩
  | tup cs us hs _ => simp [AV.fits, AV.one] at hf
  | _ => exact ⟨_, rfl⟩

theorem RI.kept {S S' : Nat → Nat → Prop} {w w' : World} (h : Kept S S' w w') {v : AV} {u : Value} (hr : RI S w v u) : RI S' w' v u := by
  induction hr with
  | bool b => exact .bool b
  | int k n => exact .int k n
  | str s => exact .str s
  | nilp => exact .nilp
  | nilfn => exact .nilfn
  | nilmp => exact .nilmp
  | pro cs g o u hc _ ih => exact .pro cs g o u (fun i c hi => ⟨h.sub _ _ (hc i c hi).1, (h.cell _ _ (hc i c hi).1).trans (hc i c hi).2⟩) ih
  | sl e full xs A cap g o u hl hm hf hA hx hc hr hn ih =>
    refine .sl e full xs A cap g o u hl hm hf hA hx (fun i x hi j c hj => ⟨h.sub _ _ (hc i x hi j c hj).1, (h.cell _ _ (hc i x hi j c hj).1).trans (hc i x hi j c hj).2⟩) ih (fun h1 h2 k => ?_)
    cases xs with
    | nil => exact absurd rfl h2
    | cons x xs =>
      obtain ⟨c, hc0⟩ : ∃ c, (u 0).cells[0]? = some c := (hr 0 x rfl).cell0 (hx 0 x rfl)
      exact (h.frz _ _ (hc 0 x rfl 0 c hc0).1 k).trans (hn h1 h2 k)
  | fn f cs us hs _ ih => exact .fn f cs us hs ih
  | agg cs us hs _ ih => exact .agg cs us hs ih
  | tup cs us hs _ ih => exact .tup cs us hs ih
  | mp ks vs g es cl hS hg h1 h2 _ _ ihk ihv => exact .mp ks vs g es cl (h.sub _ _ hS) (h.map _ _ _ _ hS hg) h1 h2 ihk ihv

/-- Where the abstract blocks lie: `rho b`: not yet there; an empty row without memory; a block. `ke b`: its elements' code; `ca b`: how many elements its memory has. -/
structure Env where
  S : Nat → Nat → Prop
  rho : Nat → Option (Option Nat)
  ke : Nat → Nat
  ca : Nat → Nat
  base : Nat

inductive RV (E : Env) (w : World) : AV → Value → Prop where
  | imm {v : AV} {u : Value} (h : RI E.S w v u) : RV E w v u
  | junk (u : Value) : RV E w .junk u
  | ptr (b off g : Nat) (h : E.rho b = some (some g)) : RV E w (.ptr b off) (.pointer (some ⟨g, off, none⟩))
  | eptr (b i off g : Nat) (h : E.rho b = some (some g)) : RV E w (.eptr b i off) (.pointer (some ⟨g, i * esz (E.ke b) + off, none⟩))
  | row0 (e b : Nat) (A : Option Addr) (h : E.rho b = some none) (he : E.ke b = e) : RV E w (.row e b 0 0) (.slice A 0 0)
  | row (e b off len g cap : Nat) (A : Option Addr) (h : E.rho b = some (some g)) (he : E.ke b = e) (hA : A = some ⟨g, off * esz e, none⟩ ∨ (off ≠ 0 ∧ len = 0))
      (hl : len ≤ cap) (hc : off + cap = E.ca b) (hm : E.ca b ≤ maxLen) : RV E w (.row e b off len) (.slice A len cap)
  | arow (e b off len g cap : Nat) (A : Option Addr) (h : E.rho b = some (some g)) (hA : A = some ⟨g, off, none⟩ ∨ len = 0)
      (hl : len ≤ cap) (hm : cap ≤ maxLen) : RV E w (.arow e b off len) (.slice A len cap)
  | crow0 (e b : Nat) (A : Option Addr) (h : E.rho b = some none) (he : E.ke b = e) : RV E w (.crow e b 0 0 0) (.slice A 0 0)
  | crow (e b off len g cap : Nat) (A : Option Addr) (h : E.rho b = some (some g)) (he : E.ke b = e) (hA : A = some ⟨g, off * esz e, none⟩ ∨ (off ≠ 0 ∧ cap = 0))
      (hl : len ≤ cap) (hc : off + cap = E.ca b) (hm : E.ca b ≤ maxLen) : RV E w (.crow e b off len cap) (.slice A len cap)
  | fn (f : Nat) (cs : List AV) (us : Array Value) (hs : us.size = cs.length) (hr : ∀ (i : Nat) c u, cs[i]? = some c → us[i]? = some u → RV E w c u) : RV E w (.fn f cs) (.func (.func f) #[] us)
  | agg (cs : List AV) (us : Array Value) (hs : us.size = cs.length) (hr : ∀ (i : Nat) c u, cs[i]? = some c → us[i]? = some u → RV E w c u) : RV E w (.agg cs) (.agg us)
  | tup (cs : List AV) (us : Array Value) (hs : us.size = cs.length) (hr : ∀ (i : Nat) c u, cs[i]? = some c → us[i]? = some u → RV E w c u) : RV E w (.tup cs) (.tuple us)
  | mref (b g : Nat) (h : E.rho b = some (some g)) : RV E w (.mref b) (.map (some g))

/-- Below B nothing has changed; no cell that was there has been frozen. -/
structure Blw (B : Nat) (w w' : World) : Prop where
  os : w'.os = w.os
  tape : w'.tape = w.tape
  output : w'.output = w.output
  size : w.heap.size ≤ w'.heap.size
  block : ∀ k, k < B → w'.heap[k]? = w.heap[k]?
  frz : ∀ a : Addr, a.block < w.heap.size → w'.frozen? a = w.frozen? a

theorem Blw.refl (B : Nat) (w : World) : Blw B w w := ⟨rfl, rfl, rfl, Nat.le_refl _, fun _ _ => rfl, fun _ _ => rfl⟩
theorem Blw.trans {B : Nat} {w w' w'' : World} (h : Blw B w w') (k : Blw B w' w'') : Blw B w w'' :=
  ⟨k.os.trans h.os, k.tape.trans h.tape, k.output.trans h.output, Nat.le_trans h.size k.size, fun i hi => (k.block i hi).trans (h.block i hi), fun a ha => (k.frz a (Nat.lt_of_lt_of_le ha h.size)).trans (h.frz a ha)⟩

/-- From one moment to a later one: the first n blocks are where they were; below the base nothing has changed. -/
structure Ext (n : Nat) (E : Env) (w : World) (E' : Env) (w' : World) : Prop where
  below : Blw E.base w w'
  base : E'.base = E.base
  kept : Kept E.S E'.S w w'
  new : ∀ g o, E'.S g o → E.S g o ∨ E.base ≤ g
  rho : ∀ b r, b < n → E.rho b = some r → E'.rho b = some r ∧ E'.ke b = E.ke b ∧ E'.ca b = E.ca b

theorem Ext.refl (n : Nat) (E : Env) (w : World) : Ext n E w E w := ⟨Blw.refl _ _, rfl, Kept.refl _ _, fun _ _ h => .inl h, fun _ _ _ h => ⟨h, rfl, rfl⟩⟩
theorem Ext.trans {n m : Nat} {E E' E'' : Env} {w w' w'' : World} (h : Ext n E w E' w') (k : Ext m E' w' E'' w'') (hm : n ≤ m) : Ext n E w E'' w'' := by
  refine ⟨h.below.trans (h.base ▸ k.below), k.base.trans h.base, h.kept.trans k.kept, fun g o s => ?_, fun b r hb e => ?_⟩
  · rcases k.new g o s with s | s
    · exact h.new g o s
    · exact .inr (h.base ▸ s)
  · obtain ⟨e1, e2, e3⟩ := h.rho b r hb e
    obtain ⟨f1, f2, f3⟩ := k.rho b r (Nat.lt_of_lt_of_le hb hm) e1
    exact ⟨f1, f2.trans e2, f3.trans e3⟩
theorem Ext.mono {n m : Nat} {E E' : Env} {w w' : World} (h : Ext n E w E' w') (hm : m ≤ n) : Ext m E w E' w' :=
  ⟨h.below, h.base, h.kept, h.new, fun b r hb e => h.rho b r (Nat.lt_of_lt_of_le hb hm) e⟩

theorem RV.ext {n : Nat} {E E' : Env} {w w' : World} (h : Ext n E w E' w') (hd : ∀ b r, E.rho b = some r → b < n) {v : AV} {u : Value} (hr : RV E w v u) : RV E' w' v u := by
  have key : ∀ b r, E.rho b = some r → E'.rho b = some r ∧ E'.ke b = E.ke b ∧ E'.ca b = E.ca b := fun b r e => h.rho b r (hd b r e) e
  induction hr with
  | imm h' => exact .imm (h'.kept h.kept)
  | junk u => exact .junk u
  | ptr b off g e => exact .ptr b off g (key _ _ e).1
  | eptr b i off g e => rw [← (key _ _ e).2.1]; exact .eptr b i off g (key _ _ e).1
  | row0 e b A hb he => exact .row0 e b A (key _ _ hb).1 ((key _ _ hb).2.1.trans he)
  | row e b off len g cap A hb he hA hl hc hm =>
    obtain ⟨k1, k2, k3⟩ := key _ _ hb
    exact .row e b off len g cap A k1 (k2.trans he) hA hl (k3 ▸ hc) (k3 ▸ hm)
  | arow e b off len g cap A hb hA hl hm => exact .arow e b off len g cap A (key _ _ hb).1 hA hl hm
  | crow0 e b A hb he => exact .crow0 e b A (key _ _ hb).1 ((key _ _ hb).2.1.trans he)
  | crow e b off len g cap A hb he hA hl hc hm =>
    obtain ⟨k1, k2, k3⟩ := key _ _ hb
    exact .crow e b off len g cap A k1 (k2.trans he) hA hl (k3 ▸ hc) (k3 ▸ hm)
  | fn f cs us hs _ ih => exact .fn f cs us hs ih
  | agg cs us hs _ ih => exact .agg cs us hs ih
  | tup cs us hs _ ih => exact .tup cs us hs ih
  | mref b g hb => exact .mref b g (key _ _ hb).1

/-- No cell of the block is frozen. -/
def Soft (vals : Array Value) (fz : Nat × Nat) : Prop := ∀ o, o < vals.size → ¬ (fz.1 ≤ o ∧ o < fz.2)

/-- What stands in a cell. -/
def Ok1 (c : AV) : Prop := c.one = true ∨ c = .junk

/-- Cells of the model stand for cells. -/
def CellsOK (E : Env) (w : World) (cs : List AV) (vals : Array Value) : Prop :=
  cs.length ≤ vals.size ∧ (∀ c ∈ cs, Ok1 c) ∧ ∀ (i : Nat) c u, cs[i]? = some c → vals[i]? = some u → RV E w c u

/-- Elements of one or more cells: what they look like. -/
def Shape (e : Nat) (x : AV) : Prop := if e = 0 then Ok1 x else ∃ cs, x = .agg cs ∧ cs.length = e ∧ ∀ c ∈ cs, Ok1 c

def ElsOK (E : Env) (w : World) (e : Nat) (xs : List AV) (vals : Array Value) : Prop :=
  xs.length * esz e ≤ vals.size ∧ ∀ (i : Nat) x, xs[i]? = some x → Shape e x ∧ ∃ u : Value, RV E w x u ∧ u.cells.size = esz e ∧ ∀ (j : Nat) c, u.cells[j]? = some c → vals[i * esz e + j]? = some c

/-- A block of the abstract heap stands for memory of the model. -/
def BOK (E : Env) (w : World) (b : Nat) : HB → Prop
  | .dead => True
  | .cel cs => ∃ g vals t fz, E.rho b = some (some g) ∧ w.heap[g]? = some (.cells vals t fz) ∧ Soft vals fz ∧ CellsOK E w cs vals
  | .els e xs => E.ke b = e ∧ ((E.rho b = some none ∧ xs = []) ∨ ∃ g vals t fz, E.rho b = some (some g) ∧ w.heap[g]? = some (.cells vals t fz) ∧ Soft vals fz ∧
      vals.size = E.ca b * esz e ∧ xs.length ≤ E.ca b ∧ E.ca b ≤ maxLen ∧ ElsOK E w e xs vals)
  | .map ks vs => ∃ g es cl, E.rho b = some (some g) ∧ w.heap[g]? = some (.map es cl) ∧ es.size = ks.length ∧ es.size = vs.length ∧
      (∀ (i : Nat) k (x : MapEntry), ks[i]? = some k → es[i]? = some x → RI E.S w k x.key) ∧ (∀ (i : Nat) v (x : MapEntry), vs[i]? = some v → es[i]? = some x → RI E.S w v x.val)

def HB.alive : HB → Prop
  | .dead => False
  | _ => True

/-- The abstract heap stands for the world's blocks. -/
structure HOK (E : Env) (h : Hp) (w : World) : Prop where
  blocks : ∀ (b : Nat) x, h[b]? = some x → BOK E w b x
  dom : ∀ b r, E.rho b = some r → b < h.length
  own : ∀ (b : Nat) x g, h[b]? = some x → x.alive → E.rho b = some (some g) → E.base ≤ g ∧ g < w.heap.size ∧ ∀ o, ¬ E.S g o
  inj : ∀ (b b' : Nat) x x' g, h[b]? = some x → h[b']? = some x' → x.alive → x'.alive → E.rho b = some (some g) → E.rho b' = some (some g) → b = b'
  old : ∀ g o, E.S g o → g < w.heap.size
  size : E.base ≤ w.heap.size

/-- Slots. -/
def SOK (E : Env) (w : World) (s : Nat → AV) (a : Act) : Prop := ∀ i, RV E w (s i) (a.tmps.getD i undef)

structure StOK (E : Env) (st : St) (a : Act) (w : World) : Prop where
  slots : SOK E w st.s a
  defers : a.defers = []
  heap : HOK E st.h w

theorem HOK.ext {E E' : Env} {h : Hp} {w w' : World} (hh : HOK E h w) (x : Ext h.length E w E' w') {v : AV} {u : Value} (hr : RV E w v u) : RV E' w' v u := hr.ext x hh.dom

theorem esz_pos (e : Nat) : 0 < esz e := by unfold esz; split <;> omega
@[simp] theorem esz_zero : esz 0 = 1 := rfl

end Go.Ab
