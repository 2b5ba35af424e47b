/-
  The abstract machine, thirty-eighth part: the library's functions that make room in a row.
-/
import Derived.Test.YtkbjimfganeooaaAb37
set_option linter.unusedSimpArgs false
set_option linter.unusedVariables false
namespace Go.Ab
open Go

variable {P : Program}

/-! ## slices.Insert -/

def insC0 (e bytes : Nat) (z : AV) (rot : Nat) : C := .cond (.t 16) (.seq (.reg [iI 17 (.mv (.t 0)), iI 6 (.mv (.t 17))]) .ret) (.skip)
def insC1 (e bytes : Nat) (z : AV) (rot : Nat) : C := .cond (.t 22) (.seq (.reg [iI 23 (.mv (.t 0)), iI 24 (.mv (.t 2)), iI 25 (.append e bytes (.t 23) (.t 24)), iI 6 (.mv (.t 25))]) .ret) (.skip)
def insC2 (e bytes : Nat) (z : AV) (rot : Nat) : C := .seq (.reg [iI 55 (.mv (.t 9)), iI 6 (.mv (.t 55))]) .ret
def insC3 (e bytes : Nat) (z : AV) (rot : Nat) : C := .seq (.reg [iI 46 (.mv (.t 9)), iI 47 (.mv (.t 1)), iI 48 (.mv (.t 7)), iI 49 (.bin .add (.t 47) (.t 48)), iI 50 (.slice e (.t 46) (some (.t 49)) none), iI 51 (.mv (.t 0)), iI 52 (.mv (.t 1)), iI 53 (.slice e (.t 51) (some (.t 52)) none), iI 54 (.copy e (.t 50) (.t 53))]) (insC2 e bytes z rot)
def insC4 (e bytes : Nat) (z : AV) (rot : Nat) : C := .seq (.reg [iI 41 (.mv (.t 9)), iI 42 (.mv (.t 1)), iI 43 (.slice e (.t 41) (some (.t 42)) none), iI 44 (.mv (.t 2)), iI 45 (.copy e (.t 43) (.t 44))]) (insC3 e bytes z rot)
def insC5 (e bytes : Nat) (z : AV) (rot : Nat) : C := .cond (.t 31) (.seq (.reg [iI 32 (.mv (.t 0)), iI 33 (.mv (.t 1)), iI 34 (.slice e (.t 32) none (some (.t 33))), iI 35 (.mv (.t 8)), iI 36 (.mv (.t 7)), iI 37 (.bin .add (.t 35) (.t 36)), iI 38 (.mv (.t 1)), iI 39 (.bin .sub (.t 37) (.t 38)), iI 40 (.appz e bytes z (.t 34) (.t 39)), iI 9 (.mv (.t 40))]) (insC4 e bytes z rot)) (.skip)
def insC6 (e bytes : Nat) (z : AV) (rot : Nat) : C := .seq (.reg [iI 83 (.mv (.t 0)), iI 6 (.mv (.t 83))]) .ret
def insC7 (e bytes : Nat) (z : AV) (rot : Nat) : C := .seq (.reg [iI 78 (.mv (.t 0)), iI 79 (.mv (.t 1)), iI 80 (.slice e (.t 78) (some (.t 79)) none), iI 81 (.mv (.t 2)), iI 82 (.copy e (.t 80) (.t 81))]) (insC6 e bytes z rot)
def insC8 (e bytes : Nat) (z : AV) (rot : Nat) : C := .cond (.t 68) (.seq (.reg [iI 69 (.mv (.t 0)), iI 70 (.mv (.t 1)), iI 71 (.mv (.t 7)), iI 72 (.bin .add (.t 70) (.t 71)), iI 73 (.slice e (.t 69) (some (.t 72)) none), iI 74 (.mv (.t 0)), iI 75 (.mv (.t 1)), iI 76 (.slice e (.t 74) (some (.t 75)) none), iI 77 (.copy e (.t 73) (.t 76))]) (insC7 e bytes z rot)) (.skip)
def insC9 (e bytes : Nat) (z : AV) (rot : Nat) : C := .seq (.reg [iI 94 (.mv (.t 0)), iI 6 (.mv (.t 94))]) .ret
def insC10 (e bytes : Nat) (z : AV) (rot : Nat) : C := .seq (.reg [iI 89 (.mv (.t 0)), iI 90 (.mv (.t 1)), iI 91 (.slice e (.t 89) (some (.t 90)) none), iI 92 (.mv (.t 7)), iI 93 (.call (.c (.fn rot [])) [(.t 91), (.t 92)])]) (insC9 e bytes z rot)
def insC11 (e bytes : Nat) (z : AV) (rot : Nat) : C := .seq (.reg [iI 84 (.mv (.t 0)), iI 85 (.mv (.t 8)), iI 86 (.slice e (.t 84) (some (.t 85)) none), iI 87 (.mv (.t 2)), iI 88 (.copy e (.t 86) (.t 87))]) (insC10 e bytes z rot)
def insC12 (e bytes : Nat) (z : AV) (rot : Nat) : C := .seq (.seq (.reg [iI 61 (.mv (.t 2)), iI 62 (.mv (.t 0)), iI 63 (.mv (.t 1)), iI 64 (.mv (.t 7)), iI 65 (.bin .add (.t 63) (.t 64)), iI 66 (.slice e (.t 62) (some (.t 65)) none), iI 67 (.ovl (.t 61) (.t 66)), iI 68 (.un .not (.t 67))]) (insC8 e bytes z rot)) (insC11 e bytes z rot)
def insC13 (e bytes : Nat) (z : AV) (rot : Nat) : C := .seq (.reg [iI 56 (.mv (.t 0)), iI 57 (.mv (.t 8)), iI 58 (.mv (.t 7)), iI 59 (.bin .add (.t 57) (.t 58)), iI 60 (.slice e (.t 56) none (some (.t 59))), iI 0 (.mv (.t 60))]) (insC12 e bytes z rot)
def insC14 (e bytes : Nat) (z : AV) (rot : Nat) : C := .seq (.seq (.reg [iI 26 (.mv (.t 8)), iI 27 (.mv (.t 7)), iI 28 (.bin .add (.t 26) (.t 27)), iI 29 (.mv (.t 0)), iI 30 (.cap (.t 29)), iI 31 (.bin .gtr (.t 28) (.t 30))]) (insC5 e bytes z rot)) (insC13 e bytes z rot)
def insC15 (e bytes : Nat) (z : AV) (rot : Nat) : C := .seq (.seq (.reg [iI 20 (.mv (.t 1)), iI 21 (.mv (.t 8)), iI 22 (.bin .eql (.t 20) (.t 21))]) (insC1 e bytes z rot)) (insC14 e bytes z rot)
def insC16 (e bytes : Nat) (z : AV) (rot : Nat) : C := .seq (.reg [iI 18 (.mv (.t 0)), iI 19 (.len 0 (.t 18)), iI 8 (.mv (.t 19))]) (insC15 e bytes z rot)
def insC17 (e bytes : Nat) (z : AV) (rot : Nat) : C := .seq (.seq (.reg [iI 15 (.mv (.t 7)), iI 16 (.bin .eql (.t 15) (.c (.int .i64 0)))]) (insC0 e bytes z rot)) (insC16 e bytes z rot)
def insC18 (e bytes : Nat) (z : AV) (rot : Nat) : C := .seq (.reg [iI 13 (.mv (.t 2)), iI 14 (.len 0 (.t 13)), iI 7 (.mv (.t 14))]) (insC17 e bytes z rot)
def insC19 (e bytes : Nat) (z : AV) (rot : Nat) : C := .seq (.reg [iI 10 (.mv (.t 0)), iI 11 (.mv (.t 1)), iI 12 (.slice e (.t 10) (some (.t 11)) none)]) (insC18 e bytes z rot)
/-- The code of slices.Insert. -/
def insC (e bytes : Nat) (z : AV) (rot : Nat) : C := .seq (.reg [iI 6 (.mv (.c (.sl e true [])))]) (insC19 e bytes z rot)

section
variable {n lo : Nat} {Q : Ex → St → Prop}

theorem bounds2_lo {s : Nat → AV} {n c a : Nat} {k : IntKind} {x : Od} (hx : x.ev s = .int k a) (h : a ≤ n) (h2 : n ≤ c) : bounds2 s n c (some x) none = some (a, n) := by
  simp only [bounds2, hx]
  rw [if_pos (by omega)]
  simp
theorem bounds2_hi {s : Nat → AV} {n c a : Nat} {k : IntKind} {x : Od} (hx : x.ev s = .int k a) (h : a ≤ c) : bounds2 s n c none (some x) = some (0, a) := by
  simp only [bounds2, hx]
  rw [if_pos (by omega)]
  simp
theorem bounds_lo {s : Nat → AV} {n a : Nat} {k : IntKind} {x : Od} (hx : x.ev s = .int k a) (h : a ≤ n) : bounds s n (some x) none = some (a, n) := by
  simp only [bounds, hx]
  rw [if_pos (by omega)]
  simp

theorem srcElems_sl {e : Nat} {f : Bool} {h : Hp} {xs : List AV} : srcElems e h (.sl e f xs) = some xs := by simp [srcElems]
theorem srcElems_row {e b off len : Nat} {h : Hp} {xs : List AV} (hb : h[b]? = some (.els e xs)) (hl : off + len ≤ xs.length) (hp : ((xs.drop off).take len).all (plain deep) = true) : srcElems e h (.row e b off len) = some ((xs.drop off).take len) := by
  simp only [srcElems, hb]
  rw [if_pos (by refine ⟨?_, ?_, hl, hp⟩ <;> trivial)]

theorem wrap_nat {n : Nat} (h : n ≤ maxStr) : IntKind.i64.wrap (n : Int) = n := by
  rw [IntKind.wrap_i64]
  unfold maxStr at h
  omega

/-- One step of a region. -/
theorem opStep {F : CallF} {is : List Ins} {K : St → Prop} {s : Nat → AV} {h : Hp} {d : Nat} {o : Op1} {v : AV} {h' : Hp} (hc : o.isCall = false) (hv : evV s h o = some (v, h')) (hk : evTs F is K ⟨put s d v, h'⟩) : evTs F (iI d o :: is) K ⟨s, h⟩ := step hc hv hk

theorem take_app {α : Type} {xs ys : List α} {i : Nat} (h : i ≤ xs.length) : (xs ++ ys).take i = xs.take i := by
  rw [List.take_append_of_le_length h]
theorem drop_app {α : Type} {xs ys : List α} {i : Nat} (h : i ≤ xs.length) : (xs ++ ys).drop i = xs.drop i ++ ys := by
  rw [List.drop_append_of_le_length h]


theorem slice_crow_lo {s : Nat → AV} {h : Hp} {e b off len cap a : Nat} {k : IntKind} {x j : Od} (hx : x.ev s = .crow e b off len cap) (hj : j.ev s = .int k a) (h1 : a ≤ len) (h2 : len ≤ cap) :
    evV s h (.slice e x (some j) none) = some (.crow e b (off + a) (len - a) (cap - a), h) := by
  simp only [evV, hx, if_true, bounds2_lo hj h1 h2, Option.map_some]
theorem slice_crow_hi {s : Nat → AV} {h : Hp} {e b off len cap a : Nat} {k : IntKind} {x j : Od} (hx : x.ev s = .crow e b off len cap) (hj : j.ev s = .int k a) (h1 : a ≤ cap) :
    evV s h (.slice e x none (some j)) = some (.crow e b off a cap, h) := by
  simp only [evV, hx, if_true, bounds2_hi hj h1, Option.map_some, Nat.add_zero, Nat.sub_zero]
theorem slice_row_lo {s : Nat → AV} {h : Hp} {e b off len a : Nat} {k : IntKind} {x j : Od} (hx : x.ev s = .row e b off len) (hj : j.ev s = .int k a) (h1 : a ≤ len) :
    evV s h (.slice e x (some j) none) = some (.row e b (off + a) (len - a), h) := by
  simp only [evV, hx, if_true, bounds_lo hj h1, Option.map_some]
theorem append_crow_fit {s : Nat → AV} {h : Hp} {e b len cap bytes : Nat} {x y : Od} {f : Bool} {xs ys : List AV} (hx : x.ev s = .crow e b 0 len cap) (hy : y.ev s = .sl e f ys) (hb : h[b]? = some (.els e xs)) (hl : len ≤ xs.length) (hc : cap = xs.length) (h0 : ys ≠ []) (hf : len + ys.length ≤ cap) :
    evV s h (.append e bytes x y) = some (.crow e b 0 (len + ys.length) cap, h.set b (.els e (xs.take len ++ (ys ++ xs.drop (len + ys.length))))) := by
  subst hc
  simp only [evV, append, hx, hy, srcElems_sl, appendL, hb]
  rw [if_pos (by refine ⟨?_, ?_, hl, ?_, .inl h0⟩ <;> trivial), if_pos hf]
theorem append_crow_grow {s : Nat → AV} {h : Hp} {e b len cap bytes : Nat} {x y : Od} {f : Bool} {xs ys : List AV} (hx : x.ev s = .crow e b 0 len cap) (hy : y.ev s = .sl e f ys) (hb : h[b]? = some (.els e xs)) (hl : len ≤ xs.length) (hc : cap = xs.length) (h0 : ys ≠ []) (hf : ¬ len + ys.length ≤ cap)
    (hr : (len + ys.length) * bytes ≤ room) (hm : len + ys.length ≤ maxStr) :
    evV s h (.append e bytes x y) = some (.row e h.length 0 (len + ys.length), h ++ [.els e (xs.take len ++ ys)]) := by
  subst hc
  simp only [evV, append, hx, hy, srcElems_sl, appendL, hb]
  rw [if_pos (by refine ⟨?_, ?_, hl, ?_, .inl h0⟩ <;> trivial), if_neg hf, if_pos ⟨hr, hm⟩]
theorem appz_crow_grow {s : Nat → AV} {h : Hp} {e b len cap bytes k : Nat} {x y : Od} {ik : IntKind} {z : AV} {xs : List AV} (hx : x.ev s = .crow e b 0 len cap) (hy : y.ev s = .int ik k) (hb : h[b]? = some (.els e xs)) (hl : len ≤ xs.length) (hc : cap = xs.length) (h0 : 0 < k) (hf : ¬ len + k ≤ cap)
    (hr : (len + k) * bytes ≤ room) (hm : len + k ≤ maxStr) :
    evV s h (.appz e bytes z x y) = some (.row e h.length 0 (len + k), h ++ [.els e (xs.take len ++ List.replicate k z)]) := by
  subst hc
  have hk : k * bytes ≤ room := Nat.le_trans (Nat.mul_le_mul_right _ (by omega)) hr
  have hne : List.replicate k z ≠ [] := fun h => by
    have := congrArg List.length h
    simp at this; omega
  simp only [evV, hx, hy, Int.toNat_natCast, appendL, hb, List.length_replicate]
  rw [if_pos ⟨by omega, by omega, hk⟩, if_pos (by refine ⟨?_, ?_, hl, ?_, .inl hne⟩ <;> trivial), if_neg hf, if_pos ⟨hr, hm⟩]
theorem copy_ok {s : Nat → AV} {h : Hp} {e b off len : Nat} {x y : Od} {xs ys : List AV} (hx : (x.ev s).rowOf = some (e, b, off, len)) (hy : srcElems e h ((y.ev s).cut len) = some ys) (hb : h[b]? = some (.els e xs)) (hl : off + len ≤ xs.length) :
    evV s h (.copy e x y) = some (.int .i64 (min len ys.length : Nat), h.set b (.els e (overwrite xs off (ys.take len)))) := by
  simp only [evV, hx, hy, copyTo, hb]
  rw [if_pos (by refine ⟨?_, ?_, hl⟩ <;> trivial)]

theorem ow_at {as bs : List AV} {ys : List AV} : overwrite (as ++ bs) as.length ys = as ++ (ys ++ bs.drop ys.length) := by
  unfold overwrite
  rw [List.take_left, List.drop_append, List.drop_of_length_le (Nat.le_add_right _ _), List.nil_append, Nat.add_sub_cancel_left]

theorem ow_fit {xs J : List AV} {y : AV} {i : Nat} (hi : i < xs.length) : overwrite (overwrite (xs ++ J) (i + 1) (xs.drop i)) i [y] = (xs.take i ++ (y :: xs.drop i)) ++ J.drop 1 := by
  obtain ⟨as, q, bs, rfl, rfl⟩ : ∃ as q bs, xs = as ++ q :: bs ∧ as.length = i := ⟨xs.take i, xs[i], xs.drop (i + 1), by rw [← List.drop_eq_getElem_cons hi, List.take_append_drop], by rw [List.length_take]; omega⟩
  have h1 : overwrite ((as ++ q :: bs) ++ J) (as.length + 1) (q :: bs) = (as ++ [q]) ++ ((q :: bs) ++ (bs ++ J).drop (q :: bs).length) := by
    have := ow_at (as := as ++ [q]) (bs := bs ++ J) (ys := q :: bs)
    simpa using this
  rw [List.drop_left, h1, List.append_assoc, ow_at]
  simp [List.drop_append]
theorem ow_grow {xs : List AV} {y z : AV} {i : Nat} (hi : i < xs.length) : overwrite (overwrite (xs.take i ++ List.replicate (xs.length + 1 - i) z) i [y]) (i + 1) (xs.drop i) = xs.take i ++ (y :: xs.drop i) := by
  obtain ⟨as, bs, rfl, rfl⟩ : ∃ as bs, xs = as ++ bs ∧ as.length = i := ⟨xs.take i, xs.drop i, (List.take_append_drop _ _).symm, by rw [List.length_take]; omega⟩
  obtain ⟨k, hk⟩ : ∃ k, (as ++ bs).length + 1 - as.length = k + 1 := ⟨bs.length, by rw [List.length_append]; omega⟩
  have hkb : k = bs.length := by rw [List.length_append] at hk; omega
  rw [List.take_left, List.drop_left, hk, ow_at]
  have := ow_at (as := as ++ [y]) (bs := List.replicate k z) (ys := bs)
  rw [List.length_append, List.length_singleton] at this
  rw [show as ++ ([y] ++ List.drop [y].length (List.replicate (k + 1) z)) = (as ++ [y]) ++ List.replicate k z by simp [List.replicate_succ], this]
  simp [hkb]

set_option maxHeartbeats 2000000 in
theorem insC_walk {e bytes b m c i rot : Nat} {z y : AV} {xs J : List AV} {h : Hp} (hm : m = xs.length) (hc : (xs ++ J).length = c) (hi : i ≤ m) (hb : h[b]? = some (.els e (xs ++ J))) (hmax : m + 1 ≤ maxStr) (hroom : (m + 1) * bytes ≤ room) (hp : xs.all (plain deep) = true)
    (hQ : ∀ st, ((st.s 6 = .crow e b 0 (m + 1) c ∧ ∃ J', st.h = h.set b (.els e ((xs.take i ++ (y :: xs.drop i)) ++ J'))) ∨ (st.s 6 = .row e h.length 0 (m + 1) ∧ st.h = h ++ [.els e (xs.take i ++ (y :: xs.drop i))])) → Q .ret st) :
    AW P n lo (insC e bytes z rot) Q ⟨slotsOf [.crow e b 0 m c, .int .i64 i, .sl e true [y]], h⟩ := by
  subst hm
  have hmc : xs.length ≤ c := by rw [← hc, List.length_append]; omega
  have hw1 : IntKind.i64.wrap ((xs.length : Int) + ((1 : Nat) : Int)) = ((xs.length + 1 : Nat) : Int) := by rw [← wrap_nat hmax]; rfl
  have hw2 : IntKind.i64.wrap ((i : Int) + ((1 : Nat) : Int)) = ((i + 1 : Nat) : Int) := by rw [← wrap_nat (show i + 1 ≤ maxStr by omega)]; rfl
  have hw3 : IntKind.i64.wrap (((xs.length + 1 : Nat) : Int) - (i : Int)) = ((xs.length + 1 - i : Nat) : Int) := by rw [← wrap_nat (show xs.length + 1 - i ≤ maxStr by omega)]; congr 1; omega
  unfold insC
  refine AW.rseq ?_
  simp only [iI, ↓wk, ↓wl, nc, evV, ↓reduceIte, Nat.reduceEqDiff, Nat.reduceSub, Nat.reduceAdd, hw1, hw2, hw3]
  unfold insC19
  refine AW.rseq ?_
  simp only [iI, ↓wk, ↓wl, nc, evV, ↓reduceIte, Nat.reduceEqDiff, Nat.reduceSub, Nat.reduceAdd, hw1, hw2, hw3]
  refine step rfl (slice_crow_lo rfl rfl hi hmc) ?_
  simp only [iI, ↓wk, ↓wl, nc, evV, ↓reduceIte, Nat.reduceEqDiff, Nat.reduceSub, Nat.reduceAdd, hw1, hw2, hw3]
  unfold insC18
  refine AW.rseq ?_
  simp only [iI, ↓wk, ↓wl, nc, evV, ↓reduceIte, Nat.reduceEqDiff, Nat.reduceSub, Nat.reduceAdd, hw1, hw2, hw3]
  unfold insC17
  refine AW.sseq ?_
  refine AW.rseq ?_
  simp only [iI, ↓wk, ↓wl, nc, evV, ↓reduceIte, Nat.reduceEqDiff, Nat.reduceSub, Nat.reduceAdd, hw1, hw2, hw3]
  unfold insC0
  refine AW.iff (by rfl) ?_
  refine AW.skip ?_
  refine seqQ.norm ?_
  unfold insC16
  refine AW.rseq ?_
  simp only [iI, ↓wk, ↓wl, nc, evV, ↓reduceIte, Nat.reduceEqDiff, Nat.reduceSub, Nat.reduceAdd, hw1, hw2, hw3]
  unfold insC15
  refine AW.sseq ?_
  refine AW.rseq ?_
  simp only [iI, ↓wk, ↓wl, nc, evV, ↓reduceIte, Nat.reduceEqDiff, Nat.reduceSub, Nat.reduceAdd, hw1, hw2, hw3]
  unfold insC1
  by_cases him : i = xs.length
  · refine AW.ift (by simp only [od_t, put_at]; simp [him]) ?_
    refine AW.rseq ?_
    simp only [iI, ↓wk, ↓wl, nc, evV, ↓reduceIte, Nat.reduceEqDiff, Nat.reduceSub, Nat.reduceAdd, hw1, hw2, hw3]
    by_cases hfit : xs.length + 1 ≤ c
    · refine step rfl (append_crow_fit rfl rfl hb (by rw [hc]; exact hmc) hc.symm (by simp) (by simpa using hfit)) ?_
      simp only [iI, ↓wk, ↓wl, nc, evV, ↓reduceIte, Nat.reduceEqDiff, Nat.reduceSub, Nat.reduceAdd, hw1, hw2, hw3]
      refine AW.ret ?_
      refine seqQ.ret ?_
      refine hQ _ (.inl ⟨rfl, J.drop 1, ?_⟩)
      subst him
      simp [Nat.add_comm]
    · refine step rfl (append_crow_grow rfl rfl hb (by rw [hc]; exact hmc) hc.symm (by simp) (by simpa using hfit) (by simpa using hroom) (by simpa using hmax)) ?_
      simp only [iI, ↓wk, ↓wl, nc, evV, ↓reduceIte, Nat.reduceEqDiff, Nat.reduceSub, Nat.reduceAdd, hw1, hw2, hw3]
      refine AW.ret ?_
      refine seqQ.ret ?_
      refine hQ _ (.inr ⟨rfl, ?_⟩)
      subst him
      simp
  refine AW.iff (by simp only [od_t, put_at]; simp; exact_mod_cast him) ?_
  refine AW.skip ?_
  refine seqQ.norm ?_
  have hlt : i < xs.length := by omega
  unfold insC14
  refine AW.sseq ?_
  refine AW.rseq ?_
  simp only [iI, ↓wk, ↓wl, nc, evV, ↓reduceIte, Nat.reduceEqDiff, Nat.reduceSub, Nat.reduceAdd, hw1, hw2, hw3]
  refine step rfl (v := .int .i64 c) (h' := h) rfl ?_
  simp only [iI, ↓wk, ↓wl, nc, evV, ↓reduceIte, Nat.reduceEqDiff, Nat.reduceSub, Nat.reduceAdd, hw1, hw2, hw3]
  unfold insC5
  by_cases hfit : xs.length + 1 ≤ c
  · refine AW.iff (by simp only [od_t, put_at]; simp; omega) ?_
    refine AW.skip ?_
    refine seqQ.norm ?_
    unfold insC13
    refine AW.rseq ?_
    simp only [iI, ↓wk, ↓wl, nc, evV, ↓reduceIte, Nat.reduceEqDiff, Nat.reduceSub, Nat.reduceAdd, hw1, hw2, hw3]
    refine step rfl (slice_crow_hi rfl rfl hfit) ?_
    simp only [iI, ↓wk, ↓wl, nc, evV, ↓reduceIte, Nat.reduceEqDiff, Nat.reduceSub, Nat.reduceAdd, hw1, hw2, hw3]
    unfold insC12
    refine AW.sseq ?_
    refine AW.rseq ?_
    simp only [iI, ↓wk, ↓wl, nc, evV, ↓reduceIte, Nat.reduceEqDiff, Nat.reduceSub, Nat.reduceAdd, hw1, hw2, hw3]
    refine step rfl (slice_crow_lo rfl rfl (by omega) (by omega)) ?_
    simp only [iI, ↓wk, ↓wl, nc, evV, ↓reduceIte, Nat.reduceEqDiff, Nat.reduceSub, Nat.reduceAdd, hw1, hw2, hw3]
    refine step rfl (v := .bool false) (h' := h) (by
      obtain ⟨k, hk⟩ : ∃ k, xs.length + 1 - (i + 1) = k + 1 := ⟨xs.length - i - 1, by omega⟩
      simp only [evV, ↓wk, ↓wl, ↓reduceIte, Nat.reduceEqDiff, AV.rowOf, hk, hb]) ?_
    simp only [iI, ↓wk, ↓wl, nc, evV, ↓reduceIte, Nat.reduceEqDiff, Nat.reduceSub, Nat.reduceAdd, hw1, hw2, hw3]
    unfold insC8
    refine AW.ift rfl ?_
    refine AW.rseq ?_
    simp only [iI, ↓wk, ↓wl, nc, evV, ↓reduceIte, Nat.reduceEqDiff, Nat.reduceSub, Nat.reduceAdd, hw1, hw2, hw3]
    refine step rfl (slice_crow_lo rfl rfl (by omega) (by omega)) ?_
    simp only [iI, ↓wk, ↓wl, nc, evV, ↓reduceIte, Nat.reduceEqDiff, Nat.reduceSub, Nat.reduceAdd, hw1, hw2, hw3]
    refine step rfl (slice_crow_lo rfl rfl (by omega) (by omega)) ?_
    simp only [iI, ↓wk, ↓wl, nc, evV, ↓reduceIte, Nat.reduceEqDiff, Nat.reduceSub, Nat.reduceAdd, hw1, hw2, hw3]
    have hsrc : srcElems e h (AV.cut (xs.length + 1 - (i + 1)) (.crow e b (0 + i) (xs.length + 1 - i) (c - i))) = some (xs.drop i) := by
      have hmin : min (xs.length + 1 - (i + 1)) (xs.length + 1 - i) = xs.length - i := by omega
      have hd : ((xs ++ J).drop (0 + i)).take (xs.length - i) = xs.drop i := by rw [Nat.zero_add, drop_app hi, List.take_append_of_le_length (by simp), List.take_of_length_le (by simp)]
      simp only [AV.cut, hmin]
      rw [srcElems_row hb (by rw [List.length_append]; omega) (by rw [hd]; exact List.all_eq_true.2 fun x hx => List.all_eq_true.1 hp x (List.mem_of_mem_drop hx)), hd]
    refine step rfl (copy_ok rfl hsrc hb (by rw [hc]; omega)) ?_
    simp only [iI, ↓wk, ↓wl, nc, evV, ↓reduceIte, Nat.reduceEqDiff, Nat.reduceSub, Nat.reduceAdd, hw1, hw2, hw3]
    unfold insC7
    refine AW.rseq ?_
    simp only [iI, ↓wk, ↓wl, nc, evV, ↓reduceIte, Nat.reduceEqDiff, Nat.reduceSub, Nat.reduceAdd, hw1, hw2, hw3]
    refine step rfl (slice_crow_lo rfl rfl (by omega) (by omega)) ?_
    simp only [iI, ↓wk, ↓wl, nc, evV, ↓reduceIte, Nat.reduceEqDiff, Nat.reduceSub, Nat.reduceAdd, hw1, hw2, hw3]
    have htk : (xs.drop i).take (xs.length + 1 - (i + 1)) = xs.drop i := List.take_of_length_le (by rw [List.length_drop]; omega)
    have hb2 : (h.set b (.els e (overwrite (xs ++ J) (0 + (i + 1)) ((xs.drop i).take (xs.length + 1 - (i + 1))))))[b]? = some (.els e (overwrite (xs ++ J) (i + 1) (xs.drop i))) := by rw [htk, Nat.zero_add]; exact getElem?_set_self' hb
    refine step rfl (copy_ok (ys := [y]) rfl srcElems_sl hb2 (by rw [overwrite_length _ _ (by rw [hc]; omega), hc]; omega)) ?_
    simp only [iI, ↓wk, ↓wl, nc, evV, ↓reduceIte, Nat.reduceEqDiff, Nat.reduceSub, Nat.reduceAdd, hw1, hw2, hw3]
    unfold insC6
    refine AW.rseq ?_
    simp only [iI, ↓wk, ↓wl, nc, evV, ↓reduceIte, Nat.reduceEqDiff, Nat.reduceSub, Nat.reduceAdd, hw1, hw2, hw3]
    refine AW.ret ?_
    refine seqQ.ret ?_
    refine hQ _ (.inl ⟨rfl, J.drop 1, ?_⟩)
    have ht1 : List.take (xs.length + 1 - i) [y] = [y] := List.take_of_length_le (by simp; omega)
    rw [List.set_set, Nat.zero_add, ht1, ow_fit hlt]
  · refine AW.ift (by simp only [od_t, put_at]; simp; omega) ?_
    refine AW.rseq ?_
    simp only [iI, ↓wk, ↓wl, nc, evV, ↓reduceIte, Nat.reduceEqDiff, Nat.reduceSub, Nat.reduceAdd, hw1, hw2, hw3]
    refine step rfl (slice_crow_hi rfl rfl (by omega)) ?_
    simp only [iI, ↓wk, ↓wl, nc, evV, ↓reduceIte, Nat.reduceEqDiff, Nat.reduceSub, Nat.reduceAdd, hw1, hw2, hw3]
    have hJ : J = [] := List.eq_nil_of_length_eq_zero (by rw [List.length_append] at hc; omega)
    subst hJ
    rw [List.append_nil] at hb hc
    refine step rfl (appz_crow_grow (k := xs.length + 1 - i) rfl rfl hb hi hc.symm (by omega) (by omega) (by rw [show i + (xs.length + 1 - i) = xs.length + 1 by omega]; exact hroom) (by omega)) ?_
    simp only [iI, ↓wk, ↓wl, nc, evV, ↓reduceIte, Nat.reduceEqDiff, Nat.reduceSub, Nat.reduceAdd, hw1, hw2, hw3]
    have hbl : b < h.length := (List.getElem?_eq_some_iff.1 hb).1
    have hnew : (h ++ [HB.els e (xs.take i ++ List.replicate (xs.length + 1 - i) z)])[h.length]? = some (.els e (xs.take i ++ List.replicate (xs.length + 1 - i) z)) := by simp
    have hln : (xs.take i ++ List.replicate (xs.length + 1 - i) z).length = xs.length + 1 := by simp; omega
    unfold insC4
    refine AW.rseq ?_
    simp only [iI, ↓wk, ↓wl, nc, evV, ↓reduceIte, Nat.reduceEqDiff, Nat.reduceSub, Nat.reduceAdd, hw1, hw2, hw3]
    refine step rfl (slice_row_lo rfl rfl (by omega)) ?_
    simp only [iI, ↓wk, ↓wl, nc, evV, ↓reduceIte, Nat.reduceEqDiff, Nat.reduceSub, Nat.reduceAdd, hw1, hw2, hw3]
    refine step rfl (copy_ok (ys := [y]) rfl srcElems_sl hnew (by rw [hln]; omega)) ?_
    simp only [iI, ↓wk, ↓wl, nc, evV, ↓reduceIte, Nat.reduceEqDiff, Nat.reduceSub, Nat.reduceAdd, hw1, hw2, hw3]
    have ht1 : List.take (i + (xs.length + 1 - i) - i) [y] = [y] := List.take_of_length_le (by simp; omega)
    rw [ht1, Nat.zero_add]
    have hb3 : ((h ++ [HB.els e (xs.take i ++ List.replicate (xs.length + 1 - i) z)]).set h.length (.els e (overwrite (xs.take i ++ List.replicate (xs.length + 1 - i) z) i [y])))[b]? = some (.els e xs) := by
      rw [List.getElem?_set_ne (by omega), List.getElem?_append_left hbl]; exact hb
    have hn3 : ((h ++ [HB.els e (xs.take i ++ List.replicate (xs.length + 1 - i) z)]).set h.length (.els e (overwrite (xs.take i ++ List.replicate (xs.length + 1 - i) z) i [y])))[h.length]? = some (.els e (overwrite (xs.take i ++ List.replicate (xs.length + 1 - i) z) i [y])) := getElem?_set_self' hnew
    unfold insC3
    refine AW.rseq ?_
    simp only [iI, ↓wk, ↓wl, nc, evV, ↓reduceIte, Nat.reduceEqDiff, Nat.reduceSub, Nat.reduceAdd, hw1, hw2, hw3]
    refine step rfl (slice_row_lo rfl rfl (by omega)) ?_
    simp only [iI, ↓wk, ↓wl, nc, evV, ↓reduceIte, Nat.reduceEqDiff, Nat.reduceSub, Nat.reduceAdd, hw1, hw2, hw3]
    refine step rfl (slice_crow_lo rfl rfl hi (by omega)) ?_
    simp only [iI, ↓wk, ↓wl, nc, evV, ↓reduceIte, Nat.reduceEqDiff, Nat.reduceSub, Nat.reduceAdd, hw1, hw2, hw3]
    have hsrc : srcElems e ((h ++ [HB.els e (xs.take i ++ List.replicate (xs.length + 1 - i) z)]).set h.length (.els e (overwrite (xs.take i ++ List.replicate (xs.length + 1 - i) z) i [y]))) (AV.cut (i + (xs.length + 1 - i) - (i + 1)) (.crow e b (0 + i) (xs.length - i) (c - i))) = some (xs.drop i) := by
      have hmin : min (i + (xs.length + 1 - i) - (i + 1)) (xs.length - i) = xs.length - i := by omega
      have hd : (xs.drop (0 + i)).take (xs.length - i) = xs.drop i := by rw [Nat.zero_add, List.take_of_length_le (by simp)]
      simp only [AV.cut, hmin]
      rw [srcElems_row hb3 (by omega) (by rw [hd]; exact List.all_eq_true.2 fun x hx => List.all_eq_true.1 hp x (List.mem_of_mem_drop hx)), hd]
    refine step rfl (copy_ok rfl hsrc hn3 (by rw [overwrite_length _ _ (by rw [hln]; omega), hln]; omega)) ?_
    simp only [iI, ↓wk, ↓wl, nc, evV, ↓reduceIte, Nat.reduceEqDiff, Nat.reduceSub, Nat.reduceAdd, hw1, hw2, hw3]
    unfold insC2
    refine AW.rseq ?_
    simp only [iI, ↓wk, ↓wl, nc, evV, ↓reduceIte, Nat.reduceEqDiff, Nat.reduceSub, Nat.reduceAdd, hw1, hw2, hw3]
    refine AW.ret ?_
    refine seqQ.ret ?_
    refine hQ _ (.inr ⟨?_, ?_⟩)
    · show AV.row e h.length 0 (i + (xs.length + 1 - i)) = _
      congr 1; omega
    · have htk : (xs.drop i).take (i + (xs.length + 1 - i) - (i + 1)) = xs.drop i := List.take_of_length_le (by rw [List.length_drop]; omega)
      rw [List.set_set, htk, Nat.zero_add, ow_grow hlt]
      simp
end

/-! ## Rows whose capacity becomes known -/

/-- An element that may be anything. -/
def junkE (e : Nat) : AV := if e = 0 then .junk else .agg (List.replicate e .junk)

theorem junk_el {E : Env} {w : World} {e : Nat} {vals : Array Value} {j : Nat} (hj : (j + 1) * esz e ≤ vals.size) :
    Shape e (junkE e) ∧ ∃ u : Value, RV E w (junkE e) u ∧ u.cells.size = esz e ∧ ∀ (k : Nat) c, u.cells[k]? = some c → vals[j * esz e + k]? = some c := by
  rw [Nat.succ_mul] at hj
  unfold junkE
  by_cases h0 : e = 0
  · subst h0
    simp only [esz_zero, Nat.mul_one] at hj ⊢
    have hl : j < vals.size := by omega
    refine ⟨by simp [Shape, Ok1], .agg #[vals[j]], .junk _, rfl, fun k c hc => ?_⟩
    have : k = 0 := by
      have := (Array.getElem?_eq_some_iff.1 hc).1
      simp [Value.cells] at this
      exact this
    subst this
    simp [Value.cells] at hc
    rw [Nat.add_zero, Array.getElem?_eq_getElem hl, hc]
  · have he : esz e = e := by unfold esz; rw [if_neg h0]
    rw [he] at hj ⊢
    simp only [if_neg h0]
    refine ⟨by unfold Shape; rw [if_neg h0]; exact ⟨_, rfl, by simp, fun c hc => .inr (List.eq_of_mem_replicate hc)⟩, .agg (vals.extract (j * e) (j * e + e)), ?_, ?_, ?_⟩
    · refine .agg _ _ (by simp; omega) fun i c u hc hu => ?_
      rw [List.eq_of_mem_replicate (List.mem_of_getElem? hc)]
      exact .junk _
    · show (vals.extract (j * e) (j * e + e)).size = e
      simp; omega
    · intro k c hc
      have hc' : (vals.extract (j * e) (j * e + e))[k]? = some c := hc
      rw [Array.getElem?_extract] at hc'
      split at hc'
      · exact hc'
      · cases hc'

theorem set_same {h : Hp} {b : Nat} {x : HB} (hb : h[b]? = some x) : h.set b x = h := by
  refine List.ext_getElem? fun i => ?_
  by_cases hi : i = b
  · subst hi; rw [getElem?_set_self' hb, hb]
  · rw [List.getElem?_set_ne (Ne.symm hi)]

/-- A row's block with all the elements that its memory has. -/
theorem HOK.widen {E : Env} {h : Hp} {w : World} (hok : HOK E h w) {b e : Nat} {xs : List AV} (hb : h[b]? = some (.els e xs)) {g : Nat} (hg : E.rho b = some (some g)) (hle : xs.length ≤ E.ca b) :
    HOK E (h.set b (.els e (xs ++ List.replicate (E.ca b - xs.length) (junkE e)))) w := by
  obtain ⟨hke, ⟨k0, _⟩ | ⟨g', vals, t', fz, k1, k2, k2', k3, k4, k5, k6, k7⟩⟩ := hok.blocks b _ hb
  · rw [k0] at hg; cases hg
  rw [hg] at k1; injection k1 with k1; injection k1 with k1; subst k1
  have hlen : (xs ++ List.replicate (E.ca b - xs.length) (junkE e)).length = E.ca b := by simp; omega
  refine hok.set hb trivial hg rfl rfl rfl (Nat.le_refl _) (fun _ _ _ => rfl) (fun _ => rfl) ⟨hke, .inr ⟨g, vals, t', fz, hg, k2, k2', k3, by omega, k5, by rw [hlen, k3]; exact Nat.le_refl _, fun i v hv => ?_⟩⟩
  by_cases hi : i < xs.length
  · rw [List.getElem?_append_left hi] at hv
    exact k7 i v hv
  · have hil := (List.getElem?_eq_some_iff.1 hv).1
    rw [List.getElem?_append_right (by omega)] at hv
    rw [List.eq_of_mem_replicate (List.mem_of_getElem? hv)]
    exact junk_el (by rw [k3]; exact Nat.mul_le_mul_right _ (by omega))

/-- A row as one of known capacity, whatever that is. -/
theorem AW.caps {n lo : Nat} {c : C} {Q : Ex → St → Prop} {st : St} {i e b m : Nat} {xs : List AV} (hi : st.s i = .row e b 0 m) (hm : m = xs.length) (hb : st.h[b]? = some (.els e xs))
    (h : ∀ cap, m ≤ cap → AW P n lo c Q ⟨put st.s i (.crow e b 0 m cap), st.h.set b (.els e (xs ++ List.replicate (cap - m) (junkE e)))⟩) : AW P n lo c Q st := fun c' hc E a w hst hn => by
  subst hm
  have hv := hst.slots i
  rw [hi] at hv
  have fin : ∀ cap, xs.length ≤ cap → RV E w (.crow e b 0 xs.length cap) (a.tmps.getD i undef) → HOK E (st.h.set b (.els e (xs ++ List.replicate (cap - xs.length) (junkE e)))) w → c'.wp P (Post n lo E w Q) a w := fun cap hcap hrv hok => by
    refine h cap hcap c' hc E a w ⟨fun j => ?_, hst.defers, hok⟩ hn
    by_cases hj : j = i
    · subst hj; simp only [put, if_true]; exact hrv
    · simp only [put, if_neg hj]; exact hst.slots j
  obtain ⟨hke, hrow⟩ := hv.row_inv
  rcases hrow with ⟨h0, _, hl0, A, hp⟩ | ⟨g, cap, A, hg, hp, hA, hl, hcc, hmx⟩
  · have hx : xs = [] := List.eq_nil_of_length_eq_zero hl0
    subst hx
    refine fin 0 (Nat.le_refl _) (by rw [hp]; exact .crow0 e b A h0 hke) ?_
    have : st.h.set b (.els e ([] ++ List.replicate (0 - ([] : List AV).length) (junkE e))) = st.h := set_same hb
    rw [this]; exact hst.heap
  · have hcap : cap = E.ca b := by omega
    subst hcap
    exact fin (E.ca b) hl (by
      rw [hp]
      exact .crow e b 0 xs.length g (E.ca b) A hg hke (hA.imp id fun h => absurd rfl h.1) hl (by omega) hmx) (hst.heap.widen hb hg hl)

theorem Le.give (lo : Nat) (st : St) (b : Nat) : Le lo st ⟨st.s, st.h.set b .dead⟩ := fun E a w hst => ⟨E, ⟨hst.slots, hst.defers, hst.heap.give b⟩, Ext.refl _ _ _⟩

/-- A row of known capacity as a row in a block of its own number. -/
theorem Le.settle {lo : Nat} {st : St} {i e b cap : Nat} {ys zs : List AV} (hi : st.s i = .crow e b 0 ys.length cap) (hb : st.h[b]? = some (.els e (ys ++ zs))) :
    Le lo st ⟨put st.s i (.row e st.h.length 0 ys.length), st.h.set b .dead ++ [.els e ys]⟩ := fun E a w hst => by
  have hv := hst.slots i
  rw [hi] at hv
  obtain ⟨hke, hrow⟩ := hv.crow_inv
  have hbk := hst.heap.blocks b _ hb
  have trimmed : ∃ r, E.rho b = some r ∧ HOK E (st.h.set b (.els e ys)) w := by
    obtain ⟨_, ⟨k0, hnil⟩ | ⟨g', vals, t', fz, k1, k2, k2', k3, k4, k5, k6, k7⟩⟩ := hbk
    · have hy : ys = [] := (List.append_eq_nil_iff.1 hnil).1
      have hz : zs = [] := (List.append_eq_nil_iff.1 hnil).2
      subst hy; subst hz
      refine ⟨Option.none, k0, ?_⟩
      rw [set_same (show st.h[b]? = some (.els e []) from hb)]
      exact hst.heap
    · rw [List.length_append] at k4 k6
      refine ⟨some g', k1, hst.heap.set hb trivial k1 rfl rfl rfl (Nat.le_refl _) (fun _ _ _ => rfl) (fun _ => rfl) ⟨hke, .inr ⟨g', vals, t', fz, k1, k2, k2', k3, by omega, k5, Nat.le_trans (Nat.mul_le_mul_right _ (Nat.le_add_right _ _)) k6, fun j v hv => ?_⟩⟩⟩
      exact k7 j v (by rw [List.getElem?_append_left (List.getElem?_eq_some_iff.1 hv).1]; exact hv)
  obtain ⟨r, hr, hok⟩ := trimmed
  have hb2 : (st.h.set b (.els e ys))[b]? = some (.els e ys) := getElem?_set_self' hb
  obtain ⟨m1, m2⟩ := hok.move hb2 trivial hr
  rw [List.length_set] at m1 m2
  rw [List.set_set] at m1
  refine ⟨_, ⟨fun j => ?_, hst.defers, m1⟩, m2.wide hst.heap lo⟩
  by_cases hj : j = i
  · subst hj
    simp only [put, if_true]
    rcases hrow with ⟨h0, _, hl0, _, A, hp⟩ | ⟨g, A, hg, hp, hA, hl, hcc, hmx⟩
    · rw [h0] at hr; injection hr with hr; subst hr
      rw [hp, hl0]
      exact .row0 e _ A (by simp) (by simpa using hke)
    · rw [hg] at hr; injection hr with hr; subst hr
      rw [hp]
      exact .row e _ 0 _ g cap A (by simp) (by simpa using hke) (hA.imp id fun h => absurd rfl h.1) hl (by simp; omega) (by simpa using hmx)
  · simp only [put, if_neg hj]
    exact (hst.slots j).ext m2 hst.heap.dom

/-- slices.Insert, one element: the row has it at its place. -/
theorem insert_fn {k rot e bytes : Nat} {z : AV} (hk : fd? P k = some (95, [.slot 6], insC e bytes z rot)) {h : Hp} {b m i : Nat} {xs : List AV} {y : AV} (hm : m = xs.length) (hb : h[b]? = some (.els e xs)) (hi : i ≤ m) (hmax : m + 1 ≤ maxStr) (hroom : (m + 1) * bytes ≤ room) (hp : xs.all (plain deep) = true)
    {R : AV → Hp → Prop} (hR : R (.row e h.length 0 (m + 1)) (h.set b .dead ++ [.els e (xs.take i ++ (y :: xs.drop i))])) : Fn P k [.row e b 0 m, .int .i64 i, .sl e true [y]] h R := by
  refine ⟨fd?_entered hk, ⟨_, _, hR⟩, fun E w us hok hl hr => code_calls2 hk (Nat.le_of_ble_eq_true rfl) ?_ hok hl hr⟩
  have hbl : b < h.length := (List.getElem?_eq_some_iff.1 hb).1
  have hyl : (xs.take i ++ (y :: xs.drop i)).length = m + 1 := by simp; omega
  refine AW.caps (i := 0) (m := m) (xs := xs) rfl hm hb fun cap hcap => ?_
  have hset : (h.set b (.els e (xs ++ List.replicate (cap - m) (junkE e))))[b]? = some (.els e (xs ++ List.replicate (cap - m) (junkE e))) := getElem?_set_self' hb
  have hs : put (slotsOf [.row e b 0 m, .int .i64 i, .sl e true [y]]) 0 (.crow e b 0 m cap) = slotsOf [.crow e b 0 m cap, .int .i64 i, .sl e true [y]] := by
    funext j
    cases j <;> rfl
  rw [hs]
  refine insC_walk hm (by simp; omega) hi hset hmax hroom hp ?_
  rintro st (⟨h6, J', hh⟩ | ⟨h6, hh⟩)
  · refine ⟨.inr rfl, ⟨put st.s 6 (.row e st.h.length 0 (xs.take i ++ (y :: xs.drop i)).length), st.h.set b .dead ++ [.els e (xs.take i ++ (y :: xs.drop i))]⟩, .row e h.length 0 (m + 1), Le.settle (zs := J') (by rw [hyl]; exact h6) (by rw [hh]; exact getElem?_set_self' hset), ?_, ?_⟩
    · simp only [resVs, omap, resV, put, if_true, hyl, hh, List.length_set]
    · simp only [hh, List.set_set]; exact hR
  · refine ⟨.inr rfl, ⟨st.s, st.h.set b .dead⟩, .row e h.length 0 (m + 1), Le.give _ _ b, ?_, ?_⟩
    · simp only [resVs, omap, resV, h6, List.length_set]
    · simp only [hh]
      rw [List.set_append_left _ _ (by simpa using hbl), List.set_set]
      exact hR

def ins? {τ : Type} (bytes : Nat) (xs : List τ) (i : Int) (y : τ) : Option (List τ) :=
  if 0 ≤ i ∧ i ≤ xs.length ∧ (xs.length + 1) * bytes ≤ room ∧ xs.length + 1 ≤ maxStr then some (xs.take i.toNat ++ (y :: xs.drop i.toNat)) else none

theorem evTs_ins {τ α : Type} {enc : τ → AV} {e : Nat} [IsEnc e enc] {xs : List τ} {i : Int} {y : τ} {bytes : Nat} {kont : List τ → Option α} {r : α} (H : (ins? bytes xs i y).bind kont = some r)
    {k rot : Nat} {z : AV} (hk : fd? P k = some (95, [.slot 6], insC e bytes z rot)) {is : List Ins} {K : St → Prop} {s : Nat → AV} {h : Hp} {d : Option Nat} {f : Od} {as : List Od} {b m : Nat} (hf : f.ev s = .fn k []) (ha : as.map (Od.ev s) = [.row e b 0 m, .int .i64 i, .sl e true [enc y]])
    (hm : m = xs.length) (hb : h[b]? = some (.els e (xs.map enc)))
    (hK : ∀ zs, kont zs = some r → evTs (Fn P) is K ⟨put? s d (.row e h.length 0 zs.length), h.set b .dead ++ [.els e (zs.map enc)]⟩) : evTs (Fn P) (Ins.mk d none (.call f as) :: is) K ⟨s, h⟩ := by
  unfold ins? at H
  split at H
  case isFalse => cases H
  rename_i hc
  obtain ⟨h0, h1, h2, h3⟩ := hc
  subst hm
  refine evTs_call hf ?_
  rw [ha, List.append_nil]
  obtain ⟨j, rfl⟩ := Int.eq_ofNat_of_zero_le h0
  have hK := hK _ H
  refine insert_fn hk (xs := xs.map enc) (by simp) hb (by omega) h3 h2 (enc_all xs) ?_
  simp only [Int.toNat_natCast, List.map_append, List.map_cons, List.map_take, List.map_drop, List.length_append, List.length_cons, List.length_take, List.length_drop] at hK
  rw [show min j xs.length + (xs.length - j + 1) = xs.length + 1 by omega] at hK
  exact hK
end Go.Ab
