/-
  The abstract machine, forty-second part: the library's functions that take elements out of a row.
-/
import Derived.Test.YtkbjimfganeooaaAb41
set_option linter.unusedSimpArgs false
set_option linter.unusedVariables false
namespace Go.Ab
open Go

variable {P : Program}

/-! ## slices.Delete -/

def delC0 (e bytes : Nat) (z : AV) : C := .cond (.t 16) (.seq (.reg [iI 17 (.mv (.t 0)), iI 6 (.mv (.t 17))]) .ret) (.skip)
def delC1 (e bytes : Nat) (z : AV) : C := .seq (.reg [iI 32 (.mv (.t 0)), iI 6 (.mv (.t 32))]) .ret
def delC2 (e bytes : Nat) (z : AV) : C := .seq (.reg [iI 27 (.mv (.t 0)), iI 28 (.mv (.t 0)), iI 29 (.len 0 (.t 28)), iI 30 (.mv (.t 7)), iI 31 (.slice e (.t 27) (some (.t 29)) (some (.t 30))), iN (.clear e z (.t 31))]) (delC1 e bytes z)
def delC3 (e bytes : Nat) (z : AV) : C := .seq (.reg [iI 20 (.mv (.t 0)), iI 21 (.mv (.t 1)), iI 22 (.slice e (.t 20) none (some (.t 21))), iI 23 (.mv (.t 0)), iI 24 (.mv (.t 2)), iI 25 (.slice e (.t 23) (some (.t 24)) none), iI 26 (.append e bytes (.t 22) (.t 25)), iI 0 (.mv (.t 26))]) (delC2 e bytes z)
def delC4 (e bytes : Nat) (z : AV) : C := .seq (.reg [iI 18 (.mv (.t 0)), iI 19 (.len 0 (.t 18)), iI 7 (.mv (.t 19))]) (delC3 e bytes z)
def delC5 (e bytes : Nat) (z : AV) : C := .seq (.seq (.reg [iI 14 (.mv (.t 1)), iI 15 (.mv (.t 2)), iI 16 (.bin .eql (.t 14) (.t 15))]) (delC0 e bytes z)) (delC4 e bytes z)
def delC6 (e bytes : Nat) (z : AV) : C := .seq (.reg [iI 8 (.mv (.t 0)), iI 9 (.mv (.t 1)), iI 10 (.mv (.t 2)), iI 11 (.mv (.t 0)), iI 12 (.len 0 (.t 11)), iI 13 (.slice3 e (.t 8) (some (.t 9)) (some (.t 10)) (some (.t 12)))]) (delC5 e bytes z)
/-- The code of slices.Delete. -/
def delC (e bytes : Nat) (z : AV) : C := .seq (.reg [iI 6 (.mv (.c (.sl e true [])))]) (delC6 e bytes z)

section
variable {n lo : Nat} {Q : Ex → St → Prop}

theorem slice_crow_lohi {s : Nat → AV} {h : Hp} {e b off len cap a c : Nat} {k k' : IntKind} {x i j : Od} (hx : x.ev s = .crow e b off len cap) (hi : i.ev s = .int k a) (hj : j.ev s = .int k' c) (h1 : a ≤ c) (h2 : c ≤ cap) :
    evV s h (.slice e x (some i) (some j)) = some (.crow e b (off + a) (c - a) (cap - a), h) := by
  have : bounds2 s len cap (some i) (some j) = some (a, c) := by
    simp only [bounds2, hi, hj]
    rw [if_pos (by omega)]
    simp
  simp only [evV, hx, if_true, this, Option.map_some]

theorem append_crow_src {s : Nat → AV} {h : Hp} {e b len cap bytes : Nat} {x y : Od} {xs ys : List AV} (hx : x.ev s = .crow e b 0 len cap) (hy : srcElems e h (y.ev s) = some ys) (hb : h[b]? = some (.els e xs)) (hc : cap = xs.length) (hl : len < xs.length) (hf : len + ys.length ≤ cap) :
    evV s h (.append e bytes x y) = some (.crow e b 0 (len + ys.length) cap, h.set b (.els e (xs.take len ++ (ys ++ xs.drop (len + ys.length))))) := by
  subst hc
  simp only [evV, append, hx, hy, appendL, hb]
  rw [if_pos (by refine ⟨?_, ?_, Nat.le_of_lt hl, ?_, .inr hl⟩ <;> trivial), if_pos hf]

theorem clear_ok {s : Nat → AV} {h : Hp} {e b off len : Nat} {z : AV} {x : Od} {xs : List AV} (hx : (x.ev s).rowOf = some (e, b, off, len)) (hb : h[b]? = some (.els e xs)) (hl : off + len ≤ xs.length) :
    evV s h (.clear e z x) = some (.junk, h.set b (.els e (overwrite xs off (List.replicate len z)))) := by
  simp only [evV, hx, copyTo, hb]
  rw [if_pos (by refine ⟨?_, ?_, hl⟩ <;> trivial)]
  simp

theorem slice3_row {s : Nat → AV} {h : Hp} {e b len i j : Nat} {k1 k2 : IntKind} {x lo hi mx : Od} (hx : x.ev s = .row e b 0 len) (h1 : lo.ev s = .int k1 i) (h2 : hi.ev s = .int k2 j) (h3 : mx.ev s = .int .i64 len) (hij : i ≤ j) (hj : j ≤ len) :
    evV s h (.slice3 e x (some lo) (some hi) (some mx)) = some (.junk, h) := by
  have hb : bounds s len (some lo) (some hi) = some (i, j) := by
    simp only [bounds, h1, h2]
    rw [if_pos (by omega)]
    simp
  simp only [evV, hx, h3, if_true, Option.isSome_some, and_true]
  rw [if_pos (by omega)]
  simp only [Int.toNat_natCast, hb, Option.map_some]

set_option maxHeartbeats 2000000 in
theorem delC_walk {e bytes b m i j : Nat} {z : AV} {xs : List AV} {h : Hp} (hm : m = xs.length) (hij : i ≤ j) (hj : j ≤ m) (hb : h[b]? = some (.els e xs)) (hmax : m ≤ maxStr) (hp : xs.all (plain deep) = true)
    (hQ : ∀ st cap, (st.s 6 = .crow e b 0 (i + (m - j)) cap ∧ ∃ J', st.h = h.set b (.els e ((xs.take i ++ xs.drop j) ++ J'))) → Q .ret st) :
    AW P n lo (delC e bytes z) Q ⟨slotsOf [.row e b 0 m, .int .i64 i, .int .i64 j], h⟩ := by
  subst hm
  unfold delC
  refine AW.rseq ?_
  simp only [iI, ↓wk, ↓wl, nc, evV, ↓reduceIte, Nat.reduceEqDiff, Nat.reduceSub, Nat.reduceAdd]
  unfold delC6
  refine AW.rseq ?_
  simp only [iI, ↓wk, ↓wl, nc, evV, ↓reduceIte, Nat.reduceEqDiff, Nat.reduceSub, Nat.reduceAdd]
  refine step rfl (slice3_row (i := i) (j := j) rfl rfl rfl rfl hij hj) ?_
  simp only [iI, ↓wk, ↓wl, nc, evV, ↓reduceIte, Nat.reduceEqDiff, Nat.reduceSub, Nat.reduceAdd]
  refine AW.caps (i := 0) (m := xs.length) (xs := xs) (by rfl) rfl hb fun cap hcap => ?_
  have hset : (h.set b (.els e (xs ++ List.replicate (cap - xs.length) (junkE e))))[b]? = some (.els e (xs ++ List.replicate (cap - xs.length) (junkE e))) := getElem?_set_self' hb
  have hlen : (xs ++ List.replicate (cap - xs.length) (junkE e)).length = cap := by simp; omega
  generalize List.replicate (cap - xs.length) (junkE e) = J at hset hlen
  unfold delC5
  refine AW.sseq ?_
  refine AW.rseq ?_
  simp only [iI, ↓wk, ↓wl, nc, evV, ↓reduceIte, Nat.reduceEqDiff, Nat.reduceSub, Nat.reduceAdd]
  unfold delC0
  by_cases heq : i = j
  · subst heq
    refine AW.ift (by simp only [od_t, put_at]; simp) ?_
    refine AW.rseq ?_
    simp only [iI, ↓wk, ↓wl, nc, evV, ↓reduceIte, Nat.reduceEqDiff, Nat.reduceSub, Nat.reduceAdd]
    refine AW.ret ?_
    refine seqQ.ret ?_
    refine hQ _ cap ⟨?_, J, by simp⟩
    show AV.crow e b 0 xs.length cap = _
    congr 1; omega
  · refine AW.iff (by simp only [od_t, put_at]; simp; exact_mod_cast heq) ?_
    refine AW.skip ?_
    refine seqQ.norm ?_
    have hlt : i < j := by omega
    unfold delC4
    refine AW.rseq ?_
    simp only [iI, ↓wk, ↓wl, nc, evV, ↓reduceIte, Nat.reduceEqDiff, Nat.reduceSub, Nat.reduceAdd]
    unfold delC3
    refine AW.rseq ?_
    simp only [iI, ↓wk, ↓wl, nc, evV, ↓reduceIte, Nat.reduceEqDiff, Nat.reduceSub, Nat.reduceAdd]
    refine step rfl (slice_crow_hi rfl rfl (by omega)) ?_
    simp only [iI, ↓wk, ↓wl, nc, evV, ↓reduceIte, Nat.reduceEqDiff, Nat.reduceSub, Nat.reduceAdd]
    refine step rfl (slice_crow_lo rfl rfl hj hcap) ?_
    simp only [iI, ↓wk, ↓wl, nc, evV, ↓reduceIte, Nat.reduceEqDiff, Nat.reduceSub, Nat.reduceAdd]
    have hsrc : srcElems e (h.set b (.els e (xs ++ J))) (.crow e b (0 + j) (xs.length - j) (cap - j)) = some (xs.drop j) := by
      have hd : ((xs ++ J).drop (0 + j)).take (xs.length - j) = xs.drop j := by rw [Nat.zero_add, drop_app hj, List.take_append_of_le_length (by simp), List.take_of_length_le (by simp)]
      have := srcElems_row (len := xs.length - j) hset (off := 0 + j) (by omega) (by rw [hd]; exact List.all_eq_true.2 fun x hx => List.all_eq_true.1 hp x (List.mem_of_mem_drop hx))
      rw [hd] at this
      exact this
    refine step rfl (append_crow_src rfl hsrc hset hlen.symm (by omega) (by rw [List.length_drop]; omega)) ?_
    simp only [iI, ↓wk, ↓wl, nc, evV, ↓reduceIte, Nat.reduceEqDiff, Nat.reduceSub, Nat.reduceAdd]
    have hset2 : ((h.set b (.els e (xs ++ J))).set b (.els e ((xs ++ J).take i ++ (xs.drop j ++ (xs ++ J).drop (i + (xs.drop j).length)))))[b]? = some (.els e ((xs ++ J).take i ++ (xs.drop j ++ (xs ++ J).drop (i + (xs.drop j).length)))) := getElem?_set_self' hset
    have hti : (xs ++ J).take i = xs.take i := take_app (by omega)
    have hl1 : (xs.take i).length = i := by rw [List.length_take]; omega
    have hl2 : (xs.drop j).length = xs.length - j := List.length_drop
    unfold delC2
    refine AW.rseq ?_
    simp only [iI, ↓wk, ↓wl, nc, evV, ↓reduceIte, Nat.reduceEqDiff, Nat.reduceSub, Nat.reduceAdd]
    refine step rfl (slice_crow_lohi (a := i + (xs.drop j).length) (c := xs.length) rfl rfl rfl (by omega) hcap) ?_
    simp only [iI, ↓wk, ↓wl, nc, evV, ↓reduceIte, Nat.reduceEqDiff, Nat.reduceSub, Nat.reduceAdd]
    refine step rfl (clear_ok rfl hset2 (by simp only [List.length_append, hti, hl1, hl2, List.length_drop]; rw [List.length_append] at hlen; omega)) ?_
    simp only [iI, ↓wk, ↓wl, nc, evV, ↓reduceIte, Nat.reduceEqDiff, Nat.reduceSub, Nat.reduceAdd]
    unfold delC1
    refine AW.rseq ?_
    simp only [iI, ↓wk, ↓wl, nc, evV, ↓reduceIte, Nat.reduceEqDiff, Nat.reduceSub, Nat.reduceAdd]
    refine AW.ret ?_
    refine hQ _ cap ⟨?_, ?_⟩
    · show AV.crow e b 0 (i + (xs.drop j).length) cap = _
      rw [hl2]
    · refine ⟨List.replicate (xs.length - (i + (xs.drop j).length)) z ++ ((xs ++ J).drop (i + (xs.drop j).length)).drop (xs.length - (i + (xs.drop j).length)), ?_⟩
      dsimp only
      rw [List.set_set, List.set_set, hti, ← List.append_assoc]
      try simp only [Nat.zero_add]
      have := ow_at (as := xs.take i ++ xs.drop j) (bs := (xs ++ J).drop (i + (xs.drop j).length)) (ys := List.replicate (xs.length - (i + (xs.drop j).length)) z)
      rw [List.length_append, hl1, List.length_replicate] at this
      rw [this]
end

/-- slices.Delete: the row without the elements from a place on. -/
theorem delete_fn {k e bytes : Nat} {z : AV} (hk : fd? P k = some (33, [.slot 6], delC e bytes z)) {h : Hp} {b m i j : Nat} {xs : List AV} (hm : m = xs.length) (hb : h[b]? = some (.els e xs)) (hij : i ≤ j) (hj : j ≤ m) (hmax : m ≤ maxStr) (hp : xs.all (plain deep) = true)
    {R : AV → Hp → Prop} (hR : R (.row e h.length 0 (i + (m - j))) (h.set b .dead ++ [.els e (xs.take i ++ xs.drop j)])) : Fn P k [.row e b 0 m, .int .i64 i, .int .i64 j] h R := by
  refine ⟨fd?_entered hk, ⟨_, _, hR⟩, fun E w us hok hl hr => code_calls2 hk (Nat.le_of_ble_eq_true rfl) ?_ hok hl hr⟩
  have hyl : (xs.take i ++ xs.drop j).length = i + (m - j) := by simp; omega
  refine delC_walk hm hij hj hb hmax hp ?_
  rintro st cap ⟨h6, J', hh⟩
  refine ⟨.inr rfl, ⟨put st.s 6 (.row e st.h.length 0 (xs.take i ++ xs.drop j).length), st.h.set b .dead ++ [.els e (xs.take i ++ xs.drop j)]⟩, .row e h.length 0 (i + (m - j)), Le.settle (zs := J') (by rw [hyl]; exact h6) (by rw [hh]; exact getElem?_set_self' hb), ?_, ?_⟩
  · simp only [resVs, omap, resV, put, if_true, hyl, hh, List.length_set]
  · simp only [hh, List.set_set]; exact hR

def del? {τ : Type} (xs : List τ) (i j : Int) : Option (List τ) := if 0 ≤ i ∧ i ≤ j ∧ j ≤ xs.length ∧ xs.length ≤ maxStr then some (xs.take i.toNat ++ xs.drop j.toNat) else none

theorem evTs_del {τ α : Type} {enc : τ → AV} {e : Nat} [IsEnc e enc] {xs : List τ} {i j : Int} {kont : List τ → Option α} {r : α} (H : (del? xs i j).bind kont = some r)
    {k bytes : Nat} {z : AV} (hk : fd? P k = some (33, [.slot 6], delC e bytes z)) {is : List Ins} {K : St → Prop} {s : Nat → AV} {h : Hp} {d : Option Nat} {f : Od} {as : List Od} {b m : Nat} (hf : f.ev s = .fn k []) (ha : as.map (Od.ev s) = [.row e b 0 m, .int .i64 i, .int .i64 j])
    (hm : m = xs.length) (hb : h[b]? = some (.els e (xs.map enc)))
    (hK : ∀ zs, kont zs = some r → evTs (Fn P) is K ⟨put? s d (.row e h.length 0 zs.length), h.set b .dead ++ [.els e (zs.map enc)]⟩) : evTs (Fn P) (Ins.mk d none (.call f as) :: is) K ⟨s, h⟩ := by
  unfold del? at H
  split at H
  case isFalse => cases H
  rename_i hc
  obtain ⟨h0, h1, h2, h3⟩ := hc
  subst hm
  refine evTs_call hf ?_
  rw [ha, List.append_nil]
  obtain ⟨i, rfl⟩ := Int.eq_ofNat_of_zero_le h0
  obtain ⟨j, rfl⟩ := Int.eq_ofNat_of_zero_le (show 0 ≤ j by omega)
  have hK := hK _ H
  refine delete_fn hk (xs := xs.map enc) (by simp) hb (by omega) (by omega) h3 (enc_all xs) ?_
  simp only [Int.toNat_natCast, List.map_append, List.map_take, List.map_drop, List.length_append, List.length_take, List.length_drop] at hK
  rw [show min i xs.length = i by omega] at hK
  exact hK
end Go.Ab
