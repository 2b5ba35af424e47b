/-
  Plain laws of the sender of layer 56, second part: sending frames; the examples.
-/
import Derived.Test.YtlidbikdeboihaaP1
set_option linter.unusedSimpArgs false
set_option linter.unusedVariables false
namespace Go.Proofs.Ytlidbikdeboihaa
open Go Go.Ab

/-- The stream of a universe behind a frame, and whether a packet is sent. -/
def nextS (t : Int) (f : ApiFrame) (x : NetworkStream) : NetworkStream × Bool :=
  if x.fSlots ≠ f.fSlots then (⟨x.fUniverse, nextSeq x.fSeq, t, 1, f.fSlots⟩, true)
  else if x.fTimes < 3 ∨ 1000 ≤ t - x.fLast then (⟨x.fUniverse, nextSeq x.fSeq, t, min (x.fTimes + 1) 3, x.fSlots⟩, true)
  else (x, false)

def tellS (S : NetworkSender) (x : NetworkStream) : NetworkPacket := ⟨S.fSource, x.fUniverse, S.fPriority, x.fSeq, S.fSync, false, x.fSlots⟩

/-- The streams and packets behind a frame. -/
def stepS (S : NetworkSender) (t : Int) (f : ApiFrame) (l : List NetworkStream) (out : List NetworkPacket) : List NetworkStream × List NetworkPacket :=
  match l[posS l f.fUniverse]? with
  | some x => if x.fUniverse = f.fUniverse then (l.set (posS l f.fUniverse) (nextS t f x).1, if (nextS t f x).2 = true then out ++ [tellS S (nextS t f x).1] else out)
    else (l.take (posS l f.fUniverse) ++ (⟨f.fUniverse, 0, t, 1, f.fSlots⟩ :: l.drop (posS l f.fUniverse)), out ++ [tellS S ⟨f.fUniverse, 0, t, 1, f.fSlots⟩])
  | none => (l ++ [⟨f.fUniverse, 0, t, 1, f.fSlots⟩], out ++ [tellS S ⟨f.fUniverse, 0, t, 1, f.fSlots⟩])

/-- Streams that are as they should be. -/
structure Good (t : Int) (l : List NetworkStream) : Prop extends Asc l where
  ok : ∀ x ∈ l, (0 ≤ x.fSeq ∧ x.fSeq ≤ 255) ∧ (0 ≤ x.fLast ∧ x.fLast ≤ t) ∧ (1 ≤ x.fTimes ∧ x.fTimes ≤ 3) ∧ x.fSlots.length = 512

theorem has_pos {l : List NetworkStream} (ha : Asc l) {u : Int} : hasS l u = (match l[posS l u]? with | some x => decide (x.fUniverse = u) | none => false) := by
  have hp := pos_spec ha.asc u
  cases hx : l[posS l u]? with
  | none =>
    simp only
    unfold hasS
    rw [List.any_eq_false]
    intro y hy
    obtain ⟨k, hk, rfl⟩ := List.mem_iff_getElem.1 hy
    have hle : l.length ≤ posS l u := by simpa using hx
    have := (hp k _ (List.getElem?_eq_getElem hk)).2 (by omega)
    simp; omega
  | some x =>
    simp only
    unfold hasS
    by_cases he : x.fUniverse = u
    · rw [List.any_eq_true.2 ⟨x, List.mem_of_getElem? hx, by simpa using he⟩]; simp [he]
    · rw [show decide (x.fUniverse = u) = false by simpa using he, List.any_eq_false]
      intro y hy
      obtain ⟨k, hk, rfl⟩ := List.mem_iff_getElem.1 hy
      simp only [decide_eq_true_eq]
      intro hyu
      have hyk := hp k _ (List.getElem?_eq_getElem hk)
      have hkp : ¬ k < posS l u := fun h => by have := hyk.2 h; omega
      obtain ⟨hpl, hxe⟩ := List.getElem?_eq_some_iff.1 hx
      have hnl : ¬ x.fUniverse < u := fun h => Nat.lt_irrefl _ ((hp _ x hx).1 h)
      have hlt : posS l u < k := by
        rcases Nat.lt_trichotomy k (posS l u) with h | h | h
        · exact absurd h hkp
        · exfalso
          apply he
          have : l[k] = x := by rw [← hxe]; congr
          rw [← this]; exact hyu
        · exact h
      have := List.pairwise_iff_getElem.1 ha.asc (posS l u) k hpl hk hlt
      rw [hxe] at this
      omega

theorem nextSeq_wi (n : Int) (h : 0 ≤ n) : 0 ≤ nextSeq n ∧ nextSeq n ≤ 255 := by
  unfold nextSeq
  rw [Int.tmod_eq_emod_of_nonneg (by omega)]
  omega

theorem set3 {τ : Type} (l : List τ) (i : Nat) (a b c : τ) : ((l.set i a).set i b).set i c = l.set i c := by simp
theorem set4 {τ : Type} (l : List τ) (i : Nat) (a b c d : τ) : (((l.set i a).set i b).set i c).set i d = l.set i d := by simp

theorem C4_eq {S : NetworkSender} {t : Int} {f : ApiFrame} {l : List NetworkStream} {out : List NetworkPacket} (hg : Good t l) (ht : 0 ≤ t ∧ t ≤ 10000000) (hf : 1 ≤ f.fUniverse ∧ f.fUniverse ≤ 8) (hl : l.length ≤ 900) (ho : out.length ≤ 900) :
    (f23_C4 l f S out t).run = some (stepS S t f l out) := by
  have hpl := pos_le l f.fUniverse
  have happ : ∀ p : NetworkPacket, app? 64 out [p] = some (out ++ [p]) := fun p => app_some (by simp; omega) (by simp; omega)
  simp only [f23_C4]
  rw [f65_eq hg.toAsc hf (by omega), has_pos hg.toAsc]
  simp only [Option.bind_some]
  cases hx : l[posS l f.fUniverse]? with
  | none =>
    have hpe : posS l f.fUniverse = l.length := by
      have : l.length ≤ posS l f.fUniverse := by simpa using hx
      omega
    have hins : ins? 48 l (posS l f.fUniverse : Int) (NetworkStream.mk f.fUniverse 255 0 0 f.fSlots) = some (l ++ [NetworkStream.mk f.fUniverse 255 0 0 f.fSlots]) := by
      unfold ins?
      rw [if_pos ⟨by omega, by omega, by unfold room; omega, by unfold maxStr; omega⟩, hpe]
      simp
    have hat : at? (l ++ [NetworkStream.mk f.fUniverse 255 0 0 f.fSlots]) (posS l f.fUniverse : Int) = some (NetworkStream.mk f.fUniverse 255 0 0 f.fSlots) := at_nat (by rw [hpe]; simp)
    have h46 : f46 255 = some 0 := by rw [f46_eq (by decide)]; rfl
    have hw : IntKind.i64.wrap (0 + 1) = 1 := rfl
    simp only [hins, hat, Option.bind_some, h46, f23_C7, f23_C8, happ, hw, set3]
    simp [stepS, hx, tellS, hpe]
  | some x =>
    have hpe : posS l f.fUniverse < l.length := (List.getElem?_eq_some_iff.1 hx).1
    obtain ⟨ok1, ok2, ok3, ok4⟩ := hg.ok x (List.mem_of_getElem? hx)
    by_cases he : x.fUniverse = f.fUniverse
    · have h46 : f46 x.fSeq = some (nextSeq x.fSeq) := f46_eq (wi_iff.2 ok1)
      have hw : IntKind.i64.wrap (x.fTimes + 1) = x.fTimes + 1 := w64 (by omega) (by omega)
      have hw2 : IntKind.i64.wrap (t - x.fLast) = t - x.fLast := w64 (by omega) (by omega)
      have hmin : (if 3 < x.fTimes + 1 then 3 else x.fTimes + 1) = min (x.fTimes + 1) 3 := by split <;> omega
      rw [if_neg (by simp [he])]
      rw [at_nat hx]
      simp only [Option.bind_some, h46, f23_C11, f23_C12, f23_C13, f23_C14, f23_C15, f23_C16, happ, hw, hw2, hmin, set3, set4, Int.toNat_natCast]
      simp only [stepS, hx, he, if_true]
      by_cases hs : x.fSlots = f.fSlots
      · by_cases h3 : x.fTimes < 3
        · simp [nextS, hs, h3, tellS, he]
        · by_cases h4 : 1000 ≤ t - x.fLast
          · simp [nextS, hs, h3, h4, tellS, he]
          · have : l.set (posS l f.fUniverse) x = l := by
              obtain ⟨hlt, hxe⟩ := List.getElem?_eq_some_iff.1 hx
              rw [← hxe]; exact List.set_getElem_self hlt
            simp [nextS, hs, h3, h4, this]
      · simp [nextS, hs, tellS, he]
    · have hins : ins? 48 l (posS l f.fUniverse : Int) (NetworkStream.mk f.fUniverse 255 0 0 f.fSlots) = some (l.take (posS l f.fUniverse) ++ (NetworkStream.mk f.fUniverse 255 0 0 f.fSlots :: l.drop (posS l f.fUniverse))) := by
        unfold ins?
        rw [if_pos ⟨by omega, by omega, by unfold room; omega, by unfold maxStr; omega⟩]
        simp
      have htl : (l.take (posS l f.fUniverse)).length = posS l f.fUniverse := by rw [List.length_take]; omega
      have hat : at? (l.take (posS l f.fUniverse) ++ (NetworkStream.mk f.fUniverse 255 0 0 f.fSlots :: l.drop (posS l f.fUniverse))) (posS l f.fUniverse : Int) = some (NetworkStream.mk f.fUniverse 255 0 0 f.fSlots) := at_nat (by rw [List.getElem?_append_right (by omega), htl]; simp)
      have hset : ∀ z, (l.take (posS l f.fUniverse) ++ (NetworkStream.mk f.fUniverse 255 0 0 f.fSlots :: l.drop (posS l f.fUniverse))).set (posS l f.fUniverse) z = l.take (posS l f.fUniverse) ++ (z :: l.drop (posS l f.fUniverse)) := fun z => by
        rw [List.set_append_right _ _ (by omega), htl]; simp
      have h46 : f46 255 = some 0 := by rw [f46_eq (by decide)]; rfl
      have hw : IntKind.i64.wrap (0 + 1) = 1 := rfl
      rw [if_pos (by simp [he])]
      simp only [hins, hat, Option.bind_some, h46, f23_C7, f23_C8, happ, hw, set3, Int.toNat_natCast, hset]
      simp [stepS, hx, tellS, he]
end Go.Proofs.Ytlidbikdeboihaa
