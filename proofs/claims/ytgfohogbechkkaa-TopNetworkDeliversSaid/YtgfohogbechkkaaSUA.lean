import Derived.Test.YtgfohogbechkkaaSU1
set_option linter.unusedSimpArgs false
set_option linter.unusedVariables false
namespace Go.Proofs.Ytgfohogbechkkaa.Net
open Go Go.Ab
theorem asc_len {l : List NetworkStream} (h : Asc l) : l.length ≤ 8 := by
 have key : ∀ i (hi : i < l.length), 1 + (i : Int) ≤ l[i].fUniverse := fun i => by
  induction i with
  | zero => intro hi; have := (h.rng _ (List.getElem_mem hi)).1; simpa using this
  | succ i ih =>
   intro hi
   have h1 := ih (by omega)
   have h2 := List.pairwise_iff_getElem.1 h.asc i (i + 1) (by omega) hi (by omega)
   omega
 by_cases h0 : l.length ≤ 8
 ·exact h0
 ·have h1 := key 8 (by omega)
  have h2 := (h.rng _ (List.getElem_mem (show 8 < l.length by omega))).2
  omega
theorem moment_of {s : NetworkSender} {t : Int} (hn : namedS s.fSource s.fPriority s.fSync = true) (hp : 0 ≤ s.fPulse ∧ s.fPulse ≤ 255) (ht : 0 ≤ t ∧ t ≤ 10000000) (hg : Good t s.fStreams) : momentS s t = 0 := by
 have hst : ∀ i, i < s.fStreams.length → stErr s.fStreams i = none := fun i hi => by
  unfold stErr
  rw [List.getElem?_eq_getElem hi]
  have hm := List.getElem_mem hi
  obtain ⟨k1, k2, k3, k4⟩ := hg.ok _ hm
  have k5 := hg.rng _ hm
  have hall : (wi s.fStreams[i].fUniverse 1 8 && (wi s.fStreams[i].fSeq 0 255 && (wi s.fStreams[i].fLast 0 10000000 && wi s.fStreams[i].fTimes 1 3))) = true := by
   rw [Bool.and_eq_true, Bool.and_eq_true, Bool.and_eq_true]
   exact ⟨wi_iff.2 k5, wi_iff.2 k1, wi_iff.2 (by omega), wi_iff.2 k3⟩
  simp only [hall, Bool.true_eq_false, if_false]
  rw [if_neg (by omega)]
  split
  ·rename_i h0
   rw [List.getElem?_eq_getElem (show i - 1 < s.fStreams.length by omega)]
   have := List.pairwise_iff_getElem.1 hg.asc (i - 1) i (by omega) hi (by omega)
   simp only
   rw [if_neg (by omega)]
  ·rfl
 have hr : rightS s = 0 := by
  unfold rightS
  rw [if_neg (by simp [hn]), if_neg (by rw [wi_iff.2 hp]; simp), if_neg (by have := asc_len hg.toAsc; omega)]
  have : (List.range s.fStreams.length).findSome? (stErr s.fStreams) = none := by
   rw [List.findSome?_eq_none_iff]
   exact fun i hi => hst i (List.mem_range.1 hi)
  rw [this]; rfl
 unfold momentS
 rw [if_neg (by simpa using hr), if_neg (by rw [wi_iff.2 ht]; simp), if_neg]
 intro hc
 obtain ⟨x, hx, hlt⟩ := List.any_eq_true.1 hc
 have := (hg.ok x hx).2.1.2
 simp at hlt
 omega
theorem good_mono {t t' : Int} {l : List NetworkStream} (h : Good t l) (ht : t ≤ t') : Good t' l :=
 ⟨h.toAsc, fun x hx => by obtain ⟨a, b, c⟩ := h.ok x hx; exact ⟨a, ⟨b.1, by omega⟩, c⟩⟩
def fr (x : NetworkStream) : ApiFrame := ⟨x.fUniverse, x.fSlots⟩
theorem next_sent {t : Int} {f : ApiFrame} {x : NetworkStream} (h : (nextS t f x).2 = true) : (nextS t f x).1.fSeq = nextSeq x.fSeq := by
 unfold nextS at h ⊢
 split
 ·rfl
 ·split
  ·rfl
  ·rename_i h1 h2
   rw [if_neg h1, if_neg h2] at h
   cases h
theorem next_same {t : Int} {f : ApiFrame} {x : NetworkStream} (h : (nextS t f x).2 = false) : (nextS t f x).1 = x := by
 unfold nextS at h ⊢
 split
 ·rename_i h1
  rw [if_pos h1] at h
  cases h
 ·split
  ·rename_i h1 h2
   rw [if_neg h1, if_pos h2] at h
   cases h
  ·rfl
theorem step_split {S : NetworkSender} {t : Int} {f : ApiFrame} {l : List NetworkStream} {out : List NetworkPacket} (hg : Good t l) : ∃ A B, (∀ x ∈ A, x.fUniverse < f.fUniverse) ∧ (∀ x ∈ B, f.fUniverse < x.fUniverse) ∧
  ((l = A ++ B ∧ stepS S t f l out = (A ++ ⟨f.fUniverse, 0, t, 1, f.fSlots⟩ :: B, out ++ [tellS S ⟨f.fUniverse, 0, t, 1, f.fSlots⟩])) ∨
  ∃ x, l = A ++ x :: B ∧ x.fUniverse = f.fUniverse ∧ stepS S t f l out = (A ++ (nextS t f x).1 :: B, if (nextS t f x).2 = true then out ++ [tellS S (nextS t f x).1] else out)) := by
 have hp := pos_spec hg.asc f.fUniverse
 have hA : ∀ y ∈ l.take (posS l f.fUniverse), y.fUniverse < f.fUniverse := fun y hy => by
  obtain ⟨i, hi, rfl⟩ := List.mem_take_iff_getElem.1 hy
  exact (hp i _ (List.getElem?_eq_getElem (by omega))).2 (by omega)
 unfold stepS
 cases hx : l[posS l f.fUniverse]? with
 | none =>
  have hle : l.length ≤ posS l f.fUniverse := by simpa using hx
  rw [List.take_of_length_le hle] at hA
  exact ⟨l, [], hA, by simp, .inl ⟨by simp, rfl⟩⟩
 | some x =>
  obtain ⟨hpl, hxe⟩ := List.getElem?_eq_some_iff.1 hx
  have hdr : l.drop (posS l f.fUniverse) = x :: l.drop (posS l f.fUniverse + 1) := by rw [List.drop_eq_getElem_cons hpl, hxe]
  have hl : l = l.take (posS l f.fUniverse) ++ x :: l.drop (posS l f.fUniverse + 1) := by rw [← hdr, List.take_append_drop]
  have hgt : ∀ y ∈ l.drop (posS l f.fUniverse + 1), x.fUniverse < y.fUniverse := fun y hy => by
   have h := hg.asc
   rw [hl] at h
   exact (List.pairwise_cons.1 (List.pairwise_append.1 h).2.1).1 y hy
  have hge : ¬ x.fUniverse < f.fUniverse := fun h => Nat.lt_irrefl _ ((hp _ x hx).1 h)
  simp only
  by_cases he : x.fUniverse = f.fUniverse
  ·rw [if_pos he]
   refine ⟨_, _, hA, fun y hy => by have := hgt y hy; omega, .inr ⟨x, hl, he, ?_⟩⟩
   rw [List.set_eq_take_append_cons_drop, if_pos hpl]
  ·rw [if_neg he]
   refine ⟨_, _, hA, fun y hy => ?_, .inl ⟨(List.take_append_drop ..).symm, rfl⟩⟩
   rw [hdr] at hy
   rcases List.mem_cons.1 hy with rfl | hy
   ·omega
   ·have := hgt y hy; omega
end Go.Proofs.Ytgfohogbechkkaa.Net
namespace Go.Proofs.Ytgfohogbechkkaa
open Go Go.Ab
def gI (y : ReceiverInput) : Int × Int × Int × Int × Int × List UInt8 := (y.fUniverse, y.fSource, y.fPriority, y.fSeq, y.fSync, if y.fWait = [] then y.fSlots else y.fWait)
def hI (s : Int) (x : NetworkStream) : Int × Int × Int × Int × Int × List UInt8 := (x.fUniverse, 7, 100, x.fSeq, s, x.fSlots)
structure Both (s t : Int) (l : List NetworkStream) (ys : List ReceiverInput) : Prop where
 gs : Net.Good t l
 gr : Good t ys
 rel : ys.map gI = l.map (hI s)
def foldT (t : Int) (ys : List ReceiverInput) (out : List NetworkPacket) : List ReceiverInput := out.foldl (fun l p => (takenS l t p).1) ys
theorem foldT_snoc (t : Int) (ys : List ReceiverInput) (out : List NetworkPacket) (p : NetworkPacket) : foldT t ys (out ++ [p]) = (takenS (foldT t ys out) t p).1 := by unfold foldT; rw [List.foldl_append]; rfl
theorem foldT_good {t : Int} : ∀ {out : List NetworkPacket} {ys : List ReceiverInput}, Good t ys → (∀ p ∈ out, checkS p = 0) → Good t (foldT t ys out)
 | [], _, h, _ => h
 | p :: out, ys, h, hc => foldT_good (out := out) (taken_good h (hc p (List.mem_cons_self ..))) fun q hq => hc q (List.mem_cons_of_mem _ hq)
end Go.Proofs.Ytgfohogbechkkaa
