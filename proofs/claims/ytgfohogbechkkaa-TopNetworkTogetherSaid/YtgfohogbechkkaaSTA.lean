import Derived.Test.YtgfohogbechkkaaST1
set_option linter.unusedSimpArgs false
set_option linter.unusedVariables false
namespace Go.Proofs.Ytgfohogbechkkaa.Net
open Go Go.Ab
theorem f41_eq (l : List ApiFrame) : f41 l = some (framesS l) := by
 unfold f41 framesS
 by_cases h3 : 8 < l.length
 ·rw [if_pos (by simp; omega)]; simp [h3]
 rw [if_neg (by simp; omega)]
 have hrun := run_first (L := f41_L1 l) l.length (fun i => (frErr l i).map Sum.inr) (Sum.inl ()) (fun i hi => by
  have hx := List.getElem?_eq_getElem hi
  have hw : IntKind.i64.wrap ((i : Int) + 1) = ((i + 1 : Nat) : Int) := by rw [w64 (by omega) (by omega)]; omega
  simp only [f41_L1, frErr, hx]
  rw [if_pos (by simp; omega), at_nat hx]
  simp only [Option.bind_some]
  generalize hX : l[i] = x
  by_cases a1 : x.fUniverse < 1
  ·simp [a1]
  by_cases a2 : 8 < x.fUniverse
  ·simp [a1, a2]
  by_cases a5 : x.fSlots.length = 512
  ·by_cases a6 : 0 < i
   ·have hw2 : IntKind.i64.wrap ((i : Int) - 1) = ((i - 1 : Nat) : Int) := by rw [w64 (by omega) (by omega)]; omega
    have hy := List.getElem?_eq_getElem (show i - 1 < l.length by omega)
    generalize hY : l[i - 1] = y at hy
    by_cases a7 : x.fUniverse ≤ y.fUniverse
    ·simp [a1, a2, a5, a6, hw2, at_nat hy, hy, a7]
    ·simp [a1, a2, a5, a6, hw2, at_nat hy, hy, a7, hw]
   ·obtain rfl : i = 0 := by omega
    simp [a1, a2, a5]
    rfl
  ·have a5' : ¬ (x.fSlots.length : Int) = 512 := by omega
   simp [a1, a2, a5, a5']) (by
  simp only [f41_L1]
  rw [if_neg (by simp)])
 rw [hrun]
 have : (List.range l.length).findSome? (fun i => (frErr l i).map (Sum.inr : Int → Unit ⊕ Int)) = ((List.range l.length).findSome? (frErr l)).map Sum.inr := by
  rw [List.map_findSome?]; rfl
 rw [this]
 cases h : (List.range l.length).findSome? (frErr l) <;> simp [h3, h]
theorem asc_len {l : List NetworkStream} (h : Asc l) : l.length ≤ 8 := by
 have key : ∀ i (hi : i < l.length), 1 + (i : Int) ≤ l[i].fUniverse := fun i => by
  induction i with
  | zero => intro hi; have := (h.rng _ (List.getElem_mem hi)).1; simpa using this
  | succ i ih =>
   intro hi
   have h1 := ih (by omega)
   have h2 := List.pairwise_iff_getElem.1 h.asc i (i + 1) (by omega) hi (by omega)
   omega
 by_cases h0 : l.length ≤ 8
 ·exact h0
 ·have h1 := key 8 (by omega)
  have h2 := (h.rng _ (List.getElem_mem (show 8 < l.length by omega))).2
  omega
theorem moment_of {s : NetworkSender} {t : Int} (hn : namedS s.fSource s.fPriority s.fSync = true) (hp : 0 ≤ s.fPulse ∧ s.fPulse ≤ 255) (ht : 0 ≤ t ∧ t ≤ 10000000) (hg : Good t s.fStreams) : momentS s t = 0 := by
 have hst : ∀ i, i < s.fStreams.length → stErr s.fStreams i = none := fun i hi => by
  unfold stErr
  rw [List.getElem?_eq_getElem hi]
  have hm := List.getElem_mem hi
  obtain ⟨k1, k2, k3, k4⟩ := hg.ok _ hm
  have k5 := hg.rng _ hm
  have hall : (wi s.fStreams[i].fUniverse 1 8 && (wi s.fStreams[i].fSeq 0 255 && (wi s.fStreams[i].fLast 0 10000000 && wi s.fStreams[i].fTimes 1 3))) = true := by
   rw [Bool.and_eq_true, Bool.and_eq_true, Bool.and_eq_true]
   exact ⟨wi_iff.2 k5, wi_iff.2 k1, wi_iff.2 (by omega), wi_iff.2 k3⟩
  simp only [hall, Bool.true_eq_false, if_false]
  rw [if_neg (by omega)]
  split
  ·rename_i h0
   rw [List.getElem?_eq_getElem (show i - 1 < s.fStreams.length by omega)]
   have := List.pairwise_iff_getElem.1 hg.asc (i - 1) i (by omega) hi (by omega)
   simp only
   rw [if_neg (by omega)]
  ·rfl
 have hr : rightS s = 0 := by
  unfold rightS
  rw [if_neg (by simp [hn]), if_neg (by rw [wi_iff.2 hp]; simp), if_neg (by have := asc_len hg.toAsc; omega)]
  have : (List.range s.fStreams.length).findSome? (stErr s.fStreams) = none := by
   rw [List.findSome?_eq_none_iff]
   exact fun i hi => hst i (List.mem_range.1 hi)
  rw [this]; rfl
 unfold momentS
 rw [if_neg (by simpa using hr), if_neg (by rw [wi_iff.2 ht]; simp), if_neg]
 intro hc
 obtain ⟨x, hx, hlt⟩ := List.any_eq_true.1 hc
 have := (hg.ok x hx).2.1.2
 simp at hlt
 omega
theorem good_mono {t t' : Int} {l : List NetworkStream} (h : Good t l) (ht : t ≤ t') : Good t' l :=
 ⟨h.toAsc, fun x hx => by obtain ⟨a, b, c⟩ := h.ok x hx; exact ⟨a, ⟨b.1, by omega⟩, c⟩⟩
def fr (x : NetworkStream) : ApiFrame := ⟨x.fUniverse, x.fSlots⟩
theorem next_fr {t : Int} {f : ApiFrame} {x : NetworkStream} (h : x.fUniverse = f.fUniverse) : fr (nextS t f x).1 = f := by
 unfold nextS fr
 by_cases h1 : x.fSlots = f.fSlots
 ·rw [if_neg (by simp [h1])]
  split <;> (simp only; rw [h, h1])
 ·rw [if_pos (by simpa using h1)]
  simp only
  rw [h]
theorem next_sent {t : Int} {f : ApiFrame} {x : NetworkStream} (h : (nextS t f x).2 = true) : (nextS t f x).1.fSeq = nextSeq x.fSeq := by
 unfold nextS at h ⊢
 split
 ·rfl
 ·split
  ·rfl
  ·rename_i h1 h2
   rw [if_neg h1, if_neg h2] at h
   cases h
theorem next_same {t : Int} {f : ApiFrame} {x : NetworkStream} (h : (nextS t f x).2 = false) : (nextS t f x).1 = x := by
 unfold nextS at h ⊢
 split
 ·rename_i h1
  rw [if_pos h1] at h
  cases h
 ·split
  ·rename_i h1 h2
   rw [if_neg h1, if_pos h2] at h
   cases h
  ·rfl
theorem step_split {S : NetworkSender} {t : Int} {f : ApiFrame} {l : List NetworkStream} {out : List NetworkPacket} (hg : Good t l) : ∃ A B, (∀ x ∈ A, x.fUniverse < f.fUniverse) ∧ (∀ x ∈ B, f.fUniverse < x.fUniverse) ∧
  ((l = A ++ B ∧ stepS S t f l out = (A ++ ⟨f.fUniverse, 0, t, 1, f.fSlots⟩ :: B, out ++ [tellS S ⟨f.fUniverse, 0, t, 1, f.fSlots⟩])) ∨
  ∃ x, l = A ++ x :: B ∧ x.fUniverse = f.fUniverse ∧ stepS S t f l out = (A ++ (nextS t f x).1 :: B, if (nextS t f x).2 = true then out ++ [tellS S (nextS t f x).1] else out)) := by
 have hp := pos_spec hg.asc f.fUniverse
 have hA : ∀ y ∈ l.take (posS l f.fUniverse), y.fUniverse < f.fUniverse := fun y hy => by
  obtain ⟨i, hi, rfl⟩ := List.mem_take_iff_getElem.1 hy
  exact (hp i _ (List.getElem?_eq_getElem (by omega))).2 (by omega)
 unfold stepS
 cases hx : l[posS l f.fUniverse]? with
 | none =>
  have hle : l.length ≤ posS l f.fUniverse := by simpa using hx
  rw [List.take_of_length_le hle] at hA
  exact ⟨l, [], hA, by simp, .inl ⟨by simp, rfl⟩⟩
 | some x =>
  obtain ⟨hpl, hxe⟩ := List.getElem?_eq_some_iff.1 hx
  have hdr : l.drop (posS l f.fUniverse) = x :: l.drop (posS l f.fUniverse + 1) := by rw [List.drop_eq_getElem_cons hpl, hxe]
  have hl : l = l.take (posS l f.fUniverse) ++ x :: l.drop (posS l f.fUniverse + 1) := by rw [← hdr, List.take_append_drop]
  have hgt : ∀ y ∈ l.drop (posS l f.fUniverse + 1), x.fUniverse < y.fUniverse := fun y hy => by
   have h := hg.asc
   rw [hl] at h
   exact (List.pairwise_cons.1 (List.pairwise_append.1 h).2.1).1 y hy
  have hge : ¬ x.fUniverse < f.fUniverse := fun h => Nat.lt_irrefl _ ((hp _ x hx).1 h)
  simp only
  by_cases he : x.fUniverse = f.fUniverse
  ·rw [if_pos he]
   refine ⟨_, _, hA, fun y hy => by have := hgt y hy; omega, .inr ⟨x, hl, he, ?_⟩⟩
   rw [List.set_eq_take_append_cons_drop, if_pos hpl]
  ·rw [if_neg he]
   refine ⟨_, _, hA, fun y hy => ?_, .inl ⟨(List.take_append_drop ..).symm, rfl⟩⟩
   rw [hdr] at hy
   rcases List.mem_cons.1 hy with rfl | hy
   ·omega
   ·have := hgt y hy; omega
theorem step_mem {S : NetworkSender} {t : Int} {f : ApiFrame} {l : List NetworkStream} {out : List NetworkPacket} (hg : Good t l) (z : ApiFrame) : z ∈ (stepS S t f l out).1.map fr ↔ z = f ∨ (z ∈ l.map fr ∧ z.fUniverse ≠ f.fUniverse) := by
 obtain ⟨A, B, hA, hB, h⟩ := step_split (S := S) (f := f) (out := out) hg
 have hA' : ∀ z ∈ A.map fr, z.fUniverse ≠ f.fUniverse := fun z hz => by
  obtain ⟨x, hx, rfl⟩ := List.mem_map.1 hz
  have := hA x hx
  show x.fUniverse ≠ _
  omega
 have hB' : ∀ z ∈ B.map fr, z.fUniverse ≠ f.fUniverse := fun z hz => by
  obtain ⟨x, hx, rfl⟩ := List.mem_map.1 hz
  have := hB x hx
  show x.fUniverse ≠ _
  omega
 have key : z ∈ A.map fr ++ f :: B.map fr ↔ z = f ∨ ((z ∈ A.map fr ∨ z ∈ B.map fr) ∧ z.fUniverse ≠ f.fUniverse) := by
  rw [List.mem_append, List.mem_cons]
  constructor
  ·intro h
   rcases h with h | h | h
   ·exact .inr ⟨.inl h, hA' z h⟩
   ·exact .inl h
   ·exact .inr ⟨.inr h, hB' z h⟩
  ·intro h
   rcases h with h | ⟨h | h, _⟩
   ·exact .inr (.inl h)
   ·exact .inl h
   ·exact .inr (.inr h)
 rcases h with ⟨hl, hs⟩ | ⟨x, hl, he, hs⟩
 ·rw [hs, hl, List.map_append, List.map_append, List.map_cons, show fr ⟨f.fUniverse, 0, t, 1, f.fSlots⟩ = f from rfl, key, List.mem_append]
 ·rw [hs, hl, List.map_append, List.map_append, List.map_cons, List.map_cons, next_fr he, key, List.mem_append, List.mem_cons]
  constructor
  ·intro h
   rcases h with h | ⟨h | h, h2⟩
   ·exact .inl h
   ·exact .inr ⟨.inl h, h2⟩
   ·exact .inr ⟨.inr (.inr h), h2⟩
  ·intro h
   rcases h with h | ⟨h | h | h, h2⟩
   ·exact .inl h
   ·exact .inr ⟨.inl h, h2⟩
   ·exact absurd (by rw [h]; exact he) h2
   ·exact .inr ⟨.inr h, h2⟩
end Go.Proofs.Ytgfohogbechkkaa.Net
namespace Go.Proofs.Ytgfohogbechkkaa
open Go Go.Ab
theorem newer_next {q : Int} (h : 0 ≤ q ∧ q ≤ 255) : newerS q (Net.nextSeq q) = true := by
 have hn := Net.nextSeq_wi q h.1
 unfold newerS
 rw [wi_iff.2 h, wi_iff.2 hn]
 by_cases h1 : q = 255
 ·subst h1; decide
 ·have : Net.nextSeq q = q + 1 := by
   unfold Net.nextSeq
   exact Int.tmod_eq_of_lt (by omega) (by omega)
  rw [this, show q + 1 - q + 256 = 257 by omega]
  decide
theorem kc_lt0 {p : NetworkPacket} {y : ReceiverInput} (h : y.fUniverse < p.fUniverse) : kc p y < 0 := by rw [kc_neg]; simp [ltU, h]
theorem kc_gt0 {p : NetworkPacket} {y : ReceiverInput} (h : p.fUniverse < y.fUniverse) : 0 < kc p y := by
 have : cmpI y.fUniverse p.fUniverse = 1 := by unfold cmpI; rw [if_neg (by omega), if_pos h]
 unfold kc ordS
 simp [this]
theorem posB_app {c : ReceiverInput → Int} {B : List ReceiverInput} (hB : ∀ z ∈ B, 0 < c z) : ∀ {A : List ReceiverInput}, (∀ z ∈ A, c z < 0) → posB c (A ++ B) = A.length
 | [], _ => by
  cases B with
  | nil => rfl
  | cons b B => exact posB_cons_pos (by have := hB b (List.mem_cons_self ..); omega)
 | a :: A, hA => by
  rw [List.cons_append, posB_cons_neg (hA a (List.mem_cons_self ..)), posB_app hB fun z hz => hA z (List.mem_cons_of_mem _ hz)]
  rfl
theorem hasB_app {c : ReceiverInput → Int} {A B : List ReceiverInput} (hA : ∀ z ∈ A, c z < 0) (hB : ∀ z ∈ B, 0 < c z) : hasB c (A ++ B) = false := by
 unfold hasB
 rw [posB_app hB hA, List.getElem?_append_right (Nat.le_refl _), Nat.sub_self]
 cases B with
 | nil => rfl
 | cons b B =>
  have := hB b (List.mem_cons_self ..)
  simp
  omega
theorem taken_new {A B : List ReceiverInput} {t : Int} {p : NetworkPacket} (h0 : p.fUniverse ≠ 0) (he : p.fEnd = false) (hA : ∀ y ∈ A, kc p y < 0) (hB : ∀ y ∈ B, 0 < kc p y) (hl : (A ++ B).length ≠ 64) :
  (takenS (A ++ B) t p).1 = A ++ fedS t p (newI p) :: B := by
 unfold takenS
 rw [if_neg h0, hasB_app hA hB, posB_app hB hA, he, if_neg (by simp), if_neg (by simp), if_neg hl]
 simp
theorem taken_old {A B : List ReceiverInput} {y : ReceiverInput} {t : Int} {p : NetworkPacket} (h0 : p.fUniverse ≠ 0) (he : p.fEnd = false) (hA : ∀ y ∈ A, kc p y < 0) (hy : kc p y = 0) (hn : newerS y.fSeq p.fSeq = true) :
  (takenS (A ++ y :: B) t p).1 = A ++ fedS t p y :: B := by
 have hp : posB (kc p) (A ++ y :: B) = A.length := posB_mid hA (by omega)
 have hat : (A ++ y :: B)[A.length]? = some y := by rw [List.getElem?_append_right (Nat.le_refl _), Nat.sub_self]; rfl
 have hh : hasB (kc p) (A ++ y :: B) = true := by
  unfold hasB
  rw [hp, hat]
  simpa using hy
 unfold takenS
 rw [if_neg h0, if_pos hh, hp, hat, he]
 simp only
 rw [if_neg (by simp [hn]), if_neg (by simp)]
 simp
def gI (y : ReceiverInput) : Int × Int × Int × Int × Int × List UInt8 := (y.fUniverse, y.fSource, y.fPriority, y.fSeq, y.fSync, if y.fWait = [] then y.fSlots else y.fWait)
def hI (s : Int) (x : NetworkStream) : Int × Int × Int × Int × Int × List UInt8 := (x.fUniverse, 7, 100, x.fSeq, s, x.fSlots)
structure Both (s t : Int) (l : List NetworkStream) (ys : List ReceiverInput) : Prop where
 gs : Net.Good t l
 gr : Good t ys
 rel : ys.map gI = l.map (hI s)
theorem g_fed {t : Int} {p : NetworkPacket} {x : ReceiverInput} (hp : p.fSlots.length = 512) : gI (fedS t p x) = (x.fUniverse, x.fSource, p.fPriority, p.fSeq, p.fSync, p.fSlots) := by
 have hf : fullS p.fSlots = p.fSlots := by unfold fullS; rw [hp]; simp
 have hne : p.fSlots ≠ [] := fun e => by rw [e] at hp; cases hp
 unfold gI fedS
 by_cases h : p.fSync = 0
 ·simp [h, hf]
 ·simp [h, hf, hne]
theorem rel_mem {s : Int} {A : List NetworkStream} {A' : List ReceiverInput} (e : A'.map gI = A.map (hI s)) {y : ReceiverInput} (hy : y ∈ A') : ∃ x ∈ A, gI y = hI s x := by
 have : gI y ∈ A.map (hI s) := e ▸ List.mem_map_of_mem hy
 obtain ⟨x, hx, hxy⟩ := List.mem_map.1 this
 exact ⟨x, hx, hxy.symm⟩
theorem rel_u {s : Int} {x : NetworkStream} {y : ReceiverInput} (h : gI y = hI s x) : y.fUniverse = x.fUniverse ∧ y.fSource = 7 ∧ y.fSeq = x.fSeq ∧ y.fSync = s ∧ (if y.fWait = [] then y.fSlots else y.fWait) = x.fSlots := by
 unfold gI hI at h
 simp only [Prod.mk.injEq] at h
 exact ⟨h.1, h.2.1, h.2.2.2.1, h.2.2.2.2.1, h.2.2.2.2.2⟩
def foldT (t : Int) (ys : List ReceiverInput) (out : List NetworkPacket) : List ReceiverInput := out.foldl (fun l p => (takenS l t p).1) ys
theorem foldT_snoc (t : Int) (ys : List ReceiverInput) (out : List NetworkPacket) (p : NetworkPacket) : foldT t ys (out ++ [p]) = (takenS (foldT t ys out) t p).1 := by unfold foldT; rw [List.foldl_append]; rfl
theorem foldT_good {t : Int} : ∀ {out : List NetworkPacket} {ys : List ReceiverInput}, Good t ys → (∀ p ∈ out, checkS p = 0) → Good t (foldT t ys out)
 | [], _, h, _ => h
 | p :: out, ys, h, hc => foldT_good (out := out) (taken_good h (hc p (List.mem_cons_self ..))) fun q hq => hc q (List.mem_cons_of_mem _ hq)
theorem both_step {s t pulse : Int} {st : List NetworkStream} {f : ApiFrame} {l : List NetworkStream} {out : List NetworkPacket} {ys0 : List ReceiverInput} (hs : 0 ≤ s ∧ s ≤ 8) (hf : Net.FrOk f) (h : Both s t l (foldT t ys0 out)) (ho : ∀ p ∈ out, checkS p = 0) :
  Both s t (Net.stepS ⟨7, 100, s, pulse, st⟩ t f l out).1 (foldT t ys0 (Net.stepS ⟨7, 100, s, pulse, st⟩ t f l out).2) ∧ (∀ p ∈ (Net.stepS ⟨7, 100, s, pulse, st⟩ t f l out).2, checkS p = 0) ∧ (Net.stepS ⟨7, 100, s, pulse, st⟩ t f l out).2.length ≤ out.length + 1 := by
 have hg := h.gs
 have hgood := Net.good_step (S := ⟨7, 100, s, pulse, st⟩) (f := f) (out := out) hg h.gr.t0 hf
 obtain ⟨A, B, hA, hB, hh⟩ := Net.step_split (S := ⟨7, 100, s, pulse, st⟩) (f := f) (out := out) hg
 have tell_ok : ∀ n : NetworkStream, n.fUniverse = f.fUniverse → (0 ≤ n.fSeq ∧ n.fSeq ≤ 255) → n.fSlots.length = 512 → checkS (Net.tellS ⟨7, 100, s, pulse, st⟩ n) = 0 := fun n h1 h2 h3 => by
  have hu := hf.1
  exact check_mk (p := Net.tellS ⟨7, 100, s, pulse, st⟩ n) (by decide : (0 : Int) < 7 ∧ (7 : Int) < 281474976710655) (by decide : (0 : Int) ≤ 100 ∧ (100 : Int) ≤ 200) hs (by show 0 ≤ n.fUniverse ∧ n.fUniverse ≤ 8; omega) h2 (by show n.fSlots.length ≤ 512; omega) (fun h0 => by have : n.fUniverse = 0 := h0; omega)
 have hlen : (foldT t ys0 out).length ≤ 8 := by
  have e := congrArg List.length h.rel
  rw [List.length_map, List.length_map] at e
  have := Net.asc_len hg.toAsc
  omega
 have hrel := h.rel
 have hgr := h.gr
 generalize hys : foldT t ys0 out = ys at hlen hrel hgr
 have hu := hf.1
 have app_ok : ∀ p : NetworkPacket, checkS p = 0 → ∀ q ∈ out ++ [p], checkS q = 0 := fun p hp q hq => by
  rcases List.mem_append.1 hq with hq | hq
  ·exact ho q hq
  ·rw [List.mem_singleton.1 hq]; exact hp
 rcases hh with ⟨hl, hst⟩ | ⟨x, hl, he, hst⟩
 ·rw [hst] at hgood ⊢
  rw [hl, List.map_append] at hrel
  obtain ⟨A', B', rfl, eA, eB⟩ := List.map_eq_append_iff.1 hrel
  have hck := tell_ok ⟨f.fUniverse, 0, t, 1, f.fSlots⟩ rfl ⟨Int.le_refl _, by show (0 : Int) ≤ 255; decide⟩ hf.2
  refine ⟨?_, app_ok _ hck, by simp⟩
  rw [foldT_snoc, hys]
  have hgr2 := taken_good hgr hck
  refine ⟨hgood, hgr2, ?_⟩
  rw [taken_new (p := Net.tellS ⟨7, 100, s, pulse, st⟩ ⟨f.fUniverse, 0, t, 1, f.fSlots⟩) (by show f.fUniverse ≠ 0; omega) rfl (fun y hy => ?_) (fun y hy => ?_) (by omega), List.map_append, List.map_append, List.map_cons, List.map_cons, eA, eB, g_fed (by exact hf.2)]
  ·rfl
  ·obtain ⟨x, hx, e⟩ := rel_mem eA hy
   have := hA x hx
   have := (rel_u e).1
   exact kc_lt0 (by show y.fUniverse < f.fUniverse; omega)
  ·obtain ⟨x, hx, e⟩ := rel_mem eB hy
   have := hB x hx
   have := (rel_u e).1
   exact kc_gt0 (by show f.fUniverse < y.fUniverse; omega)
 ·rw [hst] at hgood ⊢
  have hnu : (Net.nextS t f x).1.fUniverse = x.fUniverse := Net.nextS_spec
  obtain ⟨k1, k2, k3, k4⟩ := hgood.ok (Net.nextS t f x).1 (by simp)
  have hxok := hg.ok x (by rw [hl]; simp)
  cases hb : (Net.nextS t f x).2
  ·have hsame := Net.next_same hb
   simp only [Bool.false_eq_true, if_false]
   refine ⟨?_, ho, by omega⟩
   rw [hys]
   refine ⟨hgood, hgr, ?_⟩
   rw [hrel, hl, hsame]
  ·simp only [if_true]
   have hck := tell_ok (Net.nextS t f x).1 (hnu.trans he) k1 k4
   refine ⟨?_, app_ok _ hck, by simp⟩
   rw [hl, List.map_append, List.map_cons] at hrel
   obtain ⟨A', B1, rfl, eA, eB⟩ := List.map_eq_append_iff.1 hrel
   obtain ⟨y, B', rfl, ey, eB⟩ := List.map_eq_cons_iff.1 eB
   have ru := rel_u ey
   have hseq := Net.next_sent hb
   rw [foldT_snoc, hys]
   have hgr2 := taken_good hgr hck
   refine ⟨hgood, hgr2, ?_⟩
   rw [taken_old (p := Net.tellS ⟨7, 100, s, pulse, st⟩ (Net.nextS t f x).1) (by show (Net.nextS t f x).1.fUniverse ≠ 0; omega) rfl (fun y hy => ?_) (by rw [kc_zero]; exact ⟨by show y.fUniverse = (Net.nextS t f x).1.fUniverse; omega, ru.2.1⟩) (by show newerS y.fSeq (Net.nextS t f x).1.fSeq = true; rw [hseq, ru.2.2.1]; exact newer_next hxok.1),
    List.map_append, List.map_append, List.map_cons, List.map_cons, eA, eB, g_fed (by exact k4), ru.1, ru.2.1, ← hnu]
   ·rfl
   ·obtain ⟨x', hx, e⟩ := rel_mem eA hy
    have := hA x' hx
    have := (rel_u e).1
    exact kc_lt0 (by show y.fUniverse < (Net.nextS t f x).1.fUniverse; omega)
theorem both_all {s t pulse : Int} {st : List NetworkStream} {ys0 : List ReceiverInput} (hs : 0 ≤ s ∧ s ≤ 8) : ∀ (fs : List ApiFrame) (l : List NetworkStream) (out : List NetworkPacket), (∀ f ∈ fs, Net.FrOk f) → fs.Pairwise (fun a b => a.fUniverse < b.fUniverse) → Both s t l (foldT t ys0 out) → (∀ p ∈ out, checkS p = 0) →
  Both s t (fs.foldl (fun p f => Net.stepS ⟨7, 100, s, pulse, st⟩ t f p.1 p.2) (l, out)).1 (foldT t ys0 (fs.foldl (fun p f => Net.stepS ⟨7, 100, s, pulse, st⟩ t f p.1 p.2) (l, out)).2) ∧
  (∀ p ∈ (fs.foldl (fun p f => Net.stepS ⟨7, 100, s, pulse, st⟩ t f p.1 p.2) (l, out)).2, checkS p = 0) ∧ (fs.foldl (fun p f => Net.stepS ⟨7, 100, s, pulse, st⟩ t f p.1 p.2) (l, out)).2.length ≤ out.length + fs.length ∧
  ∀ z, z ∈ (fs.foldl (fun p f => Net.stepS ⟨7, 100, s, pulse, st⟩ t f p.1 p.2) (l, out)).1.map Net.fr ↔ z ∈ fs ∨ (z ∈ l.map Net.fr ∧ ∀ f ∈ fs, z.fUniverse ≠ f.fUniverse)
 | [], l, out, _, _, h, ho => ⟨h, ho, by simp, fun z => by simp⟩
 | f :: fs, l, out, hf, hp, h, ho => by
  obtain ⟨b1, b2, b3⟩ := both_step (pulse := pulse) (st := st) hs (hf f (List.mem_cons_self ..)) h ho
  have hm := Net.step_mem (S := ⟨7, 100, s, pulse, st⟩) (f := f) (out := out) h.gs
  have hp' := List.pairwise_cons.1 hp
  obtain ⟨c1, c2, c3, c4⟩ := both_all hs fs _ _ (fun g hg => hf g (List.mem_cons_of_mem _ hg)) hp'.2 b1 b2
  rw [List.foldl_cons]
  refine ⟨c1, c2, Nat.le_trans c3 (by rw [List.length_cons]; omega), fun z => ?_⟩
  refine (c4 z).trans ?_
  rw [hm, List.mem_cons]
  constructor
  ·intro h
   rcases h with h | ⟨h | ⟨h, h2⟩, h3⟩
   ·exact .inl (.inr h)
   ·exact .inl (.inl h)
   ·refine .inr ⟨h, fun g hg => ?_⟩
    rcases List.mem_cons.1 hg with rfl | hg
    ·exact h2
    ·exact h3 g hg
  ·intro h
   rcases h with (h | h) | ⟨h, h3⟩
   ·refine .inr ⟨.inl h, fun g hg => ?_⟩
    have := hp'.1 g hg
    rw [h]; omega
   ·exact .inl h
   ·exact .inr ⟨.inr ⟨h, h3 f (List.mem_cons_self ..)⟩, fun g hg => h3 g (List.mem_cons_of_mem _ hg)⟩
theorem g_pulse (p : NetworkPacket) (y : ReceiverInput) : gI (pulse1 p y) = gI y := by
 unfold pulse1
 by_cases h : waits p y = true
 ·rw [if_pos h]
  unfold waits at h
  have hw : y.fWait ≠ [] := by simp at h; exact h.2.2
  unfold gI lit
  simp [hw]
 ·rw [if_neg h]
theorem send_ok {s t pulse : Int} {l : List NetworkStream} {ys : List ReceiverInput} {fs : List ApiFrame} (hs : 0 ≤ s ∧ s ≤ 8) (hpu : 0 ≤ pulse ∧ pulse ≤ 255) (h : Both s t l ys) (hf : Net.framesS fs = 0) (hw : ∀ y ∈ ys, y.fWait = []) :
  ∃ pulse' l' out, Net.sendS ⟨7, 100, s, pulse, l⟩ t fs = (⟨7, 100, s, pulse', l'⟩, out, 0) ∧ (0 ≤ pulse' ∧ pulse' ≤ 255) ∧ out.length ≤ fs.length + 1 ∧ (∀ p ∈ out, checkS p = 0) ∧ Both s t l' (foldT t ys out) ∧ (∀ y ∈ foldT t ys out, y.fWait = []) ∧
   ∀ z, z ∈ l'.map Net.fr ↔ z ∈ fs ∨ (z ∈ l.map Net.fr ∧ ∀ f ∈ fs, z.fUniverse ≠ f.fUniverse) := by
 obtain ⟨f1, f2, f3⟩ := Net.frames_ok hf
 have hn : Net.namedS 7 100 s = true := by
  unfold Net.namedS
  simp only [Bool.and_eq_true, decide_eq_true_eq, Net.wi_iff]
  exact ⟨by decide, by decide, by decide, hs⟩
 have hm : Net.momentS ⟨7, 100, s, pulse, l⟩ t = 0 := Net.moment_of hn hpu ⟨h.gr.t0, h.gr.t1⟩ h.gs
 obtain ⟨c1, c2, c3, c4⟩ := both_all (pulse := pulse) (st := l) (ys0 := ys) hs fs l [] f2 f3 h (by simp)
 rw [show fs.foldl (fun p f => Net.stepS ⟨7, 100, s, pulse, l⟩ t f p.1 p.2) (l, []) = Net.sentS ⟨7, 100, s, pulse, l⟩ t fs from rfl] at c1 c2 c3 c4
 unfold Net.sendS
 rw [if_neg (by simp [hm]), if_neg (by simp [hf])]
 generalize Net.sentS ⟨7, 100, s, pulse, l⟩ t fs = r at c1 c2 c3 c4
 simp only [List.length_nil, Nat.zero_add] at c3
 by_cases hc : 0 < r.2.length ∧ s ≠ 0
 ·rw [if_pos hc]
  have hck : checkS ⟨7, 0, 100, pulse, s, false, []⟩ = 0 := check_mk (by decide : (0 : Int) < 7 ∧ (7 : Int) < 281474976710655) (by decide : (0 : Int) ≤ 100 ∧ (100 : Int) ≤ 200) hs (by decide : (0 : Int) ≤ 0 ∧ (0 : Int) ≤ 8) hpu (Nat.zero_le _) fun _ => ⟨hc.2, rfl, rfl⟩
  have htk : (takenS (foldT t ys r.2) t ⟨7, 0, 100, pulse, s, false, []⟩).1 = (foldT t ys r.2).map (pulse1 ⟨7, 0, 100, pulse, s, false, []⟩) := by unfold takenS; rw [if_pos rfl]
  refine ⟨Net.nextSeq pulse, r.1, r.2 ++ [⟨7, 0, 100, pulse, s, false, []⟩], rfl, Net.nextSeq_wi _ hpu.1, by rw [List.length_append, List.length_singleton]; omega, fun p hp => ?_, ?_, ?_, c4⟩
  ·rcases List.mem_append.1 hp with hp | hp
   ·exact c2 p hp
   ·rw [List.mem_singleton.1 hp]; exact hck
  ·rw [foldT_snoc]
   refine ⟨c1.gs, taken_good c1.gr hck, ?_⟩
   rw [htk, List.map_map, ← c1.rel]
   exact List.map_congr_left fun y _ => g_pulse _ y
  ·rw [foldT_snoc, htk]
   intro y hy
   obtain ⟨y', hy', rfl⟩ := List.mem_map.1 hy
   obtain ⟨x, _, e⟩ := rel_mem c1.rel hy'
   have ru := rel_u e
   unfold pulse1
   by_cases hwt : y'.fWait = []
   ·rw [if_neg (by simp [waits, hwt])]
    exact hwt
   ·rw [if_pos (by simp [waits, hwt, ru.2.1, ru.2.2.2.1])]
    rfl
 ·rw [if_neg hc]
  refine ⟨pulse, r.1, r.2, rfl, hpu, by omega, c2, c1, fun y hy => ?_, c4⟩
  by_cases h0 : s = 0
  ·obtain ⟨x, _, e⟩ := rel_mem c1.rel hy
   have ru := rel_u e
   exact (in_ok (c1.gr.ok y hy)).2.2.2.2.2 (ru.2.2.2.1.trans h0)
  ·have hnil : r.2 = [] := by
    cases hr : r.2 with
    | nil => rfl
    | cons p q => exact absurd ⟨by rw [hr]; simp, h0⟩ hc
   rw [hnil] at hy
   exact hw y hy
end Go.Proofs.Ytgfohogbechkkaa
