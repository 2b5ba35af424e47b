import Derived.Test.YtgfohogbechkkaaW1
set_option linter.unusedSimpArgs false
set_option linter.unusedVariables false
namespace Go.Proofs.Ytgfohogbechkkaa
open Go Go.Ab
theorem wf8 {n : Int} (h : (Lit.int .u8 n).wf = true) : 0 ≤ n ∧ n ≤ 255 := by
 have h2 : IntKind.u8.min ≤ n ∧ n ≤ IntKind.u8.max := by simpa [Lit.wf] using h
 rwa [show IntKind.u8.min = 0 by decide, show IntKind.u8.max = 255 by decide] at h2
theorem strict_ext {τ : Type} {key : τ → Int} : ∀ {xs ys : List τ}, xs.Pairwise (fun a b => key a < key b) → ys.Pairwise (fun a b => key a < key b) → (∀ z, z ∈ xs ↔ z ∈ ys) → xs = ys
 | [], [], _, _, _ => rfl
 | [], y :: ys, _, _, h => by have := (h y).2 (List.mem_cons_self ..); cases this
 | x :: xs, [], _, _, h => by have := (h x).1 (List.mem_cons_self ..); cases this
 | x :: xs, y :: ys, h1, h2, h => by
  have h1' := List.pairwise_cons.1 h1
  have h2' := List.pairwise_cons.1 h2
  have hxy : x = y := by
   rcases List.mem_cons.1 ((h x).1 (List.mem_cons_self ..)) with e | e
   ·exact e
   ·rcases List.mem_cons.1 ((h y).2 (List.mem_cons_self ..)) with e2 | e2
    ·exact e2.symm
    ·have := h2'.1 x e
     have := h1'.1 y e2
     omega
  subst hxy
  rw [strict_ext h1'.2 h2'.2 fun z => ?_]
  have hz := h z
  rw [List.mem_cons, List.mem_cons] at hz
  constructor
  ·intro hm
   rcases hz.1 (.inr hm) with e | e
   ·have := h1'.1 z hm; rw [e] at this; omega
   ·exact e
  ·intro hm
   rcases hz.2 (.inr hm) with e | e
   ·have := h2'.1 z hm; rw [e] at this; omega
   ·exact e
theorem mx8_zero (b : UInt8) : mx8 0 b = b := by
 unfold mx8
 by_cases h : (0 : UInt8).toNat < b.toNat
 ·rw [if_pos h]
 ·rw [if_neg h]
  have h0 : (0 : UInt8).toNat = 0 := rfl
  have : b.toNat = 0 := by omega
  exact (UInt8.toNat_inj.1 (by rw [this]; rfl)).symm
theorem zip_zero : ∀ (s : List UInt8) (n : Nat), s.length = n → List.zipWith mx8 (List.replicate n 0) s = s
 | [], n, h => by simp at h; subst h; rfl
 | b :: s, 0, h => by simp at h
 | b :: s, n + 1, h => by
  rw [List.replicate_succ, List.zipWith_cons_cons, mx8_zero, zip_zero s n (by simpa using h)]
section
variable {s : Int} {l : List NetworkStream} {ys : List ReceiverInput}
theorem both_frames (h : ys.map gI = l.map (hI s)) (hw : ∀ y ∈ ys, y.fWait = []) : ys.map (fun y => (⟨y.fUniverse, y.fSlots⟩ : ApiFrame)) = l.map Net.fr := by
 have := congrArg (List.map fun g : Int × Int × Int × Int × Int × List UInt8 => (⟨g.1, g.2.2.2.2.2⟩ : ApiFrame)) h
 rw [List.map_map, List.map_map] at this
 refine Eq.trans (List.map_congr_left fun y hy => ?_) this
 show _ = (⟨y.fUniverse, if y.fWait = [] then y.fSlots else y.fWait⟩ : ApiFrame)
 rw [if_pos (hw y hy)]
theorem win_one {t : Int} (hd : ys.Pairwise fun a b => a.fUniverse < b.fUniverse) {y : ReceiverInput} (hy : y ∈ ys) (hc : cand t y.fUniverse y = true) : winS ys t y.fUniverse = [y] := by
 obtain ⟨A, B, rfl⟩ := List.append_of_mem hy
 obtain ⟨_, h2, h3⟩ := List.pairwise_append.1 hd
 have h4 := List.pairwise_cons.1 h2
 have hA : A.filter (cand t y.fUniverse) = [] := by
  rw [List.filter_eq_nil_iff]
  intro x hx
  have := h3 x hx y (List.mem_cons_self ..)
  unfold cand
  rw [decide_eq_false (by omega)]
  simp
 have hB : B.filter (cand t y.fUniverse) = [] := by
  rw [List.filter_eq_nil_iff]
  intro x hx
  have := h4.1 x hx
  unfold cand
  rw [decide_eq_false (by omega)]
  simp
 unfold winS
 rw [List.filter_append, hA, List.filter_cons_of_pos hc, hB]
 rfl
theorem frame_one {t : Int} (hd : ys.Pairwise fun a b => a.fUniverse < b.fUniverse) {y : ReceiverInput} (hy : y ∈ ys) (hc : cand t y.fUniverse y = true) (hl : y.fSlots.length = 512) : frameS ys t y.fUniverse = [⟨y.fUniverse, y.fSlots⟩] := by
 unfold frameS
 rw [win_one hd hy hc, if_neg (by simp)]
 unfold hiS
 rw [List.foldl_cons, zip_zero _ 512 hl]
 rfl
theorem frame_univ {t u : Int} {z : ApiFrame} (h : z ∈ frameS ys t u) : z.fUniverse = u ∧ winS ys t u ≠ [] := by
 unfold frameS at h
 split at h
 ·cases h
 ·rename_i hn
  rw [List.mem_singleton.1 h]
  exact ⟨rfl, hn⟩
def sh (y : ReceiverInput) : ApiFrame := ⟨y.fUniverse, y.fSlots⟩
theorem show_map {t : Int} (hd : ys.Pairwise fun a b => a.fUniverse < b.fUniverse) (hyk : ∀ y ∈ ys, y.fSlots.length = 512 ∧ (1 ≤ y.fUniverse ∧ y.fUniverse ≤ 8) ∧ cand t y.fUniverse y = true) : framesS ys t = ys.map sh := by
 refine strict_ext (key := fun z => z.fUniverse) ?_ (by rw [List.pairwise_map]; exact hd) fun z => ?_
 ·unfold framesS
  rw [List.pairwise_flatMap]
  refine ⟨fun i _ => ?_, List.pairwise_lt_range.imp fun hij x hx y hy => ?_⟩
  ·unfold frameS
   split <;> simp
  ·have := (frame_univ hx).1
   have := (frame_univ hy).1
   omega
 ·constructor
  ·intro hz
   unfold framesS at hz
   obtain ⟨i, _, hz⟩ := List.mem_flatMap.1 hz
   obtain ⟨hu, hne⟩ := frame_univ hz
   obtain ⟨y, hy⟩ := List.exists_mem_of_ne_nil _ hne
   obtain ⟨hm, hyu, _⟩ := win_mem hy
   obtain ⟨k1, k2, k3⟩ := hyk y hm
   rw [← hyu, frame_one hd hm k3 k1] at hz
   exact List.mem_map.2 ⟨y, hm, (List.mem_singleton.1 hz).symm⟩
  ·intro hz
   obtain ⟨y, hy, rfl⟩ := List.mem_map.1 hz
   obtain ⟨k1, k2, k3⟩ := hyk y hy
   unfold framesS
   refine List.mem_flatMap.2 ⟨(y.fUniverse - 1).toNat, List.mem_range.2 (by omega), ?_⟩
   rw [show (((y.fUniverse - 1).toNat : Nat) : Int) + 1 = y.fUniverse by omega, frame_one hd hy k3 k1]
   exact List.mem_singleton.2 rfl
theorem show_frames {t : Int} {fs : List ApiFrame} (hg : Good t ys) (ht : t ≤ 2500) (hs : ys.map sh = fs) (hf : ∀ f ∈ fs, Net.FrOk f) (hp : fs.Pairwise fun a b => a.fUniverse < b.fUniverse) : framesS ys t = fs := by
 rw [← hs] at hp hf
 rw [← hs]
 have hd : ys.Pairwise fun a b => a.fUniverse < b.fUniverse := by rw [List.pairwise_map] at hp; exact hp
 refine show_map hd fun y hy => ?_
 have hfr := hf (sh y) (List.mem_map_of_mem hy)
 have h512 : y.fSlots.length = 512 := hfr.2
 have hne : y.fSlots ≠ [] := fun e => by rw [e] at h512; cases h512
 have hlast := (in_ok (hg.ok y hy)).2.2.1
 refine ⟨h512, hfr.1, ?_⟩
 unfold cand
 rw [decide_eq_true rfl, decide_eq_true (by omega), decide_eq_false hne]
 rfl
end
theorem sent_now {t : Int} {f : ApiFrame} {x : NetworkStream} (h : x.fTimes < 3) : (Net.nextS t f x).2 = true := by
 unfold Net.nextS
 split
 ·rfl
 ·rw [if_pos (.inl h)]
theorem all_sent {S : NetworkSender} {t : Int} (ht : 0 ≤ t) : ∀ (fs : List ApiFrame) (l : List NetworkStream) (out : List NetworkPacket), Net.Good t l → (∀ f ∈ fs, Net.FrOk f) → fs.Pairwise (fun a b => a.fUniverse < b.fUniverse) → (∀ f ∈ fs, ∀ x ∈ l, x.fUniverse = f.fUniverse → x.fTimes < 3) →
  (fs.foldl (fun p f => Net.stepS S t f p.1 p.2) (l, out)).2.length = out.length + fs.length
 | [], l, out, _, _, _, _ => by simp
 | f :: fs, l, out, hg, hf, hp, h3 => by
  have hp' := List.pairwise_cons.1 hp
  have hgood := Net.good_step (S := S) (f := f) (out := out) hg ht (hf f (List.mem_cons_self ..))
  obtain ⟨A, B, hA, hB, hh⟩ := Net.step_split (S := S) (f := f) (out := out) hg
  have hstep : (Net.stepS S t f l out).2.length = out.length + 1 ∧ ∀ x ∈ (Net.stepS S t f l out).1, x ∈ l ∨ x.fUniverse = f.fUniverse := by
   rcases hh with ⟨hl, hst⟩ | ⟨x, hl, he, hst⟩
   ·rw [hst]
    refine ⟨by simp, fun y hy => ?_⟩
    rw [hl]
    rcases List.mem_append.1 hy with hy | hy
    ·exact .inl (List.mem_append_left _ hy)
    ·rcases List.mem_cons.1 hy with rfl | hy
     ·exact .inr rfl
     ·exact .inl (List.mem_append_right _ hy)
   ·rw [hst, if_pos (sent_now (h3 f (List.mem_cons_self ..) x (by rw [hl]; simp) he))]
    refine ⟨by simp, fun y hy => ?_⟩
    rw [hl]
    rcases List.mem_append.1 hy with hy | hy
    ·exact .inl (List.mem_append_left _ hy)
    ·rcases List.mem_cons.1 hy with rfl | hy
     ·exact .inr (Net.nextS_spec.trans he)
     ·exact .inl (List.mem_append_right _ (List.mem_cons_of_mem _ hy))
  rw [List.foldl_cons]
  refine (all_sent ht fs _ _ hgood (fun g hg => hf g (List.mem_cons_of_mem _ hg)) hp'.2 fun g hg x hx hxu => ?_).trans ?_
  ·rcases hstep.2 x hx with h | h
   ·exact h3 g (List.mem_cons_of_mem _ hg) x h hxu
   ·have := hp'.1 g hg
    omega
  ·show (Net.stepS S t f l out).2.length + _ = _
   rw [hstep.1, List.length_cons]
   omega
theorem times_one {S : NetworkSender} {t : Int} (ht : 0 ≤ t) : ∀ (fs : List ApiFrame) (l : List NetworkStream) (out : List NetworkPacket), Net.Good t l → (∀ f ∈ fs, Net.FrOk f) → fs.Pairwise (fun a b => a.fUniverse < b.fUniverse) → (∀ x ∈ l, x.fTimes < 3) → (∀ f ∈ fs, ∀ x ∈ l, x.fUniverse ≠ f.fUniverse) →
  ∀ x ∈ (fs.foldl (fun p f => Net.stepS S t f p.1 p.2) (l, out)).1, x.fTimes < 3
 | [], l, out, _, _, _, h1, _ => h1
 | f :: fs, l, out, hg, hf, hp, h1, h2 => by
  have hp' := List.pairwise_cons.1 hp
  have hgood := Net.good_step (S := S) (f := f) (out := out) hg ht (hf f (List.mem_cons_self ..))
  obtain ⟨A, B, hA, hB, hh⟩ := Net.step_split (S := S) (f := f) (out := out) hg
  have hstep : ∀ x ∈ (Net.stepS S t f l out).1, x ∈ l ∨ (x.fUniverse = f.fUniverse ∧ x.fTimes = 1) := by
   rcases hh with ⟨hl, hst⟩ | ⟨x, hl, he, hst⟩
   ·rw [hst]
    intro y hy
    rw [hl]
    rcases List.mem_append.1 hy with hy | hy
    ·exact .inl (List.mem_append_left _ hy)
    ·rcases List.mem_cons.1 hy with rfl | hy
     ·exact .inr ⟨rfl, rfl⟩
     ·exact .inl (List.mem_append_right _ hy)
   ·exact absurd he (h2 f (List.mem_cons_self ..) x (by rw [hl]; simp))
  rw [List.foldl_cons]
  refine times_one ht fs _ _ hgood (fun g hg => hf g (List.mem_cons_of_mem _ hg)) hp'.2 (fun x hx => ?_) fun g hg x hx => ?_
  ·rcases hstep x hx with h | h
   ·exact h1 x h
   ·omega
  ·rcases hstep x hx with h | h
   ·exact h2 g (List.mem_cons_of_mem _ hg) x h
   ·have := hp'.1 g hg
    omega
theorem pk_kind {s t pulse : Int} {st : List NetworkStream} : ∀ (fs : List ApiFrame) (l : List NetworkStream) (out : List NetworkPacket), Net.Good t l → 0 ≤ t → (∀ f ∈ fs, Net.FrOk f) →
  ∀ p ∈ (fs.foldl (fun p f => Net.stepS ⟨7, 100, s, pulse, st⟩ t f p.1 p.2) (l, out)).2, p ∈ out ∨ ∃ f ∈ fs, p.fUniverse = f.fUniverse ∧ p.fSource = 7 ∧ p.fSync = s ∧ p.fEnd = false
 | [], l, out, _, _, _ => fun p hp => .inl hp
 | f :: fs, l, out, hg, ht, hf => fun p hp => by
  have hgood := Net.good_step (S := ⟨7, 100, s, pulse, st⟩) (f := f) (out := out) hg ht (hf f (List.mem_cons_self ..))
  obtain ⟨A, B, hA, hB, hh⟩ := Net.step_split (S := ⟨7, 100, s, pulse, st⟩) (f := f) (out := out) hg
  rw [List.foldl_cons] at hp
  rcases pk_kind fs _ _ hgood ht (fun g hg => hf g (List.mem_cons_of_mem _ hg)) p hp with h | ⟨g, hg, h⟩
  ·have h : p ∈ (Net.stepS ⟨7, 100, s, pulse, st⟩ t f l out).2 := h
   rcases hh with ⟨hl, hst⟩ | ⟨x, hl, he, hst⟩
   ·rw [hst] at h
    rcases List.mem_append.1 h with h | h
    ·exact .inl h
    ·rw [List.mem_singleton.1 h]
     exact .inr ⟨f, List.mem_cons_self .., rfl, rfl, rfl, rfl⟩
   ·rw [hst] at h
    have h : p ∈ out ++ [Net.tellS ⟨7, 100, s, pulse, st⟩ (Net.nextS t f x).1] := by
     revert h
     cases (Net.nextS t f x).2
     ·intro h; exact List.mem_append_left _ h
     ·intro h; exact h
    rcases List.mem_append.1 h with h | h
    ·exact .inl h
    ·rw [List.mem_singleton.1 h]
     exact .inr ⟨f, List.mem_cons_self .., Net.nextS_spec.trans he, rfl, rfl, rfl⟩
  ·exact .inr ⟨g, List.mem_cons_of_mem _ hg, h⟩
theorem has_of {ys : List ReceiverInput} {t : Int} (hg : Good t ys) {p : NetworkPacket} {y : ReceiverInput} (hy : y ∈ ys) (h0 : kc p y = 0) : hasB (kc p) ys = true := by
 have mono := kc_mono (p := p) hg.asc
 obtain ⟨A, B, rfl⟩ := List.append_of_mem hy
 have hA : ∀ z ∈ A, kc p z < 0 := fun z hz => (List.pairwise_append.1 mono).2.2 z hz y (List.mem_cons_self ..) (by omega)
 unfold hasB
 rw [posB_mid hA (by omega), List.getElem?_append_right (Nat.le_refl _), Nat.sub_self]
 simpa using h0
theorem wait_map {ys : List ReceiverInput} {t : Int} (hg : Good t ys) {p : NetworkPacket} (h0 : p.fUniverse ≠ 0) (he : p.fEnd = false) (hsy : p.fSync ≠ 0) {y : ReceiverInput} (hy : y ∈ ys) (hu : y.fUniverse = p.fUniverse) (hso : y.fSource = p.fSource) :
  (takenS ys t p).1.map sh = ys.map sh := by
 have hh := has_of hg hy (show kc p y = 0 by rw [kc_zero]; exact ⟨hu, hso⟩)
 obtain ⟨x, hx, hx0⟩ := hasB_at hh
 have hlt := hasB_lt hh
 unfold takenS
 rw [if_neg h0, if_pos hh, hx]
 simp only
 split
 ·rfl
 ·rw [he, if_neg (by simp)]
  have hfs : sh (fedS t p x) = sh x := by unfold sh fedS; rw [if_neg hsy]
  have hsplit : ys = ys.take (posB (kc p) ys) ++ x :: ys.drop (posB (kc p) ys + 1) := by
   conv => lhs; rw [← List.take_append_drop (posB (kc p) ys) ys]
   rw [List.drop_eq_getElem_cons hlt]
   congr 2
   exact (List.getElem?_eq_some_iff.1 hx).2
  conv => rhs; rw [hsplit]
  rw [List.map_append, List.map_append, List.map_cons, List.map_cons, hfs]
theorem wait_fold {t s : Int} {fs : List ApiFrame} (hs0 : s ≠ 0) : ∀ (out : List NetworkPacket) (ys : List ReceiverInput), Good t ys → (∀ y ∈ ys, y.fSource = 7) → ys.map sh = fs → (∀ p ∈ out, checkS p = 0 ∧ p.fUniverse ≠ 0 ∧ (∃ f ∈ fs, p.fUniverse = f.fUniverse) ∧ p.fSource = 7 ∧ p.fSync = s ∧ p.fEnd = false) → (foldT t ys out).map sh = fs
 | [], ys, _, _, h, _ => h
 | p :: out, ys, hg, h7, h, hc => by
  obtain ⟨c1, c2, ⟨f, hf, c3⟩, c4, c5, c6⟩ := hc p (List.mem_cons_self ..)
  rw [← h] at hf
  obtain ⟨y, hy, hyf⟩ := List.mem_map.1 hf
  have hyu : y.fUniverse = p.fUniverse := by rw [c3, ← hyf]; rfl
  have hm := wait_map hg c2 c6 (by omega) hy hyu ((h7 y hy).trans c4.symm)
  refine wait_fold hs0 out _ (taken_good hg c1) (fun z hz => ?_) (hm.trans h) fun q hq => hc q (List.mem_cons_of_mem _ hq)
  have hz : z ∈ (takenS ys t p).1 := hz
  by_cases hok : (takenS ys t p).2 = true
  ·obtain ⟨x, A, B, g⟩ := taken_gone hg c2 c6 hok
   rw [g.eq] at hz
   have hx7 : x.fSource = 7 := g.hs.trans c4
   rcases List.mem_append.1 hz with hz | hz
   ·exact h7 z (g.sub z (.inl hz))
   ·rcases List.mem_cons.1 hz with rfl | hz
    ·exact (fed_place t p x).2.1.trans hx7
    ·exact h7 z (g.sub z (.inr hz))
  ·have : (takenS ys t p).1 = ys := by
    have hh := has_of hg hy (show kc p y = 0 by rw [kc_zero]; exact ⟨hyu, (h7 y hy).trans c4.symm⟩)
    obtain ⟨x, hx, hx0⟩ := hasB_at hh
    revert hok
    unfold takenS
    rw [if_neg c2, if_pos hh, hx]
    simp only
    split
    ·intro _; rfl
    ·rw [c6, if_neg (by simp)]
     intro hc; exact absurd rfl hc
   rw [this] at hz
   exact h7 z hz
theorem f34_eq (a : List ApiFrame) (h : a.length ≤ 9223372036854775806) : f34 a a = some true := by
 unfold f34
 rw [if_neg (by simp)]
 rw [run_all (L := f34_L1 a a) (xs := a) (e := Sum.inl ()) (fun k x hx => by
  have R := Rnd.mk' hx (by omega)
  simp only [f34_L1]
  rw [if_pos R.lt, R.at', R.nxt, Option.bind_some, Option.bind_some]
  simp) (by simp [f34_L1])]
 rfl
theorem f51_eq {t : Int} {ys : List ReceiverInput} {l : List NetworkPacket} (hg : Good t ys) (hc : ∀ p ∈ l, checkS p = 0) (hl : l.length ≤ 1000) : f51 ⟨ys⟩ t l false = some (⟨foldT t ys l⟩, true) := by
 unfold f51
 have hrun := run_count (L := f51_L1 l false t) (e := .inl (foldT t ys l)) (fun k => ((k : Int), foldT t ys (l.take k))) l.length (by simp [f51_L1]) 0 (Nat.zero_le _) (fun k _ hk => by
  have hx := List.getElem?_eq_getElem hk
  have htk : l.take (k + 1) = l.take k ++ [l[k]] := by rw [List.take_add_one, hx]; rfl
  have hxm := List.getElem_mem hk
  generalize l[k] = x at hx htk hxm
  have R := Rnd.mk' hx (by omega)
  have hgk : Good t (foldT t ys (l.take k)) := foldT_good hg fun p hp => hc p (List.mem_of_mem_take hp)
  have c1 : f59 x = some 0 := by rw [f59_eq, hc x hxm]
  have hsl := (check_ok (hc x hxm)).2.2.2.1
  have hdl := Net.dat_len hsl
  simp only [f51_L1]
  rw [if_pos R.lt, R.at', Option.bind_some, Net.f88_eq c1, Option.bind_some]
  simp only
  rw [Net.f89_eq c1 (Net.ent_dec (by omega)).1, Option.bind_some, if_neg (by simp), if_neg (by simp), if_neg (by simp), if_neg (by simp), f16_eq, Option.bind_some]
  simp only [R.nxt]
  rw [take_ok hgk (hc x hxm), if_neg (by simp), htk, foldT_snoc])
 have hrun : (f51_L1 l false t).run (0, ys) = some (.inl (foldT t ys l)) := hrun
 rw [hrun]
 rfl
theorem f52_eq {a : List ApiFrame} (h : a.length ≤ 1000) : f52 a a = some true := by
 unfold f52
 rw [f34_eq a (by omega)]
 rfl
theorem f90_ex (l : List ApiFrame) : ∃ b, f90 l = some b := by
 unfold f90
 obtain ⟨e, he, _⟩ := run_ex (L := f90_L1 l) (s0 := 0) (fun _ => True) (fun s => 0 ≤ s) (fun s => l.length - s.toNat) (Int.le_refl 0) (fun s hs => by
  simp only [f90_L1]
  by_cases h1 : s < (l.length : Int)
  ·rw [if_pos (by simpa using h1)]
   by_cases h2 : s < 12
   ·rw [if_pos (by simpa using h2)]
    have hat : at? l s = some l[s.toNat] := by
     have := at_nat (List.getElem?_eq_getElem (show s.toNat < l.length by omega))
     rwa [show ((s.toNat : Nat) : Int) = s by omega] at this
    rw [hat, Option.bind_some]
    split
    ·exact .inr ⟨_, rfl, trivial⟩
    ·rw [w64 (by omega) (by omega)]
     exact .inl ⟨_, rfl, by omega, by omega⟩
   ·rw [if_neg (by simpa using h2)]
    exact .inr ⟨_, rfl, trivial⟩
  ·rw [if_neg (by simpa using h1)]
   exact .inr ⟨_, rfl, trivial⟩)
 rw [he, Option.bind_some]
 cases e <;> exact ⟨_, rfl⟩
theorem f53_ex (l : List ApiFrame) : ∃ b, f53 l = some b ∧ (b = true → Net.framesS l = 0) := by
 unfold f53
 obtain ⟨b, hb⟩ := f90_ex l
 rw [hb, Option.bind_some]
 cases b
 ·exact ⟨false, rfl, fun h => by cases h⟩
 ·rw [if_pos rfl, Net.f41_eq, Option.bind_some]
  exact ⟨_, rfl, fun h => by simpa using h⟩
def fr9 : ApiFrame := ⟨2, b8 9 :: List.replicate 511 0⟩
theorem f50_29 : f50 2 9 = some fr9 := by
 unfold f50
 have h1 : f87 [0] 511 = some (List.replicate 511 0) := by
  unfold f87 rep?
  rw [if_pos ⟨by decide, by decide, by decide⟩]
  rw [show (511 : Int).toNat = 511 from rfl, repeat_zero]
 rw [h1, Option.bind_some, cat_some (by rw [List.length_replicate]; simp only [List.length_map, List.length_cons, List.length_nil]; omega)]
 rfl
def pk9 : NetworkPacket := ⟨7, 2, 100, 0, 0, false, b8 9 :: List.replicate 511 0⟩
def l9 : List ReceiverInput := [⟨2, 7, 100, 0, 0, 1000, b8 9 :: List.replicate 511 0, []⟩]
theorem k1 : Net.sendS ⟨7, 100, 0, 0, []⟩ 1000 [fr9] = (⟨7, 100, 0, 0, [⟨2, 0, 1000, 1, b8 9 :: List.replicate 511 0⟩]⟩, [pk9], 0) := by kernel_rfl
theorem k2 : takeS [] 1000 pk9 = (l9, true, 0) := by kernel_rfl
theorem k3 : framesO l9 3500 = ([fr9], 0) := by kernel_rfl
theorem k4 : framesO l9 3501 = ([], 0) := by kernel_rfl
theorem k5 : Net.newS 7 100 0 = (⟨7, 100, 0, 0, []⟩, 0) := by kernel_rfl
theorem f49_eq : f49 = some true := by
 unfold f49
 rw [Net.f42_eq, k5, Option.bind_some, f50_29, Option.bind_some]
 simp only
 rw [Net.f43_eq, k1, Option.bind_some]
 simp only [f49_J1]
 rw [if_neg (by decide), if_neg (by decide), show at? [pk9] 0 = some pk9 from rfl, Option.bind_some, f16_eq, k2, Option.bind_some]
 simp only
 rw [f30_eq, k3, Option.bind_some, f30_eq, k4, Option.bind_some, if_pos (by decide), if_pos trivial, f50_29, Option.bind_some, f52_eq (by decide), Option.bind_some]
 rfl
theorem L1_ex {a b : List ApiFrame} {sy : Int} (ha : a.length ≤ 8) (hab : a.length = b.length) : ∃ e, (f11_L1 a b sy).run 0 = some e ∧ (e = .inr true ∨ (e = .inl () ∧ ∀ (k : Nat) (x y : ApiFrame), a[k]? = some x → b[k]? = some y → x.fUniverse = y.fUniverse)) := by
 refine run_ex (L := f11_L1 a b sy) (fun e => e = .inr true ∨ (e = .inl () ∧ ∀ (k : Nat) (x y : ApiFrame), a[k]? = some x → b[k]? = some y → x.fUniverse = y.fUniverse)) (fun s => ∃ n : Nat, s = n ∧ n ≤ a.length ∧ ∀ (k : Nat) (x y : ApiFrame), k < n → a[k]? = some x → b[k]? = some y → x.fUniverse = y.fUniverse) (fun s => a.length - s.toNat) (s0 := 0) ⟨0, rfl, Nat.zero_le _, fun k x y h => absurd h (Nat.not_lt_zero k)⟩ fun s ⟨n, hn, hle, hI⟩ => ?_
 subst hn
 simp only [f11_L1]
 by_cases h1 : n < a.length
 ·have hx := List.getElem?_eq_getElem h1
  have hy := List.getElem?_eq_getElem (show n < b.length by omega)
  generalize a[n] = x at hx
  generalize b[n] = y at hy
  have R := Rnd.mk' hx (by omega)
  rw [if_pos R.lt, R.at', Option.bind_some, at_nat hy, Option.bind_some]
  by_cases hu : x.fUniverse = y.fUniverse
  ·rw [if_neg (by simpa using hu), R.nxt]
   refine .inl ⟨_, rfl, ⟨n + 1, rfl, h1, fun k x' y' hk hx' hy' => ?_⟩, by omega⟩
   by_cases hkn : k = n
   ·subst hkn
    rw [hx] at hx'; rw [hy] at hy'
    injection hx' with hx'; injection hy' with hy'
    rw [← hx', ← hy', hu]
   ·exact hI k x' y' (by omega) hx' hy'
  ·rw [if_pos (by simpa using hu), f49_eq]
   exact .inr ⟨_, rfl, .inl rfl⟩
 ·rw [if_neg (by simp only [decide_eq_true_eq]; omega)]
  refine .inr ⟨_, rfl, .inr ⟨rfl, fun k x y hx hy => hI k x y ?_ hx hy⟩⟩
  have := (List.getElem?_eq_some_iff.1 hx).1
  omega
theorem foldT_app (t : Int) (ys : List ReceiverInput) (a b : List NetworkPacket) : foldT t ys (a ++ b) = foldT t (foldT t ys a) b := by unfold foldT; rw [List.foldl_append]
theorem L2_eq' {a b : List ApiFrame} {out : List NetworkPacket} {r : NetworkSender} {e : Int} {ys : List ReceiverInput} {n : Nat} (hl : out.length = n + 1) (hn : n ≤ 8) (hg : Good 25 ys) (hc : ∀ p ∈ out, checkS p = 0) (ha : a.length ≤ 8) (hb : b.length ≤ 8)
  (hold : ∀ k, k ≤ n → framesS (foldT 25 ys (out.take k)) 25 = a) (hnew : framesS (foldT 25 ys out) 25 = b) : (f11_L2 (r, out, e) b a).run (0, ys) = some (.inl ()) := by
 have hrun := run_count (L := f11_L2 (r, out, e) b a) (e := .inl ()) (fun k => ((k : Int), foldT 25 ys (out.take k))) out.length (by simp [f11_L2]) 0 (Nat.zero_le _) (fun k _ hk => by
  have hx := List.getElem?_eq_getElem hk
  have htk : out.take (k + 1) = out.take k ++ [out[k]] := by rw [List.take_add_one, hx]; rfl
  have hxm := List.getElem_mem hk
  generalize out[k] = x at hx htk hxm
  have R := Rnd.mk' hx (by omega)
  have hgk : Good 25 (foldT 25 ys (out.take k)) := foldT_good hg fun p hp => hc p (List.mem_of_mem_take hp)
  have hgk1 : Good 25 (foldT 25 ys (out.take (k + 1))) := foldT_good hg fun p hp => hc p (List.mem_of_mem_take hp)
  simp only [f11_L2]
  rw [if_pos R.lt, R.at', Option.bind_some, f51_eq hgk (fun p hp => by rw [List.mem_singleton.1 hp]; exact hc x hxm) (by simp), Option.bind_some]
  rw [show foldT 25 (foldT 25 ys (out.take k)) [x] = foldT 25 ys (out.take (k + 1)) by rw [htk, foldT_app]]
  rw [if_neg (by simp), f30_eq, Option.bind_some]
  have hfo : framesO (foldT 25 ys (out.take (k + 1))) 25 = (framesS (foldT 25 ys (out.take (k + 1))) 25, 0) := by unfold framesO; rw [if_neg (by simp [good_moment hgk1])]
  rw [hfo]
  simp only
  rw [w64 (a := ((out.length : Nat) : Int) - 1) (by omega) (by omega), R.nxt]
  by_cases hlast : k = n
  ·rw [if_pos (by simp only [decide_eq_true_eq]; omega), if_neg (by simp), List.take_of_length_le (by omega), hnew, f52_eq (by omega), Option.bind_some, if_neg (by simp)]
  ·rw [if_neg (by simp only [decide_eq_true_eq]; omega), if_neg (by simp), hold (k + 1) (by omega), f52_eq (by omega), Option.bind_some, if_neg (by simp)])
 exact hrun
theorem f11_eq (a b : List ApiFrame) (sync : Int) (hsy : 0 ≤ sync ∧ sync ≤ 255) : f11 a b sync = some true := by
 unfold f11
 obtain ⟨ba, ea, ia⟩ := f53_ex a
 rw [ea, Option.bind_some]
 cases ba
 ·rw [if_pos (by rfl), f49_eq]; rfl
 rw [if_neg (by simp)]
 obtain ⟨bb, eb, ib⟩ := f53_ex b
 rw [eb, Option.bind_some]
 cases bb
 ·rw [if_pos (by rfl), f49_eq]; rfl
 rw [if_neg (by simp)]
 have ha := ia rfl
 have hb := ib rfl
 obtain ⟨a1, a2, a3⟩ := Net.frames_ok ha
 obtain ⟨b1, b2, b3⟩ := Net.frames_ok hb
 by_cases h0 : a.length = 0
 ·rw [if_pos (by simp only [decide_eq_true_eq]; omega), f49_eq]; rfl
 rw [if_neg (by simp only [decide_eq_true_eq]; omega)]
 by_cases hab : a.length = b.length
 case neg => rw [if_pos (by simp only [decide_eq_true_eq]; omega), f49_eq]; rfl
 rw [if_neg (by simp only [decide_eq_true_eq]; omega)]
 obtain ⟨e, he, hcase⟩ := L1_ex (sy := sync) a1 hab
 rw [he]
 rcases hcase with rfl | ⟨rfl, hun⟩
 ·rfl
 simp only [Option.bind_some]
 have hs : (1 : Int) ≤ IntKind.i64.wrap (1 + IntKind.i64.wrap (sync.tmod 8)) ∧ IntKind.i64.wrap (1 + IntKind.i64.wrap (sync.tmod 8)) ≤ 8 := by
  rw [Int.tmod_eq_emod_of_nonneg hsy.1, w64 (a := sync % 8) (by omega) (by omega), w64 (by omega) (by omega)]
  omega
 generalize IntKind.i64.wrap (1 + IntKind.i64.wrap (sync.tmod 8)) = s at hs
 have hn : Net.namedS 7 100 s = true := by
  unfold Net.namedS
  simp only [Bool.and_eq_true, decide_eq_true_eq, Net.wi_iff]
  exact ⟨by decide, by decide, by decide, by omega, hs.2⟩
 have hnw : Net.newS 7 100 s = (⟨7, 100, s, 0, []⟩, 0) := by unfold Net.newS; rw [if_pos hn]
 rw [Net.f42_eq, hnw, Option.bind_some]
 simp only
 have hb0 : Both s 0 [] [] := ⟨⟨⟨fun y hy => by simp at hy, List.Pairwise.nil⟩, fun y hy => by simp at hy⟩, ⟨by simp, fun y hy => by simp at hy, List.Pairwise.nil, by omega, by omega, fun y hy => by simp at hy⟩, rfl⟩
 have hs8 : 0 ≤ s ∧ s ≤ 8 := by omega
 have hs0 : s ≠ 0 := by omega
 obtain ⟨c1, c2, c3, c4⟩ := both_all (pulse := 0) (st := []) (ys0 := []) hs8 a [] [] a2 a3 hb0 (by simp)
 have d1 := all_sent (S := ⟨7, 100, s, 0, []⟩) (t := 0) (Int.le_refl 0) a [] [] hb0.gs a2 a3 (by simp)
 have d2 := times_one (S := ⟨7, 100, s, 0, []⟩) (t := 0) (Int.le_refl 0) a [] [] hb0.gs a2 a3 (by simp) (by simp)
 have hm1 : Net.momentS ⟨7, 100, s, 0, []⟩ 0 = 0 := Net.moment_of hn ⟨Int.le_refl 0, by show (0 : Int) ≤ 255; decide⟩ ⟨Int.le_refl 0, by decide⟩ hb0.gs
 obtain ⟨p1, l1, o1, s1, s2, s3, s4, s5, s6, s7⟩ := send_ok hs8 ⟨Int.le_refl 0, by decide⟩ hb0 ha (by simp)
 have hsend1 : l1 = (a.foldl (fun p f => Net.stepS ⟨7, 100, s, 0, []⟩ 0 f p.1 p.2) ([], [])).1 ∧ o1.length = a.length + 1 := by
  have e := s1
  unfold Net.sendS at e
  rw [if_neg (by simp [hm1]), if_neg (by simp [ha])] at e
  rw [show Net.sentS ⟨7, 100, s, 0, []⟩ 0 a = a.foldl (fun p f => Net.stepS ⟨7, 100, s, 0, []⟩ 0 f p.1 p.2) ([], []) from rfl] at e
  rw [if_pos ⟨by rw [d1]; simp; omega, hs0⟩] at e
  simp only [Prod.mk.injEq, NetworkSender.mk.injEq] at e
  refine ⟨e.1.2.2.2.2.symm, ?_⟩
  rw [← e.2.1, List.length_append, d1]
  simp
 obtain ⟨hl1, ho1⟩ := hsend1
 have ht1 : ∀ x ∈ l1, x.fTimes < 3 := by rw [hl1]; exact d2
 have hb1 : Both s 25 l1 (foldT 0 [] o1) := ⟨Net.good_mono s5.gs (by omega), s5.gr.later (by omega) (by omega), s5.rel⟩
 obtain ⟨g1, g2, g3, g4⟩ := both_all (pulse := p1) (st := l1) (ys0 := foldT 0 [] o1) hs8 b l1 [] b2 b3 hb1 (by simp)
 have d3 := all_sent (S := ⟨7, 100, s, p1, l1⟩) (t := 25) (by decide) b l1 [] hb1.gs b2 b3 (fun f _ x hx _ => ht1 x hx)
 have d4 := pk_kind (s := s) (pulse := p1) (st := l1) (t := 25) b l1 [] hb1.gs (by decide) b2
 have hm2 : Net.momentS ⟨7, 100, s, p1, l1⟩ 25 = 0 := Net.moment_of hn s2 ⟨by decide, by decide⟩ hb1.gs
 obtain ⟨p2, l2, o2, t1, t2, t3, t4, t5, t6, t7⟩ := send_ok hs8 s2 hb1 hb s6
 have hsend2 : ∃ q, o2 = (b.foldl (fun p f => Net.stepS ⟨7, 100, s, p1, l1⟩ 25 f p.1 p.2) (l1, [])).2 ++ [q] := by
  have e := t1
  unfold Net.sendS at e
  rw [if_neg (by simp [hm2]), if_neg (by simp [hb])] at e
  rw [show Net.sentS ⟨7, 100, s, p1, l1⟩ 25 b = b.foldl (fun p f => Net.stepS ⟨7, 100, s, p1, l1⟩ 25 f p.1 p.2) (l1, []) from rfl] at e
  rw [if_pos ⟨by rw [d3]; simp; omega, hs0⟩] at e
  simp only [Prod.mk.injEq, NetworkSender.mk.injEq] at e
  exact ⟨_, e.2.1.symm⟩
 obtain ⟨q, ho2⟩ := hsend2
 have hlen2 : o2.length = b.length + 1 := by rw [ho2, List.length_append, d3]; simp
 rw [Net.f43_eq, s1, Option.bind_some]
 simp only
 rw [Net.f43_eq, t1, Option.bind_some]
 simp only
 rw [if_neg (show ¬ decide (IntKind.i64.wrap (IntKind.i64.wrap ((0 : Int) + 0) + 0) ≠ 0) = true from by decide), if_neg (by rw [w64 (by omega) (by omega)]; simp only [decide_eq_true_eq]; omega), if_neg (by rw [w64 (by omega) (by omega)]; simp only [decide_eq_true_eq]; omega)]
 have hshow1 : (foldT 0 [] o1).map sh = a := by
  rw [show (foldT 0 [] o1).map sh = l1.map Net.fr from both_frames s5.rel s6]
  refine strict_ext (key := fun z => z.fUniverse) (by rw [List.pairwise_map]; exact s5.gs.asc) a3 fun z => ?_
  rw [s7]
  simp
 rw [f51_eq hb0.gr s4 (by omega), Option.bind_some, f30_eq, Option.bind_some]
 have hfo : framesO (foldT 0 [] o1) 0 = (a, 0) := by
  unfold framesO
  rw [if_neg (by simp [good_moment s5.gr]), show_frames s5.gr (by decide) hshow1 a2 a3]
 simp only [hfo]
 rw [if_neg (by simp), if_neg (by simp), f52_eq (by omega), Option.bind_some, if_neg (by simp)]
 have hsrc : ∀ y ∈ foldT 0 [] o1, y.fSource = 7 := fun y hy => by
  obtain ⟨x, _, e⟩ := rel_mem s5.rel hy
  exact (rel_u e).2.1
 have hmem : ∀ f ∈ b, ∃ g ∈ a, g.fUniverse = f.fUniverse := fun f hf => by
  obtain ⟨k, hk, rfl⟩ := List.mem_iff_getElem.1 hf
  exact ⟨a[k], List.getElem_mem _, hun k _ _ (List.getElem?_eq_getElem (by omega)) (List.getElem?_eq_getElem hk)⟩
 have hmem2 : ∀ g ∈ a, ∃ f ∈ b, g.fUniverse = f.fUniverse := fun g hg => by
  obtain ⟨k, hk, rfl⟩ := List.mem_iff_getElem.1 hg
  exact ⟨b[k]'(by omega), List.getElem_mem _, hun k _ _ (List.getElem?_eq_getElem hk) (List.getElem?_eq_getElem (by omega))⟩
 have hpref : ∀ k, k ≤ b.length → framesS (foldT 25 (foldT 0 [] o1) (o2.take k)) 25 = a := fun k hk => by
  have htk : o2.take k = (b.foldl (fun p f => Net.stepS ⟨7, 100, s, p1, l1⟩ 25 f p.1 p.2) (l1, [])).2.take k := by
   rw [ho2, List.take_append_of_le_length (by rw [d3]; simpa using hk)]
  rw [htk]
  have hpk : ∀ p ∈ (b.foldl (fun p f => Net.stepS ⟨7, 100, s, p1, l1⟩ 25 f p.1 p.2) (l1, [])).2.take k, checkS p = 0 ∧ p.fUniverse ≠ 0 ∧ (∃ f ∈ a, p.fUniverse = f.fUniverse) ∧ p.fSource = 7 ∧ p.fSync = s ∧ p.fEnd = false := fun p hp => by
   have hp := List.mem_of_mem_take hp
   rcases d4 p hp with h | ⟨f, hf, e1, e2, e3, e4⟩
   ·cases h
   ·have := (b2 f hf).1
    obtain ⟨g, hg, hgf⟩ := hmem f hf
    exact ⟨g2 p hp, by omega, ⟨g, hg, by omega⟩, e2, e3, e4⟩
  exact show_frames (foldT_good hb1.gr fun p hp => (hpk p hp).1) (by decide) (wait_fold hs0 _ _ hb1.gr hsrc hshow1 hpk) a2 a3
 have hend : framesS (foldT 25 (foldT 0 [] o1) o2) 25 = b := by
  refine show_frames t5.gr (by decide) ?_ b2 b3
  rw [show (foldT 25 (foldT 0 [] o1) o2).map sh = l2.map Net.fr from both_frames t5.rel t6]
  refine strict_ext (key := fun z => z.fUniverse) (by rw [List.pairwise_map]; exact t5.gs.asc) b3 fun z => ?_
  rw [t7]
  constructor
  ·intro h
   rcases h with h | ⟨h, h2⟩
   ·exact h
   ·have hz : z ∈ a := by
     have := (s7 z).1 h
     simpa using this
    obtain ⟨f, hf, e⟩ := hmem2 z hz
    exact absurd e (h2 f hf)
  ·intro h
   exact .inl h
 rw [L2_eq' hlen2 (by omega) hb1.gr t4 a1 b1 hpref hend]
 simp only [Option.bind_some]
 rw [f49_eq]
 rfl
end Go.Proofs.Ytgfohogbechkkaa
