/-
  Plain laws of layer 56: the numbers of packets.
-/
import Derived.Test.YtlidbikdeboihaaP5
import Derived.Test.YtlidbikdeboihaaY71
set_option linter.unusedSimpArgs false
set_option linter.unusedVariables false
namespace Go.Proofs.Ytlidbikdeboihaa
open Go Go.Ab

theorem wf8 {n : Int} (h : (Lit.int .u8 n).wf = true) : 0 ≤ n ∧ n ≤ 255 := by
  have h2 : IntKind.u8.min ≤ n ∧ n ≤ IntKind.u8.max := by simpa [Lit.wf] using h
  rwa [show IntKind.u8.min = 0 by decide, show IntKind.u8.max = 255 by decide] at h2

theorem plain_len (u v : Int) : (plainS u v).fSlots.length = 512 := by simp [plainS, Lib.repeatL_length]

theorem frames1 {u v : Int} (hu : 1 ≤ u ∧ u ≤ 8) : framesS [plainS u v] = 0 := by
  have := plain_len u v
  have h1 : (plainS u v).fUniverse = u := rfl
  have h2 : ¬ u < 1 := by omega
  have h3 : ¬ 8 < u := by omega
  simp [framesS, frErr, List.range_succ, this, h1, h2, h3]

theorem asc_len {l : List NetworkStream} (h : Asc l) : l.length ≤ 8 := by
  have key : ∀ i (hi : i < l.length), 1 + (i : Int) ≤ l[i].fUniverse := fun i => by
    induction i with
    | zero => intro hi; have := (h.rng _ (List.getElem_mem hi)).1; simpa using this
    | succ i ih =>
      intro hi
      have h1 := ih (by omega)
      have h2 := List.pairwise_iff_getElem.1 h.asc i (i + 1) (by omega) hi (by omega)
      omega
  by_cases h0 : l.length ≤ 8
  · exact h0
  · have h1 := key 8 (by omega)
    have h2 := (h.rng _ (List.getElem_mem (show 8 < l.length by omega))).2
    omega

theorem moment_of {s : NetworkSender} {t : Int} (hn : namedS s.fSource s.fPriority s.fSync = true) (hp : 0 ≤ s.fPulse ∧ s.fPulse ≤ 255) (ht : 0 ≤ t ∧ t ≤ 10000000) (hg : Good t s.fStreams) : momentS s t = 0 := by
  have hst : ∀ i, i < s.fStreams.length → stErr s.fStreams i = none := fun i hi => by
    unfold stErr
    rw [List.getElem?_eq_getElem hi]
    have hm := List.getElem_mem hi
    obtain ⟨k1, k2, k3, k4⟩ := hg.ok _ hm
    have k5 := hg.rng _ hm
    have hall : (wi s.fStreams[i].fUniverse 1 8 && (wi s.fStreams[i].fSeq 0 255 && (wi s.fStreams[i].fLast 0 10000000 && wi s.fStreams[i].fTimes 1 3))) = true := by
      rw [Bool.and_eq_true, Bool.and_eq_true, Bool.and_eq_true]
      exact ⟨wi_iff.2 k5, wi_iff.2 k1, wi_iff.2 (by omega), wi_iff.2 k3⟩
    simp only [hall, Bool.true_eq_false, if_false]
    rw [if_neg (by omega)]
    split
    · rename_i h0
      rw [List.getElem?_eq_getElem (show i - 1 < s.fStreams.length by omega)]
      have := List.pairwise_iff_getElem.1 hg.asc (i - 1) i (by omega) hi (by omega)
      simp only
      rw [if_neg (by omega)]
    · rfl
  have hr : rightS s = 0 := by
    unfold rightS
    rw [if_neg (by simp [hn]), if_neg (by rw [wi_iff.2 hp]; simp), if_neg (by have := asc_len hg.toAsc; omega)]
    have : (List.range s.fStreams.length).findSome? (stErr s.fStreams) = none := by
      rw [List.findSome?_eq_none_iff]
      exact fun i hi => hst i (List.mem_range.1 hi)
    rw [this]; rfl
  unfold momentS
  rw [if_neg (by simpa using hr), if_neg (by rw [wi_iff.2 ht]; simp), if_neg]
  intro hc
  obtain ⟨x, hx, hlt⟩ := List.any_eq_true.1 hc
  have := (hg.ok x hx).2.1.2
  simp at hlt
  omega

/-- A universe's stream has this number. -/
def Has (l : List NetworkStream) (u q : Int) : Prop := ∃ x ∈ l, x.fUniverse = u ∧ x.fSeq = q

theorem step_cases {S : NetworkSender} {t : Int} {f : ApiFrame} {l : List NetworkStream} (hg : Good t l) (ht : 0 ≤ t) (hf : FrOk f) :
    ((stepS S t f l []).2 = [] ∧ ∀ u q, Has l u q → Has (stepS S t f l []).1 u q) ∨
    ∃ q' sl, (stepS S t f l []).2 = [⟨S.fSource, f.fUniverse, S.fPriority, q', S.fSync, false, sl⟩] ∧ sl.length = 512 ∧ (0 ≤ q' ∧ q' ≤ 255) ∧ Has (stepS S t f l []).1 f.fUniverse q' ∧ (∀ q, Has l f.fUniverse q → q' = nextSeq q) ∧
      ∀ u q, u ≠ f.fUniverse → Has l u q → Has (stepS S t f l []).1 u q := by
  have hp := pos_spec hg.asc f.fUniverse
  have hno : (∀ x, l[posS l f.fUniverse]? = some x → x.fUniverse ≠ f.fUniverse) → ∀ q, ¬ Has l f.fUniverse q := fun h q hq => by
    obtain ⟨y, hy, e, _⟩ := hq
    obtain ⟨k, hk, rfl⟩ := List.mem_iff_getElem.1 hy
    have hyk := hp k _ (List.getElem?_eq_getElem hk)
    have hkp : ¬ k < posS l f.fUniverse := fun h => by have := hyk.2 h; omega
    have hle : posS l f.fUniverse ≤ k := by omega
    have hpl : posS l f.fUniverse < l.length := by omega
    have hx := List.getElem?_eq_getElem hpl
    have hne := h _ hx
    have hnl : ¬ l[posS l f.fUniverse].fUniverse < f.fUniverse := fun h => Nat.lt_irrefl _ ((hp _ _ hx).1 h)
    by_cases he : posS l f.fUniverse = k
    · subst he; exact hne e
    · have := List.pairwise_iff_getElem.1 hg.asc _ k hpl hk (by omega)
      omega
  unfold stepS
  cases hx : l[posS l f.fUniverse]? with
  | none =>
    right
    refine ⟨0, f.fSlots, rfl, hf.2, by omega, ⟨_, List.mem_append_right _ (List.mem_singleton.2 rfl), rfl, rfl⟩, fun q hq => absurd hq (hno (fun x hx' => by rw [hx] at hx'; cases hx') q), fun u q _ ⟨y, hy, e⟩ => ⟨y, List.mem_append_left _ hy, e⟩⟩
  | some x =>
    simp only
    have hxm := List.mem_of_getElem? hx
    obtain ⟨ok1, ok2, ok3, ok4⟩ := hg.ok x hxm
    obtain ⟨hpl, hxe⟩ := List.getElem?_eq_some_iff.1 hx
    by_cases he : x.fUniverse = f.fUniverse
    · rw [if_pos he]
      simp only
      have huniq : ∀ y ∈ l, y.fUniverse = f.fUniverse → y = x := fun y hy hyu => by
        obtain ⟨k, hk, rfl⟩ := List.mem_iff_getElem.1 hy
        have hyk := hp k _ (List.getElem?_eq_getElem hk)
        have hkp : ¬ k < posS l f.fUniverse := fun h => by have := hyk.2 h; omega
        by_cases hkk : posS l f.fUniverse = k
        · subst hkk; exact hxe
        · have := List.pairwise_iff_getElem.1 hg.asc _ k hpl hk (by omega)
          rw [hxe] at this
          omega
      have hoth : ∀ y, ∀ u q, u ≠ f.fUniverse → Has l u q → Has (l.set (posS l f.fUniverse) y) u q := fun y u q hu ⟨z, hz, e1, e2⟩ => by
        obtain ⟨k, hk, rfl⟩ := List.mem_iff_getElem.1 hz
        have hkk : posS l f.fUniverse ≠ k := fun h => by
          subst h
          rw [hxe] at e1
          exact hu (e1.symm.trans he)
        refine ⟨l[k], List.mem_of_getElem? (i := k) ?_, e1, e2⟩
        rw [List.getElem?_set_ne hkk]
        exact List.getElem?_eq_getElem hk
      have hself : ∀ y, y ∈ l.set (posS l f.fUniverse) y := fun y => List.mem_of_getElem? (i := posS l f.fUniverse) (List.getElem?_set_self hpl)
      have hq := nextSeq_wi x.fSeq ok1.1
      have hnx : ∀ q, Has l f.fUniverse q → nextSeq x.fSeq = nextSeq q := fun q ⟨y, hy, e1, e2⟩ => by rw [← e2, huniq y hy e1]
      unfold nextS
      split
      · right
        exact ⟨nextSeq x.fSeq, f.fSlots, by simp [tellS, he], hf.2, hq, ⟨_, hself _, he, rfl⟩, hnx, fun u q hu h => hoth _ u q hu h⟩
      · split
        · right
          exact ⟨nextSeq x.fSeq, x.fSlots, by simp [tellS, he], ok4, hq, ⟨_, hself _, he, rfl⟩, hnx, fun u q hu h => hoth _ u q hu h⟩
        · left
          refine ⟨rfl, fun u q h => ?_⟩
          have : l.set (posS l f.fUniverse) x = l := by
            refine List.ext_getElem? fun k => ?_
            by_cases hk : posS l f.fUniverse = k
            · subst hk; rw [List.getElem?_set_self hpl, hx]
            · rw [List.getElem?_set_ne hk]
          simp only [this]
          exact h
    · rw [if_neg he]
      right
      refine ⟨0, f.fSlots, rfl, hf.2, by omega, ⟨_, List.mem_append_right _ (List.mem_cons_self ..), rfl, rfl⟩, fun q hq => absurd hq (hno (fun y hy => by rw [hx] at hy; injection hy with hy; subst hy; exact he) q), fun u q _ ⟨y, hy, e⟩ => ?_⟩
      refine ⟨y, ?_, e⟩
      rw [← List.take_append_drop (posS l f.fUniverse) l] at hy
      rcases List.mem_append.1 hy with hy | hy
      · exact List.mem_append_left _ hy
      · exact List.mem_append_right _ (List.mem_cons_of_mem _ hy)

theorem newer_next {q : Int} (h : 0 ≤ q ∧ q ≤ 255) : newerS q (nextSeq q) = true := by
  have hn := nextSeq_wi q h.1
  unfold newerS
  rw [wi_iff.2 h, wi_iff.2 hn]
  by_cases h1 : q = 255
  · subst h1; decide
  · have : nextSeq q = q + 1 := by
      unfold nextSeq
      exact Int.tmod_eq_of_lt (by omega) (by omega)
    rw [this, show q + 1 - q + 256 = 257 by omega]
    decide

theorem f28_eq {p : NetworkPacket} (hn : namedS p.fSource p.fPriority p.fSync = true) (hu : 0 ≤ p.fUniverse ∧ p.fUniverse ≤ 8) (hq : 0 ≤ p.fSeq ∧ p.fSeq ≤ 255) (hl : p.fSlots.length ≤ 512) (hend : p.fEnd = false)
    (h0 : p.fUniverse = 0 → p.fSync ≠ 0 ∧ p.fSlots = []) : f28 p = some 0 := by
  unfold f28
  rw [f38_eq, f40_eq, f36_eq, hn, wi_iff.2 hu, wi_iff.2 hq]
  simp only [Option.bind_some, Bool.not_true, Bool.false_eq_true, if_false, decide_eq_true_eq]
  rw [if_neg (by omega), hend]
  by_cases h : p.fUniverse = 0
  · obtain ⟨h1, h2⟩ := h0 h
    simp [h, h1, h2]
  · simp [h]

/-- What is known ahead of a beat. -/
structure At7 (x : Law56Start) (k : Nat) (t pulse : Int) (streams : List NetworkStream) (last : List Int) (seen : List Bool) : Prop where
  ht : 0 ≤ t ∧ t ≤ 1275 * k
  hp : 0 ≤ pulse ∧ pulse ≤ 255
  hg : Good t streams
  ll : last.length = 9
  ls : seen.length = 9
  hs : ∀ u : Nat, 1 ≤ u → seen[u]? = some true → ∃ q, last[u]? = some q ∧ Has streams u q
  h0 : seen[0]? = some true → ∃ q, last[0]? = some q ∧ (0 ≤ q ∧ q ≤ 255) ∧ pulse = nextSeq q

theorem good_mono {t t' : Int} {l : List NetworkStream} (h : Good t l) (ht : t ≤ t') : Good t' l :=
  ⟨h.toAsc, fun x hx => by obtain ⟨a, b, c⟩ := h.ok x hx; exact ⟨a, ⟨b.1, by omega⟩, c⟩⟩

theorem arr_some {τ : Type} {n : Nat} {xs : List τ} {i : Int} {x : τ} (hl : xs.length = n) (h0 : 0 ≤ i) (h : xs[i.toNat]? = some x) : arr? n xs i = some x := by
  unfold arr?; rw [if_pos ⟨hl, h0⟩, h]

section
variable {pk : List NetworkPacket} {x : Law56Start} {v1843 : Int} {beats : List Law56Beat} {t1842 : Int} {x1892 : Law56Beat} {v1844 v1845 v1846 v1847 : Int} {v1848 : List NetworkStream} {n1 n2 n3 n4 : Int} {n5 : List NetworkStream}

theorem L3_step {k : Nat} {p : NetworkPacket} {last : List Int} {seen : List Bool} (hk : k ≤ 10) (hp : pk[k]? = some p) (hl : pk.length ≤ 10) (ll : last.length = 9) (ls : seen.length = 9) (hc : f28 p = some 0) (h1 : p.fSource = x.fSource) (h2 : p.fPriority = x.fPriority) (h3 : p.fSync = x.fSync) (h4 : p.fEnd = false)
    (hu : 0 ≤ p.fUniverse ∧ p.fUniverse ≤ 8) (hn : seen[p.fUniverse.toNat]? = some true → ∃ q, last[p.fUniverse.toNat]? = some q ∧ newerS q p.fSeq = true) :
    (f7_L3 pk x v1843 beats t1842 x1892 v1844 v1845 v1846 v1847 v1848 n1 n2 n3 n4 n5).body ((k : Int), last, seen) = some (.next (((k + 1 : Nat) : Int), last.set p.fUniverse.toNat p.fSeq, seen.set p.fUniverse.toNat true)) := by
  have hul : p.fUniverse.toNat < last.length := by omega
  have hus : p.fUniverse.toNat < seen.length := by omega
  have asn := arr_some ls hu.1 (List.getElem?_eq_getElem hus)
  have al := arr_some ll hu.1 (List.getElem?_eq_getElem hul)
  simp only [f7_L3, f7_J4]
  rw [if_pos (at_lt hp), at_nat hp, Option.bind_some, hc, asn, al, w64_succ (by omega)]
  simp only [Option.bind_some]
  rw [if_neg (by simp), if_neg (by simp [h1]), if_neg (by simp [h2]), if_neg (by simp [h3]), if_neg (by simp [h4])]
  by_cases hse : seen[p.fUniverse.toNat] = true
  · rw [if_pos hse]
    obtain ⟨q, hq, hnew⟩ := hn (by rw [List.getElem?_eq_getElem hus, hse])
    rw [List.getElem?_eq_getElem hul] at hq
    injection hq with hq
    rw [hq, f12_eq, hnew]
    rfl
  · rw [if_neg hse]

theorem L3_end {last : List Int} {seen : List Bool} : (f7_L3 pk x v1843 beats t1842 x1892 v1844 v1845 v1846 v1847 v1848 n1 n2 n3 n4 n5).body (((pk.length : Nat) : Int), last, seen) = some (.brk (.inl (last, seen))) := by
  simp only [f7_L3]; rw [at_end]; rfl
end

theorem f7_step {x : Law56Start} {beats : List Law56Beat} (hx : namedS x.fSource x.fPriority x.fSync = true) (hb : ∀ b ∈ beats, (0 ≤ b.fUniverse ∧ b.fUniverse ≤ 255) ∧ (0 ≤ b.fAfter ∧ b.fAfter ≤ 255) ∧ (0 ≤ b.fValue ∧ b.fValue ≤ 255)) (hl : beats.length ≤ 40)
    {k : Nat} (hk : k < beats.length) {t pulse : Int} {streams : List NetworkStream} {last : List Int} {seen : List Bool} (h : At7 x k t pulse streams last seen) :
    ∃ t' pulse' streams' last' seen', (f7_L1 beats x).body (t, (k : Int), x.fSource, x.fPriority, x.fSync, pulse, streams, last, seen) = some (.next (t', ((k + 1 : Nat) : Int), x.fSource, x.fPriority, x.fSync, pulse', streams', last', seen')) ∧ At7 x (k + 1) t' pulse' streams' last' seen' := by
  have hbx := List.getElem?_eq_getElem hk
  obtain ⟨b1, b2, b3⟩ := hb _ (List.getElem_mem hk)
  have r := Rnd.mk' hbx (by omega)
  generalize beats[k] = b at b1 b2 b3 r hbx
  obtain ⟨ht, hp, hg, ll, ls, hs, h0⟩ := h
  have hu : IntKind.i64.wrap (1 + IntKind.i64.wrap (b.fUniverse.tmod 3)) = 1 + b.fUniverse.tmod 3 ∧ 0 ≤ b.fUniverse.tmod 3 ∧ b.fUniverse.tmod 3 ≤ 2 := by
    have e : b.fUniverse.tmod 3 = b.fUniverse % 3 := Int.tmod_eq_emod_of_nonneg b1.1
    rw [e, w64 (a := b.fUniverse % 3) (by omega) (by omega), w64 (by omega) (by omega)]
    omega
  have hw5 : IntKind.i64.wrap (t + IntKind.i64.wrap (5 * IntKind.i64.wrap b.fAfter)) = t + 5 * b.fAfter := by
    rw [w64 (a := b.fAfter) (by omega) (by omega), w64 (a := 5 * b.fAfter) (by omega) (by omega), w64 (by omega) (by omega)]
  generalize hu1 : 1 + b.fUniverse.tmod 3 = u at hu
  have hur : 1 ≤ u ∧ u ≤ 3 := by omega
  generalize hv : IntKind.i64.wrap (b.fValue.tmod 3) = v
  generalize ht1 : t + 5 * b.fAfter = t' at hw5
  have htr : t ≤ t' ∧ t' ≤ 1275 * ((k + 1 : Nat) : Int) ∧ t' ≤ 10000000 := by omega
  have hg' := good_mono hg htr.1
  have hfo : FrOk (plainS u v) := ⟨⟨by show 1 ≤ u; omega, by show u ≤ 8; omega⟩, plain_len u v⟩
  have hm : momentS ⟨x.fSource, x.fPriority, x.fSync, pulse, streams⟩ t' = 0 := moment_of hx hp (by omega) hg'
  have hf1 : framesS [plainS u v] = 0 := frames1 (by omega)
  have hsent : ∀ S : NetworkSender, sentS S t' [plainS u v] = stepS S t' (plainS u v) S.fStreams [] := fun S => rfl
  have hgood := good_step (S := ⟨x.fSource, x.fPriority, x.fSync, pulse, streams⟩) (out := []) hg' (by omega) hfo
  have hsend : sendS ⟨x.fSource, x.fPriority, x.fSync, pulse, streams⟩ t' [plainS u v] =
      if 0 < (stepS ⟨x.fSource, x.fPriority, x.fSync, pulse, streams⟩ t' (plainS u v) streams []).2.length ∧ x.fSync ≠ 0 then (⟨x.fSource, x.fPriority, x.fSync, nextSeq pulse, (stepS ⟨x.fSource, x.fPriority, x.fSync, pulse, streams⟩ t' (plainS u v) streams []).1⟩, (stepS ⟨x.fSource, x.fPriority, x.fSync, pulse, streams⟩ t' (plainS u v) streams []).2 ++ [⟨x.fSource, 0, x.fPriority, pulse, x.fSync, false, []⟩], 0)
      else (⟨x.fSource, x.fPriority, x.fSync, pulse, (stepS ⟨x.fSource, x.fPriority, x.fSync, pulse, streams⟩ t' (plainS u v) streams []).1⟩, (stepS ⟨x.fSource, x.fPriority, x.fSync, pulse, streams⟩ t' (plainS u v) streams []).2, 0) := by
    unfold sendS
    rw [if_neg (by simpa using hm), if_neg (by simpa using hf1)]
    simp only [hsent]
  have hcase := step_cases (S := ⟨x.fSource, x.fPriority, x.fSync, pulse, streams⟩) hg' (by omega) hfo
  generalize hP : stepS ⟨x.fSource, x.fPriority, x.fSync, pulse, streams⟩ t' (plainS u v) streams [] = P at hcase hsend hgood
  simp only [f7_L1]
  rw [if_pos r.lt, r.at', Option.bind_some, hu.1, hv, f27_eq, Option.bind_some, hw5, f23_eq, hsend, Option.bind_some]
  have hfu : (plainS u v).fUniverse = u := rfl
  rw [hfu] at hcase
  have hu8 : u.toNat ≤ 8 ∧ ((u.toNat : Nat) : Int) = u ∧ 1 ≤ u.toNat := by omega
  rcases hcase with ⟨hno, hkeep⟩ | ⟨q', sl, hone, hsl, hq', hhas, hnew, hoth⟩
  · -- nothing is sent
    rw [if_neg (by rw [hno]; simp)]
    simp only [f7_J2, hno]
    rw [if_neg (by simp), if_neg (by simp)]
    rw [show (f7_L3 [] x (k : Int) beats t b x.fSource x.fPriority x.fSync pulse streams x.fSource x.fPriority x.fSync pulse P.1).run (0, last, seen) = some (.inl (last, seen)) from iter_brk L3_end]
    simp only [Option.bind_some]
    rw [hw5, r.nxt]
    exact ⟨_, _, _, _, _, rfl, ⟨by omega, hp, hgood, ll, ls, fun w h1 h2 => by obtain ⟨q, e1, e2⟩ := hs w h1 h2; exact ⟨q, e1, hkeep _ _ e2⟩, h0⟩⟩
  · -- one packet is sent
    have hnewer : seen[u.toNat]? = some true → ∃ q, last[u.toNat]? = some q ∧ newerS q q' = true := fun hse => by
      obtain ⟨q, e1, e2⟩ := hs _ hu8.2.2 hse
      rw [hu8.2.1] at e2
      refine ⟨q, e1, ?_⟩
      rw [hnew q e2]
      obtain ⟨y, hy, _, rfl⟩ := e2
      exact newer_next (hg.ok y hy).1
    have hc1 : f28 ⟨x.fSource, u, x.fPriority, q', x.fSync, false, sl⟩ = some 0 := f28_eq hx (by show 0 ≤ u ∧ u ≤ 8; omega) hq' (by show sl.length ≤ 512; omega) rfl (fun h => by have : u = 0 := h; omega)
    have hs' : ∀ w : Nat, 1 ≤ w → (seen.set u.toNat true)[w]? = some true → ∃ q, (last.set u.toNat q')[w]? = some q ∧ Has P.1 w q := fun w h1 h2 => by
      by_cases hw : u.toNat = w
      · subst hw
        exact ⟨q', List.getElem?_set_self (by omega), by rw [hu8.2.1]; exact hhas⟩
      · rw [List.getElem?_set_ne hw] at h2 ⊢
        obtain ⟨q, e1, e2⟩ := hs w h1 h2
        exact ⟨q, e1, hoth _ _ (by omega) e2⟩
    have h0' : (seen.set u.toNat true)[0]? = some true → ∃ q, (last.set u.toNat q')[0]? = some q ∧ (0 ≤ q ∧ q ≤ 255) ∧ pulse = nextSeq q := fun h2 => by
      rw [List.getElem?_set_ne (by omega)] at h2 ⊢
      exact h0 h2
    by_cases hsy : x.fSync = 0
    · rw [if_neg (fun hc => hc.2 hsy)]
      simp only [f7_J2, hone]
      rw [if_neg (by simp), if_neg (by simp)]
      have st1 := L3_step (pk := [⟨x.fSource, u, x.fPriority, q', x.fSync, false, sl⟩]) (x := x) (v1843 := (k : Int)) (beats := beats) (t1842 := t) (x1892 := b) (v1844 := x.fSource) (v1845 := x.fPriority) (v1846 := x.fSync) (v1847 := pulse) (v1848 := streams) (n1 := x.fSource) (n2 := x.fPriority) (n3 := x.fSync) (n4 := pulse) (n5 := P.1)
        (k := 0) (by omega) rfl (by simp) ll ls hc1 rfl rfl rfl rfl (by show 0 ≤ u ∧ u ≤ 8; omega) hnewer
      have en := L3_end (pk := [⟨x.fSource, u, x.fPriority, q', x.fSync, false, sl⟩]) (x := x) (v1843 := (k : Int)) (beats := beats) (t1842 := t) (x1892 := b) (v1844 := x.fSource) (v1845 := x.fPriority) (v1846 := x.fSync) (v1847 := pulse) (v1848 := streams) (n1 := x.fSource) (n2 := x.fPriority) (n3 := x.fSync) (n4 := pulse) (n5 := P.1) (last := last.set u.toNat q') (seen := seen.set u.toNat true)
      have hrun : (f7_L3 [⟨x.fSource, u, x.fPriority, q', x.fSync, false, sl⟩] x (k : Int) beats t b x.fSource x.fPriority x.fSync pulse streams x.fSource x.fPriority x.fSync pulse P.1).run (0, last, seen) = some (.inl (last.set u.toNat q', seen.set u.toNat true)) := by
        exact (iter_next st1).trans (iter_brk en)
      rw [hrun]
      simp only [Option.bind_some]
      rw [hw5, r.nxt]
      exact ⟨_, _, _, _, _, rfl, ⟨by omega, hp, hgood, by simpa using ll, by simpa using ls, hs', h0'⟩⟩
    · rw [if_pos ⟨by rw [hone]; simp, hsy⟩]
      simp only [f7_J2, hone]
      rw [if_neg (by simp), if_neg (by simp)]
      have hc2 : f28 ⟨x.fSource, 0, x.fPriority, pulse, x.fSync, false, []⟩ = some 0 := f28_eq hx (by show (0 : Int) ≤ 0 ∧ (0 : Int) ≤ 8; omega) hp (by simp) rfl (fun _ => ⟨hsy, rfl⟩)
      have st1 := L3_step (pk := [⟨x.fSource, u, x.fPriority, q', x.fSync, false, sl⟩, ⟨x.fSource, 0, x.fPriority, pulse, x.fSync, false, []⟩]) (x := x) (v1843 := (k : Int)) (beats := beats) (t1842 := t) (x1892 := b) (v1844 := x.fSource) (v1845 := x.fPriority) (v1846 := x.fSync) (v1847 := pulse) (v1848 := streams) (n1 := x.fSource) (n2 := x.fPriority) (n3 := x.fSync) (n4 := nextSeq pulse) (n5 := P.1)
        (k := 0) (by omega) rfl (by simp) ll ls hc1 rfl rfl rfl rfl (by show 0 ≤ u ∧ u ≤ 8; omega) hnewer
      have st2 := L3_step (pk := [⟨x.fSource, u, x.fPriority, q', x.fSync, false, sl⟩, ⟨x.fSource, 0, x.fPriority, pulse, x.fSync, false, []⟩]) (x := x) (v1843 := (k : Int)) (beats := beats) (t1842 := t) (x1892 := b) (v1844 := x.fSource) (v1845 := x.fPriority) (v1846 := x.fSync) (v1847 := pulse) (v1848 := streams) (n1 := x.fSource) (n2 := x.fPriority) (n3 := x.fSync) (n4 := nextSeq pulse) (n5 := P.1)
        (k := 1) (last := last.set u.toNat q') (seen := seen.set u.toNat true) (by omega) rfl (by simp) (by simpa using ll) (by simpa using ls) hc2 rfl rfl rfl rfl (by show (0 : Int) ≤ 0 ∧ (0 : Int) ≤ 8; omega) (fun h => by
          obtain ⟨q, e1, e2, e3⟩ := h0' h
          exact ⟨q, e1, by show newerS q pulse = true; rw [e3]; exact newer_next e2⟩)
      have en := L3_end (pk := [⟨x.fSource, u, x.fPriority, q', x.fSync, false, sl⟩, ⟨x.fSource, 0, x.fPriority, pulse, x.fSync, false, []⟩]) (x := x) (v1843 := (k : Int)) (beats := beats) (t1842 := t) (x1892 := b) (v1844 := x.fSource) (v1845 := x.fPriority) (v1846 := x.fSync) (v1847 := pulse) (v1848 := streams) (n1 := x.fSource) (n2 := x.fPriority) (n3 := x.fSync) (n4 := nextSeq pulse) (n5 := P.1) (last := (last.set u.toNat q').set 0 pulse) (seen := (seen.set u.toNat true).set 0 true)
      have hrun : (f7_L3 ([⟨x.fSource, u, x.fPriority, q', x.fSync, false, sl⟩] ++ [⟨x.fSource, 0, x.fPriority, pulse, x.fSync, false, []⟩]) x (k : Int) beats t b x.fSource x.fPriority x.fSync pulse streams x.fSource x.fPriority x.fSync (nextSeq pulse) P.1).run (0, last, seen) = some (.inl ((last.set u.toNat q').set 0 pulse, (seen.set u.toNat true).set 0 true)) := by
        exact (iter_next st1).trans ((iter_next st2).trans (iter_brk en))
      rw [hrun]
      simp only [Option.bind_some]
      rw [hw5, r.nxt]
      refine ⟨_, _, _, _, _, rfl, ⟨by omega, nextSeq_wi _ hp.1, hgood, by simpa using ll, by simpa using ls, fun w h1 h2 => ?_, fun _ => ⟨pulse, ?_, hp, rfl⟩⟩⟩
      · rw [List.getElem?_set_ne (by omega)] at h2 ⊢
        exact hs' w h1 h2
      · rw [List.getElem?_set_self (by rw [List.length_set]; omega)]

theorem at7_zero (x : Law56Start) : At7 x 0 0 0 [] (List.replicate 9 0) (List.replicate 9 false) where
  ht := by omega
  hp := by omega
  hg := ⟨⟨fun y hy => by simp at hy, List.Pairwise.nil⟩, fun y hy => by simp at hy⟩
  ll := rfl
  ls := rfl
  hs := fun u _ h => by
    have h2 := List.mem_of_getElem? h
    simp at h2
  h0 := fun h => by simp at h

theorem f7_eq (x : Law56Start) (beats : List Law56Beat) (hb : ∀ b ∈ beats, (0 ≤ b.fUniverse ∧ b.fUniverse ≤ 255) ∧ (0 ≤ b.fAfter ∧ b.fAfter ≤ 255) ∧ (0 ≤ b.fValue ∧ b.fValue ≤ 255)) : f7 x beats = some true := by
  unfold f7
  rw [f17_eq, f14_eq]
  simp only [Option.bind_some]
  unfold newS
  by_cases hx : namedS x.fSource x.fPriority x.fSync = true
  case neg => simp [hx]
  simp only [hx, if_true]
  rw [if_neg (by simp)]
  by_cases hl : 40 < beats.length
  · rw [if_pos (by simp; omega)]
  rw [if_neg (by simp; omega)]
  have hrun : (f7_L1 beats x).run (0, 0, x.fSource, x.fPriority, x.fSync, 0, [], List.replicate 9 0, List.replicate 9 false) = some (.inl ()) := by
    refine run_eq (L := f7_L1 beats x) (fun s => ∃ (k : Nat) (t pulse : Int) (streams : List NetworkStream) (last : List Int) (seen : List Bool), s = (t, (k : Int), x.fSource, x.fPriority, x.fSync, pulse, streams, last, seen) ∧ k ≤ beats.length ∧ At7 x k t pulse streams last seen) (fun s => beats.length - s.2.1.toNat)
      ⟨0, 0, 0, [], List.replicate 9 0, List.replicate 9 false, rfl, Nat.zero_le _, at7_zero x⟩ ?_
    rintro _ ⟨k, t, pulse, streams, last, seen, rfl, hk, hA⟩
    by_cases hlt : k < beats.length
    · left
      obtain ⟨t', pulse', streams', last', seen', e1, e2⟩ := f7_step hx hb (by omega) hlt hA
      exact ⟨_, e1, ⟨k + 1, t', pulse', streams', last', seen', rfl, hlt, e2⟩, by simp; omega⟩
    · right
      have : k = beats.length := by omega
      subst this
      simp only [f7_L1]
      rw [at_end]
      rfl
  rw [hrun]
  rfl
end Go.Proofs.Ytlidbikdeboihaa
