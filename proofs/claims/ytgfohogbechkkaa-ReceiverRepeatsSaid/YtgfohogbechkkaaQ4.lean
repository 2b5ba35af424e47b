/-
  Plain laws of the receiver of layer 57: ReceiverRepeats.
-/
import Derived.Test.YtgfohogbechkkaaP5
import Derived.Test.YtgfohogbechkkaaY41
set_option linter.unusedSimpArgs false
set_option linter.unusedVariables false
namespace Go.Proofs.Ytgfohogbechkkaa
open Go Go.Ab

theorem taken_same {l : List ReceiverInput} {t : Int} {p : NetworkPacket} (h0 : p.fUniverse ≠ 0) (hok : (takenS l t p).2 = false) : (takenS l t p).1 = l := by
  unfold takenS at hok ⊢
  rw [if_neg h0] at hok ⊢
  split at hok
  · rename_i hh
    rw [if_pos hh]
    split at hok
    · rename_i x hx
      split at hok
      · rename_i hn; rw [if_pos hn]
      · split at hok <;> cases hok
    · rfl
  · rename_i hh
    rw [if_neg hh]
    split at hok
    · rename_i he; rw [if_pos he]
    · rename_i he
      rw [if_neg he]
      split at hok
      · rename_i h64; rw [if_pos h64]
      · cases hok

/-- A packet behind one that was taken. -/
def withSeq (p : NetworkPacket) (q : Int) (e : Bool) : NetworkPacket := ⟨p.fSource, p.fUniverse, p.fPriority, q, p.fSync, e, p.fSlots⟩
theorem with_check {p : NetworkPacket} (hp : checkS p = 0) (h0 : p.fUniverse ≠ 0) {q : Int} (hq : 0 ≤ q ∧ q ≤ 255) (e : Bool) : checkS (withSeq p q e) = 0 := by
  obtain ⟨⟨c1, c2, c3⟩, c4, c5, c6, _⟩ := check_ok hp
  exact check_mk c1 c2 c3 c4 hq c6 fun h => absurd h h0

theorem again_old {l a A B : List ReceiverInput} {t : Int} {p : NetworkPacket} {x : ReceiverInput} (hg : Good t l) (hp : checkS p = 0) (h0 : p.fUniverse ≠ 0) (g : Gone p t l a x A B) {q : Int} (hq : 0 ≤ q ∧ q ≤ 255) (hn : newerS p.fSeq q = false) : takeS a t (withSeq p q false) = (a, false, 0) := by
  rw [take_ok (gone_good hg hp h0 g) (with_check hp h0 hq false)]
  obtain ⟨g1, g2, g3⟩ := gone_at g (p' := withSeq p q false) rfl rfl
  have : takenS a t (withSeq p q false) = (a, false) := by
    unfold takenS
    rw [if_neg (show ¬ (withSeq p q false).fUniverse = 0 from h0), if_pos g2, g1, g3]
    simp only
    rw [if_pos]
    rw [(fed_place t p x).2.2.2.2.1]
    exact hn
  rw [this]

theorem again_new {l a A B : List ReceiverInput} {t : Int} {p : NetworkPacket} {x : ReceiverInput} (hg : Good t l) (hp : checkS p = 0) (h0 : p.fUniverse ≠ 0) (g : Gone p t l a x A B) {q : Int} (hq : 0 ≤ q ∧ q ≤ 255) (hn : newerS p.fSeq q = true) (e : Bool) :
    (takeS a t (withSeq p q e)).2 = (true, 0) ∧ (e = true → (takeS a t (withSeq p q e)).1.length + 1 = a.length) := by
  rw [take_ok (gone_good hg hp h0 g) (with_check hp h0 hq e)]
  obtain ⟨g1, g2, g3⟩ := gone_at g (p' := withSeq p q e) rfl rfl
  have hlt := getElem?_lt g3
  have : takenS a t (withSeq p q e) = if e = true then (a.take A.length ++ a.drop (A.length + 1), true) else (a.take A.length ++ fedS t (withSeq p q e) (fedS t p x) :: a.drop (A.length + 1), true) := by
    unfold takenS
    rw [if_neg (show ¬ (withSeq p q e).fUniverse = 0 from h0), if_pos g2, g1, g3]
    simp only
    rw [if_neg]
    · rfl
    · rw [(fed_place t p x).2.2.2.2.1]
      show ¬ newerS p.fSeq q = false
      simp [hn]
  rw [this]
  cases e with
  | true =>
    refine ⟨rfl, fun _ => ?_⟩
    simp only [if_true, List.length_append, List.length_take, List.length_drop]
    omega
  | false => exact ⟨rfl, fun h => by cases h⟩

theorem back_eq {s b : Int} (hs : 0 ≤ s ∧ s ≤ 255) (hb : b = 0 ∨ b = 1 ∨ b = 7 ∨ b = 19) : (0 ≤ (IntKind.i64.wrap ((IntKind.i64.wrap (s - b)) + 256)).tmod 256 ∧ (IntKind.i64.wrap ((IntKind.i64.wrap (s - b)) + 256)).tmod 256 ≤ 255) ∧ newerS s ((IntKind.i64.wrap ((IntKind.i64.wrap (s - b)) + 256)).tmod 256) = false := by
  rw [w64 (a := s - b) (by omega) (by omega), w64 (by omega) (by omega), Int.tmod_eq_emod_of_nonneg (by omega)]
  refine ⟨by omega, ?_⟩
  unfold newerS
  have h1 : 0 ≤ ((s - b + 256) % 256 - s + 256) := by omega
  rw [Int.tmod_eq_emod_of_nonneg h1]
  cases hw : wi s 0 255
  · rfl
  cases hw2 : wi ((s - b + 256) % 256) 0 255
  · rfl
  simp only [Bool.true_and, Bool.and_eq_false_iff, decide_eq_false_iff_not]
  omega
theorem next_eq {s : Int} (hs : 0 ≤ s ∧ s ≤ 255) : (0 ≤ (IntKind.i64.wrap (s + 1)).tmod 256 ∧ (IntKind.i64.wrap (s + 1)).tmod 256 ≤ 255) ∧ newerS s ((IntKind.i64.wrap (s + 1)).tmod 256) = true := by
  rw [w64 (by omega) (by omega), Int.tmod_eq_emod_of_nonneg (by omega)]
  refine ⟨by omega, ?_⟩
  unfold newerS
  have h1 : 0 ≤ ((s + 1) % 256 - s + 256) := by omega
  rw [Int.tmod_eq_emod_of_nonneg h1, wi_iff.2 hs, wi_iff.2 (by omega)]
  simp only [Bool.true_and, Bool.and_eq_true, decide_eq_true_eq]
  omega

theorem f4_eq (r : ReceiverReceiver) (t : Int) (p : NetworkPacket) (h : r.fInputs.length * 80 ≤ 140737488351232) : f4 r t p = some true := by
  unfold f4
  rw [f22_eq, Option.bind_some]
  by_cases ho : okS r.fInputs t = true
  case neg => simp [ho, f15_eq]
  rw [if_neg (by simp [ho])]
  unfold okS at ho
  simp only [Bool.and_eq_true, decide_eq_true_eq] at ho
  have hg := moment_good ho.2
  rw [show Ref56Packet.mk p.fSource p.fUniverse p.fPriority p.fSeq p.fSync p.fEnd p.fSlots = refP p from rfl, f23_eq, Option.bind_some]
  by_cases hc : checkS p = 0
  case neg => simp [hc, f15_eq]
  rw [if_neg (by simp [hc])]
  by_cases h0 : p.fUniverse = 0
  · simp [h0, f15_eq]
  rw [if_neg (by simpa using h0)]
  cases he : p.fEnd with
  | true => simp [f15_eq]
  | false =>
    rw [if_neg (by simp), f16_eq, Option.bind_some, take_ok hg hc]
    simp only
    rw [if_neg (by simp)]
    have hal := (taken_good hg hc).len
    cases hok : (takenS r.fInputs t p).2 with
    | false =>
      rw [if_pos (by simp), f18_eq (by simp only; omega), Option.bind_some, f18_eq h, Option.bind_some, taken_same h0 hok, f21_eq _ (by simp only [List.length_map]; omega), Option.bind_some, if_pos rfl, f15_eq]
      rfl
    | true =>
      rw [if_neg (by simp)]
      obtain ⟨x, A, B, g⟩ := taken_gone hg h0 he hok
      generalize (takenS r.fInputs t p).1 = a at g hal
      have hs := (check_ok hc).2.2.1
      have hround : ∀ (k : Nat) (b : Int) (q0 : Int), ([0, 1, 7, 19] : List Int)[k]? = some b → (f4_L1 (⟨a⟩, true, 0) t p).body ((k : Int), q0) = some (.next (((k + 1 : Nat) : Int), (IntKind.i64.wrap ((IntKind.i64.wrap (p.fSeq - b)) + 256)).tmod 256)) := fun k b q0 hb => by
        have hk := getElem?_lt hb
        have hbm : b = 0 ∨ b = 1 ∨ b = 7 ∨ b = 19 := by
          have := List.mem_of_getElem? hb
          simpa using this
        obtain ⟨k1, k2⟩ := back_eq hs hbm
        simp only [f4_L1]
        rw [if_pos (by simp only [decide_eq_true_eq]; omega), at_nat hb, Option.bind_some, he]
        rw [show NetworkPacket.mk p.fSource p.fUniverse p.fPriority ((IntKind.i64.wrap ((IntKind.i64.wrap (p.fSeq - b)) + 256)).tmod 256) p.fSync false p.fSlots = withSeq p ((IntKind.i64.wrap ((IntKind.i64.wrap (p.fSeq - b)) + 256)).tmod 256) false from rfl,
          f16_eq, again_old hg hc h0 g k1 k2, Option.bind_some]
        simp only
        rw [if_neg (by simp), if_neg (by simp), f18_eq (by simp only; omega), Option.bind_some, Option.bind_some, f21_eq _ (by simp only [List.length_map]; omega), Option.bind_some, if_neg (by simp)]
        have hw : IntKind.i64.wrap ((k : Int) + 1) = ((k + 1 : Nat) : Int) := w64_succ (by simp only [List.length_cons, List.length_nil] at hk; omega)
        rw [hw]
      have hend : ∀ q0, (f4_L1 (⟨a⟩, true, 0) t p).body (((4 : Nat) : Int), q0) = some (.brk (Sum.inl q0)) := fun q0 => by
        simp only [f4_L1]
        rw [if_neg (by simp)]
      have hL : (f4_L1 (⟨a⟩, true, 0) t p).run (0, p.fSeq) = some (Sum.inl ((IntKind.i64.wrap ((IntKind.i64.wrap (p.fSeq - 19)) + 256)).tmod 256)) := by
        refine (iter_next (hround 0 0 _ rfl)).trans ?_
        refine (iter_next (hround 1 1 _ rfl)).trans ?_
        refine (iter_next (hround 2 7 _ rfl)).trans ?_
        refine (iter_next (hround 3 19 _ rfl)).trans ?_
        exact iter_brk (hend _)
      rw [hL, Option.bind_some]
      dsimp only
      obtain ⟨n1, n2⟩ := next_eq hs
      obtain ⟨m1, _⟩ := again_new hg hc h0 g n1 n2 false
      obtain ⟨m3, m4⟩ := again_new hg hc h0 g n1 n2 true
      rw [show NetworkPacket.mk p.fSource p.fUniverse p.fPriority ((IntKind.i64.wrap (p.fSeq + 1)).tmod 256) p.fSync false p.fSlots = withSeq p ((IntKind.i64.wrap (p.fSeq + 1)).tmod 256) false from rfl,
        show NetworkPacket.mk p.fSource p.fUniverse p.fPriority ((IntKind.i64.wrap (p.fSeq + 1)).tmod 256) p.fSync true p.fSlots = withSeq p ((IntKind.i64.wrap (p.fSeq + 1)).tmod 256) true from rfl]
      simp only [f16_eq, Option.bind_some]
      rw [m1, m3]
      have m5 := m4 rfl
      have hap : 0 < a.length := by omega
      rw [if_pos (by decide), if_pos rfl, if_pos rfl, if_pos, f15_eq]
      · rfl
      · simp only [decide_eq_true_eq]
        rw [w64 (a := ((a.length : Nat) : Int) - 1) (by omega) (by omega)]
        omega
end Go.Proofs.Ytgfohogbechkkaa
