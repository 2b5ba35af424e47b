/-
  Plain laws of the receiver of layer 57: ReceiverTakes.
-/
import Derived.Test.YtgfohogbechkkaaP4
import Derived.Test.YtgfohogbechkkaaP3
import Derived.Test.YtgfohogbechkkaaY31
set_option linter.unusedSimpArgs false
set_option linter.unusedVariables false
namespace Go.Proofs.Ytgfohogbechkkaa
open Go Go.Ab

/-! ## The reference takes a packet -/

theorem map_b8' (s : List UInt8) : (b2i s).map b8 = s := map_b8 s

theorem f143_eq {s : List UInt8} (h : s.length ≤ 512) : f143 s = some (fullS s) := by
  unfold f143 room?
  rw [if_pos (by unfold room; omega), Option.bind_some]
  have hrun := run_count (L := f143_L1) (e := b2i s ++ List.replicate (512 - s.length) 0) (fun k => b2i s ++ List.replicate k 0) (512 - s.length) (by
    unfold f143_L1
    simp only
    rw [if_neg (by simp only [b2i, List.length_append, List.length_map, List.length_replicate, decide_eq_true_eq]; omega)]) 0 (Nat.zero_le _) (fun k _ hk => by
    have hl : (b2i s).length = s.length := List.length_map ..
    unfold f143_L1
    simp only
    rw [if_pos (by simp only [List.length_append, hl, List.length_replicate, decide_eq_true_eq]; omega), app_some (by simp only [List.length_append, hl, List.length_replicate, List.length_cons, List.length_nil]; omega) (by simp only [List.length_append, hl, List.length_replicate, List.length_cons, List.length_nil]; omega), Option.bind_some,
      List.append_assoc, ← List.replicate_succ'])
  rw [show b2i s = b2i s ++ List.replicate 0 0 by simp, hrun, Option.bind_some, List.map_append, map_b8', List.map_replicate]
  rfl

theorem f103_eq {p : NetworkPacket} (h : p.fSlots.length ≤ 512) (x : ReceiverInput) (t : Int) : f103 (refI x) t (refP p) = some (refI (fedS t p x)) := by
  have hf : f143 (refP p).fSlots = some (fullS p.fSlots) := f143_eq h
  unfold f103
  simp only [f103_J1]
  rw [hf]
  unfold fedS
  by_cases h0 : p.fSync = 0
  · rw [if_pos (by show decide (p.fSync = 0) = true; simpa using h0), if_pos h0]; rfl
  · rw [if_neg (by show ¬ decide (p.fSync = 0) = true; simpa using h0), if_neg h0]; rfl

theorem f104_eq (a b : Int) : f104 a b = some (newerS a b) := by
  have := f97_eq a b
  unfold f104
  unfold f97 at this
  simp only [f94_eq, f71_eq, Option.bind_some] at this ⊢
  exact this

theorem f101_eq {l : List ReceiverInput} (hl : l.length ≤ 1000) (p : NetworkPacket) : f101 ⟨l.map refI⟩ (refP p) = some (⟨(l.map (pulse1 p)).map refI⟩, l.any (waits p)) := by
  unfold f101
  have hrun := run_count (L := f101_L1 ⟨l.map refI⟩ (refP p)) (e := (l.any (waits p), (l.map (pulse1 p)).map refI)) (fun k => ((l.take k).any (waits p), (k : Int), ((l.take k).map (pulse1 p)).map refI)) l.length (by simp [f101_L1]) 0 (Nat.zero_le _) (fun k _ hk => by
    have hx := List.getElem?_eq_getElem hk
    have hw : IntKind.i64.wrap ((k : Int) + 1) = ((k + 1 : Nat) : Int) := w64_succ (by omega)
    generalize l[k] = x at hx
    have htk : l.take (k + 1) = l.take k ++ [x] := by rw [List.take_add_one, hx]; rfl
    have hat : at? (l.map refI) (k : Int) = some (refI x) := at_nat (by rw [List.getElem?_map, hx]; rfl)
    have hml : (((l.take k).map (pulse1 p)).map refI).length = k := by rw [List.length_map, List.length_map, List.length_take]; omega
    have happ : ∀ y : Ref57Input, app? 80 (((l.take k).map (pulse1 p)).map refI) [y] = some (((l.take k).map (pulse1 p)).map refI ++ [y]) := fun y => app_some (by simp only [hml, List.length_cons, List.length_nil]; omega) (by simp only [hml, List.length_cons, List.length_nil]; omega)
    simp only [f101_L1]
    rw [if_pos (by simp only [List.length_map, decide_eq_true_eq]; omega), hat, Option.bind_some]
    simp only [happ, Option.bind_some, hw, htk, List.any_append, List.map_append, List.map_cons, List.map_nil, List.any_cons, List.any_nil, Bool.or_false]
    simp only [show (refI x).fSource = x.fSource from rfl, show (refI x).fSync = x.fSync from rfl, show (refI x).fWait = x.fWait from rfl, show (refP p).fSource = p.fSource from rfl, show (refP p).fSync = p.fSync from rfl]
    by_cases h1 : x.fSource = p.fSource
    · by_cases h2 : x.fSync = p.fSync
      · by_cases h3 : x.fWait = []
        · have hq : waits p x = false := by simp [waits, h3]
          simp [h1, h2, h3, hq, pulse1]
        · have hq : waits p x = true := by simp [waits, h1, h2, h3]
          simp [h1, h2, h3, hq, pulse1, lit, refI]
      · have hq : waits p x = false := by simp [waits, h2]
        simp [h1, h2, hq, pulse1]
    · have hq : waits p x = false := by simp [waits, h1]
      simp [h1, hq, pulse1])
  rw [show ((false, (0 : Int), ([] : List Ref57Input))) = ((l.take 0).any (waits p), ((0 : Nat) : Int), ((l.take 0).map (pulse1 p)).map refI) by simp, hrun]
  rfl

theorem f102_eq {l : List ReceiverInput} (hl : l.length ≤ 1000) (p : NetworkPacket) : f102 (l.map refI) p.fUniverse p.fSource = some ((posB (kc p) l : Int), hasB (kc p) l) := by
  have hpl := posB_le (kc p) l
  unfold f102
  have hrun := run_count (L := f102_L1 (l.map refI) p.fUniverse p.fSource) (e := (posB (kc p) l : Int)) (fun k => (k : Int)) (posB (kc p) l) (by
    simp only [f102_L1]
    by_cases hlt : posB (kc p) l < l.length
    · have hx := List.getElem?_eq_getElem hlt
      have h0 := posB_at hx
      rw [if_pos (by simp only [List.length_map, decide_eq_true_eq]; omega), at_nat (x := refI l[posB (kc p) l]) (by rw [List.getElem?_map, hx]; rfl), Option.bind_some, f67_eq, Option.bind_some]
      have hn : ltU (refI l[posB (kc p) l]).fUniverse (refI l[posB (kc p) l]).fSource p.fUniverse p.fSource = false := by
        have : ¬ kc p l[posB (kc p) l] < 0 := by omega
        rw [kc_neg] at this
        simpa [refI] using this
      simp only [hn, Bool.false_eq_true, if_false]
    · rw [if_neg (by simp only [List.length_map, decide_eq_true_eq]; omega)]) 0 (Nat.zero_le _) (fun k _ hk => by
    have hlt : k < l.length := by omega
    have hx := List.getElem?_eq_getElem hlt
    have h0 := posB_lt hk hx
    simp only [f102_L1]
    rw [if_pos (by simp only [List.length_map, decide_eq_true_eq]; omega), at_nat (x := refI l[k]) (by rw [List.getElem?_map, hx]; rfl), Option.bind_some, f67_eq, Option.bind_some]
    have hn : ltU (refI l[k]).fUniverse (refI l[k]).fSource p.fUniverse p.fSource = true := by
      rw [kc_neg] at h0
      exact h0
    simp only [hn, if_true]
    rw [w64_succ (by omega)])
  rw [show (0 : Int) = ((0 : Nat) : Int) from rfl, hrun, Option.bind_some]
  unfold hasB
  by_cases hlt : posB (kc p) l < l.length
  · have hx := List.getElem?_eq_getElem hlt
    generalize l[posB (kc p) l] = x at hx
    have hat : at? (l.map refI) ((posB (kc p) l : Nat) : Int) = some (refI x) := at_nat (by rw [List.getElem?_map, hx]; rfl)
    rw [if_pos (by simp only [List.length_map, decide_eq_true_eq]; omega), hat, Option.bind_some, Option.bind_some, hx]
    simp only [show (refI x).fUniverse = x.fUniverse from rfl, show (refI x).fSource = x.fSource from rfl, kc_zero]
    by_cases h1 : x.fUniverse = p.fUniverse <;> simp [h1]
  · rw [if_neg (by simp only [List.length_map, decide_eq_true_eq]; omega), List.getElem?_eq_none (by omega)]

theorem f62_eq {l : List ReceiverInput} (hl : l.length ≤ 64) (t : Int) {p : NetworkPacket} (hp : p.fSlots.length ≤ 512) : f62 ⟨l.map refI⟩ t (refP p) = some (⟨(takenS l t p).1.map refI⟩, (takenS l t p).2) := by
  have hpl := posB_le (kc p) l
  unfold f62 takenS
  simp only [show (refP p).fUniverse = p.fUniverse from rfl, show (refP p).fSource = p.fSource from rfl, show (refP p).fEnd = p.fEnd from rfl, show (refP p).fSeq = p.fSeq from rfl]
  by_cases h0 : p.fUniverse = 0
  · rw [if_pos (by simpa using h0), if_pos h0, f101_eq (by omega), Option.bind_some]
  rw [if_neg (by simpa using h0), if_neg h0, f102_eq (by omega), Option.bind_some]
  simp only
  have htk : slc? (l.map refI) 0 ((posB (kc p) l : Nat) : Int) = some ((l.take (posB (kc p) l)).map refI) := by
    rw [slc_some ⟨by omega, by omega, by rw [List.length_map]; omega⟩]
    simp [List.map_take]
  have hdr : ∀ k : Nat, k ≤ l.length → slc? (l.map refI) (k : Int) (((l.map refI).length : Nat) : Int) = some ((l.drop k).map refI) := fun k hk => by
    rw [slc_some ⟨by omega, by rw [List.length_map]; omega, by omega⟩]
    simp only [Int.toNat_natCast, List.length_map]
    rw [List.take_of_length_le (by rw [List.length_map]; omega), List.map_drop]
  have happ : ∀ a b : List Ref57Input, a.length ≤ 100 → b.length ≤ 100 → app? 80 a b = some (a ++ b) := fun a b ha hb => app_some (by omega) (by omega)
  have htl : (l.take (posB (kc p) l)).length ≤ 64 := by rw [List.length_take]; omega
  rw [htk, Option.bind_some, happ [] _ (by simp) (by rw [List.length_map]; omega), Option.bind_some, List.nil_append]
  cases hh : hasB (kc p) l with
  | false =>
    simp only [Bool.not_false, if_true, Bool.false_eq_true, if_false]
    cases he : p.fEnd with
    | true => simp
    | false =>
      simp only [Bool.false_eq_true, if_false]
      by_cases h64 : l.length = 64
      · have : (((l.map refI).length : Nat) : Int) = 64 := by rw [List.length_map]; omega
        rw [if_pos (by simpa using this), if_pos h64]
      · have : ¬ (((l.map refI).length : Nat) : Int) = 64 := by rw [List.length_map]; omega
        rw [if_neg (by simpa using this), if_neg h64]
        rw [show Ref57Input.mk p.fUniverse p.fSource 0 0 0 0 [] [] = refI (newI p) from rfl, f103_eq hp, Option.bind_some, happ _ _ (by rw [List.length_map]; omega) (by simp), Option.bind_some, hdr _ hpl, Option.bind_some,
          happ _ _ (by rw [List.length_append, List.length_map]; simp only [List.length_cons, List.length_nil]; omega) (by rw [List.length_map, List.length_drop]; omega), Option.bind_some]
        simp [List.map_append]
  | true =>
    obtain ⟨x, hx, hx0⟩ := hasB_at hh
    have hlt := hasB_lt hh
    have hat : at? (l.map refI) ((posB (kc p) l : Nat) : Int) = some (refI x) := at_nat (by rw [List.getElem?_map, hx]; rfl)
    simp only [Bool.not_true, Bool.false_eq_true, if_false, if_true]
    rw [hat, Option.bind_some, f104_eq, Option.bind_some, hx, show (refI x).fSeq = x.fSeq from rfl]
    simp only
    cases hn : newerS x.fSeq p.fSeq with
    | false => simp
    | true =>
      simp only [Bool.not_true, Bool.false_eq_true, if_false, Bool.true_eq_false, w64_succ (show posB (kc p) l + 1 ≤ 9223372036854775807 by omega)]
      have hd := hdr (posB (kc p) l + 1) (by omega)
      cases he : p.fEnd with
      | true =>
        simp only [Bool.not_true, Bool.false_eq_true, if_false, if_true]
        rw [hd, Option.bind_some, happ _ _ (by rw [List.length_map]; omega) (by rw [List.length_map, List.length_drop]; omega), Option.bind_some]
        simp [List.map_append]
      | false =>
        simp only [Bool.not_false, if_true, Bool.false_eq_true, if_false]
        rw [Option.bind_some, f103_eq hp, Option.bind_some, happ _ _ (by rw [List.length_map]; omega) (by simp), Option.bind_some, hd, Option.bind_some,
          happ _ _ (by rw [List.length_append, List.length_map]; simp only [List.length_cons, List.length_nil]; omega) (by rw [List.length_map, List.length_drop]; omega), Option.bind_some]
        simp [List.map_append]

theorem f17_eq (l : List ReceiverInput) (t : Int) (p : NetworkPacket) : f17 ⟨l.map refI⟩ t (refP p) = some (⟨(takeS l t p).1.map refI⟩, (takeS l t p).2.1, (takeS l t p).2.2) := by
  unfold f17 takeS
  rw [f61_eq, Option.bind_some]
  by_cases h1 : momentS l t = 0
  · have hg := moment_good h1
    simp only [h1, ne_eq, not_true_eq_false, decide_false, Bool.false_eq_true, if_false]
    rw [f23_eq, Option.bind_some]
    by_cases h2 : checkS p = 0
    · simp only [h2, ne_eq, not_true_eq_false, decide_false, Bool.false_eq_true, if_false]
      rw [f62_eq hg.len t (check_ok h2).2.2.2.1, Option.bind_some]
    · simp [h2]
  · simp [h1]

theorem taken_len (l : List ReceiverInput) (t : Int) (p : NetworkPacket) : (takenS l t p).1.length ≤ l.length + 1 := by
  unfold takenS
  split
  · simp
  split
  · split
    · split
      · simp
      · split
        · simp only [List.length_append, List.length_take, List.length_drop]; omega
        · simp only [List.length_append, List.length_take, List.length_drop, List.length_cons]; omega
    · simp
  split
  · simp
  split
  · simp
  · simp only [List.length_append, List.length_take, List.length_drop, List.length_cons]; omega
theorem take_len (l : List ReceiverInput) (t : Int) (p : NetworkPacket) : (takeS l t p).1.length ≤ 65 := by
  unfold takeS
  split
  · simp
  · rename_i h
    split
    · simp
    · have := (moment_good (by simpa using h)).len
      have := taken_len l t p
      simp only
      omega

theorem f3_eq (r : ReceiverReceiver) (t : Int) (p : NetworkPacket) (h : r.fInputs.length * 80 ≤ 140737488351232) : f3 r t p = some true := by
  unfold f3
  rw [f14_eq h, Option.bind_some]
  cases hf : fewS r.fInputs
  · simp [f15_eq]
  rw [if_neg (by simp)]
  by_cases hs : 521 < p.fSlots.length
  · have : (521 : Int) < (p.fSlots.length : Int) := by omega
    rw [if_pos (by simpa using this)]
    simp [f15_eq]
  have : ¬ (521 : Int) < (p.fSlots.length : Int) := by omega
  rw [if_neg (by simpa using this), f16_eq, Option.bind_some, f18_eq h, Option.bind_some, show Ref56Packet.mk p.fSource p.fUniverse p.fPriority p.fSeq p.fSync p.fEnd p.fSlots = refP p from rfl, f17_eq, Option.bind_some]
  have hl := take_len r.fInputs t p
  simp only [f3_J1]
  rw [f15_eq, Option.bind_some, if_pos rfl, f19_eq, Option.bind_some, f18_eq h, Option.bind_some, f20_eq, Option.bind_some, if_pos (by simp), f18_eq (by simp only; omega), Option.bind_some, f21_eq _ (by simp only [List.length_map]; omega), Option.bind_some, if_pos rfl, if_pos (by simp)]
  simp
end Go.Proofs.Ytgfohogbechkkaa
